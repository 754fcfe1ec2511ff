/- Plain laws on the models, one behind the other. -/
import Derived.Test.YtmfbghpealgaiaaGreatDoorG
import Derived.Test.YtmfbghpealgaiaaGreatDoorLw1
/- Layer 6: a node is inserted, removed, or put in another one's place. -/
namespace Go.Proofs.YtmfbghpealgaiaaGreatDoor
open Go Go.Pw
open List renaming length_cons->cP,getElem_mem->gC,length_nil->eK,getElem?_eq_getElem->lC,length_append->eR,mem_append->cA,mem_singleton->e8,all_eq_true->lR,nil_append->iU,mem_or_eq_of_mem_set->dT,take_succ_eq_append_getElem->iE,append_assoc->eS,mem_cons_self->lH,mem_cons_of_mem->lG,all_cons->cK,all_nil->iQ,drop_length->kK,drop_eq_getElem_cons->eT,length_drop->iK,append_nil->gI,length_map->lL,mem_of_getElem?->lU,range->cW,getElem_of_mem->iW,map_append->gG,map_cons->lT,take_length->iI,mem_map->lE,length_filterMap_le->kL,mem_filterMap->kM,getElem?_eq_some_iff->lF,replicate->dH,take_of_length_le->kH,mem_filter->iJ,take_append_of_le_length->iV,sum_cons->kO,filterMap_cons->kQ,getElem?_set->kR,mem_range->jO,mem_replicate->kS,filter_append->jK,countP_cons->dG,getElem?_map->lK,take_set_of_le->kU,sum_append->kV,getElem?_append_right->cC,length_pos_of_mem->kW,all_append->kY,take_take->jI,filter_cons->kZ,length_replicate->kF,getElem?_drop->cD,filter_eq_self->jM,drop_drop->k9
open Nat renaming le_refl->cB,le_trans->eM
open Int renaming toNat_natCast->eO
open Option renaming some->lJ,isNone_none->kJ,getD_some->cM,map_some->lW,isSome_none->kT,isSome_iff_exists->kX,map_eq_some_iff->lI
open Bool renaming not_true->iA,and_eq_true->lM,true_and->iD,not_false->jL,or_eq_true->dD,false_and->jD,eq_false_iff->iL,not_not->kI,false_or->e9,and_true->kN,false_eq_true->dL,or_eq_false_iff->iY,eq_iff_iff->eW
variable {n next many:Int} {l:Line} {x:Node} {notes:List Note} {o:Op} {ns a b:List Node} {rows m:List (Node×Bool)} {g:Forest} {t:Todo} {κ ν:Type} {due:List Due} {names:List (Bs×Int)} {ids:List (Int×List (Bs×Int))} {L:List Int} {v:World} {r:Forest×List Note×Int} {defs:List Def}
section
instance (ns:List Node) (n:Int):Decidable (InN ns n):=inferInstanceAs (Decidable (0<=n/\n<ns.length))
theorem zFp {fu:Nat} (w:Bs) (e:Int):zBU fu w e=some (if e=0 then none else some (w,e)):=by
 unfold zBU;rw [zAi];split<;>rfl
def Hand (f:Forest) (N:Nat) (r:Forest×List Note×Int):Prop:=(∃e,e≠0/\r=(f,[],e))\/∃m g l,m<=N/\Mv m f g l/\r=(g,l,0)
def InsR (fu:Nat) (f:Forest) (n p:Int) (N:Nat) (r:Forest×List Note×Int):Prop:=(∃e,e≠0/\r=(f,[],e))\/∃m x b g l,m<=N/\Mv m f g l/\idx f.Nodes n=some x/\PI f p b (zAU n x)/\zD4 fu n p b f.Most (zJk f.Nodes) []=some (zJk g.Nodes,[]++l)/\r=(g,l,0)
section
variable {fu:Nat} {f:Forest} (hr:zAH f=true) (hfu:1000<fu)
include hr hfu
theorem zXI (t:Int->List (Node×Bool)->List Note->Option (Option (Bs×Int)×List (Node×Bool)×List Note)) (p:Bs×Int):zDS fu t f (some p)=some (f,[],p.2):=by
 unfold zDS
 rw [zTU (zAG hr) hfu,zAA]
 rfl
theorem zdz {t:Int->List (Node×Bool)->List Note->Option (Option (Bs×Int)×List (Node×Bool)×List Note)} {p:Bs×Int} {l:List Note} (h:t f.Most (zJk f.Nodes) []=some (some p,m,l)):zDS fu t f none=some (f,[],p.2):=by
 unfold zDS
 rw [zTU (zAG hr) hfu,zAA]
 simp only [kJ,zAP]
 rw [h,zAA]
 rfl
theorem zUH {t:Int->List (Node×Bool)->List Note->Option (Option (Bs×Int)×List (Node×Bool)×List Note)} {g:List Node} {l:List Note} (h:t f.Most (zJk f.Nodes) []=some (none,zJk g,l)):zDS fu t f none=some (⟨g,f.Most⟩,l,0):=by
 unfold zDS
 rw [zTU (zAG hr) hfu,zAA]
 simp only [kJ,zAP]
 rw [h,zAA]
 simp only [kT,zAD,zL7]
omit hfu in
theorem May.pi {p b:Int} {y:Node} (M:May f n p x y) (G:b = -1\/(b∈y.Kids/\b∉zAU n x)):PI f p b (zAU n x):=by
 refine ⟨hr,fun k i=>?_,M.nodup hr,fun E=>?_,⟨y,M.hy,M.holder,G.imp id And.left,fun F=>?_⟩⟩
 ·obtain ⟨z,hz,q,_⟩:=M.part hr i
  exact ⟨z,hz,q,M.free hr i⟩
 ·rcases G with e | h
  ·subst e
   have:=M.in_ hr E
   unfold InN at this
   omega
  ·exact h.2 E
 ·have D:=M.crowd F
  unfold zGY at D
  rw [M.hy] at D
  simp only [iY,Bool.and_eq_false_iff,decide_eq_false_iff_not] at D
  obtain ⟨J,I⟩:=D
  have i:∀k∈zAU n x,(k != -1&&isB f.Nodes k 1)=true:=fun k i=>by
   obtain ⟨z,hz,q,_⟩:=M.part hr i
   have C:k ≠ -1:=by have:=M.in_ hr i;unfold InN at this;omega
   rw [bne_iff_ne.2 C,iD]
   unfold isB
   rw [hz]
   rcases q with h | h
   ·simp [h]
   ·exfalso
    apply J
    unfold zEK
    refine List.countP_pos_iff.2 ⟨k,i,?_⟩
    rw [bne_iff_ne.2 C,iD]
    unfold isB
    rw [hz];simp [h]
  have E:zEK f.Nodes (-1) (zAU n x) 1=(zAU n x).length:=List.countP_eq_length.2 i
  rw [E] at I
  have j:(zAU n x).length<=1:=by omega
  refine ⟨j,fun k u=>?_⟩
  have e:zAU n x=[k]:=by
   match K:zAU n x,u,j with
   | [a],u,_=>rw [e8.1 u]
   | a::b::t,_,hl=>simp at hl
  have:=M.crowd F
  rwa [e] at this
theorem zbh (n p c:Int):∃r,zDa fu f n p c=some r/\InsR fu f n p (if isB f.Nodes n 3=true then 800 else 1) r:=by
 have hs:=zAG hr
 have I:=hs.fit hfu
 have W:∀e,e≠0->zEy fu f n p c=some e->∃r,zDa fu f n p c=some r/\InsR fu f n p (if isB f.Nodes n 3=true then 800 else 1) r:=fun e j h=>by
  unfold zDa
  rw [h,zAA,zFp,zAA,iN j,zXI hr hfu,zAA]
  exact ⟨_,rfl,.inl ⟨e,j,rfl⟩⟩
 by_cases u:inB f n=true/\inB f p=true
 ·have hn:InN f.Nodes n:=by have:=u.1;unfold inB at this;exact of_decide_eq_true this
  have T:InN f.Nodes p:=by have:=u.2;unfold inB at this;exact of_decide_eq_true this
  obtain ⟨x,hx⟩:=zAK hn
  obtain ⟨y,hy⟩:=zAK T
  by_cases K:c = -1\/inB f c=true
  ·have F:c = -1\/∃z,idx f.Nodes c=some z:=K.imp id fun h=>by
    unfold inB at h
    exact zAK (of_decide_eq_true h)
   have i:=zb1 hfu I hr hx hy F
   generalize q:(c == -1||(match idx f.Nodes c with | some z=>z.Parent==p | none=>false))=cb at i
   by_cases j:zP7 f n p c (-1) x y cb=0
   ·have G:cb=true:=by
     cases cb with
     | true=>rfl
     | false =>
      unfold zP7 at j
      split at j
      ·cases j
      ·split at j
       ·cases j
       ·rw [iP rfl] at j;cases j
    subst G
    obtain ⟨f1,f2,f3,f4,f5⟩:=zP8 j
    have M:May f n p x y:=⟨hx,hy,f1,by rw [<- zM0 hs hfu hr hn T];exact f2,f3,f4,f5⟩
    rw [j] at i
    have Q:c = -1\/c∈y.Kids:=by
     rcases F with h | ⟨z,hz⟩
     ·exact .inl h
     ·right
      have S:c ≠ -1:=by have:=zAJ hz;omega
      rw [hz] at q
      rw [show (c == -1)=false by simpa using S,e9,beq_iff_eq] at q
      have V:z.Parent ≠ -1:=by rw [q];unfold InN at T;omega
      obtain ⟨y',H⟩:=zHB hr hz V
      have X:=H.hy
      rw [q,hy] at X
      rw [lJ.inj X]
      exact H.mem
    obtain ⟨b,J,E⟩:=zan hr M hs hfu Q i
    obtain ⟨h,l',m1,m2⟩:=zcX (l:=[]) hfu hx (M.pi hr E) (by simp)
    have D:=m1.all hr
    have hlen:=M.len hs
    unfold zDa
    rw [i,zAA,zFp,zAA,iP rfl]
    rw [zUH hr hfu (g:=h.Nodes) (l:=[]++l') (by
     unfold zHZ
     rw [J,zAA,m2,zAA]),zAA]
    refine ⟨_,rfl,.inr ⟨_,x,b,h,l',?_,m1,hx,M.pi hr E,m2,?_⟩⟩
    ·have e3:isB f.Nodes n 3=(x.Kind==3):=by unfold isB;rw [hx]
     rw [e3]
     by_cases C:x.Kind=3
     ·rw [iP C,iP (by simpa using C)];omega
     ·have e4:(zAU n x).length=1:=by unfold zAU;rw [iN C];rfl
      rw [iN C,iN (by simpa using C)];omega
    ·rw [iU,<- D.2.1]
   ·exact W _ j i
  ·refine W 1 (by omega) ?_
   have N:c ≠ -1:=fun e=>K (.inl e)
   have P:inB f c=false:=by cases e:inB f c with
    | false=>rfl
    | true=>exact absurd (.inr e) K
   unfold zEy
   rw [zFl hfu I hr (by simp),zAA,zFl hfu I hr (by simp),zAA,zAX]
   simp only [cK,iQ,u.1,u.2,P,Bool.and_self,iA,zAD,jD,jL,zAP,iN N]
 ·refine W 1 (by omega) ?_
  unfold zEy
  rw [zFl hfu I hr (by simp),zAA]
  have:([n,p].all (inB f))=false:=by
   simp only [cK,iQ,kN]
   cases e:inB f n&&inB f p with
   | false=>rfl
   | true=>exact absurd (by simpa using e) u
  rw [this];rfl
theorem zR7 (n p c:Int):∃r,zDa fu f n p c=some r/\Hand f (if isB f.Nodes n 3=true then 800 else 1) r:=by
 obtain ⟨r,e,h⟩:=zbh hr hfu n p c
 exact ⟨r,e,h.imp id fun ⟨m,_,_,g,l,i,j,_,_,_,q⟩=>⟨m,g,l,i,j,q⟩⟩
theorem zfs (n:Int):zIk fu f n=some (if InN f.Nodes n then none else some ([97,115,107,101,100],1)):=by
 unfold zIk
 rw [zFA hfu ((zAG hr).fit hfu),zAA,hr]
 simp only [zFp,zAA,iA,zAD,zAR]
 by_cases e:n<0
 ·rw [iP e,iN (show ¬InN f.Nodes n by unfold InN;omega)];rfl
 ·rw [iN e]
  by_cases h:n>=(f.Nodes.length:Int)
  ·rw [iP h,iN (show ¬InN f.Nodes n by unfold InN;omega)];rfl
  ·rw [iN h,iP (show InN f.Nodes n by unfold InN;omega)]
theorem zOX (n:Int):zEZ fu f n=some (if InN f.Nodes n then (if zJe f.Nodes n = -1 then (f,[],6) else (⟨zMU f.Nodes n,f.Most⟩,zHS f n,0)) else (f,[],1)):=by
 unfold zEZ
 rw [zfs hr hfu,zAA]
 by_cases h:InN f.Nodes n
 ·rw [iP h,iP h]
  obtain ⟨x,hx⟩:=zAK h
  rw [zJQ hx]
  by_cases e:x.Parent = -1
  ·rw [iP e,zdz hr hfu (p:=([111,117,116],6)) (m:=zJk f.Nodes) (l:=[]) (by
    unfold zF3
    rw [zGh hx,zAA,zAi,iP e,zFp,zAA];rfl),zAA]
  ·rw [iN e,zUH hr hfu (g:=zMU f.Nodes n) (l:=zHS f n) (by
    unfold zF3
    rw [zGh hx,zAA,zAi,iN e,zUg hr hfu h (by simp),zAA];rfl),zAA]
 ·rw [iN h,iN h,zXI hr hfu,zAA]
theorem zWJ (n:Int):∃r,zEZ fu f n=some r/\Hand f 1 r:=by
 refine ⟨_,zOX hr hfu n,?_⟩
 by_cases h:InN f.Nodes n
 ·rw [iP h]
  by_cases e:zJe f.Nodes n = -1
  ·rw [iP e];exact .inl ⟨6,by omega,rfl⟩
  ·rw [iN e]
   have:=Mv.out (.refl f) h
   exact .inr ⟨1,_,_,cB _,by simpa using this,rfl⟩
 ·rw [iN h];exact .inl ⟨1,by omega,rfl⟩
end
end
section
def zEI (n:Int):List Int->Int
 | [] => -1
 | k::l=>if k≠n then k else zEI n l
theorem zQT {n:Int}:∀{l:List Int},zEI n l = -1\/(zEI n l∈l/\zEI n l≠n)
 | []=>.inl rfl
 | k::l=>by
  unfold zEI
  by_cases h:k≠n
  ·rw [iP h];exact .inr ⟨lH ..,h⟩
  ·rw [iN h]
   exact (zQT (l:=l)).imp id fun h=>⟨lG _ h.1,h.2⟩
theorem zdn {l:List Int} {fu:Nat} (hf:l.length<fu) (E:l.length<=1000000):zEu n l fu 0=some (zEI n l):=by
 have u:∀(j i k:Nat),i+j=l.length->j<k->zEu n l k (i:Int)=some (zEI n (l.drop i)):=by
  intro j
  induction j with
  | zero =>
   intro i k hi C
   obtain ⟨k,rfl⟩:∃q,k=q+1:=⟨k - 1,by omega⟩
   obtain rfl:i=l.length:=by omega
   simp only [zEu]
   rw [zAN (by simp),kK];rfl
  | succ j D =>
   intro i k hi C
   obtain ⟨k,rfl⟩:∃q,k=q+1:=⟨k - 1,by omega⟩
   have h:i<l.length:=by omega
   simp only [zEu]
   rw [zAO (by simpa using h),zAS h,zAA,zAX,zBJ (by omega),zAA,D (i+1) k (by omega) (by omega),eT h,show zEI n (l[i]::l.drop (i+1))=if l[i]≠n then l[i] else zEI n (l.drop (i+1)) from rfl]
   by_cases e:l[i]=n
   ·rw [iP e,iN (by simpa using e)]
   ·rw [iN e,iP e]
 have:=u l.length 0 fu (by omega) hf
 simpa using this
section
variable {f:Forest} {c p:Int} {z y:Node} (H:Hung f c p z y) (hr:zAH f=true)
include H hr
theorem zap {fu:Nat} (hfu:1000<fu) (n:Int):zJW fu f c n=some (zEI n (y.Kids.drop (y.Kids.idxOf c+1))):=by
 have hs:=zAG hr
 have hl:=hs.kids y (zFB H.hy)
 obtain ⟨f1,e⟩:=zQ9 H.mem
 unfold zJW
 rw [H.hz,zAA,H.par,H.hy,zAA,zWR (by omega) (by omega),zAA,f1,zBJ (by omega),zAA]
 rw [show piece y.Kids ((y.Kids.idxOf c+1:Nat):Int) (y.Kids.length:Int)=some (y.Kids.drop (y.Kids.idxOf c+1)) from ?_,zAA,zdn (by simp;omega) (by simp;omega)]
 unfold piece
 rw [iP ⟨by omega,by omega,by omega⟩]
 congr 1
 rw [eO,eO,kH (by simp)]
theorem zao (n:Int):zEI n (y.Kids.drop (y.Kids.idxOf c+1)) = -1\/(zEI n (y.Kids.drop (y.Kids.idxOf c+1))∈(zOP y c).Kids/\zEI n (y.Kids.drop (y.Kids.idxOf c+1))∈y.Kids/\zEI n (y.Kids.drop (y.Kids.idxOf c+1))≠n):=by
 rcases zQT (n:=n) (l:=y.Kids.drop (y.Kids.idxOf c+1)) with h | ⟨j,E⟩
 ·exact .inl h
 ·right
  have q:y.Kids.Nodup:=by
   have:=(zBI hr).nod p
   rwa [zGC H.hy] at this
  have C:=List.mem_of_mem_drop j
  refine ⟨?_,C,E⟩
  unfold zOP
  simp only [iJ,bne_iff_ne]
  refine ⟨C,fun e=>?_⟩
  rw [e] at j
  obtain ⟨i,hi,u⟩:=iW j
  rw [List.getElem_drop] at u
  have:=List.idxOf_lt_length_of_mem H.mem
  simp only [iK] at hi
  have D:y.Kids[y.Kids.idxOf c]=c:=List.getElem_idxOf this
  exact List.pairwise_iff_getElem.1 q (y.Kids.idxOf c) (y.Kids.idxOf c+1+i) this (by omega) (by omega) (D.trans u.symm)
theorem zez:May (zMI f c p z y) c p (zMv z) (zOP y c):=by
 have S:=zYp H hr
 refine ⟨zPH H,zHQ H,(show zGe y.Kind=true from zXZ H hr),?_,by simp only [zMv];omega,by simp only [zMv];omega,fun K=>?_⟩
 ·rw [zYr H hr];exact zUS H hr
 ·have G:=(zAf hr).2.2.1
  have D:y.Kind=0:=K
  have i:=zBj G H.hy
  unfold zF0 zEm at i
  simp only [lM,lR,dD,bne_iff_ne,decide_eq_true_eq] at i
  have e:=i.2.2.2.1.2.1 c H.mem
  unfold zO9 at e
  rw [H.hz] at e
  simp only [lM,dD,beq_iff_eq,bne_iff_ne] at e
  have E:z.Kind=1:=by
   rcases e.2.2 with h | h
   ·exact h
   ·exact absurd D h.2
  have q:zBK f.Nodes y.Kids<=1:=by
   rcases i.2.2.2.1.2.2.2 with h | h
   ·exact absurd D h
   ·exact h
  have J:zAU c (zMv z)=[c]:=by
   unfold zAU
   rw [iN (show ¬(zMv z).Kind=3 by simp only [zMv];omega)]
  rw [J]
  have C:isB f.Nodes c 1=true:=by unfold isB;rw [H.hz];simp [E]
  have F:isB f.Nodes c 2=false:=by unfold isB;rw [H.hz];simp [E]
  have u:c ≠ -1:=by have:=zAJ H.hz;omega
  unfold zGY
  rw [zHQ H]
  have Q:zEK (zMI f c p z y).Nodes (-1) [c] 2=0:=by
   unfold zEK;simp [zOR H,F]
  have P:zEK (zMI f c p z y).Nodes (-1) [c] 1=1:=by
   unfold zEK;simp [zOR H,C,u]
  have N:zEK f.Nodes c y.Kids 1=0:=by
   have M:y.Kids.Nodup:=by
    have:=(zBI hr).nod p
    rwa [zGC H.hy] at this
   have I:y.Kids.Perm (c::y.Kids.erase c):=List.perm_cons_erase H.mem
   unfold zBK at q
   rw [I.countP_eq,dG,C] at q
   simp only [↓reduceIte] at q
   unfold zEK
   rw [I.countP_eq,dG]
   simp only [bne_self_eq_false,jD,dL,↓reduceIte,Nat.add_zero]
   refine Nat.le_zero.1 (eM (List.countP_mono_left fun a _ h=>?_) (show List.countP (fun k=>isB f.Nodes k 1) (y.Kids.erase c)<=0 by omega))
   simp only [lM] at h
   exact h.2
  have mk:zEK (zMI f c p z y).Nodes (-1) (zOP y c).Kids 1=0:=by rw [show (zOP y c).Kids=y.Kids.filter (fun j=>j != c) from rfl,zV7 H,N]
  rw [Q,P]
  simp only [mk]
  rfl
end
section
variable {fu:Nat} {f:Forest} (hr:zAH f=true) (hfu:1000<fu)
include hr hfu
theorem zWL (n p c:Int):∃r,zEt fu f n p c=some r/\Hand f 801 r:=by
 have hs:=zAG hr
 have T:=hs.fit hfu
 have no:∀e,e≠0->zEg fu f n p c=some e->∃r,zEt fu f n p c=some r/\Hand f 801 r:=fun e j h=>by
  unfold zEt
  rw [h,zAA,zFp,zAA,iN j,zXI hr hfu,zAA]
  exact ⟨_,rfl,.inl ⟨e,j,rfl⟩⟩
 by_cases K:inB f n=true/\inB f p=true
 ·have X:InN f.Nodes n:=by have:=K.1;unfold inB at this;exact of_decide_eq_true this
  have hp:InN f.Nodes p:=by have:=K.2;unfold inB at this;exact of_decide_eq_true this
  obtain ⟨x,hx⟩:=zAK X
  obtain ⟨y,hy⟩:=zAK hp
  by_cases P:c = -1
  ·subst P
   obtain ⟨r,g1,g2⟩:=zcq hfu T hr hx hy
   exact no r g2 g1
  ·by_cases hc:inB f c=true
   ·have u:InN f.Nodes c:=by unfold inB at hc;exact of_decide_eq_true hc
    obtain ⟨z,hz⟩:=zAK u
    have J:=zhg hfu T hr hx hy hz
    by_cases j:zP7 f n p c c x y (z.Parent==p)=0
    ·have i:z.Parent=p:=by
      cases e:(z.Parent==p) with
      | true=>exact beq_iff_eq.1 e
      | false =>
       rw [e] at j
       unfold zP7 at j
       split at j
       ·cases j
       ·split at j
        ·cases j
        ·rw [iP rfl] at j;cases j
     rw [j] at J
     rw [show (z.Parent==p)=true from beq_iff_eq.2 i] at j
     have hp0:z.Parent ≠ -1:=by rw [i];unfold InN at hp;omega
     obtain ⟨y',H⟩:=zHB hr hz hp0
     rw [i] at H
     have e1:=H.hy
     rw [hy] at e1
     obtain rfl:=lJ.inj e1
     have S:=zPI H hr
     have I:=zV8 H hs
     have D:=zSN f c p z y
     obtain ⟨x',q,M,C⟩:∃x',idx (zMI f c p z y).Nodes n=some x'/\May (zMI f c p z y) n p x' (zOP y c)/\zAU n x'=zAU n x:=by
      by_cases F:n=c
      ·subst F
       rw [hx] at hz
       obtain rfl:=lJ.inj hz
       exact ⟨_,zPH H,zez H hr,rfl⟩
      ·obtain ⟨_,f2,_⟩:=zP8 j
       have E:=zaC H hr hs hfu hx F f2
       rw [j] at E
       have G:n≠p:=fun e=>by
        subst e
        rw [zM0 hs hfu hr X X] at f2
        have:=zLW.2 ((zAT hr).wayU_self X)
        rw [f2] at this
        cases this
       have q:idx (zMI f c p z y).Nodes n=some x:=(zMz H F G).trans hx
       have W:=zb1 (child := -1) hfu (I.fit hfu) S q (zHQ H) (.inl rfl)
       rw [E] at W
       have Q:=(lJ.inj W).symm
       simp only [beq_self_eq_true,Bool.true_or] at Q
       obtain ⟨k1,k2,k3,k4,k5⟩:=zP8 Q
       exact ⟨x,q,⟨q,zHQ H,k1,by rw [<- zM0 I hfu S (by unfold InN;rw [D];exact X) (by unfold InN;rw [D];exact hp)];exact k2,k3,k4,k5⟩,rfl⟩
     have G:=M.np S
     have hb:=zao H hr n
     have hb2:zEI n (y.Kids.drop (y.Kids.idxOf c+1)) = -1\/(zEI n (y.Kids.drop (y.Kids.idxOf c+1))∈(zOP y c).Kids/\zEI n (y.Kids.drop (y.Kids.idxOf c+1))∉zAU n x'):=hb.imp id fun ⟨g1,g2,g3⟩=>⟨g1,fun V=>by
      rw [C] at V
      unfold zAU at V
      split at V
      ·obtain ⟨w,hw⟩:=zJj (zAf hr).2.2.1 hy _ g2
       exact G ((zOO hr hx hw V).symm.trans (zOO hr hy hw g2))
      ·exact g3 (e8.1 V)⟩
     obtain ⟨h,l',m1,m2⟩:=zcX (l:=zHS f c) hfu q (M.pi S hb2) (by have:=zKD hr u;omega)
     have hq:zMU f.Nodes c=(zMI f c p z y).Nodes:=by
      have H':=H
      rw [<- i] at H'
      have:=zMy H' hp0
      rw [this,i]
     have N:=m1.all S
     have hplen:=M.len I
     unfold zEt
     rw [J,zAA,zFp,zAA,iP rfl]
     rw [zUH hr hfu (g:=h.Nodes) (l:=zHS f c++l') (by
      unfold zGx
      rw [zap H hr hfu,zAA,zUg hr hfu u (by simp),zAA,hq,iU]
      have m3:zD4 fu n p (zEI n (y.Kids.drop (y.Kids.idxOf c+1))) f.Most (zJk (zMI f c p z y).Nodes) (zHS f c)=some (zJk h.Nodes,zHS f c++l'):=m2
      simp only [m3,zAA]),zAA]
     have m0:Mv 1 f (zMI f c p z y) (zHS f c):=by
      have:=Mv.out (.refl f) u
      rw [iU,hq] at this
      exact this
     refine ⟨_,rfl,.inr ⟨_,h,_,?_,m0.trans m1,?_⟩⟩
     ·split<;>omega
     ·have e2:h.Most=f.Most:=N.2.1
      rw [<- e2]
    ·exact no _ j J
   ·refine no 1 (by omega) ?_
    have hc2:inB f c=false:=by cases e:inB f c with
     | false=>rfl
     | true=>exact absurd e hc
    unfold zEg
    rw [zFl hfu T hr (by simp),zAA,zFl hfu T hr (by simp),zAA,zAX]
    simp only [cK,iQ,K.1,K.2,hc2,Bool.and_self,iA,zAD,jD,jL,zAP,iN P]
 ·refine no 1 (by omega) ?_
  unfold zEg
  rw [zFl hfu T hr (by simp),zAA]
  have:([n,p].all (inB f))=false:=by
   simp only [cK,iQ,kN]
   cases e:inB f n&&inB f p with
   | false=>rfl
   | true=>exact absurd (by simpa using e) K
  rw [this];rfl
end
end
section
def zaV (f:Forest) (r:Forest×List Note×Int):Prop:=(∃e,e≠0/\r=(f,[],e))\/∃g l,zAH g=true/\g.Most=f.Most/\g.Nodes.map bare=f.Nodes.map bare/\l.length<=1/\(∀y∈l,y.Kind=4)/\r=(g,l,0)
theorem zXD {fu:Nat} {s:Bs} {l:List Attr} (hfu:1000<fu) (hs:s.length<fu) (hs2:s.length<=1000000) (hx:idx ns n=some x) (i:notes.length<=1000000) :
  ∃e,zDK fu n s l (zJk ns) notes=some (zJk (ns.set n.toNat (zJf x l)),notes++e)/\e.length<=1/\∀y∈e,y.Kind=4:=by
 unfold zDK
 rw [zSK hs hs2,zAA,zGh hx,zAA,zPc (by omega),zAA,zPc (by omega),zAA,zAA]
 have h:(⟨x.Kind,x.Name,x.Is,x.Data,l,x.Parent,x.Kids,x.Host,x.Under,x.Doc⟩:Node)=zJf x l:=rfl
 simp only [h,zNM]
 rw [zAh (by simp;omega),zAA]
 cases (zdR x.Attrs s).2 with
 | true=>exact ⟨_,rfl,by simp,by simp⟩
 | false =>
  rw [zAD]
  cases (zdR l s).2 with
  | true=>exact ⟨_,rfl,by simp,by simp⟩
  | false=>exact ⟨[],by rw [gI];rfl,by simp,by simp⟩
section
variable {fu:Nat} {f:Forest} (hr:zAH f=true) (hfu:1000<fu)
include hr hfu
theorem zYO (t:List (Node×Bool)->List Note->Option (Option (Bs×Int)×List (Node×Bool)×List Note)) (p:Bs×Int):zBT fu t f (some p)=some (f,[],p.2):=by
 unfold zBT
 rw [zTU (zAG hr) hfu,zAA]
 rfl
theorem zbE {t:List (Node×Bool)->List Note->Option (Option (Bs×Int)×List (Node×Bool)×List Note)} {p:Bs×Int} {l:List Note} (h:t (zJk f.Nodes) []=some (some p,m,l)):zBT fu t f none=some (f,[],p.2):=by
 unfold zBT
 rw [zTU (zAG hr) hfu,zAA]
 simp only [kJ,zAP]
 rw [h,zAA]
 rfl
theorem zVj {t:List (Node×Bool)->List Note->Option (Option (Bs×Int)×List (Node×Bool)×List Note)} {g:List Node} {l:List Note} (h:t (zJk f.Nodes) []=some (none,zJk g,l)):zBT fu t f none=some (⟨g,f.Most⟩,l,0):=by
 unfold zBT
 rw [zTU (zAG hr) hfu,zAA]
 simp only [kJ,zAP]
 rw [h,zAA]
 simp only [kT,zAD,zL7]
theorem elem6 (n:Int):zG5 fu f n=some (if InN f.Nodes n then (if isB f.Nodes n 1=true then none else some ([101,108,101,109],5)) else some ([97,115,107,101,100],1)):=by
 unfold zG5
 rw [zfs hr hfu,zAA]
 by_cases h:InN f.Nodes n
 ·rw [iP h,iP h]
  obtain ⟨x,hx⟩:=zAK h
  simp only [kJ,zAP]
  rw [hx,zAA,zAX,zFp,zAA]
  have e:isB f.Nodes n 1=(x.Kind==1):=by unfold isB;rw [hx]
  by_cases i:x.Kind=1
  ·rw [iP i,e,i];rfl
  ·rw [iN i,e,show (x.Kind==1)=false by simpa using i]
   rfl
 ·rw [iN h,iN h];rfl
theorem zR6 (n:Int) (t:List (Node×Bool)->List Note->Option (Option (Bs×Int)×List (Node×Bool)×List Note))
  (E:∀x,idx f.Nodes n=some x->x.Kind=1->(∃p m l,(p:Bs×Int).2≠0/\t (zJk f.Nodes) []=some (some p,m,l))\/t (zJk f.Nodes) []=some (none,zJk f.Nodes,[])\/∃a l,zHA a=true/\l.length<=1/\(∀y∈l,(y:Note).Kind=4)/\t (zJk f.Nodes) []=some (none,zJk (f.Nodes.set n.toNat (zJf x a)),l)) :
  ∃r,(bnd (zG5 fu f n) fun F=>bnd (zBT fu t f F) fun u=>some (u.1,u.2.1,u.2.2))=some r/\zaV f r:=by
 rw [elem6 hr hfu,zAA]
 by_cases h:InN f.Nodes n
 ·rw [iP h]
  obtain ⟨x,hx⟩:=zAK h
  by_cases j:x.Kind=1
  ·rw [iP (by unfold isB;rw [hx];simp [j])]
   rcases E x hx j with ⟨p,m,l,q,i⟩ | i | ⟨a,l,q,i,C,D⟩
   ·rw [zbE hr hfu i,zAA];exact ⟨_,rfl,.inl ⟨_,q,rfl⟩⟩
   ·rw [zVj hr hfu i,zAA];exact ⟨_,rfl,.inr ⟨f,[],hr,rfl,rfl,by simp,by simp,rfl⟩⟩
   ·rw [zVj hr hfu D,zAA]
    refine ⟨_,rfl,.inr ⟨_,_,zW3 hr hx j q,rfl,?_,i,C,rfl⟩⟩
    show (f.Nodes.set n.toNat (zJf x a)).map bare=_
    rw [List.map_set]
    have hi:n.toNat<f.Nodes.length:=by unfold InN at h;omega
    have e:bare (zJf x a)=(f.Nodes.map bare)[n.toNat]'(by simpa using hi):=by
     have:idx f.Nodes n=some f.Nodes[n.toNat]:=by
      have:=zAS hi
      rwa [show ((n.toNat:Nat):Int)=n by unfold InN at h;omega] at this
     rw [hx] at this
     rw [List.getElem_map,<- lJ.inj this]
     rfl
    rw [e];exact List.set_getElem_self _
  ·rw [iN (by unfold isB;rw [hx];simp [j]),zYO hr hfu,zAA]
   exact ⟨_,rfl,.inl ⟨5,by omega,rfl⟩⟩
 ·rw [iN h,zYO hr hfu,zAA]
  exact ⟨_,rfl,.inl ⟨1,by omega,rfl⟩⟩
variable {s:Bs} (hs:s.length<fu) (hs2:s.length<=1000000)
include hs hs2
theorem ze0 (n:Int) (v:Bs):∃r,zK5 fu f n s v=some r/\zaV f r:=by
 unfold zK5
 refine zR6 hr hfu n _ fun x hx q=>?_
 have u:=zQ2 (zW1 hr hx q)
 unfold zKY
 rw [zGh hx,zAA,zaj (by omega) (by simp only;omega),zAA,zAX]
 simp only
 by_cases e:(zZU x.Attrs s v).2=0
 ·rw [iP e]
  obtain ⟨C,h,i,j⟩:=zXD (n:=n) (s:=s) (l:=(zZU x.Attrs s v).1) (notes:=[]) hfu hs hs2 hx (by simp)
  rw [h,zAA]
  exact .inr (.inr ⟨_,_,zS3 e,i,j,rfl⟩)
 ·rw [iN e,zFp,zAA,iN e]
  exact .inl ⟨_,_,_,e,rfl⟩
theorem zaH (n:Int):∃r,zIj fu f n s=some r/\zaV f r:=by
 unfold zIj
 refine zR6 hr hfu n _ fun x hx q=>?_
 have e:=zW1 hr hx q
 have u:=zQ2 e
 unfold zIV
 rw [zTH (by omega),zAA,zAX,zGh hx,zAA,zag (by omega) (by simp only;omega),zAA]
 simp only
 cases C:zFy s with
 | false =>
  simp only [dL,↓reduceIte]
  rw [iN (by omega),zFp,zAA,iN (by omega)]
  exact .inl ⟨_,_,_,by simp only;omega,rfl⟩
 | true =>
  simp only [↓reduceIte]
  obtain ⟨D,h,i,j⟩:=zXD (n:=n) (s:=s) (l:=(zf6 x.Attrs s).1) (notes:=[]) hfu hs hs2 hx (by simp)
  rw [h,zAA]
  exact .inr (.inr ⟨_,_,zS2 e,i,j,rfl⟩)
theorem zX1 (n k:Int):∃r,zHb fu f n s k=some r/\zaV f r:=by
 unfold zHb
 refine zR6 hr hfu n _ fun x hx u=>?_
 have h:=zW1 hr hx u
 have C:=zQ2 h
 unfold zHa
 rw [zGh hx,zAA,zPc (by omega),zAA,zAA,zgA (by omega) (by simp only;omega),zAA,zAX]
 simp only
 by_cases e:(zfV x.Attrs s k).2.2=0
 ·rw [iP e]
  cases (zdR x.Attrs s).2==(zfV x.Attrs s k).2.1 with
  | true=>exact .inr (.inl rfl)
  | false =>
   obtain ⟨D,i,j,q⟩:=zXD (n:=n) (s:=s) (l:=(zfV x.Attrs s k).1) (notes:=[]) hfu hs hs2 hx (by simp)
   rw [jL,zAP,i,zAA]
   exact .inr (.inr ⟨_,_,zZV h e,j,q,rfl⟩)
 ·rw [iN e,zFp,zAA,iN e]
  exact .inl ⟨_,_,_,e,rfl⟩
end
end
section
section
variable {fu:Nat} {f:Forest} (hfu:1000<fu)
include hfu
theorem zM6 {l:List Int} (hr:zAH f=true) (hl:l.length<=100):zFE fu f l=some (l.all (inB f)):=by
 unfold zFE
 rw [zFA hfu ((zAG hr).fit hfu),zAA,hr,zAP,zGB (p:=fun n => !(inB f n)) (fun n _=>by unfold zFo;exact zUj f n) (by omega) (by omega),zAA,zIJ]
theorem zcu (hr:zAH f=true) (d:Int):zLC fu f d=some (isB f.Nodes d 0):=by
 unfold zLC
 rw [zM6 hfu hr (by simp),zAA]
 simp only [cK,iQ,kN]
 unfold isB
 cases e:inB f d with
 | false =>
  have:¬(0<=d/\d<f.Nodes.length):=fun h=>by
   have:=zNz (f:=f) (n:=d) h
   rw [e] at this;cases this
  rw [zCf this];rfl
 | true =>
  unfold inB at e
  obtain ⟨x,hx⟩:=zAK (of_decide_eq_true e)
  rw [hx];rfl
end
structure RI (f:Forest) (rows:List (Node×Bool)):Prop where
 base:rows.take f.Nodes.length=f.Nodes.map fun x=>(x,false)
 len:f.Nodes.length<=rows.length
 new:∀(i:Nat) (h:i<rows.length),f.Nodes.length<=i->rows[i].2=true
 kids:∀r∈rows,r.1.Kids.length<=rows.length+400
def JF (f:Forest) (rows:List (Node×Bool)) (j:zBi):Prop:=InN f.Nodes j.n/\(j.under = -1\/∃u:Nat,j.under=(u:Int)/\f.Nodes.length<=u/\u<rows.length)
theorem JF.mono {f:Forest} {e:List (Node×Bool)} {j:zBi} (h:JF f rows j) (hl:rows.length<=e.length):JF f e j :=
 ⟨h.1,h.2.imp id fun ⟨u,i,q,C⟩=>⟨u,i,q,by omega⟩⟩
theorem RI.old {f:Forest} (h:RI f rows) {n:Int} {x:Node} (hx:idx f.Nodes n=some x):idx rows n=some (x,false):=by
 have hr:=zAJ hx
 obtain ⟨i,rfl⟩:∃i:Nat,n=(i:Int):=⟨n.toNat,by omega⟩
 have hi:i<f.Nodes.length:=by omega
 have e:i<rows.length:=by have:=h.len;omega
 rw [zAS hi] at hx
 rw [zAS e]
 have:=congrArg (fun l=>l[i]?) h.base
 simp only [List.getElem?_take,iP hi,lK,lC hi,lC e,lW] at this
 rw [lJ.inj this,lJ.inj hx]
theorem RI.add {f:Forest} (h:RI f rows) {y:Node} (hy:y.Kids=[]):RI f (rows++[(y,true)]):=by
 have hl:=h.len
 refine ⟨?_,by simp;omega,fun i hi j=>?_,fun r hr=>?_⟩
 ·rw [iV hl];exact h.base
 ·rw [List.getElem_append]
  split
  ·rename_i e;exact h.new i e j
  ·simp
 ·rw [cA,e8] at hr
  simp only [eR,cP,eK]
  rcases hr with hr | rfl
  ·have:=h.kids r hr;omega
  ·rw [hy];simp
theorem RI.kid {f:Forest} {u:Nat} {e:Node} (h:RI f rows) (C:f.Nodes.length<=u) (j:e.Kids.length<=rows.length+400):RI f (rows.set u (e,true)):=by
 refine ⟨?_,by simpa using h.len,fun i hi q=>?_,fun r hr=>?_⟩
 ·rw [kU C];exact h.base
 ·rw [List.getElem_set]
  split
  ·rfl
  ·exact h.new i (by simpa using hi) q
 ·rw [List.length_set]
  rcases dT hr with hr | rfl
  ·exact h.kids r hr
  ·exact j
theorem za4 {fu:Nat} {f:Forest} {j:zBi} (hr:zAH f=true) (h:RI f rows) (M:JF f rows j) (hl:rows.length<=100000) :
  ∃d e,zE2 fu j rows=some ((rows.length:Int),d,e)/\e.length=rows.length+1/\RI f e:=by
 obtain ⟨x,hx⟩:=zAK M.1
 have hs:=zAG hr
 have P:=hs.attrs x (zFB hx)
 have E:∀F G,∃d e,zCN fu j rows (x,false) x.Attrs (F,G)=some ((rows.length:Int),d,e)/\e.length=rows.length+1/\RI f e:=fun F G=>by
  have i:=h.add (y:=⟨F,x.Name,x.Is,x.Data,x.Attrs,j.under,[],-1,-1,G⟩) rfl
  unfold zCN zIH
  simp only
  rw [zAh (by omega),zAA,zKC (by simp only [lo,Go.Pw.hi,eR,cP,eK];omega),zAA,zAA,zAX]
  have N:(((rows++[((⟨F,x.Name,x.Is,x.Data,x.Attrs,j.under,[],-1,-1,G⟩:Node),true)]).length:Nat):Int) - 1=(rows.length:Int):=by simp
  rw [N]
  rcases M.2 with I | ⟨u,I,J,K⟩
  ·rw [iP I]
   exact ⟨_,_,rfl,by simp,i⟩
  ·have C:u<(rows++[((⟨F,x.Name,x.Is,x.Data,x.Attrs,j.under,[],-1,-1,G⟩:Node),true)]).length:=by simp;omega
   have D:=i.new u C J
   have q:=i.kids _ (gC C)
   rw [iN (by rw [I];omega),I,zAS (by rw [<- I];exact C),zAA]
   simp only [I] at D q C i ⊢
   rw [D,show zSw true=some () from rfl,zAA]
   simp only [eR,cP,eK] at q
   have Q:(rows++[((⟨F,x.Name,x.Is,x.Data,x.Attrs,(u:Int),[],-1,-1,G⟩:Node),true)])[u].1.Kids.length<=rows.length+400:=by
    rw [List.getElem_append_left K]
    exact h.kids _ (gC K)
   rw [zAh (by simp only [cP,eK];omega),zAA,zAA,eO]
   refine ⟨_,_,rfl,by simp,i.kid J ?_⟩
   simp only [eR,cP,eK]
   omega
 unfold zE2
 rw [h.old hx,zAA,show zQP (x,false).2=some () from rfl,zAA,zKe (by simp only;omega),zAA,zAi,zAi]
 simp only
 split
 ·exact E _ _
 ·split
  ·exact E _ _
  ·exact E _ _
theorem run_l2 {h:Int×Int×List (Node×Bool)} {e:Node×Bool} {rc:List zBi×List (Node×Bool)->Option (Int×List (Node×Bool))} (j:e.1.Kids.length<=1000000):∀(k:Nat) (l:List zBi),k<=e.1.Kids.length->l.length+k<=10000000 ->
  zDM h e rc k l=rc (l++((e.1.Kids.take k).reverse.map fun c=>⟨c,h.2.1,h.1⟩),h.2.2):=by
 intro k
 induction k with
 | zero=>intro l _ _;simp [zDM]
 | succ k q =>
  intro l j hl
  have i:k<e.1.Kids.length:=by omega
  simp only [zDM]
  rw [lC i,zAA,zAh (by simp only [cP,eK];omega),zAA,q _ (by omega) (by simp only [eR,cP,eK];omega),iE i,List.reverse_append,gG,eS]
  rfl
def work (f:Forest) (e:List zBi):Nat:=(e.map fun j=>(zK0 f.Nodes j.n).length).sum
theorem ze3 (ns:List Node) (L:List Int):(L.flatMap (zK0 ns)).length=(L.map fun k=>(zK0 ns k).length).sum:=by
 rw [List.length_flatMap]
theorem run_l1 {fu:Nat} {f:Forest} {deep:Bool} {l4:List (Node×Bool)} (hr:zAH f=true):∀(K:Nat) (e:List zBi) (rows:List (Node×Bool)),RI f rows->(∀j∈e,JF f rows j)->work f e<K->rows.length+work f e<=50000->e.length<=50000 ->
  ∃h,zDL fu deep l4 K (e,rows)=some ((l4.length:Int),h)/\RI f h/\h.length<=rows.length+work f e:=by
 have T:=zBI hr
 have hs:=zAG hr
 intro K
 induction K with
 | zero=>intro e rows _ _ hw;omega
 | succ K ih =>
  intro e rows hR P hw hb J
  simp only [zDL]
  rcases List.eq_nil_or_concat e with rfl | ⟨u,j,rfl⟩
  ·rw [zAN (by simp)]
   exact ⟨rows,rfl,hR,by omega⟩
  ·rw [List.concat_eq_append] at *
   have S:=P j (by simp)
   obtain ⟨x,hx⟩:=zAK S.1
   have D:work f (u++[j])=work f u+(1+((zLP f.Nodes j.n).map fun k=>(zK0 f.Nodes k).length).sum):=by
    unfold work
    rw [gG,kV,lT,List.map_nil,kO,List.sum_nil,T.all_eq S.1,cP,ze3]
    omega
   have E:((u++[j]).length:Int) - 1=(u.length:Int):=by simp
   simp only [eR,cP,eK] at J
   rw [zAO (by simp),E,zKC (by simp only [lo,Go.Pw.hi];omega),zAA,zL4,cC (cB _),Nat.sub_self,List.getElem?_cons_zero,zAA,zAA]
   rw [show piece (u++[j]) 0 (u.length:Int)=some u from ?_,zAA]
   ·obtain ⟨d,h,h1,h2,Q⟩:=za4 (fu:=fu) hr hR S (by omega)
    rw [h1,zAA]
    cases deep with
    | false=>exact ⟨h,rfl,Q,by rw [D];omega⟩
    | true =>
     have V:=hs.kids x (zFB hx)
     have C:zLP f.Nodes j.n=x.Kids:=zGC hx
     have i:∀k∈x.Kids,1<=(zK0 f.Nodes k).length:=fun k M=>by
      have F:=(T.kid j.n k (by rw [C];exact M)).2.1
      have:=T.all_self F
      exact kW this
     have W:x.Kids.length<=(x.Kids.map fun k=>(zK0 f.Nodes k).length).sum:=by
      clear D C V hx
      revert i
      generalize x.Kids=L
      intro i
      induction L with
      | nil=>simp
      | cons a L G =>
       have:=G fun k M=>i k (lG _ M)
       have:=i a (lH ..)
       simp only [cP,lT,kO]
       omega
     have hjs:u.length<=work f u:=by
      clear D E J
      have:∀N∈u,1<=(zK0 f.Nodes N.n).length:=fun N q=>kW (T.all_self (P N (by simp [q])).1)
      unfold work
      clear P hw hb
      revert this
      generalize u=L
      intro i
      induction L with
      | nil=>simp
      | cons a L G =>
       have:=G fun k M=>i k (lG _ M)
       have:=i a (lH ..)
       simp only [cP,lT,kO]
       omega
     rw [C] at D
     simp only [iA,zAD]
     rw [Q.old hx,zAA,show zQP (x,false).2=some () from rfl,zAA,run_l2 (by simp only;omega) _ _ (cB _) (by simp only;omega),iI]
     have X:work f (u++x.Kids.reverse.map fun c=>⟨c,d,(rows.length:Int)⟩)=work f u+(x.Kids.map fun k=>(zK0 f.Nodes k).length).sum:=by
      unfold work
      rw [gG,kV,List.map_map]
      congr 1
      rw [show ((fun j:zBi=>(zK0 f.Nodes j.n).length) ∘ fun c=>(⟨c,d,(rows.length:Int)⟩:zBi))=fun k=>(zK0 f.Nodes k).length from rfl,List.map_reverse,List.sum_reverse]
     obtain ⟨I,g1,g2,g3⟩:=ih (u++x.Kids.reverse.map fun c=>⟨c,d,(rows.length:Int)⟩) h Q (fun N q=>by
      rw [cA] at q
      rcases q with q | q
      ·exact (P N (by simp [q])).mono (by omega)
      ·obtain ⟨c,hc,rfl⟩:=lE.1 q
       have F:=(T.kid j.n c (by rw [C];exact List.mem_reverse.1 hc)).2.1
       exact ⟨F,.inr ⟨rows.length,rfl,hR.len,by omega⟩⟩) (by omega) (by omega) (by simp only [eR,lL,List.length_reverse];omega)
     exact ⟨I,g1,g2,by omega⟩
   ·unfold piece
    rw [iP ⟨by omega,by omega,by simp;omega⟩]
    simp
def zda (f:Forest) (r:Forest×Int×Int):Prop:=(∃e,e≠0/\r=(f,-1,e))\/∃ns,ns.take f.Nodes.length=f.Nodes/\f.Nodes.length<=ns.length/\ns.length<=1000/\(∀x∈ns,x.Kids.length<=2000)/\r=(⟨ns,f.Most⟩,(f.Nodes.length:Int),0)
theorem RI.first {f:Forest} (hr:zAH f=true):RI f (f.Nodes.map fun x=>(x,false)):=by
 have hs:=zAG hr
 refine ⟨?_,by simp,fun i hi h=>?_,fun r e=>?_⟩
 ·rw [kH (by simp)]
 ·simp at hi;omega
 ·obtain ⟨x,hx,rfl⟩:=lE.1 e
  have:=hs.kids x hx
  simp only;omega
theorem zds {fu:Nat} {f:Forest} (hr:zAH f=true) (hfu:1000<fu) (n d:Int) (deep:Bool) (h:InN f.Nodes n):∃e,zII fu ⟨n,d,-1⟩ deep (f.Nodes.map fun x=>(x,false))=some ((f.Nodes.length:Int),e)/\RI f e/\e.length<=800:=by
 have hs:=zAG hr
 have q:=hs.few
 have T:=zBI hr
 have D:=T.all_len h
 have hw:work f [⟨n,d,-1⟩]=(zK0 f.Nodes n).length:=by simp [work]
 have hl:(f.Nodes.map fun x=>(x,false)).length=f.Nodes.length:=by simp
 obtain ⟨e,i,u,C⟩:=run_l1 (fu:=fu) (deep:=deep) (l4:=f.Nodes.map fun x=>(x,false)) hr fu [⟨n,d,-1⟩] (f.Nodes.map fun x=>(x,false)) (RI.first hr) (fun j E=>by rw [e8.1 E];exact ⟨h,.inl rfl⟩) (by rw [hw];omega) (by rw [hw,hl];omega) (by rw [List.length_singleton];omega)
 rw [hl] at i
 rw [hw,hl] at C
 exact ⟨e,i,u,by omega⟩
theorem zgV {fu:Nat} {f:Forest} (hr:zAH f=true) (hfu:1000<fu) (n d:Int) (deep:Bool) (i:InN f.Nodes n) (many:Int) (E:0<=many) (F:many<=400):∃r,zF8 fu f n d deep many=some r/\zda f r:=by
 have hs:=zAG hr
 have q:=hs.few
 unfold zF8
 rw [zKC (by simp only [lo,Go.Pw.hi];omega),zAA,zAR]
 by_cases u:(f.Nodes.length:Int)+many>f.Most
 ·rw [iP u];exact ⟨_,rfl,.inl ⟨8,by omega,rfl⟩⟩
 ·rw [iN u,zKA (by omega),zAA]
  obtain ⟨e,C,h,D⟩:=zds hr hfu n d deep i
  rw [C,zAA]
  refine ⟨_,rfl,.inr ⟨e.map Prod.fst,?_,?_,?_,fun x hx=>?_,rfl⟩⟩
  ·rw [<- List.map_take,h.base,List.map_map]
   exact List.map_id _
  ·rw [lL];exact h.len
  ·rw [lL];omega
  ·obtain ⟨r,j,rfl⟩:=lE.1 hx
   have:=h.kids r j
   omega
theorem za5 {fu:Nat} {f:Forest} (hr:zAH f=true) (hfu:1000<fu) (n d:Int) (deep:Bool) (e:InN f.Nodes n):∃r,(cnd deep (bnd (zEr fu f n) fun q=>(zF8 fu f n d deep) (q.length:Int)) ((zF8 fu f n d deep) 1))=some r/\zda f r:=by
 have j:=(zBI hr).all_len e
 have i:=(zAG hr).few
 rw [zT3 (zAG hr) hfu hr e,zAA]
 have h:=zgV hr hfu n d deep e
 cases deep with
 | false=>rw [zAD];exact h 1 (by omega) (by omega)
 | true=>rw [zAP];exact h _ (by omega) (by omega)
theorem za6 {fu:Nat} {f:Forest} (hr:zAH f=true) (hfu:1000<fu) (n d:Int) (deep:Bool):∃r,zLv fu f n d deep=some r/\zda f r:=by
 unfold zLv
 rw [zM6 hfu hr (by simp),zAA,zcu hfu hr,zAA]
 have e:[n].all (inB f)=inB f n:=by simp
 rw [e]
 by_cases h:inB f n=true
 ·rw [h,iA,zAD]
  by_cases i:isB f.Nodes d 0=true
  ·rw [i,iA,zAD]
   exact za5 hr hfu n d deep (by unfold inB at h;exact of_decide_eq_true h)
  ·rw [iL.2 i,jL,zAP]
   exact ⟨_,rfl,.inl ⟨1,by omega,rfl⟩⟩
 ·rw [iL.2 h,jL,zAP]
  exact ⟨_,rfl,.inl ⟨1,by omega,rfl⟩⟩
end
section
def Ext (a b:List Node):Prop:=a.length<=b.length/\∀j w,idx a j=some w->∃v,idx b j=some v/\v.Kind=w.Kind/\upI b j=upI a j
theorem Ext.refl (a:List Node):Ext a a:=⟨cB _,fun _ w h=>⟨w,h,rfl,rfl⟩⟩
theorem Ext.of_bare (h:b.map bare=a.map bare):Ext a b:=by
 have hl:b.length=a.length:=by have:=congrArg List.length h;simpa using this
 refine ⟨by omega,fun j w hw=>?_⟩
 have u:=zAJ hw
 obtain ⟨v,i⟩:=zAK (l:=b) (n:=j) (by omega)
 refine ⟨v,i,?_,by rw [<- zW5,h,zW5]⟩
 have e:=zKu (l:=b) (g:=bare) (n:=j)
 rw [h,zKu,hw,i] at e
 have q:=lJ.inj e
 show (bare v).Kind=w.Kind
 rw [<- q];rfl
theorem Ext.of_take (h:b.take a.length=a) (hl:a.length<=b.length):Ext a b:=by
 have i:b=a++b.drop a.length:=by
  conv=>lhs;rw [<- List.take_append_drop a.length b,h]
 refine ⟨hl,fun j w hw=>?_⟩
 rw [i]
 have e:=zKt (m:=b.drop a.length) hw
 exact ⟨w,e,rfl,zcx (zAJ hw)⟩
def Chg (f g:Forest) (l:List Note):Prop:=∃f1 h i e m,Ext f.Nodes f1.Nodes/\zAH f1=true/\Mv m f1 h i/\m<=1000/\Ext h.Nodes g.Nodes/\l=i++e/\(∀y∈e,y.Kind=3\/y.Kind=4)/\e.length<=1000/\g.Nodes.length<=1000/\∀x∈g.Nodes,x.Kids.length<=2000
theorem Chg.of_mv {f:Forest} {l:List Note} {m:Nat} (hr:zAH f=true) (h:Mv m f g l) (e:m<=1000):Chg f g l:=by
 have hs:=zAG (h.all hr).1
 exact ⟨f,g,l,[],m,Ext.refl _,hr,h,e,Ext.refl _,by simp,by simp,by simp,by have:=hs.few;omega,fun x hx=>by have:=hs.kids x hx;omega⟩
theorem Chg.of_ext {f:Forest} (hr:zAH f=true) (h:Ext f.Nodes g.Nodes) (e:g.Nodes.length<=1000) (i:∀x∈g.Nodes,x.Kids.length<=2000):Chg f g [] :=
 ⟨f,f,[],[],0,Ext.refl _,hr,.refl f,by omega,h,rfl,by simp,by simp,e,i⟩
theorem Chg.len {f:Forest} {l:List Note} (h:Chg f g l):l.length<=2000000:=by
 obtain ⟨f1,i,u,C,m,_,hr,e,j,_,rfl,_,q,_⟩:=h
 have:=(e.all hr).2.2.2
 simp only [eR]
 omega
theorem Chg.of_hand {f:Forest} {N:Nat} (hr:zAH f=true) (h:Hand f N r) (j:N<=1000):r.2.2≠0\/(r.2.2=0/\Chg f r.1 r.2.1):=by
 rcases h with ⟨e,i,rfl⟩ | ⟨m,g,l,q,h,rfl⟩
 ·exact .inl i
 ·exact .inr ⟨rfl,.of_mv hr h (by omega)⟩
theorem Chg.of_attrs {f:Forest} (hr:zAH f=true) (h:zaV f r):r.2.2≠0\/(r.2.2=0/\Chg f r.1 r.2.1):=by
 rcases h with ⟨e,u,rfl⟩ | ⟨g,l,i,C,j,D,q,rfl⟩
 ·exact .inl u
 ·have hs:=zAG i
  exact .inr ⟨rfl,f,f,[],l,0,Ext.refl _,hr,.refl f,by omega,Ext.of_bare j,rfl,fun y hy=>.inr (q y hy),by omega,by have:=hs.few;simp only;omega,fun x hx=>by have:=hs.kids x hx;omega⟩
theorem Chg.of_copy {f:Forest} {r:Forest×Int×Int} (hr:zAH f=true) (h:zda f r):r.2.2≠0\/(r.2.2=0/\Chg f r.1 []):=by
 rcases h with ⟨e,C,rfl⟩ | ⟨ns,i,j,q,u,rfl⟩
 ·exact .inl C
 ·exact .inr ⟨rfl,.of_ext hr (.of_take i j) q u⟩
section
variable {f:Forest} {fu:Nat} (hr:zAH f=true) (hfu:1000<fu)
include hr hfu
theorem zW0 (n:Int):∃r,zIW fu f n=some r/\(r.2.2≠0\/(r.2.2=0/\Chg f r.1 [])):=by
 have hs:=zAG hr
 have u:=hs.few
 have fin:∀x,idx f.Nodes n=some x->∃r,zF6 fu f n x ()=some r/\(r.2.2≠0\/(r.2.2=0/\Chg f r.1 [])):=fun x hx=>by
  unfold zF6
  rw [zAX,zAi,zKA (by omega),zAA,zAh (by simp;omega),zAA,zKt hx,zAA]
  by_cases E:x.Under = -1
  ·rw [iP E]
   by_cases D:(f.Nodes.length:Int)=f.Most
   ·rw [iP D];exact ⟨_,rfl,.inl (by simp)⟩
   ·rw [iN D]
    have F:=zAJ hx
    refine ⟨_,rfl,.inr ⟨rfl,.of_ext hr ⟨by simp,fun j w hw=>?_⟩ (by simp;omega) fun y hy=>?_⟩⟩
    ·have i:=zKt (m:=[(⟨4,[],[],[],[],-1,[],n,-1,x.Doc⟩:Node)]) hw
     by_cases C:j=n
     ·subst C
      rw [hx] at hw
      obtain rfl:=lJ.inj hw
      have e:idx ((f.Nodes++[(⟨4,[],[],[],[],-1,[],j,-1,x.Doc⟩:Node)]).set j.toNat ⟨x.Kind,x.Name,x.Is,x.Data,x.Attrs,x.Parent,x.Kids,x.Host,(f.Nodes.length:Int),x.Doc⟩) j=some ⟨x.Kind,x.Name,x.Is,x.Data,x.Attrs,x.Parent,x.Kids,x.Host,(f.Nodes.length:Int),x.Doc⟩:=zLO (by simp;omega)
      exact ⟨_,e,rfl,by rw [zHR e,zHR hx]⟩
     ·have e:idx ((f.Nodes++[(⟨4,[],[],[],[],-1,[],n,-1,x.Doc⟩:Node)]).set n.toNat ⟨x.Kind,x.Name,x.Is,x.Data,x.Attrs,x.Parent,x.Kids,x.Host,(f.Nodes.length:Int),x.Doc⟩) j=some w:=(zJ6 (by omega) C).trans i
      exact ⟨_,e,rfl,by rw [zHR e,zHR hw]⟩
    ·rcases dT hy with h | rfl
     ·rcases cA.1 h with h | h
      ·have:=hs.kids y h;omega
      ·rw [e8.1 h];simp
     ·have:=hs.kids x (zFB hx);simp only;omega
  ·rw [iN E];exact ⟨_,rfl,.inl (by simp)⟩
 unfold zIW
 rw [zWX hfu (hs.fit hfu) hr (by simp),zAA,show [n].all (inB f)=inB f n by simp]
 by_cases q:inB f n=true
 ·obtain ⟨x,hx⟩:∃x,idx f.Nodes n=some x:=by
   unfold inB at q
   exact zAK (of_decide_eq_true q)
  rw [q,iA,zAD,hx,zAA,zAX,zIN (by omega),zAA]
  by_cases i:x.Kind=1
  ·rw [iP i]
   cases zFf x.Name with
   | true=>rw [iA,zAD];exact fin x hx
   | false =>
    unfold zLo
    rw [jL,zAP,zAA,zKh (by simp;omega) (by simp),zAA]
    generalize List.contains _ x.Name=b
    cases b with
    | true=>rw [iA,zAD];exact fin x hx
    | false=>exact ⟨_,rfl,.inl (by simp)⟩
  ·rw [iN i];exact ⟨_,rfl,.inl (by simp)⟩
 ·rw [iL.2 q,jL,zAP]
  exact ⟨_,rfl,.inl (by simp)⟩
omit hfu in
theorem zbo {k:Int} {y:Node} (hy:idx f.Nodes n=some y) (e:k∈y.Kids):InN f.Nodes k:=by
 obtain ⟨w,hw⟩:=zJj (zAf hr).2.2.1 hy k e
 exact zAJ hw
theorem zgf {y:Node} (hl:y.Kids.length<=400) (E:∀k∈y.Kids,InN f.Nodes k):∀(m i K:Nat) (g:Forest) (l:List Note),i+m=y.Kids.length->m<K->Mv i f g l->∃h I,zGO fu y K ((i:Int),l,g.Nodes,g.Most)=some (h,I,0)/\Mv y.Kids.length f h I:=by
 intro m
 induction m with
 | zero =>
  intro i K g l hi N j
  obtain ⟨K,rfl⟩:∃D,K=D+1:=⟨K - 1,by omega⟩
  obtain rfl:i=y.Kids.length:=by omega
  simp only [zGO]
  rw [zAN (by simp)]
  exact ⟨g,l,rfl,j⟩
 | succ m G =>
  intro i K g l hi N j
  obtain ⟨K,rfl⟩:∃D,K=D+1:=⟨K - 1,by omega⟩
  have e:i<y.Kids.length:=by omega
  obtain ⟨F,_,hS,P⟩:=j.all hr
  have u:InN g.Nodes y.Kids[i]:=hS.inN.2 (E _ (gC e))
  simp only [zGO]
  rw [zAO (by simpa using e),zAS e,zAA,zOX F hfu,zAA,iP u]
  by_cases C:zJe g.Nodes y.Kids[i] = -1
  ·have q:Mv (i+1) f ⟨zMU g.Nodes y.Kids[i],g.Most⟩ (l++zHS g y.Kids[i]):=j.out u
   obtain ⟨z,hz⟩:=zAK u
   have J:zMU g.Nodes y.Kids[i]=g.Nodes:=zPG hz (by rw [<- zJQ hz];exact C)
   have M:zHS g y.Kids[i]=[]:=by unfold zHS;rw [iN fun h=>h.1 C]
   rw [J,M] at q
   rw [iP C]
   simp only
   rw [zAh (by simp;omega),zAA,zBJ (by omega),zAA]
   exact G (i+1) K g (l++[]) (by omega) (by omega) q
  ·rw [iN C]
   simp only
   have Q:=zKD F u
   rw [zAh (by omega),zAA,zBJ (by omega),zAA]
   exact G (i+1) K ⟨zMU g.Nodes y.Kids[i],g.Most⟩ (l++zHS g y.Kids[i]) (by omega) (by omega) (j.out u)
theorem zZk (n:Int):∃r,zIz fu f n=some r/\(r.2.2≠0\/(r.2.2=0/\Chg f r.1 r.2.1)):=by
 have hs:=zAG hr
 unfold zIz
 rw [zM6 hfu hr (by simp),zAA,show [n].all (inB f)=inB f n by simp]
 by_cases e:inB f n=true
 ·obtain ⟨y,hy⟩:∃x,idx f.Nodes n=some x:=by
   unfold inB at e
   exact zAK (of_decide_eq_true e)
  have i:=hs.kids y (zFB hy)
  rw [e,iA,zAD,hy,zAA]
  obtain ⟨h,C,j,q⟩:=zgf hr hfu i (fun k u=>zbo hr hy u) y.Kids.length 0 fu f [] (by omega) (by omega) (.refl f)
  exact ⟨_,j,.inr ⟨rfl,.of_mv hr q (by omega)⟩⟩
 ·rw [iL.2 e,jL,zAP]
  exact ⟨_,rfl,.inl (by simp)⟩
end
end
section
theorem zeD {f:Forest} (hr:zAH f=true) {n k:Int} {y:Node} (hy:idx f.Nodes n=some y) (j:k∈y.Kids):isB f.Nodes k 3=false:=by
 have i:=zBj (zAf hr).2.2.1 hy
 unfold zF0 zEm at i
 simp only [lM,lR] at i
 have h:=i.2.2.2.1.2.1 k j
 unfold zO9 at h
 unfold isB
 cases hz:idx f.Nodes k with
 | none=>rfl
 | some z =>
  rw [hz] at h
  simp only [lM,dD,beq_iff_eq,bne_iff_ne] at h
  simp only
  rcases h.2.2 with e | e
  ·rw [e];rfl
  ·rw [e.1];rfl
section
variable {fu:Nat} {f1:Forest} {at_:Int} {e6:Int} (hr:zAH f1=true) (hfu:1000<fu)
include hr hfu
theorem join_l {y:Node} (hl:y.Kids.length<=400) (F:∀k∈y.Kids,isB f1.Nodes k 3=false):∀(m i K q:Nat) (g:Forest) (l:List Note),i+m=y.Kids.length->m<K->Mv q f1 g l->q<=i->∃h D N,zHM fu (f1,at_,e6) y K ((i:Int),l,g.Nodes,g.Most)=some (h,at_,D,0)/\Mv N f1 h D/\N<=y.Kids.length:=by
 intro m
 induction m with
 | zero =>
  intro i K q g l hi S u J
  obtain ⟨K,rfl⟩:∃E,K=E+1:=⟨K - 1,by omega⟩
  obtain rfl:i=y.Kids.length:=by omega
  simp only [zHM]
  rw [zAN (by simp)]
  exact ⟨g,l,q,rfl,u,J⟩
 | succ m M =>
  intro i K q g l hi S u J
  obtain ⟨K,rfl⟩:∃E,K=E+1:=⟨K - 1,by omega⟩
  have j:i<y.Kids.length:=by omega
  obtain ⟨I,_,hS,V⟩:=u.all hr
  have Q:isB g.Nodes y.Kids[i] 3=false:=by rw [hS.isB];exact F _ (gC j)
  obtain ⟨r,P,G⟩:=zR7 I hfu y.Kids[i] at_ (-1)
  rw [iN (by rw [Q];simp)] at G
  simp only [zHM]
  rw [zAO (by simpa using j),zAS j,zAA,P,zAA]
  rcases G with ⟨e,he,rfl⟩ | ⟨X,h,D,W,C,rfl⟩
  ·simp only
   rw [zAh (by simp;omega),zAA,zBJ (by omega),zAA,gI]
   exact M (i+1) K q g l (by omega) (by omega) u (by omega)
  ·have T:=(C.all I).2.2.2
   simp only
   rw [zAh (by omega),zAA,zBJ (by omega),zAA]
   exact M (i+1) K (q+X) h (l++D) (by omega) (by omega) (u.trans C) (by omega)
end
theorem zcA (f:Forest) (x:Node):Ext f.Nodes (f.Nodes++[x]):=Ext.of_take (List.take_left' rfl) (by simp)
theorem zbk {fu:Nat} {f:Forest} (hr:zAH f=true) (hfu:1000<fu) (n:Int):∃r,zLw fu f n=some r/\(r.2.2.2≠0\/(r.2.2.2=0/\Chg f r.1 r.2.2.1)):=by
 have hs:=zAG hr
 unfold zLw
 rw [zM6 hfu hr (by simp),zAA,show [n].all (inB f)=inB f n by simp]
 by_cases i:inB f n=true
 ·obtain ⟨y,hy⟩:∃x,idx f.Nodes n=some x:=by
   unfold inB at i
   exact zAK (of_decide_eq_true i)
  have q:=hs.kids y (zFB hy)
  rw [i,iA,zAD,hy,zAA,zAi]
  by_cases D:y.Kind=2
  ·rw [iP D];exact ⟨_,rfl,.inl (by simp)⟩
  ·rw [iN D,zAA,zbz hfu (hs.fit hfu) (by simp),zAA]
   by_cases j:zAH f=true/\zb9 f ⟨3,[],[],[],[],0,[],0,0,y.Doc⟩=true
   ·rw [iP j]
    by_cases u:(f.Nodes.length:Int)=f.Most
    ·rw [iP u,zAX,iN (by simp)]
     exact ⟨_,rfl,.inl (by simp)⟩
    ·rw [iN u,zAX,iP rfl,zAA]
     have e:=zWN hr j.2 u
     have I:=zcA f (zZ0 f ⟨3,[],[],[],[],0,[],0,0,y.Doc⟩)
     obtain ⟨h,J,K,F,C,M⟩:=join_l (fu:=fu) (at_:=(f.Nodes.length:Int)) (e6:=0) e hfu q (fun k E=>by
      have G:=zeD hr hy E
      obtain ⟨w,hw⟩:=zJj (zAf hr).2.2.1 hy k E
      rw [zYc hw];exact G) y.Kids.length 0 fu 0 _ [] (by omega) (by omega) (.refl _) (cB _)
     have hs2:=zAG (C.all e).1
     refine ⟨_,F,.inr ⟨rfl,_,h,J,[],K,I,e,C,by omega,Ext.refl _,by simp,by simp,by simp,?_,fun x hx=>?_⟩⟩
     ·have:=hs2.few;simp only;omega
     ·have:=hs2.kids x hx;omega
   ·rw [iN j,zAX,iN (by simp)]
    exact ⟨_,rfl,.inl (by simp)⟩
 ·rw [iL.2 i,jL,zAP]
  exact ⟨_,rfl,.inl (by simp)⟩
def zf0 (a b:List Node):Prop:=b.length=a.length/\∀j w,idx a j=some w->∃v,idx b j=some v/\v.Kind=w.Kind/\v.Parent=w.Parent/\v.Host=w.Host/\v.Kids=w.Kids
theorem zf0.ext (h:zf0 a b):Ext a b:=⟨by rw [h.1];exact cB _,fun j w hw=>by
 obtain ⟨v,e,i,q,u,_⟩:=h.2 j w hw
 exact ⟨v,e,i,by rw [zHR e,zHR hw,q,u]⟩⟩
theorem zf0.set (h:zf0 a b) {n d:Int} {v:Node} (D:idx b n=some v):zf0 a (b.set n.toNat ⟨v.Kind,v.Name,v.Is,v.Data,v.Attrs,v.Parent,v.Kids,v.Host,v.Under,d⟩):=by
 have C:=zAJ D
 refine ⟨by simpa using h.1,fun j w hw=>?_⟩
 obtain ⟨u,e,i⟩:=h.2 j w hw
 by_cases q:j=n
 ·subst q
  rw [D] at e
  obtain rfl:=lJ.inj e
  exact ⟨_,zLO C,i⟩
 ·exact ⟨u,(zJ6 C.1 q).trans e,i⟩
theorem take_l {y6:Node} {d c11:Int} {r13:List Int} (hl:r13.length<=1000) (I:∀k∈r13,InN a k):∀(m i K:Nat) (ns:List Node) (l:List Note),i+m=r13.length->m<K->zf0 a ns->l.length+m<=1000000 ->
  ∃e j,zF9 d y6 c11 r13 K ((i:Int),ns,l)=some (⟨e,c11⟩,l++j,0)/\zf0 a e/\j.length<=m/\∀y∈j,y.Kind=3:=by
 intro m
 induction m with
 | zero =>
  intro i K ns l hi S C _
  obtain ⟨K,rfl⟩:∃D,K=D+1:=⟨K - 1,by omega⟩
  obtain rfl:i=r13.length:=by omega
  simp only [zF9]
  rw [zAN (by simp)]
  exact ⟨ns,[],by rw [gI],C,by simp,by simp⟩
 | succ m P =>
  intro i K ns l hi S C T
  obtain ⟨K,rfl⟩:∃D,K=D+1:=⟨K - 1,by omega⟩
  have h:i<r13.length:=by omega
  have M:=I _ (gC h)
  have u:InN ns r13[i]:=by unfold InN at M ⊢;rw [C.1];exact M
  obtain ⟨v,N⟩:=zAK u
  have q:=C.set (d:=d) N
  simp only [zF9]
  rw [zAO (by simpa using h),zAS h,zAA,N,zAA,zLO u,zAA,zAi]
  by_cases J:v.Kind=1
  ·rw [iP J,zAh (by simp only [cP,eK];omega),zAA,zBJ (by omega),zAA]
   obtain ⟨e,j,E,F,Q,G⟩:=P (i+1) K _ (l++[(⟨3,r13[i],y6.Doc,d,[],false,false,[],[]⟩:Note)]) (by omega) (by omega) q (by simp only [eR,cP,eK];omega)
   refine ⟨e,(⟨3,r13[i],y6.Doc,d,[],false,false,[],[]⟩:Note)::j,?_,F,by simp only [cP];omega,fun y hy=>?_⟩
   ·rw [E,eS];rfl
   ·rcases List.mem_cons.1 hy with rfl | hy
    ·rfl
    ·exact G y hy
  ·rw [iN J,zBJ (by omega),zAA]
   obtain ⟨e,j,E,F,Q,G⟩:=P (i+1) K _ l (by omega) (by omega) q (by omega)
   exact ⟨e,j,E,F,by omega,G⟩
theorem zct {fu:Nat} {f:Forest} {d:Int} {y6:Node} {l:List Note} {m:Nat} (hr:zAH f=true) (hfu:1000<fu) (T:InN f.Nodes n) (E:Mv m f g l) (X:m<=1):∃r,zI1 fu n d y6 (l,g.Nodes,g.Most)=some r/\(r.2.2≠0\/(r.2.2=0/\Chg f r.1 r.2.1)):=by
 obtain ⟨D,_,hS,S⟩:=E.all hr
 have hs:=zAG D
 have J:=hs.few
 have h:InN g.Nodes n:=hS.inN.2 T
 have P:=(zAT D).all_len h
 unfold zI1
 simp only
 rw [zAi]
 by_cases I:y6.Doc=d
 ·rw [iP I]
  exact ⟨_,rfl,.inr ⟨rfl,.of_mv hr E (by omega)⟩⟩
 ·rw [iN I,zKA (by omega),zAA,zYA (f:=⟨g.Nodes,g.Most⟩) hs hfu D h,zAA]
  obtain ⟨q,V,K,C,W,M⟩:=take_l (y6:=y6) (d:=d) (c11:=g.Most) (r13:=zGj g.Nodes n) (a:=g.Nodes) (by omega) (fun k Q=>((zAT D).all_in n h k Q).1) (zGj g.Nodes n).length 0 fu g.Nodes l (by omega) (by omega) ⟨rfl,fun j w hw=>⟨w,hw,rfl,rfl,rfl,rfl⟩⟩ (by omega)
  refine ⟨_,K,.inr ⟨rfl,f,g,l,V,m,Ext.refl _,hr,E,by omega,C.ext,rfl,fun y hy=>.inl (M y hy),by omega,?_,fun x hx=>?_⟩⟩
  ·show q.length<=1000
   rw [C.1];omega
  ·obtain ⟨i,hi,e⟩:=iW hx
   have u:i<g.Nodes.length:=by
    have:i<q.length:=hi
    rw [C.1] at this;exact this
   obtain ⟨v,G,_,_,_,N⟩:=C.2 (i:Int) _ (zAS u)
   have F:idx q (i:Int)=some x:=by
    rw [zAS hi];exact congrArg some e
   rw [F] at G
   rw [lJ.inj G,N]
   have:=hs.kids _ (gC u)
   omega
theorem zcs {fu:Nat} {f:Forest} (hr:zAH f=true) (hfu:1000<fu) (n d:Int):∃r,zJ3 fu f n d=some r/\(r.2.2≠0\/(r.2.2=0/\Chg f r.1 r.2.1)):=by
 have i:∃r,(some (f,([]:List Note),(1:Int)))=some r/\(r.2.2≠0\/(r.2.2=0/\Chg f r.1 r.2.1)):=⟨_,rfl,.inl (by simp)⟩
 have h:∃r,(some (f,([]:List Note),(5:Int)))=some r/\(r.2.2≠0\/(r.2.2=0/\Chg f r.1 r.2.1)):=⟨_,rfl,.inl (by simp)⟩
 unfold zJ3
 rw [zM6 hfu hr (by simp),zAA,zcu hfu hr,zAA,show [n].all (inB f)=inB f n by simp]
 by_cases j:inB f n=true
 ·have e:InN f.Nodes n:=by unfold inB at j;exact of_decide_eq_true j
  obtain ⟨y,hy⟩:=zAK e
  rw [j,iA,zAD]
  by_cases q:isB f.Nodes d 0=true
  ·rw [q,iA,zAD,hy,zAA,zAA]
   have j1:∃r,zI0 fu f n d y ()=some r/\(r.2.2≠0\/(r.2.2=0/\Chg f r.1 r.2.1)):=by
    unfold zI0
    rw [zOX hr hfu,zAA,iP e]
    by_cases u:zJe f.Nodes n = -1
    ·rw [iP u,zAX,iN (by simp)]
     exact zct hr hfu e (.refl f) (by omega)
    ·rw [iN u,zAX,iP rfl]
     have C:Mv 1 f ⟨zMU f.Nodes n,f.Most⟩ (zHS f n):=by simpa using Mv.out (.refl f) e
     exact zct hr hfu e C (by omega)
   rw [zAi,zAi,zAi]
   split
   ·exact h
   ·split
    ·exact h
    ·exact j1
  ·rw [iL.2 q,jL,zAP];exact i
 ·rw [iL.2 j,jL,zAP];exact i
end
section
def zYf:List Bs:=(zFD 0).getD []
theorem zeF (fu:Nat):zFD fu=some zYf:=by
 have h:∃l,zFD 0=some l:=by
  have:(zFD 0).isSome=true:=by decide +kernel
  exact kX.1 this
 obtain ⟨l,hl⟩:=h
 have e:zFD fu=zFD 0:=rfl
 unfold zYf
 rw [e,hl];rfl
theorem zZr:zYf.length<=200:=by decide +kernel
def zbp (s:Bs):Bool:=zYf.contains s
theorem zZp {fu:Nat} {s:Bs} (hfu:1000<fu):zKZ fu s=some (zbp s):=by
 have:=zZr
 unfold zKZ
 rw [zeF,zAA,zKh (by omega) (by omega),zAA]
 rfl
theorem zXi [DecidableEq κ] {l:List (κ × ν)} {k : κ} {v : ν} {x : κ × ν} (h:x∈zHP l k v):x∈l\/x=(k,v):=by
 unfold zHP at h
 split at h
 ·rcases dT h with h | h
  ·exact .inl h
  ·exact .inr h
 ·rcases cA.1 h with h | h
  ·exact .inl h
  ·exact .inr (e8.1 h)
theorem zUa [DecidableEq κ] {l:List (κ × ν)} {k : κ} {z : ν} (h:zLS l k=true):(k,zLd l k z)∈l:=by
 unfold zLS at h
 unfold zLd
 cases e:zIM l k with
 | none=>rw [e] at h;cases h
 | some j =>
  obtain ⟨v,i⟩:=zJd e
  simp only [i]
  exact lU i
def defB (y:Def):Bool:=zFf y.Name&&((y.Local==y.Name||zbp y.Local)&&(decide (0<=y.Class)&&decide (y.Class<12)))
def rdF (n:Nat):List Def->Nat->List (Int×Int)->List (Bs×Int)->zCt×Bool
 | [],_,l3,l4=>(⟨l4,l3⟩,decide (l4.length=n)&&decide (l3.length=n))
 | y::t,i,l3,l4=>if defB y=true then rdF n t (i+1) (zHP l3 y.Class (i:Int)) (zHP l4 y.Name (i:Int)) else (⟨zHP l4 y.Name (i:Int),zHP l3 y.Class (i:Int)⟩,false)
theorem zcf {fu:Nat} {i:Int} {e:List (Int×Int)} {l4:List (Bs×Int)} {y:Def} {rc:Int×List (Int×Int)×List (Bs×Int)->Option (zCt×Bool)} {b:Bool} (hfu:1000<fu) (u:0<=i) (C:i<=1000000) (q:b=(y.Local==y.Name||zbp y.Local)) :
  zIg fu i e l4 y rc b=if defB y=true then rc (i+1,zHP e y.Class i,zHP l4 y.Name i) else some (⟨zHP l4 y.Name i,zHP e y.Class i⟩,false):=by
 unfold zIg defB
 rw [<- q,zIN (by omega),zAA,zKC (by simp only [lo,Go.Pw.hi];omega),zAA]
 cases zFf y.Name with
 | false=>rfl
 | true =>
  cases b with
  | false=>rfl
  | true =>
   simp only [iA,zAD,iD,zAR]
   by_cases h:y.Class<0
   ·rw [iP h,decide_eq_false (by omega)];rfl
   ·rw [iN h,decide_eq_true (by omega)]
    by_cases j:y.Class>=12
    ·rw [iP j,decide_eq_false (by omega)];rfl
    ·rw [iN j,decide_eq_true (by omega)];rfl
theorem zhS {fu:Nat} {d:Desk} (hfu:1000<fu) (hl:d.Defs.length<=900):zLi fu d=some (rdF d.Defs.length d.Defs 0 [] []):=by
 have F:∀(j i k:Nat) (C:List (Int×Int)) (q:List (Bs×Int)),i+j=d.Defs.length->j<k->zEY fu d k ((i:Int),C,q)=some (rdF d.Defs.length (d.Defs.drop i) i C q):=by
  intro j
  induction j with
  | zero =>
   intro i k C q hi J
   obtain ⟨k,rfl⟩:∃E,k=E+1:=⟨k - 1,by omega⟩
   obtain rfl:i=d.Defs.length:=by omega
   simp only [zEY]
   rw [zAN (by simp),kK,zAi]
   unfold rdF
   have e:∀m:Nat,(((m:Nat):Int)==(d.Defs.length:Int))=decide (m=d.Defs.length):=fun m=>by
    rw [eW,beq_iff_eq,decide_eq_true_eq];omega
   rw [e]
   by_cases G:q.length=d.Defs.length
   ·rw [iP (by omega),decide_eq_true G];rfl
   ·rw [iN (by omega),decide_eq_false G];rfl
  | succ j K =>
   intro i k C q hi J
   obtain ⟨k,rfl⟩:∃E,k=E+1:=⟨k - 1,by omega⟩
   have h:i<d.Defs.length:=by omega
   simp only [zEY]
   rw [zAO (by simpa using h),zAS h,zAA,zAi,zZp hfu,zAA,eT h]
   have u:=K (i+1) k (zHP C d.Defs[i].Class (i:Int)) (zHP q d.Defs[i].Name (i:Int)) (by omega) (by omega)
   have I:((i+1:Nat):Int)=(i:Int)+1:=by omega
   rw [I] at u
   have fin:(if defB d.Defs[i]=true then zEY fu d k ((i:Int)+1,zHP C d.Defs[i].Class (i:Int),zHP q d.Defs[i].Name (i:Int)) else some ((⟨zHP q d.Defs[i].Name (i:Int),zHP C d.Defs[i].Class (i:Int)⟩:zCt),false))=some (rdF d.Defs.length (d.Defs[i]::d.Defs.drop (i+1)) i C q):=by
    rw [u]
    simp only [rdF]
    split<;>rfl
   by_cases D:d.Defs[i].Local=d.Defs[i].Name
   ·rw [iP D,zcf hfu (by omega) (by omega) (by rw [show (d.Defs[i].Local==d.Defs[i].Name)=true by simpa using D];rfl)]
    exact fin
   ·rw [iN D,zcf hfu (by omega) (by omega) (by rw [show (d.Defs[i].Local==d.Defs[i].Name)=false by simpa using D];rfl)]
    exact fin
 unfold zLi
 have:=F d.Defs.length 0 fu [] [] (by omega) (by omega)
 simpa using this
def zHx (d:Desk):zCt×Bool:=rdF d.Defs.length d.Defs 0 [] []
theorem zY3 {n:Nat}:∀(l:List Def) (i:Nat) (j:List (Int×Int)) (l4:List (Bs×Int)),i+l.length=n->(∀x∈l4,0<=x.2/\x.2<(n:Int))->∀x∈(rdF n l i j l4).1.names,0<=x.2/\x.2<(n:Int)
 | [],_,_,_,_,h=>h
 | y::t,i,j,l4,hi,h=>by
  simp only [cP] at hi
  have e:∀x∈zHP l4 y.Name (i:Int),0<=x.2/\x.2<(n:Int):=fun x hx=>by
   rcases zXi hx with hx | rfl
   ·exact h x hx
   ·simp only;omega
  simp only [rdF]
  split
  ·exact zY3 t (i+1) _ _ (by omega) e
  ·exact e
theorem zMq {d:Desk} {s:Bs} (h:zLS (zHx d).1.names s=true):0<=zLd (zHx d).1.names s 0/\zLd (zHx d).1.names s 0<(d.Defs.length:Int) :=
 zY3 d.Defs 0 [] [] (by omega) (by simp) _ (zUa h)
def opF (names:List (Bs×Int)) (next:Int):List Wait->Bool->Int->Bool
 | [],ok,_=>ok&&(decide (0<=next)&&decide (next<=100000))
 | y::t,ok,e=>opF names next t (ok&&(!zLS names y.Name&&(zFf y.Name&&(decide (e<y.Ticket)&&decide (y.Ticket<next))))) y.Ticket
def zLL (d:Desk):Bool:=opF (zHx d).1.names d.Next d.Waits (zHx d).2 (-1)
theorem zXk {fu:Nat} {d:Desk} (hfu:1000<fu) (hl:d.Defs.length<=900) (hw:d.Waits.length<=900):zH6 fu d=some ((zHx d).1,zLL d):=by
 have E:∀(j i k:Nat) (ok:Bool) (e:Int),i+j=d.Waits.length->j<k->zDj fu d (zHx d) k (ok,e,(i:Int))=some ((zHx d).1,opF (zHx d).1.names d.Next (d.Waits.drop i) ok e):=by
  intro j
  induction j with
  | zero =>
   intro i k ok e hi F
   obtain ⟨k,rfl⟩:∃D,k=D+1:=⟨k - 1,by omega⟩
   obtain rfl:i=d.Waits.length:=by omega
   simp only [zDj]
   rw [zAN (by simp),kK]
   unfold opF
   cases ok with
   | false=>rfl
   | true =>
    rw [zAP,zAR]
    by_cases u:d.Next>=0
    ·rw [iP u,decide_eq_true (show 0<=d.Next from u)];rfl
    ·rw [iN u,decide_eq_false (show ¬0<=d.Next from u)];rfl
  | succ j G =>
   intro i k ok e hi F
   obtain ⟨k,rfl⟩:∃D,k=D+1:=⟨k - 1,by omega⟩
   have h:i<d.Waits.length:=by omega
   have q:=fun b=>G (i+1) k b d.Waits[i].Ticket (by omega) (by omega)
   simp only [zDj]
   rw [zAO (by simpa using h),zAS h,zAA,zIN (by omega),zAA,zBJ (by omega),eT h]
   simp only [zAA,q]
   simp only [opF]
   generalize zLS (zHx d).1.names d.Waits[i].Name=m
   cases ok with
   | false=>simp
   | true =>
    cases m with
    | true=>simp
    | false =>
     cases zFf d.Waits[i].Name with
     | false=>simp
     | true =>
      rw [zAP,jL,zAP,zAP,zAR]
      by_cases C:d.Waits[i].Ticket>e
      ·rw [iP C,decide_eq_true (show e<d.Waits[i].Ticket from C)];simp
      ·rw [iN C,decide_eq_false (show ¬e<d.Waits[i].Ticket from C)];simp
 unfold zH6
 rw [zhS hfu hl,zAA]
 have:=E d.Waits.length 0 fu (zHx d).2 (-1) (by omega) (by omega)
 simpa [zLL,zHx] using this
theorem zRu {fu:Nat} {d:Desk} (hfu:1000<fu) (hl:d.Defs.length<=900) (hw:d.Waits.length<=900):zHD fu d=some (zLL d):=by
 unfold zHD
 rw [zXk hfu hl hw,zAA]
def zXQ (d:Desk) (loc e:Bs):Int :=
 if zLL d=true then
  (if zLS (zHx d).1.names loc=true/\(idx d.Defs (zLd (zHx d).1.names loc 0)).map (·.Local)=some loc then zLd (zHx d).1.names loc 0
  else if zLS (zHx d).1.names e=true/\(idx d.Defs (zLd (zHx d).1.names e 0)).map (·.Local)=some loc then zLd (zHx d).1.names e 0
  else -1)
 else -1
theorem find_d {fu:Nat} {d:Desk} {loc e:Bs} (hfu:1000<fu) (hl:d.Defs.length<=900) (hw:d.Waits.length<=900):zLg fu d loc e=some (zXQ d loc e):=by
 have j1:zIf d loc e ((zHx d).1,zLL d) ()=some (if zLS (zHx d).1.names e=true/\(idx d.Defs (zLd (zHx d).1.names e 0)).map (·.Local)=some loc then zLd (zHx d).1.names e 0 else -1):=by
  unfold zIf
  simp only
  cases h:zLS (zHx d).1.names e with
  | false=>simp
  | true =>
   obtain ⟨y,hy⟩:=zAK (zMq h)
   rw [zAP,hy,zAA,zAi]
   simp only [lW,true_and,lJ.injEq]
   split<;>rfl
 unfold zLg zXQ
 rw [zXk hfu hl hw,zAA,j1]
 simp only
 cases i:zLL d with
 | false=>rfl
 | true =>
  rw [iA,zAD,iP rfl]
  cases h:zLS (zHx d).1.names loc with
  | false=>simp
  | true =>
   obtain ⟨y,hy⟩:=zAK (zMq h)
   rw [zAP,hy,zAA,zAi]
   simp only [lW,true_and,lJ.injEq]
   split<;>rfl
theorem zd4 {d:Desk} {loc e:Bs}:zXQ d loc e = -1\/(0<=zXQ d loc e/\zXQ d loc e<(d.Defs.length:Int)):=by
 unfold zXQ
 split
 ·split
  ·rename_i h;exact .inr (zMq h.1)
  ·split
   ·rename_i h;exact .inr (zMq h.1)
   ·exact .inl rfl
 ·exact .inl rfl
end
section
theorem zPt {names:List (Bs×Int)} {next:Int}:∀{ws:List Wait} {ok:Bool} {e:Int},opF names next ws ok e=true->ok=true/\0<=next/\next<=100000
 | [],ok,e,h=>by
  simp only [opF,lM,decide_eq_true_eq] at h
  exact ⟨h.1,h.2.1,h.2.2⟩
 | y::t,ok,e,h=>by
  simp only [opF] at h
  have:=zPt h
  simp only [lM] at this
  exact ⟨this.1.1,this.2⟩
theorem zYn {names:List (Bs×Int)} {next:Int} (q:next+1<=100000):∀{ws:List Wait} {ok:Bool} {e:Int},opF names next ws ok e=true->opF names (next+1) ws ok e=true
 | [],ok,e,h=>by
  simp only [opF,lM,decide_eq_true_eq] at h ⊢
  exact ⟨h.1,by omega,q⟩
 | y::t,ok,e,h=>by
  simp only [opF] at h ⊢
  have i:=(zPt h).1
  have j:=zYn q h
  simp only [lM,decide_eq_true_eq] at i
  rw [i.1,i.2.1,i.2.2.1,decide_eq_true i.2.2.2.1,decide_eq_true i.2.2.2.2] at j
  rw [i.1,i.2.1,i.2.2.1,decide_eq_true i.2.2.2.1,decide_eq_true (show y.Ticket<next+1 by omega)]
  exact j
theorem zYo {names:List (Bs×Int)} {next:Int} {s:Bs} (u:next+1<=100000) (hs:zLS names s=false) (q:zFf s=true):∀{ws:List Wait} {ok:Bool} {e:Int},opF names next ws ok e=true->e<next->opF names (next+1) (ws++[⟨s,next⟩]) ok e=true
 | [],ok,e,h,hl=>by
  simp only [opF,lM,decide_eq_true_eq] at h
  simp only [iU,opF,lM,decide_eq_true_eq,hs,q]
  exact ⟨⟨h.1,rfl,trivial,hl,by omega⟩,by omega,u⟩
 | y::t,ok,e,h,hl=>by
  simp only [opF] at h
  simp only [List.cons_append,opF]
  have i:=(zPt h).1
  simp only [lM,decide_eq_true_eq] at i
  have j:=zYo u hs q h i.2.2.2.2
  rw [i.1,i.2.1,i.2.2.1,decide_eq_true i.2.2.2.1,decide_eq_true i.2.2.2.2] at j
  rw [i.1,i.2.1,i.2.2.1,decide_eq_true i.2.2.2.1,decide_eq_true (show y.Ticket<next+1 by omega)]
  exact j
def zGX (d:Desk) (s:Bs):Desk×Int×Int×Int :=
 if zLL d=false then (d,-1,-1,1) else if zFf s=false then (d,-1,-1,4) else if d.Next=100000 then (d,-1,-1,3)
 else if zLS (zHx d).1.names s=true then (⟨d.Defs,d.Waits,d.Next+1,d.Busy⟩,d.Next,zLd (zHx d).1.names s 0,0)
 else (⟨d.Defs,d.Waits++[⟨s,d.Next⟩],d.Next+1,d.Busy⟩,d.Next,-1,0)
theorem zdk {fu:Nat} {d:Desk} {s:Bs} (hfu:1000<fu) (hl:d.Defs.length<=900) (hw:d.Waits.length<=900):zKU fu d s=some (zGX d s):=by
 unfold zKU zGX
 rw [zXk hfu hl hw,zAA]
 simp only
 cases h:zLL d with
 | false=>rfl
 | true =>
  have q:=(zPt h).2
  rw [iA,zAD,iN (by simp),zIN (by omega),zAA]
  cases i:zFf s with
  | false=>rfl
  | true =>
   rw [iA,zAD,iN (by simp),zAi]
   by_cases e:d.Next=100000
   ·rw [iP e,iP e]
   ·rw [iN e,iN e,zKC (by simp only [lo,Go.Pw.hi];omega),zAA]
    cases j:zLS (zHx d).1.names s with
    | true=>rfl
    | false =>
     rw [zAD,iN (by simp)]
     unfold zFq
     rw [zAh (by simp;omega),zAA,zAA,zAh (by simp;omega),zAA]
     rfl
theorem zOG {d:Desk} {s:Bs} (h:(zGX d s).2.2.2=0):zLL d=true/\zLL (zGX d s).1=true/\zFf s=true/\(zGX d s).1.Defs=d.Defs/\(zGX d s).1.Busy=d.Busy/\(zGX d s).1.Next=d.Next+1/\(zGX d s).2.1=d.Next/\0<=d.Next /\
  (((zGX d s).2.2.1 = -1/\(zGX d s).1.Waits=d.Waits++[⟨s,d.Next⟩])\/(0<=(zGX d s).2.2.1/\(zGX d s).2.2.1<(d.Defs.length:Int)/\(zGX d s).1.Waits=d.Waits)):=by
 unfold zGX at h ⊢
 by_cases u:zLL d=false
 ·rw [iP u] at h;simp only at h;omega
 ·rw [iN u] at h ⊢
  have e:zLL d=true:=by simpa using u
  by_cases q:zFf s=false
  ·rw [iP q] at h;simp only at h;omega
  ·rw [iN q] at h ⊢
   have i:zFf s=true:=by simpa using q
   by_cases C:d.Next=100000
   ·rw [iP C] at h;simp only at h;omega
   ·rw [iN C] at h ⊢
    have D:=(zPt e).2
    by_cases j:zLS (zHx d).1.names s=true
    ·rw [iP j]
     have E:=zMq j
     exact ⟨e,zYn (by omega) e,i,rfl,rfl,rfl,rfl,D.1,.inr ⟨E.1,E.2,rfl⟩⟩
    ·rw [iN j]
     exact ⟨e,zYo (by omega) (iL.2 j) i e (by omega),i,rfl,rfl,rfl,rfl,D.1,.inl ⟨rfl,rfl⟩⟩
def zMt (x:Node) (d:Desk):Int:=if x.Kind=1 then (if x.Doc=0 then zXQ d x.Name x.Is else -1) else -1
theorem zO3 {d:Desk}:zMt x d = -1\/(0<=zMt x d/\zMt x d<(d.Defs.length:Int)):=by
 unfold zMt
 split
 ·split
  ·exact zd4
  ·exact .inl rfl
 ·exact .inl rfl
theorem zbR {fu:Nat} {d:Desk} (hfu:1000<fu) (hl:d.Defs.length<=900) (hw:d.Waits.length<=900):zJq fu x d=some (zMt x d):=by
 unfold zJq zMt
 rw [zAX,zAX,find_d hfu hl hw,zAA]
 by_cases e:x.Kind=1
 ·rw [iP e,iP e]
  split<;>rfl
 ·rw [iN e,iN e]
theorem zaU {fu:Nat} {f:Forest} {d:Desk} (hfu:1000<fu) (hl:d.Defs.length<=900) (hw:d.Waits.length<=900) (hr:zAH f=true):zJp fu f n d=some (match idx f.Nodes n with | some x=>zMt x d | none => -1):=by
 unfold zJp
 rw [zAR,zAR,zFA hfu ((zAG hr).fit hfu),zAA,hr,iA,zAD]
 by_cases e:n<0
 ·rw [iP e,zCf (by omega)]
 ·rw [iN e]
  by_cases h:n>=(f.Nodes.length:Int)
  ·rw [iP h,zCf (by omega)]
  ·obtain ⟨x,hx⟩:=zAK (l:=f.Nodes) (n:=n) (by omega)
   rw [iN h,hx,zAA,zbR hfu hl hw,zAA]
def zfv (at_:Int):Todo:=⟨9,at_,[],false,false,[],[],0,0,false⟩
def zPR (d:Desk) (l:List (Int×Node)):List Due:=l.filterMap fun p=>if zMt p.2 d = -1 then none else some ⟨p.1,zfv (zMt p.2 d)⟩
theorem zX2 {fu:Nat} {d:Desk} (hfu:1000<fu) (hl:d.Defs.length<=900) (hw:d.Waits.length<=900):∀(l:List (Int×Node)) (acc:List Due),acc.length+l.length<=1000000->zFK fu d l acc=some (acc++zPR d l)
 | [],acc,_=>by simp [zFK,zPR]
 | p::l,acc,h=>by
  simp only [cP] at h
  simp only [zFK]
  rw [zbR hfu hl hw,zAA,zAX]
  unfold zPR
  rw [kQ]
  by_cases e:zMt p.2 d = -1
  ·rw [iP e,iP e,zX2 hfu hl hw l acc (by omega)]
   rfl
  ·rw [iN e,iN e,zAh (by simp only [cP,eK];omega),zAA,zX2 hfu hl hw l _ (by simp only [eR,cP,eK];omega),eS]
   rfl
def zSr (ns:List Node) (l:List Int):List (Int×Node):=l.filterMap fun k=>match idx ns k with
 | some x=>if x.Kind=1 then some (k,x) else none
 | none=>none
theorem zbG {ns:List Node}:∀{l:List Int},(∀k∈l,InN ns k)->zUJ ns l=some (zSr ns l)
 | [],_=>rfl
 | k::l,h=>by
  obtain ⟨x,hx⟩:=zAK (h k (lH ..))
  simp only [zUJ]
  rw [hx,zAA,zbG fun j i=>h j (lG _ i),zAA]
  unfold zSr
  rw [kQ,hx]
  by_cases e:x.Kind=1
  ·simp [e]
  ·simp [e]
theorem zfB {fu:Nat} {f:Forest} {d:Desk} (hfu:1000<fu) (hl:d.Defs.length<=900) (hw:d.Waits.length<=900) (hr:zAH f=true) (e:InN f.Nodes n):zKW fu f n d=some (zPR d (zSr f.Nodes (zGj f.Nodes n))):=by
 have hs:=zAG hr
 have h:=hs.few
 have i:=(zAT hr).all_len e
 unfold zKW zNE
 rw [zAA,zYA hs hfu hr e,zAA,zbG fun k j=>((zAT hr).all_in n e k j).1,zAA]
 have:(zSr f.Nodes (zGj f.Nodes n)).length<=(zGj f.Nodes n).length:=kL _ _
 rw [zX2 hfu hl hw _ _ (by simp only [eK];omega),iU]
end
section
theorem zAY {i:Nat} (h:i<=1000000000000):rng .i64 ((i:Int)+1)=some ((i+1:Nat):Int):=by
 rw [zKC (by simp only [lo,Go.Pw.hi];omega)]
 rfl
theorem zQq {fu:Nat} {t:Bs->Option Bool} {p:Bs->Bool} {l:List (Bs)} (j:∀x∈l,t x=some (p x)) (hf:l.length<fu) (q:l.length<=1000000000):zCV fu t l=some (l.any p):=by
 unfold zCV zEx
 obtain ⟨r,e,h⟩:=zG0 (L:=zBP t l) l p (fun i hi k=>by
  simp only [zBP]
  rw [zAO (by simpa using hi),zAS hi,zAA,j _ (gC hi),zAA,zAY (by omega),zAA]
  cases p l[i]<;>rfl) (fun k=>by simp only [zBP];rw [zAN (by simp)]) hf
 rw [e,zAA,h]
theorem zPi {fu:Nat} {t:Hook->Option Bool} {p:Hook->Bool} {l:List (Hook)} (j:∀x∈l,t x=some (p x)) (hf:l.length<fu) (q:l.length<=1000000000):zCD fu t l=some (l.any p):=by
 unfold zCD zEL
 obtain ⟨r,e,h⟩:=zG0 (L:=zBD t l) l p (fun i hi k=>by
  simp only [zBD]
  rw [zAO (by simpa using hi),zAS hi,zAA,j _ (gC hi),zAA,zAY (by omega),zAA]
  cases p l[i]<;>rfl) (fun k=>by simp only [zBD];rw [zAN (by simp)]) hf
 rw [e,zAA,h]
theorem zOz {fu:Nat} {t:Class->Option Bool} {p:Class->Bool} {l:List (Class)} (j:∀x∈l,t x=some (p x)) (hf:l.length<fu) (q:l.length<=1000000000):zB3 fu t l=some (l.any p):=by
 unfold zB3 zEB
 obtain ⟨r,e,h⟩:=zG0 (L:=zA1 t l) l p (fun i hi k=>by
  simp only [zA1]
  rw [zAO (by simpa using hi),zAS hi,zAA,j _ (gC hi),zAA,zAY (by omega),zAA]
  cases p l[i]<;>rfl) (fun k=>by simp only [zA1];rw [zAN (by simp)]) hf
 rw [e,zAA,h]
theorem zQo {fu:Nat} {t:Def->Option Bool} {p:Def->Bool} {l:List (Def)} (j:∀x∈l,t x=some (p x)) (hf:l.length<fu) (q:l.length<=1000000000):zCT fu t l=some (l.any p):=by
 unfold zCT zEw
 obtain ⟨r,e,h⟩:=zG0 (L:=zBO t l) l p (fun i hi k=>by
  simp only [zBO]
  rw [zAO (by simpa using hi),zAS hi,zAA,j _ (gC hi),zAA,zAY (by omega),zAA]
  cases p l[i]<;>rfl) (fun k=>by simp only [zBO];rw [zAN (by simp)]) hf
 rw [e,zAA,h]
theorem zPk {fu:Nat} {t:Todo->Option Bool} {p:Todo->Bool} {l:List (Todo)} (j:∀x∈l,t x=some (p x)) (hf:l.length<fu) (q:l.length<=1000000000):zCF fu t l=some (l.any p):=by
 unfold zCF zEN
 obtain ⟨r,e,h⟩:=zG0 (L:=zBF t l) l p (fun i hi k=>by
  simp only [zBF]
  rw [zAO (by simpa using hi),zAS hi,zAA,j _ (gC hi),zAA,zAY (by omega),zAA]
  cases p l[i]<;>rfl) (fun k=>by simp only [zBF];rw [zAN (by simp)]) hf
 rw [e,zAA,h]
theorem zPj {fu:Nat} {t:Task->Option Bool} {p:Task->Bool} {l:List (Task)} (j:∀x∈l,t x=some (p x)) (hf:l.length<fu) (q:l.length<=1000000000):zCE fu t l=some (l.any p):=by
 unfold zCE zEM
 obtain ⟨r,e,h⟩:=zG0 (L:=zBE t l) l p (fun i hi k=>by
  simp only [zBE]
  rw [zAO (by simpa using hi),zAS hi,zAA,j _ (gC hi),zAA,zAY (by omega),zAA]
  cases p l[i]<;>rfl) (fun k=>by simp only [zBE];rw [zAN (by simp)]) hf
 rw [e,zAA,h]
theorem zOy {fu:Nat} {t:Build->Option Bool} {p:Build->Bool} {l:List (Build)} (j:∀x∈l,t x=some (p x)) (hf:l.length<fu) (q:l.length<=1000000000):zB2 fu t l=some (l.any p):=by
 unfold zB2 zEA
 obtain ⟨r,e,h⟩:=zG0 (L:=zA0 t l) l p (fun i hi k=>by
  simp only [zA0]
  rw [zAO (by simpa using hi),zAS hi,zAA,j _ (gC hi),zAA,zAY (by omega),zAA]
  cases p l[i]<;>rfl) (fun k=>by simp only [zA0];rw [zAN (by simp)]) hf
 rw [e,zAA,h]
theorem zQp {fu:Nat} {t:Due->Option Bool} {p:Due->Bool} {l:List (Due)} (j:∀x∈l,t x=some (p x)) (hf:l.length<fu) (q:l.length<=1000000000):zCU fu t l=some (l.any p):=by
 unfold zCU zAz
 obtain ⟨r,e,h⟩:=zG0 (L:=zAb t l) l p (fun i hi k=>by
  simp only [zAb]
  rw [zAO (by simpa using hi),zAS hi,zAA,j _ (gC hi),zAA,zAY (by omega),zAA]
  cases p l[i]<;>rfl) (fun k=>by simp only [zAb];rw [zAN (by simp)]) hf
 rw [e,zAA,h]
end
section
def inL (l:Line) (n:Int):Bool:=decide (0<=n)&&decide (n<(l.Todos.length:Int))
def zHp (l:Line):Bool:=(l.Stack++[l.Back]).all fun e=>e.all (inL l)
structure LS (B:Nat) (l:Line):Prop where
 todos:l.Todos.length<=B
 todo:∀t∈l.Todos,t.length<=B
 stack:l.Stack.length<=B
 lists:∀t∈l.Stack,t.length<=B
 back:l.Back.length<=B
theorem LS.mono {B C:Nat} (h:LS B l) (e:B<=C):LS C l:=⟨eM h.todos e,fun t i=>eM (h.todo t i) e,eM h.stack e,fun t i=>eM (h.lists t i) e,eM h.back e⟩
section
variable {fu B:Nat} (hB:B<=1000000000) (hfu:B+1<fu)
include hB
omit hB in
theorem in_ok:zMd fu l n=some (inL l n):=by
 unfold zMd inL
 rw [zAR]
 by_cases h:n>=0
 ·rw [iP h,decide_eq_true (show 0<=n from h),iD]
 ·rw [iN h,decide_eq_false (show ¬0<=n from h),jD]
omit hB in
theorem zYK {l:List (List Int)} (h:l.length<=1000000000):zD9 fu l=some l:=by
 unfold zD9
 rw [zAh (by simp;omega),zAA,iU]
omit hB in
theorem zdq {l:List (List Todo)} (h:l.length<=1000000000):zDc fu l=some l:=by
 unfold zDc
 rw [zAh (by simp;omega),zAA,iU]
omit hB in
theorem za0 {l:List Int} (h:l.length<=1000000000):zBe fu l=some l:=by
 unfold zBe
 rw [zAh (by simp;omega),zAA,iU]
omit hB in
theorem zgS {l:List Todo} (h:l.length<=1000000000):zEH fu l=some l:=by
 unfold zEH
 rw [zAh (by simp;omega),zAA,iU]
omit hB in
theorem za2 {l:List State} (h:l.length<=1000000000):zCb fu l=some l:=by
 unfold zCb
 rw [zAh (by simp;omega),zAA,iU]
omit hB in
theorem za1 {l:List Task} (h:l.length<=1000000000):zCu fu l=some l:=by
 unfold zCu
 rw [zAh (by simp;omega),zAA,iU]
include hfu
theorem zex {t:Nat} {y:List Int} {rc:Int->Option Bool} (hy:y.length<=B) (e:t<=B):zFS fu l (t:Int) y rc fu 0=bif y.all (inL l) then rc ((t+1:Nat):Int) else some false:=by
 refine zLb (L:=zFS fu l (t:Int) y rc) y (inL l) (rc ((t+1:Nat):Int)) (fun i hi k=>?_) (fun k=>?_) (by omega)
 ·simp only [zFS]
  rw [zAO (by simpa using hi),zAS hi,zAA,in_ok,zAA,zAY (by omega),zAA]
  cases inL l y[i]<;>rfl
 ·simp only [zFS]
  rw [zAN (by simp),zAY (by omega),zAA]
theorem zV0 (h:LS B l):zIi fu l=some (zHp l):=by
 have hst:=h.stack
 unfold zIi zHp
 rw [zYK (by omega),zAA,zAh (by simp only [cP,eK];omega),zAA]
 refine (zLb (L:=zFR fu l l.Stack) (l.Stack++[l.Back]) (fun q=>q.all (inL l)) (some true) (fun i hi k=>?_) (fun k=>?_) (by simp;omega)).trans ?_
 ·have hy:(l.Stack++[l.Back])[i].length<=B:=by
   rcases cA.1 (gC hi) with j | j
   ·exact h.lists _ j
   ·rw [e8.1 j];exact h.back
  have e:i<=B:=by simp at hi;omega
  simp only [zFR]
  rw [zAO (decide_eq_true (Int.ofNat_lt.2 hi)),zAS hi,zAA,zex hB hfu hy e]
 ·simp only [zFR]
  rw [zAN (by simp)]
 ·cases (l.Stack++[l.Back]).all fun q=>q.all (inL l)<;>rfl
omit hfu in
theorem own_l (h:LS B l):zK4 fu l=some l:=by
 have:=h.todos
 have:=h.stack
 have:=h.back
 unfold zK4
 rw [zdq (by omega),zAA,zYK (by omega),zAA,za0 (by omega),zAA]
def zgo (l:Line):Line:=⟨l.Todos++[[]],l.Stack,l.Back,l.Busy⟩
omit hfu in
theorem zgp (h:LS B l):zJs fu l=some (zgo l):=by
 have:=h.todos
 unfold zJs
 rw [own_l hB h,zAA,zAh (by simp only [cP,eK];omega),zAA]
 rfl
def zQz (l:Line) (n:Int) (t:Todo):Line×Bool :=
 if l.Stack=[] then (⟨l.Todos.set n.toNat ((l.Todos[n.toNat]?).getD []++[t]),l.Stack,l.Back++[n],true⟩,!l.Busy)
 else (⟨l.Todos.set n.toNat ((l.Todos[n.toNat]?).getD []++[t]),l.Stack.set (l.Stack.length - 1) ((l.Stack[l.Stack.length - 1]?).getD []++[n]),l.Back,l.Busy⟩,false)
theorem add_ok (h:LS B l) {n:Int} {t:Todo} (hr:zHp l=true) (j:inL l n=true):zM8 fu l n t=some ((zQz l n t).1,(zQz l n t).2,0):=by
 have C:=h.todos
 have D:=h.stack
 have E:=h.back
 unfold inL at j
 simp only [lM,decide_eq_true_eq] at j
 obtain ⟨i,rfl⟩:∃i:Nat,n=(i:Int):=⟨n.toNat,by omega⟩
 have hi:i<l.Todos.length:=by omega
 have e:inL l (i:Int)=true:=by unfold inL;simp only [lM,decide_eq_true_eq];omega
 have F:=h.todo _ (gC hi)
 unfold zM8 zQz
 rw [zV0 hB hfu h,zAA,hr,iA,zAD,in_ok,zAA,e,iA,zAD,own_l hB h,zAA,zAS hi,zAA,zgS (by omega),zAA,zAh (by simp only [cP,eK];omega),zAA,zAA,
  zKC (by simp only [lo,Go.Pw.hi];omega),zAA,eO,lC hi,cM,zAR]
 by_cases hs:l.Stack=[]
 ·rw [iN (by rw [hs];simp),iP hs,zAh (by simp only [cP,eK];omega),zAA]
 ·have q:0<l.Stack.length:=List.length_pos_iff.2 hs
  have u:(l.Stack.length:Int) - 1=((l.Stack.length - 1:Nat):Int):=by omega
  have hl:l.Stack.length - 1<l.Stack.length:=by omega
  have G:=h.lists _ (gC hl)
  rw [iP (by omega),iN hs,u,zAS hl,zAA,za0 (by omega),zAA,zAh (by simp only [cP,eK];omega),zAA,zAA,eO,lC hl,cM]
end
theorem zOq:(zQz l n t).1.Todos.length=l.Todos.length:=by
 unfold zQz;split<;>simp
theorem zRB {m:Line} (h:m.Todos.length=l.Todos.length):inL m=inL l:=by
 funext n;unfold inL;rw [h]
theorem zS0 (hr:zHp l=true) (j:inL l n=true):zHp (zQz l n t).1=true:=by
 unfold zHp at hr ⊢
 rw [zRB zOq]
 rw [lR] at hr ⊢
 intro q i
 unfold zQz at i
 split at i
 ·simp only [cA,e8] at i
  rcases i with h | rfl
  ·exact hr q (by simp [h])
  ·rw [kY,hr l.Back (by simp)]
   simp [j]
 ·simp only [cA,e8] at i
  rcases i with h | rfl
  ·rcases dT h with h | rfl
   ·exact hr q (by simp [h])
   ·rw [kY]
    have:(((l.Stack[l.Stack.length - 1]?).getD []).all (inL l))=true:=by
     cases e:l.Stack[l.Stack.length - 1]? with
     | none=>rfl
     | some a=>exact hr a (by simp [lU e])
    rw [this];simp [j]
  ·exact hr l.Back (by simp)
theorem zS1 {B:Nat} (h:LS B l):LS (B+1) (zQz l n t).1:=by
 have q:=h.todos
 have u:=h.stack
 have C:=h.back
 have j:((l.Todos[n.toNat]?).getD []).length<=B:=by
  cases e:l.Todos[n.toNat]? with
  | none=>simp
  | some a=>exact h.todo a (lU e)
 have i:∀x∈l.Todos.set n.toNat ((l.Todos[n.toNat]?).getD []++[t]),x.length<=B+1:=fun x hx=>by
  rcases dT hx with hx | rfl
  ·have:=h.todo x hx;omega
  ·simp only [eR,cP,eK];omega
 unfold zQz
 split
 ·exact ⟨by simp;omega,i,by simp only;omega,fun x hx=>by have:=h.lists x hx;omega,by simp;omega⟩
 ·refine ⟨by simp;omega,i,by simp;omega,fun x hx=>?_,by simp only;omega⟩
  rcases dT hx with hx | rfl
  ·have:=h.lists x hx;omega
  ·simp only [eR,cP,eK]
   have:((l.Stack[l.Stack.length - 1]?).getD []).length<=B:=by
    cases e:l.Stack[l.Stack.length - 1]? with
    | none=>simp
    | some a=>exact h.lists a (lU e)
   omega
end
section
def zbd (h:Hook):Bool:=decide (1<=h.Kind)&&(decide (h.Kind<=8)&&decide (h.Do.length<=60))
def zIb (c:Class):Bool:=decide (c.Watch.length<=12)&&(c.Watch.all zXR&&(decide (c.Hooks.length<=12)&&(c.Hooks.all zbd&&(decide (c.Peek.length<=60)&&decide (c.Make.length<=60)))))
theorem zXd {fu:Nat} {l:List Op}:zHN fu l=some (!(decide (l.length<=60))):=by
 unfold zHN
 congr 1
 by_cases h:l.length<=60
 ·rw [decide_eq_true h,decide_eq_false (by omega)];rfl
 ·rw [decide_eq_false h,decide_eq_true (by omega)];rfl
theorem zGE {e : Type} (l:List e) (p : e -> Bool):(l.any fun x => !(p x)) = !(l.all p):=by
 rw [List.all_eq_not_any_not,kI]
theorem zZT {fu:Nat} {c:Class} (hfu:1000<fu):zHn fu c=some (zIb c):=by
 unfold zHn zIb
 rw [zAR]
 by_cases j:c.Watch.length<=12
 ·rw [iP (by omega),decide_eq_true j,iD]
  rw [zQq (p:=fun s => !(zXR s)) (fun s _=>by
   unfold zDr zXR
   rw [zTH (by omega),zAA]
   cases zFy s with
   | false=>rfl
   | true =>
    simp only [if_true,iD]
    cases s.map zGf==s<;>rfl) (by omega) (by omega),zAA,zGE,kI]
  cases c.Watch.all zXR with
  | false=>rfl
  | true =>
   rw [zAP,iD,zAR]
   by_cases q:c.Hooks.length<=12
   ·rw [iP (by omega),decide_eq_true q,iD]
    rw [zPi (p:=fun h => !(zbd h)) (fun h _=>by
     unfold zDs zbd
     rw [zAR,zAR,zXd,zAA]
     by_cases e:h.Kind<1
     ·rw [iP e,decide_eq_false (show ¬1<=h.Kind by omega)];rfl
     ·rw [iN e,decide_eq_true (show 1<=h.Kind by omega)]
      by_cases i:h.Kind>8
      ·rw [iP i,decide_eq_false (show ¬h.Kind<=8 by omega)];rfl
      ·rw [iN i,decide_eq_true (show h.Kind<=8 by omega)];rfl) (by omega) (by omega),zAA,zGE,kI,zXd,zXd,zAA,zAA]
    cases c.Hooks.all zbd with
    | false=>rfl
    | true =>
     cases decide (c.Peek.length<=60) with
     | false=>rfl
     | true=>simp
   ·rw [iN (by omega),decide_eq_false q];rfl
 ·rw [iN (by omega),decide_eq_false j];rfl
def zKg (w:World):Bool:=decide (w.Classes.length<=12)&&(w.Classes.all zIb&&w.Desk.Defs.all fun d=>decide (d.Class<(w.Classes.length:Int)))
theorem zZf {fu:Nat} {w:World} (hfu:1000<fu) (hl:w.Desk.Defs.length<=900):zEi fu ⟨w⟩=some (zKg w):=by
 unfold zEi zKg
 simp only
 rw [zAR]
 by_cases e:w.Classes.length<=12
 ·rw [iP (by omega),decide_eq_true e,iD,zOz (p:=fun c => !(zIb c)) (fun c _=>by unfold zBu;rw [zZT hfu,zAA]) (by omega) (by omega),zAA,zGE,kI,
   zQo (p:=fun d => !(decide (d.Class<(w.Classes.length:Int)))) (fun d _=>by
    unfold zBv
    simp only
    congr 1
    by_cases h:d.Class<(w.Classes.length:Int)
    ·rw [decide_eq_true h,decide_eq_false (by omega)];rfl
    ·rw [decide_eq_false h,decide_eq_true (by omega)];rfl) (by omega) (by omega),zAA,zGE,kI]
  cases w.Classes.all zIb<;>rfl
 ·rw [iN (by omega),decide_eq_false e];rfl
def ltI (n:Nat) (k:Int):Bool:=decide (0<=k)&&decide (k<(n:Int))
theorem zXf (n:Nat) (k:Int):cnd (decide (k>=0)) (some (decide (k<((n:Nat):Int)))) (some false)=some (ltI n k):=by
 unfold ltI
 rw [zAR]
 by_cases h:k>=0
 ·rw [iP h,decide_eq_true (show 0<=k from h),iD]
 ·rw [iN h,decide_eq_false (show ¬0<=k from h),jD]
theorem zJ8 {n:Nat} {k:Int}:ltI n k=true↔0<=k/\k<(n:Int):=by
 unfold ltI;simp
def zIS (e:Nat) (t:Todo):Bool:=(decide (1<=t.Kind)&&decide (t.Kind<9))||(t.Kind==9&&ltI e t.Def)
def zML (h e:Nat) (x:Node) (s:State):Bool :=
 if x.Kind=1 then (s.Owner == -1||ltI h s.Owner)&&(if s.Phase=2\/s.Phase=3 then ltI e s.Def else if s.Phase=0\/s.Phase=1\/s.Phase=4 then s.Def == -1||ltI e s.Def else false)
 else zRy s ⟨0,-1,-1,false⟩
def zSy (e:Nat) (t:Task):Bool:=(t.Kind==1&&(t.Ticket==0&&t.Def==0))||(t.Kind==2&&(decide (0<=t.Ticket)&&ltI e t.Def))
def zOu (ns:List Node) (e:Nat) (b:Build):Bool:=ltI e b.Def&&(b.Node == -4||isB ns b.Node 1)
section
variable {fu:Nat} {w:World}
theorem zSb (k:Int):zCO fu ⟨w⟩ k=some (ltI w.Desk.Defs.length k):=zXf _ _
theorem zVC (k:Int):zEk fu ⟨w⟩ k=some (ltI w.Forest.Nodes.length k):=zXf _ _
theorem zZM (t:Todo):zEl fu ⟨w⟩ t=some (zIS w.Desk.Defs.length t):=by
 unfold zEl zIS
 rw [zSb,zAA,zAR,zAR,zAi]
 by_cases e:t.Kind>=1
 ·rw [iP e,decide_eq_true (show 1<=t.Kind from e),iD]
  by_cases h:t.Kind<9
  ·rw [iP h,decide_eq_true h,Bool.true_or]
  ·rw [iN h,decide_eq_false h,e9]
   by_cases i:t.Kind=9
   ·rw [iP i,i];rfl
   ·rw [iN i,show (t.Kind==9)=false by simpa using i];rfl
 ·rw [iN e,iN (by omega),decide_eq_false (show ¬1<=t.Kind from e),show (t.Kind==9)=false by simp;omega];rfl
theorem zdN {s:State} (hs:idx w.States n=some s) (hx:idx w.Forest.Nodes n=some x):zFe fu ⟨w⟩ n=some (zML w.Forest.Nodes.length w.Desk.Defs.length x s):=by
 have j3:∀o t,zCp fu ⟨w⟩ s o t=some (t&&(o&&(s.Def == -1||ltI w.Desk.Defs.length s.Def))):=fun o t=>by
  unfold zCp
  rw [zSb,zAA]
  cases t<;>cases o<;>cases s.Def == -1<;>rfl
 have j2:∀o t,zDX fu ⟨w⟩ s o t=some (if t=true then o&&ltI w.Desk.Defs.length s.Def else o&&((s.Phase==0||(s.Phase==1||s.Phase==4))&&(s.Def == -1||ltI w.Desk.Defs.length s.Def))):=fun o t=>by
  unfold zDX
  rw [zSb,zAA,j3,j3,j3]
  cases t with
  | true=>cases o<;>rfl
  | false =>
   cases s.Phase==0<;>cases s.Phase==1<;>cases s.Phase==4<;>cases o<;>rfl
 have j1:∀o,zDW fu ⟨w⟩ s o=some (o&&(if s.Phase=2\/s.Phase=3 then ltI w.Desk.Defs.length s.Def else if s.Phase=0\/s.Phase=1\/s.Phase=4 then s.Def == -1||ltI w.Desk.Defs.length s.Def else false)):=fun o=>by
  unfold zDW
  rw [j2,j2,zAi]
  by_cases e:s.Phase=2
  ·rw [iP e,iP (by simpa using e),iP (.inl e)]
  ·rw [iN e]
   by_cases j:s.Phase=3
   ·rw [iP (by simpa using j),iP (.inr j)]
   ·rw [iN (by simpa using j),iN (by omega)]
    by_cases q:s.Phase=0
    ·rw [q];simp
    ·by_cases u:s.Phase=1
     ·rw [u];simp
     ·by_cases C:s.Phase=4
      ·rw [C];simp
      ·rw [iN (by omega),show (s.Phase==0)=false by simpa using q,show (s.Phase==1)=false by simpa using u,show (s.Phase==4)=false by simpa using C]
       simp
 unfold zFe zML
 simp only
 rw [hs,zAA,hx,zAA,zAX,j1,zVC,zAA,j1,zAi]
 by_cases h:x.Kind=1
 ·rw [iP h,iP h]
  by_cases i:s.Owner = -1
  ·rw [iP i,i];rfl
  ·rw [iN i,show (s.Owner == -1)=false by simpa using i,e9]
 ·rw [iN h,iN h]
theorem zfP (t:Task):zFx fu ⟨w⟩ t=some (zSy w.Desk.Defs.length t):=by
 unfold zFx zSy
 rw [zSb,zAA,zAi,zAi,zAi,zAR]
 by_cases h:t.Kind=1
 ·rw [iP h,h]
  by_cases e:t.Ticket=0
  ·rw [iP e,e];simp
  ·rw [iN e,show (t.Ticket==0)=false by simpa using e];rfl
 ·rw [iN h,show (t.Kind==1)=false by simpa using h,jD,e9]
  by_cases e:t.Kind=2
  ·rw [iP e,e]
   by_cases i:t.Ticket>=0
   ·rw [iP i,decide_eq_true (show 0<=t.Ticket from i)];rfl
   ·rw [iN i,decide_eq_false (show ¬0<=t.Ticket from i)];rfl
  ·rw [iN e,show (t.Kind==2)=false by simpa using e];rfl
theorem zc2 (b:Build):zFd fu ⟨w⟩ b=some (zOu w.Forest.Nodes w.Desk.Defs.length b):=by
 have j1:∀e,zDV fu ⟨w⟩ b e=some (ltI w.Desk.Defs.length b.Def&&(b.Node == -4||e)):=fun e=>by
  unfold zDV
  rw [zSb,zAA]
  cases ltI w.Desk.Defs.length b.Def<;>cases b.Node == -4<;>rfl
 unfold zFd zOu
 rw [zVC,zAA,j1]
 cases h:ltI w.Forest.Nodes.length b.Node with
 | true =>
  obtain ⟨x,hx⟩:=zAK (zJ8.1 h)
  rw [zAP]
  simp only
  rw [hx,zAA,j1]
  unfold isB
  rw [hx]
 | false =>
  have:idx w.Forest.Nodes b.Node=none:=zCf fun i=>by
   have:=zJ8.2 i
   rw [h] at this;cases this
  rw [zAD]
  unfold isB
  rw [this]
end
structure WS (B:Nat) (w:World):Prop where
 line:LS B w.Line
 tasks:w.Tasks.length<=B
 builds:w.Builds.length<=B
 defs:w.Desk.Defs.length<=900
 waits:w.Desk.Waits.length<=900
 kids:∀x∈w.Forest.Nodes,x.Kids.length<=2000
 states:w.States.length<=B
def zfn (w:World) (i:Nat):Bool:=(match w.States[i]?,w.Forest.Nodes[i]? with | some s,some x=>zML w.Forest.Nodes.length w.Desk.Defs.length x s | _,_=>false)&&((w.Line.Todos[i]?).getD []).all (zIS w.Desk.Defs.length)
def zTp (w:World):Bool:=decide (w.States.length=w.Forest.Nodes.length)&&(decide (w.Line.Todos.length=w.Forest.Nodes.length)&&(zKg w&&(zAH w.Forest&&(zLL w.Desk&&(zHp w.Line&&((cW w.Line.Todos.length).all (zfn w)&&(w.Tasks.all (zSy w.Desk.Defs.length)&&w.Builds.all (zOu w.Forest.Nodes w.Desk.Defs.length))))))))
theorem zSe {fu B:Nat} {w:World} (h:WS B w) (hB:B<=1000000000) (hfu:B+10000<fu):zC5 fu ⟨w⟩=some (zTp w):=by
 have hl:=h.line.todos
 have q:zEs fu w.Forest.Nodes:=fun x hx=>by have:=h.kids x hx;omega
 have fin:zB0 fu ⟨w⟩ fu 0=(bif (cW w.Line.Todos.length).all (zfn w) then some (w.Tasks.all (zSy w.Desk.Defs.length)&&w.Builds.all (zOu w.Forest.Nodes w.Desk.Defs.length)) else some false)\/w.States.length≠w.Forest.Nodes.length\/w.Line.Todos.length≠w.Forest.Nodes.length:=by
  by_cases e:w.States.length=w.Forest.Nodes.length
  ·by_cases j:w.Line.Todos.length=w.Forest.Nodes.length
   ·left
    refine zOZ (L:=zB0 fu ⟨w⟩) w.Line.Todos.length (zfn w) (some (w.Tasks.all (zSy w.Desk.Defs.length)&&w.Builds.all (zOu w.Forest.Nodes w.Desk.Defs.length))) (fun i hi k=>?_) (fun k=>?_) (by omega)
    ·have hs:i<w.States.length:=by omega
     have hx:i<w.Forest.Nodes.length:=by omega
     have D:=h.line.todo _ (gC hi)
     simp only [zB0]
     rw [zAO (by simpa using hi),zAS hi,zAA,zdN (zAS hs) (zAS hx),zAA,zPk (p:=fun t => !(zIS w.Desk.Defs.length t)) (fun t _=>by unfold zCP;rw [zZM,zAA]) (by omega) (by omega),zAA,zGE,zAY (by omega),zAA]
     unfold zfn
     rw [lC hs,lC hx,lC hi,cM]
     simp only
     cases zML w.Forest.Nodes.length w.Desk.Defs.length w.Forest.Nodes[i] w.States[i] with
     | false=>rfl
     | true=>cases w.Line.Todos[i].all (zIS w.Desk.Defs.length)<;>rfl
    ·have u:=h.tasks
     have C:=h.builds
     simp only [zB0]
     rw [zAN (by simp),zPj (p:=fun t => !(zSy w.Desk.Defs.length t)) (fun t _=>by unfold zCQ;rw [zfP,zAA]) (by omega) (by omega),zAA,zGE,kI,
      zOy (p:=fun t => !(zOu w.Forest.Nodes w.Desk.Defs.length t)) (fun t _=>by unfold zCR;rw [zc2,zAA]) (by omega) (by omega),zAA,zGE,kI]
     cases w.Tasks.all (zSy w.Desk.Defs.length)<;>rfl
   ·exact .inr (.inr j)
  ·exact .inr (.inl e)
 unfold zC5 zTp
 simp only
 rw [zAX,zAX,zZf (by omega) h.defs,zAA,zFA (by omega) q,zAA,zRu (by omega) h.defs h.waits,zAA,zV0 hB (by omega) h.line,zAA]
 by_cases e:w.States.length=w.Forest.Nodes.length
 ·rw [iP (by omega),decide_eq_true e,iD]
  by_cases j:w.Line.Todos.length=w.Forest.Nodes.length
  ·rw [iP (by omega),decide_eq_true j,iD]
   have:=fin.resolve_right (by omega)
   rw [this]
   cases zKg w with
   | false=>rfl
   | true =>
    cases zAH w.Forest with
    | false=>rfl
    | true =>
     cases zLL w.Desk with
     | false=>rfl
     | true =>
      cases zHp w.Line with
      | false=>rfl
      | true=>cases (cW w.Line.Todos.length).all (zfn w)<;>rfl
  ·rw [iN (by omega),decide_eq_false j];rfl
 ·rw [iN (by omega),decide_eq_false e];rfl
theorem zRk {fu B:Nat} {w:World} (h:WS B w) (hB:B<=1000000000) (hfu:B+10000<fu):zFc fu w=some (zTp w):=by
 unfold zFc
 rw [zSe h hB hfu,zAA]
end
section
theorem zYj [DecidableEq κ] {l:List (κ × ν)} {k : κ}:zLS l k=true↔k∈l.map (·.1):=by
 unfold zLS
 induction l with
 | nil=>simp [zIM]
 | cons x l j =>
  simp only [zIM,lT,List.mem_cons]
  by_cases h:x.1=k
  ·simp [h]
  ·rw [iN h,Option.isSome_map,j]
   exact ⟨.inr,fun i=>i.resolve_left fun e=>h e.symm⟩
theorem zeL [DecidableEq κ] {l:List (κ × ν)} {k j : κ} {v : ν}:zLS (zHP l k v) j=(decide (k=j)||zLS l j):=by
 rw [eW,dD,decide_eq_true_eq,zYj,zYj]
 rcases zSE l k v with ⟨q,i⟩ | ⟨_,i⟩
 ·rw [i]
  exact ⟨.inr,fun h=>h.elim (fun e=>e▸q) id⟩
 ·rw [i,cA,e8]
  exact ⟨fun h=>h.elim .inr fun e=>.inl e.symm,fun h=>h.elim (fun e=>.inr e.symm) .inl⟩
def zMw (c:Class) (k:Int):Bool:=c.Hooks.any fun h=>h.Kind==k
theorem zbe {c:Class} {k:Int}:∀(i:Nat) (l:List (Int×Hook)),i<=c.Hooks.length->∃j,zGq c i l=some j/\zLS j k=(zLS l k||(c.Hooks.take i).any fun h=>h.Kind==k)
 | 0,l,_=>⟨l,rfl,by simp⟩
 | i+1,l,hi=>by
  have h:i<c.Hooks.length:=by omega
  obtain ⟨j,q,u⟩:=zbe (c:=c) (k:=k) i (zHP l c.Hooks[i].Kind c.Hooks[i]) (by omega)
  refine ⟨j,?_,?_⟩
  ·simp only [zGq]
   rw [lC h,zAA,q]
  ·rw [u,zeL,iE h,List.any_append]
   have e:(decide (c.Hooks[i].Kind=k))=(c.Hooks[i].Kind==k):=rfl
   simp only [List.any_cons,List.any_nil,Bool.or_false,e]
   cases c.Hooks[i].Kind==k<;>cases zLS l k<;>simp
theorem zUQ {fu:Nat} {c:Class} {k:Int}:zGP fu c k=some (zMw c k):=by
 obtain ⟨i,e,h⟩:=zbe (c:=c) (k:=k) c.Hooks.length [] (cB _)
 unfold zGP zLy
 rw [e,zAA,h,iI]
 simp [zMw,zLS,zIM]
def zRL (c:Class) (s:Bs):Bool:=zMw c 4&&c.Watch.contains s
theorem zaI {fu:Nat} {c:Class} {s:Bs} (hfu:1000<fu) (e:c.Watch.length<=12):zHm fu c s=some (zRL c s):=by
 unfold zHm zRL
 rw [zUQ,zAA,zKh (by omega) (by omega),zAA]
 cases zMw c 4<;>rfl
def zKr (s:State) (defs:List Def) (cs:List Class):Option Class:=match idx defs s.Def with
 | some y=>idx cs y.Class
 | none=>none
def class0:Class:=⟨false,[],[],[],[]⟩
theorem zYJ {fu:Nat} {s:State} {d:Desk} {cs:List Class}:zHl fu s d cs=some (match zKr s d.Defs cs with | some c=>(c,true) | none=>(class0,false)):=by
 unfold zHl zKr
 rw [zAR,zAR]
 by_cases e:s.Def<0
 ·rw [iP e,zCf (by omega)];rfl
 ·rw [iN e]
  by_cases h:s.Def>=(d.Defs.length:Int)
  ·rw [iP h,zCf (by omega)];rfl
  ·obtain ⟨y,hy⟩:=zAK (l:=d.Defs) (n:=s.Def) (by omega)
   rw [iN h,hy,zAA,zAR,zAR]
   simp only
   by_cases i:y.Class<0
   ·rw [iP i,zCf (by omega)];rfl
   ·rw [iN i]
    by_cases j:y.Class>=(cs.length:Int)
    ·rw [iP j,zCf (by omega)];rfl
    ·obtain ⟨c,q⟩:=zAK (l:=cs) (n:=y.Class) (by omega)
     rw [iN j,q,zAA]
theorem zXE {s:State} {cs:List Class} {c:Class} (h:zKr s defs cs=some c):c∈cs:=by
 unfold zKr at h
 split at h
 ·exact zFB h
 ·cases h
theorem zOJ {s:State} {cs:List Class}:zKr s [] cs=none:=by
 unfold zKr
 rw [zCf (by simp only [eK];omega)]
def zg3 (x:Note):Todo:=⟨x.Kind,0,x.Name,x.Had,x.Has,x.Old,x.New,x.From,x.To,false⟩
def askF (f:Forest) (st:List State) (d:Desk) (cs:List Class) (x:Note):Option Todo:=match idx st x.Node,idx f.Nodes x.Node with
 | some s,some y=>if s.Phase=1 then (if x.Kind=1/\zMt y d ≠ -1 then some (zfv (zMt y d)) else none)
  else if s.Phase=3 then (match zKr s d.Defs cs with
   | some c=>if ((x.Kind=4/\zRL c x.Name=true)\/x.Kind=1\/x.Kind=2\/x.Kind=3)/\zMw c x.Kind=true then some (zg3 x) else none
   | none=>none)
  else none
 | _,_=>none
section
variable {fu:Nat} {f:Forest} {st:List State} {d:Desk} {cs:List Class} (hfu:1000<fu) (hr:zAH f=true) (hl:d.Defs.length<=900) (hw:d.Waits.length<=900) (hcs:∀c∈cs,c.Watch.length<=12) (hst:st.length=f.Nodes.length)
include hfu hr hl hw hcs hst
theorem zf9 {x:Note} (I:InN f.Nodes x.Node):∃r,zFa fu ⟨f,st,d,cs⟩ x=some r/\(if r.2=true then some r.1 else none)=askF f st d cs x:=by
 obtain ⟨y,hy⟩:=zAK I
 obtain ⟨s,hs⟩:=zAK (l:=st) (n:=x.Node) (by rw [hst];exact I)
 have j1:∀(c:Class) (b ok:Bool),zBZ fu x (c,b) ok=some (zg3 x,ok&&zMw c x.Kind):=fun c b ok=>by
  unfold zBZ
  simp only
  rw [zUQ,zAA]
  cases ok<;>rfl
 unfold zFa askF
 simp only
 rw [hs,zAA,hy,zAi]
 simp only
 by_cases j:s.Phase=1
 ·rw [iP j,iP j,zaU hfu hl hw hr,zAA,hy]
  simp only
  rw [zAi]
  by_cases u:x.Kind=1
  ·rw [iP u]
   refine ⟨_,rfl,?_⟩
   simp only
   by_cases hf:zMt y d = -1
   ·rw [hf];simp
   ·have:(zMt y d != -1)=true:=by simpa using hf
    rw [this,iP rfl,iP ⟨u,hf⟩];rfl
  ·rw [iN u]
   refine ⟨_,rfl,?_⟩
   simp only
   rw [iN (by simp),iN fun h=>u h.1]
 ·rw [iN j,iN j,zAi]
  by_cases q:s.Phase=3
  ·rw [iP q,iP q,zYJ,zAA]
   cases M:zKr s d.Defs cs with
   | none =>
    simp only [j1]
    have e:∀t:Todo,∃r,some (t,false)=some r/\(if r.2=true then some r.1 else none)=(none:Option Todo):=fun t=>⟨_,rfl,by simp⟩
    have i:∀(b:Bool) (F G:Option (Todo×Bool)),(∃r,F=some r/\(if r.2=true then some r.1 else none)=(none:Option Todo))->(∃r,G=some r/\(if r.2=true then some r.1 else none)=(none:Option Todo))->∃r,cnd b F G=some r/\(if r.2=true then some r.1 else none)=(none:Option Todo):=fun b F G J K=>by
     cases b
     ·exact K
     ·exact J
    simp only [zAD,jD]
    exact i _ _ _ (e _) (i _ _ _ (i _ _ _ (e _) (e _)) (i _ _ _ (i _ _ _ (e _) (e _)) (i _ _ _ (e _) (e _))))
   | some c =>
    simp only [j1,zaI hfu (hcs c (zXE M)),zAA,zAP,iD,zAi]
    by_cases k4:x.Kind=4
    ·rw [iP k4]
     refine ⟨_,rfl,?_⟩
     simp only
     rw [k4]
     cases zRL c x.Name<;>cases zMw c 4<;>simp
    ·rw [iN k4]
     by_cases C:x.Kind=1
     ·rw [iP C,iP C]
      refine ⟨_,rfl,?_⟩
      rw [C]
      cases zMw c 1<;>simp
     ·rw [iN C]
      by_cases D:x.Kind=2
      ·rw [iP D,iP D]
       refine ⟨_,rfl,?_⟩
       rw [D]
       cases zMw c 2<;>simp
      ·rw [iN D]
       by_cases E:x.Kind=3
       ·rw [iP E]
        refine ⟨_,rfl,?_⟩
        rw [E]
        cases zMw c 3<;>simp
       ·rw [iN E]
        refine ⟨_,rfl,?_⟩
        rw [iN (by simp),iN (by omega)]
  ·rw [iN q,iN q]
   exact ⟨_,rfl,by simp⟩
def zWm (f:Forest) (st:List State) (d:Desk) (cs:List Class) (notes:List Note):List Due:=notes.filterMap fun x=>if isB f.Nodes x.Node 1=true then (askF f st d cs x).map fun t=>⟨x.Node,t⟩ else none
theorem due_ok (P:zLL d=true) (W:notes.length<=100000000) (I:notes.length<fu):zLx fu f st d cs notes=some (zWm f st d cs notes):=by
 unfold zLx zMo
 rw [show ((st.length:Int)==(f.Nodes.length:Int))=true by rw [hst];simp,zAP,zFA hfu ((zAG hr).fit hfu),zAA,hr,zAP,zRu hfu hl hw,zAA,P,zAA]
 simp only [iA,zAD]
 have N:∀(j i k:Nat) (q:List Due),i+j=notes.length->j<k->q.length<=i->zFF fu notes (⟨f,st,d,cs⟩,true) k ((i:Int),q)=some (q++zWm f st d cs (notes.drop i)):=by
  intro j
  induction j with
  | zero =>
   intro i k q hi Q _
   obtain ⟨k,rfl⟩:∃M,k=M+1:=⟨k - 1,by omega⟩
   obtain rfl:i=notes.length:=by omega
   simp only [zFF]
   rw [zAN (by simp),kK]
   simp [zWm]
  | succ j K =>
   intro i k q hi Q V
   obtain ⟨k,rfl⟩:∃M,k=M+1:=⟨k - 1,by omega⟩
   have h:i<notes.length:=by omega
   have G:zFb fu ⟨f,st,d,cs⟩ notes[i].Node=some (isB f.Nodes notes[i].Node 1):=by
    unfold zFb isB
    simp only
    rw [zAR,zAR]
    by_cases C:notes[i].Node>=0
    ·rw [iP C]
     by_cases D:notes[i].Node<(f.Nodes.length:Int)
     ·obtain ⟨x,hx⟩:=zAK (l:=f.Nodes) (n:=notes[i].Node) ⟨C,D⟩
      rw [iP D,hx,zAA]
     ·rw [iN D,zCf (by omega)]
    ·rw [iN C,zCf (by omega)]
   have F:zWm f st d cs (notes.drop i)=(match (if isB f.Nodes notes[i].Node 1=true then (askF f st d cs notes[i]).map (fun t=>(⟨notes[i].Node,t⟩:Due)) else none) with | some u=>[u] | none=>[])++zWm f st d cs (notes.drop (i+1)):=by
    rw [eT h]
    unfold zWm
    rw [kQ]
    split
    ·rename_i e;rw [e];rfl
    ·rename_i e;rw [e];rfl
   simp only [zFF]
   rw [zAO (by simpa using h),zAS h,zAA,G,zAA,F]
   cases E:isB f.Nodes notes[i].Node 1 with
   | false =>
    rw [jL,zAP,zAY (by omega),zAA,K (i+1) k q (by omega) (by omega) (by omega)]
    rfl
   | true =>
    have J:InN f.Nodes notes[i].Node:=by
     unfold isB at E
     cases e:idx f.Nodes notes[i].Node with
     | none=>rw [e] at E;cases E
     | some z=>exact zAJ e
    obtain ⟨r,S,T⟩:=zf9 hfu hr hl hw hcs hst J
    rw [iA,zAD,S,zAA,iP rfl,<- T]
    cases r.2 with
    | true =>
     rw [zAP,zAh (by simp only [cP,eK];omega),zAA,zAY (by omega),zAA,K (i+1) k _ (by omega) (by omega) (by simp only [eR,cP,eK];omega),eS]
     rfl
    | false =>
     rw [zAD,zAY (by omega),zAA,K (i+1) k q (by omega) (by omega) (by omega)]
     rfl
 have:=N notes.length 0 fu [] (by omega) I (by simp)
 simpa using this
end
theorem zYP {f:Forest} {st:List State} {d:Desk} {cs:List Class}:(zWm f st d cs notes).length<=notes.length:=kL _ _
theorem zge {f:Forest} {st:List State} {d:Desk} {cs:List Class} {u:Due} (h:u∈zWm f st d cs notes):isB f.Nodes u.Node 1=true/\zIS d.Defs.length u.Todo=true/\∃x∈notes,u.Node=x.Node/\askF f st d cs x=some u.Todo:=by
 unfold zWm at h
 obtain ⟨x,hx,i⟩:=kM.1 h
 split at i
 ·rename_i j
  obtain ⟨t,e,rfl⟩:=lI.1 i
  refine ⟨j,?_,x,hx,rfl,e⟩
  unfold askF at e
  split at e
  ·split at e
   ·split at e
    ·rename_i hf
     cases e
     have:=zO3.resolve_left hf.2
     unfold zIS zfv
     simp only [dD,lM]
     right
     exact ⟨rfl,zJ8.2 this⟩
    ·cases e
   ·split at e
    ·split at e
     ·split at e
      ·rename_i q
       cases e
       unfold zIS zg3
       simp only [dD,lM,decide_eq_true_eq]
       left
       have:=q.1
       omega
      ·cases e
     ·cases e
    ·cases e
  ·cases e
 ·cases i
end
section
def zaQ (ns:List Node) (ids:List (Int×List (Bs×Int))):Prop:=∀p∈ids,∀q∈p.2,InN ns q.2
def zQD (ns:List Node) (r:Int):Prop:=r = -1\/InN ns r
theorem zXT {fu:Nat}:∃b,zHI fu x=some b:=by
 unfold zHI
 rw [zAi];split<;>exact ⟨_,rfl⟩
section
variable {fu:Nat} {f:Forest} (hr:zAH f=true) (hfu:1000<fu)
include hr
theorem near_l:∀n,InN f.Nodes n->∀K,(way f.Nodes n).length<K->∃r,zBz fu f.Nodes K n=some r/\zQD f.Nodes r:=by
 have T:=zBI hr
 refine T.up_ind fun n h C K e=>?_
 obtain ⟨K,rfl⟩:∃j,K=j+1:=⟨K - 1,by omega⟩
 obtain ⟨x,hx⟩:=zAK h
 have q:n ≠ -1:=by unfold InN at h;omega
 obtain ⟨b,u⟩:=zXT (fu:=fu) (x:=x)
 rw [T.way_eq h] at e
 simp only [cP] at e
 simp only [zBz]
 rw [zAX,iN q,hx,zAA,u,zAA,zAA]
 cases b with
 | true=>exact ⟨n,rfl,.inr h⟩
 | false =>
  rw [zAD]
  by_cases i:zJe f.Nodes n = -1
  ·rw [<- zJQ hx,i]
   rw [iP i] at e
   obtain ⟨K,rfl⟩:∃j,K=j+1:=⟨K - 1,by simp at e;omega⟩
   simp only [zBz]
   rw [zAX,iP rfl]
   exact ⟨-1,rfl,.inl rfl⟩
  ·rw [<- zJQ hx]
   rw [iN i] at e
   exact C i K (by omega)
include hfu
theorem zg1 (i:InN f.Nodes n):∃r,zD5 fu f.Nodes n=some r/\zQD f.Nodes r:=by
 have T:=zBI hr
 have h:=(zAG hr).few
 obtain ⟨x,hx⟩:=zAK i
 unfold zD5
 rw [hx,zAA,<- zJQ hx]
 by_cases j:zJe f.Nodes n = -1
 ·rw [j]
  obtain ⟨K,rfl⟩:∃q,fu=q+1:=⟨fu - 1,by omega⟩
  simp only [zBz]
  rw [zAX,iP rfl]
  exact ⟨-1,rfl,.inl rfl⟩
 ·have e:=(T.par n i j).1
  have:=(T.way_len e).2
  exact near_l hr _ e fu (by omega)
omit hr in
theorem tree_l {C:Int} (Q:L.length<=1000) (E:∀k∈L,InN f.Nodes k) (J:zaQ f.Nodes ids):∀(j i K:Nat) (t:List (Bs×Int)),i+j=L.length->j<K->(∀q∈t,InN f.Nodes q.2)->∃I e,zBY fu f.Nodes C ids L K ((i:Int),t)=some (I,e)/\(∀q∈I,InN f.Nodes q.2)/\zaQ f.Nodes e:=by
 intro j
 induction j with
 | zero =>
  intro i K t hi M u
  obtain ⟨K,rfl⟩:∃D,K=D+1:=⟨K - 1,by omega⟩
  obtain rfl:i=L.length:=by omega
  simp only [zBY]
  rw [zAN (by simp)]
  refine ⟨_,_,rfl,u,fun p N=>?_⟩
  rcases zXi N with h | rfl
  ·exact J p h
  ·exact u
 | succ j F =>
  intro i K t hi M u
  obtain ⟨K,rfl⟩:∃D,K=D+1:=⟨K - 1,by omega⟩
  have h:i<L.length:=by omega
  have G:=E _ (gC h)
  obtain ⟨x,hx⟩:=zAK G
  simp only [zBY]
  rw [zAO (by simpa using h),zAS h,zAA,hx,zAA,zPc (by omega),zAA,zAY (by omega)]
  simp only [zAA]
  cases (zdR x.Attrs [105,100]).2 with
  | false=>exact F (i+1) K t (by omega) (by omega) u
  | true =>
   rw [zAP]
   cases zLS t (zdR x.Attrs [105,100]).1 with
   | true=>exact F (i+1) K t (by omega) (by omega) u
   | false =>
    refine F (i+1) K _ (by omega) (by omega) fun q P=>?_
    rcases zXi P with h | rfl
    ·exact u q h
    ·exact G
theorem zho {e:Int} (i:InN f.Nodes e) (u:zaQ f.Nodes ids):∃t j,zFU fu f.Nodes f.Most e ids=some (t,j)/\(∀q∈t,InN f.Nodes q.2)/\zaQ f.Nodes j:=by
 have T:=zBI hr
 have hs:=zAG hr
 have C:=hs.few
 unfold zFU
 cases h:zLS ids e with
 | true=>exact ⟨_,_,rfl,u _ (zUa h),u⟩
 | false =>
  have D:=T.all_len i
  rw [zAD,zT3 (f:=⟨f.Nodes,f.Most⟩) hs hfu hr i,zAA]
  exact tree_l hfu (L:=zK0 f.Nodes e) (by omega) (fun k E=>(T.all_in e i k E).1) u (zK0 f.Nodes e).length 0 fu [] (by omega) (by omega) (by simp)
theorem of_ok (h:InN f.Nodes n) (j:zaQ f.Nodes ids):∃r e,zE7 fu f.Nodes f.Most n ids=some (r,e)/\zQD f.Nodes r/\zaQ f.Nodes e:=by
 have T:=zBI hr
 have hs:=zAG hr
 obtain ⟨x,hx⟩:=zAK h
 obtain ⟨J,D,q⟩:=zg1 hr hfu h
 unfold zE7
 rw [hx,zAA,zAX,zPc (by omega),zAA,D]
 simp only [zAA]
 by_cases u:x.Kind=1
 ·rw [iP u]
  cases (zdR x.Attrs [102,111,114,109]).2 with
  | false=>exact ⟨_,_,rfl,q,j⟩
  | true =>
   rw [iA,zAD,zWp (f:=⟨f.Nodes,f.Most⟩) hs hfu hr h,zAA]
   cases zXG f.Nodes n with
   | false=>exact ⟨_,_,rfl,q,j⟩
   | true =>
    obtain ⟨t,e,E,F,i⟩:=zho hr hfu (T.root_in h) j
    simp only [iA,zAD]
    rw [zaZ (f:=⟨f.Nodes,f.Most⟩) hs hfu hr h,zAA,E,zAA]
    simp only
    cases I:zLS t (zdR x.Attrs [102,111,114,109]).1 with
    | false=>exact ⟨_,_,rfl,.inl rfl,i⟩
    | true =>
     rw [iA,zAD]
     cases ((zdR x.Attrs [102,111,114,109]).1==([]:Bs)) with
     | true=>exact ⟨_,_,rfl,.inl rfl,i⟩
     | false =>
      have C:=F _ (zUa (z:=0) I)
      obtain ⟨y,hy⟩:=zAK C
      obtain ⟨b,G⟩:=zXT (fu:=fu) (x:=y)
      rw [zAD]
      simp only at hy
      rw [hy,zAA,G,zAA]
      cases b with
      | false=>exact ⟨_,_,rfl,.inl rfl,i⟩
      | true=>exact ⟨_,_,rfl,.inr C,i⟩
 ·rw [iN u]
  exact ⟨_,_,rfl,.inl rfl,j⟩
theorem zcI:∃L,zLl fu f=some L/\L.length=f.Nodes.length/\∀r∈L,zQD f.Nodes r:=by
 have hs:=zAG hr
 have I:=hs.few
 have G:∀(j i K:Nat) (e:List Int) (ids:List (Int×List (Bs×Int))),i+j=f.Nodes.length->j<K->e.length=i->(∀r∈e,zQD f.Nodes r)->zaQ f.Nodes ids->∃L,zHH fu f ⟨f,[]⟩ K ((i:Int),e,ids)=some L/\L.length=f.Nodes.length/\∀r∈L,zQD f.Nodes r:=by
  intro j
  induction j with
  | zero =>
   intro i K e ids hi Q F u _
   obtain ⟨K,rfl⟩:∃E,K=E+1:=⟨K - 1,by omega⟩
   obtain rfl:i=f.Nodes.length:=by omega
   simp only [zHH]
   rw [zAN (by simp)]
   exact ⟨e,rfl,F,u⟩
  | succ j T =>
   intro i K e ids hi Q F u P
   obtain ⟨K,rfl⟩:∃E,K=E+1:=⟨K - 1,by omega⟩
   have h:i<f.Nodes.length:=by omega
   obtain ⟨r,D,J,M,N⟩:=of_ok hr hfu (n:=(i:Int)) (ids:=ids) ⟨by omega,by omega⟩ P
   simp only [zHH]
   rw [zAO (by simpa using h),J,zAA,zAh (by simp only [cP,eK];omega),zAA,zAY (by omega),zAA]
   refine T (i+1) K (e++[r]) D (by omega) (by omega) (by simp [F]) (fun q C=>?_) N
   rcases cA.1 C with C | C
   ·exact u q C
   ·rw [e8.1 C];exact M
 unfold zLl zIs
 rw [zFA hfu (hs.fit hfu),zAA,hr,iA,zAD,zAA]
 exact G f.Nodes.length 0 fu [] [] (by omega) (by omega) rfl (by simp) (by intro p S;cases S)
omit hr in
theorem zRs:∃b,zF1 fu x=some b:=by
 unfold zF1
 rw [zPc (by omega),zAA,zAi];split<;>exact ⟨_,rfl⟩
theorem zbq (D:InN f.Nodes n):∃r,zJT fu f n=some r:=by
 have hs:=zAG hr
 obtain ⟨x,hx⟩:=zAK D
 have C:=hs.kids x (zFB hx)
 unfold zJT
 rw [hx,zAA]
 have E:∀k∈x.Kids,zDA fu k f=some (match idx f.Nodes k with | some y=>y.Kind==1&&y.Name==([108,101,103,101,110,100]:Bs) | none=>false):=fun k u=>by
  obtain ⟨y,hy⟩:=zAK (zbo hr hx u)
  unfold zDA
  rw [hy,zAA,zAA]
  simp only
  cases y.Kind==1<;>rfl
 have hi:zAV fu (fun j=>zDA fu j f) x.Kids=some (zKk x.Kids fun k=>match idx f.Nodes k with | some y=>y.Kind==1&&y.Name==([108,101,103,101,110,100]:Bs) | none=>false):=by
  unfold zAV
  refine zVA (L:=zAL (fun j=>zDA fu j f) x.Kids) x.Kids _ (fun i h k=>?_) (fun k=>?_) (by omega)
  ·simp only [zAL]
   rw [zAO (by simpa using h),zAS h,zAA,E _ (gC h),zAA,zAY (by omega),zAA]
   generalize (match idx f.Nodes x.Kids[i] with | some y=>y.Kind==1&&y.Name==([108,101,103,101,110,100]:Bs) | none=>false)=b
   cases b<;>rfl
  ·simp only [zAL]
   rw [zAN (by simp)]
 rw [hi,zAA,zAR]
 cases e:x.Kids.any (fun k=>match idx f.Nodes k with | some y=>y.Kind==1&&y.Name==([108,101,103,101,110,100]:Bs) | none=>false) with
 | false=>rw [iP (zTX.2 e)];exact ⟨_,rfl⟩
 | true =>
  obtain ⟨i,h,q,_⟩:=zSQ e
  rw [iN (by rw [q];omega),q,zAS h,zAA]
  exact ⟨_,rfl⟩
theorem zdl:∀n,InN f.Nodes n->∀(K:Nat) (b:Int),(way f.Nodes n).length<K->∃r,zCZ fu f K (b,n)=some r:=by
 have T:=zBI hr
 refine T.up_ind fun n h C K b e=>?_
 obtain ⟨K,rfl⟩:∃j,K=j+1:=⟨K - 1,by omega⟩
 obtain ⟨x,hx⟩:=zAK h
 have q:n ≠ -1:=by unfold InN at h;omega
 obtain ⟨d,u⟩:=zRs (fu:=fu) hfu (x:=x)
 obtain ⟨l,hl⟩:=zbq hr hfu h
 rw [T.way_eq h] at e
 simp only [cP] at e
 have next:∃r,zCZ fu f K (n,x.Parent)=some r:=by
  rw [<- zJQ hx]
  by_cases i:zJe f.Nodes n = -1
  ·rw [i]
   rw [iP i] at e
   obtain ⟨K,rfl⟩:∃j,K=j+1:=⟨K - 1,by simp at e;omega⟩
   simp only [zCZ]
   rw [zAX,iP rfl]
   exact ⟨_,rfl⟩
  ·rw [iN i] at e
   exact C i K n (by omega)
 simp only [zCZ]
 rw [zAX,iN q,hx,zAA,u,zAA,hl,zAA,zAA]
 cases x.Name==([102,105,101,108,100,115,101,116]:Bs) with
 | false=>exact next
 | true =>
  rw [zAP]
  cases d with
  | false=>exact next
  | true =>
   rw [zAP,zAX]
   split
   ·exact next
   ·exact ⟨_,rfl⟩
theorem zaS (h:InN f.Nodes n):∃r,zHT fu f n=some r:=by
 have T:=zBI hr
 have hs:=zAG hr
 have j:=hs.few
 obtain ⟨x,hx⟩:=zAK h
 obtain ⟨d,C⟩:=zRs (fu:=fu) hfu (x:=x)
 have i:∃r,zJS fu f n=some r:=by
  unfold zJS
  rw [hx,zAA,C,zAA,zAA,zAA,zAA]
  cases d with
  | true=>exact ⟨_,rfl⟩
  | false =>
   rw [zAD,zAX]
   split
   ·rw [<- zJQ hx]
    by_cases q:zJe f.Nodes n = -1
    ·rw [q]
     obtain ⟨K,rfl⟩:∃u,fu=u+1:=⟨fu - 1,by omega⟩
     simp only [zCZ]
     rw [zAX,iP rfl]
     exact ⟨_,rfl⟩
    ·have e:=(T.par n h q).1
     have:=(T.way_len e).2
     exact zdl hr hfu _ e fu n (by omega)
   ·exact ⟨_,rfl⟩
 obtain ⟨r,i⟩:=i
 unfold InN at h
 unfold zHT
 rw [zAO (decide_eq_true (show n>=0 from h.1)),zAO (decide_eq_true h.2),zFA hfu (hs.fit hfu),zAA,hr,zAP,i,zAA]
 exact ⟨_,rfl⟩
theorem zZy (x:Int):∃L,zHe fu f x=some L/\L.length<=400/\∀r∈L,InN f.Nodes r:=by
 have T:=zBI hr
 have hs:=zAG hr
 have hfew:=hs.few
 have no:∃L,some ([]:List Int)=some L/\L.length<=400/\∀r∈L,InN f.Nodes r:=⟨[],rfl,by simp,by simp⟩
 unfold zHe
 rw [zAR,zAR,zFA hfu (hs.fit hfu),zAA,hr,iA,zAD]
 by_cases h0:x<0
 ·rw [iP h0];exact no
 ·rw [iN h0]
  by_cases h1:x>=(f.Nodes.length:Int)
  ·rw [iP h1];exact no
  ·have hx:InN f.Nodes x:=by unfold InN;omega
   obtain ⟨y,hy⟩:=zAK hx
   obtain ⟨b,hb⟩:=zXT (fu:=fu) (x:=y)
   have G:=T.root_in hx
   have hal:=T.all_len G
   rw [iN h1,hy,zAA,hb,zAA]
   cases b with
   | false=>exact no
   | true =>
    unfold zIs
    rw [iA,zAD,zAA,zaZ hs hfu hr hx,zAA,zT3 hs hfu hr G,zAA]
    simp only
    have M:∀k ids,InN f.Nodes k->zaQ f.Nodes ids->∃b e,zBA fu k f.Nodes f.Most x ids=some (b,e)/\zaQ f.Nodes e:=fun k ids hk E=>by
     obtain ⟨r,e,C,_,g3⟩:=of_ok hr hfu hk E
     unfold zBA
     rw [C,zAA]
     exact ⟨_,_,rfl,g3⟩
    have Q:∀k∈zK0 f.Nodes (zSx f.Nodes x),InN f.Nodes k:=fun k hk=>(T.all_in _ G k hk).1
    generalize zK0 f.Nodes (zSx f.Nodes x)=L at hal Q
    have ix:∀(j i K:Nat) (ids:List (Int×List (Bs×Int))),i+j=L.length->j<K->zaQ f.Nodes ids->∃r e,zBV (fun N P=>zBA fu N f.Nodes f.Most x P) L K ((i:Int),ids)=some (r,e)/\zaQ f.Nodes e/\(r = -1\/∃m:Nat,r=(m:Int)/\m<L.length):=by
     intro j
     induction j with
     | zero =>
      intro i K ids hi hK E
      obtain ⟨K,rfl⟩:∃u,K=u+1:=⟨K - 1,by omega⟩
      obtain rfl:i=L.length:=by omega
      simp only [zBV]
      rw [zAN (by simp)]
      exact ⟨_,_,rfl,E,.inl rfl⟩
     | succ j V =>
      intro i K ids hi hK E
      obtain ⟨K,rfl⟩:∃u,K=u+1:=⟨K - 1,by omega⟩
      have h:i<L.length:=by omega
      obtain ⟨b,e,C,D⟩:=M _ ids (Q _ (gC h)) E
      simp only [zBV]
      rw [zAO (by simpa using h),zAS h,zAA,C,zAA,zAY (by omega),zAA]
      cases b with
      | true=>exact ⟨_,_,rfl,D,.inr ⟨i,rfl,h⟩⟩
      | false=>exact V (i+1) K e (by omega) (by omega) D
    have del:∀(d i j K:Nat) (m:List Int) (ids:List (Int×List (Bs×Int))),j+d=m.length->m.length<=400->d<K->i<j->(∀r∈m,InN f.Nodes r)->zaQ f.Nodes ids->∃W e,zAu (fun N P=>zBA fu N f.Nodes f.Most x P) K ((i:Int),(j:Int),m,ids)=some (W,e)/\W.length<=400/\∀r∈W,InN f.Nodes r:=by
     intro d
     induction d with
     | zero =>
      intro i j K m ids hj S hK hij q _
      obtain ⟨K,rfl⟩:∃u,K=u+1:=⟨K - 1,by omega⟩
      obtain rfl:j=m.length:=by omega
      simp only [zAu]
      rw [zAN (by simp)]
      obtain ⟨I,e2,e3,e4⟩:∃I,zWa m (i:Int) (0:Int)=some I/\I.length=m.length/\I.take i=m.take i:=by
       unfold zWa
       rw [iP ⟨by omega,by omega⟩]
       refine ⟨_,rfl,?_,?_⟩
       ·simp;omega
       ·rw [eO,iV (by simp;omega),jI,Nat.min_self]
      rw [e2,zAA]
      rw [show piece I 0 (i:Int)=some (I.take i) from by
       unfold piece
       rw [iP ⟨by omega,by omega,by omega⟩]
       simp,zAA,e4]
      exact ⟨_,_,rfl,by simp;omega,fun r F=>q r (List.mem_of_mem_take F)⟩
     | succ d V =>
      intro i j K m ids hj S hK hij q E
      obtain ⟨K,rfl⟩:∃u,K=u+1:=⟨K - 1,by omega⟩
      have h:j<m.length:=by omega
      have hi:i<m.length:=by omega
      obtain ⟨b,e,C,D⟩:=M _ ids (q _ (gC h)) E
      simp only [zAu]
      rw [zAO (by simpa using h),zAS h,zAA,C,zAA,zAS hi,zAA,zAY (by omega),zAY (by omega),eO]
      simp only [zAA]
      cases b with
      | true=>exact V i (j+1) K m e (by omega) S (by omega) (by omega) q D
      | false =>
       refine V (i+1) (j+1) K (m.set i m[j]) e (by simp;omega) (by simpa using S) (by omega) (by omega) (fun r F=>?_) D
       rcases dT F with h' | rfl
       ·exact q r h'
       ·exact q _ (gC h)
    obtain ⟨r,e,C,D,g3⟩:=ix L.length 0 fu [] (by omega) (by omega) (by intro p hp;cases hp)
    have J:∃X,zC9 fu (fun N P=>zBA fu N f.Nodes f.Most x P) L []=some X/\X.1.length<=400/\∀k∈X.1,InN f.Nodes k:=by
     unfold zC9 zE8
     rw [show ((0:Int),([]:List (Int×List (Bs×Int))))=(((0:Nat):Int),[]) from rfl,C,zAA]
     simp only
     rw [zAi]
     rcases g3 with rfl | ⟨m,rfl,S⟩
     ·rw [iP rfl];exact ⟨_,rfl,by simp only;omega,Q⟩
     ·rw [iN (by omega),zAY (by omega),zAA]
      obtain ⟨W,ids2,k1,k2,k3⟩:=del (L.length - (m+1)) m (m+1) fu L e (by omega) (by omega) (by omega) (by omega) Q D
      exact ⟨_,k1,k2,k3⟩
    obtain ⟨X,k1,k2,k3⟩:=J
    rw [k1,zAA]
    exact ⟨_,rfl,k2,k3⟩
end
end
section
def Upd (ns:List Node) (i:Int) (s e:State):Prop:=e=s\/(isB ns i 1=true/\e.Phase=s.Phase/\e.Def=s.Def/\(e.Owner=s.Owner\/zQD ns e.Owner))
theorem Upd.trans {i:Int} {a b c:State} (C:Upd ns i a b) (D:Upd ns i b c):Upd ns i a c:=by
 rcases D with rfl | ⟨e,j,q,u⟩
 ·exact C
 ·rcases C with rfl | ⟨G,E,F,k4⟩
  ·exact .inr ⟨e,j,q,u⟩
  ·refine .inr ⟨e,j.trans E,q.trans F,?_⟩
   rcases u with h | h
   ·rcases k4 with k | k
    ·exact .inl (h.trans k)
    ·exact .inr (by rw [h];exact k)
   ·exact .inr h
def zac (ns:List Node) (st e:List State):Prop:=e.length=st.length/\∀(i:Nat) (h:State),e[i]? = some h->∃s,st[i]? = some s/\Upd ns (i:Int) s h
theorem zac.refl (ns:List Node) (st:List State):zac ns st st:=⟨rfl,fun _ s h=>⟨s,h,.inl rfl⟩⟩
theorem zac.set {st j:List State} (h:zac ns st j) {n:Nat} {s v:State} (hs:j[n]? = some s) (C:Upd ns (n:Int) s v):zac ns st (j.set n v):=by
 refine ⟨by simpa using h.1,fun i D hi=>?_⟩
 rw [kR] at hi
 split at hi
 ·rename_i e
  subst e
  split at hi
  ·cases hi
   obtain ⟨E,q,u⟩:=h.2 n s hs
   exact ⟨E,q,u.trans C⟩
  ·cases hi
 ·exact h.2 i D hi
theorem zRw {fu:Nat} {ws:List Wait} {nx:Int} {bz:Bool} {cs:List Class} {st:List State} {s:State} {y:Node} (hs:idx st n=some s) (hy:idx ns n=some y) :
  ∃c b,zDH fu n ns defs ws nx bz cs st=some (c,b)/\(b=true->s.Phase=3/\zKr s defs cs=some c/\y.Kind=1):=by
 unfold zDH
 rw [hs,zAA,zYJ,zAA,hy]
 simp only
 cases i:zKr s defs cs with
 | none=>exact ⟨_,_,rfl,fun h=>by cases h⟩
 | some c =>
  simp only [zAP,zAA]
  rw [zAi]
  cases c.Form with
  | false=>exact ⟨_,_,rfl,fun h=>by cases h⟩
  | true =>
   rw [zAP]
   by_cases e:s.Phase=3
   ·rw [iP e]
    exact ⟨_,_,rfl,fun h=>⟨e,rfl,by simpa using h⟩⟩
   ·rw [iN e]
    exact ⟨_,_,rfl,fun h=>by cases h⟩
theorem zO2 {fu:Nat} {c:Class} {l:List Due} (hl:l.length<=1000000):∃e,zCq fu c n t l=some (l++e)/\(e=[]\/e=[⟨n,t⟩]):=by
 unfold zCq
 rw [zUQ,zAA,zAh (by simp only [cP,eK];omega),zAA]
 cases zMw c t.Kind with
 | true=>exact ⟨[⟨n,t⟩],rfl,.inr rfl⟩
 | false=>exact ⟨[],by rw [gI];rfl,.inl rfl⟩
section
variable {fu:Nat} {f:Forest} {st:List State} {d:Desk} {cs:List Class} (hfu:1000<fu) (hr:zAH f=true) (hl:d.Defs.length<=900) (hw:d.Waits.length<=900) (hst:st.length=f.Nodes.length)
include hfu hr hl hw hst
theorem zUI:zH7 fu f st d cs=some ((),zLL d,f.Nodes,f.Most,d.Defs,d.Waits,d.Next,d.Busy,cs,st,[]):=by
 have e:=(zAG hr).few
 unfold zH7
 rw [za2 (by omega),zAA,show ((st.length:Int)==(f.Nodes.length:Int))=true by rw [hst];simp,zAP,zFA hfu ((zAG hr).fit hfu),zAA,hr,zAP,zRu hfu hl hw,zAA]
def zZQ (ns:List Node) (u:Due):Prop:=isB ns u.Node 1=true/\(u.Todo.Kind=5\/u.Todo.Kind=6)
omit hl hw in
theorem told_l (hL:L.length=f.Nodes.length) (hin:∀r∈L,zQD f.Nodes r):∀(j i K:Nat) (q:List State) (due:List Due),i+j=L.length->j<K->zac f.Nodes st q->(∀u∈due,zZQ f.Nodes u)->due.length<=2*i->(d.Defs=[]->q=st/\due=[]) ->
  ∃Q C,zDk fu f ((),true,f.Nodes,f.Most,d.Defs,d.Waits,d.Next,d.Busy,cs,st,[]) L K ((i:Int),q,due)=some (Q,C)/\zac f.Nodes st Q/\(∀u∈C,zZQ f.Nodes u)/\C.length<=2*L.length/\(d.Defs=[]->Q=st/\C=[]):=by
 have hfew:=(zAG hr).few
 intro j
 induction j with
 | zero =>
  intro i K q due hi hK M S I hn
  obtain ⟨K,rfl⟩:∃K',K=K'+1:=⟨K - 1,by omega⟩
  obtain rfl:i=L.length:=by omega
  simp only [zDk]
  rw [zAN (by simp)]
  exact ⟨_,_,rfl,M,S,I,hn⟩
 | succ j ih =>
  intro i K q due hi hK M S I hn
  obtain ⟨K,rfl⟩:∃K',K=K'+1:=⟨K - 1,by omega⟩
  have h:i<L.length:=by omega
  have N:i<f.Nodes.length:=by omega
  have F:i<q.length:=by rw [M.1,hst];exact N
  have hni:InN f.Nodes (i:Int):=by unfold InN;omega
  have hown:=hin _ (gC h)
  obtain ⟨c,b,h1,h2⟩:=zRw (fu:=fu) (defs:=d.Defs) (ws:=d.Waits) (nx:=d.Next) (bz:=d.Busy) (cs:=cs) (zAS F) (zAS N)
  obtain ⟨D,X⟩:=zaS hr hfu hni
  simp only [zDk]
  rw [zAO (by simpa using h),zAS h,zAA,h1,zAA,zAY (by omega)]
  simp only [zAA]
  cases b with
  | false=>exact ih (i+1) K q due (by omega) (by omega) M S (by omega) hn
  | true =>
   obtain ⟨g1,g2,g3⟩:=h2 rfl
   have hB:isB f.Nodes (i:Int) 1=true:=by unfold isB;rw [zAS N];simpa using g3
   have hdn:¬d.Defs=[]:=fun e=>by rw [e,zOJ] at g2;cases g2
   have P:∀(a:List State) (b:List Due),d.Defs=[]->a=st/\b=[]:=fun _ _ e=>absurd e hdn
   have hgs:q[i]? = some q[i]:=lC F
   rw [iA,zAD,zAS F,zAA,zAX,X]
   have J:∀{t:Todo} {G E:List Due},(t.Kind=5\/t.Kind=6)->(∀u∈G,zZQ f.Nodes u)->(E=[]\/E=[⟨(i:Int),t⟩])->∀u∈G++E,zZQ f.Nodes u:=fun ht hd hl' u T=>by
    rcases cA.1 T with T | T
    ·exact hd u T
    ·rcases hl' with rfl | rfl
     ·cases T
     ·rw [e8.1 T];exact ⟨hB,ht⟩
   by_cases ho:q[i].Owner=L[i]
   ·rw [iP ho,zAA]
    cases hb2:D==q[i].Barred with
    | true=>exact ih (i+1) K q due (by omega) (by omega) M S (by omega) hn
    | false =>
     obtain ⟨E,k1,k2⟩:=zO2 (fu:=fu) (c:=c) (n:=(i:Int)) (t:=⟨6,0,[],false,false,[],[],0,0,D⟩) (l:=due) (by omega)
     rw [jL,zAP,k1,zAA,eO]
     have hll:E.length<=1:=by rcases k2 with rfl | rfl<;>simp
     exact ih (i+1) K _ (due++E) (by omega) (by omega) (M.set hgs (.inr ⟨hB,rfl,rfl,.inl rfl⟩)) (J (.inr rfl) S k2) (by rw [eR];omega) (P _ _)
   ·rw [iN ho]
    obtain ⟨E,k1,k2⟩:=zO2 (fu:=fu) (c:=c) (n:=(i:Int)) (t:=⟨5,0,[],false,false,[],[],q[i].Owner,L[i],false⟩) (l:=due) (by omega)
    have hll:E.length<=1:=by rcases k2 with rfl | rfl<;>simp
    have W:=M.set (v:=⟨q[i].Phase,q[i].Def,L[i],q[i].Barred⟩) hgs (.inr ⟨hB,rfl,rfl,.inr hown⟩)
    have V:=J (.inl rfl) S k2
    rw [k1,zAA,zAA,eO]
    cases hb2:D==q[i].Barred with
    | true=>exact ih (i+1) K _ (due++E) (by omega) (by omega) W V (by rw [eR];omega) (P _ _)
    | false =>
     obtain ⟨l2,k3,k4⟩:=zO2 (fu:=fu) (c:=c) (n:=(i:Int)) (t:=⟨6,0,[],false,false,[],[],0,0,D⟩) (l:=due++E) (by rw [eR];omega)
     have hll2:l2.length<=1:=by rcases k4 with rfl | rfl<;>simp
     rw [jL,zAP,k3,zAA]
     have hg2:(q.set i (⟨q[i].Phase,q[i].Def,L[i],q[i].Barred⟩:State))[i]? = some ⟨q[i].Phase,q[i].Def,L[i],q[i].Barred⟩:=by
      rw [kR,iP rfl,iP F]
     exact ih (i+1) K _ (due++E++l2) (by omega) (by omega) (W.set (v:=⟨q[i].Phase,q[i].Def,L[i],D⟩) hg2 (.inr ⟨hB,rfl,rfl,.inl rfl⟩)) (J (.inr rfl) V k4) (by simp only [eR];omega) (P _ _)
theorem zhl (I:zLL d=true):∃h e,zJn fu f st d cs=some (h,e)/\zac f.Nodes st h/\(∀u∈e,zZQ f.Nodes u)/\e.length<=800/\(d.Defs=[]->h=st/\e=[]):=by
 have i:=(zAG hr).few
 obtain ⟨L,E,F,G⟩:=zcI hr hfu
 unfold zJn
 rw [zUI hfu hr hl hw hst,zAA,I]
 simp only [iA,zAD]
 rw [E,zAA]
 obtain ⟨h,e,j,q,C,J,D⟩:=told_l (d:=d) (cs:=cs) hfu hr hst F G L.length 0 fu st [] (by omega) (by omega) (zac.refl _ _) (by simp) (by simp) (fun _=>⟨rfl,rfl⟩)
 exact ⟨h,e,j,q,C,by omega,D⟩
theorem zev (x:Int):∃due,zKV fu f st d cs x=some due/\due.length<=400/\(∀u∈due,InN f.Nodes u.Node/\u.Todo.Kind=7)/\(d.Defs=[]->due=[]):=by
 have S:=(zAG hr).few
 obtain ⟨L,h1,h2,h3⟩:=zZy hr hfu x
 unfold zKV
 rw [zUI hfu hr hl hw hst,zAA]
 cases hd:zLL d with
 | false=>exact ⟨[],rfl,by simp,by simp,fun _=>rfl⟩
 | true =>
  simp only [iA,zAD]
  rw [h1,zAA]
  have P:∀(j i K:Nat) (due:List Due),i+j=L.length->j<K->due.length<=i->(∀u∈due,InN f.Nodes u.Node/\u.Todo.Kind=7)->(d.Defs=[]->due=[])->∃q,zFH fu ((),true,f.Nodes,f.Most,d.Defs,d.Waits,d.Next,d.Busy,cs,st,[]) L K ((i:Int),due)=some q/\q.length<=L.length/\(∀u∈q,InN f.Nodes u.Node/\u.Todo.Kind=7)/\(d.Defs=[]->q=[]):=by
   intro j
   induction j with
   | zero =>
    intro i K due hi hK C F N
    obtain ⟨K,rfl⟩:∃G,K=G+1:=⟨K - 1,by omega⟩
    obtain rfl:i=L.length:=by omega
    simp only [zFH]
    rw [zAN (by simp)]
    exact ⟨_,rfl,C,F,N⟩
   | succ j T =>
    intro i K due hi hK C F N
    obtain ⟨K,rfl⟩:∃G,K=G+1:=⟨K - 1,by omega⟩
    have h:i<L.length:=by omega
    have M:=h3 _ (gC h)
    obtain ⟨y,hy⟩:=zAK M
    obtain ⟨s,hs⟩:=zAK (l:=st) (n:=L[i]) (by rw [hst];exact M)
    obtain ⟨c,b,I,Q⟩:=zRw (fu:=fu) (defs:=d.Defs) (ws:=d.Waits) (nx:=d.Next) (bz:=d.Busy) (cs:=cs) hs hy
    simp only [zFH]
    rw [zAO (by simpa using h),zAS h,zAA,I,zAA,zAY (by omega)]
    simp only [zAA]
    cases b with
    | false=>exact T (i+1) K due (by omega) (by omega) (by omega) F N
    | true =>
     obtain ⟨_,E,_⟩:=Q rfl
     have J:¬d.Defs=[]:=fun e=>by rw [e,zOJ] at E;cases E
     obtain ⟨W,k1,V⟩:=zO2 (fu:=fu) (c:=c) (n:=L[i]) (t:=⟨7,0,[],false,false,[],[],0,0,false⟩) (l:=due) (by omega)
     have hll:W.length<=1:=by rcases V with rfl | rfl<;>simp
     rw [zAP,k1,zAA]
     refine T (i+1) K (due++W) (by omega) (by omega) (by rw [eR];omega) (fun u D=>?_) fun e=>absurd e J
     rcases cA.1 D with D | D
     ·exact F u D
     ·rcases V with rfl | rfl
      ·cases D
      ·rw [e8.1 D];exact ⟨M,rfl⟩
  obtain ⟨q,I,Q,X,E⟩:=P L.length 0 fu [] (by omega) (by omega) (by simp) (by simp) (fun _=>rfl)
  exact ⟨q,I,by omega,X,E⟩
theorem zZ7 (i:InN f.Nodes n) (s:Bs):∃due,zIT fu f st d cs n s=some due/\due.length<=1/\(∀u∈due,u.Node=n/\u.Todo.Kind=8)/\(d.Defs=[]->due=[]):=by
 obtain ⟨y,hy⟩:=zAK i
 obtain ⟨K,hs⟩:=zAK (l:=st) (n:=n) (by rw [hst];exact i)
 have j:=i
 unfold InN at j
 unfold zIT
 rw [zUI hfu hr hl hw hst,zAA]
 cases J:zLL d with
 | false=>exact ⟨[],rfl,by simp,by simp,fun _=>rfl⟩
 | true =>
  obtain ⟨c,b,E,F⟩:=zRw (fu:=fu) (defs:=d.Defs) (ws:=d.Waits) (nx:=d.Next) (bz:=d.Busy) (cs:=cs) hs hy
  simp only [iA,zAD]
  rw [zAN (by simp;omega),zAN (by simp;omega),E,zAA]
  cases b with
  | false=>exact ⟨[],rfl,by simp,by simp,fun _=>rfl⟩
  | true =>
   obtain ⟨_,q,_⟩:=F rfl
   have h:¬d.Defs=[]:=fun e=>by rw [e,zOJ] at q;cases q
   obtain ⟨I,G,D⟩:=zO2 (fu:=fu) (c:=c) (n:=n) (t:=⟨8,0,[],false,false,[],s,0,0,false⟩) (l:=[]) (by simp)
   simp only [zAP]
   rw [G,zAA]
   refine ⟨I,by rw [iU],by rcases D with rfl | rfl<;>simp,fun u C=>?_,fun e=>absurd e h⟩
   rcases D with rfl | rfl
   ·cases C
   ·rw [e8.1 C];exact ⟨rfl,rfl⟩
end
end
section
def zTE:Line->List Task->List Due->Line×List Task
 | l,ts,[]=>(l,ts)
 | l,ts,u::r=>zTE (zQz l u.Node u.Todo).1 (if (zQz l u.Node u.Todo).2=true then ts++[⟨1,0,0⟩] else ts) r
def zUK (w:World) (due:List Due):World:=⟨w.Forest,w.States,w.Desk,(zTE w.Line w.Tasks due).1,(zTE w.Line w.Tasks due).2,w.Builds,w.Classes⟩
theorem zYQ:∀{due:List Due} {l:Line} {ts:List Task},(zTE l ts due).1.Todos.length=l.Todos.length
 | [],_,_=>rfl
 | u::r,l,ts=>by simp only [zTE];rw [zYQ,zOq]
theorem zTF:∀{due:List Due} {l:Line} {ts:List Task},zHp l=true->(∀u∈due,inL l u.Node=true)->zHp (zTE l ts due).1=true
 | [],_,_,h,_=>h
 | u::r,l,ts,h,hi=>by
  simp only [zTE]
  refine zTF (zS0 h (hi u (lH ..))) fun v e=>?_
  rw [zRB zOq]
  exact hi v (lG _ e)
theorem zTG {B:Nat}:∀{due:List Due} {l:Line} {ts:List Task} {n:Nat},LS (B+n) l->LS (B+n+due.length) (zTE l ts due).1
 | [],_,_,_,h=>h
 | u::r,l,ts,n,h=>by
  simp only [zTE,cP]
  have:=zTG (B:=B) (due:=r) (l:=(zQz l u.Node u.Todo).1) (ts:=if (zQz l u.Node u.Todo).2=true then ts++[⟨1,0,0⟩] else ts) (n:=n+1) (zS1 h)
  exact this.mono (by omega)
theorem zPo:∀{due:List Due} {l:Line} {ts:List Task},(zTE l ts due).2.length<=ts.length+due.length/\(∀t∈(zTE l ts due).2,t∈ts\/t=⟨1,0,0⟩)
 | [],_,_=>⟨by simp [zTE],fun _ h=>.inl h⟩
 | u::r,l,ts=>by
  simp only [zTE,cP]
  obtain ⟨q,i⟩:=zPo (due:=r) (l:=(zQz l u.Node u.Todo).1) (ts:=if (zQz l u.Node u.Todo).2=true then ts++[⟨1,0,0⟩] else ts)
  refine ⟨?_,fun t j=>?_⟩
  ·have e:(if (zQz l u.Node u.Todo).2=true then ts++[(⟨1,0,0⟩:Task)] else ts).length<=ts.length+1:=by split<;>simp
   omega
  ·rcases i t j with h | h
   ·split at h
    ·rcases cA.1 h with h | h
     ·exact .inl h
     ·exact .inr (e8.1 h)
    ·exact .inl h
   ·exact .inr h
def zbF (due:List Due) (i:Nat):List Todo:=(due.filter fun u=>u.Node==(i:Int)).map (·.Todo)
theorem zf5 (q:inL l n=true) (i:Nat):(zQz l n t).1.Todos[i]? = (l.Todos[i]?).map fun a=>a++(if n=(i:Int) then [t] else []):=by
 unfold inL at q
 simp only [lM,decide_eq_true_eq] at q
 obtain ⟨m,rfl⟩:∃m:Nat,n=(m:Int):=⟨n.toNat,by omega⟩
 have j:m<l.Todos.length:=by omega
 have e:(zQz l (m:Int) t).1.Todos=l.Todos.set m ((l.Todos[m]?).getD []++[t]):=by
  unfold zQz;split<;>simp
 rw [e,kR]
 by_cases h:m=i
 ·subst h
  rw [iP rfl,iP j,iP rfl,lC j]
  rfl
 ·rw [iN h,iN (by omega)]
  cases l.Todos[i]? <;> simp
theorem zXK:∀{due:List Due} {l:Line} {ts:List Task} (i:Nat),(∀u∈due,inL l u.Node=true)->(zTE l ts due).1.Todos[i]? = (l.Todos[i]?).map fun a=>a++zbF due i
 | [],l,ts,i,_=>by
  simp only [zTE,zbF]
  cases l.Todos[i]? <;> simp
 | u::r,l,ts,i,hi=>by
  simp only [zTE]
  rw [zXK i (fun v e=>by rw [zRB zOq];exact hi v (lG _ e)),zf5 (hi u (lH ..)),Option.map_map]
  congr 1
  funext a
  simp only [Function.comp_apply,eS]
  congr 1
  unfold zbF
  rw [kZ]
  by_cases h:u.Node=(i:Int)
  ·rw [iP h,iP (by simpa using h)];rfl
  ·rw [iN h,iN (by simpa using h)];rfl
theorem zd2 {fu B:Nat} {w0:World} (hfu:B+due.length+10000<fu) (hB:B+due.length<=1000000000):∀(j i K:Nat) (l:Line) (ts:List Task),i+j=due.length->j<K->LS (B+i) l->ts.length<=B+i->zHp l=true->(∀u∈due,inL l u.Node=true) ->
  zBn fu due ⟨w0⟩ K ((i:Int),ts,l.Todos,l.Stack,l.Back,l.Busy)=some ⟨⟨w0.Forest,w0.States,w0.Desk,(zTE l ts (due.drop i)).1,(zTE l ts (due.drop i)).2,w0.Builds,w0.Classes⟩⟩:=by
 intro j
 induction j with
 | zero =>
  intro i K l ts hi I hS J hR F
  obtain ⟨K,rfl⟩:∃E,K=E+1:=⟨K - 1,by omega⟩
  obtain rfl:i=due.length:=by omega
  simp only [zBn]
  rw [zAN (by simp),kK]
  rfl
 | succ j G =>
  intro i K l ts hi I hS J hR F
  obtain ⟨K,rfl⟩:∃E,K=E+1:=⟨K - 1,by omega⟩
  have h:i<due.length:=by omega
  have D:=F _ (gC h)
  have C:LS (B+(i+1)) (zQz l due[i].Node due[i].Todo).1:=zS1 hS
  have e:∀u∈due,inL (zQz l due[i].Node due[i].Todo).1 u.Node=true:=fun u M=>by rw [zRB zOq];exact F u M
  have q:=zS0 (t:=due[i].Todo) hR D
  simp only [zBn]
  rw [zAO (by simpa using h),zAS h,zAA,add_ok (B:=B+i) (by omega) (by omega) hS hR D,zAA,zAY (by omega)]
  simp only [zAA]
  rw [eT h]
  simp only [zTE]
  cases N:(zQz l due[i].Node due[i].Todo).2 with
  | true =>
   rw [zAP,zAh (by simp only [cP,eK];omega),zAA,iP rfl]
   exact G (i+1) K (zQz l due[i].Node due[i].Todo).1 _ (by omega) (by omega) C (by simp only [eR,cP,eK];omega) q e
  | false =>
   rw [zAD,iN (by simp)]
   exact G (i+1) K (zQz l due[i].Node due[i].Todo).1 _ (by omega) (by omega) C (by omega) q e
theorem zRx {fu B:Nat} {w:World} (hfu:B+due.length+10000<fu) (hB:B+due.length<=1000000000) (hS:LS B w.Line) (h:w.Tasks.length<=B) (hR:zHp w.Line=true) (e:∀u∈due,inL w.Line u.Node=true):zBa fu due ⟨w⟩=some ⟨zUK w due⟩:=by
 unfold zBa
 rw [za1 (by simp only;omega),zAA]
 exact zd2 hfu hB due.length 0 fu w.Line w.Tasks (by omega) (by omega) hS h hR e
structure WR (w:World):Prop where
 st:w.States.length=w.Forest.Nodes.length
 td:w.Line.Todos.length=w.Forest.Nodes.length
 cl:zKg w=true
 fr:zAH w.Forest=true
 dk:zLL w.Desk=true
 ln:zHp w.Line=true
 per:∀(i:Nat) (s:State) (x:Node),w.States[i]? = some s->w.Forest.Nodes[i]? = some x->zML w.Forest.Nodes.length w.Desk.Defs.length x s=true
 todo:∀l∈w.Line.Todos,∀t∈l,zIS w.Desk.Defs.length t=true
 task:∀t∈w.Tasks,zSy w.Desk.Defs.length t=true
 build:∀b∈w.Builds,zOu w.Forest.Nodes w.Desk.Defs.length b=true
theorem WR.iff {w:World}:zTp w=true↔WR w:=by
 unfold zTp
 simp only [lM,decide_eq_true_eq,lR,jO]
 constructor
 ·rintro ⟨j,q,u,C,D,E,e,F,G⟩
  refine ⟨j,q,u,C,D,E,fun i s x hs hx=>?_,fun l hl t I=>?_,F,G⟩
  ·have hi:i<w.Line.Todos.length:=by
    have:=(lF.1 hx).1;omega
   have:=e i hi
   unfold zfn at this
   rw [hs,hx] at this
   simp only [lM] at this
   exact this.1
  ·obtain ⟨i,hi,rfl⟩:=iW hl
   have:=e i hi
   unfold zfn at this
   rw [lC hi] at this
   simp only [lM,cM,lR] at this
   exact this.2 t I
 ·intro h
  refine ⟨h.st,h.td,h.cl,h.fr,h.dk,h.ln,fun i hi=>?_,h.task,h.build⟩
  have hs:i<w.States.length:=by rw [h.st,<- h.td];exact hi
  have hx:i<w.Forest.Nodes.length:=by rw [<- h.td];exact hi
  unfold zfn
  rw [lC hs,lC hx,lC hi]
  simp only [lM,cM,lR]
  exact ⟨h.per i _ _ (lC hs) (lC hx),h.todo _ (gC hi)⟩
theorem WR.classes {w:World} (h:WR w):∀c∈w.Classes,c.Watch.length<=12:=fun c i=>by
 have:=h.cl
 unfold zKg at this
 simp only [lM,lR] at this
 have e:=this.2.1 c i
 unfold zIb at e
 simp only [lM,decide_eq_true_eq] at e
 exact e.1
theorem WR.enl {w:World} (h:WR w) {due:List Due} (D:∀u∈due,InN w.Forest.Nodes u.Node/\zIS w.Desk.Defs.length u.Todo=true):WR (zUK w due):=by
 have hi:∀u∈due,inL w.Line u.Node=true:=fun u C=>by
  have:=(D u C).1
  unfold InN at this
  unfold inL
  rw [h.td]
  simpa using this
 refine ⟨h.st,zYQ.trans h.td,h.cl,h.fr,h.dk,zTF h.ln hi,h.per,fun l hl t j=>?_,fun t j=>?_,h.build⟩
 ·obtain ⟨i,q⟩:=List.getElem?_of_mem hl
  have e:=zXK (l:=w.Line) (ts:=w.Tasks) i hi
  rw [show (zTE w.Line w.Tasks due).1.Todos[i]? = some l from q] at e
  obtain ⟨a,E,F⟩:=lI.1 e.symm
  subst F
  rcases cA.1 j with j | j
  ·exact h.todo a (lU E) t j
  ·unfold zbF at j
   obtain ⟨u,C,rfl⟩:=lE.1 j
   exact (D u (iJ.1 C).1).2
 ·rcases zPo.2 t j with j | rfl
  ·exact h.task t j
  ·rfl
theorem WR.inL {w:World} (h:WR w) {n:Int} (e:InN w.Forest.Nodes n):inL w.Line n=true:=by
 unfold InN at e
 unfold Proofs.YtmfbghpealgaiaaGreatDoor.inL
 rw [h.td]
 simpa using e
theorem WS.enl {B:Nat} {w:World} (h:WS B w) {due:List Due}:WS (B+due.length) (zUK w due):=by
 refine ⟨zTG (n:=0) h.line,eM zPo.1 (by have:=h.tasks;omega),by have:=h.builds;simp only [zUK];omega,h.defs,h.waits,h.kids,by have:=h.states;simp only [zUK];omega⟩
theorem zVJ {fu B:Nat} {w:World} (hfu:B+due.length+10000<fu) (hB:B+due.length<=1000000000) (hS:WS B w) (hR:WR w) (h:∀u∈due,InN w.Forest.Nodes u.Node/\zIS w.Desk.Defs.length u.Todo=true):zIZ fu w due=some (zUK w due,0):=by
 unfold zIZ
 rw [zSe hS (by omega) (by omega),zAA,WR.iff.2 hR,iA,zAD]
 rw [zQp (p:=fun u => !(ltI w.Forest.Nodes.length u.Node&&zIS w.Desk.Defs.length u.Todo)) (fun u _=>by
  unfold zEV
  rw [zVC,zAA,zZM,zAA]
  cases ltI w.Forest.Nodes.length u.Node<;>rfl) (by omega) (by omega),zAA,zGE]
 have:(due.all fun u=>ltI w.Forest.Nodes.length u.Node&&zIS w.Desk.Defs.length u.Todo)=true:=by
  rw [lR]
  intro u e
  rw [lM]
  exact ⟨zJ8.2 (h u e).1,(h u e).2⟩
 rw [this,iA,zAD,zRx hfu hB hS.line hS.tasks hR.ln (fun u e=>hR.inL (h u e).1),zAA]
end
section
def zUB (x:Node):State:=⟨if x.Kind=1 then (if x.Is=[] then (if zFf x.Name=true then 1 else 0) else 1) else 0,-1,-1,false⟩
theorem zgE {fu:Nat} (hfu:1000<fu):zI2 fu x=some (zUB x):=by
 unfold zI2 zN7 zUB
 rw [zAi,zIN (by omega),zAA]
 by_cases e:x.Kind=1
 ·rw [iP e,iP e]
  by_cases h:x.Is=[]
  ·rw [h]
   cases zFf x.Name<;>rfl
  ·have:(x.Is==([]:Bs))=false:=by simpa using h
   rw [this,iN h];rfl
 ·rw [iN e,iN e]
theorem zW9 (q j:Nat) (x:Node):zML q j x (zUB x)=true:=by
 unfold zML zUB
 by_cases e:x.Kind=1
 ·rw [iP e,iP e]
  by_cases h:x.Is=[]
  ·by_cases i:zFf x.Name=true<;>simp [h,i]
  ·simp [h]
 ·rw [iN e,iN e];rfl
def zH8 (w:World) (f:Forest):Prop:=f.Most=w.Forest.Most/\w.Forest.Nodes.length<=f.Nodes.length/\∀(i:Nat) (x:Node),w.Forest.Nodes[i]? = some x->∃y,f.Nodes[i]? = some y/\y.Kind=x.Kind
def zTK (w:World) (f:Forest) (i:Nat):Bool:=match w.Forest.Nodes[i]?,f.Nodes[i]? with | some x,some y=>y.Kind==x.Kind | _,_=>true
theorem zZm {fu:Nat} {w:World} {f:Forest} (hfu:2000<fu) (hw:w.Forest.Nodes.length<=1000) (hf:f.Nodes.length<=1000):∃b,zEj fu ⟨w⟩ f=some b/\(b=true↔zH8 w f):=by
 unfold zEj
 simp only
 rw [zAX,zAR]
 by_cases q:f.Most=w.Forest.Most
 ·rw [iP q]
  by_cases u:f.Nodes.length<w.Forest.Nodes.length
  ·rw [iP (by omega)]
   exact ⟨false,rfl,by simp;intro h;have:=h.2.1;omega⟩
  ·rw [iN (by omega)]
   have:=zOZ (L:=zB8 ⟨w⟩ f) w.Forest.Nodes.length (zTK w f) (some true) (fun i hi k=>by
    have e:i<f.Nodes.length:=by omega
    simp only [zB8]
    rw [zAO (by simpa using hi),zAS hi,zAA,zAS e,zAA,zAX,zAY (by omega),zAA]
    unfold zTK
    rw [lC hi,lC e]
    simp only
    by_cases j:f.Nodes[i].Kind=w.Forest.Nodes[i].Kind
    ·rw [iP j,j];simp
    ·rw [iN j,show (f.Nodes[i].Kind==w.Forest.Nodes[i].Kind)=false by simpa using j];rfl) (fun k=>by
    simp only [zB8]
    rw [zAN (by simp)]) (k:=fu) (by omega)
   refine ⟨(cW w.Forest.Nodes.length).all (zTK w f),this.trans ?_,?_⟩
   ·cases (cW w.Forest.Nodes.length).all (zTK w f)<;>rfl
   ·rw [lR]
    constructor
    ·intro h
     refine ⟨q,by omega,fun i x hx=>?_⟩
     have hi:=(lF.1 hx).1
     have e:i<f.Nodes.length:=by omega
     have:=h i (jO.2 hi)
     unfold zTK at this
     rw [hx,lC e] at this
     exact ⟨_,lC e,by simpa using this⟩
    ·intro h i hi
     rw [jO] at hi
     obtain ⟨y,hy,j⟩:=h.2.2 i _ (lC hi)
     unfold zTK
     rw [lC hi,hy]
     simpa using j
 ·rw [iN q]
  exact ⟨false,rfl,by simp;intro h;exact q h.1⟩
def zO6 (l:Line) (n:Nat):Line:=⟨l.Todos++dH n [],l.Stack,l.Back,l.Busy⟩
def st1 (w:World) (f:Forest):List State:=w.States++(f.Nodes.drop w.Forest.Nodes.length).map zUB
def ln1 (w:World) (f:Forest):Line:=zO6 w.Line (f.Nodes.length - w.Forest.Nodes.length)
def mid1 (w:World) (f:Forest):World:=⟨f,st1 w f,w.Desk,ln1 w f,w.Tasks,w.Builds,w.Classes⟩
def zVE (w:World) (f:Forest) (notes:List Note):World:=zUK (mid1 w f) (zWm f (st1 w f) w.Desk w.Classes notes)
def mid3 (w:World) (f:Forest) (notes:List Note) (e:List State):World:=⟨f,e,w.Desk,(zVE w f notes).Line,(zVE w f notes).Tasks,w.Builds,w.Classes⟩
def zdQ (w:World) (f:Forest) (notes:List Note) (v:World):Prop:=∃h e,v=zUK (mid3 w f notes h) e/\zac f.Nodes (st1 w f) h/\(∀u∈e,zZQ f.Nodes u)/\e.length<=800/\(w.Desk.Defs=[]->h=st1 w f/\e=[])
theorem zVv {k:Int} (h:isB ns n k=true):InN ns n:=by
 unfold isB at h
 cases e:idx ns n with
 | none=>rw [e] at h;cases h
 | some x=>exact zAJ e
section
variable {w:World} {f:Forest} (hR:WR w) (hf:zAH f=true) (hF:zH8 w f)
include hR hf hF
omit hf in
theorem zP5:(st1 w f).length=f.Nodes.length:=by
 have:=hF.2.1
 unfold st1
 rw [eR,lL,iK,hR.st]
 omega
theorem zPr:WR (mid1 w f):=by
 have M:=hF.2.1
 have C:∀{i:Nat} {x:Node},f.Nodes[i]? = some x->i<w.Forest.Nodes.length->∃y,w.Forest.Nodes[i]? = some y/\x.Kind=y.Kind:=fun {i x} hx hi=>by
  obtain ⟨z,hz,q⟩:=hF.2.2 i _ (lC hi)
  rw [hx] at hz
  exact ⟨_,lC hi,by rw [lJ.inj hz];exact q⟩
 have G:∀k,ltI w.Forest.Nodes.length k=true->ltI f.Nodes.length k=true:=fun k h=>by
  have:=zJ8.1 h
  exact zJ8.2 (by omega)
 refine ⟨zP5 hR hF,?_,hR.cl,hf,hR.dk,?_,fun i s x hs hx=>?_,fun l hl t I=>?_,hR.task,fun b P=>?_⟩
 ·show (w.Line.Todos++dH (f.Nodes.length - w.Forest.Nodes.length) []).length=f.Nodes.length
  rw [eR,kF,hR.td];omega
 ·have:=hR.ln
  unfold zHp at this ⊢
  rw [lR] at this ⊢
  intro S F
  have K:=this S F
  rw [lR] at K ⊢
  intro n Q
  have E:=K n Q
  unfold inL at E ⊢
  simp only [lM,decide_eq_true_eq] at E ⊢
  refine ⟨E.1,?_⟩
  show n<((w.Line.Todos++dH (f.Nodes.length - w.Forest.Nodes.length) ([]:List Todo)).length:Int)
  rw [eR];omega
 ·show zML f.Nodes.length w.Desk.Defs.length x s=true
  have e:(w.States++(f.Nodes.drop w.Forest.Nodes.length).map zUB)[i]? = some s:=hs
  by_cases hi:i<w.Forest.Nodes.length
  ·rw [List.getElem?_append_left (by rw [hR.st];exact hi)] at e
   obtain ⟨y,hy,q⟩:=C hx hi
   have:=hR.per i s y e hy
   unfold zML at this ⊢
   rw [q]
   split
   ·rename_i D
    rw [iP D] at this
    simp only [lM,dD] at this ⊢
    exact ⟨this.1.imp id (G _),this.2⟩
   ·rename_i D
    rw [iN D] at this
    exact this
  ·rw [cC (by rw [hR.st];omega),lK,cD,hR.st] at e
   rw [show w.Forest.Nodes.length+(i - w.Forest.Nodes.length)=i by omega] at e
   have J:f.Nodes[i]? = some x:=hx
   rw [J] at e
   simp only [lW,lJ.injEq] at e
   rw [<- e]
   exact zW9 _ _ _
 ·rcases cA.1 hl with hl | hl
  ·exact hR.todo l hl t I
  ·rw [(kS.1 hl).2] at I;cases I
 ·have:=hR.build b P
  show zOu f.Nodes w.Desk.Defs.length b=true
  unfold zOu at this ⊢
  simp only [lM,dD] at this ⊢
  refine ⟨this.1,this.2.imp id fun h=>?_⟩
  have j:=zVv h
  unfold isB at h ⊢
  obtain ⟨m,N⟩:∃m:Nat,b.Node=(m:Int):=⟨b.Node.toNat,by have:=j.1;omega⟩
  have u:m<w.Forest.Nodes.length:=by have:=j.2;omega
  rw [N,zAS u] at h
  obtain ⟨y,hy,q⟩:=hF.2.2 m _ (lC u)
  rw [N,zL4,hy]
  simp only [beq_iff_eq] at h ⊢
  rw [q];exact h
omit hR hf hF in
theorem zXJ (notes:List Note):∀u∈zWm f (st1 w f) w.Desk w.Classes notes,InN f.Nodes u.Node/\zIS w.Desk.Defs.length u.Todo=true:=fun u i=>by
 obtain ⟨e,h,_⟩:=zge i
 exact ⟨zVv e,h⟩
theorem zZz (notes:List Note):WR (zVE w f notes):=(zPr hR hf hF).enl (zXJ notes)
theorem zPs {q:List State} (E:zac f.Nodes (st1 w f) q):WR (mid3 w f notes q):=by
 have j:=zZz hR hf hF notes
 refine ⟨E.1.trans (zP5 hR hF),j.td,j.cl,hf,j.dk,j.ln,fun i s x hs hx=>?_,j.todo,j.task,j.build⟩
 obtain ⟨F,G,I⟩:=E.2 i s hs
 have:=j.per i F x G hx
 show zML f.Nodes.length w.Desk.Defs.length x s=true
 rcases I with rfl | ⟨D,J,K,k4⟩
 ·exact this
 ·have C:x.Kind=1:=by
   unfold isB at D
   have u:f.Nodes[i]? = some x:=hx
   rw [zL4,u] at D
   simpa using D
  have e:zML f.Nodes.length w.Desk.Defs.length x F=true:=this
  unfold zML at e ⊢
  rw [iP C] at e ⊢
  rw [J,K]
  simp only [lM,dD,beq_iff_eq] at e ⊢
  refine ⟨?_,e.2⟩
  rcases k4 with h | h | h
  ·rw [h];exact e.1
  ·exact .inl h
  ·exact .inr (zJ8.2 h)
theorem zaE (h:zdQ w f notes v):WR v:=by
 obtain ⟨D,e,rfl,q,j,_⟩:=h
 refine (zPs hR hf hF q).enl fun u C=>?_
 obtain ⟨i,E⟩:=j u C
 refine ⟨zVv i,?_⟩
 unfold zIS
 simp only [dD,lM,decide_eq_true_eq]
 left;omega
end
section
variable {B:Nat} {w:World} {f:Forest} (hS:WS B w) (hR:WR w) (hf:zAH f=true) (hF:zH8 w f)
include hS hR hf hF
theorem zTM:WS (B+400) (mid1 w f):=by
 have i:=(zAG hf).few
 have h:=hS.line
 have j:=h.todos
 have hl:=hF.2.1
 have hst:=hS.states
 refine ⟨⟨?_,fun t e=>?_,by have:=h.stack;show w.Line.Stack.length<=_;omega,fun t e=>by have:=h.lists t e;omega,by have:=h.back;show w.Line.Back.length<=_;omega⟩,by have:=hS.tasks;show w.Tasks.length<=_;omega,by have:=hS.builds;show w.Builds.length<=_;omega,hS.defs,hS.waits,fun x hx=>by have:=(zAG hf).kids x hx;omega,?_⟩
 ·show (w.Line.Todos++dH (f.Nodes.length - w.Forest.Nodes.length) ([]:List Todo)).length<=_
  rw [eR,kF];omega
 ·rcases cA.1 e with e | e
  ·have:=h.todo t e;omega
  ·rw [(kS.1 e).2];simp
 ·show (st1 w f).length<=_
  rw [zP5 hR hF];omega
theorem zTj (h:zdQ w f notes v):WS (B+notes.length+1200) v:=by
 obtain ⟨j,i,rfl,D,_,hl,_⟩:=h
 have q:=(zTM hS hR hf hF).enl (due:=zWm f (st1 w f) w.Desk w.Classes notes)
 have E:=zYP (f:=f) (st:=st1 w f) (d:=w.Desk) (cs:=w.Classes) (notes:=notes)
 have u:=(zAG hf).few
 have C:WS (B+400+notes.length) (mid3 w f notes j):=by
  refine ⟨q.line.mono (by omega),by have:=q.tasks;show (zVE w f notes).Tasks.length<=_;unfold zVE;omega,by have:=hS.builds;show w.Builds.length<=_;omega,hS.defs,hS.waits,q.kids,?_⟩
  show j.length<=_
  rw [D.1,zP5 hR hF];omega
 have e:=C.enl (due:=i)
 exact ⟨e.line.mono (by omega),by have:=e.tasks;omega,by have:=e.builds;omega,e.defs,e.waits,e.kids,by have:=e.states;omega⟩
end
theorem zhy {fu B:Nat} {w:World} {f:Forest} (hfu:B+notes.length+20000<fu) (hB:B+notes.length+20000<=1000000000) (hn:notes.length<=100000000) (hS:WS B w) (hR:WR w) (hf:zAH f=true) (hF:zH8 w f) :
  ∀(j i K:Nat),i+j=(f.Nodes.drop w.Forest.Nodes.length).length->j<K->∃v,zGQ fu w f notes (f.Nodes.drop w.Forest.Nodes.length) K ((i:Int),w.States++((f.Nodes.drop w.Forest.Nodes.length).take i).map zUB,(zO6 w.Line i).Todos,(zO6 w.Line i).Stack,(zO6 w.Line i).Back,(zO6 w.Line i).Busy)=some (v,0)/\zdQ w f notes v:=by
 have hfew:=(zAG hf).few
 have q:=hS.line
 have hst:=hS.states
 intro j
 induction j with
 | zero =>
  intro i K hi hK
  obtain ⟨K,rfl⟩:∃Q,K=Q+1:=⟨K - 1,by omega⟩
  obtain rfl:i=(f.Nodes.drop w.Forest.Nodes.length).length:=by omega
  have e1:w.States++((f.Nodes.drop w.Forest.Nodes.length).take (f.Nodes.drop w.Forest.Nodes.length).length).map zUB=st1 w f:=by rw [iI];rfl
  have e2:zO6 w.Line (f.Nodes.drop w.Forest.Nodes.length).length=ln1 w f:=by rw [iK];rfl
  have M:=zPr hR hf hF
  have D:=zTM hS hR hf hF
  have hd:=zYP (f:=f) (st:=st1 w f) (d:=w.Desk) (cs:=w.Classes) (notes:=notes)
  simp only [zGQ]
  rw [zAN (by simp),e1,e2,due_ok (by omega) hf hS.defs hS.waits hR.classes (zP5 hR hF) hR.dk hn (by omega),zAA]
  have T:=zRx (fu:=fu) (B:=B+400) (w:=mid1 w f) (due:=zWm f (st1 w f) w.Desk w.Classes notes) (by omega) (by omega) D.line D.tasks M.ln (fun u W=>M.inL (zXJ notes u W).1)
  have I:zBa fu (zWm f (st1 w f) w.Desk w.Classes notes) ⟨⟨f,st1 w f,w.Desk,⟨(ln1 w f).Todos,(ln1 w f).Stack,(ln1 w f).Back,(ln1 w f).Busy⟩,w.Tasks,w.Builds,w.Classes⟩⟩=some ⟨zVE w f notes⟩:=T
  rw [I,zAA]
  obtain ⟨E,C,g1,X,g3,g4,g5⟩:=zhl (fu:=fu) (f:=f) (st:=st1 w f) (d:=w.Desk) (cs:=w.Classes) (by omega) hf hS.defs hS.waits (zP5 hR hF) hR.dk
  have S:zJn fu f (zVE w f notes).States (zVE w f notes).Desk (zVE w f notes).Classes=some (E,C):=g1
  simp only
  rw [S,zAA]
  have N:=zPs (notes:=notes) hR hf hF X
  have P:=D.enl (due:=zWm f (st1 w f) w.Desk w.Classes notes)
  have J:=zRx (fu:=fu) (B:=B+400+notes.length) (w:=mid3 w f notes E) (due:=C) (by omega) (by omega) (P.line.mono (by omega)) (by have:=P.tasks;show (zVE w f notes).Tasks.length<=_;unfold zVE;omega) N.ln (fun u W=>N.inL (zVv (g3 u W).1))
  have G:zBa fu C ⟨⟨(zVE w f notes).Forest,E,(zVE w f notes).Desk,(zVE w f notes).Line,(zVE w f notes).Tasks,(zVE w f notes).Builds,(zVE w f notes).Classes⟩⟩=some ⟨zUK (mid3 w f notes E) C⟩:=J
  simp only
  rw [G,zAA]
  exact ⟨_,rfl,E,C,rfl,X,g3,g4,g5⟩
 | succ j ih =>
  intro i K hi hK
  obtain ⟨K,rfl⟩:∃Q,K=Q+1:=⟨K - 1,by omega⟩
  have h:i<(f.Nodes.drop w.Forest.Nodes.length).length:=by omega
  have hil:i<=400:=by rw [iK] at h;omega
  obtain ⟨v,P,h2⟩:=ih (i+1) K (by omega) (by omega)
  have F:=q.todos
  have V:LS (B+400) (zO6 w.Line i):=⟨by unfold zO6;simp;omega,fun t F=>by
   rcases cA.1 F with F | F
   ·have:=q.todo t F;omega
   ·rw [(kS.1 F).2];simp,by have:=q.stack;unfold zO6;simp only;omega,fun t F=>by have:=q.lists t F;omega,by have:=q.back;unfold zO6;simp only;omega⟩
  simp only [zGQ]
  rw [zAO (by simpa using h),zAS h,zAA,zgE (by omega),zAA,zAh (by simp only [eR,lL,List.length_take,cP,eK];omega),zAA,zgp (B:=B+400) (by omega) V,zAA,zAY (by omega),zAA]
  refine ⟨v,?_,h2⟩
  rw [<- P,iE h,gG,<- eS]
  have e:zgo (zO6 w.Line i)=zO6 w.Line (i+1):=by
   unfold zgo zO6
   simp only [eS,List.replicate_succ']
  rw [e]
  rfl
theorem zfQ {fu B:Nat} {w:World} {f:Forest} (hfu:B+notes.length+20000<fu) (hB:B+notes.length+20000<=1000000000) (G:notes.length<=100000000) (hS:WS B w) (hR:WR w) (i:f.Nodes.length<=1000) (j:∀x∈f.Nodes,x.Kids.length<=2000) :
  ∃v e,zKd fu w f notes=some (v,e)/\((e≠0/\v=w/\¬(zAH f=true/\zH8 w f))\/(e=0/\zAH f=true/\zH8 w f/\zdQ w f notes v)):=by
 have F:=(zAG hR.fr).few
 have hst:=hS.states
 unfold zKd
 rw [zSe hS (by omega) (by omega),zAA,WR.iff.2 hR,iA,zAD,zFA (by omega) (fun x hx=>by have:=j x hx;omega),zAA]
 cases hf:zAH f with
 | false=>exact ⟨w,1,rfl,.inl ⟨by omega,rfl,by simp⟩⟩
 | true =>
  obtain ⟨b,E,q⟩:=zZm (fu:=fu) (w:=w) (f:=f) (by omega) (by omega) i
  rw [iA,zAD,E,zAA]
  cases b with
  | false=>exact ⟨w,1,rfl,.inl ⟨by omega,rfl,fun h=>by have:=q.2 h.2;cases this⟩⟩
  | true =>
   have hF:=q.1 rfl
   have u:=hF.2.1
   rw [iA,zAD,za2 (by omega),zAA]
   have I:piece f.Nodes (w.Forest.Nodes.length:Int) (f.Nodes.length:Int)=some (f.Nodes.drop w.Forest.Nodes.length):=by
    unfold piece
    rw [iP ⟨by omega,by omega,by omega⟩]
    congr 1
    rw [eO,eO,kH (by simp)]
   rw [I,zAA]
   obtain ⟨v,C,D⟩:=zhy hfu hB G hS hR hf hF (f.Nodes.drop w.Forest.Nodes.length).length 0 fu (by omega) (by rw [iK];omega)
   refine ⟨v,0,?_,.inr ⟨rfl,rfl,hF,D⟩⟩
   rw [<- C]
   simp [zO6]
end
section
def zPu:List Bs:=(zHG 0).getD []
theorem zZ2 (fu:Nat):zHG fu=some zPu:=by
 have h:∃l,zHG 0=some l:=by
  have:(zHG 0).isSome=true:=by decide +kernel
  exact kX.1 this
 obtain ⟨l,hl⟩:=h
 have e:zHG fu=zHG 0:=rfl
 unfold zPu
 rw [e,hl];rfl
def zSd (k:Int):Bs:=if k>0/\k<(zPu.length:Int) then (idx zPu k).getD [] else []
theorem zfN (fu:Nat) (k:Int):zEb fu k=some (zSd k):=by
 unfold zEb zSd
 rw [zZ2,zAA,zAR,zAR]
 by_cases e:k>0
 ·rw [iP e]
  by_cases i:k<(zPu.length:Int)
  ·obtain ⟨x,hx⟩:=zAK (l:=zPu) (n:=k) (by omega)
   rw [iP i,iP ⟨e,i⟩,hx,zAA];rfl
  ·rw [iN i,iN fun h=>i h.2]
 ·rw [iN e,iN fun h=>e h.1]
def zMW (k:Int):Bs×Bool :=
 if k=1\/k=2\/k=9\/k=28 then ([110,46,46,115,115],true)
 else if k=3\/k=10\/k=24 then ([110,46,46,115,46],true)
 else if k=6\/k=8\/k=26 then ([110,110,111,46,46],true)
 else if k=11 then ([110,105,46,115,46],true)
 else if k=12 then ([110,105,110,46,46],true)
 else if k=13 then ([110,110,46,46,46],true)
 else if k=16 then ([105,46,46,115,115],true)
 else if k=17 then ([46,46,46,115,46],true)
 else if k=19 then ([105,46,46,46,46],true)
 else if k=20\/k=22\/k=25 then ([46,46,46,46,46],true)
 else ([110,46,46,46,46],decide (0<k)&&decide (k<=28))
theorem zfg (fu:Nat) (k:Int):zJv fu k=some (⟨zSd k,(zMW k).1⟩,(zMW k).2):=by
 unfold zJv zHF zIo zIp zIq zMW
 simp only [zfN,zAA,zAi,zAR]
 by_cases G:k=1
 ·simp [G]
 by_cases I:k=2
 ·simp [I]
 by_cases J:k=9
 ·simp [J]
 by_cases K:k=28
 ·simp [K]
 by_cases M:k=3
 ·simp [M]
 by_cases N:k=10
 ·simp [N]
 by_cases P:k=24
 ·simp [P]
 by_cases Q:k=6
 ·simp [Q]
 by_cases S:k=8
 ·simp [S]
 by_cases e:k=26
 ·simp [e]
 by_cases h:k=11
 ·simp [h]
 by_cases i:k=12
 ·simp [i]
 by_cases j:k=13
 ·simp [j]
 by_cases q:k=16
 ·simp [q]
 by_cases u:k=17
 ·simp [u]
 by_cases C:k=19
 ·simp [C]
 by_cases D:k=20
 ·simp [D]
 by_cases E:k=22
 ·simp [E]
 by_cases F:k=25
 ·simp [F]
 simp only [G,I,J,K,M,N,P,Q,S,e,h,i,j,q,u,C,D,E,F,or_self,if_false]
 by_cases g:k>0
 ·rw [iP g,decide_eq_true (show 0<k from g),iD]
 ·rw [iN g,decide_eq_false (show ¬0<k from g),jD]
theorem zIc {c:Prop} [Decidable c] {x y:Bs×Bool} (j:∃a b c d e,x.1=[a,b,c,d,e]) (q:∃a b c d e,y.1=[a,b,c,d,e]):∃a b i d e,(if c then x else y).1=[a,b,i,d,e]:=by
 by_cases h:c
 ·rw [iP h];exact j
 ·rw [iN h];exact q
theorem zR2 (k:Int):∃a b c d e,(zMW k).1=[a,b,c,d,e]:=by
 have p:∀(a b c d e:UInt8) (t:Bool),∃h i j q u,(([a,b,c,d,e]:Bs),t).1=[h,i,j,q,u]:=fun a b c d e _=>⟨a,b,c,d,e,rfl⟩
 unfold zMW
 exact zIc (p _ _ _ _ _ _) (zIc (p _ _ _ _ _ _) (zIc (p _ _ _ _ _ _) (zIc (p _ _ _ _ _ _) (zIc (p _ _ _ _ _ _) (zIc (p _ _ _ _ _ _) (zIc (p _ _ _ _ _ _) (zIc (p _ _ _ _ _ _) (zIc (p _ _ _ _ _ _) (zIc (p _ _ _ _ _ _) (p _ _ _ _ _ _))))))))))
def zdU (fld:UInt8) (n:Int):Bool :=
 if fld=111 then (n == -1||(n == -2||(n == -3||ltI 400 n)))
 else if fld=110 then (n == -2||(n == -3||ltI 400 n))
 else if fld=105 then decide (-1000<=n)&&decide (n<=1000)
 else n==0
theorem zOI (fld:UInt8) (m:Nat) (e:m<256):(((fld.toNat:Int)=(m:Int))↔fld=UInt8.ofNat m):=by
 constructor
 ·intro h
  apply UInt8.toNat_inj.1
  rw [UInt8.toNat_ofNat']
  omega
 ·intro h
  rw [h,UInt8.toNat_ofNat']
  omega
theorem zXS (fu:Nat) (fld:UInt8) (n:Int):zM9 fu (fld.toNat:Int) n=some (zdU fld n):=by
 have j1:zMl n ()=some (n == -2||(n == -3||ltI 400 n)):=by
  unfold zMl
  rw [show cnd (decide (n>=0)) (some (decide (n<400))) (some false)=some (ltI 400 n) from zXf 400 n]
  cases n == -2<;>cases n == -3<;>rfl
 have q:((fld.toNat:Int)=111)↔fld=111:=zOI fld 111 (by omega)
 have u:((fld.toNat:Int)=110)↔fld=110:=zOI fld 110 (by omega)
 have C:((fld.toNat:Int)=105)↔fld=105:=zOI fld 105 (by omega)
 unfold zM9 zdU
 rw [j1]
 simp only [zAi,zAR]
 by_cases e:fld=111
 ·rw [iP (q.2 e),iP e]
  by_cases g:n = -1
  ·rw [iP g,g];rfl
  ·rw [iN g,show (n == -1)=false by simpa using g,e9]
 ·rw [iN fun h=>e (q.1 h),iN e]
  by_cases i:fld=110
  ·rw [iP (u.2 i),iP i]
  ·rw [iN fun h=>i (u.1 h),iN i]
   by_cases j:fld=105
   ·rw [iP (C.2 j),iP j]
    by_cases g:n >= -1000
    ·rw [iP g,decide_eq_true (show -1000<=n from g),iD]
    ·rw [iN g,decide_eq_false (show ¬-1000<=n from g),jD]
   ·rw [iN fun h=>j (C.1 h),iN j]
def zd5 (fld:UInt8) (s:Bs):Bool:=if fld=115 then decide (s.length<=200) && !(decide (0<=Lib.indexByte s 10)) else s==[]
theorem zbY (fu:Nat) (fld:UInt8) (s:Bs):zF5 fu (fld.toNat:Int) s=some (zd5 fld s):=by
 unfold zF5 zd5
 rw [zQO,zAi,zAR]
 unfold zO7
 rw [zAA]
 by_cases h:fld=115
 ·rw [iP (by rw [h];rfl),iP h]
  by_cases g:s.length<=200
  ·rw [iP (by omega),decide_eq_true g];rfl
  ·rw [iN (by omega),decide_eq_false g];rfl
 ·rw [iN fun e=>h (UInt8.toNat_inj.1 (by have:(115:UInt8).toNat=115:=rfl;omega)),iN h]
def zN3 (o:Op):Bool:=match (zMW o.Kind).1 with
 | [a,b,c,d,e]=>(zMW o.Kind).2&&(zdU a o.A&&(zdU b o.B&&(zdU c o.C&&(zd5 d o.S&&zd5 e o.T))))
 | _=>false
theorem zQJ {l:Bs} {i:Nat} {b:UInt8} (h:l[i]? = some b):chr l (i:Int)=some (b.toNat:Int):=by
 unfold chr
 have hi:=(lF.1 h).1
 rw [iP (by omega)]
 simp [h]
theorem zWM {fu:Nat}:zK7 fu o=some (zN3 o):=by
 obtain ⟨a,b,c,d,e,hf⟩:=zR2 o.Kind
 have h:chr (zMW o.Kind).1 0=some (a.toNat:Int):=zQJ (i:=0) (by rw [hf];rfl)
 have j:chr (zMW o.Kind).1 1=some (b.toNat:Int):=zQJ (i:=1) (by rw [hf];rfl)
 have q:chr (zMW o.Kind).1 2=some (c.toNat:Int):=zQJ (i:=2) (by rw [hf];rfl)
 have u:chr (zMW o.Kind).1 3=some (d.toNat:Int):=zQJ (i:=3) (by rw [hf];rfl)
 have D:chr (zMW o.Kind).1 4=some (e.toNat:Int):=zQJ (i:=4) (by rw [hf];rfl)
 have j2:∀ok,zIE fu o (⟨zSd o.Kind,(zMW o.Kind).1⟩,(zMW o.Kind).2) ok=some (ok&&(zd5 d o.S&&zd5 e o.T)):=fun ok=>by
  unfold zIE zNA
  simp only
  rw [zAA,u,zAA,zbY,zAA,D,zAA,zbY,zAA]
  cases ok
  ·rfl
  ·cases zd5 d o.S<;>rfl
 have j1:∀ok,zJu fu o (⟨zSd o.Kind,(zMW o.Kind).1⟩,(zMW o.Kind).2) ok=some (ok&&(zdU b o.B&&(zdU c o.C&&(zd5 d o.S&&zd5 e o.T)))):=fun ok=>by
  unfold zJu
  simp only
  rw [j,zAA,zXS,zAA,q,zAA,zXS,zAA]
  simp only [j2]
  cases ok
  ·rfl
  ·cases zdU b o.B<;>rfl
 unfold zK7 zIr zN3
 rw [zfg,zAA,zAA]
 simp only
 rw [h,zAA,zXS,zAA]
 simp only [j1]
 rw [hf]
 simp only
 cases (zMW o.Kind).2
 ·rfl
 ·cases zdU a o.A<;>rfl
def zWx (fld:UInt8) (v self many:Int):Option Int :=
 if fld=46\/fld=105\/(fld=111/\v = -1) then some v
 else if (if v = -2 then self else if v = -3 then IntKind.i64.wrap (many - 1) else v)<0\/(if v = -2 then self else if v = -3 then IntKind.i64.wrap (many - 1) else v)>=many then none
 else some (if v = -2 then self else if v = -3 then IntKind.i64.wrap (many - 1) else v)
def zdS (o:Op) (self many:Int):Op×Int :=
 if zN3 o=true then (match (zMW o.Kind).1 with
  | [a,b,c,_,_]=>(match zWx a o.A self many with
   | some x=>(match zWx b o.B self many with
    | some y=>(match zWx c o.C self many with
     | some z=>(⟨o.Kind,x,y,z,o.S,o.T,o.Must⟩,0)
     | none=>(⟨0,0,0,0,[],[],false⟩,6))
    | none=>(⟨0,0,0,0,[],[],false⟩,6))
   | none=>(⟨0,0,0,0,[],[],false⟩,6))
  | _=>(⟨0,0,0,0,[],[],false⟩,2))
 else (⟨0,0,0,0,[],[],false⟩,2)
theorem zT8 {R:Type} {fld:UInt8} {v self:Int} {no:Option R} {yes:Int->Option R} {j:Unit->Option R} 
  (J:j ()=cnd (v == -2) (cnd (decide (self<0)) no (cnd (decide (self>=many)) no (yes self))) (cnd (v == -3) (cnd (decide (IntKind.i64.wrap (many - 1)<0)) no (cnd (decide (IntKind.i64.wrap (many - 1)>=many)) no (yes (IntKind.i64.wrap (many - 1))))) (cnd (decide (v<0)) no (cnd (decide (v>=many)) no (yes v))))) :
  cnd ((fld.toNat:Int)==46) (yes v) (cnd ((fld.toNat:Int)==105) (yes v) (cnd ((fld.toNat:Int)==111) (cnd (v == -1) (yes v) (j ())) (j ())))=match zWx fld v self many with | some x=>yes x | none=>no:=by
 have C:∀u:Int,cnd (decide (u<0)) no (cnd (decide (u>=many)) no (yes u))=match (if u<0\/u>=many then none else some u) with | some x=>yes x | none=>no:=fun u=>by
  rw [zAR,zAR]
  by_cases i:u<0
  ·rw [iP i,iP (.inl i)]
  ·by_cases e:u>=many
   ·rw [iN i,iP e,iP (.inr e)]
   ·rw [iN i,iN e,iN (fun h=>h.elim i e)]
 have D:j ()=match (if (if v = -2 then self else if v = -3 then IntKind.i64.wrap (many - 1) else v)<0\/(if v = -2 then self else if v = -3 then IntKind.i64.wrap (many - 1) else v)>=many then none else some (if v = -2 then self else if v = -3 then IntKind.i64.wrap (many - 1) else v)) with | some x=>yes x | none=>no:=by
  rw [J,zAi,zAi,C,C,C]
  by_cases e:v = -2
  ·simp only [iP e]
  ·simp only [iN e]
   by_cases q:v = -3
   ·simp only [iP q]
   ·simp only [iN q]
 have F:((fld.toNat:Int)=46)↔fld=46:=zOI fld 46 (by omega)
 have G:((fld.toNat:Int)=105)↔fld=105:=zOI fld 105 (by omega)
 have I:((fld.toNat:Int)=111)↔fld=111:=zOI fld 111 (by omega)
 simp only [zAi]
 unfold zWx
 by_cases i:fld=46
 ·rw [iP (F.2 i),iP (.inl i)]
 ·rw [iN fun h=>i (F.1 h)]
  by_cases e:fld=105
  ·rw [iP (G.2 e),iP (.inr (.inl e))]
  ·rw [iN fun h=>e (G.1 h)]
   by_cases q:fld=111
   ·rw [iP (I.2 q)]
    by_cases E:v = -1
    ·rw [iP E,iP (.inr (.inr ⟨q,E⟩))]
    ·rw [iN E,iN (fun h=>h.elim i fun h=>h.elim e fun h=>E h.2),D]
   ·rw [iN fun h=>q (I.1 h),iN (fun h=>h.elim i fun h=>h.elim e fun h=>q h.1),D]
theorem aim_ok {fu:Nat} {self:Int}:zQy fu o self many=some (zdS o self many):=by
 obtain ⟨a,b,c,d,e,hf⟩:=zR2 o.Kind
 have h:chr (zMW o.Kind).1 0=some (a.toNat:Int):=zQJ (i:=0) (by rw [hf];rfl)
 have q:chr (zMW o.Kind).1 1=some (b.toNat:Int):=zQJ (i:=1) (by rw [hf];rfl)
 have u:chr (zMW o.Kind).1 2=some (c.toNat:Int):=zQJ (i:=2) (by rw [hf];rfl)
 have j6:∀x y,zIn o self many (⟨zSd o.Kind,(zMW o.Kind).1⟩,(zMW o.Kind).2) x y=some (match zWx c o.C self many with | some z=>(⟨o.Kind,x,y,z,o.S,o.T,o.Must⟩,0) | none=>(⟨0,0,0,0,[],[],false⟩,6)):=fun x y=>by
  unfold zIn
  simp only
  rw [u,zAA]
  refine (zT8 (fld:=c) (v:=o.C) (self:=self) (many:=many) (no:=some ((⟨0,0,0,0,[],[],false⟩:Op),(6:Int))) (yes:=fun z=>some ((⟨o.Kind,x,y,z,o.S,o.T,o.Must⟩:Op),(0:Int))) (j:=zMj o self many x y) ?_).trans ?_
  ·unfold zMj zMk;rfl
  ·cases zWx c o.C self many<;>rfl
 have j3:∀x,zIm o self many (⟨zSd o.Kind,(zMW o.Kind).1⟩,(zMW o.Kind).2) x=some (match zWx b o.B self many with | some y=>(match zWx c o.C self many with | some z=>(⟨o.Kind,x,y,z,o.S,o.T,o.Must⟩,0) | none=>(⟨0,0,0,0,[],[],false⟩,6)) | none=>(⟨0,0,0,0,[],[],false⟩,6)):=fun x=>by
  unfold zIm
  simp only
  rw [q,zAA]
  refine (zT8 (fld:=b) (v:=o.B) (self:=self) (many:=many) (no:=some ((⟨0,0,0,0,[],[],false⟩:Op),(6:Int))) (yes:=fun y=>zIn o self many (⟨zSd o.Kind,(zMW o.Kind).1⟩,(zMW o.Kind).2) x y) (j:=zMh o self many (⟨zSd o.Kind,(zMW o.Kind).1⟩,(zMW o.Kind).2) x) ?_).trans ?_
  ·unfold zMh zMi;rfl
  ·cases zWx b o.B self many with
   | none=>rfl
   | some y=>exact j6 x y
 unfold zQy zIr zdS
 rw [zWM,zAA]
 cases hr:zN3 o with
 | false=>rfl
 | true =>
  rw [iA,zAD,zfg,zAA,zAA,iP rfl]
  simp only
  rw [h,zAA]
  refine (zT8 (fld:=a) (v:=o.A) (self:=self) (many:=many) (no:=some ((⟨0,0,0,0,[],[],false⟩:Op),(6:Int))) (yes:=fun x=>zIm o self many (⟨zSd o.Kind,(zMW o.Kind).1⟩,(zMW o.Kind).2) x) (j:=zMf o self many (⟨zSd o.Kind,(zMW o.Kind).1⟩,(zMW o.Kind).2)) ?_).trans ?_
  ·unfold zMf zMg;rfl
  ·simp only [hf]
   cases zWx a o.A self many with
   | none=>rfl
   | some x =>
    have:=j3 x
    rw [hf] at this
    exact this
end
section
def zKp (f:Forest) (t:zBd):Prop:=t.e≠0\/(t.e=0/\Chg f t.f t.notes)
section
variable {fu:Nat} {w:World} {k:Int} (hfu:2000<fu) (hr:zAH w.Forest=true)
include hfu hr
theorem zgw (hx:x.Attrs.length<=1000):∃r,zDZ fu w.Forest x=some r/\(r.2.2≠0\/(r.2.2=0/\Chg w.Forest r.1 [])):=by
 have hs:=zAG hr
 have i:=hs.few
 rw [zbz (by omega) (hs.fit (by omega)) hx]
 by_cases e:zAH w.Forest=true/\zb9 w.Forest x=true
 ·rw [iP e]
  by_cases h:(w.Forest.Nodes.length:Int)=w.Forest.Most
  ·rw [iP h];exact ⟨_,rfl,.inl (by simp)⟩
  ·rw [iN h]
   have hs2:=zAG (zWN hr e.2 h)
   exact ⟨_,rfl,.inr ⟨rfl,.of_ext hr (zcA _ _) (by have:=hs2.few;simp only at *;omega) fun y hy=>by have:=hs2.kids y hy;omega⟩⟩
 ·rw [iN e];exact ⟨_,rfl,.inl (by simp)⟩
theorem zdu (hx:x.Attrs.length<=1000) (E:InN w.Forest.Nodes x.Doc) (G:x.Name.length<=1000):∃t h,zDQ fu x ⟨w,k⟩=some (t,h)/\h.World=w/\zKp w.Forest t:=by
 obtain ⟨y,hy⟩:=zAK E
 have fin:∃t h,(bnd (zEa fu x.Name) fun u=>bnd (zDZ fu w.Forest (⟨x.Kind,u,x.Is,x.Data,x.Attrs,x.Parent,x.Kids,x.Host,x.Under,x.Doc⟩:Node)) fun j=>some ((⟨j.1,[],j.2.2⟩:zBd),(⟨w,j.2.1⟩:zAM)))=some (t,h)/\h.World=w/\zKp w.Forest t:=by
  rw [zSK (by omega) (by omega),zAA]
  obtain ⟨r,q,D⟩:=zgw (fu:=fu) hfu hr (x:=⟨x.Kind,x.Name.map zGf,x.Is,x.Data,x.Attrs,x.Parent,x.Kids,x.Host,x.Under,x.Doc⟩) hx
  rw [q,zAA]
  exact ⟨_,_,rfl,rfl,D⟩
 unfold zDQ
 simp only
 rw [hy,zAA,zAX,zTH (by omega),zAA,zIN (by omega),zAA,zAX,zAi]
 have i:∀e:Int,e≠0->∃t h,some ((⟨(⟨[],0⟩:Forest),[],e⟩:zBd),(⟨w,k⟩:zAM))=some (t,h)/\h.World=w/\zKp w.Forest t:=fun e F=>⟨_,_,rfl,rfl,.inl F⟩
 by_cases C:y.Kind=0
 ·rw [iP C]
  by_cases q:x.Kind=1
  ·rw [iP q]
   split
   ·cases (x.Is==([]:Bs)) with
    | true=>exact fin
    | false =>
     rw [jL,zAP]
     cases zFf x.Is with
     | true=>exact fin
     | false=>exact i 4 (by omega)
   ·exact i 4 (by omega)
  ·rw [iN q];exact fin
 ·rw [iN C];exact i 5 (by omega)
omit hfu hr in
theorem zI8 {m:Option (Forest×List Note×Int)} (h:∃r,m=some r/\(r.2.2≠0\/(r.2.2=0/\Chg w.Forest r.1 r.2.1))):∃t j,(bnd m fun e=>bnd (zAm fu e.1 e.2.1 e.2.2) fun i=>some (i,(⟨w,k⟩:zAM)))=some (t,j)/\j.World=w/\zKp w.Forest t:=by
 obtain ⟨r,rfl,h⟩:=h
 unfold zAm
 rw [zAA,zAA]
 exact ⟨_,_,rfl,rfl,h⟩
theorem zaz (X:InN w.Forest.Nodes o.A) (hS:o.S.length<=300):∃t h,zEX fu o ⟨w,k⟩=some (t,h)/\h.World=w/\zKp w.Forest t:=by
 have i:1000<fu:=by omega
 have E:∃t h,(bnd (zDa fu w.Forest o.A o.B o.C) fun e=>bnd (zAm fu e.1 e.2.1 e.2.2) fun j=>some (j,(⟨w,k⟩:zAM)))=some (t,h)/\h.World=w/\zKp w.Forest t:=by
  obtain ⟨r,q,u⟩:=zR7 hr i o.A o.B o.C
  exact zI8 ⟨r,q,Chg.of_hand hr u (by split<;>omega)⟩
 have I:∃t h,(bnd (zEZ fu w.Forest o.A) fun e=>bnd (zAm fu e.1 e.2.1 e.2.2) fun j=>some (j,(⟨w,k⟩:zAM)))=some (t,h)/\h.World=w/\zKp w.Forest t:=by
  obtain ⟨r,q,u⟩:=zWJ hr i o.A
  exact zI8 ⟨r,q,Chg.of_hand hr u (by omega)⟩
 have J:∃t h,(bnd (zEt fu w.Forest o.A o.B o.C) fun e=>bnd (zAm fu e.1 e.2.1 e.2.2) fun j=>some (j,(⟨w,k⟩:zAM)))=some (t,h)/\h.World=w/\zKp w.Forest t:=by
  obtain ⟨r,q,u⟩:=zWL hr i o.A o.B o.C
  exact zI8 ⟨r,q,Chg.of_hand hr u (by omega)⟩
 have set:∃t h,(bnd (zK5 fu w.Forest o.A o.S o.T) fun e=>bnd (zAm fu e.1 e.2.1 e.2.2) fun j=>some (j,(⟨w,k⟩:zAM)))=some (t,h)/\h.World=w/\zKp w.Forest t:=by
  obtain ⟨r,q,u⟩:=ze0 hr i (s:=o.S) (by omega) (by omega) o.A o.T
  exact zI8 ⟨r,q,Chg.of_attrs hr u⟩
 have N:∃t h,(bnd (zIj fu w.Forest o.A o.S) fun e=>bnd (zAm fu e.1 e.2.1 e.2.2) fun j=>some (j,(⟨w,k⟩:zAM)))=some (t,h)/\h.World=w/\zKp w.Forest t:=by
  obtain ⟨r,q,u⟩:=zaH hr i (s:=o.S) (by omega) (by omega) o.A
  exact zI8 ⟨r,q,Chg.of_attrs hr u⟩
 have M:∃t h,(bnd (zHb fu w.Forest o.A o.S o.B) fun e=>bnd (zAm fu e.1 e.2.1 e.2.2) fun j=>some (j,(⟨w,k⟩:zAM)))=some (t,h)/\h.World=w/\zKp w.Forest t:=by
  obtain ⟨r,q,u⟩:=zX1 hr i (s:=o.S) (by omega) (by omega) o.A o.B
  exact zI8 ⟨r,q,Chg.of_attrs hr u⟩
 have K:∃t h,(bnd (zJ3 fu w.Forest o.A o.B) fun e=>bnd (zAm fu e.1 e.2.1 e.2.2) fun j=>some (j,(⟨w,k⟩:zAM)))=some (t,h)/\h.World=w/\zKp w.Forest t:=zI8 (zcs hr i o.A o.B)
 have D:∃t h,(bnd (zIz fu w.Forest o.A) fun e=>bnd (zAm fu e.1 e.2.1 e.2.2) fun j=>some (j,(⟨w,k⟩:zAM)))=some (t,h)/\h.World=w/\zKp w.Forest t:=zI8 (zZk hr i o.A)
 have two:∀(b:Bool) (F G:Option (zBd×zAM)),(∃t h,F=some (t,h)/\h.World=w/\zKp w.Forest t)->(∃t h,G=some (t,h)/\h.World=w/\zKp w.Forest t)->∃t h,cnd b F G=some (t,h)/\h.World=w/\zKp w.Forest t:=fun b F G Q V=>by
  cases b
  ·exact V
  ·exact Q
 have j3:∀b,∃t h,zDx fu o ⟨w,k⟩ b=some (t,h)/\h.World=w/\zKp w.Forest t:=fun b=>by
  unfold zDx
  exact two _ _ _ set (two _ _ _ N (two _ _ _ M (two _ _ _ K D)))
 have j2:∀b,∃t h,zDw fu o ⟨w,k⟩ b=some (t,h)/\h.World=w/\zKp w.Forest t:=fun b=>by
  unfold zDw
  exact two _ _ _ I (two _ _ _ J (two _ _ _ (j3 _) (j3 _)))
 have j1:∀b,∃t h,zDv fu o ⟨w,k⟩ b=some (t,h)/\h.World=w/\zKp w.Forest t:=fun b=>by
  unfold zDv
  exact two _ _ _ E (two _ _ _ (j2 _) (j2 _))
 have mk:∀x:Node,x.Attrs.length<=1000->x.Doc=o.A->x.Name.length<=1000->∃t h,(bnd (zDQ fu x ⟨w,k⟩) fun P=>some (P.1,P.2))=some (t,h)/\h.World=w/\zKp w.Forest t:=fun x hx hd hn=>by
  obtain ⟨t,h,q,u,W⟩:=zdu (k:=k) hfu hr hx (by rw [hd];exact X) hn
  rw [q,zAA]
  exact ⟨_,_,rfl,u,W⟩
 unfold zEX
 simp only
 refine two _ _ _ (mk _ (by simp) rfl (by simp only;omega)) (two _ _ _ (mk _ (by simp) rfl (by simp)) (two _ _ _ (mk _ (by simp) rfl (by simp)) (two _ _ _ ?_ (two _ _ _ ?_ (two _ _ _ ?_ (two _ _ _ (j1 _) (j1 _)))))))
 ·obtain ⟨r,q,u⟩:=zW0 hr i o.A
  rw [q,zAA]
  exact ⟨_,_,rfl,rfl,u⟩
 ·obtain ⟨r,q,u⟩:=za6 hr i o.A o.C (o.B != 0)
  rw [q,zAA]
  exact ⟨_,_,rfl,rfl,Chg.of_copy hr u⟩
 ·obtain ⟨r,q,u⟩:=zbk hr i o.A
  rw [q,zAA]
  exact ⟨_,_,rfl,rfl,u⟩
end
def newD (f:Forest) (e:Nat) (d:Desk) (due:List Due):Prop:=due.length<=400/\∀u∈due,∃(n:Nat) (x:Node),u.Node=(n:Int)/\e<=n/\f.Nodes[n]? = some x/\zMt x d ≠ -1/\u.Todo=zfv (zMt x d)
def DoneC (w v:World):Prop:=∃g l h e,Chg w.Forest g l/\zAH g=true/\zH8 w g/\zdQ w g l h/\newD g w.Forest.Nodes.length w.Desk e/\v=zUK h e
theorem zdQ.same {w:World} {l:List Note} (h:zdQ w g l v):v.Forest=g/\v.Desk=w.Desk/\v.Builds=w.Builds/\v.Classes=w.Classes:=by
 obtain ⟨i,e,rfl,_⟩:=h
 exact ⟨rfl,rfl,rfl,rfl⟩
theorem do_l {fu B:Nat} {w G:World} {r4:zBd×zAM} {e:Int} (hfu:B+100000<fu) (hB:B+100000<=1000000000) (hS:WS B G) (hR:WR G) (P:G.Forest=r4.1.f) (J:G.Desk=w.Desk) :
  ∀(j i K:Nat) (due:List Due),i+j=r4.1.f.Nodes.length->j<K->due.length<=i->newD r4.1.f w.Forest.Nodes.length w.Desk due->w.Forest.Nodes.length<=i->∃C,zDy fu r4 (G,e) K ((i:Int),due)=some (0,⟨zUK G C,r4.2.node⟩)/\newD r4.1.f w.Forest.Nodes.length w.Desk C:=by
 have hr:zAH r4.1.f=true:=by rw [<- P];exact hR.fr
 have N:=(zAG hr).few
 intro j
 induction j with
 | zero =>
  intro i K due hi W X D hw
  obtain ⟨K,rfl⟩:∃M,K=M+1:=⟨K - 1,by omega⟩
  obtain rfl:i=r4.1.f.Nodes.length:=by omega
  simp only [zDy]
  rw [zAN (by simp)]
  unfold zBc
  simp only
  rw [zVJ (B:=B) (by have:=D.1;omega) (by have:=D.1;omega) hS hR (fun u F=>?_),zAA,zAA]
  ·exact ⟨due,rfl,D⟩
  ·obtain ⟨n,x,I,_,S,T,V⟩:=D.2 u F
   refine ⟨?_,?_⟩
   ·rw [P]
    unfold InN
    have:=(lF.1 S).1
    omega
   ·rw [V,J]
    unfold zIS zfv
    simp only [dD,lM]
    right
    exact ⟨rfl,zJ8.2 (zO3.resolve_left T)⟩
 | succ j Q =>
  intro i K due hi W X D hw
  obtain ⟨K,rfl⟩:∃M,K=M+1:=⟨K - 1,by omega⟩
  have h:i<r4.1.f.Nodes.length:=by omega
  have E:=hS.defs
  have q:=hS.waits
  simp only [zDy]
  rw [zAO (by simpa using h),zaU (by omega) E q hr,zAS h,zAA,zAX]
  simp only
  rw [zAY (by omega)]
  simp only [zAA]
  by_cases I:zMt r4.1.f.Nodes[i] G.Desk = -1
  ·rw [iP I]
   exact Q (i+1) K due (by omega) (by omega) (by omega) D (by omega)
  ·rw [iN I,zAh (by simp only [cP,eK];omega),zAA]
   refine Q (i+1) K _ (by omega) (by omega) (by simp only [eR,cP,eK];omega) ⟨by simp only [eR,cP,eK];omega,fun u F=>?_⟩ (by omega)
   rcases cA.1 F with F | F
   ·exact D.2 u F
   ·rw [e8.1 F]
    rw [J] at I ⊢
    exact ⟨i,_,rfl,hw,lC h,I,rfl⟩
end
section
theorem za9 {fu:Nat} {t:Due->Option Bool} {p:Due->Bool} {l:List Due} (ht:∀x∈l,t x=some (p x)) (hf:l.length<fu) (hb:l.length<=1000000):zCs fu t l=some (l.filter fun x => !(p x)):=by
 have hi:zAz fu t l=some (zKk l p):=by
  unfold zAz
  refine zVA (L:=zAb t l) l p (fun i h k=>?_) (fun k=>?_) hf
  ·simp only [zAb]
   rw [zAO (by simpa using h),zAS h,zAA,ht _ (gC h),zAA,zAY (by omega),zAA]
   cases p l[i]<;>rfl
  ·simp only [zAb]
   rw [zAN (by simp)]
 unfold zCs
 rw [hi,zAA,zAi]
 cases e:l.any p with
 | false =>
  rw [iP (zSR e)]
  congr 1
  exact (jM.2 fun x hx=>by
   have:=(List.any_eq_false.1 e) x hx
   simpa using this).symm
 | true =>
  have hk:∃(k0:Nat) (h:k0<l.length),zKk l p=(k0:Int)/\p l[k0]=true/\∀x∈l.take k0,p x=false:=by
   have T:l.findIdx p<l.length:=List.findIdx_lt_length.2 (List.any_eq_true.1 e)
   refine ⟨l.findIdx p,T,by unfold zKk;rw [iP e],List.findIdx_getElem,fun x hx=>?_⟩
   obtain ⟨i,hi,rfl⟩:=iW hx
   rw [List.getElem_take]
   have P:i<l.findIdx p:=by simp at hi;omega
   exact List.not_of_lt_findIdx P
  obtain ⟨k0,h,F,h2,h3⟩:=hk
  rw [F,iN (by omega),zAY (by omega),zAA]
  have W:∀{m:List Due},(∀x∈m,x∈l)->∀x∈m,t x=some (p x):=fun E x hx=>ht x (E x hx)
  -- all that stands in the list stood in it
  have X:∀(d i j K:Nat) (m:List Due),(∀x∈m,x∈l)->m.length=l.length->j+d=l.length->i<j->d<K->m.drop j=l.drop j->m.take i=(l.take j).filter (fun x => !(p x))->zAo t K ((i:Int),(j:Int),m)=some (l.filter fun x => !(p x)):=by
   intro d
   induction d with
   | zero =>
    intro i j K m q E hj Q hK N C
    obtain ⟨K,rfl⟩:∃J,K=J+1:=⟨K - 1,by omega⟩
    obtain rfl:j=m.length:=by omega
    simp only [zAo]
    rw [zAN (by simp),eO,eO,show zNq m.length (i:Int) (m.length:Int)=some () from iP ⟨by omega,by omega,by omega⟩,zAA,show zfZ m.length i m.length=some () from iP ⟨by omega,rfl⟩,zAA]
    have V:piece (zQN m i (⟨0,(⟨0,0,[],false,false,[],[],0,0,false⟩:Todo)⟩:Due)) 0 (i:Int)=some (m.take i):=by
     unfold piece zQN
     rw [iP ⟨by omega,by omega,by simp;omega⟩]
     congr 1
     simp only [Int.toNat_zero,List.drop_zero,eO,Nat.sub_zero]
     rw [iV (by simp;omega),jI,Nat.min_self]
    rw [V,zAA,C,E,iI]
   | succ d ih =>
    intro i j K m q E hj Q hK N C
    obtain ⟨K,rfl⟩:∃J,K=J+1:=⟨K - 1,by omega⟩
    have u:j<m.length:=by omega
    have D:j<l.length:=by omega
    have S:i<m.length:=by omega
    have M:m[j]=l[j]:=by
     have F:(m.drop j)[0]? = (l.drop j)[0]? := by rw [N]
     simp only [cD,Nat.add_zero] at F
     rw [lC u,lC D] at F
     exact lJ.inj F
    have G:m.drop (j+1)=l.drop (j+1):=by
     rw [<- k9,<- k9,N]
    simp only [zAo]
    rw [zAO (by simpa using u),zAS u,zAA,W q _ (gC u),zAA,zAS S,zAY (by omega),zAY (by omega),eO]
    simp only [zAA]
    cases I:p m[j] with
    | true =>
     refine ih i (j+1) K m q E (by omega) (by omega) (by omega) G ?_
     rw [C,iE D,jK]
     rw [M] at I
     simp [I]
    | false =>
     refine ih (i+1) (j+1) K (m.set i m[j]) (fun x hx=>?_) (by simpa using E) (by omega) (by omega) (by omega) ?_ ?_
     ·rcases dT hx with hx | rfl
      ·exact q x hx
      ·exact q _ (gC u)
     ·rw [List.drop_set,iP (by omega),G]
     ·rw [iE (by simp;omega),iE D,jK,List.getElem_set_self,kU (cB _),C,M]
      rw [M] at I
      simp [I]
  refine X (l.length - (k0+1)) k0 (k0+1) fu l (fun _ h=>h) rfl (by omega) (by omega) (by omega) rfl ?_
  rw [iE h,jK]
  simp only [kZ,h2,iA,dL,↓reduceIte,List.filter_nil,gI]
  exact (jM.2 fun x hx=>by rw [h3 x hx];rfl).symm
def zf1 (w v:World):Prop:=∃due,v=zUK w due/\due.length<=1000/\(∀u∈due,InN w.Forest.Nodes u.Node/\zIS w.Desk.Defs.length u.Todo=true/\3<=u.Todo.Kind)/\(w.Desk.Defs=[]->due=[])
def DoneW (w v:World) (s:Bs) (n:Int):Prop:=(zGX w.Desk s).2.2.2=0/\n=(zGX w.Desk s).2.1/\v=⟨w.Forest,w.States,(zGX w.Desk s).1,w.Line,if (zGX w.Desk s).2.2.1 = -1 then w.Tasks else w.Tasks++[⟨2,(zGX w.Desk s).2.1,(zGX w.Desk s).2.2.1⟩],w.Builds,w.Classes⟩
section
variable {fu B:Nat} {w:World} {k:Int} (hfu:B+300000<fu) (hB:B+300000<=900000000) (hS:WS B w) (hR:WR w)
include hfu hB hS hR
theorem zZg (hl:due.length<=1000) (e:∀u∈due,InN w.Forest.Nodes u.Node/\zIS w.Desk.Defs.length u.Todo=true):zBc fu due ⟨w,k⟩=some (0,⟨zUK w due,k⟩):=by
 unfold zBc
 simp only
 rw [zVJ (B:=B) (by omega) (by omega) hS hR e,zAA]
omit hfu hB hS hR in
theorem zcv (i:∀j∈L,InN w.Forest.Nodes j):∀u∈zPR w.Desk (zSr w.Forest.Nodes L),InN w.Forest.Nodes u.Node/\zIS w.Desk.Defs.length u.Todo=true/\3<=u.Todo.Kind:=fun u D=>by
 unfold zPR zSr at D
 obtain ⟨q,F,h⟩:=kM.1 D
 obtain ⟨j,E,e⟩:=kM.1 F
 have C:InN w.Forest.Nodes q.1:=by
  split at e
  ·split at e
   ·cases e;exact i j E
   ·cases e
  ·cases e
 split at h
 ·cases h
 ·rename_i hf
  cases h
  refine ⟨C,?_,by simp [zfv]⟩
  unfold zIS zfv
  simp only [dD,lM]
  right
  exact ⟨rfl,zJ8.2 (zO3.resolve_left hf)⟩
theorem zfT (K:InN w.Forest.Nodes o.A) :
  (o.Kind=17/\∃e i,zE3 fu o ⟨w,k⟩=some (e,true,i)/\(e≠0\/(e=0/\DoneW w i.World o.S i.node))) \/
  ((o.Kind=18\/o.Kind=23\/o.Kind=24)/\∃e i,zE3 fu o ⟨w,k⟩=some (e,true,i)/\(e≠0\/(e=0/\zf1 w i.World/\i.node=k))) \/
  (o.Kind≠17/\o.Kind≠18/\o.Kind≠23/\o.Kind≠24/\zE3 fu o ⟨w,k⟩=some (0,false,⟨w,k⟩)):=by
 have hr:=hR.fr
 have V:=zAG hr
 have X:=V.few
 obtain ⟨y,hy⟩:=zAK K
 have enl:∀due:List Due,due.length<=1000->(∀u∈due,InN w.Forest.Nodes u.Node/\zIS w.Desk.Defs.length u.Todo=true/\3<=u.Todo.Kind)->(w.Desk.Defs=[]->due=[])->∃e i,(bnd (zBc fu due ⟨w,k⟩) fun r7=>some (r7.1,true,r7.2))=some (e,true,i)/\(e≠0\/(e=0/\zf1 w i.World/\i.node=k)):=fun due T M W=>by
  rw [zZg hfu hB hS hR T (fun u h=>⟨(M u h).1,(M u h).2.1⟩),zAA]
  exact ⟨_,_,rfl,.inr ⟨rfl,⟨due,rfl,T,M,W⟩,rfl⟩⟩
 unfold zE3
 simp only
 rw [hy,zAA]
 simp only [zAi,zAX]
 by_cases C:o.Kind=17
 ·left
  refine ⟨C,?_⟩
  rw [iP C]
  unfold zJA
  simp only
  rw [zdk (by omega) hS.defs hS.waits,zAA,zAX,zAX]
  by_cases G:(zGX w.Desk o.S).2.2.2=0
  ·have ht:=hS.tasks
   rw [iP G]
   by_cases N:(zGX w.Desk o.S).2.2.1 = -1
   ·rw [iP N,zAA]
    exact ⟨_,_,rfl,.inr ⟨rfl,G,rfl,by rw [iP N]⟩⟩
   ·rw [iN N,za1 (by omega),zAA,zAh (by simp only [cP,eK];omega),zAA,zAA]
    exact ⟨_,_,rfl,.inr ⟨rfl,G,rfl,by rw [iN N]⟩⟩
  ·rw [iN G,zAA]
   exact ⟨_,_,rfl,.inl G⟩
 ·rw [iN C]
  right
  by_cases D:o.Kind=18
  ·left
   refine ⟨.inl D,?_⟩
   rw [iP D,zfB (by omega) hS.defs hS.waits hr K,zAA]
   have hal:=(zAT hr).all_len K
   have T:(zSr w.Forest.Nodes (zGj w.Forest.Nodes o.A)).length<=(zGj w.Forest.Nodes o.A).length:=kL _ _
   have M:(zPR w.Desk (zSr w.Forest.Nodes (zGj w.Forest.Nodes o.A))).length<=(zSr w.Forest.Nodes (zGj w.Forest.Nodes o.A)).length:=kL _ _
   have J:=zcv (L:=zGj w.Forest.Nodes o.A) fun j hj=>((zAT hr).all_in o.A K j hj).1
   rw [za9 (p:=fun u=>match idx w.States u.Node with | some s=>s.Phase != 1 | none=>false) (fun u h=>by
    obtain ⟨s,hs⟩:=zAK (l:=w.States) (n:=u.Node) (by have:=(J u h).1;rw [hR.st];exact this)
    unfold zCv
    simp only
    rw [hs,zAA]) (by omega) (by omega),zAA]
   refine enl _ (eM (List.length_filter_le _ _) (by omega)) (fun u h=>J u (iJ.1 h).1) fun hd=>?_
   have:zPR w.Desk (zSr w.Forest.Nodes (zGj w.Forest.Nodes o.A))=[]:=by
    rw [List.eq_nil_iff_forall_not_mem]
    intro u h
    have W:=(J u h).2.1
    unfold zPR at h
    obtain ⟨q,_,G⟩:=kM.1 h
    split at G
    ·cases G
    ·rename_i hf
     have:=zO3.resolve_left hf
     rw [hd] at this
     simp only [eK] at this
     omega
   rw [this];rfl
  ·rw [iN D]
   by_cases E:o.Kind=23
   ·left
    refine ⟨.inr (.inl E),?_⟩
    rw [iP E]
    split
    ·cases (y.Name==([102,111,114,109]:Bs)) with
     | false=>exact ⟨_,_,rfl,.inl (by omega)⟩
     | true =>
      rw [iA,zAD]
      obtain ⟨due,P,g2,I,Q⟩:=zev (fu:=fu) (f:=w.Forest) (st:=w.States) (d:=w.Desk) (cs:=w.Classes) (by omega) hr hS.defs hS.waits hR.st o.A
      rw [P,zAA]
      exact enl due (by omega) (fun u h=>⟨(I u h).1,by unfold zIS;simp only [dD,lM,decide_eq_true_eq];left;have:=(I u h).2;omega,by have:=(I u h).2;omega⟩) Q
    ·exact ⟨_,_,rfl,.inl (by omega)⟩
   ·rw [iN E]
    by_cases F:o.Kind=24
    ·left
     refine ⟨.inr (.inr F),?_⟩
     rw [iP F]
     split
     ·obtain ⟨due,P,g2,I,Q⟩:=zZ7 (fu:=fu) (f:=w.Forest) (st:=w.States) (d:=w.Desk) (cs:=w.Classes) (by omega) hr hS.defs hS.waits hR.st K o.S
      rw [P,zAA]
      exact enl due (by omega) (fun u h=>⟨by rw [(I u h).1];exact K,by unfold zIS;simp only [dD,lM,decide_eq_true_eq];left;have:=(I u h).2;omega,by have:=(I u h).2;omega⟩) Q
     ·exact ⟨_,_,rfl,.inl (by omega)⟩
    ·right
     rw [iN F]
     exact ⟨C,D,E,F,rfl⟩
end
end
section
def zSG (k:Int):Bool := !(k==1||(k==16||(k==19||(k==20||(k==21||(k==22||k==25))))))&&(decide (0<k)&&decide (k<=28))
theorem zb8 {fu:Nat} {k:Int}:zDu fu k=some (zSG k):=by
 have j1:∀t,zBp k t=some (!t&&(decide (0<k)&&decide (k<=28))):=fun t=>by
  unfold zBp
  rw [zAR]
  cases t
  ·rw [zAD]
   by_cases h:k>0
   ·rw [iP h,decide_eq_true (show 0<k from h)];rfl
   ·rw [iN h,decide_eq_false (show ¬0<k from h)];rfl
  ·rfl
 unfold zDu zSG
 simp only [j1]
 cases k==1<;>cases k==16<;>cases k==19<;>cases k==20<;>cases k==21<;>cases k==22<;>cases k==25<;>rfl
theorem zUL {a b:Op}:zfc a b=true↔a=b:=by
 unfold zfc
 cases a;cases b
 simp
theorem aim_in (Q:1<=many) (h:(zdS o (-1) many).2=0) (j:(zdS o (-1) many).1=o) (M:zSG o.Kind=true):0<=o.A/\o.A<many:=by
 unfold zdS at h j
 by_cases hr:zN3 o=true
 ·rw [iP hr] at h j
  obtain ⟨a,b,c,d,e,hf⟩:=zR2 o.Kind
  rw [hf] at h j
  simp only at h j
  have q:=hr
  unfold zN3 at q
  rw [hf] at q
  simp only [lM] at q
  have K:a=110\/a=46:=by
   have E:∀k:Int,zSG k=true->((zMW k).1.head? = some 110\/(zMW k).1.head? = some 46):=fun k G=>by
    unfold zMW
    unfold zSG at G
    simp only [lM,Bool.not_eq_true',iY,beq_eq_false_iff_ne] at G
    have i:∀{c:Prop} [Decidable c] {x y:Bs×Bool},(c->x.1.head? = some 110\/x.1.head? = some 46)->(¬c->y.1.head? = some 110\/y.1.head? = some 46)->((if c then x else y).1.head? = some 110\/(if c then x else y).1.head? = some 46):=fun {c} _ {x y} I J=>by
     by_cases D:c
     ·rw [iP D];exact I D
     ·rw [iN D];exact J D
    refine i (fun _=>.inl rfl) fun _=>i (fun _=>.inl rfl) fun _=>i (fun _=>.inl rfl) fun _=>i (fun _=>.inl rfl) fun _=>i (fun _=>.inl rfl) fun _=>i (fun _=>.inl rfl) fun _=>i (fun h=>?_) fun _=>i (fun _=>.inr rfl) fun _=>i (fun h=>?_) fun _=>i (fun _=>.inr rfl) fun _=>.inl rfl
    ·omega
    ·omega
   have:=E o.Kind M
   rw [hf] at this
   simpa using this
  rcases K with rfl | rfl
  ·-- a node
   cases hx:zWx 110 o.A (-1) many with
   | none=>rw [hx] at h;simp at h
   | some x =>
    rw [hx] at h j
    simp only at h j
    have P:0<=x/\x<many:=by
     unfold zWx at hx
     rw [iN (by simp)] at hx
     generalize (if o.A = -2 then (-1:Int) else if o.A = -3 then IntKind.i64.wrap (many - 1) else o.A)=u at hx
     split at hx
     ·cases hx
     ·have:=lJ.inj hx
      omega
    have N:x=o.A:=by
     cases hy:zWx b o.B (-1) many with
     | none=>rw [hy] at h;simp at h
     | some y =>
      rw [hy] at h j
      simp only at h j
      cases hz:zWx c o.C (-1) many with
      | none=>rw [hz] at h;simp at h
      | some z =>
       rw [hz] at j
       simp only at j
       rw [<- j]
    omega
  ·have F:=q.2.1
   unfold zdU at F
   simp only [show ¬((46:UInt8)=111) by decide,show ¬((46:UInt8)=110) by decide,show ¬((46:UInt8)=105) by decide,if_false,beq_iff_eq] at F
   omega
 ·rw [iN hr] at h
  simp at h
def zaT (w:World) (o:Op) (v:World) (n:Int):Prop:=(o.Kind=17/\DoneW w v o.S n)\/(o.Kind≠17/\zf1 w v)\/(o.Kind≠17/\DoneC w v)
section
variable {fu B:Nat} {w:World} (hfu:B+3000000<fu) (hB:B+3000000<=900000000) (hS:WS B w) (hR:WR w)
include hfu hB hS hR
theorem hdo_c (hk:o.Kind≠17/\o.Kind≠18/\o.Kind≠23/\o.Kind≠24) (V:InN w.Forest.Nodes o.A) (hs:o.S.length<=300):∃t u,zEX fu o ⟨w,-1⟩=some (t,u)/\zKp w.Forest t/\∃e C,zDh fu o ⟨w,-1⟩=some (e,C) /\
  ((e≠0/\(t.e≠0\/¬(zAH t.f=true/\zH8 w t.f)))\/(e=0/\t.e=0/\C.node=u.node/\zAH t.f=true/\zH8 w t.f/\∃j i,zdQ w t.f t.notes j/\newD t.f w.Forest.Nodes.length w.Desk i/\C.World=zUK j i)):=by
 obtain ⟨t,u,Q,g2,T⟩:=zaz (fu:=fu) (k := -1) (by omega) hR.fr V hs
 refine ⟨t,u,Q,T,?_⟩
 unfold zDh
 rcases zfT (fu:=fu) (B:=B) (k := -1) (by omega) (by omega) hS hR V with ⟨I,_⟩ | ⟨h,_⟩ | ⟨_,_,_,_,h1⟩
 ·exact absurd I hk.1
 ·omega
 rw [h1,zAA]
 simp only [zAD]
 rw [Q,zAA,zAX]
 rcases T with D | ⟨D,W⟩
 ·rw [iN D]
  exact ⟨_,_,rfl,.inl ⟨D,.inl D⟩⟩
 ·rw [iP D,g2]
  have hcl:=W.len
  have J:=W
  obtain ⟨_,_,_,_,_,_,_,_,_,_,_,_,_,K,M⟩:=J
  obtain ⟨j,e1,t1,t2⟩:=zfQ (fu:=fu) (B:=B) (w:=w) (f:=t.f) (notes:=t.notes) (by omega) (by omega) (by omega) hS hR K M
  simp only
  rw [t1,zAA,zAX]
  rcases t2 with ⟨q1,F,E⟩ | ⟨rfl,F,E,G⟩
  ·rw [iN q1]
   exact ⟨_,_,rfl,.inl ⟨q1,.inr E⟩⟩
  ·rw [iP rfl,zAX,zAX]
   have P:=zaE hR F E G
   have N:=zTj hS hR F E G
   have q:=G.same
   have hfw:=E.2.1
   have X:=(zAG F).few
   obtain ⟨i,d1,d2⟩:=do_l (fu:=fu) (B:=B+t.notes.length+1200) (w:=w) (r4:=(t,u)) (e:=0) (by omega) (by omega) N P q.1 q.2.1 (t.f.Nodes.length - w.Forest.Nodes.length) w.Forest.Nodes.length fu [] (by simp only;omega) (by omega) (by simp) ⟨by simp,by simp⟩ (cB _)
   have hj:zHV fu (0,false,⟨w,-1⟩) (t,u) (j,0) ()=some (0,⟨zUK j i,u.node⟩):=d1
   have two:∀m:Option (Int×zAM),(m=some (0,⟨zUK j i,u.node⟩)\/m=some (0,⟨zUK j [],u.node⟩))->∃e C,m=some (e,C)/\((e≠0/\(t.e≠0\/¬(zAH t.f=true/\zH8 w t.f)))\/(e=0/\t.e=0/\C.node=u.node/\zAH t.f=true/\zH8 w t.f/\∃j i,zdQ w t.f t.notes j/\newD t.f w.Forest.Nodes.length w.Desk i/\C.World=zUK j i)):=fun m hm=>by
    rcases hm with rfl | rfl
    ·exact ⟨_,_,rfl,.inr ⟨rfl,D,rfl,F,E,j,i,G,d2,rfl⟩⟩
    ·exact ⟨_,_,rfl,.inr ⟨rfl,D,rfl,F,E,j,[],G,⟨by simp,by simp⟩,rfl⟩⟩
   refine two _ ?_
   rw [hj]
   split
   ·exact .inl rfl
   ·split
    ·exact .inl rfl
    ·exact .inr rfl
theorem hdo_ok (E:InN w.Forest.Nodes o.A) (hs:o.S.length<=300):∃e i,zDh fu o ⟨w,-1⟩=some (e,i)/\(e≠0\/(e=0/\zaT w o i.World i.node)):=by
 rcases zfT (fu:=fu) (B:=B) (k := -1) (by omega) (by omega) hS hR E with ⟨D,e,i,C,u⟩ | ⟨hk,e,i,C,u⟩ | ⟨F,K,M,k4,C⟩
 ·unfold zDh
  rw [C,zAA]
  exact ⟨e,i,rfl,u.imp id fun h=>⟨h.1,.inl ⟨D,h.2⟩⟩⟩
 ·unfold zDh
  rw [C,zAA]
  exact ⟨e,i,rfl,u.imp id fun h=>⟨h.1,.inr (.inl ⟨by omega,h.2.1⟩)⟩⟩
 ·obtain ⟨t,i,_,G,e,u,I,J⟩:=hdo_c hfu hB hS hR ⟨F,K,M,k4⟩ E hs
  refine ⟨e,u,I,?_⟩
  rcases J with ⟨q,_⟩ | ⟨q,N,_,P,Q,X,j,T,V,W⟩
  ·exact .inl q
  ·exact .inr ⟨q,.inr (.inr ⟨F,t.f,t.notes,X,j,(G.resolve_left fun h=>h N).2,P,Q,T,V,W⟩)⟩
theorem do_any {Q:Int->zAM->Prop} (I:InN w.Forest.Nodes o.A->∃e i,zDh fu o ⟨w,-1⟩=some (e,i)/\Q e i):∃v n e,zGl fu w o=some (v,n,e) /\
  ((e≠0/\v=w/\n = -1/\(zdS o (-1) (w.Forest.Nodes.length:Int)=(o,0)->zSG o.Kind=true->∃i,Q e i))\/(e=0/\zSG o.Kind=true/\zN3 o=true/\∃i,Q 0 i/\v=i.World/\n=i.node)):=by
 have E:=zAf hR.fr
 unfold zGl zK2
 rw [aim_ok,zAA]
 by_cases j:(zdS o (-1) (w.Forest.Nodes.length:Int)).2=0
 ·rw [zAX,iP j]
  cases u:zfc (zdS o (-1) (w.Forest.Nodes.length:Int)).1 o with
  | false =>
   refine ⟨_,_,_,rfl,.inl ⟨by omega,rfl,rfl,fun h=>?_⟩⟩
   rw [h,zUL.2 rfl] at u;cases u
  | true =>
   rw [iA,zAD,zRk hS (by omega) (by omega),zAA,WR.iff.2 hR,iA,zAD,zb8,zAA]
   have C:zN3 o=true:=by
    cases e:zN3 o with
    | true=>rfl
    | false =>
     unfold zdS at j
     rw [iN (by rw [e];simp)] at j
     simp at j
   by_cases q:zSG o.Kind=true
   ·have G:=aim_in (many:=(w.Forest.Nodes.length:Int)) (by omega) j (zUL.1 u) q
    obtain ⟨e,i,F,D⟩:=I G
    rw [show (!zSG o.Kind)=false by rw [q];rfl,zAD,F,zAA,zAX]
    by_cases h:e=0
    ·subst h;rw [iP rfl];exact ⟨_,_,_,rfl,.inr ⟨rfl,q,C,i,D,rfl,rfl⟩⟩
    ·rw [iN h];exact ⟨_,_,_,rfl,.inl ⟨h,rfl,rfl,fun _ _=>⟨i,D⟩⟩⟩
   ·rw [show (!zSG o.Kind)=true by rw [iL.2 q];rfl,zAP]
    exact ⟨_,_,_,rfl,.inl ⟨by omega,rfl,rfl,fun _ h=>absurd h q⟩⟩
 ·rw [zAX,iN j]
  have:((zdS o (-1) (w.Forest.Nodes.length:Int)).2 != 0)=true:=by simpa using j
  rw [this]
  exact ⟨_,_,_,rfl,.inl ⟨by omega,rfl,rfl,fun h=>absurd (by rw [h]) j⟩⟩
theorem do_ok (hs:o.S.length<=300):∃v n e,zGl fu w o=some (v,n,e)/\((e≠0/\v=w/\n = -1)\/(e=0/\zSG o.Kind=true/\zN3 o=true/\zaT w o v n)):=by
 obtain ⟨v,n,e,u,C⟩:=do_any hfu hB hS hR (o:=o) (fun D=>hdo_ok hfu hB hS hR D hs)
 refine ⟨v,n,e,u,?_⟩
 rcases C with ⟨i,j,q,_⟩ | ⟨i,j,q,F,E,rfl,rfl⟩
 ·exact .inl ⟨i,j,q⟩
 ·exact .inr ⟨i,j,q,(E.resolve_left fun h=>h rfl).2⟩
end
end
section
section
variable {fu:Nat} (hfu:1000000000<fu)
include hfu
theorem zhZ {d:Desk}:∃r,zFM fu d=some r/\(r=true->d.Defs.length<=40/\d.Waits.length<=40):=by
 unfold zFM
 rw [zAR,zAR]
 by_cases e:d.Defs.length<=40
 ·rw [iN (by omega)]
  by_cases j:d.Waits.length<=40
  ·rw [iN (by omega)]
   have u:=zLb (L:=zBw d) d.Waits (fun y=>decide (y.Name.length<=300)) (some true) (fun i hi k=>by
    simp only [zBw]
    rw [zAO (by simpa using hi),zAS hi,zAA,zAR,zAY (by omega),zAA]
    by_cases h:d.Waits[i].Name.length<=300
    ·rw [iN (by omega),decide_eq_true h];rfl
    ·rw [iP (by omega),decide_eq_false h];rfl) (fun k=>by simp only [zBw];rw [zAN (by simp)]) (k:=fu) (by omega)
   have q:=zLb (L:=zCj fu d) d.Defs (fun y=>decide (y.Name.length<=300)&&decide (y.Local.length<=300)) (zBw d fu 0) (fun i hi k=>by
    simp only [zCj]
    rw [zAO (by simpa using hi),zAS hi,zAA,zAR,zAA,zAR,zAY (by omega),zAA]
    by_cases h:d.Defs[i].Name.length<=300
    ·rw [iN (by omega),decide_eq_true h]
     by_cases g:d.Defs[i].Local.length<=300
     ·rw [iN (by omega),decide_eq_true g];rfl
     ·rw [iP (by omega),decide_eq_false g];rfl
    ·rw [iP (by omega),decide_eq_false h];rfl) (fun k=>by simp only [zCj];rw [zAN (by simp)]) (k:=fu) (by omega)
   rw [q,u]
   cases d.Defs.all (fun y=>decide (y.Name.length<=300)&&decide (y.Local.length<=300)) with
   | false=>exact ⟨_,rfl,fun _=>⟨e,j⟩⟩
   | true=>cases d.Waits.all (fun y=>decide (y.Name.length<=300))<;>exact ⟨_,rfl,fun _=>⟨e,j⟩⟩
  ·rw [iP (by omega)];exact ⟨false,rfl,by simp⟩
 ·rw [iP (by omega)];exact ⟨false,rfl,by simp⟩
theorem zha:∃r,zFN fu l=some r/\(r=true->LS 60 l):=by
 unfold zFN
 rw [zAR,zAR,zAR]
 by_cases D:l.Todos.length<=60
 ·rw [iN (by omega)]
  by_cases F:l.Stack.length<=30
  ·rw [iN (by omega)]
   by_cases E:l.Back.length<=60
   ·rw [iN (by omega)]
    have C:=zLb (L:=zBx l) l.Stack (fun y=>decide (y.length<=60)) (some true) (fun i hi k=>by
     simp only [zBx]
     rw [zAO (by simpa using hi),zAS hi,zAA,zAR,zAY (by omega),zAA]
     by_cases h:l.Stack[i].length<=60
     ·rw [iN (by omega),decide_eq_true h];rfl
     ·rw [iP (by omega),decide_eq_false h];rfl) (fun k=>by simp only [zBx];rw [zAN (by simp)]) (k:=fu) (by omega)
    have u:=zLb (L:=zCk fu l) l.Todos (fun y=>decide (y.length<=60)) (zBx l fu 0) (fun i hi k=>by
     simp only [zCk]
     rw [zAO (by simpa using hi),zAS hi,zAA,zAR,zAY (by omega),zAA]
     by_cases h:l.Todos[i].length<=60
     ·rw [iN (by omega),decide_eq_true h];rfl
     ·rw [iP (by omega),decide_eq_false h];rfl) (fun k=>by simp only [zCk];rw [zAN (by simp)]) (k:=fu) (by omega)
    rw [u,C]
    cases j:l.Todos.all (fun y=>decide (y.length<=60)) with
    | false=>exact ⟨_,rfl,fun h=>by cases h⟩
    | true =>
     cases q:l.Stack.all (fun y=>decide (y.length<=60)) with
     | false=>exact ⟨_,rfl,fun h=>by cases h⟩
     | true =>
      rw [lR] at j q
      exact ⟨_,rfl,fun _=>⟨D,fun t e=>by simpa using j t e,by omega,fun t e=>by simpa using q t e,E⟩⟩
   ·rw [iP (by omega)];exact ⟨false,rfl,by simp⟩
  ·rw [iP (by omega)];exact ⟨false,rfl,by simp⟩
 ·rw [iP (by omega)];exact ⟨false,rfl,by simp⟩
theorem zhb {cs:List Class}:∃r,zD2 fu cs=some r/\(r=true->∀c∈cs,c.Watch.length<=20):=by
 unfold zD2
 rw [zAR]
 by_cases I:cs.length<=14
 ·rw [iN (by omega)]
  have F:=zLb (L:=zA4 fu cs) cs (fun y=>decide (y.Watch.length<=20)&&(decide (y.Hooks.length<=20)&&(decide (y.Peek.length<=80)&&(decide (y.Make.length<=80)&&y.Hooks.all fun h=>decide (h.Do.length<=80))))) (some true) (fun i hi k=>by
   simp only [zA4]
   rw [zAO (by simpa using hi),zAS hi,zAA,zAR,zAR,zAR,zAR]
   by_cases e:cs[i].Watch.length<=20
   ·rw [iN (by omega),decide_eq_true e,iD]
    by_cases u:cs[i].Hooks.length<=20
    ·rw [iN (by omega),decide_eq_true u,iD]
     by_cases C:cs[i].Peek.length<=80
     ·rw [iN (by omega),decide_eq_true C,iD]
      by_cases D:cs[i].Make.length<=80
      ·rw [iN (by omega),decide_eq_true D,iD]
       exact zLb (L:=zCn (i:Int) cs[i] (zA4 fu cs k)) cs[i].Hooks (fun h=>decide (h.Do.length<=80)) (zA4 fu cs k ((i+1:Nat):Int)) (fun j E q=>by
        simp only [zCn]
        rw [zAO (by simpa using E),zAS E,zAA,zAR,zAY (by omega),zAA]
        by_cases h:cs[i].Hooks[j].Do.length<=80
        ·rw [iN (by omega),decide_eq_true h];rfl
        ·rw [iP (by omega),decide_eq_false h];rfl) (fun q=>by simp only [zCn];rw [zAN (by simp),zAY (by omega),zAA]) (by omega)
      ·rw [iP (by omega),decide_eq_false D];rfl
     ·rw [iP (by omega),decide_eq_false C];rfl
    ·rw [iP (by omega),decide_eq_false u];rfl
   ·rw [iP (by omega),decide_eq_false e];rfl) (fun k=>by simp only [zA4];rw [zAN (by simp)]) (k:=fu) (by omega)
  rw [F]
  cases a:cs.all (fun y=>decide (y.Watch.length<=20)&&(decide (y.Hooks.length<=20)&&(decide (y.Peek.length<=80)&&(decide (y.Make.length<=80)&&y.Hooks.all fun h=>decide (h.Do.length<=80))))) with
  | false=>exact ⟨_,rfl,fun h=>by cases h⟩
  | true =>
   rw [lR] at a
   exact ⟨_,rfl,fun _ c G=>by
    have:=a c G
    simp only [lM,decide_eq_true_eq] at this
    exact this.1⟩
 ·rw [iP (by omega)];exact ⟨false,rfl,by simp⟩
theorem zg0 {cs:List Class} (D:cs.length<=1000) (C:∀c∈cs,c.Watch.length<=20):∃r,zFQ fu cs=some r:=by
 unfold zFQ
 have u:=zLb (L:=zA5 fu cs) cs (fun y=>y.Watch.all fun s=>decide (s.length<=300)) (some true) (fun i hi k=>by
  have hw:=C _ (gC hi)
  simp only [zA5]
  rw [zAO (by simpa using hi)]
  exact zLb (L:=zCo cs (i:Int) (zA5 fu cs k)) cs[i].Watch (fun s=>decide (s.length<=300)) (zA5 fu cs k ((i+1:Nat):Int)) (fun j e q=>by
   simp only [zCo]
   rw [zAS hi,zAA,zAO (by simpa using e),zAA,zAS e,zAA,zAR,zAY (by omega),zAA]
   by_cases h:cs[i].Watch[j].length<=300
   ·rw [iN (by omega),decide_eq_true h];rfl
   ·rw [iP (by omega),decide_eq_false h];rfl) (fun q=>by simp only [zCo];rw [zAS hi,zAA,zAN (by simp),zAY (by omega),zAA]) (by omega)) (fun k=>by simp only [zA5];rw [zAN (by simp)]) (k:=fu) (by omega)
 rw [u]
 cases cs.all (fun y=>y.Watch.all fun s=>decide (s.length<=300))<;>exact ⟨_,rfl⟩
theorem zhc {w:World}:∃r,zFP fu w=some r/\(r=true->WS 60 w/\w.Desk.Waits.length<=40):=by
 unfold zFP
 obtain ⟨Q,D,E⟩:=zU4 (fu:=fu) (f:=w.Forest) (by omega)
 obtain ⟨S,F,j⟩:=zhZ hfu (d:=w.Desk)
 obtain ⟨u,G,I⟩:=zha hfu (l:=w.Line)
 obtain ⟨C,i,J⟩:=zhb hfu (cs:=w.Classes)
 have e:∃r,some false=some r/\(r=true->WS 60 w/\w.Desk.Waits.length<=40):=⟨false,rfl,by simp⟩
 rw [D,zAA,F,zAA,G,zAA,i,zAA,zAR,zAR,zAR]
 cases Q with
 | false=>exact e
 | true =>
  rw [zAP]
  by_cases M:w.States.length<=60
  ·rw [iP (by omega)]
   cases S with
   | false=>exact e
   | true =>
    rw [zAP]
    cases u with
    | false=>exact e
    | true =>
     rw [zAP]
     by_cases N:w.Tasks.length<=60
     ·rw [iP (by omega)]
      by_cases P:w.Builds.length<=60
      ·rw [iP (by omega)]
       cases C with
       | false=>exact e
       | true =>
        have q:w.Classes.length<=1000:=by
         unfold zD2 at i
         rw [zAR] at i
         by_cases h:w.Classes.length<=14
         ·omega
         ·rw [iP (by omega)] at i;cases i
        obtain ⟨r,K⟩:=zg0 hfu q (J rfl)
        rw [zAP,K,zAA]
        have hs:=(E rfl).1
        exact ⟨r,rfl,fun _=>⟨⟨I rfl,N,P,by have:=(j rfl).1;omega,by have:=(j rfl).2;omega,fun x hx=>by have:=hs.kids x hx;omega,M⟩,(j rfl).2⟩⟩
      ·rw [iN (by omega)];exact e
     ·rw [iN (by omega)];exact e
  ·rw [iN (by omega)];exact e
end
end
section
theorem zHw {u : Type} {L:Nat->Int->Option Bool} (l:List u) (fin:Option Bool) (e:∀(i:Nat) (_:i<l.length) (k:Nat),L (k+1) (i:Int)=L k ((i+1:Nat):Int)) (j:∀k,L (k+1) (l.length:Int)=fin) {k:Nat} (q:l.length<k):L k 0=fin:=by
 rw [zLb (L:=L) l (fun _=>true) fin (fun i h k=>e i h k) j q]
 have:(l.all fun _=>true)=true:=by simp
 rw [this];rfl
theorem zZl (x:Def):zgh x x=true:=by unfold zgh;simp
theorem zXP (x:Wait):zbM x x=true:=by unfold zbM;simp
theorem zXO (x:Todo):zbL x x=true:=by unfold zbL;simp
theorem zXN (x:Task):zbK x x=true:=by unfold zbK;simp
theorem zVk (x:Build):zXL x x=true:=by unfold zXL;simp
theorem zVl (x:State):zRy x x=true:=by unfold zRy;simp
theorem zbJ (x:Op):zfc x x=true:=zUL.2 rfl
section
variable {fu:Nat} (hfu:1000000000<fu)
include hfu
theorem zZj {d:Desk} (h:d.Defs.length<=900) (j:d.Waits.length<=900):zFt fu d d=some true:=by
 have e:=zHw (L:=zCH d d) d.Waits (some true) (fun i hi k=>by
  simp only [zCH]
  rw [zAO (by simpa using hi),zAS hi,zAA,zAA,zXP,iA,zAD,zAY (by omega),zAA]) (fun k=>by simp only [zCH];rw [zAN (by simp)]) (k:=fu) (by omega)
 unfold zFt
 rw [zAX,iP rfl,zAX,iP rfl,zAX,iP rfl]
 simp only [beq_self_eq_true,iA,zAD]
 rw [zHw (L:=zC0 fu d d) d.Defs (zCH d d fu 0) (fun i hi k=>by
  simp only [zC0]
  rw [zAO (by simpa using hi),zAS hi,zAA,zAA,zZl,iA,zAD,zAY (by omega),zAA]) (fun k=>by simp only [zC0];rw [zAN (by simp)]) (k:=fu) (by omega),e]
theorem zTi {l:List Todo} (h:l.length<=900000000):zD1 fu l l=some true:=by
 unfold zD1
 rw [zAX,iP rfl]
 exact zHw (L:=zCl l l) l (some true) (fun i hi k=>by
  simp only [zCl]
  rw [zAO (by simpa using hi),zAS hi,zAA,zAA,zXO,iA,zAD,zAY (by omega),zAA]) (fun k=>by simp only [zCl];rw [zAN (by simp)]) (by omega)
theorem zVu {l:List Int} (h:l.length<=900000000):zB1 fu l l=some true:=by
 unfold zB1
 rw [zAX,iP rfl]
 exact zHw (L:=zBQ l l) l (some true) (fun i hi k=>by
  simp only [zBQ]
  rw [zAO (by simpa using hi),zAS hi,zAA,zAA,zAX,iP rfl,zAY (by omega),zAA]) (fun k=>by simp only [zBQ];rw [zAN (by simp)]) (by omega)
theorem zZv {B:Nat} (hS:LS B l) (hB:B<=900000000):zFu fu l l=some true:=by
 have h:=hS.todos
 have j:=hS.stack
 have q:=hS.back
 have e:=zHw (L:=zCI fu l l) l.Stack (some true) (fun i hi k=>by
  have:=hS.lists _ (gC hi)
  simp only [zCI]
  rw [zAO (by simpa using hi),zAS hi,zAA,zAA,zVu hfu (by omega),zAA,iA,zAD,zAY (by omega),zAA]) (fun k=>by simp only [zCI];rw [zAN (by simp)]) (k:=fu) (by omega)
 unfold zFu
 rw [zAX,iP rfl,zAX,iP rfl,zVu hfu (by omega),zAA]
 simp only [beq_self_eq_true,iA,zAD]
 rw [zHw (L:=zC1 fu l l) l.Todos (zCI fu l l fu 0) (fun i hi k=>by
  have:=hS.todo _ (gC hi)
  simp only [zC1]
  rw [zAO (by simpa using hi),zAS hi,zAA,zAA,zTi hfu (by omega),zAA,iA,zAD,zAY (by omega),zAA]) (fun k=>by simp only [zC1];rw [zAN (by simp)]) (k:=fu) (by omega),e]
theorem zSX {l:List State} (h:l.length<=900000000):zDU fu l l=some true:=by
 unfold zDU
 rw [zAX,iP rfl]
 exact zHw (L:=zCL l l) l (some true) (fun i hi k=>by
  simp only [zCL]
  rw [zAO (by simpa using hi),zAS hi,zAA,zAA,zVl,iA,zAD,zAY (by omega),zAA]) (fun k=>by simp only [zCL];rw [zAN (by simp)]) (by omega)
theorem zUf {l:List Op} (h:l.length<=900000000):zDo fu l l=some true:=by
 unfold zDo
 rw [zAX,iP rfl]
 exact zHw (L:=zDJ l l) l (some true) (fun i hi k=>by
  simp only [zDJ]
  rw [zAO (by simpa using hi),zAS hi,zAA,zAA,zbJ,iA,zAD,zAY (by omega),zAA]) (fun k=>by simp only [zDJ];rw [zAN (by simp)]) (by omega)
theorem zZR {c:Class} (h:zIb c=true):zFO fu c c=some true:=by
 unfold zIb at h
 simp only [lM,decide_eq_true_eq,lR] at h
 obtain ⟨q,_,u,j,C,D⟩:=h
 have e:=zHw (L:=zBy fu c c) c.Hooks (some true) (fun i hi k=>by
  have:=j _ (gC hi)
  unfold zbd at this
  simp only [lM,decide_eq_true_eq] at this
  simp only [zBy]
  rw [zAO (by simpa using hi),zAS hi,zAA,zAA,zAX,iP rfl,zAA,zAA,zUf hfu (by omega),zAA,iA,zAD,zAY (by omega),zAA]) (fun k=>by simp only [zBy];rw [zAN (by simp)]) (k:=fu) (by omega)
 unfold zFO
 simp only [beq_self_eq_true,iA,zAD]
 rw [zAX,iP rfl,zUf hfu (by omega),zAA,zUf hfu (by omega),zAA,zAX,iP rfl]
 simp only [iA,zAD]
 rw [zHw (L:=zCm fu c c) c.Watch (zBy fu c c fu 0) (fun i hi k=>by
  simp only [zCm]
  rw [zAO (by simpa using hi),zAS hi,zAA,zAA,beq_self_eq_true,iA,zAD,zAY (by omega),zAA]) (fun k=>by simp only [zCm];rw [zAN (by simp)]) (k:=fu) (by omega),e]
theorem zQK {cs:List Class} (e:cs.length<=1000) (h:∀c∈cs,zIb c=true):zDB fu cs cs=some true:=by
 unfold zDB
 rw [zAX,iP rfl]
 exact zHw (L:=zB4 fu cs cs) cs (some true) (fun i hi k=>by
  simp only [zB4]
  rw [zAO (by simpa using hi),zAS hi,zAA,zAA,zZR hfu (h _ (gC hi)),zAA,iA,zAD,zAY (by omega),zAA]) (fun k=>by simp only [zB4];rw [zAN (by simp)]) (by omega)
omit hfu in
theorem WR.allowed {w:World} (h:WR w):w.Classes.length<=12/\∀c∈w.Classes,zIb c=true:=by
 have:=h.cl
 unfold zKg at this
 simp only [lM,lR,decide_eq_true_eq] at this
 exact ⟨this.1,this.2.1⟩
theorem zaP {B:Nat} {w:World} (hS:WS B w) (hB:B<=900000000) (hR:WR w):zFv fu w w=some true:=by
 have j:=hS.tasks
 have q:=hS.builds
 have u:=hS.states
 have e:=WR.allowed hR
 have h:=zHw (L:=zCJ fu w w) w.Builds (some true) (fun i hi k=>by
  simp only [zCJ]
  rw [zAO (by simpa using hi),zAS hi,zAA,zAA,zVk,iA,zAD,zAY (by omega),zAA]) (fun k=>by
  simp only [zCJ]
  rw [zAN (by simp),(zAG hR.fr).same (by omega),zAA,zAP,zSX hfu (by omega),zAA,zAP,zZj hfu hS.defs hS.waits,zAA,zAP,zZv hfu hS.line hB,zAA,zAP,zQK hfu (by omega) e.2,zAA]) (k:=fu) (by omega)
 unfold zFv
 rw [zAX,iP rfl,zAX,iP rfl]
 rw [zHw (L:=zC2 fu w w) w.Tasks (zCJ fu w w fu 0) (fun i hi k=>by
  simp only [zC2]
  rw [zAO (by simpa using hi),zAS hi,zAA,zAA,zXN,iA,zAD,zAY (by omega),zAA]) (fun k=>by simp only [zC2];rw [zAN (by simp)]) (k:=fu) (by omega),h]
end
end
section
theorem zgB:zG3 10000000000=some true:=by decide +kernel
end
section
theorem WS.todos {B:Nat} {w:World} (hR:WR w) (_h:B=B):w.Line.Todos.length<=400:=by
 rw [hR.td];exact (zAG hR.fr).few
end
end Go.Proofs.YtmfbghpealgaiaaGreatDoor
