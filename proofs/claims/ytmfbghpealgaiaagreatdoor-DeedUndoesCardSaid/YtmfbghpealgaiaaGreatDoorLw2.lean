/- Plain laws on the models, one behind the other. -/
import Derived.Test.YtmfbghpealgaiaaGreatDoorG
import Derived.Test.YtmfbghpealgaiaaGreatDoorLw1
/- Layer 6: a node is inserted, removed, or put in another one's place. -/
namespace Go.Proofs.YtmfbghpealgaiaaGreatDoor
open Go Go.Pw
open List renaming length_cons->cP,getElem_mem->gC,length_nil->eK,getElem?_eq_getElem->lC,length_append->eR,mem_append->cA,mem_singleton->e8,all_eq_true->lR,nil_append->iU,mem_or_eq_of_mem_set->dT,take_succ_eq_append_getElem->iE,append_assoc->eS,mem_cons_self->lH,mem_cons_of_mem->lG,all_cons->cK,all_nil->iQ,drop_length->kK,drop_eq_getElem_cons->eT,length_drop->iK,append_nil->gI,length_map->lL,mem_of_getElem?->lU,range->cW,getElem_of_mem->iW,map_append->gG,map_cons->lT,take_length->iI,mem_map->lE,length_filterMap_le->kL,mem_filterMap->kM,getElem?_eq_some_iff->lF,replicate->dH,take_of_length_le->kH,mem_filter->iJ,take_append_of_le_length->iV,sum_cons->kO,filterMap_cons->kQ,getElem?_set->kR,mem_range->jO,mem_replicate->kS,filter_append->jK,countP_cons->dG,getElem?_map->lK,take_set_of_le->kU,sum_append->kV,getElem?_append_right->cC,length_pos_of_mem->kW,all_append->kY,take_take->jI,filter_cons->kZ,length_replicate->kF,getElem?_drop->cD,filter_eq_self->jM,drop_drop->k9
open Nat renaming le_refl->cB,le_trans->eM
open Int renaming toNat_natCast->eO
open Option renaming some->lJ,isNone_none->kJ,getD_some->cM,map_some->lW,isSome_none->kT,isSome_iff_exists->kX,map_eq_some_iff->lI
open Bool renaming not_true->iA,and_eq_true->lM,true_and->iD,not_false->jL,or_eq_true->dD,false_and->jD,eq_false_iff->iL,not_not->kI,false_or->e9,and_true->kN,false_eq_true->dL,or_eq_false_iff->iY,eq_iff_iff->eW
variable {n many:Int} {l:Line} {x:Node} {notes:List Note} {o:Op} {ns a b:List Node} {rows m:List (Node×Bool)} {g:Forest} {t:Todo} {κ ν:Type} {due:List Due} {ids:List (Int×List (Bs×Int))} {L:List Int} {v:World} {r:Forest×List Note×Int} {defs:List Def}
section
instance (ns:List Node) (n:Int):Decidable (InN ns n):=inferInstanceAs (Decidable (0<=n/\n<ns.length))
theorem zFr {fu:Nat} (w:Bs) (e:Int):zBW fu w e=some (if e=0 then none else some (w,e)):=by
 unfold zBW;rw [zAj];split<;>rfl
def Hand (f:Forest) (N:Nat) (r:Forest×List Note×Int):Prop:=(∃e,e≠0/\r=(f,[],e))\/∃m g l,m<=N/\Mv m f g l/\r=(g,l,0)
def InsR (fu:Nat) (f:Forest) (n p:Int) (N:Nat) (r:Forest×List Note×Int):Prop:=(∃e,e≠0/\r=(f,[],e))\/∃m x b g l,m<=N/\Mv m f g l/\idx f.Nodes n=some x/\PI f p b (zAU n x)/\zCf fu n p b f.Most (zJE f.Nodes) []=some (zJE g.Nodes,[]++l)/\r=(g,l,0)
section
variable {fu:Nat} {f:Forest} (hr:zAG f=true) (hfu:1000<fu)
include hr hfu
theorem zXf (t:Int->List (Node×Bool)->List Note->Option (Option (Bs×Int)×List (Node×Bool)×List Note)) (p:Bs×Int):zDV fu t f (some p)=some (f,[],p.2):=by
 unfold zDV
 rw [zTp (zAH hr) hfu,zAA]
 rfl
theorem zeW {t:Int->List (Node×Bool)->List Note->Option (Option (Bs×Int)×List (Node×Bool)×List Note)} {p:Bs×Int} {l:List Note} (h:t f.Most (zJE f.Nodes) []=some (some p,m,l)):zDV fu t f none=some (f,[],p.2):=by
 unfold zDV
 rw [zTp (zAH hr) hfu,zAA]
 simp only [kJ,zAO]
 rw [h,zAA]
 rfl
theorem zUe {t:Int->List (Node×Bool)->List Note->Option (Option (Bs×Int)×List (Node×Bool)×List Note)} {g:List Node} {l:List Note} (h:t f.Most (zJE f.Nodes) []=some (none,zJE g,l)):zDV fu t f none=some (⟨g,f.Most⟩,l,0):=by
 unfold zDV
 rw [zTp (zAH hr) hfu,zAA]
 simp only [kJ,zAO]
 rw [h,zAA]
 simp only [kT,zAD,zIi]
omit hfu in
theorem May.pi {p b:Int} {y:Node} (M:May f n p x y) (G:b = -1\/(b∈y.Kids/\b∉zAU n x)):PI f p b (zAU n x):=by
 refine ⟨hr,fun k i=>?_,M.nodup hr,fun E=>?_,⟨y,M.hy,M.holder,G.imp id And.left,fun F=>?_⟩⟩
 ·obtain ⟨z,hz,q,_⟩:=M.part hr i
  exact ⟨z,hz,q,M.free hr i⟩
 ·rcases G with e | h
  ·subst e
   have:=M.in_ hr E
   unfold InN at this
   omega
  ·exact h.2 E
 ·have D:=M.crowd F
  unfold zGg at D
  rw [M.hy] at D
  simp only [iY,Bool.and_eq_false_iff,decide_eq_false_iff_not] at D
  obtain ⟨J,I⟩:=D
  have i:∀k∈zAU n x,(k != -1&&isB f.Nodes k 1)=true:=fun k i=>by
   obtain ⟨z,hz,q,_⟩:=M.part hr i
   have C:k ≠ -1:=by have:=M.in_ hr i;unfold InN at this;omega
   rw [bne_iff_ne.2 C,iD]
   unfold isB
   rw [hz]
   rcases q with h | h
   ·simp [h]
   ·exfalso
    apply J
    unfold zEJ
    refine List.countP_pos_iff.2 ⟨k,i,?_⟩
    rw [bne_iff_ne.2 C,iD]
    unfold isB
    rw [hz];simp [h]
  have E:zEJ f.Nodes (-1) (zAU n x) 1=(zAU n x).length:=List.countP_eq_length.2 i
  rw [E] at I
  have j:(zAU n x).length<=1:=by omega
  refine ⟨j,fun k u=>?_⟩
  have e:zAU n x=[k]:=by
   match K:zAU n x,u,j with
   | [a],u,_=>rw [e8.1 u]
   | a::b::t,_,hl=>simp at hl
  have:=M.crowd F
  rwa [e] at this
theorem zWJ (n p c:Int):∃r,zDD fu f n p c=some r/\InsR fu f n p (if isB f.Nodes n 3=true then 800 else 1) r:=by
 have hs:=zAH hr
 have I:=hs.fit hfu
 have W:∀e,e≠0->zEw fu f n p c=some e->∃r,zDD fu f n p c=some r/\InsR fu f n p (if isB f.Nodes n 3=true then 800 else 1) r:=fun e j h=>by
  unfold zDD
  rw [h,zAA,zFr,zAA,iN j,zXf hr hfu,zAA]
  exact ⟨_,rfl,.inl ⟨e,j,rfl⟩⟩
 by_cases u:inB f n=true/\inB f p=true
 ·have hn:InN f.Nodes n:=by have:=u.1;unfold inB at this;exact of_decide_eq_true this
  have T:InN f.Nodes p:=by have:=u.2;unfold inB at this;exact of_decide_eq_true this
  obtain ⟨x,hx⟩:=zAK hn
  obtain ⟨y,hy⟩:=zAK T
  by_cases K:c = -1\/inB f c=true
  ·have F:c = -1\/∃z,idx f.Nodes c=some z:=K.imp id fun h=>by
    unfold inB at h
    exact zAK (of_decide_eq_true h)
   have i:=zcX hfu I hr hx hy F
   generalize q:(c == -1||(match idx f.Nodes c with | some z=>z.Parent==p | none=>false))=cb at i
   by_cases j:zQJ f n p c (-1) x y cb=0
   ·have G:cb=true:=by
     cases cb with
     | true=>rfl
     | false =>
      unfold zQJ at j
      split at j
      ·cases j
      ·split at j
       ·cases j
       ·rw [iP rfl] at j;cases j
    subst G
    obtain ⟨f1,f2,f3,f4,f5⟩:=zQK j
    have M:May f n p x y:=⟨hx,hy,f1,by rw [<- zM6 hs hfu hr hn T];exact f2,f3,f4,f5⟩
    rw [j] at i
    have Q:c = -1\/c∈y.Kids:=by
     rcases F with h | ⟨z,hz⟩
     ·exact .inl h
     ·right
      have S:c ≠ -1:=by have:=zAI hz;omega
      rw [hz] at q
      rw [show (c == -1)=false by simpa using S,e9,beq_iff_eq] at q
      have V:z.Parent ≠ -1:=by rw [q];unfold InN at T;omega
      obtain ⟨y',H⟩:=zHH hr hz V
      have X:=H.hy
      rw [q,hy] at X
      rw [lJ.inj X]
      exact H.mem
    obtain ⟨b,J,E⟩:=zbI hr M hs hfu Q i
    obtain ⟨h,l',m1,m2⟩:=zc0 (l:=[]) hfu hx (M.pi hr E) (by simp)
    have D:=m1.all hr
    have hlen:=M.len hs
    unfold zDD
    rw [i,zAA,zFr,zAA,iP rfl]
    rw [zUe hr hfu (g:=h.Nodes) (l:=[]++l') (by
     unfold zHh
     rw [J,zAA,m2,zAA]),zAA]
    refine ⟨_,rfl,.inr ⟨_,x,b,h,l',?_,m1,hx,M.pi hr E,m2,?_⟩⟩
    ·have e3:isB f.Nodes n 3=(x.Kind==3):=by unfold isB;rw [hx]
     rw [e3]
     by_cases C:x.Kind=3
     ·rw [iP C,iP (by simpa using C)];omega
     ·have e4:(zAU n x).length=1:=by unfold zAU;rw [iN C];rfl
      rw [iN C,iN (by simpa using C)];omega
    ·rw [iU,<- D.2.1]
   ·exact W _ j i
  ·refine W 1 (by omega) ?_
   have N:c ≠ -1:=fun e=>K (.inl e)
   have P:inB f c=false:=by cases e:inB f c with
    | false=>rfl
    | true=>exact absurd (.inr e) K
   unfold zEw
   rw [zFn hfu I hr (by simp),zAA,zFn hfu I hr (by simp),zAA,zAW]
   simp only [cK,iQ,u.1,u.2,P,Bool.and_self,iA,zAD,jD,jL,zAO,iN N]
 ·refine W 1 (by omega) ?_
  unfold zEw
  rw [zFn hfu I hr (by simp),zAA]
  have:([n,p].all (inB f))=false:=by
   simp only [cK,iQ,kN]
   cases e:inB f n&&inB f p with
   | false=>rfl
   | true=>exact absurd (by simpa using e) u
  rw [this];rfl
theorem zST (n p c:Int):∃r,zDD fu f n p c=some r/\Hand f (if isB f.Nodes n 3=true then 800 else 1) r:=by
 obtain ⟨r,e,h⟩:=zWJ hr hfu n p c
 exact ⟨r,e,h.imp id fun ⟨m,_,_,g,l,i,j,_,_,_,q⟩=>⟨m,g,l,i,j,q⟩⟩
theorem zgU (n:Int):zIo fu f n=some (if InN f.Nodes n then none else some ([97,115,107,101,100],1)):=by
 unfold zIo
 rw [zFB hfu ((zAH hr).fit hfu),zAA,hr]
 simp only [zFr,zAA,iA,zAD,zAS]
 by_cases e:n<0
 ·rw [iP e,iN (show ¬InN f.Nodes n by unfold InN;omega)];rfl
 ·rw [iN e]
  by_cases h:n>=(f.Nodes.length:Int)
  ·rw [iP h,iN (show ¬InN f.Nodes n by unfold InN;omega)];rfl
  ·rw [iN h,iP (show InN f.Nodes n by unfold InN;omega)]
theorem zMG (n:Int):zDc fu f n=some (if InN f.Nodes n then (if zHa f.Nodes n = -1 then (f,[],6) else (⟨zLj f.Nodes n,f.Most⟩,zGO f n,0)) else (f,[],1)):=by
 unfold zDc
 rw [zgU hr hfu,zAA]
 by_cases h:InN f.Nodes n
 ·rw [iP h,iP h]
  obtain ⟨x,hx⟩:=zAK h
  rw [zJV hx]
  by_cases e:x.Parent = -1
  ·rw [iP e,zeW hr hfu (p:=([111,117,116],6)) (m:=zJE f.Nodes) (l:=[]) (by
    unfold zF6
    rw [zGJ hx,zAA,zAj,iP e,zFr,zAA];rfl),zAA]
  ·rw [iN e,zUe hr hfu (g:=zLj f.Nodes n) (l:=zGO f n) (by
    unfold zF6
    rw [zGJ hx,zAA,zAj,iN e,zU3 hr hfu h (by simp),zAA];rfl),zAA]
 ·rw [iN h,iN h,zXf hr hfu,zAA]
theorem zWk (n:Int):∃r,zDc fu f n=some r/\Hand f 1 r:=by
 refine ⟨_,zMG hr hfu n,?_⟩
 by_cases h:InN f.Nodes n
 ·rw [iP h]
  by_cases e:zHa f.Nodes n = -1
  ·rw [iP e];exact .inl ⟨6,by omega,rfl⟩
  ·rw [iN e]
   have:=Mv.out (.refl f) h
   exact .inr ⟨1,_,_,cB _,by simpa using this,rfl⟩
 ·rw [iN h];exact .inl ⟨1,by omega,rfl⟩
end
end
section
def zEH (n:Int):List Int->Int
 | [] => -1
 | k::l=>if k≠n then k else zEH n l
theorem zQi {n:Int}:∀{l:List Int},zEH n l = -1\/(zEH n l∈l/\zEH n l≠n)
 | []=>.inl rfl
 | k::l=>by
  unfold zEH
  by_cases h:k≠n
  ·rw [iP h];exact .inr ⟨lH ..,h⟩
  ·rw [iN h]
   exact (zQi (l:=l)).imp id fun h=>⟨lG _ h.1,h.2⟩
theorem zeJ {l:List Int} {fu:Nat} (hf:l.length<fu) (E:l.length<=1000000):zEs n l fu 0=some (zEH n l):=by
 have u:∀(j i k:Nat),i+j=l.length->j<k->zEs n l k (i:Int)=some (zEH n (l.drop i)):=by
  intro j
  induction j with
  | zero =>
   intro i k hi C
   obtain ⟨k,rfl⟩:∃q,k=q+1:=⟨k - 1,by omega⟩
   obtain rfl:i=l.length:=by omega
   simp only [zEs]
   rw [zAN (by simp),kK];rfl
  | succ j D =>
   intro i k hi C
   obtain ⟨k,rfl⟩:∃q,k=q+1:=⟨k - 1,by omega⟩
   have h:i<l.length:=by omega
   simp only [zEs]
   rw [zAP (by simpa using h),zAT h,zAA,zAW,zBL (by omega),zAA,D (i+1) k (by omega) (by omega),eT h,show zEH n (l[i]::l.drop (i+1))=if l[i]≠n then l[i] else zEH n (l.drop (i+1)) from rfl]
   by_cases e:l[i]=n
   ·rw [iP e,iN (by simpa using e)]
   ·rw [iN e,iP e]
 have:=u l.length 0 fu (by omega) hf
 simpa using this
section
variable {f:Forest} {c p:Int} {z y:Node} (H:Hung f c p z y) (hr:zAG f=true)
include H hr
theorem zbK {fu:Nat} (hfu:1000<fu) (n:Int):zJc fu f c n=some (zEH n (y.Kids.drop (y.Kids.idxOf c+1))):=by
 have hs:=zAH hr
 have hl:=hs.kids y (zFC H.hy)
 obtain ⟨f1,e⟩:=zRP H.mem
 unfold zJc
 rw [H.hz,zAA,H.par,H.hy,zAA,zWr (by omega) (by omega),zAA,f1,zBL (by omega),zAA]
 rw [show piece y.Kids ((y.Kids.idxOf c+1:Nat):Int) (y.Kids.length:Int)=some (y.Kids.drop (y.Kids.idxOf c+1)) from ?_,zAA,zeJ (by simp;omega) (by simp;omega)]
 unfold piece
 rw [iP ⟨by omega,by omega,by omega⟩]
 congr 1
 rw [eO,eO,kH (by simp)]
theorem zbJ (n:Int):zEH n (y.Kids.drop (y.Kids.idxOf c+1)) = -1\/(zEH n (y.Kids.drop (y.Kids.idxOf c+1))∈(zOZ y c).Kids/\zEH n (y.Kids.drop (y.Kids.idxOf c+1))∈y.Kids/\zEH n (y.Kids.drop (y.Kids.idxOf c+1))≠n):=by
 rcases zQi (n:=n) (l:=y.Kids.drop (y.Kids.idxOf c+1)) with h | ⟨j,E⟩
 ·exact .inl h
 ·right
  have q:y.Kids.Nodup:=by
   have:=(zBK hr).nod p
   rwa [zGG H.hy] at this
  have C:=List.mem_of_mem_drop j
  refine ⟨?_,C,E⟩
  unfold zOZ
  simp only [iJ,bne_iff_ne]
  refine ⟨C,fun e=>?_⟩
  rw [e] at j
  obtain ⟨i,hi,u⟩:=iW j
  rw [List.getElem_drop] at u
  have:=List.idxOf_lt_length_of_mem H.mem
  simp only [iK] at hi
  have D:y.Kids[y.Kids.idxOf c]=c:=List.getElem_idxOf this
  exact List.pairwise_iff_getElem.1 q (y.Kids.idxOf c) (y.Kids.idxOf c+1+i) this (by omega) (by omega) (D.trans u.symm)
theorem zfV:May (zMP f c p z y) c p (zM2 z) (zOZ y c):=by
 have S:=zZF H hr
 refine ⟨zPV H,zHX H,(show zGn y.Kind=true from zXv H hr),?_,by simp only [zM2];omega,by simp only [zM2];omega,fun K=>?_⟩
 ·rw [zZH H hr];exact zUp H hr
 ·have G:=(zAb hr).2.2.1
  have D:y.Kind=0:=K
  have i:=zBm G H.hy
  unfold zF3 zEk at i
  simp only [lM,lR,dD,bne_iff_ne,decide_eq_true_eq] at i
  have e:=i.2.2.2.1.2.1 c H.mem
  unfold zPM at e
  rw [H.hz] at e
  simp only [lM,dD,beq_iff_eq,bne_iff_ne] at e
  have E:z.Kind=1:=by
   rcases e.2.2 with h | h
   ·exact h
   ·exact absurd D h.2
  have q:zBM f.Nodes y.Kids<=1:=by
   rcases i.2.2.2.1.2.2.2 with h | h
   ·exact absurd D h
   ·exact h
  have J:zAU c (zM2 z)=[c]:=by
   unfold zAU
   rw [iN (show ¬(zM2 z).Kind=3 by simp only [zM2];omega)]
  rw [J]
  have C:isB f.Nodes c 1=true:=by unfold isB;rw [H.hz];simp [E]
  have F:isB f.Nodes c 2=false:=by unfold isB;rw [H.hz];simp [E]
  have u:c ≠ -1:=by have:=zAI H.hz;omega
  unfold zGg
  rw [zHX H]
  have Q:zEJ (zMP f c p z y).Nodes (-1) [c] 2=0:=by
   unfold zEJ;simp [zOb H,F]
  have P:zEJ (zMP f c p z y).Nodes (-1) [c] 1=1:=by
   unfold zEJ;simp [zOb H,C,u]
  have N:zEJ f.Nodes c y.Kids 1=0:=by
   have M:y.Kids.Nodup:=by
    have:=(zBK hr).nod p
    rwa [zGG H.hy] at this
   have I:y.Kids.Perm (c::y.Kids.erase c):=List.perm_cons_erase H.mem
   unfold zBM at q
   rw [I.countP_eq,dG,C] at q
   simp only [↓reduceIte] at q
   unfold zEJ
   rw [I.countP_eq,dG]
   simp only [bne_self_eq_false,jD,dL,↓reduceIte,Nat.add_zero]
   refine Nat.le_zero.1 (eM (List.countP_mono_left fun a _ h=>?_) (show List.countP (fun k=>isB f.Nodes k 1) (y.Kids.erase c)<=0 by omega))
   simp only [lM] at h
   exact h.2
  have mk:zEJ (zMP f c p z y).Nodes (-1) (zOZ y c).Kids 1=0:=by rw [show (zOZ y c).Kids=y.Kids.filter (fun j=>j != c) from rfl,zWX H,N]
  rw [Q,P]
  simp only [mk]
  rfl
end
section
variable {fu:Nat} {f:Forest} (hr:zAG f=true) (hfu:1000<fu)
include hr hfu
theorem zWm (n p c:Int):∃r,zEr fu f n p c=some r/\Hand f 801 r:=by
 have hs:=zAH hr
 have T:=hs.fit hfu
 have no:∀e,e≠0->zEe fu f n p c=some e->∃r,zEr fu f n p c=some r/\Hand f 801 r:=fun e j h=>by
  unfold zEr
  rw [h,zAA,zFr,zAA,iN j,zXf hr hfu,zAA]
  exact ⟨_,rfl,.inl ⟨e,j,rfl⟩⟩
 by_cases K:inB f n=true/\inB f p=true
 ·have X:InN f.Nodes n:=by have:=K.1;unfold inB at this;exact of_decide_eq_true this
  have hp:InN f.Nodes p:=by have:=K.2;unfold inB at this;exact of_decide_eq_true this
  obtain ⟨x,hx⟩:=zAK X
  obtain ⟨y,hy⟩:=zAK hp
  by_cases P:c = -1
  ·subst P
   obtain ⟨r,g1,g2⟩:=zdN hfu T hr hx hy
   exact no r g2 g1
  ·by_cases hc:inB f c=true
   ·have u:InN f.Nodes c:=by unfold inB at hc;exact of_decide_eq_true hc
    obtain ⟨z,hz⟩:=zAK u
    have J:=ziL hfu T hr hx hy hz
    by_cases j:zQJ f n p c c x y (z.Parent==p)=0
    ·have i:z.Parent=p:=by
      cases e:(z.Parent==p) with
      | true=>exact beq_iff_eq.1 e
      | false =>
       rw [e] at j
       unfold zQJ at j
       split at j
       ·cases j
       ·split at j
        ·cases j
        ·rw [iP rfl] at j;cases j
     rw [j] at J
     rw [show (z.Parent==p)=true from beq_iff_eq.2 i] at j
     have hp0:z.Parent ≠ -1:=by rw [i];unfold InN at hp;omega
     obtain ⟨y',H⟩:=zHH hr hz hp0
     rw [i] at H
     have e1:=H.hy
     rw [hy] at e1
     obtain rfl:=lJ.inj e1
     have S:=zPW H hr
     have I:=zWY H hs
     have D:=zSk f c p z y
     obtain ⟨x',q,M,C⟩:∃x',idx (zMP f c p z y).Nodes n=some x'/\May (zMP f c p z y) n p x' (zOZ y c)/\zAU n x'=zAU n x:=by
      by_cases F:n=c
      ·subst F
       rw [hx] at hz
       obtain rfl:=lJ.inj hz
       exact ⟨_,zPV H,zfV H hr,rfl⟩
      ·obtain ⟨_,f2,_⟩:=zQK j
       have E:=zaf H hr hs hfu hx F f2
       rw [j] at E
       have G:n≠p:=fun e=>by
        subst e
        rw [zM6 hs hfu hr X X] at f2
        have:=zLc.2 ((zAQ hr).wayU_self X)
        rw [f2] at this
        cases this
       have q:idx (zMP f c p z y).Nodes n=some x:=(zM5 H F G).trans hx
       have W:=zcX (child := -1) hfu (I.fit hfu) S q (zHX H) (.inl rfl)
       rw [E] at W
       have Q:=(lJ.inj W).symm
       simp only [beq_self_eq_true,Bool.true_or] at Q
       obtain ⟨k1,k2,k3,k4,k5⟩:=zQK Q
       exact ⟨x,q,⟨q,zHX H,k1,by rw [<- zM6 I hfu S (by unfold InN;rw [D];exact X) (by unfold InN;rw [D];exact hp)];exact k2,k3,k4,k5⟩,rfl⟩
     have G:=M.np S
     have hb:=zbJ H hr n
     have hb2:zEH n (y.Kids.drop (y.Kids.idxOf c+1)) = -1\/(zEH n (y.Kids.drop (y.Kids.idxOf c+1))∈(zOZ y c).Kids/\zEH n (y.Kids.drop (y.Kids.idxOf c+1))∉zAU n x'):=hb.imp id fun ⟨g1,g2,g3⟩=>⟨g1,fun V=>by
      rw [C] at V
      unfold zAU at V
      split at V
      ·obtain ⟨w,hw⟩:=zJn (zAb hr).2.2.1 hy _ g2
       exact G ((zOY hr hx hw V).symm.trans (zOY hr hy hw g2))
      ·exact g3 (e8.1 V)⟩
     obtain ⟨h,l',m1,m2⟩:=zc0 (l:=zGO f c) hfu q (M.pi S hb2) (by have:=zKH hr u;omega)
     have hq:zLj f.Nodes c=(zMP f c p z y).Nodes:=by
      have H':=H
      rw [<- i] at H'
      have:=zM4 H' hp0
      rw [this,i]
     have N:=m1.all S
     have hplen:=M.len I
     unfold zEr
     rw [J,zAA,zFr,zAA,iP rfl]
     rw [zUe hr hfu (g:=h.Nodes) (l:=zGO f c++l') (by
      unfold zG2
      rw [zbK H hr hfu,zAA,zU3 hr hfu u (by simp),zAA,hq,iU]
      have m3:zCf fu n p (zEH n (y.Kids.drop (y.Kids.idxOf c+1))) f.Most (zJE (zMP f c p z y).Nodes) (zGO f c)=some (zJE h.Nodes,zGO f c++l'):=m2
      simp only [m3,zAA]),zAA]
     have m0:Mv 1 f (zMP f c p z y) (zGO f c):=by
      have:=Mv.out (.refl f) u
      rw [iU,hq] at this
      exact this
     refine ⟨_,rfl,.inr ⟨_,h,_,?_,m0.trans m1,?_⟩⟩
     ·split<;>omega
     ·have e2:h.Most=f.Most:=N.2.1
      rw [<- e2]
    ·exact no _ j J
   ·refine no 1 (by omega) ?_
    have hc2:inB f c=false:=by cases e:inB f c with
     | false=>rfl
     | true=>exact absurd e hc
    unfold zEe
    rw [zFn hfu T hr (by simp),zAA,zFn hfu T hr (by simp),zAA,zAW]
    simp only [cK,iQ,K.1,K.2,hc2,Bool.and_self,iA,zAD,jD,jL,zAO,iN P]
 ·refine no 1 (by omega) ?_
  unfold zEe
  rw [zFn hfu T hr (by simp),zAA]
  have:([n,p].all (inB f))=false:=by
   simp only [cK,iQ,kN]
   cases e:inB f n&&inB f p with
   | false=>rfl
   | true=>exact absurd (by simpa using e) K
  rw [this];rfl
end
end
section
def zaz (f:Forest) (r:Forest×List Note×Int):Prop:=(∃e,e≠0/\r=(f,[],e))\/∃g l,zAG g=true/\g.Most=f.Most/\g.Nodes.map bare=f.Nodes.map bare/\l.length<=1/\(∀y∈l,y.Kind=4)/\r=(g,l,0)
theorem zXb {fu:Nat} {s:Bs} {l:List Attr} (hfu:1000<fu) (hs:s.length<fu) (hs2:s.length<=1000000) (hx:idx ns n=some x) (i:notes.length<=1000000) :
  ∃e,zDO fu n s l (zJE ns) notes=some (zJE (ns.set n.toNat (zJk x l)),notes++e)/\e.length<=1/\∀y∈e,y.Kind=4:=by
 unfold zDO
 rw [zPT hs hs2,zAA,zGJ hx,zAA,zPp (by omega),zAA,zPp (by omega),zAA,zAA]
 have h:(⟨x.Kind,x.Name,x.Is,x.Data,l,x.Parent,x.Kids,x.Host,x.Under,x.Doc⟩:Node)=zJk x l:=rfl
 simp only [h,zNS]
 rw [zAi (by simp;omega),zAA]
 cases (zdy x.Attrs s).2 with
 | true=>exact ⟨_,rfl,by simp,by simp⟩
 | false =>
  rw [zAD]
  cases (zdy l s).2 with
  | true=>exact ⟨_,rfl,by simp,by simp⟩
  | false=>exact ⟨[],by rw [gI];rfl,by simp,by simp⟩
section
variable {fu:Nat} {f:Forest} (hr:zAG f=true) (hfu:1000<fu)
include hr hfu
theorem zYp (t:List (Node×Bool)->List Note->Option (Option (Bs×Int)×List (Node×Bool)×List Note)) (p:Bs×Int):zBV fu t f (some p)=some (f,[],p.2):=by
 unfold zBV
 rw [zTp (zAH hr) hfu,zAA]
 rfl
theorem zbm {t:List (Node×Bool)->List Note->Option (Option (Bs×Int)×List (Node×Bool)×List Note)} {p:Bs×Int} {l:List Note} (h:t (zJE f.Nodes) []=some (some p,m,l)):zBV fu t f none=some (f,[],p.2):=by
 unfold zBV
 rw [zTp (zAH hr) hfu,zAA]
 simp only [kJ,zAO]
 rw [h,zAA]
 rfl
theorem zV6 {t:List (Node×Bool)->List Note->Option (Option (Bs×Int)×List (Node×Bool)×List Note)} {g:List Node} {l:List Note} (h:t (zJE f.Nodes) []=some (none,zJE g,l)):zBV fu t f none=some (⟨g,f.Most⟩,l,0):=by
 unfold zBV
 rw [zTp (zAH hr) hfu,zAA]
 simp only [kJ,zAO]
 rw [h,zAA]
 simp only [kT,zAD,zIi]
theorem elem6 (n:Int):zHB fu f n=some (if InN f.Nodes n then (if isB f.Nodes n 1=true then none else some ([101,108,101,109],5)) else some ([97,115,107,101,100],1)):=by
 unfold zHB
 rw [zgU hr hfu,zAA]
 by_cases h:InN f.Nodes n
 ·rw [iP h,iP h]
  obtain ⟨x,hx⟩:=zAK h
  simp only [kJ,zAO]
  rw [hx,zAA,zAW,zFr,zAA]
  have e:isB f.Nodes n 1=(x.Kind==1):=by unfold isB;rw [hx]
  by_cases i:x.Kind=1
  ·rw [iP i,e,i];rfl
  ·rw [iN i,e,show (x.Kind==1)=false by simpa using i]
   rfl
 ·rw [iN h,iN h];rfl
theorem zSS (n:Int) (t:List (Node×Bool)->List Note->Option (Option (Bs×Int)×List (Node×Bool)×List Note))
  (E:∀x,idx f.Nodes n=some x->x.Kind=1->(∃p m l,(p:Bs×Int).2≠0/\t (zJE f.Nodes) []=some (some p,m,l))\/t (zJE f.Nodes) []=some (none,zJE f.Nodes,[])\/∃a l,zHG a=true/\l.length<=1/\(∀y∈l,(y:Note).Kind=4)/\t (zJE f.Nodes) []=some (none,zJE (f.Nodes.set n.toNat (zJk x a)),l)) :
  ∃r,(bnd (zHB fu f n) fun F=>bnd (zBV fu t f F) fun u=>some (u.1,u.2.1,u.2.2))=some r/\zaz f r:=by
 rw [elem6 hr hfu,zAA]
 by_cases h:InN f.Nodes n
 ·rw [iP h]
  obtain ⟨x,hx⟩:=zAK h
  by_cases j:x.Kind=1
  ·rw [iP (by unfold isB;rw [hx];simp [j])]
   rcases E x hx j with ⟨p,m,l,q,i⟩ | i | ⟨a,l,q,i,C,D⟩
   ·rw [zbm hr hfu i,zAA];exact ⟨_,rfl,.inl ⟨_,q,rfl⟩⟩
   ·rw [zV6 hr hfu i,zAA];exact ⟨_,rfl,.inr ⟨f,[],hr,rfl,rfl,by simp,by simp,rfl⟩⟩
   ·rw [zV6 hr hfu D,zAA]
    refine ⟨_,rfl,.inr ⟨_,_,zXR hr hx j q,rfl,?_,i,C,rfl⟩⟩
    show (f.Nodes.set n.toNat (zJk x a)).map bare=_
    rw [List.map_set]
    have hi:n.toNat<f.Nodes.length:=by unfold InN at h;omega
    have e:bare (zJk x a)=(f.Nodes.map bare)[n.toNat]'(by simpa using hi):=by
     have:idx f.Nodes n=some f.Nodes[n.toNat]:=by
      have:=zAT hi
      rwa [show ((n.toNat:Nat):Int)=n by unfold InN at h;omega] at this
     rw [hx] at this
     rw [List.getElem_map,<- lJ.inj this]
     rfl
    rw [e];exact List.set_getElem_self _
  ·rw [iN (by unfold isB;rw [hx];simp [j]),zYp hr hfu,zAA]
   exact ⟨_,rfl,.inl ⟨5,by omega,rfl⟩⟩
 ·rw [iN h,zYp hr hfu,zAA]
  exact ⟨_,rfl,.inl ⟨1,by omega,rfl⟩⟩
variable {s:Bs} (hs:s.length<fu) (hs2:s.length<=1000000)
include hs hs2
theorem zfW (n:Int) (v:Bs):∃r,zLB fu f n s v=some r/\zaz f r:=by
 unfold zLB
 refine zSS hr hfu n _ fun x hx q=>?_
 have u:=zRI (zXP hr hx q)
 unfold zKd
 rw [zGJ hx,zAA,zbE (by omega) (by simp only;omega),zAA,zAW]
 simp only
 by_cases e:(zZw x.Attrs s v).2=0
 ·rw [iP e]
  obtain ⟨C,h,i,j⟩:=zXb (n:=n) (s:=s) (l:=(zZw x.Attrs s v).1) (notes:=[]) hfu hs hs2 hx (by simp)
  rw [h,zAA]
  exact .inr (.inr ⟨_,_,zTP e,i,j,rfl⟩)
 ·rw [iN e,zFr,zAA,iN e]
  exact .inl ⟨_,_,_,e,rfl⟩
theorem zal (n:Int):∃r,zIn fu f n s=some r/\zaz f r:=by
 unfold zIn
 refine zSS hr hfu n _ fun x hx q=>?_
 have e:=zXP hr hx q
 have u:=zRI e
 unfold zIb
 rw [zSN (by omega),zAA,zAW,zGJ hx,zAA,zbB (by omega) (by simp only;omega),zAA]
 simp only
 cases C:zF1 s with
 | false =>
  simp only [dL,↓reduceIte]
  rw [iN (by omega),zFr,zAA,iN (by omega)]
  exact .inl ⟨_,_,_,by simp only;omega,rfl⟩
 | true =>
  simp only [↓reduceIte]
  obtain ⟨D,h,i,j⟩:=zXb (n:=n) (s:=s) (l:=(zgg x.Attrs s).1) (notes:=[]) hfu hs hs2 hx (by simp)
  rw [h,zAA]
  exact .inr (.inr ⟨_,_,zTO e,i,j,rfl⟩)
theorem zYQ (n k:Int):∃r,zHj fu f n s k=some r/\zaz f r:=by
 unfold zHj
 refine zSS hr hfu n _ fun x hx u=>?_
 have h:=zXP hr hx u
 have C:=zRI h
 unfold zHi
 rw [zGJ hx,zAA,zPp (by omega),zAA,zAA,zgk (by omega) (by simp only;omega),zAA,zAW]
 simp only
 by_cases e:(zf1 x.Attrs s k).2.2=0
 ·rw [iP e]
  cases (zdy x.Attrs s).2==(zf1 x.Attrs s k).2.1 with
  | true=>exact .inr (.inl rfl)
  | false =>
   obtain ⟨D,i,j,q⟩:=zXb (n:=n) (s:=s) (l:=(zf1 x.Attrs s k).1) (notes:=[]) hfu hs hs2 hx (by simp)
   rw [jL,zAO,i,zAA]
   exact .inr (.inr ⟨_,_,zZx h e,j,q,rfl⟩)
 ·rw [iN e,zFr,zAA,iN e]
  exact .inl ⟨_,_,_,e,rfl⟩
end
end
section
section
variable {fu:Nat} {f:Forest} (hfu:1000<fu)
include hfu
theorem zNC {l:List Int} (hr:zAG f=true) (hl:l.length<=100):zFF fu f l=some (l.all (inB f)):=by
 unfold zFF
 rw [zFB hfu ((zAH hr).fit hfu),zAA,hr,zAO,zGE (p:=fun n => !(inB f n)) (fun n _=>by unfold zFq;exact zU4 f n) (by omega) (by omega),zAA,zIO]
theorem zdR (hr:zAG f=true) (d:Int):zLH fu f d=some (isB f.Nodes d 0):=by
 unfold zLH
 rw [zNC hfu hr (by simp),zAA]
 simp only [cK,iQ,kN]
 unfold isB
 cases e:inB f d with
 | false =>
  have:¬(0<=d/\d<f.Nodes.length):=fun h=>by
   have:=zN9 (f:=f) (n:=d) h
   rw [e] at this;cases this
  rw [zCk this];rfl
 | true =>
  unfold inB at e
  obtain ⟨x,hx⟩:=zAK (of_decide_eq_true e)
  rw [hx];rfl
end
structure RI (f:Forest) (rows:List (Node×Bool)):Prop where
 base:rows.take f.Nodes.length=f.Nodes.map fun x=>(x,false)
 len:f.Nodes.length<=rows.length
 new:∀(i:Nat) (h:i<rows.length),f.Nodes.length<=i->rows[i].2=true
 kids:∀r∈rows,r.1.Kids.length<=rows.length+400
def JF (f:Forest) (rows:List (Node×Bool)) (j:zBl):Prop:=InN f.Nodes j.n/\(j.under = -1\/∃u:Nat,j.under=(u:Int)/\f.Nodes.length<=u/\u<rows.length)
theorem JF.mono {f:Forest} {e:List (Node×Bool)} {j:zBl} (h:JF f rows j) (hl:rows.length<=e.length):JF f e j :=
 ⟨h.1,h.2.imp id fun ⟨u,i,q,C⟩=>⟨u,i,q,by omega⟩⟩
theorem RI.old {f:Forest} (h:RI f rows) {n:Int} {x:Node} (hx:idx f.Nodes n=some x):idx rows n=some (x,false):=by
 have hr:=zAI hx
 obtain ⟨i,rfl⟩:∃i:Nat,n=(i:Int):=⟨n.toNat,by omega⟩
 have hi:i<f.Nodes.length:=by omega
 have e:i<rows.length:=by have:=h.len;omega
 rw [zAT hi] at hx
 rw [zAT e]
 have:=congrArg (fun l=>l[i]?) h.base
 simp only [List.getElem?_take,iP hi,lK,lC hi,lC e,lW] at this
 rw [lJ.inj this,lJ.inj hx]
theorem RI.add {f:Forest} (h:RI f rows) {y:Node} (hy:y.Kids=[]):RI f (rows++[(y,true)]):=by
 have hl:=h.len
 refine ⟨?_,by simp;omega,fun i hi j=>?_,fun r hr=>?_⟩
 ·rw [iV hl];exact h.base
 ·rw [List.getElem_append]
  split
  ·rename_i e;exact h.new i e j
  ·simp
 ·rw [cA,e8] at hr
  simp only [eR,cP,eK]
  rcases hr with hr | rfl
  ·have:=h.kids r hr;omega
  ·rw [hy];simp
theorem RI.kid {f:Forest} {u:Nat} {e:Node} (h:RI f rows) (C:f.Nodes.length<=u) (j:e.Kids.length<=rows.length+400):RI f (rows.set u (e,true)):=by
 refine ⟨?_,by simpa using h.len,fun i hi q=>?_,fun r hr=>?_⟩
 ·rw [kU C];exact h.base
 ·rw [List.getElem_set]
  split
  ·rfl
  ·exact h.new i (by simpa using hi) q
 ·rw [List.length_set]
  rcases dT hr with hr | rfl
  ·exact h.kids r hr
  ·exact j
theorem zbc {fu:Nat} {f:Forest} {j:zBl} (hr:zAG f=true) (h:RI f rows) (M:JF f rows j) (hl:rows.length<=100000) :
  ∃d e,zE1 fu j rows=some ((rows.length:Int),d,e)/\e.length=rows.length+1/\RI f e:=by
 obtain ⟨x,hx⟩:=zAK M.1
 have hs:=zAH hr
 have P:=hs.attrs x (zFC hx)
 have E:∀F G,∃d e,zCR fu j rows (x,false) x.Attrs (F,G)=some ((rows.length:Int),d,e)/\e.length=rows.length+1/\RI f e:=fun F G=>by
  have i:=h.add (y:=⟨F,x.Name,x.Is,x.Data,x.Attrs,j.under,[],-1,-1,G⟩) rfl
  unfold zCR zIM
  simp only
  rw [zAi (by omega),zAA,zKG (by simp only [lo,Go.Pw.hi,eR,cP,eK];omega),zAA,zAA,zAW]
  have N:(((rows++[((⟨F,x.Name,x.Is,x.Data,x.Attrs,j.under,[],-1,-1,G⟩:Node),true)]).length:Nat):Int) - 1=(rows.length:Int):=by simp
  rw [N]
  rcases M.2 with I | ⟨u,I,J,K⟩
  ·rw [iP I]
   exact ⟨_,_,rfl,by simp,i⟩
  ·have C:u<(rows++[((⟨F,x.Name,x.Is,x.Data,x.Attrs,j.under,[],-1,-1,G⟩:Node),true)]).length:=by simp;omega
   have D:=i.new u C J
   have q:=i.kids _ (gC C)
   rw [iN (by rw [I];omega),I,zAT (by rw [<- I];exact C),zAA]
   simp only [I] at D q C i ⊢
   rw [D,show zTK true=some () from rfl,zAA]
   simp only [eR,cP,eK] at q
   have Q:(rows++[((⟨F,x.Name,x.Is,x.Data,x.Attrs,(u:Int),[],-1,-1,G⟩:Node),true)])[u].1.Kids.length<=rows.length+400:=by
    rw [List.getElem_append_left K]
    exact h.kids _ (gC K)
   rw [zAi (by simp only [cP,eK];omega),zAA,zAA,eO]
   refine ⟨_,_,rfl,by simp,i.kid J ?_⟩
   simp only [eR,cP,eK]
   omega
 unfold zE1
 rw [h.old hx,zAA,show zQc (x,false).2=some () from rfl,zAA,zKj (by simp only;omega),zAA,zAj,zAj]
 simp only
 split
 ·exact E _ _
 ·split
  ·exact E _ _
  ·exact E _ _
theorem run_l2 {h:Int×Int×List (Node×Bool)} {e:Node×Bool} {rc:List zBl×List (Node×Bool)->Option (Int×List (Node×Bool))} (j:e.1.Kids.length<=1000000):∀(k:Nat) (l:List zBl),k<=e.1.Kids.length->l.length+k<=10000000 ->
  zDQ h e rc k l=rc (l++((e.1.Kids.take k).reverse.map fun c=>⟨c,h.2.1,h.1⟩),h.2.2):=by
 intro k
 induction k with
 | zero=>intro l _ _;simp [zDQ]
 | succ k q =>
  intro l j hl
  have i:k<e.1.Kids.length:=by omega
  simp only [zDQ]
  rw [lC i,zAA,zAi (by simp only [cP,eK];omega),zAA,q _ (by omega) (by simp only [eR,cP,eK];omega),iE i,List.reverse_append,gG,eS]
  rfl
def work (f:Forest) (e:List zBl):Nat:=(e.map fun j=>(zK6 f.Nodes j.n).length).sum
theorem zfZ (ns:List Node) (L:List Int):(L.flatMap (zK6 ns)).length=(L.map fun k=>(zK6 ns k).length).sum:=by
 rw [List.length_flatMap]
theorem run_l1 {fu:Nat} {f:Forest} {deep:Bool} {l4:List (Node×Bool)} (hr:zAG f=true):∀(K:Nat) (e:List zBl) (rows:List (Node×Bool)),RI f rows->(∀j∈e,JF f rows j)->work f e<K->rows.length+work f e<=50000->e.length<=50000 ->
  ∃h,zDP fu deep l4 K (e,rows)=some ((l4.length:Int),h)/\RI f h/\h.length<=rows.length+work f e:=by
 have T:=zBK hr
 have hs:=zAH hr
 intro K
 induction K with
 | zero=>intro e rows _ _ hw;omega
 | succ K ih =>
  intro e rows hR P hw hb J
  simp only [zDP]
  rcases List.eq_nil_or_concat e with rfl | ⟨u,j,rfl⟩
  ·rw [zAN (by simp)]
   exact ⟨rows,rfl,hR,by omega⟩
  ·rw [List.concat_eq_append] at *
   have S:=P j (by simp)
   obtain ⟨x,hx⟩:=zAK S.1
   have D:work f (u++[j])=work f u+(1+((zLV f.Nodes j.n).map fun k=>(zK6 f.Nodes k).length).sum):=by
    unfold work
    rw [gG,kV,lT,List.map_nil,kO,List.sum_nil,T.all_eq S.1,cP,zfZ]
    omega
   have E:((u++[j]).length:Int) - 1=(u.length:Int):=by simp
   simp only [eR,cP,eK] at J
   rw [zAP (by simp),E,zKG (by simp only [lo,Go.Pw.hi];omega),zAA,zFg,cC (cB _),Nat.sub_self,List.getElem?_cons_zero,zAA,zAA]
   rw [show piece (u++[j]) 0 (u.length:Int)=some u from ?_,zAA]
   ·obtain ⟨d,h,h1,h2,Q⟩:=zbc (fu:=fu) hr hR S (by omega)
    rw [h1,zAA]
    cases deep with
    | false=>exact ⟨h,rfl,Q,by rw [D];omega⟩
    | true =>
     have V:=hs.kids x (zFC hx)
     have C:zLV f.Nodes j.n=x.Kids:=zGG hx
     have i:∀k∈x.Kids,1<=(zK6 f.Nodes k).length:=fun k M=>by
      have F:=(T.kid j.n k (by rw [C];exact M)).2.1
      have:=T.all_self F
      exact kW this
     have W:x.Kids.length<=(x.Kids.map fun k=>(zK6 f.Nodes k).length).sum:=by
      clear D C V hx
      revert i
      generalize x.Kids=L
      intro i
      induction L with
      | nil=>simp
      | cons a L G =>
       have:=G fun k M=>i k (lG _ M)
       have:=i a (lH ..)
       simp only [cP,lT,kO]
       omega
     have hjs:u.length<=work f u:=by
      clear D E J
      have:∀N∈u,1<=(zK6 f.Nodes N.n).length:=fun N q=>kW (T.all_self (P N (by simp [q])).1)
      unfold work
      clear P hw hb
      revert this
      generalize u=L
      intro i
      induction L with
      | nil=>simp
      | cons a L G =>
       have:=G fun k M=>i k (lG _ M)
       have:=i a (lH ..)
       simp only [cP,lT,kO]
       omega
     rw [C] at D
     simp only [iA,zAD]
     rw [Q.old hx,zAA,show zQc (x,false).2=some () from rfl,zAA,run_l2 (by simp only;omega) _ _ (cB _) (by simp only;omega),iI]
     have X:work f (u++x.Kids.reverse.map fun c=>⟨c,d,(rows.length:Int)⟩)=work f u+(x.Kids.map fun k=>(zK6 f.Nodes k).length).sum:=by
      unfold work
      rw [gG,kV,List.map_map]
      congr 1
      rw [show ((fun j:zBl=>(zK6 f.Nodes j.n).length) ∘ fun c=>(⟨c,d,(rows.length:Int)⟩:zBl))=fun k=>(zK6 f.Nodes k).length from rfl,List.map_reverse,List.sum_reverse]
     obtain ⟨I,g1,g2,g3⟩:=ih (u++x.Kids.reverse.map fun c=>⟨c,d,(rows.length:Int)⟩) h Q (fun N q=>by
      rw [cA] at q
      rcases q with q | q
      ·exact (P N (by simp [q])).mono (by omega)
      ·obtain ⟨c,hc,rfl⟩:=lE.1 q
       have F:=(T.kid j.n c (by rw [C];exact List.mem_reverse.1 hc)).2.1
       exact ⟨F,.inr ⟨rows.length,rfl,hR.len,by omega⟩⟩) (by omega) (by omega) (by simp only [eR,lL,List.length_reverse];omega)
     exact ⟨I,g1,g2,by omega⟩
   ·unfold piece
    rw [iP ⟨by omega,by omega,by simp;omega⟩]
    simp
def zd5 (f:Forest) (r:Forest×Int×Int):Prop:=(∃e,e≠0/\r=(f,-1,e))\/∃ns,ns.take f.Nodes.length=f.Nodes/\f.Nodes.length<=ns.length/\ns.length<=1000/\(∀x∈ns,x.Kids.length<=2000)/\r=(⟨ns,f.Most⟩,(f.Nodes.length:Int),0)
theorem RI.first {f:Forest} (hr:zAG f=true):RI f (f.Nodes.map fun x=>(x,false)):=by
 have hs:=zAH hr
 refine ⟨?_,by simp,fun i hi h=>?_,fun r e=>?_⟩
 ·rw [kH (by simp)]
 ·simp at hi;omega
 ·obtain ⟨x,hx,rfl⟩:=lE.1 e
  have:=hs.kids x hx
  simp only;omega
theorem zeO {fu:Nat} {f:Forest} (hr:zAG f=true) (hfu:1000<fu) (n d:Int) (deep:Bool) (h:InN f.Nodes n):∃e,zIN fu ⟨n,d,-1⟩ deep (f.Nodes.map fun x=>(x,false))=some ((f.Nodes.length:Int),e)/\RI f e/\e.length<=800:=by
 have hs:=zAH hr
 have q:=hs.few
 have T:=zBK hr
 have D:=T.all_len h
 have hw:work f [⟨n,d,-1⟩]=(zK6 f.Nodes n).length:=by simp [work]
 have hl:(f.Nodes.map fun x=>(x,false)).length=f.Nodes.length:=by simp
 obtain ⟨e,i,u,C⟩:=run_l1 (fu:=fu) (deep:=deep) (l4:=f.Nodes.map fun x=>(x,false)) hr fu [⟨n,d,-1⟩] (f.Nodes.map fun x=>(x,false)) (RI.first hr) (fun j E=>by rw [e8.1 E];exact ⟨h,.inl rfl⟩) (by rw [hw];omega) (by rw [hw,hl];omega) (by rw [List.length_singleton];omega)
 rw [hl] at i
 rw [hw,hl] at C
 exact ⟨e,i,u,by omega⟩
theorem zg7 {fu:Nat} {f:Forest} (hr:zAG f=true) (hfu:1000<fu) (n d:Int) (deep:Bool) (i:InN f.Nodes n) (many:Int) (E:0<=many) (F:many<=400):∃r,zGB fu f n d deep many=some r/\zd5 f r:=by
 have hs:=zAH hr
 have q:=hs.few
 unfold zGB
 rw [zKG (by simp only [lo,Go.Pw.hi];omega),zAA,zAS]
 by_cases u:(f.Nodes.length:Int)+many>f.Most
 ·rw [iP u];exact ⟨_,rfl,.inl ⟨8,by omega,rfl⟩⟩
 ·rw [iN u,zKD (by omega),zAA]
  obtain ⟨e,C,h,D⟩:=zeO hr hfu n d deep i
  rw [C,zAA]
  refine ⟨_,rfl,.inr ⟨e.map Prod.fst,?_,?_,?_,fun x hx=>?_,rfl⟩⟩
  ·rw [<- List.map_take,h.base,List.map_map]
   exact List.map_id _
  ·rw [lL];exact h.len
  ·rw [lL];omega
  ·obtain ⟨r,j,rfl⟩:=lE.1 hx
   have:=h.kids r j
   omega
theorem zbd {fu:Nat} {f:Forest} (hr:zAG f=true) (hfu:1000<fu) (n d:Int) (deep:Bool) (e:InN f.Nodes n):∃r,(cnd deep (bnd (zEp fu f n) fun q=>(zGB fu f n d deep) (q.length:Int)) ((zGB fu f n d deep) 1))=some r/\zd5 f r:=by
 have j:=(zBK hr).all_len e
 have i:=(zAH hr).few
 rw [zUP (zAH hr) hfu hr e,zAA]
 have h:=zg7 hr hfu n d deep e
 cases deep with
 | false=>rw [zAD];exact h 1 (by omega) (by omega)
 | true=>rw [zAO];exact h _ (by omega) (by omega)
theorem zbe {fu:Nat} {f:Forest} (hr:zAG f=true) (hfu:1000<fu) (n d:Int) (deep:Bool):∃r,zL0 fu f n d deep=some r/\zd5 f r:=by
 unfold zL0
 rw [zNC hfu hr (by simp),zAA,zdR hfu hr,zAA]
 have e:[n].all (inB f)=inB f n:=by simp
 rw [e]
 by_cases h:inB f n=true
 ·rw [h,iA,zAD]
  by_cases i:isB f.Nodes d 0=true
  ·rw [i,iA,zAD]
   exact zbd hr hfu n d deep (by unfold inB at h;exact of_decide_eq_true h)
  ·rw [iL.2 i,jL,zAO]
   exact ⟨_,rfl,.inl ⟨1,by omega,rfl⟩⟩
 ·rw [iL.2 h,jL,zAO]
  exact ⟨_,rfl,.inl ⟨1,by omega,rfl⟩⟩
end
section
def Ext (a b:List Node):Prop:=a.length<=b.length/\∀j w,idx a j=some w->∃v,idx b j=some v/\v.Kind=w.Kind/\upI b j=upI a j
theorem Ext.refl (a:List Node):Ext a a:=⟨cB _,fun _ w h=>⟨w,h,rfl,rfl⟩⟩
theorem Ext.of_bare (h:b.map bare=a.map bare):Ext a b:=by
 have hl:b.length=a.length:=by have:=congrArg List.length h;simpa using this
 refine ⟨by omega,fun j w hw=>?_⟩
 have u:=zAI hw
 obtain ⟨v,i⟩:=zAK (l:=b) (n:=j) (by omega)
 refine ⟨v,i,?_,by rw [<- zXT,h,zXT]⟩
 have e:=zK0 (l:=b) (g:=bare) (n:=j)
 rw [h,zK0,hw,i] at e
 have q:=lJ.inj e
 show (bare v).Kind=w.Kind
 rw [<- q];rfl
theorem Ext.of_take (h:b.take a.length=a) (hl:a.length<=b.length):Ext a b:=by
 have i:b=a++b.drop a.length:=by
  conv=>lhs;rw [<- List.take_append_drop a.length b,h]
 refine ⟨hl,fun j w hw=>?_⟩
 rw [i]
 have e:=zKz (m:=b.drop a.length) hw
 exact ⟨w,e,rfl,zdV (zAI hw)⟩
def Chg (f g:Forest) (l:List Note):Prop:=∃f1 h i e m,Ext f.Nodes f1.Nodes/\zAG f1=true/\Mv m f1 h i/\m<=1000/\Ext h.Nodes g.Nodes/\l=i++e/\(∀y∈e,y.Kind=3\/y.Kind=4)/\e.length<=1000/\g.Nodes.length<=1000/\∀x∈g.Nodes,x.Kids.length<=2000
theorem Chg.of_mv {f:Forest} {l:List Note} {m:Nat} (hr:zAG f=true) (h:Mv m f g l) (e:m<=1000):Chg f g l:=by
 have hs:=zAH (h.all hr).1
 exact ⟨f,g,l,[],m,Ext.refl _,hr,h,e,Ext.refl _,by simp,by simp,by simp,by have:=hs.few;omega,fun x hx=>by have:=hs.kids x hx;omega⟩
theorem Chg.of_ext {f:Forest} (hr:zAG f=true) (h:Ext f.Nodes g.Nodes) (e:g.Nodes.length<=1000) (i:∀x∈g.Nodes,x.Kids.length<=2000):Chg f g [] :=
 ⟨f,f,[],[],0,Ext.refl _,hr,.refl f,by omega,h,rfl,by simp,by simp,e,i⟩
theorem Chg.len {f:Forest} {l:List Note} (h:Chg f g l):l.length<=2000000:=by
 obtain ⟨f1,i,u,C,m,_,hr,e,j,_,rfl,_,q,_⟩:=h
 have:=(e.all hr).2.2.2
 simp only [eR]
 omega
theorem Chg.of_hand {f:Forest} {N:Nat} (hr:zAG f=true) (h:Hand f N r) (j:N<=1000):r.2.2≠0\/(r.2.2=0/\Chg f r.1 r.2.1):=by
 rcases h with ⟨e,i,rfl⟩ | ⟨m,g,l,q,h,rfl⟩
 ·exact .inl i
 ·exact .inr ⟨rfl,.of_mv hr h (by omega)⟩
theorem Chg.of_attrs {f:Forest} (hr:zAG f=true) (h:zaz f r):r.2.2≠0\/(r.2.2=0/\Chg f r.1 r.2.1):=by
 rcases h with ⟨e,u,rfl⟩ | ⟨g,l,i,C,j,D,q,rfl⟩
 ·exact .inl u
 ·have hs:=zAH i
  exact .inr ⟨rfl,f,f,[],l,0,Ext.refl _,hr,.refl f,by omega,Ext.of_bare j,rfl,fun y hy=>.inr (q y hy),by omega,by have:=hs.few;simp only;omega,fun x hx=>by have:=hs.kids x hx;omega⟩
theorem Chg.of_copy {f:Forest} {r:Forest×Int×Int} (hr:zAG f=true) (h:zd5 f r):r.2.2≠0\/(r.2.2=0/\Chg f r.1 []):=by
 rcases h with ⟨e,C,rfl⟩ | ⟨ns,i,j,q,u,rfl⟩
 ·exact .inl C
 ·exact .inr ⟨rfl,.of_ext hr (.of_take i j) q u⟩
section
variable {f:Forest} {fu:Nat} (hr:zAG f=true) (hfu:1000<fu)
include hr hfu
theorem zXO (n:Int):∃r,zIc fu f n=some r/\(r.2.2≠0\/(r.2.2=0/\Chg f r.1 [])):=by
 have hs:=zAH hr
 have u:=hs.few
 have fin:∀x,idx f.Nodes n=some x->∃r,zF9 fu f n x ()=some r/\(r.2.2≠0\/(r.2.2=0/\Chg f r.1 [])):=fun x hx=>by
  unfold zF9
  rw [zAW,zAj,zKD (by omega),zAA,zAi (by simp;omega),zAA,zKz hx,zAA]
  by_cases E:x.Under = -1
  ·rw [iP E]
   by_cases D:(f.Nodes.length:Int)=f.Most
   ·rw [iP D];exact ⟨_,rfl,.inl (by simp)⟩
   ·rw [iN D]
    have F:=zAI hx
    refine ⟨_,rfl,.inr ⟨rfl,.of_ext hr ⟨by simp,fun j w hw=>?_⟩ (by simp;omega) fun y hy=>?_⟩⟩
    ·have i:=zKz (m:=[(⟨4,[],[],[],[],-1,[],n,-1,x.Doc⟩:Node)]) hw
     by_cases C:j=n
     ·subst C
      rw [hx] at hw
      obtain rfl:=lJ.inj hw
      have e:idx ((f.Nodes++[(⟨4,[],[],[],[],-1,[],j,-1,x.Doc⟩:Node)]).set j.toNat ⟨x.Kind,x.Name,x.Is,x.Data,x.Attrs,x.Parent,x.Kids,x.Host,(f.Nodes.length:Int),x.Doc⟩) j=some ⟨x.Kind,x.Name,x.Is,x.Data,x.Attrs,x.Parent,x.Kids,x.Host,(f.Nodes.length:Int),x.Doc⟩:=zLU (by simp;omega)
      exact ⟨_,e,rfl,by rw [zHY e,zHY hx]⟩
     ·have e:idx ((f.Nodes++[(⟨4,[],[],[],[],-1,[],n,-1,x.Doc⟩:Node)]).set n.toNat ⟨x.Kind,x.Name,x.Is,x.Data,x.Attrs,x.Parent,x.Kids,x.Host,(f.Nodes.length:Int),x.Doc⟩) j=some w:=(zJ9 (by omega) C).trans i
      exact ⟨_,e,rfl,by rw [zHY e,zHY hw]⟩
    ·rcases dT hy with h | rfl
     ·rcases cA.1 h with h | h
      ·have:=hs.kids y h;omega
      ·rw [e8.1 h];simp
     ·have:=hs.kids x (zFC hx);simp only;omega
  ·rw [iN E];exact ⟨_,rfl,.inl (by simp)⟩
 unfold zIc
 rw [zWx hfu (hs.fit hfu) hr (by simp),zAA,show [n].all (inB f)=inB f n by simp]
 by_cases q:inB f n=true
 ·obtain ⟨x,hx⟩:∃x,idx f.Nodes n=some x:=by
   unfold inB at q
   exact zAK (of_decide_eq_true q)
  rw [q,iA,zAD,hx,zAA,zAW,zHW (by omega),zAA]
  by_cases i:x.Kind=1
  ·rw [iP i]
   cases zEP x.Name with
   | true=>rw [iA,zAD];exact fin x hx
   | false =>
    unfold zLt
    rw [jL,zAO,zAA,zKl (by simp;omega) (by simp),zAA]
    generalize List.contains _ x.Name=b
    cases b with
    | true=>rw [iA,zAD];exact fin x hx
    | false=>exact ⟨_,rfl,.inl (by simp)⟩
  ·rw [iN i];exact ⟨_,rfl,.inl (by simp)⟩
 ·rw [iL.2 q,jL,zAO]
  exact ⟨_,rfl,.inl (by simp)⟩
omit hfu in
theorem zcK {k:Int} {y:Node} (hy:idx f.Nodes n=some y) (e:k∈y.Kids):InN f.Nodes k:=by
 obtain ⟨w,hw⟩:=zJn (zAb hr).2.2.1 hy k e
 exact zAI hw
theorem zhI {y:Node} (hl:y.Kids.length<=400) (E:∀k∈y.Kids,InN f.Nodes k):∀(m i K:Nat) (g:Forest) (l:List Note),i+m=y.Kids.length->m<K->Mv i f g l->∃h I,zGU fu y K ((i:Int),l,g.Nodes,g.Most)=some (h,I,0)/\Mv y.Kids.length f h I:=by
 intro m
 induction m with
 | zero =>
  intro i K g l hi N j
  obtain ⟨K,rfl⟩:∃D,K=D+1:=⟨K - 1,by omega⟩
  obtain rfl:i=y.Kids.length:=by omega
  simp only [zGU]
  rw [zAN (by simp)]
  exact ⟨g,l,rfl,j⟩
 | succ m G =>
  intro i K g l hi N j
  obtain ⟨K,rfl⟩:∃D,K=D+1:=⟨K - 1,by omega⟩
  have e:i<y.Kids.length:=by omega
  obtain ⟨F,_,hS,P⟩:=j.all hr
  have u:InN g.Nodes y.Kids[i]:=hS.inN.2 (E _ (gC e))
  simp only [zGU]
  rw [zAP (by simpa using e),zAT e,zAA,zMG F hfu,zAA,iP u]
  by_cases C:zHa g.Nodes y.Kids[i] = -1
  ·have q:Mv (i+1) f ⟨zLj g.Nodes y.Kids[i],g.Most⟩ (l++zGO g y.Kids[i]):=j.out u
   obtain ⟨z,hz⟩:=zAK u
   have J:zLj g.Nodes y.Kids[i]=g.Nodes:=zPU hz (by rw [<- zJV hz];exact C)
   have M:zGO g y.Kids[i]=[]:=by unfold zGO;rw [iN fun h=>h.1 C]
   rw [J,M] at q
   rw [iP C]
   simp only
   rw [zAi (by simp;omega),zAA,zBL (by omega),zAA]
   exact G (i+1) K g (l++[]) (by omega) (by omega) q
  ·rw [iN C]
   simp only
   have Q:=zKH F u
   rw [zAi (by omega),zAA,zBL (by omega),zAA]
   exact G (i+1) K ⟨zLj g.Nodes y.Kids[i],g.Most⟩ (l++zGO g y.Kids[i]) (by omega) (by omega) (j.out u)
theorem zaD (n:Int):∃r,zI3 fu f n=some r/\(r.2.2≠0\/(r.2.2=0/\Chg f r.1 r.2.1)):=by
 have hs:=zAH hr
 unfold zI3
 rw [zNC hfu hr (by simp),zAA,show [n].all (inB f)=inB f n by simp]
 by_cases e:inB f n=true
 ·obtain ⟨y,hy⟩:∃x,idx f.Nodes n=some x:=by
   unfold inB at e
   exact zAK (of_decide_eq_true e)
  have i:=hs.kids y (zFC hy)
  rw [e,iA,zAD,hy,zAA]
  obtain ⟨h,C,j,q⟩:=zhI hr hfu i (fun k u=>zcK hr hy u) y.Kids.length 0 fu f [] (by omega) (by omega) (.refl f)
  exact ⟨_,j,.inr ⟨rfl,.of_mv hr q (by omega)⟩⟩
 ·rw [iL.2 e,jL,zAO]
  exact ⟨_,rfl,.inl (by simp)⟩
end
end
section
theorem zel {f:Forest} (hr:zAG f=true) {n k:Int} {y:Node} (hy:idx f.Nodes n=some y) (j:k∈y.Kids):isB f.Nodes k 3=false:=by
 have i:=zBm (zAb hr).2.2.1 hy
 unfold zF3 zEk at i
 simp only [lM,lR] at i
 have h:=i.2.2.2.1.2.1 k j
 unfold zPM at h
 unfold isB
 cases hz:idx f.Nodes k with
 | none=>rfl
 | some z =>
  rw [hz] at h
  simp only [lM,dD,beq_iff_eq,bne_iff_ne] at h
  simp only
  rcases h.2.2 with e | e
  ·rw [e];rfl
  ·rw [e.1];rfl
section
variable {fu:Nat} {f1:Forest} {at_:Int} {e6:Int} (hr:zAG f1=true) (hfu:1000<fu)
include hr hfu
theorem join_l {y:Node} (hl:y.Kids.length<=400) (F:∀k∈y.Kids,isB f1.Nodes k 3=false):∀(m i K q:Nat) (g:Forest) (l:List Note),i+m=y.Kids.length->m<K->Mv q f1 g l->q<=i->∃h D N,zHT fu (f1,at_,e6) y K ((i:Int),l,g.Nodes,g.Most)=some (h,at_,D,0)/\Mv N f1 h D/\N<=y.Kids.length:=by
 intro m
 induction m with
 | zero =>
  intro i K q g l hi S u J
  obtain ⟨K,rfl⟩:∃E,K=E+1:=⟨K - 1,by omega⟩
  obtain rfl:i=y.Kids.length:=by omega
  simp only [zHT]
  rw [zAN (by simp)]
  exact ⟨g,l,q,rfl,u,J⟩
 | succ m M =>
  intro i K q g l hi S u J
  obtain ⟨K,rfl⟩:∃E,K=E+1:=⟨K - 1,by omega⟩
  have j:i<y.Kids.length:=by omega
  obtain ⟨I,_,hS,V⟩:=u.all hr
  have Q:isB g.Nodes y.Kids[i] 3=false:=by rw [hS.isB];exact F _ (gC j)
  obtain ⟨r,P,G⟩:=zST I hfu y.Kids[i] at_ (-1)
  rw [iN (by rw [Q];simp)] at G
  simp only [zHT]
  rw [zAP (by simpa using j),zAT j,zAA,P,zAA]
  rcases G with ⟨e,he,rfl⟩ | ⟨X,h,D,W,C,rfl⟩
  ·simp only
   rw [zAi (by simp;omega),zAA,zBL (by omega),zAA,gI]
   exact M (i+1) K q g l (by omega) (by omega) u (by omega)
  ·have T:=(C.all I).2.2.2
   simp only
   rw [zAi (by omega),zAA,zBL (by omega),zAA]
   exact M (i+1) K (q+X) h (l++D) (by omega) (by omega) (u.trans C) (by omega)
end
theorem zce (f:Forest) (x:Node):Ext f.Nodes (f.Nodes++[x]):=Ext.of_take (List.take_left' rfl) (by simp)
theorem zcJ {fu:Nat} {f:Forest} (hr:zAG f=true) (hfu:1000<fu) (n:Int):∃r,zL1 fu f n=some r/\(r.2.2.2≠0\/(r.2.2.2=0/\Chg f r.1 r.2.2.1)):=by
 have hs:=zAH hr
 unfold zL1
 rw [zNC hfu hr (by simp),zAA,show [n].all (inB f)=inB f n by simp]
 by_cases i:inB f n=true
 ·obtain ⟨y,hy⟩:∃x,idx f.Nodes n=some x:=by
   unfold inB at i
   exact zAK (of_decide_eq_true i)
  have q:=hs.kids y (zFC hy)
  rw [i,iA,zAD,hy,zAA,zAj]
  by_cases D:y.Kind=2
  ·rw [iP D];exact ⟨_,rfl,.inl (by simp)⟩
  ·rw [iN D,zAA,zX2 hfu (hs.fit hfu) (by simp),zAA]
   by_cases j:zAG f=true/\zcd f ⟨3,[],[],[],[],0,[],0,0,y.Doc⟩=true
   ·rw [iP j]
    by_cases u:(f.Nodes.length:Int)=f.Most
    ·rw [iP u,zAW,iN (by simp)]
     exact ⟨_,rfl,.inl (by simp)⟩
    ·rw [iN u,zAW,iP rfl,zAA]
     have e:=zWn hr j.2 u
     have I:=zce f (zaT f ⟨3,[],[],[],[],0,[],0,0,y.Doc⟩)
     obtain ⟨h,J,K,F,C,M⟩:=join_l (fu:=fu) (at_:=(f.Nodes.length:Int)) (e6:=0) e hfu q (fun k E=>by
      have G:=zel hr hy E
      obtain ⟨w,hw⟩:=zJn (zAb hr).2.2.1 hy k E
      rw [zY3 hw];exact G) y.Kids.length 0 fu 0 _ [] (by omega) (by omega) (.refl _) (cB _)
     have hs2:=zAH (C.all e).1
     refine ⟨_,F,.inr ⟨rfl,_,h,J,[],K,I,e,C,by omega,Ext.refl _,by simp,by simp,by simp,?_,fun x hx=>?_⟩⟩
     ·have:=hs2.few;simp only;omega
     ·have:=hs2.kids x hx;omega
   ·rw [iN j,zAW,iN (by simp)]
    exact ⟨_,rfl,.inl (by simp)⟩
 ·rw [iL.2 i,jL,zAO]
  exact ⟨_,rfl,.inl (by simp)⟩
def zga (a b:List Node):Prop:=b.length=a.length/\∀j w,idx a j=some w->∃v,idx b j=some v/\v.Kind=w.Kind/\v.Parent=w.Parent/\v.Host=w.Host/\v.Kids=w.Kids
theorem zga.ext (h:zga a b):Ext a b:=⟨by rw [h.1];exact cB _,fun j w hw=>by
 obtain ⟨v,e,i,q,u,_⟩:=h.2 j w hw
 exact ⟨v,e,i,by rw [zHY e,zHY hw,q,u]⟩⟩
theorem zga.set (h:zga a b) {n d:Int} {v:Node} (D:idx b n=some v):zga a (b.set n.toNat ⟨v.Kind,v.Name,v.Is,v.Data,v.Attrs,v.Parent,v.Kids,v.Host,v.Under,d⟩):=by
 have C:=zAI D
 refine ⟨by simpa using h.1,fun j w hw=>?_⟩
 obtain ⟨u,e,i⟩:=h.2 j w hw
 by_cases q:j=n
 ·subst q
  rw [D] at e
  obtain rfl:=lJ.inj e
  exact ⟨_,zLU C,i⟩
 ·exact ⟨u,(zJ9 C.1 q).trans e,i⟩
theorem take_l {y6:Node} {d c11:Int} {r13:List Int} (hl:r13.length<=1000) (I:∀k∈r13,InN a k):∀(m i K:Nat) (ns:List Node) (l:List Note),i+m=r13.length->m<K->zga a ns->l.length+m<=1000000 ->
  ∃e j,zGC d y6 c11 r13 K ((i:Int),ns,l)=some (⟨e,c11⟩,l++j,0)/\zga a e/\j.length<=m/\∀y∈j,y.Kind=3:=by
 intro m
 induction m with
 | zero =>
  intro i K ns l hi S C _
  obtain ⟨K,rfl⟩:∃D,K=D+1:=⟨K - 1,by omega⟩
  obtain rfl:i=r13.length:=by omega
  simp only [zGC]
  rw [zAN (by simp)]
  exact ⟨ns,[],by rw [gI],C,by simp,by simp⟩
 | succ m P =>
  intro i K ns l hi S C T
  obtain ⟨K,rfl⟩:∃D,K=D+1:=⟨K - 1,by omega⟩
  have h:i<r13.length:=by omega
  have M:=I _ (gC h)
  have u:InN ns r13[i]:=by unfold InN at M ⊢;rw [C.1];exact M
  obtain ⟨v,N⟩:=zAK u
  have q:=C.set (d:=d) N
  simp only [zGC]
  rw [zAP (by simpa using h),zAT h,zAA,N,zAA,zLU u,zAA,zAj]
  by_cases J:v.Kind=1
  ·rw [iP J,zAi (by simp only [cP,eK];omega),zAA,zBL (by omega),zAA]
   obtain ⟨e,j,E,F,Q,G⟩:=P (i+1) K _ (l++[(⟨3,r13[i],y6.Doc,d,[],false,false,[],[]⟩:Note)]) (by omega) (by omega) q (by simp only [eR,cP,eK];omega)
   refine ⟨e,(⟨3,r13[i],y6.Doc,d,[],false,false,[],[]⟩:Note)::j,?_,F,by simp only [cP];omega,fun y hy=>?_⟩
   ·rw [E,eS];rfl
   ·rcases List.mem_cons.1 hy with rfl | hy
    ·rfl
    ·exact G y hy
  ·rw [iN J,zBL (by omega),zAA]
   obtain ⟨e,j,E,F,Q,G⟩:=P (i+1) K _ l (by omega) (by omega) q (by omega)
   exact ⟨e,j,E,F,by omega,G⟩
theorem zdQ {fu:Nat} {f:Forest} {d:Int} {y6:Node} {l:List Note} {m:Nat} (hr:zAG f=true) (hfu:1000<fu) (T:InN f.Nodes n) (E:Mv m f g l) (X:m<=1):∃r,zI5 fu n d y6 (l,g.Nodes,g.Most)=some r/\(r.2.2≠0\/(r.2.2=0/\Chg f r.1 r.2.1)):=by
 obtain ⟨D,_,hS,S⟩:=E.all hr
 have hs:=zAH D
 have J:=hs.few
 have h:InN g.Nodes n:=hS.inN.2 T
 have P:=(zAQ D).all_len h
 unfold zI5
 simp only
 rw [zAj]
 by_cases I:y6.Doc=d
 ·rw [iP I]
  exact ⟨_,rfl,.inr ⟨rfl,.of_mv hr E (by omega)⟩⟩
 ·rw [iN I,zKD (by omega),zAA,zYZ (f:=⟨g.Nodes,g.Most⟩) hs hfu D h,zAA]
  obtain ⟨q,V,K,C,W,M⟩:=take_l (y6:=y6) (d:=d) (c11:=g.Most) (r13:=zGl g.Nodes n) (a:=g.Nodes) (by omega) (fun k Q=>((zAQ D).all_in n h k Q).1) (zGl g.Nodes n).length 0 fu g.Nodes l (by omega) (by omega) ⟨rfl,fun j w hw=>⟨w,hw,rfl,rfl,rfl,rfl⟩⟩ (by omega)
  refine ⟨_,K,.inr ⟨rfl,f,g,l,V,m,Ext.refl _,hr,E,by omega,C.ext,rfl,fun y hy=>.inl (M y hy),by omega,?_,fun x hx=>?_⟩⟩
  ·show q.length<=1000
   rw [C.1];omega
  ·obtain ⟨i,hi,e⟩:=iW hx
   have u:i<g.Nodes.length:=by
    have:i<q.length:=hi
    rw [C.1] at this;exact this
   obtain ⟨v,G,_,_,_,N⟩:=C.2 (i:Int) _ (zAT u)
   have F:idx q (i:Int)=some x:=by
    rw [zAT hi];exact congrArg some e
   rw [F] at G
   rw [lJ.inj G,N]
   have:=hs.kids _ (gC u)
   omega
theorem zdP {fu:Nat} {f:Forest} (hr:zAG f=true) (hfu:1000<fu) (n d:Int):∃r,zJ5 fu f n d=some r/\(r.2.2≠0\/(r.2.2=0/\Chg f r.1 r.2.1)):=by
 have i:∃r,(some (f,([]:List Note),(1:Int)))=some r/\(r.2.2≠0\/(r.2.2=0/\Chg f r.1 r.2.1)):=⟨_,rfl,.inl (by simp)⟩
 have h:∃r,(some (f,([]:List Note),(5:Int)))=some r/\(r.2.2≠0\/(r.2.2=0/\Chg f r.1 r.2.1)):=⟨_,rfl,.inl (by simp)⟩
 unfold zJ5
 rw [zNC hfu hr (by simp),zAA,zdR hfu hr,zAA,show [n].all (inB f)=inB f n by simp]
 by_cases j:inB f n=true
 ·have e:InN f.Nodes n:=by unfold inB at j;exact of_decide_eq_true j
  obtain ⟨y,hy⟩:=zAK e
  rw [j,iA,zAD]
  by_cases q:isB f.Nodes d 0=true
  ·rw [q,iA,zAD,hy,zAA,zAA]
   have j1:∃r,zI4 fu f n d y ()=some r/\(r.2.2≠0\/(r.2.2=0/\Chg f r.1 r.2.1)):=by
    unfold zI4
    rw [zMG hr hfu,zAA,iP e]
    by_cases u:zHa f.Nodes n = -1
    ·rw [iP u,zAW,iN (by simp)]
     exact zdQ hr hfu e (.refl f) (by omega)
    ·rw [iN u,zAW,iP rfl]
     have C:Mv 1 f ⟨zLj f.Nodes n,f.Most⟩ (zGO f n):=by simpa using Mv.out (.refl f) e
     exact zdQ hr hfu e C (by omega)
   rw [zAj,zAj,zAj]
   split
   ·exact h
   ·split
    ·exact h
    ·exact j1
  ·rw [iL.2 q,jL,zAO];exact i
 ·rw [iL.2 j,jL,zAO];exact i
end
section
def zY6:List Bs:=(zFE 0).getD []
theorem zen (fu:Nat):zFE fu=some zY6:=by
 have h:∃l,zFE 0=some l:=by
  have:(zFE 0).isSome=true:=by decide +kernel
  exact kX.1 this
 obtain ⟨l,hl⟩:=h
 have e:zFE fu=zFE 0:=rfl
 unfold zY6
 rw [e,hl];rfl
theorem zaK:zY6.length<=200:=by decide +kernel
def zcL (s:Bs):Bool:=zY6.contains s
theorem zaI {fu:Nat} {s:Bs} (hfu:1000<fu):zKe fu s=some (zcL s):=by
 have:=zaK
 unfold zKe
 rw [zen,zAA,zKl (by omega) (by omega),zAA]
 rfl
theorem zUy [DecidableEq κ] {l:List (κ × ν)} {k : κ} {v : ν} {x : κ × ν} (h:x∈zHV l k v):x∈l\/x=(k,v):=by
 unfold zHV at h
 split at h
 ·rcases dT h with h | h
  ·exact .inl h
  ·exact .inr h
 ·rcases cA.1 h with h | h
  ·exact .inl h
  ·exact .inr (e8.1 h)
theorem zRX [DecidableEq κ] {l:List (κ × ν)} {k : κ} {z : ν} (h:zK7 l k=true):(k,zLi l k z)∈l:=by
 unfold zK7 at h
 unfold zLi
 cases e:zIS l k with
 | none=>rw [e] at h;cases h
 | some j =>
  obtain ⟨v,i⟩:=zJj e
  simp only [i]
  exact lU i
def defB (y:Def):Bool:=zEP y.Name&&((y.Local==y.Name||zcL y.Local)&&(decide (0<=y.Class)&&decide (y.Class<12)))
def rdF (n:Nat):List Def->Nat->List (Int×Int)->List (Bs×Int)->zCy×Bool
 | [],_,l3,l4=>(⟨l4,l3⟩,decide (l4.length=n)&&decide (l3.length=n))
 | y::t,i,l3,l4=>if defB y=true then rdF n t (i+1) (zHV l3 y.Class (i:Int)) (zHV l4 y.Name (i:Int)) else (⟨zHV l4 y.Name (i:Int),zHV l3 y.Class (i:Int)⟩,false)
theorem zdB {fu:Nat} {i:Int} {e:List (Int×Int)} {l4:List (Bs×Int)} {y:Def} {rc:Int×List (Int×Int)×List (Bs×Int)->Option (zCy×Bool)} {b:Bool} (hfu:1000<fu) (u:0<=i) (C:i<=1000000) (q:b=(y.Local==y.Name||zcL y.Local)) :
  zIl fu i e l4 y rc b=if defB y=true then rc (i+1,zHV e y.Class i,zHV l4 y.Name i) else some (⟨zHV l4 y.Name i,zHV e y.Class i⟩,false):=by
 unfold zIl defB
 rw [<- q,zHW (by omega),zAA,zKG (by simp only [lo,Go.Pw.hi];omega),zAA]
 cases zEP y.Name with
 | false=>rfl
 | true =>
  cases b with
  | false=>rfl
  | true =>
   simp only [iA,zAD,iD,zAS]
   by_cases h:y.Class<0
   ·rw [iP h,decide_eq_false (by omega)];rfl
   ·rw [iN h,decide_eq_true (by omega)]
    by_cases j:y.Class>=12
    ·rw [iP j,decide_eq_false (by omega)];rfl
    ·rw [iN j,decide_eq_true (by omega)];rfl
theorem zh7 {fu:Nat} {d:Desk} (hfu:1000<fu) (hl:d.Defs.length<=900):zLn fu d=some (rdF d.Defs.length d.Defs 0 [] []):=by
 have F:∀(j i k:Nat) (C:List (Int×Int)) (q:List (Bs×Int)),i+j=d.Defs.length->j<k->zEW fu d k ((i:Int),C,q)=some (rdF d.Defs.length (d.Defs.drop i) i C q):=by
  intro j
  induction j with
  | zero =>
   intro i k C q hi J
   obtain ⟨k,rfl⟩:∃E,k=E+1:=⟨k - 1,by omega⟩
   obtain rfl:i=d.Defs.length:=by omega
   simp only [zEW]
   rw [zAN (by simp),kK,zAj]
   unfold rdF
   have e:∀m:Nat,(((m:Nat):Int)==(d.Defs.length:Int))=decide (m=d.Defs.length):=fun m=>by
    rw [eW,beq_iff_eq,decide_eq_true_eq];omega
   rw [e]
   by_cases G:q.length=d.Defs.length
   ·rw [iP (by omega),decide_eq_true G];rfl
   ·rw [iN (by omega),decide_eq_false G];rfl
  | succ j K =>
   intro i k C q hi J
   obtain ⟨k,rfl⟩:∃E,k=E+1:=⟨k - 1,by omega⟩
   have h:i<d.Defs.length:=by omega
   simp only [zEW]
   rw [zAP (by simpa using h),zAT h,zAA,zAj,zaI hfu,zAA,eT h]
   have u:=K (i+1) k (zHV C d.Defs[i].Class (i:Int)) (zHV q d.Defs[i].Name (i:Int)) (by omega) (by omega)
   have I:((i+1:Nat):Int)=(i:Int)+1:=by omega
   rw [I] at u
   have fin:(if defB d.Defs[i]=true then zEW fu d k ((i:Int)+1,zHV C d.Defs[i].Class (i:Int),zHV q d.Defs[i].Name (i:Int)) else some ((⟨zHV q d.Defs[i].Name (i:Int),zHV C d.Defs[i].Class (i:Int)⟩:zCy),false))=some (rdF d.Defs.length (d.Defs[i]::d.Defs.drop (i+1)) i C q):=by
    rw [u]
    simp only [rdF]
    split<;>rfl
   by_cases D:d.Defs[i].Local=d.Defs[i].Name
   ·rw [iP D,zdB hfu (by omega) (by omega) (by rw [show (d.Defs[i].Local==d.Defs[i].Name)=true by simpa using D];rfl)]
    exact fin
   ·rw [iN D,zdB hfu (by omega) (by omega) (by rw [show (d.Defs[i].Local==d.Defs[i].Name)=false by simpa using D];rfl)]
    exact fin
 unfold zLn
 have:=F d.Defs.length 0 fu [] [] (by omega) (by omega)
 simpa using this
def zHZ (d:Desk):zCy×Bool:=rdF d.Defs.length d.Defs 0 [] []
theorem zZT {n:Nat}:∀(l:List Def) (i:Nat) (j:List (Int×Int)) (l4:List (Bs×Int)),i+l.length=n->(∀x∈l4,0<=x.2/\x.2<(n:Int))->∀x∈(rdF n l i j l4).1.names,0<=x.2/\x.2<(n:Int)
 | [],_,_,_,_,h=>h
 | y::t,i,j,l4,hi,h=>by
  simp only [cP] at hi
  have e:∀x∈zHV l4 y.Name (i:Int),0<=x.2/\x.2<(n:Int):=fun x hx=>by
   rcases zUy hx with hx | rfl
   ·exact h x hx
   ·simp only;omega
  simp only [rdF]
  split
  ·exact zZT t (i+1) _ _ (by omega) e
  ·exact e
theorem zO5 {d:Desk} {s:Bs} (h:zK7 (zHZ d).1.names s=true):0<=zLi (zHZ d).1.names s 0/\zLi (zHZ d).1.names s 0<(d.Defs.length:Int) :=
 zZT d.Defs 0 [] [] (by omega) (by simp) _ (zRX h)
def opF (names:List (Bs×Int)) (next:Int):List Wait->Bool->Int->Bool
 | [],ok,_=>ok&&(decide (0<=next)&&decide (next<=100000))
 | y::t,ok,e=>opF names next t (ok&&(!zK7 names y.Name&&(zEP y.Name&&(decide (e<y.Ticket)&&decide (y.Ticket<next))))) y.Ticket
def zMd (d:Desk):Bool:=opF (zHZ d).1.names d.Next d.Waits (zHZ d).2 (-1)
theorem zX8 {fu:Nat} {d:Desk} (hfu:1000<fu) (hl:d.Defs.length<=900) (hw:d.Waits.length<=900):zIC fu d=some ((zHZ d).1,zMd d):=by
 have E:∀(j i k:Nat) (ok:Bool) (e:Int),i+j=d.Waits.length->j<k->zDm fu d (zHZ d) k (ok,e,(i:Int))=some ((zHZ d).1,opF (zHZ d).1.names d.Next (d.Waits.drop i) ok e):=by
  intro j
  induction j with
  | zero =>
   intro i k ok e hi F
   obtain ⟨k,rfl⟩:∃D,k=D+1:=⟨k - 1,by omega⟩
   obtain rfl:i=d.Waits.length:=by omega
   simp only [zDm]
   rw [zAN (by simp),kK]
   unfold opF
   cases ok with
   | false=>rfl
   | true =>
    rw [zAO,zAS]
    by_cases u:d.Next>=0
    ·rw [iP u,decide_eq_true (show 0<=d.Next from u)];rfl
    ·rw [iN u,decide_eq_false (show ¬0<=d.Next from u)];rfl
  | succ j G =>
   intro i k ok e hi F
   obtain ⟨k,rfl⟩:∃D,k=D+1:=⟨k - 1,by omega⟩
   have h:i<d.Waits.length:=by omega
   have q:=fun b=>G (i+1) k b d.Waits[i].Ticket (by omega) (by omega)
   simp only [zDm]
   rw [zAP (by simpa using h),zAT h,zAA,zHW (by omega),zAA,zBL (by omega),eT h]
   simp only [zAA,q]
   simp only [opF]
   generalize zK7 (zHZ d).1.names d.Waits[i].Name=m
   cases ok with
   | false=>simp
   | true =>
    cases m with
    | true=>simp
    | false =>
     cases zEP d.Waits[i].Name with
     | false=>simp
     | true =>
      rw [zAO,jL,zAO,zAO,zAS]
      by_cases C:d.Waits[i].Ticket>e
      ·rw [iP C,decide_eq_true (show e<d.Waits[i].Ticket from C)];simp
      ·rw [iN C,decide_eq_false (show ¬e<d.Waits[i].Ticket from C)];simp
 unfold zIC
 rw [zh7 hfu hl,zAA]
 have:=E d.Waits.length 0 fu (zHZ d).2 (-1) (by omega) (by omega)
 simpa [zMd,zHZ] using this
theorem zSE {fu:Nat} {d:Desk} (hfu:1000<fu) (hl:d.Defs.length<=900) (hw:d.Waits.length<=900):zHK fu d=some (zMd d):=by
 unfold zHK
 rw [zX8 hfu hl hw,zAA]
def zPH (d:Desk) (loc e:Bs):Int :=
 if zMd d=true then
  (if zK7 (zHZ d).1.names loc=true/\(idx d.Defs (zLi (zHZ d).1.names loc 0)).map (·.Local)=some loc then zLi (zHZ d).1.names loc 0
  else if zK7 (zHZ d).1.names e=true/\(idx d.Defs (zLi (zHZ d).1.names e 0)).map (·.Local)=some loc then zLi (zHZ d).1.names e 0
  else -1)
 else -1
theorem zgD {fu:Nat} {d:Desk} {loc e:Bs} (hfu:1000<fu) (hl:d.Defs.length<=900) (hw:d.Waits.length<=900):zIB fu d loc e=some (zPH d loc e):=by
 have j1:zIk d loc e ((zHZ d).1,zMd d) ()=some (if zK7 (zHZ d).1.names e=true/\(idx d.Defs (zLi (zHZ d).1.names e 0)).map (·.Local)=some loc then zLi (zHZ d).1.names e 0 else -1):=by
  unfold zIk
  simp only
  cases h:zK7 (zHZ d).1.names e with
  | false=>simp
  | true =>
   obtain ⟨y,hy⟩:=zAK (zO5 h)
   rw [zAO,hy,zAA,zAj]
   simp only [lW,true_and,lJ.injEq]
   split<;>rfl
 unfold zIB zPH
 rw [zX8 hfu hl hw,zAA,j1]
 simp only
 cases i:zMd d with
 | false=>rfl
 | true =>
  rw [iA,zAD,iP rfl]
  cases h:zK7 (zHZ d).1.names loc with
  | false=>simp
  | true =>
   obtain ⟨y,hy⟩:=zAK (zO5 h)
   rw [zAO,hy,zAA,zAj]
   simp only [lW,true_and,lJ.injEq]
   split<;>rfl
theorem zec {d:Desk} {loc e:Bs}:zPH d loc e = -1\/(0<=zPH d loc e/\zPH d loc e<(d.Defs.length:Int)):=by
 unfold zPH
 split
 ·split
  ·rename_i h;exact .inr (zO5 h.1)
  ·split
   ·rename_i h;exact .inr (zO5 h.1)
   ·exact .inl rfl
 ·exact .inl rfl
end
section
theorem zX7 {names:List (Bs×Int)} {next:Int}:∀{ws:List Wait} {ok:Bool} {e:Int},opF names next ws ok e=true->ok=true/\0<=next/\next<=100000
 | [],ok,e,h=>by
  simp only [opF,lM,decide_eq_true_eq] at h
  exact ⟨h.1,h.2.1,h.2.2⟩
 | y::t,ok,e,h=>by
  simp only [opF] at h
  have:=zX7 h
  simp only [lM] at this
  exact ⟨this.1.1,this.2⟩
def zN5 (d:Desk) (s:Bs):Desk×Int×Int×Int :=
 if zMd d=false then (d,-1,-1,1) else if zEP s=false then (d,-1,-1,4) else if d.Next=100000 then (d,-1,-1,3)
 else if zK7 (zHZ d).1.names s=true then (⟨d.Defs,d.Waits,d.Next+1,d.Busy⟩,d.Next,zLi (zHZ d).1.names s 0,0)
 else (⟨d.Defs,d.Waits++[⟨s,d.Next⟩],d.Next+1,d.Busy⟩,d.Next,-1,0)
theorem zeG {fu:Nat} {d:Desk} {s:Bs} (hfu:1000<fu) (hl:d.Defs.length<=900) (hw:d.Waits.length<=900):zKY fu d s=some (zN5 d s):=by
 unfold zKY zN5
 rw [zX8 hfu hl hw,zAA]
 simp only
 cases h:zMd d with
 | false=>rfl
 | true =>
  have q:=(zX7 h).2
  rw [iA,zAD,iN (by simp),zHW (by omega),zAA]
  cases i:zEP s with
  | false=>rfl
  | true =>
   rw [iA,zAD,iN (by simp),zAj]
   by_cases e:d.Next=100000
   ·rw [iP e,iP e]
   ·rw [iN e,iN e,zKG (by simp only [lo,Go.Pw.hi];omega),zAA]
    cases j:zK7 (zHZ d).1.names s with
    | true=>rfl
    | false =>
     rw [zAD,iN (by simp)]
     unfold zFs
     rw [zAi (by simp;omega),zAA,zAA,zAi (by simp;omega),zAA]
     rfl
def zIQ (x:Node) (d:Desk):Int:=if x.Kind=1 then (if x.Doc=0 then zPH d x.Name x.Is else -1) else -1
theorem zPF {d:Desk}:zIQ x d = -1\/(0<=zIQ x d/\zIQ x d<(d.Defs.length:Int)):=by
 unfold zIQ
 split
 ·split
  ·exact zec
  ·exact .inl rfl
 ·exact .inl rfl
theorem zbz {fu:Nat} {d:Desk} (hfu:1000<fu) (hl:d.Defs.length<=900) (hw:d.Waits.length<=900):zJt fu x d=some (zIQ x d):=by
 unfold zJt zIQ
 rw [zAW,zAW,zgD hfu hl hw,zAA]
 by_cases e:x.Kind=1
 ·rw [iP e,iP e]
  split<;>rfl
 ·rw [iN e,iN e]
theorem zay {fu:Nat} {f:Forest} {d:Desk} (hfu:1000<fu) (hl:d.Defs.length<=900) (hw:d.Waits.length<=900) (hr:zAG f=true):zJs fu f n d=some (match idx f.Nodes n with | some x=>zIQ x d | none => -1):=by
 unfold zJs
 rw [zAS,zAS,zFB hfu ((zAH hr).fit hfu),zAA,hr,iA,zAD]
 by_cases e:n<0
 ·rw [iP e,zCk (by omega)]
 ·rw [iN e]
  by_cases h:n>=(f.Nodes.length:Int)
  ·rw [iP h,zCk (by omega)]
  ·obtain ⟨x,hx⟩:=zAK (l:=f.Nodes) (n:=n) (by omega)
   rw [iN h,hx,zAA,zbz hfu hl hw,zAA]
def zQp (at_:Int):Todo:=⟨9,at_,[],false,false,[],[],0,0,false⟩
def zPe (d:Desk) (l:List (Int×Node)):List Due:=l.filterMap fun p=>if zIQ p.2 d = -1 then none else some ⟨p.1,zQp (zIQ p.2 d)⟩
theorem zYR {fu:Nat} {d:Desk} (hfu:1000<fu) (hl:d.Defs.length<=900) (hw:d.Waits.length<=900):∀(l:List (Int×Node)) (acc:List Due),acc.length+l.length<=1000000->zFL fu d l acc=some (acc++zPe d l)
 | [],acc,_=>by simp [zFL,zPe]
 | p::l,acc,h=>by
  simp only [cP] at h
  simp only [zFL]
  rw [zbz hfu hl hw,zAA,zAW]
  unfold zPe
  rw [kQ]
  by_cases e:zIQ p.2 d = -1
  ·rw [iP e,iP e,zYR hfu hl hw l acc (by omega)]
   rfl
  ·rw [iN e,iN e,zAi (by simp only [cP,eK];omega),zAA,zYR hfu hl hw l _ (by simp only [eR,cP,eK];omega),eS]
   rfl
def zTE (ns:List Node) (l:List Int):List (Int×Node):=l.filterMap fun k=>match idx ns k with
 | some x=>if x.Kind=1 then some (k,x) else none
 | none=>none
theorem zbp {ns:List Node}:∀{l:List Int},(∀k∈l,InN ns k)->zUg ns l=some (zTE ns l)
 | [],_=>rfl
 | k::l,h=>by
  obtain ⟨x,hx⟩:=zAK (h k (lH ..))
  simp only [zUg]
  rw [hx,zAA,zbp fun j i=>h j (lG _ i),zAA]
  unfold zTE
  rw [kQ,hx]
  by_cases e:x.Kind=1
  ·simp [e]
  ·simp [e]
theorem zfh {fu:Nat} {f:Forest} {d:Desk} (hfu:1000<fu) (hl:d.Defs.length<=900) (hw:d.Waits.length<=900) (hr:zAG f=true) (e:InN f.Nodes n):zKa fu f n d=some (zPe d (zTE f.Nodes (zGl f.Nodes n))):=by
 have hs:=zAH hr
 have h:=hs.few
 have i:=(zAQ hr).all_len e
 unfold zKa zNL
 rw [zAA,zYZ hs hfu hr e,zAA,zbp fun k j=>((zAQ hr).all_in n e k j).1,zAA]
 have:(zTE f.Nodes (zGl f.Nodes n)).length<=(zGl f.Nodes n).length:=kL _ _
 rw [zYR hfu hl hw _ _ (by simp only [eK];omega),iU]
end
section
theorem zAX {i:Nat} (h:i<=1000000000000):rng .i64 ((i:Int)+1)=some ((i+1:Nat):Int):=by
 rw [zKG (by simp only [lo,Go.Pw.hi];omega)]
 rfl
theorem zQ6 {fu:Nat} {t:Bs->Option Bool} {p:Bs->Bool} {l:List (Bs)} (j:∀x∈l,t x=some (p x)) (hf:l.length<fu) (q:l.length<=1000000000):zCZ fu t l=some (l.any p):=by
 unfold zCZ zEv
 obtain ⟨r,e,h⟩:=zG5 (L:=zBQ t l) l p (fun i hi k=>by
  simp only [zBQ]
  rw [zAP (by simpa using hi),zAT hi,zAA,j _ (gC hi),zAA,zAX (by omega),zAA]
  cases p l[i]<;>rfl) (fun k=>by simp only [zBQ];rw [zAN (by simp)]) hf
 rw [e,zAA,h]
theorem zPv {fu:Nat} {t:Hook->Option Bool} {p:Hook->Bool} {l:List (Hook)} (j:∀x∈l,t x=some (p x)) (hf:l.length<fu) (q:l.length<=1000000000):zCH fu t l=some (l.any p):=by
 unfold zCH zEK
 obtain ⟨r,e,h⟩:=zG5 (L:=zBF t l) l p (fun i hi k=>by
  simp only [zBF]
  rw [zAP (by simpa using hi),zAT hi,zAA,j _ (gC hi),zAA,zAX (by omega),zAA]
  cases p l[i]<;>rfl) (fun k=>by simp only [zBF];rw [zAN (by simp)]) hf
 rw [e,zAA,h]
theorem zPB {fu:Nat} {t:Class->Option Bool} {p:Class->Bool} {l:List (Class)} (j:∀x∈l,t x=some (p x)) (hf:l.length<fu) (q:l.length<=1000000000):zB6 fu t l=some (l.any p):=by
 unfold zB6 zEB
 obtain ⟨r,e,h⟩:=zG5 (L:=zA4 t l) l p (fun i hi k=>by
  simp only [zA4]
  rw [zAP (by simpa using hi),zAT hi,zAA,j _ (gC hi),zAA,zAX (by omega),zAA]
  cases p l[i]<;>rfl) (fun k=>by simp only [zA4];rw [zAN (by simp)]) hf
 rw [e,zAA,h]
theorem zQ4 {fu:Nat} {t:Def->Option Bool} {p:Def->Bool} {l:List (Def)} (j:∀x∈l,t x=some (p x)) (hf:l.length<fu) (q:l.length<=1000000000):zCX fu t l=some (l.any p):=by
 unfold zCX zEu
 obtain ⟨r,e,h⟩:=zG5 (L:=zBP t l) l p (fun i hi k=>by
  simp only [zBP]
  rw [zAP (by simpa using hi),zAT hi,zAA,j _ (gC hi),zAA,zAX (by omega),zAA]
  cases p l[i]<;>rfl) (fun k=>by simp only [zBP];rw [zAN (by simp)]) hf
 rw [e,zAA,h]
theorem zPx {fu:Nat} {t:Todo->Option Bool} {p:Todo->Bool} {l:List (Todo)} (j:∀x∈l,t x=some (p x)) (hf:l.length<fu) (q:l.length<=1000000000):zCJ fu t l=some (l.any p):=by
 unfold zCJ zEM
 obtain ⟨r,e,h⟩:=zG5 (L:=zBH t l) l p (fun i hi k=>by
  simp only [zBH]
  rw [zAP (by simpa using hi),zAT hi,zAA,j _ (gC hi),zAA,zAX (by omega),zAA]
  cases p l[i]<;>rfl) (fun k=>by simp only [zBH];rw [zAN (by simp)]) hf
 rw [e,zAA,h]
theorem zPw {fu:Nat} {t:Task->Option Bool} {p:Task->Bool} {l:List (Task)} (j:∀x∈l,t x=some (p x)) (hf:l.length<fu) (q:l.length<=1000000000):zCI fu t l=some (l.any p):=by
 unfold zCI zEL
 obtain ⟨r,e,h⟩:=zG5 (L:=zBG t l) l p (fun i hi k=>by
  simp only [zBG]
  rw [zAP (by simpa using hi),zAT hi,zAA,j _ (gC hi),zAA,zAX (by omega),zAA]
  cases p l[i]<;>rfl) (fun k=>by simp only [zBG];rw [zAN (by simp)]) hf
 rw [e,zAA,h]
theorem zPA {fu:Nat} {t:Build->Option Bool} {p:Build->Bool} {l:List (Build)} (j:∀x∈l,t x=some (p x)) (hf:l.length<fu) (q:l.length<=1000000000):zB5 fu t l=some (l.any p):=by
 unfold zB5 zEA
 obtain ⟨r,e,h⟩:=zG5 (L:=zA3 t l) l p (fun i hi k=>by
  simp only [zA3]
  rw [zAP (by simpa using hi),zAT hi,zAA,j _ (gC hi),zAA,zAX (by omega),zAA]
  cases p l[i]<;>rfl) (fun k=>by simp only [zA3];rw [zAN (by simp)]) hf
 rw [e,zAA,h]
theorem zQ5 {fu:Nat} {t:Due->Option Bool} {p:Due->Bool} {l:List (Due)} (j:∀x∈l,t x=some (p x)) (hf:l.length<fu) (q:l.length<=1000000000):zCY fu t l=some (l.any p):=by
 unfold zCY zA2
 obtain ⟨r,e,h⟩:=zG5 (L:=zAc t l) l p (fun i hi k=>by
  simp only [zAc]
  rw [zAP (by simpa using hi),zAT hi,zAA,j _ (gC hi),zAA,zAX (by omega),zAA]
  cases p l[i]<;>rfl) (fun k=>by simp only [zAc];rw [zAN (by simp)]) hf
 rw [e,zAA,h]
end
section
def inL (l:Line) (n:Int):Bool:=decide (0<=n)&&decide (n<(l.Todos.length:Int))
def zHw (l:Line):Bool:=(l.Stack++[l.Back]).all fun e=>e.all (inL l)
structure LS (B:Nat) (l:Line):Prop where
 todos:l.Todos.length<=B
 todo:∀t∈l.Todos,t.length<=B
 stack:l.Stack.length<=B
 lists:∀t∈l.Stack,t.length<=B
 back:l.Back.length<=B
theorem LS.mono {B C:Nat} (h:LS B l) (e:B<=C):LS C l:=⟨eM h.todos e,fun t i=>eM (h.todo t i) e,eM h.stack e,fun t i=>eM (h.lists t i) e,eM h.back e⟩
section
variable {fu B:Nat} (hB:B<=1000000000) (hfu:B+1<fu)
include hB
omit hB in
theorem in_ok:zMn fu l n=some (inL l n):=by
 unfold zMn inL
 rw [zAS]
 by_cases h:n>=0
 ·rw [iP h,decide_eq_true (show 0<=n from h),iD]
 ·rw [iN h,decide_eq_false (show ¬0<=n from h),jD]
omit hB in
theorem zYj {l:List (List Int)} (h:l.length<=1000000000):zD9 fu l=some l:=by
 unfold zD9
 rw [zAi (by simp;omega),zAA,iU]
omit hB in
theorem zeM {l:List (List Todo)} (h:l.length<=1000000000):zDe fu l=some l:=by
 unfold zDe
 rw [zAi (by simp;omega),zAA,iU]
omit hB in
theorem zbU {l:List Int} (h:l.length<=1000000000):zBf fu l=some l:=by
 unfold zBf
 rw [zAi (by simp;omega),zAA,iU]
omit hB in
theorem zg3 {l:List Todo} (h:l.length<=1000000000):zEG fu l=some l:=by
 unfold zEG
 rw [zAi (by simp;omega),zAA,iU]
omit hB in
theorem zbW {l:List State} (h:l.length<=1000000000):zCg fu l=some l:=by
 unfold zCg
 rw [zAi (by simp;omega),zAA,iU]
omit hB in
theorem zbV {l:List Task} (h:l.length<=1000000000):zCz fu l=some l:=by
 unfold zCz
 rw [zAi (by simp;omega),zAA,iU]
include hfu
theorem zfT {t:Nat} {y:List Int} {rc:Int->Option Bool} (hy:y.length<=B) (e:t<=B):zFU fu l (t:Int) y rc fu 0=bif y.all (inL l) then rc ((t+1:Nat):Int) else some false:=by
 refine zLg (L:=zFU fu l (t:Int) y rc) y (inL l) (rc ((t+1:Nat):Int)) (fun i hi k=>?_) (fun k=>?_) (by omega)
 ·simp only [zFU]
  rw [zAP (by simpa using hi),zAT hi,zAA,in_ok,zAA,zAX (by omega),zAA]
  cases inL l y[i]<;>rfl
 ·simp only [zFU]
  rw [zAN (by simp),zAX (by omega),zAA]
theorem zWP (h:LS B l):zIm fu l=some (zHw l):=by
 have hst:=h.stack
 unfold zIm zHw
 rw [zYj (by omega),zAA,zAi (by simp only [cP,eK];omega),zAA]
 refine (zLg (L:=zFT fu l l.Stack) (l.Stack++[l.Back]) (fun q=>q.all (inL l)) (some true) (fun i hi k=>?_) (fun k=>?_) (by simp;omega)).trans ?_
 ·have hy:(l.Stack++[l.Back])[i].length<=B:=by
   rcases cA.1 (gC hi) with j | j
   ·exact h.lists _ j
   ·rw [e8.1 j];exact h.back
  have e:i<=B:=by simp at hi;omega
  simp only [zFT]
  rw [zAP (decide_eq_true (Int.ofNat_lt.2 hi)),zAT hi,zAA,zfT hB hfu hy e]
 ·simp only [zFT]
  rw [zAN (by simp)]
 ·cases (l.Stack++[l.Back]).all fun q=>q.all (inL l)<;>rfl
omit hfu in
theorem own_l (h:LS B l):zLA fu l=some l:=by
 have:=h.todos
 have:=h.stack
 have:=h.back
 unfold zLA
 rw [zeM (by omega),zAA,zYj (by omega),zAA,zbU (by omega),zAA]
def zhS (l:Line):Line:=⟨l.Todos++[[]],l.Stack,l.Back,l.Busy⟩
omit hfu in
theorem zhT (h:LS B l):zJu fu l=some (zhS l):=by
 have:=h.todos
 unfold zJu
 rw [own_l hB h,zAA,zAi (by simp only [cP,eK];omega),zAA]
 rfl
def zRF (l:Line) (n:Int) (t:Todo):Line×Bool :=
 if l.Stack=[] then (⟨l.Todos.set n.toNat ((l.Todos[n.toNat]?).getD []++[t]),l.Stack,l.Back++[n],true⟩,!l.Busy)
 else (⟨l.Todos.set n.toNat ((l.Todos[n.toNat]?).getD []++[t]),l.Stack.set (l.Stack.length - 1) ((l.Stack[l.Stack.length - 1]?).getD []++[n]),l.Back,l.Busy⟩,false)
theorem add_ok (h:LS B l) {n:Int} {t:Todo} (hr:zHw l=true) (j:inL l n=true):zNE fu l n t=some ((zRF l n t).1,(zRF l n t).2,0):=by
 have C:=h.todos
 have D:=h.stack
 have E:=h.back
 unfold inL at j
 simp only [lM,decide_eq_true_eq] at j
 obtain ⟨i,rfl⟩:∃i:Nat,n=(i:Int):=⟨n.toNat,by omega⟩
 have hi:i<l.Todos.length:=by omega
 have e:inL l (i:Int)=true:=by unfold inL;simp only [lM,decide_eq_true_eq];omega
 have F:=h.todo _ (gC hi)
 unfold zNE zRF
 rw [zWP hB hfu h,zAA,hr,iA,zAD,in_ok,zAA,e,iA,zAD,own_l hB h,zAA,zAT hi,zAA,zg3 (by omega),zAA,zAi (by simp only [cP,eK];omega),zAA,zAA,
  zKG (by simp only [lo,Go.Pw.hi];omega),zAA,eO,lC hi,cM,zAS]
 by_cases hs:l.Stack=[]
 ·rw [iN (by rw [hs];simp),iP hs,zAi (by simp only [cP,eK];omega),zAA]
 ·have q:0<l.Stack.length:=List.length_pos_iff.2 hs
  have u:(l.Stack.length:Int) - 1=((l.Stack.length - 1:Nat):Int):=by omega
  have hl:l.Stack.length - 1<l.Stack.length:=by omega
  have G:=h.lists _ (gC hl)
  rw [iP (by omega),iN hs,u,zAT hl,zAA,zbU (by omega),zAA,zAi (by simp only [cP,eK];omega),zAA,zAA,eO,lC hl,cM]
end
theorem zO1:(zRF l n t).1.Todos.length=l.Todos.length:=by
 unfold zRF;split<;>simp
theorem zRR {m:Line} (h:m.Todos.length=l.Todos.length):inL m=inL l:=by
 funext n;unfold inL;rw [h]
theorem zTM (hr:zHw l=true) (j:inL l n=true):zHw (zRF l n t).1=true:=by
 unfold zHw at hr ⊢
 rw [zRR zO1]
 rw [lR] at hr ⊢
 intro q i
 unfold zRF at i
 split at i
 ·simp only [cA,e8] at i
  rcases i with h | rfl
  ·exact hr q (by simp [h])
  ·rw [kY,hr l.Back (by simp)]
   simp [j]
 ·simp only [cA,e8] at i
  rcases i with h | rfl
  ·rcases dT h with h | rfl
   ·exact hr q (by simp [h])
   ·rw [kY]
    have:(((l.Stack[l.Stack.length - 1]?).getD []).all (inL l))=true:=by
     cases e:l.Stack[l.Stack.length - 1]? with
     | none=>rfl
     | some a=>exact hr a (by simp [lU e])
    rw [this];simp [j]
  ·exact hr l.Back (by simp)
theorem zTN {B:Nat} (h:LS B l):LS (B+1) (zRF l n t).1:=by
 have q:=h.todos
 have u:=h.stack
 have C:=h.back
 have j:((l.Todos[n.toNat]?).getD []).length<=B:=by
  cases e:l.Todos[n.toNat]? with
  | none=>simp
  | some a=>exact h.todo a (lU e)
 have i:∀x∈l.Todos.set n.toNat ((l.Todos[n.toNat]?).getD []++[t]),x.length<=B+1:=fun x hx=>by
  rcases dT hx with hx | rfl
  ·have:=h.todo x hx;omega
  ·simp only [eR,cP,eK];omega
 unfold zRF
 split
 ·exact ⟨by simp;omega,i,by simp only;omega,fun x hx=>by have:=h.lists x hx;omega,by simp;omega⟩
 ·refine ⟨by simp;omega,i,by simp;omega,fun x hx=>?_,by simp only;omega⟩
  rcases dT hx with hx | rfl
  ·have:=h.lists x hx;omega
  ·simp only [eR,cP,eK]
   have:((l.Stack[l.Stack.length - 1]?).getD []).length<=B:=by
    cases e:l.Stack[l.Stack.length - 1]? with
    | none=>simp
    | some a=>exact h.lists a (lU e)
   omega
end
section
def zcC (h:Hook):Bool:=decide (1<=h.Kind)&&(decide (h.Kind<=8)&&decide (h.Do.length<=60))
def zIg (c:Class):Bool:=decide (c.Watch.length<=12)&&(c.Watch.all zXo&&(decide (c.Hooks.length<=12)&&(c.Hooks.all zcC&&(decide (c.Peek.length<=60)&&decide (c.Make.length<=60)))))
theorem zXz {fu:Nat} {l:List Op}:zHU fu l=some (!(decide (l.length<=60))):=by
 unfold zHU
 congr 1
 by_cases h:l.length<=60
 ·rw [decide_eq_true h,decide_eq_false (by omega)];rfl
 ·rw [decide_eq_false h,decide_eq_true (by omega)];rfl
theorem zGI {e : Type} (l:List e) (p : e -> Bool):(l.any fun x => !(p x)) = !(l.all p):=by
 rw [List.all_eq_not_any_not,kI]
theorem zZv {fu:Nat} {c:Class} (hfu:1000<fu):zHu fu c=some (zIg c):=by
 unfold zHu zIg
 rw [zAS]
 by_cases j:c.Watch.length<=12
 ·rw [iP (by omega),decide_eq_true j,iD]
  rw [zQ6 (p:=fun s => !(zXo s)) (fun s _=>by
   unfold zDu zXo
   rw [zSN (by omega),zAA]
   cases zF1 s with
   | false=>rfl
   | true =>
    simp only [if_true,iD]
    cases s.map zGc==s<;>rfl) (by omega) (by omega),zAA,zGI,kI]
  cases c.Watch.all zXo with
  | false=>rfl
  | true =>
   rw [zAO,iD,zAS]
   by_cases q:c.Hooks.length<=12
   ·rw [iP (by omega),decide_eq_true q,iD]
    rw [zPv (p:=fun h => !(zcC h)) (fun h _=>by
     unfold zDv zcC
     rw [zAS,zAS,zXz,zAA]
     by_cases e:h.Kind<1
     ·rw [iP e,decide_eq_false (show ¬1<=h.Kind by omega)];rfl
     ·rw [iN e,decide_eq_true (show 1<=h.Kind by omega)]
      by_cases i:h.Kind>8
      ·rw [iP i,decide_eq_false (show ¬h.Kind<=8 by omega)];rfl
      ·rw [iN i,decide_eq_true (show h.Kind<=8 by omega)];rfl) (by omega) (by omega),zAA,zGI,kI,zXz,zXz,zAA,zAA]
    cases c.Hooks.all zcC with
    | false=>rfl
    | true =>
     cases decide (c.Peek.length<=60) with
     | false=>rfl
     | true=>simp
   ·rw [iN (by omega),decide_eq_false q];rfl
 ·rw [iN (by omega),decide_eq_false j];rfl
def zL6 (w:World):Bool:=decide (w.Classes.length<=12)&&(w.Classes.all zIg&&w.Desk.Defs.all fun d=>decide (d.Class<(w.Classes.length:Int)))
theorem zZ7 {fu:Nat} {w:World} (hfu:1000<fu) (hl:w.Desk.Defs.length<=900):zEg fu ⟨w⟩=some (zL6 w):=by
 unfold zEg zL6
 simp only
 rw [zAS]
 by_cases e:w.Classes.length<=12
 ·rw [iP (by omega),decide_eq_true e,iD,zPB (p:=fun c => !(zIg c)) (fun c _=>by unfold zBx;rw [zZv hfu,zAA]) (by omega) (by omega),zAA,zGI,kI,
   zQ4 (p:=fun d => !(decide (d.Class<(w.Classes.length:Int)))) (fun d _=>by
    unfold zBy
    simp only
    congr 1
    by_cases h:d.Class<(w.Classes.length:Int)
    ·rw [decide_eq_true h,decide_eq_false (by omega)];rfl
    ·rw [decide_eq_false h,decide_eq_true (by omega)];rfl) (by omega) (by omega),zAA,zGI,kI]
  cases w.Classes.all zIg<;>rfl
 ·rw [iN (by omega),decide_eq_false e];rfl
def ltI (n:Nat) (k:Int):Bool:=decide (0<=k)&&decide (k<(n:Int))
theorem zX1 (n:Nat) (k:Int):cnd (decide (k>=0)) (some (decide (k<((n:Nat):Int)))) (some false)=some (ltI n k):=by
 unfold ltI
 rw [zAS]
 by_cases h:k>=0
 ·rw [iP h,decide_eq_true (show 0<=k from h),iD]
 ·rw [iN h,decide_eq_false (show ¬0<=k from h),jD]
theorem zKB {n:Nat} {k:Int}:ltI n k=true↔0<=k/\k<(n:Int):=by
 unfold ltI;simp
def zIY (e:Nat) (t:Todo):Bool:=(decide (1<=t.Kind)&&decide (t.Kind<9))||(t.Kind==9&&ltI e t.Def)
def zMT (h e:Nat) (x:Node) (s:State):Bool :=
 if x.Kind=1 then (s.Owner == -1||ltI h s.Owner)&&(if s.Phase=2\/s.Phase=3 then ltI e s.Def else if s.Phase=0\/s.Phase=1\/s.Phase=4 then s.Def == -1||ltI e s.Def else false)
 else zSJ s ⟨0,-1,-1,false⟩
def zW1 (e:Nat) (t:Task):Bool:=(t.Kind==1&&(t.Ticket==0&&t.Def==0))||(t.Kind==2&&(decide (0<=t.Ticket)&&ltI e t.Def))
def zO6 (ns:List Node) (e:Nat) (b:Build):Bool:=ltI e b.Def&&(b.Node == -4||isB ns b.Node 1)
section
variable {fu:Nat} {w:World}
theorem zSx (k:Int):zCS fu ⟨w⟩ k=some (ltI w.Desk.Defs.length k):=zX1 _ _
theorem zVX (k:Int):zEi fu ⟨w⟩ k=some (ltI w.Forest.Nodes.length k):=zX1 _ _
theorem zZn (t:Todo):zEj fu ⟨w⟩ t=some (zIY w.Desk.Defs.length t):=by
 unfold zEj zIY
 rw [zSx,zAA,zAS,zAS,zAj]
 by_cases e:t.Kind>=1
 ·rw [iP e,decide_eq_true (show 1<=t.Kind from e),iD]
  by_cases h:t.Kind<9
  ·rw [iP h,decide_eq_true h,Bool.true_or]
  ·rw [iN h,decide_eq_false h,e9]
   by_cases i:t.Kind=9
   ·rw [iP i,i];rfl
   ·rw [iN i,show (t.Kind==9)=false by simpa using i];rfl
 ·rw [iN e,iN (by omega),decide_eq_false (show ¬1<=t.Kind from e),show (t.Kind==9)=false by simp;omega];rfl
theorem zdv {s:State} (hs:idx w.States n=some s) (hx:idx w.Forest.Nodes n=some x):zFf fu ⟨w⟩ n=some (zMT w.Forest.Nodes.length w.Desk.Defs.length x s):=by
 have j3:∀o t,zCu fu ⟨w⟩ s o t=some (t&&(o&&(s.Def == -1||ltI w.Desk.Defs.length s.Def))):=fun o t=>by
  unfold zCu
  rw [zSx,zAA]
  cases t<;>cases o<;>cases s.Def == -1<;>rfl
 have j2:∀o t,zDa fu ⟨w⟩ s o t=some (if t=true then o&&ltI w.Desk.Defs.length s.Def else o&&((s.Phase==0||(s.Phase==1||s.Phase==4))&&(s.Def == -1||ltI w.Desk.Defs.length s.Def))):=fun o t=>by
  unfold zDa
  rw [zSx,zAA,j3,j3,j3]
  cases t with
  | true=>cases o<;>rfl
  | false =>
   cases s.Phase==0<;>cases s.Phase==1<;>cases s.Phase==4<;>cases o<;>rfl
 have j1:∀o,zDZ fu ⟨w⟩ s o=some (o&&(if s.Phase=2\/s.Phase=3 then ltI w.Desk.Defs.length s.Def else if s.Phase=0\/s.Phase=1\/s.Phase=4 then s.Def == -1||ltI w.Desk.Defs.length s.Def else false)):=fun o=>by
  unfold zDZ
  rw [j2,j2,zAj]
  by_cases e:s.Phase=2
  ·rw [iP e,iP (by simpa using e),iP (.inl e)]
  ·rw [iN e]
   by_cases j:s.Phase=3
   ·rw [iP (by simpa using j),iP (.inr j)]
   ·rw [iN (by simpa using j),iN (by omega)]
    by_cases q:s.Phase=0
    ·rw [q];simp
    ·by_cases u:s.Phase=1
     ·rw [u];simp
     ·by_cases C:s.Phase=4
      ·rw [C];simp
      ·rw [iN (by omega),show (s.Phase==0)=false by simpa using q,show (s.Phase==1)=false by simpa using u,show (s.Phase==4)=false by simpa using C]
       simp
 unfold zFf zMT
 simp only
 rw [hs,zAA,hx,zAA,zAW,j1,zVX,zAA,j1,zAj]
 by_cases h:x.Kind=1
 ·rw [iP h,iP h]
  by_cases i:s.Owner = -1
  ·rw [iP i,i];rfl
  ·rw [iN i,show (s.Owner == -1)=false by simpa using i,e9]
 ·rw [iN h,iN h]
theorem zfw (t:Task):zF0 fu ⟨w⟩ t=some (zW1 w.Desk.Defs.length t):=by
 unfold zF0 zW1
 rw [zSx,zAA,zAj,zAj,zAj,zAS]
 by_cases h:t.Kind=1
 ·rw [iP h,h]
  by_cases e:t.Ticket=0
  ·rw [iP e,e];simp
  ·rw [iN e,show (t.Ticket==0)=false by simpa using e];rfl
 ·rw [iN h,show (t.Kind==1)=false by simpa using h,jD,e9]
  by_cases e:t.Kind=2
  ·rw [iP e,e]
   by_cases i:t.Ticket>=0
   ·rw [iP i,decide_eq_true (show 0<=t.Ticket from i)];rfl
   ·rw [iN i,decide_eq_false (show ¬0<=t.Ticket from i)];rfl
  ·rw [iN e,show (t.Kind==2)=false by simpa using e];rfl
theorem zda (b:Build):zFe fu ⟨w⟩ b=some (zO6 w.Forest.Nodes w.Desk.Defs.length b):=by
 have j1:∀e,zDY fu ⟨w⟩ b e=some (ltI w.Desk.Defs.length b.Def&&(b.Node == -4||e)):=fun e=>by
  unfold zDY
  rw [zSx,zAA]
  cases ltI w.Desk.Defs.length b.Def<;>cases b.Node == -4<;>rfl
 unfold zFe zO6
 rw [zVX,zAA,j1]
 cases h:ltI w.Forest.Nodes.length b.Node with
 | true =>
  obtain ⟨x,hx⟩:=zAK (zKB.1 h)
  rw [zAO]
  simp only
  rw [hx,zAA,j1]
  unfold isB
  rw [hx]
 | false =>
  have:idx w.Forest.Nodes b.Node=none:=zCk fun i=>by
   have:=zKB.2 i
   rw [h] at this;cases this
  rw [zAD]
  unfold isB
  rw [this]
end
structure WS (B:Nat) (w:World):Prop where
 line:LS B w.Line
 tasks:w.Tasks.length<=B
 builds:w.Builds.length<=B
 defs:w.Desk.Defs.length<=900
 waits:w.Desk.Waits.length<=900
 kids:∀x∈w.Forest.Nodes,x.Kids.length<=2000
 states:w.States.length<=B
def zgO (w:World) (i:Nat):Bool:=(match w.States[i]?,w.Forest.Nodes[i]? with | some s,some x=>zMT w.Forest.Nodes.length w.Desk.Defs.length x s | _,_=>false)&&((w.Line.Todos[i]?).getD []).all (zIY w.Desk.Defs.length)
def zUA (w:World):Bool:=decide (w.States.length=w.Forest.Nodes.length)&&(decide (w.Line.Todos.length=w.Forest.Nodes.length)&&(zL6 w&&(zAG w.Forest&&(zMd w.Desk&&(zHw w.Line&&((cW w.Line.Todos.length).all (zgO w)&&(w.Tasks.all (zW1 w.Desk.Defs.length)&&w.Builds.all (zO6 w.Forest.Nodes w.Desk.Defs.length))))))))
theorem zS0 {fu B:Nat} {w:World} (h:WS B w) (hB:B<=1000000000) (hfu:B+10000<fu):zDA fu ⟨w⟩=some (zUA w):=by
 have hl:=h.line.todos
 have q:zEq fu w.Forest.Nodes:=fun x hx=>by have:=h.kids x hx;omega
 have fin:zB3 fu ⟨w⟩ fu 0=(bif (cW w.Line.Todos.length).all (zgO w) then some (w.Tasks.all (zW1 w.Desk.Defs.length)&&w.Builds.all (zO6 w.Forest.Nodes w.Desk.Defs.length)) else some false)\/w.States.length≠w.Forest.Nodes.length\/w.Line.Todos.length≠w.Forest.Nodes.length:=by
  by_cases e:w.States.length=w.Forest.Nodes.length
  ·by_cases j:w.Line.Todos.length=w.Forest.Nodes.length
   ·left
    refine zOl (L:=zB3 fu ⟨w⟩) w.Line.Todos.length (zgO w) (some (w.Tasks.all (zW1 w.Desk.Defs.length)&&w.Builds.all (zO6 w.Forest.Nodes w.Desk.Defs.length))) (fun i hi k=>?_) (fun k=>?_) (by omega)
    ·have hs:i<w.States.length:=by omega
     have hx:i<w.Forest.Nodes.length:=by omega
     have D:=h.line.todo _ (gC hi)
     simp only [zB3]
     rw [zAP (by simpa using hi),zAT hi,zAA,zdv (zAT hs) (zAT hx),zAA,zPx (p:=fun t => !(zIY w.Desk.Defs.length t)) (fun t _=>by unfold zCT;rw [zZn,zAA]) (by omega) (by omega),zAA,zGI,zAX (by omega),zAA]
     unfold zgO
     rw [lC hs,lC hx,lC hi,cM]
     simp only
     cases zMT w.Forest.Nodes.length w.Desk.Defs.length w.Forest.Nodes[i] w.States[i] with
     | false=>rfl
     | true=>cases w.Line.Todos[i].all (zIY w.Desk.Defs.length)<;>rfl
    ·have u:=h.tasks
     have C:=h.builds
     simp only [zB3]
     rw [zAN (by simp),zPw (p:=fun t => !(zW1 w.Desk.Defs.length t)) (fun t _=>by unfold zCU;rw [zfw,zAA]) (by omega) (by omega),zAA,zGI,kI,
      zPA (p:=fun t => !(zO6 w.Forest.Nodes w.Desk.Defs.length t)) (fun t _=>by unfold zCV;rw [zda,zAA]) (by omega) (by omega),zAA,zGI,kI]
     cases w.Tasks.all (zW1 w.Desk.Defs.length)<;>rfl
   ·exact .inr (.inr j)
  ·exact .inr (.inl e)
 unfold zDA zUA
 simp only
 rw [zAW,zAW,zZ7 (by omega) h.defs,zAA,zFB (by omega) q,zAA,zSE (by omega) h.defs h.waits,zAA,zWP hB (by omega) h.line,zAA]
 by_cases e:w.States.length=w.Forest.Nodes.length
 ·rw [iP (by omega),decide_eq_true e,iD]
  by_cases j:w.Line.Todos.length=w.Forest.Nodes.length
  ·rw [iP (by omega),decide_eq_true j,iD]
   have:=fin.resolve_right (by omega)
   rw [this]
   cases zL6 w with
   | false=>rfl
   | true =>
    cases zAG w.Forest with
    | false=>rfl
    | true =>
     cases zMd w.Desk with
     | false=>rfl
     | true =>
      cases zHw w.Line with
      | false=>rfl
      | true=>cases (cW w.Line.Todos.length).all (zgO w)<;>rfl
  ·rw [iN (by omega),decide_eq_false j];rfl
 ·rw [iN (by omega),decide_eq_false e];rfl
theorem zVn {fu B:Nat} {w:World} (h:WS B w) (hB:B<=1000000000) (hfu:B+10000<fu):zGW fu w=some (zUA w):=by
 unfold zGW
 rw [zS0 h hB hfu,zAA]
end
section
theorem zZA [DecidableEq κ] {l:List (κ × ν)} {k : κ}:zK7 l k=true↔k∈l.map (·.1):=by
 unfold zK7
 induction l with
 | nil=>simp [zIS]
 | cons x l j =>
  simp only [zIS,lT,List.mem_cons]
  by_cases h:x.1=k
  ·simp [h]
  ·rw [iN h,Option.isSome_map,j]
   exact ⟨.inr,fun i=>i.resolve_left fun e=>h e.symm⟩
theorem zet [DecidableEq κ] {l:List (κ × ν)} {k j : κ} {v : ν}:zK7 (zHV l k v) j=(decide (k=j)||zK7 l j):=by
 rw [eW,dD,decide_eq_true_eq,zZA,zZA]
 rcases zSb l k v with ⟨q,i⟩ | ⟨_,i⟩
 ·rw [i]
  exact ⟨.inr,fun h=>h.elim (fun e=>e▸q) id⟩
 ·rw [i,cA,e8]
  exact ⟨fun h=>h.elim .inr fun e=>.inl e.symm,fun h=>h.elim (fun e=>.inr e.symm) .inl⟩
def zLT (c:Class) (k:Int):Bool:=c.Hooks.any fun h=>h.Kind==k
theorem zcD {c:Class} {k:Int}:∀(i:Nat) (l:List (Int×Hook)),i<=c.Hooks.length->∃j,zGw c i l=some j/\zK7 j k=(zK7 l k||(c.Hooks.take i).any fun h=>h.Kind==k)
 | 0,l,_=>⟨l,rfl,by simp⟩
 | i+1,l,hi=>by
  have h:i<c.Hooks.length:=by omega
  obtain ⟨j,q,u⟩:=zcD (c:=c) (k:=k) i (zHV l c.Hooks[i].Kind c.Hooks[i]) (by omega)
  refine ⟨j,?_,?_⟩
  ·simp only [zGw]
   rw [lC h,zAA,q]
  ·rw [u,zet,iE h,List.any_append]
   have e:(decide (c.Hooks[i].Kind=k))=(c.Hooks[i].Kind==k):=rfl
   simp only [List.any_cons,List.any_nil,Bool.or_false,e]
   cases c.Hooks[i].Kind==k<;>cases zK7 l k<;>simp
theorem zUm {fu:Nat} {c:Class} {k:Int}:zGV fu c k=some (zLT c k):=by
 obtain ⟨i,e,h⟩:=zcD (c:=c) (k:=k) c.Hooks.length [] (cB _)
 unfold zGV zL3
 rw [e,zAA,h,iI]
 simp [zLT,zK7,zIS]
def zRe (c:Class) (s:Bs):Bool:=zLT c 4&&c.Watch.contains s
theorem zam {fu:Nat} {c:Class} {s:Bs} (hfu:1000<fu) (e:c.Watch.length<=12):zHt fu c s=some (zRe c s):=by
 unfold zHt zRe
 rw [zUm,zAA,zKl (by omega) (by omega),zAA]
 cases zLT c 4<;>rfl
def zJ8 (s:State) (defs:List Def) (cs:List Class):Option Class:=match idx defs s.Def with
 | some y=>idx cs y.Class
 | none=>none
def class0:Class:=⟨false,[],[],[],[]⟩
theorem zYi {fu:Nat} {s:State} {d:Desk} {cs:List Class}:zHs fu s d cs=some (match zJ8 s d.Defs cs with | some c=>(c,true) | none=>(class0,false)):=by
 unfold zHs zJ8
 rw [zAS,zAS]
 by_cases e:s.Def<0
 ·rw [iP e,zCk (by omega)];rfl
 ·rw [iN e]
  by_cases h:s.Def>=(d.Defs.length:Int)
  ·rw [iP h,zCk (by omega)];rfl
  ·obtain ⟨y,hy⟩:=zAK (l:=d.Defs) (n:=s.Def) (by omega)
   rw [iN h,hy,zAA,zAS,zAS]
   simp only
   by_cases i:y.Class<0
   ·rw [iP i,zCk (by omega)];rfl
   ·rw [iN i]
    by_cases j:y.Class>=(cs.length:Int)
    ·rw [iP j,zCk (by omega)];rfl
    ·obtain ⟨c,q⟩:=zAK (l:=cs) (n:=y.Class) (by omega)
     rw [iN j,q,zAA]
theorem zXc {s:State} {cs:List Class} {c:Class} (h:zJ8 s defs cs=some c):c∈cs:=by
 unfold zJ8 at h
 split at h
 ·exact zFC h
 ·cases h
theorem zOT {s:State} {cs:List Class}:zJ8 s [] cs=none:=by
 unfold zJ8
 rw [zCk (by simp only [eK];omega)]
def zhi (x:Note):Todo:=⟨x.Kind,0,x.Name,x.Had,x.Has,x.Old,x.New,x.From,x.To,false⟩
def zeB (f:Forest) (st:List State) (d:Desk) (cs:List Class) (x:Note):Option Todo:=match idx st x.Node,idx f.Nodes x.Node with
 | some s,some y=>if s.Phase=1 then (if x.Kind=1/\zIQ y d ≠ -1 then some (zQp (zIQ y d)) else none)
  else if s.Phase=3 then (match zJ8 s d.Defs cs with
   | some c=>if ((x.Kind=4/\zRe c x.Name=true)\/x.Kind=1\/x.Kind=2\/x.Kind=3)/\zLT c x.Kind=true then some (zhi x) else none
   | none=>none)
  else none
 | _,_=>none
section
variable {fu:Nat} {f:Forest} {st:List State} {d:Desk} {cs:List Class} (hfu:1000<fu) (hr:zAG f=true) (hl:d.Defs.length<=900) (hw:d.Waits.length<=900) (hcs:∀c∈cs,c.Watch.length<=12) (hst:st.length=f.Nodes.length)
include hfu hr hl hw hcs hst
theorem zgj {x:Note} (I:InN f.Nodes x.Node):∃r,zFc fu ⟨f,st,d,cs⟩ x=some r/\(if r.2=true then some r.1 else none)=zeB f st d cs x:=by
 obtain ⟨y,hy⟩:=zAK I
 obtain ⟨s,hs⟩:=zAK (l:=st) (n:=x.Node) (by rw [hst];exact I)
 have j1:∀(c:Class) (b ok:Bool),zBb fu x (c,b) ok=some (zhi x,ok&&zLT c x.Kind):=fun c b ok=>by
  unfold zBb
  simp only
  rw [zUm,zAA]
  cases ok<;>rfl
 unfold zFc zeB
 simp only
 rw [hs,zAA,hy,zAj]
 simp only
 by_cases j:s.Phase=1
 ·rw [iP j,iP j,zay hfu hl hw hr,zAA,hy]
  simp only
  rw [zAj]
  by_cases u:x.Kind=1
  ·rw [iP u]
   refine ⟨_,rfl,?_⟩
   simp only
   by_cases hf:zIQ y d = -1
   ·rw [hf];simp
   ·have:(zIQ y d != -1)=true:=by simpa using hf
    rw [this,iP rfl,iP ⟨u,hf⟩];rfl
  ·rw [iN u]
   refine ⟨_,rfl,?_⟩
   simp only
   rw [iN (by simp),iN fun h=>u h.1]
 ·rw [iN j,iN j,zAj]
  by_cases q:s.Phase=3
  ·rw [iP q,iP q,zYi,zAA]
   cases M:zJ8 s d.Defs cs with
   | none =>
    simp only [j1]
    have e:∀t:Todo,∃r,some (t,false)=some r/\(if r.2=true then some r.1 else none)=(none:Option Todo):=fun t=>⟨_,rfl,by simp⟩
    have i:∀(b:Bool) (F G:Option (Todo×Bool)),(∃r,F=some r/\(if r.2=true then some r.1 else none)=(none:Option Todo))->(∃r,G=some r/\(if r.2=true then some r.1 else none)=(none:Option Todo))->∃r,cnd b F G=some r/\(if r.2=true then some r.1 else none)=(none:Option Todo):=fun b F G J K=>by
     cases b
     ·exact K
     ·exact J
    simp only [zAD,jD]
    exact i _ _ _ (e _) (i _ _ _ (i _ _ _ (e _) (e _)) (i _ _ _ (i _ _ _ (e _) (e _)) (i _ _ _ (e _) (e _))))
   | some c =>
    simp only [j1,zam hfu (hcs c (zXc M)),zAA,zAO,iD,zAj]
    by_cases k4:x.Kind=4
    ·rw [iP k4]
     refine ⟨_,rfl,?_⟩
     simp only
     rw [k4]
     cases zRe c x.Name<;>cases zLT c 4<;>simp
    ·rw [iN k4]
     by_cases C:x.Kind=1
     ·rw [iP C,iP C]
      refine ⟨_,rfl,?_⟩
      rw [C]
      cases zLT c 1<;>simp
     ·rw [iN C]
      by_cases D:x.Kind=2
      ·rw [iP D,iP D]
       refine ⟨_,rfl,?_⟩
       rw [D]
       cases zLT c 2<;>simp
      ·rw [iN D]
       by_cases E:x.Kind=3
       ·rw [iP E]
        refine ⟨_,rfl,?_⟩
        rw [E]
        cases zLT c 3<;>simp
       ·rw [iN E]
        refine ⟨_,rfl,?_⟩
        rw [iN (by simp),iN (by omega)]
  ·rw [iN q,iN q]
   exact ⟨_,rfl,by simp⟩
def zQd (f:Forest) (st:List State) (d:Desk) (cs:List Class) (notes:List Note):List Due:=notes.filterMap fun x=>if isB f.Nodes x.Node 1=true then (zeB f st d cs x).map fun t=>⟨x.Node,t⟩ else none
theorem due_ok (P:zMd d=true) (W:notes.length<=100000000) (I:notes.length<fu):zL2 fu f st d cs notes=some (zQd f st d cs notes):=by
 unfold zL2 zMy
 rw [show ((st.length:Int)==(f.Nodes.length:Int))=true by rw [hst];simp,zAO,zFB hfu ((zAH hr).fit hfu),zAA,hr,zAO,zSE hfu hl hw,zAA,P,zAA]
 simp only [iA,zAD]
 have N:∀(j i k:Nat) (q:List Due),i+j=notes.length->j<k->q.length<=i->zFG fu notes (⟨f,st,d,cs⟩,true) k ((i:Int),q)=some (q++zQd f st d cs (notes.drop i)):=by
  intro j
  induction j with
  | zero =>
   intro i k q hi Q _
   obtain ⟨k,rfl⟩:∃M,k=M+1:=⟨k - 1,by omega⟩
   obtain rfl:i=notes.length:=by omega
   simp only [zFG]
   rw [zAN (by simp),kK]
   simp [zQd]
  | succ j K =>
   intro i k q hi Q V
   obtain ⟨k,rfl⟩:∃M,k=M+1:=⟨k - 1,by omega⟩
   have h:i<notes.length:=by omega
   have G:zFd fu ⟨f,st,d,cs⟩ notes[i].Node=some (isB f.Nodes notes[i].Node 1):=by
    unfold zFd isB
    simp only
    rw [zAS,zAS]
    by_cases C:notes[i].Node>=0
    ·rw [iP C]
     by_cases D:notes[i].Node<(f.Nodes.length:Int)
     ·obtain ⟨x,hx⟩:=zAK (l:=f.Nodes) (n:=notes[i].Node) ⟨C,D⟩
      rw [iP D,hx,zAA]
     ·rw [iN D,zCk (by omega)]
    ·rw [iN C,zCk (by omega)]
   have F:zQd f st d cs (notes.drop i)=(match (if isB f.Nodes notes[i].Node 1=true then (zeB f st d cs notes[i]).map (fun t=>(⟨notes[i].Node,t⟩:Due)) else none) with | some u=>[u] | none=>[])++zQd f st d cs (notes.drop (i+1)):=by
    rw [eT h]
    unfold zQd
    rw [kQ]
    split
    ·rename_i e;rw [e];rfl
    ·rename_i e;rw [e];rfl
   simp only [zFG]
   rw [zAP (by simpa using h),zAT h,zAA,G,zAA,F]
   cases E:isB f.Nodes notes[i].Node 1 with
   | false =>
    rw [jL,zAO,zAX (by omega),zAA,K (i+1) k q (by omega) (by omega) (by omega)]
    rfl
   | true =>
    have J:InN f.Nodes notes[i].Node:=by
     unfold isB at E
     cases e:idx f.Nodes notes[i].Node with
     | none=>rw [e] at E;cases E
     | some z=>exact zAI e
    obtain ⟨r,S,T⟩:=zgj hfu hr hl hw hcs hst J
    rw [iA,zAD,S,zAA,iP rfl,<- T]
    cases r.2 with
    | true =>
     rw [zAO,zAi (by simp only [cP,eK];omega),zAA,zAX (by omega),zAA,K (i+1) k _ (by omega) (by omega) (by simp only [eR,cP,eK];omega),eS]
     rfl
    | false =>
     rw [zAD,zAX (by omega),zAA,K (i+1) k q (by omega) (by omega) (by omega)]
     rfl
 have:=N notes.length 0 fu [] (by omega) I (by simp)
 simpa using this
end
theorem zYq {f:Forest} {st:List State} {d:Desk} {cs:List Class}:(zQd f st d cs notes).length<=notes.length:=kL _ _
theorem zhH {f:Forest} {st:List State} {d:Desk} {cs:List Class} {u:Due} (h:u∈zQd f st d cs notes):isB f.Nodes u.Node 1=true/\zIY d.Defs.length u.Todo=true/\∃x∈notes,u.Node=x.Node/\zeB f st d cs x=some u.Todo:=by
 unfold zQd at h
 obtain ⟨x,hx,i⟩:=kM.1 h
 split at i
 ·rename_i j
  obtain ⟨t,e,rfl⟩:=lI.1 i
  refine ⟨j,?_,x,hx,rfl,e⟩
  unfold zeB at e
  split at e
  ·split at e
   ·split at e
    ·rename_i hf
     cases e
     have:=zPF.resolve_left hf.2
     unfold zIY zQp
     simp only [dD,lM]
     right
     exact ⟨rfl,zKB.2 this⟩
    ·cases e
   ·split at e
    ·split at e
     ·split at e
      ·rename_i q
       cases e
       unfold zIY zhi
       simp only [dD,lM,decide_eq_true_eq]
       left
       have:=q.1
       omega
      ·cases e
     ·cases e
    ·cases e
  ·cases e
 ·cases i
end
section
def zau (ns:List Node) (ids:List (Int×List (Bs×Int))):Prop:=∀p∈ids,∀q∈p.2,InN ns q.2
def zQR (ns:List Node) (r:Int):Prop:=r = -1\/InN ns r
theorem zXq {fu:Nat}:∃b,zHP fu x=some b:=by
 unfold zHP
 rw [zAj];split<;>exact ⟨_,rfl⟩
section
variable {fu:Nat} {f:Forest} (hr:zAG f=true) (hfu:1000<fu)
include hr
theorem near_l:∀n,InN f.Nodes n->∀K,(way f.Nodes n).length<K->∃r,zB2 fu f.Nodes K n=some r/\zQR f.Nodes r:=by
 have T:=zBK hr
 refine T.up_ind fun n h C K e=>?_
 obtain ⟨K,rfl⟩:∃j,K=j+1:=⟨K - 1,by omega⟩
 obtain ⟨x,hx⟩:=zAK h
 have q:n ≠ -1:=by unfold InN at h;omega
 obtain ⟨b,u⟩:=zXq (fu:=fu) (x:=x)
 rw [T.way_eq h] at e
 simp only [cP] at e
 simp only [zB2]
 rw [zAW,iN q,hx,zAA,u,zAA,zAA]
 cases b with
 | true=>exact ⟨n,rfl,.inr h⟩
 | false =>
  rw [zAD]
  by_cases i:zHa f.Nodes n = -1
  ·rw [<- zJV hx,i]
   rw [iP i] at e
   obtain ⟨K,rfl⟩:∃j,K=j+1:=⟨K - 1,by simp at e;omega⟩
   simp only [zB2]
   rw [zAW,iP rfl]
   exact ⟨-1,rfl,.inl rfl⟩
  ·rw [<- zJV hx]
   rw [iN i] at e
   exact C i K (by omega)
include hfu
theorem zhe (i:InN f.Nodes n):∃r,zD5 fu f.Nodes n=some r/\zQR f.Nodes r:=by
 have T:=zBK hr
 have h:=(zAH hr).few
 obtain ⟨x,hx⟩:=zAK i
 unfold zD5
 rw [hx,zAA,<- zJV hx]
 by_cases j:zHa f.Nodes n = -1
 ·rw [j]
  obtain ⟨K,rfl⟩:∃q,fu=q+1:=⟨fu - 1,by omega⟩
  simp only [zB2]
  rw [zAW,iP rfl]
  exact ⟨-1,rfl,.inl rfl⟩
 ·have e:=(T.par n i j).1
  have:=(T.way_len e).2
  exact near_l hr _ e fu (by omega)
omit hr in
theorem tree_l {C:Int} (Q:L.length<=1000) (E:∀k∈L,InN f.Nodes k) (J:zau f.Nodes ids):∀(j i K:Nat) (t:List (Bs×Int)),i+j=L.length->j<K->(∀q∈t,InN f.Nodes q.2)->∃I e,zBa fu f.Nodes C ids L K ((i:Int),t)=some (I,e)/\(∀q∈I,InN f.Nodes q.2)/\zau f.Nodes e:=by
 intro j
 induction j with
 | zero =>
  intro i K t hi M u
  obtain ⟨K,rfl⟩:∃D,K=D+1:=⟨K - 1,by omega⟩
  obtain rfl:i=L.length:=by omega
  simp only [zBa]
  rw [zAN (by simp)]
  refine ⟨_,_,rfl,u,fun p N=>?_⟩
  rcases zUy N with h | rfl
  ·exact J p h
  ·exact u
 | succ j F =>
  intro i K t hi M u
  obtain ⟨K,rfl⟩:∃D,K=D+1:=⟨K - 1,by omega⟩
  have h:i<L.length:=by omega
  have G:=E _ (gC h)
  obtain ⟨x,hx⟩:=zAK G
  simp only [zBa]
  rw [zAP (by simpa using h),zAT h,zAA,hx,zAA,zPp (by omega),zAA,zAX (by omega)]
  simp only [zAA]
  cases (zdy x.Attrs [105,100]).2 with
  | false=>exact F (i+1) K t (by omega) (by omega) u
  | true =>
   rw [zAO]
   cases zK7 t (zdy x.Attrs [105,100]).1 with
   | true=>exact F (i+1) K t (by omega) (by omega) u
   | false =>
    refine F (i+1) K _ (by omega) (by omega) fun q P=>?_
    rcases zUy P with h | rfl
    ·exact u q h
    ·exact G
theorem ziT {e:Int} (i:InN f.Nodes e) (u:zau f.Nodes ids):∃t j,zFW fu f.Nodes f.Most e ids=some (t,j)/\(∀q∈t,InN f.Nodes q.2)/\zau f.Nodes j:=by
 have T:=zBK hr
 have hs:=zAH hr
 have C:=hs.few
 unfold zFW
 cases h:zK7 ids e with
 | true=>exact ⟨_,_,rfl,u _ (zRX h),u⟩
 | false =>
  have D:=T.all_len i
  rw [zAD,zUP (f:=⟨f.Nodes,f.Most⟩) hs hfu hr i,zAA]
  exact tree_l hfu (L:=zK6 f.Nodes e) (by omega) (fun k E=>(T.all_in e i k E).1) u (zK6 f.Nodes e).length 0 fu [] (by omega) (by omega) (by simp)
theorem of_ok (h:InN f.Nodes n) (j:zau f.Nodes ids):∃r e,zE8 fu f.Nodes f.Most n ids=some (r,e)/\zQR f.Nodes r/\zau f.Nodes e:=by
 have T:=zBK hr
 have hs:=zAH hr
 obtain ⟨x,hx⟩:=zAK h
 obtain ⟨J,D,q⟩:=zhe hr hfu h
 unfold zE8
 rw [hx,zAA,zAW,zPp (by omega),zAA,D]
 simp only [zAA]
 by_cases u:x.Kind=1
 ·rw [iP u]
  cases (zdy x.Attrs [102,111,114,109]).2 with
  | false=>exact ⟨_,_,rfl,q,j⟩
  | true =>
   rw [iA,zAD,zUF (f:=⟨f.Nodes,f.Most⟩) hs hfu hr h,zAA]
   cases zGm f.Nodes n with
   | false=>exact ⟨_,_,rfl,q,j⟩
   | true =>
    obtain ⟨t,e,E,F,i⟩:=ziT hr hfu (T.root_in h) j
    simp only [iA,zAD]
    rw [za3 (f:=⟨f.Nodes,f.Most⟩) hs hfu hr h,zAA,E,zAA]
    simp only
    cases I:zK7 t (zdy x.Attrs [102,111,114,109]).1 with
    | false=>exact ⟨_,_,rfl,.inl rfl,i⟩
    | true =>
     rw [iA,zAD]
     cases ((zdy x.Attrs [102,111,114,109]).1==([]:Bs)) with
     | true=>exact ⟨_,_,rfl,.inl rfl,i⟩
     | false =>
      have C:=F _ (zRX (z:=0) I)
      obtain ⟨y,hy⟩:=zAK C
      obtain ⟨b,G⟩:=zXq (fu:=fu) (x:=y)
      rw [zAD]
      simp only at hy
      rw [hy,zAA,G,zAA]
      cases b with
      | false=>exact ⟨_,_,rfl,.inl rfl,i⟩
      | true=>exact ⟨_,_,rfl,.inr C,i⟩
 ·rw [iN u]
  exact ⟨_,_,rfl,.inl rfl,j⟩
theorem zcm:∃L,zLq fu f=some L/\L.length=f.Nodes.length/\∀r∈L,zQR f.Nodes r:=by
 have hs:=zAH hr
 have I:=hs.few
 have G:∀(j i K:Nat) (e:List Int) (ids:List (Int×List (Bs×Int))),i+j=f.Nodes.length->j<K->e.length=i->(∀r∈e,zQR f.Nodes r)->zau f.Nodes ids->∃L,zHO fu f ⟨f,[]⟩ K ((i:Int),e,ids)=some L/\L.length=f.Nodes.length/\∀r∈L,zQR f.Nodes r:=by
  intro j
  induction j with
  | zero =>
   intro i K e ids hi Q F u _
   obtain ⟨K,rfl⟩:∃E,K=E+1:=⟨K - 1,by omega⟩
   obtain rfl:i=f.Nodes.length:=by omega
   simp only [zHO]
   rw [zAN (by simp)]
   exact ⟨e,rfl,F,u⟩
  | succ j T =>
   intro i K e ids hi Q F u P
   obtain ⟨K,rfl⟩:∃E,K=E+1:=⟨K - 1,by omega⟩
   have h:i<f.Nodes.length:=by omega
   obtain ⟨r,D,J,M,N⟩:=of_ok hr hfu (n:=(i:Int)) (ids:=ids) ⟨by omega,by omega⟩ P
   simp only [zHO]
   rw [zAP (by simpa using h),J,zAA,zAi (by simp only [cP,eK];omega),zAA,zAX (by omega),zAA]
   refine T (i+1) K (e++[r]) D (by omega) (by omega) (by simp [F]) (fun q C=>?_) N
   rcases cA.1 C with C | C
   ·exact u q C
   ·rw [e8.1 C];exact M
 unfold zLq zIw
 rw [zFB hfu (hs.fit hfu),zAA,hr,iA,zAD,zAA]
 exact G f.Nodes.length 0 fu [] [] (by omega) (by omega) rfl (by simp) (by intro p S;cases S)
omit hr in
theorem zSC:∃b,zF4 fu x=some b:=by
 unfold zF4
 rw [zPp (by omega),zAA,zAj];split<;>exact ⟨_,rfl⟩
theorem zcM (D:InN f.Nodes n):∃r,zJZ fu f n=some r:=by
 have hs:=zAH hr
 obtain ⟨x,hx⟩:=zAK D
 have C:=hs.kids x (zFC hx)
 unfold zJZ
 rw [hx,zAA]
 have E:∀k∈x.Kids,zDH fu k f=some (match idx f.Nodes k with | some y=>y.Kind==1&&y.Name==([108,101,103,101,110,100]:Bs) | none=>false):=fun k u=>by
  obtain ⟨y,hy⟩:=zAK (zcK hr hx u)
  unfold zDH
  rw [hy,zAA,zAA]
  simp only
  cases y.Kind==1<;>rfl
 have hi:zAV fu (fun j=>zDH fu j f) x.Kids=some (zKo x.Kids fun k=>match idx f.Nodes k with | some y=>y.Kind==1&&y.Name==([108,101,103,101,110,100]:Bs) | none=>false):=by
  unfold zAV
  refine zVV (L:=zAM (fun j=>zDH fu j f) x.Kids) x.Kids _ (fun i h k=>?_) (fun k=>?_) (by omega)
  ·simp only [zAM]
   rw [zAP (by simpa using h),zAT h,zAA,E _ (gC h),zAA,zAX (by omega),zAA]
   generalize (match idx f.Nodes x.Kids[i] with | some y=>y.Kind==1&&y.Name==([108,101,103,101,110,100]:Bs) | none=>false)=b
   cases b<;>rfl
  ·simp only [zAM]
   rw [zAN (by simp)]
 rw [hi,zAA,zAS]
 cases e:x.Kids.any (fun k=>match idx f.Nodes k with | some y=>y.Kind==1&&y.Name==([108,101,103,101,110,100]:Bs) | none=>false) with
 | false=>rw [iP (zTs.2 e)];exact ⟨_,rfl⟩
 | true =>
  obtain ⟨i,h,q,_⟩:=zSn e
  rw [iN (by rw [q];omega),q,zAT h,zAA]
  exact ⟨_,rfl⟩
theorem zeH:∀n,InN f.Nodes n->∀(K:Nat) (b:Int),(way f.Nodes n).length<K->∃r,zCd fu f K (b,n)=some r:=by
 have T:=zBK hr
 refine T.up_ind fun n h C K b e=>?_
 obtain ⟨K,rfl⟩:∃j,K=j+1:=⟨K - 1,by omega⟩
 obtain ⟨x,hx⟩:=zAK h
 have q:n ≠ -1:=by unfold InN at h;omega
 obtain ⟨d,u⟩:=zSC (fu:=fu) hfu (x:=x)
 obtain ⟨l,hl⟩:=zcM hr hfu h
 rw [T.way_eq h] at e
 simp only [cP] at e
 have next:∃r,zCd fu f K (n,x.Parent)=some r:=by
  rw [<- zJV hx]
  by_cases i:zHa f.Nodes n = -1
  ·rw [i]
   rw [iP i] at e
   obtain ⟨K,rfl⟩:∃j,K=j+1:=⟨K - 1,by simp at e;omega⟩
   simp only [zCd]
   rw [zAW,iP rfl]
   exact ⟨_,rfl⟩
  ·rw [iN i] at e
   exact C i K n (by omega)
 simp only [zCd]
 rw [zAW,iN q,hx,zAA,u,zAA,hl,zAA,zAA]
 cases x.Name==([102,105,101,108,100,115,101,116]:Bs) with
 | false=>exact next
 | true =>
  rw [zAO]
  cases d with
  | false=>exact next
  | true =>
   rw [zAO,zAW]
   split
   ·exact next
   ·exact ⟨_,rfl⟩
theorem zax (h:InN f.Nodes n):∃r,zHb fu f n=some r:=by
 have T:=zBK hr
 have hs:=zAH hr
 have j:=hs.few
 obtain ⟨x,hx⟩:=zAK h
 obtain ⟨d,C⟩:=zSC (fu:=fu) hfu (x:=x)
 have i:∃r,zJY fu f n=some r:=by
  unfold zJY
  rw [hx,zAA,C,zAA,zAA,zAA,zAA]
  cases d with
  | true=>exact ⟨_,rfl⟩
  | false =>
   rw [zAD,zAW]
   split
   ·rw [<- zJV hx]
    by_cases q:zHa f.Nodes n = -1
    ·rw [q]
     obtain ⟨K,rfl⟩:∃u,fu=u+1:=⟨fu - 1,by omega⟩
     simp only [zCd]
     rw [zAW,iP rfl]
     exact ⟨_,rfl⟩
    ·have e:=(T.par n h q).1
     have:=(T.way_len e).2
     exact zeH hr hfu _ e fu n (by omega)
   ·exact ⟨_,rfl⟩
 obtain ⟨r,i⟩:=i
 unfold InN at h
 unfold zHb
 rw [zAP (decide_eq_true (show n>=0 from h.1)),zAP (decide_eq_true h.2),zFB hfu (hs.fit hfu),zAA,hr,zAO,i,zAA]
 exact ⟨_,rfl⟩
theorem zaR (x:Int):∃L,zHm fu f x=some L/\L.length<=400/\∀r∈L,InN f.Nodes r:=by
 have T:=zBK hr
 have hs:=zAH hr
 have hfew:=hs.few
 have no:∃L,some ([]:List Int)=some L/\L.length<=400/\∀r∈L,InN f.Nodes r:=⟨[],rfl,by simp,by simp⟩
 unfold zHm
 rw [zAS,zAS,zFB hfu (hs.fit hfu),zAA,hr,iA,zAD]
 by_cases h0:x<0
 ·rw [iP h0];exact no
 ·rw [iN h0]
  by_cases h1:x>=(f.Nodes.length:Int)
  ·rw [iP h1];exact no
  ·have hx:InN f.Nodes x:=by unfold InN;omega
   obtain ⟨y,hy⟩:=zAK hx
   obtain ⟨b,hb⟩:=zXq (fu:=fu) (x:=y)
   have G:=T.root_in hx
   have hal:=T.all_len G
   rw [iN h1,hy,zAA,hb,zAA]
   cases b with
   | false=>exact no
   | true =>
    unfold zIw
    rw [iA,zAD,zAA,za3 hs hfu hr hx,zAA,zUP hs hfu hr G,zAA]
    simp only
    have M:∀k ids,InN f.Nodes k->zau f.Nodes ids->∃b e,zBC fu k f.Nodes f.Most x ids=some (b,e)/\zau f.Nodes e:=fun k ids hk E=>by
     obtain ⟨r,e,C,_,g3⟩:=of_ok hr hfu hk E
     unfold zBC
     rw [C,zAA]
     exact ⟨_,_,rfl,g3⟩
    have Q:∀k∈zK6 f.Nodes (zQF f.Nodes x),InN f.Nodes k:=fun k hk=>(T.all_in _ G k hk).1
    generalize zK6 f.Nodes (zQF f.Nodes x)=L at hal Q
    have ix:∀(j i K:Nat) (ids:List (Int×List (Bs×Int))),i+j=L.length->j<K->zau f.Nodes ids->∃r e,zBX (fun N P=>zBC fu N f.Nodes f.Most x P) L K ((i:Int),ids)=some (r,e)/\zau f.Nodes e/\(r = -1\/∃m:Nat,r=(m:Int)/\m<L.length):=by
     intro j
     induction j with
     | zero =>
      intro i K ids hi hK E
      obtain ⟨K,rfl⟩:∃u,K=u+1:=⟨K - 1,by omega⟩
      obtain rfl:i=L.length:=by omega
      simp only [zBX]
      rw [zAN (by simp)]
      exact ⟨_,_,rfl,E,.inl rfl⟩
     | succ j V =>
      intro i K ids hi hK E
      obtain ⟨K,rfl⟩:∃u,K=u+1:=⟨K - 1,by omega⟩
      have h:i<L.length:=by omega
      obtain ⟨b,e,C,D⟩:=M _ ids (Q _ (gC h)) E
      simp only [zBX]
      rw [zAP (by simpa using h),zAT h,zAA,C,zAA,zAX (by omega),zAA]
      cases b with
      | true=>exact ⟨_,_,rfl,D,.inr ⟨i,rfl,h⟩⟩
      | false=>exact V (i+1) K e (by omega) (by omega) D
    have del:∀(d i j K:Nat) (m:List Int) (ids:List (Int×List (Bs×Int))),j+d=m.length->m.length<=400->d<K->i<j->(∀r∈m,InN f.Nodes r)->zau f.Nodes ids->∃W e,zAw (fun N P=>zBC fu N f.Nodes f.Most x P) K ((i:Int),(j:Int),m,ids)=some (W,e)/\W.length<=400/\∀r∈W,InN f.Nodes r:=by
     intro d
     induction d with
     | zero =>
      intro i j K m ids hj S hK hij q _
      obtain ⟨K,rfl⟩:∃u,K=u+1:=⟨K - 1,by omega⟩
      obtain rfl:j=m.length:=by omega
      simp only [zAw]
      rw [zAN (by simp)]
      obtain ⟨I,e2,e3,e4⟩:∃I,zW0 m (i:Int) (0:Int)=some I/\I.length=m.length/\I.take i=m.take i:=by
       unfold zW0
       rw [iP ⟨by omega,by omega⟩]
       refine ⟨_,rfl,?_,?_⟩
       ·simp;omega
       ·rw [eO,iV (by simp;omega),jI,Nat.min_self]
      rw [e2,zAA]
      rw [show piece I 0 (i:Int)=some (I.take i) from by
       unfold piece
       rw [iP ⟨by omega,by omega,by omega⟩]
       simp,zAA,e4]
      exact ⟨_,_,rfl,by simp;omega,fun r F=>q r (List.mem_of_mem_take F)⟩
     | succ d V =>
      intro i j K m ids hj S hK hij q E
      obtain ⟨K,rfl⟩:∃u,K=u+1:=⟨K - 1,by omega⟩
      have h:j<m.length:=by omega
      have hi:i<m.length:=by omega
      obtain ⟨b,e,C,D⟩:=M _ ids (q _ (gC h)) E
      simp only [zAw]
      rw [zAP (by simpa using h),zAT h,zAA,C,zAA,zAT hi,zAA,zAX (by omega),zAX (by omega),eO]
      simp only [zAA]
      cases b with
      | true=>exact V i (j+1) K m e (by omega) S (by omega) (by omega) q D
      | false =>
       refine V (i+1) (j+1) K (m.set i m[j]) e (by simp;omega) (by simpa using S) (by omega) (by omega) (fun r F=>?_) D
       rcases dT F with h' | rfl
       ·exact q r h'
       ·exact q _ (gC h)
    obtain ⟨r,e,C,D,g3⟩:=ix L.length 0 fu [] (by omega) (by omega) (by intro p hp;cases hp)
    have J:∃X,zDG fu (fun N P=>zBC fu N f.Nodes f.Most x P) L []=some X/\X.1.length<=400/\∀k∈X.1,InN f.Nodes k:=by
     unfold zDG zE9
     rw [show ((0:Int),([]:List (Int×List (Bs×Int))))=(((0:Nat):Int),[]) from rfl,C,zAA]
     simp only
     rw [zAj]
     rcases g3 with rfl | ⟨m,rfl,S⟩
     ·rw [iP rfl];exact ⟨_,rfl,by simp only;omega,Q⟩
     ·rw [iN (by omega),zAX (by omega),zAA]
      obtain ⟨W,ids2,k1,k2,k3⟩:=del (L.length - (m+1)) m (m+1) fu L e (by omega) (by omega) (by omega) (by omega) Q D
      exact ⟨_,k1,k2,k3⟩
    obtain ⟨X,k1,k2,k3⟩:=J
    rw [k1,zAA]
    exact ⟨_,rfl,k2,k3⟩
end
end
section
def Upd (ns:List Node) (i:Int) (s e:State):Prop:=e=s\/(isB ns i 1=true/\e.Phase=s.Phase/\e.Def=s.Def/\(e.Owner=s.Owner\/zQR ns e.Owner))
theorem Upd.trans {i:Int} {a b c:State} (C:Upd ns i a b) (D:Upd ns i b c):Upd ns i a c:=by
 rcases D with rfl | ⟨e,j,q,u⟩
 ·exact C
 ·rcases C with rfl | ⟨G,E,F,k4⟩
  ·exact .inr ⟨e,j,q,u⟩
  ·refine .inr ⟨e,j.trans E,q.trans F,?_⟩
   rcases u with h | h
   ·rcases k4 with k | k
    ·exact .inl (h.trans k)
    ·exact .inr (by rw [h];exact k)
   ·exact .inr h
def za7 (ns:List Node) (st e:List State):Prop:=e.length=st.length/\∀(i:Nat) (h:State),e[i]? = some h->∃s,st[i]? = some s/\Upd ns (i:Int) s h
theorem za7.refl (ns:List Node) (st:List State):za7 ns st st:=⟨rfl,fun _ s h=>⟨s,h,.inl rfl⟩⟩
theorem za7.set {st j:List State} (h:za7 ns st j) {n:Nat} {s v:State} (hs:j[n]? = some s) (C:Upd ns (n:Int) s v):za7 ns st (j.set n v):=by
 refine ⟨by simpa using h.1,fun i D hi=>?_⟩
 rw [kR] at hi
 split at hi
 ·rename_i e
  subst e
  split at hi
  ·cases hi
   obtain ⟨E,q,u⟩:=h.2 n s hs
   exact ⟨E,q,u.trans C⟩
  ·cases hi
 ·exact h.2 i D hi
theorem zSG {fu:Nat} {ws:List Wait} {nx:Int} {bz:Bool} {cs:List Class} {st:List State} {s:State} {y:Node} (hs:idx st n=some s) (hy:idx ns n=some y) :
  ∃c b,zDM fu n ns defs ws nx bz cs st=some (c,b)/\(b=true->s.Phase=3/\zJ8 s defs cs=some c/\y.Kind=1):=by
 unfold zDM
 rw [hs,zAA,zYi,zAA,hy]
 simp only
 cases i:zJ8 s defs cs with
 | none=>exact ⟨_,_,rfl,fun h=>by cases h⟩
 | some c =>
  simp only [zAO,zAA]
  rw [zAj]
  cases c.Form with
  | false=>exact ⟨_,_,rfl,fun h=>by cases h⟩
  | true =>
   rw [zAO]
   by_cases e:s.Phase=3
   ·rw [iP e]
    exact ⟨_,_,rfl,fun h=>⟨e,rfl,by simpa using h⟩⟩
   ·rw [iN e]
    exact ⟨_,_,rfl,fun h=>by cases h⟩
theorem zPE {fu:Nat} {c:Class} {l:List Due} (hl:l.length<=1000000):∃e,zCv fu c n t l=some (l++e)/\(e=[]\/e=[⟨n,t⟩]):=by
 unfold zCv
 rw [zUm,zAA,zAi (by simp only [cP,eK];omega),zAA]
 cases zLT c t.Kind with
 | true=>exact ⟨[⟨n,t⟩],rfl,.inr rfl⟩
 | false=>exact ⟨[],by rw [gI];rfl,.inl rfl⟩
section
variable {fu:Nat} {f:Forest} {st:List State} {d:Desk} {cs:List Class} (hfu:1000<fu) (hr:zAG f=true) (hl:d.Defs.length<=900) (hw:d.Waits.length<=900) (hst:st.length=f.Nodes.length)
include hfu hr hl hw hst
theorem zUf:zID fu f st d cs=some ((),zMd d,f.Nodes,f.Most,d.Defs,d.Waits,d.Next,d.Busy,cs,st,[]):=by
 have e:=(zAH hr).few
 unfold zID
 rw [zbW (by omega),zAA,show ((st.length:Int)==(f.Nodes.length:Int))=true by rw [hst];simp,zAO,zFB hfu ((zAH hr).fit hfu),zAA,hr,zAO,zSE hfu hl hw,zAA]
def zZr (ns:List Node) (u:Due):Prop:=isB ns u.Node 1=true/\(u.Todo.Kind=5\/u.Todo.Kind=6)
omit hl hw in
theorem told_l (hL:L.length=f.Nodes.length) (hin:∀r∈L,zQR f.Nodes r):∀(j i K:Nat) (q:List State) (due:List Due),i+j=L.length->j<K->za7 f.Nodes st q->(∀u∈due,zZr f.Nodes u)->due.length<=2*i->(d.Defs=[]->q=st/\due=[]) ->
  ∃Q C,zDn fu f ((),true,f.Nodes,f.Most,d.Defs,d.Waits,d.Next,d.Busy,cs,st,[]) L K ((i:Int),q,due)=some (Q,C)/\za7 f.Nodes st Q/\(∀u∈C,zZr f.Nodes u)/\C.length<=2*L.length/\(d.Defs=[]->Q=st/\C=[]):=by
 have hfew:=(zAH hr).few
 intro j
 induction j with
 | zero =>
  intro i K q due hi hK M S I hn
  obtain ⟨K,rfl⟩:∃K',K=K'+1:=⟨K - 1,by omega⟩
  obtain rfl:i=L.length:=by omega
  simp only [zDn]
  rw [zAN (by simp)]
  exact ⟨_,_,rfl,M,S,I,hn⟩
 | succ j ih =>
  intro i K q due hi hK M S I hn
  obtain ⟨K,rfl⟩:∃K',K=K'+1:=⟨K - 1,by omega⟩
  have h:i<L.length:=by omega
  have N:i<f.Nodes.length:=by omega
  have F:i<q.length:=by rw [M.1,hst];exact N
  have hni:InN f.Nodes (i:Int):=by unfold InN;omega
  have hown:=hin _ (gC h)
  obtain ⟨c,b,h1,h2⟩:=zSG (fu:=fu) (defs:=d.Defs) (ws:=d.Waits) (nx:=d.Next) (bz:=d.Busy) (cs:=cs) (zAT F) (zAT N)
  obtain ⟨D,X⟩:=zax hr hfu hni
  simp only [zDn]
  rw [zAP (by simpa using h),zAT h,zAA,h1,zAA,zAX (by omega)]
  simp only [zAA]
  cases b with
  | false=>exact ih (i+1) K q due (by omega) (by omega) M S (by omega) hn
  | true =>
   obtain ⟨g1,g2,g3⟩:=h2 rfl
   have hB:isB f.Nodes (i:Int) 1=true:=by unfold isB;rw [zAT N];simpa using g3
   have hdn:¬d.Defs=[]:=fun e=>by rw [e,zOT] at g2;cases g2
   have P:∀(a:List State) (b:List Due),d.Defs=[]->a=st/\b=[]:=fun _ _ e=>absurd e hdn
   have hgs:q[i]? = some q[i]:=lC F
   rw [iA,zAD,zAT F,zAA,zAW,X]
   have J:∀{t:Todo} {G E:List Due},(t.Kind=5\/t.Kind=6)->(∀u∈G,zZr f.Nodes u)->(E=[]\/E=[⟨(i:Int),t⟩])->∀u∈G++E,zZr f.Nodes u:=fun ht hd hl' u T=>by
    rcases cA.1 T with T | T
    ·exact hd u T
    ·rcases hl' with rfl | rfl
     ·cases T
     ·rw [e8.1 T];exact ⟨hB,ht⟩
   by_cases ho:q[i].Owner=L[i]
   ·rw [iP ho,zAA]
    cases hb2:D==q[i].Barred with
    | true=>exact ih (i+1) K q due (by omega) (by omega) M S (by omega) hn
    | false =>
     obtain ⟨E,k1,k2⟩:=zPE (fu:=fu) (c:=c) (n:=(i:Int)) (t:=⟨6,0,[],false,false,[],[],0,0,D⟩) (l:=due) (by omega)
     rw [jL,zAO,k1,zAA,eO]
     have hll:E.length<=1:=by rcases k2 with rfl | rfl<;>simp
     exact ih (i+1) K _ (due++E) (by omega) (by omega) (M.set hgs (.inr ⟨hB,rfl,rfl,.inl rfl⟩)) (J (.inr rfl) S k2) (by rw [eR];omega) (P _ _)
   ·rw [iN ho]
    obtain ⟨E,k1,k2⟩:=zPE (fu:=fu) (c:=c) (n:=(i:Int)) (t:=⟨5,0,[],false,false,[],[],q[i].Owner,L[i],false⟩) (l:=due) (by omega)
    have hll:E.length<=1:=by rcases k2 with rfl | rfl<;>simp
    have W:=M.set (v:=⟨q[i].Phase,q[i].Def,L[i],q[i].Barred⟩) hgs (.inr ⟨hB,rfl,rfl,.inr hown⟩)
    have V:=J (.inl rfl) S k2
    rw [k1,zAA,zAA,eO]
    cases hb2:D==q[i].Barred with
    | true=>exact ih (i+1) K _ (due++E) (by omega) (by omega) W V (by rw [eR];omega) (P _ _)
    | false =>
     obtain ⟨l2,k3,k4⟩:=zPE (fu:=fu) (c:=c) (n:=(i:Int)) (t:=⟨6,0,[],false,false,[],[],0,0,D⟩) (l:=due++E) (by rw [eR];omega)
     have hll2:l2.length<=1:=by rcases k4 with rfl | rfl<;>simp
     rw [jL,zAO,k3,zAA]
     have hg2:(q.set i (⟨q[i].Phase,q[i].Def,L[i],q[i].Barred⟩:State))[i]? = some ⟨q[i].Phase,q[i].Def,L[i],q[i].Barred⟩:=by
      rw [kR,iP rfl,iP F]
     exact ih (i+1) K _ (due++E++l2) (by omega) (by omega) (W.set (v:=⟨q[i].Phase,q[i].Def,L[i],D⟩) hg2 (.inr ⟨hB,rfl,rfl,.inl rfl⟩)) (J (.inr rfl) V k4) (by simp only [eR];omega) (P _ _)
theorem ziQ (I:zMd d=true):∃h e,zJq fu f st d cs=some (h,e)/\za7 f.Nodes st h/\(∀u∈e,zZr f.Nodes u)/\e.length<=800/\(d.Defs=[]->h=st/\e=[]):=by
 have i:=(zAH hr).few
 obtain ⟨L,E,F,G⟩:=zcm hr hfu
 unfold zJq
 rw [zUf hfu hr hl hw hst,zAA,I]
 simp only [iA,zAD]
 rw [E,zAA]
 obtain ⟨h,e,j,q,C,J,D⟩:=told_l (d:=d) (cs:=cs) hfu hr hst F G L.length 0 fu st [] (by omega) (by omega) (za7.refl _ _) (by simp) (by simp) (fun _=>⟨rfl,rfl⟩)
 exact ⟨h,e,j,q,C,by omega,D⟩
theorem zfR (x:Int):∃due,zKZ fu f st d cs x=some due/\due.length<=400/\(∀u∈due,InN f.Nodes u.Node/\u.Todo.Kind=7)/\(d.Defs=[]->due=[]):=by
 have S:=(zAH hr).few
 obtain ⟨L,h1,h2,h3⟩:=zaR hr hfu x
 unfold zKZ
 rw [zUf hfu hr hl hw hst,zAA]
 cases hd:zMd d with
 | false=>exact ⟨[],rfl,by simp,by simp,fun _=>rfl⟩
 | true =>
  simp only [iA,zAD]
  rw [h1,zAA]
  have P:∀(j i K:Nat) (due:List Due),i+j=L.length->j<K->due.length<=i->(∀u∈due,InN f.Nodes u.Node/\u.Todo.Kind=7)->(d.Defs=[]->due=[])->∃q,zFI fu ((),true,f.Nodes,f.Most,d.Defs,d.Waits,d.Next,d.Busy,cs,st,[]) L K ((i:Int),due)=some q/\q.length<=L.length/\(∀u∈q,InN f.Nodes u.Node/\u.Todo.Kind=7)/\(d.Defs=[]->q=[]):=by
   intro j
   induction j with
   | zero =>
    intro i K due hi hK C F N
    obtain ⟨K,rfl⟩:∃G,K=G+1:=⟨K - 1,by omega⟩
    obtain rfl:i=L.length:=by omega
    simp only [zFI]
    rw [zAN (by simp)]
    exact ⟨_,rfl,C,F,N⟩
   | succ j T =>
    intro i K due hi hK C F N
    obtain ⟨K,rfl⟩:∃G,K=G+1:=⟨K - 1,by omega⟩
    have h:i<L.length:=by omega
    have M:=h3 _ (gC h)
    obtain ⟨y,hy⟩:=zAK M
    obtain ⟨s,hs⟩:=zAK (l:=st) (n:=L[i]) (by rw [hst];exact M)
    obtain ⟨c,b,I,Q⟩:=zSG (fu:=fu) (defs:=d.Defs) (ws:=d.Waits) (nx:=d.Next) (bz:=d.Busy) (cs:=cs) hs hy
    simp only [zFI]
    rw [zAP (by simpa using h),zAT h,zAA,I,zAA,zAX (by omega)]
    simp only [zAA]
    cases b with
    | false=>exact T (i+1) K due (by omega) (by omega) (by omega) F N
    | true =>
     obtain ⟨_,E,_⟩:=Q rfl
     have J:¬d.Defs=[]:=fun e=>by rw [e,zOT] at E;cases E
     obtain ⟨W,k1,V⟩:=zPE (fu:=fu) (c:=c) (n:=L[i]) (t:=⟨7,0,[],false,false,[],[],0,0,false⟩) (l:=due) (by omega)
     have hll:W.length<=1:=by rcases V with rfl | rfl<;>simp
     rw [zAO,k1,zAA]
     refine T (i+1) K (due++W) (by omega) (by omega) (by rw [eR];omega) (fun u D=>?_) fun e=>absurd e J
     rcases cA.1 D with D | D
     ·exact F u D
     ·rcases V with rfl | rfl
      ·cases D
      ·rw [e8.1 D];exact ⟨M,rfl⟩
  obtain ⟨q,I,Q,X,E⟩:=P L.length 0 fu [] (by omega) (by omega) (by simp) (by simp) (fun _=>rfl)
  exact ⟨q,I,by omega,X,E⟩
theorem zab (i:InN f.Nodes n) (s:Bs):∃due,zIZ fu f st d cs n s=some due/\due.length<=1/\(∀u∈due,u.Node=n/\u.Todo.Kind=8)/\(d.Defs=[]->due=[]):=by
 obtain ⟨y,hy⟩:=zAK i
 obtain ⟨K,hs⟩:=zAK (l:=st) (n:=n) (by rw [hst];exact i)
 have j:=i
 unfold InN at j
 unfold zIZ
 rw [zUf hfu hr hl hw hst,zAA]
 cases J:zMd d with
 | false=>exact ⟨[],rfl,by simp,by simp,fun _=>rfl⟩
 | true =>
  obtain ⟨c,b,E,F⟩:=zSG (fu:=fu) (defs:=d.Defs) (ws:=d.Waits) (nx:=d.Next) (bz:=d.Busy) (cs:=cs) hs hy
  simp only [iA,zAD]
  rw [zAN (by simp;omega),zAN (by simp;omega),E,zAA]
  cases b with
  | false=>exact ⟨[],rfl,by simp,by simp,fun _=>rfl⟩
  | true =>
   obtain ⟨_,q,_⟩:=F rfl
   have h:¬d.Defs=[]:=fun e=>by rw [e,zOT] at q;cases q
   obtain ⟨I,G,D⟩:=zPE (fu:=fu) (c:=c) (n:=n) (t:=⟨8,0,[],false,false,[],s,0,0,false⟩) (l:=[]) (by simp)
   simp only [zAO]
   rw [G,zAA]
   refine ⟨I,by rw [iU],by rcases D with rfl | rfl<;>simp,fun u C=>?_,fun e=>absurd e h⟩
   rcases D with rfl | rfl
   ·cases C
   ·rw [e8.1 C];exact ⟨rfl,rfl⟩
end
end
section
def zTF:Line->List Task->List Due->Line×List Task
 | l,ts,[]=>(l,ts)
 | l,ts,u::r=>zTF (zRF l u.Node u.Todo).1 (if (zRF l u.Node u.Todo).2=true then ts++[⟨1,0,0⟩] else ts) r
def zQf (w:World) (due:List Due):World:=⟨w.Forest,w.States,w.Desk,(zTF w.Line w.Tasks due).1,(zTF w.Line w.Tasks due).2,w.Builds,w.Classes⟩
theorem zYs:∀{due:List Due} {l:Line} {ts:List Task},(zTF l ts due).1.Todos.length=l.Todos.length
 | [],_,_=>rfl
 | u::r,l,ts=>by simp only [zTF];rw [zYs,zO1]
theorem zTa:∀{due:List Due} {l:Line} {ts:List Task},zHw l=true->(∀u∈due,inL l u.Node=true)->zHw (zTF l ts due).1=true
 | [],_,_,h,_=>h
 | u::r,l,ts,h,hi=>by
  simp only [zTF]
  refine zTa (zTM h (hi u (lH ..))) fun v e=>?_
  rw [zRR zO1]
  exact hi v (lG _ e)
theorem zTb {B:Nat}:∀{due:List Due} {l:Line} {ts:List Task} {n:Nat},LS (B+n) l->LS (B+n+due.length) (zTF l ts due).1
 | [],_,_,_,h=>h
 | u::r,l,ts,n,h=>by
  simp only [zTF,cP]
  have:=zTb (B:=B) (due:=r) (l:=(zRF l u.Node u.Todo).1) (ts:=if (zRF l u.Node u.Todo).2=true then ts++[⟨1,0,0⟩] else ts) (n:=n+1) (zTN h)
  exact this.mono (by omega)
theorem zP2:∀{due:List Due} {l:Line} {ts:List Task},(zTF l ts due).2.length<=ts.length+due.length/\(∀t∈(zTF l ts due).2,t∈ts\/t=⟨1,0,0⟩)
 | [],_,_=>⟨by simp [zTF],fun _ h=>.inl h⟩
 | u::r,l,ts=>by
  simp only [zTF,cP]
  obtain ⟨q,i⟩:=zP2 (due:=r) (l:=(zRF l u.Node u.Todo).1) (ts:=if (zRF l u.Node u.Todo).2=true then ts++[⟨1,0,0⟩] else ts)
  refine ⟨?_,fun t j=>?_⟩
  ·have e:(if (zRF l u.Node u.Todo).2=true then ts++[(⟨1,0,0⟩:Task)] else ts).length<=ts.length+1:=by split<;>simp
   omega
  ·rcases i t j with h | h
   ·split at h
    ·rcases cA.1 h with h | h
     ·exact .inl h
     ·exact .inr (e8.1 h)
    ·exact .inl h
   ·exact .inr h
def zJA (due:List Due) (i:Nat):List Todo:=(due.filter fun u=>u.Node==(i:Int)).map (·.Todo)
theorem zge (q:inL l n=true) (i:Nat):(zRF l n t).1.Todos[i]? = (l.Todos[i]?).map fun a=>a++(if n=(i:Int) then [t] else []):=by
 unfold inL at q
 simp only [lM,decide_eq_true_eq] at q
 obtain ⟨m,rfl⟩:∃m:Nat,n=(m:Int):=⟨n.toNat,by omega⟩
 have j:m<l.Todos.length:=by omega
 have e:(zRF l (m:Int) t).1.Todos=l.Todos.set m ((l.Todos[m]?).getD []++[t]):=by
  unfold zRF;split<;>simp
 rw [e,kR]
 by_cases h:m=i
 ·subst h
  rw [iP rfl,iP j,iP rfl,lC j]
  rfl
 ·rw [iN h,iN (by omega)]
  cases l.Todos[i]? <;> simp
theorem zP1:∀{due:List Due} {l:Line} {ts:List Task} (i:Nat),(∀u∈due,inL l u.Node=true)->(zTF l ts due).1.Todos[i]? = (l.Todos[i]?).map fun a=>a++zJA due i
 | [],l,ts,i,_=>by
  simp only [zTF,zJA]
  cases l.Todos[i]? <;> simp
 | u::r,l,ts,i,hi=>by
  simp only [zTF]
  rw [zP1 i (fun v e=>by rw [zRR zO1];exact hi v (lG _ e)),zge (hi u (lH ..)),Option.map_map]
  congr 1
  funext a
  simp only [Function.comp_apply,eS]
  congr 1
  unfold zJA
  rw [kZ]
  by_cases h:u.Node=(i:Int)
  ·rw [iP h,iP (by simpa using h)];rfl
  ·rw [iN h,iN (by simpa using h)];rfl
theorem zea {fu B:Nat} {w0:World} (hfu:B+due.length+10000<fu) (hB:B+due.length<=1000000000):∀(j i K:Nat) (l:Line) (ts:List Task),i+j=due.length->j<K->LS (B+i) l->ts.length<=B+i->zHw l=true->(∀u∈due,inL l u.Node=true) ->
  zBq fu due ⟨w0⟩ K ((i:Int),ts,l.Todos,l.Stack,l.Back,l.Busy)=some ⟨⟨w0.Forest,w0.States,w0.Desk,(zTF l ts (due.drop i)).1,(zTF l ts (due.drop i)).2,w0.Builds,w0.Classes⟩⟩:=by
 intro j
 induction j with
 | zero =>
  intro i K l ts hi I hS J hR F
  obtain ⟨K,rfl⟩:∃E,K=E+1:=⟨K - 1,by omega⟩
  obtain rfl:i=due.length:=by omega
  simp only [zBq]
  rw [zAN (by simp),kK]
  rfl
 | succ j G =>
  intro i K l ts hi I hS J hR F
  obtain ⟨K,rfl⟩:∃E,K=E+1:=⟨K - 1,by omega⟩
  have h:i<due.length:=by omega
  have D:=F _ (gC h)
  have C:LS (B+(i+1)) (zRF l due[i].Node due[i].Todo).1:=zTN hS
  have e:∀u∈due,inL (zRF l due[i].Node due[i].Todo).1 u.Node=true:=fun u M=>by rw [zRR zO1];exact F u M
  have q:=zTM (t:=due[i].Todo) hR D
  simp only [zBq]
  rw [zAP (by simpa using h),zAT h,zAA,add_ok (B:=B+i) (by omega) (by omega) hS hR D,zAA,zAX (by omega)]
  simp only [zAA]
  rw [eT h]
  simp only [zTF]
  cases N:(zRF l due[i].Node due[i].Todo).2 with
  | true =>
   rw [zAO,zAi (by simp only [cP,eK];omega),zAA,iP rfl]
   exact G (i+1) K (zRF l due[i].Node due[i].Todo).1 _ (by omega) (by omega) C (by simp only [eR,cP,eK];omega) q e
  | false =>
   rw [zAD,iN (by simp)]
   exact G (i+1) K (zRF l due[i].Node due[i].Todo).1 _ (by omega) (by omega) C (by omega) q e
theorem zSI {fu B:Nat} {w:World} (hfu:B+due.length+10000<fu) (hB:B+due.length<=1000000000) (hS:LS B w.Line) (h:w.Tasks.length<=B) (hR:zHw w.Line=true) (e:∀u∈due,inL w.Line u.Node=true):zBc fu due ⟨w⟩=some ⟨zQf w due⟩:=by
 unfold zBc
 rw [zbV (by simp only;omega),zAA]
 exact zea hfu hB due.length 0 fu w.Line w.Tasks (by omega) (by omega) hS h hR e
structure WR (w:World):Prop where
 st:w.States.length=w.Forest.Nodes.length
 td:w.Line.Todos.length=w.Forest.Nodes.length
 cl:zL6 w=true
 fr:zAG w.Forest=true
 dk:zMd w.Desk=true
 ln:zHw w.Line=true
 per:∀(i:Nat) (s:State) (x:Node),w.States[i]? = some s->w.Forest.Nodes[i]? = some x->zMT w.Forest.Nodes.length w.Desk.Defs.length x s=true
 todo:∀l∈w.Line.Todos,∀t∈l,zIY w.Desk.Defs.length t=true
 task:∀t∈w.Tasks,zW1 w.Desk.Defs.length t=true
 build:∀b∈w.Builds,zO6 w.Forest.Nodes w.Desk.Defs.length b=true
theorem WR.iff {w:World}:zUA w=true↔WR w:=by
 unfold zUA
 simp only [lM,decide_eq_true_eq,lR,jO]
 constructor
 ·rintro ⟨j,q,u,C,D,E,e,F,G⟩
  refine ⟨j,q,u,C,D,E,fun i s x hs hx=>?_,fun l hl t I=>?_,F,G⟩
  ·have hi:i<w.Line.Todos.length:=by
    have:=(lF.1 hx).1;omega
   have:=e i hi
   unfold zgO at this
   rw [hs,hx] at this
   simp only [lM] at this
   exact this.1
  ·obtain ⟨i,hi,rfl⟩:=iW hl
   have:=e i hi
   unfold zgO at this
   rw [lC hi] at this
   simp only [lM,cM,lR] at this
   exact this.2 t I
 ·intro h
  refine ⟨h.st,h.td,h.cl,h.fr,h.dk,h.ln,fun i hi=>?_,h.task,h.build⟩
  have hs:i<w.States.length:=by rw [h.st,<- h.td];exact hi
  have hx:i<w.Forest.Nodes.length:=by rw [<- h.td];exact hi
  unfold zgO
  rw [lC hs,lC hx,lC hi]
  simp only [lM,cM,lR]
  exact ⟨h.per i _ _ (lC hs) (lC hx),h.todo _ (gC hi)⟩
theorem WR.classes {w:World} (h:WR w):∀c∈w.Classes,c.Watch.length<=12:=fun c i=>by
 have:=h.cl
 unfold zL6 at this
 simp only [lM,lR] at this
 have e:=this.2.1 c i
 unfold zIg at e
 simp only [lM,decide_eq_true_eq] at e
 exact e.1
theorem WR.enl {w:World} (h:WR w) {due:List Due} (D:∀u∈due,InN w.Forest.Nodes u.Node/\zIY w.Desk.Defs.length u.Todo=true):WR (zQf w due):=by
 have hi:∀u∈due,inL w.Line u.Node=true:=fun u C=>by
  have:=(D u C).1
  unfold InN at this
  unfold inL
  rw [h.td]
  simpa using this
 refine ⟨h.st,zYs.trans h.td,h.cl,h.fr,h.dk,zTa h.ln hi,h.per,fun l hl t j=>?_,fun t j=>?_,h.build⟩
 ·obtain ⟨i,q⟩:=List.getElem?_of_mem hl
  have e:=zP1 (l:=w.Line) (ts:=w.Tasks) i hi
  rw [show (zTF w.Line w.Tasks due).1.Todos[i]? = some l from q] at e
  obtain ⟨a,E,F⟩:=lI.1 e.symm
  subst F
  rcases cA.1 j with j | j
  ·exact h.todo a (lU E) t j
  ·unfold zJA at j
   obtain ⟨u,C,rfl⟩:=lE.1 j
   exact (D u (iJ.1 C).1).2
 ·rcases zP2.2 t j with j | rfl
  ·exact h.task t j
  ·rfl
theorem WR.inL {w:World} (h:WR w) {n:Int} (e:InN w.Forest.Nodes n):inL w.Line n=true:=by
 unfold InN at e
 unfold Proofs.YtmfbghpealgaiaaGreatDoor.inL
 rw [h.td]
 simpa using e
theorem WS.enl {B:Nat} {w:World} (h:WS B w) {due:List Due}:WS (B+due.length) (zQf w due):=by
 refine ⟨zTb (n:=0) h.line,eM zP2.1 (by have:=h.tasks;omega),by have:=h.builds;simp only [zQf];omega,h.defs,h.waits,h.kids,by have:=h.states;simp only [zQf];omega⟩
theorem zVc {fu B:Nat} {w:World} (hfu:B+due.length+10000<fu) (hB:B+due.length<=1000000000) (hS:WS B w) (hR:WR w) (h:∀u∈due,InN w.Forest.Nodes u.Node/\zIY w.Desk.Defs.length u.Todo=true):zIf fu w due=some (zQf w due,0):=by
 unfold zIf
 rw [zS0 hS (by omega) (by omega),zAA,WR.iff.2 hR,iA,zAD]
 rw [zQ5 (p:=fun u => !(ltI w.Forest.Nodes.length u.Node&&zIY w.Desk.Defs.length u.Todo)) (fun u _=>by
  unfold zEU
  rw [zVX,zAA,zZn,zAA]
  cases ltI w.Forest.Nodes.length u.Node<;>rfl) (by omega) (by omega),zAA,zGI]
 have:(due.all fun u=>ltI w.Forest.Nodes.length u.Node&&zIY w.Desk.Defs.length u.Todo)=true:=by
  rw [lR]
  intro u e
  rw [lM]
  exact ⟨zKB.2 (h u e).1,(h u e).2⟩
 rw [this,iA,zAD,zSI hfu hB hS.line hS.tasks hR.ln (fun u e=>hR.inL (h u e).1),zAA]
end
section
def zTC (x:Node):State:=⟨if x.Kind=1 then (if x.Is=[] then (if zEP x.Name=true then 1 else 0) else 1) else 0,-1,-1,false⟩
theorem zgp {fu:Nat} (hfu:1000<fu):zI6 fu x=some (zTC x):=by
 unfold zI6 zOH zTC
 rw [zAj,zHW (by omega),zAA]
 by_cases e:x.Kind=1
 ·rw [iP e,iP e]
  by_cases h:x.Is=[]
  ·rw [h]
   cases zEP x.Name<;>rfl
  ·have:(x.Is==([]:Bs))=false:=by simpa using h
   rw [this,iN h];rfl
 ·rw [iN e,iN e]
theorem zXX (q j:Nat) (x:Node):zMT q j x (zTC x)=true:=by
 unfold zMT zTC
 by_cases e:x.Kind=1
 ·rw [iP e,iP e]
  by_cases h:x.Is=[]
  ·by_cases i:zEP x.Name=true<;>simp [h,i]
  ·simp [h]
 ·rw [iN e,iN e];rfl
def zG8 (w:World) (f:Forest):Prop:=f.Most=w.Forest.Most/\w.Forest.Nodes.length<=f.Nodes.length/\∀(i:Nat) (x:Node),w.Forest.Nodes[i]? = some x->∃y,f.Nodes[i]? = some y/\y.Kind=x.Kind
def zTf (w:World) (f:Forest) (i:Nat):Bool:=match w.Forest.Nodes[i]?,f.Nodes[i]? with | some x,some y=>y.Kind==x.Kind | _,_=>true
theorem zaG {fu:Nat} {w:World} {f:Forest} (hfu:2000<fu) (hw:w.Forest.Nodes.length<=1000) (hf:f.Nodes.length<=1000):∃b,zEh fu ⟨w⟩ f=some b/\(b=true↔zG8 w f):=by
 unfold zEh
 simp only
 rw [zAW,zAS]
 by_cases q:f.Most=w.Forest.Most
 ·rw [iP q]
  by_cases u:f.Nodes.length<w.Forest.Nodes.length
  ·rw [iP (by omega)]
   exact ⟨false,rfl,by simp;intro h;have:=h.2.1;omega⟩
  ·rw [iN (by omega)]
   have:=zOl (L:=zCB ⟨w⟩ f) w.Forest.Nodes.length (zTf w f) (some true) (fun i hi k=>by
    have e:i<f.Nodes.length:=by omega
    simp only [zCB]
    rw [zAP (by simpa using hi),zAT hi,zAA,zAT e,zAA,zAW,zAX (by omega),zAA]
    unfold zTf
    rw [lC hi,lC e]
    simp only
    by_cases j:f.Nodes[i].Kind=w.Forest.Nodes[i].Kind
    ·rw [iP j,j];simp
    ·rw [iN j,show (f.Nodes[i].Kind==w.Forest.Nodes[i].Kind)=false by simpa using j];rfl) (fun k=>by
    simp only [zCB]
    rw [zAN (by simp)]) (k:=fu) (by omega)
   refine ⟨(cW w.Forest.Nodes.length).all (zTf w f),this.trans ?_,?_⟩
   ·cases (cW w.Forest.Nodes.length).all (zTf w f)<;>rfl
   ·rw [lR]
    constructor
    ·intro h
     refine ⟨q,by omega,fun i x hx=>?_⟩
     have hi:=(lF.1 hx).1
     have e:i<f.Nodes.length:=by omega
     have:=h i (jO.2 hi)
     unfold zTf at this
     rw [hx,lC e] at this
     exact ⟨_,lC e,by simpa using this⟩
    ·intro h i hi
     rw [jO] at hi
     obtain ⟨y,hy,j⟩:=h.2.2 i _ (lC hi)
     unfold zTf
     rw [lC hi,hy]
     simpa using j
 ·rw [iN q]
  exact ⟨false,rfl,by simp;intro h;exact q h.1⟩
def zPJ (l:Line) (n:Nat):Line:=⟨l.Todos++dH n [],l.Stack,l.Back,l.Busy⟩
def st1 (w:World) (f:Forest):List State:=w.States++(f.Nodes.drop w.Forest.Nodes.length).map zTC
def ln1 (w:World) (f:Forest):Line:=zPJ w.Line (f.Nodes.length - w.Forest.Nodes.length)
def zhb (w:World) (f:Forest):World:=⟨f,st1 w f,w.Desk,ln1 w f,w.Tasks,w.Builds,w.Classes⟩
def zWS (w:World) (f:Forest) (notes:List Note):World:=zQf (zhb w f) (zQd f (st1 w f) w.Desk w.Classes notes)
def zgI (w:World) (f:Forest) (notes:List Note) (e:List State):World:=⟨f,e,w.Desk,(zWS w f notes).Line,(zWS w f notes).Tasks,w.Builds,w.Classes⟩
def za4 (w:World) (f:Forest) (notes:List Note) (v:World):Prop:=∃h e,v=zQf (zgI w f notes h) e/\za7 f.Nodes (st1 w f) h/\(∀u∈e,zZr f.Nodes u)/\e.length<=800/\(w.Desk.Defs=[]->h=st1 w f/\e=[])
theorem zSU {k:Int} (h:isB ns n k=true):InN ns n:=by
 unfold isB at h
 cases e:idx ns n with
 | none=>rw [e] at h;cases h
 | some x=>exact zAI e
section
variable {w:World} {f:Forest} (hR:WR w) (hf:zAG f=true) (hF:zG8 w f)
include hR hf hF
omit hf in
theorem zOk:(st1 w f).length=f.Nodes.length:=by
 have:=hF.2.1
 unfold st1
 rw [eR,lL,iK,hR.st]
 omega
theorem zP5:WR (zhb w f):=by
 have M:=hF.2.1
 have C:∀{i:Nat} {x:Node},f.Nodes[i]? = some x->i<w.Forest.Nodes.length->∃y,w.Forest.Nodes[i]? = some y/\x.Kind=y.Kind:=fun {i x} hx hi=>by
  obtain ⟨z,hz,q⟩:=hF.2.2 i _ (lC hi)
  rw [hx] at hz
  exact ⟨_,lC hi,by rw [lJ.inj hz];exact q⟩
 have G:∀k,ltI w.Forest.Nodes.length k=true->ltI f.Nodes.length k=true:=fun k h=>by
  have:=zKB.1 h
  exact zKB.2 (by omega)
 refine ⟨zOk hR hF,?_,hR.cl,hf,hR.dk,?_,fun i s x hs hx=>?_,fun l hl t I=>?_,hR.task,fun b P=>?_⟩
 ·show (w.Line.Todos++dH (f.Nodes.length - w.Forest.Nodes.length) []).length=f.Nodes.length
  rw [eR,kF,hR.td];omega
 ·have:=hR.ln
  unfold zHw at this ⊢
  rw [lR] at this ⊢
  intro S F
  have K:=this S F
  rw [lR] at K ⊢
  intro n Q
  have E:=K n Q
  unfold inL at E ⊢
  simp only [lM,decide_eq_true_eq] at E ⊢
  refine ⟨E.1,?_⟩
  show n<((w.Line.Todos++dH (f.Nodes.length - w.Forest.Nodes.length) ([]:List Todo)).length:Int)
  rw [eR];omega
 ·show zMT f.Nodes.length w.Desk.Defs.length x s=true
  have e:(w.States++(f.Nodes.drop w.Forest.Nodes.length).map zTC)[i]? = some s:=hs
  by_cases hi:i<w.Forest.Nodes.length
  ·rw [List.getElem?_append_left (by rw [hR.st];exact hi)] at e
   obtain ⟨y,hy,q⟩:=C hx hi
   have:=hR.per i s y e hy
   unfold zMT at this ⊢
   rw [q]
   split
   ·rename_i D
    rw [iP D] at this
    simp only [lM,dD] at this ⊢
    exact ⟨this.1.imp id (G _),this.2⟩
   ·rename_i D
    rw [iN D] at this
    exact this
  ·rw [cC (by rw [hR.st];omega),lK,cD,hR.st] at e
   rw [show w.Forest.Nodes.length+(i - w.Forest.Nodes.length)=i by omega] at e
   have J:f.Nodes[i]? = some x:=hx
   rw [J] at e
   simp only [lW,lJ.injEq] at e
   rw [<- e]
   exact zXX _ _ _
 ·rcases cA.1 hl with hl | hl
  ·exact hR.todo l hl t I
  ·rw [(kS.1 hl).2] at I;cases I
 ·have:=hR.build b P
  show zO6 f.Nodes w.Desk.Defs.length b=true
  unfold zO6 at this ⊢
  simp only [lM,dD] at this ⊢
  refine ⟨this.1,this.2.imp id fun h=>?_⟩
  have j:=zSU h
  unfold isB at h ⊢
  obtain ⟨m,N⟩:∃m:Nat,b.Node=(m:Int):=⟨b.Node.toNat,by have:=j.1;omega⟩
  have u:m<w.Forest.Nodes.length:=by have:=j.2;omega
  rw [N,zAT u] at h
  obtain ⟨y,hy,q⟩:=hF.2.2 m _ (lC u)
  rw [N,zFg,hy]
  simp only [beq_iff_eq] at h ⊢
  rw [q];exact h
omit hR hf hF in
theorem zXg (notes:List Note):∀u∈zQd f (st1 w f) w.Desk w.Classes notes,InN f.Nodes u.Node/\zIY w.Desk.Defs.length u.Todo=true:=fun u i=>by
 obtain ⟨e,h,_⟩:=zhH i
 exact ⟨zSU e,h⟩
theorem zaS (notes:List Note):WR (zWS w f notes):=(zP5 hR hf hF).enl (zXg notes)
theorem zP6 {q:List State} (E:za7 f.Nodes (st1 w f) q):WR (zgI w f notes q):=by
 have j:=zaS hR hf hF notes
 refine ⟨E.1.trans (zOk hR hF),j.td,j.cl,hf,j.dk,j.ln,fun i s x hs hx=>?_,j.todo,j.task,j.build⟩
 obtain ⟨F,G,I⟩:=E.2 i s hs
 have:=j.per i F x G hx
 show zMT f.Nodes.length w.Desk.Defs.length x s=true
 rcases I with rfl | ⟨D,J,K,k4⟩
 ·exact this
 ·have C:x.Kind=1:=by
   unfold isB at D
   have u:f.Nodes[i]? = some x:=hx
   rw [zFg,u] at D
   simpa using D
  have e:zMT f.Nodes.length w.Desk.Defs.length x F=true:=this
  unfold zMT at e ⊢
  rw [iP C] at e ⊢
  rw [J,K]
  simp only [lM,dD,beq_iff_eq] at e ⊢
  refine ⟨?_,e.2⟩
  rcases k4 with h | h | h
  ·rw [h];exact e.1
  ·exact .inl h
  ·exact .inr (zKB.2 h)
theorem zNZ (h:za4 w f notes v):WR v:=by
 obtain ⟨D,e,rfl,q,j,_⟩:=h
 refine (zP6 hR hf hF q).enl fun u C=>?_
 obtain ⟨i,E⟩:=j u C
 refine ⟨zSU i,?_⟩
 unfold zIY
 simp only [dD,lM,decide_eq_true_eq]
 left;omega
end
section
variable {B:Nat} {w:World} {f:Forest} (hS:WS B w) (hR:WR w) (hf:zAG f=true) (hF:zG8 w f)
include hS hR hf hF
theorem zTh:WS (B+400) (zhb w f):=by
 have i:=(zAH hf).few
 have h:=hS.line
 have j:=h.todos
 have hl:=hF.2.1
 have hst:=hS.states
 refine ⟨⟨?_,fun t e=>?_,by have:=h.stack;show w.Line.Stack.length<=_;omega,fun t e=>by have:=h.lists t e;omega,by have:=h.back;show w.Line.Back.length<=_;omega⟩,by have:=hS.tasks;show w.Tasks.length<=_;omega,by have:=hS.builds;show w.Builds.length<=_;omega,hS.defs,hS.waits,fun x hx=>by have:=(zAH hf).kids x hx;omega,?_⟩
 ·show (w.Line.Todos++dH (f.Nodes.length - w.Forest.Nodes.length) ([]:List Todo)).length<=_
  rw [eR,kF];omega
 ·rcases cA.1 e with e | e
  ·have:=h.todo t e;omega
  ·rw [(kS.1 e).2];simp
 ·show (st1 w f).length<=_
  rw [zOk hR hF];omega
theorem zQL (h:za4 w f notes v):WS (B+notes.length+1200) v:=by
 obtain ⟨j,i,rfl,D,_,hl,_⟩:=h
 have q:=(zTh hS hR hf hF).enl (due:=zQd f (st1 w f) w.Desk w.Classes notes)
 have E:=zYq (f:=f) (st:=st1 w f) (d:=w.Desk) (cs:=w.Classes) (notes:=notes)
 have u:=(zAH hf).few
 have C:WS (B+400+notes.length) (zgI w f notes j):=by
  refine ⟨q.line.mono (by omega),by have:=q.tasks;show (zWS w f notes).Tasks.length<=_;unfold zWS;omega,by have:=hS.builds;show w.Builds.length<=_;omega,hS.defs,hS.waits,q.kids,?_⟩
  show j.length<=_
  rw [D.1,zOk hR hF];omega
 have e:=C.enl (due:=i)
 exact ⟨e.line.mono (by omega),by have:=e.tasks;omega,by have:=e.builds;omega,e.defs,e.waits,e.kids,by have:=e.states;omega⟩
end
theorem zig {fu B:Nat} {w:World} {f:Forest} (hfu:B+notes.length+20000<fu) (hB:B+notes.length+20000<=1000000000) (hn:notes.length<=100000000) (hS:WS B w) (hR:WR w) (hf:zAG f=true) (hF:zG8 w f) :
  ∀(j i K:Nat),i+j=(f.Nodes.drop w.Forest.Nodes.length).length->j<K->∃v,zGX fu w f notes (f.Nodes.drop w.Forest.Nodes.length) K ((i:Int),w.States++((f.Nodes.drop w.Forest.Nodes.length).take i).map zTC,(zPJ w.Line i).Todos,(zPJ w.Line i).Stack,(zPJ w.Line i).Back,(zPJ w.Line i).Busy)=some (v,0)/\za4 w f notes v:=by
 have hfew:=(zAH hf).few
 have q:=hS.line
 have hst:=hS.states
 intro j
 induction j with
 | zero =>
  intro i K hi hK
  obtain ⟨K,rfl⟩:∃Q,K=Q+1:=⟨K - 1,by omega⟩
  obtain rfl:i=(f.Nodes.drop w.Forest.Nodes.length).length:=by omega
  have e1:w.States++((f.Nodes.drop w.Forest.Nodes.length).take (f.Nodes.drop w.Forest.Nodes.length).length).map zTC=st1 w f:=by rw [iI];rfl
  have e2:zPJ w.Line (f.Nodes.drop w.Forest.Nodes.length).length=ln1 w f:=by rw [iK];rfl
  have M:=zP5 hR hf hF
  have D:=zTh hS hR hf hF
  have hd:=zYq (f:=f) (st:=st1 w f) (d:=w.Desk) (cs:=w.Classes) (notes:=notes)
  simp only [zGX]
  rw [zAN (by simp),e1,e2,due_ok (by omega) hf hS.defs hS.waits hR.classes (zOk hR hF) hR.dk hn (by omega),zAA]
  have T:=zSI (fu:=fu) (B:=B+400) (w:=zhb w f) (due:=zQd f (st1 w f) w.Desk w.Classes notes) (by omega) (by omega) D.line D.tasks M.ln (fun u W=>M.inL (zXg notes u W).1)
  have I:zBc fu (zQd f (st1 w f) w.Desk w.Classes notes) ⟨⟨f,st1 w f,w.Desk,⟨(ln1 w f).Todos,(ln1 w f).Stack,(ln1 w f).Back,(ln1 w f).Busy⟩,w.Tasks,w.Builds,w.Classes⟩⟩=some ⟨zWS w f notes⟩:=T
  rw [I,zAA]
  obtain ⟨E,C,g1,X,g3,g4,g5⟩:=ziQ (fu:=fu) (f:=f) (st:=st1 w f) (d:=w.Desk) (cs:=w.Classes) (by omega) hf hS.defs hS.waits (zOk hR hF) hR.dk
  have S:zJq fu f (zWS w f notes).States (zWS w f notes).Desk (zWS w f notes).Classes=some (E,C):=g1
  simp only
  rw [S,zAA]
  have N:=zP6 (notes:=notes) hR hf hF X
  have P:=D.enl (due:=zQd f (st1 w f) w.Desk w.Classes notes)
  have J:=zSI (fu:=fu) (B:=B+400+notes.length) (w:=zgI w f notes E) (due:=C) (by omega) (by omega) (P.line.mono (by omega)) (by have:=P.tasks;show (zWS w f notes).Tasks.length<=_;unfold zWS;omega) N.ln (fun u W=>N.inL (zSU (g3 u W).1))
  have G:zBc fu C ⟨⟨(zWS w f notes).Forest,E,(zWS w f notes).Desk,(zWS w f notes).Line,(zWS w f notes).Tasks,(zWS w f notes).Builds,(zWS w f notes).Classes⟩⟩=some ⟨zQf (zgI w f notes E) C⟩:=J
  simp only
  rw [G,zAA]
  exact ⟨_,rfl,E,C,rfl,X,g3,g4,g5⟩
 | succ j ih =>
  intro i K hi hK
  obtain ⟨K,rfl⟩:∃Q,K=Q+1:=⟨K - 1,by omega⟩
  have h:i<(f.Nodes.drop w.Forest.Nodes.length).length:=by omega
  have hil:i<=400:=by rw [iK] at h;omega
  obtain ⟨v,P,h2⟩:=ih (i+1) K (by omega) (by omega)
  have F:=q.todos
  have V:LS (B+400) (zPJ w.Line i):=⟨by unfold zPJ;simp;omega,fun t F=>by
   rcases cA.1 F with F | F
   ·have:=q.todo t F;omega
   ·rw [(kS.1 F).2];simp,by have:=q.stack;unfold zPJ;simp only;omega,fun t F=>by have:=q.lists t F;omega,by have:=q.back;unfold zPJ;simp only;omega⟩
  simp only [zGX]
  rw [zAP (by simpa using h),zAT h,zAA,zgp (by omega),zAA,zAi (by simp only [eR,lL,List.length_take,cP,eK];omega),zAA,zhT (B:=B+400) (by omega) V,zAA,zAX (by omega),zAA]
  refine ⟨v,?_,h2⟩
  rw [<- P,iE h,gG,<- eS]
  have e:zhS (zPJ w.Line i)=zPJ w.Line (i+1):=by
   unfold zhS zPJ
   simp only [eS,List.replicate_succ']
  rw [e]
  rfl
theorem zfx {fu B:Nat} {w:World} {f:Forest} (hfu:B+notes.length+20000<fu) (hB:B+notes.length+20000<=1000000000) (G:notes.length<=100000000) (hS:WS B w) (hR:WR w) (i:f.Nodes.length<=1000) (j:∀x∈f.Nodes,x.Kids.length<=2000) :
  ∃v e,zKi fu w f notes=some (v,e)/\((e≠0/\v=w/\¬(zAG f=true/\zG8 w f))\/(e=0/\zAG f=true/\zG8 w f/\za4 w f notes v)):=by
 have F:=(zAH hR.fr).few
 have hst:=hS.states
 unfold zKi
 rw [zS0 hS (by omega) (by omega),zAA,WR.iff.2 hR,iA,zAD,zFB (by omega) (fun x hx=>by have:=j x hx;omega),zAA]
 cases hf:zAG f with
 | false=>exact ⟨w,1,rfl,.inl ⟨by omega,rfl,by simp⟩⟩
 | true =>
  obtain ⟨b,E,q⟩:=zaG (fu:=fu) (w:=w) (f:=f) (by omega) (by omega) i
  rw [iA,zAD,E,zAA]
  cases b with
  | false=>exact ⟨w,1,rfl,.inl ⟨by omega,rfl,fun h=>by have:=q.2 h.2;cases this⟩⟩
  | true =>
   have hF:=q.1 rfl
   have u:=hF.2.1
   rw [iA,zAD,zbW (by omega),zAA]
   have I:piece f.Nodes (w.Forest.Nodes.length:Int) (f.Nodes.length:Int)=some (f.Nodes.drop w.Forest.Nodes.length):=by
    unfold piece
    rw [iP ⟨by omega,by omega,by omega⟩]
    congr 1
    rw [eO,eO,kH (by simp)]
   rw [I,zAA]
   obtain ⟨v,C,D⟩:=zig hfu hB G hS hR hf hF (f.Nodes.drop w.Forest.Nodes.length).length 0 fu (by omega) (by rw [iK];omega)
   refine ⟨v,0,?_,.inr ⟨rfl,rfl,hF,D⟩⟩
   rw [<- C]
   simp [zPJ]
end
section
def zP7:List Bs:=(zHN 0).getD []
theorem zaV (fu:Nat):zHN fu=some zP7:=by
 have h:∃l,zHN 0=some l:=by
  have:(zHN 0).isSome=true:=by decide +kernel
  exact kX.1 this
 obtain ⟨l,hl⟩:=h
 have e:zHN fu=zHN 0:=rfl
 unfold zP7
 rw [e,hl];rfl
def zSz (k:Int):Bs:=if k>0/\k<(zP7.length:Int) then (idx zP7 k).getD [] else []
theorem zfu (fu:Nat) (k:Int):zEZ fu k=some (zSz k):=by
 unfold zEZ zSz
 rw [zaV,zAA,zAS,zAS]
 by_cases e:k>0
 ·rw [iP e]
  by_cases i:k<(zP7.length:Int)
  ·obtain ⟨x,hx⟩:=zAK (l:=zP7) (n:=k) (by omega)
   rw [iP i,iP ⟨e,i⟩,hx,zAA];rfl
  ·rw [iN i,iN fun h=>i h.2]
 ·rw [iN e,iN fun h=>e h.1]
def zL9 (k:Int):Bs×Bool :=
 if k=1\/k=2\/k=9\/k=28 then ([110,46,46,115,115],true)
 else if k=3\/k=10\/k=24 then ([110,46,46,115,46],true)
 else if k=6\/k=8\/k=26 then ([110,110,111,46,46],true)
 else if k=11 then ([110,105,46,115,46],true)
 else if k=12 then ([110,105,110,46,46],true)
 else if k=13 then ([110,110,46,46,46],true)
 else if k=16 then ([105,46,46,115,115],true)
 else if k=17 then ([46,46,46,115,46],true)
 else if k=19 then ([105,46,46,46,46],true)
 else if k=20\/k=22\/k=25 then ([46,46,46,46,46],true)
 else ([110,46,46,46,46],decide (0<k)&&decide (k<=28))
theorem zgE (fu:Nat) (k:Int):zJx fu k=some (⟨zSz k,(zL9 k).1⟩,(zL9 k).2):=by
 unfold zJx zHM zIs zIt zIu zL9
 simp only [zfu,zAA,zAj,zAS]
 by_cases G:k=1
 ·simp [G]
 by_cases I:k=2
 ·simp [I]
 by_cases J:k=9
 ·simp [J]
 by_cases K:k=28
 ·simp [K]
 by_cases M:k=3
 ·simp [M]
 by_cases N:k=10
 ·simp [N]
 by_cases P:k=24
 ·simp [P]
 by_cases Q:k=6
 ·simp [Q]
 by_cases S:k=8
 ·simp [S]
 by_cases e:k=26
 ·simp [e]
 by_cases h:k=11
 ·simp [h]
 by_cases i:k=12
 ·simp [i]
 by_cases j:k=13
 ·simp [j]
 by_cases q:k=16
 ·simp [q]
 by_cases u:k=17
 ·simp [u]
 by_cases C:k=19
 ·simp [C]
 by_cases D:k=20
 ·simp [D]
 by_cases E:k=22
 ·simp [E]
 by_cases F:k=25
 ·simp [F]
 simp only [G,I,J,K,M,N,P,Q,S,e,h,i,j,q,u,C,D,E,F,or_self,if_false]
 by_cases g:k>0
 ·rw [iP g,decide_eq_true (show 0<k from g),iD]
 ·rw [iN g,decide_eq_false (show ¬0<k from g),jD]
theorem zIh {c:Prop} [Decidable c] {x y:Bs×Bool} (j:∃a b c d e,x.1=[a,b,c,d,e]) (q:∃a b c d e,y.1=[a,b,c,d,e]):∃a b i d e,(if c then x else y).1=[a,b,i,d,e]:=by
 by_cases h:c
 ·rw [iP h];exact j
 ·rw [iN h];exact q
theorem zSO (k:Int):∃a b c d e,(zL9 k).1=[a,b,c,d,e]:=by
 have p:∀(a b c d e:UInt8) (t:Bool),∃h i j q u,(([a,b,c,d,e]:Bs),t).1=[h,i,j,q,u]:=fun a b c d e _=>⟨a,b,c,d,e,rfl⟩
 unfold zL9
 exact zIh (p _ _ _ _ _ _) (zIh (p _ _ _ _ _ _) (zIh (p _ _ _ _ _ _) (zIh (p _ _ _ _ _ _) (zIh (p _ _ _ _ _ _) (zIh (p _ _ _ _ _ _) (zIh (p _ _ _ _ _ _) (zIh (p _ _ _ _ _ _) (zIh (p _ _ _ _ _ _) (zIh (p _ _ _ _ _ _) (p _ _ _ _ _ _))))))))))
def zav (fld:UInt8) (n:Int):Bool :=
 if fld=111 then (n == -1||(n == -2||(n == -3||ltI 400 n)))
 else if fld=110 then (n == -2||(n == -3||ltI 400 n))
 else if fld=105 then decide (-1000<=n)&&decide (n<=1000)
 else n==0
theorem zOS (fld:UInt8) (m:Nat) (e:m<256):(((fld.toNat:Int)=(m:Int))↔fld=UInt8.ofNat m):=by
 constructor
 ·intro h
  apply UInt8.toNat_inj.1
  rw [UInt8.toNat_ofNat']
  omega
 ·intro h
  rw [h,UInt8.toNat_ofNat']
  omega
theorem zXp (fu:Nat) (fld:UInt8) (n:Int):zNG fu (fld.toNat:Int) n=some (zav fld n):=by
 have j1:zMv n ()=some (n == -2||(n == -3||ltI 400 n)):=by
  unfold zMv
  rw [show cnd (decide (n>=0)) (some (decide (n<400))) (some false)=some (ltI 400 n) from zX1 400 n]
  cases n == -2<;>cases n == -3<;>rfl
 have q:((fld.toNat:Int)=111)↔fld=111:=zOS fld 111 (by omega)
 have u:((fld.toNat:Int)=110)↔fld=110:=zOS fld 110 (by omega)
 have C:((fld.toNat:Int)=105)↔fld=105:=zOS fld 105 (by omega)
 unfold zNG zav
 rw [j1]
 simp only [zAj,zAS]
 by_cases e:fld=111
 ·rw [iP (q.2 e),iP e]
  by_cases g:n = -1
  ·rw [iP g,g];rfl
  ·rw [iN g,show (n == -1)=false by simpa using g,e9]
 ·rw [iN fun h=>e (q.1 h),iN e]
  by_cases i:fld=110
  ·rw [iP (u.2 i),iP i]
  ·rw [iN fun h=>i (u.1 h),iN i]
   by_cases j:fld=105
   ·rw [iP (C.2 j),iP j]
    by_cases g:n >= -1000
    ·rw [iP g,decide_eq_true (show -1000<=n from g),iD]
    ·rw [iN g,decide_eq_false (show ¬-1000<=n from g),jD]
   ·rw [iN fun h=>j (C.1 h),iN j]
def zb6 (fld:UInt8) (s:Bs):Bool:=if fld=115 then decide (s.length<=200) && !(decide (0<=Lib.indexByte s 10)) else s==[]
theorem zb7 (fu:Nat) (fld:UInt8) (s:Bs):zF8 fu (fld.toNat:Int) s=some (zb6 fld s):=by
 unfold zF8 zb6
 rw [zQb,zAj,zAS]
 unfold zPK
 rw [zAA]
 by_cases h:fld=115
 ·rw [iP (by rw [h];rfl),iP h]
  by_cases g:s.length<=200
  ·rw [iP (by omega),decide_eq_true g];rfl
  ·rw [iN (by omega),decide_eq_false g];rfl
 ·rw [iN fun e=>h (UInt8.toNat_inj.1 (by have:(115:UInt8).toNat=115:=rfl;omega)),iN h]
def zMS (o:Op):Bool:=match (zL9 o.Kind).1 with
 | [a,b,c,d,e]=>(zL9 o.Kind).2&&(zav a o.A&&(zav b o.B&&(zav c o.C&&(zb6 d o.S&&zb6 e o.T))))
 | _=>false
theorem zQX {l:Bs} {i:Nat} {b:UInt8} (h:l[i]? = some b):chr l (i:Int)=some (b.toNat:Int):=by
 unfold chr
 have hi:=(lF.1 h).1
 rw [iP (by omega)]
 simp [h]
theorem zdC {fu:Nat}:zNF fu o=some (zMS o):=by
 obtain ⟨a,b,c,d,e,hf⟩:=zSO o.Kind
 have h:chr (zL9 o.Kind).1 0=some (a.toNat:Int):=zQX (i:=0) (by rw [hf];rfl)
 have j:chr (zL9 o.Kind).1 1=some (b.toNat:Int):=zQX (i:=1) (by rw [hf];rfl)
 have q:chr (zL9 o.Kind).1 2=some (c.toNat:Int):=zQX (i:=2) (by rw [hf];rfl)
 have u:chr (zL9 o.Kind).1 3=some (d.toNat:Int):=zQX (i:=3) (by rw [hf];rfl)
 have D:chr (zL9 o.Kind).1 4=some (e.toNat:Int):=zQX (i:=4) (by rw [hf];rfl)
 have j2:∀ok,zIJ fu o (⟨zSz o.Kind,(zL9 o.Kind).1⟩,(zL9 o.Kind).2) ok=some (ok&&(zb6 d o.S&&zb6 e o.T)):=fun ok=>by
  unfold zIJ zNH
  simp only
  rw [zAA,u,zAA,zb7,zAA,D,zAA,zb7,zAA]
  cases ok
  ·rfl
  ·cases zb6 d o.S<;>rfl
 have j1:∀ok,zJw fu o (⟨zSz o.Kind,(zL9 o.Kind).1⟩,(zL9 o.Kind).2) ok=some (ok&&(zav b o.B&&(zav c o.C&&(zb6 d o.S&&zb6 e o.T)))):=fun ok=>by
  unfold zJw
  simp only
  rw [j,zAA,zXp,zAA,q,zAA,zXp,zAA]
  simp only [j2]
  cases ok
  ·rfl
  ·cases zav b o.B<;>rfl
 unfold zNF zIv zMS
 rw [zgE,zAA,zAA]
 simp only
 rw [h,zAA,zXp,zAA]
 simp only [j1]
 rw [hf]
 simp only
 cases (zL9 o.Kind).2
 ·rfl
 ·cases zav a o.A<;>rfl
def zVo (fld:UInt8) (v self many:Int):Option Int :=
 if fld=46\/fld=105\/(fld=111/\v = -1) then some v
 else if (if v = -2 then self else if v = -3 then IntKind.i64.wrap (many - 1) else v)<0\/(if v = -2 then self else if v = -3 then IntKind.i64.wrap (many - 1) else v)>=many then none
 else some (if v = -2 then self else if v = -3 then IntKind.i64.wrap (many - 1) else v)
def zZs (o:Op) (self many:Int):Op×Int :=
 if zMS o=true then (match (zL9 o.Kind).1 with
  | [a,b,c,_,_]=>(match zVo a o.A self many with
   | some x=>(match zVo b o.B self many with
    | some y=>(match zVo c o.C self many with
     | some z=>(⟨o.Kind,x,y,z,o.S,o.T,o.Must⟩,0)
     | none=>(⟨0,0,0,0,[],[],false⟩,6))
    | none=>(⟨0,0,0,0,[],[],false⟩,6))
   | none=>(⟨0,0,0,0,[],[],false⟩,6))
  | _=>(⟨0,0,0,0,[],[],false⟩,2))
 else (⟨0,0,0,0,[],[],false⟩,2)
theorem zUU {R:Type} {fld:UInt8} {v self:Int} {no:Option R} {yes:Int->Option R} {j:Unit->Option R} 
  (J:j ()=cnd (v == -2) (cnd (decide (self<0)) no (cnd (decide (self>=many)) no (yes self))) (cnd (v == -3) (cnd (decide (IntKind.i64.wrap (many - 1)<0)) no (cnd (decide (IntKind.i64.wrap (many - 1)>=many)) no (yes (IntKind.i64.wrap (many - 1))))) (cnd (decide (v<0)) no (cnd (decide (v>=many)) no (yes v))))) :
  cnd ((fld.toNat:Int)==46) (yes v) (cnd ((fld.toNat:Int)==105) (yes v) (cnd ((fld.toNat:Int)==111) (cnd (v == -1) (yes v) (j ())) (j ())))=match zVo fld v self many with | some x=>yes x | none=>no:=by
 have C:∀u:Int,cnd (decide (u<0)) no (cnd (decide (u>=many)) no (yes u))=match (if u<0\/u>=many then none else some u) with | some x=>yes x | none=>no:=fun u=>by
  rw [zAS,zAS]
  by_cases i:u<0
  ·rw [iP i,iP (.inl i)]
  ·by_cases e:u>=many
   ·rw [iN i,iP e,iP (.inr e)]
   ·rw [iN i,iN e,iN (fun h=>h.elim i e)]
 have D:j ()=match (if (if v = -2 then self else if v = -3 then IntKind.i64.wrap (many - 1) else v)<0\/(if v = -2 then self else if v = -3 then IntKind.i64.wrap (many - 1) else v)>=many then none else some (if v = -2 then self else if v = -3 then IntKind.i64.wrap (many - 1) else v)) with | some x=>yes x | none=>no:=by
  rw [J,zAj,zAj,C,C,C]
  by_cases e:v = -2
  ·simp only [iP e]
  ·simp only [iN e]
   by_cases q:v = -3
   ·simp only [iP q]
   ·simp only [iN q]
 have F:((fld.toNat:Int)=46)↔fld=46:=zOS fld 46 (by omega)
 have G:((fld.toNat:Int)=105)↔fld=105:=zOS fld 105 (by omega)
 have I:((fld.toNat:Int)=111)↔fld=111:=zOS fld 111 (by omega)
 simp only [zAj]
 unfold zVo
 by_cases i:fld=46
 ·rw [iP (F.2 i),iP (.inl i)]
 ·rw [iN fun h=>i (F.1 h)]
  by_cases e:fld=105
  ·rw [iP (G.2 e),iP (.inr (.inl e))]
  ·rw [iN fun h=>e (G.1 h)]
   by_cases q:fld=111
   ·rw [iP (I.2 q)]
    by_cases E:v = -1
    ·rw [iP E,iP (.inr (.inr ⟨q,E⟩))]
    ·rw [iN E,iN (fun h=>h.elim i fun h=>h.elim e fun h=>E h.2),D]
   ·rw [iN fun h=>q (I.1 h),iN (fun h=>h.elim i fun h=>h.elim e fun h=>q h.1),D]
theorem aim_ok {fu:Nat} {self:Int}:zRE fu o self many=some (zZs o self many):=by
 obtain ⟨a,b,c,d,e,hf⟩:=zSO o.Kind
 have h:chr (zL9 o.Kind).1 0=some (a.toNat:Int):=zQX (i:=0) (by rw [hf];rfl)
 have q:chr (zL9 o.Kind).1 1=some (b.toNat:Int):=zQX (i:=1) (by rw [hf];rfl)
 have u:chr (zL9 o.Kind).1 2=some (c.toNat:Int):=zQX (i:=2) (by rw [hf];rfl)
 have j6:∀x y,zIr o self many (⟨zSz o.Kind,(zL9 o.Kind).1⟩,(zL9 o.Kind).2) x y=some (match zVo c o.C self many with | some z=>(⟨o.Kind,x,y,z,o.S,o.T,o.Must⟩,0) | none=>(⟨0,0,0,0,[],[],false⟩,6)):=fun x y=>by
  unfold zIr
  simp only
  rw [u,zAA]
  refine (zUU (fld:=c) (v:=o.C) (self:=self) (many:=many) (no:=some ((⟨0,0,0,0,[],[],false⟩:Op),(6:Int))) (yes:=fun z=>some ((⟨o.Kind,x,y,z,o.S,o.T,o.Must⟩:Op),(0:Int))) (j:=zMt o self many x y) ?_).trans ?_
  ·unfold zMt zMu;rfl
  ·cases zVo c o.C self many<;>rfl
 have j3:∀x,zIq o self many (⟨zSz o.Kind,(zL9 o.Kind).1⟩,(zL9 o.Kind).2) x=some (match zVo b o.B self many with | some y=>(match zVo c o.C self many with | some z=>(⟨o.Kind,x,y,z,o.S,o.T,o.Must⟩,0) | none=>(⟨0,0,0,0,[],[],false⟩,6)) | none=>(⟨0,0,0,0,[],[],false⟩,6)):=fun x=>by
  unfold zIq
  simp only
  rw [q,zAA]
  refine (zUU (fld:=b) (v:=o.B) (self:=self) (many:=many) (no:=some ((⟨0,0,0,0,[],[],false⟩:Op),(6:Int))) (yes:=fun y=>zIr o self many (⟨zSz o.Kind,(zL9 o.Kind).1⟩,(zL9 o.Kind).2) x y) (j:=zMr o self many (⟨zSz o.Kind,(zL9 o.Kind).1⟩,(zL9 o.Kind).2) x) ?_).trans ?_
  ·unfold zMr zMs;rfl
  ·cases zVo b o.B self many with
   | none=>rfl
   | some y=>exact j6 x y
 unfold zRE zIv zZs
 rw [zdC,zAA]
 cases hr:zMS o with
 | false=>rfl
 | true =>
  rw [iA,zAD,zgE,zAA,zAA,iP rfl]
  simp only
  rw [h,zAA]
  refine (zUU (fld:=a) (v:=o.A) (self:=self) (many:=many) (no:=some ((⟨0,0,0,0,[],[],false⟩:Op),(6:Int))) (yes:=fun x=>zIq o self many (⟨zSz o.Kind,(zL9 o.Kind).1⟩,(zL9 o.Kind).2) x) (j:=zMp o self many (⟨zSz o.Kind,(zL9 o.Kind).1⟩,(zL9 o.Kind).2)) ?_).trans ?_
  ·unfold zMp zMq;rfl
  ·simp only [hf]
   cases zVo a o.A self many with
   | none=>rfl
   | some x =>
    have:=j3 x
    rw [hf] at this
    exact this
end
section
def zKu (f:Forest) (t:zA5):Prop:=t.e≠0\/(t.e=0/\Chg f t.f t.notes)
section
variable {fu:Nat} {w:World} {k:Int} (hfu:2000<fu) (hr:zAG w.Forest=true)
include hfu hr
theorem zhY (hx:x.Attrs.length<=1000):∃r,zDC fu w.Forest x=some r/\(r.2.2≠0\/(r.2.2=0/\Chg w.Forest r.1 [])):=by
 have hs:=zAH hr
 have i:=hs.few
 rw [zX2 (by omega) (hs.fit (by omega)) hx]
 by_cases e:zAG w.Forest=true/\zcd w.Forest x=true
 ·rw [iP e]
  by_cases h:(w.Forest.Nodes.length:Int)=w.Forest.Most
  ·rw [iP h];exact ⟨_,rfl,.inl (by simp)⟩
  ·rw [iN h]
   have hs2:=zAH (zWn hr e.2 h)
   exact ⟨_,rfl,.inr ⟨rfl,.of_ext hr (zce _ _) (by have:=hs2.few;simp only at *;omega) fun y hy=>by have:=hs2.kids y hy;omega⟩⟩
 ·rw [iN e];exact ⟨_,rfl,.inl (by simp)⟩
theorem zeQ (hx:x.Attrs.length<=1000) (E:InN w.Forest.Nodes x.Doc) (G:x.Name.length<=1000):∃t h,zBt fu x ⟨w,k⟩=some (t,h)/\h.World=w/\zKu w.Forest t:=by
 obtain ⟨y,hy⟩:=zAK E
 have fin:∃t h,(bnd (zDp fu x.Name) fun u=>bnd (zDC fu w.Forest (⟨x.Kind,u,x.Is,x.Data,x.Attrs,x.Parent,x.Kids,x.Host,x.Under,x.Doc⟩:Node)) fun j=>some ((⟨j.1,[],j.2.2⟩:zA5),(⟨w,j.2.1⟩:zAL)))=some (t,h)/\h.World=w/\zKu w.Forest t:=by
  rw [zPT (by omega) (by omega),zAA]
  obtain ⟨r,q,D⟩:=zhY (fu:=fu) hfu hr (x:=⟨x.Kind,x.Name.map zGc,x.Is,x.Data,x.Attrs,x.Parent,x.Kids,x.Host,x.Under,x.Doc⟩) hx
  rw [q,zAA]
  exact ⟨_,_,rfl,rfl,D⟩
 unfold zBt
 simp only
 rw [hy,zAA,zAW,zSN (by omega),zAA,zHW (by omega),zAA,zAW,zAj]
 have i:∀e:Int,e≠0->∃t h,some ((⟨(⟨[],0⟩:Forest),[],e⟩:zA5),(⟨w,k⟩:zAL))=some (t,h)/\h.World=w/\zKu w.Forest t:=fun e F=>⟨_,_,rfl,rfl,.inl F⟩
 by_cases C:y.Kind=0
 ·rw [iP C]
  by_cases q:x.Kind=1
  ·rw [iP q]
   split
   ·cases (x.Is==([]:Bs)) with
    | true=>exact fin
    | false =>
     rw [jL,zAO]
     cases zEP x.Is with
     | true=>exact fin
     | false=>exact i 4 (by omega)
   ·exact i 4 (by omega)
  ·rw [iN q];exact fin
 ·rw [iN C];exact i 5 (by omega)
omit hfu hr in
theorem zJD {m:Option (Forest×List Note×Int)} (h:∃r,m=some r/\(r.2.2≠0\/(r.2.2=0/\Chg w.Forest r.1 r.2.1))):∃t j,(bnd m fun e=>bnd (zAg fu e.1 e.2.1 e.2.2) fun i=>some (i,(⟨w,k⟩:zAL)))=some (t,j)/\j.World=w/\zKu w.Forest t:=by
 obtain ⟨r,rfl,h⟩:=h
 unfold zAg
 rw [zAA,zAA]
 exact ⟨_,_,rfl,rfl,h⟩
theorem zbT (X:InN w.Forest.Nodes o.A) (hS:o.S.length<=300):∃t h,zAk fu o ⟨w,k⟩=some (t,h)/\h.World=w/\zKu w.Forest t:=by
 have i:1000<fu:=by omega
 have E:∃t h,(bnd (zDD fu w.Forest o.A o.B o.C) fun e=>bnd (zAg fu e.1 e.2.1 e.2.2) fun j=>some (j,(⟨w,k⟩:zAL)))=some (t,h)/\h.World=w/\zKu w.Forest t:=by
  obtain ⟨r,q,u⟩:=zST hr i o.A o.B o.C
  exact zJD ⟨r,q,Chg.of_hand hr u (by split<;>omega)⟩
 have I:∃t h,(bnd (zDc fu w.Forest o.A) fun e=>bnd (zAg fu e.1 e.2.1 e.2.2) fun j=>some (j,(⟨w,k⟩:zAL)))=some (t,h)/\h.World=w/\zKu w.Forest t:=by
  obtain ⟨r,q,u⟩:=zWk hr i o.A
  exact zJD ⟨r,q,Chg.of_hand hr u (by omega)⟩
 have J:∃t h,(bnd (zEr fu w.Forest o.A o.B o.C) fun e=>bnd (zAg fu e.1 e.2.1 e.2.2) fun j=>some (j,(⟨w,k⟩:zAL)))=some (t,h)/\h.World=w/\zKu w.Forest t:=by
  obtain ⟨r,q,u⟩:=zWm hr i o.A o.B o.C
  exact zJD ⟨r,q,Chg.of_hand hr u (by omega)⟩
 have set:∃t h,(bnd (zLB fu w.Forest o.A o.S o.T) fun e=>bnd (zAg fu e.1 e.2.1 e.2.2) fun j=>some (j,(⟨w,k⟩:zAL)))=some (t,h)/\h.World=w/\zKu w.Forest t:=by
  obtain ⟨r,q,u⟩:=zfW hr i (s:=o.S) (by omega) (by omega) o.A o.T
  exact zJD ⟨r,q,Chg.of_attrs hr u⟩
 have N:∃t h,(bnd (zIn fu w.Forest o.A o.S) fun e=>bnd (zAg fu e.1 e.2.1 e.2.2) fun j=>some (j,(⟨w,k⟩:zAL)))=some (t,h)/\h.World=w/\zKu w.Forest t:=by
  obtain ⟨r,q,u⟩:=zal hr i (s:=o.S) (by omega) (by omega) o.A
  exact zJD ⟨r,q,Chg.of_attrs hr u⟩
 have M:∃t h,(bnd (zHj fu w.Forest o.A o.S o.B) fun e=>bnd (zAg fu e.1 e.2.1 e.2.2) fun j=>some (j,(⟨w,k⟩:zAL)))=some (t,h)/\h.World=w/\zKu w.Forest t:=by
  obtain ⟨r,q,u⟩:=zYQ hr i (s:=o.S) (by omega) (by omega) o.A o.B
  exact zJD ⟨r,q,Chg.of_attrs hr u⟩
 have K:∃t h,(bnd (zJ5 fu w.Forest o.A o.B) fun e=>bnd (zAg fu e.1 e.2.1 e.2.2) fun j=>some (j,(⟨w,k⟩:zAL)))=some (t,h)/\h.World=w/\zKu w.Forest t:=zJD (zdP hr i o.A o.B)
 have D:∃t h,(bnd (zI3 fu w.Forest o.A) fun e=>bnd (zAg fu e.1 e.2.1 e.2.2) fun j=>some (j,(⟨w,k⟩:zAL)))=some (t,h)/\h.World=w/\zKu w.Forest t:=zJD (zaD hr i o.A)
 have two:∀(b:Bool) (F G:Option (zA5×zAL)),(∃t h,F=some (t,h)/\h.World=w/\zKu w.Forest t)->(∃t h,G=some (t,h)/\h.World=w/\zKu w.Forest t)->∃t h,cnd b F G=some (t,h)/\h.World=w/\zKu w.Forest t:=fun b F G Q V=>by
  cases b
  ·exact V
  ·exact Q
 have j3:∀b,∃t h,zDz fu o ⟨w,k⟩ b=some (t,h)/\h.World=w/\zKu w.Forest t:=fun b=>by
  unfold zDz
  exact two _ _ _ set (two _ _ _ N (two _ _ _ M (two _ _ _ K D)))
 have j2:∀b,∃t h,zDy fu o ⟨w,k⟩ b=some (t,h)/\h.World=w/\zKu w.Forest t:=fun b=>by
  unfold zDy
  exact two _ _ _ I (two _ _ _ J (two _ _ _ (j3 _) (j3 _)))
 have j1:∀b,∃t h,zDx fu o ⟨w,k⟩ b=some (t,h)/\h.World=w/\zKu w.Forest t:=fun b=>by
  unfold zDx
  exact two _ _ _ E (two _ _ _ (j2 _) (j2 _))
 have mk:∀x:Node,x.Attrs.length<=1000->x.Doc=o.A->x.Name.length<=1000->∃t h,(bnd (zBt fu x ⟨w,k⟩) fun P=>some (P.1,P.2))=some (t,h)/\h.World=w/\zKu w.Forest t:=fun x hx hd hn=>by
  obtain ⟨t,h,q,u,W⟩:=zeQ (k:=k) hfu hr hx (by rw [hd];exact X) hn
  rw [q,zAA]
  exact ⟨_,_,rfl,u,W⟩
 unfold zAk
 simp only
 refine two _ _ _ (mk _ (by simp) rfl (by simp only;omega)) (two _ _ _ (mk _ (by simp) rfl (by simp)) (two _ _ _ (mk _ (by simp) rfl (by simp)) (two _ _ _ ?_ (two _ _ _ ?_ (two _ _ _ ?_ (two _ _ _ (j1 _) (j1 _)))))))
 ·obtain ⟨r,q,u⟩:=zXO hr i o.A
  rw [q,zAA]
  exact ⟨_,_,rfl,rfl,u⟩
 ·obtain ⟨r,q,u⟩:=zbe hr i o.A o.C (o.B != 0)
  rw [q,zAA]
  exact ⟨_,_,rfl,rfl,Chg.of_copy hr u⟩
 ·obtain ⟨r,q,u⟩:=zcJ hr i o.A
  rw [q,zAA]
  exact ⟨_,_,rfl,rfl,u⟩
end
def zhg (f:Forest) (e:Nat) (d:Desk) (due:List Due):Prop:=due.length<=400/\∀u∈due,∃(n:Nat) (x:Node),u.Node=(n:Int)/\e<=n/\f.Nodes[n]? = some x/\zIQ x d ≠ -1/\u.Todo=zQp (zIQ x d)
theorem za4.same {w:World} {l:List Note} (h:za4 w g l v):v.Forest=g/\v.Desk=w.Desk/\v.Builds=w.Builds/\v.Classes=w.Classes:=by
 obtain ⟨i,e,rfl,_⟩:=h
 exact ⟨rfl,rfl,rfl,rfl⟩
theorem do_l {fu B:Nat} {w G:World} {r4:zA5×zAL} {e:Int} (hfu:B+100000<fu) (hB:B+100000<=1000000000) (hS:WS B G) (hR:WR G) (P:G.Forest=r4.1.f) (J:G.Desk=w.Desk) :
  ∀(j i K:Nat) (due:List Due),i+j=r4.1.f.Nodes.length->j<K->due.length<=i->zhg r4.1.f w.Forest.Nodes.length w.Desk due->w.Forest.Nodes.length<=i->∃C,zD0 fu r4 (G,e) K ((i:Int),due)=some (0,⟨zQf G C,r4.2.node⟩)/\zhg r4.1.f w.Forest.Nodes.length w.Desk C:=by
 have hr:zAG r4.1.f=true:=by rw [<- P];exact hR.fr
 have N:=(zAH hr).few
 intro j
 induction j with
 | zero =>
  intro i K due hi W X D hw
  obtain ⟨K,rfl⟩:∃M,K=M+1:=⟨K - 1,by omega⟩
  obtain rfl:i=r4.1.f.Nodes.length:=by omega
  simp only [zD0]
  rw [zAN (by simp)]
  unfold zBe
  simp only
  rw [zVc (B:=B) (by have:=D.1;omega) (by have:=D.1;omega) hS hR (fun u F=>?_),zAA,zAA]
  ·exact ⟨due,rfl,D⟩
  ·obtain ⟨n,x,I,_,S,T,V⟩:=D.2 u F
   refine ⟨?_,?_⟩
   ·rw [P]
    unfold InN
    have:=(lF.1 S).1
    omega
   ·rw [V,J]
    unfold zIY zQp
    simp only [dD,lM]
    right
    exact ⟨rfl,zKB.2 (zPF.resolve_left T)⟩
 | succ j Q =>
  intro i K due hi W X D hw
  obtain ⟨K,rfl⟩:∃M,K=M+1:=⟨K - 1,by omega⟩
  have h:i<r4.1.f.Nodes.length:=by omega
  have E:=hS.defs
  have q:=hS.waits
  simp only [zD0]
  rw [zAP (by simpa using h),zay (by omega) E q hr,zAT h,zAA,zAW]
  simp only
  rw [zAX (by omega)]
  simp only [zAA]
  by_cases I:zIQ r4.1.f.Nodes[i] G.Desk = -1
  ·rw [iP I]
   exact Q (i+1) K due (by omega) (by omega) (by omega) D (by omega)
  ·rw [iN I,zAi (by simp only [cP,eK];omega),zAA]
   refine Q (i+1) K _ (by omega) (by omega) (by simp only [eR,cP,eK];omega) ⟨by simp only [eR,cP,eK];omega,fun u F=>?_⟩ (by omega)
   rcases cA.1 F with F | F
   ·exact D.2 u F
   ·rw [e8.1 F]
    rw [J] at I ⊢
    exact ⟨i,_,rfl,hw,lC h,I,rfl⟩
end
section
theorem zbh {fu:Nat} {t:Due->Option Bool} {p:Due->Bool} {l:List Due} (ht:∀x∈l,t x=some (p x)) (hf:l.length<fu) (hb:l.length<=1000000):zCx fu t l=some (l.filter fun x => !(p x)):=by
 have hi:zA2 fu t l=some (zKo l p):=by
  unfold zA2
  refine zVV (L:=zAc t l) l p (fun i h k=>?_) (fun k=>?_) hf
  ·simp only [zAc]
   rw [zAP (by simpa using h),zAT h,zAA,ht _ (gC h),zAA,zAX (by omega),zAA]
   cases p l[i]<;>rfl
  ·simp only [zAc]
   rw [zAN (by simp)]
 unfold zCx
 rw [hi,zAA,zAj]
 cases e:l.any p with
 | false =>
  rw [iP (zSo e)]
  congr 1
  exact (jM.2 fun x hx=>by
   have:=(List.any_eq_false.1 e) x hx
   simpa using this).symm
 | true =>
  have hk:∃(k0:Nat) (h:k0<l.length),zKo l p=(k0:Int)/\p l[k0]=true/\∀x∈l.take k0,p x=false:=by
   have T:l.findIdx p<l.length:=List.findIdx_lt_length.2 (List.any_eq_true.1 e)
   refine ⟨l.findIdx p,T,by unfold zKo;rw [iP e],List.findIdx_getElem,fun x hx=>?_⟩
   obtain ⟨i,hi,rfl⟩:=iW hx
   rw [List.getElem_take]
   have P:i<l.findIdx p:=by simp at hi;omega
   exact List.not_of_lt_findIdx P
  obtain ⟨k0,h,F,h2,h3⟩:=hk
  rw [F,iN (by omega),zAX (by omega),zAA]
  have W:∀{m:List Due},(∀x∈m,x∈l)->∀x∈m,t x=some (p x):=fun E x hx=>ht x (E x hx)
  -- all that stands in the list stood in it
  have X:∀(d i j K:Nat) (m:List Due),(∀x∈m,x∈l)->m.length=l.length->j+d=l.length->i<j->d<K->m.drop j=l.drop j->m.take i=(l.take j).filter (fun x => !(p x))->zAq t K ((i:Int),(j:Int),m)=some (l.filter fun x => !(p x)):=by
   intro d
   induction d with
   | zero =>
    intro i j K m q E hj Q hK N C
    obtain ⟨K,rfl⟩:∃J,K=J+1:=⟨K - 1,by omega⟩
    obtain rfl:j=m.length:=by omega
    simp only [zAq]
    rw [zAN (by simp),eO,eO,show zNy m.length (i:Int) (m.length:Int)=some () from iP ⟨by omega,by omega,by omega⟩,zAA,show zf5 m.length i m.length=some () from iP ⟨by omega,rfl⟩,zAA]
    have V:piece (zQa m i (⟨0,(⟨0,0,[],false,false,[],[],0,0,false⟩:Todo)⟩:Due)) 0 (i:Int)=some (m.take i):=by
     unfold piece zQa
     rw [iP ⟨by omega,by omega,by simp;omega⟩]
     congr 1
     simp only [Int.toNat_zero,List.drop_zero,eO,Nat.sub_zero]
     rw [iV (by simp;omega),jI,Nat.min_self]
    rw [V,zAA,C,E,iI]
   | succ d ih =>
    intro i j K m q E hj Q hK N C
    obtain ⟨K,rfl⟩:∃J,K=J+1:=⟨K - 1,by omega⟩
    have u:j<m.length:=by omega
    have D:j<l.length:=by omega
    have S:i<m.length:=by omega
    have M:m[j]=l[j]:=by
     have F:(m.drop j)[0]? = (l.drop j)[0]? := by rw [N]
     simp only [cD,Nat.add_zero] at F
     rw [lC u,lC D] at F
     exact lJ.inj F
    have G:m.drop (j+1)=l.drop (j+1):=by
     rw [<- k9,<- k9,N]
    simp only [zAq]
    rw [zAP (by simpa using u),zAT u,zAA,W q _ (gC u),zAA,zAT S,zAX (by omega),zAX (by omega),eO]
    simp only [zAA]
    cases I:p m[j] with
    | true =>
     refine ih i (j+1) K m q E (by omega) (by omega) (by omega) G ?_
     rw [C,iE D,jK]
     rw [M] at I
     simp [I]
    | false =>
     refine ih (i+1) (j+1) K (m.set i m[j]) (fun x hx=>?_) (by simpa using E) (by omega) (by omega) (by omega) ?_ ?_
     ·rcases dT hx with hx | rfl
      ·exact q x hx
      ·exact q _ (gC u)
     ·rw [List.drop_set,iP (by omega),G]
     ·rw [iE (by simp;omega),iE D,jK,List.getElem_set_self,kU (cB _),C,M]
      rw [M] at I
      simp [I]
  refine X (l.length - (k0+1)) k0 (k0+1) fu l (fun _ h=>h) rfl (by omega) (by omega) (by omega) rfl ?_
  rw [iE h,jK]
  simp only [kZ,h2,iA,dL,↓reduceIte,List.filter_nil,gI]
  exact (jM.2 fun x hx=>by rw [h3 x hx];rfl).symm
def DoneA (w v:World):Prop:=∃due,v=zQf w due/\due.length<=1000/\(∀u∈due,InN w.Forest.Nodes u.Node/\zIY w.Desk.Defs.length u.Todo=true/\3<=u.Todo.Kind)/\(w.Desk.Defs=[]->due=[])
def DoneW (w v:World) (s:Bs) (n:Int):Prop:=(zN5 w.Desk s).2.2.2=0/\n=(zN5 w.Desk s).2.1/\v=⟨w.Forest,w.States,(zN5 w.Desk s).1,w.Line,if (zN5 w.Desk s).2.2.1 = -1 then w.Tasks else w.Tasks++[⟨2,(zN5 w.Desk s).2.1,(zN5 w.Desk s).2.2.1⟩],w.Builds,w.Classes⟩
section
variable {fu B:Nat} {w:World} {k:Int} (hfu:B+300000<fu) (hB:B+300000<=900000000) (hS:WS B w) (hR:WR w)
include hfu hB hS hR
theorem zZ9 (hl:due.length<=1000) (e:∀u∈due,InN w.Forest.Nodes u.Node/\zIY w.Desk.Defs.length u.Todo=true):zBe fu due ⟨w,k⟩=some (0,⟨zQf w due,k⟩):=by
 unfold zBe
 simp only
 rw [zVc (B:=B) (by omega) (by omega) hS hR e,zAA]
omit hfu hB hS hR in
theorem zdS (i:∀j∈L,InN w.Forest.Nodes j):∀u∈zPe w.Desk (zTE w.Forest.Nodes L),InN w.Forest.Nodes u.Node/\zIY w.Desk.Defs.length u.Todo=true/\3<=u.Todo.Kind:=fun u D=>by
 unfold zPe zTE at D
 obtain ⟨q,F,h⟩:=kM.1 D
 obtain ⟨j,E,e⟩:=kM.1 F
 have C:InN w.Forest.Nodes q.1:=by
  split at e
  ·split at e
   ·cases e;exact i j E
   ·cases e
  ·cases e
 split at h
 ·cases h
 ·rename_i hf
  cases h
  refine ⟨C,?_,by simp [zQp]⟩
  unfold zIY zQp
  simp only [dD,lM]
  right
  exact ⟨rfl,zKB.2 (zPF.resolve_left hf)⟩
theorem ask_ok (K:InN w.Forest.Nodes o.A) :
  (o.Kind=17/\∃e i,zE3 fu o ⟨w,k⟩=some (e,true,i)/\(e≠0\/(e=0/\DoneW w i.World o.S i.node))) \/
  ((o.Kind=18\/o.Kind=23\/o.Kind=24)/\∃e i,zE3 fu o ⟨w,k⟩=some (e,true,i)/\(e≠0\/(e=0/\DoneA w i.World/\i.node=k))) \/
  (o.Kind≠17/\o.Kind≠18/\o.Kind≠23/\o.Kind≠24/\zE3 fu o ⟨w,k⟩=some (0,false,⟨w,k⟩)):=by
 have hr:=hR.fr
 have V:=zAH hr
 have X:=V.few
 obtain ⟨y,hy⟩:=zAK K
 have enl:∀due:List Due,due.length<=1000->(∀u∈due,InN w.Forest.Nodes u.Node/\zIY w.Desk.Defs.length u.Todo=true/\3<=u.Todo.Kind)->(w.Desk.Defs=[]->due=[])->∃e i,(bnd (zBe fu due ⟨w,k⟩) fun r7=>some (r7.1,true,r7.2))=some (e,true,i)/\(e≠0\/(e=0/\DoneA w i.World/\i.node=k)):=fun due T M W=>by
  rw [zZ9 hfu hB hS hR T (fun u h=>⟨(M u h).1,(M u h).2.1⟩),zAA]
  exact ⟨_,_,rfl,.inr ⟨rfl,⟨due,rfl,T,M,W⟩,rfl⟩⟩
 unfold zE3
 simp only
 rw [hy,zAA]
 simp only [zAj,zAW]
 by_cases C:o.Kind=17
 ·left
  refine ⟨C,?_⟩
  rw [iP C]
  unfold zJH
  simp only
  rw [zeG (by omega) hS.defs hS.waits,zAA,zAW,zAW]
  by_cases G:(zN5 w.Desk o.S).2.2.2=0
  ·have ht:=hS.tasks
   rw [iP G]
   by_cases N:(zN5 w.Desk o.S).2.2.1 = -1
   ·rw [iP N,zAA]
    exact ⟨_,_,rfl,.inr ⟨rfl,G,rfl,by rw [iP N]⟩⟩
   ·rw [iN N,zbV (by omega),zAA,zAi (by simp only [cP,eK];omega),zAA,zAA]
    exact ⟨_,_,rfl,.inr ⟨rfl,G,rfl,by rw [iN N]⟩⟩
  ·rw [iN G,zAA]
   exact ⟨_,_,rfl,.inl G⟩
 ·rw [iN C]
  right
  by_cases D:o.Kind=18
  ·left
   refine ⟨.inl D,?_⟩
   rw [iP D,zfh (by omega) hS.defs hS.waits hr K,zAA]
   have hal:=(zAQ hr).all_len K
   have T:(zTE w.Forest.Nodes (zGl w.Forest.Nodes o.A)).length<=(zGl w.Forest.Nodes o.A).length:=kL _ _
   have M:(zPe w.Desk (zTE w.Forest.Nodes (zGl w.Forest.Nodes o.A))).length<=(zTE w.Forest.Nodes (zGl w.Forest.Nodes o.A)).length:=kL _ _
   have J:=zdS (L:=zGl w.Forest.Nodes o.A) fun j hj=>((zAQ hr).all_in o.A K j hj).1
   rw [zbh (p:=fun u=>match idx w.States u.Node with | some s=>s.Phase != 1 | none=>false) (fun u h=>by
    obtain ⟨s,hs⟩:=zAK (l:=w.States) (n:=u.Node) (by have:=(J u h).1;rw [hR.st];exact this)
    unfold zC0
    simp only
    rw [hs,zAA]) (by omega) (by omega),zAA]
   refine enl _ (eM (List.length_filter_le _ _) (by omega)) (fun u h=>J u (iJ.1 h).1) fun hd=>?_
   have:zPe w.Desk (zTE w.Forest.Nodes (zGl w.Forest.Nodes o.A))=[]:=by
    rw [List.eq_nil_iff_forall_not_mem]
    intro u h
    have W:=(J u h).2.1
    unfold zPe at h
    obtain ⟨q,_,G⟩:=kM.1 h
    split at G
    ·cases G
    ·rename_i hf
     have:=zPF.resolve_left hf
     rw [hd] at this
     simp only [eK] at this
     omega
   rw [this];rfl
  ·rw [iN D]
   by_cases E:o.Kind=23
   ·left
    refine ⟨.inr (.inl E),?_⟩
    rw [iP E]
    split
    ·cases (y.Name==([102,111,114,109]:Bs)) with
     | false=>exact ⟨_,_,rfl,.inl (by omega)⟩
     | true =>
      rw [iA,zAD]
      obtain ⟨due,P,g2,I,Q⟩:=zfR (fu:=fu) (f:=w.Forest) (st:=w.States) (d:=w.Desk) (cs:=w.Classes) (by omega) hr hS.defs hS.waits hR.st o.A
      rw [P,zAA]
      exact enl due (by omega) (fun u h=>⟨(I u h).1,by unfold zIY;simp only [dD,lM,decide_eq_true_eq];left;have:=(I u h).2;omega,by have:=(I u h).2;omega⟩) Q
    ·exact ⟨_,_,rfl,.inl (by omega)⟩
   ·rw [iN E]
    by_cases F:o.Kind=24
    ·left
     refine ⟨.inr (.inr F),?_⟩
     rw [iP F]
     split
     ·obtain ⟨due,P,g2,I,Q⟩:=zab (fu:=fu) (f:=w.Forest) (st:=w.States) (d:=w.Desk) (cs:=w.Classes) (by omega) hr hS.defs hS.waits hR.st K o.S
      rw [P,zAA]
      exact enl due (by omega) (fun u h=>⟨by rw [(I u h).1];exact K,by unfold zIY;simp only [dD,lM,decide_eq_true_eq];left;have:=(I u h).2;omega,by have:=(I u h).2;omega⟩) Q
     ·exact ⟨_,_,rfl,.inl (by omega)⟩
    ·right
     rw [iN F]
     exact ⟨C,D,E,F,rfl⟩
end
end
section
def zSd (k:Int):Bool := !(k==1||(k==16||(k==19||(k==20||(k==21||(k==22||k==25))))))&&(decide (0<k)&&decide (k<=28))
theorem zhf {fu:Nat} {k:Int}:zE2 fu k=some (zSd k):=by
 have j1:∀t,zBs k t=some (!t&&(decide (0<k)&&decide (k<=28))):=fun t=>by
  unfold zBs
  rw [zAS]
  cases t
  ·rw [zAD]
   by_cases h:k>0
   ·rw [iP h,decide_eq_true (show 0<k from h)];rfl
   ·rw [iN h,decide_eq_false (show ¬0<k from h)];rfl
  ·rfl
 unfold zE2 zSd
 simp only [j1]
 cases k==1<;>cases k==16<;>cases k==19<;>cases k==20<;>cases k==21<;>cases k==22<;>cases k==25<;>rfl
theorem zUh {a b:Op}:zf8 a b=true↔a=b:=by
 unfold zf8
 cases a;cases b
 simp
theorem aim_in (Q:1<=many) (h:(zZs o (-1) many).2=0) (j:(zZs o (-1) many).1=o) (M:zSd o.Kind=true):0<=o.A/\o.A<many:=by
 unfold zZs at h j
 by_cases hr:zMS o=true
 ·rw [iP hr] at h j
  obtain ⟨a,b,c,d,e,hf⟩:=zSO o.Kind
  rw [hf] at h j
  simp only at h j
  have q:=hr
  unfold zMS at q
  rw [hf] at q
  simp only [lM] at q
  have K:a=110\/a=46:=by
   have E:∀k:Int,zSd k=true->((zL9 k).1.head? = some 110\/(zL9 k).1.head? = some 46):=fun k G=>by
    unfold zL9
    unfold zSd at G
    simp only [lM,Bool.not_eq_true',iY,beq_eq_false_iff_ne] at G
    have i:∀{c:Prop} [Decidable c] {x y:Bs×Bool},(c->x.1.head? = some 110\/x.1.head? = some 46)->(¬c->y.1.head? = some 110\/y.1.head? = some 46)->((if c then x else y).1.head? = some 110\/(if c then x else y).1.head? = some 46):=fun {c} _ {x y} I J=>by
     by_cases D:c
     ·rw [iP D];exact I D
     ·rw [iN D];exact J D
    refine i (fun _=>.inl rfl) fun _=>i (fun _=>.inl rfl) fun _=>i (fun _=>.inl rfl) fun _=>i (fun _=>.inl rfl) fun _=>i (fun _=>.inl rfl) fun _=>i (fun _=>.inl rfl) fun _=>i (fun h=>?_) fun _=>i (fun _=>.inr rfl) fun _=>i (fun h=>?_) fun _=>i (fun _=>.inr rfl) fun _=>.inl rfl
    ·omega
    ·omega
   have:=E o.Kind M
   rw [hf] at this
   simpa using this
  rcases K with rfl | rfl
  ·-- a node
   cases hx:zVo 110 o.A (-1) many with
   | none=>rw [hx] at h;simp at h
   | some x =>
    rw [hx] at h j
    simp only at h j
    have P:0<=x/\x<many:=by
     unfold zVo at hx
     rw [iN (by simp)] at hx
     generalize (if o.A = -2 then (-1:Int) else if o.A = -3 then IntKind.i64.wrap (many - 1) else o.A)=u at hx
     split at hx
     ·cases hx
     ·have:=lJ.inj hx
      omega
    have N:x=o.A:=by
     cases hy:zVo b o.B (-1) many with
     | none=>rw [hy] at h;simp at h
     | some y =>
      rw [hy] at h j
      simp only at h j
      cases hz:zVo c o.C (-1) many with
      | none=>rw [hz] at h;simp at h
      | some z =>
       rw [hz] at j
       simp only at j
       rw [<- j]
    omega
  ·have F:=q.2.1
   unfold zav at F
   simp only [show ¬((46:UInt8)=111) by decide,show ¬((46:UInt8)=110) by decide,show ¬((46:UInt8)=105) by decide,if_false,beq_iff_eq] at F
   omega
 ·rw [iN hr] at h
  simp at h
section
variable {fu B:Nat} {w:World} (hfu:B+3000000<fu) (hB:B+3000000<=900000000) (hS:WS B w) (hR:WR w)
include hfu hB hS hR
theorem hdo_c (hk:o.Kind≠17/\o.Kind≠18/\o.Kind≠23/\o.Kind≠24) (V:InN w.Forest.Nodes o.A) (hs:o.S.length<=300):∃t u,zAk fu o ⟨w,-1⟩=some (t,u)/\zKu w.Forest t/\∃e C,zGr fu o ⟨w,-1⟩=some (e,C) /\
  ((e≠0/\(t.e≠0\/¬(zAG t.f=true/\zG8 w t.f)))\/(e=0/\t.e=0/\C.node=u.node/\zAG t.f=true/\zG8 w t.f/\∃j i,za4 w t.f t.notes j/\zhg t.f w.Forest.Nodes.length w.Desk i/\C.World=zQf j i)):=by
 obtain ⟨t,u,Q,g2,T⟩:=zbT (fu:=fu) (k := -1) (by omega) hR.fr V hs
 refine ⟨t,u,Q,T,?_⟩
 unfold zGr
 rcases ask_ok (fu:=fu) (B:=B) (k := -1) (by omega) (by omega) hS hR V with ⟨I,_⟩ | ⟨h,_⟩ | ⟨_,_,_,_,h1⟩
 ·exact absurd I hk.1
 ·omega
 rw [h1,zAA]
 simp only [zAD]
 rw [Q,zAA,zAW]
 rcases T with D | ⟨D,W⟩
 ·rw [iN D]
  exact ⟨_,_,rfl,.inl ⟨D,.inl D⟩⟩
 ·rw [iP D,g2]
  have hcl:=W.len
  have J:=W
  obtain ⟨_,_,_,_,_,_,_,_,_,_,_,_,_,K,M⟩:=J
  obtain ⟨j,e1,t1,t2⟩:=zfx (fu:=fu) (B:=B) (w:=w) (f:=t.f) (notes:=t.notes) (by omega) (by omega) (by omega) hS hR K M
  simp only
  rw [t1,zAA,zAW]
  rcases t2 with ⟨q1,F,E⟩ | ⟨rfl,F,E,G⟩
  ·rw [iN q1]
   exact ⟨_,_,rfl,.inl ⟨q1,.inr E⟩⟩
  ·rw [iP rfl,zAW,zAW]
   have P:=zNZ hR F E G
   have N:=zQL hS hR F E G
   have q:=G.same
   have hfw:=E.2.1
   have X:=(zAH F).few
   obtain ⟨i,d1,d2⟩:=do_l (fu:=fu) (B:=B+t.notes.length+1200) (w:=w) (r4:=(t,u)) (e:=0) (by omega) (by omega) N P q.1 q.2.1 (t.f.Nodes.length - w.Forest.Nodes.length) w.Forest.Nodes.length fu [] (by simp only;omega) (by omega) (by simp) ⟨by simp,by simp⟩ (cB _)
   have hj:zHd fu (0,false,⟨w,-1⟩) (t,u) (j,0) ()=some (0,⟨zQf j i,u.node⟩):=d1
   have two:∀m:Option (Int×zAL),(m=some (0,⟨zQf j i,u.node⟩)\/m=some (0,⟨zQf j [],u.node⟩))->∃e C,m=some (e,C)/\((e≠0/\(t.e≠0\/¬(zAG t.f=true/\zG8 w t.f)))\/(e=0/\t.e=0/\C.node=u.node/\zAG t.f=true/\zG8 w t.f/\∃j i,za4 w t.f t.notes j/\zhg t.f w.Forest.Nodes.length w.Desk i/\C.World=zQf j i)):=fun m hm=>by
    rcases hm with rfl | rfl
    ·exact ⟨_,_,rfl,.inr ⟨rfl,D,rfl,F,E,j,i,G,d2,rfl⟩⟩
    ·exact ⟨_,_,rfl,.inr ⟨rfl,D,rfl,F,E,j,[],G,⟨by simp,by simp⟩,rfl⟩⟩
   refine two _ ?_
   rw [hj]
   split
   ·exact .inl rfl
   ·split
    ·exact .inl rfl
    ·exact .inr rfl
theorem do_any {Q:Int->zAL->Prop} (I:InN w.Forest.Nodes o.A->∃e i,zGr fu o ⟨w,-1⟩=some (e,i)/\Q e i):∃v n e,zFj fu w o=some (v,n,e) /\
  ((e≠0/\v=w/\n = -1/\(zZs o (-1) (w.Forest.Nodes.length:Int)=(o,0)->zSd o.Kind=true->∃i,Q e i))\/(e=0/\zSd o.Kind=true/\zMS o=true/\∃i,Q 0 i/\v=i.World/\n=i.node)):=by
 have E:=zAb hR.fr
 unfold zFj zK9
 rw [aim_ok,zAA]
 by_cases j:(zZs o (-1) (w.Forest.Nodes.length:Int)).2=0
 ·rw [zAW,iP j]
  cases u:zf8 (zZs o (-1) (w.Forest.Nodes.length:Int)).1 o with
  | false =>
   refine ⟨_,_,_,rfl,.inl ⟨by omega,rfl,rfl,fun h=>?_⟩⟩
   rw [h,zUh.2 rfl] at u;cases u
  | true =>
   rw [iA,zAD,zVn hS (by omega) (by omega),zAA,WR.iff.2 hR,iA,zAD,zhf,zAA]
   have C:zMS o=true:=by
    cases e:zMS o with
    | true=>rfl
    | false =>
     unfold zZs at j
     rw [iN (by rw [e];simp)] at j
     simp at j
   by_cases q:zSd o.Kind=true
   ·have G:=aim_in (many:=(w.Forest.Nodes.length:Int)) (by omega) j (zUh.1 u) q
    obtain ⟨e,i,F,D⟩:=I G
    rw [show (!zSd o.Kind)=false by rw [q];rfl,zAD,F,zAA,zAW]
    by_cases h:e=0
    ·subst h;rw [iP rfl];exact ⟨_,_,_,rfl,.inr ⟨rfl,q,C,i,D,rfl,rfl⟩⟩
    ·rw [iN h];exact ⟨_,_,_,rfl,.inl ⟨h,rfl,rfl,fun _ _=>⟨i,D⟩⟩⟩
   ·rw [show (!zSd o.Kind)=true by rw [iL.2 q];rfl,zAO]
    exact ⟨_,_,_,rfl,.inl ⟨by omega,rfl,rfl,fun _ h=>absurd h q⟩⟩
 ·rw [zAW,iN j]
  have:((zZs o (-1) (w.Forest.Nodes.length:Int)).2 != 0)=true:=by simpa using j
  rw [this]
  exact ⟨_,_,_,rfl,.inl ⟨by omega,rfl,rfl,fun h=>absurd (by rw [h]) j⟩⟩
end
end
section
section
variable {fu:Nat} (hfu:1000000000<fu)
include hfu
theorem ziE {d:Desk}:∃r,zFN fu d=some r/\(r=true->d.Defs.length<=40/\d.Waits.length<=40):=by
 unfold zFN
 rw [zAS,zAS]
 by_cases e:d.Defs.length<=40
 ·rw [iN (by omega)]
  by_cases j:d.Waits.length<=40
  ·rw [iN (by omega)]
   have u:=zLg (L:=zBz d) d.Waits (fun y=>decide (y.Name.length<=300)) (some true) (fun i hi k=>by
    simp only [zBz]
    rw [zAP (by simpa using hi),zAT hi,zAA,zAS,zAX (by omega),zAA]
    by_cases h:d.Waits[i].Name.length<=300
    ·rw [iN (by omega),decide_eq_true h];rfl
    ·rw [iP (by omega),decide_eq_false h];rfl) (fun k=>by simp only [zBz];rw [zAN (by simp)]) (k:=fu) (by omega)
   have q:=zLg (L:=zCo fu d) d.Defs (fun y=>decide (y.Name.length<=300)&&decide (y.Local.length<=300)) (zBz d fu 0) (fun i hi k=>by
    simp only [zCo]
    rw [zAP (by simpa using hi),zAT hi,zAA,zAS,zAA,zAS,zAX (by omega),zAA]
    by_cases h:d.Defs[i].Name.length<=300
    ·rw [iN (by omega),decide_eq_true h]
     by_cases g:d.Defs[i].Local.length<=300
     ·rw [iN (by omega),decide_eq_true g];rfl
     ·rw [iP (by omega),decide_eq_false g];rfl
    ·rw [iP (by omega),decide_eq_false h];rfl) (fun k=>by simp only [zCo];rw [zAN (by simp)]) (k:=fu) (by omega)
   rw [q,u]
   cases d.Defs.all (fun y=>decide (y.Name.length<=300)&&decide (y.Local.length<=300)) with
   | false=>exact ⟨_,rfl,fun _=>⟨e,j⟩⟩
   | true=>cases d.Waits.all (fun y=>decide (y.Name.length<=300))<;>exact ⟨_,rfl,fun _=>⟨e,j⟩⟩
  ·rw [iP (by omega)];exact ⟨false,rfl,by simp⟩
 ·rw [iP (by omega)];exact ⟨false,rfl,by simp⟩
theorem ziF:∃r,zFO fu l=some r/\(r=true->LS 60 l):=by
 unfold zFO
 rw [zAS,zAS,zAS]
 by_cases D:l.Todos.length<=60
 ·rw [iN (by omega)]
  by_cases F:l.Stack.length<=30
  ·rw [iN (by omega)]
   by_cases E:l.Back.length<=60
   ·rw [iN (by omega)]
    have C:=zLg (L:=zB0 l) l.Stack (fun y=>decide (y.length<=60)) (some true) (fun i hi k=>by
     simp only [zB0]
     rw [zAP (by simpa using hi),zAT hi,zAA,zAS,zAX (by omega),zAA]
     by_cases h:l.Stack[i].length<=60
     ·rw [iN (by omega),decide_eq_true h];rfl
     ·rw [iP (by omega),decide_eq_false h];rfl) (fun k=>by simp only [zB0];rw [zAN (by simp)]) (k:=fu) (by omega)
    have u:=zLg (L:=zCp fu l) l.Todos (fun y=>decide (y.length<=60)) (zB0 l fu 0) (fun i hi k=>by
     simp only [zCp]
     rw [zAP (by simpa using hi),zAT hi,zAA,zAS,zAX (by omega),zAA]
     by_cases h:l.Todos[i].length<=60
     ·rw [iN (by omega),decide_eq_true h];rfl
     ·rw [iP (by omega),decide_eq_false h];rfl) (fun k=>by simp only [zCp];rw [zAN (by simp)]) (k:=fu) (by omega)
    rw [u,C]
    cases j:l.Todos.all (fun y=>decide (y.length<=60)) with
    | false=>exact ⟨_,rfl,fun h=>by cases h⟩
    | true =>
     cases q:l.Stack.all (fun y=>decide (y.length<=60)) with
     | false=>exact ⟨_,rfl,fun h=>by cases h⟩
     | true =>
      rw [lR] at j q
      exact ⟨_,rfl,fun _=>⟨D,fun t e=>by simpa using j t e,by omega,fun t e=>by simpa using q t e,E⟩⟩
   ·rw [iP (by omega)];exact ⟨false,rfl,by simp⟩
  ·rw [iP (by omega)];exact ⟨false,rfl,by simp⟩
 ·rw [iP (by omega)];exact ⟨false,rfl,by simp⟩
theorem ziG {cs:List Class}:∃r,zD3 fu cs=some r/\(r=true->∀c∈cs,c.Watch.length<=20):=by
 unfold zD3
 rw [zAS]
 by_cases I:cs.length<=14
 ·rw [iN (by omega)]
  have F:=zLg (L:=zA8 fu cs) cs (fun y=>decide (y.Watch.length<=20)&&(decide (y.Hooks.length<=20)&&(decide (y.Peek.length<=80)&&(decide (y.Make.length<=80)&&y.Hooks.all fun h=>decide (h.Do.length<=80))))) (some true) (fun i hi k=>by
   simp only [zA8]
   rw [zAP (by simpa using hi),zAT hi,zAA,zAS,zAS,zAS,zAS]
   by_cases e:cs[i].Watch.length<=20
   ·rw [iN (by omega),decide_eq_true e,iD]
    by_cases u:cs[i].Hooks.length<=20
    ·rw [iN (by omega),decide_eq_true u,iD]
     by_cases C:cs[i].Peek.length<=80
     ·rw [iN (by omega),decide_eq_true C,iD]
      by_cases D:cs[i].Make.length<=80
      ·rw [iN (by omega),decide_eq_true D,iD]
       exact zLg (L:=zCs (i:Int) cs[i] (zA8 fu cs k)) cs[i].Hooks (fun h=>decide (h.Do.length<=80)) (zA8 fu cs k ((i+1:Nat):Int)) (fun j E q=>by
        simp only [zCs]
        rw [zAP (by simpa using E),zAT E,zAA,zAS,zAX (by omega),zAA]
        by_cases h:cs[i].Hooks[j].Do.length<=80
        ·rw [iN (by omega),decide_eq_true h];rfl
        ·rw [iP (by omega),decide_eq_false h];rfl) (fun q=>by simp only [zCs];rw [zAN (by simp),zAX (by omega),zAA]) (by omega)
      ·rw [iP (by omega),decide_eq_false D];rfl
     ·rw [iP (by omega),decide_eq_false C];rfl
    ·rw [iP (by omega),decide_eq_false u];rfl
   ·rw [iP (by omega),decide_eq_false e];rfl) (fun k=>by simp only [zA8];rw [zAN (by simp)]) (k:=fu) (by omega)
  rw [F]
  cases a:cs.all (fun y=>decide (y.Watch.length<=20)&&(decide (y.Hooks.length<=20)&&(decide (y.Peek.length<=80)&&(decide (y.Make.length<=80)&&y.Hooks.all fun h=>decide (h.Do.length<=80))))) with
  | false=>exact ⟨_,rfl,fun h=>by cases h⟩
  | true =>
   rw [lR] at a
   exact ⟨_,rfl,fun _ c G=>by
    have:=a c G
    simp only [lM,decide_eq_true_eq] at this
    exact this.1⟩
 ·rw [iP (by omega)];exact ⟨false,rfl,by simp⟩
theorem zhd {cs:List Class} (D:cs.length<=1000) (C:∀c∈cs,c.Watch.length<=20):∃r,zFS fu cs=some r:=by
 unfold zFS
 have u:=zLg (L:=zA9 fu cs) cs (fun y=>y.Watch.all fun s=>decide (s.length<=300)) (some true) (fun i hi k=>by
  have hw:=C _ (gC hi)
  simp only [zA9]
  rw [zAP (by simpa using hi)]
  exact zLg (L:=zCt cs (i:Int) (zA9 fu cs k)) cs[i].Watch (fun s=>decide (s.length<=300)) (zA9 fu cs k ((i+1:Nat):Int)) (fun j e q=>by
   simp only [zCt]
   rw [zAT hi,zAA,zAP (by simpa using e),zAA,zAT e,zAA,zAS,zAX (by omega),zAA]
   by_cases h:cs[i].Watch[j].length<=300
   ·rw [iN (by omega),decide_eq_true h];rfl
   ·rw [iP (by omega),decide_eq_false h];rfl) (fun q=>by simp only [zCt];rw [zAT hi,zAA,zAN (by simp),zAX (by omega),zAA]) (by omega)) (fun k=>by simp only [zA9];rw [zAN (by simp)]) (k:=fu) (by omega)
 rw [u]
 cases cs.all (fun y=>y.Watch.all fun s=>decide (s.length<=300))<;>exact ⟨_,rfl⟩
theorem ziH {w:World}:∃r,zFR fu w=some r/\(r=true->WS 60 w/\w.Desk.Waits.length<=40):=by
 unfold zFR
 obtain ⟨Q,D,E⟩:=zVP (fu:=fu) (f:=w.Forest) (by omega)
 obtain ⟨S,F,j⟩:=ziE hfu (d:=w.Desk)
 obtain ⟨u,G,I⟩:=ziF hfu (l:=w.Line)
 obtain ⟨C,i,J⟩:=ziG hfu (cs:=w.Classes)
 have e:∃r,some false=some r/\(r=true->WS 60 w/\w.Desk.Waits.length<=40):=⟨false,rfl,by simp⟩
 rw [D,zAA,F,zAA,G,zAA,i,zAA,zAS,zAS,zAS]
 cases Q with
 | false=>exact e
 | true =>
  rw [zAO]
  by_cases M:w.States.length<=60
  ·rw [iP (by omega)]
   cases S with
   | false=>exact e
   | true =>
    rw [zAO]
    cases u with
    | false=>exact e
    | true =>
     rw [zAO]
     by_cases N:w.Tasks.length<=60
     ·rw [iP (by omega)]
      by_cases P:w.Builds.length<=60
      ·rw [iP (by omega)]
       cases C with
       | false=>exact e
       | true =>
        have q:w.Classes.length<=1000:=by
         unfold zD3 at i
         rw [zAS] at i
         by_cases h:w.Classes.length<=14
         ·omega
         ·rw [iP (by omega)] at i;cases i
        obtain ⟨r,K⟩:=zhd hfu q (J rfl)
        rw [zAO,K,zAA]
        have hs:=(E rfl).1
        exact ⟨r,rfl,fun _=>⟨⟨I rfl,N,P,by have:=(j rfl).1;omega,by have:=(j rfl).2;omega,fun x hx=>by have:=hs.kids x hx;omega,M⟩,(j rfl).2⟩⟩
      ·rw [iN (by omega)];exact e
     ·rw [iN (by omega)];exact e
  ·rw [iN (by omega)];exact e
end
end
section
theorem zH3 {u : Type} {L:Nat->Int->Option Bool} (l:List u) (fin:Option Bool) (e:∀(i:Nat) (_:i<l.length) (k:Nat),L (k+1) (i:Int)=L k ((i+1:Nat):Int)) (j:∀k,L (k+1) (l.length:Int)=fin) {k:Nat} (q:l.length<k):L k 0=fin:=by
 rw [zLg (L:=L) l (fun _=>true) fin (fun i h k=>e i h k) j q]
 have:(l.all fun _=>true)=true:=by simp
 rw [this];rfl
theorem zaE (x:Def):zhK x x=true:=by unfold zhK;simp
theorem zXm (x:Wait):zbu x x=true:=by unfold zbu;simp
theorem zXl (x:Todo):zN8 x x=true:=by unfold zN8;simp
theorem zXk (x:Task):zbt x x=true:=by unfold zbt;simp
theorem zV8 (x:Build):zXi x x=true:=by unfold zXi;simp
theorem zV9 (x:State):zSJ x x=true:=by unfold zSJ;simp
theorem zbs (x:Op):zf8 x x=true:=zUh.2 rfl
section
variable {fu:Nat} (hfu:1000000000<fu)
include hfu
theorem zaC {d:Desk} (h:d.Defs.length<=900) (j:d.Waits.length<=900):zFv fu d d=some true:=by
 have e:=zH3 (L:=zCL d d) d.Waits (some true) (fun i hi k=>by
  simp only [zCL]
  rw [zAP (by simpa using hi),zAT hi,zAA,zAA,zXm,iA,zAD,zAX (by omega),zAA]) (fun k=>by simp only [zCL];rw [zAN (by simp)]) (k:=fu) (by omega)
 unfold zFv
 rw [zAW,iP rfl,zAW,iP rfl,zAW,iP rfl]
 simp only [beq_self_eq_true,iA,zAD]
 rw [zH3 (L:=zC5 fu d d) d.Defs (zCL d d fu 0) (fun i hi k=>by
  simp only [zC5]
  rw [zAP (by simpa using hi),zAT hi,zAA,zAA,zaE,iA,zAD,zAX (by omega),zAA]) (fun k=>by simp only [zC5];rw [zAN (by simp)]) (k:=fu) (by omega),e]
theorem zah {l:List Todo} (h:l.length<=900000000):zFP fu l l=some true:=by
 unfold zFP
 rw [zAW,iP rfl]
 exact zH3 (L:=zCq l l) l (some true) (fun i hi k=>by
  simp only [zCq]
  rw [zAP (by simpa using hi),zAT hi,zAA,zAA,zXl,iA,zAD,zAX (by omega),zAA]) (fun k=>by simp only [zCq];rw [zAN (by simp)]) (by omega)
theorem zWK {l:List Int} (h:l.length<=900000000):zB4 fu l l=some true:=by
 unfold zB4
 rw [zAW,iP rfl]
 exact zH3 (L:=zBR l l) l (some true) (fun i hi k=>by
  simp only [zBR]
  rw [zAP (by simpa using hi),zAT hi,zAA,zAA,zAW,iP rfl,zAX (by omega),zAA]) (fun k=>by simp only [zBR];rw [zAN (by simp)]) (by omega)
theorem zaO {B:Nat} (hS:LS B l) (hB:B<=900000000):zFw fu l l=some true:=by
 have h:=hS.todos
 have j:=hS.stack
 have q:=hS.back
 have e:=zH3 (L:=zCM fu l l) l.Stack (some true) (fun i hi k=>by
  have:=hS.lists _ (gC hi)
  simp only [zCM]
  rw [zAP (by simpa using hi),zAT hi,zAA,zAA,zWK hfu (by omega),zAA,iA,zAD,zAX (by omega),zAA]) (fun k=>by simp only [zCM];rw [zAN (by simp)]) (k:=fu) (by omega)
 unfold zFw
 rw [zAW,iP rfl,zAW,iP rfl,zWK hfu (by omega),zAA]
 simp only [beq_self_eq_true,iA,zAD]
 rw [zH3 (L:=zC6 fu l l) l.Todos (zCM fu l l fu 0) (fun i hi k=>by
  have:=hS.todo _ (gC hi)
  simp only [zC6]
  rw [zAP (by simpa using hi),zAT hi,zAA,zAA,zah hfu (by omega),zAA,iA,zAD,zAX (by omega),zAA]) (fun k=>by simp only [zC6];rw [zAN (by simp)]) (k:=fu) (by omega),e]
theorem zYK {l:List State} (h:l.length<=900000000):zE0 fu l l=some true:=by
 unfold zE0
 rw [zAW,iP rfl]
 exact zH3 (L:=zCP l l) l (some true) (fun i hi k=>by
  simp only [zCP]
  rw [zAP (by simpa using hi),zAT hi,zAA,zAA,zV9,iA,zAD,zAX (by omega),zAA]) (fun k=>by simp only [zCP];rw [zAN (by simp)]) (by omega)
theorem zU2 {l:List Op} (h:l.length<=900000000):zDs fu l l=some true:=by
 unfold zDs
 rw [zAW,iP rfl]
 exact zH3 (L:=zDN l l) l (some true) (fun i hi k=>by
  simp only [zDN]
  rw [zAP (by simpa using hi),zAT hi,zAA,zAA,zbs,iA,zAD,zAX (by omega),zAA]) (fun k=>by simp only [zDN];rw [zAN (by simp)]) (by omega)
theorem zZt {c:Class} (h:zIg c=true):zFQ fu c c=some true:=by
 unfold zIg at h
 simp only [lM,decide_eq_true_eq,lR] at h
 obtain ⟨q,_,u,j,C,D⟩:=h
 have e:=zH3 (L:=zB1 fu c c) c.Hooks (some true) (fun i hi k=>by
  have:=j _ (gC hi)
  unfold zcC at this
  simp only [lM,decide_eq_true_eq] at this
  simp only [zB1]
  rw [zAP (by simpa using hi),zAT hi,zAA,zAA,zAW,iP rfl,zAA,zAA,zU2 hfu (by omega),zAA,iA,zAD,zAX (by omega),zAA]) (fun k=>by simp only [zB1];rw [zAN (by simp)]) (k:=fu) (by omega)
 unfold zFQ
 simp only [beq_self_eq_true,iA,zAD]
 rw [zAW,iP rfl,zU2 hfu (by omega),zAA,zU2 hfu (by omega),zAA,zAW,iP rfl]
 simp only [iA,zAD]
 rw [zH3 (L:=zCr fu c c) c.Watch (zB1 fu c c fu 0) (fun i hi k=>by
  simp only [zCr]
  rw [zAP (by simpa using hi),zAT hi,zAA,zAA,beq_self_eq_true,iA,zAD,zAX (by omega),zAA]) (fun k=>by simp only [zCr];rw [zAN (by simp)]) (k:=fu) (by omega),e]
theorem zVw {cs:List Class} (e:cs.length<=1000) (h:∀c∈cs,zIg c=true):zEY fu cs cs=some true:=by
 unfold zEY
 rw [zAW,iP rfl]
 exact zH3 (L:=zB7 fu cs cs) cs (some true) (fun i hi k=>by
  simp only [zB7]
  rw [zAP (by simpa using hi),zAT hi,zAA,zAA,zZt hfu (h _ (gC hi)),zAA,iA,zAD,zAX (by omega),zAA]) (fun k=>by simp only [zB7];rw [zAN (by simp)]) (by omega)
omit hfu in
theorem WR.allowed {w:World} (h:WR w):w.Classes.length<=12/\∀c∈w.Classes,zIg c=true:=by
 have:=h.cl
 unfold zL6 at this
 simp only [lM,lR,decide_eq_true_eq] at this
 exact ⟨this.1,this.2.1⟩
theorem zat {B:Nat} {w:World} (hS:WS B w) (hB:B<=900000000) (hR:WR w):zFx fu w w=some true:=by
 have j:=hS.tasks
 have q:=hS.builds
 have u:=hS.states
 have e:=WR.allowed hR
 have h:=zH3 (L:=zCN fu w w) w.Builds (some true) (fun i hi k=>by
  simp only [zCN]
  rw [zAP (by simpa using hi),zAT hi,zAA,zAA,zV8,iA,zAD,zAX (by omega),zAA]) (fun k=>by
  simp only [zCN]
  rw [zAN (by simp),(zAH hR.fr).same (by omega),zAA,zAO,zYK hfu (by omega),zAA,zAO,zaC hfu hS.defs hS.waits,zAA,zAO,zaO hfu hS.line hB,zAA,zAO,zVw hfu (by omega) e.2,zAA]) (k:=fu) (by omega)
 unfold zFx
 rw [zAW,iP rfl,zAW,iP rfl]
 rw [zH3 (L:=zC7 fu w w) w.Tasks (zCN fu w w fu 0) (fun i hi k=>by
  simp only [zC7]
  rw [zAP (by simpa using hi),zAT hi,zAA,zAA,zXk,iA,zAD,zAX (by omega),zAA]) (fun k=>by simp only [zC7];rw [zAN (by simp)]) (k:=fu) (by omega),h]
end
end
section
theorem zgl:zG9 10000000000=some true:=by decide +kernel
end
section
theorem WS.todos {B:Nat} {w:World} (hR:WR w) (_h:B=B):w.Line.Todos.length<=400:=by
 rw [hR.td];exact (zAH hR.fr).few
end
end Go.Proofs.YtmfbghpealgaiaaGreatDoor
