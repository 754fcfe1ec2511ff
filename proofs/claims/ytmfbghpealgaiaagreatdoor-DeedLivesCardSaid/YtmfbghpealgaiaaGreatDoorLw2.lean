/- Plain laws on the models, one behind the other. -/
import Derived.Test.YtmfbghpealgaiaaGreatDoorG
import Derived.Test.YtmfbghpealgaiaaGreatDoorLw1
/- Layer 6: a node is inserted, removed, or put in another one's place. -/
namespace Go.Proofs.YtmfbghpealgaiaaGreatDoor
open Go Go.Pw
open List renaming length_cons->cP,length_nil->eK,getElem_mem->gC,getElem?_eq_getElem->lC,length_append->eR,mem_append->cA,mem_singleton->e8,all_eq_true->lR,nil_append->iU,mem_or_eq_of_mem_set->dT,take_succ_eq_append_getElem->iD,append_assoc->eS,mem_cons_self->lH,mem_cons_of_mem->lG,all_cons->cK,all_nil->iM,drop_length->kJ,drop_eq_getElem_cons->eT,length_drop->iI,append_nil->gI,length_map->lL,mem_of_getElem?->lU,range->cW,getElem_of_mem->iW,map_append->gG,map_cons->lT,take_length->iG,mem_map->lE,length_filterMap_le->kK,mem_filterMap->kL,getElem?_eq_some_iff->lF,replicate->dH,take_of_length_le->kG,mem_filter->iH,take_append_of_le_length->iV,sum_cons->kN,filterMap_cons->kO,getElem?_set->kQ,mem_range->jN,mem_replicate->kR,filter_append->jJ,countP_cons->dG,getElem?_map->lK,take_set_of_le->kT,sum_append->kU,getElem?_append_right->cC,length_pos_of_mem->kV,all_append->kX,take_take->jH,filter_cons->kY,length_replicate->kE,getElem?_drop->cD,filter_eq_self->jL,drop_drop->kZ
open Nat renaming le_refl->cB,le_trans->eM
open Int renaming toNat_natCast->eO
open Option renaming some->lJ,isNone_none->kI,getD_some->cM,map_some->lW,isSome_none->kS,isSome_iff_exists->kW,map_eq_some_iff->lI
open Bool renaming not_true->iA,and_eq_true->lM,true_and->iB,not_false->jK,or_eq_true->dD,false_and->jD,eq_false_iff->iJ,not_not->kH,false_or->e9,and_true->kM,false_eq_true->dL,or_eq_false_iff->iY,eq_iff_iff->eW
variable {n next many:Int} {l:Line} {x:Node} {notes:List Note} {o:Op} {ns a b:List Node} {rows m:List (Node×Bool)} {g:Forest} {t:Todo} {κ ν:Type} {due:List Due} {names:List (Bs×Int)} {ids:List (Int×List (Bs×Int))} {L:List Int} {v:World} {r:Forest×List Note×Int} {defs:List Def}
section
instance (ns:List Node) (n:Int):Decidable (InN ns n):=inferInstanceAs (Decidable (0<=n/\n<ns.length))
theorem zFZ {fu:Nat} (w:Bs) (e:Int):zBQ fu w e=some (if e=0 then none else some (w,e)):=by
 unfold zBQ;rw [zAj];split<;>rfl
def Hand (f:Forest) (N:Nat) (r:Forest×List Note×Int):Prop:=(∃e,e≠0/\r=(f,[],e))\/∃m g l,m<=N/\Mv m f g l/\r=(g,l,0)
def InsR (fu:Nat) (f:Forest) (n p:Int) (N:Nat) (r:Forest×List Note×Int):Prop:=(∃e,e≠0/\r=(f,[],e))\/∃m x b g l,m<=N/\Mv m f g l/\idx f.Nodes n=some x/\PI f p b (zAU n x)/\zDj fu n p b f.Most (zJH f.Nodes) []=some (zJH g.Nodes,[]++l)/\r=(g,l,0)
section
variable {fu:Nat} {f:Forest} (hr:zAF f=true) (hfu:1000<fu)
include hr hfu
theorem zWq (t:Int->List (Node×Bool)->List Note->Option (Option (Bs×Int)×List (Node×Bool)×List Note)) (p:Bs×Int):zDC fu t f (some p)=some (f,[],p.2):=by
 unfold zDC
 rw [zTA (zAH hr) hfu,zAA]
 rfl
theorem zdU {t:Int->List (Node×Bool)->List Note->Option (Option (Bs×Int)×List (Node×Bool)×List Note)} {p:Bs×Int} {l:List Note} (h:t f.Most (zJH f.Nodes) []=some (some p,m,l)):zDC fu t f none=some (f,[],p.2):=by
 unfold zDC
 rw [zTA (zAH hr) hfu,zAA]
 simp only [kI,zAO]
 rw [h,zAA]
 rfl
theorem zTy {t:Int->List (Node×Bool)->List Note->Option (Option (Bs×Int)×List (Node×Bool)×List Note)} {g:List Node} {l:List Note} (h:t f.Most (zJH f.Nodes) []=some (none,zJH g,l)):zDC fu t f none=some (⟨g,f.Most⟩,l,0):=by
 unfold zDC
 rw [zTA (zAH hr) hfu,zAA]
 simp only [kI,zAO]
 rw [h,zAA]
 simp only [kS,zAG,zLo]
omit hfu in
theorem May.pi {p b:Int} {y:Node} (M:May f n p x y) (G:b = -1\/(b∈y.Kids/\b∉zAU n x)):PI f p b (zAU n x):=by
 refine ⟨hr,fun k i=>?_,M.nodup hr,fun E=>?_,⟨y,M.hy,M.holder,G.imp id And.left,fun F=>?_⟩⟩
 ·obtain ⟨z,hz,q,_⟩:=M.part hr i
  exact ⟨z,hz,q,M.free hr i⟩
 ·rcases G with e | h
  ·subst e
   have:=M.in_ hr E
   unfold InN at this
   omega
  ·exact h.2 E
 ·have D:=M.crowd F
  unfold zGI at D
  rw [M.hy] at D
  simp only [iY,Bool.and_eq_false_iff,decide_eq_false_iff_not] at D
  obtain ⟨J,I⟩:=D
  have i:∀k∈zAU n x,(k != -1&&isB f.Nodes k 1)=true:=fun k i=>by
   obtain ⟨z,hz,q,_⟩:=M.part hr i
   have C:k ≠ -1:=by have:=M.in_ hr i;unfold InN at this;omega
   rw [bne_iff_ne.2 C,iB]
   unfold isB
   rw [hz]
   rcases q with h | h
   ·simp [h]
   ·exfalso
    apply J
    unfold zDz
    refine List.countP_pos_iff.2 ⟨k,i,?_⟩
    rw [bne_iff_ne.2 C,iB]
    unfold isB
    rw [hz];simp [h]
  have E:zDz f.Nodes (-1) (zAU n x) 1=(zAU n x).length:=List.countP_eq_length.2 i
  rw [E] at I
  have j:(zAU n x).length<=1:=by omega
  refine ⟨j,fun k u=>?_⟩
  have e:zAU n x=[k]:=by
   match K:zAU n x,u,j with
   | [a],u,_=>rw [e8.1 u]
   | a::b::t,_,hl=>simp at hl
  have:=M.crowd F
  rwa [e] at this
theorem zbB (n p c:Int):∃r,zDK fu f n p c=some r/\InsR fu f n p (if isB f.Nodes n 3=true then 800 else 1) r:=by
 have hs:=zAH hr
 have I:=hs.fit hfu
 have W:∀e,e≠0->zEh fu f n p c=some e->∃r,zDK fu f n p c=some r/\InsR fu f n p (if isB f.Nodes n 3=true then 800 else 1) r:=fun e j h=>by
  unfold zDK
  rw [h,zAA,zFZ,zAA,iN j,zWq hr hfu,zAA]
  exact ⟨_,rfl,.inl ⟨e,j,rfl⟩⟩
 by_cases u:inB f n=true/\inB f p=true
 ·have hn:InN f.Nodes n:=by have:=u.1;unfold inB at this;exact of_decide_eq_true this
  have T:InN f.Nodes p:=by have:=u.2;unfold inB at this;exact of_decide_eq_true this
  obtain ⟨x,hx⟩:=zAJ hn
  obtain ⟨y,hy⟩:=zAJ T
  by_cases K:c = -1\/inB f c=true
  ·have F:c = -1\/∃z,idx f.Nodes c=some z:=K.imp id fun h=>by
    unfold inB at h
    exact zAJ (of_decide_eq_true h)
   have i:=zbX hfu I hr hx hy F
   generalize q:(c == -1||(match idx f.Nodes c with | some z=>z.Parent==p | none=>false))=cb at i
   by_cases j:zPh f n p c (-1) x y cb=0
   ·have G:cb=true:=by
     cases cb with
     | true=>rfl
     | false =>
      unfold zPh at j
      split at j
      ·cases j
      ·split at j
       ·cases j
       ·rw [iP rfl] at j;cases j
    subst G
    obtain ⟨f1,f2,f3,f4,f5⟩:=zPi j
    have M:May f n p x y:=⟨hx,hy,f1,by rw [<- zMh hs hfu hr hn T];exact f2,f3,f4,f5⟩
    rw [j] at i
    have Q:c = -1\/c∈y.Kids:=by
     rcases F with h | ⟨z,hz⟩
     ·exact .inl h
     ·right
      have S:c ≠ -1:=by have:=zAK hz;omega
      rw [hz] at q
      rw [show (c == -1)=false by simpa using S,e9,beq_iff_eq] at q
      have V:z.Parent ≠ -1:=by rw [q];unfold InN at T;omega
      obtain ⟨y',H⟩:=zFu hr hz V
      have X:=H.hy
      rw [q,hy] at X
      rw [lJ.inj X]
      exact H.mem
    obtain ⟨b,J,E⟩:=zaM hr M hs hfu Q i
    obtain ⟨h,l',m1,m2⟩:=zb2 (l:=[]) hfu hx (M.pi hr E) (by simp)
    have D:=m1.all hr
    have hlen:=M.len hs
    unfold zDK
    rw [i,zAA,zFZ,zAA,iP rfl]
    rw [zTy hr hfu (g:=h.Nodes) (l:=[]++l') (by
     unfold zHI
     rw [J,zAA,m2,zAA]),zAA]
    refine ⟨_,rfl,.inr ⟨_,x,b,h,l',?_,m1,hx,M.pi hr E,m2,?_⟩⟩
    ·have e3:isB f.Nodes n 3=(x.Kind==3):=by unfold isB;rw [hx]
     rw [e3]
     by_cases C:x.Kind=3
     ·rw [iP C,iP (by simpa using C)];omega
     ·have e4:(zAU n x).length=1:=by unfold zAU;rw [iN C];rfl
      rw [iN C,iN (by simpa using C)];omega
    ·rw [iU,<- D.2.1]
   ·exact W _ j i
  ·refine W 1 (by omega) ?_
   have N:c ≠ -1:=fun e=>K (.inl e)
   have P:inB f c=false:=by cases e:inB f c with
    | false=>rfl
    | true=>exact absurd (.inr e) K
   unfold zEh
   rw [zFV hfu I hr (by simp),zAA,zFV hfu I hr (by simp),zAA,zAi]
   simp only [cK,iM,u.1,u.2,P,Bool.and_self,iA,zAG,jD,jK,zAO,iN N]
 ·refine W 1 (by omega) ?_
  unfold zEh
  rw [zFV hfu I hr (by simp),zAA]
  have:([n,p].all (inB f))=false:=by
   simp only [cK,iM,kM]
   cases e:inB f n&&inB f p with
   | false=>rfl
   | true=>exact absurd (by simpa using e) u
  rw [this];rfl
theorem zRj (n p c:Int):∃r,zDK fu f n p c=some r/\Hand f (if isB f.Nodes n 3=true then 800 else 1) r:=by
 obtain ⟨r,e,h⟩:=zbB hr hfu n p c
 exact ⟨r,e,h.imp id fun ⟨m,_,_,g,l,i,j,_,_,_,q⟩=>⟨m,g,l,i,j,q⟩⟩
theorem zfQ (n:Int):zIN fu f n=some (if InN f.Nodes n then none else some ([97,115,107,101,100],1)):=by
 unfold zIN
 rw [zEv hfu ((zAH hr).fit hfu),zAA,hr]
 simp only [zFZ,zAA,iA,zAG,zAQ]
 by_cases e:n<0
 ·rw [iP e,iN (show ¬InN f.Nodes n by unfold InN;omega)];rfl
 ·rw [iN e]
  by_cases h:n>=(f.Nodes.length:Int)
  ·rw [iP h,iN (show ¬InN f.Nodes n by unfold InN;omega)];rfl
  ·rw [iN h,iP (show InN f.Nodes n by unfold InN;omega)]
theorem zOC (n:Int):zEG fu f n=some (if InN f.Nodes n then (if zHB f.Nodes n = -1 then (f,[],6) else (⟨zKY f.Nodes n,f.Most⟩,zF1 f n,0)) else (f,[],1)):=by
 unfold zEG
 rw [zfQ hr hfu,zAA]
 by_cases h:InN f.Nodes n
 ·rw [iP h,iP h]
  obtain ⟨x,hx⟩:=zAJ h
  rw [zIy hx]
  by_cases e:x.Parent = -1
  ·rw [iP e,zdU hr hfu (p:=([111,117,116],6)) (m:=zJH f.Nodes) (l:=[]) (by
    unfold zFk
    rw [zGS hx,zAA,zAj,iP e,zFZ,zAA];rfl),zAA]
  ·rw [iN e,zTy hr hfu (g:=zKY f.Nodes n) (l:=zF1 f n) (by
    unfold zFk
    rw [zGS hx,zAA,zAj,iN e,zUK hr hfu h (by simp),zAA];rfl),zAA]
 ·rw [iN h,iN h,zWq hr hfu,zAA]
theorem zVs (n:Int):∃r,zEG fu f n=some r/\Hand f 1 r:=by
 refine ⟨_,zOC hr hfu n,?_⟩
 by_cases h:InN f.Nodes n
 ·rw [iP h]
  by_cases e:zHB f.Nodes n = -1
  ·rw [iP e];exact .inl ⟨6,by omega,rfl⟩
  ·rw [iN e]
   have:=Mv.out (.refl f) h
   exact .inr ⟨1,_,_,cB _,by simpa using this,rfl⟩
 ·rw [iN h];exact .inl ⟨1,by omega,rfl⟩
end
end
section
def zDx (n:Int):List Int->Int
 | [] => -1
 | k::l=>if k≠n then k else zDx n l
theorem zP1 {n:Int}:∀{l:List Int},zDx n l = -1\/(zDx n l∈l/\zDx n l≠n)
 | []=>.inl rfl
 | k::l=>by
  unfold zDx
  by_cases h:k≠n
  ·rw [iP h];exact .inr ⟨lH ..,h⟩
  ·rw [iN h]
   exact (zP1 (l:=l)).imp id fun h=>⟨lG _ h.1,h.2⟩
theorem zdI {l:List Int} {fu:Nat} (hf:l.length<fu) (E:l.length<=1000000):zEd n l fu 0=some (zDx n l):=by
 have u:∀(j i k:Nat),i+j=l.length->j<k->zEd n l k (i:Int)=some (zDx n (l.drop i)):=by
  intro j
  induction j with
  | zero =>
   intro i k hi C
   obtain ⟨k,rfl⟩:∃q,k=q+1:=⟨k - 1,by omega⟩
   obtain rfl:i=l.length:=by omega
   simp only [zEd]
   rw [zAS (by simp),kJ];rfl
  | succ j D =>
   intro i k hi C
   obtain ⟨k,rfl⟩:∃q,k=q+1:=⟨k - 1,by omega⟩
   have h:i<l.length:=by omega
   simp only [zEd]
   rw [zAT (by simpa using h),zAW h,zAA,zAi,zBO (by omega),zAA,D (i+1) k (by omega) (by omega),eT h,show zDx n (l[i]::l.drop (i+1))=if l[i]≠n then l[i] else zDx n (l.drop (i+1)) from rfl]
   by_cases e:l[i]=n
   ·rw [iP e,iN (by simpa using e)]
   ·rw [iN e,iP e]
 have:=u l.length 0 fu (by omega) hf
 simpa using this
section
variable {f:Forest} {c p:Int} {z y:Node} (H:Hung f c p z y) (hr:zAF f=true)
include H hr
theorem zaO {fu:Nat} (hfu:1000<fu) (n:Int):zI4 fu f c n=some (zDx n (y.Kids.drop (y.Kids.idxOf c+1))):=by
 have hs:=zAH hr
 have hl:=hs.kids y (zEw H.hy)
 obtain ⟨f1,e⟩:=zQg H.mem
 unfold zI4
 rw [H.hz,zAA,H.par,H.hy,zAA,zVz (by omega) (by omega),zAA,f1,zBO (by omega),zAA]
 rw [show zGF y.Kids ((y.Kids.idxOf c+1:Nat):Int) (y.Kids.length:Int)=some (y.Kids.drop (y.Kids.idxOf c+1)) from ?_,zAA,zdI (by simp;omega) (by simp;omega)]
 unfold zGF
 rw [iP ⟨by omega,by omega,by omega⟩]
 congr 1
 rw [eO,eO,kG (by simp)]
theorem zaN (n:Int):zDx n (y.Kids.drop (y.Kids.idxOf c+1)) = -1\/(zDx n (y.Kids.drop (y.Kids.idxOf c+1))∈(zN4 y c).Kids/\zDx n (y.Kids.drop (y.Kids.idxOf c+1))∈y.Kids/\zDx n (y.Kids.drop (y.Kids.idxOf c+1))≠n):=by
 rcases zP1 (n:=n) (l:=y.Kids.drop (y.Kids.idxOf c+1)) with h | ⟨j,E⟩
 ·exact .inl h
 ·right
  have q:y.Kids.Nodup:=by
   have:=(zBG hr).nod p
   rwa [zFv H.hy] at this
  have C:=List.mem_of_mem_drop j
  refine ⟨?_,C,E⟩
  unfold zN4
  simp only [iH,bne_iff_ne]
  refine ⟨C,fun e=>?_⟩
  rw [e] at j
  obtain ⟨i,hi,u⟩:=iW j
  rw [List.getElem_drop] at u
  have:=List.idxOf_lt_length_of_mem H.mem
  simp only [iI] at hi
  have D:y.Kids[y.Kids.idxOf c]=c:=List.getElem_idxOf this
  exact List.pairwise_iff_getElem.1 q (y.Kids.idxOf c) (y.Kids.idxOf c+1+i) this (by omega) (by omega) (D.trans u.symm)
theorem zeX:May (zL1 f c p z y) c p (zMe z) (zN4 y c):=by
 have S:=zYM H hr
 refine ⟨zOv H,zHA H,(show zGP y.Kind=true from zW3 H hr),?_,by simp only [zMe];omega,by simp only [zMe];omega,fun K=>?_⟩
 ·rw [zYO H hr];exact zT8 H hr
 ·have G:=(zAa hr).2.2.1
  have D:y.Kind=0:=K
  have i:=zBc G H.hy
  unfold zFb zEV at i
  simp only [lM,lR,dD,bne_iff_ne,decide_eq_true_eq] at i
  have e:=i.2.2.2.1.2.1 c H.mem
  unfold zOo at e
  rw [H.hz] at e
  simp only [lM,dD,beq_iff_eq,bne_iff_ne] at e
  have E:z.Kind=1:=by
   rcases e.2.2 with h | h
   ·exact h
   ·exact absurd D h.2
  have q:zBH f.Nodes y.Kids<=1:=by
   rcases i.2.2.2.1.2.2.2 with h | h
   ·exact absurd D h
   ·exact h
  have J:zAU c (zMe z)=[c]:=by
   unfold zAU
   rw [iN (show ¬(zMe z).Kind=3 by simp only [zMe];omega)]
  rw [J]
  have C:isB f.Nodes c 1=true:=by unfold isB;rw [H.hz];simp [E]
  have F:isB f.Nodes c 2=false:=by unfold isB;rw [H.hz];simp [E]
  have u:c ≠ -1:=by have:=zAK H.hz;omega
  unfold zGI
  rw [zHA H]
  have Q:zDz (zL1 f c p z y).Nodes (-1) [c] 2=0:=by
   unfold zDz;simp [zN6 H,F]
  have P:zDz (zL1 f c p z y).Nodes (-1) [c] 1=1:=by
   unfold zDz;simp [zN6 H,C,u]
  have N:zDz f.Nodes c y.Kids 1=0:=by
   have M:y.Kids.Nodup:=by
    have:=(zBG hr).nod p
    rwa [zFv H.hy] at this
   have I:y.Kids.Perm (c::y.Kids.erase c):=List.perm_cons_erase H.mem
   unfold zBH at q
   rw [I.countP_eq,dG,C] at q
   simp only [↓reduceIte] at q
   unfold zDz
   rw [I.countP_eq,dG]
   simp only [bne_self_eq_false,jD,dL,↓reduceIte,Nat.add_zero]
   refine Nat.le_zero.1 (eM (List.countP_mono_left fun a _ h=>?_) (show List.countP (fun k=>isB f.Nodes k 1) (y.Kids.erase c)<=0 by omega))
   simp only [lM] at h
   exact h.2
  have mk:zDz (zL1 f c p z y).Nodes (-1) (zN4 y c).Kids 1=0:=by rw [show (zN4 y c).Kids=y.Kids.filter (fun j=>j != c) from rfl,zVh H,N]
  rw [Q,P]
  simp only [mk]
  rfl
end
section
variable {fu:Nat} {f:Forest} (hr:zAF f=true) (hfu:1000<fu)
include hr hfu
theorem zVu (n p c:Int):∃r,zEc fu f n p c=some r/\Hand f 801 r:=by
 have hs:=zAH hr
 have T:=hs.fit hfu
 have no:∀e,e≠0->zEO fu f n p c=some e->∃r,zEc fu f n p c=some r/\Hand f 801 r:=fun e j h=>by
  unfold zEc
  rw [h,zAA,zFZ,zAA,iN j,zWq hr hfu,zAA]
  exact ⟨_,rfl,.inl ⟨e,j,rfl⟩⟩
 by_cases K:inB f n=true/\inB f p=true
 ·have X:InN f.Nodes n:=by have:=K.1;unfold inB at this;exact of_decide_eq_true this
  have hp:InN f.Nodes p:=by have:=K.2;unfold inB at this;exact of_decide_eq_true this
  obtain ⟨x,hx⟩:=zAJ X
  obtain ⟨y,hy⟩:=zAJ hp
  by_cases P:c = -1
  ·subst P
   obtain ⟨r,g1,g2⟩:=zcL hfu T hr hx hy
   exact no r g2 g1
  ·by_cases hc:inB f c=true
   ·have u:InN f.Nodes c:=by unfold inB at hc;exact of_decide_eq_true hc
    obtain ⟨z,hz⟩:=zAJ u
    have J:=zhB hfu T hr hx hy hz
    by_cases j:zPh f n p c c x y (z.Parent==p)=0
    ·have i:z.Parent=p:=by
      cases e:(z.Parent==p) with
      | true=>exact beq_iff_eq.1 e
      | false =>
       rw [e] at j
       unfold zPh at j
       split at j
       ·cases j
       ·split at j
        ·cases j
        ·rw [iP rfl] at j;cases j
     rw [j] at J
     rw [show (z.Parent==p)=true from beq_iff_eq.2 i] at j
     have hp0:z.Parent ≠ -1:=by rw [i];unfold InN at hp;omega
     obtain ⟨y',H⟩:=zFu hr hz hp0
     rw [i] at H
     have e1:=H.hy
     rw [hy] at e1
     obtain rfl:=lJ.inj e1
     have S:=zOw H hr
     have I:=zVi H hs
     have D:=zR0 f c p z y
     obtain ⟨x',q,M,C⟩:∃x',idx (zL1 f c p z y).Nodes n=some x'/\May (zL1 f c p z y) n p x' (zN4 y c)/\zAU n x'=zAU n x:=by
      by_cases F:n=c
      ·subst F
       rw [hx] at hz
       obtain rfl:=lJ.inj hz
       exact ⟨_,zOv H,zeX H hr,rfl⟩
      ·obtain ⟨_,f2,_⟩:=zPi j
       have E:=zZk H hr hs hfu hx F f2
       rw [j] at E
       have G:n≠p:=fun e=>by
        subst e
        rw [zMh hs hfu hr X X] at f2
        have:=zLC.2 ((zAL hr).wayU_self X)
        rw [f2] at this
        cases this
       have q:idx (zL1 f c p z y).Nodes n=some x:=(zMg H F G).trans hx
       have W:=zbX (child := -1) hfu (I.fit hfu) S q (zHA H) (.inl rfl)
       rw [E] at W
       have Q:=(lJ.inj W).symm
       simp only [beq_self_eq_true,Bool.true_or] at Q
       obtain ⟨k1,k2,k3,k4,k5⟩:=zPi Q
       exact ⟨x,q,⟨q,zHA H,k1,by rw [<- zMh I hfu S (by unfold InN;rw [D];exact X) (by unfold InN;rw [D];exact hp)];exact k2,k3,k4,k5⟩,rfl⟩
     have G:=M.np S
     have hb:=zaN H hr n
     have hb2:zDx n (y.Kids.drop (y.Kids.idxOf c+1)) = -1\/(zDx n (y.Kids.drop (y.Kids.idxOf c+1))∈(zN4 y c).Kids/\zDx n (y.Kids.drop (y.Kids.idxOf c+1))∉zAU n x'):=hb.imp id fun ⟨g1,g2,g3⟩=>⟨g1,fun V=>by
      rw [C] at V
      unfold zAU at V
      split at V
      ·obtain ⟨w,hw⟩:=zJG (zAa hr).2.2.1 hy _ g2
       exact G ((zN3 hr hx hw V).symm.trans (zN3 hr hy hw g2))
      ·exact g3 (e8.1 V)⟩
     obtain ⟨h,l',m1,m2⟩:=zb2 (l:=zF1 f c) hfu q (M.pi S hb2) (by have:=zJo hr u;omega)
     have hq:zKY f.Nodes c=(zL1 f c p z y).Nodes:=by
      have H':=H
      rw [<- i] at H'
      have:=zLA H' hp0
      rw [this,i]
     have N:=m1.all S
     have hplen:=M.len I
     unfold zEc
     rw [J,zAA,zFZ,zAA,iP rfl]
     rw [zTy hr hfu (g:=h.Nodes) (l:=zF1 f c++l') (by
      unfold zGi
      rw [zaO H hr hfu,zAA,zUK hr hfu u (by simp),zAA,hq,iU]
      have m3:zDj fu n p (zDx n (y.Kids.drop (y.Kids.idxOf c+1))) f.Most (zJH (zL1 f c p z y).Nodes) (zF1 f c)=some (zJH h.Nodes,zF1 f c++l'):=m2
      simp only [m3,zAA]),zAA]
     have m0:Mv 1 f (zL1 f c p z y) (zF1 f c):=by
      have:=Mv.out (.refl f) u
      rw [iU,hq] at this
      exact this
     refine ⟨_,rfl,.inr ⟨_,h,_,?_,m0.trans m1,?_⟩⟩
     ·split<;>omega
     ·have e2:h.Most=f.Most:=N.2.1
      rw [<- e2]
    ·exact no _ j J
   ·refine no 1 (by omega) ?_
    have hc2:inB f c=false:=by cases e:inB f c with
     | false=>rfl
     | true=>exact absurd e hc
    unfold zEO
    rw [zFV hfu T hr (by simp),zAA,zFV hfu T hr (by simp),zAA,zAi]
    simp only [cK,iM,K.1,K.2,hc2,Bool.and_self,iA,zAG,jD,jK,zAO,iN P]
 ·refine no 1 (by omega) ?_
  unfold zEO
  rw [zFV hfu T hr (by simp),zAA]
  have:([n,p].all (inB f))=false:=by
   simp only [cK,iM,kM]
   cases e:inB f n&&inB f p with
   | false=>rfl
   | true=>exact absurd (by simpa using e) K
  rw [this];rfl
end
end
section
def zZ3 (f:Forest) (r:Forest×List Note×Int):Prop:=(∃e,e≠0/\r=(f,[],e))\/∃g l,zAF g=true/\g.Most=f.Most/\g.Nodes.map bare=f.Nodes.map bare/\l.length<=1/\(∀y∈l,y.Kind=4)/\r=(g,l,0)
theorem zWm {fu:Nat} {s:Bs} {l:List Attr} (hfu:1000<fu) (hs:s.length<fu) (hs2:s.length<=1000000) (hx:idx ns n=some x) (i:notes.length<=1000000) :
  ∃e,zC4 fu n s l (zJH ns) notes=some (zJH (ns.set n.toNat (zJC x l)),notes++e)/\e.length<=1/\∀y∈e,y.Kind=4:=by
 unfold zC4
 rw [zRv hs hs2,zAA,zGS hx,zAA,zPG (by omega),zAA,zPG (by omega),zAA,zAA]
 have h:(⟨x.Kind,x.Name,x.Is,x.Data,l,x.Parent,x.Kids,x.Host,x.Under,x.Doc⟩:Node)=zJC x l:=rfl
 simp only [h,zM6]
 rw [zAg (by simp;omega),zAA]
 cases (zcv x.Attrs s).2 with
 | true=>exact ⟨_,rfl,by simp,by simp⟩
 | false =>
  rw [zAG]
  cases (zcv l s).2 with
  | true=>exact ⟨_,rfl,by simp,by simp⟩
  | false=>exact ⟨[],by rw [gI];rfl,by simp,by simp⟩
section
variable {fu:Nat} {f:Forest} (hr:zAF f=true) (hfu:1000<fu)
include hr hfu
theorem zXs (t:List (Node×Bool)->List Note->Option (Option (Bs×Int)×List (Node×Bool)×List Note)) (p:Bs×Int):zBP fu t f (some p)=some (f,[],p.2):=by
 unfold zBP
 rw [zTA (zAH hr) hfu,zAA]
 rfl
theorem zan {t:List (Node×Bool)->List Note->Option (Option (Bs×Int)×List (Node×Bool)×List Note)} {p:Bs×Int} {l:List Note} (h:t (zJH f.Nodes) []=some (some p,m,l)):zBP fu t f none=some (f,[],p.2):=by
 unfold zBP
 rw [zTA (zAH hr) hfu,zAA]
 simp only [kI,zAO]
 rw [h,zAA]
 rfl
theorem zVN {t:List (Node×Bool)->List Note->Option (Option (Bs×Int)×List (Node×Bool)×List Note)} {g:List Node} {l:List Note} (h:t (zJH f.Nodes) []=some (none,zJH g,l)):zBP fu t f none=some (⟨g,f.Most⟩,l,0):=by
 unfold zBP
 rw [zTA (zAH hr) hfu,zAA]
 simp only [kI,zAO]
 rw [h,zAA]
 simp only [kS,zAG,zLo]
theorem elem6 (n:Int):zGp fu f n=some (if InN f.Nodes n then (if isB f.Nodes n 1=true then none else some ([101,108,101,109],5)) else some ([97,115,107,101,100],1)):=by
 unfold zGp
 rw [zfQ hr hfu,zAA]
 by_cases h:InN f.Nodes n
 ·rw [iP h,iP h]
  obtain ⟨x,hx⟩:=zAJ h
  simp only [kI,zAO]
  rw [hx,zAA,zAi,zFZ,zAA]
  have e:isB f.Nodes n 1=(x.Kind==1):=by unfold isB;rw [hx]
  by_cases i:x.Kind=1
  ·rw [iP i,e,i];rfl
  ·rw [iN i,e,show (x.Kind==1)=false by simpa using i]
   rfl
 ·rw [iN h,iN h];rfl
theorem zRh (n:Int) (t:List (Node×Bool)->List Note->Option (Option (Bs×Int)×List (Node×Bool)×List Note))
  (E:∀x,idx f.Nodes n=some x->x.Kind=1->(∃p m l,(p:Bs×Int).2≠0/\t (zJH f.Nodes) []=some (some p,m,l))\/t (zJH f.Nodes) []=some (none,zJH f.Nodes,[])\/∃a l,zGu a=true/\l.length<=1/\(∀y∈l,(y:Note).Kind=4)/\t (zJH f.Nodes) []=some (none,zJH (f.Nodes.set n.toNat (zJC x a)),l)) :
  ∃r,(bnd (zGp fu f n) fun F=>bnd (zBP fu t f F) fun u=>some (u.1,u.2.1,u.2.2))=some r/\zZ3 f r:=by
 rw [elem6 hr hfu,zAA]
 by_cases h:InN f.Nodes n
 ·rw [iP h]
  obtain ⟨x,hx⟩:=zAJ h
  by_cases j:x.Kind=1
  ·rw [iP (by unfold isB;rw [hx];simp [j])]
   rcases E x hx j with ⟨p,m,l,q,i⟩ | i | ⟨a,l,q,i,C,D⟩
   ·rw [zan hr hfu i,zAA];exact ⟨_,rfl,.inl ⟨_,q,rfl⟩⟩
   ·rw [zVN hr hfu i,zAA];exact ⟨_,rfl,.inr ⟨f,[],hr,rfl,rfl,by simp,by simp,rfl⟩⟩
   ·rw [zVN hr hfu D,zAA]
    refine ⟨_,rfl,.inr ⟨_,_,zWb hr hx j q,rfl,?_,i,C,rfl⟩⟩
    show (f.Nodes.set n.toNat (zJC x a)).map bare=_
    rw [List.map_set]
    have hi:n.toNat<f.Nodes.length:=by unfold InN at h;omega
    have e:bare (zJC x a)=(f.Nodes.map bare)[n.toNat]'(by simpa using hi):=by
     have:idx f.Nodes n=some f.Nodes[n.toNat]:=by
      have:=zAW hi
      rwa [show ((n.toNat:Nat):Int)=n by unfold InN at h;omega] at this
     rw [hx] at this
     rw [List.getElem_map,<- lJ.inj this]
     rfl
    rw [e];exact List.set_getElem_self _
  ·rw [iN (by unfold isB;rw [hx];simp [j]),zXs hr hfu,zAA]
   exact ⟨_,rfl,.inl ⟨5,by omega,rfl⟩⟩
 ·rw [iN h,zXs hr hfu,zAA]
  exact ⟨_,rfl,.inl ⟨1,by omega,rfl⟩⟩
variable {s:Bs} (hs:s.length<fu) (hs2:s.length<=1000000)
include hs hs2
theorem zeY (n:Int) (v:Bs):∃r,zKi fu f n s v=some r/\zZ3 f r:=by
 unfold zKi
 refine zRh hr hfu n _ fun x hx q=>?_
 have u:=zQa (zWZ hr hx q)
 unfold zKA
 rw [zGS hx,zAA,zaI (by omega) (by simp only;omega),zAA,zAi]
 simp only
 by_cases e:(zY4 x.Attrs s v).2=0
 ·rw [iP e]
  obtain ⟨C,h,i,j⟩:=zWm (n:=n) (s:=s) (l:=(zY4 x.Attrs s v).1) (notes:=[]) hfu hs hs2 hx (by simp)
  rw [h,zAA]
  exact .inr (.inr ⟨_,_,zSj e,i,j,rfl⟩)
 ·rw [iN e,zFZ,zAA,iN e]
  exact .inl ⟨_,_,_,e,rfl⟩
theorem zZp (n:Int):∃r,zIM fu f n s=some r/\zZ3 f r:=by
 unfold zIM
 refine zRh hr hfu n _ fun x hx q=>?_
 have e:=zWZ hr hx q
 have u:=zQa e
 unfold zIB
 rw [zSx (by omega),zAA,zAi,zGS hx,zAA,zaF (by omega) (by simp only;omega),zAA]
 simp only
 cases C:zFg s with
 | false =>
  simp only [dL,↓reduceIte]
  rw [iN (by omega),zFZ,zAA,iN (by omega)]
  exact .inl ⟨_,_,_,by simp only;omega,rfl⟩
 | true =>
  simp only [↓reduceIte]
  obtain ⟨D,h,i,j⟩:=zWm (n:=n) (s:=s) (l:=(zfd x.Attrs s).1) (notes:=[]) hfu hs hs2 hx (by simp)
  rw [h,zAA]
  exact .inr (.inr ⟨_,_,zSi e,i,j,rfl⟩)
theorem zXV (n k:Int):∃r,zHK fu f n s k=some r/\zZ3 f r:=by
 unfold zHK
 refine zRh hr hfu n _ fun x hx u=>?_
 have h:=zWZ hr hx u
 have C:=zQa h
 unfold zHJ
 rw [zGS hx,zAA,zPG (by omega),zAA,zAA,zfh (by omega) (by simp only;omega),zAA,zAi]
 simp only
 by_cases e:(ze4 x.Attrs s k).2.2=0
 ·rw [iP e]
  cases (zcv x.Attrs s).2==(ze4 x.Attrs s k).2.1 with
  | true=>exact .inr (.inl rfl)
  | false =>
   obtain ⟨D,i,j,q⟩:=zWm (n:=n) (s:=s) (l:=(ze4 x.Attrs s k).1) (notes:=[]) hfu hs hs2 hx (by simp)
   rw [jK,zAO,i,zAA]
   exact .inr (.inr ⟨_,_,zY5 h e,j,q,rfl⟩)
 ·rw [iN e,zFZ,zAA,iN e]
  exact .inl ⟨_,_,_,e,rfl⟩
end
end
section
section
variable {fu:Nat} {f:Forest} (hfu:1000<fu)
include hfu
theorem zMn {l:List Int} (hr:zAF f=true) (hl:l.length<=100):zEz fu f l=some (l.all (inB f)):=by
 unfold zEz
 rw [zEv hfu ((zAH hr).fit hfu),zAA,hr,zAO,zFt (p:=fun n => !(inB f n)) (fun n _=>by unfold zFY;exact zUM f n) (by omega) (by omega),zAA,zHz]
theorem zcP (hr:zAF f=true) (d:Int):zKo fu f d=some (isB f.Nodes d 0):=by
 unfold zKo
 rw [zMn hfu hr (by simp),zAA]
 simp only [cK,iM,kM]
 unfold isB
 cases e:inB f d with
 | false =>
  have:¬(0<=d/\d<f.Nodes.length):=fun h=>by
   have:=zNh (f:=f) (n:=d) h
   rw [e] at this;cases this
  rw [zCa this];rfl
 | true =>
  unfold inB at e
  obtain ⟨x,hx⟩:=zAJ (of_decide_eq_true e)
  rw [hx];rfl
end
structure RI (f:Forest) (rows:List (Node×Bool)):Prop where
 base:rows.take f.Nodes.length=f.Nodes.map fun x=>(x,false)
 len:f.Nodes.length<=rows.length
 new:∀(i:Nat) (h:i<rows.length),f.Nodes.length<=i->rows[i].2=true
 kids:∀r∈rows,r.1.Kids.length<=rows.length+400
def JF (f:Forest) (rows:List (Node×Bool)) (j:zBf):Prop:=InN f.Nodes j.n/\(j.under = -1\/∃u:Nat,j.under=(u:Int)/\f.Nodes.length<=u/\u<rows.length)
theorem JF.mono {f:Forest} {e:List (Node×Bool)} {j:zBf} (h:JF f rows j) (hl:rows.length<=e.length):JF f e j :=
 ⟨h.1,h.2.imp id fun ⟨u,i,q,C⟩=>⟨u,i,q,by omega⟩⟩
theorem RI.old {f:Forest} (h:RI f rows) {n:Int} {x:Node} (hx:idx f.Nodes n=some x):idx rows n=some (x,false):=by
 have hr:=zAK hx
 obtain ⟨i,rfl⟩:∃i:Nat,n=(i:Int):=⟨n.toNat,by omega⟩
 have hi:i<f.Nodes.length:=by omega
 have e:i<rows.length:=by have:=h.len;omega
 rw [zAW hi] at hx
 rw [zAW e]
 have:=congrArg (fun l=>l[i]?) h.base
 simp only [List.getElem?_take,iP hi,lK,lC hi,lC e,lW] at this
 rw [lJ.inj this,lJ.inj hx]
theorem RI.add {f:Forest} (h:RI f rows) {y:Node} (hy:y.Kids=[]):RI f (rows++[(y,true)]):=by
 have hl:=h.len
 refine ⟨?_,by simp;omega,fun i hi j=>?_,fun r hr=>?_⟩
 ·rw [iV hl];exact h.base
 ·rw [List.getElem_append]
  split
  ·rename_i e;exact h.new i e j
  ·simp
 ·rw [cA,e8] at hr
  simp only [eR,cP,eK]
  rcases hr with hr | rfl
  ·have:=h.kids r hr;omega
  ·rw [hy];simp
theorem RI.kid {f:Forest} {u:Nat} {e:Node} (h:RI f rows) (C:f.Nodes.length<=u) (j:e.Kids.length<=rows.length+400):RI f (rows.set u (e,true)):=by
 refine ⟨?_,by simpa using h.len,fun i hi q=>?_,fun r hr=>?_⟩
 ·rw [kT C];exact h.base
 ·rw [List.getElem_set]
  split
  ·rfl
  ·exact h.new i (by simpa using hi) q
 ·rw [List.length_set]
  rcases dT hr with hr | rfl
  ·exact h.kids r hr
  ·exact j
theorem zad {fu:Nat} {f:Forest} {j:zBf} (hr:zAF f=true) (h:RI f rows) (M:JF f rows j) (hl:rows.length<=100000) :
  ∃d e,zEm fu j rows=some ((rows.length:Int),d,e)/\e.length=rows.length+1/\RI f e:=by
 obtain ⟨x,hx⟩:=zAJ M.1
 have hs:=zAH hr
 have P:=hs.attrs x (zEw hx)
 have E:∀F G,∃d e,zCI fu j rows (x,false) x.Attrs (F,G)=some ((rows.length:Int),d,e)/\e.length=rows.length+1/\RI f e:=fun F G=>by
  have i:=h.add (y:=⟨F,x.Name,x.Is,x.Data,x.Attrs,j.under,[],-1,-1,G⟩) rfl
  unfold zCI zHx
  simp only
  rw [zAg (by omega),zAA,zJn (by simp only [lo,Go.Pw.hi,eR,cP,eK];omega),zAA,zAA,zAi]
  have N:(((rows++[((⟨F,x.Name,x.Is,x.Data,x.Attrs,j.under,[],-1,-1,G⟩:Node),true)]).length:Nat):Int) - 1=(rows.length:Int):=by simp
  rw [N]
  rcases M.2 with I | ⟨u,I,J,K⟩
  ·rw [iP I]
   exact ⟨_,_,rfl,by simp,i⟩
  ·have C:u<(rows++[((⟨F,x.Name,x.Is,x.Data,x.Attrs,j.under,[],-1,-1,G⟩:Node),true)]).length:=by simp;omega
   have D:=i.new u C J
   have q:=i.kids _ (gC C)
   rw [iN (by rw [I];omega),I,zAW (by rw [<- I];exact C),zAA]
   simp only [I] at D q C i ⊢
   rw [D,show zSd true=some () from rfl,zAA]
   simp only [eR,cP,eK] at q
   have Q:(rows++[((⟨F,x.Name,x.Is,x.Data,x.Attrs,(u:Int),[],-1,-1,G⟩:Node),true)])[u].1.Kids.length<=rows.length+400:=by
    rw [List.getElem_append_left K]
    exact h.kids _ (gC K)
   rw [zAg (by simp only [cP,eK];omega),zAA,zAA,eO]
   refine ⟨_,_,rfl,by simp,i.kid J ?_⟩
   simp only [eR,cP,eK]
   omega
 unfold zEm
 rw [h.old hx,zAA,show zPy (x,false).2=some () from rfl,zAA,zKG (by simp only;omega),zAA,zAj,zAj]
 simp only
 split
 ·exact E _ _
 ·split
  ·exact E _ _
  ·exact E _ _
theorem run_l2 {h:Int×Int×List (Node×Bool)} {e:Node×Bool} {rc:List zBf×List (Node×Bool)->Option (Int×List (Node×Bool))} (j:e.1.Kids.length<=1000000):∀(k:Nat) (l:List zBf),k<=e.1.Kids.length->l.length+k<=10000000 ->
  zC6 h e rc k l=rc (l++((e.1.Kids.take k).reverse.map fun c=>⟨c,h.2.1,h.1⟩),h.2.2):=by
 intro k
 induction k with
 | zero=>intro l _ _;simp [zC6]
 | succ k q =>
  intro l j hl
  have i:k<e.1.Kids.length:=by omega
  simp only [zC6]
  rw [lC i,zAA,zAg (by simp only [cP,eK];omega),zAA,q _ (by omega) (by simp only [eR,cP,eK];omega),iD i,List.reverse_append,gG,eS]
  rfl
def work (f:Forest) (e:List zBf):Nat:=(e.map fun j=>(zMY f.Nodes j.n).length).sum
theorem zeb (ns:List Node) (L:List Int):(L.flatMap (zMY ns)).length=(L.map fun k=>(zMY ns k).length).sum:=by
 rw [List.length_flatMap]
theorem run_l1 {fu:Nat} {f:Forest} {deep:Bool} {l4:List (Node×Bool)} (hr:zAF f=true):∀(K:Nat) (e:List zBf) (rows:List (Node×Bool)),RI f rows->(∀j∈e,JF f rows j)->work f e<K->rows.length+work f e<=50000->e.length<=50000 ->
  ∃h,zC5 fu deep l4 K (e,rows)=some ((l4.length:Int),h)/\RI f h/\h.length<=rows.length+work f e:=by
 have T:=zBG hr
 have hs:=zAH hr
 intro K
 induction K with
 | zero=>intro e rows _ _ hw;omega
 | succ K ih =>
  intro e rows hR P hw hb J
  simp only [zC5]
  rcases List.eq_nil_or_concat e with rfl | ⟨u,j,rfl⟩
  ·rw [zAS (by simp)]
   exact ⟨rows,rfl,hR,by omega⟩
  ·rw [List.concat_eq_append] at *
   have S:=P j (by simp)
   obtain ⟨x,hx⟩:=zAJ S.1
   have D:work f (u++[j])=work f u+(1+((zMD f.Nodes j.n).map fun k=>(zMY f.Nodes k).length).sum):=by
    unfold work
    rw [gG,kU,lT,List.map_nil,kN,List.sum_nil,T.all_eq S.1,cP,zeb]
    omega
   have E:((u++[j]).length:Int) - 1=(u.length:Int):=by simp
   simp only [eR,cP,eK] at J
   rw [zAT (by simp),E,zJn (by simp only [lo,Go.Pw.hi];omega),zAA,zHX,cC (cB _),Nat.sub_self,List.getElem?_cons_zero,zAA,zAA]
   rw [show zGF (u++[j]) 0 (u.length:Int)=some u from ?_,zAA]
   ·obtain ⟨d,h,h1,h2,Q⟩:=zad (fu:=fu) hr hR S (by omega)
    rw [h1,zAA]
    cases deep with
    | false=>exact ⟨h,rfl,Q,by rw [D];omega⟩
    | true =>
     have V:=hs.kids x (zEw hx)
     have C:zMD f.Nodes j.n=x.Kids:=zFv hx
     have i:∀k∈x.Kids,1<=(zMY f.Nodes k).length:=fun k M=>by
      have F:=(T.kid j.n k (by rw [C];exact M)).2.1
      have:=T.all_self F
      exact kV this
     have W:x.Kids.length<=(x.Kids.map fun k=>(zMY f.Nodes k).length).sum:=by
      clear D C V hx
      revert i
      generalize x.Kids=L
      intro i
      induction L with
      | nil=>simp
      | cons a L G =>
       have:=G fun k M=>i k (lG _ M)
       have:=i a (lH ..)
       simp only [cP,lT,kN]
       omega
     have hjs:u.length<=work f u:=by
      clear D E J
      have:∀N∈u,1<=(zMY f.Nodes N.n).length:=fun N q=>kV (T.all_self (P N (by simp [q])).1)
      unfold work
      clear P hw hb
      revert this
      generalize u=L
      intro i
      induction L with
      | nil=>simp
      | cons a L G =>
       have:=G fun k M=>i k (lG _ M)
       have:=i a (lH ..)
       simp only [cP,lT,kN]
       omega
     rw [C] at D
     simp only [iA,zAG]
     rw [Q.old hx,zAA,show zPy (x,false).2=some () from rfl,zAA,run_l2 (by simp only;omega) _ _ (cB _) (by simp only;omega),iG]
     have X:work f (u++x.Kids.reverse.map fun c=>⟨c,d,(rows.length:Int)⟩)=work f u+(x.Kids.map fun k=>(zMY f.Nodes k).length).sum:=by
      unfold work
      rw [gG,kU,List.map_map]
      congr 1
      rw [show ((fun j:zBf=>(zMY f.Nodes j.n).length) ∘ fun c=>(⟨c,d,(rows.length:Int)⟩:zBf))=fun k=>(zMY f.Nodes k).length from rfl,List.map_reverse,List.sum_reverse]
     obtain ⟨I,g1,g2,g3⟩:=ih (u++x.Kids.reverse.map fun c=>⟨c,d,(rows.length:Int)⟩) h Q (fun N q=>by
      rw [cA] at q
      rcases q with q | q
      ·exact (P N (by simp [q])).mono (by omega)
      ·obtain ⟨c,hc,rfl⟩:=lE.1 q
       have F:=(T.kid j.n c (by rw [C];exact List.mem_reverse.1 hc)).2.1
       exact ⟨F,.inr ⟨rows.length,rfl,hR.len,by omega⟩⟩) (by omega) (by omega) (by simp only [eR,lL,List.length_reverse];omega)
     exact ⟨I,g1,g2,by omega⟩
   ·unfold zGF
    rw [iP ⟨by omega,by omega,by simp;omega⟩]
    simp
def zc5 (f:Forest) (r:Forest×Int×Int):Prop:=(∃e,e≠0/\r=(f,-1,e))\/∃ns,ns.take f.Nodes.length=f.Nodes/\f.Nodes.length<=ns.length/\ns.length<=1000/\(∀x∈ns,x.Kids.length<=2000)/\r=(⟨ns,f.Most⟩,(f.Nodes.length:Int),0)
theorem RI.first {f:Forest} (hr:zAF f=true):RI f (f.Nodes.map fun x=>(x,false)):=by
 have hs:=zAH hr
 refine ⟨?_,by simp,fun i hi h=>?_,fun r e=>?_⟩
 ·rw [kG (by simp)]
 ·simp at hi;omega
 ·obtain ⟨x,hx,rfl⟩:=lE.1 e
  have:=hs.kids x hx
  simp only;omega
theorem zdN {fu:Nat} {f:Forest} (hr:zAF f=true) (hfu:1000<fu) (n d:Int) (deep:Bool) (h:InN f.Nodes n):∃e,zHy fu ⟨n,d,-1⟩ deep (f.Nodes.map fun x=>(x,false))=some ((f.Nodes.length:Int),e)/\RI f e/\e.length<=800:=by
 have hs:=zAH hr
 have q:=hs.few
 have T:=zBG hr
 have D:=T.all_len h
 have hw:work f [⟨n,d,-1⟩]=(zMY f.Nodes n).length:=by simp [work]
 have hl:(f.Nodes.map fun x=>(x,false)).length=f.Nodes.length:=by simp
 obtain ⟨e,i,u,C⟩:=run_l1 (fu:=fu) (deep:=deep) (l4:=f.Nodes.map fun x=>(x,false)) hr fu [⟨n,d,-1⟩] (f.Nodes.map fun x=>(x,false)) (RI.first hr) (fun j E=>by rw [e8.1 E];exact ⟨h,.inl rfl⟩) (by rw [hw];omega) (by rw [hw,hl];omega) (by rw [List.length_singleton];omega)
 rw [hl] at i
 rw [hw,hl] at C
 exact ⟨e,i,u,by omega⟩
theorem zf4 {fu:Nat} {f:Forest} (hr:zAF f=true) (hfu:1000<fu) (n d:Int) (deep:Bool) (i:InN f.Nodes n) (many:Int) (E:0<=many) (F:many<=400):∃r,zFp fu f n d deep many=some r/\zc5 f r:=by
 have hs:=zAH hr
 have q:=hs.few
 unfold zFp
 rw [zJn (by simp only [lo,Go.Pw.hi];omega),zAA,zAQ]
 by_cases u:(f.Nodes.length:Int)+many>f.Most
 ·rw [iP u];exact ⟨_,rfl,.inl ⟨8,by omega,rfl⟩⟩
 ·rw [iN u,zJl (by omega),zAA]
  obtain ⟨e,C,h,D⟩:=zdN hr hfu n d deep i
  rw [C,zAA]
  refine ⟨_,rfl,.inr ⟨e.map Prod.fst,?_,?_,?_,fun x hx=>?_,rfl⟩⟩
  ·rw [<- List.map_take,h.base,List.map_map]
   exact List.map_id _
  ·rw [lL];exact h.len
  ·rw [lL];omega
  ·obtain ⟨r,j,rfl⟩:=lE.1 hx
   have:=h.kids r j
   omega
theorem zae {fu:Nat} {f:Forest} (hr:zAF f=true) (hfu:1000<fu) (n d:Int) (deep:Bool) (e:InN f.Nodes n):∃r,(cnd deep (bnd (zEa fu f n) fun q=>(zFp fu f n d deep) (q.length:Int)) ((zFp fu f n d deep) 1))=some r/\zc5 f r:=by
 have j:=(zBG hr).all_len e
 have i:=(zAH hr).few
 rw [zTj (zAH hr) hfu hr e,zAA]
 have h:=zf4 hr hfu n d deep e
 cases deep with
 | false=>rw [zAG];exact h 1 (by omega) (by omega)
 | true=>rw [zAO];exact h _ (by omega) (by omega)
theorem zaf {fu:Nat} {f:Forest} (hr:zAF f=true) (hfu:1000<fu) (n d:Int) (deep:Bool):∃r,zLb fu f n d deep=some r/\zc5 f r:=by
 unfold zLb
 rw [zMn hfu hr (by simp),zAA,zcP hfu hr,zAA]
 have e:[n].all (inB f)=inB f n:=by simp
 rw [e]
 by_cases h:inB f n=true
 ·rw [h,iA,zAG]
  by_cases i:isB f.Nodes d 0=true
  ·rw [i,iA,zAG]
   exact zae hr hfu n d deep (by unfold inB at h;exact of_decide_eq_true h)
  ·rw [iJ.2 i,jK,zAO]
   exact ⟨_,rfl,.inl ⟨1,by omega,rfl⟩⟩
 ·rw [iJ.2 h,jK,zAO]
  exact ⟨_,rfl,.inl ⟨1,by omega,rfl⟩⟩
end
section
def Ext (a b:List Node):Prop:=a.length<=b.length/\∀j w,idx a j=some w->∃v,idx b j=some v/\v.Kind=w.Kind/\upI b j=upI a j
theorem Ext.refl (a:List Node):Ext a a:=⟨cB _,fun _ w h=>⟨w,h,rfl,rfl⟩⟩
theorem Ext.of_bare (h:b.map bare=a.map bare):Ext a b:=by
 have hl:b.length=a.length:=by have:=congrArg List.length h;simpa using this
 refine ⟨by omega,fun j w hw=>?_⟩
 have u:=zAK hw
 obtain ⟨v,i⟩:=zAJ (l:=b) (n:=j) (by omega)
 refine ⟨v,i,?_,by rw [<- zWd,h,zWd]⟩
 have e:=zKW (l:=b) (g:=bare) (n:=j)
 rw [h,zKW,hw,i] at e
 have q:=lJ.inj e
 show (bare v).Kind=w.Kind
 rw [<- q];rfl
theorem Ext.of_take (h:b.take a.length=a) (hl:a.length<=b.length):Ext a b:=by
 have i:b=a++b.drop a.length:=by
  conv=>lhs;rw [<- List.take_append_drop a.length b,h]
 refine ⟨hl,fun j w hw=>?_⟩
 rw [i]
 have e:=zKV (m:=b.drop a.length) hw
 exact ⟨w,e,rfl,zcS (zAK hw)⟩
def Chg (f g:Forest) (l:List Note):Prop:=∃f1 h i e m,Ext f.Nodes f1.Nodes/\zAF f1=true/\Mv m f1 h i/\m<=1000/\Ext h.Nodes g.Nodes/\l=i++e/\(∀y∈e,y.Kind=3\/y.Kind=4)/\e.length<=1000/\g.Nodes.length<=1000/\∀x∈g.Nodes,x.Kids.length<=2000
theorem Chg.of_mv {f:Forest} {l:List Note} {m:Nat} (hr:zAF f=true) (h:Mv m f g l) (e:m<=1000):Chg f g l:=by
 have hs:=zAH (h.all hr).1
 exact ⟨f,g,l,[],m,Ext.refl _,hr,h,e,Ext.refl _,by simp,by simp,by simp,by have:=hs.few;omega,fun x hx=>by have:=hs.kids x hx;omega⟩
theorem Chg.of_ext {f:Forest} (hr:zAF f=true) (h:Ext f.Nodes g.Nodes) (e:g.Nodes.length<=1000) (i:∀x∈g.Nodes,x.Kids.length<=2000):Chg f g [] :=
 ⟨f,f,[],[],0,Ext.refl _,hr,.refl f,by omega,h,rfl,by simp,by simp,e,i⟩
theorem Chg.len {f:Forest} {l:List Note} (h:Chg f g l):l.length<=2000000:=by
 obtain ⟨f1,i,u,C,m,_,hr,e,j,_,rfl,_,q,_⟩:=h
 have:=(e.all hr).2.2.2
 simp only [eR]
 omega
theorem Chg.of_hand {f:Forest} {N:Nat} (hr:zAF f=true) (h:Hand f N r) (j:N<=1000):r.2.2≠0\/(r.2.2=0/\Chg f r.1 r.2.1):=by
 rcases h with ⟨e,i,rfl⟩ | ⟨m,g,l,q,h,rfl⟩
 ·exact .inl i
 ·exact .inr ⟨rfl,.of_mv hr h (by omega)⟩
theorem Chg.of_attrs {f:Forest} (hr:zAF f=true) (h:zZ3 f r):r.2.2≠0\/(r.2.2=0/\Chg f r.1 r.2.1):=by
 rcases h with ⟨e,u,rfl⟩ | ⟨g,l,i,C,j,D,q,rfl⟩
 ·exact .inl u
 ·have hs:=zAH i
  exact .inr ⟨rfl,f,f,[],l,0,Ext.refl _,hr,.refl f,by omega,Ext.of_bare j,rfl,fun y hy=>.inr (q y hy),by omega,by have:=hs.few;simp only;omega,fun x hx=>by have:=hs.kids x hx;omega⟩
theorem Chg.of_copy {f:Forest} {r:Forest×Int×Int} (hr:zAF f=true) (h:zc5 f r):r.2.2≠0\/(r.2.2=0/\Chg f r.1 []):=by
 rcases h with ⟨e,C,rfl⟩ | ⟨ns,i,j,q,u,rfl⟩
 ·exact .inl C
 ·exact .inr ⟨rfl,.of_ext hr (.of_take i j) q u⟩
section
variable {f:Forest} {fu:Nat} (hr:zAF f=true) (hfu:1000<fu)
include hr hfu
theorem zWY (n:Int):∃r,zIC fu f n=some r/\(r.2.2≠0\/(r.2.2=0/\Chg f r.1 [])):=by
 have hs:=zAH hr
 have u:=hs.few
 have fin:∀x,idx f.Nodes n=some x->∃r,zFn fu f n x ()=some r/\(r.2.2≠0\/(r.2.2=0/\Chg f r.1 [])):=fun x hx=>by
  unfold zFn
  rw [zAi,zAj,zJl (by omega),zAA,zAg (by simp;omega),zAA,zKV hx,zAA]
  by_cases E:x.Under = -1
  ·rw [iP E]
   by_cases D:(f.Nodes.length:Int)=f.Most
   ·rw [iP D];exact ⟨_,rfl,.inl (by simp)⟩
   ·rw [iN D]
    have F:=zAK hx
    refine ⟨_,rfl,.inr ⟨rfl,.of_ext hr ⟨by simp,fun j w hw=>?_⟩ (by simp;omega) fun y hy=>?_⟩⟩
    ·have i:=zKV (m:=[(⟨4,[],[],[],[],-1,[],n,-1,x.Doc⟩:Node)]) hw
     by_cases C:j=n
     ·subst C
      rw [hx] at hw
      obtain rfl:=lJ.inj hw
      have e:idx ((f.Nodes++[(⟨4,[],[],[],[],-1,[],j,-1,x.Doc⟩:Node)]).set j.toNat ⟨x.Kind,x.Name,x.Is,x.Data,x.Attrs,x.Parent,x.Kids,x.Host,(f.Nodes.length:Int),x.Doc⟩) j=some ⟨x.Kind,x.Name,x.Is,x.Data,x.Attrs,x.Parent,x.Kids,x.Host,(f.Nodes.length:Int),x.Doc⟩:=zK1 (by simp;omega)
      exact ⟨_,e,rfl,by rw [zGg e,zGg hx]⟩
     ·have e:idx ((f.Nodes++[(⟨4,[],[],[],[],-1,[],n,-1,x.Doc⟩:Node)]).set n.toNat ⟨x.Kind,x.Name,x.Is,x.Data,x.Attrs,x.Parent,x.Kids,x.Host,(f.Nodes.length:Int),x.Doc⟩) j=some w:=(zJh (by omega) C).trans i
      exact ⟨_,e,rfl,by rw [zGg e,zGg hw]⟩
    ·rcases dT hy with h | rfl
     ·rcases cA.1 h with h | h
      ·have:=hs.kids y h;omega
      ·rw [e8.1 h];simp
     ·have:=hs.kids x (zEw hx);simp only;omega
  ·rw [iN E];exact ⟨_,rfl,.inl (by simp)⟩
 unfold zIC
 rw [zV5 hfu (hs.fit hfu) hr (by simp),zAA,show [n].all (inB f)=inB f n by simp]
 by_cases q:inB f n=true
 ·obtain ⟨x,hx⟩:∃x,idx f.Nodes n=some x:=by
   unfold inB at q
   exact zAJ (of_decide_eq_true q)
  rw [q,iA,zAG,hx,zAA,zAi,zH3 (by omega),zAA]
  by_cases i:x.Kind=1
  ·rw [iP i]
   cases zFP x.Name with
   | true=>rw [iA,zAG];exact fin x hx
   | false =>
    unfold zLU
    rw [jK,zAO,zAA,zKI (by simp;omega) (by simp),zAA]
    generalize List.contains _ x.Name=b
    cases b with
    | true=>rw [iA,zAG];exact fin x hx
    | false=>exact ⟨_,rfl,.inl (by simp)⟩
  ·rw [iN i];exact ⟨_,rfl,.inl (by simp)⟩
 ·rw [iJ.2 q,jK,zAO]
  exact ⟨_,rfl,.inl (by simp)⟩
omit hfu in
theorem zbJ {k:Int} {y:Node} (hy:idx f.Nodes n=some y) (e:k∈y.Kids):InN f.Nodes k:=by
 obtain ⟨w,hw⟩:=zJG (zAa hr).2.2.1 hy k e
 exact zAK hw
theorem zgD {y:Node} (hl:y.Kids.length<=400) (E:∀k∈y.Kids,InN f.Nodes k):∀(m i K:Nat) (g:Forest) (l:List Note),i+m=y.Kids.length->m<K->Mv i f g l->∃h I,zF7 fu y K ((i:Int),l,g.Nodes,g.Most)=some (h,I,0)/\Mv y.Kids.length f h I:=by
 intro m
 induction m with
 | zero =>
  intro i K g l hi N j
  obtain ⟨K,rfl⟩:∃D,K=D+1:=⟨K - 1,by omega⟩
  obtain rfl:i=y.Kids.length:=by omega
  simp only [zF7]
  rw [zAS (by simp)]
  exact ⟨g,l,rfl,j⟩
 | succ m G =>
  intro i K g l hi N j
  obtain ⟨K,rfl⟩:∃D,K=D+1:=⟨K - 1,by omega⟩
  have e:i<y.Kids.length:=by omega
  obtain ⟨F,_,hS,P⟩:=j.all hr
  have u:InN g.Nodes y.Kids[i]:=hS.inN.2 (E _ (gC e))
  simp only [zF7]
  rw [zAT (by simpa using e),zAW e,zAA,zOC F hfu,zAA,iP u]
  by_cases C:zHB g.Nodes y.Kids[i] = -1
  ·have q:Mv (i+1) f ⟨zKY g.Nodes y.Kids[i],g.Most⟩ (l++zF1 g y.Kids[i]):=j.out u
   obtain ⟨z,hz⟩:=zAJ u
   have J:zKY g.Nodes y.Kids[i]=g.Nodes:=zLm hz (by rw [<- zIy hz];exact C)
   have M:zF1 g y.Kids[i]=[]:=by unfold zF1;rw [iN fun h=>h.1 C]
   rw [J,M] at q
   rw [iP C]
   simp only
   rw [zAg (by simp;omega),zAA,zBO (by omega),zAA]
   exact G (i+1) K g (l++[]) (by omega) (by omega) q
  ·rw [iN C]
   simp only
   have Q:=zJo F u
   rw [zAg (by omega),zAA,zBO (by omega),zAA]
   exact G (i+1) K ⟨zKY g.Nodes y.Kids[i],g.Most⟩ (l++zF1 g y.Kids[i]) (by omega) (by omega) (j.out u)
theorem zZJ (n:Int):∃r,zIc fu f n=some r/\(r.2.2≠0\/(r.2.2=0/\Chg f r.1 r.2.1)):=by
 have hs:=zAH hr
 unfold zIc
 rw [zMn hfu hr (by simp),zAA,show [n].all (inB f)=inB f n by simp]
 by_cases e:inB f n=true
 ·obtain ⟨y,hy⟩:∃x,idx f.Nodes n=some x:=by
   unfold inB at e
   exact zAJ (of_decide_eq_true e)
  have i:=hs.kids y (zEw hy)
  rw [e,iA,zAG,hy,zAA]
  obtain ⟨h,C,j,q⟩:=zgD hr hfu i (fun k u=>zbJ hr hy u) y.Kids.length 0 fu f [] (by omega) (by omega) (.refl f)
  exact ⟨_,j,.inr ⟨rfl,.of_mv hr q (by omega)⟩⟩
 ·rw [iJ.2 e,jK,zAO]
  exact ⟨_,rfl,.inl (by simp)⟩
end
end
section
theorem zdl {f:Forest} (hr:zAF f=true) {n k:Int} {y:Node} (hy:idx f.Nodes n=some y) (j:k∈y.Kids):isB f.Nodes k 3=false:=by
 have i:=zBc (zAa hr).2.2.1 hy
 unfold zFb zEV at i
 simp only [lM,lR] at i
 have h:=i.2.2.2.1.2.1 k j
 unfold zOo at h
 unfold isB
 cases hz:idx f.Nodes k with
 | none=>rfl
 | some z =>
  rw [hz] at h
  simp only [lM,dD,beq_iff_eq,bne_iff_ne] at h
  simp only
  rcases h.2.2 with e | e
  ·rw [e];rfl
  ·rw [e.1];rfl
section
variable {fu:Nat} {f1:Forest} {at_:Int} {e6:Int} (hr:zAF f1=true) (hfu:1000<fu)
include hr hfu
theorem join_l {y:Node} (hl:y.Kids.length<=400) (F:∀k∈y.Kids,isB f1.Nodes k 3=false):∀(m i K q:Nat) (g:Forest) (l:List Note),i+m=y.Kids.length->m<K->Mv q f1 g l->q<=i->∃h D N,zG6 fu (f1,at_,e6) y K ((i:Int),l,g.Nodes,g.Most)=some (h,at_,D,0)/\Mv N f1 h D/\N<=y.Kids.length:=by
 intro m
 induction m with
 | zero =>
  intro i K q g l hi S u J
  obtain ⟨K,rfl⟩:∃E,K=E+1:=⟨K - 1,by omega⟩
  obtain rfl:i=y.Kids.length:=by omega
  simp only [zG6]
  rw [zAS (by simp)]
  exact ⟨g,l,q,rfl,u,J⟩
 | succ m M =>
  intro i K q g l hi S u J
  obtain ⟨K,rfl⟩:∃E,K=E+1:=⟨K - 1,by omega⟩
  have j:i<y.Kids.length:=by omega
  obtain ⟨I,_,hS,V⟩:=u.all hr
  have Q:isB g.Nodes y.Kids[i] 3=false:=by rw [hS.isB];exact F _ (gC j)
  obtain ⟨r,P,G⟩:=zRj I hfu y.Kids[i] at_ (-1)
  rw [iN (by rw [Q];simp)] at G
  simp only [zG6]
  rw [zAT (by simpa using j),zAW j,zAA,P,zAA]
  rcases G with ⟨e,he,rfl⟩ | ⟨X,h,D,W,C,rfl⟩
  ·simp only
   rw [zAg (by simp;omega),zAA,zBO (by omega),zAA,gI]
   exact M (i+1) K q g l (by omega) (by omega) u (by omega)
  ·have T:=(C.all I).2.2.2
   simp only
   rw [zAg (by omega),zAA,zBO (by omega),zAA]
   exact M (i+1) K (q+X) h (l++D) (by omega) (by omega) (u.trans C) (by omega)
end
theorem zbf (f:Forest) (x:Node):Ext f.Nodes (f.Nodes++[x]):=Ext.of_take (List.take_left' rfl) (by simp)
theorem zbF {fu:Nat} {f:Forest} (hr:zAF f=true) (hfu:1000<fu) (n:Int):∃r,zLc fu f n=some r/\(r.2.2.2≠0\/(r.2.2.2=0/\Chg f r.1 r.2.2.1)):=by
 have hs:=zAH hr
 unfold zLc
 rw [zMn hfu hr (by simp),zAA,show [n].all (inB f)=inB f n by simp]
 by_cases i:inB f n=true
 ·obtain ⟨y,hy⟩:∃x,idx f.Nodes n=some x:=by
   unfold inB at i
   exact zAJ (of_decide_eq_true i)
  have q:=hs.kids y (zEw hy)
  rw [i,iA,zAG,hy,zAA,zAj]
  by_cases D:y.Kind=2
  ·rw [iP D];exact ⟨_,rfl,.inl (by simp)⟩
  ·rw [iN D,zAA,zbV hfu (hs.fit hfu) (by simp),zAA]
   by_cases j:zAF f=true/\zbd f ⟨3,[],[],[],[],0,[],0,0,y.Doc⟩=true
   ·rw [iP j]
    by_cases u:(f.Nodes.length:Int)=f.Most
    ·rw [iP u,zAi,iN (by simp)]
     exact ⟨_,rfl,.inl (by simp)⟩
    ·rw [iN u,zAi,iP rfl,zAA]
     have e:=zVv hr j.2 u
     have I:=zbf f (zZX f ⟨3,[],[],[],[],0,[],0,0,y.Doc⟩)
     obtain ⟨h,J,K,F,C,M⟩:=join_l (fu:=fu) (at_:=(f.Nodes.length:Int)) (e6:=0) e hfu q (fun k E=>by
      have G:=zdl hr hy E
      obtain ⟨w,hw⟩:=zJG (zAa hr).2.2.1 hy k E
      rw [zX8 hw];exact G) y.Kids.length 0 fu 0 _ [] (by omega) (by omega) (.refl _) (cB _)
     have hs2:=zAH (C.all e).1
     refine ⟨_,F,.inr ⟨rfl,_,h,J,[],K,I,e,C,by omega,Ext.refl _,by simp,by simp,by simp,?_,fun x hx=>?_⟩⟩
     ·have:=hs2.few;simp only;omega
     ·have:=hs2.kids x hx;omega
   ·rw [iN j,zAi,iN (by simp)]
    exact ⟨_,rfl,.inl (by simp)⟩
 ·rw [iJ.2 i,jK,zAO]
  exact ⟨_,rfl,.inl (by simp)⟩
def zfX (a b:List Node):Prop:=b.length=a.length/\∀j w,idx a j=some w->∃v,idx b j=some v/\v.Kind=w.Kind/\v.Parent=w.Parent/\v.Host=w.Host/\v.Kids=w.Kids
theorem zfX.ext (h:zfX a b):Ext a b:=⟨by rw [h.1];exact cB _,fun j w hw=>by
 obtain ⟨v,e,i,q,u,_⟩:=h.2 j w hw
 exact ⟨v,e,i,by rw [zGg e,zGg hw,q,u]⟩⟩
theorem zfX.set (h:zfX a b) {n d:Int} {v:Node} (D:idx b n=some v):zfX a (b.set n.toNat ⟨v.Kind,v.Name,v.Is,v.Data,v.Attrs,v.Parent,v.Kids,v.Host,v.Under,d⟩):=by
 have C:=zAK D
 refine ⟨by simpa using h.1,fun j w hw=>?_⟩
 obtain ⟨u,e,i⟩:=h.2 j w hw
 by_cases q:j=n
 ·subst q
  rw [D] at e
  obtain rfl:=lJ.inj e
  exact ⟨_,zK1 C,i⟩
 ·exact ⟨u,(zJh C.1 q).trans e,i⟩
theorem take_l {y6:Node} {d c11:Int} {r13:List Int} (hl:r13.length<=1000) (I:∀k∈r13,InN a k):∀(m i K:Nat) (ns:List Node) (l:List Note),i+m=r13.length->m<K->zfX a ns->l.length+m<=1000000 ->
  ∃e j,zFq d y6 c11 r13 K ((i:Int),ns,l)=some (⟨e,c11⟩,l++j,0)/\zfX a e/\j.length<=m/\∀y∈j,y.Kind=3:=by
 intro m
 induction m with
 | zero =>
  intro i K ns l hi S C _
  obtain ⟨K,rfl⟩:∃D,K=D+1:=⟨K - 1,by omega⟩
  obtain rfl:i=r13.length:=by omega
  simp only [zFq]
  rw [zAS (by simp)]
  exact ⟨ns,[],by rw [gI],C,by simp,by simp⟩
 | succ m P =>
  intro i K ns l hi S C T
  obtain ⟨K,rfl⟩:∃D,K=D+1:=⟨K - 1,by omega⟩
  have h:i<r13.length:=by omega
  have M:=I _ (gC h)
  have u:InN ns r13[i]:=by unfold InN at M ⊢;rw [C.1];exact M
  obtain ⟨v,N⟩:=zAJ u
  have q:=C.set (d:=d) N
  simp only [zFq]
  rw [zAT (by simpa using h),zAW h,zAA,N,zAA,zK1 u,zAA,zAj]
  by_cases J:v.Kind=1
  ·rw [iP J,zAg (by simp only [cP,eK];omega),zAA,zBO (by omega),zAA]
   obtain ⟨e,j,E,F,Q,G⟩:=P (i+1) K _ (l++[(⟨3,r13[i],y6.Doc,d,[],false,false,[],[]⟩:Note)]) (by omega) (by omega) q (by simp only [eR,cP,eK];omega)
   refine ⟨e,(⟨3,r13[i],y6.Doc,d,[],false,false,[],[]⟩:Note)::j,?_,F,by simp only [cP];omega,fun y hy=>?_⟩
   ·rw [E,eS];rfl
   ·rcases List.mem_cons.1 hy with rfl | hy
    ·rfl
    ·exact G y hy
  ·rw [iN J,zBO (by omega),zAA]
   obtain ⟨e,j,E,F,Q,G⟩:=P (i+1) K _ l (by omega) (by omega) q (by omega)
   exact ⟨e,j,E,F,by omega,G⟩
theorem zcO {fu:Nat} {f:Forest} {d:Int} {y6:Node} {l:List Note} {m:Nat} (hr:zAF f=true) (hfu:1000<fu) (T:InN f.Nodes n) (E:Mv m f g l) (X:m<=1):∃r,zIe fu n d y6 (l,g.Nodes,g.Most)=some r/\(r.2.2≠0\/(r.2.2=0/\Chg f r.1 r.2.1)):=by
 obtain ⟨D,_,hS,S⟩:=E.all hr
 have hs:=zAH D
 have J:=hs.few
 have h:InN g.Nodes n:=hS.inN.2 T
 have P:=(zAL D).all_len h
 unfold zIe
 simp only
 rw [zAj]
 by_cases I:y6.Doc=d
 ·rw [iP I]
  exact ⟨_,rfl,.inr ⟨rfl,.of_mv hr E (by omega)⟩⟩
 ·rw [iN I,zJl (by omega),zAA,zXf (f:=⟨g.Nodes,g.Most⟩) hs hfu D h,zAA]
  obtain ⟨q,V,K,C,W,M⟩:=take_l (y6:=y6) (d:=d) (c11:=g.Most) (r13:=zIG g.Nodes n) (a:=g.Nodes) (by omega) (fun k Q=>((zAL D).all_in n h k Q).1) (zIG g.Nodes n).length 0 fu g.Nodes l (by omega) (by omega) ⟨rfl,fun j w hw=>⟨w,hw,rfl,rfl,rfl,rfl⟩⟩ (by omega)
  refine ⟨_,K,.inr ⟨rfl,f,g,l,V,m,Ext.refl _,hr,E,by omega,C.ext,rfl,fun y hy=>.inl (M y hy),by omega,?_,fun x hx=>?_⟩⟩
  ·show q.length<=1000
   rw [C.1];omega
  ·obtain ⟨i,hi,e⟩:=iW hx
   have u:i<g.Nodes.length:=by
    have:i<q.length:=hi
    rw [C.1] at this;exact this
   obtain ⟨v,G,_,_,_,N⟩:=C.2 (i:Int) _ (zAW u)
   have F:idx q (i:Int)=some x:=by
    rw [zAW hi];exact congrArg some e
   rw [F] at G
   rw [lJ.inj G,N]
   have:=hs.kids _ (gC u)
   omega
theorem zcN {fu:Nat} {f:Forest} (hr:zAF f=true) (hfu:1000<fu) (n d:Int):∃r,zJb fu f n d=some r/\(r.2.2≠0\/(r.2.2=0/\Chg f r.1 r.2.1)):=by
 have i:∃r,(some (f,([]:List Note),(1:Int)))=some r/\(r.2.2≠0\/(r.2.2=0/\Chg f r.1 r.2.1)):=⟨_,rfl,.inl (by simp)⟩
 have h:∃r,(some (f,([]:List Note),(5:Int)))=some r/\(r.2.2≠0\/(r.2.2=0/\Chg f r.1 r.2.1)):=⟨_,rfl,.inl (by simp)⟩
 unfold zJb
 rw [zMn hfu hr (by simp),zAA,zcP hfu hr,zAA,show [n].all (inB f)=inB f n by simp]
 by_cases j:inB f n=true
 ·have e:InN f.Nodes n:=by unfold inB at j;exact of_decide_eq_true j
  obtain ⟨y,hy⟩:=zAJ e
  rw [j,iA,zAG]
  by_cases q:isB f.Nodes d 0=true
  ·rw [q,iA,zAG,hy,zAA,zAA]
   have j1:∃r,zId fu f n d y ()=some r/\(r.2.2≠0\/(r.2.2=0/\Chg f r.1 r.2.1)):=by
    unfold zId
    rw [zOC hr hfu,zAA,iP e]
    by_cases u:zHB f.Nodes n = -1
    ·rw [iP u,zAi,iN (by simp)]
     exact zcO hr hfu e (.refl f) (by omega)
    ·rw [iN u,zAi,iP rfl]
     have C:Mv 1 f ⟨zKY f.Nodes n,f.Most⟩ (zF1 f n):=by simpa using Mv.out (.refl f) e
     exact zcO hr hfu e C (by omega)
   rw [zAj,zAj,zAj]
   split
   ·exact h
   ·split
    ·exact h
    ·exact j1
  ·rw [iJ.2 q,jK,zAO];exact i
 ·rw [iJ.2 j,jK,zAO];exact i
end
section
def zYB:List Bs:=(zEy 0).getD []
theorem zdn (fu:Nat):zEy fu=some zYB:=by
 have h:∃l,zEy 0=some l:=by
  have:(zEy 0).isSome=true:=by decide +kernel
  exact kW.1 this
 obtain ⟨l,hl⟩:=h
 have e:zEy fu=zEy 0:=rfl
 unfold zYB
 rw [e,hl];rfl
theorem zZP:zYB.length<=200:=by decide +kernel
def zbK (s:Bs):Bool:=zYB.contains s
theorem zZN {fu:Nat} {s:Bs} (hfu:1000<fu):zKB fu s=some (zbK s):=by
 have:=zZP
 unfold zKB
 rw [zdn,zAA,zKI (by omega) (by omega),zAA]
 rfl
theorem zXC [DecidableEq κ] {l:List (κ × ν)} {k : κ} {v : ν} {x : κ × ν} (h:x∈zG9 l k v):x∈l\/x=(k,v):=by
 unfold zG9 at h
 split at h
 ·rcases dT h with h | h
  ·exact .inl h
  ·exact .inr h
 ·rcases cA.1 h with h | h
  ·exact .inl h
  ·exact .inr (e8.1 h)
theorem zUF [DecidableEq κ] {l:List (κ × ν)} {k : κ} {z : ν} (h:zK5 l k=true):(k,zLJ l k z)∈l:=by
 unfold zK5 at h
 unfold zLJ
 cases e:zH2 l k with
 | none=>rw [e] at h;cases h
 | some j =>
  obtain ⟨v,i⟩:=zJB e
  simp only [i]
  exact lU i
def defB (y:Def):Bool:=zFP y.Name&&((y.Local==y.Name||zbK y.Local)&&(decide (0<=y.Class)&&decide (y.Class<12)))
def rdF (n:Nat):List Def->Nat->List (Int×Int)->List (Bs×Int)->zCm×Bool
 | [],_,l3,l4=>(⟨l4,l3⟩,decide (l4.length=n)&&decide (l3.length=n))
 | y::t,i,l3,l4=>if defB y=true then rdF n t (i+1) (zG9 l3 y.Class (i:Int)) (zG9 l4 y.Name (i:Int)) else (⟨zG9 l4 y.Name (i:Int),zG9 l3 y.Class (i:Int)⟩,false)
theorem zcA {fu:Nat} {i:Int} {e:List (Int×Int)} {l4:List (Bs×Int)} {y:Def} {rc:Int×List (Int×Int)×List (Bs×Int)->Option (zCm×Bool)} {b:Bool} (hfu:1000<fu) (u:0<=i) (C:i<=1000000) (q:b=(y.Local==y.Name||zbK y.Local)) :
  zIK fu i e l4 y rc b=if defB y=true then rc (i+1,zG9 e y.Class i,zG9 l4 y.Name i) else some (⟨zG9 l4 y.Name i,zG9 e y.Class i⟩,false):=by
 unfold zIK defB
 rw [<- q,zH3 (by omega),zAA,zJn (by simp only [lo,Go.Pw.hi];omega),zAA]
 cases zFP y.Name with
 | false=>rfl
 | true =>
  cases b with
  | false=>rfl
  | true =>
   simp only [iA,zAG,iB,zAQ]
   by_cases h:y.Class<0
   ·rw [iP h,decide_eq_false (by omega)];rfl
   ·rw [iN h,decide_eq_true (by omega)]
    by_cases j:y.Class>=12
    ·rw [iP j,decide_eq_false (by omega)];rfl
    ·rw [iN j,decide_eq_true (by omega)];rfl
theorem zgx {fu:Nat} {d:Desk} (hfu:1000<fu) (hl:d.Defs.length<=900):zLO fu d=some (rdF d.Defs.length d.Defs 0 [] []):=by
 have F:∀(j i k:Nat) (C:List (Int×Int)) (q:List (Bs×Int)),i+j=d.Defs.length->j<k->zEE fu d k ((i:Int),C,q)=some (rdF d.Defs.length (d.Defs.drop i) i C q):=by
  intro j
  induction j with
  | zero =>
   intro i k C q hi J
   obtain ⟨k,rfl⟩:∃E,k=E+1:=⟨k - 1,by omega⟩
   obtain rfl:i=d.Defs.length:=by omega
   simp only [zEE]
   rw [zAS (by simp),kJ,zAj]
   unfold rdF
   have e:∀m:Nat,(((m:Nat):Int)==(d.Defs.length:Int))=decide (m=d.Defs.length):=fun m=>by
    rw [eW,beq_iff_eq,decide_eq_true_eq];omega
   rw [e]
   by_cases G:q.length=d.Defs.length
   ·rw [iP (by omega),decide_eq_true G];rfl
   ·rw [iN (by omega),decide_eq_false G];rfl
  | succ j K =>
   intro i k C q hi J
   obtain ⟨k,rfl⟩:∃E,k=E+1:=⟨k - 1,by omega⟩
   have h:i<d.Defs.length:=by omega
   simp only [zEE]
   rw [zAT (by simpa using h),zAW h,zAA,zAj,zZN hfu,zAA,eT h]
   have u:=K (i+1) k (zG9 C d.Defs[i].Class (i:Int)) (zG9 q d.Defs[i].Name (i:Int)) (by omega) (by omega)
   have I:((i+1:Nat):Int)=(i:Int)+1:=by omega
   rw [I] at u
   have fin:(if defB d.Defs[i]=true then zEE fu d k ((i:Int)+1,zG9 C d.Defs[i].Class (i:Int),zG9 q d.Defs[i].Name (i:Int)) else some ((⟨zG9 q d.Defs[i].Name (i:Int),zG9 C d.Defs[i].Class (i:Int)⟩:zCm),false))=some (rdF d.Defs.length (d.Defs[i]::d.Defs.drop (i+1)) i C q):=by
    rw [u]
    simp only [rdF]
    split<;>rfl
   by_cases D:d.Defs[i].Local=d.Defs[i].Name
   ·rw [iP D,zcA hfu (by omega) (by omega) (by rw [show (d.Defs[i].Local==d.Defs[i].Name)=true by simpa using D];rfl)]
    exact fin
   ·rw [iN D,zcA hfu (by omega) (by omega) (by rw [show (d.Defs[i].Local==d.Defs[i].Name)=false by simpa using D];rfl)]
    exact fin
 unfold zLO
 have:=F d.Defs.length 0 fu [] [] (by omega) (by omega)
 simpa using this
def zHf (d:Desk):zCm×Bool:=rdF d.Defs.length d.Defs 0 [] []
theorem zYb {n:Nat}:∀(l:List Def) (i:Nat) (j:List (Int×Int)) (l4:List (Bs×Int)),i+l.length=n->(∀x∈l4,0<=x.2/\x.2<(n:Int))->∀x∈(rdF n l i j l4).1.names,0<=x.2/\x.2<(n:Int)
 | [],_,_,_,_,h=>h
 | y::t,i,j,l4,hi,h=>by
  simp only [cP] at hi
  have e:∀x∈zG9 l4 y.Name (i:Int),0<=x.2/\x.2<(n:Int):=fun x hx=>by
   rcases zXC hx with hx | rfl
   ·exact h x hx
   ·simp only;omega
  simp only [rdF]
  split
  ·exact zYb t (i+1) _ _ (by omega) e
  ·exact e
theorem zMa {d:Desk} {s:Bs} (h:zK5 (zHf d).1.names s=true):0<=zLJ (zHf d).1.names s 0/\zLJ (zHf d).1.names s 0<(d.Defs.length:Int) :=
 zYb d.Defs 0 [] [] (by omega) (by simp) _ (zUF h)
def opF (names:List (Bs×Int)) (next:Int):List Wait->Bool->Int->Bool
 | [],ok,_=>ok&&(decide (0<=next)&&decide (next<=100000))
 | y::t,ok,e=>opF names next t (ok&&(!zK5 names y.Name&&(zFP y.Name&&(decide (e<y.Ticket)&&decide (y.Ticket<next))))) y.Ticket
def zKx (d:Desk):Bool:=opF (zHf d).1.names d.Next d.Waits (zHf d).2 (-1)
theorem zXE {fu:Nat} {d:Desk} (hfu:1000<fu) (hl:d.Defs.length<=900) (hw:d.Waits.length<=900):zHn fu d=some ((zHf d).1,zKx d):=by
 have E:∀(j i k:Nat) (ok:Bool) (e:Int),i+j=d.Waits.length->j<k->zDS fu d (zHf d) k (ok,e,(i:Int))=some ((zHf d).1,opF (zHf d).1.names d.Next (d.Waits.drop i) ok e):=by
  intro j
  induction j with
  | zero =>
   intro i k ok e hi F
   obtain ⟨k,rfl⟩:∃D,k=D+1:=⟨k - 1,by omega⟩
   obtain rfl:i=d.Waits.length:=by omega
   simp only [zDS]
   rw [zAS (by simp),kJ]
   unfold opF
   cases ok with
   | false=>rfl
   | true =>
    rw [zAO,zAQ]
    by_cases u:d.Next>=0
    ·rw [iP u,decide_eq_true (show 0<=d.Next from u)];rfl
    ·rw [iN u,decide_eq_false (show ¬0<=d.Next from u)];rfl
  | succ j G =>
   intro i k ok e hi F
   obtain ⟨k,rfl⟩:∃D,k=D+1:=⟨k - 1,by omega⟩
   have h:i<d.Waits.length:=by omega
   have q:=fun b=>G (i+1) k b d.Waits[i].Ticket (by omega) (by omega)
   simp only [zDS]
   rw [zAT (by simpa using h),zAW h,zAA,zH3 (by omega),zAA,zBO (by omega),eT h]
   simp only [zAA,q]
   simp only [opF]
   generalize zK5 (zHf d).1.names d.Waits[i].Name=m
   cases ok with
   | false=>simp
   | true =>
    cases m with
    | true=>simp
    | false =>
     cases zFP d.Waits[i].Name with
     | false=>simp
     | true =>
      rw [zAO,jK,zAO,zAO,zAQ]
      by_cases C:d.Waits[i].Ticket>e
      ·rw [iP C,decide_eq_true (show e<d.Waits[i].Ticket from C)];simp
      ·rw [iN C,decide_eq_false (show ¬e<d.Waits[i].Ticket from C)];simp
 unfold zHn
 rw [zgx hfu hl,zAA]
 have:=E d.Waits.length 0 fu (zHf d).2 (-1) (by omega) (by omega)
 simpa [zKx,zHf] using this
theorem zRV {fu:Nat} {d:Desk} (hfu:1000<fu) (hl:d.Defs.length<=900) (hw:d.Waits.length<=900):zGx fu d=some (zKx d):=by
 unfold zGx
 rw [zXE hfu hl hw,zAA]
def zWv (d:Desk) (loc e:Bs):Int :=
 if zKx d=true then
  (if zK5 (zHf d).1.names loc=true/\(idx d.Defs (zLJ (zHf d).1.names loc 0)).map (·.Local)=some loc then zLJ (zHf d).1.names loc 0
  else if zK5 (zHf d).1.names e=true/\(idx d.Defs (zLJ (zHf d).1.names e 0)).map (·.Local)=some loc then zLJ (zHf d).1.names e 0
  else -1)
 else -1
theorem find_d {fu:Nat} {d:Desk} {loc e:Bs} (hfu:1000<fu) (hl:d.Defs.length<=900) (hw:d.Waits.length<=900):zLM fu d loc e=some (zWv d loc e):=by
 have j1:zIJ d loc e ((zHf d).1,zKx d) ()=some (if zK5 (zHf d).1.names e=true/\(idx d.Defs (zLJ (zHf d).1.names e 0)).map (·.Local)=some loc then zLJ (zHf d).1.names e 0 else -1):=by
  unfold zIJ
  simp only
  cases h:zK5 (zHf d).1.names e with
  | false=>simp
  | true =>
   obtain ⟨y,hy⟩:=zAJ (zMa h)
   rw [zAO,hy,zAA,zAj]
   simp only [lW,true_and,lJ.injEq]
   split<;>rfl
 unfold zLM zWv
 rw [zXE hfu hl hw,zAA,j1]
 simp only
 cases i:zKx d with
 | false=>rfl
 | true =>
  rw [iA,zAG,iP rfl]
  cases h:zK5 (zHf d).1.names loc with
  | false=>simp
  | true =>
   obtain ⟨y,hy⟩:=zAJ (zMa h)
   rw [zAO,hy,zAA,zAj]
   simp only [lW,true_and,lJ.injEq]
   split<;>rfl
theorem zdb {d:Desk} {loc e:Bs}:zWv d loc e = -1\/(0<=zWv d loc e/\zWv d loc e<(d.Defs.length:Int)):=by
 unfold zWv
 split
 ·split
  ·rename_i h;exact .inr (zMa h.1)
  ·split
   ·rename_i h;exact .inr (zMa h.1)
   ·exact .inl rfl
 ·exact .inl rfl
end
section
theorem zRx {names:List (Bs×Int)} {next:Int}:∀{ws:List Wait} {ok:Bool} {e:Int},opF names next ws ok e=true->ok=true/\0<=next/\next<=100000
 | [],ok,e,h=>by
  simp only [opF,lM,decide_eq_true_eq] at h
  exact ⟨h.1,h.2.1,h.2.2⟩
 | y::t,ok,e,h=>by
  simp only [opF] at h
  have:=zRx h
  simp only [lM] at this
  exact ⟨this.1.1,this.2⟩
theorem zYK {names:List (Bs×Int)} {next:Int} (q:next+1<=100000):∀{ws:List Wait} {ok:Bool} {e:Int},opF names next ws ok e=true->opF names (next+1) ws ok e=true
 | [],ok,e,h=>by
  simp only [opF,lM,decide_eq_true_eq] at h ⊢
  exact ⟨h.1,by omega,q⟩
 | y::t,ok,e,h=>by
  simp only [opF] at h ⊢
  have i:=(zRx h).1
  have j:=zYK q h
  simp only [lM,decide_eq_true_eq] at i
  rw [i.1,i.2.1,i.2.2.1,decide_eq_true i.2.2.2.1,decide_eq_true i.2.2.2.2] at j
  rw [i.1,i.2.1,i.2.2.1,decide_eq_true i.2.2.2.1,decide_eq_true (show y.Ticket<next+1 by omega)]
  exact j
theorem zYL {names:List (Bs×Int)} {next:Int} {s:Bs} (u:next+1<=100000) (hs:zK5 names s=false) (q:zFP s=true):∀{ws:List Wait} {ok:Bool} {e:Int},opF names next ws ok e=true->e<next->opF names (next+1) (ws++[⟨s,next⟩]) ok e=true
 | [],ok,e,h,hl=>by
  simp only [opF,lM,decide_eq_true_eq] at h
  simp only [iU,opF,lM,decide_eq_true_eq,hs,q]
  exact ⟨⟨h.1,rfl,trivial,hl,by omega⟩,by omega,u⟩
 | y::t,ok,e,h,hl=>by
  simp only [opF] at h
  simp only [List.cons_append,opF]
  have i:=(zRx h).1
  simp only [lM,decide_eq_true_eq] at i
  have j:=zYL u hs q h i.2.2.2.2
  rw [i.1,i.2.1,i.2.2.1,decide_eq_true i.2.2.2.1,decide_eq_true i.2.2.2.2] at j
  rw [i.1,i.2.1,i.2.2.1,decide_eq_true i.2.2.2.1,decide_eq_true (show y.Ticket<next+1 by omega)]
  exact j
def zGH (d:Desk) (s:Bs):Desk×Int×Int×Int :=
 if zKx d=false then (d,-1,-1,1) else if zFP s=false then (d,-1,-1,4) else if d.Next=100000 then (d,-1,-1,3)
 else if zK5 (zHf d).1.names s=true then (⟨d.Defs,d.Waits,d.Next+1,d.Busy⟩,d.Next,zLJ (zHf d).1.names s 0,0)
 else (⟨d.Defs,d.Waits++[⟨s,d.Next⟩],d.Next+1,d.Busy⟩,d.Next,-1,0)
theorem zdF {fu:Nat} {d:Desk} {s:Bs} (hfu:1000<fu) (hl:d.Defs.length<=900) (hw:d.Waits.length<=900):zJ6 fu d s=some (zGH d s):=by
 unfold zJ6 zGH
 rw [zXE hfu hl hw,zAA]
 simp only
 cases h:zKx d with
 | false=>rfl
 | true =>
  have q:=(zRx h).2
  rw [iA,zAG,iN (by simp),zH3 (by omega),zAA]
  cases i:zFP s with
  | false=>rfl
  | true =>
   rw [iA,zAG,iN (by simp),zAj]
   by_cases e:d.Next=100000
   ·rw [iP e,iP e]
   ·rw [iN e,iN e,zJn (by simp only [lo,Go.Pw.hi];omega),zAA]
    cases j:zK5 (zHf d).1.names s with
    | true=>rfl
    | false =>
     rw [zAG,iN (by simp)]
     unfold zFa
     rw [zAg (by simp;omega),zAA,zAA,zAg (by simp;omega),zAA]
     rfl
theorem zRI {d:Desk} {s:Bs} (h:(zGH d s).2.2.2=0):zKx d=true/\zKx (zGH d s).1=true/\zFP s=true/\(zGH d s).1.Defs=d.Defs/\(zGH d s).1.Busy=d.Busy/\(zGH d s).1.Next=d.Next+1/\(zGH d s).2.1=d.Next/\0<=d.Next /\
  (((zGH d s).2.2.1 = -1/\(zGH d s).1.Waits=d.Waits++[⟨s,d.Next⟩])\/(0<=(zGH d s).2.2.1/\(zGH d s).2.2.1<(d.Defs.length:Int)/\(zGH d s).1.Waits=d.Waits)):=by
 unfold zGH at h ⊢
 by_cases u:zKx d=false
 ·rw [iP u] at h;simp only at h;omega
 ·rw [iN u] at h ⊢
  have e:zKx d=true:=by simpa using u
  by_cases q:zFP s=false
  ·rw [iP q] at h;simp only at h;omega
  ·rw [iN q] at h ⊢
   have i:zFP s=true:=by simpa using q
   by_cases C:d.Next=100000
   ·rw [iP C] at h;simp only at h;omega
   ·rw [iN C] at h ⊢
    have D:=(zRx e).2
    by_cases j:zK5 (zHf d).1.names s=true
    ·rw [iP j]
     have E:=zMa j
     exact ⟨e,zYK (by omega) e,i,rfl,rfl,rfl,rfl,D.1,.inr ⟨E.1,E.2,rfl⟩⟩
    ·rw [iN j]
     exact ⟨e,zYL (by omega) (iJ.2 j) i e (by omega),i,rfl,rfl,rfl,rfl,D.1,.inl ⟨rfl,rfl⟩⟩
def zMc (x:Node) (d:Desk):Int:=if x.Kind=1 then (if x.Doc=0 then zWv d x.Name x.Is else -1) else -1
theorem zOh {d:Desk}:zMc x d = -1\/(0<=zMc x d/\zMc x d<(d.Defs.length:Int)):=by
 unfold zMc
 split
 ·split
  ·exact zdb
  ·exact .inl rfl
 ·exact .inl rfl
theorem zaw {fu:Nat} {d:Desk} (hfu:1000<fu) (hl:d.Defs.length<=900) (hw:d.Waits.length<=900):zJO fu x d=some (zMc x d):=by
 unfold zJO zMc
 rw [zAi,zAi,find_d hfu hl hw,zAA]
 by_cases e:x.Kind=1
 ·rw [iP e,iP e]
  split<;>rfl
 ·rw [iN e,iN e]
theorem zZ2 {fu:Nat} {f:Forest} {d:Desk} (hfu:1000<fu) (hl:d.Defs.length<=900) (hw:d.Waits.length<=900) (hr:zAF f=true):zJN fu f n d=some (match idx f.Nodes n with | some x=>zMc x d | none => -1):=by
 unfold zJN
 rw [zAQ,zAQ,zEv hfu ((zAH hr).fit hfu),zAA,hr,iA,zAG]
 by_cases e:n<0
 ·rw [iP e,zCa (by omega)]
 ·rw [iN e]
  by_cases h:n>=(f.Nodes.length:Int)
  ·rw [iP h,zCa (by omega)]
  ·obtain ⟨x,hx⟩:=zAJ (l:=f.Nodes) (n:=n) (by omega)
   rw [iN h,hx,zAA,zaw hfu hl hw,zAA]
def zfS (at_:Int):Todo:=⟨9,at_,[],false,false,[],[],0,0,false⟩
def zO4 (d:Desk) (l:List (Int×Node)):List Due:=l.filterMap fun p=>if zMc p.2 d = -1 then none else some ⟨p.1,zfS (zMc p.2 d)⟩
theorem zXX {fu:Nat} {d:Desk} (hfu:1000<fu) (hl:d.Defs.length<=900) (hw:d.Waits.length<=900):∀(l:List (Int×Node)) (acc:List Due),acc.length+l.length<=1000000->zE6 fu d l acc=some (acc++zO4 d l)
 | [],acc,_=>by simp [zE6,zO4]
 | p::l,acc,h=>by
  simp only [cP] at h
  simp only [zE6]
  rw [zaw hfu hl hw,zAA,zAi]
  unfold zO4
  rw [kO]
  by_cases e:zMc p.2 d = -1
  ·rw [iP e,iP e,zXX hfu hl hw l acc (by omega)]
   rfl
  ·rw [iN e,iN e,zAg (by simp only [cP,eK];omega),zAA,zXX hfu hl hw l _ (by simp only [eR,cP,eK];omega),eS]
   rfl
def zSY (ns:List Node) (l:List Int):List (Int×Node):=l.filterMap fun k=>match idx ns k with
 | some x=>if x.Kind=1 then some (k,x) else none
 | none=>none
theorem zaq {ns:List Node}:∀{l:List Int},(∀k∈l,InN ns k)->zT1 ns l=some (zSY ns l)
 | [],_=>rfl
 | k::l,h=>by
  obtain ⟨x,hx⟩:=zAJ (h k (lH ..))
  simp only [zT1]
  rw [hx,zAA,zaq fun j i=>h j (lG _ i),zAA]
  unfold zSY
  rw [kO,hx]
  by_cases e:x.Kind=1
  ·simp [e]
  ·simp [e]
theorem zej {fu:Nat} {f:Forest} {d:Desk} (hfu:1000<fu) (hl:d.Defs.length<=900) (hw:d.Waits.length<=900) (hr:zAF f=true) (e:InN f.Nodes n):zJ8 fu f n d=some (zO4 d (zSY f.Nodes (zIG f.Nodes n))):=by
 have hs:=zAH hr
 have h:=hs.few
 have i:=(zAL hr).all_len e
 unfold zJ8 zMx
 rw [zAA,zXf hs hfu hr e,zAA,zaq fun k j=>((zAL hr).all_in n e k j).1,zAA]
 have:(zSY f.Nodes (zIG f.Nodes n)).length<=(zIG f.Nodes n).length:=kK _ _
 rw [zXX hfu hl hw _ _ (by simp only [eK];omega),iU]
end
section
theorem zAh {i:Nat} (h:i<=1000000000000):rng .i64 ((i:Int)+1)=some ((i+1:Nat):Int):=by
 rw [zJn (by simp only [lo,Go.Pw.hi];omega)]
 rfl
theorem zQO {fu:Nat} {t:Bs->Option Bool} {p:Bs->Bool} {l:List (Bs)} (j:∀x∈l,t x=some (p x)) (hf:l.length<fu) (q:l.length<=1000000000):zCP fu t l=some (l.any p):=by
 unfold zCP zEg
 obtain ⟨r,e,h⟩:=zGl (L:=zBL t l) l p (fun i hi k=>by
  simp only [zBL]
  rw [zAT (by simpa using hi),zAW hi,zAA,j _ (gC hi),zAA,zAh (by omega),zAA]
  cases p l[i]<;>rfl) (fun k=>by simp only [zBL];rw [zAS (by simp)]) hf
 rw [e,zAA,h]
theorem zPM {fu:Nat} {t:Hook->Option Bool} {p:Hook->Bool} {l:List (Hook)} (j:∀x∈l,t x=some (p x)) (hf:l.length<fu) (q:l.length<=1000000000):zB7 fu t l=some (l.any p):=by
 unfold zB7 zD0
 obtain ⟨r,e,h⟩:=zGl (L:=zBB t l) l p (fun i hi k=>by
  simp only [zBB]
  rw [zAT (by simpa using hi),zAW hi,zAA,j _ (gC hi),zAA,zAh (by omega),zAA]
  cases p l[i]<;>rfl) (fun k=>by simp only [zBB];rw [zAS (by simp)]) hf
 rw [e,zAA,h]
theorem zOd {fu:Nat} {t:Class->Option Bool} {p:Class->Bool} {l:List (Class)} (j:∀x∈l,t x=some (p x)) (hf:l.length<fu) (q:l.length<=1000000000):zBy fu t l=some (l.any p):=by
 unfold zBy zDq
 obtain ⟨r,e,h⟩:=zGl (L:=zA0 t l) l p (fun i hi k=>by
  simp only [zA0]
  rw [zAT (by simpa using hi),zAW hi,zAA,j _ (gC hi),zAA,zAh (by omega),zAA]
  cases p l[i]<;>rfl) (fun k=>by simp only [zA0];rw [zAS (by simp)]) hf
 rw [e,zAA,h]
theorem zQM {fu:Nat} {t:Def->Option Bool} {p:Def->Bool} {l:List (Def)} (j:∀x∈l,t x=some (p x)) (hf:l.length<fu) (q:l.length<=1000000000):zCN fu t l=some (l.any p):=by
 unfold zCN zEf
 obtain ⟨r,e,h⟩:=zGl (L:=zBK t l) l p (fun i hi k=>by
  simp only [zBK]
  rw [zAT (by simpa using hi),zAW hi,zAA,j _ (gC hi),zAA,zAh (by omega),zAA]
  cases p l[i]<;>rfl) (fun k=>by simp only [zBK];rw [zAS (by simp)]) hf
 rw [e,zAA,h]
theorem zPO {fu:Nat} {t:Todo->Option Bool} {p:Todo->Bool} {l:List (Todo)} (j:∀x∈l,t x=some (p x)) (hf:l.length<fu) (q:l.length<=1000000000):zB9 fu t l=some (l.any p):=by
 unfold zB9 zD2
 obtain ⟨r,e,h⟩:=zGl (L:=zBD t l) l p (fun i hi k=>by
  simp only [zBD]
  rw [zAT (by simpa using hi),zAW hi,zAA,j _ (gC hi),zAA,zAh (by omega),zAA]
  cases p l[i]<;>rfl) (fun k=>by simp only [zBD];rw [zAS (by simp)]) hf
 rw [e,zAA,h]
theorem zPN {fu:Nat} {t:Task->Option Bool} {p:Task->Bool} {l:List (Task)} (j:∀x∈l,t x=some (p x)) (hf:l.length<fu) (q:l.length<=1000000000):zB8 fu t l=some (l.any p):=by
 unfold zB8 zD1
 obtain ⟨r,e,h⟩:=zGl (L:=zBC t l) l p (fun i hi k=>by
  simp only [zBC]
  rw [zAT (by simpa using hi),zAW hi,zAA,j _ (gC hi),zAA,zAh (by omega),zAA]
  cases p l[i]<;>rfl) (fun k=>by simp only [zBC];rw [zAS (by simp)]) hf
 rw [e,zAA,h]
theorem zOc {fu:Nat} {t:Build->Option Bool} {p:Build->Bool} {l:List (Build)} (j:∀x∈l,t x=some (p x)) (hf:l.length<fu) (q:l.length<=1000000000):zBx fu t l=some (l.any p):=by
 unfold zBx zDp
 obtain ⟨r,e,h⟩:=zGl (L:=zAz t l) l p (fun i hi k=>by
  simp only [zAz]
  rw [zAT (by simpa using hi),zAW hi,zAA,j _ (gC hi),zAA,zAh (by omega),zAA]
  cases p l[i]<;>rfl) (fun k=>by simp only [zAz];rw [zAS (by simp)]) hf
 rw [e,zAA,h]
theorem zQN {fu:Nat} {t:Due->Option Bool} {p:Due->Bool} {l:List (Due)} (j:∀x∈l,t x=some (p x)) (hf:l.length<fu) (q:l.length<=1000000000):zCO fu t l=some (l.any p):=by
 unfold zCO zAy
 obtain ⟨r,e,h⟩:=zGl (L:=zAb t l) l p (fun i hi k=>by
  simp only [zAb]
  rw [zAT (by simpa using hi),zAW hi,zAA,j _ (gC hi),zAA,zAh (by omega),zAA]
  cases p l[i]<;>rfl) (fun k=>by simp only [zAb];rw [zAS (by simp)]) hf
 rw [e,zAA,h]
end
section
def inL (l:Line) (n:Int):Bool:=decide (0<=n)&&decide (n<(l.Todos.length:Int))
def zHY (l:Line):Bool:=(l.Stack++[l.Back]).all fun e=>e.all (inL l)
structure LS (B:Nat) (l:Line):Prop where
 todos:l.Todos.length<=B
 todo:∀t∈l.Todos,t.length<=B
 stack:l.Stack.length<=B
 lists:∀t∈l.Stack,t.length<=B
 back:l.Back.length<=B
theorem LS.mono {B C:Nat} (h:LS B l) (e:B<=C):LS C l:=⟨eM h.todos e,fun t i=>eM (h.todo t i) e,eM h.stack e,fun t i=>eM (h.lists t i) e,eM h.back e⟩
section
variable {fu B:Nat} (hB:B<=1000000000) (hfu:B+1<fu)
include hB
omit hB in
theorem in_ok:zMM fu l n=some (inL l n):=by
 unfold zMM inL
 rw [zAQ]
 by_cases h:n>=0
 ·rw [iP h,decide_eq_true (show 0<=n from h),iB]
 ·rw [iN h,decide_eq_false (show ¬0<=n from h),jD]
omit hB in
theorem zXo {l:List (List Int)} (h:l.length<=1000000000):zDo fu l=some l:=by
 unfold zDo
 rw [zAg (by simp;omega),zAA,iU]
omit hB in
theorem zdL {l:List (List Todo)} (h:l.length<=1000000000):zDM fu l=some l:=by
 unfold zDM
 rw [zAg (by simp;omega),zAA,iU]
omit hB in
theorem zaY {l:List Int} (h:l.length<=1000000000):zBZ fu l=some l:=by
 unfold zBZ
 rw [zAg (by simp;omega),zAA,iU]
omit hB in
theorem zf1 {l:List Todo} (h:l.length<=1000000000):zDw fu l=some l:=by
 unfold zDw
 rw [zAg (by simp;omega),zAA,iU]
omit hB in
theorem zaa {l:List State} (h:l.length<=1000000000):zCW fu l=some l:=by
 unfold zCW
 rw [zAg (by simp;omega),zAA,iU]
omit hB in
theorem zaZ {l:List Task} (h:l.length<=1000000000):zCn fu l=some l:=by
 unfold zCn
 rw [zAg (by simp;omega),zAA,iU]
include hfu
theorem zeV {t:Nat} {y:List Int} {rc:Int->Option Bool} (hy:y.length<=B) (e:t<=B):zFD fu l (t:Int) y rc fu 0=bif y.all (inL l) then rc ((t+1:Nat):Int) else some false:=by
 refine zLH (L:=zFD fu l (t:Int) y rc) y (inL l) (rc ((t+1:Nat):Int)) (fun i hi k=>?_) (fun k=>?_) (by omega)
 ·simp only [zFD]
  rw [zAT (by simpa using hi),zAW hi,zAA,in_ok,zAA,zAh (by omega),zAA]
  cases inL l y[i]<;>rfl
 ·simp only [zFD]
  rw [zAS (by simp),zAh (by omega),zAA]
theorem zVb (h:LS B l):zIL fu l=some (zHY l):=by
 have hst:=h.stack
 unfold zIL zHY
 rw [zXo (by omega),zAA,zAg (by simp only [cP,eK];omega),zAA]
 refine (zLH (L:=zFC fu l l.Stack) (l.Stack++[l.Back]) (fun q=>q.all (inL l)) (some true) (fun i hi k=>?_) (fun k=>?_) (by simp;omega)).trans ?_
 ·have hy:(l.Stack++[l.Back])[i].length<=B:=by
   rcases cA.1 (gC hi) with j | j
   ·exact h.lists _ j
   ·rw [e8.1 j];exact h.back
  have e:i<=B:=by simp at hi;omega
  simp only [zFC]
  rw [zAT (decide_eq_true (Int.ofNat_lt.2 hi)),zAW hi,zAA,zeV hB hfu hy e]
 ·simp only [zFC]
  rw [zAS (by simp)]
 ·cases (l.Stack++[l.Back]).all fun q=>q.all (inL l)<;>rfl
omit hfu in
theorem own_l (h:LS B l):zKh fu l=some l:=by
 have:=h.todos
 have:=h.stack
 have:=h.back
 unfold zKh
 rw [zdL (by omega),zAA,zXo (by omega),zAA,zaY (by omega),zAA]
def zgI (l:Line):Line:=⟨l.Todos++[[]],l.Stack,l.Back,l.Busy⟩
omit hfu in
theorem zgJ (h:LS B l):zJQ fu l=some (zgI l):=by
 have:=h.todos
 unfold zJQ
 rw [own_l hB h,zAA,zAg (by simp only [cP,eK];omega),zAA]
 rfl
def zQX (l:Line) (n:Int) (t:Todo):Line×Bool :=
 if l.Stack=[] then (⟨l.Todos.set n.toNat ((l.Todos[n.toNat]?).getD []++[t]),l.Stack,l.Back++[n],true⟩,!l.Busy)
 else (⟨l.Todos.set n.toNat ((l.Todos[n.toNat]?).getD []++[t]),l.Stack.set (l.Stack.length - 1) ((l.Stack[l.Stack.length - 1]?).getD []++[n]),l.Back,l.Busy⟩,false)
theorem add_ok (h:LS B l) {n:Int} {t:Todo} (hr:zHY l=true) (j:inL l n=true):zMp fu l n t=some ((zQX l n t).1,(zQX l n t).2,0):=by
 have C:=h.todos
 have D:=h.stack
 have E:=h.back
 unfold inL at j
 simp only [lM,decide_eq_true_eq] at j
 obtain ⟨i,rfl⟩:∃i:Nat,n=(i:Int):=⟨n.toNat,by omega⟩
 have hi:i<l.Todos.length:=by omega
 have e:inL l (i:Int)=true:=by unfold inL;simp only [lM,decide_eq_true_eq];omega
 have F:=h.todo _ (gC hi)
 unfold zMp zQX
 rw [zVb hB hfu h,zAA,hr,iA,zAG,in_ok,zAA,e,iA,zAG,own_l hB h,zAA,zAW hi,zAA,zf1 (by omega),zAA,zAg (by simp only [cP,eK];omega),zAA,zAA,
  zJn (by simp only [lo,Go.Pw.hi];omega),zAA,eO,lC hi,cM,zAQ]
 by_cases hs:l.Stack=[]
 ·rw [iN (by rw [hs];simp),iP hs,zAg (by simp only [cP,eK];omega),zAA]
 ·have q:0<l.Stack.length:=List.length_pos_iff.2 hs
  have u:(l.Stack.length:Int) - 1=((l.Stack.length - 1:Nat):Int):=by omega
  have hl:l.Stack.length - 1<l.Stack.length:=by omega
  have G:=h.lists _ (gC hl)
  rw [iP (by omega),iN hs,u,zAW hl,zAA,zaY (by omega),zAA,zAg (by simp only [cP,eK];omega),zAA,zAA,eO,lC hl,cM]
end
theorem zOU:(zQX l n t).1.Todos.length=l.Todos.length:=by
 unfold zQX;split<;>simp
theorem zQi {m:Line} (h:m.Todos.length=l.Todos.length):inL m=inL l:=by
 funext n;unfold inL;rw [h]
theorem zSg (hr:zHY l=true) (j:inL l n=true):zHY (zQX l n t).1=true:=by
 unfold zHY at hr ⊢
 rw [zQi zOU]
 rw [lR] at hr ⊢
 intro q i
 unfold zQX at i
 split at i
 ·simp only [cA,e8] at i
  rcases i with h | rfl
  ·exact hr q (by simp [h])
  ·rw [kX,hr l.Back (by simp)]
   simp [j]
 ·simp only [cA,e8] at i
  rcases i with h | rfl
  ·rcases dT h with h | rfl
   ·exact hr q (by simp [h])
   ·rw [kX]
    have:(((l.Stack[l.Stack.length - 1]?).getD []).all (inL l))=true:=by
     cases e:l.Stack[l.Stack.length - 1]? with
     | none=>rfl
     | some a=>exact hr a (by simp [lU e])
    rw [this];simp [j]
  ·exact hr l.Back (by simp)
theorem zSh {B:Nat} (h:LS B l):LS (B+1) (zQX l n t).1:=by
 have q:=h.todos
 have u:=h.stack
 have C:=h.back
 have j:((l.Todos[n.toNat]?).getD []).length<=B:=by
  cases e:l.Todos[n.toNat]? with
  | none=>simp
  | some a=>exact h.todo a (lU e)
 have i:∀x∈l.Todos.set n.toNat ((l.Todos[n.toNat]?).getD []++[t]),x.length<=B+1:=fun x hx=>by
  rcases dT hx with hx | rfl
  ·have:=h.todo x hx;omega
  ·simp only [eR,cP,eK];omega
 unfold zQX
 split
 ·exact ⟨by simp;omega,i,by simp only;omega,fun x hx=>by have:=h.lists x hx;omega,by simp;omega⟩
 ·refine ⟨by simp;omega,i,by simp;omega,fun x hx=>?_,by simp only;omega⟩
  rcases dT hx with hx | rfl
  ·have:=h.lists x hx;omega
  ·simp only [eR,cP,eK]
   have:((l.Stack[l.Stack.length - 1]?).getD []).length<=B:=by
    cases e:l.Stack[l.Stack.length - 1]? with
    | none=>simp
    | some a=>exact h.lists a (lU e)
   omega
end
section
def zdh (h:Hook):Bool:=decide (1<=h.Kind)&&(decide (h.Kind<=8)&&decide (h.Do.length<=60))
def zMt (c:Class):Bool:=decide (c.Watch.length<=12)&&(c.Watch.all zWw&&(decide (c.Hooks.length<=12)&&(c.Hooks.all zdh&&(decide (c.Peek.length<=60)&&decide (c.Make.length<=60)))))
theorem zW7 {fu:Nat} {l:List Op}:zG7 fu l=some (!(decide (l.length<=60))):=by
 unfold zG7
 congr 1
 by_cases h:l.length<=60
 ·rw [decide_eq_true h,decide_eq_false (by omega)];rfl
 ·rw [decide_eq_false h,decide_eq_true (by omega)];rfl
theorem zFx {e : Type} (l:List e) (p : e -> Bool):(l.any fun x => !(p x)) = !(l.all p):=by
 rw [List.all_eq_not_any_not,kH]
theorem zY3 {fu:Nat} {c:Class} (hfu:1000<fu):zHU fu c=some (zMt c):=by
 unfold zHU zMt
 rw [zAQ]
 by_cases j:c.Watch.length<=12
 ·rw [iP (by omega),decide_eq_true j,iB]
  rw [zQO (p:=fun s => !(zWw s)) (fun s _=>by
   unfold zDY zWw
   rw [zSx (by omega),zAA]
   cases zFg s with
   | false=>rfl
   | true =>
    simp only [if_true,iB]
    cases s.map zGQ==s<;>rfl) (by omega) (by omega),zAA,zFx,kH]
  cases c.Watch.all zWw with
  | false=>rfl
  | true =>
   rw [zAO,iB,zAQ]
   by_cases q:c.Hooks.length<=12
   ·rw [iP (by omega),decide_eq_true q,iB]
    rw [zPM (p:=fun h => !(zdh h)) (fun h _=>by
     unfold zDZ zdh
     rw [zAQ,zAQ,zW7,zAA]
     by_cases e:h.Kind<1
     ·rw [iP e,decide_eq_false (show ¬1<=h.Kind by omega)];rfl
     ·rw [iN e,decide_eq_true (show 1<=h.Kind by omega)]
      by_cases i:h.Kind>8
      ·rw [iP i,decide_eq_false (show ¬h.Kind<=8 by omega)];rfl
      ·rw [iN i,decide_eq_true (show h.Kind<=8 by omega)];rfl) (by omega) (by omega),zAA,zFx,kH,zW7,zW7,zAA,zAA]
    cases c.Hooks.all zdh with
    | false=>rfl
    | true =>
     cases decide (c.Peek.length<=60) with
     | false=>rfl
     | true=>simp
   ·rw [iN (by omega),decide_eq_false q];rfl
 ·rw [iN (by omega),decide_eq_false j];rfl
def zLi (w:World):Bool:=decide (w.Classes.length<=12)&&(w.Classes.all zMt&&w.Desk.Defs.all fun d=>decide (d.Class<(w.Classes.length:Int)))
theorem zZF {fu:Nat} {w:World} (hfu:1000<fu) (hl:w.Desk.Defs.length<=900):zER fu ⟨w⟩=some (zLi w):=by
 unfold zER zLi
 simp only
 rw [zAQ]
 by_cases e:w.Classes.length<=12
 ·rw [iP (by omega),decide_eq_true e,iB,zOd (p:=fun c => !(zMt c)) (fun c _=>by unfold zBr;rw [zY3 hfu,zAA]) (by omega) (by omega),zAA,zFx,kH,
   zQM (p:=fun d => !(decide (d.Class<(w.Classes.length:Int)))) (fun d _=>by
    unfold zBs
    simp only
    congr 1
    by_cases h:d.Class<(w.Classes.length:Int)
    ·rw [decide_eq_true h,decide_eq_false (by omega)];rfl
    ·rw [decide_eq_false h,decide_eq_true (by omega)];rfl) (by omega) (by omega),zAA,zFx,kH]
  cases w.Classes.all zMt<;>rfl
 ·rw [iN (by omega),decide_eq_false e];rfl
def ltI (n:Nat) (k:Int):Bool:=decide (0<=k)&&decide (k<(n:Int))
theorem zW9 (n:Nat) (k:Int):cnd (decide (k>=0)) (some (decide (k<((n:Nat):Int)))) (some false)=some (ltI n k):=by
 unfold ltI
 rw [zAQ]
 by_cases h:k>=0
 ·rw [iP h,decide_eq_true (show 0<=k from h),iB]
 ·rw [iN h,decide_eq_false (show ¬0<=k from h),jD]
theorem zJj {n:Nat} {k:Int}:ltI n k=true↔0<=k/\k<(n:Int):=by
 unfold ltI;simp
def zH8 (e:Nat) (t:Todo):Bool:=(decide (1<=t.Kind)&&decide (t.Kind<9))||(t.Kind==9&&ltI e t.Def)
def zLF (h e:Nat) (x:Node) (s:State):Bool :=
 if x.Kind=1 then (s.Owner == -1||ltI h s.Owner)&&(if s.Phase=2\/s.Phase=3 then ltI e s.Def else if s.Phase=0\/s.Phase=1\/s.Phase=4 then s.Def == -1||ltI e s.Def else false)
 else zWu s ⟨0,-1,-1,false⟩
def zSe (e:Nat) (t:Task):Bool:=(t.Kind==1&&(t.Ticket==0&&t.Def==0))||(t.Kind==2&&(decide (0<=t.Ticket)&&ltI e t.Def))
def zOY (ns:List Node) (e:Nat) (b:Build):Bool:=ltI e b.Def&&(b.Node == -4||isB ns b.Node 1)
section
variable {fu:Nat} {w:World}
theorem zSG (k:Int):zCJ fu ⟨w⟩ k=some (ltI w.Desk.Defs.length k):=zW9 _ _
theorem zUo (k:Int):zET fu ⟨w⟩ k=some (ltI w.Forest.Nodes.length k):=zW9 _ _
theorem zYx (t:Todo):zEU fu ⟨w⟩ t=some (zH8 w.Desk.Defs.length t):=by
 unfold zEU zH8
 rw [zSG,zAA,zAQ,zAQ,zAj]
 by_cases e:t.Kind>=1
 ·rw [iP e,decide_eq_true (show 1<=t.Kind from e),iB]
  by_cases h:t.Kind<9
  ·rw [iP h,decide_eq_true h,Bool.true_or]
  ·rw [iN h,decide_eq_false h,e9]
   by_cases i:t.Kind=9
   ·rw [iP i,i];rfl
   ·rw [iN i,show (t.Kind==9)=false by simpa using i];rfl
 ·rw [iN e,iN (by omega),decide_eq_false (show ¬1<=t.Kind from e),show (t.Kind==9)=false by simp;omega];rfl
theorem zcs {s:State} (hs:idx w.States n=some s) (hx:idx w.Forest.Nodes n=some x):zFO fu ⟨w⟩ n=some (zLF w.Forest.Nodes.length w.Desk.Defs.length x s):=by
 have j3:∀o t,zCi fu ⟨w⟩ s o t=some (t&&(o&&(s.Def == -1||ltI w.Desk.Defs.length s.Def))):=fun o t=>by
  unfold zCi
  rw [zSG,zAA]
  cases t<;>cases o<;>cases s.Def == -1<;>rfl
 have j2:∀o t,zDH fu ⟨w⟩ s o t=some (if t=true then o&&ltI w.Desk.Defs.length s.Def else o&&((s.Phase==0||(s.Phase==1||s.Phase==4))&&(s.Def == -1||ltI w.Desk.Defs.length s.Def))):=fun o t=>by
  unfold zDH
  rw [zSG,zAA,j3,j3,j3]
  cases t with
  | true=>cases o<;>rfl
  | false =>
   cases s.Phase==0<;>cases s.Phase==1<;>cases s.Phase==4<;>cases o<;>rfl
 have j1:∀o,zDG fu ⟨w⟩ s o=some (o&&(if s.Phase=2\/s.Phase=3 then ltI w.Desk.Defs.length s.Def else if s.Phase=0\/s.Phase=1\/s.Phase=4 then s.Def == -1||ltI w.Desk.Defs.length s.Def else false)):=fun o=>by
  unfold zDG
  rw [j2,j2,zAj]
  by_cases e:s.Phase=2
  ·rw [iP e,iP (by simpa using e),iP (.inl e)]
  ·rw [iN e]
   by_cases j:s.Phase=3
   ·rw [iP (by simpa using j),iP (.inr j)]
   ·rw [iN (by simpa using j),iN (by omega)]
    by_cases q:s.Phase=0
    ·rw [q];simp
    ·by_cases u:s.Phase=1
     ·rw [u];simp
     ·by_cases C:s.Phase=4
      ·rw [C];simp
      ·rw [iN (by omega),show (s.Phase==0)=false by simpa using q,show (s.Phase==1)=false by simpa using u,show (s.Phase==4)=false by simpa using C]
       simp
 unfold zFO zLF
 simp only
 rw [hs,zAA,hx,zAA,zAi,j1,zUo,zAA,j1,zAj]
 by_cases h:x.Kind=1
 ·rw [iP h,iP h]
  by_cases i:s.Owner = -1
  ·rw [iP i,i];rfl
  ·rw [iN i,show (s.Owner == -1)=false by simpa using i,e9]
 ·rw [iN h,iN h]
theorem zey (t:Task):zFe fu ⟨w⟩ t=some (zSe w.Desk.Defs.length t):=by
 unfold zFe zSe
 rw [zSG,zAA,zAj,zAj,zAj,zAQ]
 by_cases h:t.Kind=1
 ·rw [iP h,h]
  by_cases e:t.Ticket=0
  ·rw [iP e,e];simp
  ·rw [iN e,show (t.Ticket==0)=false by simpa using e];rfl
 ·rw [iN h,show (t.Kind==1)=false by simpa using h,jD,e9]
  by_cases e:t.Kind=2
  ·rw [iP e,e]
   by_cases i:t.Ticket>=0
   ·rw [iP i,decide_eq_true (show 0<=t.Ticket from i)];rfl
   ·rw [iN i,decide_eq_false (show ¬0<=t.Ticket from i)];rfl
  ·rw [iN e,show (t.Kind==2)=false by simpa using e];rfl
theorem zcX (b:Build):zFN fu ⟨w⟩ b=some (zOY w.Forest.Nodes w.Desk.Defs.length b):=by
 have j1:∀e,zDF fu ⟨w⟩ b e=some (ltI w.Desk.Defs.length b.Def&&(b.Node == -4||e)):=fun e=>by
  unfold zDF
  rw [zSG,zAA]
  cases ltI w.Desk.Defs.length b.Def<;>cases b.Node == -4<;>rfl
 unfold zFN zOY
 rw [zUo,zAA,j1]
 cases h:ltI w.Forest.Nodes.length b.Node with
 | true =>
  obtain ⟨x,hx⟩:=zAJ (zJj.1 h)
  rw [zAO]
  simp only
  rw [hx,zAA,j1]
  unfold isB
  rw [hx]
 | false =>
  have:idx w.Forest.Nodes b.Node=none:=zCa fun i=>by
   have:=zJj.2 i
   rw [h] at this;cases this
  rw [zAG]
  unfold isB
  rw [this]
end
structure WS (B:Nat) (w:World):Prop where
 line:LS B w.Line
 tasks:w.Tasks.length<=B
 builds:w.Builds.length<=B
 defs:w.Desk.Defs.length<=900
 waits:w.Desk.Waits.length<=900
 kids:∀x∈w.Forest.Nodes,x.Kids.length<=2000
 states:w.States.length<=B
def zfK (w:World) (i:Nat):Bool:=(match w.States[i]?,w.Forest.Nodes[i]? with | some s,some x=>zLF w.Forest.Nodes.length w.Desk.Defs.length x s | _,_=>false)&&((w.Line.Todos[i]?).getD []).all (zH8 w.Desk.Defs.length)
def zTV (w:World):Bool:=decide (w.States.length=w.Forest.Nodes.length)&&(decide (w.Line.Todos.length=w.Forest.Nodes.length)&&(zLi w&&(zAF w.Forest&&(zKx w.Desk&&(zHY w.Line&&((cW w.Line.Todos.length).all (zfK w)&&(w.Tasks.all (zSe w.Desk.Defs.length)&&w.Builds.all (zOY w.Forest.Nodes w.Desk.Defs.length))))))))
theorem zSJ {fu B:Nat} {w:World} (h:WS B w) (hB:B<=1000000000) (hfu:B+10000<fu):zCt fu ⟨w⟩=some (zTV w):=by
 have hl:=h.line.todos
 have q:zEb fu w.Forest.Nodes:=fun x hx=>by have:=h.kids x hx;omega
 have fin:zBw fu ⟨w⟩ fu 0=(bif (cW w.Line.Todos.length).all (zfK w) then some (w.Tasks.all (zSe w.Desk.Defs.length)&&w.Builds.all (zOY w.Forest.Nodes w.Desk.Defs.length)) else some false)\/w.States.length≠w.Forest.Nodes.length\/w.Line.Todos.length≠w.Forest.Nodes.length:=by
  by_cases e:w.States.length=w.Forest.Nodes.length
  ·by_cases j:w.Line.Todos.length=w.Forest.Nodes.length
   ·left
    refine zUl (L:=zBw fu ⟨w⟩) w.Line.Todos.length (zfK w) (some (w.Tasks.all (zSe w.Desk.Defs.length)&&w.Builds.all (zOY w.Forest.Nodes w.Desk.Defs.length))) (fun i hi k=>?_) (fun k=>?_) (by omega)
    ·have hs:i<w.States.length:=by omega
     have hx:i<w.Forest.Nodes.length:=by omega
     have D:=h.line.todo _ (gC hi)
     simp only [zBw]
     rw [zAT (by simpa using hi),zAW hi,zAA,zcs (zAW hs) (zAW hx),zAA,zPO (p:=fun t => !(zH8 w.Desk.Defs.length t)) (fun t _=>by unfold zCK;rw [zYx,zAA]) (by omega) (by omega),zAA,zFx,zAh (by omega),zAA]
     unfold zfK
     rw [lC hs,lC hx,lC hi,cM]
     simp only
     cases zLF w.Forest.Nodes.length w.Desk.Defs.length w.Forest.Nodes[i] w.States[i] with
     | false=>rfl
     | true=>cases w.Line.Todos[i].all (zH8 w.Desk.Defs.length)<;>rfl
    ·have u:=h.tasks
     have C:=h.builds
     simp only [zBw]
     rw [zAS (by simp),zPN (p:=fun t => !(zSe w.Desk.Defs.length t)) (fun t _=>by unfold zCL;rw [zey,zAA]) (by omega) (by omega),zAA,zFx,kH,
      zOc (p:=fun t => !(zOY w.Forest.Nodes w.Desk.Defs.length t)) (fun t _=>by unfold zCM;rw [zcX,zAA]) (by omega) (by omega),zAA,zFx,kH]
     cases w.Tasks.all (zSe w.Desk.Defs.length)<;>rfl
   ·exact .inr (.inr j)
  ·exact .inr (.inl e)
 unfold zCt zTV
 simp only
 rw [zAi,zAi,zZF (by omega) h.defs,zAA,zEv (by omega) q,zAA,zRV (by omega) h.defs h.waits,zAA,zVb hB (by omega) h.line,zAA]
 by_cases e:w.States.length=w.Forest.Nodes.length
 ·rw [iP (by omega),decide_eq_true e,iB]
  by_cases j:w.Line.Todos.length=w.Forest.Nodes.length
  ·rw [iP (by omega),decide_eq_true j,iB]
   have:=fin.resolve_right (by omega)
   rw [this]
   cases zLi w with
   | false=>rfl
   | true =>
    cases zAF w.Forest with
    | false=>rfl
    | true =>
     cases zKx w.Desk with
     | false=>rfl
     | true =>
      cases zHY w.Line with
      | false=>rfl
      | true=>cases (cW w.Line.Todos.length).all (zfK w)<;>rfl
  ·rw [iN (by omega),decide_eq_false j];rfl
 ·rw [iN (by omega),decide_eq_false e];rfl
theorem zU6 {fu B:Nat} {w:World} (h:WS B w) (hB:B<=1000000000) (hfu:B+10000<fu):zF9 fu w=some (zTV w):=by
 unfold zF9
 rw [zSJ h hB hfu,zAA]
end
section
theorem zYF [DecidableEq κ] {l:List (κ × ν)} {k : κ}:zK5 l k=true↔k∈l.map (·.1):=by
 unfold zK5
 induction l with
 | nil=>simp [zH2]
 | cons x l j =>
  simp only [zH2,lT,List.mem_cons]
  by_cases h:x.1=k
  ·simp [h]
  ·rw [iN h,Option.isSome_map,j]
   exact ⟨.inr,fun i=>i.resolve_left fun e=>h e.symm⟩
theorem zdu [DecidableEq κ] {l:List (κ × ν)} {k j : κ} {v : ν}:zK5 (zG9 l k v) j=(decide (k=j)||zK5 l j):=by
 rw [eW,dD,decide_eq_true_eq,zYF,zYF]
 rcases zRq l k v with ⟨q,i⟩ | ⟨_,i⟩
 ·rw [i]
  exact ⟨.inr,fun h=>h.elim (fun e=>e▸q) id⟩
 ·rw [i,cA,e8]
  exact ⟨fun h=>h.elim .inr fun e=>.inl e.symm,fun h=>h.elim (fun e=>.inr e.symm) .inl⟩
def zHW (c:Class) (k:Int):Bool:=c.Hooks.any fun h=>h.Kind==k
theorem za8 {c:Class} {k:Int}:∀(i:Nat) (l:List (Int×Hook)),i<=c.Hooks.length->∃j,zGb c i l=some j/\zK5 j k=(zK5 l k||(c.Hooks.take i).any fun h=>h.Kind==k)
 | 0,l,_=>⟨l,rfl,by simp⟩
 | i+1,l,hi=>by
  have h:i<c.Hooks.length:=by omega
  obtain ⟨j,q,u⟩:=za8 (c:=c) (k:=k) i (zG9 l c.Hooks[i].Kind c.Hooks[i]) (by omega)
  refine ⟨j,?_,?_⟩
  ·simp only [zGb]
   rw [lC h,zAA,q]
  ·rw [u,zdu,iD h,List.any_append]
   have e:(decide (c.Hooks[i].Kind=k))=(c.Hooks[i].Kind==k):=rfl
   simp only [List.any_cons,List.any_nil,Bool.or_false,e]
   cases c.Hooks[i].Kind==k<;>cases zK5 l k<;>simp
theorem zOn {fu:Nat} {c:Class} {k:Int}:zEQ fu c k=some (zHW c k):=by
 obtain ⟨i,e,h⟩:=za8 (c:=c) (k:=k) c.Hooks.length [] (cB _)
 unfold zEQ zLe
 rw [e,zAA,h,iG]
 simp [zHW,zK5,zH2]
def zLv (c:Class) (s:Bs):Bool:=zHW c 4&&c.Watch.contains s
theorem zZq {fu:Nat} {c:Class} {s:Bs} (hfu:1000<fu) (e:c.Watch.length<=12):zHT fu c s=some (zLv c s):=by
 unfold zHT zLv
 rw [zOn,zAA,zKI (by omega) (by omega),zAA]
 cases zHW c 4<;>rfl
def zFs (s:State) (defs:List Def) (cs:List Class):Option Class:=match idx defs s.Def with
 | some y=>idx cs y.Class
 | none=>none
def class0:Class:=⟨false,[],[],[],[]⟩
theorem zTt {fu:Nat} {s:State} {d:Desk} {cs:List Class}:zF8 fu s d cs=some (match zFs s d.Defs cs with | some c=>(c,true) | none=>(class0,false)):=by
 unfold zF8 zFs
 rw [zAQ,zAQ]
 by_cases e:s.Def<0
 ·rw [iP e,zCa (by omega)];rfl
 ·rw [iN e]
  by_cases h:s.Def>=(d.Defs.length:Int)
  ·rw [iP h,zCa (by omega)];rfl
  ·obtain ⟨y,hy⟩:=zAJ (l:=d.Defs) (n:=s.Def) (by omega)
   rw [iN h,hy,zAA,zAQ,zAQ]
   simp only
   by_cases i:y.Class<0
   ·rw [iP i,zCa (by omega)];rfl
   ·rw [iN i]
    by_cases j:y.Class>=(cs.length:Int)
    ·rw [iP j,zCa (by omega)];rfl
    ·obtain ⟨c,q⟩:=zAJ (l:=cs) (n:=y.Class) (by omega)
     rw [iN j,q,zAA]
theorem zWn {s:State} {cs:List Class} {c:Class} (h:zFs s defs cs=some c):c∈cs:=by
 unfold zFs at h
 split at h
 ·exact zEw h
 ·cases h
theorem zNw {s:State} {cs:List Class}:zFs s [] cs=none:=by
 unfold zFs
 rw [zCa (by simp only [eK];omega)]
def zZZ (x:Note):Todo:=⟨x.Kind,0,x.Name,x.Had,x.Has,x.Old,x.New,x.From,x.To,false⟩
def zcx (f:Forest) (st:List State) (d:Desk) (cs:List Class) (x:Note):Option Todo:=match idx st x.Node,idx f.Nodes x.Node with
 | some s,some y=>if s.Phase=1 then (if x.Kind=1/\zMc y d ≠ -1 then some (zfS (zMc y d)) else none)
  else if s.Phase=3 then (match zFs s d.Defs cs with
   | some c=>if ((x.Kind=4/\zLv c x.Name=true)\/x.Kind=1\/x.Kind=2\/x.Kind=3)/\zHW c x.Kind=true then some (zZZ x) else none
   | none=>none)
  else none
 | _,_=>none
section
variable {fu:Nat} {f:Forest} {st:List State} {d:Desk} {cs:List Class} (hfu:1000<fu) (hr:zAF f=true) (hl:d.Defs.length<=900) (hw:d.Waits.length<=900) (hcs:∀c∈cs,c.Watch.length<=12) (hst:st.length=f.Nodes.length)
include hfu hr hl hw hcs hst
theorem zfg {x:Note} (I:InN f.Nodes x.Node):∃r,zFL fu ⟨f,st,d,cs⟩ x=some r/\(if r.2=true then some r.1 else none)=zcx f st d cs x:=by
 obtain ⟨y,hy⟩:=zAJ I
 obtain ⟨s,hs⟩:=zAJ (l:=st) (n:=x.Node) (by rw [hst];exact I)
 have j1:∀(c:Class) (b ok:Bool),zBV fu x (c,b) ok=some (zZZ x,ok&&zHW c x.Kind):=fun c b ok=>by
  unfold zBV
  simp only
  rw [zOn,zAA]
  cases ok<;>rfl
 unfold zFL zcx
 simp only
 rw [hs,zAA,hy,zAj]
 simp only
 by_cases j:s.Phase=1
 ·rw [iP j,iP j,zZ2 hfu hl hw hr,zAA,hy]
  simp only
  rw [zAj]
  by_cases u:x.Kind=1
  ·rw [iP u]
   refine ⟨_,rfl,?_⟩
   simp only
   by_cases hf:zMc y d = -1
   ·rw [hf];simp
   ·have:(zMc y d != -1)=true:=by simpa using hf
    rw [this,iP rfl,iP ⟨u,hf⟩];rfl
  ·rw [iN u]
   refine ⟨_,rfl,?_⟩
   simp only
   rw [iN (by simp),iN fun h=>u h.1]
 ·rw [iN j,iN j,zAj]
  by_cases q:s.Phase=3
  ·rw [iP q,iP q,zTt,zAA]
   cases M:zFs s d.Defs cs with
   | none =>
    simp only [j1]
    have e:∀t:Todo,∃r,some (t,false)=some r/\(if r.2=true then some r.1 else none)=(none:Option Todo):=fun t=>⟨_,rfl,by simp⟩
    have i:∀(b:Bool) (F G:Option (Todo×Bool)),(∃r,F=some r/\(if r.2=true then some r.1 else none)=(none:Option Todo))->(∃r,G=some r/\(if r.2=true then some r.1 else none)=(none:Option Todo))->∃r,cnd b F G=some r/\(if r.2=true then some r.1 else none)=(none:Option Todo):=fun b F G J K=>by
     cases b
     ·exact K
     ·exact J
    simp only [zAG,jD]
    exact i _ _ _ (e _) (i _ _ _ (i _ _ _ (e _) (e _)) (i _ _ _ (i _ _ _ (e _) (e _)) (i _ _ _ (e _) (e _))))
   | some c =>
    simp only [j1,zZq hfu (hcs c (zWn M)),zAA,zAO,iB,zAj]
    by_cases k4:x.Kind=4
    ·rw [iP k4]
     refine ⟨_,rfl,?_⟩
     simp only
     rw [k4]
     cases zLv c x.Name<;>cases zHW c 4<;>simp
    ·rw [iN k4]
     by_cases C:x.Kind=1
     ·rw [iP C,iP C]
      refine ⟨_,rfl,?_⟩
      rw [C]
      cases zHW c 1<;>simp
     ·rw [iN C]
      by_cases D:x.Kind=2
      ·rw [iP D,iP D]
       refine ⟨_,rfl,?_⟩
       rw [D]
       cases zHW c 2<;>simp
      ·rw [iN D]
       by_cases E:x.Kind=3
       ·rw [iP E]
        refine ⟨_,rfl,?_⟩
        rw [E]
        cases zHW c 3<;>simp
       ·rw [iN E]
        refine ⟨_,rfl,?_⟩
        rw [iN (by simp),iN (by omega)]
  ·rw [iN q,iN q]
   exact ⟨_,rfl,by simp⟩
def zPQ (f:Forest) (st:List State) (d:Desk) (cs:List Class) (notes:List Note):List Due:=notes.filterMap fun x=>if isB f.Nodes x.Node 1=true then (zcx f st d cs x).map fun t=>⟨x.Node,t⟩ else none
theorem due_ok (P:zKx d=true) (W:notes.length<=100000000) (I:notes.length<fu):zLd fu f st d cs notes=some (zPQ f st d cs notes):=by
 unfold zLd zMX
 rw [show ((st.length:Int)==(f.Nodes.length:Int))=true by rw [hst];simp,zAO,zEv hfu ((zAH hr).fit hfu),zAA,hr,zAO,zRV hfu hl hw,zAA,P,zAA]
 simp only [iA,zAG]
 have N:∀(j i k:Nat) (q:List Due),i+j=notes.length->j<k->q.length<=i->zE0 fu notes (⟨f,st,d,cs⟩,true) k ((i:Int),q)=some (q++zPQ f st d cs (notes.drop i)):=by
  intro j
  induction j with
  | zero =>
   intro i k q hi Q _
   obtain ⟨k,rfl⟩:∃M,k=M+1:=⟨k - 1,by omega⟩
   obtain rfl:i=notes.length:=by omega
   simp only [zE0]
   rw [zAS (by simp),kJ]
   simp [zPQ]
  | succ j K =>
   intro i k q hi Q V
   obtain ⟨k,rfl⟩:∃M,k=M+1:=⟨k - 1,by omega⟩
   have h:i<notes.length:=by omega
   have G:zFM fu ⟨f,st,d,cs⟩ notes[i].Node=some (isB f.Nodes notes[i].Node 1):=by
    unfold zFM isB
    simp only
    rw [zAQ,zAQ]
    by_cases C:notes[i].Node>=0
    ·rw [iP C]
     by_cases D:notes[i].Node<(f.Nodes.length:Int)
     ·obtain ⟨x,hx⟩:=zAJ (l:=f.Nodes) (n:=notes[i].Node) ⟨C,D⟩
      rw [iP D,hx,zAA]
     ·rw [iN D,zCa (by omega)]
    ·rw [iN C,zCa (by omega)]
   have F:zPQ f st d cs (notes.drop i)=(match (if isB f.Nodes notes[i].Node 1=true then (zcx f st d cs notes[i]).map (fun t=>(⟨notes[i].Node,t⟩:Due)) else none) with | some u=>[u] | none=>[])++zPQ f st d cs (notes.drop (i+1)):=by
    rw [eT h]
    unfold zPQ
    rw [kO]
    split
    ·rename_i e;rw [e];rfl
    ·rename_i e;rw [e];rfl
   simp only [zE0]
   rw [zAT (by simpa using h),zAW h,zAA,G,zAA,F]
   cases E:isB f.Nodes notes[i].Node 1 with
   | false =>
    rw [jK,zAO,zAh (by omega),zAA,K (i+1) k q (by omega) (by omega) (by omega)]
    rfl
   | true =>
    have J:InN f.Nodes notes[i].Node:=by
     unfold isB at E
     cases e:idx f.Nodes notes[i].Node with
     | none=>rw [e] at E;cases E
     | some z=>exact zAK e
    obtain ⟨r,S,T⟩:=zfg hfu hr hl hw hcs hst J
    rw [iA,zAG,S,zAA,iP rfl,<- T]
    cases r.2 with
    | true =>
     rw [zAO,zAg (by simp only [cP,eK];omega),zAA,zAh (by omega),zAA,K (i+1) k _ (by omega) (by omega) (by simp only [eR,cP,eK];omega),eS]
     rfl
    | false =>
     rw [zAG,zAh (by omega),zAA,K (i+1) k q (by omega) (by omega) (by omega)]
     rfl
 have:=N notes.length 0 fu [] (by omega) I (by simp)
 simpa using this
end
theorem zXt {f:Forest} {st:List State} {d:Desk} {cs:List Class}:(zPQ f st d cs notes).length<=notes.length:=kK _ _
theorem zao {f:Forest} {st:List State} {d:Desk} {cs:List Class} {u:Due} (h:u∈zPQ f st d cs notes):isB f.Nodes u.Node 1=true/\zH8 d.Defs.length u.Todo=true/\∃x∈notes,u.Node=x.Node/\zcx f st d cs x=some u.Todo:=by
 unfold zPQ at h
 obtain ⟨x,hx,i⟩:=kL.1 h
 split at i
 ·rename_i j
  obtain ⟨t,e,rfl⟩:=lI.1 i
  refine ⟨j,?_,x,hx,rfl,e⟩
  unfold zcx at e
  split at e
  ·split at e
   ·split at e
    ·rename_i hf
     cases e
     have:=zOh.resolve_left hf.2
     unfold zH8 zfS
     simp only [dD,lM]
     right
     exact ⟨rfl,zJj.2 this⟩
    ·cases e
   ·split at e
    ·split at e
     ·split at e
      ·rename_i q
       cases e
       unfold zH8 zZZ
       simp only [dD,lM,decide_eq_true_eq]
       left
       have:=q.1
       omega
      ·cases e
     ·cases e
    ·cases e
  ·cases e
 ·cases i
end
section
def zZx (ns:List Node) (ids:List (Int×List (Bs×Int))):Prop:=∀p∈ids,∀q∈p.2,InN ns q.2
def zPn (ns:List Node) (r:Int):Prop:=r = -1\/InN ns r
theorem zWy {fu:Nat}:∃b,zG2 fu x=some b:=by
 unfold zG2
 rw [zAj];split<;>exact ⟨_,rfl⟩
section
variable {fu:Nat} {f:Forest} (hr:zAF f=true) (hfu:1000<fu)
include hr
theorem near_l:∀n,InN f.Nodes n->∀K,(way f.Nodes n).length<K->∃r,zBv fu f.Nodes K n=some r/\zPn f.Nodes r:=by
 have T:=zBG hr
 refine T.up_ind fun n h C K e=>?_
 obtain ⟨K,rfl⟩:∃j,K=j+1:=⟨K - 1,by omega⟩
 obtain ⟨x,hx⟩:=zAJ h
 have q:n ≠ -1:=by unfold InN at h;omega
 obtain ⟨b,u⟩:=zWy (fu:=fu) (x:=x)
 rw [T.way_eq h] at e
 simp only [cP] at e
 simp only [zBv]
 rw [zAi,iN q,hx,zAA,u,zAA,zAA]
 cases b with
 | true=>exact ⟨n,rfl,.inr h⟩
 | false =>
  rw [zAG]
  by_cases i:zHB f.Nodes n = -1
  ·rw [<- zIy hx,i]
   rw [iP i] at e
   obtain ⟨K,rfl⟩:∃j,K=j+1:=⟨K - 1,by simp at e;omega⟩
   simp only [zBv]
   rw [zAi,iP rfl]
   exact ⟨-1,rfl,.inl rfl⟩
  ·rw [<- zIy hx]
   rw [iN i] at e
   exact C i K (by omega)
include hfu
theorem zgW (i:InN f.Nodes n):∃r,zDk fu f.Nodes n=some r/\zPn f.Nodes r:=by
 have T:=zBG hr
 have h:=(zAH hr).few
 obtain ⟨x,hx⟩:=zAJ i
 unfold zDk
 rw [hx,zAA,<- zIy hx]
 by_cases j:zHB f.Nodes n = -1
 ·rw [j]
  obtain ⟨K,rfl⟩:∃q,fu=q+1:=⟨fu - 1,by omega⟩
  simp only [zBv]
  rw [zAi,iP rfl]
  exact ⟨-1,rfl,.inl rfl⟩
 ·have e:=(T.par n i j).1
  have:=(T.way_len e).2
  exact near_l hr _ e fu (by omega)
omit hr in
theorem tree_l {C:Int} (Q:L.length<=1000) (E:∀k∈L,InN f.Nodes k) (J:zZx f.Nodes ids):∀(j i K:Nat) (t:List (Bs×Int)),i+j=L.length->j<K->(∀q∈t,InN f.Nodes q.2)->∃I e,zBU fu f.Nodes C ids L K ((i:Int),t)=some (I,e)/\(∀q∈I,InN f.Nodes q.2)/\zZx f.Nodes e:=by
 intro j
 induction j with
 | zero =>
  intro i K t hi M u
  obtain ⟨K,rfl⟩:∃D,K=D+1:=⟨K - 1,by omega⟩
  obtain rfl:i=L.length:=by omega
  simp only [zBU]
  rw [zAS (by simp)]
  refine ⟨_,_,rfl,u,fun p N=>?_⟩
  rcases zXC N with h | rfl
  ·exact J p h
  ·exact u
 | succ j F =>
  intro i K t hi M u
  obtain ⟨K,rfl⟩:∃D,K=D+1:=⟨K - 1,by omega⟩
  have h:i<L.length:=by omega
  have G:=E _ (gC h)
  obtain ⟨x,hx⟩:=zAJ G
  simp only [zBU]
  rw [zAT (by simpa using h),zAW h,zAA,hx,zAA,zPG (by omega),zAA,zAh (by omega)]
  simp only [zAA]
  cases (zcv x.Attrs [105,100]).2 with
  | false=>exact F (i+1) K t (by omega) (by omega) u
  | true =>
   rw [zAO]
   cases zK5 t (zcv x.Attrs [105,100]).1 with
   | true=>exact F (i+1) K t (by omega) (by omega) u
   | false =>
    refine F (i+1) K _ (by omega) (by omega) fun q P=>?_
    rcases zXC P with h | rfl
    ·exact u q h
    ·exact G
theorem zhJ {e:Int} (i:InN f.Nodes e) (u:zZx f.Nodes ids):∃t j,zFF fu f.Nodes f.Most e ids=some (t,j)/\(∀q∈t,InN f.Nodes q.2)/\zZx f.Nodes j:=by
 have T:=zBG hr
 have hs:=zAH hr
 have C:=hs.few
 unfold zFF
 cases h:zK5 ids e with
 | true=>exact ⟨_,_,rfl,u _ (zUF h),u⟩
 | false =>
  have D:=T.all_len i
  rw [zAG,zTj (f:=⟨f.Nodes,f.Most⟩) hs hfu hr i,zAA]
  exact tree_l hfu (L:=zMY f.Nodes e) (by omega) (fun k E=>(T.all_in e i k E).1) u (zMY f.Nodes e).length 0 fu [] (by omega) (by omega) (by simp)
theorem of_ok (h:InN f.Nodes n) (j:zZx f.Nodes ids):∃r e,zEs fu f.Nodes f.Most n ids=some (r,e)/\zPn f.Nodes r/\zZx f.Nodes e:=by
 have T:=zBG hr
 have hs:=zAH hr
 obtain ⟨x,hx⟩:=zAJ h
 obtain ⟨J,D,q⟩:=zgW hr hfu h
 unfold zEs
 rw [hx,zAA,zAi,zPG (by omega),zAA,D]
 simp only [zAA]
 by_cases u:x.Kind=1
 ·rw [iP u]
  cases (zcv x.Attrs [102,111,114,109]).2 with
  | false=>exact ⟨_,_,rfl,q,j⟩
  | true =>
   rw [iA,zAG,zQw (f:=⟨f.Nodes,f.Most⟩) hs hfu hr h,zAA]
   cases zEi f.Nodes n with
   | false=>exact ⟨_,_,rfl,q,j⟩
   | true =>
    obtain ⟨t,e,E,F,i⟩:=zhJ hr hfu (T.root_in h) j
    simp only [iA,zAG]
    rw [zZ7 (f:=⟨f.Nodes,f.Most⟩) hs hfu hr h,zAA,E,zAA]
    simp only
    cases I:zK5 t (zcv x.Attrs [102,111,114,109]).1 with
    | false=>exact ⟨_,_,rfl,.inl rfl,i⟩
    | true =>
     rw [iA,zAG]
     cases ((zcv x.Attrs [102,111,114,109]).1==([]:Bs)) with
     | true=>exact ⟨_,_,rfl,.inl rfl,i⟩
     | false =>
      have C:=F _ (zUF (z:=0) I)
      obtain ⟨y,hy⟩:=zAJ C
      obtain ⟨b,G⟩:=zWy (fu:=fu) (x:=y)
      rw [zAG]
      simp only at hy
      rw [hy,zAA,G,zAA]
      cases b with
      | false=>exact ⟨_,_,rfl,.inl rfl,i⟩
      | true=>exact ⟨_,_,rfl,.inr C,i⟩
 ·rw [iN u]
  exact ⟨_,_,rfl,.inl rfl,j⟩
theorem zbo:∃L,zLR fu f=some L/\L.length=f.Nodes.length/\∀r∈L,zPn f.Nodes r:=by
 have hs:=zAH hr
 have I:=hs.few
 have G:∀(j i K:Nat) (e:List Int) (ids:List (Int×List (Bs×Int))),i+j=f.Nodes.length->j<K->e.length=i->(∀r∈e,zPn f.Nodes r)->zZx f.Nodes ids->∃L,zG1 fu f ⟨f,[]⟩ K ((i:Int),e,ids)=some L/\L.length=f.Nodes.length/\∀r∈L,zPn f.Nodes r:=by
  intro j
  induction j with
  | zero =>
   intro i K e ids hi Q F u _
   obtain ⟨K,rfl⟩:∃E,K=E+1:=⟨K - 1,by omega⟩
   obtain rfl:i=f.Nodes.length:=by omega
   simp only [zG1]
   rw [zAS (by simp)]
   exact ⟨e,rfl,F,u⟩
  | succ j T =>
   intro i K e ids hi Q F u P
   obtain ⟨K,rfl⟩:∃E,K=E+1:=⟨K - 1,by omega⟩
   have h:i<f.Nodes.length:=by omega
   obtain ⟨r,D,J,M,N⟩:=of_ok hr hfu (n:=(i:Int)) (ids:=ids) ⟨by omega,by omega⟩ P
   simp only [zG1]
   rw [zAT (by simpa using h),J,zAA,zAg (by simp only [cP,eK];omega),zAA,zAh (by omega),zAA]
   refine T (i+1) K (e++[r]) D (by omega) (by omega) (by simp [F]) (fun q C=>?_) N
   rcases cA.1 C with C | C
   ·exact u q C
   ·rw [e8.1 C];exact M
 unfold zLR zIV
 rw [zEv hfu (hs.fit hfu),zAA,hr,iA,zAG,zAA]
 exact G f.Nodes.length 0 fu [] [] (by omega) (by omega) rfl (by simp) (by intro p S;cases S)
omit hr in
theorem zRT:∃b,zFi fu x=some b:=by
 unfold zFi
 rw [zPG (by omega),zAA,zAj];split<;>exact ⟨_,rfl⟩
theorem zbL (D:InN f.Nodes n):∃r,zI1 fu f n=some r:=by
 have hs:=zAH hr
 obtain ⟨x,hx⟩:=zAJ D
 have C:=hs.kids x (zEw hx)
 unfold zI1
 rw [hx,zAA]
 have E:∀k∈x.Kids,zCy fu k f=some (match idx f.Nodes k with | some y=>y.Kind==1&&y.Name==([108,101,103,101,110,100]:Bs) | none=>false):=fun k u=>by
  obtain ⟨y,hy⟩:=zAJ (zbJ hr hx u)
  unfold zCy
  rw [hy,zAA,zAA]
  simp only
  cases y.Kind==1<;>rfl
 have hi:zAX fu (fun j=>zCy fu j f) x.Kids=some (zKL x.Kids fun k=>match idx f.Nodes k with | some y=>y.Kind==1&&y.Name==([108,101,103,101,110,100]:Bs) | none=>false):=by
  unfold zAX
  refine zUm (L:=zAM (fun j=>zCy fu j f) x.Kids) x.Kids _ (fun i h k=>?_) (fun k=>?_) (by omega)
  ·simp only [zAM]
   rw [zAT (by simpa using h),zAW h,zAA,E _ (gC h),zAA,zAh (by omega),zAA]
   generalize (match idx f.Nodes x.Kids[i] with | some y=>y.Kind==1&&y.Name==([108,101,103,101,110,100]:Bs) | none=>false)=b
   cases b<;>rfl
  ·simp only [zAM]
   rw [zAS (by simp)]
 rw [hi,zAA,zAQ]
 cases e:x.Kids.any (fun k=>match idx f.Nodes k with | some y=>y.Kind==1&&y.Name==([108,101,103,101,110,100]:Bs) | none=>false) with
 | false=>rw [iP (zTD.2 e)];exact ⟨_,rfl⟩
 | true =>
  obtain ⟨i,h,q,_⟩:=zR3 e
  rw [iN (by rw [q];omega),q,zAW h,zAA]
  exact ⟨_,rfl⟩
theorem zdG:∀n,InN f.Nodes n->∀(K:Nat) (b:Int),(way f.Nodes n).length<K->∃r,zCU fu f K (b,n)=some r:=by
 have T:=zBG hr
 refine T.up_ind fun n h C K b e=>?_
 obtain ⟨K,rfl⟩:∃j,K=j+1:=⟨K - 1,by omega⟩
 obtain ⟨x,hx⟩:=zAJ h
 have q:n ≠ -1:=by unfold InN at h;omega
 obtain ⟨d,u⟩:=zRT (fu:=fu) hfu (x:=x)
 obtain ⟨l,hl⟩:=zbL hr hfu h
 rw [T.way_eq h] at e
 simp only [cP] at e
 have next:∃r,zCU fu f K (n,x.Parent)=some r:=by
  rw [<- zIy hx]
  by_cases i:zHB f.Nodes n = -1
  ·rw [i]
   rw [iP i] at e
   obtain ⟨K,rfl⟩:∃j,K=j+1:=⟨K - 1,by simp at e;omega⟩
   simp only [zCU]
   rw [zAi,iP rfl]
   exact ⟨_,rfl⟩
  ·rw [iN i] at e
   exact C i K n (by omega)
 simp only [zCU]
 rw [zAi,iN q,hx,zAA,u,zAA,hl,zAA,zAA]
 cases x.Name==([102,105,101,108,100,115,101,116]:Bs) with
 | false=>exact next
 | true =>
  rw [zAO]
  cases d with
  | false=>exact next
  | true =>
   rw [zAO,zAi]
   split
   ·exact next
   ·exact ⟨_,rfl⟩
theorem zZ0 (h:InN f.Nodes n):∃r,zHC fu f n=some r:=by
 have T:=zBG hr
 have hs:=zAH hr
 have j:=hs.few
 obtain ⟨x,hx⟩:=zAJ h
 obtain ⟨d,C⟩:=zRT (fu:=fu) hfu (x:=x)
 have i:∃r,zI0 fu f n=some r:=by
  unfold zI0
  rw [hx,zAA,C,zAA,zAA,zAA,zAA]
  cases d with
  | true=>exact ⟨_,rfl⟩
  | false =>
   rw [zAG,zAi]
   split
   ·rw [<- zIy hx]
    by_cases q:zHB f.Nodes n = -1
    ·rw [q]
     obtain ⟨K,rfl⟩:∃u,fu=u+1:=⟨fu - 1,by omega⟩
     simp only [zCU]
     rw [zAi,iP rfl]
     exact ⟨_,rfl⟩
    ·have e:=(T.par n h q).1
     have:=(T.way_len e).2
     exact zdG hr hfu _ e fu n (by omega)
   ·exact ⟨_,rfl⟩
 obtain ⟨r,i⟩:=i
 unfold InN at h
 unfold zHC
 rw [zAT (decide_eq_true (show n>=0 from h.1)),zAT (decide_eq_true h.2),zEv hfu (hs.fit hfu),zAA,hr,zAO,i,zAA]
 exact ⟨_,rfl⟩
theorem zZV (x:Int):∃L,zHN fu f x=some L/\L.length<=400/\∀r∈L,InN f.Nodes r:=by
 have T:=zBG hr
 have hs:=zAH hr
 have hfew:=hs.few
 have no:∃L,some ([]:List Int)=some L/\L.length<=400/\∀r∈L,InN f.Nodes r:=⟨[],rfl,by simp,by simp⟩
 unfold zHN
 rw [zAQ,zAQ,zEv hfu (hs.fit hfu),zAA,hr,iA,zAG]
 by_cases h0:x<0
 ·rw [iP h0];exact no
 ·rw [iN h0]
  by_cases h1:x>=(f.Nodes.length:Int)
  ·rw [iP h1];exact no
  ·have hx:InN f.Nodes x:=by unfold InN;omega
   obtain ⟨y,hy⟩:=zAJ hx
   obtain ⟨b,hb⟩:=zWy (fu:=fu) (x:=y)
   have G:=T.root_in hx
   have hal:=T.all_len G
   rw [iN h1,hy,zAA,hb,zAA]
   cases b with
   | false=>exact no
   | true =>
    unfold zIV
    rw [iA,zAG,zAA,zZ7 hs hfu hr hx,zAA,zTj hs hfu hr G,zAA]
    simp only
    have M:∀k ids,InN f.Nodes k->zZx f.Nodes ids->∃b e,zA8 fu k f.Nodes f.Most x ids=some (b,e)/\zZx f.Nodes e:=fun k ids hk E=>by
     obtain ⟨r,e,C,_,g3⟩:=of_ok hr hfu hk E
     unfold zA8
     rw [C,zAA]
     exact ⟨_,_,rfl,g3⟩
    have Q:∀k∈zMY f.Nodes (zPe f.Nodes x),InN f.Nodes k:=fun k hk=>(T.all_in _ G k hk).1
    generalize zMY f.Nodes (zPe f.Nodes x)=L at hal Q
    have ix:∀(j i K:Nat) (ids:List (Int×List (Bs×Int))),i+j=L.length->j<K->zZx f.Nodes ids->∃r e,zBR (fun N P=>zA8 fu N f.Nodes f.Most x P) L K ((i:Int),ids)=some (r,e)/\zZx f.Nodes e/\(r = -1\/∃m:Nat,r=(m:Int)/\m<L.length):=by
     intro j
     induction j with
     | zero =>
      intro i K ids hi hK E
      obtain ⟨K,rfl⟩:∃u,K=u+1:=⟨K - 1,by omega⟩
      obtain rfl:i=L.length:=by omega
      simp only [zBR]
      rw [zAS (by simp)]
      exact ⟨_,_,rfl,E,.inl rfl⟩
     | succ j V =>
      intro i K ids hi hK E
      obtain ⟨K,rfl⟩:∃u,K=u+1:=⟨K - 1,by omega⟩
      have h:i<L.length:=by omega
      obtain ⟨b,e,C,D⟩:=M _ ids (Q _ (gC h)) E
      simp only [zBR]
      rw [zAT (by simpa using h),zAW h,zAA,C,zAA,zAh (by omega),zAA]
      cases b with
      | true=>exact ⟨_,_,rfl,D,.inr ⟨i,rfl,h⟩⟩
      | false=>exact V (i+1) K e (by omega) (by omega) D
    have del:∀(d i j K:Nat) (m:List Int) (ids:List (Int×List (Bs×Int))),j+d=m.length->m.length<=400->d<K->i<j->(∀r∈m,InN f.Nodes r)->zZx f.Nodes ids->∃W e,zAu (fun N P=>zA8 fu N f.Nodes f.Most x P) K ((i:Int),(j:Int),m,ids)=some (W,e)/\W.length<=400/\∀r∈W,InN f.Nodes r:=by
     intro d
     induction d with
     | zero =>
      intro i j K m ids hj S hK hij q _
      obtain ⟨K,rfl⟩:∃u,K=u+1:=⟨K - 1,by omega⟩
      obtain rfl:j=m.length:=by omega
      simp only [zAu]
      rw [zAS (by simp)]
      obtain ⟨I,e2,e3,e4⟩:∃I,zV8 m (i:Int) (0:Int)=some I/\I.length=m.length/\I.take i=m.take i:=by
       unfold zV8
       rw [iP ⟨by omega,by omega⟩]
       refine ⟨_,rfl,?_,?_⟩
       ·simp;omega
       ·rw [eO,iV (by simp;omega),jH,Nat.min_self]
      rw [e2,zAA]
      rw [show zGF I 0 (i:Int)=some (I.take i) from by
       unfold zGF
       rw [iP ⟨by omega,by omega,by omega⟩]
       simp,zAA,e4]
      exact ⟨_,_,rfl,by simp;omega,fun r F=>q r (List.mem_of_mem_take F)⟩
     | succ d V =>
      intro i j K m ids hj S hK hij q E
      obtain ⟨K,rfl⟩:∃u,K=u+1:=⟨K - 1,by omega⟩
      have h:j<m.length:=by omega
      have hi:i<m.length:=by omega
      obtain ⟨b,e,C,D⟩:=M _ ids (q _ (gC h)) E
      simp only [zAu]
      rw [zAT (by simpa using h),zAW h,zAA,C,zAA,zAW hi,zAA,zAh (by omega),zAh (by omega),eO]
      simp only [zAA]
      cases b with
      | true=>exact V i (j+1) K m e (by omega) S (by omega) (by omega) q D
      | false =>
       refine V (i+1) (j+1) K (m.set i m[j]) e (by simp;omega) (by simpa using S) (by omega) (by omega) (fun r F=>?_) D
       rcases dT F with h' | rfl
       ·exact q r h'
       ·exact q _ (gC h)
    obtain ⟨r,e,C,D,g3⟩:=ix L.length 0 fu [] (by omega) (by omega) (by intro p hp;cases hp)
    have J:∃X,zCx fu (fun N P=>zA8 fu N f.Nodes f.Most x P) L []=some X/\X.1.length<=400/\∀k∈X.1,InN f.Nodes k:=by
     unfold zCx zEt
     rw [show ((0:Int),([]:List (Int×List (Bs×Int))))=(((0:Nat):Int),[]) from rfl,C,zAA]
     simp only
     rw [zAj]
     rcases g3 with rfl | ⟨m,rfl,S⟩
     ·rw [iP rfl];exact ⟨_,rfl,by simp only;omega,Q⟩
     ·rw [iN (by omega),zAh (by omega),zAA]
      obtain ⟨W,ids2,k1,k2,k3⟩:=del (L.length - (m+1)) m (m+1) fu L e (by omega) (by omega) (by omega) (by omega) Q D
      exact ⟨_,k1,k2,k3⟩
    obtain ⟨X,k1,k2,k3⟩:=J
    rw [k1,zAA]
    exact ⟨_,rfl,k2,k3⟩
end
end
section
def Upd (ns:List Node) (i:Int) (s e:State):Prop:=e=s\/(isB ns i 1=true/\e.Phase=s.Phase/\e.Def=s.Def/\(e.Owner=s.Owner\/zPn ns e.Owner))
theorem Upd.trans {i:Int} {a b c:State} (C:Upd ns i a b) (D:Upd ns i b c):Upd ns i a c:=by
 rcases D with rfl | ⟨e,j,q,u⟩
 ·exact C
 ·rcases C with rfl | ⟨G,E,F,k4⟩
  ·exact .inr ⟨e,j,q,u⟩
  ·refine .inr ⟨e,j.trans E,q.trans F,?_⟩
   rcases u with h | h
   ·rcases k4 with k | k
    ·exact .inl (h.trans k)
    ·exact .inr (by rw [h];exact k)
   ·exact .inr h
def zaB (ns:List Node) (st e:List State):Prop:=e.length=st.length/\∀(i:Nat) (h:State),e[i]? = some h->∃s,st[i]? = some s/\Upd ns (i:Int) s h
theorem zaB.refl (ns:List Node) (st:List State):zaB ns st st:=⟨rfl,fun _ s h=>⟨s,h,.inl rfl⟩⟩
theorem zaB.set {st j:List State} (h:zaB ns st j) {n:Nat} {s v:State} (hs:j[n]? = some s) (C:Upd ns (n:Int) s v):zaB ns st (j.set n v):=by
 refine ⟨by simpa using h.1,fun i D hi=>?_⟩
 rw [kQ] at hi
 split at hi
 ·rename_i e
  subst e
  split at hi
  ·cases hi
   obtain ⟨E,q,u⟩:=h.2 n s hs
   exact ⟨E,q,u.trans C⟩
  ·cases hi
 ·exact h.2 i D hi
theorem zRX {fu:Nat} {ws:List Wait} {nx:Int} {bz:Bool} {cs:List Class} {st:List State} {s:State} {y:Node} (hs:idx st n=some s) (hy:idx ns n=some y) :
  ∃c b,zC3 fu n ns defs ws nx bz cs st=some (c,b)/\(b=true->s.Phase=3/\zFs s defs cs=some c/\y.Kind=1):=by
 unfold zC3
 rw [hs,zAA,zTt,zAA,hy]
 simp only
 cases i:zFs s defs cs with
 | none=>exact ⟨_,_,rfl,fun h=>by cases h⟩
 | some c =>
  simp only [zAO,zAA]
  rw [zAj]
  cases c.Form with
  | false=>exact ⟨_,_,rfl,fun h=>by cases h⟩
  | true =>
   rw [zAO]
   by_cases e:s.Phase=3
   ·rw [iP e]
    exact ⟨_,_,rfl,fun h=>⟨e,rfl,by simpa using h⟩⟩
   ·rw [iN e]
    exact ⟨_,_,rfl,fun h=>by cases h⟩
theorem zOg {fu:Nat} {c:Class} {l:List Due} (hl:l.length<=1000000):∃e,zCj fu c n t l=some (l++e)/\(e=[]\/e=[⟨n,t⟩]):=by
 unfold zCj
 rw [zOn,zAA,zAg (by simp only [cP,eK];omega),zAA]
 cases zHW c t.Kind with
 | true=>exact ⟨[⟨n,t⟩],rfl,.inr rfl⟩
 | false=>exact ⟨[],by rw [gI];rfl,.inl rfl⟩
section
variable {fu:Nat} {f:Forest} {st:List State} {d:Desk} {cs:List Class} (hfu:1000<fu) (hr:zAF f=true) (hl:d.Defs.length<=900) (hw:d.Waits.length<=900) (hst:st.length=f.Nodes.length)
include hfu hr hl hw hst
theorem zTz:zHo fu f st d cs=some ((),zKx d,f.Nodes,f.Most,d.Defs,d.Waits,d.Next,d.Busy,cs,st,[]):=by
 have e:=(zAH hr).few
 unfold zHo
 rw [zaa (by omega),zAA,show ((st.length:Int)==(f.Nodes.length:Int))=true by rw [hst];simp,zAO,zEv hfu ((zAH hr).fit hfu),zAA,hr,zAO,zRV hfu hl hw,zAA]
def zY1 (ns:List Node) (u:Due):Prop:=isB ns u.Node 1=true/\(u.Todo.Kind=5\/u.Todo.Kind=6)
omit hl hw in
theorem told_l (hL:L.length=f.Nodes.length) (hin:∀r∈L,zPn f.Nodes r):∀(j i K:Nat) (q:List State) (due:List Due),i+j=L.length->j<K->zaB f.Nodes st q->(∀u∈due,zY1 f.Nodes u)->due.length<=2*i->(d.Defs=[]->q=st/\due=[]) ->
  ∃Q C,zDT fu f ((),true,f.Nodes,f.Most,d.Defs,d.Waits,d.Next,d.Busy,cs,st,[]) L K ((i:Int),q,due)=some (Q,C)/\zaB f.Nodes st Q/\(∀u∈C,zY1 f.Nodes u)/\C.length<=2*L.length/\(d.Defs=[]->Q=st/\C=[]):=by
 have hfew:=(zAH hr).few
 intro j
 induction j with
 | zero =>
  intro i K q due hi hK M S I hn
  obtain ⟨K,rfl⟩:∃K',K=K'+1:=⟨K - 1,by omega⟩
  obtain rfl:i=L.length:=by omega
  simp only [zDT]
  rw [zAS (by simp)]
  exact ⟨_,_,rfl,M,S,I,hn⟩
 | succ j ih =>
  intro i K q due hi hK M S I hn
  obtain ⟨K,rfl⟩:∃K',K=K'+1:=⟨K - 1,by omega⟩
  have h:i<L.length:=by omega
  have N:i<f.Nodes.length:=by omega
  have F:i<q.length:=by rw [M.1,hst];exact N
  have hni:InN f.Nodes (i:Int):=by unfold InN;omega
  have hown:=hin _ (gC h)
  obtain ⟨c,b,h1,h2⟩:=zRX (fu:=fu) (defs:=d.Defs) (ws:=d.Waits) (nx:=d.Next) (bz:=d.Busy) (cs:=cs) (zAW F) (zAW N)
  obtain ⟨D,X⟩:=zZ0 hr hfu hni
  simp only [zDT]
  rw [zAT (by simpa using h),zAW h,zAA,h1,zAA,zAh (by omega)]
  simp only [zAA]
  cases b with
  | false=>exact ih (i+1) K q due (by omega) (by omega) M S (by omega) hn
  | true =>
   obtain ⟨g1,g2,g3⟩:=h2 rfl
   have hB:isB f.Nodes (i:Int) 1=true:=by unfold isB;rw [zAW N];simpa using g3
   have hdn:¬d.Defs=[]:=fun e=>by rw [e,zNw] at g2;cases g2
   have P:∀(a:List State) (b:List Due),d.Defs=[]->a=st/\b=[]:=fun _ _ e=>absurd e hdn
   have hgs:q[i]? = some q[i]:=lC F
   rw [iA,zAG,zAW F,zAA,zAi,X]
   have J:∀{t:Todo} {G E:List Due},(t.Kind=5\/t.Kind=6)->(∀u∈G,zY1 f.Nodes u)->(E=[]\/E=[⟨(i:Int),t⟩])->∀u∈G++E,zY1 f.Nodes u:=fun ht hd hl' u T=>by
    rcases cA.1 T with T | T
    ·exact hd u T
    ·rcases hl' with rfl | rfl
     ·cases T
     ·rw [e8.1 T];exact ⟨hB,ht⟩
   by_cases ho:q[i].Owner=L[i]
   ·rw [iP ho,zAA]
    cases hb2:D==q[i].Barred with
    | true=>exact ih (i+1) K q due (by omega) (by omega) M S (by omega) hn
    | false =>
     obtain ⟨E,k1,k2⟩:=zOg (fu:=fu) (c:=c) (n:=(i:Int)) (t:=⟨6,0,[],false,false,[],[],0,0,D⟩) (l:=due) (by omega)
     rw [jK,zAO,k1,zAA,eO]
     have hll:E.length<=1:=by rcases k2 with rfl | rfl<;>simp
     exact ih (i+1) K _ (due++E) (by omega) (by omega) (M.set hgs (.inr ⟨hB,rfl,rfl,.inl rfl⟩)) (J (.inr rfl) S k2) (by rw [eR];omega) (P _ _)
   ·rw [iN ho]
    obtain ⟨E,k1,k2⟩:=zOg (fu:=fu) (c:=c) (n:=(i:Int)) (t:=⟨5,0,[],false,false,[],[],q[i].Owner,L[i],false⟩) (l:=due) (by omega)
    have hll:E.length<=1:=by rcases k2 with rfl | rfl<;>simp
    have W:=M.set (v:=⟨q[i].Phase,q[i].Def,L[i],q[i].Barred⟩) hgs (.inr ⟨hB,rfl,rfl,.inr hown⟩)
    have V:=J (.inl rfl) S k2
    rw [k1,zAA,zAA,eO]
    cases hb2:D==q[i].Barred with
    | true=>exact ih (i+1) K _ (due++E) (by omega) (by omega) W V (by rw [eR];omega) (P _ _)
    | false =>
     obtain ⟨l2,k3,k4⟩:=zOg (fu:=fu) (c:=c) (n:=(i:Int)) (t:=⟨6,0,[],false,false,[],[],0,0,D⟩) (l:=due++E) (by rw [eR];omega)
     have hll2:l2.length<=1:=by rcases k4 with rfl | rfl<;>simp
     rw [jK,zAO,k3,zAA]
     have hg2:(q.set i (⟨q[i].Phase,q[i].Def,L[i],q[i].Barred⟩:State))[i]? = some ⟨q[i].Phase,q[i].Def,L[i],q[i].Barred⟩:=by
      rw [kQ,iP rfl,iP F]
     exact ih (i+1) K _ (due++E++l2) (by omega) (by omega) (W.set (v:=⟨q[i].Phase,q[i].Def,L[i],D⟩) hg2 (.inr ⟨hB,rfl,rfl,.inl rfl⟩)) (J (.inr rfl) V k4) (by simp only [eR];omega) (P _ _)
theorem zhG (I:zKx d=true):∃h e,zJL fu f st d cs=some (h,e)/\zaB f.Nodes st h/\(∀u∈e,zY1 f.Nodes u)/\e.length<=800/\(d.Defs=[]->h=st/\e=[]):=by
 have i:=(zAH hr).few
 obtain ⟨L,E,F,G⟩:=zbo hr hfu
 unfold zJL
 rw [zTz hfu hr hl hw hst,zAA,I]
 simp only [iA,zAG]
 rw [E,zAA]
 obtain ⟨h,e,j,q,C,J,D⟩:=told_l (d:=d) (cs:=cs) hfu hr hst F G L.length 0 fu st [] (by omega) (by omega) (zaB.refl _ _) (by simp) (by simp) (fun _=>⟨rfl,rfl⟩)
 exact ⟨h,e,j,q,C,by omega,D⟩
theorem zeT (x:Int):∃due,zJ7 fu f st d cs x=some due/\due.length<=400/\(∀u∈due,InN f.Nodes u.Node/\u.Todo.Kind=7)/\(d.Defs=[]->due=[]):=by
 have S:=(zAH hr).few
 obtain ⟨L,h1,h2,h3⟩:=zZV hr hfu x
 unfold zJ7
 rw [zTz hfu hr hl hw hst,zAA]
 cases hd:zKx d with
 | false=>exact ⟨[],rfl,by simp,by simp,fun _=>rfl⟩
 | true =>
  simp only [iA,zAG]
  rw [h1,zAA]
  have P:∀(j i K:Nat) (due:List Due),i+j=L.length->j<K->due.length<=i->(∀u∈due,InN f.Nodes u.Node/\u.Todo.Kind=7)->(d.Defs=[]->due=[])->∃q,zE3 fu ((),true,f.Nodes,f.Most,d.Defs,d.Waits,d.Next,d.Busy,cs,st,[]) L K ((i:Int),due)=some q/\q.length<=L.length/\(∀u∈q,InN f.Nodes u.Node/\u.Todo.Kind=7)/\(d.Defs=[]->q=[]):=by
   intro j
   induction j with
   | zero =>
    intro i K due hi hK C F N
    obtain ⟨K,rfl⟩:∃G,K=G+1:=⟨K - 1,by omega⟩
    obtain rfl:i=L.length:=by omega
    simp only [zE3]
    rw [zAS (by simp)]
    exact ⟨_,rfl,C,F,N⟩
   | succ j T =>
    intro i K due hi hK C F N
    obtain ⟨K,rfl⟩:∃G,K=G+1:=⟨K - 1,by omega⟩
    have h:i<L.length:=by omega
    have M:=h3 _ (gC h)
    obtain ⟨y,hy⟩:=zAJ M
    obtain ⟨s,hs⟩:=zAJ (l:=st) (n:=L[i]) (by rw [hst];exact M)
    obtain ⟨c,b,I,Q⟩:=zRX (fu:=fu) (defs:=d.Defs) (ws:=d.Waits) (nx:=d.Next) (bz:=d.Busy) (cs:=cs) hs hy
    simp only [zE3]
    rw [zAT (by simpa using h),zAW h,zAA,I,zAA,zAh (by omega)]
    simp only [zAA]
    cases b with
    | false=>exact T (i+1) K due (by omega) (by omega) (by omega) F N
    | true =>
     obtain ⟨_,E,_⟩:=Q rfl
     have J:¬d.Defs=[]:=fun e=>by rw [e,zNw] at E;cases E
     obtain ⟨W,k1,V⟩:=zOg (fu:=fu) (c:=c) (n:=L[i]) (t:=⟨7,0,[],false,false,[],[],0,0,false⟩) (l:=due) (by omega)
     have hll:W.length<=1:=by rcases V with rfl | rfl<;>simp
     rw [zAO,k1,zAA]
     refine T (i+1) K (due++W) (by omega) (by omega) (by rw [eR];omega) (fun u D=>?_) fun e=>absurd e J
     rcases cA.1 D with D | D
     ·exact F u D
     ·rcases V with rfl | rfl
      ·cases D
      ·rw [e8.1 D];exact ⟨M,rfl⟩
  obtain ⟨q,I,Q,X,E⟩:=P L.length 0 fu [] (by omega) (by omega) (by simp) (by simp) (fun _=>rfl)
  exact ⟨q,I,by omega,X,E⟩
theorem zZg (i:InN f.Nodes n) (s:Bs):∃due,zH9 fu f st d cs n s=some due/\due.length<=1/\(∀u∈due,u.Node=n/\u.Todo.Kind=8)/\(d.Defs=[]->due=[]):=by
 obtain ⟨y,hy⟩:=zAJ i
 obtain ⟨K,hs⟩:=zAJ (l:=st) (n:=n) (by rw [hst];exact i)
 have j:=i
 unfold InN at j
 unfold zH9
 rw [zTz hfu hr hl hw hst,zAA]
 cases J:zKx d with
 | false=>exact ⟨[],rfl,by simp,by simp,fun _=>rfl⟩
 | true =>
  obtain ⟨c,b,E,F⟩:=zRX (fu:=fu) (defs:=d.Defs) (ws:=d.Waits) (nx:=d.Next) (bz:=d.Busy) (cs:=cs) hs hy
  simp only [iA,zAG]
  rw [zAS (by simp;omega),zAS (by simp;omega),E,zAA]
  cases b with
  | false=>exact ⟨[],rfl,by simp,by simp,fun _=>rfl⟩
  | true =>
   obtain ⟨_,q,_⟩:=F rfl
   have h:¬d.Defs=[]:=fun e=>by rw [e,zNw] at q;cases q
   obtain ⟨I,G,D⟩:=zOg (fu:=fu) (c:=c) (n:=n) (t:=⟨8,0,[],false,false,[],s,0,0,false⟩) (l:=[]) (by simp)
   simp only [zAO]
   rw [G,zAA]
   refine ⟨I,by rw [iU],by rcases D with rfl | rfl<;>simp,fun u C=>?_,fun e=>absurd e h⟩
   rcases D with rfl | rfl
   ·cases C
   ·rw [e8.1 C];exact ⟨rfl,rfl⟩
end
end
section
def zSL:Line->List Task->List Due->Line×List Task
 | l,ts,[]=>(l,ts)
 | l,ts,u::r=>zSL (zQX l u.Node u.Todo).1 (if (zQX l u.Node u.Todo).2=true then ts++[⟨1,0,0⟩] else ts) r
def zT2 (w:World) (due:List Due):World:=⟨w.Forest,w.States,w.Desk,(zSL w.Line w.Tasks due).1,(zSL w.Line w.Tasks due).2,w.Builds,w.Classes⟩
theorem zXv:∀{due:List Due} {l:Line} {ts:List Task},(zSL l ts due).1.Todos.length=l.Todos.length
 | [],_,_=>rfl
 | u::r,l,ts=>by simp only [zSL];rw [zXv,zOU]
theorem zSv:∀{due:List Due} {l:Line} {ts:List Task},zHY l=true->(∀u∈due,inL l u.Node=true)->zHY (zSL l ts due).1=true
 | [],_,_,h,_=>h
 | u::r,l,ts,h,hi=>by
  simp only [zSL]
  refine zSv (zSg h (hi u (lH ..))) fun v e=>?_
  rw [zQi zOU]
  exact hi v (lG _ e)
theorem zSw {B:Nat}:∀{due:List Due} {l:Line} {ts:List Task} {n:Nat},LS (B+n) l->LS (B+n+due.length) (zSL l ts due).1
 | [],_,_,_,h=>h
 | u::r,l,ts,n,h=>by
  simp only [zSL,cP]
  have:=zSw (B:=B) (due:=r) (l:=(zQX l u.Node u.Todo).1) (ts:=if (zQX l u.Node u.Todo).2=true then ts++[⟨1,0,0⟩] else ts) (n:=n+1) (zSh h)
  exact this.mono (by omega)
theorem zPT:∀{due:List Due} {l:Line} {ts:List Task},(zSL l ts due).2.length<=ts.length+due.length/\(∀t∈(zSL l ts due).2,t∈ts\/t=⟨1,0,0⟩)
 | [],_,_=>⟨by simp [zSL],fun _ h=>.inl h⟩
 | u::r,l,ts=>by
  simp only [zSL,cP]
  obtain ⟨q,i⟩:=zPT (due:=r) (l:=(zQX l u.Node u.Todo).1) (ts:=if (zQX l u.Node u.Todo).2=true then ts++[⟨1,0,0⟩] else ts)
  refine ⟨?_,fun t j=>?_⟩
  ·have e:(if (zQX l u.Node u.Todo).2=true then ts++[(⟨1,0,0⟩:Task)] else ts).length<=ts.length+1:=by split<;>simp
   omega
  ·rcases i t j with h | h
   ·split at h
    ·rcases cA.1 h with h | h
     ·exact .inl h
     ·exact .inr (e8.1 h)
    ·exact .inl h
   ·exact .inr h
def zGv (due:List Due) (i:Nat):List Todo:=(due.filter fun u=>u.Node==(i:Int)).map (·.Todo)
theorem zfc (q:inL l n=true) (i:Nat):(zQX l n t).1.Todos[i]? = (l.Todos[i]?).map fun a=>a++(if n=(i:Int) then [t] else []):=by
 unfold inL at q
 simp only [lM,decide_eq_true_eq] at q
 obtain ⟨m,rfl⟩:∃m:Nat,n=(m:Int):=⟨n.toNat,by omega⟩
 have j:m<l.Todos.length:=by omega
 have e:(zQX l (m:Int) t).1.Todos=l.Todos.set m ((l.Todos[m]?).getD []++[t]):=by
  unfold zQX;split<;>simp
 rw [e,kQ]
 by_cases h:m=i
 ·subst h
  rw [iP rfl,iP j,iP rfl,lC j]
  rfl
 ·rw [iN h,iN (by omega)]
  cases l.Todos[i]? <;> simp
theorem zN0:∀{due:List Due} {l:Line} {ts:List Task} (i:Nat),(∀u∈due,inL l u.Node=true)->(zSL l ts due).1.Todos[i]? = (l.Todos[i]?).map fun a=>a++zGv due i
 | [],l,ts,i,_=>by
  simp only [zSL,zGv]
  cases l.Todos[i]? <;> simp
 | u::r,l,ts,i,hi=>by
  simp only [zSL]
  rw [zN0 i (fun v e=>by rw [zQi zOU];exact hi v (lG _ e)),zfc (hi u (lH ..)),Option.map_map]
  congr 1
  funext a
  simp only [Function.comp_apply,eS]
  congr 1
  unfold zGv
  rw [kY]
  by_cases h:u.Node=(i:Int)
  ·rw [iP h,iP (by simpa using h)];rfl
  ·rw [iN h,iN (by simpa using h)];rfl
theorem zdZ {fu B:Nat} {w0:World} (hfu:B+due.length+10000<fu) (hB:B+due.length<=1000000000):∀(j i K:Nat) (l:Line) (ts:List Task),i+j=due.length->j<K->LS (B+i) l->ts.length<=B+i->zHY l=true->(∀u∈due,inL l u.Node=true) ->
  zBj fu due ⟨w0⟩ K ((i:Int),ts,l.Todos,l.Stack,l.Back,l.Busy)=some ⟨⟨w0.Forest,w0.States,w0.Desk,(zSL l ts (due.drop i)).1,(zSL l ts (due.drop i)).2,w0.Builds,w0.Classes⟩⟩:=by
 intro j
 induction j with
 | zero =>
  intro i K l ts hi I hS J hR F
  obtain ⟨K,rfl⟩:∃E,K=E+1:=⟨K - 1,by omega⟩
  obtain rfl:i=due.length:=by omega
  simp only [zBj]
  rw [zAS (by simp),kJ]
  rfl
 | succ j G =>
  intro i K l ts hi I hS J hR F
  obtain ⟨K,rfl⟩:∃E,K=E+1:=⟨K - 1,by omega⟩
  have h:i<due.length:=by omega
  have D:=F _ (gC h)
  have C:LS (B+(i+1)) (zQX l due[i].Node due[i].Todo).1:=zSh hS
  have e:∀u∈due,inL (zQX l due[i].Node due[i].Todo).1 u.Node=true:=fun u M=>by rw [zQi zOU];exact F u M
  have q:=zSg (t:=due[i].Todo) hR D
  simp only [zBj]
  rw [zAT (by simpa using h),zAW h,zAA,add_ok (B:=B+i) (by omega) (by omega) hS hR D,zAA,zAh (by omega)]
  simp only [zAA]
  rw [eT h]
  simp only [zSL]
  cases N:(zQX l due[i].Node due[i].Todo).2 with
  | true =>
   rw [zAO,zAg (by simp only [cP,eK];omega),zAA,iP rfl]
   exact G (i+1) K (zQX l due[i].Node due[i].Todo).1 _ (by omega) (by omega) C (by simp only [eR,cP,eK];omega) q e
  | false =>
   rw [zAG,iN (by simp)]
   exact G (i+1) K (zQX l due[i].Node due[i].Todo).1 _ (by omega) (by omega) C (by omega) q e
theorem zRZ {fu B:Nat} {w:World} (hfu:B+due.length+10000<fu) (hB:B+due.length<=1000000000) (hS:LS B w.Line) (h:w.Tasks.length<=B) (hR:zHY w.Line=true) (e:∀u∈due,inL w.Line u.Node=true):zBW fu due ⟨w⟩=some ⟨zT2 w due⟩:=by
 unfold zBW
 rw [zaZ (by simp only;omega),zAA]
 exact zdZ hfu hB due.length 0 fu w.Line w.Tasks (by omega) (by omega) hS h hR e
structure WR (w:World):Prop where
 st:w.States.length=w.Forest.Nodes.length
 td:w.Line.Todos.length=w.Forest.Nodes.length
 cl:zLi w=true
 fr:zAF w.Forest=true
 dk:zKx w.Desk=true
 ln:zHY w.Line=true
 per:∀(i:Nat) (s:State) (x:Node),w.States[i]? = some s->w.Forest.Nodes[i]? = some x->zLF w.Forest.Nodes.length w.Desk.Defs.length x s=true
 todo:∀l∈w.Line.Todos,∀t∈l,zH8 w.Desk.Defs.length t=true
 task:∀t∈w.Tasks,zSe w.Desk.Defs.length t=true
 build:∀b∈w.Builds,zOY w.Forest.Nodes w.Desk.Defs.length b=true
theorem WR.iff {w:World}:zTV w=true↔WR w:=by
 unfold zTV
 simp only [lM,decide_eq_true_eq,lR,jN]
 constructor
 ·rintro ⟨j,q,u,C,D,E,e,F,G⟩
  refine ⟨j,q,u,C,D,E,fun i s x hs hx=>?_,fun l hl t I=>?_,F,G⟩
  ·have hi:i<w.Line.Todos.length:=by
    have:=(lF.1 hx).1;omega
   have:=e i hi
   unfold zfK at this
   rw [hs,hx] at this
   simp only [lM] at this
   exact this.1
  ·obtain ⟨i,hi,rfl⟩:=iW hl
   have:=e i hi
   unfold zfK at this
   rw [lC hi] at this
   simp only [lM,cM,lR] at this
   exact this.2 t I
 ·intro h
  refine ⟨h.st,h.td,h.cl,h.fr,h.dk,h.ln,fun i hi=>?_,h.task,h.build⟩
  have hs:i<w.States.length:=by rw [h.st,<- h.td];exact hi
  have hx:i<w.Forest.Nodes.length:=by rw [<- h.td];exact hi
  unfold zfK
  rw [lC hs,lC hx,lC hi]
  simp only [lM,cM,lR]
  exact ⟨h.per i _ _ (lC hs) (lC hx),h.todo _ (gC hi)⟩
theorem WR.classes {w:World} (h:WR w):∀c∈w.Classes,c.Watch.length<=12:=fun c i=>by
 have:=h.cl
 unfold zLi at this
 simp only [lM,lR] at this
 have e:=this.2.1 c i
 unfold zMt at e
 simp only [lM,decide_eq_true_eq] at e
 exact e.1
theorem WR.enl {w:World} (h:WR w) {due:List Due} (D:∀u∈due,InN w.Forest.Nodes u.Node/\zH8 w.Desk.Defs.length u.Todo=true):WR (zT2 w due):=by
 have hi:∀u∈due,inL w.Line u.Node=true:=fun u C=>by
  have:=(D u C).1
  unfold InN at this
  unfold inL
  rw [h.td]
  simpa using this
 refine ⟨h.st,zXv.trans h.td,h.cl,h.fr,h.dk,zSv h.ln hi,h.per,fun l hl t j=>?_,fun t j=>?_,h.build⟩
 ·obtain ⟨i,q⟩:=List.getElem?_of_mem hl
  have e:=zN0 (l:=w.Line) (ts:=w.Tasks) i hi
  rw [show (zSL w.Line w.Tasks due).1.Todos[i]? = some l from q] at e
  obtain ⟨a,E,F⟩:=lI.1 e.symm
  subst F
  rcases cA.1 j with j | j
  ·exact h.todo a (lU E) t j
  ·unfold zGv at j
   obtain ⟨u,C,rfl⟩:=lE.1 j
   exact (D u (iH.1 C).1).2
 ·rcases zPT.2 t j with j | rfl
  ·exact h.task t j
  ·rfl
theorem WR.inL {w:World} (h:WR w) {n:Int} (e:InN w.Forest.Nodes n):inL w.Line n=true:=by
 unfold InN at e
 unfold Proofs.YtmfbghpealgaiaaGreatDoor.inL
 rw [h.td]
 simpa using e
theorem WS.enl {B:Nat} {w:World} (h:WS B w) {due:List Due}:WS (B+due.length) (zT2 w due):=by
 refine ⟨zSw (n:=0) h.line,eM zPT.1 (by have:=h.tasks;omega),by have:=h.builds;simp only [zT2];omega,h.defs,h.waits,h.kids,by have:=h.states;simp only [zT2];omega⟩
theorem zUv {fu B:Nat} {w:World} (hfu:B+due.length+10000<fu) (hB:B+due.length<=1000000000) (hS:WS B w) (hR:WR w) (h:∀u∈due,InN w.Forest.Nodes u.Node/\zH8 w.Desk.Defs.length u.Todo=true):zIF fu w due=some (zT2 w due,0):=by
 unfold zIF
 rw [zSJ hS (by omega) (by omega),zAA,WR.iff.2 hR,iA,zAG]
 rw [zQN (p:=fun u => !(ltI w.Forest.Nodes.length u.Node&&zH8 w.Desk.Defs.length u.Todo)) (fun u _=>by
  unfold zEB
  rw [zUo,zAA,zYx,zAA]
  cases ltI w.Forest.Nodes.length u.Node<;>rfl) (by omega) (by omega),zAA,zFx]
 have:(due.all fun u=>ltI w.Forest.Nodes.length u.Node&&zH8 w.Desk.Defs.length u.Todo)=true:=by
  rw [lR]
  intro u e
  rw [lM]
  exact ⟨zJj.2 (h u e).1,(h u e).2⟩
 rw [this,iA,zAG,zRZ hfu hB hS.line hS.tasks hR.ln (fun u e=>hR.inL (h u e).1),zAA]
end
section
def zRK (x:Node):State:=⟨if x.Kind=1 then (if x.Is=[] then (if zFP x.Name=true then 1 else 0) else 1) else 0,-1,-1,false⟩
theorem zfn {fu:Nat} (hfu:1000<fu):zIf fu x=some (zRK x):=by
 unfold zIf zNp zRK
 rw [zAj,zH3 (by omega),zAA]
 by_cases e:x.Kind=1
 ·rw [iP e,iP e]
  by_cases h:x.Is=[]
  ·rw [h]
   cases zFP x.Name<;>rfl
  ·have:(x.Is==([]:Bs))=false:=by simpa using h
   rw [this,iN h];rfl
 ·rw [iN e,iN e]
theorem zWi (q j:Nat) (x:Node):zLF q j x (zRK x)=true:=by
 unfold zLF zRK
 by_cases e:x.Kind=1
 ·rw [iP e,iP e]
  by_cases h:x.Is=[]
  ·by_cases i:zFP x.Name=true<;>simp [h,i]
  ·simp [h]
 ·rw [iN e,iN e];rfl
theorem zWh (x:Node):(zRK x).Phase≠3:=by
 unfold zRK
 simp only
 split
 ·split
  ·split<;>omega
  ·omega
 ·omega
def zHF (w:World) (f:Forest):Prop:=f.Most=w.Forest.Most/\w.Forest.Nodes.length<=f.Nodes.length/\∀(i:Nat) (x:Node),w.Forest.Nodes[i]? = some x->∃y,f.Nodes[i]? = some y/\y.Kind=x.Kind
def zS0 (w:World) (f:Forest) (i:Nat):Bool:=match w.Forest.Nodes[i]?,f.Nodes[i]? with | some x,some y=>y.Kind==x.Kind | _,_=>true
theorem zZK {fu:Nat} {w:World} {f:Forest} (hfu:2000<fu) (hw:w.Forest.Nodes.length<=1000) (hf:f.Nodes.length<=1000):∃b,zES fu ⟨w⟩ f=some b/\(b=true↔zHF w f):=by
 unfold zES
 simp only
 rw [zAi,zAQ]
 by_cases q:f.Most=w.Forest.Most
 ·rw [iP q]
  by_cases u:f.Nodes.length<w.Forest.Nodes.length
  ·rw [iP (by omega)]
   exact ⟨false,rfl,by simp;intro h;have:=h.2.1;omega⟩
  ·rw [iN (by omega)]
   have:=zUl (L:=zB2 ⟨w⟩ f) w.Forest.Nodes.length (zS0 w f) (some true) (fun i hi k=>by
    have e:i<f.Nodes.length:=by omega
    simp only [zB2]
    rw [zAT (by simpa using hi),zAW hi,zAA,zAW e,zAA,zAi,zAh (by omega),zAA]
    unfold zS0
    rw [lC hi,lC e]
    simp only
    by_cases j:f.Nodes[i].Kind=w.Forest.Nodes[i].Kind
    ·rw [iP j,j];simp
    ·rw [iN j,show (f.Nodes[i].Kind==w.Forest.Nodes[i].Kind)=false by simpa using j];rfl) (fun k=>by
    simp only [zB2]
    rw [zAS (by simp)]) (k:=fu) (by omega)
   refine ⟨(cW w.Forest.Nodes.length).all (zS0 w f),this.trans ?_,?_⟩
   ·cases (cW w.Forest.Nodes.length).all (zS0 w f)<;>rfl
   ·rw [lR]
    constructor
    ·intro h
     refine ⟨q,by omega,fun i x hx=>?_⟩
     have hi:=(lF.1 hx).1
     have e:i<f.Nodes.length:=by omega
     have:=h i (jN.2 hi)
     unfold zS0 at this
     rw [hx,lC e] at this
     exact ⟨_,lC e,by simpa using this⟩
    ·intro h i hi
     rw [jN] at hi
     obtain ⟨y,hy,j⟩:=h.2.2 i _ (lC hi)
     unfold zS0
     rw [lC hi,hy]
     simpa using j
 ·rw [iN q]
  exact ⟨false,rfl,by simp;intro h;exact q h.1⟩
def zOk (l:Line) (n:Nat):Line:=⟨l.Todos++dH n [],l.Stack,l.Back,l.Busy⟩
def st1 (w:World) (f:Forest):List State:=w.States++(f.Nodes.drop w.Forest.Nodes.length).map zRK
def ln1 (w:World) (f:Forest):Line:=zOk w.Line (f.Nodes.length - w.Forest.Nodes.length)
def zfH (w:World) (f:Forest):World:=⟨f,st1 w f,w.Desk,ln1 w f,w.Tasks,w.Builds,w.Classes⟩
def zUq (w:World) (f:Forest) (notes:List Note):World:=zT2 (zfH w f) (zPQ f (st1 w f) w.Desk w.Classes notes)
def zdv (w:World) (f:Forest) (notes:List Note) (e:List State):World:=⟨f,e,w.Desk,(zUq w f notes).Line,(zUq w f notes).Tasks,w.Builds,w.Classes⟩
def zZ8 (w:World) (f:Forest) (notes:List Note) (v:World):Prop:=∃h e,v=zT2 (zdv w f notes h) e/\zaB f.Nodes (st1 w f) h/\(∀u∈e,zY1 f.Nodes u)/\e.length<=800/\(w.Desk.Defs=[]->h=st1 w f/\e=[])
theorem zK2 {k:Int} (h:isB ns n k=true):InN ns n:=by
 unfold isB at h
 cases e:idx ns n with
 | none=>rw [e] at h;cases h
 | some x=>exact zAK e
section
variable {w:World} {f:Forest} (hR:WR w) (hf:zAF f=true) (hF:zHF w f)
include hR hf hF
omit hf in
theorem zOE:(st1 w f).length=f.Nodes.length:=by
 have:=hF.2.1
 unfold st1
 rw [eR,lL,iI,hR.st]
 omega
theorem zM1:WR (zfH w f):=by
 have M:=hF.2.1
 have C:∀{i:Nat} {x:Node},f.Nodes[i]? = some x->i<w.Forest.Nodes.length->∃y,w.Forest.Nodes[i]? = some y/\x.Kind=y.Kind:=fun {i x} hx hi=>by
  obtain ⟨z,hz,q⟩:=hF.2.2 i _ (lC hi)
  rw [hx] at hz
  exact ⟨_,lC hi,by rw [lJ.inj hz];exact q⟩
 have G:∀k,ltI w.Forest.Nodes.length k=true->ltI f.Nodes.length k=true:=fun k h=>by
  have:=zJj.1 h
  exact zJj.2 (by omega)
 refine ⟨zOE hR hF,?_,hR.cl,hf,hR.dk,?_,fun i s x hs hx=>?_,fun l hl t I=>?_,hR.task,fun b P=>?_⟩
 ·show (w.Line.Todos++dH (f.Nodes.length - w.Forest.Nodes.length) []).length=f.Nodes.length
  rw [eR,kE,hR.td];omega
 ·have:=hR.ln
  unfold zHY at this ⊢
  rw [lR] at this ⊢
  intro S F
  have K:=this S F
  rw [lR] at K ⊢
  intro n Q
  have E:=K n Q
  unfold inL at E ⊢
  simp only [lM,decide_eq_true_eq] at E ⊢
  refine ⟨E.1,?_⟩
  show n<((w.Line.Todos++dH (f.Nodes.length - w.Forest.Nodes.length) ([]:List Todo)).length:Int)
  rw [eR];omega
 ·show zLF f.Nodes.length w.Desk.Defs.length x s=true
  have e:(w.States++(f.Nodes.drop w.Forest.Nodes.length).map zRK)[i]? = some s:=hs
  by_cases hi:i<w.Forest.Nodes.length
  ·rw [List.getElem?_append_left (by rw [hR.st];exact hi)] at e
   obtain ⟨y,hy,q⟩:=C hx hi
   have:=hR.per i s y e hy
   unfold zLF at this ⊢
   rw [q]
   split
   ·rename_i D
    rw [iP D] at this
    simp only [lM,dD] at this ⊢
    exact ⟨this.1.imp id (G _),this.2⟩
   ·rename_i D
    rw [iN D] at this
    exact this
  ·rw [cC (by rw [hR.st];omega),lK,cD,hR.st] at e
   rw [show w.Forest.Nodes.length+(i - w.Forest.Nodes.length)=i by omega] at e
   have J:f.Nodes[i]? = some x:=hx
   rw [J] at e
   simp only [lW,lJ.injEq] at e
   rw [<- e]
   exact zWi _ _ _
 ·rcases cA.1 hl with hl | hl
  ·exact hR.todo l hl t I
  ·rw [(kR.1 hl).2] at I;cases I
 ·have:=hR.build b P
  show zOY f.Nodes w.Desk.Defs.length b=true
  unfold zOY at this ⊢
  simp only [lM,dD] at this ⊢
  refine ⟨this.1,this.2.imp id fun h=>?_⟩
  have j:=zK2 h
  unfold isB at h ⊢
  obtain ⟨m,N⟩:∃m:Nat,b.Node=(m:Int):=⟨b.Node.toNat,by have:=j.1;omega⟩
  have u:m<w.Forest.Nodes.length:=by have:=j.2;omega
  rw [N,zAW u] at h
  obtain ⟨y,hy,q⟩:=hF.2.2 m _ (lC u)
  rw [N,zHX,hy]
  simp only [beq_iff_eq] at h ⊢
  rw [q];exact h
omit hR hf hF in
theorem zT0 (notes:List Note):∀u∈zPQ f (st1 w f) w.Desk w.Classes notes,InN f.Nodes u.Node/\zH8 w.Desk.Defs.length u.Todo=true:=fun u i=>by
 obtain ⟨e,h,_⟩:=zao i
 exact ⟨zK2 e,h⟩
theorem zZW (notes:List Note):WR (zUq w f notes):=(zM1 hR hf hF).enl (zT0 notes)
theorem zM2 {q:List State} (E:zaB f.Nodes (st1 w f) q):WR (zdv w f notes q):=by
 have j:=zZW hR hf hF notes
 refine ⟨E.1.trans (zOE hR hF),j.td,j.cl,hf,j.dk,j.ln,fun i s x hs hx=>?_,j.todo,j.task,j.build⟩
 obtain ⟨F,G,I⟩:=E.2 i s hs
 have:=j.per i F x G hx
 show zLF f.Nodes.length w.Desk.Defs.length x s=true
 rcases I with rfl | ⟨D,J,K,k4⟩
 ·exact this
 ·have C:x.Kind=1:=by
   unfold isB at D
   have u:f.Nodes[i]? = some x:=hx
   rw [zHX,u] at D
   simpa using D
  have e:zLF f.Nodes.length w.Desk.Defs.length x F=true:=this
  unfold zLF at e ⊢
  rw [iP C] at e ⊢
  rw [J,K]
  simp only [lM,dD,beq_iff_eq] at e ⊢
  refine ⟨?_,e.2⟩
  rcases k4 with h | h | h
  ·rw [h];exact e.1
  ·exact .inl h
  ·exact .inr (zJj.2 h)
theorem zTO (h:zZ8 w f notes v):WR v:=by
 obtain ⟨D,e,rfl,q,j,_⟩:=h
 refine (zM2 hR hf hF q).enl fun u C=>?_
 obtain ⟨i,E⟩:=j u C
 refine ⟨zK2 i,?_⟩
 unfold zH8
 simp only [dD,lM,decide_eq_true_eq]
 left;omega
end
section
variable {B:Nat} {w:World} {f:Forest} (hS:WS B w) (hR:WR w) (hf:zAF f=true) (hF:zHF w f)
include hS hR hf hF
theorem zS2:WS (B+400) (zfH w f):=by
 have i:=(zAH hf).few
 have h:=hS.line
 have j:=h.todos
 have hl:=hF.2.1
 have hst:=hS.states
 refine ⟨⟨?_,fun t e=>?_,by have:=h.stack;show w.Line.Stack.length<=_;omega,fun t e=>by have:=h.lists t e;omega,by have:=h.back;show w.Line.Back.length<=_;omega⟩,by have:=hS.tasks;show w.Tasks.length<=_;omega,by have:=hS.builds;show w.Builds.length<=_;omega,hS.defs,hS.waits,fun x hx=>by have:=(zAH hf).kids x hx;omega,?_⟩
 ·show (w.Line.Todos++dH (f.Nodes.length - w.Forest.Nodes.length) ([]:List Todo)).length<=_
  rw [eR,kE];omega
 ·rcases cA.1 e with e | e
  ·have:=h.todo t e;omega
  ·rw [(kR.1 e).2];simp
 ·show (st1 w f).length<=_
  rw [zOE hR hF];omega
theorem zTP (h:zZ8 w f notes v):WS (B+notes.length+1200) v:=by
 obtain ⟨j,i,rfl,D,_,hl,_⟩:=h
 have q:=(zS2 hS hR hf hF).enl (due:=zPQ f (st1 w f) w.Desk w.Classes notes)
 have E:=zXt (f:=f) (st:=st1 w f) (d:=w.Desk) (cs:=w.Classes) (notes:=notes)
 have u:=(zAH hf).few
 have C:WS (B+400+notes.length) (zdv w f notes j):=by
  refine ⟨q.line.mono (by omega),by have:=q.tasks;show (zUq w f notes).Tasks.length<=_;unfold zUq;omega,by have:=hS.builds;show w.Builds.length<=_;omega,hS.defs,hS.waits,q.kids,?_⟩
  show j.length<=_
  rw [D.1,zOE hR hF];omega
 have e:=C.enl (due:=i)
 exact ⟨e.line.mono (by omega),by have:=e.tasks;omega,by have:=e.builds;omega,e.defs,e.waits,e.kids,by have:=e.states;omega⟩
end
theorem zhU {fu B:Nat} {w:World} {f:Forest} (hfu:B+notes.length+20000<fu) (hB:B+notes.length+20000<=1000000000) (hn:notes.length<=100000000) (hS:WS B w) (hR:WR w) (hf:zAF f=true) (hF:zHF w f) :
  ∀(j i K:Nat),i+j=(f.Nodes.drop w.Forest.Nodes.length).length->j<K->∃v,zGA fu w f notes (f.Nodes.drop w.Forest.Nodes.length) K ((i:Int),w.States++((f.Nodes.drop w.Forest.Nodes.length).take i).map zRK,(zOk w.Line i).Todos,(zOk w.Line i).Stack,(zOk w.Line i).Back,(zOk w.Line i).Busy)=some (v,0)/\zZ8 w f notes v:=by
 have hfew:=(zAH hf).few
 have q:=hS.line
 have hst:=hS.states
 intro j
 induction j with
 | zero =>
  intro i K hi hK
  obtain ⟨K,rfl⟩:∃Q,K=Q+1:=⟨K - 1,by omega⟩
  obtain rfl:i=(f.Nodes.drop w.Forest.Nodes.length).length:=by omega
  have e1:w.States++((f.Nodes.drop w.Forest.Nodes.length).take (f.Nodes.drop w.Forest.Nodes.length).length).map zRK=st1 w f:=by rw [iG];rfl
  have e2:zOk w.Line (f.Nodes.drop w.Forest.Nodes.length).length=ln1 w f:=by rw [iI];rfl
  have M:=zM1 hR hf hF
  have D:=zS2 hS hR hf hF
  have hd:=zXt (f:=f) (st:=st1 w f) (d:=w.Desk) (cs:=w.Classes) (notes:=notes)
  simp only [zGA]
  rw [zAS (by simp),e1,e2,due_ok (by omega) hf hS.defs hS.waits hR.classes (zOE hR hF) hR.dk hn (by omega),zAA]
  have T:=zRZ (fu:=fu) (B:=B+400) (w:=zfH w f) (due:=zPQ f (st1 w f) w.Desk w.Classes notes) (by omega) (by omega) D.line D.tasks M.ln (fun u W=>M.inL (zT0 notes u W).1)
  have I:zBW fu (zPQ f (st1 w f) w.Desk w.Classes notes) ⟨⟨f,st1 w f,w.Desk,⟨(ln1 w f).Todos,(ln1 w f).Stack,(ln1 w f).Back,(ln1 w f).Busy⟩,w.Tasks,w.Builds,w.Classes⟩⟩=some ⟨zUq w f notes⟩:=T
  rw [I,zAA]
  obtain ⟨E,C,g1,X,g3,g4,g5⟩:=zhG (fu:=fu) (f:=f) (st:=st1 w f) (d:=w.Desk) (cs:=w.Classes) (by omega) hf hS.defs hS.waits (zOE hR hF) hR.dk
  have S:zJL fu f (zUq w f notes).States (zUq w f notes).Desk (zUq w f notes).Classes=some (E,C):=g1
  simp only
  rw [S,zAA]
  have N:=zM2 (notes:=notes) hR hf hF X
  have P:=D.enl (due:=zPQ f (st1 w f) w.Desk w.Classes notes)
  have J:=zRZ (fu:=fu) (B:=B+400+notes.length) (w:=zdv w f notes E) (due:=C) (by omega) (by omega) (P.line.mono (by omega)) (by have:=P.tasks;show (zUq w f notes).Tasks.length<=_;unfold zUq;omega) N.ln (fun u W=>N.inL (zK2 (g3 u W).1))
  have G:zBW fu C ⟨⟨(zUq w f notes).Forest,E,(zUq w f notes).Desk,(zUq w f notes).Line,(zUq w f notes).Tasks,(zUq w f notes).Builds,(zUq w f notes).Classes⟩⟩=some ⟨zT2 (zdv w f notes E) C⟩:=J
  simp only
  rw [G,zAA]
  exact ⟨_,rfl,E,C,rfl,X,g3,g4,g5⟩
 | succ j ih =>
  intro i K hi hK
  obtain ⟨K,rfl⟩:∃Q,K=Q+1:=⟨K - 1,by omega⟩
  have h:i<(f.Nodes.drop w.Forest.Nodes.length).length:=by omega
  have hil:i<=400:=by rw [iI] at h;omega
  obtain ⟨v,P,h2⟩:=ih (i+1) K (by omega) (by omega)
  have F:=q.todos
  have V:LS (B+400) (zOk w.Line i):=⟨by unfold zOk;simp;omega,fun t F=>by
   rcases cA.1 F with F | F
   ·have:=q.todo t F;omega
   ·rw [(kR.1 F).2];simp,by have:=q.stack;unfold zOk;simp only;omega,fun t F=>by have:=q.lists t F;omega,by have:=q.back;unfold zOk;simp only;omega⟩
  simp only [zGA]
  rw [zAT (by simpa using h),zAW h,zAA,zfn (by omega),zAA,zAg (by simp only [eR,lL,List.length_take,cP,eK];omega),zAA,zgJ (B:=B+400) (by omega) V,zAA,zAh (by omega),zAA]
  refine ⟨v,?_,h2⟩
  rw [<- P,iD h,gG,<- eS]
  have e:zgI (zOk w.Line i)=zOk w.Line (i+1):=by
   unfold zgI zOk
   simp only [eS,List.replicate_succ']
  rw [e]
  rfl
theorem zez {fu B:Nat} {w:World} {f:Forest} (hfu:B+notes.length+20000<fu) (hB:B+notes.length+20000<=1000000000) (G:notes.length<=100000000) (hS:WS B w) (hR:WR w) (i:f.Nodes.length<=1000) (j:∀x∈f.Nodes,x.Kids.length<=2000) :
  ∃v e,zKF fu w f notes=some (v,e)/\((e≠0/\v=w/\¬(zAF f=true/\zHF w f))\/(e=0/\zAF f=true/\zHF w f/\zZ8 w f notes v)):=by
 have F:=(zAH hR.fr).few
 have hst:=hS.states
 unfold zKF
 rw [zSJ hS (by omega) (by omega),zAA,WR.iff.2 hR,iA,zAG,zEv (by omega) (fun x hx=>by have:=j x hx;omega),zAA]
 cases hf:zAF f with
 | false=>exact ⟨w,1,rfl,.inl ⟨by omega,rfl,by simp⟩⟩
 | true =>
  obtain ⟨b,E,q⟩:=zZK (fu:=fu) (w:=w) (f:=f) (by omega) (by omega) i
  rw [iA,zAG,E,zAA]
  cases b with
  | false=>exact ⟨w,1,rfl,.inl ⟨by omega,rfl,fun h=>by have:=q.2 h.2;cases this⟩⟩
  | true =>
   have hF:=q.1 rfl
   have u:=hF.2.1
   rw [iA,zAG,zaa (by omega),zAA]
   have I:zGF f.Nodes (w.Forest.Nodes.length:Int) (f.Nodes.length:Int)=some (f.Nodes.drop w.Forest.Nodes.length):=by
    unfold zGF
    rw [iP ⟨by omega,by omega,by omega⟩]
    congr 1
    rw [eO,eO,kG (by simp)]
   rw [I,zAA]
   obtain ⟨v,C,D⟩:=zhU hfu hB G hS hR hf hF (f.Nodes.drop w.Forest.Nodes.length).length 0 fu (by omega) (by rw [iI];omega)
   refine ⟨v,0,?_,.inr ⟨rfl,rfl,hF,D⟩⟩
   rw [<- C]
   simp [zOk]
end
section
def zPW:List Bs:=(zG0 0).getD []
theorem zZa (fu:Nat):zG0 fu=some zPW:=by
 have h:∃l,zG0 0=some l:=by
  have:(zG0 0).isSome=true:=by decide +kernel
  exact kW.1 this
 obtain ⟨l,hl⟩:=h
 have e:zG0 fu=zG0 0:=rfl
 unfold zPW
 rw [e,hl];rfl
def zSI (k:Int):Bs:=if k>0/\k<(zPW.length:Int) then (idx zPW k).getD [] else []
theorem zew (fu:Nat) (k:Int):zEI fu k=some (zSI k):=by
 unfold zEI zSI
 rw [zZa,zAA,zAQ,zAQ]
 by_cases e:k>0
 ·rw [iP e]
  by_cases i:k<(zPW.length:Int)
  ·obtain ⟨x,hx⟩:=zAJ (l:=zPW) (n:=k) (by omega)
   rw [iP i,iP ⟨e,i⟩,hx,zAA];rfl
  ·rw [iN i,iN fun h=>i h.2]
 ·rw [iN e,iN fun h=>e h.1]
def zMF (k:Int):Bs×Bool :=
 if k=1\/k=2\/k=9\/k=28 then ([110,46,46,115,115],true)
 else if k=3\/k=10\/k=24 then ([110,46,46,115,46],true)
 else if k=6\/k=8\/k=26 then ([110,110,111,46,46],true)
 else if k=11 then ([110,105,46,115,46],true)
 else if k=12 then ([110,105,110,46,46],true)
 else if k=13 then ([110,110,46,46,46],true)
 else if k=16 then ([105,46,46,115,115],true)
 else if k=17 then ([46,46,46,115,46],true)
 else if k=19 then ([105,46,46,46,46],true)
 else if k=20\/k=22\/k=25 then ([46,46,46,46,46],true)
 else ([110,46,46,46,46],decide (0<k)&&decide (k<=28))
theorem zfD (fu:Nat) (k:Int):zJT fu k=some (⟨zSI k,(zMF k).1⟩,(zMF k).2):=by
 unfold zJT zGz zIR zIS zIT zMF
 simp only [zew,zAA,zAj,zAQ]
 by_cases G:k=1
 ·simp [G]
 by_cases I:k=2
 ·simp [I]
 by_cases J:k=9
 ·simp [J]
 by_cases K:k=28
 ·simp [K]
 by_cases M:k=3
 ·simp [M]
 by_cases N:k=10
 ·simp [N]
 by_cases P:k=24
 ·simp [P]
 by_cases Q:k=6
 ·simp [Q]
 by_cases S:k=8
 ·simp [S]
 by_cases e:k=26
 ·simp [e]
 by_cases h:k=11
 ·simp [h]
 by_cases i:k=12
 ·simp [i]
 by_cases j:k=13
 ·simp [j]
 by_cases q:k=16
 ·simp [q]
 by_cases u:k=17
 ·simp [u]
 by_cases C:k=19
 ·simp [C]
 by_cases D:k=20
 ·simp [D]
 by_cases E:k=22
 ·simp [E]
 by_cases F:k=25
 ·simp [F]
 simp only [G,I,J,K,M,N,P,Q,S,e,h,i,j,q,u,C,D,E,F,or_self,if_false]
 by_cases g:k>0
 ·rw [iP g,decide_eq_true (show 0<k from g),iB]
 ·rw [iN g,decide_eq_false (show ¬0<k from g),jD]
theorem zIH {c:Prop} [Decidable c] {x y:Bs×Bool} (j:∃a b c d e,x.1=[a,b,c,d,e]) (q:∃a b c d e,y.1=[a,b,c,d,e]):∃a b i d e,(if c then x else y).1=[a,b,i,d,e]:=by
 by_cases h:c
 ·rw [iP h];exact j
 ·rw [iN h];exact q
theorem zRd (k:Int):∃a b c d e,(zMF k).1=[a,b,c,d,e]:=by
 have p:∀(a b c d e:UInt8) (t:Bool),∃h i j q u,(([a,b,c,d,e]:Bs),t).1=[h,i,j,q,u]:=fun a b c d e _=>⟨a,b,c,d,e,rfl⟩
 unfold zMF
 exact zIH (p _ _ _ _ _ _) (zIH (p _ _ _ _ _ _) (zIH (p _ _ _ _ _ _) (zIH (p _ _ _ _ _ _) (zIH (p _ _ _ _ _ _) (zIH (p _ _ _ _ _ _) (zIH (p _ _ _ _ _ _) (zIH (p _ _ _ _ _ _) (zIH (p _ _ _ _ _ _) (zIH (p _ _ _ _ _ _) (p _ _ _ _ _ _))))))))))
def zcz (fld:UInt8) (n:Int):Bool :=
 if fld=111 then (n == -1||(n == -2||(n == -3||ltI 400 n)))
 else if fld=110 then (n == -2||(n == -3||ltI 400 n))
 else if fld=105 then decide (-1000<=n)&&decide (n<=1000)
 else n==0
theorem zNv (fld:UInt8) (m:Nat) (e:m<256):(((fld.toNat:Int)=(m:Int))↔fld=UInt8.ofNat m):=by
 constructor
 ·intro h
  apply UInt8.toNat_inj.1
  rw [UInt8.toNat_ofNat']
  omega
 ·intro h
  rw [h,UInt8.toNat_ofNat']
  omega
theorem zWx (fu:Nat) (fld:UInt8) (n:Int):zMr fu (fld.toNat:Int) n=some (zcz fld n):=by
 have j1:zMU n ()=some (n == -2||(n == -3||ltI 400 n)):=by
  unfold zMU
  rw [show cnd (decide (n>=0)) (some (decide (n<400))) (some false)=some (ltI 400 n) from zW9 400 n]
  cases n == -2<;>cases n == -3<;>rfl
 have q:((fld.toNat:Int)=111)↔fld=111:=zNv fld 111 (by omega)
 have u:((fld.toNat:Int)=110)↔fld=110:=zNv fld 110 (by omega)
 have C:((fld.toNat:Int)=105)↔fld=105:=zNv fld 105 (by omega)
 unfold zMr zcz
 rw [j1]
 simp only [zAj,zAQ]
 by_cases e:fld=111
 ·rw [iP (q.2 e),iP e]
  by_cases g:n = -1
  ·rw [iP g,g];rfl
  ·rw [iN g,show (n == -1)=false by simpa using g,e9]
 ·rw [iN fun h=>e (q.1 h),iN e]
  by_cases i:fld=110
  ·rw [iP (u.2 i),iP i]
  ·rw [iN fun h=>i (u.1 h),iN i]
   by_cases j:fld=105
   ·rw [iP (C.2 j),iP j]
    by_cases g:n >= -1000
    ·rw [iP g,decide_eq_true (show -1000<=n from g),iB]
    ·rw [iN g,decide_eq_false (show ¬-1000<=n from g),jD]
   ·rw [iN fun h=>j (C.1 h),iN j]
def zdc (fld:UInt8) (s:Bs):Bool:=if fld=115 then decide (s.length<=200) && !(decide (0<=Lib.indexByte s 10)) else s==[]
theorem za3 (fu:Nat) (fld:UInt8) (s:Bs):zFm fu (fld.toNat:Int) s=some (zdc fld s):=by
 unfold zFm zdc
 rw [zPx,zAj,zAQ]
 unfold zOl
 rw [zAA]
 by_cases h:fld=115
 ·rw [iP (by rw [h];rfl),iP h]
  by_cases g:s.length<=200
  ·rw [iP (by omega),decide_eq_true g];rfl
  ·rw [iN (by omega),decide_eq_false g];rfl
 ·rw [iN fun e=>h (UInt8.toNat_inj.1 (by have:(115:UInt8).toNat=115:=rfl;omega)),iN h]
def zNl (o:Op):Bool:=match (zMF o.Kind).1 with
 | [a,b,c,d,e]=>(zMF o.Kind).2&&(zcz a o.A&&(zcz b o.B&&(zcz c o.C&&(zdc d o.S&&zdc e o.T))))
 | _=>false
theorem zPt {l:Bs} {i:Nat} {b:UInt8} (h:l[i]? = some b):chr l (i:Int)=some (b.toNat:Int):=by
 unfold chr
 have hi:=(lF.1 h).1
 rw [iP (by omega)]
 simp [h]
theorem zcB {fu:Nat}:zMq fu o=some (zNl o):=by
 obtain ⟨a,b,c,d,e,hf⟩:=zRd o.Kind
 have h:chr (zMF o.Kind).1 0=some (a.toNat:Int):=zPt (i:=0) (by rw [hf];rfl)
 have j:chr (zMF o.Kind).1 1=some (b.toNat:Int):=zPt (i:=1) (by rw [hf];rfl)
 have q:chr (zMF o.Kind).1 2=some (c.toNat:Int):=zPt (i:=2) (by rw [hf];rfl)
 have u:chr (zMF o.Kind).1 3=some (d.toNat:Int):=zPt (i:=3) (by rw [hf];rfl)
 have D:chr (zMF o.Kind).1 4=some (e.toNat:Int):=zPt (i:=4) (by rw [hf];rfl)
 have j2:∀ok,zHu fu o (⟨zSI o.Kind,(zMF o.Kind).1⟩,(zMF o.Kind).2) ok=some (ok&&(zdc d o.S&&zdc e o.T)):=fun ok=>by
  unfold zHu zMs
  simp only
  rw [zAA,u,zAA,za3,zAA,D,zAA,za3,zAA]
  cases ok
  ·rfl
  ·cases zdc d o.S<;>rfl
 have j1:∀ok,zJS fu o (⟨zSI o.Kind,(zMF o.Kind).1⟩,(zMF o.Kind).2) ok=some (ok&&(zcz b o.B&&(zcz c o.C&&(zdc d o.S&&zdc e o.T)))):=fun ok=>by
  unfold zJS
  simp only
  rw [j,zAA,zWx,zAA,q,zAA,zWx,zAA]
  simp only [j2]
  cases ok
  ·rfl
  ·cases zcz b o.B<;>rfl
 unfold zMq zIU zNl
 rw [zfD,zAA,zAA]
 simp only
 rw [h,zAA,zWx,zAA]
 simp only [j1]
 rw [hf]
 simp only
 cases (zMF o.Kind).2
 ·rfl
 ·cases zcz a o.A<;>rfl
def zWV (fld:UInt8) (v self many:Int):Option Int :=
 if fld=46\/fld=105\/(fld=111/\v = -1) then some v
 else if (if v = -2 then self else if v = -3 then IntKind.i64.wrap (many - 1) else v)<0\/(if v = -2 then self else if v = -3 then IntKind.i64.wrap (many - 1) else v)>=many then none
 else some (if v = -2 then self else if v = -3 then IntKind.i64.wrap (many - 1) else v)
def zcw (o:Op) (self many:Int):Op×Int :=
 if zNl o=true then (match (zMF o.Kind).1 with
  | [a,b,c,_,_]=>(match zWV a o.A self many with
   | some x=>(match zWV b o.B self many with
    | some y=>(match zWV c o.C self many with
     | some z=>(⟨o.Kind,x,y,z,o.S,o.T,o.Must⟩,0)
     | none=>(⟨0,0,0,0,[],[],false⟩,6))
    | none=>(⟨0,0,0,0,[],[],false⟩,6))
   | none=>(⟨0,0,0,0,[],[],false⟩,6))
  | _=>(⟨0,0,0,0,[],[],false⟩,2))
 else (⟨0,0,0,0,[],[],false⟩,2)
theorem zTo {R:Type} {fld:UInt8} {v self:Int} {no:Option R} {yes:Int->Option R} {j:Unit->Option R} 
  (J:j ()=cnd (v == -2) (cnd (decide (self<0)) no (cnd (decide (self>=many)) no (yes self))) (cnd (v == -3) (cnd (decide (IntKind.i64.wrap (many - 1)<0)) no (cnd (decide (IntKind.i64.wrap (many - 1)>=many)) no (yes (IntKind.i64.wrap (many - 1))))) (cnd (decide (v<0)) no (cnd (decide (v>=many)) no (yes v))))) :
  cnd ((fld.toNat:Int)==46) (yes v) (cnd ((fld.toNat:Int)==105) (yes v) (cnd ((fld.toNat:Int)==111) (cnd (v == -1) (yes v) (j ())) (j ())))=match zWV fld v self many with | some x=>yes x | none=>no:=by
 have C:∀u:Int,cnd (decide (u<0)) no (cnd (decide (u>=many)) no (yes u))=match (if u<0\/u>=many then none else some u) with | some x=>yes x | none=>no:=fun u=>by
  rw [zAQ,zAQ]
  by_cases i:u<0
  ·rw [iP i,iP (.inl i)]
  ·by_cases e:u>=many
   ·rw [iN i,iP e,iP (.inr e)]
   ·rw [iN i,iN e,iN (fun h=>h.elim i e)]
 have D:j ()=match (if (if v = -2 then self else if v = -3 then IntKind.i64.wrap (many - 1) else v)<0\/(if v = -2 then self else if v = -3 then IntKind.i64.wrap (many - 1) else v)>=many then none else some (if v = -2 then self else if v = -3 then IntKind.i64.wrap (many - 1) else v)) with | some x=>yes x | none=>no:=by
  rw [J,zAj,zAj,C,C,C]
  by_cases e:v = -2
  ·simp only [iP e]
  ·simp only [iN e]
   by_cases q:v = -3
   ·simp only [iP q]
   ·simp only [iN q]
 have F:((fld.toNat:Int)=46)↔fld=46:=zNv fld 46 (by omega)
 have G:((fld.toNat:Int)=105)↔fld=105:=zNv fld 105 (by omega)
 have I:((fld.toNat:Int)=111)↔fld=111:=zNv fld 111 (by omega)
 simp only [zAj]
 unfold zWV
 by_cases i:fld=46
 ·rw [iP (F.2 i),iP (.inl i)]
 ·rw [iN fun h=>i (F.1 h)]
  by_cases e:fld=105
  ·rw [iP (G.2 e),iP (.inr (.inl e))]
  ·rw [iN fun h=>e (G.1 h)]
   by_cases q:fld=111
   ·rw [iP (I.2 q)]
    by_cases E:v = -1
    ·rw [iP E,iP (.inr (.inr ⟨q,E⟩))]
    ·rw [iN E,iN (fun h=>h.elim i fun h=>h.elim e fun h=>E h.2),D]
   ·rw [iN fun h=>q (I.1 h),iN (fun h=>h.elim i fun h=>h.elim e fun h=>q h.1),D]
theorem aim_ok {fu:Nat} {self:Int}:zQW fu o self many=some (zcw o self many):=by
 obtain ⟨a,b,c,d,e,hf⟩:=zRd o.Kind
 have h:chr (zMF o.Kind).1 0=some (a.toNat:Int):=zPt (i:=0) (by rw [hf];rfl)
 have q:chr (zMF o.Kind).1 1=some (b.toNat:Int):=zPt (i:=1) (by rw [hf];rfl)
 have u:chr (zMF o.Kind).1 2=some (c.toNat:Int):=zPt (i:=2) (by rw [hf];rfl)
 have j6:∀x y,zIQ o self many (⟨zSI o.Kind,(zMF o.Kind).1⟩,(zMF o.Kind).2) x y=some (match zWV c o.C self many with | some z=>(⟨o.Kind,x,y,z,o.S,o.T,o.Must⟩,0) | none=>(⟨0,0,0,0,[],[],false⟩,6)):=fun x y=>by
  unfold zIQ
  simp only
  rw [u,zAA]
  refine (zTo (fld:=c) (v:=o.C) (self:=self) (many:=many) (no:=some ((⟨0,0,0,0,[],[],false⟩:Op),(6:Int))) (yes:=fun z=>some ((⟨o.Kind,x,y,z,o.S,o.T,o.Must⟩:Op),(0:Int))) (j:=zMS o self many x y) ?_).trans ?_
  ·unfold zMS zMT;rfl
  ·cases zWV c o.C self many<;>rfl
 have j3:∀x,zIP o self many (⟨zSI o.Kind,(zMF o.Kind).1⟩,(zMF o.Kind).2) x=some (match zWV b o.B self many with | some y=>(match zWV c o.C self many with | some z=>(⟨o.Kind,x,y,z,o.S,o.T,o.Must⟩,0) | none=>(⟨0,0,0,0,[],[],false⟩,6)) | none=>(⟨0,0,0,0,[],[],false⟩,6)):=fun x=>by
  unfold zIP
  simp only
  rw [q,zAA]
  refine (zTo (fld:=b) (v:=o.B) (self:=self) (many:=many) (no:=some ((⟨0,0,0,0,[],[],false⟩:Op),(6:Int))) (yes:=fun y=>zIQ o self many (⟨zSI o.Kind,(zMF o.Kind).1⟩,(zMF o.Kind).2) x y) (j:=zMQ o self many (⟨zSI o.Kind,(zMF o.Kind).1⟩,(zMF o.Kind).2) x) ?_).trans ?_
  ·unfold zMQ zMR;rfl
  ·cases zWV b o.B self many with
   | none=>rfl
   | some y=>exact j6 x y
 unfold zQW zIU zcw
 rw [zcB,zAA]
 cases hr:zNl o with
 | false=>rfl
 | true =>
  rw [iA,zAG,zfD,zAA,zAA,iP rfl]
  simp only
  rw [h,zAA]
  refine (zTo (fld:=a) (v:=o.A) (self:=self) (many:=many) (no:=some ((⟨0,0,0,0,[],[],false⟩:Op),(6:Int))) (yes:=fun x=>zIP o self many (⟨zSI o.Kind,(zMF o.Kind).1⟩,(zMF o.Kind).2) x) (j:=zMO o self many (⟨zSI o.Kind,(zMF o.Kind).1⟩,(zMF o.Kind).2)) ?_).trans ?_
  ·unfold zMO zMP;rfl
  ·simp only [hf]
   cases zWV a o.A self many with
   | none=>rfl
   | some x =>
    have:=j3 x
    rw [hf] at this
    exact this
end
section
def zKQ (f:Forest) (t:zBY):Prop:=t.e≠0\/(t.e=0/\Chg f t.f t.notes)
section
variable {fu:Nat} {w:World} {k:Int} (hfu:2000<fu) (hr:zAF w.Forest=true)
include hfu hr
theorem zgR (hx:x.Attrs.length<=1000):∃r,zDJ fu w.Forest x=some r/\(r.2.2≠0\/(r.2.2=0/\Chg w.Forest r.1 [])):=by
 have hs:=zAH hr
 have i:=hs.few
 rw [zbV (by omega) (hs.fit (by omega)) hx]
 by_cases e:zAF w.Forest=true/\zbd w.Forest x=true
 ·rw [iP e]
  by_cases h:(w.Forest.Nodes.length:Int)=w.Forest.Most
  ·rw [iP h];exact ⟨_,rfl,.inl (by simp)⟩
  ·rw [iN h]
   have hs2:=zAH (zVv hr e.2 h)
   exact ⟨_,rfl,.inr ⟨rfl,.of_ext hr (zbf _ _) (by have:=hs2.few;simp only at *;omega) fun y hy=>by have:=hs2.kids y hy;omega⟩⟩
 ·rw [iN e];exact ⟨_,rfl,.inl (by simp)⟩
theorem zdP (hx:x.Attrs.length<=1000) (E:InN w.Forest.Nodes x.Doc) (G:x.Name.length<=1000):∃t h,zDA fu x ⟨w,k⟩=some (t,h)/\h.World=w/\zKQ w.Forest t:=by
 obtain ⟨y,hy⟩:=zAJ E
 have fin:∃t h,(bnd (zEH fu x.Name) fun u=>bnd (zDJ fu w.Forest (⟨x.Kind,u,x.Is,x.Data,x.Attrs,x.Parent,x.Kids,x.Host,x.Under,x.Doc⟩:Node)) fun j=>some ((⟨j.1,[],j.2.2⟩:zBY),(⟨w,j.2.1⟩:zAN)))=some (t,h)/\h.World=w/\zKQ w.Forest t:=by
  rw [zRv (by omega) (by omega),zAA]
  obtain ⟨r,q,D⟩:=zgR (fu:=fu) hfu hr (x:=⟨x.Kind,x.Name.map zGQ,x.Is,x.Data,x.Attrs,x.Parent,x.Kids,x.Host,x.Under,x.Doc⟩) hx
  rw [q,zAA]
  exact ⟨_,_,rfl,rfl,D⟩
 unfold zDA
 simp only
 rw [hy,zAA,zAi,zSx (by omega),zAA,zH3 (by omega),zAA,zAi,zAj]
 have i:∀e:Int,e≠0->∃t h,some ((⟨(⟨[],0⟩:Forest),[],e⟩:zBY),(⟨w,k⟩:zAN))=some (t,h)/\h.World=w/\zKQ w.Forest t:=fun e F=>⟨_,_,rfl,rfl,.inl F⟩
 by_cases C:y.Kind=0
 ·rw [iP C]
  by_cases q:x.Kind=1
  ·rw [iP q]
   split
   ·cases (x.Is==([]:Bs)) with
    | true=>exact fin
    | false =>
     rw [jK,zAO]
     cases zFP x.Is with
     | true=>exact fin
     | false=>exact i 4 (by omega)
   ·exact i 4 (by omega)
  ·rw [iN q];exact fin
 ·rw [iN C];exact i 5 (by omega)
omit hfu hr in
theorem zIj {m:Option (Forest×List Note×Int)} (h:∃r,m=some r/\(r.2.2≠0\/(r.2.2=0/\Chg w.Forest r.1 r.2.1))):∃t j,(bnd m fun e=>bnd (zAn fu e.1 e.2.1 e.2.2) fun i=>some (i,(⟨w,k⟩:zAN)))=some (t,j)/\j.World=w/\zKQ w.Forest t:=by
 obtain ⟨r,rfl,h⟩:=h
 unfold zAn
 rw [zAA,zAA]
 exact ⟨_,_,rfl,rfl,h⟩
theorem zaX (X:InN w.Forest.Nodes o.A) (hS:o.S.length<=300):∃t h,zED fu o ⟨w,k⟩=some (t,h)/\h.World=w/\zKQ w.Forest t:=by
 have i:1000<fu:=by omega
 have E:∃t h,(bnd (zDK fu w.Forest o.A o.B o.C) fun e=>bnd (zAn fu e.1 e.2.1 e.2.2) fun j=>some (j,(⟨w,k⟩:zAN)))=some (t,h)/\h.World=w/\zKQ w.Forest t:=by
  obtain ⟨r,q,u⟩:=zRj hr i o.A o.B o.C
  exact zIj ⟨r,q,Chg.of_hand hr u (by split<;>omega)⟩
 have I:∃t h,(bnd (zEG fu w.Forest o.A) fun e=>bnd (zAn fu e.1 e.2.1 e.2.2) fun j=>some (j,(⟨w,k⟩:zAN)))=some (t,h)/\h.World=w/\zKQ w.Forest t:=by
  obtain ⟨r,q,u⟩:=zVs hr i o.A
  exact zIj ⟨r,q,Chg.of_hand hr u (by omega)⟩
 have J:∃t h,(bnd (zEc fu w.Forest o.A o.B o.C) fun e=>bnd (zAn fu e.1 e.2.1 e.2.2) fun j=>some (j,(⟨w,k⟩:zAN)))=some (t,h)/\h.World=w/\zKQ w.Forest t:=by
  obtain ⟨r,q,u⟩:=zVu hr i o.A o.B o.C
  exact zIj ⟨r,q,Chg.of_hand hr u (by omega)⟩
 have set:∃t h,(bnd (zKi fu w.Forest o.A o.S o.T) fun e=>bnd (zAn fu e.1 e.2.1 e.2.2) fun j=>some (j,(⟨w,k⟩:zAN)))=some (t,h)/\h.World=w/\zKQ w.Forest t:=by
  obtain ⟨r,q,u⟩:=zeY hr i (s:=o.S) (by omega) (by omega) o.A o.T
  exact zIj ⟨r,q,Chg.of_attrs hr u⟩
 have N:∃t h,(bnd (zIM fu w.Forest o.A o.S) fun e=>bnd (zAn fu e.1 e.2.1 e.2.2) fun j=>some (j,(⟨w,k⟩:zAN)))=some (t,h)/\h.World=w/\zKQ w.Forest t:=by
  obtain ⟨r,q,u⟩:=zZp hr i (s:=o.S) (by omega) (by omega) o.A
  exact zIj ⟨r,q,Chg.of_attrs hr u⟩
 have M:∃t h,(bnd (zHK fu w.Forest o.A o.S o.B) fun e=>bnd (zAn fu e.1 e.2.1 e.2.2) fun j=>some (j,(⟨w,k⟩:zAN)))=some (t,h)/\h.World=w/\zKQ w.Forest t:=by
  obtain ⟨r,q,u⟩:=zXV hr i (s:=o.S) (by omega) (by omega) o.A o.B
  exact zIj ⟨r,q,Chg.of_attrs hr u⟩
 have K:∃t h,(bnd (zJb fu w.Forest o.A o.B) fun e=>bnd (zAn fu e.1 e.2.1 e.2.2) fun j=>some (j,(⟨w,k⟩:zAN)))=some (t,h)/\h.World=w/\zKQ w.Forest t:=zIj (zcN hr i o.A o.B)
 have D:∃t h,(bnd (zIc fu w.Forest o.A) fun e=>bnd (zAn fu e.1 e.2.1 e.2.2) fun j=>some (j,(⟨w,k⟩:zAN)))=some (t,h)/\h.World=w/\zKQ w.Forest t:=zIj (zZJ hr i o.A)
 have two:∀(b:Bool) (F G:Option (zBY×zAN)),(∃t h,F=some (t,h)/\h.World=w/\zKQ w.Forest t)->(∃t h,G=some (t,h)/\h.World=w/\zKQ w.Forest t)->∃t h,cnd b F G=some (t,h)/\h.World=w/\zKQ w.Forest t:=fun b F G Q V=>by
  cases b
  ·exact V
  ·exact Q
 have j3:∀b,∃t h,zDd fu o ⟨w,k⟩ b=some (t,h)/\h.World=w/\zKQ w.Forest t:=fun b=>by
  unfold zDd
  exact two _ _ _ set (two _ _ _ N (two _ _ _ M (two _ _ _ K D)))
 have j2:∀b,∃t h,zDc fu o ⟨w,k⟩ b=some (t,h)/\h.World=w/\zKQ w.Forest t:=fun b=>by
  unfold zDc
  exact two _ _ _ I (two _ _ _ J (two _ _ _ (j3 _) (j3 _)))
 have j1:∀b,∃t h,zDb fu o ⟨w,k⟩ b=some (t,h)/\h.World=w/\zKQ w.Forest t:=fun b=>by
  unfold zDb
  exact two _ _ _ E (two _ _ _ (j2 _) (j2 _))
 have mk:∀x:Node,x.Attrs.length<=1000->x.Doc=o.A->x.Name.length<=1000->∃t h,(bnd (zDA fu x ⟨w,k⟩) fun P=>some (P.1,P.2))=some (t,h)/\h.World=w/\zKQ w.Forest t:=fun x hx hd hn=>by
  obtain ⟨t,h,q,u,W⟩:=zdP (k:=k) hfu hr hx (by rw [hd];exact X) hn
  rw [q,zAA]
  exact ⟨_,_,rfl,u,W⟩
 unfold zED
 simp only
 refine two _ _ _ (mk _ (by simp) rfl (by simp only;omega)) (two _ _ _ (mk _ (by simp) rfl (by simp)) (two _ _ _ (mk _ (by simp) rfl (by simp)) (two _ _ _ ?_ (two _ _ _ ?_ (two _ _ _ ?_ (two _ _ _ (j1 _) (j1 _)))))))
 ·obtain ⟨r,q,u⟩:=zWY hr i o.A
  rw [q,zAA]
  exact ⟨_,_,rfl,rfl,u⟩
 ·obtain ⟨r,q,u⟩:=zaf hr i o.A o.C (o.B != 0)
  rw [q,zAA]
  exact ⟨_,_,rfl,rfl,Chg.of_copy hr u⟩
 ·obtain ⟨r,q,u⟩:=zbF hr i o.A
  rw [q,zAA]
  exact ⟨_,_,rfl,rfl,u⟩
end
def newD (f:Forest) (e:Nat) (d:Desk) (due:List Due):Prop:=due.length<=400/\∀u∈due,∃(n:Nat) (x:Node),u.Node=(n:Int)/\e<=n/\f.Nodes[n]? = some x/\zMc x d ≠ -1/\u.Todo=zfS (zMc x d)
def DoneC (w v:World):Prop:=∃g l h e,Chg w.Forest g l/\zAF g=true/\zHF w g/\zZ8 w g l h/\newD g w.Forest.Nodes.length w.Desk e/\v=zT2 h e
theorem zZ8.same {w:World} {l:List Note} (h:zZ8 w g l v):v.Forest=g/\v.Desk=w.Desk/\v.Builds=w.Builds/\v.Classes=w.Classes:=by
 obtain ⟨i,e,rfl,_⟩:=h
 exact ⟨rfl,rfl,rfl,rfl⟩
theorem do_l {fu B:Nat} {w G:World} {r4:zBY×zAN} {e:Int} (hfu:B+100000<fu) (hB:B+100000<=1000000000) (hS:WS B G) (hR:WR G) (P:G.Forest=r4.1.f) (J:G.Desk=w.Desk) :
  ∀(j i K:Nat) (due:List Due),i+j=r4.1.f.Nodes.length->j<K->due.length<=i->newD r4.1.f w.Forest.Nodes.length w.Desk due->w.Forest.Nodes.length<=i->∃C,zDe fu r4 (G,e) K ((i:Int),due)=some (0,⟨zT2 G C,r4.2.node⟩)/\newD r4.1.f w.Forest.Nodes.length w.Desk C:=by
 have hr:zAF r4.1.f=true:=by rw [<- P];exact hR.fr
 have N:=(zAH hr).few
 intro j
 induction j with
 | zero =>
  intro i K due hi W X D hw
  obtain ⟨K,rfl⟩:∃M,K=M+1:=⟨K - 1,by omega⟩
  obtain rfl:i=r4.1.f.Nodes.length:=by omega
  simp only [zDe]
  rw [zAS (by simp)]
  unfold zBX
  simp only
  rw [zUv (B:=B) (by have:=D.1;omega) (by have:=D.1;omega) hS hR (fun u F=>?_),zAA,zAA]
  ·exact ⟨due,rfl,D⟩
  ·obtain ⟨n,x,I,_,S,T,V⟩:=D.2 u F
   refine ⟨?_,?_⟩
   ·rw [P]
    unfold InN
    have:=(lF.1 S).1
    omega
   ·rw [V,J]
    unfold zH8 zfS
    simp only [dD,lM]
    right
    exact ⟨rfl,zJj.2 (zOh.resolve_left T)⟩
 | succ j Q =>
  intro i K due hi W X D hw
  obtain ⟨K,rfl⟩:∃M,K=M+1:=⟨K - 1,by omega⟩
  have h:i<r4.1.f.Nodes.length:=by omega
  have E:=hS.defs
  have q:=hS.waits
  simp only [zDe]
  rw [zAT (by simpa using h),zZ2 (by omega) E q hr,zAW h,zAA,zAi]
  simp only
  rw [zAh (by omega)]
  simp only [zAA]
  by_cases I:zMc r4.1.f.Nodes[i] G.Desk = -1
  ·rw [iP I]
   exact Q (i+1) K due (by omega) (by omega) (by omega) D (by omega)
  ·rw [iN I,zAg (by simp only [cP,eK];omega),zAA]
   refine Q (i+1) K _ (by omega) (by omega) (by simp only [eR,cP,eK];omega) ⟨by simp only [eR,cP,eK];omega,fun u F=>?_⟩ (by omega)
   rcases cA.1 F with F | F
   ·exact D.2 u F
   ·rw [e8.1 F]
    rw [J] at I ⊢
    exact ⟨i,_,rfl,hw,lC h,I,rfl⟩
end
section
theorem zai {fu:Nat} {t:Due->Option Bool} {p:Due->Bool} {l:List Due} (ht:∀x∈l,t x=some (p x)) (hf:l.length<fu) (hb:l.length<=1000000):zCl fu t l=some (l.filter fun x => !(p x)):=by
 have hi:zAy fu t l=some (zKL l p):=by
  unfold zAy
  refine zUm (L:=zAb t l) l p (fun i h k=>?_) (fun k=>?_) hf
  ·simp only [zAb]
   rw [zAT (by simpa using h),zAW h,zAA,ht _ (gC h),zAA,zAh (by omega),zAA]
   cases p l[i]<;>rfl
  ·simp only [zAb]
   rw [zAS (by simp)]
 unfold zCl
 rw [hi,zAA,zAj]
 cases e:l.any p with
 | false =>
  rw [iP (zR4 e)]
  congr 1
  exact (jL.2 fun x hx=>by
   have:=(List.any_eq_false.1 e) x hx
   simpa using this).symm
 | true =>
  have hk:∃(k0:Nat) (h:k0<l.length),zKL l p=(k0:Int)/\p l[k0]=true/\∀x∈l.take k0,p x=false:=by
   have T:l.findIdx p<l.length:=List.findIdx_lt_length.2 (List.any_eq_true.1 e)
   refine ⟨l.findIdx p,T,by unfold zKL;rw [iP e],List.findIdx_getElem,fun x hx=>?_⟩
   obtain ⟨i,hi,rfl⟩:=iW hx
   rw [List.getElem_take]
   have P:i<l.findIdx p:=by simp at hi;omega
   exact List.not_of_lt_findIdx P
  obtain ⟨k0,h,F,h2,h3⟩:=hk
  rw [F,iN (by omega),zAh (by omega),zAA]
  have W:∀{m:List Due},(∀x∈m,x∈l)->∀x∈m,t x=some (p x):=fun E x hx=>ht x (E x hx)
  -- all that stands in the list stood in it
  have X:∀(d i j K:Nat) (m:List Due),(∀x∈m,x∈l)->m.length=l.length->j+d=l.length->i<j->d<K->m.drop j=l.drop j->m.take i=(l.take j).filter (fun x => !(p x))->zAp t K ((i:Int),(j:Int),m)=some (l.filter fun x => !(p x)):=by
   intro d
   induction d with
   | zero =>
    intro i j K m q E hj Q hK N C
    obtain ⟨K,rfl⟩:∃J,K=J+1:=⟨K - 1,by omega⟩
    obtain rfl:j=m.length:=by omega
    simp only [zAp]
    rw [zAS (by simp),eO,eO,show zNZ m.length (i:Int) (m.length:Int)=some () from iP ⟨by omega,by omega,by omega⟩,zAA,show ze8 m.length i m.length=some () from iP ⟨by omega,rfl⟩,zAA]
    have V:zGF (zPw m i (⟨0,(⟨0,0,[],false,false,[],[],0,0,false⟩:Todo)⟩:Due)) 0 (i:Int)=some (m.take i):=by
     unfold zGF zPw
     rw [iP ⟨by omega,by omega,by simp;omega⟩]
     congr 1
     simp only [Int.toNat_zero,List.drop_zero,eO,Nat.sub_zero]
     rw [iV (by simp;omega),jH,Nat.min_self]
    rw [V,zAA,C,E,iG]
   | succ d ih =>
    intro i j K m q E hj Q hK N C
    obtain ⟨K,rfl⟩:∃J,K=J+1:=⟨K - 1,by omega⟩
    have u:j<m.length:=by omega
    have D:j<l.length:=by omega
    have S:i<m.length:=by omega
    have M:m[j]=l[j]:=by
     have F:(m.drop j)[0]? = (l.drop j)[0]? := by rw [N]
     simp only [cD,Nat.add_zero] at F
     rw [lC u,lC D] at F
     exact lJ.inj F
    have G:m.drop (j+1)=l.drop (j+1):=by
     rw [<- kZ,<- kZ,N]
    simp only [zAp]
    rw [zAT (by simpa using u),zAW u,zAA,W q _ (gC u),zAA,zAW S,zAh (by omega),zAh (by omega),eO]
    simp only [zAA]
    cases I:p m[j] with
    | true =>
     refine ih i (j+1) K m q E (by omega) (by omega) (by omega) G ?_
     rw [C,iD D,jJ]
     rw [M] at I
     simp [I]
    | false =>
     refine ih (i+1) (j+1) K (m.set i m[j]) (fun x hx=>?_) (by simpa using E) (by omega) (by omega) (by omega) ?_ ?_
     ·rcases dT hx with hx | rfl
      ·exact q x hx
      ·exact q _ (gC u)
     ·rw [List.drop_set,iP (by omega),G]
     ·rw [iD (by simp;omega),iD D,jJ,List.getElem_set_self,kT (cB _),C,M]
      rw [M] at I
      simp [I]
  refine X (l.length - (k0+1)) k0 (k0+1) fu l (fun _ h=>h) rfl (by omega) (by omega) (by omega) rfl ?_
  rw [iD h,jJ]
  simp only [kY,h2,iA,dL,↓reduceIte,List.filter_nil,gI]
  exact (jL.2 fun x hx=>by rw [h3 x hx];rfl).symm
def zfY (w v:World):Prop:=∃due,v=zT2 w due/\due.length<=1000/\(∀u∈due,InN w.Forest.Nodes u.Node/\zH8 w.Desk.Defs.length u.Todo=true/\3<=u.Todo.Kind)/\(w.Desk.Defs=[]->due=[])
def DoneW (w v:World) (s:Bs) (n:Int):Prop:=(zGH w.Desk s).2.2.2=0/\n=(zGH w.Desk s).2.1/\v=⟨w.Forest,w.States,(zGH w.Desk s).1,w.Line,if (zGH w.Desk s).2.2.1 = -1 then w.Tasks else w.Tasks++[⟨2,(zGH w.Desk s).2.1,(zGH w.Desk s).2.2.1⟩],w.Builds,w.Classes⟩
section
variable {fu B:Nat} {w:World} {k:Int} (hfu:B+300000<fu) (hB:B+300000<=900000000) (hS:WS B w) (hR:WR w)
include hfu hB hS hR
theorem zZG (hl:due.length<=1000) (e:∀u∈due,InN w.Forest.Nodes u.Node/\zH8 w.Desk.Defs.length u.Todo=true):zBX fu due ⟨w,k⟩=some (0,⟨zT2 w due,k⟩):=by
 unfold zBX
 simp only
 rw [zUv (B:=B) (by omega) (by omega) hS hR e,zAA]
omit hfu hB hS hR in
theorem zcQ (i:∀j∈L,InN w.Forest.Nodes j):∀u∈zO4 w.Desk (zSY w.Forest.Nodes L),InN w.Forest.Nodes u.Node/\zH8 w.Desk.Defs.length u.Todo=true/\3<=u.Todo.Kind:=fun u D=>by
 unfold zO4 zSY at D
 obtain ⟨q,F,h⟩:=kL.1 D
 obtain ⟨j,E,e⟩:=kL.1 F
 have C:InN w.Forest.Nodes q.1:=by
  split at e
  ·split at e
   ·cases e;exact i j E
   ·cases e
  ·cases e
 split at h
 ·cases h
 ·rename_i hf
  cases h
  refine ⟨C,?_,by simp [zfS]⟩
  unfold zH8 zfS
  simp only [dD,lM]
  right
  exact ⟨rfl,zJj.2 (zOh.resolve_left hf)⟩
theorem ze2 (K:InN w.Forest.Nodes o.A) :
  (o.Kind=17/\∃e i,zEo fu o ⟨w,k⟩=some (e,true,i)/\(e≠0\/(e=0/\DoneW w i.World o.S i.node))) \/
  ((o.Kind=18\/o.Kind=23\/o.Kind=24)/\∃e i,zEo fu o ⟨w,k⟩=some (e,true,i)/\(e≠0\/(e=0/\zfY w i.World/\i.node=k))) \/
  (o.Kind≠17/\o.Kind≠18/\o.Kind≠23/\o.Kind≠24/\zEo fu o ⟨w,k⟩=some (0,false,⟨w,k⟩)):=by
 have hr:=hR.fr
 have V:=zAH hr
 have X:=V.few
 obtain ⟨y,hy⟩:=zAJ K
 have enl:∀due:List Due,due.length<=1000->(∀u∈due,InN w.Forest.Nodes u.Node/\zH8 w.Desk.Defs.length u.Todo=true/\3<=u.Todo.Kind)->(w.Desk.Defs=[]->due=[])->∃e i,(bnd (zBX fu due ⟨w,k⟩) fun r7=>some (r7.1,true,r7.2))=some (e,true,i)/\(e≠0\/(e=0/\zfY w i.World/\i.node=k)):=fun due T M W=>by
  rw [zZG hfu hB hS hR T (fun u h=>⟨(M u h).1,(M u h).2.1⟩),zAA]
  exact ⟨_,_,rfl,.inr ⟨rfl,⟨due,rfl,T,M,W⟩,rfl⟩⟩
 unfold zEo
 simp only
 rw [hy,zAA]
 simp only [zAj,zAi]
 by_cases C:o.Kind=17
 ·left
  refine ⟨C,?_⟩
  rw [iP C]
  unfold zIm
  simp only
  rw [zdF (by omega) hS.defs hS.waits,zAA,zAi,zAi]
  by_cases G:(zGH w.Desk o.S).2.2.2=0
  ·have ht:=hS.tasks
   rw [iP G]
   by_cases N:(zGH w.Desk o.S).2.2.1 = -1
   ·rw [iP N,zAA]
    exact ⟨_,_,rfl,.inr ⟨rfl,G,rfl,by rw [iP N]⟩⟩
   ·rw [iN N,zaZ (by omega),zAA,zAg (by simp only [cP,eK];omega),zAA,zAA]
    exact ⟨_,_,rfl,.inr ⟨rfl,G,rfl,by rw [iN N]⟩⟩
  ·rw [iN G,zAA]
   exact ⟨_,_,rfl,.inl G⟩
 ·rw [iN C]
  right
  by_cases D:o.Kind=18
  ·left
   refine ⟨.inl D,?_⟩
   rw [iP D,zej (by omega) hS.defs hS.waits hr K,zAA]
   have hal:=(zAL hr).all_len K
   have T:(zSY w.Forest.Nodes (zIG w.Forest.Nodes o.A)).length<=(zIG w.Forest.Nodes o.A).length:=kK _ _
   have M:(zO4 w.Desk (zSY w.Forest.Nodes (zIG w.Forest.Nodes o.A))).length<=(zSY w.Forest.Nodes (zIG w.Forest.Nodes o.A)).length:=kK _ _
   have J:=zcQ (L:=zIG w.Forest.Nodes o.A) fun j hj=>((zAL hr).all_in o.A K j hj).1
   rw [zai (p:=fun u=>match idx w.States u.Node with | some s=>s.Phase != 1 | none=>false) (fun u h=>by
    obtain ⟨s,hs⟩:=zAJ (l:=w.States) (n:=u.Node) (by have:=(J u h).1;rw [hR.st];exact this)
    unfold zCo
    simp only
    rw [hs,zAA]) (by omega) (by omega),zAA]
   refine enl _ (eM (List.length_filter_le _ _) (by omega)) (fun u h=>J u (iH.1 h).1) fun hd=>?_
   have:zO4 w.Desk (zSY w.Forest.Nodes (zIG w.Forest.Nodes o.A))=[]:=by
    rw [List.eq_nil_iff_forall_not_mem]
    intro u h
    have W:=(J u h).2.1
    unfold zO4 at h
    obtain ⟨q,_,G⟩:=kL.1 h
    split at G
    ·cases G
    ·rename_i hf
     have:=zOh.resolve_left hf
     rw [hd] at this
     simp only [eK] at this
     omega
   rw [this];rfl
  ·rw [iN D]
   by_cases E:o.Kind=23
   ·left
    refine ⟨.inr (.inl E),?_⟩
    rw [iP E]
    split
    ·cases (y.Name==([102,111,114,109]:Bs)) with
     | false=>exact ⟨_,_,rfl,.inl (by omega)⟩
     | true =>
      rw [iA,zAG]
      obtain ⟨due,P,g2,I,Q⟩:=zeT (fu:=fu) (f:=w.Forest) (st:=w.States) (d:=w.Desk) (cs:=w.Classes) (by omega) hr hS.defs hS.waits hR.st o.A
      rw [P,zAA]
      exact enl due (by omega) (fun u h=>⟨(I u h).1,by unfold zH8;simp only [dD,lM,decide_eq_true_eq];left;have:=(I u h).2;omega,by have:=(I u h).2;omega⟩) Q
    ·exact ⟨_,_,rfl,.inl (by omega)⟩
   ·rw [iN E]
    by_cases F:o.Kind=24
    ·left
     refine ⟨.inr (.inr F),?_⟩
     rw [iP F]
     split
     ·obtain ⟨due,P,g2,I,Q⟩:=zZg (fu:=fu) (f:=w.Forest) (st:=w.States) (d:=w.Desk) (cs:=w.Classes) (by omega) hr hS.defs hS.waits hR.st K o.S
      rw [P,zAA]
      exact enl due (by omega) (fun u h=>⟨by rw [(I u h).1];exact K,by unfold zH8;simp only [dD,lM,decide_eq_true_eq];left;have:=(I u h).2;omega,by have:=(I u h).2;omega⟩) Q
     ·exact ⟨_,_,rfl,.inl (by omega)⟩
    ·right
     rw [iN F]
     exact ⟨C,D,E,F,rfl⟩
end
end
section
def zRs (k:Int):Bool := !(k==1||(k==16||(k==19||(k==20||(k==21||(k==22||k==25))))))&&(decide (0<k)&&decide (k<=28))
theorem zgX {fu:Nat} {k:Int}:zEn fu k=some (zRs k):=by
 have j1:∀t,zBl k t=some (!t&&(decide (0<k)&&decide (k<=28))):=fun t=>by
  unfold zBl
  rw [zAQ]
  cases t
  ·rw [zAG]
   by_cases h:k>0
   ·rw [iP h,decide_eq_true (show 0<k from h)];rfl
   ·rw [iN h,decide_eq_false (show ¬0<k from h)];rfl
  ·rfl
 unfold zEn zRs
 simp only [j1]
 cases k==1<;>cases k==16<;>cases k==19<;>cases k==20<;>cases k==21<;>cases k==22<;>cases k==25<;>rfl
theorem zXw {a b:Op}:eqOp a b=true↔a=b:=by
 unfold eqOp
 cases a;cases b
 simp
theorem aim_in (Q:1<=many) (h:(zcw o (-1) many).2=0) (j:(zcw o (-1) many).1=o) (M:zRs o.Kind=true):0<=o.A/\o.A<many:=by
 unfold zcw at h j
 by_cases hr:zNl o=true
 ·rw [iP hr] at h j
  obtain ⟨a,b,c,d,e,hf⟩:=zRd o.Kind
  rw [hf] at h j
  simp only at h j
  have q:=hr
  unfold zNl at q
  rw [hf] at q
  simp only [lM] at q
  have K:a=110\/a=46:=by
   have E:∀k:Int,zRs k=true->((zMF k).1.head? = some 110\/(zMF k).1.head? = some 46):=fun k G=>by
    unfold zMF
    unfold zRs at G
    simp only [lM,Bool.not_eq_true',iY,beq_eq_false_iff_ne] at G
    have i:∀{c:Prop} [Decidable c] {x y:Bs×Bool},(c->x.1.head? = some 110\/x.1.head? = some 46)->(¬c->y.1.head? = some 110\/y.1.head? = some 46)->((if c then x else y).1.head? = some 110\/(if c then x else y).1.head? = some 46):=fun {c} _ {x y} I J=>by
     by_cases D:c
     ·rw [iP D];exact I D
     ·rw [iN D];exact J D
    refine i (fun _=>.inl rfl) fun _=>i (fun _=>.inl rfl) fun _=>i (fun _=>.inl rfl) fun _=>i (fun _=>.inl rfl) fun _=>i (fun _=>.inl rfl) fun _=>i (fun _=>.inl rfl) fun _=>i (fun h=>?_) fun _=>i (fun _=>.inr rfl) fun _=>i (fun h=>?_) fun _=>i (fun _=>.inr rfl) fun _=>.inl rfl
    ·omega
    ·omega
   have:=E o.Kind M
   rw [hf] at this
   simpa using this
  rcases K with rfl | rfl
  ·-- a node
   cases hx:zWV 110 o.A (-1) many with
   | none=>rw [hx] at h;simp at h
   | some x =>
    rw [hx] at h j
    simp only at h j
    have P:0<=x/\x<many:=by
     unfold zWV at hx
     rw [iN (by simp)] at hx
     generalize (if o.A = -2 then (-1:Int) else if o.A = -3 then IntKind.i64.wrap (many - 1) else o.A)=u at hx
     split at hx
     ·cases hx
     ·have:=lJ.inj hx
      omega
    have N:x=o.A:=by
     cases hy:zWV b o.B (-1) many with
     | none=>rw [hy] at h;simp at h
     | some y =>
      rw [hy] at h j
      simp only at h j
      cases hz:zWV c o.C (-1) many with
      | none=>rw [hz] at h;simp at h
      | some z =>
       rw [hz] at j
       simp only at j
       rw [<- j]
    omega
  ·have F:=q.2.1
   unfold zcz at F
   simp only [show ¬((46:UInt8)=111) by decide,show ¬((46:UInt8)=110) by decide,show ¬((46:UInt8)=105) by decide,if_false,beq_iff_eq] at F
   omega
 ·rw [iN hr] at h
  simp at h
def zZ1 (w:World) (o:Op) (v:World) (n:Int):Prop:=(o.Kind=17/\DoneW w v o.S n)\/(o.Kind≠17/\zfY w v)\/(o.Kind≠17/\DoneC w v)
section
variable {fu B:Nat} {w:World} (hfu:B+3000000<fu) (hB:B+3000000<=900000000) (hS:WS B w) (hR:WR w)
include hfu hB hS hR
theorem hdo_c (hk:o.Kind≠17/\o.Kind≠18/\o.Kind≠23/\o.Kind≠24) (V:InN w.Forest.Nodes o.A) (hs:o.S.length<=300):∃t u,zED fu o ⟨w,-1⟩=some (t,u)/\zKQ w.Forest t/\∃e C,zDQ fu o ⟨w,-1⟩=some (e,C) /\
  ((e≠0/\(t.e≠0\/¬(zAF t.f=true/\zHF w t.f)))\/(e=0/\t.e=0/\C.node=u.node/\zAF t.f=true/\zHF w t.f/\∃j i,zZ8 w t.f t.notes j/\newD t.f w.Forest.Nodes.length w.Desk i/\C.World=zT2 j i)):=by
 obtain ⟨t,u,Q,g2,T⟩:=zaX (fu:=fu) (k := -1) (by omega) hR.fr V hs
 refine ⟨t,u,Q,T,?_⟩
 unfold zDQ
 rcases ze2 (fu:=fu) (B:=B) (k := -1) (by omega) (by omega) hS hR V with ⟨I,_⟩ | ⟨h,_⟩ | ⟨_,_,_,_,h1⟩
 ·exact absurd I hk.1
 ·omega
 rw [h1,zAA]
 simp only [zAG]
 rw [Q,zAA,zAi]
 rcases T with D | ⟨D,W⟩
 ·rw [iN D]
  exact ⟨_,_,rfl,.inl ⟨D,.inl D⟩⟩
 ·rw [iP D,g2]
  have hcl:=W.len
  have J:=W
  obtain ⟨_,_,_,_,_,_,_,_,_,_,_,_,_,K,M⟩:=J
  obtain ⟨j,e1,t1,t2⟩:=zez (fu:=fu) (B:=B) (w:=w) (f:=t.f) (notes:=t.notes) (by omega) (by omega) (by omega) hS hR K M
  simp only
  rw [t1,zAA,zAi]
  rcases t2 with ⟨q1,F,E⟩ | ⟨rfl,F,E,G⟩
  ·rw [iN q1]
   exact ⟨_,_,rfl,.inl ⟨q1,.inr E⟩⟩
  ·rw [iP rfl,zAi,zAi]
   have P:=zTO hR F E G
   have N:=zTP hS hR F E G
   have q:=G.same
   have hfw:=E.2.1
   have X:=(zAH F).few
   obtain ⟨i,d1,d2⟩:=do_l (fu:=fu) (B:=B+t.notes.length+1200) (w:=w) (r4:=(t,u)) (e:=0) (by omega) (by omega) N P q.1 q.2.1 (t.f.Nodes.length - w.Forest.Nodes.length) w.Forest.Nodes.length fu [] (by simp only;omega) (by omega) (by simp) ⟨by simp,by simp⟩ (cB _)
   have hj:zHE fu (0,false,⟨w,-1⟩) (t,u) (j,0) ()=some (0,⟨zT2 j i,u.node⟩):=d1
   have two:∀m:Option (Int×zAN),(m=some (0,⟨zT2 j i,u.node⟩)\/m=some (0,⟨zT2 j [],u.node⟩))->∃e C,m=some (e,C)/\((e≠0/\(t.e≠0\/¬(zAF t.f=true/\zHF w t.f)))\/(e=0/\t.e=0/\C.node=u.node/\zAF t.f=true/\zHF w t.f/\∃j i,zZ8 w t.f t.notes j/\newD t.f w.Forest.Nodes.length w.Desk i/\C.World=zT2 j i)):=fun m hm=>by
    rcases hm with rfl | rfl
    ·exact ⟨_,_,rfl,.inr ⟨rfl,D,rfl,F,E,j,i,G,d2,rfl⟩⟩
    ·exact ⟨_,_,rfl,.inr ⟨rfl,D,rfl,F,E,j,[],G,⟨by simp,by simp⟩,rfl⟩⟩
   refine two _ ?_
   rw [hj]
   split
   ·exact .inl rfl
   ·split
    ·exact .inl rfl
    ·exact .inr rfl
theorem hdo_ok (E:InN w.Forest.Nodes o.A) (hs:o.S.length<=300):∃e i,zDQ fu o ⟨w,-1⟩=some (e,i)/\(e≠0\/(e=0/\zZ1 w o i.World i.node)):=by
 rcases ze2 (fu:=fu) (B:=B) (k := -1) (by omega) (by omega) hS hR E with ⟨D,e,i,C,u⟩ | ⟨hk,e,i,C,u⟩ | ⟨F,K,M,k4,C⟩
 ·unfold zDQ
  rw [C,zAA]
  exact ⟨e,i,rfl,u.imp id fun h=>⟨h.1,.inl ⟨D,h.2⟩⟩⟩
 ·unfold zDQ
  rw [C,zAA]
  exact ⟨e,i,rfl,u.imp id fun h=>⟨h.1,.inr (.inl ⟨by omega,h.2.1⟩)⟩⟩
 ·obtain ⟨t,i,_,G,e,u,I,J⟩:=hdo_c hfu hB hS hR ⟨F,K,M,k4⟩ E hs
  refine ⟨e,u,I,?_⟩
  rcases J with ⟨q,_⟩ | ⟨q,N,_,P,Q,X,j,T,V,W⟩
  ·exact .inl q
  ·exact .inr ⟨q,.inr (.inr ⟨F,t.f,t.notes,X,j,(G.resolve_left fun h=>h N).2,P,Q,T,V,W⟩)⟩
theorem do_any {Q:Int->zAN->Prop} (I:InN w.Forest.Nodes o.A->∃e i,zDQ fu o ⟨w,-1⟩=some (e,i)/\Q e i):∃v n e,zGV fu w o=some (v,n,e) /\
  ((e≠0/\v=w/\n = -1/\(zcw o (-1) (w.Forest.Nodes.length:Int)=(o,0)->zRs o.Kind=true->∃i,Q e i))\/(e=0/\zRs o.Kind=true/\zNl o=true/\∃i,Q 0 i/\v=i.World/\n=i.node)):=by
 have E:=zAa hR.fr
 unfold zGV zKf
 rw [aim_ok,zAA]
 by_cases j:(zcw o (-1) (w.Forest.Nodes.length:Int)).2=0
 ·rw [zAi,iP j]
  cases u:eqOp (zcw o (-1) (w.Forest.Nodes.length:Int)).1 o with
  | false =>
   refine ⟨_,_,_,rfl,.inl ⟨by omega,rfl,rfl,fun h=>?_⟩⟩
   rw [h,zXw.2 rfl] at u;cases u
  | true =>
   rw [iA,zAG,zU6 hS (by omega) (by omega),zAA,WR.iff.2 hR,iA,zAG,zgX,zAA]
   have C:zNl o=true:=by
    cases e:zNl o with
    | true=>rfl
    | false =>
     unfold zcw at j
     rw [iN (by rw [e];simp)] at j
     simp at j
   by_cases q:zRs o.Kind=true
   ·have G:=aim_in (many:=(w.Forest.Nodes.length:Int)) (by omega) j (zXw.1 u) q
    obtain ⟨e,i,F,D⟩:=I G
    rw [show (!zRs o.Kind)=false by rw [q];rfl,zAG,F,zAA,zAi]
    by_cases h:e=0
    ·subst h;rw [iP rfl];exact ⟨_,_,_,rfl,.inr ⟨rfl,q,C,i,D,rfl,rfl⟩⟩
    ·rw [iN h];exact ⟨_,_,_,rfl,.inl ⟨h,rfl,rfl,fun _ _=>⟨i,D⟩⟩⟩
   ·rw [show (!zRs o.Kind)=true by rw [iJ.2 q];rfl,zAO]
    exact ⟨_,_,_,rfl,.inl ⟨by omega,rfl,rfl,fun _ h=>absurd h q⟩⟩
 ·rw [zAi,iN j]
  have:((zcw o (-1) (w.Forest.Nodes.length:Int)).2 != 0)=true:=by simpa using j
  rw [this]
  exact ⟨_,_,_,rfl,.inl ⟨by omega,rfl,rfl,fun h=>absurd (by rw [h]) j⟩⟩
theorem do_ok (hs:o.S.length<=300):∃v n e,zGV fu w o=some (v,n,e)/\((e≠0/\v=w/\n = -1)\/(e=0/\zRs o.Kind=true/\zNl o=true/\zZ1 w o v n)):=by
 obtain ⟨v,n,e,u,C⟩:=do_any hfu hB hS hR (o:=o) (fun D=>hdo_ok hfu hB hS hR D hs)
 refine ⟨v,n,e,u,?_⟩
 rcases C with ⟨i,j,q,_⟩ | ⟨i,j,q,F,E,rfl,rfl⟩
 ·exact .inl ⟨i,j,q⟩
 ·exact .inr ⟨i,j,q,(E.resolve_left fun h=>h rfl).2⟩
end
end
section
section
variable {fu:Nat} (hfu:1000000000<fu)
include hfu
theorem zg4 {d:Desk}:∃r,zE8 fu d=some r/\(r=true->d.Defs.length<=40/\d.Waits.length<=40):=by
 unfold zE8
 rw [zAQ,zAQ]
 by_cases e:d.Defs.length<=40
 ·rw [iN (by omega)]
  by_cases j:d.Waits.length<=40
  ·rw [iN (by omega)]
   have u:=zLH (L:=zBt d) d.Waits (fun y=>decide (y.Name.length<=300)) (some true) (fun i hi k=>by
    simp only [zBt]
    rw [zAT (by simpa using hi),zAW hi,zAA,zAQ,zAh (by omega),zAA]
    by_cases h:d.Waits[i].Name.length<=300
    ·rw [iN (by omega),decide_eq_true h];rfl
    ·rw [iP (by omega),decide_eq_false h];rfl) (fun k=>by simp only [zBt];rw [zAS (by simp)]) (k:=fu) (by omega)
   have q:=zLH (L:=zCe fu d) d.Defs (fun y=>decide (y.Name.length<=300)&&decide (y.Local.length<=300)) (zBt d fu 0) (fun i hi k=>by
    simp only [zCe]
    rw [zAT (by simpa using hi),zAW hi,zAA,zAQ,zAA,zAQ,zAh (by omega),zAA]
    by_cases h:d.Defs[i].Name.length<=300
    ·rw [iN (by omega),decide_eq_true h]
     by_cases g:d.Defs[i].Local.length<=300
     ·rw [iN (by omega),decide_eq_true g];rfl
     ·rw [iP (by omega),decide_eq_false g];rfl
    ·rw [iP (by omega),decide_eq_false h];rfl) (fun k=>by simp only [zCe];rw [zAS (by simp)]) (k:=fu) (by omega)
   rw [q,u]
   cases d.Defs.all (fun y=>decide (y.Name.length<=300)&&decide (y.Local.length<=300)) with
   | false=>exact ⟨_,rfl,fun _=>⟨e,j⟩⟩
   | true=>cases d.Waits.all (fun y=>decide (y.Name.length<=300))<;>exact ⟨_,rfl,fun _=>⟨e,j⟩⟩
  ·rw [iP (by omega)];exact ⟨false,rfl,by simp⟩
 ·rw [iP (by omega)];exact ⟨false,rfl,by simp⟩
theorem zg5:∃r,zE9 fu l=some r/\(r=true->LS 60 l):=by
 unfold zE9
 rw [zAQ,zAQ,zAQ]
 by_cases D:l.Todos.length<=60
 ·rw [iN (by omega)]
  by_cases F:l.Stack.length<=30
  ·rw [iN (by omega)]
   by_cases E:l.Back.length<=60
   ·rw [iN (by omega)]
    have C:=zLH (L:=zBu l) l.Stack (fun y=>decide (y.length<=60)) (some true) (fun i hi k=>by
     simp only [zBu]
     rw [zAT (by simpa using hi),zAW hi,zAA,zAQ,zAh (by omega),zAA]
     by_cases h:l.Stack[i].length<=60
     ·rw [iN (by omega),decide_eq_true h];rfl
     ·rw [iP (by omega),decide_eq_false h];rfl) (fun k=>by simp only [zBu];rw [zAS (by simp)]) (k:=fu) (by omega)
    have u:=zLH (L:=zCf fu l) l.Todos (fun y=>decide (y.length<=60)) (zBu l fu 0) (fun i hi k=>by
     simp only [zCf]
     rw [zAT (by simpa using hi),zAW hi,zAA,zAQ,zAh (by omega),zAA]
     by_cases h:l.Todos[i].length<=60
     ·rw [iN (by omega),decide_eq_true h];rfl
     ·rw [iP (by omega),decide_eq_false h];rfl) (fun k=>by simp only [zCf];rw [zAS (by simp)]) (k:=fu) (by omega)
    rw [u,C]
    cases j:l.Todos.all (fun y=>decide (y.length<=60)) with
    | false=>exact ⟨_,rfl,fun h=>by cases h⟩
    | true =>
     cases q:l.Stack.all (fun y=>decide (y.length<=60)) with
     | false=>exact ⟨_,rfl,fun h=>by cases h⟩
     | true =>
      rw [lR] at j q
      exact ⟨_,rfl,fun _=>⟨D,fun t e=>by simpa using j t e,by omega,fun t e=>by simpa using q t e,E⟩⟩
   ·rw [iP (by omega)];exact ⟨false,rfl,by simp⟩
  ·rw [iP (by omega)];exact ⟨false,rfl,by simp⟩
 ·rw [iP (by omega)];exact ⟨false,rfl,by simp⟩
theorem zg6 {cs:List Class}:∃r,zDh fu cs=some r/\(r=true->∀c∈cs,c.Watch.length<=20):=by
 unfold zDh
 rw [zAQ]
 by_cases I:cs.length<=14
 ·rw [iN (by omega)]
  have F:=zLH (L:=zA3 fu cs) cs (fun y=>decide (y.Watch.length<=20)&&(decide (y.Hooks.length<=20)&&(decide (y.Peek.length<=80)&&(decide (y.Make.length<=80)&&y.Hooks.all fun h=>decide (h.Do.length<=80))))) (some true) (fun i hi k=>by
   simp only [zA3]
   rw [zAT (by simpa using hi),zAW hi,zAA,zAQ,zAQ,zAQ,zAQ]
   by_cases e:cs[i].Watch.length<=20
   ·rw [iN (by omega),decide_eq_true e,iB]
    by_cases u:cs[i].Hooks.length<=20
    ·rw [iN (by omega),decide_eq_true u,iB]
     by_cases C:cs[i].Peek.length<=80
     ·rw [iN (by omega),decide_eq_true C,iB]
      by_cases D:cs[i].Make.length<=80
      ·rw [iN (by omega),decide_eq_true D,iB]
       exact zLH (L:=zCg (i:Int) cs[i] (zA3 fu cs k)) cs[i].Hooks (fun h=>decide (h.Do.length<=80)) (zA3 fu cs k ((i+1:Nat):Int)) (fun j E q=>by
        simp only [zCg]
        rw [zAT (by simpa using E),zAW E,zAA,zAQ,zAh (by omega),zAA]
        by_cases h:cs[i].Hooks[j].Do.length<=80
        ·rw [iN (by omega),decide_eq_true h];rfl
        ·rw [iP (by omega),decide_eq_false h];rfl) (fun q=>by simp only [zCg];rw [zAS (by simp),zAh (by omega),zAA]) (by omega)
      ·rw [iP (by omega),decide_eq_false D];rfl
     ·rw [iP (by omega),decide_eq_false C];rfl
    ·rw [iP (by omega),decide_eq_false u];rfl
   ·rw [iP (by omega),decide_eq_false e];rfl) (fun k=>by simp only [zA3];rw [zAS (by simp)]) (k:=fu) (by omega)
  rw [F]
  cases a:cs.all (fun y=>decide (y.Watch.length<=20)&&(decide (y.Hooks.length<=20)&&(decide (y.Peek.length<=80)&&(decide (y.Make.length<=80)&&y.Hooks.all fun h=>decide (h.Do.length<=80))))) with
  | false=>exact ⟨_,rfl,fun h=>by cases h⟩
  | true =>
   rw [lR] at a
   exact ⟨_,rfl,fun _ c G=>by
    have:=a c G
    simp only [lM,decide_eq_true_eq] at this
    exact this.1⟩
 ·rw [iP (by omega)];exact ⟨false,rfl,by simp⟩
theorem zgV {cs:List Class} (D:cs.length<=1000) (C:∀c∈cs,c.Watch.length<=20):∃r,zFB fu cs=some r:=by
 unfold zFB
 have u:=zLH (L:=zA4 fu cs) cs (fun y=>y.Watch.all fun s=>decide (s.length<=300)) (some true) (fun i hi k=>by
  have hw:=C _ (gC hi)
  simp only [zA4]
  rw [zAT (by simpa using hi)]
  exact zLH (L:=zCh cs (i:Int) (zA4 fu cs k)) cs[i].Watch (fun s=>decide (s.length<=300)) (zA4 fu cs k ((i+1:Nat):Int)) (fun j e q=>by
   simp only [zCh]
   rw [zAW hi,zAA,zAT (by simpa using e),zAA,zAW e,zAA,zAQ,zAh (by omega),zAA]
   by_cases h:cs[i].Watch[j].length<=300
   ·rw [iN (by omega),decide_eq_true h];rfl
   ·rw [iP (by omega),decide_eq_false h];rfl) (fun q=>by simp only [zCh];rw [zAW hi,zAA,zAS (by simp),zAh (by omega),zAA]) (by omega)) (fun k=>by simp only [zA4];rw [zAS (by simp)]) (k:=fu) (by omega)
 rw [u]
 cases cs.all (fun y=>y.Watch.all fun s=>decide (s.length<=300))<;>exact ⟨_,rfl⟩
theorem zg7 {w:World}:∃r,zFA fu w=some r/\(r=true->WS 60 w/\w.Desk.Waits.length<=40):=by
 unfold zFA
 obtain ⟨Q,D,E⟩:=zUf (fu:=fu) (f:=w.Forest) (by omega)
 obtain ⟨S,F,j⟩:=zg4 hfu (d:=w.Desk)
 obtain ⟨u,G,I⟩:=zg5 hfu (l:=w.Line)
 obtain ⟨C,i,J⟩:=zg6 hfu (cs:=w.Classes)
 have e:∃r,some false=some r/\(r=true->WS 60 w/\w.Desk.Waits.length<=40):=⟨false,rfl,by simp⟩
 rw [D,zAA,F,zAA,G,zAA,i,zAA,zAQ,zAQ,zAQ]
 cases Q with
 | false=>exact e
 | true =>
  rw [zAO]
  by_cases M:w.States.length<=60
  ·rw [iP (by omega)]
   cases S with
   | false=>exact e
   | true =>
    rw [zAO]
    cases u with
    | false=>exact e
    | true =>
     rw [zAO]
     by_cases N:w.Tasks.length<=60
     ·rw [iP (by omega)]
      by_cases P:w.Builds.length<=60
      ·rw [iP (by omega)]
       cases C with
       | false=>exact e
       | true =>
        have q:w.Classes.length<=1000:=by
         unfold zDh at i
         rw [zAQ] at i
         by_cases h:w.Classes.length<=14
         ·omega
         ·rw [iP (by omega)] at i;cases i
        obtain ⟨r,K⟩:=zgV hfu q (J rfl)
        rw [zAO,K,zAA]
        have hs:=(E rfl).1
        exact ⟨r,rfl,fun _=>⟨⟨I rfl,N,P,by have:=(j rfl).1;omega,by have:=(j rfl).2;omega,fun x hx=>by have:=hs.kids x hx;omega,M⟩,(j rfl).2⟩⟩
      ·rw [iN (by omega)];exact e
     ·rw [iN (by omega)];exact e
  ·rw [iN (by omega)];exact e
end
end
section
theorem zhL {u : Type} {L:Nat->Int->Option Bool} (l:List u) (fin:Option Bool) (e:∀(i:Nat) (_:i<l.length) (k:Nat),L (k+1) (i:Int)=L k ((i+1:Nat):Int)) (j:∀k,L (k+1) (l.length:Int)=fin) {k:Nat} (q:l.length<k):L k 0=fin:=by
 rw [zLH (L:=L) l (fun _=>true) fin (fun i h k=>e i h k) j q]
 have:(l.all fun _=>true)=true:=by simp
 rw [this];rfl
section
variable {fu:Nat} (hfu:1000000000<fu)
include hfu
end
end
section
theorem zfi:zGo 10000000000=some true:=by decide +kernel
end
section
theorem WS.todos {B:Nat} {w:World} (hR:WR w) (_h:B=B):w.Line.Todos.length<=400:=by
 rw [hR.td];exact (zAH hR.fr).few
end
end Go.Proofs.YtmfbghpealgaiaaGreatDoor
