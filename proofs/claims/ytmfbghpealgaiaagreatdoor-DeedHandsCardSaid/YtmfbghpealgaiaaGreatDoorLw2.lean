/- Plain laws on the models, one behind the other. -/
import Derived.Test.YtmfbghpealgaiaaGreatDoorG
import Derived.Test.YtmfbghpealgaiaaGreatDoorLw1
/- Layer 6: a node is inserted, removed, or put in another one's place. -/
namespace Go.Proofs.YtmfbghpealgaiaaGreatDoor
open Go Go.Pw
open List renaming getElem_mem->gC,getElem?_eq_getElem->lC,length_cons->cP,length_nil->eK,length_append->eR,mem_append->cA,all_eq_true->lR,mem_singleton->e8,nil_append->iS,mem_or_eq_of_mem_set->dT,take_succ_eq_append_getElem->iB,mem_of_getElem?->lU,append_assoc->eS,range->cW,drop_length->kF,drop_eq_getElem_cons->eT,length_filterMap_le->kG,mem_filterMap->kH,replicate->dH,length_drop->jA,append_nil->gI,take_append_of_le_length->jG,filterMap_cons->kI,mem_cons_self->lH,mem_cons_of_mem->lG,take_length->iH,getElem?_set->kJ,mem_range->kK,getElem?_eq_some_iff->lF,mem_replicate->kL,filter_append->jH,getElem?_map->lK,take_set_of_le->kN,take_of_length_le->kO,all_append->kR,take_take->jY,filter_cons->kS,getElem_of_mem->iQ,mem_filter->iI,length_map->lL,length_replicate->kT,getElem?_drop->cD,filter_eq_self->jI,drop_drop->kU
open Nat renaming le_trans->eM,le_refl->cB
open Int renaming toNat_natCast->eO
open Option renaming some->lJ,isNone_none->kE,getD_some->cM,map_some->lW,isSome_none->kM,isSome_iff_exists->kQ,map_eq_some_iff->lI
open Bool renaming not_true->iE,and_eq_true->lM,true_and->iD,or_eq_true->dD,false_and->jO,not_not->kD,false_or->iA,not_false->jZ,eq_iff_iff->eW
variable {n:Int} {l:Line} {notes:List Note} {x:Node} {ns a b g:List Node} {t:Todo} {rows m:List (Node×Bool)} {κ ν:Type} {due:List Due} {ids:List (Int×List (Bs×Int))} {L:List Int} {v:World} {o:Op} {defs:List Def}
section
instance (ns:List Node) (n:Int):Decidable (InN ns n):=inferInstanceAs (Decidable (0<=n/\n<ns.length))
theorem zI5 {fu:Nat} (w:Bs) (e:Int):zBR fu w e=some (if e=0 then none else some (w,e)):=by
 unfold zBR;rw [zBD];split<;>rfl
def Hand (f:Forest) (N:Nat) (r:Forest×List Note×Int):Prop:=(∃e,e≠0/\r=(f,[],e))\/∃m g l,m<=N/\Mv m f g l/\r=(g,l,0)
def InsR (fu:Nat) (f:Forest) (n p:Int) (N:Nat) (r:Forest×List Note×Int):Prop:=(∃e,e≠0/\r=(f,[],e))\/∃m x b g l,m<=N/\Mv m f g l/\idx f.Nodes n=some x/\PI f p b (zAV n x)/\zEl fu n p b f.Most (zJY f.Nodes) []=some (zJY g.Nodes,[]++l)/\r=(g,l,0)
section
variable {fu:Nat} {f:Forest} (hr:zAJ f=true) (hfu:1000<fu)
include hr hfu
theorem zaU (t:Int->List (Node×Bool)->List Note->Option (Option (Bs×Int)×List (Node×Bool)×List Note)) (p:Bs×Int):zDO fu t f (some p)=some (f,[],p.2):=by
 unfold zDO
 rw [zSq (zAI hr) hfu,zAA]
 rfl
theorem zc6 {t:Int->List (Node×Bool)->List Note->Option (Option (Bs×Int)×List (Node×Bool)×List Note)} {p:Bs×Int} {l:List Note} (h:t f.Most (zJY f.Nodes) []=some (some p,m,l)):zDO fu t f none=some (f,[],p.2):=by
 unfold zDO
 rw [zSq (zAI hr) hfu,zAA]
 simp only [kE,zAW]
 rw [h,zAA]
 rfl
theorem zXn {t:Int->List (Node×Bool)->List Note->Option (Option (Bs×Int)×List (Node×Bool)×List Note)} {l:List Note} (h:t f.Most (zJY f.Nodes) []=some (none,zJY g,l)):zDO fu t f none=some (⟨g,f.Most⟩,l,0):=by
 unfold zDO
 rw [zSq (zAI hr) hfu,zAA]
 simp only [kE,zAW]
 rw [h,zAA]
 simp only [kM,zAF,zLV]
omit hfu in
theorem May.pi {p b:Int} {y:Node} (M:May f n p x y) (F:b = -1\/(b∈y.Kids/\b∉zAV n x)):PI f p b (zAV n x):=by
 refine ⟨hr,fun k i=>?_,M.nodup hr,fun D=>?_,⟨y,M.hy,M.holder,F.imp id And.left,fun E=>?_⟩⟩
 ·obtain ⟨z,hz,q,_⟩:=M.part hr i
  exact ⟨z,hz,q,M.free hr i⟩
 ·rcases F with e | h
  ·subst e
   have:=M.in_ hr D
   unfold InN at this
   omega
  ·exact h.2 D
 ·have C:=M.crowd E
  unfold zHR at C
  rw [M.hy] at C
  simp only [Bool.or_eq_false_iff,Bool.and_eq_false_iff,decide_eq_false_iff_not] at C
  obtain ⟨I,G⟩:=C
  have i:∀k∈zAV n x,(k != -1&&isB f.Nodes k 1)=true:=fun k i=>by
   obtain ⟨z,hz,q,_⟩:=M.part hr i
   have u:k ≠ -1:=by have:=M.in_ hr i;unfold InN at this;omega
   rw [bne_iff_ne.2 u,iD]
   unfold isB
   rw [hz]
   rcases q with h | h
   ·simp [h]
   ·exfalso
    apply I
    unfold zGA
    refine List.countP_pos_iff.2 ⟨k,i,?_⟩
    rw [bne_iff_ne.2 u,iD]
    unfold isB
    rw [hz];simp [h]
  have D:zGA f.Nodes (-1) (zAV n x) 1=(zAV n x).length:=List.countP_eq_length.2 i
  rw [D] at G
  have j:(zAV n x).length<=1:=by omega
  refine ⟨j,fun k r=>?_⟩
  have e:zAV n x=[k]:=by
   match J:zAV n x,r,j with
   | [a],r,_=>rw [e8.1 r]
   | a::b::t,_,hl=>simp at hl
  have:=M.crowd E
  rwa [e] at this
theorem za2 (n p c:Int):∃r,zDU fu f n p c=some r/\InsR fu f n p (if isB f.Nodes n 3=true then 800 else 1) r:=by
 have hs:=zAI hr
 have I:=hs.fit hfu
 have W:∀e,e≠0->zFF fu f n p c=some e->∃r,zDU fu f n p c=some r/\InsR fu f n p (if isB f.Nodes n 3=true then 800 else 1) r:=fun e j h=>by
  unfold zDU
  rw [h,zAA,zI5,zAA,iN j,zaU hr hfu,zAA]
  exact ⟨_,rfl,.inl ⟨e,j,rfl⟩⟩
 by_cases u:inB f n=true/\inB f p=true
 ·have hn:InN f.Nodes n:=by have:=u.1;unfold inB at this;exact of_decide_eq_true this
  have T:InN f.Nodes p:=by have:=u.2;unfold inB at this;exact of_decide_eq_true this
  obtain ⟨x,hx⟩:=zAK hn
  obtain ⟨y,hy⟩:=zAK T
  by_cases K:c = -1\/inB f c=true
  ·have F:c = -1\/∃z,idx f.Nodes c=some z:=K.imp id fun h=>by
    unfold inB at h
    exact zAK (of_decide_eq_true h)
   have i:=may_ok hfu I hr hx hy F
   generalize q:(c == -1||(match idx f.Nodes c with | some z=>z.Parent==p | none=>false))=cb at i
   by_cases j:zXM f n p c (-1) x y cb=0
   ·have G:cb=true:=by
     cases cb with
     | true=>rfl
     | false =>
      unfold zXM at j
      split at j
      ·cases j
      ·split at j
       ·cases j
       ·rw [iP rfl] at j;cases j
    subst G
    obtain ⟨f1,f2,f3,f4,f5⟩:=zZZ j
    have M:May f n p x y:=⟨hx,hy,f1,by rw [<- zbU hs hfu hr hn T];exact f2,f3,f4,f5⟩
    rw [j] at i
    have Q:c = -1\/c∈y.Kids:=by
     rcases F with h | ⟨z,hz⟩
     ·exact .inl h
     ·right
      have S:c ≠ -1:=by have:=zAM hz;omega
      rw [hz] at q
      rw [show (c == -1)=false by simpa using S,iA,beq_iff_eq] at q
      have V:z.Parent ≠ -1:=by rw [q];unfold InN at T;omega
      obtain ⟨y',H⟩:=zHl hr hz V
      have X:=H.hy
      rw [q,hy] at X
      rw [lJ.inj X]
      exact H.mem
    obtain ⟨b,J,E⟩:=zZ8 hr M hs hfu Q i
    obtain ⟨h,l',m1,m2⟩:=zgR (l:=[]) hfu hx (M.pi hr E) (by simp)
    have D:=m1.all hr
    have hlen:=M.len hs
    unfold zDU
    rw [i,zAA,zI5,zAA,iP rfl]
    rw [zXn hr hfu (g:=h.Nodes) (l:=[]++l') (by
     unfold zG1
     rw [J,zAA,m2,zAA]),zAA]
    refine ⟨_,rfl,.inr ⟨_,x,b,h,l',?_,m1,hx,M.pi hr E,m2,?_⟩⟩
    ·have e3:isB f.Nodes n 3=(x.Kind==3):=by unfold isB;rw [hx]
     rw [e3]
     by_cases C:x.Kind=3
     ·rw [iP C,iP (by simpa using C)];omega
     ·have e4:(zAV n x).length=1:=by unfold zAV;rw [iN C];rfl
      rw [iN C,iN (by simpa using C)];omega
    ·rw [iS,<- D.2.1]
   ·exact W _ j i
  ·refine W 1 (by omega) ?_
   have N:c ≠ -1:=fun e=>K (.inl e)
   have P:inB f c=false:=by cases e:inB f c with
    | false=>rfl
    | true=>exact absurd (.inr e) K
   unfold zFF
   rw [zKx hfu I hr (by simp),zAA,zKx hfu I hr (by simp),zAA,zAd]
   simp only [List.all_cons,List.all_nil,u.1,u.2,P,Bool.and_self,iE,zAF,jO,jZ,zAW,iN N]
 ·refine W 1 (by omega) ?_
  unfold zFF
  rw [zKx hfu I hr (by simp),zAA]
  have:([n,p].all (inB f))=false:=by
   simp only [List.all_cons,List.all_nil,Bool.and_true]
   cases e:inB f n&&inB f p with
   | false=>rfl
   | true=>exact absurd (by simpa using e) u
  rw [this];rfl
theorem zWq (n p c:Int):∃r,zDU fu f n p c=some r/\Hand f (if isB f.Nodes n 3=true then 800 else 1) r:=by
 obtain ⟨r,e,h⟩:=za2 hr hfu n p c
 exact ⟨r,e,h.imp id fun ⟨m,_,_,g,l,i,j,_,_,_,q⟩=>⟨m,g,l,i,j,q⟩⟩
theorem zew (n:Int):zH7 fu f n=some (if InN f.Nodes n then none else some ([97,115,107,101,100],1)):=by
 unfold zH7
 rw [zFP hfu ((zAI hr).fit hfu),zAA,hr]
 simp only [zI5,zAA,iE,zAF,zAN]
 by_cases e:n<0
 ·rw [iP e,iN (show ¬InN f.Nodes n by unfold InN;omega)];rfl
 ·rw [iN e]
  by_cases h:n>=(f.Nodes.length:Int)
  ·rw [iP h,iN (show ¬InN f.Nodes n by unfold InN;omega)];rfl
  ·rw [iN h,iP (show InN f.Nodes n by unfold InN;omega)]
theorem zXC (n:Int):zEK fu f n=some (if InN f.Nodes n then (if zJU f.Nodes n = -1 then (f,[],6) else (⟨zNW f.Nodes n,f.Most⟩,zKy f n,0)) else (f,[],1)):=by
 unfold zEK
 rw [zew hr hfu,zAA]
 by_cases h:InN f.Nodes n
 ·rw [iP h,iP h]
  obtain ⟨x,hx⟩:=zAK h
  rw [zJ3 hx]
  by_cases e:x.Parent = -1
  ·rw [iP e,zc6 hr hfu (p:=([111,117,116],6)) (m:=zJY f.Nodes) (l:=[]) (by
    unfold zFf
    rw [zHJ hx,zAA,zBD,iP e,zI5,zAA];rfl),zAA]
  ·rw [iN e,zXn hr hfu (g:=zNW f.Nodes n) (l:=zKy f n) (by
    unfold zFf
    rw [zHJ hx,zAA,zBD,iN e,zW2 hr hfu h (by simp),zAA];rfl),zAA]
 ·rw [iN h,iN h,zaU hr hfu,zAA]
theorem zVh (n:Int):∃r,zEK fu f n=some r/\Hand f 1 r:=by
 refine ⟨_,zXC hr hfu n,?_⟩
 by_cases h:InN f.Nodes n
 ·rw [iP h]
  by_cases e:zJU f.Nodes n = -1
  ·rw [iP e];exact .inl ⟨6,by omega,rfl⟩
  ·rw [iN e]
   have:=Mv.out (.refl f) h
   exact .inr ⟨1,_,_,cB _,by simpa using this,rfl⟩
 ·rw [iN h];exact .inl ⟨1,by omega,rfl⟩
end
end
section
section
variable {f:Forest} {c p:Int} {z y:Node} (H:Hung f c p z y) (hr:zAJ f=true)
include H hr
end
section
variable {fu:Nat} {f:Forest} (hr:zAJ f=true) (hfu:1000<fu)
include hr hfu
end
end
section
def ze4 (f:Forest) (r:Forest×List Note×Int):Prop:=(∃e,e≠0/\r=(f,[],e))\/∃g l,zAJ g=true/\g.Most=f.Most/\g.Nodes.map bare=f.Nodes.map bare/\l.length<=1/\(∀y∈l,y.Kind=4)/\r=(g,l,0)
theorem zfX {fu:Nat} {s:Bs} {l:List Attr} (hfu:1000<fu) (hs:s.length<fu) (hs2:s.length<=1000000) (hx:idx ns n=some x) (i:notes.length<=1000000) :
  ∃e,zDJ fu n s l (zJY ns) notes=some (zJY (ns.set n.toNat (zI0 x l)),notes++e)/\e.length<=1/\∀y∈e,y.Kind=4:=by
 unfold zDJ
 rw [zVR hs hs2,zAA,zHJ hx,zAA,zRB (by omega),zAA,zRB (by omega),zAA,zAA]
 have h:(⟨x.Kind,x.Name,x.Is,x.Data,l,x.Parent,x.Kids,x.Host,x.Under,x.Doc⟩:Node)=zI0 x l:=rfl
 simp only [h,zMo]
 rw [zBF (by simp;omega),zAA]
 cases (zcm x.Attrs s).2 with
 | true=>exact ⟨_,rfl,by simp,by simp⟩
 | false =>
  rw [zAF]
  cases (zcm l s).2 with
  | true=>exact ⟨_,rfl,by simp,by simp⟩
  | false=>exact ⟨[],by rw [gI];rfl,by simp,by simp⟩
section
variable {fu:Nat} {f:Forest} (hr:zAJ f=true) (hfu:1000<fu)
include hr hfu
theorem zXm (t:List (Node×Bool)->List Note->Option (Option (Bs×Int)×List (Node×Bool)×List Note)) (p:Bs×Int):zBQ fu t f (some p)=some (f,[],p.2):=by
 unfold zBQ
 rw [zSq (zAI hr) hfu,zAA]
 rfl
theorem zaT {t:List (Node×Bool)->List Note->Option (Option (Bs×Int)×List (Node×Bool)×List Note)} {p:Bs×Int} {l:List Note} (h:t (zJY f.Nodes) []=some (some p,m,l)):zBQ fu t f none=some (f,[],p.2):=by
 unfold zBQ
 rw [zSq (zAI hr) hfu,zAA]
 simp only [kE,zAW]
 rw [h,zAA]
 rfl
theorem zU3 {t:List (Node×Bool)->List Note->Option (Option (Bs×Int)×List (Node×Bool)×List Note)} {l:List Note} (h:t (zJY f.Nodes) []=some (none,zJY g,l)):zBQ fu t f none=some (⟨g,f.Most⟩,l,0):=by
 unfold zBQ
 rw [zSq (zAI hr) hfu,zAA]
 simp only [kE,zAW]
 rw [h,zAA]
 simp only [kM,zAF,zLV]
theorem elem6 (n:Int):zGc fu f n=some (if InN f.Nodes n then (if isB f.Nodes n 1=true then none else some ([101,108,101,109],5)) else some ([97,115,107,101,100],1)):=by
 unfold zGc
 rw [zew hr hfu,zAA]
 by_cases h:InN f.Nodes n
 ·rw [iP h,iP h]
  obtain ⟨x,hx⟩:=zAK h
  simp only [kE,zAW]
  rw [hx,zAA,zAd,zI5,zAA]
  have e:isB f.Nodes n 1=(x.Kind==1):=by unfold isB;rw [hx]
  by_cases i:x.Kind=1
  ·rw [iP i,e,i];rfl
  ·rw [iN i,e,show (x.Kind==1)=false by simpa using i]
   rfl
 ·rw [iN h,iN h];rfl
theorem zav (n:Int) (t:List (Node×Bool)->List Note->Option (Option (Bs×Int)×List (Node×Bool)×List Note))
  (E:∀x,idx f.Nodes n=some x->x.Kind=1->(∃p m l,(p:Bs×Int).2≠0/\t (zJY f.Nodes) []=some (some p,m,l))\/t (zJY f.Nodes) []=some (none,zJY f.Nodes,[])\/∃a l,zIv a=true/\l.length<=1/\(∀y∈l,(y:Note).Kind=4)/\t (zJY f.Nodes) []=some (none,zJY (f.Nodes.set n.toNat (zI0 x a)),l)) :
  ∃r,(bnd (zGc fu f n) fun F=>bnd (zBQ fu t f F) fun u=>some (u.1,u.2.1,u.2.2))=some r/\ze4 f r:=by
 rw [elem6 hr hfu,zAA]
 by_cases h:InN f.Nodes n
 ·rw [iP h]
  obtain ⟨x,hx⟩:=zAK h
  by_cases j:x.Kind=1
  ·rw [iP (by unfold isB;rw [hx];simp [j])]
   rcases E x hx j with ⟨p,m,l,q,i⟩ | i | ⟨a,l,q,i,C,D⟩
   ·rw [zaT hr hfu i,zAA];exact ⟨_,rfl,.inl ⟨_,q,rfl⟩⟩
   ·rw [zU3 hr hfu i,zAA];exact ⟨_,rfl,.inr ⟨f,[],hr,rfl,rfl,by simp,by simp,rfl⟩⟩
   ·rw [zU3 hr hfu D,zAA]
    refine ⟨_,rfl,.inr ⟨_,_,zWK hr hx j q,rfl,?_,i,C,rfl⟩⟩
    show (f.Nodes.set n.toNat (zI0 x a)).map bare=_
    rw [List.map_set]
    have hi:n.toNat<f.Nodes.length:=by unfold InN at h;omega
    have e:bare (zI0 x a)=(f.Nodes.map bare)[n.toNat]'(by simpa using hi):=by
     have:idx f.Nodes n=some f.Nodes[n.toNat]:=by
      have:=zAQ hi
      rwa [show ((n.toNat:Nat):Int)=n by unfold InN at h;omega] at this
     rw [hx] at this
     rw [List.getElem_map,<- lJ.inj this]
     rfl
    rw [e];exact List.set_getElem_self _
  ·rw [iN (by unfold isB;rw [hx];simp [j]),zXm hr hfu,zAA]
   exact ⟨_,rfl,.inl ⟨5,by omega,rfl⟩⟩
 ·rw [iN h,zXm hr hfu,zAA]
  exact ⟨_,rfl,.inl ⟨1,by omega,rfl⟩⟩
variable {s:Bs} (hs:s.length<fu) (hs2:s.length<=1000000)
include hs hs2
theorem zd5 (n:Int) (v:Bs):∃r,zKT fu f n s v=some r/\ze4 f r:=by
 unfold zKT
 refine zav hr hfu n _ fun x hx q=>?_
 have u:=zXc (zfG hr hx q)
 unfold zJt
 rw [zHJ hx,zAA,zfE (by omega) (by simp only;omega),zAA,zAd]
 simp only
 by_cases e:(zfD x.Attrs s v).2=0
 ·rw [iP e]
  obtain ⟨C,h,i,j⟩:=zfX (n:=n) (s:=s) (l:=(zfD x.Attrs s v).1) (notes:=[]) hfu hs hs2 hx (by simp)
  rw [h,zAA]
  exact .inr (.inr ⟨_,_,zYq e,i,j,rfl⟩)
 ·rw [iN e,zI5,zAA,iN e]
  exact .inl ⟨_,_,_,e,rfl⟩
end
end
section
section
variable {fu:Nat} {f:Forest} (hfu:1000<fu)
include hfu
end
structure RI (f:Forest) (rows:List (Node×Bool)):Prop where
 base:rows.take f.Nodes.length=f.Nodes.map fun x=>(x,false)
 len:f.Nodes.length<=rows.length
 new:∀(i:Nat) (h:i<rows.length),f.Nodes.length<=i->rows[i].2=true
 kids:∀r∈rows,r.1.Kids.length<=rows.length+400
def JF (f:Forest) (rows:List (Node×Bool)) (j:zCt):Prop:=InN f.Nodes j.n/\(j.under = -1\/∃u:Nat,j.under=(u:Int)/\f.Nodes.length<=u/\u<rows.length)
theorem JF.mono {f:Forest} {e:List (Node×Bool)} {j:zCt} (h:JF f rows j) (hl:rows.length<=e.length):JF f e j :=
 ⟨h.1,h.2.imp id fun ⟨u,i,q,r⟩=>⟨u,i,q,by omega⟩⟩
theorem RI.old {f:Forest} (h:RI f rows) {n:Int} {x:Node} (hx:idx f.Nodes n=some x):idx rows n=some (x,false):=by
 have hr:=zAM hx
 obtain ⟨i,rfl⟩:∃i:Nat,n=(i:Int):=⟨n.toNat,by omega⟩
 have hi:i<f.Nodes.length:=by omega
 have e:i<rows.length:=by have:=h.len;omega
 rw [zAQ hi] at hx
 rw [zAQ e]
 have:=congrArg (fun l=>l[i]?) h.base
 simp only [List.getElem?_take,iP hi,lK,lC hi,lC e,lW] at this
 rw [lJ.inj this,lJ.inj hx]
theorem RI.add {f:Forest} (h:RI f rows) {y:Node} (hy:y.Kids=[]):RI f (rows++[(y,true)]):=by
 have hl:=h.len
 refine ⟨?_,by simp;omega,fun i hi j=>?_,fun r hr=>?_⟩
 ·rw [jG hl];exact h.base
 ·rw [List.getElem_append]
  split
  ·rename_i e;exact h.new i e j
  ·simp
 ·rw [cA,e8] at hr
  simp only [eR,cP,eK]
  rcases hr with hr | rfl
  ·have:=h.kids r hr;omega
  ·rw [hy];simp
theorem RI.kid {f:Forest} {u:Nat} {e:Node} (h:RI f rows) (C:f.Nodes.length<=u) (j:e.Kids.length<=rows.length+400):RI f (rows.set u (e,true)):=by
 refine ⟨?_,by simpa using h.len,fun i hi q=>?_,fun r hr=>?_⟩
 ·rw [kN C];exact h.base
 ·rw [List.getElem_set]
  split
  ·rfl
  ·exact h.new i (by simpa using hi) q
 ·rw [List.length_set]
  rcases dT hr with hr | rfl
  ·exact h.kids r hr
  ·exact j
def work (f:Forest) (e:List zCt):Nat:=(e.map fun j=>(zNR f.Nodes j.n).length).sum
theorem RI.first {f:Forest} (hr:zAJ f=true):RI f (f.Nodes.map fun x=>(x,false)):=by
 have hs:=zAI hr
 refine ⟨?_,by simp,fun i hi h=>?_,fun r e=>?_⟩
 ·rw [kO (by simp)]
 ·simp at hi;omega
 ·obtain ⟨x,hx,rfl⟩:=List.mem_map.1 e
  have:=hs.kids x hx
  simp only;omega
end
section
def Ext (a b:List Node):Prop:=a.length<=b.length/\∀j w,idx a j=some w->∃v,idx b j=some v/\v.Kind=w.Kind/\upI b j=upI a j
theorem Ext.refl (a:List Node):Ext a a:=⟨cB _,fun _ w h=>⟨w,h,rfl,rfl⟩⟩
theorem Ext.of_bare (h:b.map bare=a.map bare):Ext a b:=by
 have hl:b.length=a.length:=by have:=congrArg List.length h;simpa using this
 refine ⟨by omega,fun j w hw=>?_⟩
 have r:=zAM hw
 obtain ⟨v,i⟩:=zAK (l:=b) (n:=j) (by omega)
 refine ⟨v,i,?_,by rw [<- zWM,h,zWM]⟩
 have e:=zKJ (l:=b) (g:=bare) (n:=j)
 rw [h,zKJ,hw,i] at e
 have q:=lJ.inj e
 show (bare v).Kind=w.Kind
 rw [<- q];rfl
def Chg (f g:Forest) (l:List Note):Prop:=∃f1 h i e m,Ext f.Nodes f1.Nodes/\zAJ f1=true/\Mv m f1 h i/\m<=1000/\Ext h.Nodes g.Nodes/\l=i++e/\(∀y∈e,y.Kind=3\/y.Kind=4)/\e.length<=1000/\g.Nodes.length<=1000/\∀x∈g.Nodes,x.Kids.length<=2000
theorem Chg.len {f g:Forest} {l:List Note} (h:Chg f g l):l.length<=2000000:=by
 obtain ⟨f1,i,r,u,m,_,hr,e,j,_,rfl,_,q,_⟩:=h
 have:=(e.all hr).2.2.2
 simp only [eR]
 omega
section
variable {f:Forest} {fu:Nat} (hr:zAJ f=true) (hfu:1000<fu)
include hr hfu
omit hfu in
theorem zf1 {k:Int} {y:Node} (hy:idx f.Nodes n=some y) (e:k∈y.Kids):InN f.Nodes k:=by
 obtain ⟨w,hw⟩:=zMh (zAs hr).2.2.1 hy k e
 exact zAM hw
end
end
section
section
variable {fu:Nat} {f1:Forest} {at_:Int} {e6:Int} (hr:zAJ f1=true) (hfu:1000<fu)
include hr hfu
end
def DocI (a b:List Node):Prop:=b.length=a.length/\∀j w,idx a j=some w->∃v,idx b j=some v/\v.Kind=w.Kind/\v.Parent=w.Parent/\v.Host=w.Host/\v.Kids=w.Kids
theorem DocI.ext (h:DocI a b):Ext a b:=⟨by rw [h.1];exact cB _,fun j w hw=>by
 obtain ⟨v,e,i,q,r,_⟩:=h.2 j w hw
 exact ⟨v,e,i,by rw [zJ7 e,zJ7 hw,q,r]⟩⟩
theorem DocI.set (h:DocI a b) {n d:Int} {v:Node} (C:idx b n=some v):DocI a (b.set n.toNat ⟨v.Kind,v.Name,v.Is,v.Data,v.Attrs,v.Parent,v.Kids,v.Host,v.Under,d⟩):=by
 have r:=zAM C
 refine ⟨by simpa using h.1,fun j w hw=>?_⟩
 obtain ⟨u,e,i⟩:=h.2 j w hw
 by_cases q:j=n
 ·subst q
  rw [C] at e
  obtain rfl:=lJ.inj e
  exact ⟨_,zOd r,i⟩
 ·exact ⟨u,(zKn r.1 q).trans e,i⟩
end
section
def zX6:List Bs:=(zEs 0).getD []
theorem zdJ (fu:Nat):zEs fu=some zX6:=by
 have h:∃l,zEs 0=some l:=by
  have:(zEs 0).isSome=true:=by decide +kernel
  exact kQ.1 this
 obtain ⟨l,hl⟩:=h
 have e:zEs fu=zEs 0:=rfl
 unfold zX6
 rw [e,hl];rfl
theorem zZD:zX6.length<=200:=by decide +kernel
def za6 (s:Bs):Bool:=zX6.contains s
theorem zZB {fu:Nat} {s:Bs} (hfu:1000<fu):zJu fu s=some (za6 s):=by
 have:=zZD
 unfold zJu
 rw [zdJ,zAA,zML (by omega) (by omega),zAA]
 rfl
theorem zWy [DecidableEq κ] {l:List (κ × ν)} {k : κ} {v : ν} {x : κ × ν} (h:x∈zGt l k v):x∈l\/x=(k,v):=by
 unfold zGt at h
 split at h
 ·rcases dT h with h | h
  ·exact .inl h
  ·exact .inr h
 ·rcases cA.1 h with h | h
  ·exact .inl h
  ·exact .inr (e8.1 h)
theorem zTr [DecidableEq κ] {l:List (κ × ν)} {k : κ} {z : ν} (h:zLT l k=true):(k,zK0 l k z)∈l:=by
 unfold zLT at h
 unfold zK0
 cases e:zHo l k with
 | none=>rw [e] at h;cases h
 | some j =>
  obtain ⟨v,i⟩:=zIz e
  simp only [i]
  exact lU i
def defB (y:Def):Bool:=zHk y.Name&&((y.Local==y.Name||za6 y.Local)&&(decide (0<=y.Class)&&decide (y.Class<12)))
def rdF (n:Nat):List Def->Nat->List (Int×Int)->List (Bs×Int)->zCv×Bool
 | [],_,l3,l4=>(⟨l4,l3⟩,decide (l4.length=n)&&decide (l3.length=n))
 | y::t,i,l3,l4=>if defB y=true then rdF n t (i+1) (zGt l3 y.Class (i:Int)) (zGt l4 y.Name (i:Int)) else (⟨zGt l4 y.Name (i:Int),zGt l3 y.Class (i:Int)⟩,false)
theorem zbv {fu:Nat} {i:Int} {e:List (Int×Int)} {h:List (Bs×Int)} {y:Def} {rc:Int×List (Int×Int)×List (Bs×Int)->Option (zCv×Bool)} {b:Bool} (hfu:1000<fu) (u:0<=i) (C:i<=1000000) (r:b=(y.Local==y.Name||za6 y.Local)) :
  zH5 fu i e h y rc b=if defB y=true then rc (i+1,zGt e y.Class i,zGt h y.Name i) else some (⟨zGt h y.Name i,zGt e y.Class i⟩,false):=by
 unfold zH5 defB
 rw [<- r,zKq (by omega),zAA,zNa (by simp only [lo,Go.Pw.hi];omega),zAA]
 cases zHk y.Name with
 | false=>rfl
 | true =>
  cases b with
  | false=>rfl
  | true =>
   simp only [iE,zAF,iD,zAN]
   by_cases j:y.Class<0
   ·rw [iP j,decide_eq_false (by omega)];rfl
   ·rw [iN j,decide_eq_true (by omega)]
    by_cases q:y.Class>=12
    ·rw [iP q,decide_eq_false (by omega)];rfl
    ·rw [iN q,decide_eq_true (by omega)];rfl
theorem zgZ {fu:Nat} {d:Desk} (hfu:1000<fu) (hl:d.Defs.length<=900):zK6 fu d=some (rdF d.Defs.length d.Defs 0 [] []):=by
 have E:∀(j i k:Nat) (u:List (Int×Int)) (q:List (Bs×Int)),i+j=d.Defs.length->j<k->zEI fu d k ((i:Int),u,q)=some (rdF d.Defs.length (d.Defs.drop i) i u q):=by
  intro j
  induction j with
  | zero =>
   intro i k u q hi I
   obtain ⟨k,rfl⟩:∃D,k=D+1:=⟨k - 1,by omega⟩
   obtain rfl:i=d.Defs.length:=by omega
   simp only [zEI]
   rw [zAO (by simp),kF,zBD]
   unfold rdF
   have e:∀m:Nat,(((m:Nat):Int)==(d.Defs.length:Int))=decide (m=d.Defs.length):=fun m=>by
    rw [eW,beq_iff_eq,decide_eq_true_eq];omega
   rw [e]
   by_cases F:q.length=d.Defs.length
   ·rw [iP (by omega),decide_eq_true F];rfl
   ·rw [iN (by omega),decide_eq_false F];rfl
  | succ j J =>
   intro i k u q hi I
   obtain ⟨k,rfl⟩:∃D,k=D+1:=⟨k - 1,by omega⟩
   have h:i<d.Defs.length:=by omega
   simp only [zEI]
   rw [zAP (by simpa using h),zAQ h,zAA,zBD,zZB hfu,zAA,eT h]
   have r:=J (i+1) k (zGt u d.Defs[i].Class (i:Int)) (zGt q d.Defs[i].Name (i:Int)) (by omega) (by omega)
   have G:((i+1:Nat):Int)=(i:Int)+1:=by omega
   rw [G] at r
   have fin:(if defB d.Defs[i]=true then zEI fu d k ((i:Int)+1,zGt u d.Defs[i].Class (i:Int),zGt q d.Defs[i].Name (i:Int)) else some ((⟨zGt q d.Defs[i].Name (i:Int),zGt u d.Defs[i].Class (i:Int)⟩:zCv),false))=some (rdF d.Defs.length (d.Defs[i]::d.Defs.drop (i+1)) i u q):=by
    rw [r]
    simp only [rdF]
    split<;>rfl
   by_cases C:d.Defs[i].Local=d.Defs[i].Name
   ·rw [iP C,zbv hfu (by omega) (by omega) (by rw [show (d.Defs[i].Local==d.Defs[i].Name)=true by simpa using C];rfl)]
    exact fin
   ·rw [iN C,zbv hfu (by omega) (by omega) (by rw [show (d.Defs[i].Local==d.Defs[i].Name)=false by simpa using C];rfl)]
    exact fin
 unfold zK6
 have:=E d.Defs.length 0 fu [] [] (by omega) (by omega)
 simpa using this
def zHj (d:Desk):zCv×Bool:=rdF d.Defs.length d.Defs 0 [] []
theorem zYQ {n:Nat}:∀(l:List Def) (i:Nat) (q:List (Int×Int)) (e:List (Bs×Int)),i+l.length=n->(∀x∈e,0<=x.2/\x.2<(n:Int))->∀x∈(rdF n l i q e).1.names,0<=x.2/\x.2<(n:Int)
 | [],_,_,_,_,h=>h
 | y::t,i,q,e,hi,h=>by
  simp only [cP] at hi
  have j:∀x∈zGt e y.Name (i:Int),0<=x.2/\x.2<(n:Int):=fun x hx=>by
   rcases zWy hx with hx | rfl
   ·exact h x hx
   ·simp only;omega
  simp only [rdF]
  split
  ·exact zYQ t (i+1) _ _ (by omega) j
  ·exact j
theorem zOO {d:Desk} {s:Bs} (h:zLT (zHj d).1.names s=true):0<=zK0 (zHj d).1.names s 0/\zK0 (zHj d).1.names s 0<(d.Defs.length:Int) :=
 zYQ d.Defs 0 [] [] (by omega) (by simp) _ (zTr h)
def opF (names:List (Bs×Int)) (next:Int):List Wait->Bool->Int->Bool
 | [],ok,_=>ok&&(decide (0<=next)&&decide (next<=100000))
 | y::t,ok,e=>opF names next t (ok&&(!zLT names y.Name&&(zHk y.Name&&(decide (e<y.Ticket)&&decide (y.Ticket<next))))) y.Ticket
def zNF (d:Desk):Bool:=opF (zHj d).1.names d.Next d.Waits (zHj d).2 (-1)
theorem zW1 {fu:Nat} {d:Desk} (hfu:1000<fu) (hl:d.Defs.length<=900) (hw:d.Waits.length<=900):zHY fu d=some ((zHj d).1,zNF d):=by
 have D:∀(j i k:Nat) (ok:Bool) (e:Int),i+j=d.Waits.length->j<k->zDd fu d (zHj d) k (ok,e,(i:Int))=some ((zHj d).1,opF (zHj d).1.names d.Next (d.Waits.drop i) ok e):=by
  intro j
  induction j with
  | zero =>
   intro i k ok e hi E
   obtain ⟨k,rfl⟩:∃C,k=C+1:=⟨k - 1,by omega⟩
   obtain rfl:i=d.Waits.length:=by omega
   simp only [zDd]
   rw [zAO (by simp),kF]
   unfold opF
   cases ok with
   | false=>rfl
   | true =>
    rw [zAW,zAN]
    by_cases r:d.Next>=0
    ·rw [iP r,decide_eq_true (show 0<=d.Next from r)];rfl
    ·rw [iN r,decide_eq_false (show ¬0<=d.Next from r)];rfl
  | succ j F =>
   intro i k ok e hi E
   obtain ⟨k,rfl⟩:∃C,k=C+1:=⟨k - 1,by omega⟩
   have h:i<d.Waits.length:=by omega
   have q:=fun b=>F (i+1) k b d.Waits[i].Ticket (by omega) (by omega)
   simp only [zDd]
   rw [zAP (by simpa using h),zAQ h,zAA,zKq (by omega),zAA,zBv (by omega),eT h]
   simp only [zAA,q]
   simp only [opF]
   generalize zLT (zHj d).1.names d.Waits[i].Name=m
   cases ok with
   | false=>simp
   | true =>
    cases m with
    | true=>simp
    | false =>
     cases zHk d.Waits[i].Name with
     | false=>simp
     | true =>
      rw [zAW,jZ,zAW,zAW,zAN]
      by_cases u:d.Waits[i].Ticket>e
      ·rw [iP u,decide_eq_true (show e<d.Waits[i].Ticket from u)];simp
      ·rw [iN u,decide_eq_false (show ¬e<d.Waits[i].Ticket from u)];simp
 unfold zHY
 rw [zgZ hfu hl,zAA]
 have:=D d.Waits.length 0 fu (zHj d).2 (-1) (by omega) (by omega)
 simpa [zNF,zHj] using this
theorem zRM {fu:Nat} {d:Desk} (hfu:1000<fu) (hl:d.Defs.length<=900) (hw:d.Waits.length<=900):zGi fu d=some (zNF d):=by
 unfold zGi
 rw [zW1 hfu hl hw,zAA]
def zWf (d:Desk) (loc e:Bs):Int :=
 if zNF d=true then
  (if zLT (zHj d).1.names loc=true/\(idx d.Defs (zK0 (zHj d).1.names loc 0)).map (·.Local)=some loc then zK0 (zHj d).1.names loc 0
  else if zLT (zHj d).1.names e=true/\(idx d.Defs (zK0 (zHj d).1.names e 0)).map (·.Local)=some loc then zK0 (zHj d).1.names e 0
  else -1)
 else -1
theorem find_d {fu:Nat} {d:Desk} {loc e:Bs} (hfu:1000<fu) (hl:d.Defs.length<=900) (hw:d.Waits.length<=900):zK4 fu d loc e=some (zWf d loc e):=by
 have j1:zH4 d loc e ((zHj d).1,zNF d) ()=some (if zLT (zHj d).1.names e=true/\(idx d.Defs (zK0 (zHj d).1.names e 0)).map (·.Local)=some loc then zK0 (zHj d).1.names e 0 else -1):=by
  unfold zH4
  simp only
  cases h:zLT (zHj d).1.names e with
  | false=>simp
  | true =>
   obtain ⟨y,hy⟩:=zAK (zOO h)
   rw [zAW,hy,zAA,zBD]
   simp only [lW,true_and,lJ.injEq]
   split<;>rfl
 unfold zK4 zWf
 rw [zW1 hfu hl hw,zAA,j1]
 simp only
 cases i:zNF d with
 | false=>rfl
 | true =>
  rw [iE,zAF,iP rfl]
  cases h:zLT (zHj d).1.names loc with
  | false=>simp
  | true =>
   obtain ⟨y,hy⟩:=zAK (zOO h)
   rw [zAW,hy,zAA,zBD]
   simp only [lW,true_and,lJ.injEq]
   split<;>rfl
theorem zdC {d:Desk} {loc e:Bs}:zWf d loc e = -1\/(0<=zWf d loc e/\zWf d loc e<(d.Defs.length:Int)):=by
 unfold zWf
 split
 ·split
  ·rename_i h;exact .inr (zOO h.1)
  ·split
   ·rename_i h;exact .inr (zOO h.1)
   ·exact .inl rfl
 ·exact .inl rfl
end
section
theorem zbP {names:List (Bs×Int)} {next:Int}:∀{ws:List Wait} {ok:Bool} {e:Int},opF names next ws ok e=true->ok=true/\0<=next/\next<=100000
 | [],ok,e,h=>by
  simp only [opF,lM,decide_eq_true_eq] at h
  exact ⟨h.1,h.2.1,h.2.2⟩
 | y::t,ok,e,h=>by
  simp only [opF] at h
  have:=zbP h
  simp only [lM] at this
  exact ⟨this.1.1,this.2⟩
def zNS (d:Desk) (s:Bs):Desk×Int×Int×Int :=
 if zNF d=false then (d,-1,-1,1) else if zHk s=false then (d,-1,-1,4) else if d.Next=100000 then (d,-1,-1,3)
 else if zLT (zHj d).1.names s=true then (⟨d.Defs,d.Waits,d.Next+1,d.Busy⟩,d.Next,zK0 (zHj d).1.names s 0,0)
 else (⟨d.Defs,d.Waits++[⟨s,d.Next⟩],d.Next+1,d.Busy⟩,d.Next,-1,0)
theorem zct {fu:Nat} {d:Desk} {s:Bs} (hfu:1000<fu) (hl:d.Defs.length<=900) (hw:d.Waits.length<=900):zJp fu d s=some (zNS d s):=by
 unfold zJp zNS
 rw [zW1 hfu hl hw,zAA]
 simp only
 cases h:zNF d with
 | false=>rfl
 | true =>
  have q:=(zbP h).2
  rw [iE,zAF,iN (by simp),zKq (by omega),zAA]
  cases i:zHk s with
  | false=>rfl
  | true =>
   rw [iE,zAF,iN (by simp),zBD]
   by_cases e:d.Next=100000
   ·rw [iP e,iP e]
   ·rw [iN e,iN e,zNa (by simp only [lo,Go.Pw.hi];omega),zAA]
    cases j:zLT (zHj d).1.names s with
    | true=>rfl
    | false =>
     rw [zAF,iN (by simp)]
     unfold zFU
     rw [zBF (by simp;omega),zAA,zAA,zBF (by simp;omega),zAA]
     rfl
def zOX (x:Node) (d:Desk):Int:=if x.Kind=1 then (if x.Doc=0 then zWf d x.Name x.Is else -1) else -1
theorem zTd {d:Desk}:zOX x d = -1\/(0<=zOX x d/\zOX x d<(d.Defs.length:Int)):=by
 unfold zOX
 split
 ·split
  ·exact zdC
  ·exact .inl rfl
 ·exact .inl rfl
theorem zah {fu:Nat} {d:Desk} (hfu:1000<fu) (hl:d.Defs.length<=900) (hw:d.Waits.length<=900):zJB fu x d=some (zOX x d):=by
 unfold zJB zOX
 rw [zAd,zAd,find_d hfu hl hw,zAA]
 by_cases e:x.Kind=1
 ·rw [iP e,iP e]
  split<;>rfl
 ·rw [iN e,iN e]
theorem ze3 {fu:Nat} {f:Forest} {d:Desk} (hfu:1000<fu) (hl:d.Defs.length<=900) (hw:d.Waits.length<=900) (hr:zAJ f=true):zJA fu f n d=some (match idx f.Nodes n with | some x=>zOX x d | none => -1):=by
 unfold zJA
 rw [zAN,zAN,zFP hfu ((zAI hr).fit hfu),zAA,hr,iE,zAF]
 by_cases e:n<0
 ·rw [iP e,zCu (by omega)]
 ·rw [iN e]
  by_cases h:n>=(f.Nodes.length:Int)
  ·rw [iP h,zCu (by omega)]
  ·obtain ⟨x,hx⟩:=zAK (l:=f.Nodes) (n:=n) (by omega)
   rw [iN h,hx,zAA,zah hfu hl hw,zAA]
def upgT (at_:Int):Todo:=⟨9,at_,[],false,false,[],[],0,0,false⟩
def zOs (d:Desk) (l:List (Int×Node)):List Due:=l.filterMap fun p=>if zOX p.2 d = -1 then none else some ⟨p.1,upgT (zOX p.2 d)⟩
theorem zXN {fu:Nat} {d:Desk} (hfu:1000<fu) (hl:d.Defs.length<=900) (hw:d.Waits.length<=900):∀(l:List (Int×Node)) (acc:List Due),acc.length+l.length<=1000000->zEy fu d l acc=some (acc++zOs d l)
 | [],acc,_=>by simp [zEy,zOs]
 | p::l,acc,h=>by
  simp only [cP] at h
  simp only [zEy]
  rw [zah hfu hl hw,zAA,zAd]
  unfold zOs
  rw [kI]
  by_cases e:zOX p.2 d = -1
  ·rw [iP e,iP e,zXN hfu hl hw l acc (by omega)]
   rfl
  ·rw [iN e,iN e,zBF (by simp only [cP,eK];omega),zAA,zXN hfu hl hw l _ (by simp only [eR,cP,eK];omega),eS]
   rfl
def zSG (ns:List Node) (l:List Int):List (Int×Node):=l.filterMap fun k=>match idx ns k with
 | some x=>if x.Kind=1 then some (k,x) else none
 | none=>none
theorem zaX {ns:List Node}:∀{l:List Int},(∀k∈l,InN ns k)->zTc ns l=some (zSG ns l)
 | [],_=>rfl
 | k::l,h=>by
  obtain ⟨x,hx⟩:=zAK (h k (lH ..))
  simp only [zTc]
  rw [hx,zAA,zaX fun j i=>h j (lG _ i),zAA]
  unfold zSG
  rw [kI,hx]
  by_cases e:x.Kind=1
  ·simp [e]
  ·simp [e]
theorem zeF {fu:Nat} {f:Forest} {d:Desk} (hfu:1000<fu) (hl:d.Defs.length<=900) (hw:d.Waits.length<=900) (hr:zAJ f=true) (e:InN f.Nodes n):zJr fu f n d=some (zOs d (zSG f.Nodes (zGS f.Nodes n))):=by
 have hs:=zAI hr
 have h:=hs.few
 have i:=(zAU hr).all_len e
 unfold zJr zMf
 rw [zAA,zZp hs hfu hr e,zAA,zaX fun k j=>((zAU hr).all_in n e k j).1,zAA]
 have:(zSG f.Nodes (zGS f.Nodes n)).length<=(zGS f.Nodes n).length:=kG _ _
 rw [zXN hfu hl hw _ _ (by simp only [eK];omega),iS]
end
section
theorem zAZ {i:Nat} (h:i<=1000000000000):rng .i64 ((i:Int)+1)=some ((i+1:Nat):Int):=by
 rw [zNa (by simp only [lo,Go.Pw.hi];omega)]
 rfl
theorem zQF {fu:Nat} {t:Bs->Option Bool} {p:Bs->Bool} {l:List (Bs)} (j:∀x∈l,t x=some (p x)) (hf:l.length<fu) (q:l.length<=1000000000):zCT fu t l=some (l.any p):=by
 unfold zCT zEc
 obtain ⟨r,e,h⟩:=zGT (L:=zBJ t l) l p (fun i hi k=>by
  simp only [zBJ]
  rw [zAP (by simpa using hi),zAQ hi,zAA,j _ (gC hi),zAA,zAZ (by omega),zAA]
  cases p l[i]<;>rfl) (fun k=>by simp only [zBJ];rw [zAO (by simp)]) hf
 rw [e,zAA,h]
theorem zPA {fu:Nat} {t:Hook->Option Bool} {p:Hook->Bool} {l:List (Hook)} (j:∀x∈l,t x=some (p x)) (hf:l.length<fu) (q:l.length<=1000000000):zCB fu t l=some (l.any p):=by
 unfold zCB zD6
 obtain ⟨r,e,h⟩:=zGT (L:=zA7 t l) l p (fun i hi k=>by
  simp only [zA7]
  rw [zAP (by simpa using hi),zAQ hi,zAA,j _ (gC hi),zAA,zAZ (by omega),zAA]
  cases p l[i]<;>rfl) (fun k=>by simp only [zA7];rw [zAO (by simp)]) hf
 rw [e,zAA,h]
theorem zOU {fu:Nat} {t:Class->Option Bool} {p:Class->Bool} {l:List (Class)} (j:∀x∈l,t x=some (p x)) (hf:l.length<fu) (q:l.length<=1000000000):zB0 fu t l=some (l.any p):=by
 unfold zB0 zDz
 obtain ⟨r,e,h⟩:=zGT (L:=zAx t l) l p (fun i hi k=>by
  simp only [zAx]
  rw [zAP (by simpa using hi),zAQ hi,zAA,j _ (gC hi),zAA,zAZ (by omega),zAA]
  cases p l[i]<;>rfl) (fun k=>by simp only [zAx];rw [zAO (by simp)]) hf
 rw [e,zAA,h]
theorem zQD {fu:Nat} {t:Def->Option Bool} {p:Def->Bool} {l:List (Def)} (j:∀x∈l,t x=some (p x)) (hf:l.length<fu) (q:l.length<=1000000000):zCR fu t l=some (l.any p):=by
 unfold zCR zEb
 obtain ⟨r,e,h⟩:=zGT (L:=zBI t l) l p (fun i hi k=>by
  simp only [zBI]
  rw [zAP (by simpa using hi),zAQ hi,zAA,j _ (gC hi),zAA,zAZ (by omega),zAA]
  cases p l[i]<;>rfl) (fun k=>by simp only [zBI];rw [zAO (by simp)]) hf
 rw [e,zAA,h]
theorem zPC {fu:Nat} {t:Todo->Option Bool} {p:Todo->Bool} {l:List (Todo)} (j:∀x∈l,t x=some (p x)) (hf:l.length<fu) (q:l.length<=1000000000):zCD fu t l=some (l.any p):=by
 unfold zCD zD8
 obtain ⟨r,e,h⟩:=zGT (L:=zA9 t l) l p (fun i hi k=>by
  simp only [zA9]
  rw [zAP (by simpa using hi),zAQ hi,zAA,j _ (gC hi),zAA,zAZ (by omega),zAA]
  cases p l[i]<;>rfl) (fun k=>by simp only [zA9];rw [zAO (by simp)]) hf
 rw [e,zAA,h]
theorem zPB {fu:Nat} {t:Task->Option Bool} {p:Task->Bool} {l:List (Task)} (j:∀x∈l,t x=some (p x)) (hf:l.length<fu) (q:l.length<=1000000000):zCC fu t l=some (l.any p):=by
 unfold zCC zD7
 obtain ⟨r,e,h⟩:=zGT (L:=zA8 t l) l p (fun i hi k=>by
  simp only [zA8]
  rw [zAP (by simpa using hi),zAQ hi,zAA,j _ (gC hi),zAA,zAZ (by omega),zAA]
  cases p l[i]<;>rfl) (fun k=>by simp only [zA8];rw [zAO (by simp)]) hf
 rw [e,zAA,h]
theorem zOT {fu:Nat} {t:Build->Option Bool} {p:Build->Bool} {l:List (Build)} (j:∀x∈l,t x=some (p x)) (hf:l.length<fu) (q:l.length<=1000000000):zBz fu t l=some (l.any p):=by
 unfold zBz zDy
 obtain ⟨r,e,h⟩:=zGT (L:=zAw t l) l p (fun i hi k=>by
  simp only [zAw]
  rw [zAP (by simpa using hi),zAQ hi,zAA,j _ (gC hi),zAA,zAZ (by omega),zAA]
  cases p l[i]<;>rfl) (fun k=>by simp only [zAw];rw [zAO (by simp)]) hf
 rw [e,zAA,h]
theorem zQE {fu:Nat} {t:Due->Option Bool} {p:Due->Bool} {l:List (Due)} (j:∀x∈l,t x=some (p x)) (hf:l.length<fu) (q:l.length<=1000000000):zCS fu t l=some (l.any p):=by
 unfold zCS zAv
 obtain ⟨r,e,h⟩:=zGT (L:=zAa t l) l p (fun i hi k=>by
  simp only [zAa]
  rw [zAP (by simpa using hi),zAQ hi,zAA,j _ (gC hi),zAA,zAZ (by omega),zAA]
  cases p l[i]<;>rfl) (fun k=>by simp only [zAa];rw [zAO (by simp)]) hf
 rw [e,zAA,h]
end
section
def inL (l:Line) (n:Int):Bool:=decide (0<=n)&&decide (n<(l.Todos.length:Int))
def zHI (l:Line):Bool:=(l.Stack++[l.Back]).all fun e=>e.all (inL l)
structure LS (B:Nat) (l:Line):Prop where
 todos:l.Todos.length<=B
 todo:∀t∈l.Todos,t.length<=B
 stack:l.Stack.length<=B
 lists:∀t∈l.Stack,t.length<=B
 back:l.Back.length<=B
theorem LS.mono {B C:Nat} (h:LS B l) (e:B<=C):LS C l:=⟨eM h.todos e,fun t i=>eM (h.todo t i) e,eM h.stack e,fun t i=>eM (h.lists t i) e,eM h.back e⟩
section
variable {fu B:Nat} (hB:B<=1000000000) (hfu:B+1<fu)
include hB
omit hB in
theorem in_ok:zL4 fu l n=some (inL l n):=by
 unfold zL4 inL
 rw [zAN]
 by_cases h:n>=0
 ·rw [iP h,decide_eq_true (show 0<=n from h),iD]
 ·rw [iN h,decide_eq_false (show ¬0<=n from h),jO]
omit hB in
theorem zXi {l:List (List Int)} (h:l.length<=1000000000):zDx fu l=some l:=by
 unfold zDx
 rw [zBF (by simp;omega),zAA,iS]
omit hB in
theorem zcy {l:List (List Todo)} (h:l.length<=1000000000):zDW fu l=some l:=by
 unfold zDW
 rw [zBF (by simp;omega),zAA,iS]
omit hB in
theorem zaI {l:List Int} (h:l.length<=1000000000):zBY fu l=some l:=by
 unfold zBY
 rw [zBF (by simp;omega),zAA,iS]
omit hB in
theorem zfZ {l:List Todo} (h:l.length<=1000000000):zD4 fu l=some l:=by
 unfold zD4
 rw [zBF (by simp;omega),zAA,iS]
omit hB in
theorem zaK {l:List State} (h:l.length<=1000000000):zCc fu l=some l:=by
 unfold zCc
 rw [zBF (by simp;omega),zAA,iS]
omit hB in
theorem zaJ {l:List Task} (h:l.length<=1000000000):zCw fu l=some l:=by
 unfold zCw
 rw [zBF (by simp;omega),zAA,iS]
include hfu
theorem zd3 {t:Nat} {y:List Int} {rc:Int->Option Bool} (hy:y.length<=B) (e:t<=B):zE8 fu l (t:Int) y rc fu 0=bif y.all (inL l) then rc ((t+1:Nat):Int) else some false:=by
 refine zKw (L:=zE8 fu l (t:Int) y rc) y (inL l) (rc ((t+1:Nat):Int)) (fun i hi k=>?_) (fun k=>?_) (by omega)
 ·simp only [zE8]
  rw [zAP (by simpa using hi),zAQ hi,zAA,in_ok,zAA,zAZ (by omega),zAA]
  cases inL l y[i]<;>rfl
 ·simp only [zE8]
  rw [zAO (by simp),zAZ (by omega),zAA]
theorem zVM (h:LS B l):zH6 fu l=some (zHI l):=by
 have hst:=h.stack
 unfold zH6 zHI
 rw [zXi (by omega),zAA,zBF (by simp only [cP,eK];omega),zAA]
 refine (zKw (L:=zE7 fu l l.Stack) (l.Stack++[l.Back]) (fun q=>q.all (inL l)) (some true) (fun i hi k=>?_) (fun k=>?_) (by simp;omega)).trans ?_
 ·have hy:(l.Stack++[l.Back])[i].length<=B:=by
   rcases cA.1 (gC hi) with j | j
   ·exact h.lists _ j
   ·rw [e8.1 j];exact h.back
  have e:i<=B:=by simp at hi;omega
  simp only [zE7]
  rw [zAP (decide_eq_true (Int.ofNat_lt.2 hi)),zAQ hi,zAA,zd3 hB hfu hy e]
 ·simp only [zE7]
  rw [zAO (by simp)]
 ·cases (l.Stack++[l.Back]).all fun q=>q.all (inL l)<;>rfl
omit hfu in
theorem own_l (h:LS B l):zKS fu l=some l:=by
 have:=h.todos
 have:=h.stack
 have:=h.back
 unfold zKS
 rw [zcy (by omega),zAA,zXi (by omega),zAA,zaI (by omega),zAA]
def zfu (l:Line):Line:=⟨l.Todos++[[]],l.Stack,l.Back,l.Busy⟩
omit hfu in
theorem zfv (h:LS B l):zJC fu l=some (zfu l):=by
 have:=h.todos
 unfold zJC
 rw [own_l hB h,zAA,zBF (by simp only [cP,eK];omega),zAA]
 rfl
def zQP (l:Line) (n:Int) (t:Todo):Line×Bool :=
 if l.Stack=[] then (⟨l.Todos.set n.toNat ((l.Todos[n.toNat]?).getD []++[t]),l.Stack,l.Back++[n],true⟩,!l.Busy)
 else (⟨l.Todos.set n.toNat ((l.Todos[n.toNat]?).getD []++[t]),l.Stack.set (l.Stack.length - 1) ((l.Stack[l.Stack.length - 1]?).getD []++[n]),l.Back,l.Busy⟩,false)
theorem add_ok (h:LS B l) {n:Int} {t:Todo} (hr:zHI l=true) (j:inL l n=true):zMZ fu l n t=some ((zQP l n t).1,(zQP l n t).2,0):=by
 have u:=h.todos
 have C:=h.stack
 have D:=h.back
 unfold inL at j
 simp only [lM,decide_eq_true_eq] at j
 obtain ⟨i,rfl⟩:∃i:Nat,n=(i:Int):=⟨n.toNat,by omega⟩
 have hi:i<l.Todos.length:=by omega
 have e:inL l (i:Int)=true:=by unfold inL;simp only [lM,decide_eq_true_eq];omega
 have E:=h.todo _ (gC hi)
 unfold zMZ zQP
 rw [zVM hB hfu h,zAA,hr,iE,zAF,in_ok,zAA,e,iE,zAF,own_l hB h,zAA,zAQ hi,zAA,zfZ (by omega),zAA,zBF (by simp only [cP,eK];omega),zAA,zAA,
  zNa (by simp only [lo,Go.Pw.hi];omega),zAA,eO,lC hi,cM,zAN]
 by_cases hs:l.Stack=[]
 ·rw [iN (by rw [hs];simp),iP hs,zBF (by simp only [cP,eK];omega),zAA]
 ·have q:0<l.Stack.length:=List.length_pos_iff.2 hs
  have r:(l.Stack.length:Int) - 1=((l.Stack.length - 1:Nat):Int):=by omega
  have hl:l.Stack.length - 1<l.Stack.length:=by omega
  have F:=h.lists _ (gC hl)
  rw [iP (by omega),iN hs,r,zAQ hl,zAA,zaI (by omega),zAA,zBF (by simp only [cP,eK];omega),zAA,zAA,eO,lC hl,cM]
end
theorem zOK:(zQP l n t).1.Todos.length=l.Todos.length:=by
 unfold zQP;split<;>simp
theorem zQX {m:Line} (h:m.Todos.length=l.Todos.length):inL m=inL l:=by
 funext n;unfold inL;rw [h]
theorem zSN (hr:zHI l=true) (j:inL l n=true):zHI (zQP l n t).1=true:=by
 unfold zHI at hr ⊢
 rw [zQX zOK]
 rw [lR] at hr ⊢
 intro q i
 unfold zQP at i
 split at i
 ·simp only [cA,e8] at i
  rcases i with h | rfl
  ·exact hr q (by simp [h])
  ·rw [kR,hr l.Back (by simp)]
   simp [j]
 ·simp only [cA,e8] at i
  rcases i with h | rfl
  ·rcases dT h with h | rfl
   ·exact hr q (by simp [h])
   ·rw [kR]
    have:(((l.Stack[l.Stack.length - 1]?).getD []).all (inL l))=true:=by
     cases e:l.Stack[l.Stack.length - 1]? with
     | none=>rfl
     | some a=>exact hr a (by simp [lU e])
    rw [this];simp [j]
  ·exact hr l.Back (by simp)
theorem zSO {B:Nat} (h:LS B l):LS (B+1) (zQP l n t).1:=by
 have q:=h.todos
 have r:=h.stack
 have u:=h.back
 have j:((l.Todos[n.toNat]?).getD []).length<=B:=by
  cases e:l.Todos[n.toNat]? with
  | none=>simp
  | some a=>exact h.todo a (lU e)
 have i:∀x∈l.Todos.set n.toNat ((l.Todos[n.toNat]?).getD []++[t]),x.length<=B+1:=fun x hx=>by
  rcases dT hx with hx | rfl
  ·have:=h.todo x hx;omega
  ·simp only [eR,cP,eK];omega
 unfold zQP
 split
 ·exact ⟨by simp;omega,i,by simp only;omega,fun x hx=>by have:=h.lists x hx;omega,by simp;omega⟩
 ·refine ⟨by simp;omega,i,by simp;omega,fun x hx=>?_,by simp only;omega⟩
  rcases dT hx with hx | rfl
  ·have:=h.lists x hx;omega
  ·simp only [eR,cP,eK]
   have:((l.Stack[l.Stack.length - 1]?).getD []).length<=B:=by
    cases e:l.Stack[l.Stack.length - 1]? with
    | none=>simp
    | some a=>exact h.lists a (lU e)
   omega
end
section
def zay (h:Hook):Bool:=decide (1<=h.Kind)&&(decide (h.Kind<=8)&&decide (h.Do.length<=60))
def zH1 (c:Class):Bool:=decide (c.Watch.length<=12)&&(c.Watch.all zWg&&(decide (c.Hooks.length<=12)&&(c.Hooks.all zay&&(decide (c.Peek.length<=60)&&decide (c.Make.length<=60)))))
theorem zWt {fu:Nat} {l:List Op}:zGs fu l=some (!(decide (l.length<=60))):=by
 unfold zGs
 congr 1
 by_cases h:l.length<=60
 ·rw [decide_eq_true h,decide_eq_false (by omega)];rfl
 ·rw [decide_eq_false h,decide_eq_true (by omega)];rfl
theorem zFm {e : Type} (l:List e) (p : e -> Bool):(l.any fun x => !(p x)) = !(l.all p):=by
 rw [List.all_eq_not_any_not,kD]
theorem zYp {fu:Nat} {c:Class} (hfu:1000<fu):zHE fu c=some (zH1 c):=by
 unfold zHE zH1
 rw [zAN]
 by_cases j:c.Watch.length<=12
 ·rw [iP (by omega),decide_eq_true j,iD]
  rw [zQF (p:=fun s => !(zWg s)) (fun s _=>by
   unfold zDl zWg
   rw [zXt (by omega),zAA]
   cases zFq s with
   | false=>rfl
   | true =>
    simp only [if_true,iD]
    cases s.map zGM==s<;>rfl) (by omega) (by omega),zAA,zFm,kD]
  cases c.Watch.all zWg with
  | false=>rfl
  | true =>
   rw [zAW,iD,zAN]
   by_cases q:c.Hooks.length<=12
   ·rw [iP (by omega),decide_eq_true q,iD]
    rw [zPA (p:=fun h => !(zay h)) (fun h _=>by
     unfold zDm zay
     rw [zAN,zAN,zWt,zAA]
     by_cases e:h.Kind<1
     ·rw [iP e,decide_eq_false (show ¬1<=h.Kind by omega)];rfl
     ·rw [iN e,decide_eq_true (show 1<=h.Kind by omega)]
      by_cases i:h.Kind>8
      ·rw [iP i,decide_eq_false (show ¬h.Kind<=8 by omega)];rfl
      ·rw [iN i,decide_eq_true (show h.Kind<=8 by omega)];rfl) (by omega) (by omega),zAA,zFm,kD,zWt,zWt,zAA,zAA]
    cases c.Hooks.all zay with
    | false=>rfl
    | true =>
     cases decide (c.Peek.length<=60) with
     | false=>rfl
     | true=>simp
   ·rw [iN (by omega),decide_eq_false q];rfl
 ·rw [iN (by omega),decide_eq_false j];rfl
def zLP (w:World):Bool:=decide (w.Classes.length<=12)&&(w.Classes.all zH1&&w.Desk.Defs.all fun d=>decide (d.Class<(w.Classes.length:Int)))
theorem zYz {fu:Nat} {w:World} (hfu:1000<fu) (hl:w.Desk.Defs.length<=900):zES fu ⟨w⟩=some (zLP w):=by
 unfold zES zLP
 simp only
 rw [zAN]
 by_cases e:w.Classes.length<=12
 ·rw [iP (by omega),decide_eq_true e,iD,zOU (p:=fun c => !(zH1 c)) (fun c _=>by unfold zBm;rw [zYp hfu,zAA]) (by omega) (by omega),zAA,zFm,kD,
   zQD (p:=fun d => !(decide (d.Class<(w.Classes.length:Int)))) (fun d _=>by
    unfold zBn
    simp only
    congr 1
    by_cases h:d.Class<(w.Classes.length:Int)
    ·rw [decide_eq_true h,decide_eq_false (by omega)];rfl
    ·rw [decide_eq_false h,decide_eq_true (by omega)];rfl) (by omega) (by omega),zAA,zFm,kD]
  cases w.Classes.all zH1<;>rfl
 ·rw [iN (by omega),decide_eq_false e];rfl
def ltI (n:Nat) (k:Int):Bool:=decide (0<=k)&&decide (k<(n:Int))
theorem zWv (n:Nat) (k:Int):cnd (decide (k>=0)) (some (decide (k<((n:Nat):Int)))) (some false)=some (ltI n k):=by
 unfold ltI
 rw [zAN]
 by_cases h:k>=0
 ·rw [iP h,decide_eq_true (show 0<=k from h),iD]
 ·rw [iN h,decide_eq_false (show ¬0<=k from h),jO]
theorem zKK {n:Nat} {k:Int}:ltI n k=true↔0<=k/\k<(n:Int):=by
 unfold ltI;simp
def zJX (e:Nat) (t:Todo):Bool:=(decide (1<=t.Kind)&&decide (t.Kind<9))||(t.Kind==9&&ltI e t.Def)
def zLi (h e:Nat) (x:Node) (s:State):Bool :=
 if x.Kind=1 then (s.Owner == -1||ltI h s.Owner)&&(if s.Phase=2\/s.Phase=3 then ltI e s.Def else if s.Phase=0\/s.Phase=1\/s.Phase=4 then s.Def == -1||ltI e s.Def else false)
 else zRQ s ⟨0,-1,-1,false⟩
def zVv (e:Nat) (t:Task):Bool:=(t.Kind==1&&(t.Ticket==0&&t.Def==0))||(t.Kind==2&&(decide (0<=t.Ticket)&&ltI e t.Def))
def zOP (ns:List Node) (e:Nat) (b:Build):Bool:=ltI e b.Def&&(b.Node == -4||isB ns b.Node 1)
section
variable {fu:Nat} {w:World}
theorem zR0 (k:Int):zCL fu ⟨w⟩ k=some (ltI w.Desk.Defs.length k):=zWv _ _
theorem zUT (k:Int):zEU fu ⟨w⟩ k=some (ltI w.Forest.Nodes.length k):=zWv _ _
theorem zYi (t:Todo):zEV fu ⟨w⟩ t=some (zJX w.Desk.Defs.length t):=by
 unfold zEV zJX
 rw [zR0,zAA,zAN,zAN,zBD]
 by_cases e:t.Kind>=1
 ·rw [iP e,decide_eq_true (show 1<=t.Kind from e),iD]
  by_cases h:t.Kind<9
  ·rw [iP h,decide_eq_true h,Bool.true_or]
  ·rw [iN h,decide_eq_false h,iA]
   by_cases i:t.Kind=9
   ·rw [iP i,i];rfl
   ·rw [iN i,show (t.Kind==9)=false by simpa using i];rfl
 ·rw [iN e,iN (by omega),decide_eq_false (show ¬1<=t.Kind from e),show (t.Kind==9)=false by simp;omega];rfl
theorem zca {s:State} (hs:idx w.States n=some s) (hx:idx w.Forest.Nodes n=some x):zFK fu ⟨w⟩ n=some (zLi w.Forest.Nodes.length w.Desk.Defs.length x s):=by
 have j3:∀o t,zCp fu ⟨w⟩ s o t=some (t&&(o&&(s.Def == -1||ltI w.Desk.Defs.length s.Def))):=fun o t=>by
  unfold zCp
  rw [zR0,zAA]
  cases t<;>cases o<;>cases s.Def == -1<;>rfl
 have j2:∀o t,zDS fu ⟨w⟩ s o t=some (if t=true then o&&ltI w.Desk.Defs.length s.Def else o&&((s.Phase==0||(s.Phase==1||s.Phase==4))&&(s.Def == -1||ltI w.Desk.Defs.length s.Def))):=fun o t=>by
  unfold zDS
  rw [zR0,zAA,j3,j3,j3]
  cases t with
  | true=>cases o<;>rfl
  | false =>
   cases s.Phase==0<;>cases s.Phase==1<;>cases s.Phase==4<;>cases o<;>rfl
 have j1:∀o,zDR fu ⟨w⟩ s o=some (o&&(if s.Phase=2\/s.Phase=3 then ltI w.Desk.Defs.length s.Def else if s.Phase=0\/s.Phase=1\/s.Phase=4 then s.Def == -1||ltI w.Desk.Defs.length s.Def else false)):=fun o=>by
  unfold zDR
  rw [j2,j2,zBD]
  by_cases e:s.Phase=2
  ·rw [iP e,iP (by simpa using e),iP (.inl e)]
  ·rw [iN e]
   by_cases j:s.Phase=3
   ·rw [iP (by simpa using j),iP (.inr j)]
   ·rw [iN (by simpa using j),iN (by omega)]
    by_cases q:s.Phase=0
    ·rw [q];simp
    ·by_cases r:s.Phase=1
     ·rw [r];simp
     ·by_cases u:s.Phase=4
      ·rw [u];simp
      ·rw [iN (by omega),show (s.Phase==0)=false by simpa using q,show (s.Phase==1)=false by simpa using r,show (s.Phase==4)=false by simpa using u]
       simp
 unfold zFK zLi
 simp only
 rw [hs,zAA,hx,zAA,zAd,j1,zUT,zAA,j1,zBD]
 by_cases h:x.Kind=1
 ·rw [iP h,iP h]
  by_cases i:s.Owner = -1
  ·rw [iP i,i];rfl
  ·rw [iN i,show (s.Owner == -1)=false by simpa using i,iA]
 ·rw [iN h,iN h]
theorem zeS (t:Task):zFa fu ⟨w⟩ t=some (zVv w.Desk.Defs.length t):=by
 unfold zFa zVv
 rw [zR0,zAA,zBD,zBD,zBD,zAN]
 by_cases h:t.Kind=1
 ·rw [iP h,h]
  by_cases e:t.Ticket=0
  ·rw [iP e,e];simp
  ·rw [iN e,show (t.Ticket==0)=false by simpa using e];rfl
 ·rw [iN h,show (t.Kind==1)=false by simpa using h,jO,iA]
  by_cases e:t.Kind=2
  ·rw [iP e,e]
   by_cases i:t.Ticket>=0
   ·rw [iP i,decide_eq_true (show 0<=t.Ticket from i)];rfl
   ·rw [iN i,decide_eq_false (show ¬0<=t.Ticket from i)];rfl
  ·rw [iN e,show (t.Kind==2)=false by simpa using e];rfl
theorem zcF (b:Build):zFJ fu ⟨w⟩ b=some (zOP w.Forest.Nodes w.Desk.Defs.length b):=by
 have j1:∀e,zDQ fu ⟨w⟩ b e=some (ltI w.Desk.Defs.length b.Def&&(b.Node == -4||e)):=fun e=>by
  unfold zDQ
  rw [zR0,zAA]
  cases ltI w.Desk.Defs.length b.Def<;>cases b.Node == -4<;>rfl
 unfold zFJ zOP
 rw [zUT,zAA,j1]
 cases h:ltI w.Forest.Nodes.length b.Node with
 | true =>
  obtain ⟨x,hx⟩:=zAK (zKK.1 h)
  rw [zAW]
  simp only
  rw [hx,zAA,j1]
  unfold isB
  rw [hx]
 | false =>
  have:idx w.Forest.Nodes b.Node=none:=zCu fun i=>by
   have:=zKK.2 i
   rw [h] at this;cases this
  rw [zAF]
  unfold isB
  rw [this]
end
structure WS (B:Nat) (w:World):Prop where
 line:LS B w.Line
 tasks:w.Tasks.length<=B
 builds:w.Builds.length<=B
 defs:w.Desk.Defs.length<=900
 waits:w.Desk.Waits.length<=900
 kids:∀x∈w.Forest.Nodes,x.Kids.length<=2000
 states:w.States.length<=B
def zeo (w:World) (i:Nat):Bool:=(match w.States[i]?,w.Forest.Nodes[i]? with | some s,some x=>zLi w.Forest.Nodes.length w.Desk.Defs.length x s | _,_=>false)&&((w.Line.Todos[i]?).getD []).all (zJX w.Desk.Defs.length)
def zS8 (w:World):Bool:=decide (w.States.length=w.Forest.Nodes.length)&&(decide (w.Line.Todos.length=w.Forest.Nodes.length)&&(zLP w&&(zAJ w.Forest&&(zNF w.Desk&&(zHI w.Line&&((cW w.Line.Todos.length).all (zeo w)&&(w.Tasks.all (zVv w.Desk.Defs.length)&&w.Builds.all (zOP w.Forest.Nodes w.Desk.Defs.length))))))))
theorem zR3 {fu B:Nat} {w:World} (h:WS B w) (hB:B<=1000000000) (hfu:B+10000<fu):zC7 fu ⟨w⟩=some (zS8 w):=by
 have hl:=h.line.todos
 have q:zFT fu w.Forest.Nodes:=fun x hx=>by have:=h.kids x hx;omega
 have fin:zBu fu ⟨w⟩ fu 0=(bif (cW w.Line.Todos.length).all (zeo w) then some (w.Tasks.all (zVv w.Desk.Defs.length)&&w.Builds.all (zOP w.Forest.Nodes w.Desk.Defs.length)) else some false)\/w.States.length≠w.Forest.Nodes.length\/w.Line.Todos.length≠w.Forest.Nodes.length:=by
  by_cases e:w.States.length=w.Forest.Nodes.length
  ·by_cases j:w.Line.Todos.length=w.Forest.Nodes.length
   ·left
    refine zNy (L:=zBu fu ⟨w⟩) w.Line.Todos.length (zeo w) (some (w.Tasks.all (zVv w.Desk.Defs.length)&&w.Builds.all (zOP w.Forest.Nodes w.Desk.Defs.length))) (fun i hi k=>?_) (fun k=>?_) (by omega)
    ·have hs:i<w.States.length:=by omega
     have hx:i<w.Forest.Nodes.length:=by omega
     have C:=h.line.todo _ (gC hi)
     simp only [zBu]
     rw [zAP (by simpa using hi),zAQ hi,zAA,zca (zAQ hs) (zAQ hx),zAA,zPC (p:=fun t => !(zJX w.Desk.Defs.length t)) (fun t _=>by unfold zCM;rw [zYi,zAA]) (by omega) (by omega),zAA,zFm,zAZ (by omega),zAA]
     unfold zeo
     rw [lC hs,lC hx,lC hi,cM]
     simp only
     cases zLi w.Forest.Nodes.length w.Desk.Defs.length w.Forest.Nodes[i] w.States[i] with
     | false=>rfl
     | true=>cases w.Line.Todos[i].all (zJX w.Desk.Defs.length)<;>rfl
    ·have r:=h.tasks
     have u:=h.builds
     simp only [zBu]
     rw [zAO (by simp),zPB (p:=fun t => !(zVv w.Desk.Defs.length t)) (fun t _=>by unfold zCN;rw [zeS,zAA]) (by omega) (by omega),zAA,zFm,kD,
      zOT (p:=fun t => !(zOP w.Forest.Nodes w.Desk.Defs.length t)) (fun t _=>by unfold zCO;rw [zcF,zAA]) (by omega) (by omega),zAA,zFm,kD]
     cases w.Tasks.all (zVv w.Desk.Defs.length)<;>rfl
   ·exact .inr (.inr j)
  ·exact .inr (.inl e)
 unfold zC7 zS8
 simp only
 rw [zAd,zAd,zYz (by omega) h.defs,zAA,zFP (by omega) q,zAA,zRM (by omega) h.defs h.waits,zAA,zVM hB (by omega) h.line,zAA]
 by_cases e:w.States.length=w.Forest.Nodes.length
 ·rw [iP (by omega),decide_eq_true e,iD]
  by_cases j:w.Line.Todos.length=w.Forest.Nodes.length
  ·rw [iP (by omega),decide_eq_true j,iD]
   have:=fin.resolve_right (by omega)
   rw [this]
   cases zLP w with
   | false=>rfl
   | true =>
    cases zAJ w.Forest with
    | false=>rfl
    | true =>
     cases zNF w.Desk with
     | false=>rfl
     | true =>
      cases zHI w.Line with
      | false=>rfl
      | true=>cases (cW w.Line.Todos.length).all (zeo w)<;>rfl
  ·rw [iN (by omega),decide_eq_false j];rfl
 ·rw [iN (by omega),decide_eq_false e];rfl
theorem zUk {fu B:Nat} {w:World} (h:WS B w) (hB:B<=1000000000) (hfu:B+10000<fu):zFz fu w=some (zS8 w):=by
 unfold zFz
 rw [zR3 h hB hfu,zAA]
end
section
theorem zYA [DecidableEq κ] {l:List (κ × ν)} {k : κ}:zLT l k=true↔k∈l.map (·.1):=by
 unfold zLT
 induction l with
 | nil=>simp [zHo]
 | cons x l j =>
  simp only [zHo,List.map_cons,List.mem_cons]
  by_cases h:x.1=k
  ·simp [h]
  ·rw [iN h,Option.isSome_map,j]
   exact ⟨.inr,fun i=>i.resolve_left fun e=>h e.symm⟩
theorem zdP [DecidableEq κ] {l:List (κ × ν)} {k j : κ} {v : ν}:zLT (zGt l k v) j=(decide (k=j)||zLT l j):=by
 rw [eW,dD,decide_eq_true_eq,zYA,zYA]
 rcases zRg l k v with ⟨q,i⟩ | ⟨_,i⟩
 ·rw [i]
  exact ⟨.inr,fun h=>h.elim (fun e=>e▸q) id⟩
 ·rw [i,cA,e8]
  exact ⟨fun h=>h.elim .inr fun e=>.inl e.symm,fun h=>h.elim (fun e=>.inr e.symm) .inl⟩
def zMP (c:Class) (k:Int):Bool:=c.Hooks.any fun h=>h.Kind==k
theorem zaz {c:Class} {k:Int}:∀(i:Nat) (l:List (Int×Hook)),i<=c.Hooks.length->∃j,zGI c i l=some j/\zLT j k=(zLT l k||(c.Hooks.take i).any fun h=>h.Kind==k)
 | 0,l,_=>⟨l,rfl,by simp⟩
 | i+1,l,hi=>by
  have h:i<c.Hooks.length:=by omega
  obtain ⟨j,q,r⟩:=zaz (c:=c) (k:=k) i (zGt l c.Hooks[i].Kind c.Hooks[i]) (by omega)
  refine ⟨j,?_,?_⟩
  ·simp only [zGI]
   rw [lC h,zAA,q]
  ·rw [r,zdP,iB h,List.any_append]
   have e:(decide (c.Hooks[i].Kind=k))=(c.Hooks[i].Kind==k):=rfl
   simp only [List.any_cons,List.any_nil,Bool.or_false,e]
   cases c.Hooks[i].Kind==k<;>cases zLT l k<;>simp
theorem zTj {fu:Nat} {c:Class} {k:Int}:zFy fu c k=some (zMP c k):=by
 obtain ⟨i,e,h⟩:=zaz (c:=c) (k:=k) c.Hooks.length [] (cB _)
 unfold zFy zLM
 rw [e,zAA,h,iH]
 simp [zMP,zLT,zHo]
def zQi (c:Class) (s:Bs):Bool:=zMP c 4&&c.Watch.contains s
theorem zZf {fu:Nat} {c:Class} {s:Bs} (hfu:1000<fu) (e:c.Watch.length<=12):zHD fu c s=some (zQi c s):=by
 unfold zHD zQi
 rw [zTj,zAA,zML (by omega) (by omega),zAA]
 cases zMP c 4<;>rfl
def zKH (s:State) (defs:List Def) (cs:List Class):Option Class:=match idx defs s.Def with
 | some y=>idx cs y.Class
 | none=>none
def class0:Class:=⟨false,[],[],[],[]⟩
theorem zXh {fu:Nat} {s:State} {d:Desk} {cs:List Class}:zHC fu s d cs=some (match zKH s d.Defs cs with | some c=>(c,true) | none=>(class0,false)):=by
 unfold zHC zKH
 rw [zAN,zAN]
 by_cases e:s.Def<0
 ·rw [iP e,zCu (by omega)];rfl
 ·rw [iN e]
  by_cases h:s.Def>=(d.Defs.length:Int)
  ·rw [iP h,zCu (by omega)];rfl
  ·obtain ⟨y,hy⟩:=zAK (l:=d.Defs) (n:=s.Def) (by omega)
   rw [iN h,hy,zAA,zAN,zAN]
   simp only
   by_cases i:y.Class<0
   ·rw [iP i,zCu (by omega)];rfl
   ·rw [iN i]
    by_cases j:y.Class>=(cs.length:Int)
    ·rw [iP j,zCu (by omega)];rfl
    ·obtain ⟨c,q⟩:=zAK (l:=cs) (n:=y.Class) (by omega)
     rw [iN j,q,zAA]
theorem zWU {s:State} {cs:List Class} {c:Class} (h:zKH s defs cs=some c):c∈cs:=by
 unfold zKH at h
 split at h
 ·exact zIh h
 ·cases h
theorem zNn {s:State} {cs:List Class}:zKH s [] cs=none:=by
 unfold zKH
 rw [zCu (by simp only [eK];omega)]
def zgA (x:Note):Todo:=⟨x.Kind,0,x.Name,x.Had,x.Has,x.Old,x.New,x.From,x.To,false⟩
def askF (f:Forest) (st:List State) (d:Desk) (cs:List Class) (x:Note):Option Todo:=match idx st x.Node,idx f.Nodes x.Node with
 | some s,some y=>if s.Phase=1 then (if x.Kind=1/\zOX y d ≠ -1 then some (upgT (zOX y d)) else none)
  else if s.Phase=3 then (match zKH s d.Defs cs with
   | some c=>if ((x.Kind=4/\zQi c x.Name=true)\/x.Kind=1\/x.Kind=2\/x.Kind=3)/\zMP c x.Kind=true then some (zgA x) else none
   | none=>none)
  else none
 | _,_=>none
section
variable {fu:Nat} {f:Forest} {st:List State} {d:Desk} {cs:List Class} (hfu:1000<fu) (hr:zAJ f=true) (hl:d.Defs.length<=900) (hw:d.Waits.length<=900) (hcs:∀c∈cs,c.Watch.length<=12) (hst:st.length=f.Nodes.length)
include hfu hr hl hw hcs hst
theorem zfF {x:Note} (I:InN f.Nodes x.Node):∃r,zFH fu ⟨f,st,d,cs⟩ x=some r/\(if r.2=true then some r.1 else none)=askF f st d cs x:=by
 obtain ⟨y,hy⟩:=zAK I
 obtain ⟨s,hs⟩:=zAK (l:=st) (n:=x.Node) (by rw [hst];exact I)
 have j1:∀(c:Class) (b ok:Bool),zBW fu x (c,b) ok=some (zgA x,ok&&zMP c x.Kind):=fun c b ok=>by
  unfold zBW
  simp only
  rw [zTj,zAA]
  cases ok<;>rfl
 unfold zFH askF
 simp only
 rw [hs,zAA,hy,zBD]
 simp only
 by_cases j:s.Phase=1
 ·rw [iP j,iP j,ze3 hfu hl hw hr,zAA,hy]
  simp only
  rw [zBD]
  by_cases u:x.Kind=1
  ·rw [iP u]
   refine ⟨_,rfl,?_⟩
   simp only
   by_cases hf:zOX y d = -1
   ·rw [hf];simp
   ·have:(zOX y d != -1)=true:=by simpa using hf
    rw [this,iP rfl,iP ⟨u,hf⟩];rfl
  ·rw [iN u]
   refine ⟨_,rfl,?_⟩
   simp only
   rw [iN (by simp),iN fun h=>u h.1]
 ·rw [iN j,iN j,zBD]
  by_cases q:s.Phase=3
  ·rw [iP q,iP q,zXh,zAA]
   cases M:zKH s d.Defs cs with
   | none =>
    simp only [j1]
    have e:∀t:Todo,∃r,some (t,false)=some r/\(if r.2=true then some r.1 else none)=(none:Option Todo):=fun t=>⟨_,rfl,by simp⟩
    have i:∀(b:Bool) (F G:Option (Todo×Bool)),(∃r,F=some r/\(if r.2=true then some r.1 else none)=(none:Option Todo))->(∃r,G=some r/\(if r.2=true then some r.1 else none)=(none:Option Todo))->∃r,cnd b F G=some r/\(if r.2=true then some r.1 else none)=(none:Option Todo):=fun b F G J K=>by
     cases b
     ·exact K
     ·exact J
    simp only [zAF,jO]
    exact i _ _ _ (e _) (i _ _ _ (i _ _ _ (e _) (e _)) (i _ _ _ (i _ _ _ (e _) (e _)) (i _ _ _ (e _) (e _))))
   | some c =>
    simp only [j1,zZf hfu (hcs c (zWU M)),zAA,zAW,iD,zBD]
    by_cases k4:x.Kind=4
    ·rw [iP k4]
     refine ⟨_,rfl,?_⟩
     simp only
     rw [k4]
     cases zQi c x.Name<;>cases zMP c 4<;>simp
    ·rw [iN k4]
     by_cases C:x.Kind=1
     ·rw [iP C,iP C]
      refine ⟨_,rfl,?_⟩
      rw [C]
      cases zMP c 1<;>simp
     ·rw [iN C]
      by_cases D:x.Kind=2
      ·rw [iP D,iP D]
       refine ⟨_,rfl,?_⟩
       rw [D]
       cases zMP c 2<;>simp
      ·rw [iN D]
       by_cases E:x.Kind=3
       ·rw [iP E]
        refine ⟨_,rfl,?_⟩
        rw [E]
        cases zMP c 3<;>simp
       ·rw [iN E]
        refine ⟨_,rfl,?_⟩
        rw [iN (by simp),iN (by omega)]
  ·rw [iN q,iN q]
   exact ⟨_,rfl,by simp⟩
def zWY (f:Forest) (st:List State) (d:Desk) (cs:List Class) (notes:List Note):List Due:=notes.filterMap fun x=>if isB f.Nodes x.Node 1=true then (askF f st d cs x).map fun t=>⟨x.Node,t⟩ else none
theorem due_ok (P:zNF d=true) (W:notes.length<=100000000) (I:notes.length<fu):zLL fu f st d cs notes=some (zWY f st d cs notes):=by
 unfold zLL zMJ
 rw [show ((st.length:Int)==(f.Nodes.length:Int))=true by rw [hst];simp,zAW,zFP hfu ((zAI hr).fit hfu),zAA,hr,zAW,zRM hfu hl hw,zAA,P,zAA]
 simp only [iE,zAF]
 have N:∀(j i k:Nat) (q:List Due),i+j=notes.length->j<k->q.length<=i->zEt fu notes (⟨f,st,d,cs⟩,true) k ((i:Int),q)=some (q++zWY f st d cs (notes.drop i)):=by
  intro j
  induction j with
  | zero =>
   intro i k q hi Q _
   obtain ⟨k,rfl⟩:∃M,k=M+1:=⟨k - 1,by omega⟩
   obtain rfl:i=notes.length:=by omega
   simp only [zEt]
   rw [zAO (by simp),kF]
   simp [zWY]
  | succ j K =>
   intro i k q hi Q V
   obtain ⟨k,rfl⟩:∃M,k=M+1:=⟨k - 1,by omega⟩
   have h:i<notes.length:=by omega
   have G:zFI fu ⟨f,st,d,cs⟩ notes[i].Node=some (isB f.Nodes notes[i].Node 1):=by
    unfold zFI isB
    simp only
    rw [zAN,zAN]
    by_cases C:notes[i].Node>=0
    ·rw [iP C]
     by_cases D:notes[i].Node<(f.Nodes.length:Int)
     ·obtain ⟨x,hx⟩:=zAK (l:=f.Nodes) (n:=notes[i].Node) ⟨C,D⟩
      rw [iP D,hx,zAA]
     ·rw [iN D,zCu (by omega)]
    ·rw [iN C,zCu (by omega)]
   have F:zWY f st d cs (notes.drop i)=(match (if isB f.Nodes notes[i].Node 1=true then (askF f st d cs notes[i]).map (fun t=>(⟨notes[i].Node,t⟩:Due)) else none) with | some u=>[u] | none=>[])++zWY f st d cs (notes.drop (i+1)):=by
    rw [eT h]
    unfold zWY
    rw [kI]
    split
    ·rename_i e;rw [e];rfl
    ·rename_i e;rw [e];rfl
   simp only [zEt]
   rw [zAP (by simpa using h),zAQ h,zAA,G,zAA,F]
   cases E:isB f.Nodes notes[i].Node 1 with
   | false =>
    rw [jZ,zAW,zAZ (by omega),zAA,K (i+1) k q (by omega) (by omega) (by omega)]
    rfl
   | true =>
    have J:InN f.Nodes notes[i].Node:=by
     unfold isB at E
     cases e:idx f.Nodes notes[i].Node with
     | none=>rw [e] at E;cases E
     | some z=>exact zAM e
    obtain ⟨r,S,T⟩:=zfF hfu hr hl hw hcs hst J
    rw [iE,zAF,S,zAA,iP rfl,<- T]
    cases r.2 with
    | true =>
     rw [zAW,zBF (by simp only [cP,eK];omega),zAA,zAZ (by omega),zAA,K (i+1) k _ (by omega) (by omega) (by simp only [eR,cP,eK];omega),eS]
     rfl
    | false =>
     rw [zAF,zAZ (by omega),zAA,K (i+1) k q (by omega) (by omega) (by omega)]
     rfl
 have:=N notes.length 0 fu [] (by omega) I (by simp)
 simpa using this
end
theorem zXo {f:Forest} {st:List State} {d:Desk} {cs:List Class}:(zWY f st d cs notes).length<=notes.length:=kG _ _
theorem zfk {f:Forest} {st:List State} {d:Desk} {cs:List Class} {u:Due} (h:u∈zWY f st d cs notes):isB f.Nodes u.Node 1=true/\zJX d.Defs.length u.Todo=true/\∃x∈notes,u.Node=x.Node/\askF f st d cs x=some u.Todo:=by
 unfold zWY at h
 obtain ⟨x,hx,i⟩:=kH.1 h
 split at i
 ·rename_i j
  obtain ⟨t,e,rfl⟩:=lI.1 i
  refine ⟨j,?_,x,hx,rfl,e⟩
  unfold askF at e
  split at e
  ·split at e
   ·split at e
    ·rename_i hf
     cases e
     have:=zTd.resolve_left hf.2
     unfold zJX upgT
     simp only [dD,lM]
     right
     exact ⟨rfl,zKK.2 this⟩
    ·cases e
   ·split at e
    ·split at e
     ·split at e
      ·rename_i q
       cases e
       unfold zJX zgA
       simp only [dD,lM,decide_eq_true_eq]
       left
       have:=q.1
       omega
      ·cases e
     ·cases e
    ·cases e
  ·cases e
 ·cases i
end
section
def zZm (ns:List Node) (ids:List (Int×List (Bs×Int))):Prop:=∀p∈ids,∀q∈p.2,InN ns q.2
def zPd (ns:List Node) (r:Int):Prop:=r = -1\/InN ns r
theorem zWj {fu:Nat}:∃b,zGn fu x=some b:=by
 unfold zGn
 rw [zBD];split<;>exact ⟨_,rfl⟩
section
variable {fu:Nat} {f:Forest} (hr:zAJ f=true) (hfu:1000<fu)
include hr
theorem near_l:∀n,InN f.Nodes n->∀K,(way f.Nodes n).length<K->∃r,zBt fu f.Nodes K n=some r/\zPd f.Nodes r:=by
 have T:=zCQ hr
 refine T.up_ind fun n h C K e=>?_
 obtain ⟨K,rfl⟩:∃j,K=j+1:=⟨K - 1,by omega⟩
 obtain ⟨x,hx⟩:=zAK h
 have q:n ≠ -1:=by unfold InN at h;omega
 obtain ⟨b,u⟩:=zWj (fu:=fu) (x:=x)
 rw [T.way_eq h] at e
 simp only [cP] at e
 simp only [zBt]
 rw [zAd,iN q,hx,zAA,u,zAA,zAA]
 cases b with
 | true=>exact ⟨n,rfl,.inr h⟩
 | false =>
  rw [zAF]
  by_cases i:zJU f.Nodes n = -1
  ·rw [<- zJ3 hx,i]
   rw [iP i] at e
   obtain ⟨K,rfl⟩:∃j,K=j+1:=⟨K - 1,by simp at e;omega⟩
   simp only [zBt]
   rw [zAd,iP rfl]
   exact ⟨-1,rfl,.inl rfl⟩
  ·rw [<- zJ3 hx]
   rw [iN i] at e
   exact C i K (by omega)
include hfu
theorem zf7 (i:InN f.Nodes n):∃r,zDt fu f.Nodes n=some r/\zPd f.Nodes r:=by
 have T:=zCQ hr
 have h:=(zAI hr).few
 obtain ⟨x,hx⟩:=zAK i
 unfold zDt
 rw [hx,zAA,<- zJ3 hx]
 by_cases j:zJU f.Nodes n = -1
 ·rw [j]
  obtain ⟨K,rfl⟩:∃q,fu=q+1:=⟨fu - 1,by omega⟩
  simp only [zBt]
  rw [zAd,iP rfl]
  exact ⟨-1,rfl,.inl rfl⟩
 ·have e:=(T.par n i j).1
  have:=(T.way_len e).2
  exact near_l hr _ e fu (by omega)
omit hr in
theorem tree_l {u:Int} (P:L.length<=1000) (D:∀k∈L,InN f.Nodes k) (I:zZm f.Nodes ids):∀(j i K:Nat) (t:List (Bs×Int)),i+j=L.length->j<K->(∀q∈t,InN f.Nodes q.2)->∃G e,zBV fu f.Nodes u ids L K ((i:Int),t)=some (G,e)/\(∀q∈G,InN f.Nodes q.2)/\zZm f.Nodes e:=by
 intro j
 induction j with
 | zero =>
  intro i K t hi J r
  obtain ⟨K,rfl⟩:∃C,K=C+1:=⟨K - 1,by omega⟩
  obtain rfl:i=L.length:=by omega
  simp only [zBV]
  rw [zAO (by simp)]
  refine ⟨_,_,rfl,r,fun p M=>?_⟩
  rcases zWy M with h | rfl
  ·exact I p h
  ·exact r
 | succ j E =>
  intro i K t hi J r
  obtain ⟨K,rfl⟩:∃C,K=C+1:=⟨K - 1,by omega⟩
  have h:i<L.length:=by omega
  have F:=D _ (gC h)
  obtain ⟨x,hx⟩:=zAK F
  simp only [zBV]
  rw [zAP (by simpa using h),zAQ h,zAA,hx,zAA,zRB (by omega),zAA,zAZ (by omega)]
  simp only [zAA]
  cases (zcm x.Attrs [105,100]).2 with
  | false=>exact E (i+1) K t (by omega) (by omega) r
  | true =>
   rw [zAW]
   cases zLT t (zcm x.Attrs [105,100]).1 with
   | true=>exact E (i+1) K t (by omega) (by omega) r
   | false =>
    refine E (i+1) K _ (by omega) (by omega) fun q N=>?_
    rcases zWy N with h | rfl
    ·exact r q h
    ·exact F
theorem zgw {e:Int} (i:InN f.Nodes e) (r:zZm f.Nodes ids):∃t j,zFA fu f.Nodes f.Most e ids=some (t,j)/\(∀q∈t,InN f.Nodes q.2)/\zZm f.Nodes j:=by
 have T:=zCQ hr
 have hs:=zAI hr
 have u:=hs.few
 unfold zFA
 cases h:zLT ids e with
 | true=>exact ⟨_,_,rfl,r _ (zTr h),r⟩
 | false =>
  have C:=T.all_len i
  rw [zAF,zXY (f:=⟨f.Nodes,f.Most⟩) hs hfu hr i,zAA]
  exact tree_l hfu (L:=zNR f.Nodes e) (by omega) (fun k D=>(T.all_in e i k D).1) r (zNR f.Nodes e).length 0 fu [] (by omega) (by omega) (by simp)
theorem of_ok (h:InN f.Nodes n) (j:zZm f.Nodes ids):∃r e,zEn fu f.Nodes f.Most n ids=some (r,e)/\zPd f.Nodes r/\zZm f.Nodes e:=by
 have T:=zCQ hr
 have hs:=zAI hr
 obtain ⟨x,hx⟩:=zAK h
 obtain ⟨J,D,q⟩:=zf7 hr hfu h
 unfold zEn
 rw [hx,zAA,zAd,zRB (by omega),zAA,D]
 simp only [zAA]
 by_cases u:x.Kind=1
 ·rw [iP u]
  cases (zcm x.Attrs [102,111,114,109]).2 with
  | false=>exact ⟨_,_,rfl,q,j⟩
  | true =>
   rw [iE,zAF,zWA (f:=⟨f.Nodes,f.Most⟩) hs hfu hr h,zAA]
   cases zWW f.Nodes n with
   | false=>exact ⟨_,_,rfl,q,j⟩
   | true =>
    obtain ⟨t,e,E,F,i⟩:=zgw hr hfu (T.root_in h) j
    simp only [iE,zAF]
    rw [zZv (f:=⟨f.Nodes,f.Most⟩) hs hfu hr h,zAA,E,zAA]
    simp only
    cases I:zLT t (zcm x.Attrs [102,111,114,109]).1 with
    | false=>exact ⟨_,_,rfl,.inl rfl,i⟩
    | true =>
     rw [iE,zAF]
     cases ((zcm x.Attrs [102,111,114,109]).1==([]:Bs)) with
     | true=>exact ⟨_,_,rfl,.inl rfl,i⟩
     | false =>
      have C:=F _ (zTr (z:=0) I)
      obtain ⟨y,hy⟩:=zAK C
      obtain ⟨b,G⟩:=zWj (fu:=fu) (x:=y)
      rw [zAF]
      simp only at hy
      rw [hy,zAA,G,zAA]
      cases b with
      | false=>exact ⟨_,_,rfl,.inl rfl,i⟩
      | true=>exact ⟨_,_,rfl,.inr C,i⟩
 ·rw [iN u]
  exact ⟨_,_,rfl,.inl rfl,j⟩
theorem zbV:∃L,zLA fu f=some L/\L.length=f.Nodes.length/\∀r∈L,zPd f.Nodes r:=by
 have hs:=zAI hr
 have I:=hs.few
 have G:∀(j i K:Nat) (e:List Int) (ids:List (Int×List (Bs×Int))),i+j=f.Nodes.length->j<K->e.length=i->(∀r∈e,zPd f.Nodes r)->zZm f.Nodes ids->∃L,zGm fu f ⟨f,[]⟩ K ((i:Int),e,ids)=some L/\L.length=f.Nodes.length/\∀r∈L,zPd f.Nodes r:=by
  intro j
  induction j with
  | zero =>
   intro i K e ids hi Q F u _
   obtain ⟨K,rfl⟩:∃E,K=E+1:=⟨K - 1,by omega⟩
   obtain rfl:i=f.Nodes.length:=by omega
   simp only [zGm]
   rw [zAO (by simp)]
   exact ⟨e,rfl,F,u⟩
  | succ j T =>
   intro i K e ids hi Q F u P
   obtain ⟨K,rfl⟩:∃E,K=E+1:=⟨K - 1,by omega⟩
   have h:i<f.Nodes.length:=by omega
   obtain ⟨r,D,J,M,N⟩:=of_ok hr hfu (n:=(i:Int)) (ids:=ids) ⟨by omega,by omega⟩ P
   simp only [zGm]
   rw [zAP (by simpa using h),J,zAA,zBF (by simp only [cP,eK];omega),zAA,zAZ (by omega),zAA]
   refine T (i+1) K (e++[r]) D (by omega) (by omega) (by simp [F]) (fun q C=>?_) N
   rcases cA.1 C with C | C
   ·exact u q C
   ·rw [e8.1 C];exact M
 unfold zLA zIF
 rw [zFP hfu (hs.fit hfu),zAA,hr,iE,zAF,zAA]
 exact G f.Nodes.length 0 fu [] [] (by omega) (by omega) rfl (by simp) (by intro p S;cases S)
omit hr in
theorem zRK:∃b,zFd fu x=some b:=by
 unfold zFd
 rw [zRB (by omega),zAA,zBD];split<;>exact ⟨_,rfl⟩
theorem za7 (D:InN f.Nodes n):∃r,zIr fu f n=some r:=by
 have hs:=zAI hr
 obtain ⟨x,hx⟩:=zAK D
 have C:=hs.kids x (zIh hx)
 unfold zIr
 rw [hx,zAA]
 have E:∀k∈x.Kids,zDC fu k f=some (match idx f.Nodes k with | some y=>y.Kind==1&&y.Name==([108,101,103,101,110,100]:Bs) | none=>false):=fun k u=>by
  obtain ⟨y,hy⟩:=zAK (zf1 hr hx u)
  unfold zDC
  rw [hy,zAA,zAA]
  simp only
  cases y.Kind==1<;>rfl
 have hi:zAS fu (fun j=>zDC fu j f) x.Kids=some (zJ4 x.Kids fun k=>match idx f.Nodes k with | some y=>y.Kind==1&&y.Name==([108,101,103,101,110,100]:Bs) | none=>false):=by
  unfold zAS
  refine zUR (L:=zAH (fun j=>zDC fu j f) x.Kids) x.Kids _ (fun i h k=>?_) (fun k=>?_) (by omega)
  ·simp only [zAH]
   rw [zAP (by simpa using h),zAQ h,zAA,E _ (gC h),zAA,zAZ (by omega),zAA]
   generalize (match idx f.Nodes x.Kids[i] with | some y=>y.Kind==1&&y.Name==([108,101,103,101,110,100]:Bs) | none=>false)=b
   cases b<;>rfl
  ·simp only [zAH]
   rw [zAO (by simp)]
 rw [hi,zAA,zAN]
 cases e:x.Kids.any (fun k=>match idx f.Nodes k with | some y=>y.Kind==1&&y.Name==([108,101,103,101,110,100]:Bs) | none=>false) with
 | false=>rw [iP (zSt.2 e)];exact ⟨_,rfl⟩
 | true =>
  obtain ⟨i,h,q,_⟩:=zRr e
  rw [iN (by rw [q];omega),q,zAQ h,zAA]
  exact ⟨_,rfl⟩
theorem zcu:∀n,InN f.Nodes n->∀(K:Nat) (b:Int),(way f.Nodes n).length<K->∃r,zCY fu f K (b,n)=some r:=by
 have T:=zCQ hr
 refine T.up_ind fun n h C K b e=>?_
 obtain ⟨K,rfl⟩:∃j,K=j+1:=⟨K - 1,by omega⟩
 obtain ⟨x,hx⟩:=zAK h
 have q:n ≠ -1:=by unfold InN at h;omega
 obtain ⟨d,u⟩:=zRK (fu:=fu) hfu (x:=x)
 obtain ⟨l,hl⟩:=za7 hr hfu h
 rw [T.way_eq h] at e
 simp only [cP] at e
 have next:∃r,zCY fu f K (n,x.Parent)=some r:=by
  rw [<- zJ3 hx]
  by_cases i:zJU f.Nodes n = -1
  ·rw [i]
   rw [iP i] at e
   obtain ⟨K,rfl⟩:∃j,K=j+1:=⟨K - 1,by simp at e;omega⟩
   simp only [zCY]
   rw [zAd,iP rfl]
   exact ⟨_,rfl⟩
  ·rw [iN i] at e
   exact C i K n (by omega)
 simp only [zCY]
 rw [zAd,iN q,hx,zAA,u,zAA,hl,zAA,zAA]
 cases x.Name==([102,105,101,108,100,115,101,116]:Bs) with
 | false=>exact next
 | true =>
  rw [zAW]
  cases d with
  | false=>exact next
  | true =>
   rw [zAW,zAd]
   split
   ·exact next
   ·exact ⟨_,rfl⟩
theorem zZq (h:InN f.Nodes n):∃r,zGu fu f n=some r:=by
 have T:=zCQ hr
 have hs:=zAI hr
 have j:=hs.few
 obtain ⟨x,hx⟩:=zAK h
 obtain ⟨d,C⟩:=zRK (fu:=fu) hfu (x:=x)
 have i:∃r,zIq fu f n=some r:=by
  unfold zIq
  rw [hx,zAA,C,zAA,zAA,zAA,zAA]
  cases d with
  | true=>exact ⟨_,rfl⟩
  | false =>
   rw [zAF,zAd]
   split
   ·rw [<- zJ3 hx]
    by_cases q:zJU f.Nodes n = -1
    ·rw [q]
     obtain ⟨K,rfl⟩:∃u,fu=u+1:=⟨fu - 1,by omega⟩
     simp only [zCY]
     rw [zAd,iP rfl]
     exact ⟨_,rfl⟩
    ·have e:=(T.par n h q).1
     have:=(T.way_len e).2
     exact zcu hr hfu _ e fu n (by omega)
   ·exact ⟨_,rfl⟩
 obtain ⟨r,i⟩:=i
 unfold InN at h
 unfold zGu
 rw [zAP (decide_eq_true (show n>=0 from h.1)),zAP (decide_eq_true h.2),zFP hfu (hs.fit hfu),zAA,hr,zAW,i,zAA]
 exact ⟨_,rfl⟩
theorem zZL (x:Int):∃L,zG4 fu f x=some L/\L.length<=400/\∀r∈L,InN f.Nodes r:=by
 have T:=zCQ hr
 have hs:=zAI hr
 have hfew:=hs.few
 have no:∃L,some ([]:List Int)=some L/\L.length<=400/\∀r∈L,InN f.Nodes r:=⟨[],rfl,by simp,by simp⟩
 unfold zG4
 rw [zAN,zAN,zFP hfu (hs.fit hfu),zAA,hr,iE,zAF]
 by_cases h0:x<0
 ·rw [iP h0];exact no
 ·rw [iN h0]
  by_cases h1:x>=(f.Nodes.length:Int)
  ·rw [iP h1];exact no
  ·have hx:InN f.Nodes x:=by unfold InN;omega
   obtain ⟨y,hy⟩:=zAK hx
   obtain ⟨b,hb⟩:=zWj (fu:=fu) (x:=y)
   have G:=T.root_in hx
   have hal:=T.all_len G
   rw [iN h1,hy,zAA,hb,zAA]
   cases b with
   | false=>exact no
   | true =>
    unfold zIF
    rw [iE,zAF,zAA,zZv hs hfu hr hx,zAA,zXY hs hfu hr G,zAA]
    simp only
    have M:∀k ids,InN f.Nodes k->zZm f.Nodes ids->∃b e,zA4 fu k f.Nodes f.Most x ids=some (b,e)/\zZm f.Nodes e:=fun k ids hk E=>by
     obtain ⟨r,e,C,_,g3⟩:=of_ok hr hfu hk E
     unfold zA4
     rw [C,zAA]
     exact ⟨_,_,rfl,g3⟩
    have Q:∀k∈zNR f.Nodes (zSL f.Nodes x),InN f.Nodes k:=fun k hk=>(T.all_in _ G k hk).1
    generalize zNR f.Nodes (zSL f.Nodes x)=L at hal Q
    have ix:∀(j i K:Nat) (ids:List (Int×List (Bs×Int))),i+j=L.length->j<K->zZm f.Nodes ids->∃r e,zBS (fun N P=>zA4 fu N f.Nodes f.Most x P) L K ((i:Int),ids)=some (r,e)/\zZm f.Nodes e/\(r = -1\/∃m:Nat,r=(m:Int)/\m<L.length):=by
     intro j
     induction j with
     | zero =>
      intro i K ids hi hK E
      obtain ⟨K,rfl⟩:∃u,K=u+1:=⟨K - 1,by omega⟩
      obtain rfl:i=L.length:=by omega
      simp only [zBS]
      rw [zAO (by simp)]
      exact ⟨_,_,rfl,E,.inl rfl⟩
     | succ j V =>
      intro i K ids hi hK E
      obtain ⟨K,rfl⟩:∃u,K=u+1:=⟨K - 1,by omega⟩
      have h:i<L.length:=by omega
      obtain ⟨b,e,C,D⟩:=M _ ids (Q _ (gC h)) E
      simp only [zBS]
      rw [zAP (by simpa using h),zAQ h,zAA,C,zAA,zAZ (by omega),zAA]
      cases b with
      | true=>exact ⟨_,_,rfl,D,.inr ⟨i,rfl,h⟩⟩
      | false=>exact V (i+1) K e (by omega) (by omega) D
    have del:∀(d i j K:Nat) (m:List Int) (ids:List (Int×List (Bs×Int))),j+d=m.length->m.length<=400->d<K->i<j->(∀r∈m,InN f.Nodes r)->zZm f.Nodes ids->∃W e,zAq (fun N P=>zA4 fu N f.Nodes f.Most x P) K ((i:Int),(j:Int),m,ids)=some (W,e)/\W.length<=400/\∀r∈W,InN f.Nodes r:=by
     intro d
     induction d with
     | zero =>
      intro i j K m ids hj S hK hij q _
      obtain ⟨K,rfl⟩:∃u,K=u+1:=⟨K - 1,by omega⟩
      obtain rfl:j=m.length:=by omega
      simp only [zAq]
      rw [zAO (by simp)]
      obtain ⟨I,e2,e3,e4⟩:∃I,zVu m (i:Int) (0:Int)=some I/\I.length=m.length/\I.take i=m.take i:=by
       unfold zVu
       rw [iP ⟨by omega,by omega⟩]
       refine ⟨_,rfl,?_,?_⟩
       ·simp;omega
       ·rw [eO,jG (by simp;omega),jY,Nat.min_self]
      rw [e2,zAA]
      rw [show piece I 0 (i:Int)=some (I.take i) from by
       unfold piece
       rw [iP ⟨by omega,by omega,by omega⟩]
       simp,zAA,e4]
      exact ⟨_,_,rfl,by simp;omega,fun r F=>q r (List.mem_of_mem_take F)⟩
     | succ d V =>
      intro i j K m ids hj S hK hij q E
      obtain ⟨K,rfl⟩:∃u,K=u+1:=⟨K - 1,by omega⟩
      have h:j<m.length:=by omega
      have hi:i<m.length:=by omega
      obtain ⟨b,e,C,D⟩:=M _ ids (q _ (gC h)) E
      simp only [zAq]
      rw [zAP (by simpa using h),zAQ h,zAA,C,zAA,zAQ hi,zAA,zAZ (by omega),zAZ (by omega),eO]
      simp only [zAA]
      cases b with
      | true=>exact V i (j+1) K m e (by omega) S (by omega) (by omega) q D
      | false =>
       refine V (i+1) (j+1) K (m.set i m[j]) e (by simp;omega) (by simpa using S) (by omega) (by omega) (fun r F=>?_) D
       rcases dT F with h' | rfl
       ·exact q r h'
       ·exact q _ (gC h)
    obtain ⟨r,e,C,D,g3⟩:=ix L.length 0 fu [] (by omega) (by omega) (by intro p hp;cases hp)
    have J:∃X,zDB fu (fun N P=>zA4 fu N f.Nodes f.Most x P) L []=some X/\X.1.length<=400/\∀k∈X.1,InN f.Nodes k:=by
     unfold zDB zEo
     rw [show ((0:Int),([]:List (Int×List (Bs×Int))))=(((0:Nat):Int),[]) from rfl,C,zAA]
     simp only
     rw [zBD]
     rcases g3 with rfl | ⟨m,rfl,S⟩
     ·rw [iP rfl];exact ⟨_,rfl,by simp only;omega,Q⟩
     ·rw [iN (by omega),zAZ (by omega),zAA]
      obtain ⟨W,ids2,k1,k2,k3⟩:=del (L.length - (m+1)) m (m+1) fu L e (by omega) (by omega) (by omega) (by omega) Q D
      exact ⟨_,k1,k2,k3⟩
    obtain ⟨X,k1,k2,k3⟩:=J
    rw [k1,zAA]
    exact ⟨_,rfl,k2,k3⟩
end
end
section
def Upd (ns:List Node) (i:Int) (s e:State):Prop:=e=s\/(isB ns i 1=true/\e.Phase=s.Phase/\e.Def=s.Def/\(e.Owner=s.Owner\/zPd ns e.Owner))
theorem Upd.trans {i:Int} {a b c:State} (u:Upd ns i a b) (C:Upd ns i b c):Upd ns i a c:=by
 rcases C with rfl | ⟨e,j,q,r⟩
 ·exact u
 ·rcases u with rfl | ⟨F,D,E,k4⟩
  ·exact .inr ⟨e,j,q,r⟩
  ·refine .inr ⟨e,j.trans D,q.trans E,?_⟩
   rcases r with h | h
   ·rcases k4 with k | k
    ·exact .inl (h.trans k)
    ·exact .inr (by rw [h];exact k)
   ·exact .inr h
def zZy (ns:List Node) (st e:List State):Prop:=e.length=st.length/\∀(i:Nat) (h:State),e[i]? = some h->∃s,st[i]? = some s/\Upd ns (i:Int) s h
theorem zZy.refl (ns:List Node) (st:List State):zZy ns st st:=⟨rfl,fun _ s h=>⟨s,h,.inl rfl⟩⟩
theorem zZy.set {st j:List State} (h:zZy ns st j) {n:Nat} {s v:State} (hs:j[n]? = some s) (u:Upd ns (n:Int) s v):zZy ns st (j.set n v):=by
 refine ⟨by simpa using h.1,fun i C hi=>?_⟩
 rw [kJ] at hi
 split at hi
 ·rename_i e
  subst e
  split at hi
  ·cases hi
   obtain ⟨D,q,r⟩:=h.2 n s hs
   exact ⟨D,q,r.trans u⟩
  ·cases hi
 ·exact h.2 i C hi
theorem zRO {fu:Nat} {ws:List Wait} {nx:Int} {bz:Bool} {cs:List Class} {st:List State} {s:State} {y:Node} (hs:idx st n=some s) (hy:idx ns n=some y) :
  ∃c b,zDH fu n ns defs ws nx bz cs st=some (c,b)/\(b=true->s.Phase=3/\zKH s defs cs=some c/\y.Kind=1):=by
 unfold zDH
 rw [hs,zAA,zXh,zAA,hy]
 simp only
 cases i:zKH s defs cs with
 | none=>exact ⟨_,_,rfl,fun h=>by cases h⟩
 | some c =>
  simp only [zAW,zAA]
  rw [zBD]
  cases c.Form with
  | false=>exact ⟨_,_,rfl,fun h=>by cases h⟩
  | true =>
   rw [zAW]
   by_cases e:s.Phase=3
   ·rw [iP e]
    exact ⟨_,_,rfl,fun h=>⟨e,rfl,by simpa using h⟩⟩
   ·rw [iN e]
    exact ⟨_,_,rfl,fun h=>by cases h⟩
theorem zOW {fu:Nat} {c:Class} {l:List Due} (hl:l.length<=1000000):∃e,zCq fu c n t l=some (l++e)/\(e=[]\/e=[⟨n,t⟩]):=by
 unfold zCq
 rw [zTj,zAA,zBF (by simp only [cP,eK];omega),zAA]
 cases zMP c t.Kind with
 | true=>exact ⟨[⟨n,t⟩],rfl,.inr rfl⟩
 | false=>exact ⟨[],by rw [gI];rfl,.inl rfl⟩
section
variable {fu:Nat} {f:Forest} {st:List State} {d:Desk} {cs:List Class} (hfu:1000<fu) (hr:zAJ f=true) (hl:d.Defs.length<=900) (hw:d.Waits.length<=900) (hst:st.length=f.Nodes.length)
include hfu hr hl hw hst
theorem zTb:zHZ fu f st d cs=some ((),zNF d,f.Nodes,f.Most,d.Defs,d.Waits,d.Next,d.Busy,cs,st,[]):=by
 have e:=(zAI hr).few
 unfold zHZ
 rw [zaK (by omega),zAA,show ((st.length:Int)==(f.Nodes.length:Int))=true by rw [hst];simp,zAW,zFP hfu ((zAI hr).fit hfu),zAA,hr,zAW,zRM hfu hl hw,zAA]
def zYm (ns:List Node) (u:Due):Prop:=isB ns u.Node 1=true/\(u.Todo.Kind=5\/u.Todo.Kind=6)
omit hl hw in
theorem told_l (hL:L.length=f.Nodes.length) (hin:∀r∈L,zPd f.Nodes r):∀(j i K:Nat) (q:List State) (due:List Due),i+j=L.length->j<K->zZy f.Nodes st q->(∀u∈due,zYm f.Nodes u)->due.length<=2*i->(d.Defs=[]->q=st/\due=[]) ->
  ∃Q C,zDe fu f ((),true,f.Nodes,f.Most,d.Defs,d.Waits,d.Next,d.Busy,cs,st,[]) L K ((i:Int),q,due)=some (Q,C)/\zZy f.Nodes st Q/\(∀u∈C,zYm f.Nodes u)/\C.length<=2*L.length/\(d.Defs=[]->Q=st/\C=[]):=by
 have hfew:=(zAI hr).few
 intro j
 induction j with
 | zero =>
  intro i K q due hi hK M S I hn
  obtain ⟨K,rfl⟩:∃K',K=K'+1:=⟨K - 1,by omega⟩
  obtain rfl:i=L.length:=by omega
  simp only [zDe]
  rw [zAO (by simp)]
  exact ⟨_,_,rfl,M,S,I,hn⟩
 | succ j ih =>
  intro i K q due hi hK M S I hn
  obtain ⟨K,rfl⟩:∃K',K=K'+1:=⟨K - 1,by omega⟩
  have h:i<L.length:=by omega
  have N:i<f.Nodes.length:=by omega
  have F:i<q.length:=by rw [M.1,hst];exact N
  have hni:InN f.Nodes (i:Int):=by unfold InN;omega
  have hown:=hin _ (gC h)
  obtain ⟨c,b,h1,h2⟩:=zRO (fu:=fu) (defs:=d.Defs) (ws:=d.Waits) (nx:=d.Next) (bz:=d.Busy) (cs:=cs) (zAQ F) (zAQ N)
  obtain ⟨D,X⟩:=zZq hr hfu hni
  simp only [zDe]
  rw [zAP (by simpa using h),zAQ h,zAA,h1,zAA,zAZ (by omega)]
  simp only [zAA]
  cases b with
  | false=>exact ih (i+1) K q due (by omega) (by omega) M S (by omega) hn
  | true =>
   obtain ⟨g1,g2,g3⟩:=h2 rfl
   have hB:isB f.Nodes (i:Int) 1=true:=by unfold isB;rw [zAQ N];simpa using g3
   have hdn:¬d.Defs=[]:=fun e=>by rw [e,zNn] at g2;cases g2
   have P:∀(a:List State) (b:List Due),d.Defs=[]->a=st/\b=[]:=fun _ _ e=>absurd e hdn
   have hgs:q[i]? = some q[i]:=lC F
   rw [iE,zAF,zAQ F,zAA,zAd,X]
   have J:∀{t:Todo} {G E:List Due},(t.Kind=5\/t.Kind=6)->(∀u∈G,zYm f.Nodes u)->(E=[]\/E=[⟨(i:Int),t⟩])->∀u∈G++E,zYm f.Nodes u:=fun ht hd hl' u T=>by
    rcases cA.1 T with T | T
    ·exact hd u T
    ·rcases hl' with rfl | rfl
     ·cases T
     ·rw [e8.1 T];exact ⟨hB,ht⟩
   by_cases ho:q[i].Owner=L[i]
   ·rw [iP ho,zAA]
    cases hb2:D==q[i].Barred with
    | true=>exact ih (i+1) K q due (by omega) (by omega) M S (by omega) hn
    | false =>
     obtain ⟨E,k1,k2⟩:=zOW (fu:=fu) (c:=c) (n:=(i:Int)) (t:=⟨6,0,[],false,false,[],[],0,0,D⟩) (l:=due) (by omega)
     rw [jZ,zAW,k1,zAA,eO]
     have hll:E.length<=1:=by rcases k2 with rfl | rfl<;>simp
     exact ih (i+1) K _ (due++E) (by omega) (by omega) (M.set hgs (.inr ⟨hB,rfl,rfl,.inl rfl⟩)) (J (.inr rfl) S k2) (by rw [eR];omega) (P _ _)
   ·rw [iN ho]
    obtain ⟨E,k1,k2⟩:=zOW (fu:=fu) (c:=c) (n:=(i:Int)) (t:=⟨5,0,[],false,false,[],[],q[i].Owner,L[i],false⟩) (l:=due) (by omega)
    have hll:E.length<=1:=by rcases k2 with rfl | rfl<;>simp
    have W:=M.set (v:=⟨q[i].Phase,q[i].Def,L[i],q[i].Barred⟩) hgs (.inr ⟨hB,rfl,rfl,.inr hown⟩)
    have V:=J (.inl rfl) S k2
    rw [k1,zAA,zAA,eO]
    cases hb2:D==q[i].Barred with
    | true=>exact ih (i+1) K _ (due++E) (by omega) (by omega) W V (by rw [eR];omega) (P _ _)
    | false =>
     obtain ⟨l2,k3,k4⟩:=zOW (fu:=fu) (c:=c) (n:=(i:Int)) (t:=⟨6,0,[],false,false,[],[],0,0,D⟩) (l:=due++E) (by rw [eR];omega)
     have hll2:l2.length<=1:=by rcases k4 with rfl | rfl<;>simp
     rw [jZ,zAW,k3,zAA]
     have hg2:(q.set i (⟨q[i].Phase,q[i].Def,L[i],q[i].Barred⟩:State))[i]? = some ⟨q[i].Phase,q[i].Def,L[i],q[i].Barred⟩:=by
      rw [kJ,iP rfl,iP F]
     exact ih (i+1) K _ (due++E++l2) (by omega) (by omega) (W.set (v:=⟨q[i].Phase,q[i].Def,L[i],D⟩) hg2 (.inr ⟨hB,rfl,rfl,.inl rfl⟩)) (J (.inr rfl) V k4) (by simp only [eR];omega) (P _ _)
theorem zgt (G:zNF d=true):∃h e,zI8 fu f st d cs=some (h,e)/\zZy f.Nodes st h/\(∀u∈e,zYm f.Nodes u)/\e.length<=800/\(d.Defs=[]->h=st/\e=[]):=by
 have i:=(zAI hr).few
 obtain ⟨L,D,E,F⟩:=zbV hr hfu
 unfold zI8
 rw [zTb hfu hr hl hw hst,zAA,G]
 simp only [iE,zAF]
 rw [D,zAA]
 obtain ⟨h,e,j,q,r,I,C⟩:=told_l (d:=d) (cs:=cs) hfu hr hst E F L.length 0 fu st [] (by omega) (by omega) (zZy.refl _ _) (by simp) (by simp) (fun _=>⟨rfl,rfl⟩)
 exact ⟨h,e,j,q,r,by omega,C⟩
theorem zd1 (x:Int):∃due,zJq fu f st d cs x=some due/\due.length<=400/\(∀u∈due,InN f.Nodes u.Node/\u.Todo.Kind=7)/\(d.Defs=[]->due=[]):=by
 have Q:=(zAI hr).few
 obtain ⟨L,X,h2,h3⟩:=zZL hr hfu x
 unfold zJq
 rw [zTb hfu hr hl hw hst,zAA]
 cases hd:zNF d with
 | false=>exact ⟨[],rfl,by simp,by simp,fun _=>rfl⟩
 | true =>
  simp only [iE,zAF]
  rw [X,zAA]
  have N:∀(j i K:Nat) (due:List Due),i+j=L.length->j<K->due.length<=i->(∀u∈due,InN f.Nodes u.Node/\u.Todo.Kind=7)->(d.Defs=[]->due=[])->∃q,zEv fu ((),true,f.Nodes,f.Most,d.Defs,d.Waits,d.Next,d.Busy,cs,st,[]) L K ((i:Int),due)=some q/\q.length<=L.length/\(∀u∈q,InN f.Nodes u.Node/\u.Todo.Kind=7)/\(d.Defs=[]->q=[]):=by
   intro j
   induction j with
   | zero =>
    intro i K due hi hK r E M
    obtain ⟨K,rfl⟩:∃F,K=F+1:=⟨K - 1,by omega⟩
    obtain rfl:i=L.length:=by omega
    simp only [zEv]
    rw [zAO (by simp)]
    exact ⟨_,rfl,r,E,M⟩
   | succ j S =>
    intro i K due hi hK r E M
    obtain ⟨K,rfl⟩:∃F,K=F+1:=⟨K - 1,by omega⟩
    have h:i<L.length:=by omega
    have J:=h3 _ (gC h)
    obtain ⟨y,hy⟩:=zAK J
    obtain ⟨s,hs⟩:=zAK (l:=st) (n:=L[i]) (by rw [hst];exact J)
    obtain ⟨c,b,G,P⟩:=zRO (fu:=fu) (defs:=d.Defs) (ws:=d.Waits) (nx:=d.Next) (bz:=d.Busy) (cs:=cs) hs hy
    simp only [zEv]
    rw [zAP (by simpa using h),zAQ h,zAA,G,zAA,zAZ (by omega)]
    simp only [zAA]
    cases b with
    | false=>exact S (i+1) K due (by omega) (by omega) (by omega) E M
    | true =>
     obtain ⟨_,D,_⟩:=P rfl
     have I:¬d.Defs=[]:=fun e=>by rw [e,zNn] at D;cases D
     obtain ⟨V,k1,T⟩:=zOW (fu:=fu) (c:=c) (n:=L[i]) (t:=⟨7,0,[],false,false,[],[],0,0,false⟩) (l:=due) (by omega)
     have hll:V.length<=1:=by rcases T with rfl | rfl<;>simp
     rw [zAW,k1,zAA]
     refine S (i+1) K (due++V) (by omega) (by omega) (by rw [eR];omega) (fun u C=>?_) fun e=>absurd e I
     rcases cA.1 C with C | C
     ·exact E u C
     ·rcases T with rfl | rfl
      ·cases C
      ·rw [e8.1 C];exact ⟨J,rfl⟩
  obtain ⟨q,G,P,W,D⟩:=N L.length 0 fu [] (by omega) (by omega) (by simp) (by simp) (fun _=>rfl)
  exact ⟨q,G,by omega,W,D⟩
theorem zZV (i:InN f.Nodes n) (s:Bs):∃due,zHv fu f st d cs n s=some due/\due.length<=1/\(∀u∈due,u.Node=n/\u.Todo.Kind=8)/\(d.Defs=[]->due=[]):=by
 obtain ⟨y,hy⟩:=zAK i
 obtain ⟨J,hs⟩:=zAK (l:=st) (n:=n) (by rw [hst];exact i)
 have j:=i
 unfold InN at j
 unfold zHv
 rw [zTb hfu hr hl hw hst,zAA]
 cases I:zNF d with
 | false=>exact ⟨[],rfl,by simp,by simp,fun _=>rfl⟩
 | true =>
  obtain ⟨c,b,D,E⟩:=zRO (fu:=fu) (defs:=d.Defs) (ws:=d.Waits) (nx:=d.Next) (bz:=d.Busy) (cs:=cs) hs hy
  simp only [iE,zAF]
  rw [zAO (by simp;omega),zAO (by simp;omega),D,zAA]
  cases b with
  | false=>exact ⟨[],rfl,by simp,by simp,fun _=>rfl⟩
  | true =>
   obtain ⟨_,q,_⟩:=E rfl
   have h:¬d.Defs=[]:=fun e=>by rw [e,zNn] at q;cases q
   obtain ⟨G,F,C⟩:=zOW (fu:=fu) (c:=c) (n:=n) (t:=⟨8,0,[],false,false,[],s,0,0,false⟩) (l:=[]) (by simp)
   simp only [zAW]
   rw [F,zAA]
   refine ⟨G,by rw [iS],by rcases C with rfl | rfl<;>simp,fun u r=>?_,fun e=>absurd e h⟩
   rcases C with rfl | rfl
   ·cases r
   ·rw [e8.1 r];exact ⟨rfl,rfl⟩
end
end
section
def zSZ:Line->List Task->List Due->Line×List Task
 | l,ts,[]=>(l,ts)
 | l,ts,u::r=>zSZ (zQP l u.Node u.Todo).1 (if (zQP l u.Node u.Todo).2=true then ts++[⟨1,0,0⟩] else ts) r
def zZn (w:World) (due:List Due):World:=⟨w.Forest,w.States,w.Desk,(zSZ w.Line w.Tasks due).1,(zSZ w.Line w.Tasks due).2,w.Builds,w.Classes⟩
theorem zXp:∀{due:List Due} {l:Line} {ts:List Task},(zSZ l ts due).1.Todos.length=l.Todos.length
 | [],_,_=>rfl
 | u::r,l,ts=>by simp only [zSZ];rw [zXp,zOK]
theorem zSa:∀{due:List Due} {l:Line} {ts:List Task},zHI l=true->(∀u∈due,inL l u.Node=true)->zHI (zSZ l ts due).1=true
 | [],_,_,h,_=>h
 | u::r,l,ts,h,hi=>by
  simp only [zSZ]
  refine zSa (zSN h (hi u (lH ..))) fun v e=>?_
  rw [zQX zOK]
  exact hi v (lG _ e)
theorem zSb {B:Nat}:∀{due:List Due} {l:Line} {ts:List Task} {n:Nat},LS (B+n) l->LS (B+n+due.length) (zSZ l ts due).1
 | [],_,_,_,h=>h
 | u::r,l,ts,n,h=>by
  simp only [zSZ,cP]
  have:=zSb (B:=B) (due:=r) (l:=(zQP l u.Node u.Todo).1) (ts:=if (zQP l u.Node u.Todo).2=true then ts++[⟨1,0,0⟩] else ts) (n:=n+1) (zSO h)
  exact this.mono (by omega)
theorem zPG:∀{due:List Due} {l:Line} {ts:List Task},(zSZ l ts due).2.length<=ts.length+due.length/\(∀t∈(zSZ l ts due).2,t∈ts\/t=⟨1,0,0⟩)
 | [],_,_=>⟨by simp [zSZ],fun _ h=>.inl h⟩
 | u::r,l,ts=>by
  simp only [zSZ,cP]
  obtain ⟨q,i⟩:=zPG (due:=r) (l:=(zQP l u.Node u.Todo).1) (ts:=if (zQP l u.Node u.Todo).2=true then ts++[⟨1,0,0⟩] else ts)
  refine ⟨?_,fun t j=>?_⟩
  ·have e:(if (zQP l u.Node u.Todo).2=true then ts++[(⟨1,0,0⟩:Task)] else ts).length<=ts.length+1:=by split<;>simp
   omega
  ·rcases i t j with h | h
   ·split at h
    ·rcases cA.1 h with h | h
     ·exact .inl h
     ·exact .inr (e8.1 h)
    ·exact .inl h
   ·exact .inr h
def zaW (due:List Due) (i:Nat):List Todo:=(due.filter fun u=>u.Node==(i:Int)).map (·.Todo)
theorem ze9 (q:inL l n=true) (i:Nat):(zQP l n t).1.Todos[i]? = (l.Todos[i]?).map fun a=>a++(if n=(i:Int) then [t] else []):=by
 unfold inL at q
 simp only [lM,decide_eq_true_eq] at q
 obtain ⟨m,rfl⟩:∃m:Nat,n=(m:Int):=⟨n.toNat,by omega⟩
 have j:m<l.Todos.length:=by omega
 have e:(zQP l (m:Int) t).1.Todos=l.Todos.set m ((l.Todos[m]?).getD []++[t]):=by
  unfold zQP;split<;>simp
 rw [e,kJ]
 by_cases h:m=i
 ·subst h
  rw [iP rfl,iP j,iP rfl,lC j]
  rfl
 ·rw [iN h,iN (by omega)]
  cases l.Todos[i]? <;> simp
theorem zWZ:∀{due:List Due} {l:Line} {ts:List Task} (i:Nat),(∀u∈due,inL l u.Node=true)->(zSZ l ts due).1.Todos[i]? = (l.Todos[i]?).map fun a=>a++zaW due i
 | [],l,ts,i,_=>by
  simp only [zSZ,zaW]
  cases l.Todos[i]? <;> simp
 | u::r,l,ts,i,hi=>by
  simp only [zSZ]
  rw [zWZ i (fun v e=>by rw [zQX zOK];exact hi v (lG _ e)),ze9 (hi u (lH ..)),Option.map_map]
  congr 1
  funext a
  simp only [Function.comp_apply,eS]
  congr 1
  unfold zaW
  rw [kS]
  by_cases h:u.Node=(i:Int)
  ·rw [iP h,iP (by simpa using h)];rfl
  ·rw [iN h,iN (by simpa using h)];rfl
theorem zc9 {fu B:Nat} {w0:World} (hfu:B+due.length+10000<fu) (hB:B+due.length<=1000000000):∀(j i K:Nat) (l:Line) (ts:List Task),i+j=due.length->j<K->LS (B+i) l->ts.length<=B+i->zHI l=true->(∀u∈due,inL l u.Node=true) ->
  zBf fu due ⟨w0⟩ K ((i:Int),ts,l.Todos,l.Stack,l.Back,l.Busy)=some ⟨⟨w0.Forest,w0.States,w0.Desk,(zSZ l ts (due.drop i)).1,(zSZ l ts (due.drop i)).2,w0.Builds,w0.Classes⟩⟩:=by
 intro j
 induction j with
 | zero =>
  intro i K l ts hi G hS I hR E
  obtain ⟨K,rfl⟩:∃D,K=D+1:=⟨K - 1,by omega⟩
  obtain rfl:i=due.length:=by omega
  simp only [zBf]
  rw [zAO (by simp),kF]
  rfl
 | succ j F =>
  intro i K l ts hi G hS I hR E
  obtain ⟨K,rfl⟩:∃D,K=D+1:=⟨K - 1,by omega⟩
  have h:i<due.length:=by omega
  have C:=E _ (gC h)
  have r:LS (B+(i+1)) (zQP l due[i].Node due[i].Todo).1:=zSO hS
  have e:∀u∈due,inL (zQP l due[i].Node due[i].Todo).1 u.Node=true:=fun u J=>by rw [zQX zOK];exact E u J
  have q:=zSN (t:=due[i].Todo) hR C
  simp only [zBf]
  rw [zAP (by simpa using h),zAQ h,zAA,add_ok (B:=B+i) (by omega) (by omega) hS hR C,zAA,zAZ (by omega)]
  simp only [zAA]
  rw [eT h]
  simp only [zSZ]
  cases M:(zQP l due[i].Node due[i].Todo).2 with
  | true =>
   rw [zAW,zBF (by simp only [cP,eK];omega),zAA,iP rfl]
   exact F (i+1) K (zQP l due[i].Node due[i].Todo).1 _ (by omega) (by omega) r (by simp only [eR,cP,eK];omega) q e
  | false =>
   rw [zAF,iN (by simp)]
   exact F (i+1) K (zQP l due[i].Node due[i].Todo).1 _ (by omega) (by omega) r (by omega) q e
theorem zRP {fu B:Nat} {w:World} (hfu:B+due.length+10000<fu) (hB:B+due.length<=1000000000) (hS:LS B w.Line) (h:w.Tasks.length<=B) (hR:zHI w.Line=true) (e:∀u∈due,inL w.Line u.Node=true):zBX fu due ⟨w⟩=some ⟨zZn w due⟩:=by
 unfold zBX
 rw [zaJ (by simp only;omega),zAA]
 exact zc9 hfu hB due.length 0 fu w.Line w.Tasks (by omega) (by omega) hS h hR e
structure WR (w:World):Prop where
 st:w.States.length=w.Forest.Nodes.length
 td:w.Line.Todos.length=w.Forest.Nodes.length
 cl:zLP w=true
 fr:zAJ w.Forest=true
 dk:zNF w.Desk=true
 ln:zHI w.Line=true
 per:∀(i:Nat) (s:State) (x:Node),w.States[i]? = some s->w.Forest.Nodes[i]? = some x->zLi w.Forest.Nodes.length w.Desk.Defs.length x s=true
 todo:∀l∈w.Line.Todos,∀t∈l,zJX w.Desk.Defs.length t=true
 task:∀t∈w.Tasks,zVv w.Desk.Defs.length t=true
 build:∀b∈w.Builds,zOP w.Forest.Nodes w.Desk.Defs.length b=true
theorem WR.iff {w:World}:zS8 w=true↔WR w:=by
 unfold zS8
 simp only [lM,decide_eq_true_eq,lR,kK]
 constructor
 ·rintro ⟨j,q,r,u,C,D,e,E,F⟩
  refine ⟨j,q,r,u,C,D,fun i s x hs hx=>?_,fun l hl t G=>?_,E,F⟩
  ·have hi:i<w.Line.Todos.length:=by
    have:=(lF.1 hx).1;omega
   have:=e i hi
   unfold zeo at this
   rw [hs,hx] at this
   simp only [lM] at this
   exact this.1
  ·obtain ⟨i,hi,rfl⟩:=iQ hl
   have:=e i hi
   unfold zeo at this
   rw [lC hi] at this
   simp only [lM,cM,lR] at this
   exact this.2 t G
 ·intro h
  refine ⟨h.st,h.td,h.cl,h.fr,h.dk,h.ln,fun i hi=>?_,h.task,h.build⟩
  have hs:i<w.States.length:=by rw [h.st,<- h.td];exact hi
  have hx:i<w.Forest.Nodes.length:=by rw [<- h.td];exact hi
  unfold zeo
  rw [lC hs,lC hx,lC hi]
  simp only [lM,cM,lR]
  exact ⟨h.per i _ _ (lC hs) (lC hx),h.todo _ (gC hi)⟩
theorem WR.classes {w:World} (h:WR w):∀c∈w.Classes,c.Watch.length<=12:=fun c i=>by
 have:=h.cl
 unfold zLP at this
 simp only [lM,lR] at this
 have e:=this.2.1 c i
 unfold zH1 at e
 simp only [lM,decide_eq_true_eq] at e
 exact e.1
theorem WR.enl {w:World} (h:WR w) {due:List Due} (C:∀u∈due,InN w.Forest.Nodes u.Node/\zJX w.Desk.Defs.length u.Todo=true):WR (zZn w due):=by
 have hi:∀u∈due,inL w.Line u.Node=true:=fun u r=>by
  have:=(C u r).1
  unfold InN at this
  unfold inL
  rw [h.td]
  simpa using this
 refine ⟨h.st,zXp.trans h.td,h.cl,h.fr,h.dk,zSa h.ln hi,h.per,fun l hl t j=>?_,fun t j=>?_,h.build⟩
 ·obtain ⟨i,q⟩:=List.getElem?_of_mem hl
  have e:=zWZ (l:=w.Line) (ts:=w.Tasks) i hi
  rw [show (zSZ w.Line w.Tasks due).1.Todos[i]? = some l from q] at e
  obtain ⟨a,D,E⟩:=lI.1 e.symm
  subst E
  rcases cA.1 j with j | j
  ·exact h.todo a (lU D) t j
  ·unfold zaW at j
   obtain ⟨u,r,rfl⟩:=List.mem_map.1 j
   exact (C u (iI.1 r).1).2
 ·rcases zPG.2 t j with j | rfl
  ·exact h.task t j
  ·rfl
theorem WR.inL {w:World} (h:WR w) {n:Int} (e:InN w.Forest.Nodes n):inL w.Line n=true:=by
 unfold InN at e
 unfold Proofs.YtmfbghpealgaiaaGreatDoor.inL
 rw [h.td]
 simpa using e
theorem WS.enl {B:Nat} {w:World} (h:WS B w) {due:List Due}:WS (B+due.length) (zZn w due):=by
 refine ⟨zSb (n:=0) h.line,eM zPG.1 (by have:=h.tasks;omega),by have:=h.builds;simp only [zZn];omega,h.defs,h.waits,h.kids,by have:=h.states;simp only [zZn];omega⟩
theorem zZr {fu B:Nat} {w:World} (hfu:B+due.length+10000<fu) (hB:B+due.length<=1000000000) (hS:WS B w) (hR:WR w) (h:∀u∈due,InN w.Forest.Nodes u.Node/\zJX w.Desk.Defs.length u.Todo=true):zH0 fu w due=some (zZn w due,0):=by
 unfold zH0
 rw [zR3 hS (by omega) (by omega),zAA,WR.iff.2 hR,iE,zAF]
 rw [zQE (p:=fun u => !(ltI w.Forest.Nodes.length u.Node&&zJX w.Desk.Defs.length u.Todo)) (fun u _=>by
  unfold zEG
  rw [zUT,zAA,zYi,zAA]
  cases ltI w.Forest.Nodes.length u.Node<;>rfl) (by omega) (by omega),zAA,zFm]
 have:(due.all fun u=>ltI w.Forest.Nodes.length u.Node&&zJX w.Desk.Defs.length u.Todo)=true:=by
  rw [lR]
  intro u e
  rw [lM]
  exact ⟨zKK.2 (h u e).1,(h u e).2⟩
 rw [this,iE,zAF,zRP hfu hB hS.line hS.tasks hR.ln (fun u e=>hR.inL (h u e).1),zAA]
end
section
def zUo (x:Node):State:=⟨if x.Kind=1 then (if x.Is=[] then (if zHk x.Name=true then 1 else 0) else 1) else 0,-1,-1,false⟩
theorem zfK {fu:Nat} (hfu:1000<fu):zIN fu x=some (zUo x):=by
 unfold zIN zNe zUo
 rw [zBD,zKq (by omega),zAA]
 by_cases e:x.Kind=1
 ·rw [iP e,iP e]
  by_cases h:x.Is=[]
  ·rw [h]
   cases zHk x.Name<;>rfl
  ·have:(x.Is==([]:Bs))=false:=by simpa using h
   rw [this,iN h];rfl
 ·rw [iN e,iN e]
theorem zWQ (q j:Nat) (x:Node):zLi q j x (zUo x)=true:=by
 unfold zLi zUo
 by_cases e:x.Kind=1
 ·rw [iP e,iP e]
  by_cases h:x.Is=[]
  ·by_cases i:zHk x.Name=true<;>simp [h,i]
  ·simp [h]
 ·rw [iN e,iN e];rfl
def zIW (w:World) (f:Forest):Prop:=f.Most=w.Forest.Most/\w.Forest.Nodes.length<=f.Nodes.length/\∀(i:Nat) (x:Node),w.Forest.Nodes[i]? = some x->∃y,f.Nodes[i]? = some y/\y.Kind=x.Kind
def zSe (w:World) (f:Forest) (i:Nat):Bool:=match w.Forest.Nodes[i]?,f.Nodes[i]? with | some x,some y=>y.Kind==x.Kind | _,_=>true
theorem zY8 {fu:Nat} {w:World} {f:Forest} (hfu:2000<fu) (hw:w.Forest.Nodes.length<=1000) (hf:f.Nodes.length<=1000):∃b,zET fu ⟨w⟩ f=some b/\(b=true↔zIW w f):=by
 unfold zET
 simp only
 rw [zAd,zAN]
 by_cases q:f.Most=w.Forest.Most
 ·rw [iP q]
  by_cases r:f.Nodes.length<w.Forest.Nodes.length
  ·rw [iP (by omega)]
   exact ⟨false,rfl,by simp;intro h;have:=h.2.1;omega⟩
  ·rw [iN (by omega)]
   have:=zNy (L:=zB5 ⟨w⟩ f) w.Forest.Nodes.length (zSe w f) (some true) (fun i hi k=>by
    have e:i<f.Nodes.length:=by omega
    simp only [zB5]
    rw [zAP (by simpa using hi),zAQ hi,zAA,zAQ e,zAA,zAd,zAZ (by omega),zAA]
    unfold zSe
    rw [lC hi,lC e]
    simp only
    by_cases j:f.Nodes[i].Kind=w.Forest.Nodes[i].Kind
    ·rw [iP j,j];simp
    ·rw [iN j,show (f.Nodes[i].Kind==w.Forest.Nodes[i].Kind)=false by simpa using j];rfl) (fun k=>by
    simp only [zB5]
    rw [zAO (by simp)]) (k:=fu) (by omega)
   refine ⟨(cW w.Forest.Nodes.length).all (zSe w f),this.trans ?_,?_⟩
   ·cases (cW w.Forest.Nodes.length).all (zSe w f)<;>rfl
   ·rw [lR]
    constructor
    ·intro h
     refine ⟨q,by omega,fun i x hx=>?_⟩
     have hi:=(lF.1 hx).1
     have e:i<f.Nodes.length:=by omega
     have:=h i (kK.2 hi)
     unfold zSe at this
     rw [hx,lC e] at this
     exact ⟨_,lC e,by simpa using this⟩
    ·intro h i hi
     rw [kK] at hi
     obtain ⟨y,hy,j⟩:=h.2.2 i _ (lC hi)
     unfold zSe
     rw [lC hi,hy]
     simpa using j
 ·rw [iN q]
  exact ⟨false,rfl,by simp;intro h;exact q h.1⟩
def zOa (l:Line) (n:Nat):Line:=⟨l.Todos++dH n [],l.Stack,l.Back,l.Busy⟩
def st1 (w:World) (f:Forest):List State:=w.States++(f.Nodes.drop w.Forest.Nodes.length).map zUo
def ln1 (w:World) (f:Forest):Line:=zOa w.Line (f.Nodes.length - w.Forest.Nodes.length)
def mid1 (w:World) (f:Forest):World:=⟨f,st1 w f,w.Desk,ln1 w f,w.Tasks,w.Builds,w.Classes⟩
def zVP (w:World) (f:Forest) (notes:List Note):World:=zZn (mid1 w f) (zWY f (st1 w f) w.Desk w.Classes notes)
def mid3 (w:World) (f:Forest) (notes:List Note) (e:List State):World:=⟨f,e,w.Desk,(zVP w f notes).Line,(zVP w f notes).Tasks,w.Builds,w.Classes⟩
def ze7 (w:World) (f:Forest) (notes:List Note) (v:World):Prop:=∃h e,v=zZn (mid3 w f notes h) e/\zZy f.Nodes (st1 w f) h/\(∀u∈e,zYm f.Nodes u)/\e.length<=800/\(w.Desk.Defs=[]->h=st1 w f/\e=[])
theorem zX3 {k:Int} (h:isB ns n k=true):InN ns n:=by
 unfold isB at h
 cases e:idx ns n with
 | none=>rw [e] at h;cases h
 | some x=>exact zAM e
section
variable {w:World} {f:Forest} (hR:WR w) (hf:zAJ f=true) (hF:zIW w f)
include hR hf hF
omit hf in
theorem zPV:(st1 w f).length=f.Nodes.length:=by
 have:=hF.2.1
 unfold st1
 rw [eR,lL,jA,hR.st]
 omega
theorem zSg:WR (mid1 w f):=by
 have K:=hF.2.1
 have u:∀{i:Nat} {x:Node},f.Nodes[i]? = some x->i<w.Forest.Nodes.length->∃y,w.Forest.Nodes[i]? = some y/\x.Kind=y.Kind:=fun {i x} hx hi=>by
  obtain ⟨z,hz,q⟩:=hF.2.2 i _ (lC hi)
  rw [hx] at hz
  exact ⟨_,lC hi,by rw [lJ.inj hz];exact q⟩
 have F:∀k,ltI w.Forest.Nodes.length k=true->ltI f.Nodes.length k=true:=fun k h=>by
  have:=zKK.1 h
  exact zKK.2 (by omega)
 refine ⟨zPV hR hF,?_,hR.cl,hf,hR.dk,?_,fun i s x hs hx=>?_,fun l hl t G=>?_,hR.task,fun b N=>?_⟩
 ·show (w.Line.Todos++dH (f.Nodes.length - w.Forest.Nodes.length) []).length=f.Nodes.length
  rw [eR,kT,hR.td];omega
 ·have:=hR.ln
  unfold zHI at this ⊢
  rw [lR] at this ⊢
  intro Q E
  have J:=this Q E
  rw [lR] at J ⊢
  intro n P
  have D:=J n P
  unfold inL at D ⊢
  simp only [lM,decide_eq_true_eq] at D ⊢
  refine ⟨D.1,?_⟩
  show n<((w.Line.Todos++dH (f.Nodes.length - w.Forest.Nodes.length) ([]:List Todo)).length:Int)
  rw [eR];omega
 ·show zLi f.Nodes.length w.Desk.Defs.length x s=true
  have e:(w.States++(f.Nodes.drop w.Forest.Nodes.length).map zUo)[i]? = some s:=hs
  by_cases hi:i<w.Forest.Nodes.length
  ·rw [List.getElem?_append_left (by rw [hR.st];exact hi)] at e
   obtain ⟨y,hy,q⟩:=u hx hi
   have:=hR.per i s y e hy
   unfold zLi at this ⊢
   rw [q]
   split
   ·rename_i C
    rw [iP C] at this
    simp only [lM,dD] at this ⊢
    exact ⟨this.1.imp id (F _),this.2⟩
   ·rename_i C
    rw [iN C] at this
    exact this
  ·rw [List.getElem?_append_right (by rw [hR.st];omega),lK,cD,hR.st] at e
   rw [show w.Forest.Nodes.length+(i - w.Forest.Nodes.length)=i by omega] at e
   have I:f.Nodes[i]? = some x:=hx
   rw [I] at e
   simp only [lW,lJ.injEq] at e
   rw [<- e]
   exact zWQ _ _ _
 ·rcases cA.1 hl with hl | hl
  ·exact hR.todo l hl t G
  ·rw [(kL.1 hl).2] at G;cases G
 ·have:=hR.build b N
  show zOP f.Nodes w.Desk.Defs.length b=true
  unfold zOP at this ⊢
  simp only [lM,dD] at this ⊢
  refine ⟨this.1,this.2.imp id fun h=>?_⟩
  have j:=zX3 h
  unfold isB at h ⊢
  obtain ⟨m,M⟩:∃m:Nat,b.Node=(m:Int):=⟨b.Node.toNat,by have:=j.1;omega⟩
  have r:m<w.Forest.Nodes.length:=by have:=j.2;omega
  rw [M,zAQ r] at h
  obtain ⟨y,hy,q⟩:=hF.2.2 m _ (lC r)
  rw [M,zLR,hy]
  simp only [beq_iff_eq] at h ⊢
  rw [q];exact h
omit hR hf hF in
theorem zaV (notes:List Note):∀u∈zWY f (st1 w f) w.Desk w.Classes notes,InN f.Nodes u.Node/\zJX w.Desk.Defs.length u.Todo=true:=fun u i=>by
 obtain ⟨e,h,_⟩:=zfk i
 exact ⟨zX3 e,h⟩
theorem zZM (notes:List Note):WR (zVP w f notes):=(zSg hR hf hF).enl (zaV notes)
theorem zSi {q:List State} (D:zZy f.Nodes (st1 w f) q):WR (mid3 w f notes q):=by
 have j:=zZM hR hf hF notes
 refine ⟨D.1.trans (zPV hR hF),j.td,j.cl,hf,j.dk,j.ln,fun i s x hs hx=>?_,j.todo,j.task,j.build⟩
 obtain ⟨E,F,G⟩:=D.2 i s hs
 have:=j.per i E x F hx
 show zLi f.Nodes.length w.Desk.Defs.length x s=true
 rcases G with rfl | ⟨C,I,J,k4⟩
 ·exact this
 ·have u:x.Kind=1:=by
   unfold isB at C
   have r:f.Nodes[i]? = some x:=hx
   rw [zLR,r] at C
   simpa using C
  have e:zLi f.Nodes.length w.Desk.Defs.length x E=true:=this
  unfold zLi at e ⊢
  rw [iP u] at e ⊢
  rw [I,J]
  simp only [lM,dD,beq_iff_eq] at e ⊢
  refine ⟨?_,e.2⟩
  rcases k4 with h | h | h
  ·rw [h];exact e.1
  ·exact .inl h
  ·exact .inr (zKK.2 h)
theorem zZb (h:ze7 w f notes v):WR v:=by
 obtain ⟨C,e,rfl,q,j,_⟩:=h
 refine (zSi hR hf hF q).enl fun u r=>?_
 obtain ⟨i,D⟩:=j u r
 refine ⟨zX3 i,?_⟩
 unfold zJX
 simp only [dD,lM,decide_eq_true_eq]
 left;omega
end
section
variable {B:Nat} {w:World} {f:Forest} (hS:WS B w) (hR:WR w) (hf:zAJ f=true) (hF:zIW w f)
include hS hR hf hF
theorem zSh:WS (B+400) (mid1 w f):=by
 have i:=(zAI hf).few
 have h:=hS.line
 have j:=h.todos
 have hl:=hF.2.1
 have hst:=hS.states
 refine ⟨⟨?_,fun t e=>?_,by have:=h.stack;show w.Line.Stack.length<=_;omega,fun t e=>by have:=h.lists t e;omega,by have:=h.back;show w.Line.Back.length<=_;omega⟩,by have:=hS.tasks;show w.Tasks.length<=_;omega,by have:=hS.builds;show w.Builds.length<=_;omega,hS.defs,hS.waits,fun x hx=>by have:=(zAI hf).kids x hx;omega,?_⟩
 ·show (w.Line.Todos++dH (f.Nodes.length - w.Forest.Nodes.length) ([]:List Todo)).length<=_
  rw [eR,kT];omega
 ·rcases cA.1 e with e | e
  ·have:=h.todo t e;omega
  ·rw [(kL.1 e).2];simp
 ·show (st1 w f).length<=_
  rw [zPV hR hF];omega
theorem zZc (h:ze7 w f notes v):WS (B+notes.length+1200) v:=by
 obtain ⟨j,i,rfl,C,_,hl,_⟩:=h
 have q:=(zSh hS hR hf hF).enl (due:=zWY f (st1 w f) w.Desk w.Classes notes)
 have D:=zXo (f:=f) (st:=st1 w f) (d:=w.Desk) (cs:=w.Classes) (notes:=notes)
 have r:=(zAI hf).few
 have u:WS (B+400+notes.length) (mid3 w f notes j):=by
  refine ⟨q.line.mono (by omega),by have:=q.tasks;show (zVP w f notes).Tasks.length<=_;unfold zVP;omega,by have:=hS.builds;show w.Builds.length<=_;omega,hS.defs,hS.waits,q.kids,?_⟩
  show j.length<=_
  rw [C.1,zPV hR hF];omega
 have e:=u.enl (due:=i)
 exact ⟨e.line.mono (by omega),by have:=e.tasks;omega,by have:=e.builds;omega,e.defs,e.waits,e.kids,by have:=e.states;omega⟩
end
theorem zg6 {fu B:Nat} {w:World} {f:Forest} (hfu:B+notes.length+20000<fu) (hB:B+notes.length+20000<=1000000000) (hn:notes.length<=100000000) (hS:WS B w) (hR:WR w) (hf:zAJ f=true) (hF:zIW w f) :
  ∀(j i K:Nat),i+j=(f.Nodes.drop w.Forest.Nodes.length).length->j<K->∃v,zF0 fu w f notes (f.Nodes.drop w.Forest.Nodes.length) K ((i:Int),w.States++((f.Nodes.drop w.Forest.Nodes.length).take i).map zUo,(zOa w.Line i).Todos,(zOa w.Line i).Stack,(zOa w.Line i).Back,(zOa w.Line i).Busy)=some (v,0)/\ze7 w f notes v:=by
 have hfew:=(zAI hf).few
 have q:=hS.line
 have hst:=hS.states
 intro j
 induction j with
 | zero =>
  intro i K hi hK
  obtain ⟨K,rfl⟩:∃P,K=P+1:=⟨K - 1,by omega⟩
  obtain rfl:i=(f.Nodes.drop w.Forest.Nodes.length).length:=by omega
  have e1:w.States++((f.Nodes.drop w.Forest.Nodes.length).take (f.Nodes.drop w.Forest.Nodes.length).length).map zUo=st1 w f:=by rw [iH];rfl
  have e2:zOa w.Line (f.Nodes.drop w.Forest.Nodes.length).length=ln1 w f:=by rw [jA];rfl
  have J:=zSg hR hf hF
  have C:=zSh hS hR hf hF
  have hd:=zXo (f:=f) (st:=st1 w f) (d:=w.Desk) (cs:=w.Classes) (notes:=notes)
  simp only [zF0]
  rw [zAO (by simp),e1,e2,due_ok (by omega) hf hS.defs hS.waits hR.classes (zPV hR hF) hR.dk hn (by omega),zAA]
  have S:=zRP (fu:=fu) (B:=B+400) (w:=mid1 w f) (due:=zWY f (st1 w f) w.Desk w.Classes notes) (by omega) (by omega) C.line C.tasks J.ln (fun u V=>J.inL (zaV notes u V).1)
  have G:zBX fu (zWY f (st1 w f) w.Desk w.Classes notes) ⟨⟨f,st1 w f,w.Desk,⟨(ln1 w f).Todos,(ln1 w f).Stack,(ln1 w f).Back,(ln1 w f).Busy⟩,w.Tasks,w.Builds,w.Classes⟩⟩=some ⟨zVP w f notes⟩:=S
  rw [G,zAA]
  obtain ⟨D,r,g1,W,X,g4,g5⟩:=zgt (fu:=fu) (f:=f) (st:=st1 w f) (d:=w.Desk) (cs:=w.Classes) (by omega) hf hS.defs hS.waits (zPV hR hF) hR.dk
  have Q:zI8 fu f (zVP w f notes).States (zVP w f notes).Desk (zVP w f notes).Classes=some (D,r):=g1
  simp only
  rw [Q,zAA]
  have M:=zSi (notes:=notes) hR hf hF W
  have N:=C.enl (due:=zWY f (st1 w f) w.Desk w.Classes notes)
  have I:=zRP (fu:=fu) (B:=B+400+notes.length) (w:=mid3 w f notes D) (due:=r) (by omega) (by omega) (N.line.mono (by omega)) (by have:=N.tasks;show (zVP w f notes).Tasks.length<=_;unfold zVP;omega) M.ln (fun u V=>M.inL (zX3 (X u V).1))
  have F:zBX fu r ⟨⟨(zVP w f notes).Forest,D,(zVP w f notes).Desk,(zVP w f notes).Line,(zVP w f notes).Tasks,(zVP w f notes).Builds,(zVP w f notes).Classes⟩⟩=some ⟨zZn (mid3 w f notes D) r⟩:=I
  simp only
  rw [F,zAA]
  exact ⟨_,rfl,D,r,rfl,W,X,g4,g5⟩
 | succ j ih =>
  intro i K hi hK
  obtain ⟨K,rfl⟩:∃P,K=P+1:=⟨K - 1,by omega⟩
  have h:i<(f.Nodes.drop w.Forest.Nodes.length).length:=by omega
  have hil:i<=400:=by rw [jA] at h;omega
  obtain ⟨v,N,h2⟩:=ih (i+1) K (by omega) (by omega)
  have E:=q.todos
  have T:LS (B+400) (zOa w.Line i):=⟨by unfold zOa;simp;omega,fun t E=>by
   rcases cA.1 E with E | E
   ·have:=q.todo t E;omega
   ·rw [(kL.1 E).2];simp,by have:=q.stack;unfold zOa;simp only;omega,fun t E=>by have:=q.lists t E;omega,by have:=q.back;unfold zOa;simp only;omega⟩
  simp only [zF0]
  rw [zAP (by simpa using h),zAQ h,zAA,zfK (by omega),zAA,zBF (by simp only [eR,lL,List.length_take,cP,eK];omega),zAA,zfv (B:=B+400) (by omega) T,zAA,zAZ (by omega),zAA]
  refine ⟨v,?_,h2⟩
  rw [<- N,iB h,List.map_append,<- eS]
  have e:zfu (zOa w.Line i)=zOa w.Line (i+1):=by
   unfold zfu zOa
   simp only [eS,List.replicate_succ']
  rw [e]
  rfl
theorem zeT {fu B:Nat} {w:World} {f:Forest} (hfu:B+notes.length+20000<fu) (hB:B+notes.length+20000<=1000000000) (F:notes.length<=100000000) (hS:WS B w) (hR:WR w) (i:f.Nodes.length<=1000) (j:∀x∈f.Nodes,x.Kids.length<=2000) :
  ∃v e,zIM fu w f notes=some (v,e)/\((e≠0/\v=w/\¬(zAJ f=true/\zIW w f))\/(e=0/\zAJ f=true/\zIW w f/\ze7 w f notes v)):=by
 have E:=(zAI hR.fr).few
 have hst:=hS.states
 unfold zIM
 rw [zR3 hS (by omega) (by omega),zAA,WR.iff.2 hR,iE,zAF,zFP (by omega) (fun x hx=>by have:=j x hx;omega),zAA]
 cases hf:zAJ f with
 | false=>exact ⟨w,1,rfl,.inl ⟨by omega,rfl,by simp⟩⟩
 | true =>
  obtain ⟨b,D,q⟩:=zY8 (fu:=fu) (w:=w) (f:=f) (by omega) (by omega) i
  rw [iE,zAF,D,zAA]
  cases b with
  | false=>exact ⟨w,1,rfl,.inl ⟨by omega,rfl,fun h=>by have:=q.2 h.2;cases this⟩⟩
  | true =>
   have hF:=q.1 rfl
   have r:=hF.2.1
   rw [iE,zAF,zaK (by omega),zAA]
   have G:piece f.Nodes (w.Forest.Nodes.length:Int) (f.Nodes.length:Int)=some (f.Nodes.drop w.Forest.Nodes.length):=by
    unfold piece
    rw [iP ⟨by omega,by omega,by omega⟩]
    congr 1
    rw [eO,eO,kO (by simp)]
   rw [G,zAA]
   obtain ⟨v,u,C⟩:=zg6 hfu hB F hS hR hf hF (f.Nodes.drop w.Forest.Nodes.length).length 0 fu (by omega) (by rw [jA];omega)
   refine ⟨v,0,?_,.inr ⟨rfl,rfl,hF,C⟩⟩
   rw [<- u]
   simp [zOa]
end
section
def zPK:List Bs:=(zGl 0).getD []
theorem zZP (fu:Nat):zGl fu=some zPK:=by
 have h:∃l,zGl 0=some l:=by
  have:(zGl 0).isSome=true:=by decide +kernel
  exact kQ.1 this
 obtain ⟨l,hl⟩:=h
 have e:zGl fu=zGl 0:=rfl
 unfold zPK
 rw [e,hl];rfl
def zR2 (k:Int):Bs:=if k>0/\k<(zPK.length:Int) then (idx zPK k).getD [] else []
theorem zeQ (fu:Nat) (k:Int):zEL fu k=some (zR2 k):=by
 unfold zEL zR2
 rw [zZP,zAA,zAN,zAN]
 by_cases e:k>0
 ·rw [iP e]
  by_cases i:k<(zPK.length:Int)
  ·obtain ⟨x,hx⟩:=zAK (l:=zPK) (n:=k) (by omega)
   rw [iP i,iP ⟨e,i⟩,hx,zAA];rfl
  ·rw [iN i,iN fun h=>i h.2]
 ·rw [iN e,iN fun h=>e h.1]
def zKl (k:Int):Bs×Bool :=
 if k=1\/k=2\/k=9\/k=28 then ([110,46,46,115,115],true)
 else if k=3\/k=10\/k=24 then ([110,46,46,115,46],true)
 else if k=6\/k=8\/k=26 then ([110,110,111,46,46],true)
 else if k=11 then ([110,105,46,115,46],true)
 else if k=12 then ([110,105,110,46,46],true)
 else if k=13 then ([110,110,46,46,46],true)
 else if k=16 then ([105,46,46,115,115],true)
 else if k=17 then ([46,46,46,115,46],true)
 else if k=19 then ([105,46,46,46,46],true)
 else if k=20\/k=22\/k=25 then ([46,46,46,46,46],true)
 else ([110,46,46,46,46],decide (0<k)&&decide (k<=28))
theorem zeh (fu:Nat) (k:Int):zJG fu k=some (⟨zR2 k,(zKl k).1⟩,(zKl k).2):=by
 unfold zJG zGk zIB zIC zID zKl
 simp only [zeQ,zAA,zBD,zAN]
 by_cases F:k=1
 ·simp [F]
 by_cases G:k=2
 ·simp [G]
 by_cases I:k=9
 ·simp [I]
 by_cases J:k=28
 ·simp [J]
 by_cases K:k=3
 ·simp [K]
 by_cases M:k=10
 ·simp [M]
 by_cases N:k=24
 ·simp [N]
 by_cases P:k=6
 ·simp [P]
 by_cases Q:k=8
 ·simp [Q]
 by_cases e:k=26
 ·simp [e]
 by_cases h:k=11
 ·simp [h]
 by_cases i:k=12
 ·simp [i]
 by_cases j:k=13
 ·simp [j]
 by_cases q:k=16
 ·simp [q]
 by_cases r:k=17
 ·simp [r]
 by_cases u:k=19
 ·simp [u]
 by_cases C:k=20
 ·simp [C]
 by_cases D:k=22
 ·simp [D]
 by_cases E:k=25
 ·simp [E]
 simp only [F,G,I,J,K,M,N,P,Q,e,h,i,j,q,r,u,C,D,E,or_self,if_false]
 by_cases g:k>0
 ·rw [iP g,decide_eq_true (show 0<k from g),iD]
 ·rw [iN g,decide_eq_false (show ¬0<k from g),jO]
theorem zH2 {c:Prop} [Decidable c] {x y:Bs×Bool} (j:∃a b c d e,x.1=[a,b,c,d,e]) (q:∃a b c d e,y.1=[a,b,c,d,e]):∃a b i d e,(if c then x else y).1=[a,b,i,d,e]:=by
 by_cases h:c
 ·rw [iP h];exact j
 ·rw [iN h];exact q
theorem zVB (k:Int):∃a b c d e,(zKl k).1=[a,b,c,d,e]:=by
 have p:∀(a b c d e:UInt8) (t:Bool),∃h i j q r,(([a,b,c,d,e]:Bs),t).1=[h,i,j,q,r]:=fun a b c d e _=>⟨a,b,c,d,e,rfl⟩
 unfold zKl
 exact zH2 (p _ _ _ _ _ _) (zH2 (p _ _ _ _ _ _) (zH2 (p _ _ _ _ _ _) (zH2 (p _ _ _ _ _ _) (zH2 (p _ _ _ _ _ _) (zH2 (p _ _ _ _ _ _) (zH2 (p _ _ _ _ _ _) (zH2 (p _ _ _ _ _ _) (zH2 (p _ _ _ _ _ _) (zH2 (p _ _ _ _ _ _) (p _ _ _ _ _ _))))))))))
def zY5 (fld:UInt8) (n:Int):Bool :=
 if fld=111 then (n == -1||(n == -2||(n == -3||ltI 400 n)))
 else if fld=110 then (n == -2||(n == -3||ltI 400 n))
 else if fld=105 then decide (-1000<=n)&&decide (n<=1000)
 else n==0
theorem zNm (fld:UInt8) (m:Nat) (e:m<256):(((fld.toNat:Int)=(m:Int))↔fld=UInt8.ofNat m):=by
 constructor
 ·intro h
  apply UInt8.toNat_inj.1
  rw [UInt8.toNat_ofNat']
  omega
 ·intro h
  rw [h,UInt8.toNat_ofNat']
  omega
theorem zWh (fu:Nat) (fld:UInt8) (n:Int):zMa fu (fld.toNat:Int) n=some (zY5 fld n):=by
 have j1:zMC n ()=some (n == -2||(n == -3||ltI 400 n)):=by
  unfold zMC
  rw [show cnd (decide (n>=0)) (some (decide (n<400))) (some false)=some (ltI 400 n) from zWv 400 n]
  cases n == -2<;>cases n == -3<;>rfl
 have q:((fld.toNat:Int)=111)↔fld=111:=zNm fld 111 (by omega)
 have r:((fld.toNat:Int)=110)↔fld=110:=zNm fld 110 (by omega)
 have u:((fld.toNat:Int)=105)↔fld=105:=zNm fld 105 (by omega)
 unfold zMa zY5
 rw [j1]
 simp only [zBD,zAN]
 by_cases e:fld=111
 ·rw [iP (q.2 e),iP e]
  by_cases g:n = -1
  ·rw [iP g,g];rfl
  ·rw [iN g,show (n == -1)=false by simpa using g,iA]
 ·rw [iN fun h=>e (q.1 h),iN e]
  by_cases i:fld=110
  ·rw [iP (r.2 i),iP i]
  ·rw [iN fun h=>i (r.1 h),iN i]
   by_cases j:fld=105
   ·rw [iP (u.2 j),iP j]
    by_cases g:n >= -1000
    ·rw [iP g,decide_eq_true (show -1000<=n from g),iD]
    ·rw [iN g,decide_eq_false (show ¬-1000<=n from g),jO]
   ·rw [iN fun h=>j (u.1 h),iN j]
def zY6 (fld:UInt8) (s:Bs):Bool:=if fld=115 then decide (s.length<=200) && !(decide (0<=Lib.indexByte s 10)) else s==[]
theorem zao (fu:Nat) (fld:UInt8) (s:Bs):zFh fu (fld.toNat:Int) s=some (zY6 fld s):=by
 unfold zFh zY6
 rw [zPo,zBD,zAN]
 unfold zOb
 rw [zAA]
 by_cases h:fld=115
 ·rw [iP (by rw [h];rfl),iP h]
  by_cases g:s.length<=200
  ·rw [iP (by omega),decide_eq_true g];rfl
  ·rw [iN (by omega),decide_eq_false g];rfl
 ·rw [iN fun e=>h (UInt8.toNat_inj.1 (by have:(115:UInt8).toNat=115:=rfl;omega)),iN h]
def zMU (o:Op):Bool:=match (zKl o.Kind).1 with
 | [a,b,c,d,e]=>(zKl o.Kind).2&&(zY5 a o.A&&(zY5 b o.B&&(zY5 c o.C&&(zY6 d o.S&&zY6 e o.T))))
 | _=>false
theorem zPl {l:Bs} {i:Nat} {b:UInt8} (h:l[i]? = some b):chr l (i:Int)=some (b.toNat:Int):=by
 unfold chr
 have hi:=(lF.1 h).1
 rw [iP (by omega)]
 simp [h]
theorem zVj {fu:Nat}:zKV fu o=some (zMU o):=by
 obtain ⟨a,b,c,d,e,hf⟩:=zVB o.Kind
 have h:chr (zKl o.Kind).1 0=some (a.toNat:Int):=zPl (i:=0) (by rw [hf];rfl)
 have j:chr (zKl o.Kind).1 1=some (b.toNat:Int):=zPl (i:=1) (by rw [hf];rfl)
 have q:chr (zKl o.Kind).1 2=some (c.toNat:Int):=zPl (i:=2) (by rw [hf];rfl)
 have r:chr (zKl o.Kind).1 3=some (d.toNat:Int):=zPl (i:=3) (by rw [hf];rfl)
 have u:chr (zKl o.Kind).1 4=some (e.toNat:Int):=zPl (i:=4) (by rw [hf];rfl)
 have j2:∀ok,zHf fu o (⟨zR2 o.Kind,(zKl o.Kind).1⟩,(zKl o.Kind).2) ok=some (ok&&(zY6 d o.S&&zY6 e o.T)):=fun ok=>by
  unfold zHf zMb
  simp only
  rw [zAA,r,zAA,zao,zAA,u,zAA,zao,zAA]
  cases ok
  ·rfl
  ·cases zY6 d o.S<;>rfl
 have j1:∀ok,zJF fu o (⟨zR2 o.Kind,(zKl o.Kind).1⟩,(zKl o.Kind).2) ok=some (ok&&(zY5 b o.B&&(zY5 c o.C&&(zY6 d o.S&&zY6 e o.T)))):=fun ok=>by
  unfold zJF
  simp only
  rw [j,zAA,zWh,zAA,q,zAA,zWh,zAA]
  simp only [j2]
  cases ok
  ·rfl
  ·cases zY5 b o.B<;>rfl
 unfold zKV zIE zMU
 rw [zeh,zAA,zAA]
 simp only
 rw [h,zAA,zWh,zAA]
 simp only [j1]
 rw [hf]
 simp only
 cases (zKl o.Kind).2
 ·rfl
 ·cases zY5 a o.A<;>rfl
def zWH (fld:UInt8) (v self many:Int):Option Int :=
 if fld=46\/fld=105\/(fld=111/\v = -1) then some v
 else if (if v = -2 then self else if v = -3 then IntKind.i64.wrap (many - 1) else v)<0\/(if v = -2 then self else if v = -3 then IntKind.i64.wrap (many - 1) else v)>=many then none
 else some (if v = -2 then self else if v = -3 then IntKind.i64.wrap (many - 1) else v)
def zeV (o:Op) (self many:Int):Op×Int :=
 if zMU o=true then (match (zKl o.Kind).1 with
  | [a,b,c,_,_]=>(match zWH a o.A self many with
   | some x=>(match zWH b o.B self many with
    | some y=>(match zWH c o.C self many with
     | some z=>(⟨o.Kind,x,y,z,o.S,o.T,o.Must⟩,0)
     | none=>(⟨0,0,0,0,[],[],false⟩,6))
    | none=>(⟨0,0,0,0,[],[],false⟩,6))
   | none=>(⟨0,0,0,0,[],[],false⟩,6))
  | _=>(⟨0,0,0,0,[],[],false⟩,2))
 else (⟨0,0,0,0,[],[],false⟩,2)
theorem zTT {R:Type} {fld:UInt8} {v self many:Int} {no:Option R} {yes:Int->Option R} {j:Unit->Option R} 
  (I:j ()=cnd (v == -2) (cnd (decide (self<0)) no (cnd (decide (self>=many)) no (yes self))) (cnd (v == -3) (cnd (decide (IntKind.i64.wrap (many - 1)<0)) no (cnd (decide (IntKind.i64.wrap (many - 1)>=many)) no (yes (IntKind.i64.wrap (many - 1))))) (cnd (decide (v<0)) no (cnd (decide (v>=many)) no (yes v))))) :
  cnd ((fld.toNat:Int)==46) (yes v) (cnd ((fld.toNat:Int)==105) (yes v) (cnd ((fld.toNat:Int)==111) (cnd (v == -1) (yes v) (j ())) (j ())))=match zWH fld v self many with | some x=>yes x | none=>no:=by
 have r:∀u:Int,cnd (decide (u<0)) no (cnd (decide (u>=many)) no (yes u))=match (if u<0\/u>=many then none else some u) with | some x=>yes x | none=>no:=fun u=>by
  rw [zAN,zAN]
  by_cases i:u<0
  ·rw [iP i,iP (.inl i)]
  ·by_cases e:u>=many
   ·rw [iN i,iP e,iP (.inr e)]
   ·rw [iN i,iN e,iN (fun h=>h.elim i e)]
 have C:j ()=match (if (if v = -2 then self else if v = -3 then IntKind.i64.wrap (many - 1) else v)<0\/(if v = -2 then self else if v = -3 then IntKind.i64.wrap (many - 1) else v)>=many then none else some (if v = -2 then self else if v = -3 then IntKind.i64.wrap (many - 1) else v)) with | some x=>yes x | none=>no:=by
  rw [I,zBD,zBD,r,r,r]
  by_cases e:v = -2
  ·simp only [iP e]
  ·simp only [iN e]
   by_cases q:v = -3
   ·simp only [iP q]
   ·simp only [iN q]
 have E:((fld.toNat:Int)=46)↔fld=46:=zNm fld 46 (by omega)
 have F:((fld.toNat:Int)=105)↔fld=105:=zNm fld 105 (by omega)
 have G:((fld.toNat:Int)=111)↔fld=111:=zNm fld 111 (by omega)
 simp only [zBD]
 unfold zWH
 by_cases i:fld=46
 ·rw [iP (E.2 i),iP (.inl i)]
 ·rw [iN fun h=>i (E.1 h)]
  by_cases e:fld=105
  ·rw [iP (F.2 e),iP (.inr (.inl e))]
  ·rw [iN fun h=>e (F.1 h)]
   by_cases q:fld=111
   ·rw [iP (G.2 q)]
    by_cases D:v = -1
    ·rw [iP D,iP (.inr (.inr ⟨q,D⟩))]
    ·rw [iN D,iN (fun h=>h.elim i fun h=>h.elim e fun h=>D h.2),C]
   ·rw [iN fun h=>q (G.1 h),iN (fun h=>h.elim i fun h=>h.elim e fun h=>q h.1),C]
theorem zeW {fu:Nat} {self many:Int}:zQO fu o self many=some (zeV o self many):=by
 obtain ⟨a,b,c,d,e,hf⟩:=zVB o.Kind
 have h:chr (zKl o.Kind).1 0=some (a.toNat:Int):=zPl (i:=0) (by rw [hf];rfl)
 have q:chr (zKl o.Kind).1 1=some (b.toNat:Int):=zPl (i:=1) (by rw [hf];rfl)
 have r:chr (zKl o.Kind).1 2=some (c.toNat:Int):=zPl (i:=2) (by rw [hf];rfl)
 have j6:∀x y,zIA o self many (⟨zR2 o.Kind,(zKl o.Kind).1⟩,(zKl o.Kind).2) x y=some (match zWH c o.C self many with | some z=>(⟨o.Kind,x,y,z,o.S,o.T,o.Must⟩,0) | none=>(⟨0,0,0,0,[],[],false⟩,6)):=fun x y=>by
  unfold zIA
  simp only
  rw [r,zAA]
  refine (zTT (fld:=c) (v:=o.C) (self:=self) (many:=many) (no:=some ((⟨0,0,0,0,[],[],false⟩:Op),(6:Int))) (yes:=fun z=>some ((⟨o.Kind,x,y,z,o.S,o.T,o.Must⟩:Op),(0:Int))) (j:=zMA o self many x y) ?_).trans ?_
  ·unfold zMA zMB;rfl
  ·cases zWH c o.C self many<;>rfl
 have j3:∀x,zH9 o self many (⟨zR2 o.Kind,(zKl o.Kind).1⟩,(zKl o.Kind).2) x=some (match zWH b o.B self many with | some y=>(match zWH c o.C self many with | some z=>(⟨o.Kind,x,y,z,o.S,o.T,o.Must⟩,0) | none=>(⟨0,0,0,0,[],[],false⟩,6)) | none=>(⟨0,0,0,0,[],[],false⟩,6)):=fun x=>by
  unfold zH9
  simp only
  rw [q,zAA]
  refine (zTT (fld:=b) (v:=o.B) (self:=self) (many:=many) (no:=some ((⟨0,0,0,0,[],[],false⟩:Op),(6:Int))) (yes:=fun y=>zIA o self many (⟨zR2 o.Kind,(zKl o.Kind).1⟩,(zKl o.Kind).2) x y) (j:=zL8 o self many (⟨zR2 o.Kind,(zKl o.Kind).1⟩,(zKl o.Kind).2) x) ?_).trans ?_
  ·unfold zL8 zL9;rfl
  ·cases zWH b o.B self many with
   | none=>rfl
   | some y=>exact j6 x y
 unfold zQO zIE zeV
 rw [zVj,zAA]
 cases hr:zMU o with
 | false=>rfl
 | true =>
  rw [iE,zAF,zeh,zAA,zAA,iP rfl]
  simp only
  rw [h,zAA]
  refine (zTT (fld:=a) (v:=o.A) (self:=self) (many:=many) (no:=some ((⟨0,0,0,0,[],[],false⟩:Op),(6:Int))) (yes:=fun x=>zH9 o self many (⟨zR2 o.Kind,(zKl o.Kind).1⟩,(zKl o.Kind).2) x) (j:=zL6 o self many (⟨zR2 o.Kind,(zKl o.Kind).1⟩,(zKl o.Kind).2)) ?_).trans ?_
  ·unfold zL6 zL7;rfl
  ·simp only [hf]
   cases zWH a o.A self many with
   | none=>rfl
   | some x =>
    have:=j3 x
    rw [hf] at this
    exact this
end
section
section
variable {fu:Nat} {w:World} {k:Int} (hfu:2000<fu) (hr:zAJ w.Forest=true)
include hfu hr
end
theorem ze7.same {w:World} {g:Forest} {l:List Note} (h:ze7 w g l v):v.Forest=g/\v.Desk=w.Desk/\v.Builds=w.Builds/\v.Classes=w.Classes:=by
 obtain ⟨i,e,rfl,_⟩:=h
 exact ⟨rfl,rfl,rfl,rfl⟩
end
section
theorem zaO {fu:Nat} {t:Due->Option Bool} {p:Due->Bool} {l:List Due} (X:∀x∈l,t x=some (p x)) (hf:l.length<fu) (hb:l.length<=1000000):zCs fu t l=some (l.filter fun x => !(p x)):=by
 have hi:zAv fu t l=some (zJ4 l p):=by
  unfold zAv
  refine zUR (L:=zAa t l) l p (fun i h k=>?_) (fun k=>?_) hf
  ·simp only [zAa]
   rw [zAP (by simpa using h),zAQ h,zAA,X _ (gC h),zAA,zAZ (by omega),zAA]
   cases p l[i]<;>rfl
  ·simp only [zAa]
   rw [zAO (by simp)]
 unfold zCs
 rw [hi,zAA,zBD]
 cases e:l.any p with
 | false =>
  rw [iP (zRs e)]
  congr 1
  exact (jI.2 fun x hx=>by
   have:=(List.any_eq_false.1 e) x hx
   simpa using this).symm
 | true =>
  have hk:∃(k0:Nat) (h:k0<l.length),zJ4 l p=(k0:Int)/\p l[k0]=true/\∀x∈l.take k0,p x=false:=by
   have S:l.findIdx p<l.length:=List.findIdx_lt_length.2 (List.any_eq_true.1 e)
   refine ⟨l.findIdx p,S,by unfold zJ4;rw [iP e],List.findIdx_getElem,fun x hx=>?_⟩
   obtain ⟨i,hi,rfl⟩:=iQ hx
   rw [List.getElem_take]
   have N:i<l.findIdx p:=by simp at hi;omega
   exact List.not_of_lt_findIdx N
  obtain ⟨k0,h,E,h2,h3⟩:=hk
  rw [E,iN (by omega),zAZ (by omega),zAA]
  have V:∀{m:List Due},(∀x∈m,x∈l)->∀x∈m,t x=some (p x):=fun D x hx=>X x (D x hx)
  -- all that stands in the list stood in it
  have W:∀(d i j K:Nat) (m:List Due),(∀x∈m,x∈l)->m.length=l.length->j+d=l.length->i<j->d<K->m.drop j=l.drop j->m.take i=(l.take j).filter (fun x => !(p x))->zAj t K ((i:Int),(j:Int),m)=some (l.filter fun x => !(p x)):=by
   intro d
   induction d with
   | zero =>
    intro i j K m q D hj P hK M u
    obtain ⟨K,rfl⟩:∃I,K=I+1:=⟨K - 1,by omega⟩
    obtain rfl:j=m.length:=by omega
    simp only [zAj]
    rw [zAO (by simp),eO,eO,show zPX m.length (i:Int) (m.length:Int)=some () from iP ⟨by omega,by omega,by omega⟩,zAA,show zfa m.length i m.length=some () from iP ⟨by omega,rfl⟩,zAA]
    have T:piece (zRI m i (⟨0,(⟨0,0,[],false,false,[],[],0,0,false⟩:Todo)⟩:Due)) 0 (i:Int)=some (m.take i):=by
     unfold piece zRI
     rw [iP ⟨by omega,by omega,by simp;omega⟩]
     congr 1
     simp only [Int.toNat_zero,List.drop_zero,eO,Nat.sub_zero]
     rw [jG (by simp;omega),jY,Nat.min_self]
    rw [T,zAA,u,D,iH]
   | succ d ih =>
    intro i j K m q D hj P hK M u
    obtain ⟨K,rfl⟩:∃I,K=I+1:=⟨K - 1,by omega⟩
    have r:j<m.length:=by omega
    have C:j<l.length:=by omega
    have Q:i<m.length:=by omega
    have J:m[j]=l[j]:=by
     have E:(m.drop j)[0]? = (l.drop j)[0]? := by rw [M]
     simp only [cD,Nat.add_zero] at E
     rw [lC r,lC C] at E
     exact lJ.inj E
    have F:m.drop (j+1)=l.drop (j+1):=by
     rw [<- kU,<- kU,M]
    simp only [zAj]
    rw [zAP (by simpa using r),zAQ r,zAA,V q _ (gC r),zAA,zAQ Q,zAZ (by omega),zAZ (by omega),eO]
    simp only [zAA]
    cases G:p m[j] with
    | true =>
     refine ih i (j+1) K m q D (by omega) (by omega) (by omega) F ?_
     rw [u,iB C,jH]
     rw [J] at G
     simp [G]
    | false =>
     refine ih (i+1) (j+1) K (m.set i m[j]) (fun x hx=>?_) (by simpa using D) (by omega) (by omega) (by omega) ?_ ?_
     ·rcases dT hx with hx | rfl
      ·exact q x hx
      ·exact q _ (gC r)
     ·rw [List.drop_set,iP (by omega),F]
     ·rw [iB (by simp;omega),iB C,jH,List.getElem_set_self,kN (cB _),u,J]
      rw [J] at G
      simp [G]
  refine W (l.length - (k0+1)) k0 (k0+1) fu l (fun _ h=>h) rfl (by omega) (by omega) (by omega) rfl ?_
  rw [iB h,jH]
  simp only [kS,h2,iE,Bool.false_eq_true,↓reduceIte,List.filter_nil,gI]
  exact (jI.2 fun x hx=>by rw [h3 x hx];rfl).symm
def DoneA (w v:World):Prop:=∃due,v=zZn w due/\due.length<=1000/\(∀u∈due,InN w.Forest.Nodes u.Node/\zJX w.Desk.Defs.length u.Todo=true/\3<=u.Todo.Kind)/\(w.Desk.Defs=[]->due=[])
def DoneW (w v:World) (s:Bs) (n:Int):Prop:=(zNS w.Desk s).2.2.2=0/\n=(zNS w.Desk s).2.1/\v=⟨w.Forest,w.States,(zNS w.Desk s).1,w.Line,if (zNS w.Desk s).2.2.1 = -1 then w.Tasks else w.Tasks++[⟨2,(zNS w.Desk s).2.1,(zNS w.Desk s).2.2.1⟩],w.Builds,w.Classes⟩
section
variable {fu B:Nat} {w:World} {k:Int} (hfu:B+300000<fu) (hB:B+300000<=900000000) (hS:WS B w) (hR:WR w)
include hfu hB hS hR
theorem zY0 (hl:due.length<=1000) (e:∀u∈due,InN w.Forest.Nodes u.Node/\zJX w.Desk.Defs.length u.Todo=true):zBw fu due ⟨w,k⟩=some (0,⟨zZn w due,k⟩):=by
 unfold zBw
 simp only
 rw [zZr (B:=B) (by omega) (by omega) hS hR e,zAA]
omit hfu hB hS hR in
theorem zb9 (i:∀j∈L,InN w.Forest.Nodes j):∀u∈zOs w.Desk (zSG w.Forest.Nodes L),InN w.Forest.Nodes u.Node/\zJX w.Desk.Defs.length u.Todo=true/\3<=u.Todo.Kind:=fun u C=>by
 unfold zOs zSG at C
 obtain ⟨q,E,h⟩:=kH.1 C
 obtain ⟨j,D,e⟩:=kH.1 E
 have r:InN w.Forest.Nodes q.1:=by
  split at e
  ·split at e
   ·cases e;exact i j D
   ·cases e
  ·cases e
 split at h
 ·cases h
 ·rename_i hf
  cases h
  refine ⟨r,?_,by simp [upgT]⟩
  unfold zJX upgT
  simp only [dD,lM]
  right
  exact ⟨rfl,zKK.2 (zTd.resolve_left hf)⟩
theorem ask_ok (J:InN w.Forest.Nodes o.A) :
  (o.Kind=17/\∃e i,zDo fu o ⟨w,k⟩=some (e,true,i)/\(e≠0\/(e=0/\DoneW w i.World o.S i.node))) \/
  ((o.Kind=18\/o.Kind=23\/o.Kind=24)/\∃e i,zDo fu o ⟨w,k⟩=some (e,true,i)/\(e≠0\/(e=0/\DoneA w i.World/\i.node=k))) \/
  (o.Kind≠17/\o.Kind≠18/\o.Kind≠23/\o.Kind≠24/\zDo fu o ⟨w,k⟩=some (0,false,⟨w,k⟩)):=by
 have hr:=hR.fr
 have T:=zAI hr
 have W:=T.few
 obtain ⟨y,hy⟩:=zAK J
 have enl:∀due:List Due,due.length<=1000->(∀u∈due,InN w.Forest.Nodes u.Node/\zJX w.Desk.Defs.length u.Todo=true/\3<=u.Todo.Kind)->(w.Desk.Defs=[]->due=[])->∃e i,(bnd (zBw fu due ⟨w,k⟩) fun X=>some (X.1,true,X.2))=some (e,true,i)/\(e≠0\/(e=0/\DoneA w i.World/\i.node=k)):=fun due Q K V=>by
  rw [zY0 hfu hB hS hR Q (fun u h=>⟨(K u h).1,(K u h).2.1⟩),zAA]
  exact ⟨_,_,rfl,.inr ⟨rfl,⟨due,rfl,Q,K,V⟩,rfl⟩⟩
 unfold zDo
 simp only
 rw [hy,zAA]
 simp only [zBD,zAd]
 by_cases r:o.Kind=17
 ·left
  refine ⟨r,?_⟩
  rw [iP r]
  unfold zIV
  simp only
  rw [zct (by omega) hS.defs hS.waits,zAA,zAd,zAd]
  by_cases F:(zNS w.Desk o.S).2.2.2=0
  ·have ht:=hS.tasks
   rw [iP F]
   by_cases M:(zNS w.Desk o.S).2.2.1 = -1
   ·rw [iP M,zAA]
    exact ⟨_,_,rfl,.inr ⟨rfl,F,rfl,by rw [iP M]⟩⟩
   ·rw [iN M,zaJ (by omega),zAA,zBF (by simp only [cP,eK];omega),zAA,zAA]
    exact ⟨_,_,rfl,.inr ⟨rfl,F,rfl,by rw [iN M]⟩⟩
  ·rw [iN F,zAA]
   exact ⟨_,_,rfl,.inl F⟩
 ·rw [iN r]
  right
  by_cases C:o.Kind=18
  ·left
   refine ⟨.inl C,?_⟩
   rw [iP C,zeF (by omega) hS.defs hS.waits hr J,zAA]
   have hal:=(zAU hr).all_len J
   have Q:(zSG w.Forest.Nodes (zGS w.Forest.Nodes o.A)).length<=(zGS w.Forest.Nodes o.A).length:=kG _ _
   have K:(zOs w.Desk (zSG w.Forest.Nodes (zGS w.Forest.Nodes o.A))).length<=(zSG w.Forest.Nodes (zGS w.Forest.Nodes o.A)).length:=kG _ _
   have I:=zb9 (L:=zGS w.Forest.Nodes o.A) fun j hj=>((zAU hr).all_in o.A J j hj).1
   rw [zaO (p:=fun u=>match idx w.States u.Node with | some s=>s.Phase != 1 | none=>false) (fun u h=>by
    obtain ⟨s,hs⟩:=zAK (l:=w.States) (n:=u.Node) (by have:=(I u h).1;rw [hR.st];exact this)
    unfold zCx
    simp only
    rw [hs,zAA]) (by omega) (by omega),zAA]
   refine enl _ (eM (List.length_filter_le _ _) (by omega)) (fun u h=>I u (iI.1 h).1) fun hd=>?_
   have:zOs w.Desk (zSG w.Forest.Nodes (zGS w.Forest.Nodes o.A))=[]:=by
    rw [List.eq_nil_iff_forall_not_mem]
    intro u h
    have V:=(I u h).2.1
    unfold zOs at h
    obtain ⟨q,_,F⟩:=kH.1 h
    split at F
    ·cases F
    ·rename_i hf
     have:=zTd.resolve_left hf
     rw [hd] at this
     simp only [eK] at this
     omega
   rw [this];rfl
  ·rw [iN C]
   by_cases D:o.Kind=23
   ·left
    refine ⟨.inr (.inl D),?_⟩
    rw [iP D]
    split
    ·cases (y.Name==([102,111,114,109]:Bs)) with
     | false=>exact ⟨_,_,rfl,.inl (by omega)⟩
     | true =>
      rw [iE,zAF]
      obtain ⟨due,N,g2,G,P⟩:=zd1 (fu:=fu) (f:=w.Forest) (st:=w.States) (d:=w.Desk) (cs:=w.Classes) (by omega) hr hS.defs hS.waits hR.st o.A
      rw [N,zAA]
      exact enl due (by omega) (fun u h=>⟨(G u h).1,by unfold zJX;simp only [dD,lM,decide_eq_true_eq];left;have:=(G u h).2;omega,by have:=(G u h).2;omega⟩) P
    ·exact ⟨_,_,rfl,.inl (by omega)⟩
   ·rw [iN D]
    by_cases E:o.Kind=24
    ·left
     refine ⟨.inr (.inr E),?_⟩
     rw [iP E]
     split
     ·obtain ⟨due,N,g2,G,P⟩:=zZV (fu:=fu) (f:=w.Forest) (st:=w.States) (d:=w.Desk) (cs:=w.Classes) (by omega) hr hS.defs hS.waits hR.st J o.S
      rw [N,zAA]
      exact enl due (by omega) (fun u h=>⟨by rw [(G u h).1];exact J,by unfold zJX;simp only [dD,lM,decide_eq_true_eq];left;have:=(G u h).2;omega,by have:=(G u h).2;omega⟩) P
     ·exact ⟨_,_,rfl,.inl (by omega)⟩
    ·right
     rw [iN E]
     exact ⟨r,C,D,E,rfl⟩
end
end
section
def zf8 (k:Int):Bool := !(k==1||(k==16||(k==19||(k==20||(k==21||(k==22||k==25))))))&&(decide (0<k)&&decide (k<=28))
theorem zf9 {fu:Nat} {k:Int}:zEi fu k=some (zf8 k):=by
 have j1:∀t,zBh k t=some (!t&&(decide (0<k)&&decide (k<=28))):=fun t=>by
  unfold zBh
  rw [zAN]
  cases t
  ·rw [zAF]
   by_cases h:k>0
   ·rw [iP h,decide_eq_true (show 0<k from h)];rfl
   ·rw [iN h,decide_eq_false (show ¬0<k from h)];rfl
  ·rfl
 unfold zEi zf8
 simp only [j1]
 cases k==1<;>cases k==16<;>cases k==19<;>cases k==20<;>cases k==21<;>cases k==22<;>cases k==25<;>rfl
theorem zdA {a b:Op}:zfn a b=true↔a=b:=by
 unfold zfn
 cases a;cases b
 simp
section
variable {fu B:Nat} {w:World} (hfu:B+3000000<fu) (hB:B+3000000<=900000000) (hS:WS B w) (hR:WR w)
include hfu hB hS hR
end
end
section
section
variable {fu:Nat} (hfu:1000000000<fu)
include hfu
theorem zgh {d:Desk}:∃r,zE1 fu d=some r/\(r=true->d.Defs.length<=40/\d.Waits.length<=40):=by
 unfold zE1
 rw [zAN,zAN]
 by_cases e:d.Defs.length<=40
 ·rw [iN (by omega)]
  by_cases j:d.Waits.length<=40
  ·rw [iN (by omega)]
   have u:=zKw (L:=zBq d) d.Waits (fun y=>decide (y.Name.length<=300)) (some true) (fun i hi k=>by
    simp only [zBq]
    rw [zAP (by simpa using hi),zAQ hi,zAA,zAN,zAZ (by omega),zAA]
    by_cases h:d.Waits[i].Name.length<=300
    ·rw [iN (by omega),decide_eq_true h];rfl
    ·rw [iP (by omega),decide_eq_false h];rfl) (fun k=>by simp only [zBq];rw [zAO (by simp)]) (k:=fu) (by omega)
   have q:=zKw (L:=zCj fu d) d.Defs (fun y=>decide (y.Name.length<=300)&&decide (y.Local.length<=300)) (zBq d fu 0) (fun i hi k=>by
    simp only [zCj]
    rw [zAP (by simpa using hi),zAQ hi,zAA,zAN,zAA,zAN,zAZ (by omega),zAA]
    by_cases h:d.Defs[i].Name.length<=300
    ·rw [iN (by omega),decide_eq_true h]
     by_cases g:d.Defs[i].Local.length<=300
     ·rw [iN (by omega),decide_eq_true g];rfl
     ·rw [iP (by omega),decide_eq_false g];rfl
    ·rw [iP (by omega),decide_eq_false h];rfl) (fun k=>by simp only [zCj];rw [zAO (by simp)]) (k:=fu) (by omega)
   rw [q,u]
   cases d.Defs.all (fun y=>decide (y.Name.length<=300)&&decide (y.Local.length<=300)) with
   | false=>exact ⟨_,rfl,fun _=>⟨e,j⟩⟩
   | true=>cases d.Waits.all (fun y=>decide (y.Name.length<=300))<;>exact ⟨_,rfl,fun _=>⟨e,j⟩⟩
  ·rw [iP (by omega)];exact ⟨false,rfl,by simp⟩
 ·rw [iP (by omega)];exact ⟨false,rfl,by simp⟩
theorem zgi:∃r,zE2 fu l=some r/\(r=true->LS 60 l):=by
 unfold zE2
 rw [zAN,zAN,zAN]
 by_cases D:l.Todos.length<=60
 ·rw [iN (by omega)]
  by_cases F:l.Stack.length<=30
  ·rw [iN (by omega)]
   by_cases E:l.Back.length<=60
   ·rw [iN (by omega)]
    have C:=zKw (L:=zBr l) l.Stack (fun y=>decide (y.length<=60)) (some true) (fun i hi k=>by
     simp only [zBr]
     rw [zAP (by simpa using hi),zAQ hi,zAA,zAN,zAZ (by omega),zAA]
     by_cases h:l.Stack[i].length<=60
     ·rw [iN (by omega),decide_eq_true h];rfl
     ·rw [iP (by omega),decide_eq_false h];rfl) (fun k=>by simp only [zBr];rw [zAO (by simp)]) (k:=fu) (by omega)
    have u:=zKw (L:=zCk fu l) l.Todos (fun y=>decide (y.length<=60)) (zBr l fu 0) (fun i hi k=>by
     simp only [zCk]
     rw [zAP (by simpa using hi),zAQ hi,zAA,zAN,zAZ (by omega),zAA]
     by_cases h:l.Todos[i].length<=60
     ·rw [iN (by omega),decide_eq_true h];rfl
     ·rw [iP (by omega),decide_eq_false h];rfl) (fun k=>by simp only [zCk];rw [zAO (by simp)]) (k:=fu) (by omega)
    rw [u,C]
    cases j:l.Todos.all (fun y=>decide (y.length<=60)) with
    | false=>exact ⟨_,rfl,fun h=>by cases h⟩
    | true =>
     cases q:l.Stack.all (fun y=>decide (y.length<=60)) with
     | false=>exact ⟨_,rfl,fun h=>by cases h⟩
     | true =>
      rw [lR] at j q
      exact ⟨_,rfl,fun _=>⟨D,fun t e=>by simpa using j t e,by omega,fun t e=>by simpa using q t e,E⟩⟩
   ·rw [iP (by omega)];exact ⟨false,rfl,by simp⟩
  ·rw [iP (by omega)];exact ⟨false,rfl,by simp⟩
 ·rw [iP (by omega)];exact ⟨false,rfl,by simp⟩
theorem zgj {cs:List Class}:∃r,zDr fu cs=some r/\(r=true->∀c∈cs,c.Watch.length<=20):=by
 unfold zDr
 rw [zAN]
 by_cases I:cs.length<=14
 ·rw [iN (by omega)]
  have F:=zKw (L:=zAz fu cs) cs (fun y=>decide (y.Watch.length<=20)&&(decide (y.Hooks.length<=20)&&(decide (y.Peek.length<=80)&&(decide (y.Make.length<=80)&&y.Hooks.all fun h=>decide (h.Do.length<=80))))) (some true) (fun i hi k=>by
   simp only [zAz]
   rw [zAP (by simpa using hi),zAQ hi,zAA,zAN,zAN,zAN,zAN]
   by_cases e:cs[i].Watch.length<=20
   ·rw [iN (by omega),decide_eq_true e,iD]
    by_cases u:cs[i].Hooks.length<=20
    ·rw [iN (by omega),decide_eq_true u,iD]
     by_cases C:cs[i].Peek.length<=80
     ·rw [iN (by omega),decide_eq_true C,iD]
      by_cases D:cs[i].Make.length<=80
      ·rw [iN (by omega),decide_eq_true D,iD]
       exact zKw (L:=zCn (i:Int) cs[i] (zAz fu cs k)) cs[i].Hooks (fun h=>decide (h.Do.length<=80)) (zAz fu cs k ((i+1:Nat):Int)) (fun j E q=>by
        simp only [zCn]
        rw [zAP (by simpa using E),zAQ E,zAA,zAN,zAZ (by omega),zAA]
        by_cases h:cs[i].Hooks[j].Do.length<=80
        ·rw [iN (by omega),decide_eq_true h];rfl
        ·rw [iP (by omega),decide_eq_false h];rfl) (fun q=>by simp only [zCn];rw [zAO (by simp),zAZ (by omega),zAA]) (by omega)
      ·rw [iP (by omega),decide_eq_false D];rfl
     ·rw [iP (by omega),decide_eq_false C];rfl
    ·rw [iP (by omega),decide_eq_false u];rfl
   ·rw [iP (by omega),decide_eq_false e];rfl) (fun k=>by simp only [zAz];rw [zAO (by simp)]) (k:=fu) (by omega)
  rw [F]
  cases a:cs.all (fun y=>decide (y.Watch.length<=20)&&(decide (y.Hooks.length<=20)&&(decide (y.Peek.length<=80)&&(decide (y.Make.length<=80)&&y.Hooks.all fun h=>decide (h.Do.length<=80))))) with
  | false=>exact ⟨_,rfl,fun h=>by cases h⟩
  | true =>
   rw [lR] at a
   exact ⟨_,rfl,fun _ c G=>by
    have:=a c G
    simp only [lM,decide_eq_true_eq] at this
    exact this.1⟩
 ·rw [iP (by omega)];exact ⟨false,rfl,by simp⟩
theorem zf6 {cs:List Class} (D:cs.length<=1000) (C:∀c∈cs,c.Watch.length<=20):∃r,zE6 fu cs=some r:=by
 unfold zE6
 have u:=zKw (L:=zA0 fu cs) cs (fun y=>y.Watch.all fun s=>decide (s.length<=300)) (some true) (fun i hi k=>by
  have hw:=C _ (gC hi)
  simp only [zA0]
  rw [zAP (by simpa using hi)]
  exact zKw (L:=zCo cs (i:Int) (zA0 fu cs k)) cs[i].Watch (fun s=>decide (s.length<=300)) (zA0 fu cs k ((i+1:Nat):Int)) (fun j e q=>by
   simp only [zCo]
   rw [zAQ hi,zAA,zAP (by simpa using e),zAA,zAQ e,zAA,zAN,zAZ (by omega),zAA]
   by_cases h:cs[i].Watch[j].length<=300
   ·rw [iN (by omega),decide_eq_true h];rfl
   ·rw [iP (by omega),decide_eq_false h];rfl) (fun q=>by simp only [zCo];rw [zAQ hi,zAA,zAO (by simp),zAZ (by omega),zAA]) (by omega)) (fun k=>by simp only [zA0];rw [zAO (by simp)]) (k:=fu) (by omega)
 rw [u]
 cases cs.all (fun y=>y.Watch.all fun s=>decide (s.length<=300))<;>exact ⟨_,rfl⟩
theorem zgk {w:World}:∃r,zE5 fu w=some r/\(r=true->WS 60 w/\w.Desk.Waits.length<=40):=by
 unfold zE5
 obtain ⟨Q,D,E⟩:=zUK (fu:=fu) (f:=w.Forest) (by omega)
 obtain ⟨S,F,j⟩:=zgh hfu (d:=w.Desk)
 obtain ⟨u,G,I⟩:=zgi hfu (l:=w.Line)
 obtain ⟨C,i,J⟩:=zgj hfu (cs:=w.Classes)
 have e:∃r,some false=some r/\(r=true->WS 60 w/\w.Desk.Waits.length<=40):=⟨false,rfl,by simp⟩
 rw [D,zAA,F,zAA,G,zAA,i,zAA,zAN,zAN,zAN]
 cases Q with
 | false=>exact e
 | true =>
  rw [zAW]
  by_cases M:w.States.length<=60
  ·rw [iP (by omega)]
   cases S with
   | false=>exact e
   | true =>
    rw [zAW]
    cases u with
    | false=>exact e
    | true =>
     rw [zAW]
     by_cases N:w.Tasks.length<=60
     ·rw [iP (by omega)]
      by_cases P:w.Builds.length<=60
      ·rw [iP (by omega)]
       cases C with
       | false=>exact e
       | true =>
        have q:w.Classes.length<=1000:=by
         unfold zDr at i
         rw [zAN] at i
         by_cases h:w.Classes.length<=14
         ·omega
         ·rw [iP (by omega)] at i;cases i
        obtain ⟨r,K⟩:=zf6 hfu q (J rfl)
        rw [zAW,K,zAA]
        have hs:=(E rfl).1
        exact ⟨r,rfl,fun _=>⟨⟨I rfl,N,P,by have:=(j rfl).1;omega,by have:=(j rfl).2;omega,fun x hx=>by have:=hs.kids x hx;omega,M⟩,(j rfl).2⟩⟩
      ·rw [iN (by omega)];exact e
     ·rw [iN (by omega)];exact e
  ·rw [iN (by omega)];exact e
end
end
section
theorem zHt {r : Type} {L:Nat->Int->Option Bool} (l:List r) (fin:Option Bool) (e:∀(i:Nat) (_:i<l.length) (k:Nat),L (k+1) (i:Int)=L k ((i+1:Nat):Int)) (j:∀k,L (k+1) (l.length:Int)=fin) {k:Nat} (q:l.length<k):L k 0=fin:=by
 rw [zKw (L:=L) l (fun _=>true) fin (fun i h k=>e i h k) j q]
 have:(l.all fun _=>true)=true:=by simp
 rw [this];rfl
theorem zY4 (x:Def):zfm x x=true:=by unfold zfm;simp
theorem zWe (x:Wait):zac x x=true:=by unfold zac;simp
theorem zWd (x:Todo):zab x x=true:=by unfold zab;simp
theorem zWc (x:Task):zaa x x=true:=by unfold zaa;simp
theorem zU4 (x:Build):zWa x x=true:=by unfold zWa;simp
theorem zU6 (x:State):zRQ x x=true:=by unfold zRQ;simp
theorem zU5 (x:Op):zfn x x=true:=zdA.2 rfl
section
variable {fu:Nat} (hfu:1000000000<fu)
include hfu
theorem zY3 {d:Desk} (h:d.Defs.length<=900) (j:d.Waits.length<=900):zFX fu d d=some true:=by
 have e:=zHt (L:=zCF d d) d.Waits (some true) (fun i hi k=>by
  simp only [zCF]
  rw [zAP (by simpa using hi),zAQ hi,zAA,zAA,zWe,iE,zAF,zAZ (by omega),zAA]) (fun k=>by simp only [zCF];rw [zAO (by simp)]) (k:=fu) (by omega)
 unfold zFX
 rw [zAd,iP rfl,zAd,iP rfl,zAd,iP rfl]
 simp only [beq_self_eq_true,iE,zAF]
 rw [zHt (L:=zC2 fu d d) d.Defs (zCF d d fu 0) (fun i hi k=>by
  simp only [zC2]
  rw [zAP (by simpa using hi),zAQ hi,zAA,zAA,zY4,iE,zAF,zAZ (by omega),zAA]) (fun k=>by simp only [zC2];rw [zAO (by simp)]) (k:=fu) (by omega),e]
theorem zZa {l:List Todo} (h:l.length<=900000000):zE3 fu l l=some true:=by
 unfold zE3
 rw [zAd,iP rfl]
 exact zHt (L:=zCl l l) l (some true) (fun i hi k=>by
  simp only [zCl]
  rw [zAP (by simpa using hi),zAQ hi,zAA,zAA,zWd,iE,zAF,zAZ (by omega),zAA]) (fun k=>by simp only [zCl];rw [zAO (by simp)]) (by omega)
theorem zVH {l:List Int} (h:l.length<=900000000):zBx fu l l=some true:=by
 unfold zBx
 rw [zAd,iP rfl]
 exact zHt (L:=zBK l l) l (some true) (fun i hi k=>by
  simp only [zBK]
  rw [zAP (by simpa using hi),zAQ hi,zAA,zAA,zAd,iP rfl,zAZ (by omega),zAA]) (fun k=>by simp only [zBK];rw [zAO (by simp)]) (by omega)
theorem zZI {B:Nat} (hS:LS B l) (hB:B<=900000000):zFY fu l l=some true:=by
 have h:=hS.todos
 have j:=hS.stack
 have q:=hS.back
 have e:=zHt (L:=zCG fu l l) l.Stack (some true) (fun i hi k=>by
  have:=hS.lists _ (gC hi)
  simp only [zCG]
  rw [zAP (by simpa using hi),zAQ hi,zAA,zAA,zVH hfu (by omega),zAA,iE,zAF,zAZ (by omega),zAA]) (fun k=>by simp only [zCG];rw [zAO (by simp)]) (k:=fu) (by omega)
 unfold zFY
 rw [zAd,iP rfl,zAd,iP rfl,zVH hfu (by omega),zAA]
 simp only [beq_self_eq_true,iE,zAF]
 rw [zHt (L:=zC3 fu l l) l.Todos (zCG fu l l fu 0) (fun i hi k=>by
  have:=hS.todo _ (gC hi)
  simp only [zC3]
  rw [zAP (by simpa using hi),zAQ hi,zAA,zAA,zZa hfu (by omega),zAA,iE,zAF,zAZ (by omega),zAA]) (fun k=>by simp only [zC3];rw [zAO (by simp)]) (k:=fu) (by omega),e]
theorem zXH {l:List State} (h:l.length<=900000000):zEg fu l l=some true:=by
 unfold zEg
 rw [zAd,iP rfl]
 exact zHt (L:=zCK l l) l (some true) (fun i hi k=>by
  simp only [zCK]
  rw [zAP (by simpa using hi),zAQ hi,zAA,zAA,zU6,iE,zAF,zAZ (by omega),zAA]) (fun k=>by simp only [zCK];rw [zAO (by simp)]) (by omega)
theorem zTw {l:List Op} (h:l.length<=900000000):zDi fu l l=some true:=by
 unfold zDi
 rw [zAd,iP rfl]
 exact zHt (L:=zDI l l) l (some true) (fun i hi k=>by
  simp only [zDI]
  rw [zAP (by simpa using hi),zAQ hi,zAA,zAA,zU5,iE,zAF,zAZ (by omega),zAA]) (fun k=>by simp only [zDI];rw [zAO (by simp)]) (by omega)
theorem zYn {c:Class} (h:zH1 c=true):zE4 fu c c=some true:=by
 unfold zH1 at h
 simp only [lM,decide_eq_true_eq,lR] at h
 obtain ⟨q,_,r,j,u,C⟩:=h
 have e:=zHt (L:=zBs fu c c) c.Hooks (some true) (fun i hi k=>by
  have:=j _ (gC hi)
  unfold zay at this
  simp only [lM,decide_eq_true_eq] at this
  simp only [zBs]
  rw [zAP (by simpa using hi),zAQ hi,zAA,zAA,zAd,iP rfl,zAA,zAA,zTw hfu (by omega),zAA,iE,zAF,zAZ (by omega),zAA]) (fun k=>by simp only [zBs];rw [zAO (by simp)]) (k:=fu) (by omega)
 unfold zE4
 simp only [beq_self_eq_true,iE,zAF]
 rw [zAd,iP rfl,zTw hfu (by omega),zAA,zTw hfu (by omega),zAA,zAd,iP rfl]
 simp only [iE,zAF]
 rw [zHt (L:=zCm fu c c) c.Watch (zBs fu c c fu 0) (fun i hi k=>by
  simp only [zCm]
  rw [zAP (by simpa using hi),zAQ hi,zAA,zAA,beq_self_eq_true,iE,zAF,zAZ (by omega),zAA]) (fun k=>by simp only [zCm];rw [zAO (by simp)]) (k:=fu) (by omega),e]
theorem zUu {cs:List Class} (e:cs.length<=1000) (h:∀c∈cs,zH1 c=true):zEJ fu cs cs=some true:=by
 unfold zEJ
 rw [zAd,iP rfl]
 exact zHt (L:=zB1 fu cs cs) cs (some true) (fun i hi k=>by
  simp only [zB1]
  rw [zAP (by simpa using hi),zAQ hi,zAA,zAA,zYn hfu (h _ (gC hi)),zAA,iE,zAF,zAZ (by omega),zAA]) (fun k=>by simp only [zB1];rw [zAO (by simp)]) (by omega)
omit hfu in
theorem WR.allowed {w:World} (h:WR w):w.Classes.length<=12/\∀c∈w.Classes,zH1 c=true:=by
 have:=h.cl
 unfold zLP at this
 simp only [lM,lR,decide_eq_true_eq] at this
 exact ⟨this.1,this.2.1⟩
theorem zS9 {B:Nat} {w:World} (hS:WS B w) (hB:B<=900000000) (hR:WR w):zBy fu w w=some true:=by
 have j:=hS.tasks
 have q:=hS.builds
 have r:=hS.states
 have e:=WR.allowed hR
 have h:=zHt (L:=zCH fu w w) w.Builds (some true) (fun i hi k=>by
  simp only [zCH]
  rw [zAP (by simpa using hi),zAQ hi,zAA,zAA,zU4,iE,zAF,zAZ (by omega),zAA]) (fun k=>by
  simp only [zCH]
  rw [zAO (by simp),(zAI hR.fr).same (by omega),zAA,zAW,zXH hfu (by omega),zAA,zAW,zY3 hfu hS.defs hS.waits,zAA,zAW,zZI hfu hS.line hB,zAA,zAW,zUu hfu (by omega) e.2,zAA]) (k:=fu) (by omega)
 unfold zBy
 rw [zAd,iP rfl,zAd,iP rfl]
 rw [zHt (L:=zC4 fu w w) w.Tasks (zCH fu w w fu 0) (fun i hi k=>by
  simp only [zC4]
  rw [zAP (by simpa using hi),zAQ hi,zAA,zAA,zWc,iE,zAF,zAZ (by omega),zAA]) (fun k=>by simp only [zC4];rw [zAO (by simp)]) (k:=fu) (by omega),h]
end
end
section
theorem zfH:zGZ 10000000000=some true:=by decide +kernel
end
section
theorem WS.todos {B:Nat} {w:World} (hR:WR w) (_h:B=B):w.Line.Todos.length<=400:=by
 rw [hR.td];exact (zAI hR.fr).few
end
end Go.Proofs.YtmfbghpealgaiaaGreatDoor
