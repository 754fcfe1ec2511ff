/- Plain laws on the models, one behind the other. -/
import Derived.Test.YtmfbghpealgaiaaGreatDoorG
import Derived.Test.YtmfbghpealgaiaaGreatDoorCo3
/- strings.Contains of one byte, where the seat has it over the library's Index. -/
namespace Go.Proofs.YtmfbghpealgaiaaGreatDoor
open Go Go.Pw
open List renaming length_append->eR,length_cons->cP,contains_iff_mem->e7,all_eq_true->lR,mem_cons->lD,mem_cons_of_mem->lG,getElem_mem->gC,mem_singleton->e8,mem_flatMap->iB,mem_append->cA,getElem?_eq_getElem->lC,take_succ_eq_append_getElem->iE,append_assoc->eS,drop_eq_getElem_cons->eT,countP_congr->iF,length_take->cR,flatMap_append->iG,flatMap_cons->iH,nodup_append->dM,take_length->iI,append_nil->gI,mem_filter->iJ,length_drop->iK,mem_map->lE,length_nil->eK,range->cW,map_congr_left->iM,length->iO,nodup_cons->lS,all_cons->cK,all_nil->iQ,flatMap_def->iS,cons->dU,length_filter_le->iT,nil_append->iU,any_eq_true->dN,mem_of_getElem?->lU,mem_or_eq_of_mem_set->dT,take_append_of_le_length->iV,getElem_of_mem->iW,filter_sublist->iX,map_map->iZ,map_cons->lT,map_set->dK,countP_le_length->jA,mem_cons_self->lH,length_flatMap->jB,length_map->lL,getElem?_map->lK,set_getElem_self->jC,countP_append->jE,suffix_refl->jF,suffix_cons->jG,append_of_mem->jH,take_take->jI,filter_append->jK,filter_eq_self->jM,mem_range->jO,getElem_map->jP,any_eq_false->gK,getElem?_cons_zero->eU,contains_eq_any_beq->jR,countP_cons->dG,take_append_drop->jT,suffix_of_suffix_length_le->jU,pairwise_flatMap->jV,eq_nil_or_concat->jW,concat_eq_append->jX,flatMap_nil->jY,reverse_append->jZ,map_reverse->kD,sum_reverse->kE,length_set->eE,getElem?_append_left->lN,map_append->gG,length_replicate->kF,eraseIdx_eq_take_drop_succ->kG,take_of_length_le->kH
open Nat renaming le_refl->cB,le_trans->eM,zero_add->dA,min_self->jJ
open Int renaming toNat_natCast->eO
open Option renaming some->lJ,map_some->lW,map_eq_none_iff->jS
open Bool renaming and_eq_true->lM,or_eq_true->dD,false_or->e9,not_true->iA,true_and->iD,eq_iff_iff->eW,eq_false_iff->iL,and_self->iR,or_eq_false_iff->iY,false_and->jD,not_false->jL,and_eq_false_iff->jN,not_eq_true'->gM,and_false->jQ
variable {l:List Attr} {α:Type} {j child:Int} {s:Bs} {a m:List Node} {v:zAL} {w:Node} {h:Int->Node->Node} {i:Nat} {C:Int->Prop} {t:Int->Option Bool} {L nodes:List Int}
section
def zOc (_fu:Nat) (s:Bs) (c:UInt8):Option Bool:=some (decide (0<=Lib.indexByte s c))
theorem zPn (fu:Nat) (s:Bs) (c:UInt8):zEH fu s [c]=zOc fu s c:=by
 unfold zEH zJS zTq zOc
 rfl
end
section
def za4 (b:UInt8):Bool:=decide (97<=b.toNat)&&decide (b.toNat<=122)
def upB (b:UInt8):Bool:=decide (65<=b.toNat)&&decide (b.toNat<=90)
def zPU (b:UInt8):Bool:=za4 b||upB b||(decide (48<=b.toNat)&&decide (b.toNat<=57))||decide (b.toNat=45)||decide (b.toNat=95)||decide (b.toNat=46)
def zY6 (b:UInt8):Bool:=za4 b||upB b||decide (b.toNat=95)
def zFb (s:Bs):Bool:=decide (0<s.length)&&decide (s.length<=40)&&s.all zPU&&(match s with | []=>false | b::_=>zY6 b)
def zGJ (b:UInt8):UInt8:=if upB b then b+32 else b
theorem zUP (fu:Nat) (c:Int):zFi fu c=some (decide (97<=c)&&decide (c<=122)):=by
 unfold zFi;by_cases h:97<=c<;>simp [h]
theorem zMl (fu:Nat) (c:Int):zBj fu c=some (decide (65<=c)&&decide (c<=90)):=by
 unfold zBj;by_cases h:65<=c<;>simp [h]
theorem end3 (c:Int):(if c=45 then some true else if c=95 then some true else some (c==46))=some (decide (c=45)||decide (c=95)||decide (c=46)):=by
 by_cases d:c=45
 ·simp [d]
 ·by_cases e:c=95
  ·simp [e]
  ·rw [iN d,iN e,decide_eq_false d,decide_eq_false e];rfl
theorem zbu (fu:Nat) (c:Int):zHj fu c=some ((decide (97<=c)&&decide (c<=122))||(decide (65<=c)&&decide (c<=90))||(decide (48<=c)&&decide (c<=57))||decide (c=45)||decide (c=95)||decide (c=46)):=by
 unfold zHj zGo
 simp only [zUP,zMl,bnd_some,zAd]
 by_cases d:97<=c<;>by_cases e:c<=122<;>by_cases o:65<=c<;>by_cases q:c<=90<;>by_cases r:48<=c<;>by_cases u:c<=57<;>simp [d,e,o,q,r,u]<;>(first | omega | exact end3 c)
theorem zTv (b:UInt8):(decide (97<=(b.toNat:Int))&&decide ((b.toNat:Int)<=122))=za4 b:=by
 unfold za4;congr 1<;>exact decide_eq_decide.2 (by omega)
theorem zXN (b:UInt8):(decide (65<=(b.toNat:Int))&&decide ((b.toNat:Int)<=90))=upB b:=by
 unfold upB;congr 1<;>exact decide_eq_decide.2 (by omega)
theorem zbt (fu:Nat) (b:UInt8):zHj fu (b.toNat:Int)=some (zPU b):=by
 rw [zbu,zTv,zXN];unfold zPU
 congr 1
 have d:(decide (48<=(b.toNat:Int))&&decide ((b.toNat:Int)<=57))=(decide (48<=b.toNat)&&decide (b.toNat<=57)):=by congr 1<;>exact decide_eq_decide.2 (by omega)
 have e:decide ((b.toNat:Int)=45)=decide (b.toNat=45):=decide_eq_decide.2 (by omega)
 have o:decide ((b.toNat:Int)=95)=decide (b.toNat=95):=decide_eq_decide.2 (by omega)
 have q:decide ((b.toNat:Int)=46)=decide (b.toNat=46):=decide_eq_decide.2 (by omega)
 rw [d,e,o,q]
theorem zgj (fu:Nat) (c:Int) (h:128<=c):zHj fu c=some false:=by
 rw [zbu]
 simp only [decide_eq_false (show ¬c<=122 by omega),decide_eq_false (show ¬c<=90 by omega),decide_eq_false (show ¬c<=57 by omega),decide_eq_false (show ¬c=45 by omega),decide_eq_false (show ¬c=95 by omega),decide_eq_false (show ¬c=46 by omega),jQ,Bool.or_false]
theorem zPt {fu:Nat} {f:UInt8->Bool} (F:∀b∈s,b.toNat<128->t (b.toNat:Int)=some (f b)) (hi:(∀b∈s,b.toNat<128)\/∀r:Int,128<=r->t r=some true) (J:s.length<fu) :
  zB0 fu t s=some (s.any fun b=>decide (128<=b.toNat)||f b):=by
 have E:∃r,zA2 t s true fu 0=some r/\decide (r>=0)=s.any fun b=>decide (128<=b.toNat)||f b:=by
  refine up (L:=zA2 t s true) (Inv:=fun i x=>x=i/\∀(j:Nat) (h:j<s.length),j<i->(decide (128<=s[j].toNat)||f s[j])=false) (Fin:=fun v=>∃r,v=some r/\decide (r>=0)=s.any fun b=>decide (128<=b.toNat)||f b) s.length (fun i x d ⟨hx,u⟩=>?_) (fun x ⟨hx,u⟩=>?_) (i:=0) ⟨rfl,fun j _ u=>by omega⟩ (Nat.zero_le _) (by omega)
  ·subst hx
   by_cases q:(decide (128<=s[x].toNat)||f s[x])=true
   ·refine .inl ⟨some (x:Int),⟨_,rfl,?_⟩,fun k=>?_⟩
    ·rw [decide_eq_true (by omega)]
     exact (dN.2 ⟨_,gC d,q⟩).symm
    ·simp only [zA2]
     rw [zAP (by simpa using d)]
     by_cases e:s[x].toNat<128
     ·rw [decide_eq_false (by omega),e9] at q
      rw [(zaN d e).1,F _ (gC d) e,bnd_some,q];rfl
     ·rcases hi with hi | hi
      ·exact absurd (hi _ (gC d)) e
      ·rw [hi _ (dec_hi d (by omega))];rfl
   ·have o:=iL.2 q
    have e:s[x].toNat<128:=by
     rw [iY,decide_eq_false_iff_not] at o
     omega
    refine .inr ⟨x+1,⟨rfl,fun j h D=>?_⟩,fun k=>?_⟩
    ·rcases Nat.lt_succ_iff_lt_or_eq.1 D with B | B
     ·exact u j h B
     ·subst B;exact o
    ·rw [iY] at o
     simp only [zA2]
     rw [zAP (by simpa using d),(zaN d e).1,F _ (gC d) e,bnd_some,o.2,(zaN d e).2];rfl
  ·subst hx
   refine ⟨some (-1),⟨_,rfl,?_⟩,fun k=>?_⟩
   ·have:(s.any fun b=>decide (128<=b.toNat)||f b)=false:=by
     rw [gK]
     intro b e
     obtain ⟨j,h,rfl⟩:=List.mem_iff_getElem.1 e
     simpa using u j h h
    rw [this];rfl
   ·simp only [zA2]
    rw [zAO (by simp)]
 obtain ⟨r,G,I⟩:=E
 unfold zB0 zFB zFC
 rw [G,bnd_some,bnd_some,I]
theorem zap (b:UInt8) (fu:Nat):(bnd (rng .i32 (b.toNat:Int)) fun d=>bnd (zFi fu d) fun o=>cnd o (some true) (bnd (zBj fu d) fun q=>cnd q (some true) (some (d==95))))=some (zY6 b):=by
 have r:=b.toNat_lt
 rw [zKD (by simp only [lo,hi];omega),bnd_some,zUP,zMl,bnd_some,bnd_some,zTv,zXN]
 unfold zY6
 have e:((b.toNat:Int)==95)=decide (b.toNat=95):=by rw [eW];simp;omega
 rw [e]
 cases za4 b<;>cases upB b<;>rfl
theorem zcn (s:Bs):(s.any fun b=>decide (128<=b.toNat) || !(zPU b)) = !(s.all zPU):=by
 rw [List.not_all_eq_any_not]
 congr 1
 funext b
 cases h:zPU b
 ·simp
 ·have:b.toNat<128:=by
   unfold zPU za4 upB at h
   simp only [dD,lM,decide_eq_true_eq] at h
   omega
  simp;omega
theorem zYS {fu:Nat} (hfu:40<fu):zIF fu s=some (zFb s):=by
 unfold zIF zFb
 rw [zAM,zAM]
 by_cases d:s.length<1
 ·rw [iP (by omega)];simp [show ¬0<s.length by omega]
 rw [iN (by omega)]
 by_cases e:s.length>40
 ·rw [iP (by omega)];simp [show ¬s.length<=40 by omega]
 rw [iN (by omega),zPt (f:=fun b => !(zPU b)) (fun b _ _=>by unfold zDP;rw [zbt];rfl) (.inr fun r hr=>by unfold zDP;rw [zgj _ _ hr];rfl) (by omega),bnd_some,zcn,zPA]
 obtain ⟨b,t,rfl⟩:∃b t,s=b::t:=by cases s<;>simp_all
 rw [zXc]
 simp only [eU,lW,bnd_some]
 rw [zap]
 rw [decide_eq_true (by omega),decide_eq_true (by omega)]
 cases (b::t).all zPU<;>simp
def zcd (y:Int):Int:=if 65<=y/\y<=90 then y+32 else y
theorem zb4 (b:UInt8):upB b=true↔65<=b.toNat/\b.toNat<=90:=by unfold upB;simp
theorem za5 (b:UInt8):zcd (b.toNat:Int)=((zGJ b).toNat:Int):=by
 unfold zcd zGJ
 by_cases h:upB b=true
 ·have:=(zb4 b).1 h
  rw [iP (by omega),iP h,UInt8.toNat_add]
  simp;omega
 ·have:¬(65<=b.toNat/\b.toNat<=90):=fun d=>h ((zb4 b).2 d)
  rw [iN (by omega),iN h]
theorem zgl (s:Bs):zVu ((zDz s).map zcd)=s.map zGJ:=by
 unfold zVu zDz
 rw [iZ,iZ]
 refine iM fun b _=>?_
 simp only [Function.comp,za5,eO,UInt8.ofNat_toNat]
theorem zRf {fu:Nat} (q:s.length<fu) (o:s.length<=1000000):zEC fu s=some (s.map zGJ):=by
 unfold zEC
 rw [zAc (by omega),bnd_some]
 have d:(zDz s).length=s.length:=by simp [zDz]
 have:=upf (L:=zE7 fu s) (f:=fun i=>((i:Int),mix zcd (zDz s) i)) (v:=some (s.map zGJ)) (zDz s).length (fun i hi k=>?_) (fun k=>?_) (by rw [d];exact q)
 ·simpa [zX4] using this
 ·simp only [zE7]
  rw [zAP (by simpa using hi),zbD zcd hi,bnd_some]
  have hy:(zDz s)[i]=((s[i]'(d▸hi)).toNat:Int):=by simp [zDz]
  have r:rng .i64 ((i:Int)+1)=some ((i+1:Nat):Int):=zBL (by omega)
  rw [<- zTx zcd hi]
  have hk:=zdY zcd hi
  rw [<- zTx zcd hi] at hk
  rw [hy] at hk ⊢
  have o:=(s[i]'(d▸hi)).toNat_lt
  generalize (s[i]'(d▸hi)).toNat=n at o hk
  rw [zKD (by simp only [lo,Go.Pw.hi];omega),bnd_some,zMl,bnd_some,r]
  by_cases h:65<=(n:Int)/\(n:Int)<=90
  ·rw [zAP (by simp;omega),zKD (by simp only [lo,Go.Pw.hi];omega),bnd_some,zKD (by simp only [lo,Go.Pw.hi];omega),bnd_some,bnd_some,bnd_some]
   unfold zcd
   rw [iP h,show (n:Int) - 65+97=n+32 by omega]
  ·have e:zcd (n:Int)=n:=iN h
   rw [zAO (by simp;omega),bnd_some,<- hk e]
 ·simp only [zE7]
  rw [zAO (by simp),zbE,zgl]
def words:List Bs:=[[97,110,110,111,116,97,116,105,111,110,45,120,109,108],[99,111,108,111,114,45,112,114,111,102,105,108,101],[102,111,110,116,45,102,97,99,101],[102,111,110,116,45,102,97,99,101,45,115,114,99],[102,111,110,116,45,102,97,99,101,45,117,114,105],[102,111,110,116,45,102,97,99,101,45,102,111,114,109,97,116],[102,111,110,116,45,102,97,99,101,45,110,97,109,101],[109,105,115,115,105,110,103,45,103,108,121,112,104]]
def zFI (s:Bs):Bool:=zFb s&&(match s with | []=>false | b::_=>za4 b) && !(s.any upB)&&s.contains 45 && !(words.contains s)
theorem zJ8 {fu:Nat} {l:List Bs} (o:l.length<fu) (q:l.length<=1000000):zA6 fu l s=some (l.contains s):=by
 unfold zA6 zFl
 obtain ⟨r,d,e⟩:=zGB (L:=zBz l s) l (fun x=>s==x) (fun i hi k=>by
  simp only [zBz]
  rw [zAP (by simpa using hi),zAQ hi,bnd_some,zBL (by omega),bnd_some]
  cases s==l[i]<;>rfl) (fun k=>by simp only [zBz];rw [zAO (by simp)]) o
 rw [d,bnd_some,e]
 congr 1
 rw [jR]
theorem zS3 (h:zFb s=true):0<s.length/\s.length<=40:=by
 unfold zFb at h
 simp only [lM,decide_eq_true_eq] at h
 exact h.1.1
theorem zHu {fu:Nat} (hfu:200<fu):zCs fu s=some (zFI s):=by
 unfold zCs zFI
 rw [zYS (by omega),bnd_some]
 cases hr:zFb s
 ·rfl
 ·rw [cnd_true]
  have B:s.length<fu:=by have:=zS3 hr;omega
  have o:=hr
  unfold zFb at o
  obtain ⟨b,t,rfl⟩:∃b t,s=b::t:=by cases s<;>simp_all
  simp only [lM] at o
  have D:=b.toNat_lt
  have d:∀c∈b::t,c.toNat<128:=fun c u=>by
   have:=lR.1 o.1.2 c u
   unfold zPU za4 upB at this
   simp only [dD,lM,decide_eq_true_eq] at this
   omega
  have q:((b::t).any fun c=>decide (128<=c.toNat)||upB c)=(b::t).any upB:=by
   rw [eW,dN,dN]
   constructor
   ·rintro ⟨c,r,e⟩
    rw [dD,decide_eq_true_eq] at e
    rcases e with e | e
    ·have:=d c r;omega
    ·exact ⟨c,r,e⟩
   ·rintro ⟨c,r,e⟩
    exact ⟨c,r,by rw [e,Bool.or_true]⟩
  rw [zXc,eU,lW,bnd_some,zKD (by simp only [lo,Go.Pw.hi];omega),bnd_some,zUP,zTv,bnd_some,
   zPt (f:=upB) (fun c _ _=>by rw [zMl,zXN]) (.inl d) B,bnd_some,q]
  rw [zPn];unfold zOc zJJ
  rw [bnd_some,bnd_some,zJ8 (by simp;omega) (by simp),bnd_some,zTr]
  simp only [iD]
  cases za4 b<;>cases (b::t).any upB<;>cases (b::t).contains 45<;>rfl
def zWl (s:Bs):Bool:=zFb s&&(s.map zGJ==s)
theorem zSf {fu:Nat} (hfu:200<fu):zFz fu s=some (if zFb s then (s.map zGJ,0) else ([],4)):=by
 unfold zFz
 rw [zYS (by omega),bnd_some,zPA]
 cases hr:zFb s
 ·rfl
 ·have:=zS3 hr
  rw [cnd_true,zRf (by omega) (by omega),bnd_some];rfl
end
section
theorem zRa {o r : Type} [DecidableEq o]:∀(l:List (o × r)) (k : o) (v : r),(k∈l.map (·.1)/\(zGz l k v).map (·.1)=l.map (·.1))\/(k∉l.map (·.1)/\(zGz l k v).map (·.1)=l.map (·.1)++[k]):=by
 have d:∀(l:List (o × r)) (k : o),zHt l k=none->k∉l.map (·.1):=by
  intro l
  induction l with
  | nil=>intro k _;simp
  | cons x l E =>
   intro k h
   simp only [zHt] at h
   split at h
   ·cases h
   ·rename_i q
    simp only [lT,lD,not_or]
    exact ⟨fun e=>q e.symm,E k (jS.1 h)⟩
 intro l k v
 unfold zGz
 cases h:zHt l k with
 | none=>exact .inr ⟨d l k h,by simp⟩
 | some j =>
  obtain ⟨F,u⟩:=zI4 h
  refine .inl ⟨lE.2 ⟨_,lU u,rfl⟩,?_⟩
  simp only [dK]
  have:(l.map (·.1))[j]? = some k:=by rw [lK,u];rfl
  obtain ⟨B,D⟩:=List.getElem?_eq_some_iff.1 this
  rw [<- D];exact jC B
def tbl:List Attr->List (Bs×Attr)->List (Bs×Attr)
 | [],m=>m
 | a::l,m=>tbl l (zGz m a.Name a)
theorem zXJ:∀(l:List Attr) (m:List (Bs×Attr)),(m.map (·.1)).Nodup->(tbl l m).length<=m.length+l.length/\((tbl l m).length=m.length+l.length↔(l.map (·.Name)).Nodup/\∀a∈l,a.Name∉m.map (·.1))
 | [],m,_=>by simp [tbl]
 | a::l,m,hm=>by
  simp only [tbl]
  rcases zRa m a.Name a with ⟨r,o⟩ | ⟨r,o⟩
  ·have d:(zGz m a.Name a).length=m.length:=by have:=congrArg iO o;simpa using this
   have u:=zXJ l (zGz m a.Name a) (by rw [o];exact hm)
   rw [d] at u
   refine ⟨by simp only [cP];omega,?_⟩
   simp only [cP]
   constructor
   ·intro h;omega
   ·rintro ⟨_,h⟩
    exact absurd r (h a (by simp))
  ·have d:(zGz m a.Name a).length=m.length+1:=by have:=congrArg iO o;simpa using this
   have u:=zXJ l (zGz m a.Name a) (by rw [o,dM];exact ⟨hm,by simp,fun x hx y hy=>by simp at hy;subst hy;exact fun e=>r (e▸hx)⟩)
   rw [d,o] at u
   refine ⟨by simp only [cP];omega,?_⟩
   simp only [cP]
   rw [show m.length+(l.length+1)=m.length+1+l.length by omega,u.2]
   simp only [lT]
   constructor
   ·rintro ⟨B,q⟩
    refine ⟨lS.2 ⟨fun hm=>?_,B⟩,fun b D=>?_⟩
    ·obtain ⟨x,hx,e⟩:=lE.1 hm
     exact q x hx (cA.2 (.inr (by simp [e])))
    ·rcases lD.1 D with rfl | D
     ·exact r
     ·exact fun h=>q b D (cA.2 (.inl h))
   ·rintro ⟨B,q⟩
    obtain ⟨E,F⟩:=lS.1 B
    refine ⟨F,fun x hx h=>?_⟩
    rcases cA.1 h with h | h
    ·exact q x (by simp [hx]) h
    ·simp at h
     exact E (lE.2 ⟨x,hx,h⟩)
def zGk (l:List Attr):Bool:=decide (l.length<=40)&&((l.all fun a=>zWl a.Name&&decide (a.Value.length<=200))&&decide ((l.map (·.Name)).Nodup))
theorem zeI {fu:Nat} (o:l.length<fu) (r:l.length<=1000000):zJu fu l=some (tbl l []):=by
 unfold zJu
 have e:∀(j i k:Nat) (m:List (Bs×Attr)),i+j=l.length->j<k->zFw l k ((i:Int),m)=some (tbl (l.drop i) m):=by
  intro j
  induction j with
  | zero =>
   intro i k m hi hk
   obtain ⟨k,rfl⟩:∃d,k=d+1:=⟨k - 1,by omega⟩
   obtain rfl:i=l.length:=by omega
   simp only [zFw]
   rw [zAO (by simp),List.drop_length];rfl
  | succ j q =>
   intro i k m hi hk
   obtain ⟨k,rfl⟩:∃d,k=d+1:=⟨k - 1,by omega⟩
   have h:i<l.length:=by omega
   simp only [zFw]
   rw [zAP (by simpa using h),zAQ h,bnd_some,zBL (by omega),bnd_some,q (i+1) k _ (by omega) (by omega),eT h]
   rfl
 simpa using e l.length 0 fu [] (by omega) o
theorem zRE {fu:Nat} {t:Attr->Option Bool} {p:Attr->Bool} (q:∀x∈l,t x=some (p x)) (o:l.length<fu) (u:l.length<=1000000):zB5 fu t l=some (l.any p):=by
 unfold zB5 zBG
 obtain ⟨r,d,e⟩:=zGB (L:=zAU t l) l p (fun i hi k=>by
  simp only [zAU]
  rw [zAP (by simpa using hi),zAQ hi,bnd_some,q _ (gC hi),bnd_some,zBL (by omega),bnd_some]
  cases p l[i]<;>rfl) (fun k=>by simp only [zAU];rw [zAO (by simp)]) o
 rw [d,bnd_some,e]
theorem zcq {fu:Nat} {a:Attr} (hfu:200<fu):zES fu a=some (!(zWl a.Name&&decide (a.Value.length<=200))):=by
 unfold zES zWl
 rw [zSf hfu,bnd_some]
 have e:decide ((a.Value.length:Int)>200) = !(decide (a.Value.length<=200)):=by
  by_cases h:a.Value.length<=200
  ·rw [decide_eq_true h,decide_eq_false (by omega)];rfl
  ·rw [decide_eq_false h,decide_eq_true (by omega)];rfl
 rw [e]
 cases zFb a.Name
 ·rfl
 ·simp only [if_true,iD]
  cases a.Name.map zGJ==a.Name<;>rfl
theorem zHq (l:List α) (p : α -> Bool):(!(l.any fun x => !(p x)))=l.all p:=by
 rw [List.all_eq_not_any_not]
theorem zPh {fu:Nat} (hfu:200<fu):zGm fu l=some (zGk l):=by
 unfold zGm zGk
 rw [show decide ((l.length:Int)<=40)=decide (l.length<=40) from decide_eq_decide.2 (by omega)]
 by_cases h:l.length<=40
 ·rw [decide_eq_true h,cnd_true,zRE (p:=fun a => !(zWl a.Name&&decide (a.Value.length<=200))) (fun a _=>zcq hfu) (by omega) (by omega),bnd_some,zeI (by omega) (by omega),bnd_some,zHq,iD]
  have e:(((tbl l []).length:Int)==(l.length:Int))=decide ((l.map (·.Name)).Nodup):=by
   have:=zXJ l [] (by simp)
   simp only [eK,dA,List.map_nil,List.not_mem_nil,not_false_eq_true,implies_true,and_true] at this
   rw [eW,beq_iff_eq,decide_eq_true_eq,<- this.2]
   omega
  rw [e]
  cases l.all fun a=>zWl a.Name&&decide (a.Value.length<=200)<;>rfl
 ·rw [decide_eq_false h];rfl
def zHP (x:Node):Bool :=
 if x.Kind=1 then zWl x.Name&&((x.Is==[]||zFI x.Is)&&(x.Data==[]&&zGk x.Attrs))
 else if x.Kind=2 then decide (x.Data.length<=200)&&(x.Name==[]&&(x.Is==[]&&decide (x.Attrs.length=0)))
 else if x.Kind=0\/x.Kind=3\/x.Kind=4 then x.Name==[]&&(x.Is==[]&&(x.Data==[]&&decide (x.Attrs.length=0)))
 else false
theorem len0 (l:List Attr):(((l.length:Int))==0)=decide (l.length=0):=by
 rw [eW,beq_iff_eq,decide_eq_true_eq];omega
theorem zda (x:Node) (c:Bs):zDb x c=some (x.Name==[]&&(x.Is==[]&&(c==[]&&decide (x.Attrs.length=0)))):=by
 unfold zDb
 rw [len0]
 cases x.Name==([]:Bs)<;>cases x.Is==([]:Bs)<;>cases c==([]:Bs)<;>rfl
theorem zSn {fu:Nat} {x:Node} (hfu:200<fu):zGQ fu x=some (zHP x):=by
 unfold zGQ zHP
 simp only [zSf hfu,zPh hfu,zHu hfu,bnd_some,zda,zAd,zAM]
 by_cases r:x.Kind=1
 ·simp only [iP r]
  unfold zWl
  cases hr:zFb x.Name
  ·simp
  ·simp only [if_true,iD]
   by_cases o:x.Name.map zGJ=x.Name
   ·have q:(x.Name.map zGJ==x.Name)=true:=by simp [o]
    simp only [iP o,q,iD]
    by_cases d:x.Is=[]
    ·simp only [d]
     by_cases e:x.Data=[]
     ·simp [e]
     ·simp [e]
    ·have B:(x.Is==([]:Bs))=false:=by simpa using d
     simp only [iN d,B,e9]
     cases zFI x.Is
     ·rfl
     ·by_cases e:x.Data=[]
      ·simp [e]
      ·simp [e]
   ·have q:(x.Name.map zGJ==x.Name)=false:=by simpa using o
    simp only [iN o,q,jD]
 ·simp only [iN r]
  by_cases o:x.Kind=2
  ·simp only [iP o]
   by_cases d:x.Data.length<=200
   ·rw [iN (by omega),decide_eq_true d]
    simp
   ·rw [iP (by omega),decide_eq_false d];rfl
  ·simp only [iN o]
   by_cases d:x.Kind=0
   ·simp [d]
   ·by_cases e:x.Kind=3
    ·simp [e]
    ·by_cases u:x.Kind=4
     ·simp [u]
     ·simp [d,e,u]
def isB (ns:List Node) (n k:Int):Bool:=match idx ns n with | some y=>y.Kind==k | none=>false
def zLo (ns:List Node) (n:Int) (x:Node):Bool:=isB ns x.Doc 0&&(x.Kind != 0||x.Doc==n)
def zGI (k:Int):Bool:=k==0||(k==1||(k==3||k==4))
def zLX (ns:List Node) (n:Int) (x:Node):Bool:=x.Parent == -1||((x.Kind==1||x.Kind==2)&&(match idx ns x.Parent with | some p=>zGI p.Kind&&p.Kids.contains n | none=>false))
def zOe (ns:List Node) (n:Int) (x:Node) (k:Int):Bool:=match idx ns k with | some y=>y.Parent==n&&(y.Doc==x.Doc&&(y.Kind==1||(y.Kind==2&&x.Kind != 0))) | none=>false
def zBE (ns:List Node) (l:List Int):Nat:=l.countP fun k=>isB ns k 1
def zEO (ns:List Node) (n:Int) (x:Node):Bool:=decide x.Kids.Nodup&&((x.Kids.all (zOe ns n x))&&((zGI x.Kind||decide (x.Kids.length=0))&&(x.Kind != 0||decide (zBE ns x.Kids<=1))))
def zNs (ns:List Node) (n:Int) (x:Node):Bool:=if x.Kind=4 then (match idx ns x.Host with | some h=>h.Kind==1&&(h.Under==n&&h.Doc==x.Doc) | none=>false) else x.Host == -1
def zK2 (ns:List Node) (n:Int) (x:Node):Bool:=x.Under == -1||(x.Kind==1&&(match idx ns x.Under with | some u=>u.Kind==4&&u.Host==n | none=>false))
def upI (ns:List Node) (n:Int):Int:=match idx ns n with | some x=>if x.Parent = -1 then x.Host else x.Parent | none => -1
def zBZ (ns:List Node):Nat->Int->Bool
 | 0,_=>false
 | k+1,n=>upI ns n == -1||zBZ ns k (upI ns n)
def zFd (ns:List Node) (n:Int) (x:Node):Bool:=zHP x&&(zLo ns n x&&(zLX ns n x&&(zEO ns n x&&(zNs ns n x&&zK2 ns n x))))
def zHQ (ns:List Node):Bool:=(cW ns.length).all fun i=>match ns[i]? with | some x=>zFd ns (i:Int) x | none=>true
def zPG (ns:List Node):Bool:=(cW ns.length).all fun i=>zBZ ns ns.length (i:Int)
def zAG (f:Forest):Bool:=decide (1<=f.Most)&&(decide (f.Most<=400)&&(decide (1<=f.Nodes.length)&&(decide ((f.Nodes.length:Int)<=f.Most)&&(isB f.Nodes 0 0&&(zHQ f.Nodes&&zPG f.Nodes)))))
theorem zCW {l:List α} {n:Int} (h:¬(0<=n/\n<l.length)):idx l n=none:=by
 unfold idx
 by_cases d:0<=n
 ·rw [iP d,List.getElem?_eq_none (by omega)]
 ·rw [iN d]
theorem zAI {l:List α} {n:Int} (h:0<=n/\n<l.length):∃x,idx l n=some x:=by
 unfold idx
 rw [iP h.1]
 exact ⟨_,lC (by omega)⟩
theorem zAH {l:List α} {n:Int} {x : α} (h:idx l n=some x):0<=n/\n<l.length:=by
 by_cases d:0<=n/\n<l.length
 ·exact d
 ·rw [zCW d] at h;cases h
theorem zQj (fu:Nat) (v:zAL) (n:Int):zCA fu v n=some (decide (0<=n/\n<v.Forest.Nodes.length)):=by
 unfold zCA
 rw [zAM]
 by_cases h:n>=0
 ·rw [iP h];congr 1;exact decide_eq_decide.2 ⟨fun d=>⟨h,d⟩,fun d=>d.2⟩
 ·rw [iN h,decide_eq_false (by omega)]
theorem zdN (fu:Nat) (v:zAL) (n k:Int):zC8 fu v n k=some (isB v.Forest.Nodes n k):=by
 unfold zC8 isB
 rw [zQj,bnd_some,zAM]
 by_cases h:0<=n/\n<v.Forest.Nodes.length
 ·obtain ⟨x,hx⟩:=zAI h
  rw [iP h,hx];rfl
 ·rw [iN h,zCW h]
theorem zdi {fu:Nat} {n:Int} {x:Node} (hx:idx v.Forest.Nodes n=some x):zEy fu v n=some (zLo v.Forest.Nodes n x):=by
 unfold zEy zLo
 rw [hx,bnd_some,zdN,bnd_some]
 cases isB v.Forest.Nodes x.Doc 0
 ·rfl
 ·cases x.Kind != 0<;>rfl
theorem zVH (fu:Nat) (k:Int):zFg fu k=some (zGI k):=by
 unfold zFg zGI
 simp only [zAd]
 by_cases d:k=0
 ·simp [d]
 by_cases e:k=1
 ·simp [e]
 by_cases o:k=3
 ·simp [o]
 by_cases q:k=4
 ·simp [q]
 simp [d,e,o,q]
theorem zSE {fu:Nat} {l:List Int} {n:Int} (o:l.length<fu) (q:l.length<=1000000):zEG fu l n=some (l.contains n):=by
 unfold zEG zCT
 obtain ⟨r,d,e⟩:=zGB (L:=zBJ l n) l (fun x=>n==x) (fun i hi k=>by
  simp only [zBJ]
  rw [zAP (by simpa using hi),zAQ hi,bnd_some,zBL (by omega),bnd_some]
  cases n==l[i]<;>rfl) (fun k=>by simp only [zBJ];rw [zAO (by simp)]) o
 rw [d,bnd_some,e,jR]
def zEU (fu:Nat) (ns:List Node):Prop:=∀x∈ns,x.Kids.length<fu/\x.Kids.length<=1000000
theorem zEp {l:List α} {n:Int} {x : α} (h:idx l n=some x):x∈l:=by
 unfold idx at h
 split at h
 ·exact lU h
 ·cases h
theorem zfx {fu:Nat} {n:Int} {x:Node} (hx:idx v.Forest.Nodes n=some x) (hk:zEU fu v.Forest.Nodes):zFY fu v n=some (zLX v.Forest.Nodes n x):=by
 have o:∀b:Bool,zDc fu v n x b=some (b&&(match idx v.Forest.Nodes x.Parent with | some p=>zGI p.Kind&&p.Kids.contains n | none=>false)):=fun b=>by
  unfold zDc
  cases b
  ·rfl
  ·rw [cnd_true,zQj,bnd_some,zAM]
   by_cases h:0<=x.Parent/\x.Parent<v.Forest.Nodes.length
   ·obtain ⟨p,q⟩:=zAI h
    have hm:=hk p (zEp q)
    rw [iP h,q,bnd_some,zVH,bnd_some,bnd_some,zSE hm.1 hm.2,bnd_some]
    simp only [iD]
    cases zGI p.Kind<;>rfl
   ·rw [iN h,zCW h];rfl
 unfold zFY zLX
 rw [hx,bnd_some,o,o,zAd,zAd]
 by_cases e:x.Parent = -1
 ·simp [e]
 ·rw [iN e]
  have r:(x.Parent == -1)=false:=by simpa using e
  rw [r]
  by_cases d:x.Kind=1
  ·rw [iP d,d];rfl
  ·have u:(x.Kind==1)=false:=by simpa using d
   rw [iN d,u,e9,e9]
theorem zbs {fu:Nat} {n:Int} {x:Node} (hx:idx v.Forest.Nodes n=some x):zEc fu v n=some (zNs v.Forest.Nodes n x&&zK2 v.Forest.Nodes n x):=by
 have E:∀b:Bool,zBd fu v n x b=some (b&&zK2 v.Forest.Nodes n x):=fun b=>by
  unfold zBd zCC zK2
  rw [zdN,bnd_some,zAd,zAd]
  by_cases d:x.Under = -1
  ·simp [d];cases b<;>rfl
  ·rw [iN d]
   have B:(x.Under == -1)=false:=by simpa using d
   rw [B]
   by_cases o:x.Kind=1
   ·simp only [o,beq_self_eq_true,iD,e9]
    unfold isB
    by_cases e:0<=x.Under/\x.Under<v.Forest.Nodes.length
    ·obtain ⟨u,q⟩:=zAI e
     rw [q]
     simp only [bnd_some]
     cases b<;>cases u.Kind==4<;>rfl
    ·rw [zCW e];cases b<;>rfl
   ·have D:(x.Kind==1)=false:=by simpa using o
    simp only [iN o,D,jD,e9,jQ]
    cases b<;>rfl
 unfold zEc zNs
 rw [hx,bnd_some,zdN,bnd_some]
 simp only [E,zAd]
 by_cases d:x.Kind=4
 ·rw [iP d,iP d]
  unfold isB
  by_cases e:0<=x.Host/\x.Host<v.Forest.Nodes.length
  ·obtain ⟨u,q⟩:=zAI e
   rw [q]
   simp only [bnd_some]
   cases u.Kind==1
   ·rfl
   ·by_cases r:u.Under=n
    ·simp [r]
    ·simp [r]
  ·rw [zCW e];rfl
 ·rw [iN d,iN d]
theorem zbC {l:List (Int×Int)} {k:Int} (o:∀p∈l,0<p.2):zK5 l k 0>0↔k∈l.map (·.1):=by
 unfold zK5
 have d:∀(l:List (Int×Int)),zHt l k=none->k∉l.map (·.1):=by
  intro l
  induction l with
  | nil=>intro _;simp
  | cons x l u =>
   intro h
   simp only [zHt] at h
   split at h
   ·cases h
   ·rename_i q
    simp only [lT,lD,not_or]
    exact ⟨fun e=>q e.symm,u (jS.1 h)⟩
 cases h:zHt l k with
 | none=>simp only [Int.lt_irrefl,gt_iff_lt,false_iff];exact d l h
 | some j =>
  obtain ⟨v,r⟩:=zI4 h
  simp only [r,Option.elim_some]
  exact ⟨fun _=>lE.2 ⟨_,lU r,rfl⟩,fun _=>o _ (lU r)⟩
theorem zdZ {l:List (Int×Int)} {k v:Int} {p:Int×Int} (h:p∈zGz l k v):p∈l\/p=(k,v):=by
 unfold zGz at h
 split at h
 ·rcases dT h with h | h
  ·exact .inl h
  ·exact .inr h
 ·simpa using h
theorem zSb (ns:List Node) {l:List Int} {i:Nat} (h:i<l.length):zBE ns (l.take (i+1))=zBE ns (l.take i)+(if isB ns l[i] 1 then 1 else 0):=by
 unfold zBE
 rw [iE h,jE]
 simp [dG]
theorem zdB (ns:List Node) (l:List Int):zBE ns l<=l.length:=jA
theorem zcv {fu:Nat} {n:Int} {x:Node} (hx:idx v.Forest.Nodes n=some x) (hf:x.Kids.length<fu) (hb:x.Kids.length<=1000000):zEx fu v n=some (zEO v.Forest.Nodes n x):=by
 unfold zEx
 rw [hx,bnd_some]
 let ns:=v.Forest.Nodes
 have no1:∀(i:Nat) (h:i<x.Kids.length),zOe ns n x x.Kids[i]=false->zEO ns n x=false:=fun i h hk=>by
  unfold zEO
  have:x.Kids.all (zOe ns n x)=false:=by
   rw [List.all_eq_false]
   exact ⟨_,gC h,by rw [hk];simp⟩
  rw [this];simp
 refine up (L:=zAp fu v n x) (Inv:=fun i y=>∃d:List (Int×Int),y=(((zBE ns (x.Kids.take i):Nat):Int),(i:Int),d)/\(∀k,k∈d.map (·.1)↔k∈x.Kids.take i)/\(∀p∈d,p.2=1)/\(x.Kids.take i).Nodup/\(x.Kids.take i).all (zOe ns n x)=true) (Fin:=fun r=>r=some (zEO ns n x)) x.Kids.length (fun i y hi ⟨d,hy,S,h2,h3,h4⟩=>?_) (fun y ⟨d,hy,S,h2,h3,h4⟩=>?_) (i:=0) ⟨[],rfl,by simp,by simp,by simp,by simp⟩ (Nat.zero_le _) (by omega)
 ·subst hy
  have hn:rng .i64 ((i:Int)+1)=some ((i+1:Nat):Int):=zBL (by omega)
  have hle:=zdB ns (x.Kids.take i)
  have hlt:(x.Kids.take i).length<=i:=by simp;omega
  have hn2:rng .i64 (((zBE ns (x.Kids.take i):Nat):Int)+1)=some ((zBE ns (x.Kids.take i)+1:Nat):Int):=zBL (by omega)
  have hpos:∀p∈d,0<p.2:=fun p E=>by rw [h2 p E];decide
  have hm:=zbC (k:=x.Kids[i]) hpos
  have o:∀k,zAp fu v n x (k+1) (((zBE ns (x.Kids.take i):Nat):Int),(i:Int),d) =
    if 0<=x.Kids[i]/\x.Kids[i]<v.Forest.Nodes.length then (if zK5 d x.Kids[i] 0>0 then some false else bnd (idx v.Forest.Nodes x.Kids[i]) fun y=>if y.Parent=n then (if y.Doc=x.Doc then bnd (rng .i64 (zK5 d x.Kids[i] 0+1)) fun i11 =>
     (if y.Kind=1 then zAp fu v n x k (((zBE ns (x.Kids.take i)+1:Nat):Int),((i+1:Nat):Int),zGz d x.Kids[i] i11) else if y.Kind=2 then (if x.Kind=0 then some false else zAp fu v n x k (((zBE ns (x.Kids.take i):Nat):Int),((i+1:Nat):Int),zGz d x.Kids[i] i11)) else some false) else some false) else some false) else some false:=fun k=>by
   simp only [zAp]
   rw [zAP (by simpa using hi),zAQ hi,bnd_some,zQj,bnd_some]
   cases hy:idx v.Forest.Nodes x.Kids[i] with
   | none=>simp only [zPA,zAM,bnd_none]
   | some y=>simp only [zPA,zAM,zAe,zAd,bnd_some,hn,hn2]
  have F:zOe ns n x x.Kids[i]=false->zEO ns n x=false:=no1 i hi
  by_cases u:0<=x.Kids[i]/\x.Kids[i]<v.Forest.Nodes.length
  case neg =>
   refine .inl ⟨some false,?_,fun k=>by rw [o,iN u]⟩
   rw [F]
   unfold zOe
   rw [show idx ns x.Kids[i]=none from zCW u]
  case pos =>
   by_cases D:zK5 d x.Kids[i] 0>0
   case pos =>
    refine .inl ⟨some false,?_,fun k=>by rw [o,iP u,iP D]⟩
    have hmem:=(S _).1 (hm.1 D)
    have:¬x.Kids.Nodup:=fun hnd=>by
     rw [<- jT i x.Kids,dM] at hnd
     exact hnd.2.2 _ hmem _ (by rw [eT hi];exact lH) rfl
    unfold zEO
    rw [decide_eq_false this];rfl
   case neg =>
    have Q:x.Kids[i]∉x.Kids.take i:=fun h=>D (hm.2 ((S _).2 h))
    have h0:zK5 d x.Kids[i] 0=0:=by
     unfold zK5
     cases hj:zHt d x.Kids[i] with
     | none=>rfl
     | some j =>
      obtain ⟨v0,hv⟩:=zI4 hj
      exact absurd ((S _).1 (lE.2 ⟨_,lU hv,rfl⟩)) Q
    obtain ⟨y,hy⟩:=zAI u
    have J:isB ns x.Kids[i] 1=(y.Kind==1):=by unfold isB;rw [show idx ns x.Kids[i]=some y from hy]
    have B:zOe ns n x x.Kids[i]=(y.Parent==n&&(y.Doc==x.Doc&&(y.Kind==1||(y.Kind==2&&x.Kind != 0)))):=by unfold zOe;rw [show idx ns x.Kids[i]=some y from hy]
    have G:rng .i64 (zK5 d x.Kids[i] 0+1)=some 1:=by rw [h0];exact zbp (by decide) (by decide)
    have next:zOe ns n x x.Kids[i]=true->(∀q,q∈(zGz d x.Kids[i] 1).map (·.1)↔q∈x.Kids.take (i+1))/\(∀p∈zGz d x.Kids[i] 1,p.2=1)/\(x.Kids.take (i+1)).Nodup/\(x.Kids.take (i+1)).all (zOe ns n x)=true:=fun hk=>by
     rw [iE hi]
     refine ⟨fun q=>?_,fun p E=>?_,?_,by rw [List.all_append,h4];simp [hk]⟩
     ·rcases zRa d x.Kids[i] 1 with ⟨W,_⟩ | ⟨_,X⟩
      ·exact absurd ((S _).1 W) Q
      ·rw [X,cA,cA,S]
     ·rcases zdZ E with E | rfl
      ·exact h2 p E
      ·rfl
     ·rw [dM]
      exact ⟨h3,by simp,fun a ha b hb=>by simp at hb;subst hb;exact fun e=>Q (e▸ha)⟩
    by_cases E:y.Parent=n
    case neg =>
     refine .inl ⟨some false,?_,fun k=>by rw [o,iP u,iN D,hy,bnd_some,iN E]⟩
     rw [F (by rw [B];simp [E])]
    case pos =>
     by_cases I:y.Doc=x.Doc
     case neg =>
      refine .inl ⟨some false,?_,fun k=>by rw [o,iP u,iN D,hy,bnd_some,iP E,iN I]⟩
      rw [F (by rw [B];simp [I])]
     case pos =>
      by_cases N:y.Kind=1
      case pos =>
       have hk:zOe ns n x x.Kids[i]=true:=by rw [B];simp [E,I,N]
       obtain ⟨W,X,g3,g4⟩:=next hk
       refine .inr ⟨_,⟨_,rfl,W,X,g3,g4⟩,fun k=>?_⟩
       rw [o,iP u,iN D,hy,bnd_some,iP E,iP I,G,bnd_some,iP N,zSb ns hi,J]
       simp [N]
      case neg =>
       by_cases V:y.Kind=2
       case neg =>
        refine .inl ⟨some false,?_,fun k=>by rw [o,iP u,iN D,hy,bnd_some,iP E,iP I,G,bnd_some,iN N,iN V]⟩
        rw [F (by rw [B];simp [N,V])]
       case pos =>
        by_cases k3:x.Kind=0
        case pos =>
         refine .inl ⟨some false,?_,fun k=>by rw [o,iP u,iN D,hy,bnd_some,iP E,iP I,G,bnd_some,iN N,iP V,iP k3]⟩
         rw [F (by rw [B];simp [V,k3])]
        case neg =>
         have hk:zOe ns n x x.Kids[i]=true:=by rw [B];simp [E,I,V,k3]
         obtain ⟨W,X,g3,g4⟩:=next hk
         refine .inr ⟨_,⟨_,rfl,W,X,g3,g4⟩,fun k=>?_⟩
         rw [o,iP u,iN D,hy,bnd_some,iP E,iP I,G,bnd_some,iN N,iP V,iN k3,zSb ns hi,J]
         simp [N]
 ·subst hy
  rw [iI] at h3 h4 ⊢
  refine ⟨some (zEO ns n x),rfl,fun k=>?_⟩
  simp only [zAp]
  rw [zAO (by simp),zVH,bnd_some]
  unfold zEO
  rw [decide_eq_true h3,h4,iD,iD]
  have e1:(((x.Kids.length:Int))==0)=decide (x.Kids.length=0):=by rw [eW,beq_iff_eq,decide_eq_true_eq];omega
  have e2:decide (((zBE ns x.Kids:Nat):Int)<=1)=decide (zBE ns x.Kids<=1):=decide_eq_decide.2 (by omega)
  rw [e1,e2]
  cases zGI x.Kind<;>cases decide (x.Kids.length=0)<;>cases x.Kind != 0<;>rfl
def Ups (ns:List Node):Prop:=∀(n:Int) (x:Node),idx ns n=some x->upI ns n = -1\/∃y,idx ns (upI ns n)=some y
theorem up_ok {fu:Nat} {n:Int} {x:Node} (hx:idx v.Forest.Nodes n=some x):zGY fu v n=some (upI v.Forest.Nodes n):=by
 unfold zGY upI
 rw [hx,bnd_some,zAe,bnd_some]
 simp only
 split<;>rfl
theorem zfo {fu:Nat} (q:Ups v.Forest.Nodes) (u:v.Forest.Nodes.length<=1000000):∀(j t k:Nat) (n:Int) (x:Node),t+j=v.Forest.Nodes.length->j<k->idx v.Forest.Nodes n=some x->zCl fu v k (n,(t:Int))=some (zBZ v.Forest.Nodes j n):=by
 intro j
 induction j with
 | zero =>
  intro t k n x o hk hx
  obtain ⟨k,rfl⟩:∃d,k=d+1:=⟨k - 1,by omega⟩
  simp only [zCl]
  rw [zAO (by simp;omega)];rfl
 | succ j r =>
  intro t k n x o hk hx
  obtain ⟨k,rfl⟩:∃d,k=d+1:=⟨k - 1,by omega⟩
  simp only [zCl]
  rw [zAP (by simp;omega),up_ok hx,bnd_some,zAd,zBL (by omega),bnd_some]
  simp only [zBZ]
  by_cases h:upI v.Forest.Nodes n = -1
  ·rw [iP h];simp [h]
  ·rw [iN h]
   rcases q n x hx with e | ⟨y,hy⟩
   ·exact absurd e h
   ·rw [r (t+1) k _ y (by omega) (by omega) hy]
    have:(upI v.Forest.Nodes n == -1)=false:=by simpa using h
    rw [this,e9]
theorem zBc {ns:List Node} (h:zHQ ns=true) {n:Int} {x:Node} (hx:idx ns n=some x):zFd ns n x=true:=by
 unfold zHQ at h
 rw [lR] at h
 have hr:=zAH hx
 have:=h n.toNat (by simp;omega)
 have e:ns[n.toNat]? = some x:=by unfold idx at hx;rw [iP hr.1] at hx;exact hx
 rw [e] at this
 simpa [show ((n.toNat:Nat):Int)=n by omega] using this
theorem zKv {ns:List Node} (h:zHQ ns=true):Ups ns:=by
 intro n x hx
 have r:=zBc h hx
 unfold zFd zLX zNs at r
 simp only [lM] at r
 obtain ⟨_,_,o,_,d,_⟩:=r
 unfold upI
 rw [hx]
 simp only
 by_cases u:x.Parent = -1
 ·rw [iP u]
  by_cases B:x.Kind=4
  ·rw [iP B] at d
   cases q:idx ns x.Host with
   | none=>rw [q] at d;cases d
   | some y=>exact .inr ⟨y,rfl⟩
  ·rw [iN B] at d
   exact .inl (by simpa using d)
 ·rw [iN u]
  have e:(x.Parent == -1)=false:=by simpa using u
  rw [e,e9,lM] at o
  cases q:idx ns x.Parent with
  | none=>rw [q] at o;simp at o
  | some y=>exact .inr ⟨y,rfl⟩
theorem zRw {fu:Nat} (hfu:1000<fu) (hk:zEU fu v.Forest.Nodes):zCm fu v=some (zAG v.Forest):=by
 unfold zCm zAG
 rw [zAM,zAM,zAM,zAM]
 by_cases B:v.Forest.Most<1
 ·rw [iP B,decide_eq_false (show ¬1<=v.Forest.Most by omega)];rfl
 rw [iN B,decide_eq_true (show 1<=v.Forest.Most by omega)]
 by_cases D:v.Forest.Most>400
 ·rw [iP D,decide_eq_false (show ¬v.Forest.Most<=400 by omega)];rfl
 rw [iN D,decide_eq_true (show v.Forest.Most<=400 by omega)]
 by_cases E:(v.Forest.Nodes.length:Int)<1
 ·rw [iP E,decide_eq_false (show ¬1<=v.Forest.Nodes.length by omega)];rfl
 rw [iN E,decide_eq_true (show 1<=v.Forest.Nodes.length by omega)]
 by_cases F:(v.Forest.Nodes.length:Int)>v.Forest.Most
 ·rw [iP F,decide_eq_false (show ¬(v.Forest.Nodes.length:Int)<=v.Forest.Most by omega)];rfl
 rw [iN F,decide_eq_true (show (v.Forest.Nodes.length:Int)<=v.Forest.Most by omega)]
 obtain ⟨u,o⟩:=zAI (l:=v.Forest.Nodes) (n:=0) (by omega)
 rw [o,bnd_some,zAe]
 have G:isB v.Forest.Nodes 0 0=(u.Kind==0):=by unfold isB;rw [o]
 rw [G]
 by_cases q:u.Kind=0
 case neg =>
  rw [iN q]
  have:(u.Kind==0)=false:=by simpa using q
  rw [this];rfl
 rw [iP q,q]
 simp only [iD,beq_self_eq_true]
 have J:zHQ v.Forest.Nodes=true->zBQ fu v fu 0=some (zPG v.Forest.Nodes):=fun r=>by
  have I:=zKv r
  refine (zUU (L:=zBQ fu v) v.Forest.Nodes.length (fun i=>zBZ v.Forest.Nodes v.Forest.Nodes.length (i:Int)) (some true) (fun i hi k=>?_) (fun k=>?_) (by omega)).trans ?_
  ·simp only [zBQ]
   rw [zAP (by simpa using hi)]
   unfold zG7
   have:=zfo (fu:=fu) I (by omega) v.Forest.Nodes.length 0 fu (i:Int) _ (by omega) (by omega) (zAQ hi)
   rw [show ((0:Nat):Int)=0 from rfl] at this
   rw [this,bnd_some,zPA,zBL (by omega),bnd_some]
   cases zBZ v.Forest.Nodes v.Forest.Nodes.length (i:Int)<;>rfl
  ·simp only [zBQ]
   rw [zAO (by simp)]
  ·unfold zPG
   cases (cW v.Forest.Nodes.length).all fun i=>zBZ v.Forest.Nodes v.Forest.Nodes.length (i:Int)<;>rfl
 refine (zUU (L:=zCY fu v) v.Forest.Nodes.length (fun i=>match v.Forest.Nodes[i]? with | some x=>zFd v.Forest.Nodes (i:Int) x | none=>true) (zBQ fu v fu 0) (fun i hi k=>?_) (fun k=>?_) (by omega)).trans ?_
 ·have hx:=zAQ hi
  have d:=hk _ (zEp hx)
  simp only [zCY]
  rw [zAP (by simpa using hi),lC hi]
  rw [hx,bnd_some,zSn (by omega),bnd_some,zdi hx,bnd_some,zfx hx hk,bnd_some,zcv hx d.1 d.2,bnd_some,zbs hx,bnd_some,zBL (by omega),bnd_some]
  unfold zFd
  simp only [zPA]
  cases zHP v.Forest.Nodes[i]<;>cases zLo v.Forest.Nodes (i:Int) v.Forest.Nodes[i]<;>cases zLX v.Forest.Nodes (i:Int) v.Forest.Nodes[i]<;>cases zEO v.Forest.Nodes (i:Int) v.Forest.Nodes[i]<;>cases (zNs v.Forest.Nodes (i:Int) v.Forest.Nodes[i]&&zK2 v.Forest.Nodes (i:Int) v.Forest.Nodes[i])<;>rfl
 ·simp only [zCY]
  rw [zAO (by simp)]
 ·have e:((cW v.Forest.Nodes.length).all fun i=>match v.Forest.Nodes[i]? with | some x=>zFd v.Forest.Nodes (i:Int) x | none=>true)=zHQ v.Forest.Nodes:=rfl
  rw [e]
  cases r:zHQ v.Forest.Nodes
  ·rfl
  ·rw [J r];rfl
theorem zEo {fu:Nat} {f:Forest} (hfu:1000<fu) (hk:zEU fu f.Nodes):zAo fu f=some (zAG f):=by
 unfold zAo
 rw [zRw (v:=⟨⟨f.Nodes,f.Most⟩⟩) hfu hk,bnd_some]
end
section
def zKB {α : Type} (l:List α) (p : α -> Bool):Int:=if l.any p=true then ((l.findIdx p:Nat):Int) else -1
theorem zRn {l:List α} {p : α -> Bool} (h:l.any p=false):zKB l p = -1:=by
 unfold zKB;rw [h];rfl
theorem zRm {l:List α} {p : α -> Bool} (h:l.any p=true):∃(i:Nat) (hi:i<l.length),zKB l p=(i:Int)/\p l[i]=true:=by
 have hi:l.findIdx p<l.length:=List.findIdx_lt_length.2 (dN.1 h)
 exact ⟨l.findIdx p,hi,by unfold zKB;rw [iP h],List.findIdx_getElem⟩
theorem zSx {l:List α} {p : α -> Bool}:zKB l p<0↔l.any p=false:=by
 constructor
 ·intro h
  cases e:l.any p with
  | false=>rfl
  | true=>obtain ⟨i,_,d,_⟩:=zRm e;omega
 ·intro h;rw [zRn h];omega
theorem zUV {L:Nat->Int->Option Int} (l:List α) (p : α -> Bool) (step:∀(i:Nat) (h:i<l.length) (k:Nat),L (k+1) (i:Int)=bif p l[i] then some (i:Int) else L k ((i+1:Nat):Int)) (d:∀k,L (k+1) (l.length:Int)=some (-1)) {k:Nat} (hk:l.length<k) :
  L k 0=some (zKB l p):=by
 have o:∀(j i k:Nat),i+j=l.length->j<k->L k (i:Int)=some (if (l.drop i).any p=true then (((l.drop i).findIdx p+i:Nat):Int) else -1):=by
  intro j
  induction j with
  | zero =>
   intro i k hi hk
   obtain ⟨k,rfl⟩:∃e,k=e+1:=⟨k - 1,by omega⟩
   obtain rfl:i=l.length:=by omega
   rw [d];simp
  | succ j q =>
   intro i k hi hk
   obtain ⟨k,rfl⟩:∃e,k=e+1:=⟨k - 1,by omega⟩
   have h:i<l.length:=by omega
   rw [step i h,eT h,List.any_cons,List.findIdx_cons]
   cases r:p l[i] with
   | true=>simp
   | false =>
    rw [q (i+1) k (by omega) (by omega)]
    simp only [cond_false,e9]
    split
    ·congr 1;omega
    ·rfl
 have:=o l.length 0 k (by omega) hk
 simpa [zKB] using this
end
section
theorem zFp {fu:Nat} {p:Int->Bool} {l:List Int} (q:∀x∈l,t x=some (p x)) (o:l.length<fu) (u:l.length<=1000000):zAY fu t l=some (l.any p):=by
 unfold zAY zAS
 obtain ⟨r,d,e⟩:=zGB (L:=zAJ t l) l p (fun i hi k=>by
  simp only [zAJ]
  rw [zAP (by simpa using hi),zAQ hi,bnd_some,q _ (gC hi),bnd_some,zBL (by omega),bnd_some]
  cases p l[i]<;>rfl) (fun k=>by simp only [zAJ];rw [zAO (by simp)]) o
 rw [d,bnd_some,e]
def inB (f:Forest) (n:Int):Bool:=decide (0<=n/\n<f.Nodes.length)
theorem zAa {f:Forest} (h:zAG f=true):1<=f.Nodes.length/\f.Nodes.length<=400/\zHQ f.Nodes=true/\zPG f.Nodes=true:=by
 unfold zAG at h
 simp only [lM,decide_eq_true_eq] at h
 obtain ⟨q,r,d,u,B,e,o⟩:=h
 exact ⟨d,by omega,e,o⟩
theorem zNq {ns:List Node} (h:zPG ns=true) {n:Int} (d:0<=n/\n<ns.length):zBZ ns ns.length n=true:=by
 unfold zPG at h
 rw [lR] at h
 have:=h n.toNat (by simp;omega)
 rwa [show ((n.toNat:Nat):Int)=n by omega] at this
theorem zJA {ns:List Node} (e:zHQ ns=true) {n:Int} {x:Node} (hx:idx ns n=some x):∀k∈x.Kids,∃y,idx ns k=some y:=by
 intro k hk
 have h:=zBc e hx
 unfold zFd zEO at h
 simp only [lM] at h
 obtain ⟨_,_,_,⟨_,d,_⟩,_⟩:=h
 have:=lR.1 d k hk
 unfold zOe at this
 cases hy:idx ns k with
 | none=>rw [hy] at this;cases this
 | some y=>exact ⟨y,rfl⟩
def AllB (ns:List Node) (p:Int->Node->Bool):Prop:=∀n x,idx ns n=some x->p n x=true
theorem zSp {ns:List Node}:zHQ ns=true↔AllB ns (zFd ns):=by
 constructor
 ·intro h n x hx;exact zBc h hx
 ·intro h
  unfold zHQ
  rw [lR]
  intro i hi
  have hi:i<ns.length:=by simpa using hi
  rw [lC hi]
  exact h i _ (zAQ hi)
theorem zTu {x:Node} (h:zHP x=true):0<=x.Kind/\x.Kind<=4:=by
 unfold zHP at h
 by_cases d:x.Kind=1
 ·omega
 rw [iN d] at h
 by_cases e:x.Kind=2
 ·omega
 rw [iN e] at h
 by_cases o:x.Kind=0\/x.Kind=3\/x.Kind=4
 ·omega
 rw [iN o] at h
 cases h
theorem zLV {ns:List Node}:∀(k:Nat) (n:Int),zBZ ns k n=true->zBZ ns (k+1) n=true
 | 0,_,h=>by cases h
 | k+1,n,h=>by
  rw [zBZ,dD] at h ⊢
  exact h.imp id fun h=>zLV k _ h
end
section
theorem zT4 (f:Forest) (n:Int):cnd (decide (n<0)) (some true) (some (decide (n>=(f.Nodes.length:Int))))=some (!(inB f n)):=by
 unfold inB
 rw [zAM]
 by_cases h:n<0
 ·rw [iP h,decide_eq_false (by omega)];rfl
 ·rw [iN h]
  by_cases d:n<f.Nodes.length
  ·rw [decide_eq_false (by omega),decide_eq_true (by omega)];rfl
  ·rw [decide_eq_true (by omega),decide_eq_false (by omega)];rfl
theorem zVt {fu:Nat} {f:Forest} {l:List Int} (hfu:1000<fu) (hk:zEU fu f.Nodes) (hr:zAG f=true) (d:l.length<=100):zB4 fu f l=some (l.all (inB f)):=by
 unfold zB4
 rw [zEo hfu hk,bnd_some,hr,cnd_true,zFp (p:=fun n => !(inB f n)) (fun n _=>by unfold zDi;exact zT4 f n) (by omega) (by omega),bnd_some,zHq]
theorem zFQ {fu:Nat} {f:Forest} {l:List Int} (hfu:1000<fu) (hk:zEU fu f.Nodes) (hr:zAG f=true) (d:l.length<=100):zEJ fu f l=some (l.all (inB f)):=by
 unfold zEJ
 rw [zEo hfu hk,bnd_some,hr,cnd_true,zFp (p:=fun n => !(inB f n)) (fun n _=>by unfold zEn;exact zT4 f n) (by omega) (by omega),bnd_some,zHq]
def zVW (ns:List Node) (a:Int):Nat->Int->Bool
 | 0,b=>b==a
 | k+1,b=>if b = -1\/b=a then b==a else zVW ns a k (upI ns b)
def zQI (f:Forest) (a b:Int):Bool:=zVW f.Nodes a (f.Nodes.length+1) b
theorem sup_ok {fu:Nat} {f:Forest} {n:Int} {x:Node} (hx:idx f.Nodes n=some x):zGu fu f n=some (upI f.Nodes n):=by
 unfold zGu upI
 rw [hx,bnd_some,zAe,bnd_some]
 simp only
 split<;>rfl
theorem zbQ {fu:Nat} {f:Forest} {a:Int} (D:Ups f.Nodes):∀(k q:Nat) (b:Int),(b = -1\/((∃x,idx f.Nodes b=some x)/\zBZ f.Nodes k b=true))->k+1<q->zDG fu f a q b=some (zVW f.Nodes a (k+1) b):=by
 intro k
 induction k with
 | zero =>
  intro q b r B
  obtain ⟨q,rfl⟩:∃u,q=u+1:=⟨q - 1,by omega⟩
  rcases r with rfl | ⟨_,h⟩
  ·simp only [zDG]
   rw [zAe,iP rfl]
   simp only [zVW,true_or,if_true]
  ·simp [zBZ] at h
 | succ k E =>
  intro q b r B
  obtain ⟨q,rfl⟩:∃u,q=u+1:=⟨q - 1,by omega⟩
  simp only [zDG]
  rw [zAe,zAe]
  rcases r with rfl | ⟨⟨x,hx⟩,h⟩
  ·rw [iP rfl]
   simp only [zVW,true_or,if_true]
  ·by_cases d:b = -1
   ·rw [iP d]
    simp only [zVW,d,true_or,if_true]
   ·rw [iN d]
    by_cases e:b=a
    ·rw [iP e]
     simp only [zVW,e,or_true,if_true]
    ·rw [iN e,sup_ok hx,bnd_some,E q _ ?_ (by omega)]
     ·conv=>rhs;rw [zVW]
      rw [iN (by simp [d,e])]
     ·simp only [zBZ,dD,beq_iff_eq] at h
      rcases h with h | h
      ·exact .inl h
      ·rcases D b x hx with o | o
       ·exact .inl o
       ·exact .inr ⟨o,h⟩
theorem zW5 {fu:Nat} {f:Forest} {a b:Int} (hfu:1000<fu) (hk:zEU fu f.Nodes) (hr:zAG f=true) (ha:inB f a=true) (e:inB f b=true):zEF fu f a b=some (zQI f a b):=by
 obtain ⟨_,r,o,q⟩:=zAa hr
 unfold zEF zQI
 rw [zVt hfu hk hr (by simp),bnd_some]
 simp only [cK,iQ,ha,e,iR,iA,cnd_false]
 have d:0<=b/\b<f.Nodes.length:=by unfold inB at e;simpa using e
 exact zbQ (zKv o) f.Nodes.length fu b (.inr ⟨zAI d,zNq q d⟩) (by omega)
def zDv (ns:List Node) (gone:Int) (l:List Int) (kind:Int):Nat:=l.countP fun k=>k != gone&&isB ns k kind
theorem zW0 {fu:Nat} {l:zAg} {kind:Int} (r:∀k∈nodes,∃x,idx l.Forest.Nodes k=some x) (e:nodes.length<fu) (D:nodes.length<=1000000):zCU fu l nodes kind=some ((zDv l.Forest.Nodes l.gone nodes kind:Nat):Int):=by
 unfold zCU
 have:=upf (L:=zBf fu l nodes kind) (f:=fun i=>(((zDv l.Forest.Nodes l.gone (nodes.take i) kind:Nat):Int),(i:Int))) (v:=some ((zDv l.Forest.Nodes l.gone nodes kind:Nat):Int)) nodes.length (fun i hi k=>?_) (fun k=>?_) e
 ·simpa [zDv] using this
 ·obtain ⟨x,hx⟩:=r _ (gC hi)
  have o:zDv l.Forest.Nodes l.gone (nodes.take i) kind<=(nodes.take i).length:=jA
  have q:(nodes.take i).length<=i:=by simp;omega
  have hs:zDv l.Forest.Nodes l.gone (nodes.take (i+1)) kind=zDv l.Forest.Nodes l.gone (nodes.take i) kind+(if (nodes[i] != l.gone&&isB l.Forest.Nodes nodes[i] kind)=true then 1 else 0):=by
   unfold zDv
   rw [iE hi,jE]
   simp [dG]
  have d:isB l.Forest.Nodes nodes[i] kind=(x.Kind==kind):=by unfold isB;rw [hx]
  simp only [zBf]
  rw [zAP (by simpa using hi),zAQ hi,bnd_some,zBL (by omega),hs,d]
  unfold zAZ
  rw [hx,zBL (by omega)]
  simp only [bnd_some]
  cases u:nodes[i] != l.gone
  ·rfl
  ·cases B:x.Kind==kind<;>rfl
 ·simp only [zBf]
  rw [zAO (by simp),iI]
def zGC (ns:List Node) (p gone:Int) (l:List Int):Bool:=decide (0<zDv ns gone l 2)||(decide (0<zDv ns gone l 1)&&(match idx ns p with | some y=>decide (1<zDv ns gone l 1+zDv ns gone y.Kids 1) | none=>false))
theorem zSW {fu:Nat} {l:zAg} {y:Node} (e:zHQ l.Forest.Nodes=true) (o:idx l.Forest.Nodes l.p=some y) (hk:zEU fu l.Forest.Nodes) (D:∀k∈nodes,∃x,idx l.Forest.Nodes k=some x) (B:nodes.length<fu) (u:nodes.length<=1000000):zBe fu l nodes=some (zGC l.Forest.Nodes l.p l.gone nodes):=by
 have d:=hk _ (zEp o)
 have E:zDv l.Forest.Nodes l.gone nodes 1<=nodes.length:=jA
 have F:zDv l.Forest.Nodes l.gone y.Kids 1<=y.Kids.length:=jA
 unfold zBe zGC
 rw [zW0 D B u,bnd_some,zW0 D B u,bnd_some,bnd_some,o,bnd_some,zW0 (zJA e o) d.1 d.2,bnd_some,zbp (by omega) (by omega),bnd_some,zAM,zAM]
 by_cases q:0<zDv l.Forest.Nodes l.gone nodes 2
 ·rw [iP (by omega),decide_eq_true q];rfl
 ·rw [iN (by omega),decide_eq_false q,e9]
  by_cases r:0<zDv l.Forest.Nodes l.gone nodes 1
  ·rw [iP (by omega),decide_eq_true r,iD]
   congr 1
   exact decide_eq_decide.2 (by omega)
  ·rw [iN (by omega),decide_eq_false r];rfl
def zPX (f:Forest) (n p _child gone:Int) (x y:Node) (d:Bool):Int :=
 if zGI y.Kind=false then 5 else if zQI f n p=true then 5 else if d=false then 6 else if x.Kind=0\/x.Kind=4 then 5
 else if y.Kind=0 then (if zGC f.Nodes p gone (if x.Kind=3 then x.Kids else [n])=true then 5 else 0) else 0
theorem zXK {fu:Nat} {f:Forest} {n p gone:Int} {x y:Node} (hfu:1000<fu) (hk:zEU fu f.Nodes) (hr:zAG f=true) (hx:idx f.Nodes n=some x) (hy:idx f.Nodes p=some y) (hc:child = -1\/∃z,idx f.Nodes child=some z) :
  zC4 fu ⟨⟨f.Nodes,f.Most⟩,p,child,gone⟩ n=some (zPX f n p child gone x y (child == -1||(match idx f.Nodes child with | some z=>z.Parent==p | none=>false))):=by
 obtain ⟨_,V,o,_⟩:=zAa hr
 have G:inB f n=true:=by unfold inB;exact decide_eq_true (zAH hx)
 have I:inB f p=true:=by unfold inB;exact decide_eq_true (zAH hy)
 have S:zEF fu f n p=some (zQI f n p):=zW5 hfu hk hr G I
 have kx:zAZ fu ⟨⟨f.Nodes,f.Most⟩,p,child,gone⟩ n=some x.Kind:=by unfold zAZ;rw [hx];rfl
 have W:zAZ fu ⟨⟨f.Nodes,f.Most⟩,p,child,gone⟩ p=some y.Kind:=by unfold zAZ;rw [hy];rfl
 have D:=hk _ (zEp hx)
 have E:zBe fu ⟨⟨f.Nodes,f.Most⟩,p,child,gone⟩ x.Kids=some (zGC f.Nodes p gone x.Kids):=zSW (l:=⟨⟨f.Nodes,f.Most⟩,p,child,gone⟩) o hy hk (zJA o hx) D.1 D.2
 have F:zBe fu ⟨⟨f.Nodes,f.Most⟩,p,child,gone⟩ [n]=some (zGC f.Nodes p gone [n]):=zSW (l:=⟨⟨f.Nodes,f.Most⟩,p,child,gone⟩) o hy hk (fun k B=>by simp at B;subst B;exact ⟨x,hx⟩) (by simp;omega) (by simp)
 have u:∀t:Bool,zDp fu ⟨⟨f.Nodes,f.Most⟩,p,child,gone⟩ n x.Kind t=some (if t=true then 5 else if y.Kind=0 then (if zGC f.Nodes p gone (if x.Kind=3 then x.Kids else [n])=true then 5 else 0) else 0):=fun t=>by
  unfold zDp
  simp only [W,bnd_some,zAd,F,E,hx]
  cases t
  ·rw [cnd_false]
   by_cases q:x.Kind=3
   ·simp only [iP q,zek]
    by_cases d:y.Kind=0
    ·simp only [iP d]
     cases zGC f.Nodes p gone x.Kids<;>rfl
    ·simp only [iN d];rfl
   ·simp only [iN q,zek]
    by_cases d:y.Kind=0
    ·simp only [iP d]
     cases zGC f.Nodes p gone [n]<;>rfl
    ·simp only [iN d];rfl
  ·rfl
 have Q:zDo fu ⟨⟨f.Nodes,f.Most⟩,p,child,gone⟩ n ()=some (if x.Kind=0\/x.Kind=4 then 5 else if y.Kind=0 then (if zGC f.Nodes p gone (if x.Kind=3 then x.Kids else [n])=true then 5 else 0) else 0):=by
  unfold zDo
  rw [kx,bnd_some,u,u,zAd]
  by_cases d:x.Kind=0
  ·simp [d]
  ·by_cases r:x.Kind=4
   ·simp [r]
   ·simp [d,r]
 have N:∀(h c:Bool),zDn fu ⟨⟨f.Nodes,f.Most⟩,p,child,gone⟩ n h c=some (if h=false then 5 else if zQI f n p=true then 5 else if c=false then 6 else if x.Kind=0\/x.Kind=4 then 5 else if y.Kind=0 then (if zGC f.Nodes p gone (if x.Kind=3 then x.Kids else [n])=true then 5 else 0) else 0):=fun h c=>by
  unfold zDn
  rw [show zEF fu (⟨⟨f.Nodes,f.Most⟩,p,child,gone⟩:zAg).Forest n (⟨⟨f.Nodes,f.Most⟩,p,child,gone⟩:zAg).p=some (zQI f n p) from S,bnd_some,Q]
  cases h
  ·rfl
  ·cases zQI f n p
   ·cases c<;>rfl
   ·rfl
 have J:∀h:Bool,zAm fu ⟨⟨f.Nodes,f.Most⟩,p,child,gone⟩ n h=some (if h=false then 5 else if zQI f n p=true then 5 else if (child == -1||(match idx f.Nodes child with | some z=>z.Parent==p | none=>false))=false then 6 else if x.Kind=0\/x.Kind=4 then 5 else if y.Kind=0 then (if zGC f.Nodes p gone (if x.Kind=3 then x.Kids else [n])=true then 5 else 0) else 0):=fun h=>by
  unfold zAm
  simp only [N,zAe]
  by_cases e:child = -1
  ·simp [e]
  ·have X:(child == -1)=false:=by simpa using e
   rw [iN e,X]
   rcases hc with h2 | ⟨z,hz⟩
   ·exact absurd h2 e
   ·rw [hz];rfl
 unfold zC4 zPX
 rw [show zAZ fu ⟨⟨f.Nodes,f.Most⟩,p,child,gone⟩ (⟨⟨f.Nodes,f.Most⟩,p,child,gone⟩:zAg).p=some y.Kind from W,bnd_some]
 simp only [J,zAd]
 unfold zGI
 by_cases d:y.Kind=0
 ·simp [d]
 by_cases e:y.Kind=1
 ·simp [e]
 by_cases q:y.Kind=3
 ·simp [q]
 by_cases r:y.Kind=4
 ·simp [r]
 simp [d,e,q,r]
theorem zbB {fu:Nat} {f:Forest} {n p:Int} {x y:Node} (hfu:1000<fu) (hk:zEU fu f.Nodes) (hr:zAG f=true) (hx:idx f.Nodes n=some x) (hy:idx f.Nodes p=some y) (q:child = -1\/∃z,idx f.Nodes child=some z) :
  zEa fu f n p child=some (zPX f n p child (-1) x y (child == -1||(match idx f.Nodes child with | some z=>z.Parent==p | none=>false))):=by
 have e:inB f n=true:=by unfold inB;exact decide_eq_true (zAH hx)
 have o:inB f p=true:=by unfold inB;exact decide_eq_true (zAH hy)
 unfold zEa
 rw [zFQ hfu hk hr (by simp),bnd_some,zXK hfu hk hr hx hy q,bnd_some,zAe]
 simp only [cK,iQ,e,o,iR,iA,cnd_false]
 by_cases d:child = -1
 ·rw [iP d]
 ·rw [iN d,zFQ hfu hk hr (by simp),bnd_some]
  rcases q with r | ⟨z,hz⟩
  ·exact absurd r d
  ·have:inB f child=true:=by unfold inB;exact decide_eq_true (zAH hz)
   simp only [cK,iQ,this,iR,iA,cnd_false]
theorem zgm {fu:Nat} {f:Forest} {n p:Int} {x y z:Node} (hfu:1000<fu) (hk:zEU fu f.Nodes) (hr:zAG f=true) (hx:idx f.Nodes n=some x) (hy:idx f.Nodes p=some y) (hz:idx f.Nodes child=some z) :
  zEI fu f n p child=some (zPX f n p child child x y (z.Parent==p)):=by
 have d:inB f n=true:=by unfold inB;exact decide_eq_true (zAH hx)
 have e:inB f p=true:=by unfold inB;exact decide_eq_true (zAH hy)
 have o:inB f child=true:=by unfold inB;exact decide_eq_true (zAH hz)
 have r:=zAH hz
 have q:(child == -1)=false:=by simp;omega
 unfold zEI zHJ
 rw [zFQ hfu hk hr (by simp),bnd_some,zFQ hfu hk hr (by simp),bnd_some,zXK hfu hk hr hx hy (.inr ⟨z,hz⟩),bnd_some,zAe,iN (by omega),q,hz]
 simp only [cK,iQ,d,e,o,iR,iA,cnd_false,e9]
end
section
def InN (ns:List Node) (n:Int):Prop:=0<=n/\n<ns.length
def zI5 (ns:List Node) (n:Int):Int:=match idx ns n with | some x=>x.Parent | none => -1
def zKr (ns:List Node) (n:Int):List Int:=match idx ns n with | some x=>x.Kids | none=>[]
def zPk (ns:List Node):Nat->Int->Prop
 | 0,_=>False
 | k+1,n=>zI5 ns n = -1\/zPk ns k (zI5 ns n)
def zcg (ns:List Node):Nat->Int->List Int
 | 0,_=>[]
 | k+1,n=>n::(if zI5 ns n = -1 then [] else zcg ns k (zI5 ns n))
def way (ns:List Node) (n:Int):List Int:=zcg ns ns.length n
def allF (ns:List Node):Nat->Int->List Int
 | 0,_=>[]
 | k+1,n=>n::(zKr ns n).flatMap (allF ns k)
def zKT (ns:List Node) (n:Int):List Int:=allF ns ns.length n
def zUK (ns:List Node):Nat->Int->Int
 | 0,n=>n
 | k+1,n=>if zI5 ns n = -1 then n else zUK ns k (zI5 ns n)
def zSM (ns:List Node) (n:Int):Int:=zUK ns ns.length n
structure Tree (ns:List Node):Prop where
 kid:∀n k,k∈zKr ns n->InN ns n/\InN ns k/\zI5 ns k=n
 par:∀x,InN ns x->zI5 ns x ≠ -1->InN ns (zI5 ns x)/\x∈zKr ns (zI5 ns x)
 nod:∀n,(zKr ns n).Nodup
 fin:∀n,InN ns n->zPk ns ns.length n
theorem zUS {ns:List Node} (r:zHQ ns=true) (B:zPG ns=true):Tree ns where
 kid n k hk:=by
  unfold zKr at hk
  cases hx:idx ns n with
  | none=>rw [hx] at hk;simp at hk
  | some x =>
   rw [hx] at hk
   have h:=zBc r hx
   unfold zFd zEO at h
   simp only [lM] at h
   obtain ⟨_,_,_,⟨_,u,_⟩,_⟩:=h
   have:=lR.1 u k hk
   unfold zOe at this
   cases hy:idx ns k with
   | none=>rw [hy] at this;cases this
   | some y =>
    rw [hy] at this
    simp only [lM,beq_iff_eq] at this
    refine ⟨zAH hx,zAH hy,?_⟩
    unfold zI5;rw [hy];exact this.1
 par x hx d:=by
  obtain ⟨y,hy⟩:=zAI hx
  have e:zI5 ns x=y.Parent:=by unfold zI5;rw [hy]
  rw [e] at d ⊢
  have h:=zBc r hy
  unfold zFd zLX at h
  simp only [lM] at h
  obtain ⟨_,_,o,_⟩:=h
  have e:(y.Parent == -1)=false:=by simpa using d
  rw [e,e9,lM] at o
  cases q:idx ns y.Parent with
  | none=>rw [q] at o;simp at o
  | some p =>
   rw [q] at o
   simp only [lM] at o
   refine ⟨zAH q,?_⟩
   unfold zKr;rw [q]
   exact e7.1 o.2.2
 nod n:=by
  unfold zKr
  cases hx:idx ns n with
  | none=>simp
  | some x =>
   have h:=zBc r hx
   unfold zFd zEO at h
   simp only [lM,decide_eq_true_eq] at h
   exact h.2.2.2.1.1
 fin n h:=by
  have:=zNq B h
  revert this
  generalize ns.length=k
  clear h
  intro h
  induction k generalizing n with
  | zero=>cases h
  | succ k D =>
   simp only [zBZ,dD,beq_iff_eq] at h
   simp only [zPk]
   by_cases d:zI5 ns n = -1
   ·exact .inl d
   ·have e:upI ns n=zI5 ns n:=by
     unfold upI;unfold zI5 at d ⊢
     cases hx:idx ns n with
     | none=>rfl
     | some x=>rw [hx] at d;simp only at d ⊢;rw [iN d]
    rw [e] at h
    rcases h with h | h
    ·exact absurd h d
    ·exact .inr (D _ h)
theorem InN.pos {ns:List Node} {n:Int} (h:InN ns n):∃M,ns.length=M+1:=⟨ns.length - 1,by unfold InN at h;omega⟩
theorem InN.ne {ns:List Node} {n:Int} (h:InN ns n):n ≠ -1:=by unfold InN at h;omega
theorem zV3 {ns:List Node}:∀(k:Nat) (n:Int),zPk ns k n->∀j,k<=j->zcg ns j n=zcg ns k n
 | 0,_,h,_,_=>h.elim
 | k+1,n,h,j,hj=>by
  obtain ⟨j,rfl⟩:∃e,j=e+1:=⟨j - 1,by omega⟩
  simp only [zcg]
  by_cases d:zI5 ns n = -1
  ·rw [iP d,iP d]
  ·rw [iN d,iN d,zV3 k _ (h.resolve_left d) j (by omega)]
theorem zS4 {ns:List Node}:∀(k:Nat) (n:Int),zPk ns k n->∀j,k<=j->zUK ns j n=zUK ns k n
 | 0,_,h,_,_=>h.elim
 | k+1,n,h,j,hj=>by
  obtain ⟨j,rfl⟩:∃e,j=e+1:=⟨j - 1,by omega⟩
  simp only [zUK]
  by_cases d:zI5 ns n = -1
  ·rw [iP d,iP d]
  ·rw [iN d,iN d,zS4 k _ (h.resolve_left d) j (by omega)]
theorem zYd {ns:List Node}:∀(k:Nat) (n:Int),(zcg ns k n).length<=k
 | 0,_=>by simp [zcg]
 | k+1,n=>by
  simp only [zcg,cP]
  split
  ·simp
  ·have:=zYd (ns:=ns) k (zI5 ns n);omega
section
variable {ns:List Node} (T:Tree ns)
include T
theorem Tree.climb {n:Int} (h:InN ns n) {M:Nat} (d:ns.length=M+1):zI5 ns n = -1\/zPk ns M (zI5 ns n):=by
 have:=T.fin n h
 rw [d] at this
 exact this
theorem Tree.way_eq {n:Int} (h:InN ns n):way ns n=n::(if zI5 ns n = -1 then [] else way ns (zI5 ns n)):=by
 obtain ⟨M,e⟩:=h.pos
 have o:=T.climb h e
 unfold way
 rw [e]
 simp only [zcg]
 by_cases d:zI5 ns n = -1
 ·rw [iP d,iP d]
 ·rw [iN d,iN d]
  have:=zV3 M _ (o.resolve_left d) (M+1) (by omega)
  simp only [zcg] at this
  rw [this]
theorem Tree.root_eq {n:Int} (h:InN ns n):zSM ns n=if zI5 ns n = -1 then n else zSM ns (zI5 ns n):=by
 obtain ⟨M,e⟩:=h.pos
 have o:=T.climb h e
 unfold zSM
 rw [e]
 simp only [zUK]
 by_cases d:zI5 ns n = -1
 ·rw [iP d,iP d]
 ·rw [iN d,iN d]
  have:=zS4 M _ (o.resolve_left d) (M+1) (by omega)
  simp only [zUK] at this
  rw [this]
theorem Tree.up_ind (h:∀n,InN ns n->(zI5 ns n ≠ -1->C (zI5 ns n))->C n):∀n,InN ns n->C n:=by
 have e:∀(k:Nat) (n:Int),InN ns n->zPk ns k n->C n:=by
  intro k
  induction k with
  | zero=>intro n _ h;exact h.elim
  | succ k r =>
   intro n d q
   exact h n d fun o=>r _ (T.par n d o).1 (q.resolve_left o)
 exact fun n d=>e _ n d (T.fin n d)
theorem Tree.way_kid {n k:Int} (hk:k∈zKr ns n):way ns k=k::way ns n:=by
 obtain ⟨d,e,o⟩:=T.kid n k hk
 rw [T.way_eq e,o,iN d.ne]
theorem Tree.way_len {n:Int} (h:InN ns n):1<=(way ns n).length/\(way ns n).length<=ns.length:=by
 refine ⟨?_,zYd _ _⟩
 rw [T.way_eq h];simp
theorem Tree.down_ind (h:∀n,InN ns n->(∀k,k∈zKr ns n->C k)->C n):∀n,InN ns n->C n:=by
 have o:∀(d:Nat) (n:Int),InN ns n->ns.length<(way ns n).length+d->C n:=by
  intro d
  induction d with
  | zero=>intro n e q;have:=T.way_len e;omega
  | succ d r =>
   intro n e q
   exact h n e fun k hk=>r k (T.kid n k hk).2.1 (by rw [T.way_kid hk,cP];omega)
 exact fun n e=>o ns.length n e (by have:=T.way_len e;omega)
theorem Tree.allF_stab:∀(d:Nat) (n:Int),InN ns n->ns.length<(way ns n).length+d->∀j,allF ns (d+j) n=allF ns d n:=by
 intro d
 induction d with
 | zero=>intro n e o;have:=T.way_len e;omega
 | succ d q =>
  intro n e o j
  rw [show d+1+j=d+j+1 by omega]
  simp only [allF,iS]
  rw [iM fun k hk=>q k (T.kid n k hk).2.1 (by rw [T.way_kid hk,cP];omega) j]
theorem Tree.all_eq {n:Int} (h:InN ns n):zKT ns n=n::(zKr ns n).flatMap (zKT ns):=by
 obtain ⟨M,d⟩:=h.pos
 have hs:=T.allF_stab
 have e:=T.way_len h
 unfold zKT
 rw [d]
 conv=>lhs;simp only [allF]
 rw [iS,iS,iM fun k hk=>(hs M k (T.kid n k hk).2.1 (by rw [T.way_kid hk,cP];omega) 1).symm]
theorem Tree.way_self {n:Int} (h:InN ns n):n∈way ns n:=by rw [T.way_eq h];simp
theorem Tree.way_in:∀x,InN ns x->∀y∈way ns x,InN ns y:=T.up_ind fun x hx e y hy=>by
 rw [T.way_eq hx] at hy
 rcases lD.1 hy with rfl | hy
 ·exact hx
 ·split at hy
  ·simp at hy
  ·rename_i d;exact e d y hy
theorem Tree.way_suffix:∀x,InN ns x->∀y∈way ns x,way ns y <:+ way ns x:=T.up_ind fun x hx o y hy=>by
 have e:=T.way_eq hx
 rw [e] at hy
 rcases lD.1 hy with rfl | hy
 ·exact jF _
 ·split at hy
  ·simp at hy
  ·rename_i d
   rw [e,iN d]
   exact (o d y hy).trans (jG _ _)
theorem Tree.way_trans {x y z:Int} (hz:InN ns z) (d:x∈way ns y) (e:y∈way ns z):x∈way ns z:=(T.way_suffix z hz y e).subset d
theorem Tree.way_inj {x y:Int} (hx:InN ns x) (hy:InN ns y) (h:way ns x=way ns y):x=y:=by
 rw [T.way_eq hx,T.way_eq hy] at h
 exact (dU.inj h).1
theorem Tree.way_same {x y z:Int} (hz:InN ns z) (d:x∈way ns z) (e:y∈way ns z) (o:(way ns x).length=(way ns y).length):x=y :=
 T.way_inj (T.way_in z hz x d) (T.way_in z hz y e) ((jU (T.way_suffix z hz x d) (T.way_suffix z hz y e) (by omega)).eq_of_length o)
end
end
section
theorem zMU:∀(N:Nat) (l:List Int),l.Nodup->(∀x∈l,0<=x/\x<N)->l.length<=N
 | 0,l,_,h=>by
  cases l with
  | nil=>simp
  | cons x l=>have:=h x (by simp);omega
 | N+1,l,hl,h=>by
  have d:=zMU N (l.erase (N:Int)) (hl.erase _) fun x hx=>by
   rw [hl.mem_erase_iff] at hx
   have:=h x hx.2
   have:=hx.1
   omega
  rw [List.length_erase] at d
  split at d<;>omega
section
variable {ns:List Node} (T:Tree ns)
include T
theorem Tree.kid_way {n k x:Int} (hx:InN ns x) (hk:k∈zKr ns n) (h:k∈way ns x):n∈way ns x :=
 T.way_trans hx (by rw [T.way_kid hk];exact lG _ (T.way_self (T.kid n k hk).1)) h
theorem Tree.all_in:∀n,InN ns n->∀x∈zKT ns n,InN ns x/\n∈way ns x:=T.down_ind fun n d q x hx=>by
 rw [T.all_eq d] at hx
 rcases lD.1 hx with rfl | hx
 ·exact ⟨d,T.way_self d⟩
 ·obtain ⟨k,hk,hx⟩:=iB.1 hx
  obtain ⟨e,o⟩:=q k hk x hx
  exact ⟨e,T.kid_way e hk o⟩
theorem Tree.all_self {n:Int} (d:InN ns n):n∈zKT ns n:=by rw [T.all_eq d];simp
theorem Tree.all_kid:∀n,InN ns n->∀y∈zKT ns n,∀k∈zKr ns y,k∈zKT ns n:=T.down_ind fun n o q y hy k hk=>by
 rw [T.all_eq o] at hy ⊢
 rcases lD.1 hy with rfl | hy
 ·exact lG _ (iB.2 ⟨k,hk,T.all_self (T.kid _ k hk).2.1⟩)
 ·obtain ⟨e,d,hy⟩:=iB.1 hy
  exact lG _ (iB.2 ⟨e,d,q e d y hy k hk⟩)
theorem Tree.mem_all {n:Int} (e:InN ns n):∀x,InN ns x->n∈way ns x->x∈zKT ns n:=T.up_ind fun x hx q h=>by
 have d:=h
 rw [T.way_eq hx] at d
 rcases lD.1 d with rfl | d
 ·exact T.all_self e
 ·split at d
  ·simp at d
  ·rename_i o
   exact T.all_kid n e _ (q o d) x (T.par x hx o).2
theorem Tree.kids_disj {n k e x:Int} (hk:k∈zKr ns n) (d:e∈zKr ns n) (h:x∈zKT ns k) (q:x∈zKT ns e):k=e:=by
 have o:=T.all_in k (T.kid n k hk).2.1 x h
 have r:=T.all_in e (T.kid n e d).2.1 x q
 exact T.way_same o.1 o.2 r.2 (by rw [T.way_kid hk,T.way_kid d];simp)
theorem Tree.all_nodup:∀n,InN ns n->(zKT ns n).Nodup:=T.down_ind fun n r B=>by
 rw [T.all_eq r,lS]
 refine ⟨fun h=>?_,?_⟩
 ·obtain ⟨k,hk,h⟩:=iB.1 h
  have u:=(T.all_in k (T.kid n k hk).2.1 n h).2
  have q:=T.way_suffix n r k u
  rw [T.way_kid hk] at q
  have:=q.length_le
  simp at this
  omega
 ·rw [List.Nodup,jV]
  refine ⟨fun k hk=>B k hk,?_⟩
  refine (T.nod n).imp_of_mem fun hk d o x hx y hy e=>?_
  subst e
  exact o (T.kids_disj hk d hx hy)
theorem Tree.all_len {n:Int} (d:InN ns n):(zKT ns n).length<=ns.length:=zMU _ _ (T.all_nodup n d) fun x hx=>(T.all_in n d x hx).1
theorem Tree.root_way:∀n,InN ns n->zSM ns n∈way ns n/\zI5 ns (zSM ns n) = -1:=T.up_ind fun n e o=>by
 rw [T.root_eq e,T.way_eq e]
 by_cases d:zI5 ns n = -1
 ·rw [iP d,iP d];exact ⟨by simp,d⟩
 ·rw [iN d,iN d];exact ⟨lG _ (o d).1,(o d).2⟩
theorem Tree.root_in {n:Int} (d:InN ns n):InN ns (zSM ns n):=T.way_in n d _ (T.root_way n d).1
theorem Tree.between:∀n,InN ns n->∀c∈zKT ns n,c≠n->∃A B C,zKT ns n=A++zI5 ns c::(B++c::C)/\∀b∈B,InN ns b/\zI5 ns c∈way ns b/\c∉way ns b:=T.down_ind fun n X ih c F I=>by
 have e:=T.all_eq X
 rw [e] at F
 obtain ⟨k,hk,F⟩:=iB.1 ((lD.1 F).resolve_left I)
 obtain ⟨J,N,hK⟩:=jH hk
 rw [hK,iG,iH] at e
 by_cases r:c=k
 ·subst r
  have q:=T.kid n c hk
  rw [T.all_eq q.2.1] at e
  rw [q.2.2]
  refine ⟨[],J.flatMap (zKT ns),(zKr ns c).flatMap (zKT ns)++N.flatMap (zKT ns),by rw [e];simp,fun b E=>?_⟩
  obtain ⟨D,u,E⟩:=iB.1 E
  have d:D∈zKr ns n:=by rw [hK];simp [u]
  have o:=T.all_in D (T.kid n D d).2.1 b E
  refine ⟨o.1,T.kid_way o.1 d o.2,fun h=>?_⟩
  have G:=T.mem_all q.2.1 b o.1 h
  have W:=T.kids_disj d hk E G
  subst W
  have Q:=T.nod n
  rw [hK,dM] at Q
  exact Q.2.2 D u D (by simp) rfl
 ·obtain ⟨A,B,C,S,V⟩:=ih k hk c F r
  rw [S] at e
  exact ⟨n::(J.flatMap (zKT ns)++A),B,C++N.flatMap (zKT ns),by rw [e];simp,V⟩
end
end
section
def zal (l:List Int) (n:Int):Int:=if n∈l then ((l.idxOf n:Nat):Int) else -1
theorem zYa {L:Nat->Int->Option Int} (l:List Int) (n:Int) (step:∀(i:Nat) (h:i<l.length) (k:Nat),L (k+1) (i:Int)=if l[i]=n then some (i:Int) else L k ((i+1:Nat):Int)) (o:∀k,L (k+1) (l.length:Int)=some (-1)) {k:Nat} (hk:l.length<k):L k 0=some (zal l n):=by
 have r:∀(j i k:Nat),i+j=l.length->j<k->L k (i:Int)=some (if n∈l.drop i then (((l.drop i).idxOf n+i:Nat):Int) else -1):=by
  intro j
  induction j with
  | zero =>
   intro i k hi hk
   obtain ⟨k,rfl⟩:∃q,k=q+1:=⟨k - 1,by omega⟩
   obtain rfl:i=l.length:=by omega
   rw [o];simp
  | succ j B =>
   intro i k hi hk
   obtain ⟨k,rfl⟩:∃q,k=q+1:=⟨k - 1,by omega⟩
   have h:i<l.length:=by omega
   rw [step i h,eT h]
   by_cases d:l[i]=n
   ·rw [iP d,iP (by rw [d];simp),d,List.idxOf_cons_self,dA]
   ·rw [iN d,B (i+1) k (by omega) (by omega)]
    have e:(n∈l[i]::l.drop (i+1))↔n∈l.drop (i+1):=⟨fun h=>(lD.1 h).resolve_left (Ne.symm d),lG _⟩
    have u:(l[i]::l.drop (i+1)).idxOf n=(l.drop (i+1)).idxOf n+1:=by rw [List.idxOf_cons,beq_eq_false_iff_ne.2 d];rfl
    by_cases hm:n∈l.drop (i+1)
    ·rw [iP hm,iP (e.2 hm),u]
     congr 1;omega
    ·rw [iN hm,iN fun h=>hm (e.1 h)]
 have:=r l.length 0 k (by omega) hk
 simpa [zal] using this
theorem zVn {fu:Nat} {l:List Int} {n:Int} (d:l.length<fu) (e:l.length<=1000000):zCT fu l n=some (zal l n):=by
 unfold zCT
 refine zYa (L:=zBJ l n) l n (fun i hi k=>?_) (fun k=>?_) d
 ·simp only [zBJ]
  rw [zAP (by simpa using hi),zAQ hi,bnd_some,zBL (by omega),bnd_some,zAd]
  by_cases h:l[i]=n
  ·rw [iP h.symm,iP h]
  ·rw [iN (Ne.symm h),iN h]
 ·simp only [zBJ];rw [zAO (by simp)]
theorem zQY {l:List Int} {n:Int} (h:n∈l):zal l n=((l.idxOf n:Nat):Int)/\l.idxOf n<l.length:=⟨iP h,List.idxOf_lt_length_of_mem h⟩
theorem zIq {ns:List Node} {n:Int} {x:Node} (h:idx ns n=some x):zI5 ns n=x.Parent:=by unfold zI5;rw [h]
theorem zFq {ns:List Node} {n:Int} {x:Node} (h:idx ns n=some x):zKr ns n=x.Kids:=by unfold zKr;rw [h]
structure Small (f:Forest):Prop where
 few:f.Nodes.length<=400
 kids:∀x∈f.Nodes,x.Kids.length<=400
 attrs:∀x∈f.Nodes,x.Attrs.length<=60
 name:∀x∈f.Nodes,x.Name.length<=300
theorem Small.fit {f:Forest} (h:Small f) {fu:Nat} (hfu:1000<fu):zEU fu f.Nodes:=fun x hx=>by have:=h.kids x hx;omega
theorem zUO {fu:Nat} {f:Forest} (hfu:1000<fu):∃r,zE0 fu f=some r/\(r=true->Small f/\f.Nodes.length<=60):=by
 unfold zE0
 rw [zAM]
 by_cases h:f.Nodes.length<=60
 ·rw [iN (by omega)]
  refine ⟨f.Nodes.all fun n=>decide (n.Kids.length<=60)&&(decide (n.Attrs.length<=60)&&decide (n.Name.length<=300)),(zK3 (L:=zCZ f) f.Nodes (fun n=>decide (n.Kids.length<=60)&&(decide (n.Attrs.length<=60)&&decide (n.Name.length<=300))) (some true) (fun i hi k=>?_) (fun k=>?_) (by omega)).trans ?_,fun hr=>?_⟩
  ·simp only [zCZ]
   rw [zAP (by simpa using hi),zAQ hi,bnd_some,bnd_some,bnd_some,zBL (by omega),bnd_some,zAM,zAM,zAM]
   generalize f.Nodes[i]=n
   by_cases e:n.Kids.length<=60
   ·by_cases o:n.Attrs.length<=60
    ·by_cases q:n.Name.length<=300
     ·rw [iN (by omega),iN (by omega),iN (by omega)];simp [e,o,q]
     ·rw [iN (by omega),iN (by omega),iP (by omega)];simp [q]
    ·rw [iN (by omega),iP (by omega)];simp [o]
   ·rw [iP (by omega)];simp [e]
  ·simp only [zCZ]
   rw [zAO (by simp)]
  ·cases f.Nodes.all fun n=>decide (n.Kids.length<=60)&&(decide (n.Attrs.length<=60)&&decide (n.Name.length<=300))<;>rfl
  ·have d:∀n∈f.Nodes,n.Kids.length<=60/\n.Attrs.length<=60/\n.Name.length<=300:=fun n u=>by
    have:=lR.1 hr n u
    simpa only [lM,decide_eq_true_eq] using this
   exact ⟨⟨by omega,fun x hx=>(by have:=(d x hx).1;omega),fun x hx=>(d x hx).2.1,fun x hx=>(d x hx).2.2⟩,h⟩
 ·rw [iP (by omega)];exact ⟨false,rfl,by simp⟩
theorem zcp {fu:Nat} {f:Forest} {l:List Int} (hfu:1000<fu) (hk:zEU fu f.Nodes) (d:l.length<=1000):zFS fu f l=some (zAG f&&l.all (inB f)):=by
 unfold zFS
 rw [zRw (v:=⟨⟨f.Nodes,f.Most⟩⟩) hfu hk,bnd_some]
 cases zAG f with
 | false=>rfl
 | true =>
  rw [cnd_true,zFp (p:=fun n => !(inB f n)) (fun n _=>by unfold zD3;rw [zQj,bnd_some];rfl) (by omega) (by omega),bnd_some,zHq]
  rfl
theorem zNY {f:Forest} {n:Int} (h:InN f.Nodes n):inB f n=true:=decide_eq_true h
theorem zee {fu:Nat} {f:Forest} {n:Int} (hfu:1000<fu) (hk:zEU fu f.Nodes) (hr:zAG f=true) (h:InN f.Nodes n):zFS fu f [n]=some true:=by
 rw [zcp hfu hk (by simp),hr];simp [zNY h]
theorem zBD {f:Forest} (hr:zAG f=true):Tree f.Nodes:=by
 obtain ⟨_,_,d,e⟩:=zAa hr
 exact zUS d e
section
variable {f:Forest} (T:Tree f.Nodes)
include T
theorem root_l (k:Nat):∀n,InN f.Nodes n->zPk f.Nodes k n->∀K,k<=K->zGR f K n=some (zUK f.Nodes k n):=by
 induction k with
 | zero=>intro n _ h;exact h.elim
 | succ k r =>
  intro n d o K hK
  obtain ⟨K,rfl⟩:∃e,K=e+1:=⟨K - 1,by omega⟩
  obtain ⟨x,hx⟩:=zAI d
  have q:=zIq hx
  simp only [zGR,zUK]
  rw [hx,bnd_some,bnd_some,zAe,<- q]
  by_cases h:zI5 f.Nodes n = -1
  ·rw [iP h,iP h]
  ·rw [iN h,iN h]
   exact r _ (T.par n d h).1 (o.resolve_left h) K (by omega)
theorem zdI {fu:Nat} {n:Int} (d:InN f.Nodes n) (hfu:f.Nodes.length<=fu):zLB fu f n=some (zSM f.Nodes n):=root_l T _ n d (T.fin n d) fu hfu
theorem zf9 (K:Nat):∀(st out:List Int),(∀x∈st,InN f.Nodes x)->(st.flatMap (zKT f.Nodes)).length<K->out.length+(st.flatMap (zKT f.Nodes)).length<=1000000->zCR f K (out,st)=some (out++st.reverse.flatMap (zKT f.Nodes)):=by
 induction K with
 | zero=>intro _ _ _ h;omega
 | succ K X =>
  intro st out B I Q
  have e:∀l:List Int,(∀x∈l,InN f.Nodes x)->l.length<=(l.flatMap (zKT f.Nodes)).length:=by
   intro l
   induction l with
   | nil=>intro _;simp
   | cons x l N =>
    intro h
    have:=N fun y hy=>h y (by simp [hy])
    have h1:1<=(zKT f.Nodes x).length:=by rw [T.all_eq (h x (by simp))];simp
    simp only [iH,eR,cP];omega
  rcases jW st with rfl | ⟨d,x,r⟩
  ·simp only [zCR]
   rw [zAO (by simp)];simp
  ·rw [jX] at r
   subst r
   have D:=B x (by simp)
   obtain ⟨y,hy⟩:=zAI D
   have hk:=zFq hy
   have G:=T.all_eq D
   rw [hk] at G
   simp only [iG,iH,jY,gI,eR,G,cP] at I Q
   have V:=e d fun z hz=>B z (by simp [hz])
   have o:∀k∈y.Kids,InN f.Nodes k:=fun k h=>(T.kid x k (by rw [hk];exact h)).2.1
   have W:=e y.Kids o
   simp only [zCR]
   have u:((d++[x]).length:Int) - 1=(d.length:Int):=by simp
   rw [zAP (by simp),u,zbp (by omega) (by omega),bnd_some,zAQ (by simp:d.length<(d++[x]).length),bnd_some,show (0:Int)=((0:Nat):Int) from rfl,zRl (by omega) (by simp),bnd_some]
   rw [show (d++[x])[d.length]'(by simp)=x by simp,show ((d++[x]).drop 0).take (d.length - 0)=d by simp]
   rw [zAc (by simp;omega),bnd_some,hy,bnd_some]
   have l2:∀(k:Nat) (l:List Int),k<=y.Kids.length->l.length+k<=1000000->zEi out x y (zCR f K) k l=zCR f K (out++[x],l++(y.Kids.take k).reverse):=by
    intro k
    induction k with
    | zero=>intro l _ _;simp [zEi]
    | succ k J =>
     intro l S hl
     have E:k<y.Kids.length:=by omega
     simp only [zEi]
     rw [lC E,bnd_some,zAc (by simp;omega),bnd_some,J _ (by omega) (by simp;omega),iE E,jZ,eS]
     rfl
   rw [l2 _ _ (cB _) (by omega),iI]
   have F:∀z∈d++y.Kids.reverse,InN f.Nodes z:=fun z hz=>by
    rcases cA.1 hz with hz | hz
    ·exact B z (by simp [hz])
    ·exact o z (by simpa using hz)
   have q:(y.Kids.reverse.flatMap (zKT f.Nodes)).length=(y.Kids.flatMap (zKT f.Nodes)).length:=by
    rw [jB,jB,kD,kE]
   rw [X (d++y.Kids.reverse) (out++[x]) F (by simp only [iG,eR,q];omega) (by simp only [iG,eR,q,cP,eK];omega)]
   simp [G]
end
section
variable {f:Forest} {fu:Nat} (hs:Small f) (hfu:1000<fu) (hr:zAG f=true)
include hs hfu hr
theorem zZo {n:Int} (d:InN f.Nodes n):zG6 fu f n=some (zSM f.Nodes n):=by
 have:=hs.few
 unfold zG6
 rw [zee hfu (hs.fit hfu) hr d,bnd_some,iA,cnd_false,zdI (zBD hr) d (by omega),bnd_some]
theorem zTT {n:Int} (d:InN f.Nodes n):zET fu f n=some (zKT f.Nodes n):=by
 have:=hs.few
 have e:=(zBD hr).all_len d
 unfold zET
 rw [zee hfu (hs.fit hfu) hr d,bnd_some,iA,cnd_false,zf9 (zBD hr) fu [n] [] (by simp [d]) (by simp;omega) (by simp;omega)]
 simp
end
end
section
def zPW (ns:List Node) (n:Int):List Int:=match idx ns n with | some x=>(if x.Under = -1 then [] else [x.Under])++x.Kids | none=>[]
def zPl (ns:List Node):Nat->Int->Prop
 | 0,_=>False
 | k+1,n=>upI ns n = -1\/zPl ns k (upI ns n)
def zQM (ns:List Node):Nat->Int->List Int
 | 0,_=>[]
 | k+1,n=>n::(if upI ns n = -1 then [] else zQM ns k (upI ns n))
def zH9 (ns:List Node) (n:Int):List Int:=zQM ns ns.length n
def zYl (ns:List Node):Nat->Int->List Int
 | 0,_=>[]
 | k+1,n=>n::(zPW ns n).flatMap (zYl ns k)
def zGN (ns:List Node) (n:Int):List Int:=zYl ns ns.length n
def zeK (ns:List Node):Nat->Int->Int
 | 0,n=>n
 | k+1,n=>if upI ns n = -1 then n else zeK ns k (upI ns n)
def ze1 (ns:List Node) (n:Int):Int:=zeK ns ns.length n
structure TreeU (ns:List Node):Prop where
 kid:∀n k,k∈zPW ns n->InN ns n/\InN ns k/\upI ns k=n
 par:∀x,InN ns x->upI ns x ≠ -1->InN ns (upI ns x)/\x∈zPW ns (upI ns x)
 nod:∀n,(zPW ns n).Nodup
 fin:∀n,InN ns n->zPl ns ns.length n
theorem zYZ {ns:List Node} (B:zHQ ns=true) {n:Int} {x:Node} (hx:idx ns n=some x) (h:x.Under ≠ -1):∃u,idx ns x.Under=some u/\u.Kind=4/\u.Host=n/\u.Parent = -1/\x.Kind=1:=by
 have q:=zBc B hx
 unfold zFd zK2 at q
 simp only [lM] at q
 obtain ⟨_,_,_,_,_,d⟩:=q
 have e:(x.Under == -1)=false:=beq_eq_false_iff_ne.2 h
 rw [e,e9,lM,beq_iff_eq] at d
 cases r:idx ns x.Under with
 | none=>rw [r] at d;simp at d
 | some u =>
  rw [r] at d
  simp only [lM,beq_iff_eq] at d
  refine ⟨u,rfl,d.2.1,d.2.2,?_,d.1⟩
  have o:=zBc B r
  unfold zFd zLX at o
  simp only [lM,dD,beq_iff_eq] at o
  rcases o.2.2.1 with h | ⟨h | h,_⟩
  ·exact h
  ·omega
  ·omega
theorem zWs {ns:List Node} (q:zHQ ns=true) {n:Int} {x:Node} (hx:idx ns n=some x) (h:x.Host ≠ -1):∃u,idx ns x.Host=some u/\u.Kind=1/\u.Under=n/\u.Doc=x.Doc/\x.Kind=4:=by
 have e:=zBc q hx
 unfold zFd zNs at e
 simp only [lM] at e
 obtain ⟨_,_,_,_,d,_⟩:=e
 by_cases hk:x.Kind=4
 ·rw [iP hk] at d
  cases o:idx ns x.Host with
  | none=>rw [o] at d;simp at d
  | some u =>
   rw [o] at d
   simp only [lM,beq_iff_eq] at d
   exact ⟨u,rfl,d.1,d.2.1,d.2.2,hk⟩
 ·rw [iN hk,beq_iff_eq] at d
  exact absurd d h
theorem zG1 {ns:List Node} {n:Int} {x:Node} (hx:idx ns n=some x):upI ns n=if x.Parent = -1 then x.Host else x.Parent:=by unfold upI;rw [hx]
theorem zb6 {ns:List Node} {n:Int} (h:zI5 ns n ≠ -1):upI ns n=zI5 ns n:=by
 unfold upI;unfold zI5 at h ⊢
 cases hx:idx ns n with
 | none=>rfl
 | some x=>rw [hx] at h;simp only at h ⊢;rw [iN h]
theorem zOu {ns:List Node} {n:Int} {x:Node} (hx:idx ns n=some x):zPW ns n=(if x.Under = -1 then [] else [x.Under])++x.Kids:=by unfold zPW;rw [hx]
theorem zeL {ns:List Node} (r:zHQ ns=true) (D:zPG ns=true):TreeU ns where
 kid n k hk:=by
  cases hx:idx ns n with
  | none=>unfold zPW at hk;rw [hx] at hk;simp at hk
  | some x =>
   rw [zOu hx] at hk
   rcases cA.1 hk with hk | hk
   ·split at hk
    ·simp at hk
    ·rename_i G
     obtain rfl:=e8.1 hk
     obtain ⟨u,d,o,q,E,_⟩:=zYZ r hx G
     exact ⟨zAH hx,zAH d,by rw [zG1 d,iP E,q]⟩
   ·have T:=zUS r D
    obtain ⟨d,o,q⟩:=T.kid n k (by rw [zFq hx];exact hk)
    exact ⟨d,o,by rw [zb6 (by rw [q];exact d.ne),q]⟩
 par x hx hp:=by
  obtain ⟨y,hy⟩:=zAI hx
  by_cases h:y.Parent = -1
  ·rw [zG1 hy,iP h] at hp ⊢
   obtain ⟨u,d,o,q,_,_⟩:=zWs r hy hp
   refine ⟨zAH d,?_⟩
   rw [zOu d,q,iN hx.ne]
   simp
  ·have T:=zUS r D
   have B:zI5 ns x ≠ -1:=by rw [zIq hy];exact h
   rw [zb6 B]
   obtain ⟨d,o⟩:=T.par x hx B
   obtain ⟨z,hz⟩:=zAI d
   refine ⟨d,?_⟩
   rw [zOu hz]
   rw [zFq hz] at o
   exact cA.2 (.inr o)
 nod n:=by
  cases hx:idx ns n with
  | none=>unfold zPW;rw [hx];simp
  | some x =>
   have T:=zUS r D
   have hk:=T.nod n
   rw [zFq hx] at hk
   rw [zOu hx,dM]
   refine ⟨by split<;>simp,hk,fun a F b N e=>?_⟩
   subst e
   split at F
   ·simp at F
   ·rename_i G
    obtain rfl:=e8.1 F
    obtain ⟨u,d,o,q,E,_⟩:=zYZ r hx G
    obtain ⟨J,S,I⟩:=T.kid n x.Under (by rw [zFq hx];exact N)
    rw [zIq d,E] at I
    exact J.ne I.symm
 fin n h:=by
  have:=zNq D h
  revert this
  generalize ns.length=k
  clear h
  intro h
  induction k generalizing n with
  | zero=>cases h
  | succ k Q =>
   simp only [zBZ,dD,beq_iff_eq] at h
   exact h.imp id (Q _)
theorem zTD {ns:List Node}:∀(k:Nat) (n:Int),zPl ns k n->∀j,k<=j->zQM ns j n=zQM ns k n
 | 0,_,h,_,_=>h.elim
 | k+1,n,h,j,hj=>by
  obtain ⟨j,rfl⟩:∃e,j=e+1:=⟨j - 1,by omega⟩
  simp only [zQM]
  by_cases d:upI ns n = -1
  ·rw [iP d,iP d]
  ·rw [iN d,iN d,zTD k _ (h.resolve_left d) j (by omega)]
theorem zVy {ns:List Node}:∀(k:Nat) (n:Int),zPl ns k n->∀j,k<=j->zeK ns j n=zeK ns k n
 | 0,_,h,_,_=>h.elim
 | k+1,n,h,j,hj=>by
  obtain ⟨j,rfl⟩:∃e,j=e+1:=⟨j - 1,by omega⟩
  simp only [zeK]
  by_cases d:upI ns n = -1
  ·rw [iP d,iP d]
  ·rw [iN d,iN d,zVy k _ (h.resolve_left d) j (by omega)]
theorem zV4 {ns:List Node}:∀(k:Nat) (n:Int),(zQM ns k n).length<=k
 | 0,_=>by simp [zQM]
 | k+1,n=>by
  simp only [zQM,cP]
  split
  ·simp
  ·have:=zV4 (ns:=ns) k (upI ns n);omega
section
variable {ns:List Node} (T:TreeU ns)
include T
theorem TreeU.climb {n:Int} (h:InN ns n) {M:Nat} (d:ns.length=M+1):upI ns n = -1\/zPl ns M (upI ns n):=by
 have:=T.fin n h
 rw [d] at this
 exact this
theorem TreeU.wayU_eq {n:Int} (h:InN ns n):zH9 ns n=n::(if upI ns n = -1 then [] else zH9 ns (upI ns n)):=by
 obtain ⟨M,e⟩:=h.pos
 have o:=T.climb h e
 unfold zH9
 rw [e]
 simp only [zQM]
 by_cases d:upI ns n = -1
 ·rw [iP d,iP d]
 ·rw [iN d,iN d]
  have:=zTD M _ (o.resolve_left d) (M+1) (by omega)
  simp only [zQM] at this
  rw [this]
theorem TreeU.root_eq {n:Int} (h:InN ns n):ze1 ns n=if upI ns n = -1 then n else ze1 ns (upI ns n):=by
 obtain ⟨M,e⟩:=h.pos
 have o:=T.climb h e
 unfold ze1
 rw [e]
 simp only [zeK]
 by_cases d:upI ns n = -1
 ·rw [iP d,iP d]
 ·rw [iN d,iN d]
  have:=zVy M _ (o.resolve_left d) (M+1) (by omega)
  simp only [zeK] at this
  rw [this]
theorem TreeU.up_ind (h:∀n,InN ns n->(upI ns n ≠ -1->C (upI ns n))->C n):∀n,InN ns n->C n:=by
 have e:∀(k:Nat) (n:Int),InN ns n->zPl ns k n->C n:=by
  intro k
  induction k with
  | zero=>intro n _ h;exact h.elim
  | succ k r =>
   intro n d q
   exact h n d fun o=>r _ (T.par n d o).1 (q.resolve_left o)
 exact fun n d=>e _ n d (T.fin n d)
theorem TreeU.wayU_kid {n k:Int} (hk:k∈zPW ns n):zH9 ns k=k::zH9 ns n:=by
 obtain ⟨d,e,o⟩:=T.kid n k hk
 rw [T.wayU_eq e,o,iN d.ne]
theorem TreeU.wayU_len {n:Int} (h:InN ns n):1<=(zH9 ns n).length/\(zH9 ns n).length<=ns.length:=by
 refine ⟨?_,zV4 _ _⟩
 rw [T.wayU_eq h];simp
theorem TreeU.down_ind (h:∀n,InN ns n->(∀k,k∈zPW ns n->C k)->C n):∀n,InN ns n->C n:=by
 have o:∀(d:Nat) (n:Int),InN ns n->ns.length<(zH9 ns n).length+d->C n:=by
  intro d
  induction d with
  | zero=>intro n e q;have:=T.wayU_len e;omega
  | succ d r =>
   intro n e q
   exact h n e fun k hk=>r k (T.kid n k hk).2.1 (by rw [T.wayU_kid hk,cP];omega)
 exact fun n e=>o ns.length n e (by have:=T.wayU_len e;omega)
theorem TreeU.allUF_stab:∀(d:Nat) (n:Int),InN ns n->ns.length<(zH9 ns n).length+d->∀j,zYl ns (d+j) n=zYl ns d n:=by
 intro d
 induction d with
 | zero=>intro n e o;have:=T.wayU_len e;omega
 | succ d q =>
  intro n e o j
  rw [show d+1+j=d+j+1 by omega]
  simp only [zYl,iS]
  rw [iM fun k hk=>q k (T.kid n k hk).2.1 (by rw [T.wayU_kid hk,cP];omega) j]
theorem TreeU.all_eq {n:Int} (h:InN ns n):zGN ns n=n::(zPW ns n).flatMap (zGN ns):=by
 obtain ⟨M,d⟩:=h.pos
 have hs:=T.allUF_stab
 have e:=T.wayU_len h
 unfold zGN
 rw [d]
 conv=>lhs;simp only [zYl]
 rw [iS,iS,iM fun k hk=>(hs M k (T.kid n k hk).2.1 (by rw [T.wayU_kid hk,cP];omega) 1).symm]
theorem TreeU.wayU_self {n:Int} (h:InN ns n):n∈zH9 ns n:=by rw [T.wayU_eq h];simp
theorem TreeU.wayU_in:∀x,InN ns x->∀y∈zH9 ns x,InN ns y:=T.up_ind fun x hx e y hy=>by
 rw [T.wayU_eq hx] at hy
 rcases lD.1 hy with rfl | hy
 ·exact hx
 ·split at hy
  ·simp at hy
  ·rename_i d;exact e d y hy
theorem TreeU.wayU_suffix:∀x,InN ns x->∀y∈zH9 ns x,zH9 ns y <:+ zH9 ns x:=T.up_ind fun x hx o y hy=>by
 have e:=T.wayU_eq hx
 rw [e] at hy
 rcases lD.1 hy with rfl | hy
 ·exact jF _
 ·split at hy
  ·simp at hy
  ·rename_i d
   rw [e,iN d]
   exact (o d y hy).trans (jG _ _)
theorem TreeU.wayU_trans {x y z:Int} (hz:InN ns z) (d:x∈zH9 ns y) (e:y∈zH9 ns z):x∈zH9 ns z:=(T.wayU_suffix z hz y e).subset d
theorem TreeU.wayU_inj {x y:Int} (hx:InN ns x) (hy:InN ns y) (h:zH9 ns x=zH9 ns y):x=y:=by
 rw [T.wayU_eq hx,T.wayU_eq hy] at h
 exact (dU.inj h).1
theorem TreeU.wayU_anti {x y:Int} (hy:InN ns y) (d:x∈zH9 ns y) (e:y∈zH9 ns x):x=y:=by
 have hx:=T.wayU_in y hy x d
 have o:=T.wayU_suffix y hy x d
 have q:=T.wayU_suffix x hx y e
 exact T.wayU_inj hx hy (o.eq_of_length_le q.length_le)
theorem TreeU.wayU_same {x y z:Int} (hz:InN ns z) (d:x∈zH9 ns z) (e:y∈zH9 ns z) (o:(zH9 ns x).length=(zH9 ns y).length):x=y :=
 T.wayU_inj (T.wayU_in z hz x d) (T.wayU_in z hz y e) ((jU (T.wayU_suffix z hz x d) (T.wayU_suffix z hz y e) (by omega)).eq_of_length o)
end
section
variable {ns:List Node} (T:TreeU ns)
include T
theorem TreeU.kid_way {n k x:Int} (hx:InN ns x) (hk:k∈zPW ns n) (h:k∈zH9 ns x):n∈zH9 ns x :=
 T.wayU_trans hx (by rw [T.wayU_kid hk];exact lG _ (T.wayU_self (T.kid n k hk).1)) h
theorem TreeU.all_in:∀n,InN ns n->∀x∈zGN ns n,InN ns x/\n∈zH9 ns x:=T.down_ind fun n d q x hx=>by
 rw [T.all_eq d] at hx
 rcases lD.1 hx with rfl | hx
 ·exact ⟨d,T.wayU_self d⟩
 ·obtain ⟨k,hk,hx⟩:=iB.1 hx
  obtain ⟨e,o⟩:=q k hk x hx
  exact ⟨e,T.kid_way e hk o⟩
theorem TreeU.all_self {n:Int} (d:InN ns n):n∈zGN ns n:=by rw [T.all_eq d];simp
theorem TreeU.all_kid:∀n,InN ns n->∀y∈zGN ns n,∀k∈zPW ns y,k∈zGN ns n:=T.down_ind fun n o q y hy k hk=>by
 rw [T.all_eq o] at hy ⊢
 rcases lD.1 hy with rfl | hy
 ·exact lG _ (iB.2 ⟨k,hk,T.all_self (T.kid _ k hk).2.1⟩)
 ·obtain ⟨e,d,hy⟩:=iB.1 hy
  exact lG _ (iB.2 ⟨e,d,q e d y hy k hk⟩)
theorem TreeU.mem_all {n:Int} (e:InN ns n):∀x,InN ns x->n∈zH9 ns x->x∈zGN ns n:=T.up_ind fun x hx q h=>by
 have d:=h
 rw [T.wayU_eq hx] at d
 rcases lD.1 d with rfl | d
 ·exact T.all_self e
 ·split at d
  ·simp at d
  ·rename_i o
   exact T.all_kid n e _ (q o d) x (T.par x hx o).2
theorem TreeU.kids_disj {n k e x:Int} (hk:k∈zPW ns n) (d:e∈zPW ns n) (h:x∈zGN ns k) (q:x∈zGN ns e):k=e:=by
 have o:=T.all_in k (T.kid n k hk).2.1 x h
 have r:=T.all_in e (T.kid n e d).2.1 x q
 exact T.wayU_same o.1 o.2 r.2 (by rw [T.wayU_kid hk,T.wayU_kid d];simp)
theorem TreeU.all_nodup:∀n,InN ns n->(zGN ns n).Nodup:=T.down_ind fun n r B=>by
 rw [T.all_eq r,lS]
 refine ⟨fun h=>?_,?_⟩
 ·obtain ⟨k,hk,h⟩:=iB.1 h
  have u:=(T.all_in k (T.kid n k hk).2.1 n h).2
  have q:=T.wayU_suffix n r k u
  rw [T.wayU_kid hk] at q
  have:=q.length_le
  simp at this
  omega
 ·rw [List.Nodup,jV]
  refine ⟨fun k hk=>B k hk,?_⟩
  refine (T.nod n).imp_of_mem fun hk d o x hx y hy e=>?_
  subst e
  exact o (T.kids_disj hk d hx hy)
theorem TreeU.all_len {n:Int} (d:InN ns n):(zGN ns n).length<=ns.length:=zMU _ _ (T.all_nodup n d) fun x hx=>(T.all_in n d x hx).1
theorem TreeU.root_way:∀n,InN ns n->ze1 ns n∈zH9 ns n/\upI ns (ze1 ns n) = -1:=T.up_ind fun n e o=>by
 rw [T.root_eq e,T.wayU_eq e]
 by_cases d:upI ns n = -1
 ·rw [iP d,iP d];exact ⟨by simp,d⟩
 ·rw [iN d,iN d];exact ⟨lG _ (o d).1,(o d).2⟩
theorem TreeU.root_in {n:Int} (d:InN ns n):InN ns (ze1 ns n):=T.wayU_in n d _ (T.root_way n d).1
theorem TreeU.between:∀n,InN ns n->∀c∈zGN ns n,c≠n->∃A B C,zGN ns n=A++upI ns c::(B++c::C)/\∀b∈B,InN ns b/\upI ns c∈zH9 ns b/\c∉zH9 ns b:=T.down_ind fun n X ih c F I=>by
 have e:=T.all_eq X
 rw [e] at F
 obtain ⟨k,hk,F⟩:=iB.1 ((lD.1 F).resolve_left I)
 obtain ⟨J,N,hK⟩:=jH hk
 rw [hK,iG,iH] at e
 by_cases r:c=k
 ·subst r
  have q:=T.kid n c hk
  rw [T.all_eq q.2.1] at e
  rw [q.2.2]
  refine ⟨[],J.flatMap (zGN ns),(zPW ns c).flatMap (zGN ns)++N.flatMap (zGN ns),by rw [e];simp,fun b E=>?_⟩
  obtain ⟨D,u,E⟩:=iB.1 E
  have d:D∈zPW ns n:=by rw [hK];simp [u]
  have o:=T.all_in D (T.kid n D d).2.1 b E
  refine ⟨o.1,T.kid_way o.1 d o.2,fun h=>?_⟩
  have G:=T.mem_all q.2.1 b o.1 h
  have W:=T.kids_disj d hk E G
  subst W
  have Q:=T.nod n
  rw [hK,dM] at Q
  exact Q.2.2 D u D (by simp) rfl
 ·obtain ⟨A,B,C,S,V⟩:=ih k hk c F r
  rw [S] at e
  exact ⟨n::(J.flatMap (zGN ns)++A),B,C++N.flatMap (zGN ns),by rw [e];simp,V⟩
theorem TreeU.piece:∀n,InN ns n->∀c∈zGN ns n,∃A B,zGN ns n=A++(zGN ns c++B):=T.down_ind fun n D E c o=>by
 by_cases d:c=n
 ·subst d;exact ⟨[],[],by simp⟩
 have e:=T.all_eq D
 rw [e] at o
 obtain ⟨k,hk,o⟩:=iB.1 ((lD.1 o).resolve_left d)
 obtain ⟨q,r,hK⟩:=jH hk
 obtain ⟨A,B,u⟩:=E k hk c o
 rw [hK,iG,iH,u] at e
 exact ⟨n::(q.flatMap (zGN ns)++A),B++r.flatMap (zGN ns),by rw [e];simp⟩
end
theorem zAN {f:Forest} (hr:zAG f=true):TreeU f.Nodes:=by
 obtain ⟨_,_,d,e⟩:=zAa hr
 exact zeL d e
end
section
theorem zbw (f:Forest) (n:Int):cnd (decide (n<0)) (some true) (some (decide (n>=(f.Nodes.length:Int))))=some (!(inB f n)):=by
 rw [zAM]
 unfold inB
 by_cases h:n<0
 ·rw [iP h,decide_eq_false (show ¬(0<=n/\n<f.Nodes.length) by omega)];rfl
 ·rw [iN h]
  congr 1
  by_cases d:n<f.Nodes.length
  ·rw [decide_eq_true (show 0<=n/\n<f.Nodes.length by omega),decide_eq_false (by omega)];rfl
  ·rw [decide_eq_false (show ¬(0<=n/\n<f.Nodes.length) by omega),decide_eq_true (by omega)];rfl
theorem zPT {fu:Nat} {f:Forest} {l:List Int} (hfu:1000<fu) (hk:zEU fu f.Nodes) (d:l.length<=100):zB4 fu f l=some (zAG f&&l.all (inB f)):=by
 unfold zB4
 rw [zEo hfu hk,bnd_some]
 cases zAG f with
 | false=>rfl
 | true =>
  rw [cnd_true,zFp (p:=fun n => !(inB f n)) (fun n _=>by unfold zDi;exact zbw f n) (by omega) (by omega),bnd_some,zHq]
  rfl
section
variable {fu:Nat} {f:Forest} (hfu:1000<fu) (hk:zEU fu f.Nodes)
include hfu hk
theorem sh1 {n:Int} (hr:zAG f=true) (h:InN f.Nodes n):zB4 fu f [n]=some true:=by
 rw [zPT hfu hk (by simp),hr];simp [zNY h]
theorem sh2 {n m:Int} (hr:zAG f=true) (h:InN f.Nodes n) (d:InN f.Nodes m):zB4 fu f [n,m]=some true:=by
 rw [zPT hfu hk (by simp),hr];simp [zNY h,zNY d]
theorem sh_no1 {a:Int} (h:zAG f=false\/inB f a=false):zB4 fu f [a]=some false:=by
 rw [zPT hfu hk (by simp)]
 rcases h with h | h
 ·rw [h];rfl
 ·simp [h]
end
theorem supU {fu:Nat} {f:Forest} {n:Int} {x:Node} (hx:idx f.Nodes n=some x):zGu fu f n=some (upI f.Nodes n):=by
 unfold zGu
 rw [hx,bnd_some,bnd_some,zAe,zG1 hx]
 split<;>rfl
section
variable {f:Forest} (T:TreeU f.Nodes)
include T
theorem top_l (fu k:Nat):∀n,InN f.Nodes n->zPl f.Nodes k n->∀K,k<=K->zIN fu f K n=some (zeK f.Nodes k n):=by
 induction k with
 | zero=>intro n _ h;exact h.elim
 | succ k q =>
  intro n d o K hK
  obtain ⟨K,rfl⟩:∃e,K=e+1:=⟨K - 1,by omega⟩
  obtain ⟨x,hx⟩:=zAI d
  simp only [zIN,zeK]
  rw [supU hx,bnd_some,bnd_some,zAe]
  by_cases h:upI f.Nodes n = -1
  ·rw [iP h,iP h]
  ·rw [iN h,iN h]
   exact q _ (T.par n d h).1 (o.resolve_left h) K (by omega)
theorem over_l {fu:Nat} {a:Int} (ha:a ≠ -1) (k:Nat):∀n,InN f.Nodes n->zPl f.Nodes k n->∀K,k<K->zDG fu f a K n=some ((zQM f.Nodes k n).contains a):=by
 induction k with
 | zero=>intro n _ h;exact h.elim
 | succ k u =>
  intro n o r K hK
  obtain ⟨K,rfl⟩:∃e,K=e+1:=⟨K - 1,by omega⟩
  obtain ⟨x,hx⟩:=zAI o
  simp only [zDG,zQM]
  rw [supU hx,bnd_some,zAe,zAe,iN o.ne]
  by_cases d:n=a
  ·rw [iP d,d];simp
  ·rw [iN d]
   have q:(a==n)=false:=beq_eq_false_iff_ne.2 (Ne.symm d)
   rw [List.contains_cons,q,e9]
   by_cases h:upI f.Nodes n = -1
   ·obtain ⟨K,rfl⟩:∃e,K=e+1:=⟨K - 1,by omega⟩
    rw [iP h,h]
    simp only [zDG]
    rw [zAO (by simp)]
    simp [Ne.symm ha]
   ·rw [iN h,u _ (T.par n o h).1 (r.resolve_left h) K (by omega)]
def zSK (ns:List Node) (a b:Int):Bool:=(zH9 ns b).contains a
omit T in
theorem zKy {ns:List Node} {a b:Int}:zSK ns a b=true↔a∈zH9 ns b:=e7
theorem full_l (K:Nat):∀(st out:List Int),(∀x∈st,InN f.Nodes x)->(st.flatMap (zGN f.Nodes)).length<K->out.length+(st.flatMap (zGN f.Nodes)).length<=1000000->zEE f K (out,st)=some (out++st.reverse.flatMap (zGN f.Nodes)):=by
 induction K with
 | zero=>intro _ _ _ h;omega
 | succ K ih =>
  intro st out B I S
  have e:∀l:List Int,(∀x∈l,InN f.Nodes x)->l.length<=(l.flatMap (zGN f.Nodes)).length:=by
   intro l
   induction l with
   | nil=>intro _;simp
   | cons x l N =>
    intro h
    have:=N fun y hy=>h y (by simp [hy])
    have h1:1<=(zGN f.Nodes x).length:=by rw [T.all_eq (h x (by simp))];simp
    simp only [iH,eR,cP];omega
  rcases jW st with rfl | ⟨d,x,r⟩
  ·simp only [zEE]
   rw [zAO (by simp)];simp
  ·rw [jX] at r
   subst r
   have D:=B x (by simp)
   obtain ⟨y,hy⟩:=zAI D
   have hk:=zOu hy
   have Q:=T.all_eq D
   simp only [iG,iH,jY,gI,eR,Q,cP] at I S
   have X:=e d fun z hz=>B z (by simp [hz])
   have o:∀k∈zPW f.Nodes x,InN f.Nodes k:=fun k h=>(T.kid x k h).2.1
   have hl2:=e _ o
   have hl3:y.Kids.length<=(zPW f.Nodes x).length:=by rw [hk];simp
   simp only [zEE]
   have u:((d++[x]).length:Int) - 1=(d.length:Int):=by simp
   rw [zAP (by simp),u,zbp (by omega) (by omega),bnd_some,zAQ (by simp:d.length<(d++[x]).length),bnd_some,show (0:Int)=((0:Nat):Int) from rfl,zRl (by omega) (by simp),bnd_some]
   rw [show (d++[x])[d.length]'(by simp)=x by simp,show ((d++[x]).drop 0).take (d.length - 0)=d by simp]
   rw [zAc (by simp;omega),bnd_some,hy,bnd_some]
   have l2:∀(k:Nat) (l:List Int),k<=y.Kids.length->l.length+k<=1000000->zGt out x y (zEE f K) k l=zEE f K (out++[x],l++((if y.Under = -1 then [] else [y.Under])++y.Kids.take k).reverse):=by
    intro k
    induction k with
    | zero =>
     intro l _ W
     simp only [zGt]
     rw [zAe,zAc (by simp;omega),bnd_some]
     by_cases G:y.Under = -1
     ·rw [iP G,iP G];simp
     ·rw [iN G,iN G];simp
    | succ k J =>
     intro l V W
     have E:k<y.Kids.length:=by omega
     simp only [zGt]
     rw [lC E,bnd_some,zAc (by simp;omega),bnd_some,J _ (by omega) (by simp;omega),iE E,<- eS,jZ (bs:=[y.Kids[k]]),eS]
     rfl
   rw [l2 _ _ (cB _) (by omega),iI,<- hk]
   have F:∀z∈d++(zPW f.Nodes x).reverse,InN f.Nodes z:=fun z hz=>by
    rcases cA.1 hz with hz | hz
    ·exact B z (by simp [hz])
    ·exact o z (by simpa using hz)
   have q:((zPW f.Nodes x).reverse.flatMap (zGN f.Nodes)).length=((zPW f.Nodes x).flatMap (zGN f.Nodes)).length:=by
    rw [jB,jB,kD,kE]
   rw [ih (d++(zPW f.Nodes x).reverse) (out++[x]) F (by simp only [iG,eR,q];omega) (by simp only [iG,eR,q,cP,eK];omega)]
   simp [Q]
end
theorem zSY {fu:Nat} {p:Int->Bool} {l:List Int} (W:∀x∈l,t x=some (p x)) (hf:l.length<fu) (hb:l.length<=1000000):zDI fu t l=some (l.filter fun x => !(p x)):=by
 have J:zAS fu t l=some (match (cW l.length).find? (fun i=>match l[i]? with | some x=>p x | none=>false) with | some j=>(j:Int) | none => -1):=by
  unfold zAS
  rw [zgv (L:=zAJ t l) (fun i=>match l[i]? with | some x=>p x | none=>false) (fun j=>some (j:Int)) (some (-1)) l.length (fun j d e k=>?_) (fun j d e k=>?_) (fun k=>?_) hf]
  ·cases (cW l.length).find? (fun i=>match l[i]? with | some x=>p x | none=>false)<;>rfl
  ·rw [lC d] at e
   simp only at e
   simp only [zAJ]
   rw [zAP (by simpa using d),zAQ d,bnd_some,W _ (gC d),bnd_some,e,cnd_true]
  ·rw [lC d] at e
   simp only at e
   simp only [zAJ]
   rw [zAP (by simpa using d),zAQ d,bnd_some,W _ (gC d),bnd_some,e,cnd_false,zBL (by omega),bnd_some]
  ·simp only [zAJ]
   rw [zAO (by simp)]
 have N:∀(m i j k:Nat) (o:List Int),j+m=l.length->i<j->o.length=l.length->o.take i=(l.take j).filter (fun x => !(p x))->o.drop j=l.drop j->m<k->zA7 t k ((i:Int),(j:Int),o)=some (l.filter fun x => !(p x)):=by
  intro m
  induction m with
  | zero =>
   intro i j k o d S G D F hk
   obtain ⟨k,rfl⟩:∃Q,k=Q+1:=⟨k - 1,by omega⟩
   obtain rfl:j=l.length:=by omega
   simp only [zA7]
   rw [zAO (by simp;omega)]
   unfold zVw
   rw [iP (by omega),bnd_some]
   have e:=zRl (s:=o.take ((i:Int)).toNat++List.replicate (o.length - ((i:Int)).toNat) 0) (i:=0) (j:=i) (by omega) (by simp;omega)
   rw [show ((0:Nat):Int)=0 from rfl] at e
   rw [e,bnd_some]
   simp only [eO,Nat.sub_zero,List.drop_zero]
   rw [iV (by simp;omega),jI,jJ,D,iI]
  | succ m X =>
   intro i j k o d S G D F hk
   obtain ⟨k,rfl⟩:∃Q,k=Q+1:=⟨k - 1,by omega⟩
   have r:j<l.length:=by omega
   have u:j<o.length:=by omega
   have E:i<o.length:=by omega
   have I:o[j]=l[j]:=by
    rw [eT r,eT u] at F
    exact (dU.inj F).1
   have q:o.drop (j+1)=l.drop (j+1):=by
    rw [eT r,eT u] at F
    exact (dU.inj F).2
   simp only [zA7]
   rw [zAP (by simp;omega),zAQ u,bnd_some,I,W _ (gC r),bnd_some,zAQ E,bnd_some,zBL (by omega),bnd_some,zBL (by omega),bnd_some,bnd_some]
   cases e:p l[j] with
   | true =>
    rw [iA,cnd_false]
    exact X i (j+1) k o (by omega) (by omega) G (by rw [D,iE r,jK];simp [e]) q (by omega)
   | false =>
    rw [jL,cnd_true]
    refine X (i+1) (j+1) k _ (by omega) (by omega) (by simpa using G) ?_ ?_ (by omega)
    ·rw [eO,iE r,jK,<- D,iE (by simpa using E),List.take_set_of_le (cB i),List.getElem_set_self]
     simp [e]
    ·rw [<- q,eO,List.drop_set_of_lt (by omega)]
 unfold zDI
 rw [J,bnd_some]
 cases B:(cW l.length).find? (fun i=>match l[i]? with | some x=>p x | none=>false) with
 | none =>
  simp only
  rw [zAP (by simp)]
  congr 1
  rw [List.find?_eq_none] at B
  refine (jM.2 fun x hx=>?_).symm
  obtain ⟨i,hi,rfl⟩:=iW hx
  have:=B i (by simpa using hi)
  rw [lC hi] at this
  simpa using this
 | some i =>
  simp only
  rw [List.find?_range_eq_some] at B
  obtain ⟨D,F,h3⟩:=B
  have hi:i<l.length:=by simpa using F
  rw [lC hi] at D
  simp only at D
  rw [zAO (by simp),zBL (by omega),bnd_some]
  refine N (l.length - (i+1)) i (i+1) fu l (by omega) (by omega) rfl ?_ rfl (by omega)
  rw [iE hi,jK]
  have e1:(l.take i).filter (fun x => !(p x))=l.take i:=jM.2 fun x hx=>by
   obtain ⟨j,d,rfl⟩:=iW hx
   have V:j<i:=by simp at d;omega
   have:=h3 j V
   rw [lC (by omega:j<l.length)] at this
   simpa using this
  rw [e1]
  simp [D]
section
variable {f:Forest} {fu:Nat} (hs:Small f) (hfu:1000<fu) (hr:zAG f=true)
include hs hfu hr
theorem Top_ok {n:Int} (d:InN f.Nodes n):zLG fu f n=some (ze1 f.Nodes n):=by
 have:=hs.few
 unfold zLG
 rw [sh1 hfu (hs.fit hfu) hr d,bnd_some,iA,cnd_false,top_l (zAN hr) fu _ n d ((zAN hr).fin n d) fu (by omega)]
 rfl
def zWf (ns:List Node) (n:Int):Bool:=isB ns (ze1 ns n) 0
theorem zWB {n:Int} (d:InN f.Nodes n):zDT fu f n=some (zWf f.Nodes n):=by
 have e:=(zAN hr).root_in d
 obtain ⟨x,hx⟩:=zAI e
 unfold zDT zWf isB
 rw [Top_ok hs hfu hr d,bnd_some,zAe,iN e.ne,hx,bnd_some]
theorem zfA {a n:Int} (ha:InN f.Nodes a) (d:InN f.Nodes n):zEF fu f a n=some (zSK f.Nodes a n):=by
 have:=hs.few
 unfold zEF
 rw [sh2 hfu (hs.fit hfu) hr ha d,bnd_some,iA,cnd_false,over_l (zAN hr) ha.ne _ n d ((zAN hr).fin n d) fu (by omega)]
 rfl
theorem zXU {n:Int} (d:InN f.Nodes n):zDg fu f n=some (zGN f.Nodes n):=by
 have:=hs.few
 have e:=(zAN hr).all_len d
 unfold zDg
 rw [sh1 hfu (hs.fit hfu) hr d,bnd_some,iA,cnd_false,full_l (zAN hr) fu [n] [] (by simp [d]) (by simp;omega) (by simp;omega)]
 simp
def zPq (ns:List Node) (n:Int):List Int:=(zGN ns n).filter fun k=>isB ns k 1
theorem zcj {n:Int} (d:InN f.Nodes n):zF0 fu f n=some (zPq f.Nodes n):=by
 have:=hs.few
 have T:=zAN hr
 have e:=T.all_len d
 unfold zF0
 rw [zXU hs hfu hr d,bnd_some,zSY (p:=fun k => !(isB f.Nodes k 1)) (fun k hk=>?_) (by omega) (by omega),bnd_some]
 ·unfold zPq
  simp only [Bool.not_not]
 ·obtain ⟨x,hx⟩:=zAI (T.all_in n d k hk).1
  unfold zDh isB
  rw [hx,bnd_some];rfl
end
end
section
theorem zKq {l:List α} {n:Int} {v : α} (h:0<=n/\n<l.length):idx (l.set n.toNat v) n=some v:=by
 unfold idx
 rw [iP h.1,List.getElem?_set_self (by omega)]
theorem zJY {l:List α} {n i:Int} {v : α} (h:0<=n) (hi:i≠n):idx (l.set n.toNat v) i=idx l i:=by
 unfold idx
 by_cases d:0<=i
 ·rw [iP d,iP d,List.getElem?_set_ne (by omega)]
 ·rw [iN d,iN d]
def zMS (z:Node):Node:=⟨z.Kind,z.Name,z.Is,z.Data,z.Attrs,-1,z.Kids,z.Host,z.Under,z.Doc⟩
def zNv (y:Node) (c:Int):Node:=⟨y.Kind,y.Name,y.Is,y.Data,y.Attrs,y.Parent,y.Kids.filter (fun k=>k != c),y.Host,y.Under,y.Doc⟩
def zLn (f:Forest) (c p:Int) (z y:Node):Forest:=⟨(f.Nodes.set p.toNat (zNv y c)).set c.toNat (zMS z),f.Most⟩
structure Hung (f:Forest) (c p:Int) (z y:Node):Prop where
 hz:idx f.Nodes c=some z
 hy:idx f.Nodes p=some y
 par:z.Parent=p
 mem:c∈y.Kids
 ne:c≠p
theorem zfw {f:Forest} (hr:zAG f=true) {c p:Int} {y:Node} (hy:idx f.Nodes p=some y) (d:c∈y.Kids):∃z,Hung f c p z y:=by
 have T:=zBD hr
 obtain ⟨u,r,o⟩:=T.kid p c (by rw [zFq hy];exact d)
 obtain ⟨z,hz⟩:=zAI r
 rw [zIq hz] at o
 refine ⟨z,hz,hy,o,d,fun e=>?_⟩
 have q:=T.way_kid (n:=p) (k:=c) (by rw [zFq hy];exact d)
 rw [e] at q
 have:=congrArg iO q
 simp at this
section
variable {f:Forest} {c p:Int} {z y:Node} (H:Hung f c p z y)
include H
omit H in
theorem zRj (f:Forest) (c p:Int) (z y:Node):(zLn f c p z y).Nodes.length=f.Nodes.length:=by unfold zLn;simp
theorem zOm:idx (zLn f c p z y).Nodes c=some (zMS z):=by
 have h:=zAH H.hz
 unfold zLn
 simp only
 rw [zKq (by simp;omega)]
theorem zG0:idx (zLn f c p z y).Nodes p=some (zNv y c):=by
 have h:=zAH H.hz
 have d:=zAH H.hy
 unfold zLn
 simp only
 rw [zJY h.1 (Ne.symm H.ne),zKq (by omega)]
theorem zMW {i:Int} (d:i≠c) (e:i≠p):idx (zLn f c p z y).Nodes i=idx f.Nodes i:=by
 have h:=zAH H.hz
 have o:=zAH H.hy
 unfold zLn
 simp only
 rw [zJY h.1 d,zJY o.1 e]
theorem zRi {i:Int} (r:idx f.Nodes i=some w):∃d,idx (zLn f c p z y).Nodes i=some d/\d.Kind=w.Kind/\d.Doc=w.Doc/\d.Host=w.Host/\d.Under=w.Under/\d.Parent=(if i=c then -1 else w.Parent)/\d.Kids=(if i=p then w.Kids.filter (fun k=>k != c) else w.Kids)/\zHP d=zHP w:=by
 by_cases o:i=c
 ·subst o
  have e:=H.hz
  rw [r] at e
  obtain rfl:=lJ.inj e
  exact ⟨_,zOm H,rfl,rfl,rfl,rfl,by rw [iP rfl];rfl,by rw [iN H.ne];rfl,rfl⟩
 ·by_cases q:i=p
  ·subst q
   have e:=H.hy
   rw [r] at e
   obtain rfl:=lJ.inj e
   exact ⟨_,zG0 H,rfl,rfl,rfl,rfl,by rw [iN o];rfl,by rw [iP rfl];rfl,rfl⟩
  ·exact ⟨w,(zMW H o q).trans r,rfl,rfl,rfl,rfl,by rw [iN o],by rw [iN q],rfl⟩
theorem zNx {i k:Int}:isB (zLn f c p z y).Nodes i k=isB f.Nodes i k:=by
 cases d:idx f.Nodes i with
 | none =>
  have r:i≠c:=fun e=>by rw [e,H.hz] at d;cases d
  have u:i≠p:=fun e=>by rw [e,H.hy] at d;cases d
  unfold isB;rw [zMW H r u]
 | some w =>
  obtain ⟨B,o,q,_⟩:=zRi H d
  unfold isB;rw [o,d];simp only [q]
variable (hr:zAG f=true)
include hr
theorem zX9:z.Kind=1\/z.Kind=2:=by
 have e:=(zAa hr).2.2.1
 have d:=zBc e H.hz
 unfold zFd zLX at d
 simp only [lM,dD,beq_iff_eq] at d
 rcases d.2.2.1 with h | h
 ·have:=zAH H.hy
  have:=H.par
  omega
 ·exact h.1
theorem zde:z.Host = -1:=by
 have d:=(zAa hr).2.2.1
 by_cases h:z.Host = -1
 ·exact h
 ·obtain ⟨_,_,_,_,_,e⟩:=zWs d H.hz h
  have:=zX9 H hr
  omega
theorem zes {i:Int} (hi:InN f.Nodes i):upI (zLn f c p z y).Nodes i=if i=c then -1 else upI f.Nodes i:=by
 obtain ⟨w,d⟩:=zAI hi
 obtain ⟨u,o,_,_,q,_,r,_⟩:=zRi H d
 rw [zG1 o,zG1 d,q,r]
 by_cases h:i=c
 ·rw [iP h,iP h,iP rfl]
  subst h
  have e:=H.hz
  rw [d] at e
  obtain rfl:=lJ.inj e
  exact zde H hr
 ·rw [iN h,iN h]
theorem zOn:zAG (zLn f c p z y)=true:=by
 have T:=zBD hr
 have r:=zRj f c p z y
 unfold zAG at hr ⊢
 simp only [lM,decide_eq_true_eq] at hr ⊢
 obtain ⟨h1,h2,h3,h4,h5,h6,h7⟩:=hr
 rw [r,zNx H]
 refine ⟨h1,h2,h3,h4,h5,?_,?_⟩
 ·rw [zSp]
  intro i w' W
  have B:InN f.Nodes i:=by
   have:=zAH W
   rw [r] at this
   exact this
  obtain ⟨w,V⟩:=zAI B
  obtain ⟨v,g1,E,X,g4,g5,g6,g7,g8⟩:=zRi H V
  rw [W] at g1
  obtain rfl:=lJ.inj g1
  have I:=zBc h6 V
  unfold zFd at I
  simp only [lM] at I
  obtain ⟨n1,n2,n3,n4,D,n6⟩:=I
  unfold zFd
  simp only [lM]
  refine ⟨by rw [g8];exact n1,?_,?_,?_,?_,?_⟩
  ·unfold zLo at n2 ⊢
   rw [zNx H,E,X];exact n2
  ·unfold zLX at n3 ⊢
   rw [E,g6]
   by_cases G:i=c
   ·rw [iP G];rfl
   ·rw [iN G]
    simp only [dD,lM] at n3 ⊢
    refine n3.imp id fun ⟨k1,o⟩=>⟨k1,?_⟩
    cases hp:idx f.Nodes w.Parent with
    | none=>rw [hp] at o;cases o
    | some q =>
     rw [hp] at o
     obtain ⟨q',J,N,_,_,_,_,q7,_⟩:=zRi H hp
     rw [J]
     simp only [N,q7]
     simp only [lM] at o ⊢
     refine ⟨o.1,?_⟩
     split
     ·rw [e7,iJ]
      exact ⟨e7.1 o.2,by simpa using G⟩
     ·exact o.2
  ·unfold zEO at n4 ⊢
   simp only [lM,decide_eq_true_eq,lR] at n4 ⊢
   obtain ⟨b1,b2,b3,b4⟩:=n4
   have d:w'.Kids.Sublist w.Kids:=by
    rw [g7];split
    ·exact iX
    ·exact List.Sublist.refl _
   refine ⟨b1.sublist d,fun k hk=>?_,?_,?_⟩
   ·have hkc:k≠c:=fun e=>by
     subst e
     have hkw:=d.subset hk
     have:=(T.kid i k (by rw [zFq V];exact hkw)).2.2
     rw [zIq H.hz,H.par] at this
     subst this
     rw [g7,iP rfl,iJ] at hk
     simp at hk
    have Q:=b2 k (d.subset hk)
    unfold zOe at Q ⊢
    cases hu:idx f.Nodes k with
    | none=>rw [hu] at Q;cases Q
    | some u =>
     rw [hu] at Q
     obtain ⟨u',J,N,q3,_,_,q6,_⟩:=zRi H hu
     rw [J]
     simp only [N,q3,q6,iN hkc,E,X]
     exact Q
   ·rw [E]
    simp only [dD,decide_eq_true_eq] at b3 ⊢
    refine b3.imp id fun h=>?_
    have:=d.length_le
    omega
   ·rw [E]
    simp only [dD,decide_eq_true_eq] at b4 ⊢
    refine b4.imp id fun h=>?_
    have e:zBE (zLn f c p z y).Nodes w'.Kids=zBE f.Nodes w'.Kids:=by
     unfold zBE
     exact iF fun k _=>by rw [zNx H]
    have:=d.countP_le (p:=fun k=>isB f.Nodes k 1)
    rw [e]
    unfold zBE at h ⊢
    omega
  ·unfold zNs at D ⊢
   rw [E,X,g4]
   by_cases hk:w.Kind=4
   ·rw [iP hk] at D ⊢
    cases F:idx f.Nodes w.Host with
    | none=>rw [F] at D;cases D
    | some h =>
     rw [F] at D
     obtain ⟨u',J,N,q3,_,q5,_⟩:=zRi H F
     rw [J]
     simp only [N,q3,q5]
     exact D
   ·rw [iN hk] at D ⊢;exact D
  ·unfold zK2 at n6 ⊢
   rw [E,g5]
   simp only [dD,lM] at n6 ⊢
   refine n6.imp id fun ⟨k1,o⟩=>⟨k1,?_⟩
   cases F:idx f.Nodes w.Under with
   | none=>rw [F] at o;cases o
   | some h =>
    rw [F] at o
    obtain ⟨u',J,N,_,q4,_⟩:=zRi H F
    rw [J]
    simp only [N,q4]
    exact o
 ·have S:=zKv h6
  have hr':zAG f=true:=by
   unfold zAG
   simp only [lM,decide_eq_true_eq]
   exact ⟨h1,h2,h3,h4,h5,h6,h7⟩
  have climb:∀(k:Nat) (i:Int),InN f.Nodes i->zBZ f.Nodes k i=true->zBZ (zLn f c p z y).Nodes k i=true:=by
   intro k
   induction k with
   | zero=>intro i _ h;cases h
   | succ k ih =>
    intro i hi h
    rw [zBZ,dD,beq_iff_eq] at h ⊢
    rw [zes H hr' hi]
    by_cases hc:i=c
    ·rw [iP hc];exact .inl rfl
    ·rw [iN hc]
     rcases h with h | h
     ·exact .inl h
     ·obtain ⟨w,V⟩:=zAI hi
      rcases S i w V with h' | ⟨q,hq⟩
      ·exact .inl h'
      ·exact .inr (ih _ (zAH hq) h)
  unfold zPG
  rw [lR]
  intro i hi
  rw [r] at hi ⊢
  have hi:i<f.Nodes.length:=by simpa using hi
  have B:InN f.Nodes (i:Int):=⟨by omega,by omega⟩
  exact climb _ _ B (zNq h7 B)
theorem zbP:∀i,InN f.Nodes i->c∉zH9 f.Nodes i->zH9 (zLn f c p z y).Nodes i=zH9 f.Nodes i:=(zAN hr).up_ind fun i hi u o=>by
 have U:=zAN hr
 have V:=zAN (zOn H hr)
 have d:=zRj f c p z y
 have q:InN (zLn f c p z y).Nodes i:=by unfold InN;rw [d];exact hi
 have e:=U.wayU_eq hi
 rw [e] at o
 have r:i≠c:=fun h=>o (by rw [h];simp)
 rw [e,V.wayU_eq q,zes H hr hi,iN r]
 by_cases h:upI f.Nodes i = -1
 ·rw [iP h,iP h]
 ·rw [iN h] at o
  rw [iN h,iN h,u h fun hm=>o (lG _ hm)]
theorem zYB {n:Int}:zSK (zLn f c p z y).Nodes n p=zSK f.Nodes n p:=by
 have U:=zAN hr
 have e:InN f.Nodes p:=zAH H.hy
 have o:InN f.Nodes c:=zAH H.hz
 have d:c∉zH9 f.Nodes p:=fun h=>by
  have r:p∈zH9 f.Nodes c:=by
   have q:upI f.Nodes c=p:=by rw [zG1 H.hz,H.par,iN e.ne]
   rw [U.wayU_eq o,q,iN e.ne]
   exact lG _ (U.wayU_self e)
  exact H.ne (U.wayU_anti e h r)
 unfold zSK
 rw [zbP H hr p e d]
end
end
section
theorem zTs {ns:List Node} {k:Int} (h:isB ns j k=true):j ≠ -1:=fun e=>by
 unfold isB at h
 rw [zCW (by omega)] at h
 cases h
theorem zMX {f:Forest} {fu:Nat} (hs:Small f) (hfu:1000<fu) (hr:zAG f=true) {a b:Int} (ha:InN f.Nodes a) (d:InN f.Nodes b):zQI f a b=zSK f.Nodes a b :=
 lJ.inj ((zW5 hfu (hs.fit hfu) hr (zNY ha) (zNY d)).symm.trans (zfA hs hfu hr ha d))
theorem zby {f:Forest} {fu:Nat} {n p:Int} {x y:Node} (hfu:1000<fu) (hk:zEU fu f.Nodes) (hr:zAG f=true) (hx:idx f.Nodes n=some x) (hy:idx f.Nodes p=some y):∃r,zEI fu f n p (-1)=some r/\r≠0:=by
 have d:inB f n=true:=zNY (zAH hx)
 have e:inB f p=true:=zNY (zAH hy)
 have B:zAZ fu ⟨⟨f.Nodes,f.Most⟩,p,-1,-1⟩ p=some y.Kind:=by unfold zAZ;rw [hy];rfl
 have u:∃b,zFZ fu ⟨⟨f.Nodes,f.Most⟩,p,-1,-1⟩ n=some b:=by
  unfold zFZ
  rw [B,bnd_some]
  cases y.Kind != 2 with
  | false=>exact ⟨_,rfl⟩
  | true =>
   rw [cnd_true]
   exact ⟨_,by rw [zW5 hfu hk hr d e,bnd_some]⟩
 obtain ⟨b,q⟩:=u
 have o:=zXK (child := -1) (gone := -1) hfu hk hr hx hy (.inl rfl)
 revert o
 generalize zPX f n p (-1) (-1) x y _=T
 intro o
 unfold zEI zHJ
 rw [zFQ hfu hk hr (by simp),bnd_some,o,bnd_some,q,bnd_some]
 simp only [cK,iQ,d,e,iR,iA,cnd_false]
 rw [zAO (by rfl),zAP (by rfl),zAd]
 split
 ·exact ⟨6,rfl,by decide⟩
 ·rename_i h
  cases b with
  | true=>exact ⟨6,rfl,by decide⟩
  | false=>exact ⟨_,rfl,h⟩
section
variable {f:Forest} {c p:Int} {z y:Node} (H:Hung f c p z y) (hr:zAG f=true)
include H
theorem zVV (hs:Small f):Small (zLn f c p z y):=by
 have q:∀r∈(zLn f c p z y).Nodes,r∈f.Nodes\/r=zNv y c\/r=zMS z:=fun r d=>by
  unfold zLn at d
  rcases dT d with d | d
  ·rcases dT d with d | d
   ·exact .inl d
   ·exact .inr (.inl d)
  ·exact .inr (.inr d)
 have o:=zEp H.hz
 have e:=zEp H.hy
 refine ⟨by rw [zRj];exact hs.few,fun w d=>?_,fun w d=>?_,fun w d=>?_⟩
 ·rcases q w d with h | rfl | rfl
  ·exact hs.kids w h
  ·exact eM (iT _ _) (hs.kids y e)
  ·exact hs.kids z o
 ·rcases q w d with h | rfl | rfl
  ·exact hs.attrs w h
  ·exact hs.attrs y e
  ·exact hs.attrs z o
 ·rcases q w d with h | rfl | rfl
  ·exact hs.name w h
  ·exact hs.name y e
  ·exact hs.name z o
theorem zYA {l:List Int} {k:Int} (q:c∉l):zDv (zLn f c p z y).Nodes (-1) l k=zDv f.Nodes c l k:=by
 unfold zDv
 refine iF fun j o=>?_
 have d:j≠c:=fun e=>q (e▸o)
 rw [zNx H]
 simp only [lM,bne_iff_ne]
 exact ⟨fun h=>⟨d,h.2⟩,fun h=>⟨zTs h.2,h.2⟩⟩
theorem zVU {l:List Int} {k:Int}:zDv (zLn f c p z y).Nodes (-1) (l.filter fun j=>j != c) k=zDv f.Nodes c l k:=by
 unfold zDv
 rw [List.countP_filter]
 refine iF fun j d=>?_
 rw [zNx H]
 simp only [lM,bne_iff_ne]
 exact ⟨fun h=>⟨h.2,h.1.2⟩,fun h=>⟨⟨zTs h.2,h.2⟩,h.1⟩⟩
theorem zbO {l:List Int} (d:c∉l):zGC (zLn f c p z y).Nodes p (-1) l=zGC f.Nodes p c l:=by
 unfold zGC
 rw [zYA H d,zYA H d,zG0 H,H.hy]
 simp only
 rw [show (zNv y c).Kids=y.Kids.filter (fun j=>j != c) from rfl,zVU H]
include hr
theorem zWt:zGI y.Kind=true:=by
 have d:=zBc (zAa hr).2.2.1 H.hy
 unfold zFd zEO at d
 simp only [lM,dD,decide_eq_true_eq] at d
 rcases d.2.2.2.1.2.2.1 with h | h
 ·exact h
 ·have:=H.mem
  rw [List.eq_nil_of_length_eq_zero h] at this
  simp at this
theorem zTp:zSK f.Nodes c p=false:=by
 have U:=zAN hr
 have d:InN f.Nodes p:=zAH H.hy
 have r:InN f.Nodes c:=zAH H.hz
 cases h:zSK f.Nodes c p with
 | false=>rfl
 | true =>
  have o:=zKy.1 h
  have q:p∈zH9 f.Nodes c:=by
   have e:upI f.Nodes c=p:=by rw [zG1 H.hz,H.par,iN d.ne]
   rw [U.wayU_eq r,e,iN d.ne]
   exact lG _ (U.wayU_self d)
  exact absurd (U.wayU_anti d o q) H.ne
theorem zZS {fu:Nat} (hs:Small f) (hfu:1000<fu) {n:Int} {x:Node} (hx:idx f.Nodes n=some x) (J:n≠c) (u:zQI f n p=false):zEa fu (zLn f c p z y) n p (-1)=some (zPX f n p c c x y true):=by
 have I:=zOn H hr
 have D:=zVV H hs
 have T:=zBD hr
 have U:=zAN hr
 have q:InN f.Nodes n:=zAH hx
 have B:InN f.Nodes p:=zAH H.hy
 have o:zSK f.Nodes n p=false:=by rw [<- zMX hs hfu hr q B];exact u
 have r:n≠p:=fun e=>by
  subst e
  have:=zKy.2 (U.wayU_self q)
  rw [o] at this
  cases this
 have G:idx (zLn f c p z y).Nodes n=some x:=(zMW H J r).trans hx
 have d:=zRj f c p z y
 have F:zQI (zLn f c p z y) n p=false:=by
  rw [zMX D hfu I (by unfold InN;rw [d];exact q) (by unfold InN;rw [d];exact B),zYB H hr];exact o
 have E:c∉(if x.Kind=3 then x.Kids else [n]):=by
  split
  ·intro hm
   have:=(T.kid n c (by rw [zFq hx];exact hm)).2.2
   rw [zIq H.hz,H.par] at this
   exact r this.symm
  ·intro hm
   exact J (e8.1 hm).symm
 rw [zbB hfu (D.fit hfu) I G (zG0 H) (.inl rfl)]
 unfold zPX
 rw [F,u,zbO H E]
 rfl
end
end
section
structure At (a b:List Node) (h:Int->Node->Node):Prop where
 len:b.length=a.length
 at_:∀j w,idx a j=some w->idx b j=some (h j w)
theorem At.set {b:List Node} (H:At a b h) {c:Int} (e:0<=c/\c<a.length) (v:Node):At a (b.set c.toNat v) (fun j w=>if j=c then v else h j w) where
 len:=by rw [eE,H.len]
 at_ j w hw:=by
  by_cases d:j=c
  ·subst d
   rw [iP rfl,zKq (by rw [H.len];exact e)]
  ·rw [iN d,zJY e.1 d,H.at_ j w hw]
theorem At.congr {b:List Node} {d:Int->Node->Node} (H:At a b h) (e:∀j w,idx a j=some w->h j w=d j w):At a b d where
 len:=H.len
 at_ j w hw:=by rw [H.at_ j w hw,e j w hw]
def zUa (M:List Int) (j:Int) (w:Node):Node:=⟨w.Kind,w.Name,w.Is,w.Data,w.Attrs,if M.contains j=true then -1 else w.Parent,w.Kids.filter (fun k => !(M.contains k)),w.Host,w.Under,w.Doc⟩
theorem zOV (M:List Int) (c k:Int):(M++[c]).contains k=(M.contains k||k==c):=by
 rw [eW,e7,dD,e7,beq_iff_eq,cA,e8]
section
variable {f:Forest} (hr:zAG f=true)
include hr
theorem zNu {c:Int} {z:Node} (d:idx f.Nodes j=some w) (hz:idx f.Nodes c=some z) (h:c∈w.Kids):z.Parent=j:=by
 have:=((zBD hr).kid j c (by rw [zFq d];exact h)).2.2
 rwa [zIq hz] at this
theorem zeq {c:Int} (d:idx f.Nodes j=some w) (h:c∈w.Kids):c≠j:=fun e=>by
 have hk:=(zBD hr).way_kid (n:=j) (k:=c) (by rw [zFq d];exact h)
 rw [e] at hk
 have:=congrArg iO hk
 simp at this
end
def zel (A:List Int) (d:Int) (h:Int->Node->Node) (j:Int) (w:Node):Node:=⟨(h j w).Kind,(h j w).Name,(h j w).Is,(h j w).Data,(h j w).Attrs,(h j w).Parent,(h j w).Kids,(h j w).Host,(h j w).Under,if A.contains j=true then d else (h j w).Doc⟩
def finN (f:Forest) (L:List Int) (p d:Int) (K M:List Int) (j:Int) (w:Node):Node:=⟨w.Kind,w.Name,w.Is,w.Data,w.Attrs,if M.contains j=true then p else if L.contains j=true then -1 else w.Parent,if j=p then K else w.Kids.filter (fun k => !(L.contains k)),w.Host,w.Under,if (M.any fun c=>(zGN f.Nodes c).contains j)=true then d else w.Doc⟩
def zS7 (w:Node) (p:Int):Node:=⟨w.Kind,w.Name,w.Is,w.Data,w.Attrs,p,w.Kids,w.Host,w.Under,w.Doc⟩
end
section
def zAR (n:Int) (x:Node):List Int:=if x.Kind=3 then x.Kids else [n]
theorem zPY {f:Forest} {n p a g:Int} {x y:Node} (h:zPX f n p a g x y true=0):zGI y.Kind=true/\zQI f n p=false/\x.Kind≠0/\x.Kind≠4/\(y.Kind=0->zGC f.Nodes p g (zAR n x)=false):=by
 unfold zPX at h
 rw [show (if x.Kind=3 then x.Kids else [n])=zAR n x from rfl] at h
 generalize zAR n x=L at h ⊢
 split at h
 ·cases h
 ·rename_i q
  split at h
  ·cases h
  ·rename_i r
   rw [iN (show ¬true=false by simp)] at h
   split at h
   ·cases h
   ·rename_i d
    refine ⟨by simpa using q,by simpa using r,fun e=>d (.inl e),fun e=>d (.inr e),fun o=>?_⟩
    rw [iP o] at h
    split at h
    ·cases h
    ·rename_i u;simpa using u
structure May (f:Forest) (n p:Int) (x y:Node):Prop where
 hx:idx f.Nodes n=some x
 hy:idx f.Nodes p=some y
 holder:zGI y.Kind=true
 over:zSK f.Nodes n p=false
 k0:x.Kind≠0
 k4:x.Kind≠4
 crowd:y.Kind=0->zGC f.Nodes p (-1) (zAR n x)=false
section
variable {f:Forest} {n p:Int} {x y:Node} (hr:zAG f=true) (M:May f n p x y)
include hr M
theorem May.np:n≠p:=fun e=>by
 have U:=zAN hr
 have d:InN f.Nodes n:=zAH M.hx
 have:=M.over
 rw [<- e,zKy.2 (U.wayU_self d)] at this
 cases this
theorem May.part {c:Int} (e:c∈zAR n x):∃z,idx f.Nodes c=some z/\(z.Kind=1\/z.Kind=2)/\n∈zH9 f.Nodes c:=by
 have U:=zAN hr
 have o:=(zAa hr).2.2.1
 have u:InN f.Nodes n:=zAH M.hx
 unfold zAR at e
 by_cases r:x.Kind=3
 ·rw [iP r] at e
  have d:=zBc o M.hx
  unfold zFd zEO at d
  simp only [lM,lR] at d
  have hk:=d.2.2.2.1.2.1 c e
  unfold zOe at hk
  have q:c∈zPW f.Nodes n:=by rw [zOu M.hx];exact cA.2 (.inr e)
  cases hz:idx f.Nodes c with
  | none=>rw [hz] at hk;cases hk
  | some z =>
   rw [hz] at hk
   simp only [lM,dD,beq_iff_eq] at hk
   refine ⟨z,rfl,hk.2.2.imp id And.left,?_⟩
   rw [U.wayU_kid q]
   exact lG _ (U.wayU_self u)
 ·rw [iN r,e8] at e
  subst e
  have d:=zBc o M.hx
  unfold zFd at d
  simp only [lM] at d
  have:=zTu d.1
  have:=M.k0
  have:=M.k4
  exact ⟨x,M.hx,by omega,U.wayU_self u⟩
theorem May.in_ {c:Int} (d:c∈zAR n x):InN f.Nodes c:=by
 obtain ⟨z,hz,_⟩:=May.part hr M d
 exact zAH hz
theorem May.nodup:(zAR n x).Nodup:=by
 unfold zAR
 split
 ·have:=(zBD hr).nod n
  rwa [zFq M.hx] at this
 ·simp
theorem May.free {c:Int} (d:c∈zAR n x):c∉zH9 f.Nodes p:=fun h=>by
 have U:=zAN hr
 have e:InN f.Nodes p:=zAH M.hy
 obtain ⟨z,hz,_,o⟩:=May.part hr M d
 have:=zKy.2 (U.wayU_trans e o h)
 rw [M.over] at this
 cases this
omit hr in
theorem May.len (hs:Small f):(zAR n x).length<=400:=by
 unfold zAR
 split
 ·exact hs.kids x (zEp M.hx)
 ·simp
theorem zZ2 {fu:Nat} (hs:Small f) (hfu:1000<fu) (D:child = -1\/child∈y.Kids) (q:zEa fu f n p child=some 0):∃b,zH5 fu f n p child=some b/\(b = -1\/(b∈y.Kids/\b∉zAR n x)):=by
 have S:=hs.kids y (zEp M.hy)
 have T:=zBD hr
 unfold zH5
 rw [q,bnd_some,zAO (by rfl),zAe]
 by_cases d:child=n
 ·rw [iP d]
  have N:InN f.Nodes n:=zAH M.hx
  have e:n∈y.Kids:=by
   rcases D with h | h
   ·rw [d] at h;exact absurd h N.ne
   ·rwa [d] at h
  obtain ⟨J,Q⟩:=zQY e
  have F:=zNu hr M.hy M.hx e
  have u:x.Kind≠3:=by
   have o:=zBc (zAa hr).2.2.1 M.hx
   unfold zFd zLX at o
   simp only [lM,dD,beq_iff_eq] at o
   have:=(zAH M.hy).1
   rcases o.2.2.1 with h | h
   ·omega
   ·have:=h.1;omega
  rw [M.hy,bnd_some,zVn (by omega) (by omega),bnd_some,J,zBL (by omega),bnd_some,zAM]
  by_cases E:((y.Kids.idxOf n+1:Nat):Int)>=(y.Kids.length:Int)
  ·rw [iP E];exact ⟨-1,rfl,.inl rfl⟩
  ·have hi:y.Kids.idxOf n+1<y.Kids.length:=by omega
   rw [iN E,zAQ hi,bnd_some]
   refine ⟨_,rfl,.inr ⟨gC hi,fun h=>?_⟩⟩
   unfold zAR at h
   rw [iN u,e8] at h
   have B:y.Kids.Nodup:=by have:=T.nod p;rwa [zFq M.hy] at this
   have:=B.idxOf_getElem _ hi
   rw [h] at this
   omega
 ·rw [iN d]
  refine ⟨child,rfl,D.imp id fun h=>⟨h,fun r=>?_⟩⟩
  unfold zAR at r
  split at r
  ·obtain ⟨z,hz⟩:=zAI (T.kid p child (by rw [zFq M.hy];exact h)).2.1
   have G:=zNu hr M.hy hz h
   have I:=zNu hr M.hx hz r
   exact May.np hr M (I.symm.trans G)
  ·exact d (e8.1 r)
end
end
section
def upF (ns:List Node):Nat->Int->List Int
 | 0,_=>[]
 | k+1,n=>n::(if upI ns n = -1 then [] else upF ns k (upI ns n))
theorem zUT {ns:List Node}:∀(k:Nat) (n:Int),zBZ ns k n=true->∀j,k<=j->upF ns j n=upF ns k n
 | 0,_,h,_,_=>by cases h
 | k+1,n,h,j,hj=>by
  obtain ⟨j,rfl⟩:∃e,j=e+1:=⟨j - 1,by omega⟩
  rw [zBZ,dD,beq_iff_eq] at h
  simp only [upF]
  by_cases d:upI ns n = -1
  ·rw [iP d,iP d]
  ·rw [iN d,iN d,zUT k _ (h.resolve_left d) j (by omega)]
theorem zU0 {ns:List Node}:∀(k:Nat) (n:Int),zBZ ns k n=true->zBZ ns (upF ns k n).length n=true
 | 0,_,h=>by cases h
 | k+1,n,h=>by
  rw [zBZ,dD,beq_iff_eq] at h
  simp only [upF,cP]
  rw [zBZ,dD,beq_iff_eq]
  by_cases d:upI ns n = -1
  ·exact .inl d
  ·rw [iN d]
   exact .inr (zU0 k _ (h.resolve_left d))
theorem zUz {ns:List Node} {n:Int} {k j:Nat} (h:zBZ ns k n=true) (d:k<=j):zBZ ns j n=true:=by
 induction d with
 | refl=>exact h
 | step _ e=>exact zLV _ _ e
theorem ze2 {ns:List Node} (K:Nat):∀(k:Nat) (n:Int),k<=K->zBZ ns k n=true->∀y∈upF ns k n,zBZ ns k y=true/\upF ns k y <:+ upF ns k n
 | 0,_,_,h,_,_=>by cases h
 | k+1,n,hK,h,y,hy=>by
  have o:=h
  rw [zBZ,dD,beq_iff_eq] at o
  simp only [upF] at hy
  rcases lD.1 hy with rfl | hy
  ·exact ⟨h,jF _⟩
  ·by_cases d:upI ns n = -1
   ·rw [iP d] at hy;simp at hy
   ·rw [iN d] at hy
    obtain ⟨e,q⟩:=ze2 K k _ (by omega) (o.resolve_left d) y hy
    refine ⟨zLV _ _ e,?_⟩
    rw [zUT k y e (k+1) (by omega)]
    have:upF ns (k+1) n=n::upF ns k (upI ns n):=by simp only [upF];rw [iN d]
    rw [this]
    exact q.trans (jG _ _)
theorem zYb {ns:List Node}:∀(k:Nat) (n:Int),zBZ ns k n=true->(upF ns k n).Nodup
 | 0,_,h=>by cases h
 | k+1,n,h=>by
  rw [zBZ,dD,beq_iff_eq] at h
  by_cases d:upI ns n = -1
  ·simp only [upF];rw [iP d];simp
  ·have q:=h.resolve_left d
   have e:upF ns (k+1) n=n::upF ns k (upI ns n):=by simp only [upF];rw [iN d]
   rw [e,lS]
   refine ⟨fun hm=>?_,zYb k _ q⟩
   obtain ⟨r,o⟩:=ze2 k k _ (cB _) q n hm
   rw [<- zUT k n r (k+1) (by omega),e] at o
   have:=o.length_le
   simp at this
   omega
theorem up_in {ns:List Node} (d:Ups ns):∀(k:Nat) (n:Int),InN ns n->∀y∈upF ns k n,InN ns y
 | 0,_,_,_,hy=>by simp [upF] at hy
 | k+1,n,hn,y,hy=>by
  simp only [upF] at hy
  rcases lD.1 hy with rfl | hy
  ·exact hn
  ·split at hy
   ·simp at hy
   ·rename_i e
    obtain ⟨x,hx⟩:=zAI hn
    rcases d n x hx with h | ⟨z,hz⟩
    ·exact absurd h e
    ·exact up_in d k _ (zAH hz) y hy
theorem zWe {ns:List Node} (e:Ups ns) {n:Int} (d:InN ns n) {K:Nat} (h:zBZ ns K n=true):zBZ ns ns.length n=true :=
 zUz (zU0 K n h) (zMU _ _ (zYb K n h) (up_in e K n d))
end
section
def dB (f:Forest) (L:List Int) (j:Int):Bool:=L.any fun c=>(zGN f.Nodes c).contains j
section
variable {f g:Forest} {n p:Int} {x y:Node} {K:List Int} (hr:zAG f=true) (M:May f n p x y) (H:At f.Nodes g.Nodes (finN f (zAR n x) p y.Doc K (zAR n x))) (hK:K.Perm (y.Kids.filter (fun k => !((zAR n x).contains k))++zAR n x)) (hm:g.Most=f.Most)
include hr M
theorem zU2 (o:InN f.Nodes j):dB f (zAR n x) j=true↔∃c∈zAR n x,c∈zH9 f.Nodes j:=by
 have U:=zAN hr
 unfold dB
 rw [dN]
 refine exists_congr fun c=>and_congr_right fun e=>?_
 have d:=May.in_ hr M e
 rw [e7]
 exact ⟨fun h=>(U.all_in c d j h).2,fun h=>U.mem_all d j o h⟩
theorem zaM (d:j∈zAR n x):dB f (zAR n x) j=true:=(zU2 hr M (May.in_ hr M d)).2 ⟨j,d,(zAN hr).wayU_self (May.in_ hr M d)⟩
theorem zff {q:Int} (d:InN f.Nodes j) (B:j∉zAR n x) (r:upI f.Nodes j=q) (u:q ≠ -1):dB f (zAR n x) j=dB f (zAR n x) q:=by
 have U:=zAN hr
 have o:InN f.Nodes q:=by have:=(U.par j d (by rw [r];exact u)).1;rwa [r] at this
 rw [eW,zU2 hr M d,zU2 hr M o,U.wayU_eq d,r,iN u]
 refine exists_congr fun c=>and_congr_right fun D=>?_
 exact ⟨fun h=>(lD.1 h).resolve_left fun e=>B (e▸D),lG _⟩
theorem dB_top (d:InN f.Nodes j) (o:j∉zAR n x) (r:upI f.Nodes j = -1):dB f (zAR n x) j=false:=by
 have U:=zAN hr
 cases h:dB f (zAR n x) j with
 | false=>rfl
 | true =>
  obtain ⟨c,q,e⟩:=(zU2 hr M d).1 h
  rw [U.wayU_eq d,iP r,e8] at e
  exact absurd (e▸q) o
theorem dB_p:dB f (zAR n x) p=false:=by
 cases h:dB f (zAR n x) p with
 | false=>rfl
 | true =>
  obtain ⟨c,d,e⟩:=(zU2 hr M (zAH M.hy)).1 h
  exact absurd e (May.free hr M d)
include H
omit hr M in
theorem zKo (e:idx f.Nodes j=some w):∃v,idx g.Nodes j=some v/\v.Kind=w.Kind/\v.Host=w.Host/\v.Under=w.Under/\zHP v=zHP w/\v.Parent=(if j∈zAR n x then p else w.Parent)/\v.Kids=(if j=p then K else w.Kids.filter (fun k => !((zAR n x).contains k)))/\v.Doc=(if dB f (zAR n x) j=true then y.Doc else w.Doc):=by
 refine ⟨_,H.at_ j w e,rfl,rfl,rfl,rfl,?_,rfl,rfl⟩
 simp only [finN]
 by_cases h:j∈zAR n x
 ·rw [iP h,iP (e7.2 h)]
 ·rw [iN h,iN fun d=>h (e7.1 d),iN fun d=>h (e7.1 d)]
omit hr M in
theorem zRN {k:Int}:isB g.Nodes j k=isB f.Nodes j k:=by
 cases e:idx f.Nodes j with
 | none =>
  have:idx g.Nodes j=none:=by
   by_cases h:0<=j/\j<g.Nodes.length
   ·rw [H.len] at h
    obtain ⟨w,d⟩:=zAI h
    rw [e] at d;cases d
   ·exact zCW h
  unfold isB;rw [this,e]
 | some w =>
  obtain ⟨v,o,q,_⟩:=zKo H e
  unfold isB;rw [o,e];simp only [q]
omit hr in
theorem zak (r:InN f.Nodes j):upI g.Nodes j=if j∈zAR n x then p else upI f.Nodes j:=by
 obtain ⟨w,d⟩:=zAI r
 obtain ⟨v,e,_,o,_,_,q,_⟩:=zKo H d
 rw [zG1 e,zG1 d,o,q]
 by_cases h:j∈zAR n x
 ·rw [iP h,iP h,iN (InN.ne (zAH M.hy))]
 ·rw [iN h,iN h]
include hK
omit hr M H in
theorem zcl {k:Int}:k∈K↔(k∈y.Kids/\k∉zAR n x)\/k∈zAR n x:=by
 rw [hK.mem_iff,cA,iJ]
 refine or_congr (and_congr_right fun _=>?_) Iff.rfl
 cases h:(zAR n x).contains k with
 | true=>simp [e7.1 h]
 | false =>
  have:k∉zAR n x:=fun d=>by rw [e7.2 d] at h;cases h
  simp [this]
omit hr M hK in
theorem zai {k:Int} {u v z:Node} (D:idx f.Nodes j=some w) (r:idx f.Nodes k=some u) (B:idx g.Nodes j=some v) (hz:idx g.Nodes k=some z) (q:dB f (zAR n x) k=dB f (zAR n x) j) (h:u.Doc=w.Doc):z.Doc=v.Doc:=by
 obtain ⟨F,d,_,_,_,_,_,_,o⟩:=zKo H D
 obtain ⟨G,e,_,_,_,_,_,_,E⟩:=zKo H r
 rw [B] at d;rw [hz] at e
 obtain rfl:=lJ.inj d
 obtain rfl:=lJ.inj e
 rw [o,E,q,h]
theorem zdE {v:Node} (F:idx f.Nodes j=some w) (hv:idx g.Nodes j=some v):zFd g.Nodes j v=true:=by
 have T:=zBD hr
 have hns:=(zAa hr).2.2.1
 have W:InN f.Nodes j:=zAH F
 have hpi:InN f.Nodes p:=zAH M.hy
 obtain ⟨v',g1,g2,g3,g4,g5,g6,g7,g8⟩:=zKo H F
 rw [hv] at g1
 obtain rfl:=lJ.inj g1
 have hwn:=zBc hns F
 have hyn:=zBc hns M.hy
 unfold zFd at hwn hyn
 simp only [lM] at hwn hyn
 obtain ⟨n1,n2,n3,n4,D,n6⟩:=hwn
 obtain ⟨y1,y2,y3,y4,y5,y6⟩:=hyn
 have hpd:∀vp,idx g.Nodes p=some vp->vp.Doc=y.Doc:=fun vp hvp=>by
  obtain ⟨v'',o,_,_,_,_,_,_,q8⟩:=zKo H M.hy
  rw [hvp] at o
  obtain rfl:=lJ.inj o
  rw [q8,dB_p hr M];rfl
 have hbears:=n4
 unfold zEO at n4
 simp only [lM,decide_eq_true_eq,lR] at n4
 obtain ⟨b1,b2,b3,b4⟩:=n4
 have E:∀k∈w.Kids,k∉zAR n x->zOe g.Nodes j v k=true:=fun k hk r=>by
  have d:=b2 k hk
  unfold zOe at d ⊢
  cases X:idx f.Nodes k with
  | none=>rw [X] at d;cases d
  | some u =>
   rw [X] at d
   obtain ⟨z,o,N,_,_,_,q6,_⟩:=zKo H X
   rw [o]
   simp only [lM,dD,beq_iff_eq,bne_iff_ne] at d ⊢
   have I:upI f.Nodes k=j:=by rw [zG1 X,d.1,iN W.ne]
   refine ⟨by rw [q6,iN r];exact d.1,zai H F X hv o (zff hr M (zAH X) r I W.ne) d.2.1,?_⟩
   rw [N,g2];exact d.2.2
 unfold zFd
 simp only [lM]
 refine ⟨by rw [g5];exact n1,?_,?_,?_,?_,?_⟩
 ·unfold zLo at n2 y2 ⊢
  rw [zRN H,g2,g8]
  simp only [lM,dD,bne_iff_ne,beq_iff_eq] at n2 y2 ⊢
  by_cases Q:w.Kind=0
  ·have S:j∉zAR n x:=fun h=>by
    obtain ⟨z,hz,hk,_⟩:=May.part hr M h
    rw [F] at hz
    obtain rfl:=lJ.inj hz
    omega
   have I:upI f.Nodes j = -1:=by
    have G:w.Parent = -1:=by
     unfold zLX at n3
     simp only [lM,dD,beq_iff_eq] at n3
     rcases n3 with h | ⟨h | h,_⟩
     ·exact h
     ·omega
     ·omega
    rw [zG1 F,iP G]
    unfold zNs at D
    rw [iN (by omega)] at D
    exact beq_iff_eq.1 D
   rw [dB_top hr M W S I]
   exact n2
  ·refine ⟨?_,.inl Q⟩
   split
   ·exact y2.1
   ·exact n2.1
 ·unfold zLX at n3 ⊢
  rw [g2,g6]
  by_cases S:j∈zAR n x
  ·rw [iP S]
   obtain ⟨z,hz,hk,_⟩:=May.part hr M S
   rw [F] at hz
   obtain rfl:=lJ.inj hz
   obtain ⟨vp,o,N,_,_,_,_,q7,_⟩:=zKo H M.hy
   rw [o]
   simp only [N,q7,dD,lM,beq_iff_eq]
   exact .inr ⟨hk,M.holder,e7.2 ((zcl hK).2 (.inr S))⟩
  ·rw [iN S]
   simp only [dD,lM] at n3 ⊢
   refine n3.imp id fun ⟨k1,J⟩=>⟨k1,?_⟩
   cases hp:idx f.Nodes w.Parent with
   | none=>rw [hp] at J;cases J
   | some q =>
    rw [hp] at J
    obtain ⟨q',o,N,_,_,_,_,q7,_⟩:=zKo H hp
    rw [o]
    simp only [N,q7]
    simp only [lM] at J ⊢
    refine ⟨J.1,?_⟩
    have hjq:=e7.1 J.2
    split
    ·rename_i hpp
     rw [hpp,M.hy] at hp
     obtain rfl:=lJ.inj hp
     exact e7.2 ((zcl hK).2 (.inl ⟨hjq,S⟩))
    ·rw [e7,iJ]
     refine ⟨hjq,?_⟩
     cases h:(zAR n x).contains j with
     | false=>rfl
     | true=>exact absurd (e7.1 h) S
 ·unfold zEO
  simp only [lM,decide_eq_true_eq,lR]
  rw [g2]
  by_cases hjp:j=p
  ·subst hjp
   rw [M.hy] at F
   obtain rfl:=lJ.inj F
   rw [iP rfl] at g7
   have hcr:y.Kind=0->zBE f.Nodes (zAR n x)=0/\zDv f.Nodes (-1) (zAR n x) 2=0\/zBE f.Nodes (zAR n x)+zBE f.Nodes y.Kids<=1/\zDv f.Nodes (-1) (zAR n x) 2=0:=fun Q=>by
    have hc:=M.crowd Q
    have me:∀l,zDv f.Nodes (-1) l 1=zBE f.Nodes l:=fun l=>by
     unfold zDv zBE
     refine iF fun k _=>?_
     simp only [lM,bne_iff_ne]
     exact ⟨And.right,fun h=>⟨zTs h,h⟩⟩
    unfold zGC at hc
    rw [M.hy] at hc
    simp only [me] at hc
    simp only [iY,jN,decide_eq_false_iff_not] at hc
    rcases hc.2 with h | h
    ·exact .inl ⟨by omega,by omega⟩
    ·exact .inr ⟨by omega,by omega⟩
   refine ⟨?_,fun k hk=>?_,by rw [M.holder];rfl,?_⟩
   ·rw [g7,hK.nodup_iff,dM]
    refine ⟨b1.sublist iX,May.nodup hr M,fun a ha b hb e=>?_⟩
    subst e
    rw [iJ] at ha
    rw [e7.2 hb] at ha
    cases ha.2
   ·rw [g7,zcl hK] at hk
    rcases hk with ⟨h1,h2⟩ | r
    ·exact E k h1 h2
    ·obtain ⟨u,X,huk,_⟩:=May.part hr M r
     obtain ⟨z,o,N,_,_,_,q6,_,q8⟩:=zKo H X
     unfold zOe
     rw [o]
     simp only [lM,dD,beq_iff_eq,bne_iff_ne]
     refine ⟨by rw [q6,iP r],by rw [q8,zaM hr M r,iP rfl,hpd v hv],?_⟩
     rw [N,g2]
     by_cases Q:y.Kind=0
     ·refine .inl (huk.resolve_right fun h2=>?_)
      have hz2:zDv f.Nodes (-1) (zAR n x) 2=0:=(hcr Q).elim And.right And.right
      unfold zDv at hz2
      rw [List.countP_eq_zero] at hz2
      refine hz2 k r ?_
      have hb:isB f.Nodes k 2=true:=by unfold isB;rw [X];exact beq_iff_eq.2 h2
      rw [hb,Bool.and_true]
      exact bne_iff_ne.2 (zTs hb)
     ·exact huk.imp id fun h=>⟨h,Q⟩
   ·rw [dD]
    by_cases Q:y.Kind=0
    ·right
     have e:zBE g.Nodes v.Kids=zBE f.Nodes (y.Kids.filter (fun k => !((zAR n x).contains k)))+zBE f.Nodes (zAR n x):=by
      unfold zBE
      rw [g7,hK.countP_eq,jE]
      exact congr (congrArg _ (iF fun k _=>by rw [zRN H])) (iF fun k _=>by rw [zRN H])
     have hle:zBE f.Nodes (y.Kids.filter (fun k => !((zAR n x).contains k)))<=zBE f.Nodes y.Kids:=iX.countP_le
     have h4:zBE f.Nodes y.Kids<=1:=by
      simp only [dD,decide_eq_true_eq] at b4
      exact b4.resolve_left (by simp [Q])
     refine decide_eq_true ?_
     rw [e]
     rcases hcr Q with h | h
     ·omega
     ·omega
    ·left;exact bne_iff_ne.2 Q
  ·rw [iN hjp] at g7
   have B:v.Kids.Sublist w.Kids:=by rw [g7];exact iX
   refine ⟨b1.sublist B,fun k hk=>?_,?_,?_⟩
   ·rw [g7,iJ] at hk
    exact E k hk.1 fun h=>by rw [e7.2 h] at hk;cases hk.2
   ·simp only [dD,decide_eq_true_eq] at b3 ⊢
    refine b3.imp id fun h=>?_
    have:=B.length_le
    omega
   ·simp only [dD,decide_eq_true_eq] at b4 ⊢
    refine b4.imp id fun h=>?_
    have e:zBE g.Nodes v.Kids=zBE f.Nodes v.Kids:=by
     unfold zBE
     exact iF fun k _=>by rw [zRN H]
    have:=B.countP_le (p:=fun k=>isB f.Nodes k 1)
    rw [e]
    unfold zBE at h ⊢
    omega
 ·unfold zNs at D ⊢
  rw [g2,g3]
  by_cases hk:w.Kind=4
  ·rw [iP hk] at D ⊢
   cases V:idx f.Nodes w.Host with
   | none=>rw [V] at D;cases D
   | some h =>
    rw [V] at D
    obtain ⟨u',o,N,_,q4,_⟩:=zKo H V
    rw [o]
    simp only [lM,beq_iff_eq] at D ⊢
    have S:j∉zAR n x:=fun h=>by
     obtain ⟨z,hz,hk',_⟩:=May.part hr M h
     rw [F] at hz
     obtain rfl:=lJ.inj hz
     omega
    have G:w.Parent = -1:=by
     unfold zLX at n3
     simp only [lM,dD,beq_iff_eq] at n3
     rcases n3 with h | ⟨h | h,_⟩
     ·exact h
     ·omega
     ·omega
    have hhi:InN f.Nodes w.Host:=zAH V
    have I:upI f.Nodes j=w.Host:=by rw [zG1 F,iP G]
    exact ⟨by rw [N];exact D.1,by rw [q4];exact D.2.1,zai H F V hv o (zff hr M W S I hhi.ne).symm D.2.2⟩
  ·rw [iN hk] at D ⊢;exact D
 ·unfold zK2 at n6 ⊢
  rw [g2,g4]
  simp only [dD,lM] at n6 ⊢
  refine n6.imp id fun ⟨k1,J⟩=>⟨k1,?_⟩
  cases V:idx f.Nodes w.Under with
  | none=>rw [V] at J;cases J
  | some h =>
   rw [V] at J
   obtain ⟨u',o,N,q3,_⟩:=zKo H V
   rw [o]
   simp only [N,q3]
   exact J
include hm
theorem zaj:zAG g=true:=by
 have o:=H.len
 have e:zHQ g.Nodes=true:=by
  rw [zSp]
  intro j v N
  have I:InN f.Nodes j:=by have:=zAH N;rw [o] at this;exact this
  obtain ⟨w,W⟩:=zAI I
  exact zdE hr M H hK W N
 have F:=zKv e
 have d:=zAa hr
 have hfu:=zKv d.2.2.1
 have E:InN f.Nodes p:=zAH M.hy
 -- whoever isn't below a part goes up as before
 have free:∀(k:Nat) (j:Int),InN f.Nodes j->dB f (zAR n x) j=false->zBZ f.Nodes k j=true->zBZ g.Nodes k j=true:=by
  intro k
  induction k with
  | zero=>intro j _ _ h;cases h
  | succ k J =>
   intro j r G h
   have B:j∉zAR n x:=fun Q=>by rw [zaM hr M Q] at G;cases G
   rw [zBZ,dD,beq_iff_eq] at h ⊢
   rw [zak M H r,iN B]
   rcases h with h | h
   ·exact .inl h
   ·by_cases u:upI f.Nodes j = -1
    ·exact .inl u
    ·exact .inr (J _ ((zAN hr).par j r u).1 (by rw [<- zff hr M r B rfl u];exact G) h)
 have S:zBZ g.Nodes f.Nodes.length p=true:=free _ p E (dB_p hr M) (zNq d.2.2.2 E)
 have all:∀(k:Nat) (j:Int),InN f.Nodes j->zBZ f.Nodes k j=true->zBZ g.Nodes (k+f.Nodes.length) j=true:=by
  intro k
  induction k with
  | zero=>intro j _ h;cases h
  | succ k J =>
   intro j r h
   rw [zBZ,dD,beq_iff_eq] at h
   rw [show k+1+f.Nodes.length=(k+f.Nodes.length)+1 by omega,zBZ,dD,beq_iff_eq,zak M H r]
   by_cases B:j∈zAR n x
   ·rw [iP B]
    exact .inr (zUz S (by omega))
   ·rw [iN B]
    rcases h with h | h
    ·exact .inl h
    ·by_cases u:upI f.Nodes j = -1
     ·exact .inl u
     ·exact .inr (J _ ((zAN hr).par j r u).1 h)
 have q:zPG g.Nodes=true:=by
  unfold zPG
  rw [lR]
  intro i hi
  have hi:i<g.Nodes.length:=by simpa using hi
  have D:InN f.Nodes (i:Int):=⟨by omega,by rw [o] at hi;omega⟩
  exact zWe F ⟨by omega,by omega⟩ (all _ _ D (zNq d.2.2.2 D))
 have V:=hr
 unfold zAG at hr ⊢
 simp only [lM,decide_eq_true_eq] at hr ⊢
 rw [hm,o,zRN H]
 exact ⟨hr.1,hr.2.1,hr.2.2.1,hr.2.2.2.1,hr.2.2.2.2.1,e,q⟩
end
end
section
theorem zKM {l:List α} {m:List α} {n:Int} {x : α} (h:idx l n=some x):idx (l++m) n=some x:=by
 have hr:=zAH h
 unfold idx at h ⊢
 rw [iP hr.1] at h ⊢
 rw [lN (by omega),h]
theorem zXt (l:List α) (x : α):idx (l++[x]) (l.length:Int)=some x:=by
 rw [zNt];simp
theorem zWu {ns:List Node} {n k:Int} (h:isB ns n k=true):isB (ns++m) n k=true:=by
 unfold isB at h ⊢
 cases hx:idx ns n with
 | none=>rw [hx] at h;cases h
 | some x=>rw [hx] at h;rw [zKM hx];exact h
theorem zXw {ns:List Node} {n k:Int} {x:Node} (h:idx ns n=some x):isB (ns++m) n k=isB ns n k:=by
 unfold isB;rw [zKM h,h]
theorem zdO {ns:List Node} {n k:Int} {x:Node} (h:zOe ns n x k=true):zOe (ns++m) n x k=true:=by
 unfold zOe at h ⊢
 cases hx:idx ns k with
 | none=>rw [hx] at h;cases h
 | some y=>rw [hx] at h;rw [zKM hx];exact h
theorem zbM {ns:List Node} {n:Int} {x:Node} (h:zFd ns n x=true):zFd (ns++m) n x=true:=by
 unfold zFd at h ⊢
 simp only [lM] at h ⊢
 obtain ⟨I,u,D,E,o,F⟩:=h
 refine ⟨I,?_,?_,?_,?_,?_⟩
 ·unfold zLo at u ⊢
  simp only [lM] at u ⊢
  exact ⟨zWu u.1,u.2⟩
 ·unfold zLX at D ⊢
  simp only [dD,lM] at D ⊢
  refine D.imp id fun ⟨r,d⟩=>⟨r,?_⟩
  cases q:idx ns x.Parent with
  | none=>rw [q] at d;cases d
  | some p=>rw [q] at d;rw [zKM q];exact d
 ·unfold zEO at E ⊢
  simp only [lM,lR] at E ⊢
  obtain ⟨r,d,J,B⟩:=E
  refine ⟨r,fun k hk=>zdO (d k hk),J,?_⟩
  have e:zBE (ns++m) x.Kids=zBE ns x.Kids:=by
   unfold zBE
   refine iF fun k hk=>?_
   have:=d k hk
   unfold zOe at this
   cases hy:idx ns k with
   | none=>rw [hy] at this;cases this
   | some y=>rw [zXw hy]
  rw [e];exact B
 ·unfold zNs at o ⊢
  by_cases hk:x.Kind=4
  ·rw [iP hk] at o ⊢
   cases G:idx ns x.Host with
   | none=>rw [G] at o;cases o
   | some y=>rw [G] at o;rw [zKM G];exact o
  ·rw [iN hk] at o ⊢;exact o
 ·unfold zK2 at F ⊢
  simp only [dD,lM] at F ⊢
  refine F.imp id fun ⟨r,d⟩=>⟨r,?_⟩
  cases q:idx ns x.Under with
  | none=>rw [q] at d;cases d
  | some p=>rw [q] at d;rw [zKM q];exact d
theorem zb5 {ns:List Node} {n:Int} (h:InN ns n):upI (ns++m) n=upI ns n:=by
 obtain ⟨x,hx⟩:=zAI h
 unfold upI
 rw [zKM hx,hx]
theorem zSV {ns m:List Node} (d:Ups ns):∀(k:Nat) (n:Int),InN ns n->zBZ ns k n=true->zBZ (ns++m) k n=true
 | 0,_,_,h=>by cases h
 | k+1,n,hn,h=>by
  simp only [zBZ,dD,beq_iff_eq] at h ⊢
  rw [zb5 hn]
  rcases h with h | h
  ·exact .inl h
  ·obtain ⟨x,hx⟩:=zAI hn
   rcases d n x hx with e | ⟨y,hy⟩
   ·exact .inl e
   ·exact .inr (zSV d k _ (zAH hy) h)
def zZI (f:Forest) (x:Node):Node:=⟨x.Kind,x.Name,x.Is,x.Data,x.Attrs,-1,[],-1,-1,if x.Kind=0 then (f.Nodes.length:Int) else x.Doc⟩
def zbI (f:Forest) (x:Node):Bool:=zHP (zZI f x)&&(x.Kind != 4&&(x.Kind==0||isB f.Nodes x.Doc 0))
theorem zVj {f:Forest} {x:Node} (hr:zAG f=true) (hx:zbI f x=true) (hm:(f.Nodes.length:Int)≠f.Most):zAG ⟨f.Nodes++[zZI f x],f.Most⟩=true:=by
 unfold zAG at hr ⊢
 simp only [lM,decide_eq_true_eq] at hr ⊢
 obtain ⟨q,r,G,I,u,o,B⟩:=hr
 unfold zbI at hx
 simp only [lM,dD,beq_iff_eq,bne_iff_ne] at hx
 obtain ⟨D,E,F⟩:=hx
 refine ⟨q,r,by simp,by simp;omega,zWu u,?_,?_⟩
 ·unfold zHQ
  rw [lR]
  intro i hi
  simp only [jO,eR,cP,eK] at hi
  by_cases e:i<f.Nodes.length
  ·have hx:=zAQ e
   rw [lN e,lC e]
   exact zbM (zBc o hx)
  ·obtain rfl:i=f.Nodes.length:=by omega
   rw [List.getElem?_append_right (by omega),Nat.sub_self]
   show zFd _ _ (zZI f x)=true
   unfold zFd
   simp only [lM]
   refine ⟨D,?_,rfl,?_,?_,rfl⟩
   ·unfold zLo zZI
    simp only [lM,dD,beq_iff_eq,bne_iff_ne]
    by_cases hk:x.Kind=0
    ·rw [iP hk]
     refine ⟨?_,.inr rfl⟩
     unfold isB
     rw [zXt]
     simpa using hk
    ·rw [iN hk]
     exact ⟨zWu (F.resolve_left hk),.inl hk⟩
   ·unfold zEO zZI zBE
    simp
   ·unfold zNs zZI
    rw [iN E];rfl
 ·unfold zPG
  rw [lR]
  intro i hi
  simp only [jO,eR,cP,eK] at hi
  rw [show (f.Nodes++[zZI f x]).length=f.Nodes.length+1 by simp]
  by_cases e:i<f.Nodes.length
  ·have d:InN f.Nodes (i:Int):=⟨by omega,by omega⟩
   exact zLV _ _ (zSV (zKv o) _ _ d (zNq B d))
  ·obtain rfl:i=f.Nodes.length:=by omega
   rw [zBZ,dD]
   refine .inl ?_
   unfold upI
   rw [zXt];rfl
theorem zWP {fu:Nat} (h:l.length<=1000):zAb fu l=some l:=by
 unfold zAb
 rw [zAc (by simp;omega),bnd_some,iU]
theorem zJb {fu:Nat} {l:List Node} (h:l.length<=1000):zAn fu l=some l:=by
 unfold zAn
 rw [zAc (by simp;omega),bnd_some,iU]
theorem za9 {f:Forest} {fu:Nat} {x:Node} (hfu:1000<fu) (hk:zEU fu f.Nodes) (ha:x.Attrs.length<=1000):zDF fu f x=some (if zAG f=true/\zbI f x=true then (if (f.Nodes.length:Int)=f.Most then (f,-1,8) else (⟨f.Nodes++[zZI f x],f.Most⟩,(f.Nodes.length:Int),0)) else (f,-1,1)):=by
 have q:∀d:Int,d=(if x.Kind=0 then (f.Nodes.length:Int) else x.Doc)->zGP fu f x ⟨x.Kind,[],[],[],[],-1,[],-1,-1,x.Doc⟩ d=some (if zAG f=true/\zbI f x=true then (if (f.Nodes.length:Int)=f.Most then (f,-1,8) else (⟨f.Nodes++[zZI f x],f.Most⟩,(f.Nodes.length:Int),0)) else (f,-1,1)):=fun d B=>by
  unfold zGP
  rw [zWP ha,bnd_some,zRw (v:=⟨⟨f.Nodes,f.Most⟩⟩) hfu hk,bnd_some]
  cases hr:zAG f with
  | false=>rw [iN (by simp)];rfl
  | true =>
   have D:=(zAa hr).2.1
   rw [iA,cnd_false,zSn (by omega),bnd_some]
   have G:(⟨x.Kind,x.Name,x.Is,x.Data,x.Attrs,-1,[],-1,-1,d⟩:Node)=zZI f x:=by rw [B];rfl
   simp only
   rw [G]
   have o:zbI f x=(zHP (zZI f x)&&(x.Kind != 4&&(x.Kind==0||isB f.Nodes x.Doc 0))):=rfl
   cases E:zHP (zZI f x) with
   | false =>
    rw [E] at o
    rw [iN (fun h=>by rw [o] at h;exact absurd h.2 (by simp))];rfl
   | true =>
    rw [E,iD] at o
    rw [iA,cnd_false,zAd,zJb (by omega),bnd_some,zAc (by simp;omega),bnd_some]
    by_cases r:x.Kind=4
    ·rw [iP r,iN (fun h=>by rw [o] at h;exact absurd h.2 (by simp [r]))]
    ·have F:(x.Kind != 4)=true:=bne_iff_ne.2 r
     rw [F,iD] at o
     rw [iN r,zAe,zAd]
     by_cases e:x.Kind=0
     ·have u:zbI f x=true:=by rw [o,e];rfl
      rw [iP e,iP (show True/\zbI f x=true from ⟨trivial,u⟩)]
      split<;>rfl
     ·have u:(x.Kind==0)=false:=beq_eq_false_iff_ne.2 e
      rw [u,e9] at o
      rw [iN e,zdN,bnd_some]
      simp only
      rw [B,iN e]
      cases hi:isB f.Nodes x.Doc 0 with
      | false=>rw [jL,cnd_true,iN (show ¬(True/\zbI f x=true) from fun h=>by rw [o,hi] at h;exact absurd h.2 (by simp))]
      | true =>
       rw [iA,cnd_false,iP (show True/\zbI f x=true from ⟨trivial,o.trans hi⟩)]
       split<;>rfl
 unfold zDF zIv
 rw [bnd_some,zAd]
 by_cases e:x.Kind=0
 ·rw [iP e];exact q _ (by rw [iP e])
 ·rw [iN e];exact q _ (by rw [iN e])
end
section
theorem zVQ {x:Node} (h:zHP x=true):x.Attrs.length<=40/\x.Name.length<=40:=by
 unfold zHP at h
 split at h
 ·simp only [lM] at h
  have d:=h.2.2.2
  unfold zGk at d
  simp only [lM,decide_eq_true_eq] at d
  have e:=h.1
  unfold zWl zFb at e
  simp only [lM,decide_eq_true_eq] at e
  exact ⟨d.1,e.1.1.1.2⟩
 ·split at h
  ·simp only [lM,beq_iff_eq,decide_eq_true_eq] at h
   exact ⟨by omega,by rw [h.2.1];simp⟩
  ·split at h
   ·simp only [lM,beq_iff_eq,decide_eq_true_eq] at h
    exact ⟨by omega,by rw [h.1];simp⟩
   ·cases h
theorem zAE {f:Forest} (hr:zAG f=true):Small f:=by
 have h:=zAa hr
 have at_:∀x∈f.Nodes,x.Kids.length<=400/\x.Attrs.length<=40/\x.Name.length<=40:=fun x hx=>by
  obtain ⟨i,hi,e⟩:=iW hx
  have d:idx f.Nodes (i:Int)=some x:=by rw [zAQ hi,e]
  have o:=zBc h.2.2.1 d
  unfold zFd at o
  simp only [lM] at o
  have q:=o.2.2.2.1
  unfold zEO at q
  simp only [lM,decide_eq_true_eq] at q
  have:=zMU f.Nodes.length x.Kids q.1 fun k hk=>by
   obtain ⟨y,hy⟩:=zJA h.2.2.1 d k hk
   exact zAH hy
  have r:=zVQ o.1
  exact ⟨by omega,r⟩
 exact ⟨h.2.1,fun x hx=>(at_ x hx).1,fun x hx=>by have:=(at_ x hx).2.1;omega,fun x hx=>by have:=(at_ x hx).2.2;omega⟩
def zJf (ns:List Node):List (Node×Bool):=ns.map fun x=>(x,true)
theorem zLb (ns:List Node):(zJf ns).map Prod.fst=ns:=by simp [zJf,Function.comp_def]
theorem zdg {ns:List Node} {n:Int}:idx (zJf ns) n=(idx ns n).map fun x=>(x,true):=by
 unfold idx zJf
 split<;>simp
theorem zGL {ns:List Node} {n:Int} {x:Node} (h:idx ns n=some x):idx (zJf ns) n=some (x,true):=by rw [zdg,h];rfl
theorem zMw {ns:List Node} {x:Node}:(zJf ns).set i (x,true)=zJf (ns.set i x):=by unfold zJf;rw [dK]
theorem zU1 {fu:Nat} {l:List Int} (h:l.length<=1000000):zBW fu l=some l:=by
 unfold zBW
 rw [zAc (by simp;omega),bnd_some,iU]
theorem zSu {f:Forest} {fu:Nat} (hs:Small f) (hfu:1000<fu):zKY fu f=some ((),f.Most,zJf f.Nodes,[]):=by
 have r:=hs.few
 unfold zKY
 rw [zJb (by omega),bnd_some]
 have q:(f.Nodes.map fun x=>(x,false)).length=f.Nodes.length:=by simp
 have:=upf (L:=zHg fu f f.Nodes) (f:=fun i=>((i:Int),mix (fun p:Node×Bool=>(p.1,true)) (f.Nodes.map fun x=>(x,false)) i)) (v:=some ((),f.Most,zJf f.Nodes,[])) f.Nodes.length (fun i hi k=>?_) (fun k=>?_) (show f.Nodes.length<fu by omega)
 ·rw [zX4] at this
  exact this
 ·have o:i<(f.Nodes.map fun x=>(x,false)).length:=by rw [q];exact hi
  have hm:=zbD (fun p:Node×Bool=>(p.1,true)) o
  simp only [zHg]
  rw [zAP (by simpa using hi),hm,bnd_some,jP]
  rw [show zPo (f.Nodes[i],false).2=some () from rfl,bnd_some,zU1 (by have:=hs.kids _ (gC hi);simp only;omega),bnd_some,bnd_some,zBL (by omega),bnd_some]
  have d:=zTx (fun p:Node×Bool=>(p.1,true)) o
  rw [jP] at d
  rw [<- d]
 ·simp only [zHg]
  rw [zAO (by simp)]
  have e:=zbE (fun p:Node×Bool=>(p.1,true)) (f.Nodes.map fun x=>(x,false))
  rw [q] at e
  rw [e,iZ]
  rfl
def zRe (x:Note) (k:Int):Note:=⟨x.Kind,k,x.From,x.To,x.Name,x.Had,x.Has,x.Old,x.New⟩
theorem tell_l {fu:Nat} {x:Note} {ks:List Int} {l:List Note} {c:Int} (e:ks.length<fu) (o:l.length+ks.length<=1000000000):zCo x ks fu (0,c,l)=some (l++ks.map (zRe x)):=by
 have:=upf (L:=zCo x ks) (f:=fun i=>((i:Int),(ks.take i).getLastD c,l++(ks.take i).map (zRe x))) (v:=some (l++ks.map (zRe x))) ks.length (fun i hi k=>?_) (fun k=>?_) e
 ·simpa using this
 ·simp only [zCo]
  rw [zAP (by simpa using hi),zAQ hi,bnd_some,zAc (by simp;omega),bnd_some,zBL (by omega),bnd_some]
  have d:(ks.take (i+1)).getLastD c=ks[i]:=by rw [iE hi,List.getLastD_concat]
  rw [d,iE hi,gG,<- eS]
  rfl
 ·simp only [zCo]
  rw [zAO (by simp),iI]
def zPp (f:Forest) (n:Int):List Int:=if zAG f=true then zPq f.Nodes n else []
theorem zaX {f:Forest} {fu:Nat} {n:Int} (hk:zEU fu f.Nodes) (hfu:1000<fu) (d:InN f.Nodes n):zF0 fu f n=some (zPp f n):=by
 unfold zPp
 by_cases hr:zAG f=true
 ·rw [iP hr];exact zcj (zAE hr) hfu hr d
 ·rw [iN hr]
  unfold zF0 zDg
  rw [sh_no1 hfu hk (.inl (by simpa using hr)),bnd_some,jL,cnd_true,bnd_some,zSY (p:=fun _=>true) (fun x hx=>by cases hx) (by simp;omega) (by simp),bnd_some]
  rfl
theorem zSa {f:Forest} {n:Int} (d:InN f.Nodes n):(zPp f n).length<=400:=by
 unfold zPp
 by_cases hr:zAG f=true
 ·rw [iP hr]
  have:=(zAN hr).all_len d
  have e:(zPq f.Nodes n).length<=(zGN f.Nodes n).length:=iT _ _
  have:=(zAa hr).2.1
  omega
 ·rw [iN hr];simp
theorem zUR {f:Forest} {fu:Nat} {n:Int} {x:Note} {l:List Note} (hk:zEU fu f.Nodes) (hfu:1000<fu) (d:InN f.Nodes n) (e:l.length<=500000000):zD6 fu n x f.Most (zJf f.Nodes) l=some (l++(zPp f n).map (zRe x)):=by
 unfold zD6
 rw [zLb,zaX hk hfu d,bnd_some]
 have:=zSa d
 exact tell_l (by omega) (by omega)
theorem zS6 {fu:Nat} {l:List Int} {n:Int} (d:l.length<fu) (e:l.length<=1000000):zCx fu n l=some (zal l n):=by
 unfold zCx
 refine zYa (L:=zBy n l) l n (fun i hi k=>?_) (fun k=>?_) d
 ·simp only [zBy]
  rw [zAP (by simpa using hi),zAQ hi,bnd_some,zBL (by omega),bnd_some,zAd]
  by_cases h:l[i]=n
  ·rw [iP h.symm,iP h]
  ·rw [iN (Ne.symm h),iN h]
 ·simp only [zBy];rw [zAO (by simp)]
theorem del_ok {fu:Nat} {l:List Int} (h:i<l.length):zFA fu (i:Int) ((i+1:Nat):Int) l=some (l.eraseIdx i):=by
 have d:(zOW l i (i+1)).length=l.length:=by
  unfold zOW
  simp only [eR,cR,iK]
  omega
 have e:((i:Int)).toNat=i:=by omega
 have o:(((i+1:Nat):Int)).toNat=i+1:=by omega
 have q:((l.length:Int)).toNat=l.length:=by omega
 have r:(((i+(l.length - (i+1)):Nat):Int)).toNat=i+(l.length - (i+1)):=by omega
 unfold zFA
 rw [e,o,q,r]
 rw [show cut3 l.length (i:Int) ((i+1:Nat):Int) (l.length:Int)=some () from iP ⟨by omega,by omega,by omega,by omega⟩,bnd_some,zAd,iN (by omega)]
 rw [show zNP l.length 0 (i:Int)=some () from iP ⟨by omega,by omega,by omega⟩,bnd_some,show zNP l.length ((i+1:Nat):Int) (l.length:Int)=some () from iP ⟨by omega,by omega,by omega⟩,bnd_some]
 rw [show delB l.length i (i+1) l.length=some () from iP ⟨by omega,by omega,rfl⟩,bnd_some,d]
 rw [show zNP l.length ((i+(l.length - (i+1)):Nat):Int) (l.length:Int)=some () from iP ⟨by omega,by omega,by omega⟩,bnd_some]
 rw [show zej l.length (i+(l.length - (i+1))) l.length=some () from iP ⟨by omega,rfl⟩,bnd_some]
 have u:(zPm (zOW l i (i+1)) (i+(l.length - (i+1))) (0:Int)).length=l.length:=by
  unfold zPm
  simp only [eR,cR,kF,d]
  omega
 rw [u,show zZT l.length (i+(l.length - (i+1)))=some () from iP (by omega),bnd_some]
 congr 1
 unfold zPm zOW
 rw [iV (by simp only [cR,eR,iK];omega),jI,jJ,iV (by simp only [cR,eR,iK];omega),kG,kH (by simp only [cR,eR,iK];omega)]
theorem zVA {l:List Int} {n:Int} (d:l.Nodup):l.eraseIdx (l.idxOf n)=l.filter fun k=>k != n:=by
 rw [<- List.erase_eq_eraseIdx_of_idxOf rfl,d.erase_eq_filter]
def zL1 (ns:List Node) (n:Int):List Node:=match idx ns n with
 | some z=>if z.Parent = -1 then ns else (match idx ns z.Parent with
  | some y=>(ns.set z.Parent.toNat (zNv y n)).set n.toNat (zMS z)
  | none=>ns)
 | none=>ns
def zG2 (f:Forest) (n:Int):List Note:=if zI5 f.Nodes n ≠ -1/\zWf f.Nodes n=true then (zPq f.Nodes n).map (zRe ⟨2,0,0,0,[],false,false,[],[]⟩) else []
theorem zGl {f:Forest} (hr:zAG f=true) {n:Int} {z:Node} (hz:idx f.Nodes n=some z) (r:z.Parent ≠ -1):∃y,Hung f n z.Parent z y:=by
 have q:=(zAa hr).2.2.1
 have o:=zBc q hz
 unfold zFd zLX at o
 simp only [lM,dD,beq_iff_eq] at o
 obtain ⟨_,d⟩:=o.2.2.1.resolve_left r
 cases hy:idx f.Nodes z.Parent with
 | none=>rw [hy] at d;cases d
 | some y =>
  rw [hy] at d
  simp only [lM] at d
  have hm:=e7.1 d.2
  obtain ⟨u,H⟩:=zfw hr hy hm
  have e:=H.hz
  rw [hz] at e
  obtain rfl:=lJ.inj e
  exact ⟨y,H⟩
theorem zOl {ns:List Node} {n:Int} {z:Node} (hz:idx ns n=some z) (d:z.Parent = -1):zL1 ns n=ns:=by unfold zL1;rw [hz];simp only;rw [iP d]
theorem zMV {f:Forest} {n:Int} {z y:Node} (H:Hung f n z.Parent z y) (d:z.Parent ≠ -1):zL1 f.Nodes n=(zLn f n z.Parent z y).Nodes:=by
 unfold zL1 zLn
 rw [H.hz]
 simp only
 rw [iN d,H.hy]
theorem zT3 (ns:List Node) (n:Int):(zL1 ns n).length=ns.length:=by
 unfold zL1
 split
 ·split
  ·rfl
  ·split<;>simp
 ·rfl
theorem zMu {f:Forest} (hr:zAG f=true) {n:Int} (e:InN f.Nodes n):zAG ⟨zL1 f.Nodes n,f.Most⟩=true:=by
 obtain ⟨z,hz⟩:=zAI e
 by_cases d:z.Parent = -1
 ·rw [zOl hz d];exact hr
 ·obtain ⟨y,H⟩:=zGl hr hz d
  rw [zMV H d]
  exact zOn H hr
theorem zJe {f:Forest} {n:Int} (hr:zAG f=true) (d:InN f.Nodes n):(zG2 f n).length<=400:=by
 unfold zG2
 split
 ·have:=(zAN hr).all_len d
  have e:(zPq f.Nodes n).length<=(zGN f.Nodes n).length:=iT _ _
  have:=(zAa hr).2.1
  simp only [lL]
  omega
 ·simp
theorem zT1 {f:Forest} {fu:Nat} {n:Int} {l:List Note} (hr:zAG f=true) (hfu:1000<fu) (r:InN f.Nodes n) (J:l.length<=500000000):zDe fu n f.Most (zJf f.Nodes) l=some (zJf (zL1 f.Nodes n),l++zG2 f n):=by
 have hs:=zAE hr
 obtain ⟨z,hz⟩:=zAI r
 unfold zDe
 rw [zGL hz,bnd_some,zAd]
 by_cases d:z.Parent = -1
 ·rw [iP d,zOl hz d]
  unfold zG2
  rw [iN (by rw [zIq hz];exact fun h=>h.1 d),gI]
 ·rw [iN d,zLb,zWB hs hfu hr r,bnd_some]
  obtain ⟨y,H⟩:=zGl hr hz d
  have hk:=hs.kids y (zEp H.hy)
  have o:=zBc (zAa hr).2.2.1 H.hy
  unfold zFd zEO at o
  simp only [lM,decide_eq_true_eq] at o
  have u:y.Kids.Nodup:=o.2.2.2.1.1
  obtain ⟨G,I⟩:=zQY H.mem
  have B:=zAH H.hy
  have q:∀E,zFM fu n (zJf f.Nodes) (z,true) E=some (zJf (zL1 f.Nodes n),E):=fun E=>by
   unfold zFM
   rw [zGL H.hy,bnd_some,show zSL (y,true).2=some () from rfl,bnd_some,zS6 (by simp only;omega) (by simp only;omega),bnd_some,bnd_some]
   simp only
   rw [G,zBL (by omega),bnd_some,del_ok I,bnd_some,zVA u,bnd_some,zMw]
   have D:idx (f.Nodes.set z.Parent.toNat (zNv y n)) n=some z:=by rw [zJY B.1 H.ne,hz]
   have e:(⟨y.Kind,y.Name,y.Is,y.Data,y.Attrs,y.Parent,y.Kids.filter (fun k=>k != n),y.Host,y.Under,y.Doc⟩:Node)=zNv y n:=rfl
   rw [e,zGL D,bnd_some]
   simp only
   rw [zMw,zMV H d]
   rfl
  cases F:zWf f.Nodes n with
  | false =>
   rw [cnd_false,q]
   unfold zG2
   rw [iN (by rw [F];simp),gI]
  | true =>
   rw [cnd_true,zUR (hs.fit hfu) hfu r J,bnd_some,q]
   unfold zG2 zPp
   rw [iP hr,iP ⟨by rw [zIq hz];exact d,F⟩]
end
section
theorem zSG {o:Type} {l:List α} {f g : α -> List o} (h:∀a∈l,f a=g a):l.flatMap f=l.flatMap g:=by
 induction l with
 | nil=>rfl
 | cons a l e=>rw [iH,iH,h a (lH ..),e fun b d=>h b (lG _ d)]
section
variable {f:Forest} (hr:zAG f=true)
include hr
theorem zW3 {n:Int} {z:Node} (hz:idx f.Nodes n=some z):n∉z.Kids:=fun h=>zeq hr hz h rfl
omit hr in
theorem zXm {l:List Int} {n:Int} (h:n∉l):l.filter (fun k => !(([n]:List Int).contains k))=l:=by
 rw [jM]
 intro a e
 have:([n]:List Int).contains a=false:=by
  rw [iL]
  intro d
  rw [e7,e8] at d
  exact h (d▸e)
 rw [this];rfl
theorem zT2 {n:Int} (B:InN f.Nodes n):At f.Nodes (zL1 f.Nodes n) (zUa [n]):=by
 obtain ⟨z,hz⟩:=zAI B
 have d:∀j,([n]:List Int).contains j=true↔j=n:=fun j=>by rw [e7,e8]
 refine ⟨zT3 _ _,fun j w o=>?_⟩
 by_cases u:z.Parent = -1
 ·rw [zOl hz u,o]
  have hk:n∉w.Kids:=fun h=>by
   have:=zNu hr o hz h
   have:=zAH o
   omega
  unfold zUa
  rw [zXm hk]
  by_cases q:j=n
  ·subst q
   rw [hz] at o
   obtain rfl:=lJ.inj o
   rw [iP ((d j).2 rfl),<- u]
  ·rw [iN fun h=>q ((d j).1 h)]
 ·obtain ⟨y,H⟩:=zGl hr hz u
  rw [zMV H u]
  by_cases q:j=n
  ·subst q
   rw [hz] at o
   obtain rfl:=lJ.inj o
   rw [zOm H]
   unfold zUa zMS
   rw [iP ((d j).2 rfl),zXm (zW3 hr hz)]
  ·by_cases r:j=z.Parent
   ·subst r
    have e:=H.hy
    rw [o] at e
    obtain rfl:=lJ.inj e
    rw [zG0 H]
    unfold zUa zNv
    rw [iN fun h=>q ((d _).1 h)]
    congr 2
    refine List.filter_congr fun k _=>?_
    rw [eW,bne_iff_ne,gM,iL]
    exact not_congr (d k).symm
   ·rw [zMW H q r,o]
    have hk:n∉w.Kids:=fun h=>r (zNu hr o hz h).symm
    unfold zUa
    rw [zXm hk,iN fun h=>q ((d j).1 h)]
theorem zdc {n:Int} (q:InN f.Nodes n):zGN (zL1 f.Nodes n) n=zGN f.Nodes n:=by
 have U:=zAN hr
 have V:=zAN (f:=⟨zL1 f.Nodes n,f.Most⟩) (zMu hr q)
 have E:=zT2 hr q
 have u:∀{j},InN f.Nodes j->InN (zL1 f.Nodes n) j:=fun h=>by unfold InN at h ⊢;rw [zT3];exact h
 have B:∀j,InN f.Nodes j->n∈zH9 f.Nodes j->zGN (zL1 f.Nodes n) j=zGN f.Nodes j:=U.down_ind fun j e I D=>by
  obtain ⟨w,d⟩:=zAI e
  have hk:n∉w.Kids:=fun h=>by
   obtain ⟨z,hz⟩:=zAI q
   have r:n∈zPW f.Nodes j:=by rw [zOu d];exact cA.2 (.inr h)
   have F:=U.wayU_kid r
   have G:j∈zH9 f.Nodes n:=by rw [F];exact lG _ (U.wayU_self e)
   exact zeq hr d h (U.wayU_anti e D G)
  have hs:zPW (zL1 f.Nodes n) j=zPW f.Nodes j:=by
   rw [zOu d,zOu (E.at_ j w d)]
   unfold zUa
   rw [zXm hk]
  rw [V.all_eq (u e),U.all_eq e,hs]
  congr 1
  refine zSG fun k o=>I k o ?_
  rw [U.wayU_kid o]
  exact lG _ D
 exact B n q (U.wayU_self q)
end
def zY0 (ns:List Node) (A:List Int) (d:Int):List Node:=A.foldl (fun m a=>match idx m a with
 | some w=>m.set a.toNat ⟨w.Kind,w.Name,w.Is,w.Data,w.Attrs,w.Parent,w.Kids,w.Host,w.Under,d⟩
 | none=>m) ns
theorem zU3 (ns:List Node) (A:List Int) (a d:Int):zY0 ns (A++[a]) d=(match idx (zY0 ns A d) a with
 | some w=>(zY0 ns A d).set a.toNat ⟨w.Kind,w.Name,w.Is,w.Data,w.Attrs,w.Parent,w.Kids,w.Host,w.Under,d⟩
 | none=>zY0 ns A d):=by unfold zY0;rw [List.foldl_append];rfl
theorem zaP {b:List Node} (H:At a b h) {A:List Int} {d:Int} (B:∀x∈A,InN a x):∀i,i<=A.length->At a (zY0 b (A.take i) d) (zel (A.take i) d h):=by
 intro i
 induction i with
 | zero =>
  intro _
  refine (show At a (zY0 b (A.take 0) d) h from by simpa [zY0] using H).congr fun j w _=>?_
  simp [zel]
 | succ i r =>
  intro hi
  have o:i<A.length:=by omega
  have r:=r (by omega)
  have hx:=B _ (gC o)
  obtain ⟨w0,q⟩:=zAI hx
  rw [iE o,zU3,r.at_ _ w0 q]
  simp only
  refine (r.set hx _).congr fun j w u=>?_
  by_cases e:j=A[i]
  ·subst e
   rw [q] at u
   obtain rfl:=lJ.inj u
   have D:(A.take i++[A[i]]).contains A[i]=true:=by rw [zOV];simp
   rw [iP rfl]
   simp only [zel,D,↓reduceIte]
  ·rw [iN e]
   unfold zel
   have:(A.take i++[A[i]]).contains j=(A.take i).contains j:=by rw [zOV,beq_eq_false_iff_ne.2 e,Bool.or_false]
   rw [this]
theorem zaQ {b:List Node} (H:At a b h) {A:List Int} {d:Int} (e:∀x∈A,InN a x):At a (zY0 b A d) (zel A d h):=by
 have:=zaP H e (d:=d) A.length (cB _)
 rwa [iI] at this
def zbG (e d:Int):Note:=⟨3,0,e,d,[],false,false,[],[]⟩
def zMQ (ns:List Node) (n:Int):Int:=match idx ns n with
 | some x=>x.Doc
 | none=>0
theorem zMn {ns:List Node} {n:Int} {x:Node} (h:idx ns n=some x):zMQ ns n=x.Doc:=by unfold zMQ;rw [h]
def zLa (f:Forest) (n d:Int):List Node:=if zMQ f.Nodes n=d then zL1 f.Nodes n else zY0 (zL1 f.Nodes n) (zGN f.Nodes n) d
def zQJ (f:Forest) (n d:Int):List Note:=if zMQ f.Nodes n=d then [] else (zPp ⟨zLa f n d,f.Most⟩ n).map (zRe (zbG (zMQ f.Nodes n) d))
def zCN (f:Forest) (n d:Int):Int->Node->Node:=if zMQ f.Nodes n=d then zUa [n] else zel (zGN f.Nodes n) d (zUa [n])
theorem At.kids {b:List Node} (H:At a b h) {N:Nat} (hk:∀x∈a,x.Kids.length<=N) (r:∀j w,idx a j=some w->(h j w).Kids.length<=w.Kids.length):∀x∈b,x.Kids.length<=N:=fun x hx=>by
 obtain ⟨i,hi,e⟩:=iW hx
 have d:i<a.length:=by rw [<- H.len];exact hi
 have o:idx a (i:Int)=some a[i]:=zAQ d
 have q:=H.at_ _ _ o
 rw [zAQ hi,e] at q
 obtain rfl:=lJ.inj q
 exact eM (r _ _ o) (hk _ (gC d))
theorem zSs (f:Forest) (n d j:Int) (w:Node):(zCN f n d j w).Kids=w.Kids.filter (fun k => !(([n]:List Int).contains k)):=by
 unfold zCN
 split<;>rfl
theorem zT5 {f:Forest} {fu:Nat} {n d:Int} {l:List Note} (hr:zAG f=true) (hfu:1000<fu) (e:InN f.Nodes n) (hl:l.length<=400000000):At f.Nodes (zLa f n d) (zCN f n d)/\(zQJ f n d).length<=400/\zGb fu n d f.Most (zJf f.Nodes) l=some (zJf (zLa f n d),l++zG2 f n++zQJ f n d):=by
 have hs:=zAE hr
 have D:=zMu hr e
 have Q:=zAE D
 have E:=zT2 hr e
 have N:InN (zL1 f.Nodes n) n:=by unfold InN at e ⊢;rw [zT3];exact e
 obtain ⟨z,hz⟩:=zAI e
 have V:=E.at_ n z hz
 have hwl:=zJe hr e
 unfold zGb
 rw [zT1 hr hfu e (by omega),bnd_some,zGL V,bnd_some,zAd]
 have q:(zUa [n] n z).Doc=zMQ f.Nodes n:=by rw [zMn hz];rfl
 simp only [q]
 by_cases o:zMQ f.Nodes n=d
 ·rw [iP o]
  unfold zLa zCN zQJ
  rw [iP o,iP o,iP o,gI]
  exact ⟨E,by simp,rfl⟩
 ·rw [iN o,zLb,zXU (f:=⟨zL1 f.Nodes n,f.Most⟩) Q hfu D N,bnd_some]
  have J:∀x∈zGN f.Nodes n,InN f.Nodes x:=fun x hx=>((zAN hr).all_in n e x hx).1
  have I:=zaQ E (d:=d) J
  have G:(zGN f.Nodes n).length<=400:=by
   have:=(zAN hr).all_len e
   have:=(zAa hr).2.1
   omega
  have F:zLa f n d=zY0 (zL1 f.Nodes n) (zGN f.Nodes n) d:=by unfold zLa;rw [iN o]
  have eN:zCN f n d=zel (zGN f.Nodes n) d (zUa [n]):=by unfold zCN;rw [iN o]
  have r:zEU fu (zLa f n d):=fun x hx=>by
   have:=At.kids I hs.kids (fun j w _=>by simp only [zel,zUa];exact iT _ _) x (by rw [<- F];exact hx)
   omega
  have B:InN (zLa f n d) n:=by
   unfold InN at e ⊢
   rw [F,I.len]
   exact e
  have u:(zQJ f n d).length<=400:=by
   unfold zQJ
   rw [iN o,lL]
   exact zSa (f:=⟨zLa f n d,f.Most⟩) B
  refine ⟨by rw [F,eN];exact I,u,?_⟩
  rw [zdc hr e]
  have:=upf (L:=zDS fu n d f.Most (zJf (zL1 f.Nodes n),l++zG2 f n) (zUa [n] n z,true) (zGN f.Nodes n)) (f:=fun i=>((i:Int),zJf (zY0 (zL1 f.Nodes n) ((zGN f.Nodes n).take i) d))) (v:=some (zJf (zLa f n d),l++zG2 f n++zQJ f n d)) (zGN f.Nodes n).length (fun i hi k=>?_) (fun k=>?_) (show (zGN f.Nodes n).length<fu by omega)
  ·simpa [zY0] using this
  ·have hx:=J _ (gC hi)
   obtain ⟨w0,S⟩:=zAI hx
   have W:=(zaP E J (d:=d) i (by omega)).at_ _ _ S
   simp only [zDS]
   rw [zAP (by simpa using hi),zAQ hi,bnd_some,zGL W,bnd_some,zBL (by omega),bnd_some,iE hi,zU3,W,zMw]
  ·simp only [zDS]
   rw [zAO (by simp),iI,<- F]
   have:=zUR (f:=⟨zLa f n d,f.Most⟩) (x:=zbG (zMQ f.Nodes n) d) (l:=l++zG2 f n) r hfu B (by simp only [eR];omega)
   have X:(⟨3,0,(zUa [n] n z,true).1.Doc,d,[],false,false,[],[]⟩:Note)=zbG (zMQ f.Nodes n) d:=by rw [<- q];rfl
   rw [X]
   rw [this,bnd_some]
   unfold zQJ
   rw [iN o]
theorem zc3 {f:Forest} (hr:zAG f=true):∀j,InN f.Nodes j->∀a∈zH9 f.Nodes j,zMQ f.Nodes a=zMQ f.Nodes j:=(zAN hr).up_ind fun j G V a d=>by
 have U:=zAN hr
 have B:=(zAa hr).2.2.1
 rw [U.wayU_eq G] at d
 rcases lD.1 d with e | d
 ·rw [e]
 ·by_cases E:upI f.Nodes j = -1
  ·rw [iP E] at d;cases d
  ·rw [iN E] at d
   rw [V E a d]
   obtain ⟨w,r⟩:=zAI G
   obtain ⟨J,Q⟩:=U.par j G E
   obtain ⟨q,D⟩:=zAI J
   rw [zMn r,zMn D]
   by_cases I:w.Parent = -1
   ·have F:upI f.Nodes j=w.Host:=by rw [zG1 r,iP I]
    obtain ⟨u,N,_,_,S,_⟩:=zWs B r (by rw [<- F];exact E)
    rw [F] at D
    rw [D] at N
    obtain rfl:=lJ.inj N
    exact S
   ·have F:upI f.Nodes j=w.Parent:=by rw [zG1 r,iN I]
    obtain ⟨y,H⟩:=zGl hr r I
    have o:=zBc B H.hy
    unfold zFd zEO at o
    simp only [lM,lR] at o
    have hk:=o.2.2.2.1.2.1 j H.mem
    unfold zOe at hk
    rw [r] at hk
    simp only [lM,beq_iff_eq] at hk
    rw [F,H.hy] at D
    obtain rfl:=lJ.inj D
    exact hk.2.1.symm
def zMb (w:Node) (K:List Int):Node:=⟨w.Kind,w.Name,w.Is,w.Data,w.Attrs,w.Parent,K,w.Host,w.Under,w.Doc⟩
def zY7 (l:List Int) (b k:Int):List Int:=zV9 l (if b = -1 then l.length else l.idxOf b) [k]
def zPQ (f:Forest) (k p b:Int):List Node:=match idx f.Nodes p with
 | some y=>(match idx (zLa f k y.Doc) p with
  | some d=>(match idx ((zLa f k y.Doc).set p.toNat (zMb d (zY7 d.Kids b k))) k with
   | some e=>((zLa f k y.Doc).set p.toNat (zMb d (zY7 d.Kids b k))).set k.toNat (zS7 e p)
   | none=>f.Nodes)
  | none=>f.Nodes)
 | none=>f.Nodes
def zaD (g:Forest) (k:Int):List Note:=if zWf g.Nodes k=true then (zPq g.Nodes k).map (zRe ⟨1,0,0,0,[],false,false,[],[]⟩) else []
def zdt (f:Forest) (k p b:Int):List Note:=zG2 f k++zQJ f k (zMQ f.Nodes p)++zaD ⟨zPQ f k p b,f.Most⟩ k
structure Part (f:Forest) (k p b:Int) (z y:Node):Prop where
 hz:idx f.Nodes k=some z
 hy:idx f.Nodes p=some y
 kind:z.Kind=1\/z.Kind=2
 holder:zGI y.Kind=true
 free:k∉zH9 f.Nodes p
 bef:b = -1\/b∈y.Kids
 bk:b≠k
 crowd:y.Kind=0->zGC f.Nodes p (-1) [k]=false
theorem zat (l:List Int) (i:Nat) (k:Int):(zV9 l i [k]).Perm (l++[k]):=by
 unfold zV9
 have d:(l.take i++[k]++l.drop i).Perm (l.take i++(l.drop i++[k])):=by
  rw [eS]
  exact List.Perm.append_left _ List.perm_append_comm
 refine d.trans ?_
 rw [<- eS,jT]
section
variable {f:Forest} {k p b:Int} {z y:Node} (hr:zAG f=true) (P:Part f k p b z y)
include P
theorem Part.parts:zAR k z=[k]:=by
 unfold zAR
 have:=P.kind
 rw [iN (by omega)]
theorem Part.may:May f k p z y where
 hx:=P.hz
 hy:=P.hy
 holder:=P.holder
 over:=by
  rw [iL]
  exact fun h=>P.free (zKy.1 h)
 k0:=by have:=P.kind;omega
 k4:=by have:=P.kind;omega
 crowd h:=by rw [P.parts];exact P.crowd h
include hr
theorem Part.ne:k≠p:=fun e=>P.free (by rw [<- e];exact (zAN hr).wayU_self (zAH P.hz))
theorem zUF {fu:Nat} (hfu:1000<fu):At f.Nodes (zPQ f k p b) (finN f [k] p y.Doc (zY7 (y.Kids.filter (fun c => !(([k]:List Int).contains c))) b k) [k])/\idx (zLa f k y.Doc) p=some (zCN f k y.Doc p y)/\zPQ f k p b=((zLa f k y.Doc).set p.toNat (zMb (zCN f k y.Doc p y) (zY7 (zCN f k y.Doc p y).Kids b k))).set k.toNat (zS7 (zCN f k y.Doc k z) p)/\idx ((zLa f k y.Doc).set p.toNat (zMb (zCN f k y.Doc p y) (zY7 (zCN f k y.Doc p y).Kids b k))) k=some (zCN f k y.Doc k z):=by
 have U:=zAN hr
 have D:=P.ne hr
 have hk:InN f.Nodes k:=zAH P.hz
 have hp:InN f.Nodes p:=zAH P.hy
 have HO:=(zT5 (l:=[]) (d:=y.Doc) hr hfu hk (by simp)).1
 have h1:=HO.at_ p y P.hy
 have H1:=HO.set hp (zMb (zCN f k y.Doc p y) (zY7 (zCN f k y.Doc p y).Kids b k))
 have I:=H1.at_ k z P.hz
 rw [iN D] at I
 have H2:=H1.set hk (zS7 (zCN f k y.Doc k z) p)
 have e:zPQ f k p b=((zLa f k y.Doc).set p.toNat (zMb (zCN f k y.Doc p y) (zY7 (zCN f k y.Doc p y).Kids b k))).set k.toNat (zS7 (zCN f k y.Doc k z) p):=by
  unfold zPQ
  rw [P.hy]
  simp only
  rw [h1]
  simp only
  rw [I]
 refine ⟨?_,h1,e,I⟩
 rw [e]
 refine H2.congr fun j w E=>?_
 have r:∀j,([k]:List Int).contains j=true↔j=k:=fun j=>by rw [e7,e8]
 have F:(([k]:List Int).any fun c=>(zGN f.Nodes c).contains j)=(zGN f.Nodes k).contains j:=by simp
 have hdoc:zMQ f.Nodes k=z.Doc:=zMn P.hz
 have o:(zCN f k y.Doc j w).Doc=if (zGN f.Nodes k).contains j=true then y.Doc else w.Doc:=by
  unfold zCN
  by_cases J:zMQ f.Nodes k=y.Doc
  ·rw [iP J]
   split
   ·rename_i hc
    have:=zc3 hr j (zAH E) k ((U.all_in k hk j (e7.1 hc)).2)
    rw [zMn E,J] at this
    exact this.symm
   ·rfl
  ·rw [iN J];rfl
 have u:(zCN f k y.Doc j w).Kind=w.Kind/\(zCN f k y.Doc j w).Name=w.Name/\(zCN f k y.Doc j w).Is=w.Is/\(zCN f k y.Doc j w).Data=w.Data/\(zCN f k y.Doc j w).Attrs=w.Attrs/\(zCN f k y.Doc j w).Host=w.Host/\(zCN f k y.Doc j w).Under=w.Under/\(zCN f k y.Doc j w).Parent=(if ([k]:List Int).contains j=true then -1 else w.Parent):=by
  unfold zCN
  split<;>exact ⟨rfl,rfl,rfl,rfl,rfl,rfl,rfl,rfl⟩
 obtain ⟨N,Q,S,V,W,X,r7,r8⟩:=u
 have rk:=zSs f k y.Doc j w
 unfold finN
 rw [F]
 by_cases q:j=k
 ·subst q
  have G:w=z:=by
   have:=P.hz
   rw [E] at this
   exact lJ.inj this
  subst G
  rw [iP rfl,iP ((r j).2 rfl),iN D]
  unfold zS7
  rw [N,Q,S,V,W,X,r7,o,rk]
 ·rw [iN q,iN fun h=>q ((r j).1 h),iN fun h=>q ((r j).1 h)]
  rw [iN fun h=>q ((r j).1 h)] at r8
  by_cases B:j=p
  ·subst B
   have G:w=y:=by
    have:=P.hy
    rw [E] at this
    exact lJ.inj this
   subst G
   rw [iP rfl,iP rfl]
   unfold zMb
   rw [N,Q,S,V,W,X,r7,r8,o,rk]
  ·rw [iN B,iN B]
   rw [<- N,<- Q,<- S,<- V,<- W,<- X,<- r7,<- r8,<- o,<- rk]
theorem zUG {fu:Nat} (hfu:1000<fu):∃K,At f.Nodes (zPQ f k p b) (finN f (zAR k z) p y.Doc K (zAR k z))/\K.Perm (y.Kids.filter (fun c => !((zAR k z).contains c))++zAR k z):=by
 rw [P.parts]
 exact ⟨_,(zUF hr P hfu).1,zat _ _ _⟩
theorem zK0 {fu:Nat} (hfu:1000<fu):zAG ⟨zPQ f k p b,f.Most⟩=true:=by
 obtain ⟨K,H,hK⟩:=zUG hr P hfu
 exact zaj (g:=⟨zPQ f k p b,f.Most⟩) hr P.may H hK rfl
theorem zdu {fu:Nat} (hfu:1000<fu):(zPQ f k p b).length=f.Nodes.length:=(zUF hr P hfu).1.len
theorem zYJ {fu:Nat} (hfu:1000<fu):(zdt f k p b).length<=1200:=by
 have hk:InN f.Nodes k:=zAH P.hz
 have r:=zJe hr hk
 have q:=(zT5 (l:=[]) (d:=zMQ f.Nodes p) hr hfu hk (by simp)).2.1
 have e:=zK0 hr P hfu
 have o:InN (zPQ f k p b) k:=by unfold InN at hk ⊢;rw [zdu hr P hfu];exact hk
 have u:(zaD ⟨zPQ f k p b,f.Most⟩ k).length<=400:=by
  unfold zaD
  split
  ·have:=(zAN e).all_len o
   have q:(zPq (zPQ f k p b) k).length<=(zGN (zPQ f k p b) k).length:=iT _ _
   have:=(zAa e).2.1
   simp only [lL] at *
   omega
  ·simp
 unfold zdt
 simp only [eR]
 omega
theorem zbg {fu:Nat} {K:Nat} {l:List Note} (hfu:1000<fu) (hi:i<L.length) (hk:L[i]=k) (hL:L.length<=1000) (hl:l.length<=300000000) :
  zA3 fu p b f.Most L (K+1) ((i:Int),zJf f.Nodes,l)=zA3 fu p b f.Most L K (((i+1:Nat):Int),zJf (zPQ f k p b),l++zdt f k p b):=by
 have U:=zAN hr
 have hs:=zAE hr
 have e:InN f.Nodes k:=zAH P.hz
 obtain ⟨G,N,h2,h3⟩:=zUF hr P hfu
 have q:=zK0 hr P hfu
 have E:InN (zPQ f k p b) k:=by unfold InN at e ⊢;rw [G.len];exact e
 obtain ⟨-,ho2,J⟩:=zT5 (l:=l) (d:=y.Doc) hr hfu e (by omega)
 have hwl:=zJe hr e
 have o:=zSs f k y.Doc p y
 have hkl:(zCN f k y.Doc p y).Kids.length<=400:=by
  rw [o]
  exact eM (iT _ _) (hs.kids y (zEp P.hy))
 have u:zMQ f.Nodes p=y.Doc:=zMn P.hy
 have F:∀(at_:Nat),at_<=(zCN f k y.Doc p y).Kids.length->zY7 (zCN f k y.Doc p y).Kids b k=zV9 (zCN f k y.Doc p y).Kids at_ [k]->zFN fu p f.Most (i:Int) k (zJf (zLa f k y.Doc),l++zG2 f k++zQJ f k y.Doc) (zCN f k y.Doc p y,true) (zA3 fu p b f.Most L K) ((at_:Nat):Int)=zA3 fu p b f.Most L K (((i+1:Nat):Int),zJf (zPQ f k p b),l++zdt f k p b):=by
  intro at_ hat D
  unfold zFN
  rw [zGL N,bnd_some]
  simp only
  have B:zMp fu (zCN f k y.Doc p y).Kids ((at_:Nat):Int) [k]=some (zY7 (zCN f k y.Doc p y).Kids b k):=by
   unfold zMp
   rw [iP ⟨by omega,by omega,by simp,by simp only [cP,eK];omega⟩,D]
   rfl
  rw [B,bnd_some,bnd_some]
  have V:(⟨(zCN f k y.Doc p y).Kind,(zCN f k y.Doc p y).Name,(zCN f k y.Doc p y).Is,(zCN f k y.Doc p y).Data,(zCN f k y.Doc p y).Attrs,(zCN f k y.Doc p y).Parent,zY7 (zCN f k y.Doc p y).Kids b k,(zCN f k y.Doc p y).Host,(zCN f k y.Doc p y).Under,(zCN f k y.Doc p y).Doc⟩:Node)=zMb (zCN f k y.Doc p y) (zY7 (zCN f k y.Doc p y).Kids b k):=rfl
  rw [V,zMw,zGL h3,bnd_some]
  simp only
  have W:(⟨(zCN f k y.Doc k z).Kind,(zCN f k y.Doc k z).Name,(zCN f k y.Doc k z).Is,(zCN f k y.Doc k z).Data,(zCN f k y.Doc k z).Attrs,p,(zCN f k y.Doc k z).Kids,(zCN f k y.Doc k z).Host,(zCN f k y.Doc k z).Under,(zCN f k y.Doc k z).Doc⟩:Node)=zS7 (zCN f k y.Doc k z) p:=rfl
  rw [W,zMw,<- h2,zLb,zWB (f:=⟨zPQ f k p b,f.Most⟩) (zAE q) hfu q E,bnd_some]
  have X:∀m,l++zG2 f k++zQJ f k y.Doc++m=l++(zG2 f k++zQJ f k y.Doc++m):=fun m=>by simp only [eS]
  cases Q:zWf (zPQ f k p b) k with
  | false =>
   rw [cnd_false,zBL (by omega),bnd_some]
   unfold zdt zaD
   rw [u,iN (by rw [Q];simp),gI,<- eS]
  | true =>
   have S:=zUR (f:=⟨zPQ f k p b,f.Most⟩) (x:=⟨1,0,0,0,[],false,false,[],[]⟩) (l:=l++zG2 f k++zQJ f k y.Doc) ((zAE q).fit hfu) hfu E (by simp only [eR];omega)
   simp only at S
   rw [cnd_true,S,bnd_some,zBL (by omega),bnd_some,X]
   unfold zdt zaD zPp
   rw [u,iP q,iP Q]
 simp only [zA3]
 rw [zAP (by simpa using hi),zAQ hi,bnd_some,hk,zGL P.hy,bnd_some,J,bnd_some,zGL N,bnd_some,show zSL (zCN f k y.Doc p y,true).2=some () from rfl,bnd_some,zAe]
 by_cases r:b = -1
 ·rw [iP r]
  exact F _ (cB _) (by unfold zY7;rw [iP r])
 ·rw [iN r,bnd_some,zS6 (by simp only;omega) (by simp only;omega),bnd_some]
  have I:b∈(zCN f k y.Doc p y).Kids:=by
   rw [o,iJ]
   refine ⟨P.bef.resolve_left r,?_⟩
   rw [gM,iL]
   intro h
   rw [e7,e8] at h
   exact P.bk h
  obtain ⟨g1,g2⟩:=zQY I
  simp only
  rw [g1]
  exact F _ (by omega) (by unfold zY7;rw [iN r])
end
end
section
inductive Mv:Nat->Forest->Forest->List Note->Prop
 | refl (f:Forest):Mv 0 f f []
 | out {m:Nat} {f g:Forest} {l:List Note} {n:Int}:Mv m f g l->InN g.Nodes n->Mv (m+1) f ⟨zL1 g.Nodes n,g.Most⟩ (l++zG2 g n)
 | put {m:Nat} {f g:Forest} {l:List Note} {k p b:Int} {z y:Node}:Mv m f g l->Part g k p b z y->Mv (m+1) f ⟨zPQ g k p b,g.Most⟩ (l++zdt g k p b)
def zNj (a b:List Node):Prop:=b.length=a.length/\∀j w,idx a j=some w->∃v,idx b j=some v/\v.Kind=w.Kind/\v.Name=w.Name/\v.Is=w.Is/\v.Data=w.Data/\v.Attrs=w.Attrs/\v.Host=w.Host/\v.Under=w.Under
theorem zNj.refl (a:List Node):zNj a a:=⟨rfl,fun _ w h=>⟨w,h,rfl,rfl,rfl,rfl,rfl,rfl,rfl⟩⟩
theorem zNj.trans {b c:List Node} (d:zNj a b) (e:zNj b c):zNj a c:=by
 refine ⟨e.1.trans d.1,fun j w I=>?_⟩
 obtain ⟨v,o,q,r,B,D,E,F,G⟩:=d.2 j w I
 obtain ⟨u,J,N,Q,k4,S,V,W,X⟩:=e.2 j v o
 exact ⟨u,J,N.trans q,Q.trans r,k4.trans B,S.trans D,V.trans E,W.trans F,X.trans G⟩
theorem zNj.inN {b:List Node} (h:zNj a b) {n:Int}:InN b n↔InN a n:=by unfold InN;rw [h.1]
theorem zNj.isB {b:List Node} (h:zNj a b) {n k:Int}:isB b n k=isB a n k:=by
 cases d:idx a n with
 | none =>
  have:idx b n=none:=by
   by_cases e:0<=n/\n<b.length
   ·rw [h.1] at e
    obtain ⟨x,hx⟩:=zAI e
    rw [d] at hx;cases hx
   ·exact zCW e
  unfold Proofs.YtmfbghpealgaiaaGreatDoor.isB;rw [d,this]
 | some w =>
  obtain ⟨v,o,q,_⟩:=h.2 n w d
  unfold Proofs.YtmfbghpealgaiaaGreatDoor.isB;rw [d,o];simp only [q]
theorem At.same {b:List Node} (H:At a b h) (e:∀j w,idx a j=some w->(h j w).Kind=w.Kind/\(h j w).Name=w.Name/\(h j w).Is=w.Is/\(h j w).Data=w.Data/\(h j w).Attrs=w.Attrs/\(h j w).Host=w.Host/\(h j w).Under=w.Under):zNj a b :=
 ⟨H.len,fun j w d=>⟨_,H.at_ j w d,e j w d⟩⟩
theorem zVT {f:Forest} (hr:zAG f=true) {n:Int} (d:InN f.Nodes n):zNj f.Nodes (zL1 f.Nodes n):=At.same (zT2 hr d) fun _ _ _=>⟨rfl,rfl,rfl,rfl,rfl,rfl,rfl⟩
theorem zVd {f:Forest} (hr:zAG f=true) {k p b:Int} {z y:Node} (P:Part f k p b z y):zNj f.Nodes (zPQ f k p b):=At.same (zUF hr P (fu:=1001) (by omega)).1 fun _ _ _=>⟨rfl,rfl,rfl,rfl,rfl,rfl,rfl⟩
theorem Mv.all {m:Nat} {f g:Forest} {l:List Note} (h:Mv m f g l) (hr:zAG f=true):zAG g=true/\g.Most=f.Most/\zNj f.Nodes g.Nodes/\l.length<=1200*m:=by
 induction h with
 | refl f=>exact ⟨hr,rfl,zNj.refl _,by simp⟩
 | out _ q r =>
  obtain ⟨d,e,o,u⟩:=r hr
  have:=zJe d q
  exact ⟨zMu d q,e,o.trans (zVT d q),by simp only [eR];omega⟩
 | put _ P r =>
  obtain ⟨d,e,o,u⟩:=r hr
  have:=zYJ d P (fu:=1001) (by omega)
  exact ⟨zK0 d P (fu:=1001) (by omega),e,o.trans (zVd d P),by simp only [eR];omega⟩
theorem Mv.trans {m n:Nat} {f g h:Forest} {l o:List Note} (d:Mv m f g l) (q:Mv n g h o):Mv (m+n) f h (l++o):=by
 induction q with
 | refl g=>simpa using d
 | out _ r e=>rw [<- eS];exact .out (e d) r
 | put _ P e=>rw [<- eS];exact .put (e d) P
theorem zdd {f:Forest} (hr:zAG f=true) {n:Int} (o:InN f.Nodes n) {j:Int} (e:InN f.Nodes j) (q:n∉zH9 f.Nodes j):zH9 (zL1 f.Nodes n) j=zH9 f.Nodes j:=by
 obtain ⟨z,hz⟩:=zAI o
 by_cases d:z.Parent = -1
 ·rw [zOl hz d]
 ·obtain ⟨y,H⟩:=zGl hr hz d
  rw [zMV H d]
  exact zbP H hr j e q
theorem zdv {f:Forest} (hr:zAG f=true) {k p b:Int} {z y:Node} (P:Part f k p b z y):∀j,InN f.Nodes j->k∉zH9 f.Nodes j->zH9 (zPQ f k p b) j=zH9 f.Nodes j:=(zAN hr).up_ind fun j d u hk=>by
 have U:=zAN hr
 have r:=zK0 hr P (fu:=1001) (by omega)
 have V:=zAN r
 obtain ⟨K,H,hK⟩:=zUG hr P (fu:=1001) (by omega)
 have e:=U.wayU_eq d
 rw [e] at hk
 have q:j∉zAR k z:=by
  rw [P.parts,e8]
  exact fun h=>hk (by rw [h];simp)
 have o:InN (zPQ f k p b) j:=by unfold InN at d ⊢;rw [H.len];exact d
 rw [e,V.wayU_eq o,zak (g:=⟨zPQ f k p b,f.Most⟩) P.may H d,iN q]
 by_cases h:upI f.Nodes j = -1
 ·rw [iP h,iP h]
 ·rw [iN h] at hk
  rw [iN h,iN h,u h fun hm=>hk (lG _ hm)]
structure PI (g:Forest) (p b:Int) (M:List Int):Prop where
 hr:zAG g=true
 parts:∀k∈M,∃z,idx g.Nodes k=some z/\(z.Kind=1\/z.Kind=2)/\k∉zH9 g.Nodes p
 nod:M.Nodup
 bM:b∉M
 par:∃y,idx g.Nodes p=some y/\zGI y.Kind=true/\(b = -1\/b∈y.Kids)/\(y.Kind=0->M.length<=1/\∀k∈M,zGC g.Nodes p (-1) [k]=false)
theorem PI.part {g:Forest} {p b k:Int} {M:List Int} (h:PI g p b M) (hk:k∈M):∃z y,Part g k p b z y:=by
 obtain ⟨z,hz,o,d⟩:=h.parts k hk
 obtain ⟨y,hy,B,r,u⟩:=h.par
 exact ⟨z,y,hz,hy,o,B,d,r,fun e=>h.bM (e▸hk),fun q=>(u q).2 k hk⟩
theorem PI.next {g:Forest} {p b k:Int} {M:List Int} (h:PI g p b (k::M)):PI ⟨zPQ g k p b,g.Most⟩ p b M:=by
 obtain ⟨z,y,P⟩:=h.part (lH ..)
 have I:=zK0 h.hr P (fu:=1001) (by omega)
 have F:=zVd h.hr P
 have d:InN g.Nodes p:=zAH P.hy
 have J:=lS.1 h.nod
 refine ⟨I,fun c u=>?_,J.2,fun q=>h.bM (lG _ q),?_⟩
 ·obtain ⟨w,N,hk,G⟩:=h.parts c (lG _ u)
  obtain ⟨v,r,o,_⟩:=F.2 c w N
  exact ⟨v,r,by rw [o];exact hk,by rw [zdv h.hr P p d P.free];exact G⟩
 ·obtain ⟨K,H,hK⟩:=zUG h.hr P (fu:=1001) (by omega)
  obtain ⟨v,r,o,_,_,_,_,D,_⟩:=zKo (g:=⟨zPQ g k p b,g.Most⟩) H P.hy
  refine ⟨v,r,by rw [o];exact P.holder,?_,fun B=>?_⟩
  ·by_cases q:b = -1
   ·exact .inl q
   ·right
    rw [D,iP rfl,zcl hK,P.parts]
    exact .inl ⟨P.bef.resolve_left q,by rw [e8];exact P.bk⟩
  ·obtain ⟨Q,e,_,_,u⟩:=h.par
   rw [P.hy] at e
   obtain rfl:=lJ.inj e
   have:=(u (by rw [<- o];exact B)).1
   have E:M=[]:=by
    simp only [cP] at this
    exact List.length_eq_zero_iff.1 (by omega)
   subst E
   exact ⟨by simp,fun k hk=>by cases hk⟩
theorem PI.out {g:Forest} {p b c:Int} {M:List Int} (h:PI g p b M) (N:c∈M):PI ⟨zL1 g.Nodes c,g.Most⟩ p b M:=by
 obtain ⟨z,y,P⟩:=h.part N
 have o:InN g.Nodes c:=zAH P.hz
 have B:InN g.Nodes p:=zAH P.hy
 have X:=zMu h.hr o
 have F:=zVT h.hr o
 have J:=zT2 h.hr o
 refine ⟨X,fun k hk=>?_,h.nod,h.bM,?_⟩
 ·obtain ⟨w,hw,G,W⟩:=h.parts k hk
  obtain ⟨v,Q,S,_⟩:=F.2 k w hw
  exact ⟨v,Q,by rw [S];exact G,by rw [zdd h.hr o B P.free];exact W⟩
 ·obtain ⟨y',D,hh,V,u⟩:=h.par
  rw [P.hy] at D
  obtain rfl:=lJ.inj D
  refine ⟨_,J.at_ p y P.hy,hh,?_,fun I=>⟨(u I).1,fun k hk=>?_⟩⟩
  ·by_cases r:b = -1
   ·exact .inl r
   ·right
    unfold zUa
    simp only
    rw [iJ]
    refine ⟨V.resolve_left r,?_⟩
    rw [gM,iL]
    intro E
    rw [e7,e8] at E
    exact h.bM (E▸N)
  ·have d:=(u I).2 k hk
   unfold zGC at d ⊢
   rw [P.hy] at d
   rw [J.at_ p y P.hy]
   have m1:∀q,zDv (zL1 g.Nodes c) (-1) [k] q=zDv g.Nodes (-1) [k] q:=fun q=>by
    unfold zDv
    exact iF fun j _=>by rw [F.isB]
   have m2:zDv (zL1 g.Nodes c) (-1) (zUa [c] p y).Kids 1<=zDv g.Nodes (-1) y.Kids 1:=by
    have e:zDv (zL1 g.Nodes c) (-1) (zUa [c] p y).Kids 1=zDv g.Nodes (-1) (zUa [c] p y).Kids 1:=by
     unfold zDv
     exact iF fun j _=>by rw [F.isB]
    rw [e]
    unfold zDv zUa
    simp only
    exact iX.countP_le
   simp only [m1]
   simp only [iY,jN,decide_eq_false_iff_not] at d ⊢
   refine ⟨d.1,d.2.imp id fun E=>?_⟩
   omega
theorem puts6 {fu:Nat} {p b:Int} (hfu:1000<fu) (J:L.length<=400):∀(M:List Int) (i K:Nat) (g:Forest) (l:List Note),L.drop i=M->i<=L.length->M.length<K->PI g p b M->l.length+1200*M.length<=300000000 ->
  ∃h q,Mv M.length g h q/\zA3 fu p b g.Most L K ((i:Int),zJf g.Nodes,l)=some (zJf h.Nodes,l++q):=by
 intro M
 induction M with
 | nil =>
  intro i K g l e hi hK _ _
  obtain ⟨K,rfl⟩:∃r,K=r+1:=⟨K - 1,by simp at hK;omega⟩
  have:i=L.length:=by
   have:=congrArg iO e
   simp at this
   omega
  subst this
  refine ⟨g,[],.refl g,?_⟩
  simp only [zA3]
  rw [zAO (by simp),gI]
 | cons k M I =>
  intro i K g l e hi hK o F
  obtain ⟨K,rfl⟩:∃r,K=r+1:=⟨K - 1,by simp at hK;omega⟩
  have d:i<L.length:=by
   rcases Nat.lt_or_ge i L.length with h | h
   ·exact h
   ·rw [List.drop_of_length_le h] at e;cases e
  have B:L[i]=k:=by
   have:=eT d
   rw [e] at this
   exact (dU.inj this).1.symm
  have u:L.drop (i+1)=M:=by
   have:=eT d
   rw [e] at this
   exact (dU.inj this).2.symm
  obtain ⟨z,y,P⟩:=o.part (lH ..)
  have G:=zYJ o.hr P (fu:=1001) (by omega)
  simp only [cP] at F hK
  obtain ⟨h,q,D,E⟩:=I (i+1) K ⟨zPQ g k p b,g.Most⟩ (l++zdt g k p b) u (by omega) (by omega) o.next (by simp only [eR];omega)
  refine ⟨h,zdt g k p b++q,?_,?_⟩
  ·have:=(Mv.put (.refl g) P).trans D
   rw [iU] at this
   rw [cP,Nat.add_comm M.length 1]
   simpa using this
  ·rw [zbg o.hr P hfu d B (by omega) (by omega)]
   rw [E,eS]
theorem outs6 {fu:Nat} {p b:Int} (hfu:1000<fu) (I:L.length<=400):∀(m i K:Nat) (g:Forest) (l:List Note),i+m=L.length->m<K->PI g p b L->l.length+1200*m<=300000000 ->
  ∃h q,Mv m g h q/\PI h p b L/\zD5 fu p b g.Most L K ((i:Int),zJf g.Nodes,l)=zD4 fu p b g.Most L (zJf h.Nodes,l++q):=by
 intro m
 induction m with
 | zero =>
  intro i K g l hi hK o _
  obtain ⟨K,rfl⟩:∃r,K=r+1:=⟨K - 1,by omega⟩
  obtain rfl:i=L.length:=by omega
  refine ⟨g,[],.refl g,o,?_⟩
  simp only [zD5]
  rw [zAO (by simp),gI]
 | succ m G =>
  intro i K g l hi hK o J
  obtain ⟨K,rfl⟩:∃r,K=r+1:=⟨K - 1,by omega⟩
  have e:i<L.length:=by omega
  have d:L[i]∈L:=gC e
  obtain ⟨z,y,P⟩:=o.part d
  have u:InN g.Nodes L[i]:=zAH P.hz
  have F:=zJe o.hr u
  obtain ⟨h,q,B,D,E⟩:=G (i+1) K ⟨zL1 g.Nodes L[i],g.Most⟩ (l++zG2 g L[i]) (by omega) (by omega) (o.out d) (by simp only [eR];omega)
  refine ⟨h,zG2 g L[i]++q,?_,D,?_⟩
  ·have:=(Mv.out (.refl g) u).trans B
   rw [iU] at this
   rw [show m+1=0+1+m by omega]
   exact this
  ·simp only [zD5]
   rw [zAP (by simpa using e),zAQ e,bnd_some,zT1 o.hr hfu u (by omega),bnd_some,zBL (by omega),bnd_some,E,eS]
theorem parts6 {fu:Nat} {g:Forest} {n:Int} {x:Node} (hr:zAG g=true) (hfu:1000<fu) (hx:idx g.Nodes n=some x):zI0 fu g n=some (zAR n x):=by
 have hs:=zAE hr
 have d:=hs.kids x (zEp hx)
 unfold zI0 zAR
 rw [zFQ hfu (hs.fit hfu) hr (by simp),bnd_some]
 simp only [cK,iQ,zNY (show InN g.Nodes n from zAH hx),iR,iA,cnd_false]
 rw [hx,bnd_some,zAd,bnd_some,zU1 (by omega),bnd_some]
 split<;>rfl
theorem zbf {fu:Nat} {g:Forest} {n p b:Int} {x:Node} {l:List Note} (hfu:1000<fu) (hx:idx g.Nodes n=some x) (o:PI g p b (zAR n x)) (S:l.length<=1000) :
  ∃h q,Mv ((if x.Kind=3 then (zAR n x).length else 0)+(zAR n x).length) g h q/\zEj fu n p b g.Most (zJf g.Nodes) l=some (zJf h.Nodes,l++q):=by
 have hs:=zAE o.hr
 have d:(zAR n x).length<=400:=by
  unfold zAR
  split
  ·exact hs.kids x (zEp hx)
  ·simp
 unfold zEj
 rw [zLb,parts6 o.hr hfu hx,bnd_some,zGL hx,bnd_some,zAd]
 by_cases e:x.Kind=3
 ·rw [iP e,iP e]
  obtain ⟨F,B,D,E,u⟩:=outs6 (L:=zAR n x) hfu d (zAR n x).length 0 fu g l (by omega) (by omega) o (by omega)
  obtain ⟨-,hm,-,J⟩:=D.all o.hr
  obtain ⟨h,N,Q,r⟩:=puts6 (L:=zAR n x) hfu d (zAR n x) 0 fu F (l++B) rfl (by omega) (by omega) E (by simp only [eR];omega)
  refine ⟨h,B++N,D.trans Q,?_⟩
  rw [hm] at r
  rw [show ((0:Nat):Int)=0 from rfl] at u r
  rw [u]
  unfold zD4
  exact r.trans (by rw [eS])
 ·rw [iN e,iN e]
  unfold zD4
  obtain ⟨h,q,G,I⟩:=puts6 (L:=zAR n x) hfu d (zAR n x) 0 fu g l rfl (by omega) (by omega) o (by unfold zAR;rw [iN e];simp;omega)
  exact ⟨h,q,by rw [dA];exact G,I⟩
end
section
theorem zRZ (b:UInt8):(zGJ b).toNat=if upB b=true then b.toNat+32 else b.toNat:=by
 unfold zGJ
 by_cases h:upB b=true
 ·rw [iP h,iP h,UInt8.toNat_add]
  have d:(32:UInt8).toNat=32:=rfl
  unfold upB at h
  simp only [lM,decide_eq_true_eq] at h
  omega
 ·rw [iN h,iN h]
theorem za7 (b:UInt8):upB (zGJ b)=false:=by
 have:=zRZ b
 unfold upB at this ⊢
 simp only [lM,decide_eq_true_eq,jN,decide_eq_false_iff_not] at this ⊢
 split at this<;>omega
theorem zWy (b:UInt8):zGJ (zGJ b)=zGJ b:=by
 have h:∀c:UInt8,upB c=false->zGJ c=c:=fun c d=>by
  unfold zGJ
  rw [iN (by rw [d];simp)]
 exact h _ (za7 b)
theorem za6 (s:Bs):(s.map zGJ).map zGJ=s.map zGJ:=by
 rw [iZ]
 exact iM fun b _=>zWy b
theorem zZD {b:UInt8} (h:zPU b=true):zPU (zGJ b)=true:=by
 have:=zRZ b
 unfold zPU za4 upB at *
 simp only [dD,lM,decide_eq_true_eq] at *
 split at this<;>omega
theorem zZC {b:UInt8} (h:zY6 b=true):zY6 (zGJ b)=true:=by
 have:=zRZ b
 unfold zY6 za4 upB at *
 simp only [dD,lM,decide_eq_true_eq] at *
 split at this<;>omega
theorem zXE (h:zFb s=true):zFb (s.map zGJ)=true:=by
 unfold zFb at *
 simp only [lM,decide_eq_true_eq,lL,lR,lE] at *
 obtain ⟨⟨⟨e,o⟩,q⟩,d⟩:=h
 refine ⟨⟨⟨e,o⟩,?_⟩,?_⟩
 ·rintro x ⟨b,r,rfl⟩
  exact zZD (q b r)
 ·cases s with
  | nil=>cases d
  | cons b t=>exact zZC d
theorem zan (h:zFb s=true):zWl (s.map zGJ)=true:=by
 unfold zWl
 rw [zXE h,za6]
 simp
theorem zQS (h:zGk l=true):l.length<=40:=by
 unfold zGk at h
 simp only [lM,decide_eq_true_eq] at h
 exact h.1
theorem zZu {fu:Nat} (e:l.length<=1000000) (d:l.length<fu):zJt fu l s=some (zKB l fun a=>a.Name==s):=by
 unfold zJt zBG
 rw [zUV (L:=zAU _ l) l (fun a=>a.Name==s) (fun i hi k=>?_) (fun k=>?_) d,bnd_some]
 ·simp only [zAU]
  rw [zAP (by simpa using hi),zAQ hi,bnd_some]
  unfold zGO
  rw [bnd_some,zBL (by omega),bnd_some]
  cases l[i].Name==s<;>rfl
 ·simp only [zAU]
  rw [zAO (by simp)]
def zF5 (l:List Attr) (n:Bs):Bs×Int×Int:=if zGk l=true then (if zFb n=true then (n.map zGJ,zKB l (fun a=>a.Name==n.map zGJ),0) else ([],-1,4)) else ([],-1,1)
theorem zQR {fu:Nat} {n:Bs} (hfu:200<fu):zGc fu l n=some (zF5 l n):=by
 unfold zGc zF5
 rw [zPh hfu,bnd_some]
 by_cases h:zGk l=true
 ·have:=zQS h
  rw [h,zSf hfu,bnd_some,iP rfl]
  by_cases hr:zFb n=true
  ·rw [iP hr,iP hr,zZu (by omega) (by omega),bnd_some]
   rfl
  ·rw [iN hr,iN hr];rfl
 ·have d:zGk l=false:=by cases e:zGk l with
   | false=>rfl
   | true=>exact absurd e h
  rw [iN h,d];rfl
theorem zQQ {n:Bs}:(zF5 l n).2.1<0\/∃(i:Nat) (_:i<l.length),(zF5 l n).2.1=(i:Int)/\zGk l=true/\(zF5 l n).2.2=0:=by
 unfold zF5
 by_cases h:zGk l=true
 ·rw [iP h]
  by_cases hr:zFb n=true
  ·rw [iP hr]
   simp only
   cases e:l.any (fun a=>a.Name==n.map zGJ) with
   | false=>left;rw [zRn e];omega
   | true =>
    obtain ⟨i,hi,d,_⟩:=zRm e
    exact .inr ⟨i,hi,d,h,trivial⟩
  ·rw [iN hr];left;simp only;omega
 ·rw [iN h];left;simp only;omega
def zcZ (l:List Attr) (n:Bs):Bs×Bool:=match idx l (zF5 l n).2.1 with
 | some a=>(a.Value,true)
 | none=>([],false)
theorem zO6 {fu:Nat} {n:Bs} (hfu:200<fu):zFv fu l n=some (zcZ l n):=by
 unfold zFv zcZ
 rw [zQR hfu,bnd_some,zAM]
 rcases zQQ (l:=l) (n:=n) with h | ⟨i,hi,h,_⟩
 ·rw [iP h,zCW (by omega)]
 ·rw [iN (by omega),h,zAQ hi];rfl
theorem zJ6 {fu:Nat} (h:l.length<=1000000):zAb fu l=some l:=by
 unfold zAb
 rw [zAc (by simp;omega),bnd_some,iU]
theorem zcs (h:zGk l=true) (hi:i<l.length) {v:Bs} (u:v.length<=200):zGk (l.set i ⟨l[i].Name,v⟩)=true:=by
 unfold zGk at h ⊢
 simp only [lM,decide_eq_true_eq,lR,eE] at h ⊢
 obtain ⟨q,o,r⟩:=h
 refine ⟨q,fun a d=>?_,?_⟩
 ·rcases dT d with d | rfl
  ·exact o a d
  ·exact ⟨(o _ (gC hi)).1,u⟩
 ·rw [dK]
  have:(l.map (·.Name)).set i l[i].Name=l.map (·.Name):=by
   have e:l[i].Name=(l.map (·.Name))[i]'(by simpa using hi):=by simp
   rw [e];exact jC _
  simpa only [this] using r
theorem zcr {v:Bs} (h:zGk l=true) (E:l.length≠40) (hs:zWl s=true) (B:v.length<=200) (u:l.any (fun a=>a.Name==s)=false):zGk (l++[⟨s,v⟩])=true:=by
 unfold zGk at h ⊢
 simp only [lM,decide_eq_true_eq,lR,eR,cP,eK,cA,e8] at h ⊢
 obtain ⟨D,q,r⟩:=h
 refine ⟨by omega,fun a d=>?_,?_⟩
 ·rcases d with d | rfl
  ·exact q a d
  ·exact ⟨hs,B⟩
 ·rw [gG,dM]
  refine ⟨r,by simp,fun x hx y hy e=>?_⟩
  simp only [lT,List.map_nil,e8] at hy
  subst hy
  obtain ⟨a,d,o⟩:=lE.1 hx
  have:=(gK.1 u) a d
  simp only [beq_iff_eq] at this
  exact this (o.trans e)
def zYn (l:List Attr) (n v:Bs):List Attr×Int :=
 if (zF5 l n).2.2≠0 then (l,(zF5 l n).2.2)
 else if 200<v.length then (l,3)
 else match idx l (zF5 l n).2.1 with
  | some a=>(l.set (zF5 l n).2.1.toNat ⟨a.Name,v⟩,0)
  | none=>if l.length=40 then (l,3) else (l++[⟨(zF5 l n).1,v⟩],0)
theorem zZy {fu:Nat} {n v:Bs} (hfu:200<fu) (q:l.length<=1000000):zKU fu l n v=some (zYn l n v):=by
 unfold zKU zYn
 rw [zQR hfu,bnd_some,zJ6 q,bnd_some,zAe]
 by_cases e:(zF5 l n).2.2=0
 ·rw [iP e,iN (by simpa using e),zAM]
  by_cases o:200<v.length
  ·rw [iP (by omega),iP o]
  ·rw [iN (by omega),iN o,zAM]
   rcases zQQ (l:=l) (n:=n) with h | ⟨i,hi,h,_⟩
   ·rw [iN (by omega),zCW (by omega),zAd]
    by_cases d:l.length=40
    ·rw [iP (by omega)];simp only;rw [iP d]
    ·rw [iN (by omega),zAc (by simp;omega),bnd_some];simp only;rw [iN d]
   ·rw [iP (by omega),h,zAQ hi,bnd_some]
 ·rw [iN e,iP e]
theorem zSR {n v:Bs} (h:(zYn l n v).2=0):zGk (zYn l n v).1=true:=by
 unfold zYn at h ⊢
 by_cases d:(zF5 l n).2.2=0
 ·rw [iN (by simpa using d)] at h ⊢
  by_cases B:200<v.length
  ·rw [iP B] at h;simp only at h;omega
  ·rw [iN B] at h ⊢
   rcases zQQ (l:=l) (n:=n) with o | ⟨i,hi,o,hr,_⟩
   ·have E:idx l (zF5 l n).2.1=none:=zCW (by omega)
    rw [E] at h ⊢
    simp only at h ⊢
    have q:zGk l=true/\zFb n=true:=by
     unfold zF5 at d
     by_cases r:zGk l=true
     ·by_cases u:zFb n=true
      ·exact ⟨r,u⟩
      ·rw [iP r,iN u] at d;simp only at d;omega
     ·rw [iN r] at d;simp only at d;omega
    have D:zF5 l n=(n.map zGJ,zKB l (fun a=>a.Name==n.map zGJ),0):=by unfold zF5;rw [iP q.1,iP q.2]
    by_cases e:l.length=40
    ·rw [iP e] at h;simp only at h;omega
    ·rw [iN e]
     rw [D] at o ⊢
     exact zcr q.1 e (zan q.2) (by omega) (zSx.1 o)
   ·rw [o,zAQ hi]
    exact zcs hr hi (by omega)
 ·rw [iP d] at h;exact absurd h d
end
section
theorem zfi {fu:Nat} (h:i<l.length):zDJ fu (i:Int) ((i:Int)+1) l=some (l.eraseIdx i):=by
 have d:(zOW l i (i+1)).length=l.length:=by
  unfold zOW
  simp only [eR,cR,iK]
  omega
 have o:((i:Int)).toNat=i:=by omega
 have e:((i:Int)+1)=((i+1:Nat):Int):=by omega
 have q:(((i+1:Nat):Int)).toNat=i+1:=by omega
 have r:((l.length:Int)).toNat=l.length:=by omega
 have u:(((i+(l.length - (i+1)):Nat):Int)).toNat=i+(l.length - (i+1)):=by omega
 rw [e]
 unfold zDJ
 rw [o,q,r,u]
 rw [show cut3 l.length (i:Int) ((i+1:Nat):Int) (l.length:Int)=some () from iP ⟨by omega,by omega,by omega,by omega⟩,bnd_some,zAd,iN (by omega)]
 rw [show zNP l.length 0 (i:Int)=some () from iP ⟨by omega,by omega,by omega⟩,bnd_some,show zNP l.length ((i+1:Nat):Int) (l.length:Int)=some () from iP ⟨by omega,by omega,by omega⟩,bnd_some]
 rw [show delB l.length i (i+1) l.length=some () from iP ⟨by omega,by omega,rfl⟩,bnd_some,d]
 rw [show zNP l.length ((i+(l.length - (i+1)):Nat):Int) (l.length:Int)=some () from iP ⟨by omega,by omega,by omega⟩,bnd_some]
 rw [show zej l.length (i+(l.length - (i+1))) l.length=some () from iP ⟨by omega,rfl⟩,bnd_some]
 have B:(zPm (zOW l i (i+1)) (i+(l.length - (i+1))) (⟨[],[]⟩:Attr)).length=l.length:=by
  unfold zPm
  simp only [eR,cR,kF,d]
  omega
 rw [B,show zZT l.length (i+(l.length - (i+1)))=some () from iP (by omega),bnd_some]
 congr 1
 unfold zPm zOW
 rw [iV (by simp only [cR,eR,iK];omega),jI,jJ,iV (by simp only [cR,eR,iK];omega),kG,kH (by simp only [cR,eR,iK];omega)]
def zfE (l:List Attr) (n:Bs):List Attr×Bool:=if (zF5 l n).2.1<0 then (l,false) else (l.eraseIdx (zF5 l n).2.1.toNat,true)
theorem zZv {fu:Nat} {n:Bs} (hfu:200<fu) (d:l.length<=1000000):zG4 fu l n=some (zfE l n):=by
 unfold zG4 zfE
 rw [zQR hfu,bnd_some,zJ6 d,bnd_some,zAM]
 rcases zQQ (l:=l) (n:=n) with h | ⟨i,hi,h,_⟩
 ·rw [iP h,iP h]
 ·rw [iN (by omega),iN (by omega),h,zKD (by simp only [lo,Go.Pw.hi];omega),bnd_some,zfi hi,bnd_some]
  rfl
theorem zYp (h:zGk l=true):zGk (l.eraseIdx i)=true:=by
 have hs:(l.eraseIdx i).Sublist l:=List.eraseIdx_sublist ..
 unfold zGk at h ⊢
 simp only [lM,decide_eq_true_eq,lR] at h ⊢
 exact ⟨eM hs.length_le h.1,fun a d=>h.2.1 a (hs.subset d),(hs.map _).nodup h.2.2⟩
theorem zSQ {n:Bs} (h:zGk l=true):zGk (zfE l n).1=true:=by
 unfold zfE
 split
 ·exact h
 ·exact zYp h
def zef (l:List Attr) (n:Bs) (k:Int):List Attr×Bool×Int :=
 if (zF5 l n).2.2≠0 then (l,false,(zF5 l n).2.2)
 else if (decide (k>0)||(k==0 && !(decide ((zF5 l n).2.1>=0))))=decide ((zF5 l n).2.1>=0) then (l,decide ((zF5 l n).2.1>=0),0)
 else if (decide (k>0)||(k==0 && !(decide ((zF5 l n).2.1>=0))))=true then ((zYn l n []).1,(zYn l n []).2==0,(zYn l n []).2)
 else ((zfE l n).1,false,0)
theorem zfJ {fu:Nat} {n:Bs} {k:Int} (hfu:200<fu) (u:l.length<=1000000):zIu fu l n k=some (zef l n k):=by
 have d:∀b:Bool,zFR fu l n (zF5 l n) b=some (if (zF5 l n).2.2≠0 then (l,false,(zF5 l n).2.2) else if b=decide ((zF5 l n).2.1>=0) then (l,decide ((zF5 l n).2.1>=0),0) else if b=true then ((zYn l n []).1,(zYn l n []).2==0,(zYn l n []).2) else ((zfE l n).1,false,0)):=fun b=>by
  unfold zFR
  rw [zJ6 u,zZy hfu u,zZv hfu u]
  simp only [bnd_some]
  rw [zAe,zAd]
  by_cases e:(zF5 l n).2.2=0
  ·rw [iP e,iN (fun h:(zF5 l n).2.2≠0=>h e)]
   by_cases r:b=decide ((zF5 l n).2.1>=0)
   ·rw [iP r,iP r]
   ·rw [iN r,iN r]
    cases b<;>rfl
  ·rw [iN e,iP e]
 unfold zIu zef
 rw [zQR hfu,bnd_some,d,d,d,zAM,zAd]
 by_cases o:k>0
 ·rw [iP o,decide_eq_true o,Bool.true_or]
 ·rw [iN o,decide_eq_false o,e9]
  by_cases q:k=0
  ·rw [iP q,show (k==0)=true by simpa using q,iD]
  ·rw [iN q,show (k==0)=false by simpa using q,jD]
theorem zYo {n:Bs} {k:Int} (h:zGk l=true) (d:(zef l n k).2.2=0):zGk (zef l n k).1=true:=by
 unfold zef at d ⊢
 split
 ·exact h
 ·split
  ·exact h
  ·split
   ·rename_i e o q
    rw [iN e,iN o,iP q] at d
    exact zSR d
   ·exact zSQ h
def bare (x:Node):Node:=⟨x.Kind,[],[],[],[],x.Parent,x.Kids,x.Host,x.Under,x.Doc⟩
theorem zKN {d:Type} {l:List α} {g : α -> d} {n:Int}:idx (l.map g) n=(idx l n).map g:=by
 unfold idx
 split<;>simp
section
variable (ns:List Node)
theorem zQT (n k:Int):isB (ns.map bare) n k=isB ns n k:=by
 unfold isB;rw [zKN];cases idx ns n<;>rfl
theorem zWT (n:Int):upI (ns.map bare) n=upI ns n:=by
 unfold upI;rw [zKN];cases idx ns n<;>rfl
theorem zO7:∀(k:Nat) (n:Int),zBZ (ns.map bare) k n=zBZ ns k n
 | 0,_=>rfl
 | k+1,n=>by simp only [zBZ,zWT,zO7 k]
def zdU (n:Int) (x:Node):Bool:=zLo ns n x&&(zLX ns n x&&(zEO ns n x&&(zNs ns n x&&zK2 ns n x)))
theorem zUs (n:Int) (x:Node):zdU (ns.map bare) n (bare x)=zdU ns n x:=by
 have e:zLo (ns.map bare) n (bare x)=zLo ns n x:=by unfold zLo;rw [zQT];rfl
 have o:zLX (ns.map bare) n (bare x)=zLX ns n x:=by
  show (x.Parent == -1||((x.Kind==1||x.Kind==2)&&(match idx (ns.map bare) x.Parent with | some p=>zGI p.Kind&&p.Kids.contains n | none=>false)))=_
  unfold zLX
  rw [zKN];cases idx ns x.Parent<;>rfl
 have q:zOe (ns.map bare) n (bare x)=zOe ns n x:=funext fun k=>by
  unfold zOe;rw [zKN];cases idx ns k<;>rfl
 have r:zEO (ns.map bare) n (bare x)=zEO ns n x:=by
  have d:isB (ns.map bare)=isB ns:=funext fun a=>funext fun b=>zQT ns a b
  unfold zEO zBE
  rw [q,d]
  rfl
 have B:zNs (ns.map bare) n (bare x)=zNs ns n x:=by
  show (if x.Kind=4 then (match idx (ns.map bare) x.Host with | some h=>h.Kind==1&&(h.Under==n&&h.Doc==x.Doc) | none=>false) else x.Host == -1)=_
  unfold zNs
  rw [zKN];cases idx ns x.Host<;>rfl
 have D:zK2 (ns.map bare) n (bare x)=zK2 ns n x:=by
  show (x.Under == -1||(x.Kind==1&&(match idx (ns.map bare) x.Under with | some u=>u.Kind==4&&u.Host==n | none=>false)))=_
  unfold zK2
  rw [zKN];cases idx ns x.Under<;>rfl
 unfold zdU
 rw [e,o,r,B,D]
end
theorem zMt {ns:List Node} {n:Int} {x:Node}:zFd ns n x=(zHP x&&zdU ns n x):=rfl
theorem zYq {f g:Forest} (hr:zAG f=true) (d:g.Nodes.map bare=f.Nodes.map bare) (hm:g.Most=f.Most) (N:∀x∈g.Nodes,zHP x=true):zAG g=true:=by
 have u:g.Nodes.length=f.Nodes.length:=by have:=congrArg iO d;simpa using this
 unfold zAG at hr ⊢
 simp only [lM,decide_eq_true_eq] at hr ⊢
 obtain ⟨D,E,F,G,I,J,q⟩:=hr
 refine ⟨by rw [hm];exact D,by rw [hm];exact E,by rw [u];exact F,by rw [hm,u];exact G,?_,?_,?_⟩
 ·rw [<- zQT,d,zQT];exact I
 ·unfold zHQ
  rw [lR]
  intro i hi
  rw [jO] at hi
  rw [lC hi]
  simp only
  have o:i<f.Nodes.length:=by omega
  have r:=zBc J (zAQ o)
  rw [zMt] at r ⊢
  have e:bare g.Nodes[i]=bare f.Nodes[i]:=by
   have B:(g.Nodes.map bare)[i]? = (f.Nodes.map bare)[i]? := by rw [d]
   rw [lK,lK,lC hi,lC o] at B
   exact lJ.inj B
  simp only [lM] at r ⊢
  refine ⟨N _ (gC hi),?_⟩
  rw [<- zUs,d,e,zUs]
  exact r.2
 ·unfold zPG at q ⊢
  rw [u]
  rw [lR] at q ⊢
  intro i hi
  rw [<- zO7,d,zO7]
  exact q i hi
def zI6 (w:Node) (l:List Attr):Node:=⟨w.Kind,w.Name,w.Is,w.Data,l,w.Parent,w.Kids,w.Host,w.Under,w.Doc⟩
theorem zWQ {f:Forest} (hr:zAG f=true) {n:Int} {x:Node} (hx:idx f.Nodes n=some x) (hk:x.Kind=1) {l:List Attr} (q:zGk l=true):zAG ⟨f.Nodes.set n.toNat (zI6 x l),f.Most⟩=true:=by
 have o:=(zAa hr).2.2.1
 refine zYq hr ?_ rfl fun y hy=>?_
 ·show (f.Nodes.set n.toNat (zI6 x l)).map bare=f.Nodes.map bare
  rw [dK]
  have r:=zAH hx
  have hi:n.toNat<f.Nodes.length:=by omega
  have e:bare (zI6 x l)=(f.Nodes.map bare)[n.toNat]'(by simpa using hi):=by
   have:idx f.Nodes n=some f.Nodes[n.toNat]:=by
    have:=zAQ hi
    rwa [show ((n.toNat:Nat):Int)=n by omega] at this
   rw [hx] at this
   rw [jP,<- lJ.inj this]
   rfl
  rw [e];exact jC _
 ·rcases dT hy with h | rfl
  ·obtain ⟨i,hi,e⟩:=iW h
   have:=zBc o (zAQ hi)
   rw [e] at this
   rw [zMt,lM] at this
   exact this.1
  ·have:=zBc o hx
   rw [zMt,lM] at this
   have d:=this.1
   unfold zHP at d ⊢
   rw [iP hk] at d
   rw [iP (show (zI6 x l).Kind=1 from hk)]
   simp only [lM] at d ⊢
   exact ⟨d.1,d.2.1,d.2.2.1,q⟩
theorem zWO {f:Forest} (hr:zAG f=true) {n:Int} {x:Node} (hx:idx f.Nodes n=some x) (hk:x.Kind=1):zGk x.Attrs=true:=by
 have:=zBc (zAa hr).2.2.1 hx
 rw [zMt,lM] at this
 have d:=this.1
 unfold zHP at d
 rw [iP hk] at d
 simp only [lM] at d
 exact d.2.2.2
end
end Go.Proofs.YtmfbghpealgaiaaGreatDoor
