/- Plain laws on the models, one behind the other. -/
import Derived.Test.YtmfbghpealgaiaaGreatDoorG
import Derived.Test.YtmfbghpealgaiaaGreatDoorCo3
/- strings.Contains of one byte, where the seat has it over the library's Index. -/
namespace Go.Proofs.YtmfbghpealgaiaaGreatDoor
open Go Go.Pw
open List renaming length_append->eR,all_eq_true->lR,length_cons->cP,contains_iff_mem->e7,mem_cons->lD,getElem_mem->gC,mem_cons_of_mem->lG,mem_singleton->e8,getElem?_eq_getElem->lC,mem_flatMap->iB,mem_append->cA,take_succ_eq_append_getElem->iE,append_assoc->eS,drop_eq_getElem_cons->eT,countP_congr->iF,length_take->cR,flatMap_append->iG,flatMap_cons->iH,nodup_append->dM,range->cW,take_length->iI,append_nil->gI,mem_filter->iJ,length_drop->iK,mem_map->lE,length_nil->eK,map_congr_left->iM,length->iO,nodup_cons->lS,all_cons->cK,all_nil->iQ,flatMap_def->iS,cons->dU,length_filter_le->iT,nil_append->iU,any_eq_true->dN,mem_of_getElem?->lU,mem_or_eq_of_mem_set->dT,take_append_of_le_length->iV,getElem_of_mem->iW,filter_sublist->iX,map_map->iZ,map_cons->lT,map_set->dK,countP_le_length->jA,mem_cons_self->lH,length_flatMap->jB,length_map->lL,getElem?_map->lK,set_getElem_self->jC,getElem?_eq_none->cX,countP_append->jE,suffix_refl->jF,suffix_cons->jG,append_of_mem->jH,take_take->jI,filter_append->jK,filter_eq_self->jM,mem_range->jO,getElem_map->jP,any_eq_false->gK,getElem?_cons_zero->eU,contains_eq_any_beq->jR,countP_cons->dG,take_append_drop->jT,suffix_of_suffix_length_le->jU,pairwise_flatMap->jV,eq_nil_or_concat->jW,concat_eq_append->jX,flatMap_nil->jY,reverse_append->jZ,map_reverse->kD,sum_reverse->kE,length_set->eE,getElem?_append_left->lN,map_append->gG,length_replicate->kF,eraseIdx_eq_take_drop_succ->kG,take_of_length_le->kH
open Nat renaming le_refl->cB,le_trans->eM,zero_add->dA,min_self->jJ
open Int renaming toNat_natCast->eO
open Option renaming some->lJ,map_some->lW,map_eq_none_iff->jS
open Bool renaming and_eq_true->lM,or_eq_true->dD,false_or->e9,not_true->iA,true_and->iD,eq_iff_iff->eW,eq_false_iff->iL,and_self->iR,or_eq_false_iff->iY,false_and->jD,not_false->jL,and_eq_false_iff->jN,not_eq_true'->gM,and_false->jQ
variable {l:List Attr} {α:Type} {j child:Int} {s:Bs} {a m:List Node} {v:zAR} {w:Node} {h:Int->Node->Node} {i:Nat} {C:Int->Prop} {t:Int->Option Bool} {L nodes:List Int}
section
def zPK (_fu:Nat) (s:Bs) (c:UInt8):Option Bool:=some (decide (0<=Lib.indexByte s c))
theorem zQb (fu:Nat) (s:Bs) (c:UInt8):zEd fu s [c]=zPK fu s c:=by
 unfold zEd zJ4 zUq zPK
 rfl
end
section
def zcR (b:UInt8):Bool:=decide (97<=b.toNat)&&decide (b.toNat<=122)
def upB (b:UInt8):Bool:=decide (65<=b.toNat)&&decide (b.toNat<=90)
def zQH (b:UInt8):Bool:=zcR b||upB b||(decide (48<=b.toNat)&&decide (b.toNat<=57))||decide (b.toNat=45)||decide (b.toNat=95)||decide (b.toNat=46)
def zaH (b:UInt8):Bool:=zcR b||upB b||decide (b.toNat=95)
def zF1 (s:Bs):Bool:=decide (0<s.length)&&decide (s.length<=40)&&s.all zQH&&(match s with | []=>false | b::_=>zaH b)
def zGc (b:UInt8):UInt8:=if upB b then b+32 else b
theorem zVQ (fu:Nat) (c:Int):zF7 fu c=some (decide (97<=c)&&decide (c<=122)):=by
 unfold zF7;by_cases h:97<=c<;>simp [h]
theorem zNJ (fu:Nat) (c:Int):zBu fu c=some (decide (65<=c)&&decide (c<=90)):=by
 unfold zBu;by_cases h:65<=c<;>simp [h]
theorem end3 (c:Int):(if c=45 then some true else if c=95 then some true else some (c==46))=some (decide (c=45)||decide (c=95)||decide (c=46)):=by
 by_cases d:c=45
 ·simp [d]
 ·by_cases e:c=95
  ·simp [e]
  ·rw [iN d,iN e,decide_eq_false d,decide_eq_false e];rfl
theorem zdJ (fu:Nat) (c:Int):zII fu c=some ((decide (97<=c)&&decide (c<=122))||(decide (65<=c)&&decide (c<=90))||(decide (48<=c)&&decide (c<=57))||decide (c=45)||decide (c=95)||decide (c=46)):=by
 unfold zII zHL
 simp only [zVQ,zNJ,zAA,zAj]
 by_cases d:97<=c<;>by_cases e:c<=122<;>by_cases o:65<=c<;>by_cases q:c<=90<;>by_cases r:48<=c<;>by_cases u:c<=57<;>simp [d,e,o,q,r,u]<;>(first | omega | exact end3 c)
theorem zUw (b:UInt8):(decide (97<=(b.toNat:Int))&&decide ((b.toNat:Int)<=122))=zcR b:=by
 unfold zcR;congr 1<;>exact decide_eq_decide.2 (by omega)
theorem zYS (b:UInt8):(decide (65<=(b.toNat:Int))&&decide ((b.toNat:Int)<=90))=upB b:=by
 unfold upB;congr 1<;>exact decide_eq_decide.2 (by omega)
theorem zdI (fu:Nat) (b:UInt8):zII fu (b.toNat:Int)=some (zQH b):=by
 rw [zdJ,zUw,zYS];unfold zQH
 congr 1
 have d:(decide (48<=(b.toNat:Int))&&decide ((b.toNat:Int)<=57))=(decide (48<=b.toNat)&&decide (b.toNat<=57)):=by congr 1<;>exact decide_eq_decide.2 (by omega)
 have e:decide ((b.toNat:Int)=45)=decide (b.toNat=45):=decide_eq_decide.2 (by omega)
 have o:decide ((b.toNat:Int)=95)=decide (b.toNat=95):=decide_eq_decide.2 (by omega)
 have q:decide ((b.toNat:Int)=46)=decide (b.toNat=46):=decide_eq_decide.2 (by omega)
 rw [d,e,o,q]
theorem ziI (fu:Nat) (c:Int) (h:128<=c):zII fu c=some false:=by
 rw [zdJ]
 simp only [decide_eq_false (show ¬c<=122 by omega),decide_eq_false (show ¬c<=90 by omega),decide_eq_false (show ¬c<=57 by omega),decide_eq_false (show ¬c=45 by omega),decide_eq_false (show ¬c=95 by omega),decide_eq_false (show ¬c=46 by omega),jQ,Bool.or_false]
theorem zQj {fu:Nat} {f:UInt8->Bool} (F:∀b∈s,b.toNat<128->t (b.toNat:Int)=some (f b)) (hi:(∀b∈s,b.toNat<128)\/∀r:Int,128<=r->t r=some true) (J:s.length<fu) :
  zCA fu t s=some (s.any fun b=>decide (128<=b.toNat)||f b):=by
 have E:∃r,zBA t s true fu 0=some r/\decide (r>=0)=s.any fun b=>decide (128<=b.toNat)||f b:=by
  refine up (L:=zBA t s true) (Inv:=fun i x=>x=i/\∀(j:Nat) (h:j<s.length),j<i->(decide (128<=s[j].toNat)||f s[j])=false) (Fin:=fun v=>∃r,v=some r/\decide (r>=0)=s.any fun b=>decide (128<=b.toNat)||f b) s.length (fun i x d ⟨hx,u⟩=>?_) (fun x ⟨hx,u⟩=>?_) (i:=0) ⟨rfl,fun j _ u=>by omega⟩ (Nat.zero_le _) (by omega)
  ·subst hx
   by_cases q:(decide (128<=s[x].toNat)||f s[x])=true
   ·refine .inl ⟨some (x:Int),⟨_,rfl,?_⟩,fun k=>?_⟩
    ·rw [decide_eq_true (by omega)]
     exact (dN.2 ⟨_,gC d,q⟩).symm
    ·simp only [zBA]
     rw [zAP (by simpa using d)]
     by_cases e:s[x].toNat<128
     ·rw [decide_eq_false (by omega),e9] at q
      rw [(zbg d e).1,F _ (gC d) e,zAA,q];rfl
     ·rcases hi with hi | hi
      ·exact absurd (hi _ (gC d)) e
      ·rw [hi _ (dec_hi d (by omega))];rfl
   ·have o:=iL.2 q
    have e:s[x].toNat<128:=by
     rw [iY,decide_eq_false_iff_not] at o
     omega
    refine .inr ⟨x+1,⟨rfl,fun j h D=>?_⟩,fun k=>?_⟩
    ·rcases Nat.lt_succ_iff_lt_or_eq.1 D with B | B
     ·exact u j h B
     ·subst B;exact o
    ·rw [iY] at o
     simp only [zBA]
     rw [zAP (by simpa using d),(zbg d e).1,F _ (gC d) e,zAA,o.2,(zbg d e).2];rfl
  ·subst hx
   refine ⟨some (-1),⟨_,rfl,?_⟩,fun k=>?_⟩
   ·have:(s.any fun b=>decide (128<=b.toNat)||f b)=false:=by
     rw [gK]
     intro b e
     obtain ⟨j,h,rfl⟩:=List.mem_iff_getElem.1 e
     simpa using u j h h
    rw [this];rfl
   ·simp only [zBA]
    rw [zAN (by simp)]
 obtain ⟨r,G,I⟩:=E
 unfold zCA zFZ zFa
 rw [G,zAA,zAA,I]
theorem zcA (b:UInt8) (fu:Nat):(bnd (rng .i32 (b.toNat:Int)) fun d=>bnd (zF7 fu d) fun o=>cnd o (some true) (bnd (zBu fu d) fun q=>cnd q (some true) (some (d==95))))=some (zaH b):=by
 have r:=b.toNat_lt
 rw [zKG (by simp only [lo,hi];omega),zAA,zVQ,zNJ,zAA,zAA,zUw,zYS]
 unfold zaH
 have e:((b.toNat:Int)==95)=decide (b.toNat=95):=by rw [eW];simp;omega
 rw [e]
 cases zcR b<;>cases upB b<;>rfl
theorem zd9 (s:Bs):(s.any fun b=>decide (128<=b.toNat) || !(zQH b)) = !(s.all zQH):=by
 rw [List.not_all_eq_any_not]
 congr 1
 funext b
 cases h:zQH b
 ·simp
 ·have:b.toNat<128:=by
   unfold zQH zcR upB at h
   simp only [dD,lM,decide_eq_true_eq] at h
   omega
  simp;omega
theorem zZX {fu:Nat} (hfu:40<fu):zIp fu s=some (zF1 s):=by
 unfold zIp zF1
 rw [zAS,zAS]
 by_cases d:s.length<1
 ·rw [iP (by omega)];simp [show ¬0<s.length by omega]
 rw [iN (by omega)]
 by_cases e:s.length>40
 ·rw [iP (by omega)];simp [show ¬s.length<=40 by omega]
 rw [iN (by omega),zQj (f:=fun b => !(zQH b)) (fun b _ _=>by unfold zDo;rw [zdI];rfl) (.inr fun r hr=>by unfold zDo;rw [ziI _ _ hr];rfl) (by omega),zAA,zd9,zPu]
 obtain ⟨b,t,rfl⟩:∃b t,s=b::t:=by cases s<;>simp_all
 rw [zYh]
 simp only [eU,lW,zAA]
 rw [zcA]
 rw [decide_eq_true (by omega),decide_eq_true (by omega)]
 cases (b::t).all zQH<;>simp
def zd0 (y:Int):Int:=if 65<=y/\y<=90 then y+32 else y
theorem zdU (b:UInt8):upB b=true↔65<=b.toNat/\b.toNat<=90:=by unfold upB;simp
theorem zcS (b:UInt8):zd0 (b.toNat:Int)=((zGc b).toNat:Int):=by
 unfold zd0 zGc
 by_cases h:upB b=true
 ·have:=(zdU b).1 h
  rw [iP (by omega),iP h,UInt8.toNat_add]
  simp;omega
 ·have:¬(65<=b.toNat/\b.toNat<=90):=fun d=>h ((zdU b).2 d)
  rw [iN (by omega),iN h]
theorem ziK (s:Bs):zWy ((zEN s).map zd0)=s.map zGc:=by
 unfold zWy zEN
 rw [iZ,iZ]
 refine iM fun b _=>?_
 simp only [Function.comp,zcS,eO,UInt8.ofNat_toNat]
theorem zPT {fu:Nat} (q:s.length<fu) (o:s.length<=1000000):zDp fu s=some (s.map zGc):=by
 unfold zDp
 rw [zAi (by omega),zAA]
 have d:(zEN s).length=s.length:=by simp [zEN]
 have:=upf (L:=zFV fu s) (f:=fun i=>((i:Int),mix zd0 (zEN s) i)) (v:=some (s.map zGc)) (zEN s).length (fun i hi k=>?_) (fun k=>?_) (by rw [d];exact q)
 ·simpa [zZB] using this
 ·simp only [zFV]
  rw [zAP (by simpa using hi),zcZ zd0 hi,zAA]
  have hy:(zEN s)[i]=((s[i]'(d▸hi)).toNat:Int):=by simp [zEN]
  have r:rng .i64 ((i:Int)+1)=some ((i+1:Nat):Int):=zBL (by omega)
  rw [<- zUx zd0 hi]
  have hk:=zeu zd0 hi
  rw [<- zUx zd0 hi] at hk
  rw [hy] at hk ⊢
  have o:=(s[i]'(d▸hi)).toNat_lt
  generalize (s[i]'(d▸hi)).toNat=n at o hk
  rw [zKG (by simp only [lo,Go.Pw.hi];omega),zAA,zNJ,zAA,r]
  by_cases h:65<=(n:Int)/\(n:Int)<=90
  ·rw [zAP (by simp;omega),zKG (by simp only [lo,Go.Pw.hi];omega),zAA,zKG (by simp only [lo,Go.Pw.hi];omega),zAA,zAA,zAA]
   unfold zd0
   rw [iP h,show (n:Int) - 65+97=n+32 by omega]
  ·have e:zd0 (n:Int)=n:=iN h
   rw [zAN (by simp;omega),zAA,<- hk e]
 ·simp only [zFV]
  rw [zAN (by simp),zca,ziK]
def words:List Bs:=[[97,110,110,111,116,97,116,105,111,110,45,120,109,108],[99,111,108,111,114,45,112,114,111,102,105,108,101],[102,111,110,116,45,102,97,99,101],[102,111,110,116,45,102,97,99,101,45,115,114,99],[102,111,110,116,45,102,97,99,101,45,117,114,105],[102,111,110,116,45,102,97,99,101,45,102,111,114,109,97,116],[102,111,110,116,45,102,97,99,101,45,110,97,109,101],[109,105,115,115,105,110,103,45,103,108,121,112,104]]
def zEP (s:Bs):Bool:=zF1 s&&(match s with | []=>false | b::_=>zcR b) && !(s.any upB)&&s.contains 45 && !(words.contains s)
theorem zKl {fu:Nat} {l:List Bs} (o:l.length<fu) (q:l.length<=1000000):zBD fu l s=some (l.contains s):=by
 unfold zBD zGA
 obtain ⟨r,d,e⟩:=zG5 (L:=zB9 l s) l (fun x=>s==x) (fun i hi k=>by
  simp only [zB9]
  rw [zAP (by simpa using hi),zAT hi,zAA,zBL (by omega),zAA]
  cases s==l[i]<;>rfl) (fun k=>by simp only [zB9];rw [zAN (by simp)]) o
 rw [d,zAA,e]
 congr 1
 rw [jR]
theorem zTy (h:zF1 s=true):0<s.length/\s.length<=40:=by
 unfold zF1 at h
 simp only [lM,decide_eq_true_eq] at h
 exact h.1.1
theorem zHW {fu:Nat} (hfu:200<fu):zDE fu s=some (zEP s):=by
 unfold zDE zEP
 rw [zZX (by omega),zAA]
 cases hr:zF1 s
 ·rfl
 ·rw [zAO]
  have B:s.length<fu:=by have:=zTy hr;omega
  have o:=hr
  unfold zF1 at o
  obtain ⟨b,t,rfl⟩:∃b t,s=b::t:=by cases s<;>simp_all
  simp only [lM] at o
  have D:=b.toNat_lt
  have d:∀c∈b::t,c.toNat<128:=fun c u=>by
   have:=lR.1 o.1.2 c u
   unfold zQH zcR upB at this
   simp only [dD,lM,decide_eq_true_eq] at this
   omega
  have q:((b::t).any fun c=>decide (128<=c.toNat)||upB c)=(b::t).any upB:=by
   rw [eW,dN,dN]
   constructor
   ·rintro ⟨c,r,e⟩
    rw [dD,decide_eq_true_eq] at e
    rcases e with e | e
    ·have:=d c r;omega
    ·exact ⟨c,r,e⟩
   ·rintro ⟨c,r,e⟩
    exact ⟨c,r,by rw [e,Bool.or_true]⟩
  rw [zYh,eU,lW,zAA,zKG (by simp only [lo,Go.Pw.hi];omega),zAA,zVQ,zUw,zAA,
   zQj (f:=upB) (fun c _ _=>by rw [zNJ,zYS]) (.inl d) B,zAA,q]
  rw [zQb];unfold zPK zJv
  rw [zAA,zAA,zKl (by simp;omega) (by simp),zAA,zUr]
  simp only [iD]
  cases zcR b<;>cases (b::t).any upB<;>cases (b::t).contains 45<;>rfl
def zXo (s:Bs):Bool:=zF1 s&&(s.map zGc==s)
theorem zSN {fu:Nat} (hfu:200<fu):zGS fu s=some (if zF1 s then (s.map zGc,0) else ([],4)):=by
 unfold zGS
 rw [zZX (by omega),zAA,zPu]
 cases hr:zF1 s
 ·rfl
 ·have:=zTy hr
  rw [zAO,zPT (by omega) (by omega),zAA];rfl
end
section
theorem zSb {o r : Type} [DecidableEq o]:∀(l:List (o × r)) (k : o) (v : r),(k∈l.map (·.1)/\(zHV l k v).map (·.1)=l.map (·.1))\/(k∉l.map (·.1)/\(zHV l k v).map (·.1)=l.map (·.1)++[k]):=by
 have d:∀(l:List (o × r)) (k : o),zIS l k=none->k∉l.map (·.1):=by
  intro l
  induction l with
  | nil=>intro k _;simp
  | cons x l E =>
   intro k h
   simp only [zIS] at h
   split at h
   ·cases h
   ·rename_i q
    simp only [lT,lD,not_or]
    exact ⟨fun e=>q e.symm,E k (jS.1 h)⟩
 intro l k v
 unfold zHV
 cases h:zIS l k with
 | none=>exact .inr ⟨d l k h,by simp⟩
 | some j =>
  obtain ⟨F,u⟩:=zJj h
  refine .inl ⟨lE.2 ⟨_,lU u,rfl⟩,?_⟩
  simp only [dK]
  have:(l.map (·.1))[j]? = some k:=by rw [lK,u];rfl
  obtain ⟨B,D⟩:=List.getElem?_eq_some_iff.1 this
  rw [<- D];exact jC B
def tbl:List Attr->List (Bs×Attr)->List (Bs×Attr)
 | [],m=>m
 | a::l,m=>tbl l (zHV m a.Name a)
theorem zYO:∀(l:List Attr) (m:List (Bs×Attr)),(m.map (·.1)).Nodup->(tbl l m).length<=m.length+l.length/\((tbl l m).length=m.length+l.length↔(l.map (·.Name)).Nodup/\∀a∈l,a.Name∉m.map (·.1))
 | [],m,_=>by simp [tbl]
 | a::l,m,hm=>by
  simp only [tbl]
  rcases zSb m a.Name a with ⟨r,o⟩ | ⟨r,o⟩
  ·have d:(zHV m a.Name a).length=m.length:=by have:=congrArg iO o;simpa using this
   have u:=zYO l (zHV m a.Name a) (by rw [o];exact hm)
   rw [d] at u
   refine ⟨by simp only [cP];omega,?_⟩
   simp only [cP]
   constructor
   ·intro h;omega
   ·rintro ⟨_,h⟩
    exact absurd r (h a (by simp))
  ·have d:(zHV m a.Name a).length=m.length+1:=by have:=congrArg iO o;simpa using this
   have u:=zYO l (zHV m a.Name a) (by rw [o,dM];exact ⟨hm,by simp,fun x hx y hy=>by simp at hy;subst hy;exact fun e=>r (e▸hx)⟩)
   rw [d,o] at u
   refine ⟨by simp only [cP];omega,?_⟩
   simp only [cP]
   rw [show m.length+(l.length+1)=m.length+1+l.length by omega,u.2]
   simp only [lT]
   constructor
   ·rintro ⟨B,q⟩
    refine ⟨lS.2 ⟨fun hm=>?_,B⟩,fun b D=>?_⟩
    ·obtain ⟨x,hx,e⟩:=lE.1 hm
     exact q x hx (cA.2 (.inr (by simp [e])))
    ·rcases lD.1 D with rfl | D
     ·exact r
     ·exact fun h=>q b D (cA.2 (.inl h))
   ·rintro ⟨B,q⟩
    obtain ⟨E,F⟩:=lS.1 B
    refine ⟨F,fun x hx h=>?_⟩
    rcases cA.1 h with h | h
    ·exact q x (by simp [hx]) h
    ·simp at h
     exact E (lE.2 ⟨x,hx,h⟩)
def zHG (l:List Attr):Bool:=decide (l.length<=40)&&((l.all fun a=>zXo a.Name&&decide (a.Value.length<=200))&&decide ((l.map (·.Name)).Nodup))
theorem zfd {fu:Nat} (o:l.length<fu) (r:l.length<=1000000):zKW fu l=some (tbl l []):=by
 unfold zKW
 have e:∀(j i k:Nat) (m:List (Bs×Attr)),i+j=l.length->j<k->zGQ l k ((i:Int),m)=some (tbl (l.drop i) m):=by
  intro j
  induction j with
  | zero =>
   intro i k m hi hk
   obtain ⟨k,rfl⟩:∃d,k=d+1:=⟨k - 1,by omega⟩
   obtain rfl:i=l.length:=by omega
   simp only [zGQ]
   rw [zAN (by simp),List.drop_length];rfl
  | succ j q =>
   intro i k m hi hk
   obtain ⟨k,rfl⟩:∃d,k=d+1:=⟨k - 1,by omega⟩
   have h:i<l.length:=by omega
   simp only [zGQ]
   rw [zAP (by simpa using h),zAT h,zAA,zBL (by omega),zAA,q (i+1) k _ (by omega) (by omega),eT h]
   rfl
 simpa using e l.length 0 fu [] (by omega) o
theorem zSB {fu:Nat} {t:Attr->Option Bool} {p:Attr->Bool} (q:∀x∈l,t x=some (p x)) (o:l.length<fu) (u:l.length<=1000000):zCG fu t l=some (l.any p):=by
 unfold zCG zBO
 obtain ⟨r,d,e⟩:=zG5 (L:=zAa t l) l p (fun i hi k=>by
  simp only [zAa]
  rw [zAP (by simpa using hi),zAT hi,zAA,q _ (gC hi),zAA,zBL (by omega),zAA]
  cases p l[i]<;>rfl) (fun k=>by simp only [zAa];rw [zAN (by simp)]) o
 rw [d,zAA,e]
theorem zeD {fu:Nat} {a:Attr} (hfu:200<fu):zEo fu a=some (!(zXo a.Name&&decide (a.Value.length<=200))):=by
 unfold zEo zXo
 rw [zSN hfu,zAA]
 have e:decide ((a.Value.length:Int)>200) = !(decide (a.Value.length<=200)):=by
  by_cases h:a.Value.length<=200
  ·rw [decide_eq_true h,decide_eq_false (by omega)];rfl
  ·rw [decide_eq_false h,decide_eq_true (by omega)];rfl
 rw [e]
 cases zF1 a.Name
 ·rfl
 ·simp only [if_true,iD]
  cases a.Name.map zGc==a.Name<;>rfl
theorem zIO (l:List α) (p : α -> Bool):(!(l.any fun x => !(p x)))=l.all p:=by
 rw [List.all_eq_not_any_not]
theorem zQV {fu:Nat} (hfu:200<fu):zHI fu l=some (zHG l):=by
 unfold zHI zHG
 rw [show decide ((l.length:Int)<=40)=decide (l.length<=40) from decide_eq_decide.2 (by omega)]
 by_cases h:l.length<=40
 ·rw [decide_eq_true h,zAO,zSB (p:=fun a => !(zXo a.Name&&decide (a.Value.length<=200))) (fun a _=>zeD hfu) (by omega) (by omega),zAA,zfd (by omega) (by omega),zAA,zIO,iD]
  have e:(((tbl l []).length:Int)==(l.length:Int))=decide ((l.map (·.Name)).Nodup):=by
   have:=zYO l [] (by simp)
   simp only [eK,dA,List.map_nil,List.not_mem_nil,not_false_eq_true,implies_true,and_true] at this
   rw [eW,beq_iff_eq,decide_eq_true_eq,<- this.2]
   omega
  rw [e]
  cases l.all fun a=>zXo a.Name&&decide (a.Value.length<=200)<;>rfl
 ·rw [decide_eq_false h];rfl
def zHx (x:Node):Bool :=
 if x.Kind=1 then zXo x.Name&&((x.Is==[]||zEP x.Is)&&(x.Data==[]&&zHG x.Attrs))
 else if x.Kind=2 then decide (x.Data.length<=200)&&(x.Name==[]&&(x.Is==[]&&decide (x.Attrs.length=0)))
 else if x.Kind=0\/x.Kind=3\/x.Kind=4 then x.Name==[]&&(x.Is==[]&&(x.Data==[]&&decide (x.Attrs.length=0)))
 else false
theorem len0 (l:List Attr):(((l.length:Int))==0)=decide (l.length=0):=by
 rw [eW,beq_iff_eq,decide_eq_true_eq];omega
theorem zew (x:Node) (c:Bs):zD1 x c=some (x.Name==[]&&(x.Is==[]&&(c==[]&&decide (x.Attrs.length=0)))):=by
 unfold zD1
 rw [len0]
 cases x.Name==([]:Bs)<;>cases x.Is==([]:Bs)<;>cases c==([]:Bs)<;>rfl
theorem zTi {fu:Nat} {x:Node} (hfu:200<fu):zGt fu x=some (zHx x):=by
 unfold zGt zHx
 simp only [zSN hfu,zQV hfu,zHW hfu,zAA,zew,zAj,zAS]
 by_cases r:x.Kind=1
 ·simp only [iP r]
  unfold zXo
  cases hr:zF1 x.Name
  ·simp
  ·simp only [if_true,iD]
   by_cases o:x.Name.map zGc=x.Name
   ·have q:(x.Name.map zGc==x.Name)=true:=by simp [o]
    simp only [iP o,q,iD]
    by_cases d:x.Is=[]
    ·simp only [d]
     by_cases e:x.Data=[]
     ·simp [e]
     ·simp [e]
    ·have B:(x.Is==([]:Bs))=false:=by simpa using d
     simp only [iN d,B,e9]
     cases zEP x.Is
     ·rfl
     ·by_cases e:x.Data=[]
      ·simp [e]
      ·simp [e]
   ·have q:(x.Name.map zGc==x.Name)=false:=by simpa using o
    simp only [iN o,q,jD]
 ·simp only [iN r]
  by_cases o:x.Kind=2
  ·simp only [iP o]
   by_cases d:x.Data.length<=200
   ·rw [iN (by omega),decide_eq_true d]
    simp
   ·rw [iP (by omega),decide_eq_false d];rfl
  ·simp only [iN o]
   by_cases d:x.Kind=0
   ·simp [d]
   ·by_cases e:x.Kind=3
    ·simp [e]
    ·by_cases u:x.Kind=4
     ·simp [u]
     ·simp [d,e,u]
def isB (ns:List Node) (n k:Int):Bool:=match idx ns n with | some y=>y.Kind==k | none=>false
def zMQ (ns:List Node) (n:Int) (x:Node):Bool:=isB ns x.Doc 0&&(x.Kind != 0||x.Doc==n)
def zGn (k:Int):Bool:=k==0||(k==1||(k==3||k==4))
def zMA (ns:List Node) (n:Int) (x:Node):Bool:=x.Parent == -1||((x.Kind==1||x.Kind==2)&&(match idx ns x.Parent with | some p=>zGn p.Kind&&p.Kids.contains n | none=>false))
def zPM (ns:List Node) (n:Int) (x:Node) (k:Int):Bool:=match idx ns k with | some y=>y.Parent==n&&(y.Doc==x.Doc&&(y.Kind==1||(y.Kind==2&&x.Kind != 0))) | none=>false
def zBM (ns:List Node) (l:List Int):Nat:=l.countP fun k=>isB ns k 1
def zEk (ns:List Node) (n:Int) (x:Node):Bool:=decide x.Kids.Nodup&&((x.Kids.all (zPM ns n x))&&((zGn x.Kind||decide (x.Kids.length=0))&&(x.Kind != 0||decide (zBM ns x.Kids<=1))))
def zOX (ns:List Node) (n:Int) (x:Node):Bool:=if x.Kind=4 then (match idx ns x.Host with | some h=>h.Kind==1&&(h.Under==n&&h.Doc==x.Doc) | none=>false) else x.Host == -1
def zLf (ns:List Node) (n:Int) (x:Node):Bool:=x.Under == -1||(x.Kind==1&&(match idx ns x.Under with | some u=>u.Kind==4&&u.Host==n | none=>false))
def upI (ns:List Node) (n:Int):Int:=match idx ns n with | some x=>if x.Parent = -1 then x.Host else x.Parent | none => -1
def zBi (ns:List Node):Nat->Int->Bool
 | 0,_=>false
 | k+1,n=>upI ns n == -1||zBi ns k (upI ns n)
def zF3 (ns:List Node) (n:Int) (x:Node):Bool:=zHx x&&(zMQ ns n x&&(zMA ns n x&&(zEk ns n x&&(zOX ns n x&&zLf ns n x))))
def zHy (ns:List Node):Bool:=(cW ns.length).all fun i=>match ns[i]? with | some x=>zF3 ns (i:Int) x | none=>true
def zP0 (ns:List Node):Bool:=(cW ns.length).all fun i=>zBi ns ns.length (i:Int)
def zAG (f:Forest):Bool:=decide (1<=f.Most)&&(decide (f.Most<=400)&&(decide (1<=f.Nodes.length)&&(decide ((f.Nodes.length:Int)<=f.Most)&&(isB f.Nodes 0 0&&(zHy f.Nodes&&zP0 f.Nodes)))))
theorem zCk {l:List α} {n:Int} (h:¬(0<=n/\n<l.length)):idx l n=none:=by
 unfold idx
 by_cases d:0<=n
 ·rw [iP d,cX (by omega)]
 ·rw [iN d]
theorem zAK {l:List α} {n:Int} (h:0<=n/\n<l.length):∃x,idx l n=some x:=by
 unfold idx
 rw [iP h.1]
 exact ⟨_,lC (by omega)⟩
theorem zAI {l:List α} {n:Int} {x : α} (h:idx l n=some x):0<=n/\n<l.length:=by
 by_cases d:0<=n/\n<l.length
 ·exact d
 ·rw [zCk d] at h;cases h
theorem zRd (fu:Nat) (v:zAR) (n:Int):zCK fu v n=some (decide (0<=n/\n<v.Forest.Nodes.length)):=by
 unfold zCK
 rw [zAS]
 by_cases h:n>=0
 ·rw [iP h];congr 1;exact decide_eq_decide.2 ⟨fun d=>⟨h,d⟩,fun d=>d.2⟩
 ·rw [iN h,decide_eq_false (by omega)]
theorem zej (fu:Nat) (v:zAR) (n k:Int):zDU fu v n k=some (isB v.Forest.Nodes n k):=by
 unfold zDU isB
 rw [zRd,zAA,zAS]
 by_cases h:0<=n/\n<v.Forest.Nodes.length
 ·obtain ⟨x,hx⟩:=zAK h
  rw [iP h,hx];rfl
 ·rw [iN h,zCk h]
theorem ze5 {fu:Nat} {n:Int} {x:Node} (hx:idx v.Forest.Nodes n=some x):zFK fu v n=some (zMQ v.Forest.Nodes n x):=by
 unfold zFK zMQ
 rw [hx,zAA,zej,zAA]
 cases isB v.Forest.Nodes x.Doc 0
 ·rfl
 ·cases x.Kind != 0<;>rfl
theorem zWG (fu:Nat) (k:Int):zF5 fu k=some (zGn k):=by
 unfold zF5 zGn
 simp only [zAj]
 by_cases d:k=0
 ·simp [d]
 by_cases e:k=1
 ·simp [e]
 by_cases o:k=3
 ·simp [o]
 by_cases q:k=4
 ·simp [q]
 simp [d,e,o,q]
theorem zTD {fu:Nat} {l:List Int} {n:Int} (o:l.length<fu) (q:l.length<=1000000):zEc fu l n=some (l.contains n):=by
 unfold zEc zCh
 obtain ⟨r,d,e⟩:=zG5 (L:=zBS l n) l (fun x=>n==x) (fun i hi k=>by
  simp only [zBS]
  rw [zAP (by simpa using hi),zAT hi,zAA,zBL (by omega),zAA]
  cases n==l[i]<;>rfl) (fun k=>by simp only [zBS];rw [zAN (by simp)]) o
 rw [d,zAA,e,jR]
def zEq (fu:Nat) (ns:List Node):Prop:=∀x∈ns,x.Kids.length<fu/\x.Kids.length<=1000000
theorem zFC {l:List α} {n:Int} {x : α} (h:idx l n=some x):x∈l:=by
 unfold idx at h
 split at h
 ·exact lU h
 ·cases h
theorem zhV {fu:Nat} {n:Int} {x:Node} (hx:idx v.Forest.Nodes n=some x) (hk:zEq fu v.Forest.Nodes):zFt fu v n=some (zMA v.Forest.Nodes n x):=by
 have o:∀b:Bool,zD2 fu v n x b=some (b&&(match idx v.Forest.Nodes x.Parent with | some p=>zGn p.Kind&&p.Kids.contains n | none=>false)):=fun b=>by
  unfold zD2
  cases b
  ·rfl
  ·rw [zAO,zRd,zAA,zAS]
   by_cases h:0<=x.Parent/\x.Parent<v.Forest.Nodes.length
   ·obtain ⟨p,q⟩:=zAK h
    have hm:=hk p (zFC q)
    rw [iP h,q,zAA,zWG,zAA,zAA,zTD hm.1 hm.2,zAA]
    simp only [iD]
    cases zGn p.Kind<;>rfl
   ·rw [iN h,zCk h];rfl
 unfold zFt zMA
 rw [hx,zAA,o,o,zAj,zAj]
 by_cases e:x.Parent = -1
 ·simp [e]
 ·rw [iN e]
  have r:(x.Parent == -1)=false:=by simpa using e
  rw [r]
  by_cases d:x.Kind=1
  ·rw [iP d,d];rfl
  ·have u:(x.Kind==1)=false:=by simpa using d
   rw [iN d,u,e9,e9]
theorem zdH {fu:Nat} {n:Int} {x:Node} (hx:idx v.Forest.Nodes n=some x):zEy fu v n=some (zOX v.Forest.Nodes n x&&zLf v.Forest.Nodes n x):=by
 have E:∀b:Bool,zBn fu v n x b=some (b&&zLf v.Forest.Nodes n x):=fun b=>by
  unfold zBn zCO zLf
  rw [zej,zAA,zAj,zAj]
  by_cases d:x.Under = -1
  ·simp [d];cases b<;>rfl
  ·rw [iN d]
   have B:(x.Under == -1)=false:=by simpa using d
   rw [B]
   by_cases o:x.Kind=1
   ·simp only [o,beq_self_eq_true,iD,e9]
    unfold isB
    by_cases e:0<=x.Under/\x.Under<v.Forest.Nodes.length
    ·obtain ⟨u,q⟩:=zAK e
     rw [q]
     simp only [zAA]
     cases b<;>cases u.Kind==4<;>rfl
    ·rw [zCk e];cases b<;>rfl
   ·have D:(x.Kind==1)=false:=by simpa using o
    simp only [iN o,D,jD,e9,jQ]
    cases b<;>rfl
 unfold zEy zOX
 rw [hx,zAA,zej,zAA]
 simp only [E,zAj]
 by_cases d:x.Kind=4
 ·rw [iP d,iP d]
  unfold isB
  by_cases e:0<=x.Host/\x.Host<v.Forest.Nodes.length
  ·obtain ⟨u,q⟩:=zAK e
   rw [q]
   simp only [zAA]
   cases u.Kind==1
   ·rfl
   ·by_cases r:u.Under=n
    ·simp [r]
    ·simp [r]
  ·rw [zCk e];rfl
 ·rw [iN d,iN d]
theorem zcY {l:List (Int×Int)} {k:Int} (o:∀p∈l,0<p.2):zLi l k 0>0↔k∈l.map (·.1):=by
 unfold zLi
 have d:∀(l:List (Int×Int)),zIS l k=none->k∉l.map (·.1):=by
  intro l
  induction l with
  | nil=>intro _;simp
  | cons x l u =>
   intro h
   simp only [zIS] at h
   split at h
   ·cases h
   ·rename_i q
    simp only [lT,lD,not_or]
    exact ⟨fun e=>q e.symm,u (jS.1 h)⟩
 cases h:zIS l k with
 | none=>simp only [Int.lt_irrefl,gt_iff_lt,false_iff];exact d l h
 | some j =>
  obtain ⟨v,r⟩:=zJj h
  simp only [r,Option.elim_some]
  exact ⟨fun _=>lE.2 ⟨_,lU r,rfl⟩,fun _=>o _ (lU r)⟩
theorem zev {l:List (Int×Int)} {k v:Int} {p:Int×Int} (h:p∈zHV l k v):p∈l\/p=(k,v):=by
 unfold zHV at h
 split at h
 ·rcases dT h with h | h
  ·exact .inl h
  ·exact .inr h
 ·simpa using h
theorem zTZ (ns:List Node) {l:List Int} {i:Nat} (h:i<l.length):zBM ns (l.take (i+1))=zBM ns (l.take i)+(if isB ns l[i] 1 then 1 else 0):=by
 unfold zBM
 rw [iE h,jE]
 simp [dG]
theorem zeZ (ns:List Node) (l:List Int):zBM ns l<=l.length:=jA
theorem zeI {fu:Nat} {n:Int} {x:Node} (hx:idx v.Forest.Nodes n=some x) (hf:x.Kids.length<fu) (hb:x.Kids.length<=1000000):zFJ fu v n=some (zEk v.Forest.Nodes n x):=by
 unfold zFJ
 rw [hx,zAA]
 let ns:=v.Forest.Nodes
 have no1:∀(i:Nat) (h:i<x.Kids.length),zPM ns n x x.Kids[i]=false->zEk ns n x=false:=fun i h hk=>by
  unfold zEk
  have:x.Kids.all (zPM ns n x)=false:=by
   rw [List.all_eq_false]
   exact ⟨_,gC h,by rw [hk];simp⟩
  rw [this];simp
 refine up (L:=zAv fu v n x) (Inv:=fun i y=>∃d:List (Int×Int),y=(((zBM ns (x.Kids.take i):Nat):Int),(i:Int),d)/\(∀k,k∈d.map (·.1)↔k∈x.Kids.take i)/\(∀p∈d,p.2=1)/\(x.Kids.take i).Nodup/\(x.Kids.take i).all (zPM ns n x)=true) (Fin:=fun r=>r=some (zEk ns n x)) x.Kids.length (fun i y hi ⟨d,hy,S,h2,h3,h4⟩=>?_) (fun y ⟨d,hy,S,h2,h3,h4⟩=>?_) (i:=0) ⟨[],rfl,by simp,by simp,by simp,by simp⟩ (Nat.zero_le _) (by omega)
 ·subst hy
  have hn:rng .i64 ((i:Int)+1)=some ((i+1:Nat):Int):=zBL (by omega)
  have hle:=zeZ ns (x.Kids.take i)
  have hlt:(x.Kids.take i).length<=i:=by simp;omega
  have hn2:rng .i64 (((zBM ns (x.Kids.take i):Nat):Int)+1)=some ((zBM ns (x.Kids.take i)+1:Nat):Int):=zBL (by omega)
  have hpos:∀p∈d,0<p.2:=fun p E=>by rw [h2 p E];decide
  have hm:=zcY (k:=x.Kids[i]) hpos
  have o:∀k,zAv fu v n x (k+1) (((zBM ns (x.Kids.take i):Nat):Int),(i:Int),d) =
    if 0<=x.Kids[i]/\x.Kids[i]<v.Forest.Nodes.length then (if zLi d x.Kids[i] 0>0 then some false else bnd (idx v.Forest.Nodes x.Kids[i]) fun y=>if y.Parent=n then (if y.Doc=x.Doc then bnd (rng .i64 (zLi d x.Kids[i] 0+1)) fun i11 =>
     (if y.Kind=1 then zAv fu v n x k (((zBM ns (x.Kids.take i)+1:Nat):Int),((i+1:Nat):Int),zHV d x.Kids[i] i11) else if y.Kind=2 then (if x.Kind=0 then some false else zAv fu v n x k (((zBM ns (x.Kids.take i):Nat):Int),((i+1:Nat):Int),zHV d x.Kids[i] i11)) else some false) else some false) else some false) else some false:=fun k=>by
   simp only [zAv]
   rw [zAP (by simpa using hi),zAT hi,zAA,zRd,zAA]
   cases hy:idx v.Forest.Nodes x.Kids[i] with
   | none=>simp only [zPu,zAS,zeK]
   | some y=>simp only [zPu,zAS,zAW,zAj,zAA,hn,hn2]
  have F:zPM ns n x x.Kids[i]=false->zEk ns n x=false:=no1 i hi
  by_cases u:0<=x.Kids[i]/\x.Kids[i]<v.Forest.Nodes.length
  case neg =>
   refine .inl ⟨some false,?_,fun k=>by rw [o,iN u]⟩
   rw [F]
   unfold zPM
   rw [show idx ns x.Kids[i]=none from zCk u]
  case pos =>
   by_cases D:zLi d x.Kids[i] 0>0
   case pos =>
    refine .inl ⟨some false,?_,fun k=>by rw [o,iP u,iP D]⟩
    have hmem:=(S _).1 (hm.1 D)
    have:¬x.Kids.Nodup:=fun hnd=>by
     rw [<- jT i x.Kids,dM] at hnd
     exact hnd.2.2 _ hmem _ (by rw [eT hi];exact lH) rfl
    unfold zEk
    rw [decide_eq_false this];rfl
   case neg =>
    have Q:x.Kids[i]∉x.Kids.take i:=fun h=>D (hm.2 ((S _).2 h))
    have h0:zLi d x.Kids[i] 0=0:=by
     unfold zLi
     cases hj:zIS d x.Kids[i] with
     | none=>rfl
     | some j =>
      obtain ⟨v0,hv⟩:=zJj hj
      exact absurd ((S _).1 (lE.2 ⟨_,lU hv,rfl⟩)) Q
    obtain ⟨y,hy⟩:=zAK u
    have J:isB ns x.Kids[i] 1=(y.Kind==1):=by unfold isB;rw [show idx ns x.Kids[i]=some y from hy]
    have B:zPM ns n x x.Kids[i]=(y.Parent==n&&(y.Doc==x.Doc&&(y.Kind==1||(y.Kind==2&&x.Kind != 0)))):=by unfold zPM;rw [show idx ns x.Kids[i]=some y from hy]
    have G:rng .i64 (zLi d x.Kids[i] 0+1)=some 1:=by rw [h0];exact zdD (by decide) (by decide)
    have next:zPM ns n x x.Kids[i]=true->(∀q,q∈(zHV d x.Kids[i] 1).map (·.1)↔q∈x.Kids.take (i+1))/\(∀p∈zHV d x.Kids[i] 1,p.2=1)/\(x.Kids.take (i+1)).Nodup/\(x.Kids.take (i+1)).all (zPM ns n x)=true:=fun hk=>by
     rw [iE hi]
     refine ⟨fun q=>?_,fun p E=>?_,?_,by rw [List.all_append,h4];simp [hk]⟩
     ·rcases zSb d x.Kids[i] 1 with ⟨W,_⟩ | ⟨_,X⟩
      ·exact absurd ((S _).1 W) Q
      ·rw [X,cA,cA,S]
     ·rcases zev E with E | rfl
      ·exact h2 p E
      ·rfl
     ·rw [dM]
      exact ⟨h3,by simp,fun a ha b hb=>by simp at hb;subst hb;exact fun e=>Q (e▸ha)⟩
    by_cases E:y.Parent=n
    case neg =>
     refine .inl ⟨some false,?_,fun k=>by rw [o,iP u,iN D,hy,zAA,iN E]⟩
     rw [F (by rw [B];simp [E])]
    case pos =>
     by_cases I:y.Doc=x.Doc
     case neg =>
      refine .inl ⟨some false,?_,fun k=>by rw [o,iP u,iN D,hy,zAA,iP E,iN I]⟩
      rw [F (by rw [B];simp [I])]
     case pos =>
      by_cases N:y.Kind=1
      case pos =>
       have hk:zPM ns n x x.Kids[i]=true:=by rw [B];simp [E,I,N]
       obtain ⟨W,X,g3,g4⟩:=next hk
       refine .inr ⟨_,⟨_,rfl,W,X,g3,g4⟩,fun k=>?_⟩
       rw [o,iP u,iN D,hy,zAA,iP E,iP I,G,zAA,iP N,zTZ ns hi,J]
       simp [N]
      case neg =>
       by_cases V:y.Kind=2
       case neg =>
        refine .inl ⟨some false,?_,fun k=>by rw [o,iP u,iN D,hy,zAA,iP E,iP I,G,zAA,iN N,iN V]⟩
        rw [F (by rw [B];simp [N,V])]
       case pos =>
        by_cases k3:x.Kind=0
        case pos =>
         refine .inl ⟨some false,?_,fun k=>by rw [o,iP u,iN D,hy,zAA,iP E,iP I,G,zAA,iN N,iP V,iP k3]⟩
         rw [F (by rw [B];simp [V,k3])]
        case neg =>
         have hk:zPM ns n x x.Kids[i]=true:=by rw [B];simp [E,I,V,k3]
         obtain ⟨W,X,g3,g4⟩:=next hk
         refine .inr ⟨_,⟨_,rfl,W,X,g3,g4⟩,fun k=>?_⟩
         rw [o,iP u,iN D,hy,zAA,iP E,iP I,G,zAA,iN N,iP V,iN k3,zTZ ns hi,J]
         simp [N]
 ·subst hy
  rw [iI] at h3 h4 ⊢
  refine ⟨some (zEk ns n x),rfl,fun k=>?_⟩
  simp only [zAv]
  rw [zAN (by simp),zWG,zAA]
  unfold zEk
  rw [decide_eq_true h3,h4,iD,iD]
  have e1:(((x.Kids.length:Int))==0)=decide (x.Kids.length=0):=by rw [eW,beq_iff_eq,decide_eq_true_eq];omega
  have e2:decide (((zBM ns x.Kids:Nat):Int)<=1)=decide (zBM ns x.Kids<=1):=decide_eq_decide.2 (by omega)
  rw [e1,e2]
  cases zGn x.Kind<;>cases decide (x.Kids.length=0)<;>cases x.Kind != 0<;>rfl
def Ups (ns:List Node):Prop:=∀(n:Int) (x:Node),idx ns n=some x->upI ns n = -1\/∃y,idx ns (upI ns n)=some y
theorem up_ok {fu:Nat} {n:Int} {x:Node} (hx:idx v.Forest.Nodes n=some x):zG1 fu v n=some (upI v.Forest.Nodes n):=by
 unfold zG1 upI
 rw [hx,zAA,zAW,zAA]
 simp only
 split<;>rfl
theorem zhJ {fu:Nat} (q:Ups v.Forest.Nodes) (u:v.Forest.Nodes.length<=1000000):∀(j t k:Nat) (n:Int) (x:Node),t+j=v.Forest.Nodes.length->j<k->idx v.Forest.Nodes n=some x->zC1 fu v k (n,(t:Int))=some (zBi v.Forest.Nodes j n):=by
 intro j
 induction j with
 | zero =>
  intro t k n x o hk hx
  obtain ⟨k,rfl⟩:∃d,k=d+1:=⟨k - 1,by omega⟩
  simp only [zC1]
  rw [zAN (by simp;omega)];rfl
 | succ j r =>
  intro t k n x o hk hx
  obtain ⟨k,rfl⟩:∃d,k=d+1:=⟨k - 1,by omega⟩
  simp only [zC1]
  rw [zAP (by simp;omega),up_ok hx,zAA,zAj,zBL (by omega),zAA]
  simp only [zBi]
  by_cases h:upI v.Forest.Nodes n = -1
  ·rw [iP h];simp [h]
  ·rw [iN h]
   rcases q n x hx with e | ⟨y,hy⟩
   ·exact absurd e h
   ·rw [r (t+1) k _ y (by omega) (by omega) hy]
    have:(upI v.Forest.Nodes n == -1)=false:=by simpa using h
    rw [this,e9]
theorem zBm {ns:List Node} (h:zHy ns=true) {n:Int} {x:Node} (hx:idx ns n=some x):zF3 ns n x=true:=by
 unfold zHy at h
 rw [lR] at h
 have hr:=zAI hx
 have:=h n.toNat (by simp;omega)
 have e:ns[n.toNat]? = some x:=by unfold idx at hx;rw [iP hr.1] at hx;exact hx
 rw [e] at this
 simpa [show ((n.toNat:Nat):Int)=n by omega] using this
theorem zLY {ns:List Node} (h:zHy ns=true):Ups ns:=by
 intro n x hx
 have r:=zBm h hx
 unfold zF3 zMA zOX at r
 simp only [lM] at r
 obtain ⟨_,_,o,_,d,_⟩:=r
 unfold upI
 rw [hx]
 simp only
 by_cases u:x.Parent = -1
 ·rw [iP u]
  by_cases B:x.Kind=4
  ·rw [iP B] at d
   cases q:idx ns x.Host with
   | none=>rw [q] at d;cases d
   | some y=>exact .inr ⟨y,rfl⟩
  ·rw [iN B] at d
   exact .inl (by simpa using d)
 ·rw [iN u]
  have e:(x.Parent == -1)=false:=by simpa using u
  rw [e,e9,lM] at o
  cases q:idx ns x.Parent with
  | none=>rw [q] at o;simp at o
  | some y=>exact .inr ⟨y,rfl⟩
theorem zSw {fu:Nat} (hfu:1000<fu) (hk:zEq fu v.Forest.Nodes):zC2 fu v=some (zAG v.Forest):=by
 unfold zC2 zAG
 rw [zAS,zAS,zAS,zAS]
 by_cases B:v.Forest.Most<1
 ·rw [iP B,decide_eq_false (show ¬1<=v.Forest.Most by omega)];rfl
 rw [iN B,decide_eq_true (show 1<=v.Forest.Most by omega)]
 by_cases D:v.Forest.Most>400
 ·rw [iP D,decide_eq_false (show ¬v.Forest.Most<=400 by omega)];rfl
 rw [iN D,decide_eq_true (show v.Forest.Most<=400 by omega)]
 by_cases E:(v.Forest.Nodes.length:Int)<1
 ·rw [iP E,decide_eq_false (show ¬1<=v.Forest.Nodes.length by omega)];rfl
 rw [iN E,decide_eq_true (show 1<=v.Forest.Nodes.length by omega)]
 by_cases F:(v.Forest.Nodes.length:Int)>v.Forest.Most
 ·rw [iP F,decide_eq_false (show ¬(v.Forest.Nodes.length:Int)<=v.Forest.Most by omega)];rfl
 rw [iN F,decide_eq_true (show (v.Forest.Nodes.length:Int)<=v.Forest.Most by omega)]
 obtain ⟨u,o⟩:=zAK (l:=v.Forest.Nodes) (n:=0) (by omega)
 rw [o,zAA,zAW]
 have G:isB v.Forest.Nodes 0 0=(u.Kind==0):=by unfold isB;rw [o]
 rw [G]
 by_cases q:u.Kind=0
 case neg =>
  rw [iN q]
  have:(u.Kind==0)=false:=by simpa using q
  rw [this];rfl
 rw [iP q,q]
 simp only [iD,beq_self_eq_true]
 have J:zHy v.Forest.Nodes=true->zBZ fu v fu 0=some (zP0 v.Forest.Nodes):=fun r=>by
  have I:=zLY r
  refine (zOl (L:=zBZ fu v) v.Forest.Nodes.length (fun i=>zBi v.Forest.Nodes v.Forest.Nodes.length (i:Int)) (some true) (fun i hi k=>?_) (fun k=>?_) (by omega)).trans ?_
  ·simp only [zBZ]
   rw [zAP (by simpa using hi)]
   unfold zHf
   have:=zhJ (fu:=fu) I (by omega) v.Forest.Nodes.length 0 fu (i:Int) _ (by omega) (by omega) (zAT hi)
   rw [show ((0:Nat):Int)=0 from rfl] at this
   rw [this,zAA,zPu,zBL (by omega),zAA]
   cases zBi v.Forest.Nodes v.Forest.Nodes.length (i:Int)<;>rfl
  ·simp only [zBZ]
   rw [zAN (by simp)]
  ·unfold zP0
   cases (cW v.Forest.Nodes.length).all fun i=>zBi v.Forest.Nodes v.Forest.Nodes.length (i:Int)<;>rfl
 refine (zOl (L:=zCm fu v) v.Forest.Nodes.length (fun i=>match v.Forest.Nodes[i]? with | some x=>zF3 v.Forest.Nodes (i:Int) x | none=>true) (zBZ fu v fu 0) (fun i hi k=>?_) (fun k=>?_) (by omega)).trans ?_
 ·have hx:=zAT hi
  have d:=hk _ (zFC hx)
  simp only [zCm]
  rw [zAP (by simpa using hi),lC hi]
  rw [hx,zAA,zTi (by omega),zAA,ze5 hx,zAA,zhV hx hk,zAA,zeI hx d.1 d.2,zAA,zdH hx,zAA,zBL (by omega),zAA]
  unfold zF3
  simp only [zPu]
  cases zHx v.Forest.Nodes[i]<;>cases zMQ v.Forest.Nodes (i:Int) v.Forest.Nodes[i]<;>cases zMA v.Forest.Nodes (i:Int) v.Forest.Nodes[i]<;>cases zEk v.Forest.Nodes (i:Int) v.Forest.Nodes[i]<;>cases (zOX v.Forest.Nodes (i:Int) v.Forest.Nodes[i]&&zLf v.Forest.Nodes (i:Int) v.Forest.Nodes[i])<;>rfl
 ·simp only [zCm]
  rw [zAN (by simp)]
 ·have e:((cW v.Forest.Nodes.length).all fun i=>match v.Forest.Nodes[i]? with | some x=>zF3 v.Forest.Nodes (i:Int) x | none=>true)=zHy v.Forest.Nodes:=rfl
  rw [e]
  cases r:zHy v.Forest.Nodes
  ·rfl
  ·rw [J r];rfl
theorem zFB {fu:Nat} {f:Forest} (hfu:1000<fu) (hk:zEq fu f.Nodes):zAu fu f=some (zAG f):=by
 unfold zAu
 rw [zSw (v:=⟨⟨f.Nodes,f.Most⟩⟩) hfu hk,zAA]
end
section
def zKo {α : Type} (l:List α) (p : α -> Bool):Int:=if l.any p=true then ((l.findIdx p:Nat):Int) else -1
theorem zSo {l:List α} {p : α -> Bool} (h:l.any p=false):zKo l p = -1:=by
 unfold zKo;rw [h];rfl
theorem zSn {l:List α} {p : α -> Bool} (h:l.any p=true):∃(i:Nat) (hi:i<l.length),zKo l p=(i:Int)/\p l[i]=true:=by
 have hi:l.findIdx p<l.length:=List.findIdx_lt_length.2 (dN.1 h)
 exact ⟨l.findIdx p,hi,by unfold zKo;rw [iP h],List.findIdx_getElem⟩
theorem zTs {l:List α} {p : α -> Bool}:zKo l p<0↔l.any p=false:=by
 constructor
 ·intro h
  cases e:l.any p with
  | false=>rfl
  | true=>obtain ⟨i,_,d,_⟩:=zSn e;omega
 ·intro h;rw [zSo h];omega
theorem zVV {L:Nat->Int->Option Int} (l:List α) (p : α -> Bool) (step:∀(i:Nat) (h:i<l.length) (k:Nat),L (k+1) (i:Int)=bif p l[i] then some (i:Int) else L k ((i+1:Nat):Int)) (d:∀k,L (k+1) (l.length:Int)=some (-1)) {k:Nat} (hk:l.length<k) :
  L k 0=some (zKo l p):=by
 have o:∀(j i k:Nat),i+j=l.length->j<k->L k (i:Int)=some (if (l.drop i).any p=true then (((l.drop i).findIdx p+i:Nat):Int) else -1):=by
  intro j
  induction j with
  | zero =>
   intro i k hi hk
   obtain ⟨k,rfl⟩:∃e,k=e+1:=⟨k - 1,by omega⟩
   obtain rfl:i=l.length:=by omega
   rw [d];simp
  | succ j q =>
   intro i k hi hk
   obtain ⟨k,rfl⟩:∃e,k=e+1:=⟨k - 1,by omega⟩
   have h:i<l.length:=by omega
   rw [step i h,eT h,List.any_cons,List.findIdx_cons]
   cases r:p l[i] with
   | true=>simp
   | false =>
    rw [q (i+1) k (by omega) (by omega)]
    simp only [cond_false,e9]
    split
    ·congr 1;omega
    ·rfl
 have:=o l.length 0 k (by omega) hk
 simpa [zKo] using this
end
section
theorem zGE {fu:Nat} {p:Int->Bool} {l:List Int} (q:∀x∈l,t x=some (p x)) (o:l.length<fu) (u:l.length<=1000000):zAe fu t l=some (l.any p):=by
 unfold zAe zAV
 obtain ⟨r,d,e⟩:=zG5 (L:=zAM t l) l p (fun i hi k=>by
  simp only [zAM]
  rw [zAP (by simpa using hi),zAT hi,zAA,q _ (gC hi),zAA,zBL (by omega),zAA]
  cases p l[i]<;>rfl) (fun k=>by simp only [zAM];rw [zAN (by simp)]) o
 rw [d,zAA,e]
def inB (f:Forest) (n:Int):Bool:=decide (0<=n/\n<f.Nodes.length)
theorem zAb {f:Forest} (h:zAG f=true):1<=f.Nodes.length/\f.Nodes.length<=400/\zHy f.Nodes=true/\zP0 f.Nodes=true:=by
 unfold zAG at h
 simp only [lM,decide_eq_true_eq] at h
 obtain ⟨q,r,d,u,B,e,o⟩:=h
 exact ⟨d,by omega,e,o⟩
theorem zOV {ns:List Node} (h:zP0 ns=true) {n:Int} (d:0<=n/\n<ns.length):zBi ns ns.length n=true:=by
 unfold zP0 at h
 rw [lR] at h
 have:=h n.toNat (by simp;omega)
 rwa [show ((n.toNat:Nat):Int)=n by omega] at this
theorem zJn {ns:List Node} (e:zHy ns=true) {n:Int} {x:Node} (hx:idx ns n=some x):∀k∈x.Kids,∃y,idx ns k=some y:=by
 intro k hk
 have h:=zBm e hx
 unfold zF3 zEk at h
 simp only [lM] at h
 obtain ⟨_,_,_,⟨_,d,_⟩,_⟩:=h
 have:=lR.1 d k hk
 unfold zPM at this
 cases hy:idx ns k with
 | none=>rw [hy] at this;cases this
 | some y=>exact ⟨y,rfl⟩
theorem rem_ok {a:Int} {n:Nat} (ha:0<=a) (d:1<=n):∃c,remI a (n:Int)=some c/\0<=c/\c<n:=by
 refine ⟨a.tmod n,iN (by omega),?_⟩
 rw [Int.tmod_eq_emod_of_nonneg ha]
 exact ⟨Int.emod_nonneg _ (by omega),Int.emod_lt_of_pos _ (by omega)⟩
def AllB (ns:List Node) (p:Int->Node->Bool):Prop:=∀n x,idx ns n=some x->p n x=true
theorem zTk {ns:List Node}:zHy ns=true↔AllB ns (zF3 ns):=by
 constructor
 ·intro h n x hx;exact zBm h hx
 ·intro h
  unfold zHy
  rw [lR]
  intro i hi
  have hi:i<ns.length:=by simpa using hi
  rw [lC hi]
  exact h i _ (zAT hi)
theorem zUv {x:Node} (h:zHx x=true):0<=x.Kind/\x.Kind<=4:=by
 unfold zHx at h
 by_cases d:x.Kind=1
 ·omega
 rw [iN d] at h
 by_cases e:x.Kind=2
 ·omega
 rw [iN e] at h
 by_cases o:x.Kind=0\/x.Kind=3\/x.Kind=4
 ·omega
 rw [iN o] at h
 cases h
theorem zL7 {ns:List Node}:∀(k:Nat) (n:Int),zBi ns k n=true->zBi ns (k+1) n=true
 | 0,_,h=>by cases h
 | k+1,n,h=>by
  rw [zBi,dD] at h ⊢
  exact h.imp id fun h=>zL7 k _ h
end
section
theorem zU4 (f:Forest) (n:Int):cnd (decide (n<0)) (some true) (some (decide (n>=(f.Nodes.length:Int))))=some (!(inB f n)):=by
 unfold inB
 rw [zAS]
 by_cases h:n<0
 ·rw [iP h,decide_eq_false (by omega)];rfl
 ·rw [iN h]
  by_cases d:n<f.Nodes.length
  ·rw [decide_eq_false (by omega),decide_eq_true (by omega)];rfl
  ·rw [decide_eq_true (by omega),decide_eq_false (by omega)];rfl
theorem zWx {fu:Nat} {f:Forest} {l:List Int} (hfu:1000<fu) (hk:zEq fu f.Nodes) (hr:zAG f=true) (d:l.length<=100):zCF fu f l=some (l.all (inB f)):=by
 unfold zCF
 rw [zFB hfu hk,zAA,hr,zAO,zGE (p:=fun n => !(inB f n)) (fun n _=>by unfold zD8;exact zU4 f n) (by omega) (by omega),zAA,zIO]
theorem zFn {fu:Nat} {f:Forest} {l:List Int} (hfu:1000<fu) (hk:zEq fu f.Nodes) (hr:zAG f=true) (d:l.length<=100):zEf fu f l=some (l.all (inB f)):=by
 unfold zEf
 rw [zFB hfu hk,zAA,hr,zAO,zGE (p:=fun n => !(inB f n)) (fun n _=>by unfold zFA;exact zU4 f n) (by omega) (by omega),zAA,zIO]
def zWZ (ns:List Node) (a:Int):Nat->Int->Bool
 | 0,b=>b==a
 | k+1,b=>if b = -1\/b=a then b==a else zWZ ns a k (upI ns b)
def zQ9 (f:Forest) (a b:Int):Bool:=zWZ f.Nodes a (f.Nodes.length+1) b
theorem sup_ok {fu:Nat} {f:Forest} {n:Int} {x:Node} (hx:idx f.Nodes n=some x):zHR fu f n=some (upI f.Nodes n):=by
 unfold zHR upI
 rw [hx,zAA,zAW,zAA]
 simp only
 split<;>rfl
theorem zcl {fu:Nat} {f:Forest} {a:Int} (D:Ups f.Nodes):∀(k q:Nat) (b:Int),(b = -1\/((∃x,idx f.Nodes b=some x)/\zBi f.Nodes k b=true))->k+1<q->zDd fu f a q b=some (zWZ f.Nodes a (k+1) b):=by
 intro k
 induction k with
 | zero =>
  intro q b r B
  obtain ⟨q,rfl⟩:∃u,q=u+1:=⟨q - 1,by omega⟩
  rcases r with rfl | ⟨_,h⟩
  ·simp only [zDd]
   rw [zAW,iP rfl]
   simp only [zWZ,true_or,if_true]
  ·simp [zBi] at h
 | succ k E =>
  intro q b r B
  obtain ⟨q,rfl⟩:∃u,q=u+1:=⟨q - 1,by omega⟩
  simp only [zDd]
  rw [zAW,zAW]
  rcases r with rfl | ⟨⟨x,hx⟩,h⟩
  ·rw [iP rfl]
   simp only [zWZ,true_or,if_true]
  ·by_cases d:b = -1
   ·rw [iP d]
    simp only [zWZ,d,true_or,if_true]
   ·rw [iN d]
    by_cases e:b=a
    ·rw [iP e]
     simp only [zWZ,e,or_true,if_true]
    ·rw [iN e,sup_ok hx,zAA,E q _ ?_ (by omega)]
     ·conv=>rhs;rw [zWZ]
      rw [iN (by simp [d,e])]
     ·simp only [zBi,dD,beq_iff_eq] at h
      rcases h with h | h
      ·exact .inl h
      ·rcases D b x hx with o | o
       ·exact .inl o
       ·exact .inr ⟨o,h⟩
theorem zX9 {fu:Nat} {f:Forest} {a b:Int} (hfu:1000<fu) (hk:zEq fu f.Nodes) (hr:zAG f=true) (ha:inB f a=true) (e:inB f b=true):zEb fu f a b=some (zQ9 f a b):=by
 obtain ⟨_,r,o,q⟩:=zAb hr
 unfold zEb zQ9
 rw [zWx hfu hk hr (by simp),zAA]
 simp only [cK,iQ,ha,e,iR,iA,zAD]
 have d:0<=b/\b<f.Nodes.length:=by unfold inB at e;simpa using e
 exact zcl (zLY o) f.Nodes.length fu b (.inr ⟨zAK d,zOV q d⟩) (by omega)
def zEJ (ns:List Node) (gone:Int) (l:List Int) (kind:Int):Nat:=l.countP fun k=>k != gone&&isB ns k kind
theorem zX3 {fu:Nat} {l:zAl} {kind:Int} (r:∀k∈nodes,∃x,idx l.Forest.Nodes k=some x) (e:nodes.length<fu) (D:nodes.length<=1000000):zCi fu l nodes kind=some ((zEJ l.Forest.Nodes l.gone nodes kind:Nat):Int):=by
 unfold zCi
 have:=upf (L:=zBp fu l nodes kind) (f:=fun i=>(((zEJ l.Forest.Nodes l.gone (nodes.take i) kind:Nat):Int),(i:Int))) (v:=some ((zEJ l.Forest.Nodes l.gone nodes kind:Nat):Int)) nodes.length (fun i hi k=>?_) (fun k=>?_) e
 ·simpa [zEJ] using this
 ·obtain ⟨x,hx⟩:=r _ (gC hi)
  have o:zEJ l.Forest.Nodes l.gone (nodes.take i) kind<=(nodes.take i).length:=jA
  have q:(nodes.take i).length<=i:=by simp;omega
  have hs:zEJ l.Forest.Nodes l.gone (nodes.take (i+1)) kind=zEJ l.Forest.Nodes l.gone (nodes.take i) kind+(if (nodes[i] != l.gone&&isB l.Forest.Nodes nodes[i] kind)=true then 1 else 0):=by
   unfold zEJ
   rw [iE hi,jE]
   simp [dG]
  have d:isB l.Forest.Nodes nodes[i] kind=(x.Kind==kind):=by unfold isB;rw [hx]
  simp only [zBp]
  rw [zAP (by simpa using hi),zAT hi,zAA,zBL (by omega),hs,d]
  unfold zAf
  rw [hx,zBL (by omega)]
  simp only [zAA]
  cases u:nodes[i] != l.gone
  ·rfl
  ·cases B:x.Kind==kind<;>rfl
 ·simp only [zBp]
  rw [zAN (by simp),iI]
def zGg (ns:List Node) (p gone:Int) (l:List Int):Bool:=decide (0<zEJ ns gone l 2)||(decide (0<zEJ ns gone l 1)&&(match idx ns p with | some y=>decide (1<zEJ ns gone l 1+zEJ ns gone y.Kids 1) | none=>false))
theorem zTU {fu:Nat} {l:zAl} {y:Node} (e:zHy l.Forest.Nodes=true) (o:idx l.Forest.Nodes l.p=some y) (hk:zEq fu l.Forest.Nodes) (D:∀k∈nodes,∃x,idx l.Forest.Nodes k=some x) (B:nodes.length<fu) (u:nodes.length<=1000000):zBo fu l nodes=some (zGg l.Forest.Nodes l.p l.gone nodes):=by
 have d:=hk _ (zFC o)
 have E:zEJ l.Forest.Nodes l.gone nodes 1<=nodes.length:=jA
 have F:zEJ l.Forest.Nodes l.gone y.Kids 1<=y.Kids.length:=jA
 unfold zBo zGg
 rw [zX3 D B u,zAA,zX3 D B u,zAA,zAA,o,zAA,zX3 (zJn e o) d.1 d.2,zAA,zdD (by omega) (by omega),zAA,zAS,zAS]
 by_cases q:0<zEJ l.Forest.Nodes l.gone nodes 2
 ·rw [iP (by omega),decide_eq_true q];rfl
 ·rw [iN (by omega),decide_eq_false q,e9]
  by_cases r:0<zEJ l.Forest.Nodes l.gone nodes 1
  ·rw [iP (by omega),decide_eq_true r,iD]
   congr 1
   exact decide_eq_decide.2 (by omega)
  ·rw [iN (by omega),decide_eq_false r];rfl
def zQJ (f:Forest) (n p _child gone:Int) (x y:Node) (d:Bool):Int :=
 if zGn y.Kind=false then 5 else if zQ9 f n p=true then 5 else if d=false then 6 else if x.Kind=0\/x.Kind=4 then 5
 else if y.Kind=0 then (if zGg f.Nodes p gone (if x.Kind=3 then x.Kids else [n])=true then 5 else 0) else 0
theorem zYP {fu:Nat} {f:Forest} {n p gone:Int} {x y:Node} (hfu:1000<fu) (hk:zEq fu f.Nodes) (hr:zAG f=true) (hx:idx f.Nodes n=some x) (hy:idx f.Nodes p=some y) (hc:child = -1\/∃z,idx f.Nodes child=some z) :
  zDR fu ⟨⟨f.Nodes,f.Most⟩,p,child,gone⟩ n=some (zQJ f n p child gone x y (child == -1||(match idx f.Nodes child with | some z=>z.Parent==p | none=>false))):=by
 obtain ⟨_,V,o,_⟩:=zAb hr
 have G:inB f n=true:=by unfold inB;exact decide_eq_true (zAI hx)
 have I:inB f p=true:=by unfold inB;exact decide_eq_true (zAI hy)
 have S:zEb fu f n p=some (zQ9 f n p):=zX9 hfu hk hr G I
 have kx:zAf fu ⟨⟨f.Nodes,f.Most⟩,p,child,gone⟩ n=some x.Kind:=by unfold zAf;rw [hx];rfl
 have W:zAf fu ⟨⟨f.Nodes,f.Most⟩,p,child,gone⟩ p=some y.Kind:=by unfold zAf;rw [hy];rfl
 have D:=hk _ (zFC hx)
 have E:zBo fu ⟨⟨f.Nodes,f.Most⟩,p,child,gone⟩ x.Kids=some (zGg f.Nodes p gone x.Kids):=zTU (l:=⟨⟨f.Nodes,f.Most⟩,p,child,gone⟩) o hy hk (zJn o hx) D.1 D.2
 have F:zBo fu ⟨⟨f.Nodes,f.Most⟩,p,child,gone⟩ [n]=some (zGg f.Nodes p gone [n]):=zTU (l:=⟨⟨f.Nodes,f.Most⟩,p,child,gone⟩) o hy hk (fun k B=>by simp at B;subst B;exact ⟨x,hx⟩) (by simp;omega) (by simp)
 have u:∀t:Bool,zEE fu ⟨⟨f.Nodes,f.Most⟩,p,child,gone⟩ n x.Kind t=some (if t=true then 5 else if y.Kind=0 then (if zGg f.Nodes p gone (if x.Kind=3 then x.Kids else [n])=true then 5 else 0) else 0):=fun t=>by
  unfold zEE
  simp only [W,zAA,zAj,F,E,hx]
  cases t
  ·rw [zAD]
   by_cases q:x.Kind=3
   ·simp only [iP q,zf6]
    by_cases d:y.Kind=0
    ·simp only [iP d]
     cases zGg f.Nodes p gone x.Kids<;>rfl
    ·simp only [iN d];rfl
   ·simp only [iN q,zf6]
    by_cases d:y.Kind=0
    ·simp only [iP d]
     cases zGg f.Nodes p gone [n]<;>rfl
    ·simp only [iN d];rfl
  ·rfl
 have Q:zED fu ⟨⟨f.Nodes,f.Most⟩,p,child,gone⟩ n ()=some (if x.Kind=0\/x.Kind=4 then 5 else if y.Kind=0 then (if zGg f.Nodes p gone (if x.Kind=3 then x.Kids else [n])=true then 5 else 0) else 0):=by
  unfold zED
  rw [kx,zAA,u,u,zAj]
  by_cases d:x.Kind=0
  ·simp [d]
  ·by_cases r:x.Kind=4
   ·simp [r]
   ·simp [d,r]
 have N:∀(h c:Bool),zEC fu ⟨⟨f.Nodes,f.Most⟩,p,child,gone⟩ n h c=some (if h=false then 5 else if zQ9 f n p=true then 5 else if c=false then 6 else if x.Kind=0\/x.Kind=4 then 5 else if y.Kind=0 then (if zGg f.Nodes p gone (if x.Kind=3 then x.Kids else [n])=true then 5 else 0) else 0):=fun h c=>by
  unfold zEC
  rw [show zEb fu (⟨⟨f.Nodes,f.Most⟩,p,child,gone⟩:zAl).Forest n (⟨⟨f.Nodes,f.Most⟩,p,child,gone⟩:zAl).p=some (zQ9 f n p) from S,zAA,Q]
  cases h
  ·rfl
  ·cases zQ9 f n p
   ·cases c<;>rfl
   ·rfl
 have J:∀h:Bool,zAr fu ⟨⟨f.Nodes,f.Most⟩,p,child,gone⟩ n h=some (if h=false then 5 else if zQ9 f n p=true then 5 else if (child == -1||(match idx f.Nodes child with | some z=>z.Parent==p | none=>false))=false then 6 else if x.Kind=0\/x.Kind=4 then 5 else if y.Kind=0 then (if zGg f.Nodes p gone (if x.Kind=3 then x.Kids else [n])=true then 5 else 0) else 0):=fun h=>by
  unfold zAr
  simp only [N,zAW]
  by_cases e:child = -1
  ·simp [e]
  ·have X:(child == -1)=false:=by simpa using e
   rw [iN e,X]
   rcases hc with h2 | ⟨z,hz⟩
   ·exact absurd h2 e
   ·rw [hz];rfl
 unfold zDR zQJ
 rw [show zAf fu ⟨⟨f.Nodes,f.Most⟩,p,child,gone⟩ (⟨⟨f.Nodes,f.Most⟩,p,child,gone⟩:zAl).p=some y.Kind from W,zAA]
 simp only [J,zAj]
 unfold zGn
 by_cases d:y.Kind=0
 ·simp [d]
 by_cases e:y.Kind=1
 ·simp [e]
 by_cases q:y.Kind=3
 ·simp [q]
 by_cases r:y.Kind=4
 ·simp [r]
 simp [d,e,q,r]
theorem zcX {fu:Nat} {f:Forest} {n p:Int} {x y:Node} (hfu:1000<fu) (hk:zEq fu f.Nodes) (hr:zAG f=true) (hx:idx f.Nodes n=some x) (hy:idx f.Nodes p=some y) (q:child = -1\/∃z,idx f.Nodes child=some z) :
  zEw fu f n p child=some (zQJ f n p child (-1) x y (child == -1||(match idx f.Nodes child with | some z=>z.Parent==p | none=>false))):=by
 have e:inB f n=true:=by unfold inB;exact decide_eq_true (zAI hx)
 have o:inB f p=true:=by unfold inB;exact decide_eq_true (zAI hy)
 unfold zEw
 rw [zFn hfu hk hr (by simp),zAA,zYP hfu hk hr hx hy q,zAA,zAW]
 simp only [cK,iQ,e,o,iR,iA,zAD]
 by_cases d:child = -1
 ·rw [iP d]
 ·rw [iN d,zFn hfu hk hr (by simp),zAA]
  rcases q with r | ⟨z,hz⟩
  ·exact absurd r d
  ·have:inB f child=true:=by unfold inB;exact decide_eq_true (zAI hz)
   simp only [cK,iQ,this,iR,iA,zAD]
theorem ziL {fu:Nat} {f:Forest} {n p:Int} {x y z:Node} (hfu:1000<fu) (hk:zEq fu f.Nodes) (hr:zAG f=true) (hx:idx f.Nodes n=some x) (hy:idx f.Nodes p=some y) (hz:idx f.Nodes child=some z) :
  zEe fu f n p child=some (zQJ f n p child child x y (z.Parent==p)):=by
 have d:inB f n=true:=by unfold inB;exact decide_eq_true (zAI hx)
 have e:inB f p=true:=by unfold inB;exact decide_eq_true (zAI hy)
 have o:inB f child=true:=by unfold inB;exact decide_eq_true (zAI hz)
 have r:=zAI hz
 have q:(child == -1)=false:=by simp;omega
 unfold zEe zHr
 rw [zFn hfu hk hr (by simp),zAA,zFn hfu hk hr (by simp),zAA,zYP hfu hk hr hx hy (.inr ⟨z,hz⟩),zAA,zAW,iN (by omega),q,hz]
 simp only [cK,iQ,d,e,o,iR,iA,zAD,e9]
end
section
def InN (ns:List Node) (n:Int):Prop:=0<=n/\n<ns.length
def zHa (ns:List Node) (n:Int):Int:=match idx ns n with | some x=>x.Parent | none => -1
def zLV (ns:List Node) (n:Int):List Int:=match idx ns n with | some x=>x.Kids | none=>[]
def zQY (ns:List Node):Nat->Int->Prop
 | 0,_=>False
 | k+1,n=>zHa ns n = -1\/zQY ns k (zHa ns n)
def zd3 (ns:List Node):Nat->Int->List Int
 | 0,_=>[]
 | k+1,n=>n::(if zHa ns n = -1 then [] else zd3 ns k (zHa ns n))
def way (ns:List Node) (n:Int):List Int:=zd3 ns ns.length n
def allF (ns:List Node):Nat->Int->List Int
 | 0,_=>[]
 | k+1,n=>n::(zLV ns n).flatMap (allF ns k)
def zK6 (ns:List Node) (n:Int):List Int:=allF ns ns.length n
def zVL (ns:List Node):Nat->Int->Int
 | 0,n=>n
 | k+1,n=>if zHa ns n = -1 then n else zVL ns k (zHa ns n)
def zQF (ns:List Node) (n:Int):Int:=zVL ns ns.length n
structure Tree (ns:List Node):Prop where
 kid:∀n k,k∈zLV ns n->InN ns n/\InN ns k/\zHa ns k=n
 par:∀x,InN ns x->zHa ns x ≠ -1->InN ns (zHa ns x)/\x∈zLV ns (zHa ns x)
 nod:∀n,(zLV ns n).Nodup
 fin:∀n,InN ns n->zQY ns ns.length n
theorem zVT {ns:List Node} (r:zHy ns=true) (B:zP0 ns=true):Tree ns where
 kid n k hk:=by
  unfold zLV at hk
  cases hx:idx ns n with
  | none=>rw [hx] at hk;simp at hk
  | some x =>
   rw [hx] at hk
   have h:=zBm r hx
   unfold zF3 zEk at h
   simp only [lM] at h
   obtain ⟨_,_,_,⟨_,u,_⟩,_⟩:=h
   have:=lR.1 u k hk
   unfold zPM at this
   cases hy:idx ns k with
   | none=>rw [hy] at this;cases this
   | some y =>
    rw [hy] at this
    simp only [lM,beq_iff_eq] at this
    refine ⟨zAI hx,zAI hy,?_⟩
    unfold zHa;rw [hy];exact this.1
 par x hx d:=by
  obtain ⟨y,hy⟩:=zAK hx
  have e:zHa ns x=y.Parent:=by unfold zHa;rw [hy]
  rw [e] at d ⊢
  have h:=zBm r hy
  unfold zF3 zMA at h
  simp only [lM] at h
  obtain ⟨_,_,o,_⟩:=h
  have e:(y.Parent == -1)=false:=by simpa using d
  rw [e,e9,lM] at o
  cases q:idx ns y.Parent with
  | none=>rw [q] at o;simp at o
  | some p =>
   rw [q] at o
   simp only [lM] at o
   refine ⟨zAI q,?_⟩
   unfold zLV;rw [q]
   exact e7.1 o.2.2
 nod n:=by
  unfold zLV
  cases hx:idx ns n with
  | none=>simp
  | some x =>
   have h:=zBm r hx
   unfold zF3 zEk at h
   simp only [lM,decide_eq_true_eq] at h
   exact h.2.2.2.1.1
 fin n h:=by
  have:=zOV B h
  revert this
  generalize ns.length=k
  clear h
  intro h
  induction k generalizing n with
  | zero=>cases h
  | succ k D =>
   simp only [zBi,dD,beq_iff_eq] at h
   simp only [zQY]
   by_cases d:zHa ns n = -1
   ·exact .inl d
   ·have e:upI ns n=zHa ns n:=by
     unfold upI;unfold zHa at d ⊢
     cases hx:idx ns n with
     | none=>rfl
     | some x=>rw [hx] at d;simp only at d ⊢;rw [iN d]
    rw [e] at h
    rcases h with h | h
    ·exact absurd h d
    ·exact .inr (D _ h)
theorem InN.pos {ns:List Node} {n:Int} (h:InN ns n):∃M,ns.length=M+1:=⟨ns.length - 1,by unfold InN at h;omega⟩
theorem InN.ne {ns:List Node} {n:Int} (h:InN ns n):n ≠ -1:=by unfold InN at h;omega
theorem zW7 {ns:List Node}:∀(k:Nat) (n:Int),zQY ns k n->∀j,k<=j->zd3 ns j n=zd3 ns k n
 | 0,_,h,_,_=>h.elim
 | k+1,n,h,j,hj=>by
  obtain ⟨j,rfl⟩:∃e,j=e+1:=⟨j - 1,by omega⟩
  simp only [zd3]
  by_cases d:zHa ns n = -1
  ·rw [iP d,iP d]
  ·rw [iN d,iN d,zW7 k _ (h.resolve_left d) j (by omega)]
theorem zTz {ns:List Node}:∀(k:Nat) (n:Int),zQY ns k n->∀j,k<=j->zVL ns j n=zVL ns k n
 | 0,_,h,_,_=>h.elim
 | k+1,n,h,j,hj=>by
  obtain ⟨j,rfl⟩:∃e,j=e+1:=⟨j - 1,by omega⟩
  simp only [zVL]
  by_cases d:zHa ns n = -1
  ·rw [iP d,iP d]
  ·rw [iN d,iN d,zTz k _ (h.resolve_left d) j (by omega)]
theorem zZk {ns:List Node}:∀(k:Nat) (n:Int),(zd3 ns k n).length<=k
 | 0,_=>by simp [zd3]
 | k+1,n=>by
  simp only [zd3,cP]
  split
  ·simp
  ·have:=zZk (ns:=ns) k (zHa ns n);omega
section
variable {ns:List Node} (T:Tree ns)
include T
theorem Tree.climb {n:Int} (h:InN ns n) {M:Nat} (d:ns.length=M+1):zHa ns n = -1\/zQY ns M (zHa ns n):=by
 have:=T.fin n h
 rw [d] at this
 exact this
theorem Tree.way_eq {n:Int} (h:InN ns n):way ns n=n::(if zHa ns n = -1 then [] else way ns (zHa ns n)):=by
 obtain ⟨M,e⟩:=h.pos
 have o:=T.climb h e
 unfold way
 rw [e]
 simp only [zd3]
 by_cases d:zHa ns n = -1
 ·rw [iP d,iP d]
 ·rw [iN d,iN d]
  have:=zW7 M _ (o.resolve_left d) (M+1) (by omega)
  simp only [zd3] at this
  rw [this]
theorem Tree.root_eq {n:Int} (h:InN ns n):zQF ns n=if zHa ns n = -1 then n else zQF ns (zHa ns n):=by
 obtain ⟨M,e⟩:=h.pos
 have o:=T.climb h e
 unfold zQF
 rw [e]
 simp only [zVL]
 by_cases d:zHa ns n = -1
 ·rw [iP d,iP d]
 ·rw [iN d,iN d]
  have:=zTz M _ (o.resolve_left d) (M+1) (by omega)
  simp only [zVL] at this
  rw [this]
theorem Tree.up_ind (h:∀n,InN ns n->(zHa ns n ≠ -1->C (zHa ns n))->C n):∀n,InN ns n->C n:=by
 have e:∀(k:Nat) (n:Int),InN ns n->zQY ns k n->C n:=by
  intro k
  induction k with
  | zero=>intro n _ h;exact h.elim
  | succ k r =>
   intro n d q
   exact h n d fun o=>r _ (T.par n d o).1 (q.resolve_left o)
 exact fun n d=>e _ n d (T.fin n d)
theorem Tree.way_kid {n k:Int} (hk:k∈zLV ns n):way ns k=k::way ns n:=by
 obtain ⟨d,e,o⟩:=T.kid n k hk
 rw [T.way_eq e,o,iN d.ne]
theorem Tree.way_len {n:Int} (h:InN ns n):1<=(way ns n).length/\(way ns n).length<=ns.length:=by
 refine ⟨?_,zZk _ _⟩
 rw [T.way_eq h];simp
theorem Tree.down_ind (h:∀n,InN ns n->(∀k,k∈zLV ns n->C k)->C n):∀n,InN ns n->C n:=by
 have o:∀(d:Nat) (n:Int),InN ns n->ns.length<(way ns n).length+d->C n:=by
  intro d
  induction d with
  | zero=>intro n e q;have:=T.way_len e;omega
  | succ d r =>
   intro n e q
   exact h n e fun k hk=>r k (T.kid n k hk).2.1 (by rw [T.way_kid hk,cP];omega)
 exact fun n e=>o ns.length n e (by have:=T.way_len e;omega)
theorem Tree.allF_stab:∀(d:Nat) (n:Int),InN ns n->ns.length<(way ns n).length+d->∀j,allF ns (d+j) n=allF ns d n:=by
 intro d
 induction d with
 | zero=>intro n e o;have:=T.way_len e;omega
 | succ d q =>
  intro n e o j
  rw [show d+1+j=d+j+1 by omega]
  simp only [allF,iS]
  rw [iM fun k hk=>q k (T.kid n k hk).2.1 (by rw [T.way_kid hk,cP];omega) j]
theorem Tree.all_eq {n:Int} (h:InN ns n):zK6 ns n=n::(zLV ns n).flatMap (zK6 ns):=by
 obtain ⟨M,d⟩:=h.pos
 have hs:=T.allF_stab
 have e:=T.way_len h
 unfold zK6
 rw [d]
 conv=>lhs;simp only [allF]
 rw [iS,iS,iM fun k hk=>(hs M k (T.kid n k hk).2.1 (by rw [T.way_kid hk,cP];omega) 1).symm]
theorem Tree.way_self {n:Int} (h:InN ns n):n∈way ns n:=by rw [T.way_eq h];simp
theorem Tree.way_in:∀x,InN ns x->∀y∈way ns x,InN ns y:=T.up_ind fun x hx e y hy=>by
 rw [T.way_eq hx] at hy
 rcases lD.1 hy with rfl | hy
 ·exact hx
 ·split at hy
  ·simp at hy
  ·rename_i d;exact e d y hy
theorem Tree.way_suffix:∀x,InN ns x->∀y∈way ns x,way ns y <:+ way ns x:=T.up_ind fun x hx o y hy=>by
 have e:=T.way_eq hx
 rw [e] at hy
 rcases lD.1 hy with rfl | hy
 ·exact jF _
 ·split at hy
  ·simp at hy
  ·rename_i d
   rw [e,iN d]
   exact (o d y hy).trans (jG _ _)
theorem Tree.way_trans {x y z:Int} (hz:InN ns z) (d:x∈way ns y) (e:y∈way ns z):x∈way ns z:=(T.way_suffix z hz y e).subset d
theorem Tree.way_inj {x y:Int} (hx:InN ns x) (hy:InN ns y) (h:way ns x=way ns y):x=y:=by
 rw [T.way_eq hx,T.way_eq hy] at h
 exact (dU.inj h).1
theorem Tree.way_same {x y z:Int} (hz:InN ns z) (d:x∈way ns z) (e:y∈way ns z) (o:(way ns x).length=(way ns y).length):x=y :=
 T.way_inj (T.way_in z hz x d) (T.way_in z hz y e) ((jU (T.way_suffix z hz x d) (T.way_suffix z hz y e) (by omega)).eq_of_length o)
end
end
section
theorem zM3:∀(N:Nat) (l:List Int),l.Nodup->(∀x∈l,0<=x/\x<N)->l.length<=N
 | 0,l,_,h=>by
  cases l with
  | nil=>simp
  | cons x l=>have:=h x (by simp);omega
 | N+1,l,hl,h=>by
  have d:=zM3 N (l.erase (N:Int)) (hl.erase _) fun x hx=>by
   rw [hl.mem_erase_iff] at hx
   have:=h x hx.2
   have:=hx.1
   omega
  rw [List.length_erase] at d
  split at d<;>omega
section
variable {ns:List Node} (T:Tree ns)
include T
theorem Tree.kid_way {n k x:Int} (hx:InN ns x) (hk:k∈zLV ns n) (h:k∈way ns x):n∈way ns x :=
 T.way_trans hx (by rw [T.way_kid hk];exact lG _ (T.way_self (T.kid n k hk).1)) h
theorem Tree.all_in:∀n,InN ns n->∀x∈zK6 ns n,InN ns x/\n∈way ns x:=T.down_ind fun n d q x hx=>by
 rw [T.all_eq d] at hx
 rcases lD.1 hx with rfl | hx
 ·exact ⟨d,T.way_self d⟩
 ·obtain ⟨k,hk,hx⟩:=iB.1 hx
  obtain ⟨e,o⟩:=q k hk x hx
  exact ⟨e,T.kid_way e hk o⟩
theorem Tree.all_self {n:Int} (d:InN ns n):n∈zK6 ns n:=by rw [T.all_eq d];simp
theorem Tree.all_kid:∀n,InN ns n->∀y∈zK6 ns n,∀k∈zLV ns y,k∈zK6 ns n:=T.down_ind fun n o q y hy k hk=>by
 rw [T.all_eq o] at hy ⊢
 rcases lD.1 hy with rfl | hy
 ·exact lG _ (iB.2 ⟨k,hk,T.all_self (T.kid _ k hk).2.1⟩)
 ·obtain ⟨e,d,hy⟩:=iB.1 hy
  exact lG _ (iB.2 ⟨e,d,q e d y hy k hk⟩)
theorem Tree.mem_all {n:Int} (e:InN ns n):∀x,InN ns x->n∈way ns x->x∈zK6 ns n:=T.up_ind fun x hx q h=>by
 have d:=h
 rw [T.way_eq hx] at d
 rcases lD.1 d with rfl | d
 ·exact T.all_self e
 ·split at d
  ·simp at d
  ·rename_i o
   exact T.all_kid n e _ (q o d) x (T.par x hx o).2
theorem Tree.kids_disj {n k e x:Int} (hk:k∈zLV ns n) (d:e∈zLV ns n) (h:x∈zK6 ns k) (q:x∈zK6 ns e):k=e:=by
 have o:=T.all_in k (T.kid n k hk).2.1 x h
 have r:=T.all_in e (T.kid n e d).2.1 x q
 exact T.way_same o.1 o.2 r.2 (by rw [T.way_kid hk,T.way_kid d];simp)
theorem Tree.all_nodup:∀n,InN ns n->(zK6 ns n).Nodup:=T.down_ind fun n r B=>by
 rw [T.all_eq r,lS]
 refine ⟨fun h=>?_,?_⟩
 ·obtain ⟨k,hk,h⟩:=iB.1 h
  have u:=(T.all_in k (T.kid n k hk).2.1 n h).2
  have q:=T.way_suffix n r k u
  rw [T.way_kid hk] at q
  have:=q.length_le
  simp at this
  omega
 ·rw [List.Nodup,jV]
  refine ⟨fun k hk=>B k hk,?_⟩
  refine (T.nod n).imp_of_mem fun hk d o x hx y hy e=>?_
  subst e
  exact o (T.kids_disj hk d hx hy)
theorem Tree.all_len {n:Int} (d:InN ns n):(zK6 ns n).length<=ns.length:=zM3 _ _ (T.all_nodup n d) fun x hx=>(T.all_in n d x hx).1
theorem Tree.root_way:∀n,InN ns n->zQF ns n∈way ns n/\zHa ns (zQF ns n) = -1:=T.up_ind fun n e o=>by
 rw [T.root_eq e,T.way_eq e]
 by_cases d:zHa ns n = -1
 ·rw [iP d,iP d];exact ⟨by simp,d⟩
 ·rw [iN d,iN d];exact ⟨lG _ (o d).1,(o d).2⟩
theorem Tree.root_in {n:Int} (d:InN ns n):InN ns (zQF ns n):=T.way_in n d _ (T.root_way n d).1
theorem Tree.root_same:∀x,InN ns x->∀y∈way ns x,zQF ns x=zQF ns y:=T.up_ind fun x hx e y hy=>by
 rw [T.way_eq hx] at hy
 rcases lD.1 hy with rfl | hy
 ·rfl
 ·split at hy
  ·simp at hy
  ·rename_i d
   rw [T.root_eq hx,iN d]
   exact e d y hy
theorem Tree.root_top {n:Int} (d:InN ns n) (e:zHa ns n = -1):zQF ns n=n:=by rw [T.root_eq d,iP e]
theorem Tree.between:∀n,InN ns n->∀c∈zK6 ns n,c≠n->∃A B C,zK6 ns n=A++zHa ns c::(B++c::C)/\∀b∈B,InN ns b/\zHa ns c∈way ns b/\c∉way ns b:=T.down_ind fun n X ih c F I=>by
 have e:=T.all_eq X
 rw [e] at F
 obtain ⟨k,hk,F⟩:=iB.1 ((lD.1 F).resolve_left I)
 obtain ⟨J,N,hK⟩:=jH hk
 rw [hK,iG,iH] at e
 by_cases r:c=k
 ·subst r
  have q:=T.kid n c hk
  rw [T.all_eq q.2.1] at e
  rw [q.2.2]
  refine ⟨[],J.flatMap (zK6 ns),(zLV ns c).flatMap (zK6 ns)++N.flatMap (zK6 ns),by rw [e];simp,fun b E=>?_⟩
  obtain ⟨D,u,E⟩:=iB.1 E
  have d:D∈zLV ns n:=by rw [hK];simp [u]
  have o:=T.all_in D (T.kid n D d).2.1 b E
  refine ⟨o.1,T.kid_way o.1 d o.2,fun h=>?_⟩
  have G:=T.mem_all q.2.1 b o.1 h
  have W:=T.kids_disj d hk E G
  subst W
  have Q:=T.nod n
  rw [hK,dM] at Q
  exact Q.2.2 D u D (by simp) rfl
 ·obtain ⟨A,B,C,S,V⟩:=ih k hk c F r
  rw [S] at e
  exact ⟨n::(J.flatMap (zK6 ns)++A),B,C++N.flatMap (zK6 ns),by rw [e];simp,V⟩
end
end
section
def zb5 (l:List Int) (n:Int):Int:=if n∈l then ((l.idxOf n:Nat):Int) else -1
theorem zZh {L:Nat->Int->Option Int} (l:List Int) (n:Int) (step:∀(i:Nat) (h:i<l.length) (k:Nat),L (k+1) (i:Int)=if l[i]=n then some (i:Int) else L k ((i+1:Nat):Int)) (o:∀k,L (k+1) (l.length:Int)=some (-1)) {k:Nat} (hk:l.length<k):L k 0=some (zb5 l n):=by
 have r:∀(j i k:Nat),i+j=l.length->j<k->L k (i:Int)=some (if n∈l.drop i then (((l.drop i).idxOf n+i:Nat):Int) else -1):=by
  intro j
  induction j with
  | zero =>
   intro i k hi hk
   obtain ⟨k,rfl⟩:∃q,k=q+1:=⟨k - 1,by omega⟩
   obtain rfl:i=l.length:=by omega
   rw [o];simp
  | succ j B =>
   intro i k hi hk
   obtain ⟨k,rfl⟩:∃q,k=q+1:=⟨k - 1,by omega⟩
   have h:i<l.length:=by omega
   rw [step i h,eT h]
   by_cases d:l[i]=n
   ·rw [iP d,iP (by rw [d];simp),d,List.idxOf_cons_self,dA]
   ·rw [iN d,B (i+1) k (by omega) (by omega)]
    have e:(n∈l[i]::l.drop (i+1))↔n∈l.drop (i+1):=⟨fun h=>(lD.1 h).resolve_left (Ne.symm d),lG _⟩
    have u:(l[i]::l.drop (i+1)).idxOf n=(l.drop (i+1)).idxOf n+1:=by rw [List.idxOf_cons,beq_eq_false_iff_ne.2 d];rfl
    by_cases hm:n∈l.drop (i+1)
    ·rw [iP hm,iP (e.2 hm),u]
     congr 1;omega
    ·rw [iN hm,iN fun h=>hm (e.1 h)]
 have:=r l.length 0 k (by omega) hk
 simpa [zb5] using this
theorem zWr {fu:Nat} {l:List Int} {n:Int} (d:l.length<fu) (e:l.length<=1000000):zCh fu l n=some (zb5 l n):=by
 unfold zCh
 refine zZh (L:=zBS l n) l n (fun i hi k=>?_) (fun k=>?_) d
 ·simp only [zBS]
  rw [zAP (by simpa using hi),zAT hi,zAA,zBL (by omega),zAA,zAj]
  by_cases h:l[i]=n
  ·rw [iP h.symm,iP h]
  ·rw [iN (Ne.symm h),iN h]
 ·simp only [zBS];rw [zAN (by simp)]
theorem zUs {fu:Nat} {a b:List Int} (r:a.length<fu) (q:a.length<=1000000):zB4 fu a b=some (decide (a=b)):=by
 unfold zB4
 rw [zAW]
 by_cases o:a.length=b.length
 ·rw [iP (by omega)]
  refine (zOl (L:=zBR a b) a.length (fun i=>a[i]? == b[i]?) (some true) (fun i hi k=>?_) (fun k=>?_) (by omega)).trans ?_
  ·simp only [zBR]
   rw [zAP (by simpa using hi),zAT hi,zAT (by omega:i<b.length),zAA,zAA,zBL (by omega),zAA,zAW,lC hi,lC (by omega:i<b.length)]
   by_cases h:a[i]=b[i]
   ·rw [iP h,h];simp
   ·have d:(some a[i]==some b[i])=false:=beq_eq_false_iff_ne.2 fun e=>h (lJ.inj e)
    rw [iN h,d];rfl
  ·simp only [zBR]
   rw [zAN (by simp)]
  ·have:((cW a.length).all fun i=>a[i]? == b[i]?)=decide (a=b):=by
    rw [eW,lR,decide_eq_true_eq]
    constructor
    ·intro h
     refine List.ext_getElem? fun i=>?_
     by_cases hi:i<a.length
     ·simpa using h i (by simpa using hi)
     ·rw [cX (by omega),cX (by omega)]
    ·intro h i _;rw [h];simp
   rw [this]
   cases decide (a=b)<;>rfl
 ·rw [iN (by omega),decide_eq_false (fun h=>o (by rw [h]))]
theorem zRP {l:List Int} {n:Int} (h:n∈l):zb5 l n=((l.idxOf n:Nat):Int)/\l.idxOf n<l.length:=⟨iP h,List.idxOf_lt_length_of_mem h⟩
theorem zJV {ns:List Node} {n:Int} {x:Node} (h:idx ns n=some x):zHa ns n=x.Parent:=by unfold zHa;rw [h]
theorem zGG {ns:List Node} {n:Int} {x:Node} (h:idx ns n=some x):zLV ns n=x.Kids:=by unfold zLV;rw [h]
structure Small (f:Forest):Prop where
 few:f.Nodes.length<=400
 kids:∀x∈f.Nodes,x.Kids.length<=400
 attrs:∀x∈f.Nodes,x.Attrs.length<=60
 name:∀x∈f.Nodes,x.Name.length<=300
theorem Small.fit {f:Forest} (h:Small f) {fu:Nat} (hfu:1000<fu):zEq fu f.Nodes:=fun x hx=>by have:=h.kids x hx;omega
theorem zVP {fu:Nat} {f:Forest} (hfu:1000<fu):∃r,zFM fu f=some r/\(r=true->Small f/\f.Nodes.length<=60):=by
 unfold zFM
 rw [zAS]
 by_cases h:f.Nodes.length<=60
 ·rw [iN (by omega)]
  refine ⟨f.Nodes.all fun n=>decide (n.Kids.length<=60)&&(decide (n.Attrs.length<=60)&&decide (n.Name.length<=300)),(zLg (L:=zCn f) f.Nodes (fun n=>decide (n.Kids.length<=60)&&(decide (n.Attrs.length<=60)&&decide (n.Name.length<=300))) (some true) (fun i hi k=>?_) (fun k=>?_) (by omega)).trans ?_,fun hr=>?_⟩
  ·simp only [zCn]
   rw [zAP (by simpa using hi),zAT hi,zAA,zAA,zAA,zBL (by omega),zAA,zAS,zAS,zAS]
   generalize f.Nodes[i]=n
   by_cases e:n.Kids.length<=60
   ·by_cases o:n.Attrs.length<=60
    ·by_cases q:n.Name.length<=300
     ·rw [iN (by omega),iN (by omega),iN (by omega)];simp [e,o,q]
     ·rw [iN (by omega),iN (by omega),iP (by omega)];simp [q]
    ·rw [iN (by omega),iP (by omega)];simp [o]
   ·rw [iP (by omega)];simp [e]
  ·simp only [zCn]
   rw [zAN (by simp)]
  ·cases f.Nodes.all fun n=>decide (n.Kids.length<=60)&&(decide (n.Attrs.length<=60)&&decide (n.Name.length<=300))<;>rfl
  ·have d:∀n∈f.Nodes,n.Kids.length<=60/\n.Attrs.length<=60/\n.Name.length<=300:=fun n u=>by
    have:=lR.1 hr n u
    simpa only [lM,decide_eq_true_eq] using this
   exact ⟨⟨by omega,fun x hx=>(by have:=(d x hx).1;omega),fun x hx=>(d x hx).2.1,fun x hx=>(d x hx).2.2⟩,h⟩
 ·rw [iP (by omega)];exact ⟨false,rfl,by simp⟩
theorem zeC {fu:Nat} {f:Forest} {l:List Int} (hfu:1000<fu) (hk:zEq fu f.Nodes) (d:l.length<=1000):zFp fu f l=some (zAG f&&l.all (inB f)):=by
 unfold zFp
 rw [zSw (v:=⟨⟨f.Nodes,f.Most⟩⟩) hfu hk,zAA]
 cases zAG f with
 | false=>rfl
 | true =>
  rw [zAO,zGE (p:=fun n => !(inB f n)) (fun n _=>by unfold zER;rw [zRd,zAA];rfl) (by omega) (by omega),zAA,zIO]
  rfl
theorem zN9 {f:Forest} {n:Int} (h:InN f.Nodes n):inB f n=true:=decide_eq_true h
theorem zf0 {fu:Nat} {f:Forest} {n:Int} (hfu:1000<fu) (hk:zEq fu f.Nodes) (hr:zAG f=true) (h:InN f.Nodes n):zFp fu f [n]=some true:=by
 rw [zeC hfu hk (by simp),hr];simp [zN9 h]
theorem zBK {f:Forest} (hr:zAG f=true):Tree f.Nodes:=by
 obtain ⟨_,_,d,e⟩:=zAb hr
 exact zVT d e
section
variable {f:Forest} (T:Tree f.Nodes)
include T
theorem root_l (k:Nat):∀n,InN f.Nodes n->zQY f.Nodes k n->∀K,k<=K->zGu f K n=some (zVL f.Nodes k n):=by
 induction k with
 | zero=>intro n _ h;exact h.elim
 | succ k r =>
  intro n d o K hK
  obtain ⟨K,rfl⟩:∃e,K=e+1:=⟨K - 1,by omega⟩
  obtain ⟨x,hx⟩:=zAK d
  have q:=zJV hx
  simp only [zGu,zVL]
  rw [hx,zAA,zAA,zAW,<- q]
  by_cases h:zHa f.Nodes n = -1
  ·rw [iP h,iP h]
  ·rw [iN h,iN h]
   exact r _ (T.par n d h).1 (o.resolve_left h) K (by omega)
theorem zee {fu:Nat} {n:Int} (d:InN f.Nodes n) (hfu:f.Nodes.length<=fu):zLo fu f n=some (zQF f.Nodes n):=root_l T _ n d (T.fin n d) fu hfu
theorem zhj (K:Nat):∀(st out:List Int),(∀x∈st,InN f.Nodes x)->(st.flatMap (zK6 f.Nodes)).length<K->out.length+(st.flatMap (zK6 f.Nodes)).length<=1000000->zCe f K (out,st)=some (out++st.reverse.flatMap (zK6 f.Nodes)):=by
 induction K with
 | zero=>intro _ _ _ h;omega
 | succ K X =>
  intro st out B I Q
  have e:∀l:List Int,(∀x∈l,InN f.Nodes x)->l.length<=(l.flatMap (zK6 f.Nodes)).length:=by
   intro l
   induction l with
   | nil=>intro _;simp
   | cons x l N =>
    intro h
    have:=N fun y hy=>h y (by simp [hy])
    have h1:1<=(zK6 f.Nodes x).length:=by rw [T.all_eq (h x (by simp))];simp
    simp only [iH,eR,cP];omega
  rcases jW st with rfl | ⟨d,x,r⟩
  ·simp only [zCe]
   rw [zAN (by simp)];simp
  ·rw [jX] at r
   subst r
   have D:=B x (by simp)
   obtain ⟨y,hy⟩:=zAK D
   have hk:=zGG hy
   have G:=T.all_eq D
   rw [hk] at G
   simp only [iG,iH,jY,gI,eR,G,cP] at I Q
   have V:=e d fun z hz=>B z (by simp [hz])
   have o:∀k∈y.Kids,InN f.Nodes k:=fun k h=>(T.kid x k (by rw [hk];exact h)).2.1
   have W:=e y.Kids o
   simp only [zCe]
   have u:((d++[x]).length:Int) - 1=(d.length:Int):=by simp
   rw [zAP (by simp),u,zdD (by omega) (by omega),zAA,zAT (by simp:d.length<(d++[x]).length),zAA,show (0:Int)=((0:Nat):Int) from rfl,zSm (by omega) (by simp),zAA]
   rw [show (d++[x])[d.length]'(by simp)=x by simp,show ((d++[x]).drop 0).take (d.length - 0)=d by simp]
   rw [zAi (by simp;omega),zAA,hy,zAA]
   have l2:∀(k:Nat) (l:List Int),k<=y.Kids.length->l.length+k<=1000000->zE5 out x y (zCe f K) k l=zCe f K (out++[x],l++(y.Kids.take k).reverse):=by
    intro k
    induction k with
    | zero=>intro l _ _;simp [zE5]
    | succ k J =>
     intro l S hl
     have E:k<y.Kids.length:=by omega
     simp only [zE5]
     rw [lC E,zAA,zAi (by simp;omega),zAA,J _ (by omega) (by simp;omega),iE E,jZ,eS]
     rfl
   rw [l2 _ _ (cB _) (by omega),iI]
   have F:∀z∈d++y.Kids.reverse,InN f.Nodes z:=fun z hz=>by
    rcases cA.1 hz with hz | hz
    ·exact B z (by simp [hz])
    ·exact o z (by simpa using hz)
   have q:(y.Kids.reverse.flatMap (zK6 f.Nodes)).length=(y.Kids.flatMap (zK6 f.Nodes)).length:=by
    rw [jB,jB,kD,kE]
   rw [X (d++y.Kids.reverse) (out++[x]) F (by simp only [iG,eR,q];omega) (by simp only [iG,eR,q,cP,eK];omega)]
   simp [G]
end
section
variable {f:Forest} {fu:Nat} (hs:Small f) (hfu:1000<fu) (hr:zAG f=true)
include hs hfu hr
theorem za3 {n:Int} (d:InN f.Nodes n):zHe fu f n=some (zQF f.Nodes n):=by
 have:=hs.few
 unfold zHe
 rw [zf0 hfu (hs.fit hfu) hr d,zAA,iA,zAD,zee (zBK hr) d (by omega),zAA]
theorem zUP {n:Int} (d:InN f.Nodes n):zEp fu f n=some (zK6 f.Nodes n):=by
 have:=hs.few
 have e:=(zBK hr).all_len d
 unfold zEp
 rw [zf0 hfu (hs.fit hfu) hr d,zAA,iA,zAD,zhj (zBK hr) fu [n] [] (by simp [d]) (by simp;omega) (by simp;omega)]
 simp
end
end
section
def zQI (ns:List Node) (n:Int):List Int:=match idx ns n with | some x=>(if x.Under = -1 then [] else [x.Under])++x.Kids | none=>[]
def zQZ (ns:List Node):Nat->Int->Prop
 | 0,_=>False
 | k+1,n=>upI ns n = -1\/zQZ ns k (upI ns n)
def zRC (ns:List Node):Nat->Int->List Int
 | 0,_=>[]
 | k+1,n=>n::(if upI ns n = -1 then [] else zRC ns k (upI ns n))
def zGf (ns:List Node) (n:Int):List Int:=zRC ns ns.length n
def zZu (ns:List Node):Nat->Int->List Int
 | 0,_=>[]
 | k+1,n=>n::(zQI ns n).flatMap (zZu ns k)
def zGl (ns:List Node) (n:Int):List Int:=zZu ns ns.length n
def zff (ns:List Node):Nat->Int->Int
 | 0,n=>n
 | k+1,n=>if upI ns n = -1 then n else zff ns k (upI ns n)
def zai (ns:List Node) (n:Int):Int:=zff ns ns.length n
structure TreeU (ns:List Node):Prop where
 kid:∀n k,k∈zQI ns n->InN ns n/\InN ns k/\upI ns k=n
 par:∀x,InN ns x->upI ns x ≠ -1->InN ns (upI ns x)/\x∈zQI ns (upI ns x)
 nod:∀n,(zQI ns n).Nodup
 fin:∀n,InN ns n->zQZ ns ns.length n
theorem zZg {ns:List Node} (B:zHy ns=true) {n:Int} {x:Node} (hx:idx ns n=some x) (h:x.Under ≠ -1):∃u,idx ns x.Under=some u/\u.Kind=4/\u.Host=n/\u.Parent = -1/\x.Kind=1:=by
 have q:=zBm B hx
 unfold zF3 zLf at q
 simp only [lM] at q
 obtain ⟨_,_,_,_,_,d⟩:=q
 have e:(x.Under == -1)=false:=beq_eq_false_iff_ne.2 h
 rw [e,e9,lM,beq_iff_eq] at d
 cases r:idx ns x.Under with
 | none=>rw [r] at d;simp at d
 | some u =>
  rw [r] at d
  simp only [lM,beq_iff_eq] at d
  refine ⟨u,rfl,d.2.1,d.2.2,?_,d.1⟩
  have o:=zBm B r
  unfold zF3 zMA at o
  simp only [lM,dD,beq_iff_eq] at o
  rcases o.2.2.1 with h | ⟨h | h,_⟩
  ·exact h
  ·omega
  ·omega
theorem zUo {ns:List Node} (q:zHy ns=true) {n:Int} {x:Node} (hx:idx ns n=some x) (h:x.Host ≠ -1):∃u,idx ns x.Host=some u/\u.Kind=1/\u.Under=n/\u.Doc=x.Doc/\x.Kind=4:=by
 have e:=zBm q hx
 unfold zF3 zOX at e
 simp only [lM] at e
 obtain ⟨_,_,_,_,d,_⟩:=e
 by_cases hk:x.Kind=4
 ·rw [iP hk] at d
  cases o:idx ns x.Host with
  | none=>rw [o] at d;simp at d
  | some u =>
   rw [o] at d
   simp only [lM,beq_iff_eq] at d
   exact ⟨u,rfl,d.1,d.2.1,d.2.2,hk⟩
 ·rw [iN hk,beq_iff_eq] at d
  exact absurd d h
theorem zHY {ns:List Node} {n:Int} {x:Node} (hx:idx ns n=some x):upI ns n=if x.Parent = -1 then x.Host else x.Parent:=by unfold upI;rw [hx]
theorem zdW {ns:List Node} {n:Int} (h:zHa ns n ≠ -1):upI ns n=zHa ns n:=by
 unfold upI;unfold zHa at h ⊢
 cases hx:idx ns n with
 | none=>rfl
 | some x=>rw [hx] at h;simp only at h ⊢;rw [iN h]
theorem zOD {ns:List Node} {n:Int} {x:Node} (hx:idx ns n=some x):zQI ns n=(if x.Under = -1 then [] else [x.Under])++x.Kids:=by unfold zQI;rw [hx]
theorem zfg {ns:List Node} (r:zHy ns=true) (D:zP0 ns=true):TreeU ns where
 kid n k hk:=by
  cases hx:idx ns n with
  | none=>unfold zQI at hk;rw [hx] at hk;simp at hk
  | some x =>
   rw [zOD hx] at hk
   rcases cA.1 hk with hk | hk
   ·split at hk
    ·simp at hk
    ·rename_i G
     obtain rfl:=e8.1 hk
     obtain ⟨u,d,o,q,E,_⟩:=zZg r hx G
     exact ⟨zAI hx,zAI d,by rw [zHY d,iP E,q]⟩
   ·have T:=zVT r D
    obtain ⟨d,o,q⟩:=T.kid n k (by rw [zGG hx];exact hk)
    exact ⟨d,o,by rw [zdW (by rw [q];exact d.ne),q]⟩
 par x hx hp:=by
  obtain ⟨y,hy⟩:=zAK hx
  by_cases h:y.Parent = -1
  ·rw [zHY hy,iP h] at hp ⊢
   obtain ⟨u,d,o,q,_,_⟩:=zUo r hy hp
   refine ⟨zAI d,?_⟩
   rw [zOD d,q,iN hx.ne]
   simp
  ·have T:=zVT r D
   have B:zHa ns x ≠ -1:=by rw [zJV hy];exact h
   rw [zdW B]
   obtain ⟨d,o⟩:=T.par x hx B
   obtain ⟨z,hz⟩:=zAK d
   refine ⟨d,?_⟩
   rw [zOD hz]
   rw [zGG hz] at o
   exact cA.2 (.inr o)
 nod n:=by
  cases hx:idx ns n with
  | none=>unfold zQI;rw [hx];simp
  | some x =>
   have T:=zVT r D
   have hk:=T.nod n
   rw [zGG hx] at hk
   rw [zOD hx,dM]
   refine ⟨by split<;>simp,hk,fun a F b N e=>?_⟩
   subst e
   split at F
   ·simp at F
   ·rename_i G
    obtain rfl:=e8.1 F
    obtain ⟨u,d,o,q,E,_⟩:=zZg r hx G
    obtain ⟨J,S,I⟩:=T.kid n x.Under (by rw [zGG hx];exact N)
    rw [zJV d,E] at I
    exact J.ne I.symm
 fin n h:=by
  have:=zOV D h
  revert this
  generalize ns.length=k
  clear h
  intro h
  induction k generalizing n with
  | zero=>cases h
  | succ k Q =>
   simp only [zBi,dD,beq_iff_eq] at h
   exact h.imp id (Q _)
theorem zT8 {ns:List Node}:∀(k:Nat) (n:Int),zQZ ns k n->∀j,k<=j->zRC ns j n=zRC ns k n
 | 0,_,h,_,_=>h.elim
 | k+1,n,h,j,hj=>by
  obtain ⟨j,rfl⟩:∃e,j=e+1:=⟨j - 1,by omega⟩
  simp only [zRC]
  by_cases d:upI ns n = -1
  ·rw [iP d,iP d]
  ·rw [iN d,iN d,zT8 k _ (h.resolve_left d) j (by omega)]
theorem zW2 {ns:List Node}:∀(k:Nat) (n:Int),zQZ ns k n->∀j,k<=j->zff ns j n=zff ns k n
 | 0,_,h,_,_=>h.elim
 | k+1,n,h,j,hj=>by
  obtain ⟨j,rfl⟩:∃e,j=e+1:=⟨j - 1,by omega⟩
  simp only [zff]
  by_cases d:upI ns n = -1
  ·rw [iP d,iP d]
  ·rw [iN d,iN d,zW2 k _ (h.resolve_left d) j (by omega)]
theorem zW8 {ns:List Node}:∀(k:Nat) (n:Int),(zRC ns k n).length<=k
 | 0,_=>by simp [zRC]
 | k+1,n=>by
  simp only [zRC,cP]
  split
  ·simp
  ·have:=zW8 (ns:=ns) k (upI ns n);omega
section
variable {ns:List Node} (T:TreeU ns)
include T
theorem TreeU.climb {n:Int} (h:InN ns n) {M:Nat} (d:ns.length=M+1):upI ns n = -1\/zQZ ns M (upI ns n):=by
 have:=T.fin n h
 rw [d] at this
 exact this
theorem TreeU.wayU_eq {n:Int} (h:InN ns n):zGf ns n=n::(if upI ns n = -1 then [] else zGf ns (upI ns n)):=by
 obtain ⟨M,e⟩:=h.pos
 have o:=T.climb h e
 unfold zGf
 rw [e]
 simp only [zRC]
 by_cases d:upI ns n = -1
 ·rw [iP d,iP d]
 ·rw [iN d,iN d]
  have:=zT8 M _ (o.resolve_left d) (M+1) (by omega)
  simp only [zRC] at this
  rw [this]
theorem TreeU.root_eq {n:Int} (h:InN ns n):zai ns n=if upI ns n = -1 then n else zai ns (upI ns n):=by
 obtain ⟨M,e⟩:=h.pos
 have o:=T.climb h e
 unfold zai
 rw [e]
 simp only [zff]
 by_cases d:upI ns n = -1
 ·rw [iP d,iP d]
 ·rw [iN d,iN d]
  have:=zW2 M _ (o.resolve_left d) (M+1) (by omega)
  simp only [zff] at this
  rw [this]
theorem TreeU.up_ind (h:∀n,InN ns n->(upI ns n ≠ -1->C (upI ns n))->C n):∀n,InN ns n->C n:=by
 have e:∀(k:Nat) (n:Int),InN ns n->zQZ ns k n->C n:=by
  intro k
  induction k with
  | zero=>intro n _ h;exact h.elim
  | succ k r =>
   intro n d q
   exact h n d fun o=>r _ (T.par n d o).1 (q.resolve_left o)
 exact fun n d=>e _ n d (T.fin n d)
theorem TreeU.wayU_kid {n k:Int} (hk:k∈zQI ns n):zGf ns k=k::zGf ns n:=by
 obtain ⟨d,e,o⟩:=T.kid n k hk
 rw [T.wayU_eq e,o,iN d.ne]
theorem TreeU.wayU_len {n:Int} (h:InN ns n):1<=(zGf ns n).length/\(zGf ns n).length<=ns.length:=by
 refine ⟨?_,zW8 _ _⟩
 rw [T.wayU_eq h];simp
theorem TreeU.down_ind (h:∀n,InN ns n->(∀k,k∈zQI ns n->C k)->C n):∀n,InN ns n->C n:=by
 have o:∀(d:Nat) (n:Int),InN ns n->ns.length<(zGf ns n).length+d->C n:=by
  intro d
  induction d with
  | zero=>intro n e q;have:=T.wayU_len e;omega
  | succ d r =>
   intro n e q
   exact h n e fun k hk=>r k (T.kid n k hk).2.1 (by rw [T.wayU_kid hk,cP];omega)
 exact fun n e=>o ns.length n e (by have:=T.wayU_len e;omega)
theorem TreeU.allUF_stab:∀(d:Nat) (n:Int),InN ns n->ns.length<(zGf ns n).length+d->∀j,zZu ns (d+j) n=zZu ns d n:=by
 intro d
 induction d with
 | zero=>intro n e o;have:=T.wayU_len e;omega
 | succ d q =>
  intro n e o j
  rw [show d+1+j=d+j+1 by omega]
  simp only [zZu,iS]
  rw [iM fun k hk=>q k (T.kid n k hk).2.1 (by rw [T.wayU_kid hk,cP];omega) j]
theorem TreeU.all_eq {n:Int} (h:InN ns n):zGl ns n=n::(zQI ns n).flatMap (zGl ns):=by
 obtain ⟨M,d⟩:=h.pos
 have hs:=T.allUF_stab
 have e:=T.wayU_len h
 unfold zGl
 rw [d]
 conv=>lhs;simp only [zZu]
 rw [iS,iS,iM fun k hk=>(hs M k (T.kid n k hk).2.1 (by rw [T.wayU_kid hk,cP];omega) 1).symm]
theorem TreeU.wayU_self {n:Int} (h:InN ns n):n∈zGf ns n:=by rw [T.wayU_eq h];simp
theorem TreeU.wayU_in:∀x,InN ns x->∀y∈zGf ns x,InN ns y:=T.up_ind fun x hx e y hy=>by
 rw [T.wayU_eq hx] at hy
 rcases lD.1 hy with rfl | hy
 ·exact hx
 ·split at hy
  ·simp at hy
  ·rename_i d;exact e d y hy
theorem TreeU.wayU_suffix:∀x,InN ns x->∀y∈zGf ns x,zGf ns y <:+ zGf ns x:=T.up_ind fun x hx o y hy=>by
 have e:=T.wayU_eq hx
 rw [e] at hy
 rcases lD.1 hy with rfl | hy
 ·exact jF _
 ·split at hy
  ·simp at hy
  ·rename_i d
   rw [e,iN d]
   exact (o d y hy).trans (jG _ _)
theorem TreeU.wayU_trans {x y z:Int} (hz:InN ns z) (d:x∈zGf ns y) (e:y∈zGf ns z):x∈zGf ns z:=(T.wayU_suffix z hz y e).subset d
theorem TreeU.wayU_inj {x y:Int} (hx:InN ns x) (hy:InN ns y) (h:zGf ns x=zGf ns y):x=y:=by
 rw [T.wayU_eq hx,T.wayU_eq hy] at h
 exact (dU.inj h).1
theorem TreeU.wayU_anti {x y:Int} (hy:InN ns y) (d:x∈zGf ns y) (e:y∈zGf ns x):x=y:=by
 have hx:=T.wayU_in y hy x d
 have o:=T.wayU_suffix y hy x d
 have q:=T.wayU_suffix x hx y e
 exact T.wayU_inj hx hy (o.eq_of_length_le q.length_le)
theorem TreeU.wayU_same {x y z:Int} (hz:InN ns z) (d:x∈zGf ns z) (e:y∈zGf ns z) (o:(zGf ns x).length=(zGf ns y).length):x=y :=
 T.wayU_inj (T.wayU_in z hz x d) (T.wayU_in z hz y e) ((jU (T.wayU_suffix z hz x d) (T.wayU_suffix z hz y e) (by omega)).eq_of_length o)
end
section
variable {ns:List Node} (T:TreeU ns)
include T
theorem TreeU.kid_way {n k x:Int} (hx:InN ns x) (hk:k∈zQI ns n) (h:k∈zGf ns x):n∈zGf ns x :=
 T.wayU_trans hx (by rw [T.wayU_kid hk];exact lG _ (T.wayU_self (T.kid n k hk).1)) h
theorem TreeU.all_in:∀n,InN ns n->∀x∈zGl ns n,InN ns x/\n∈zGf ns x:=T.down_ind fun n d q x hx=>by
 rw [T.all_eq d] at hx
 rcases lD.1 hx with rfl | hx
 ·exact ⟨d,T.wayU_self d⟩
 ·obtain ⟨k,hk,hx⟩:=iB.1 hx
  obtain ⟨e,o⟩:=q k hk x hx
  exact ⟨e,T.kid_way e hk o⟩
theorem TreeU.all_self {n:Int} (d:InN ns n):n∈zGl ns n:=by rw [T.all_eq d];simp
theorem TreeU.all_kid:∀n,InN ns n->∀y∈zGl ns n,∀k∈zQI ns y,k∈zGl ns n:=T.down_ind fun n o q y hy k hk=>by
 rw [T.all_eq o] at hy ⊢
 rcases lD.1 hy with rfl | hy
 ·exact lG _ (iB.2 ⟨k,hk,T.all_self (T.kid _ k hk).2.1⟩)
 ·obtain ⟨e,d,hy⟩:=iB.1 hy
  exact lG _ (iB.2 ⟨e,d,q e d y hy k hk⟩)
theorem TreeU.mem_all {n:Int} (e:InN ns n):∀x,InN ns x->n∈zGf ns x->x∈zGl ns n:=T.up_ind fun x hx q h=>by
 have d:=h
 rw [T.wayU_eq hx] at d
 rcases lD.1 d with rfl | d
 ·exact T.all_self e
 ·split at d
  ·simp at d
  ·rename_i o
   exact T.all_kid n e _ (q o d) x (T.par x hx o).2
theorem TreeU.kids_disj {n k e x:Int} (hk:k∈zQI ns n) (d:e∈zQI ns n) (h:x∈zGl ns k) (q:x∈zGl ns e):k=e:=by
 have o:=T.all_in k (T.kid n k hk).2.1 x h
 have r:=T.all_in e (T.kid n e d).2.1 x q
 exact T.wayU_same o.1 o.2 r.2 (by rw [T.wayU_kid hk,T.wayU_kid d];simp)
theorem TreeU.all_nodup:∀n,InN ns n->(zGl ns n).Nodup:=T.down_ind fun n r B=>by
 rw [T.all_eq r,lS]
 refine ⟨fun h=>?_,?_⟩
 ·obtain ⟨k,hk,h⟩:=iB.1 h
  have u:=(T.all_in k (T.kid n k hk).2.1 n h).2
  have q:=T.wayU_suffix n r k u
  rw [T.wayU_kid hk] at q
  have:=q.length_le
  simp at this
  omega
 ·rw [List.Nodup,jV]
  refine ⟨fun k hk=>B k hk,?_⟩
  refine (T.nod n).imp_of_mem fun hk d o x hx y hy e=>?_
  subst e
  exact o (T.kids_disj hk d hx hy)
theorem TreeU.all_len {n:Int} (d:InN ns n):(zGl ns n).length<=ns.length:=zM3 _ _ (T.all_nodup n d) fun x hx=>(T.all_in n d x hx).1
theorem TreeU.root_way:∀n,InN ns n->zai ns n∈zGf ns n/\upI ns (zai ns n) = -1:=T.up_ind fun n e o=>by
 rw [T.root_eq e,T.wayU_eq e]
 by_cases d:upI ns n = -1
 ·rw [iP d,iP d];exact ⟨by simp,d⟩
 ·rw [iN d,iN d];exact ⟨lG _ (o d).1,(o d).2⟩
theorem TreeU.root_in {n:Int} (d:InN ns n):InN ns (zai ns n):=T.wayU_in n d _ (T.root_way n d).1
theorem TreeU.root_same:∀x,InN ns x->∀y∈zGf ns x,zai ns x=zai ns y:=T.up_ind fun x hx e y hy=>by
 rw [T.wayU_eq hx] at hy
 rcases lD.1 hy with rfl | hy
 ·rfl
 ·split at hy
  ·simp at hy
  ·rename_i d
   rw [T.root_eq hx,iN d]
   exact e d y hy
theorem TreeU.root_top {n:Int} (d:InN ns n) (e:upI ns n = -1):zai ns n=n:=by rw [T.root_eq d,iP e]
theorem TreeU.between:∀n,InN ns n->∀c∈zGl ns n,c≠n->∃A B C,zGl ns n=A++upI ns c::(B++c::C)/\∀b∈B,InN ns b/\upI ns c∈zGf ns b/\c∉zGf ns b:=T.down_ind fun n X ih c F I=>by
 have e:=T.all_eq X
 rw [e] at F
 obtain ⟨k,hk,F⟩:=iB.1 ((lD.1 F).resolve_left I)
 obtain ⟨J,N,hK⟩:=jH hk
 rw [hK,iG,iH] at e
 by_cases r:c=k
 ·subst r
  have q:=T.kid n c hk
  rw [T.all_eq q.2.1] at e
  rw [q.2.2]
  refine ⟨[],J.flatMap (zGl ns),(zQI ns c).flatMap (zGl ns)++N.flatMap (zGl ns),by rw [e];simp,fun b E=>?_⟩
  obtain ⟨D,u,E⟩:=iB.1 E
  have d:D∈zQI ns n:=by rw [hK];simp [u]
  have o:=T.all_in D (T.kid n D d).2.1 b E
  refine ⟨o.1,T.kid_way o.1 d o.2,fun h=>?_⟩
  have G:=T.mem_all q.2.1 b o.1 h
  have W:=T.kids_disj d hk E G
  subst W
  have Q:=T.nod n
  rw [hK,dM] at Q
  exact Q.2.2 D u D (by simp) rfl
 ·obtain ⟨A,B,C,S,V⟩:=ih k hk c F r
  rw [S] at e
  exact ⟨n::(J.flatMap (zGl ns)++A),B,C++N.flatMap (zGl ns),by rw [e];simp,V⟩
theorem TreeU.piece:∀n,InN ns n->∀c∈zGl ns n,∃A B,zGl ns n=A++(zGl ns c++B):=T.down_ind fun n D E c o=>by
 by_cases d:c=n
 ·subst d;exact ⟨[],[],by simp⟩
 have e:=T.all_eq D
 rw [e] at o
 obtain ⟨k,hk,o⟩:=iB.1 ((lD.1 o).resolve_left d)
 obtain ⟨q,r,hK⟩:=jH hk
 obtain ⟨A,B,u⟩:=E k hk c o
 rw [hK,iG,iH,u] at e
 exact ⟨n::(q.flatMap (zGl ns)++A),B++r.flatMap (zGl ns),by rw [e];simp⟩
end
theorem zAQ {f:Forest} (hr:zAG f=true):TreeU f.Nodes:=by
 obtain ⟨_,_,d,e⟩:=zAb hr
 exact zfg d e
end
section
theorem zdL (f:Forest) (n:Int):cnd (decide (n<0)) (some true) (some (decide (n>=(f.Nodes.length:Int))))=some (!(inB f n)):=by
 rw [zAS]
 unfold inB
 by_cases h:n<0
 ·rw [iP h,decide_eq_false (show ¬(0<=n/\n<f.Nodes.length) by omega)];rfl
 ·rw [iN h]
  congr 1
  by_cases d:n<f.Nodes.length
  ·rw [decide_eq_true (show 0<=n/\n<f.Nodes.length by omega),decide_eq_false (by omega)];rfl
  ·rw [decide_eq_false (show ¬(0<=n/\n<f.Nodes.length) by omega),decide_eq_true (by omega)];rfl
theorem zQG {fu:Nat} {f:Forest} {l:List Int} (hfu:1000<fu) (hk:zEq fu f.Nodes) (d:l.length<=100):zCF fu f l=some (zAG f&&l.all (inB f)):=by
 unfold zCF
 rw [zFB hfu hk,zAA]
 cases zAG f with
 | false=>rfl
 | true =>
  rw [zAO,zGE (p:=fun n => !(inB f n)) (fun n _=>by unfold zD8;exact zdL f n) (by omega) (by omega),zAA,zIO]
  rfl
section
variable {fu:Nat} {f:Forest} (hfu:1000<fu) (hk:zEq fu f.Nodes)
include hfu hk
theorem sh1 {n:Int} (hr:zAG f=true) (h:InN f.Nodes n):zCF fu f [n]=some true:=by
 rw [zQG hfu hk (by simp),hr];simp [zN9 h]
theorem sh2 {n m:Int} (hr:zAG f=true) (h:InN f.Nodes n) (d:InN f.Nodes m):zCF fu f [n,m]=some true:=by
 rw [zQG hfu hk (by simp),hr];simp [zN9 h,zN9 d]
theorem sh_no1 {a:Int} (h:zAG f=false\/inB f a=false):zCF fu f [a]=some false:=by
 rw [zQG hfu hk (by simp)]
 rcases h with h | h
 ·rw [h];rfl
 ·simp [h]
end
theorem supU {fu:Nat} {f:Forest} {n:Int} {x:Node} (hx:idx f.Nodes n=some x):zHR fu f n=some (upI f.Nodes n):=by
 unfold zHR
 rw [hx,zAA,zAA,zAW,zHY hx]
 split<;>rfl
section
variable {f:Forest} (T:TreeU f.Nodes)
include T
theorem top_l (fu k:Nat):∀n,InN f.Nodes n->zQZ f.Nodes k n->∀K,k<=K->zIx fu f K n=some (zff f.Nodes k n):=by
 induction k with
 | zero=>intro n _ h;exact h.elim
 | succ k q =>
  intro n d o K hK
  obtain ⟨K,rfl⟩:∃e,K=e+1:=⟨K - 1,by omega⟩
  obtain ⟨x,hx⟩:=zAK d
  simp only [zIx,zff]
  rw [supU hx,zAA,zAA,zAW]
  by_cases h:upI f.Nodes n = -1
  ·rw [iP h,iP h]
  ·rw [iN h,iN h]
   exact q _ (T.par n d h).1 (o.resolve_left h) K (by omega)
theorem over_l {fu:Nat} {a:Int} (ha:a ≠ -1) (k:Nat):∀n,InN f.Nodes n->zQZ f.Nodes k n->∀K,k<K->zDd fu f a K n=some ((zRC f.Nodes k n).contains a):=by
 induction k with
 | zero=>intro n _ h;exact h.elim
 | succ k u =>
  intro n o r K hK
  obtain ⟨K,rfl⟩:∃e,K=e+1:=⟨K - 1,by omega⟩
  obtain ⟨x,hx⟩:=zAK o
  simp only [zDd,zRC]
  rw [supU hx,zAA,zAW,zAW,iN o.ne]
  by_cases d:n=a
  ·rw [iP d,d];simp
  ·rw [iN d]
   have q:(a==n)=false:=beq_eq_false_iff_ne.2 (Ne.symm d)
   rw [List.contains_cons,q,e9]
   by_cases h:upI f.Nodes n = -1
   ·obtain ⟨K,rfl⟩:∃e,K=e+1:=⟨K - 1,by omega⟩
    rw [iP h,h]
    simp only [zDd]
    rw [zAN (by simp)]
    simp [Ne.symm ha]
   ·rw [iN h,u _ (T.par n o h).1 (r.resolve_left h) K (by omega)]
def zTJ (ns:List Node) (a b:Int):Bool:=(zGf ns b).contains a
omit T in
theorem zLc {ns:List Node} {a b:Int}:zTJ ns a b=true↔a∈zGf ns b:=e7
theorem full_l (K:Nat):∀(st out:List Int),(∀x∈st,InN f.Nodes x)->(st.flatMap (zGl f.Nodes)).length<K->out.length+(st.flatMap (zGl f.Nodes)).length<=1000000->zEa f K (out,st)=some (out++st.reverse.flatMap (zGl f.Nodes)):=by
 induction K with
 | zero=>intro _ _ _ h;omega
 | succ K ih =>
  intro st out B I S
  have e:∀l:List Int,(∀x∈l,InN f.Nodes x)->l.length<=(l.flatMap (zGl f.Nodes)).length:=by
   intro l
   induction l with
   | nil=>intro _;simp
   | cons x l N =>
    intro h
    have:=N fun y hy=>h y (by simp [hy])
    have h1:1<=(zGl f.Nodes x).length:=by rw [T.all_eq (h x (by simp))];simp
    simp only [iH,eR,cP];omega
  rcases jW st with rfl | ⟨d,x,r⟩
  ·simp only [zEa]
   rw [zAN (by simp)];simp
  ·rw [jX] at r
   subst r
   have D:=B x (by simp)
   obtain ⟨y,hy⟩:=zAK D
   have hk:=zOD hy
   have Q:=T.all_eq D
   simp only [iG,iH,jY,gI,eR,Q,cP] at I S
   have X:=e d fun z hz=>B z (by simp [hz])
   have o:∀k∈zQI f.Nodes x,InN f.Nodes k:=fun k h=>(T.kid x k h).2.1
   have hl2:=e _ o
   have hl3:y.Kids.length<=(zQI f.Nodes x).length:=by rw [hk];simp
   simp only [zEa]
   have u:((d++[x]).length:Int) - 1=(d.length:Int):=by simp
   rw [zAP (by simp),u,zdD (by omega) (by omega),zAA,zAT (by simp:d.length<(d++[x]).length),zAA,show (0:Int)=((0:Nat):Int) from rfl,zSm (by omega) (by simp),zAA]
   rw [show (d++[x])[d.length]'(by simp)=x by simp,show ((d++[x]).drop 0).take (d.length - 0)=d by simp]
   rw [zAi (by simp;omega),zAA,hy,zAA]
   have l2:∀(k:Nat) (l:List Int),k<=y.Kids.length->l.length+k<=1000000->zHQ out x y (zEa f K) k l=zEa f K (out++[x],l++((if y.Under = -1 then [] else [y.Under])++y.Kids.take k).reverse):=by
    intro k
    induction k with
    | zero =>
     intro l _ W
     simp only [zHQ]
     rw [zAW,zAi (by simp;omega),zAA]
     by_cases G:y.Under = -1
     ·rw [iP G,iP G];simp
     ·rw [iN G,iN G];simp
    | succ k J =>
     intro l V W
     have E:k<y.Kids.length:=by omega
     simp only [zHQ]
     rw [lC E,zAA,zAi (by simp;omega),zAA,J _ (by omega) (by simp;omega),iE E,<- eS,jZ (bs:=[y.Kids[k]]),eS]
     rfl
   rw [l2 _ _ (cB _) (by omega),iI,<- hk]
   have F:∀z∈d++(zQI f.Nodes x).reverse,InN f.Nodes z:=fun z hz=>by
    rcases cA.1 hz with hz | hz
    ·exact B z (by simp [hz])
    ·exact o z (by simpa using hz)
   have q:((zQI f.Nodes x).reverse.flatMap (zGl f.Nodes)).length=((zQI f.Nodes x).flatMap (zGl f.Nodes)).length:=by
    rw [jB,jB,kD,kE]
   rw [ih (d++(zQI f.Nodes x).reverse) (out++[x]) F (by simp only [iG,eR,q];omega) (by simp only [iG,eR,q,cP,eK];omega)]
   simp [Q]
end
theorem zTW {fu:Nat} {p:Int->Bool} {l:List Int} (W:∀x∈l,t x=some (p x)) (hf:l.length<fu) (hb:l.length<=1000000):zDf fu t l=some (l.filter fun x => !(p x)):=by
 have J:zAV fu t l=some (match (cW l.length).find? (fun i=>match l[i]? with | some x=>p x | none=>false) with | some j=>(j:Int) | none => -1):=by
  unfold zAV
  rw [ziX (L:=zAM t l) (fun i=>match l[i]? with | some x=>p x | none=>false) (fun j=>some (j:Int)) (some (-1)) l.length (fun j d e k=>?_) (fun j d e k=>?_) (fun k=>?_) hf]
  ·cases (cW l.length).find? (fun i=>match l[i]? with | some x=>p x | none=>false)<;>rfl
  ·rw [lC d] at e
   simp only at e
   simp only [zAM]
   rw [zAP (by simpa using d),zAT d,zAA,W _ (gC d),zAA,e,zAO]
  ·rw [lC d] at e
   simp only at e
   simp only [zAM]
   rw [zAP (by simpa using d),zAT d,zAA,W _ (gC d),zAA,e,zAD,zBL (by omega),zAA]
  ·simp only [zAM]
   rw [zAN (by simp)]
 have N:∀(m i j k:Nat) (o:List Int),j+m=l.length->i<j->o.length=l.length->o.take i=(l.take j).filter (fun x => !(p x))->o.drop j=l.drop j->m<k->zBE t k ((i:Int),(j:Int),o)=some (l.filter fun x => !(p x)):=by
  intro m
  induction m with
  | zero =>
   intro i j k o d S G D F hk
   obtain ⟨k,rfl⟩:∃Q,k=Q+1:=⟨k - 1,by omega⟩
   obtain rfl:j=l.length:=by omega
   simp only [zBE]
   rw [zAN (by simp;omega)]
   unfold zW0
   rw [iP (by omega),zAA]
   have e:=zSm (s:=o.take ((i:Int)).toNat++List.replicate (o.length - ((i:Int)).toNat) 0) (i:=0) (j:=i) (by omega) (by simp;omega)
   rw [show ((0:Nat):Int)=0 from rfl] at e
   rw [e,zAA]
   simp only [eO,Nat.sub_zero,List.drop_zero]
   rw [iV (by simp;omega),jI,jJ,D,iI]
  | succ m X =>
   intro i j k o d S G D F hk
   obtain ⟨k,rfl⟩:∃Q,k=Q+1:=⟨k - 1,by omega⟩
   have r:j<l.length:=by omega
   have u:j<o.length:=by omega
   have E:i<o.length:=by omega
   have I:o[j]=l[j]:=by
    rw [eT r,eT u] at F
    exact (dU.inj F).1
   have q:o.drop (j+1)=l.drop (j+1):=by
    rw [eT r,eT u] at F
    exact (dU.inj F).2
   simp only [zBE]
   rw [zAP (by simp;omega),zAT u,zAA,I,W _ (gC r),zAA,zAT E,zAA,zBL (by omega),zAA,zBL (by omega),zAA,zAA]
   cases e:p l[j] with
   | true =>
    rw [iA,zAD]
    exact X i (j+1) k o (by omega) (by omega) G (by rw [D,iE r,jK];simp [e]) q (by omega)
   | false =>
    rw [jL,zAO]
    refine X (i+1) (j+1) k _ (by omega) (by omega) (by simpa using G) ?_ ?_ (by omega)
    ·rw [eO,iE r,jK,<- D,iE (by simpa using E),List.take_set_of_le (cB i),List.getElem_set_self]
     simp [e]
    ·rw [<- q,eO,List.drop_set_of_lt (by omega)]
 unfold zDf
 rw [J,zAA]
 cases B:(cW l.length).find? (fun i=>match l[i]? with | some x=>p x | none=>false) with
 | none =>
  simp only
  rw [zAP (by simp)]
  congr 1
  rw [List.find?_eq_none] at B
  refine (jM.2 fun x hx=>?_).symm
  obtain ⟨i,hi,rfl⟩:=iW hx
  have:=B i (by simpa using hi)
  rw [lC hi] at this
  simpa using this
 | some i =>
  simp only
  rw [List.find?_range_eq_some] at B
  obtain ⟨D,F,h3⟩:=B
  have hi:i<l.length:=by simpa using F
  rw [lC hi] at D
  simp only at D
  rw [zAN (by simp),zBL (by omega),zAA]
  refine N (l.length - (i+1)) i (i+1) fu l (by omega) (by omega) rfl ?_ rfl (by omega)
  rw [iE hi,jK]
  have e1:(l.take i).filter (fun x => !(p x))=l.take i:=jM.2 fun x hx=>by
   obtain ⟨j,d,rfl⟩:=iW hx
   have V:j<i:=by simp at d;omega
   have:=h3 j V
   rw [lC (by omega:j<l.length)] at this
   simpa using this
  rw [e1]
  simp [D]
section
variable {f:Forest} {fu:Nat} (hs:Small f) (hfu:1000<fu) (hr:zAG f=true)
include hs hfu hr
theorem Top_ok {n:Int} (d:InN f.Nodes n):zLs fu f n=some (zai f.Nodes n):=by
 have:=hs.few
 unfold zLs
 rw [sh1 hfu (hs.fit hfu) hr d,zAA,iA,zAD,top_l (zAQ hr) fu _ n d ((zAQ hr).fin n d) fu (by omega)]
 rfl
def zGm (ns:List Node) (n:Int):Bool:=isB ns (zai ns n) 0
theorem zUF {n:Int} (d:InN f.Nodes n):zCQ fu f n=some (zGm f.Nodes n):=by
 have e:=(zAQ hr).root_in d
 obtain ⟨x,hx⟩:=zAK e
 unfold zCQ zGm isB
 rw [Top_ok hs hfu hr d,zAA,zAW,iN e.ne,hx,zAA]
theorem zgc {a n:Int} (ha:InN f.Nodes a) (d:InN f.Nodes n):zEb fu f a n=some (zTJ f.Nodes a n):=by
 have:=hs.few
 unfold zEb
 rw [sh2 hfu (hs.fit hfu) hr ha d,zAA,iA,zAD,over_l (zAQ hr) ha.ne _ n d ((zAQ hr).fin n d) fu (by omega)]
 rfl
theorem zYZ {n:Int} (d:InN f.Nodes n):zD6 fu f n=some (zGl f.Nodes n):=by
 have:=hs.few
 have e:=(zAQ hr).all_len d
 unfold zD6
 rw [sh1 hfu (hs.fit hfu) hr d,zAA,iA,zAD,full_l (zAQ hr) fu [n] [] (by simp [d]) (by simp;omega) (by simp;omega)]
 simp
def zMO (ns:List Node) (n:Int):List Int:=(zGl ns n).filter fun k=>isB ns k 1
theorem zd6 {n:Int} (d:InN f.Nodes n):zGT fu f n=some (zMO f.Nodes n):=by
 have:=hs.few
 have T:=zAQ hr
 have e:=T.all_len d
 unfold zGT
 rw [zYZ hs hfu hr d,zAA,zTW (p:=fun k => !(isB f.Nodes k 1)) (fun k hk=>?_) (by omega) (by omega),zAA]
 ·unfold zMO
  simp only [Bool.not_not]
 ·obtain ⟨x,hx⟩:=zAK (T.all_in n d k hk).1
  unfold zD7 isB
  rw [hx,zAA];rfl
end
end
section
theorem zLU {l:List α} {n:Int} {v : α} (h:0<=n/\n<l.length):idx (l.set n.toNat v) n=some v:=by
 unfold idx
 rw [iP h.1,List.getElem?_set_self (by omega)]
theorem zJ9 {l:List α} {n i:Int} {v : α} (h:0<=n) (hi:i≠n):idx (l.set n.toNat v) i=idx l i:=by
 unfold idx
 by_cases d:0<=i
 ·rw [iP d,iP d,List.getElem?_set_ne (by omega)]
 ·rw [iN d,iN d]
def zM2 (z:Node):Node:=⟨z.Kind,z.Name,z.Is,z.Data,z.Attrs,-1,z.Kids,z.Host,z.Under,z.Doc⟩
def zOZ (y:Node) (c:Int):Node:=⟨y.Kind,y.Name,y.Is,y.Data,y.Attrs,y.Parent,y.Kids.filter (fun k=>k != c),y.Host,y.Under,y.Doc⟩
def zMP (f:Forest) (c p:Int) (z y:Node):Forest:=⟨(f.Nodes.set p.toNat (zOZ y c)).set c.toNat (zM2 z),f.Most⟩
structure Hung (f:Forest) (c p:Int) (z y:Node):Prop where
 hz:idx f.Nodes c=some z
 hy:idx f.Nodes p=some y
 par:z.Parent=p
 mem:c∈y.Kids
 ne:c≠p
theorem zcE {f:Forest} (hr:zAG f=true) {c p:Int} {y:Node} (hy:idx f.Nodes p=some y) (d:c∈y.Kids):∃z,Hung f c p z y:=by
 have T:=zBK hr
 obtain ⟨u,r,o⟩:=T.kid p c (by rw [zGG hy];exact d)
 obtain ⟨z,hz⟩:=zAK r
 rw [zJV hz] at o
 refine ⟨z,hz,hy,o,d,fun e=>?_⟩
 have q:=T.way_kid (n:=p) (k:=c) (by rw [zGG hy];exact d)
 rw [e] at q
 have:=congrArg iO q
 simp at this
section
variable {f:Forest} {c p:Int} {z y:Node} (H:Hung f c p z y)
include H
omit H in
theorem zSk (f:Forest) (c p:Int) (z y:Node):(zMP f c p z y).Nodes.length=f.Nodes.length:=by unfold zMP;simp
theorem zPV:idx (zMP f c p z y).Nodes c=some (zM2 z):=by
 have h:=zAI H.hz
 unfold zMP
 simp only
 rw [zLU (by simp;omega)]
theorem zHX:idx (zMP f c p z y).Nodes p=some (zOZ y c):=by
 have h:=zAI H.hz
 have d:=zAI H.hy
 unfold zMP
 simp only
 rw [zJ9 h.1 (Ne.symm H.ne),zLU (by omega)]
theorem zM5 {i:Int} (d:i≠c) (e:i≠p):idx (zMP f c p z y).Nodes i=idx f.Nodes i:=by
 have h:=zAI H.hz
 have o:=zAI H.hy
 unfold zMP
 simp only
 rw [zJ9 h.1 d,zJ9 o.1 e]
theorem zSj {i:Int} (r:idx f.Nodes i=some w):∃d,idx (zMP f c p z y).Nodes i=some d/\d.Kind=w.Kind/\d.Doc=w.Doc/\d.Host=w.Host/\d.Under=w.Under/\d.Parent=(if i=c then -1 else w.Parent)/\d.Kids=(if i=p then w.Kids.filter (fun k=>k != c) else w.Kids)/\zHx d=zHx w:=by
 by_cases o:i=c
 ·subst o
  have e:=H.hz
  rw [r] at e
  obtain rfl:=lJ.inj e
  exact ⟨_,zPV H,rfl,rfl,rfl,rfl,by rw [iP rfl];rfl,by rw [iN H.ne];rfl,rfl⟩
 ·by_cases q:i=p
  ·subst q
   have e:=H.hy
   rw [r] at e
   obtain rfl:=lJ.inj e
   exact ⟨_,zHX H,rfl,rfl,rfl,rfl,by rw [iN o];rfl,by rw [iP rfl];rfl,rfl⟩
  ·exact ⟨w,(zM5 H o q).trans r,rfl,rfl,rfl,rfl,by rw [iN o],by rw [iN q],rfl⟩
theorem zOb {i k:Int}:isB (zMP f c p z y).Nodes i k=isB f.Nodes i k:=by
 cases d:idx f.Nodes i with
 | none =>
  have r:i≠c:=fun e=>by rw [e,H.hz] at d;cases d
  have u:i≠p:=fun e=>by rw [e,H.hy] at d;cases d
  unfold isB;rw [zM5 H r u]
 | some w =>
  obtain ⟨B,o,q,_⟩:=zSj H d
  unfold isB;rw [o,d];simp only [q]
variable (hr:zAG f=true)
include hr
theorem zZF:z.Kind=1\/z.Kind=2:=by
 have e:=(zAb hr).2.2.1
 have d:=zBm e H.hz
 unfold zF3 zMA at d
 simp only [lM,dD,beq_iff_eq] at d
 rcases d.2.2.1 with h | h
 ·have:=zAI H.hy
  have:=H.par
  omega
 ·exact h.1
theorem ze0:z.Host = -1:=by
 have d:=(zAb hr).2.2.1
 by_cases h:z.Host = -1
 ·exact h
 ·obtain ⟨_,_,_,_,_,e⟩:=zUo d H.hz h
  have:=zZF H hr
  omega
theorem zgK {i:Int} (hi:InN f.Nodes i):upI (zMP f c p z y).Nodes i=if i=c then -1 else upI f.Nodes i:=by
 obtain ⟨w,d⟩:=zAK hi
 obtain ⟨u,o,_,_,q,_,r,_⟩:=zSj H d
 rw [zHY o,zHY d,q,r]
 by_cases h:i=c
 ·rw [iP h,iP h,iP rfl]
  subst h
  have e:=H.hz
  rw [d] at e
  obtain rfl:=lJ.inj e
  exact ze0 H hr
 ·rw [iN h,iN h]
theorem zPW:zAG (zMP f c p z y)=true:=by
 have T:=zBK hr
 have r:=zSk f c p z y
 unfold zAG at hr ⊢
 simp only [lM,decide_eq_true_eq] at hr ⊢
 obtain ⟨h1,h2,h3,h4,h5,h6,h7⟩:=hr
 rw [r,zOb H]
 refine ⟨h1,h2,h3,h4,h5,?_,?_⟩
 ·rw [zTk]
  intro i w' W
  have B:InN f.Nodes i:=by
   have:=zAI W
   rw [r] at this
   exact this
  obtain ⟨w,V⟩:=zAK B
  obtain ⟨v,g1,E,X,g4,g5,g6,g7,g8⟩:=zSj H V
  rw [W] at g1
  obtain rfl:=lJ.inj g1
  have I:=zBm h6 V
  unfold zF3 at I
  simp only [lM] at I
  obtain ⟨n1,n2,n3,n4,D,n6⟩:=I
  unfold zF3
  simp only [lM]
  refine ⟨by rw [g8];exact n1,?_,?_,?_,?_,?_⟩
  ·unfold zMQ at n2 ⊢
   rw [zOb H,E,X];exact n2
  ·unfold zMA at n3 ⊢
   rw [E,g6]
   by_cases G:i=c
   ·rw [iP G];rfl
   ·rw [iN G]
    simp only [dD,lM] at n3 ⊢
    refine n3.imp id fun ⟨k1,o⟩=>⟨k1,?_⟩
    cases hp:idx f.Nodes w.Parent with
    | none=>rw [hp] at o;cases o
    | some q =>
     rw [hp] at o
     obtain ⟨q',J,N,_,_,_,_,q7,_⟩:=zSj H hp
     rw [J]
     simp only [N,q7]
     simp only [lM] at o ⊢
     refine ⟨o.1,?_⟩
     split
     ·rw [e7,iJ]
      exact ⟨e7.1 o.2,by simpa using G⟩
     ·exact o.2
  ·unfold zEk at n4 ⊢
   simp only [lM,decide_eq_true_eq,lR] at n4 ⊢
   obtain ⟨b1,b2,b3,b4⟩:=n4
   have d:w'.Kids.Sublist w.Kids:=by
    rw [g7];split
    ·exact iX
    ·exact List.Sublist.refl _
   refine ⟨b1.sublist d,fun k hk=>?_,?_,?_⟩
   ·have hkc:k≠c:=fun e=>by
     subst e
     have hkw:=d.subset hk
     have:=(T.kid i k (by rw [zGG V];exact hkw)).2.2
     rw [zJV H.hz,H.par] at this
     subst this
     rw [g7,iP rfl,iJ] at hk
     simp at hk
    have Q:=b2 k (d.subset hk)
    unfold zPM at Q ⊢
    cases hu:idx f.Nodes k with
    | none=>rw [hu] at Q;cases Q
    | some u =>
     rw [hu] at Q
     obtain ⟨u',J,N,q3,_,_,q6,_⟩:=zSj H hu
     rw [J]
     simp only [N,q3,q6,iN hkc,E,X]
     exact Q
   ·rw [E]
    simp only [dD,decide_eq_true_eq] at b3 ⊢
    refine b3.imp id fun h=>?_
    have:=d.length_le
    omega
   ·rw [E]
    simp only [dD,decide_eq_true_eq] at b4 ⊢
    refine b4.imp id fun h=>?_
    have e:zBM (zMP f c p z y).Nodes w'.Kids=zBM f.Nodes w'.Kids:=by
     unfold zBM
     exact iF fun k _=>by rw [zOb H]
    have:=d.countP_le (p:=fun k=>isB f.Nodes k 1)
    rw [e]
    unfold zBM at h ⊢
    omega
  ·unfold zOX at D ⊢
   rw [E,X,g4]
   by_cases hk:w.Kind=4
   ·rw [iP hk] at D ⊢
    cases F:idx f.Nodes w.Host with
    | none=>rw [F] at D;cases D
    | some h =>
     rw [F] at D
     obtain ⟨u',J,N,q3,_,q5,_⟩:=zSj H F
     rw [J]
     simp only [N,q3,q5]
     exact D
   ·rw [iN hk] at D ⊢;exact D
  ·unfold zLf at n6 ⊢
   rw [E,g5]
   simp only [dD,lM] at n6 ⊢
   refine n6.imp id fun ⟨k1,o⟩=>⟨k1,?_⟩
   cases F:idx f.Nodes w.Under with
   | none=>rw [F] at o;cases o
   | some h =>
    rw [F] at o
    obtain ⟨u',J,N,_,q4,_⟩:=zSj H F
    rw [J]
    simp only [N,q4]
    exact o
 ·have S:=zLY h6
  have hr':zAG f=true:=by
   unfold zAG
   simp only [lM,decide_eq_true_eq]
   exact ⟨h1,h2,h3,h4,h5,h6,h7⟩
  have climb:∀(k:Nat) (i:Int),InN f.Nodes i->zBi f.Nodes k i=true->zBi (zMP f c p z y).Nodes k i=true:=by
   intro k
   induction k with
   | zero=>intro i _ h;cases h
   | succ k ih =>
    intro i hi h
    rw [zBi,dD,beq_iff_eq] at h ⊢
    rw [zgK H hr' hi]
    by_cases hc:i=c
    ·rw [iP hc];exact .inl rfl
    ·rw [iN hc]
     rcases h with h | h
     ·exact .inl h
     ·obtain ⟨w,V⟩:=zAK hi
      rcases S i w V with h' | ⟨q,hq⟩
      ·exact .inl h'
      ·exact .inr (ih _ (zAI hq) h)
  unfold zP0
  rw [lR]
  intro i hi
  rw [r] at hi ⊢
  have hi:i<f.Nodes.length:=by simpa using hi
  have B:InN f.Nodes (i:Int):=⟨by omega,by omega⟩
  exact climb _ _ B (zOV h7 B)
theorem zck:∀i,InN f.Nodes i->c∉zGf f.Nodes i->zGf (zMP f c p z y).Nodes i=zGf f.Nodes i:=(zAQ hr).up_ind fun i hi u o=>by
 have U:=zAQ hr
 have V:=zAQ (zPW H hr)
 have d:=zSk f c p z y
 have q:InN (zMP f c p z y).Nodes i:=by unfold InN;rw [d];exact hi
 have e:=U.wayU_eq hi
 rw [e] at o
 have r:i≠c:=fun h=>o (by rw [h];simp)
 rw [e,V.wayU_eq q,zgK H hr hi,iN r]
 by_cases h:upI f.Nodes i = -1
 ·rw [iP h,iP h]
 ·rw [iN h] at o
  rw [iN h,iN h,u h fun hm=>o (lG _ hm)]
theorem zZH {n:Int}:zTJ (zMP f c p z y).Nodes n p=zTJ f.Nodes n p:=by
 have U:=zAQ hr
 have e:InN f.Nodes p:=zAI H.hy
 have o:InN f.Nodes c:=zAI H.hz
 have d:c∉zGf f.Nodes p:=fun h=>by
  have r:p∈zGf f.Nodes c:=by
   have q:upI f.Nodes c=p:=by rw [zHY H.hz,H.par,iN e.ne]
   rw [U.wayU_eq o,q,iN e.ne]
   exact lG _ (U.wayU_self e)
  exact H.ne (U.wayU_anti e h r)
 unfold zTJ
 rw [zck H hr p e d]
end
end
section
theorem zUt {ns:List Node} {k:Int} (h:isB ns j k=true):j ≠ -1:=fun e=>by
 unfold isB at h
 rw [zCk (by omega)] at h
 cases h
theorem zM6 {f:Forest} {fu:Nat} (hs:Small f) (hfu:1000<fu) (hr:zAG f=true) {a b:Int} (ha:InN f.Nodes a) (d:InN f.Nodes b):zQ9 f a b=zTJ f.Nodes a b :=
 lJ.inj ((zX9 hfu (hs.fit hfu) hr (zN9 ha) (zN9 d)).symm.trans (zgc hs hfu hr ha d))
theorem zdN {f:Forest} {fu:Nat} {n p:Int} {x y:Node} (hfu:1000<fu) (hk:zEq fu f.Nodes) (hr:zAG f=true) (hx:idx f.Nodes n=some x) (hy:idx f.Nodes p=some y):∃r,zEe fu f n p (-1)=some r/\r≠0:=by
 have d:inB f n=true:=zN9 (zAI hx)
 have e:inB f p=true:=zN9 (zAI hy)
 have B:zAf fu ⟨⟨f.Nodes,f.Most⟩,p,-1,-1⟩ p=some y.Kind:=by unfold zAf;rw [hy];rfl
 have u:∃b,zFz fu ⟨⟨f.Nodes,f.Most⟩,p,-1,-1⟩ n=some b:=by
  unfold zFz
  rw [B,zAA]
  cases y.Kind != 2 with
  | false=>exact ⟨_,rfl⟩
  | true =>
   rw [zAO]
   exact ⟨_,by rw [zX9 hfu hk hr d e,zAA]⟩
 obtain ⟨b,q⟩:=u
 have o:=zYP (child := -1) (gone := -1) hfu hk hr hx hy (.inl rfl)
 revert o
 generalize zQJ f n p (-1) (-1) x y _=T
 intro o
 unfold zEe zHr
 rw [zFn hfu hk hr (by simp),zAA,o,zAA,q,zAA]
 simp only [cK,iQ,d,e,iR,iA,zAD]
 rw [zAN (by rfl),zAP (by rfl),zAj]
 split
 ·exact ⟨6,rfl,by decide⟩
 ·rename_i h
  cases b with
  | true=>exact ⟨6,rfl,by decide⟩
  | false=>exact ⟨_,rfl,h⟩
section
variable {f:Forest} {c p:Int} {z y:Node} (H:Hung f c p z y) (hr:zAG f=true)
include H
theorem zWY (hs:Small f):Small (zMP f c p z y):=by
 have q:∀r∈(zMP f c p z y).Nodes,r∈f.Nodes\/r=zOZ y c\/r=zM2 z:=fun r d=>by
  unfold zMP at d
  rcases dT d with d | d
  ·rcases dT d with d | d
   ·exact .inl d
   ·exact .inr (.inl d)
  ·exact .inr (.inr d)
 have o:=zFC H.hz
 have e:=zFC H.hy
 refine ⟨by rw [zSk];exact hs.few,fun w d=>?_,fun w d=>?_,fun w d=>?_⟩
 ·rcases q w d with h | rfl | rfl
  ·exact hs.kids w h
  ·exact eM (iT _ _) (hs.kids y e)
  ·exact hs.kids z o
 ·rcases q w d with h | rfl | rfl
  ·exact hs.attrs w h
  ·exact hs.attrs y e
  ·exact hs.attrs z o
 ·rcases q w d with h | rfl | rfl
  ·exact hs.name w h
  ·exact hs.name y e
  ·exact hs.name z o
theorem zZG {l:List Int} {k:Int} (q:c∉l):zEJ (zMP f c p z y).Nodes (-1) l k=zEJ f.Nodes c l k:=by
 unfold zEJ
 refine iF fun j o=>?_
 have d:j≠c:=fun e=>q (e▸o)
 rw [zOb H]
 simp only [lM,bne_iff_ne]
 exact ⟨fun h=>⟨d,h.2⟩,fun h=>⟨zUt h.2,h.2⟩⟩
theorem zWX {l:List Int} {k:Int}:zEJ (zMP f c p z y).Nodes (-1) (l.filter fun j=>j != c) k=zEJ f.Nodes c l k:=by
 unfold zEJ
 rw [List.countP_filter]
 refine iF fun j d=>?_
 rw [zOb H]
 simp only [lM,bne_iff_ne]
 exact ⟨fun h=>⟨h.2,h.1.2⟩,fun h=>⟨⟨zUt h.2,h.2⟩,h.1⟩⟩
theorem zcj {l:List Int} (d:c∉l):zGg (zMP f c p z y).Nodes p (-1) l=zGg f.Nodes p c l:=by
 unfold zGg
 rw [zZG H d,zZG H d,zHX H,H.hy]
 simp only
 rw [show (zOZ y c).Kids=y.Kids.filter (fun j=>j != c) from rfl,zWX H]
include hr
theorem zXv:zGn y.Kind=true:=by
 have d:=zBm (zAb hr).2.2.1 H.hy
 unfold zF3 zEk at d
 simp only [lM,dD,decide_eq_true_eq] at d
 rcases d.2.2.2.1.2.2.1 with h | h
 ·exact h
 ·have:=H.mem
  rw [List.eq_nil_of_length_eq_zero h] at this
  simp at this
theorem zUp:zTJ f.Nodes c p=false:=by
 have U:=zAQ hr
 have d:InN f.Nodes p:=zAI H.hy
 have r:InN f.Nodes c:=zAI H.hz
 cases h:zTJ f.Nodes c p with
 | false=>rfl
 | true =>
  have o:=zLc.1 h
  have q:p∈zGf f.Nodes c:=by
   have e:upI f.Nodes c=p:=by rw [zHY H.hz,H.par,iN d.ne]
   rw [U.wayU_eq r,e,iN d.ne]
   exact lG _ (U.wayU_self d)
  exact absurd (U.wayU_anti d o q) H.ne
theorem zaf {fu:Nat} (hs:Small f) (hfu:1000<fu) {n:Int} {x:Node} (hx:idx f.Nodes n=some x) (J:n≠c) (u:zQ9 f n p=false):zEw fu (zMP f c p z y) n p (-1)=some (zQJ f n p c c x y true):=by
 have I:=zPW H hr
 have D:=zWY H hs
 have T:=zBK hr
 have U:=zAQ hr
 have q:InN f.Nodes n:=zAI hx
 have B:InN f.Nodes p:=zAI H.hy
 have o:zTJ f.Nodes n p=false:=by rw [<- zM6 hs hfu hr q B];exact u
 have r:n≠p:=fun e=>by
  subst e
  have:=zLc.2 (U.wayU_self q)
  rw [o] at this
  cases this
 have G:idx (zMP f c p z y).Nodes n=some x:=(zM5 H J r).trans hx
 have d:=zSk f c p z y
 have F:zQ9 (zMP f c p z y) n p=false:=by
  rw [zM6 D hfu I (by unfold InN;rw [d];exact q) (by unfold InN;rw [d];exact B),zZH H hr];exact o
 have E:c∉(if x.Kind=3 then x.Kids else [n]):=by
  split
  ·intro hm
   have:=(T.kid n c (by rw [zGG hx];exact hm)).2.2
   rw [zJV H.hz,H.par] at this
   exact r this.symm
  ·intro hm
   exact J (e8.1 hm).symm
 rw [zcX hfu (D.fit hfu) I G (zHX H) (.inl rfl)]
 unfold zQJ
 rw [F,u,zcj H E]
 rfl
end
end
section
structure At (a b:List Node) (h:Int->Node->Node):Prop where
 len:b.length=a.length
 at_:∀j w,idx a j=some w->idx b j=some (h j w)
theorem At.set {b:List Node} (H:At a b h) {c:Int} (e:0<=c/\c<a.length) (v:Node):At a (b.set c.toNat v) (fun j w=>if j=c then v else h j w) where
 len:=by rw [eE,H.len]
 at_ j w hw:=by
  by_cases d:j=c
  ·subst d
   rw [iP rfl,zLU (by rw [H.len];exact e)]
  ·rw [iN d,zJ9 e.1 d,H.at_ j w hw]
theorem At.congr {b:List Node} {d:Int->Node->Node} (H:At a b h) (e:∀j w,idx a j=some w->h j w=d j w):At a b d where
 len:=H.len
 at_ j w hw:=by rw [H.at_ j w hw,e j w hw]
def zQ8 (M:List Int) (j:Int) (w:Node):Node:=⟨w.Kind,w.Name,w.Is,w.Data,w.Attrs,if M.contains j=true then -1 else w.Parent,w.Kids.filter (fun k => !(M.contains k)),w.Host,w.Under,w.Doc⟩
theorem zPC (M:List Int) (c k:Int):(M++[c]).contains k=(M.contains k||k==c):=by
 rw [eW,e7,dD,e7,beq_iff_eq,cA,e8]
section
variable {f:Forest} (hr:zAG f=true)
include hr
theorem zOY {c:Int} {z:Node} (d:idx f.Nodes j=some w) (hz:idx f.Nodes c=some z) (h:c∈w.Kids):z.Parent=j:=by
 have:=((zBK hr).kid j c (by rw [zGG d];exact h)).2.2
 rwa [zJV hz] at this
theorem zgH {c:Int} (d:idx f.Nodes j=some w) (h:c∈w.Kids):c≠j:=fun e=>by
 have hk:=(zBK hr).way_kid (n:=j) (k:=c) (by rw [zGG d];exact h)
 rw [e] at hk
 have:=congrArg iO hk
 simp at this
end
def zf7 (A:List Int) (d:Int) (h:Int->Node->Node) (j:Int) (w:Node):Node:=⟨(h j w).Kind,(h j w).Name,(h j w).Is,(h j w).Data,(h j w).Attrs,(h j w).Parent,(h j w).Kids,(h j w).Host,(h j w).Under,if A.contains j=true then d else (h j w).Doc⟩
def zXn (f:Forest) (L:List Int) (p d:Int) (K M:List Int) (j:Int) (w:Node):Node:=⟨w.Kind,w.Name,w.Is,w.Data,w.Attrs,if M.contains j=true then p else if L.contains j=true then -1 else w.Parent,if j=p then K else w.Kids.filter (fun k => !(L.contains k)),w.Host,w.Under,if (M.any fun c=>(zGl f.Nodes c).contains j)=true then d else w.Doc⟩
def zT2 (w:Node) (p:Int):Node:=⟨w.Kind,w.Name,w.Is,w.Data,w.Attrs,p,w.Kids,w.Host,w.Under,w.Doc⟩
end
section
def zAU (n:Int) (x:Node):List Int:=if x.Kind=3 then x.Kids else [n]
theorem zQK {f:Forest} {n p a g:Int} {x y:Node} (h:zQJ f n p a g x y true=0):zGn y.Kind=true/\zQ9 f n p=false/\x.Kind≠0/\x.Kind≠4/\(y.Kind=0->zGg f.Nodes p g (zAU n x)=false):=by
 unfold zQJ at h
 rw [show (if x.Kind=3 then x.Kids else [n])=zAU n x from rfl] at h
 generalize zAU n x=L at h ⊢
 split at h
 ·cases h
 ·rename_i q
  split at h
  ·cases h
  ·rename_i r
   rw [iN (show ¬true=false by simp)] at h
   split at h
   ·cases h
   ·rename_i d
    refine ⟨by simpa using q,by simpa using r,fun e=>d (.inl e),fun e=>d (.inr e),fun o=>?_⟩
    rw [iP o] at h
    split at h
    ·cases h
    ·rename_i u;simpa using u
structure May (f:Forest) (n p:Int) (x y:Node):Prop where
 hx:idx f.Nodes n=some x
 hy:idx f.Nodes p=some y
 holder:zGn y.Kind=true
 over:zTJ f.Nodes n p=false
 k0:x.Kind≠0
 k4:x.Kind≠4
 crowd:y.Kind=0->zGg f.Nodes p (-1) (zAU n x)=false
section
variable {f:Forest} {n p:Int} {x y:Node} (hr:zAG f=true) (M:May f n p x y)
include hr M
theorem May.np:n≠p:=fun e=>by
 have U:=zAQ hr
 have d:InN f.Nodes n:=zAI M.hx
 have:=M.over
 rw [<- e,zLc.2 (U.wayU_self d)] at this
 cases this
theorem May.part {c:Int} (e:c∈zAU n x):∃z,idx f.Nodes c=some z/\(z.Kind=1\/z.Kind=2)/\n∈zGf f.Nodes c:=by
 have U:=zAQ hr
 have o:=(zAb hr).2.2.1
 have u:InN f.Nodes n:=zAI M.hx
 unfold zAU at e
 by_cases r:x.Kind=3
 ·rw [iP r] at e
  have d:=zBm o M.hx
  unfold zF3 zEk at d
  simp only [lM,lR] at d
  have hk:=d.2.2.2.1.2.1 c e
  unfold zPM at hk
  have q:c∈zQI f.Nodes n:=by rw [zOD M.hx];exact cA.2 (.inr e)
  cases hz:idx f.Nodes c with
  | none=>rw [hz] at hk;cases hk
  | some z =>
   rw [hz] at hk
   simp only [lM,dD,beq_iff_eq] at hk
   refine ⟨z,rfl,hk.2.2.imp id And.left,?_⟩
   rw [U.wayU_kid q]
   exact lG _ (U.wayU_self u)
 ·rw [iN r,e8] at e
  subst e
  have d:=zBm o M.hx
  unfold zF3 at d
  simp only [lM] at d
  have:=zUv d.1
  have:=M.k0
  have:=M.k4
  exact ⟨x,M.hx,by omega,U.wayU_self u⟩
theorem May.in_ {c:Int} (d:c∈zAU n x):InN f.Nodes c:=by
 obtain ⟨z,hz,_⟩:=May.part hr M d
 exact zAI hz
theorem May.nodup:(zAU n x).Nodup:=by
 unfold zAU
 split
 ·have:=(zBK hr).nod n
  rwa [zGG M.hx] at this
 ·simp
theorem May.free {c:Int} (d:c∈zAU n x):c∉zGf f.Nodes p:=fun h=>by
 have U:=zAQ hr
 have e:InN f.Nodes p:=zAI M.hy
 obtain ⟨z,hz,_,o⟩:=May.part hr M d
 have:=zLc.2 (U.wayU_trans e o h)
 rw [M.over] at this
 cases this
omit hr in
theorem May.len (hs:Small f):(zAU n x).length<=400:=by
 unfold zAU
 split
 ·exact hs.kids x (zFC M.hx)
 ·simp
theorem zbI {fu:Nat} (hs:Small f) (hfu:1000<fu) (D:child = -1\/child∈y.Kids) (q:zEw fu f n p child=some 0):∃b,zIe fu f n p child=some b/\(b = -1\/(b∈y.Kids/\b∉zAU n x)):=by
 have S:=hs.kids y (zFC M.hy)
 have T:=zBK hr
 unfold zIe
 rw [q,zAA,zAN (by rfl),zAW]
 by_cases d:child=n
 ·rw [iP d]
  have N:InN f.Nodes n:=zAI M.hx
  have e:n∈y.Kids:=by
   rcases D with h | h
   ·rw [d] at h;exact absurd h N.ne
   ·rwa [d] at h
  obtain ⟨J,Q⟩:=zRP e
  have F:=zOY hr M.hy M.hx e
  have u:x.Kind≠3:=by
   have o:=zBm (zAb hr).2.2.1 M.hx
   unfold zF3 zMA at o
   simp only [lM,dD,beq_iff_eq] at o
   have:=(zAI M.hy).1
   rcases o.2.2.1 with h | h
   ·omega
   ·have:=h.1;omega
  rw [M.hy,zAA,zWr (by omega) (by omega),zAA,J,zBL (by omega),zAA,zAS]
  by_cases E:((y.Kids.idxOf n+1:Nat):Int)>=(y.Kids.length:Int)
  ·rw [iP E];exact ⟨-1,rfl,.inl rfl⟩
  ·have hi:y.Kids.idxOf n+1<y.Kids.length:=by omega
   rw [iN E,zAT hi,zAA]
   refine ⟨_,rfl,.inr ⟨gC hi,fun h=>?_⟩⟩
   unfold zAU at h
   rw [iN u,e8] at h
   have B:y.Kids.Nodup:=by have:=T.nod p;rwa [zGG M.hy] at this
   have:=B.idxOf_getElem _ hi
   rw [h] at this
   omega
 ·rw [iN d]
  refine ⟨child,rfl,D.imp id fun h=>⟨h,fun r=>?_⟩⟩
  unfold zAU at r
  split at r
  ·obtain ⟨z,hz⟩:=zAK (T.kid p child (by rw [zGG M.hy];exact h)).2.1
   have G:=zOY hr M.hy hz h
   have I:=zOY hr M.hx hz r
   exact May.np hr M (I.symm.trans G)
  ·exact d (e8.1 r)
end
end
section
def upF (ns:List Node):Nat->Int->List Int
 | 0,_=>[]
 | k+1,n=>n::(if upI ns n = -1 then [] else upF ns k (upI ns n))
theorem zVU {ns:List Node}:∀(k:Nat) (n:Int),zBi ns k n=true->∀j,k<=j->upF ns j n=upF ns k n
 | 0,_,h,_,_=>by cases h
 | k+1,n,h,j,hj=>by
  obtain ⟨j,rfl⟩:∃e,j=e+1:=⟨j - 1,by omega⟩
  rw [zBi,dD,beq_iff_eq] at h
  simp only [upF]
  by_cases d:upI ns n = -1
  ·rw [iP d,iP d]
  ·rw [iN d,iN d,zVU k _ (h.resolve_left d) j (by omega)]
theorem zVy {ns:List Node}:∀(k:Nat) (n:Int),zBi ns k n=true->zBi ns (upF ns k n).length n=true
 | 0,_,h=>by cases h
 | k+1,n,h=>by
  rw [zBi,dD,beq_iff_eq] at h
  simp only [upF,cP]
  rw [zBi,dD,beq_iff_eq]
  by_cases d:upI ns n = -1
  ·exact .inl d
  ·rw [iN d]
   exact .inr (zVy k _ (h.resolve_left d))
theorem zVx {ns:List Node} {n:Int} {k j:Nat} (h:zBi ns k n=true) (d:k<=j):zBi ns j n=true:=by
 induction d with
 | refl=>exact h
 | step _ e=>exact zL7 _ _ e
theorem zgV {ns:List Node} (K:Nat):∀(k:Nat) (n:Int),k<=K->zBi ns k n=true->∀y∈upF ns k n,zBi ns k y=true/\upF ns k y <:+ upF ns k n
 | 0,_,_,h,_,_=>by cases h
 | k+1,n,hK,h,y,hy=>by
  have o:=h
  rw [zBi,dD,beq_iff_eq] at o
  simp only [upF] at hy
  rcases lD.1 hy with rfl | hy
  ·exact ⟨h,jF _⟩
  ·by_cases d:upI ns n = -1
   ·rw [iP d] at hy;simp at hy
   ·rw [iN d] at hy
    obtain ⟨e,q⟩:=zgV K k _ (by omega) (o.resolve_left d) y hy
    refine ⟨zL7 _ _ e,?_⟩
    rw [zVU k y e (k+1) (by omega)]
    have:upF ns (k+1) n=n::upF ns k (upI ns n):=by simp only [upF];rw [iN d]
    rw [this]
    exact q.trans (jG _ _)
theorem zZi {ns:List Node}:∀(k:Nat) (n:Int),zBi ns k n=true->(upF ns k n).Nodup
 | 0,_,h=>by cases h
 | k+1,n,h=>by
  rw [zBi,dD,beq_iff_eq] at h
  by_cases d:upI ns n = -1
  ·simp only [upF];rw [iP d];simp
  ·have q:=h.resolve_left d
   have e:upF ns (k+1) n=n::upF ns k (upI ns n):=by simp only [upF];rw [iN d]
   rw [e,lS]
   refine ⟨fun hm=>?_,zZi k _ q⟩
   obtain ⟨r,o⟩:=zgV k k _ (cB _) q n hm
   rw [<- zVU k n r (k+1) (by omega),e] at o
   have:=o.length_le
   simp at this
   omega
theorem up_in {ns:List Node} (d:Ups ns):∀(k:Nat) (n:Int),InN ns n->∀y∈upF ns k n,InN ns y
 | 0,_,_,_,hy=>by simp [upF] at hy
 | k+1,n,hn,y,hy=>by
  simp only [upF] at hy
  rcases lD.1 hy with rfl | hy
  ·exact hn
  ·split at hy
   ·simp at hy
   ·rename_i e
    obtain ⟨x,hx⟩:=zAK hn
    rcases d n x hx with h | ⟨z,hz⟩
    ·exact absurd h e
    ·exact up_in d k _ (zAI hz) y hy
theorem zXd {ns:List Node} (e:Ups ns) {n:Int} (d:InN ns n) {K:Nat} (h:zBi ns K n=true):zBi ns ns.length n=true :=
 zVx (zVy K n h) (zM3 _ _ (zZi K n h) (up_in e K n d))
end
section
def dB (f:Forest) (L:List Int) (j:Int):Bool:=L.any fun c=>(zGl f.Nodes c).contains j
section
variable {f g:Forest} {n p:Int} {x y:Node} {K:List Int} (hr:zAG f=true) (M:May f n p x y) (H:At f.Nodes g.Nodes (zXn f (zAU n x) p y.Doc K (zAU n x))) (hK:K.Perm (y.Kids.filter (fun k => !((zAU n x).contains k))++zAU n x)) (hm:g.Most=f.Most)
include hr M
theorem zV1 (o:InN f.Nodes j):dB f (zAU n x) j=true↔∃c∈zAU n x,c∈zGf f.Nodes j:=by
 have U:=zAQ hr
 unfold dB
 rw [dN]
 refine exists_congr fun c=>and_congr_right fun e=>?_
 have d:=May.in_ hr M e
 rw [e7]
 exact ⟨fun h=>(U.all_in c d j h).2,fun h=>U.mem_all d j o h⟩
theorem zbf (d:j∈zAU n x):dB f (zAU n x) j=true:=(zV1 hr M (May.in_ hr M d)).2 ⟨j,d,(zAQ hr).wayU_self (May.in_ hr M d)⟩
theorem zg8 {q:Int} (d:InN f.Nodes j) (B:j∉zAU n x) (r:upI f.Nodes j=q) (u:q ≠ -1):dB f (zAU n x) j=dB f (zAU n x) q:=by
 have U:=zAQ hr
 have o:InN f.Nodes q:=by have:=(U.par j d (by rw [r];exact u)).1;rwa [r] at this
 rw [eW,zV1 hr M d,zV1 hr M o,U.wayU_eq d,r,iN u]
 refine exists_congr fun c=>and_congr_right fun D=>?_
 exact ⟨fun h=>(lD.1 h).resolve_left fun e=>B (e▸D),lG _⟩
theorem dB_top (d:InN f.Nodes j) (o:j∉zAU n x) (r:upI f.Nodes j = -1):dB f (zAU n x) j=false:=by
 have U:=zAQ hr
 cases h:dB f (zAU n x) j with
 | false=>rfl
 | true =>
  obtain ⟨c,q,e⟩:=(zV1 hr M d).1 h
  rw [U.wayU_eq d,iP r,e8] at e
  exact absurd (e▸q) o
theorem dB_p:dB f (zAU n x) p=false:=by
 cases h:dB f (zAU n x) p with
 | false=>rfl
 | true =>
  obtain ⟨c,d,e⟩:=(zV1 hr M (zAI M.hy)).1 h
  exact absurd e (May.free hr M d)
include H
omit hr M in
theorem zLR (e:idx f.Nodes j=some w):∃v,idx g.Nodes j=some v/\v.Kind=w.Kind/\v.Host=w.Host/\v.Under=w.Under/\zHx v=zHx w/\v.Parent=(if j∈zAU n x then p else w.Parent)/\v.Kids=(if j=p then K else w.Kids.filter (fun k => !((zAU n x).contains k)))/\v.Doc=(if dB f (zAU n x) j=true then y.Doc else w.Doc):=by
 refine ⟨_,H.at_ j w e,rfl,rfl,rfl,rfl,?_,rfl,rfl⟩
 simp only [zXn]
 by_cases h:j∈zAU n x
 ·rw [iP h,iP (e7.2 h)]
 ·rw [iN h,iN fun d=>h (e7.1 d),iN fun d=>h (e7.1 d)]
omit hr M in
theorem zSM {k:Int}:isB g.Nodes j k=isB f.Nodes j k:=by
 cases e:idx f.Nodes j with
 | none =>
  have:idx g.Nodes j=none:=by
   by_cases h:0<=j/\j<g.Nodes.length
   ·rw [H.len] at h
    obtain ⟨w,d⟩:=zAK h
    rw [e] at d;cases d
   ·exact zCk h
  unfold isB;rw [this,e]
 | some w =>
  obtain ⟨v,o,q,_⟩:=zLR H e
  unfold isB;rw [o,e];simp only [q]
omit hr in
theorem zb4 (r:InN f.Nodes j):upI g.Nodes j=if j∈zAU n x then p else upI f.Nodes j:=by
 obtain ⟨w,d⟩:=zAK r
 obtain ⟨v,e,_,o,_,_,q,_⟩:=zLR H d
 rw [zHY e,zHY d,o,q]
 by_cases h:j∈zAU n x
 ·rw [iP h,iP h,iN (InN.ne (zAI M.hy))]
 ·rw [iN h,iN h]
include hK
omit hr M H in
theorem zd8 {k:Int}:k∈K↔(k∈y.Kids/\k∉zAU n x)\/k∈zAU n x:=by
 rw [hK.mem_iff,cA,iJ]
 refine or_congr (and_congr_right fun _=>?_) Iff.rfl
 cases h:(zAU n x).contains k with
 | true=>simp [e7.1 h]
 | false =>
  have:k∉zAU n x:=fun d=>by rw [e7.2 d] at h;cases h
  simp [this]
omit hr M hK in
theorem zb2 {k:Int} {u v z:Node} (D:idx f.Nodes j=some w) (r:idx f.Nodes k=some u) (B:idx g.Nodes j=some v) (hz:idx g.Nodes k=some z) (q:dB f (zAU n x) k=dB f (zAU n x) j) (h:u.Doc=w.Doc):z.Doc=v.Doc:=by
 obtain ⟨F,d,_,_,_,_,_,_,o⟩:=zLR H D
 obtain ⟨G,e,_,_,_,_,_,_,E⟩:=zLR H r
 rw [B] at d;rw [hz] at e
 obtain rfl:=lJ.inj d
 obtain rfl:=lJ.inj e
 rw [o,E,q,h]
theorem zeb {v:Node} (F:idx f.Nodes j=some w) (hv:idx g.Nodes j=some v):zF3 g.Nodes j v=true:=by
 have T:=zBK hr
 have hns:=(zAb hr).2.2.1
 have W:InN f.Nodes j:=zAI F
 have hpi:InN f.Nodes p:=zAI M.hy
 obtain ⟨v',g1,g2,g3,g4,g5,g6,g7,g8⟩:=zLR H F
 rw [hv] at g1
 obtain rfl:=lJ.inj g1
 have hwn:=zBm hns F
 have hyn:=zBm hns M.hy
 unfold zF3 at hwn hyn
 simp only [lM] at hwn hyn
 obtain ⟨n1,n2,n3,n4,D,n6⟩:=hwn
 obtain ⟨y1,y2,y3,y4,y5,y6⟩:=hyn
 have hpd:∀vp,idx g.Nodes p=some vp->vp.Doc=y.Doc:=fun vp hvp=>by
  obtain ⟨v'',o,_,_,_,_,_,_,q8⟩:=zLR H M.hy
  rw [hvp] at o
  obtain rfl:=lJ.inj o
  rw [q8,dB_p hr M];rfl
 have hbears:=n4
 unfold zEk at n4
 simp only [lM,decide_eq_true_eq,lR] at n4
 obtain ⟨b1,b2,b3,b4⟩:=n4
 have E:∀k∈w.Kids,k∉zAU n x->zPM g.Nodes j v k=true:=fun k hk r=>by
  have d:=b2 k hk
  unfold zPM at d ⊢
  cases X:idx f.Nodes k with
  | none=>rw [X] at d;cases d
  | some u =>
   rw [X] at d
   obtain ⟨z,o,N,_,_,_,q6,_⟩:=zLR H X
   rw [o]
   simp only [lM,dD,beq_iff_eq,bne_iff_ne] at d ⊢
   have I:upI f.Nodes k=j:=by rw [zHY X,d.1,iN W.ne]
   refine ⟨by rw [q6,iN r];exact d.1,zb2 H F X hv o (zg8 hr M (zAI X) r I W.ne) d.2.1,?_⟩
   rw [N,g2];exact d.2.2
 unfold zF3
 simp only [lM]
 refine ⟨by rw [g5];exact n1,?_,?_,?_,?_,?_⟩
 ·unfold zMQ at n2 y2 ⊢
  rw [zSM H,g2,g8]
  simp only [lM,dD,bne_iff_ne,beq_iff_eq] at n2 y2 ⊢
  by_cases Q:w.Kind=0
  ·have S:j∉zAU n x:=fun h=>by
    obtain ⟨z,hz,hk,_⟩:=May.part hr M h
    rw [F] at hz
    obtain rfl:=lJ.inj hz
    omega
   have I:upI f.Nodes j = -1:=by
    have G:w.Parent = -1:=by
     unfold zMA at n3
     simp only [lM,dD,beq_iff_eq] at n3
     rcases n3 with h | ⟨h | h,_⟩
     ·exact h
     ·omega
     ·omega
    rw [zHY F,iP G]
    unfold zOX at D
    rw [iN (by omega)] at D
    exact beq_iff_eq.1 D
   rw [dB_top hr M W S I]
   exact n2
  ·refine ⟨?_,.inl Q⟩
   split
   ·exact y2.1
   ·exact n2.1
 ·unfold zMA at n3 ⊢
  rw [g2,g6]
  by_cases S:j∈zAU n x
  ·rw [iP S]
   obtain ⟨z,hz,hk,_⟩:=May.part hr M S
   rw [F] at hz
   obtain rfl:=lJ.inj hz
   obtain ⟨vp,o,N,_,_,_,_,q7,_⟩:=zLR H M.hy
   rw [o]
   simp only [N,q7,dD,lM,beq_iff_eq]
   exact .inr ⟨hk,M.holder,e7.2 ((zd8 hK).2 (.inr S))⟩
  ·rw [iN S]
   simp only [dD,lM] at n3 ⊢
   refine n3.imp id fun ⟨k1,J⟩=>⟨k1,?_⟩
   cases hp:idx f.Nodes w.Parent with
   | none=>rw [hp] at J;cases J
   | some q =>
    rw [hp] at J
    obtain ⟨q',o,N,_,_,_,_,q7,_⟩:=zLR H hp
    rw [o]
    simp only [N,q7]
    simp only [lM] at J ⊢
    refine ⟨J.1,?_⟩
    have hjq:=e7.1 J.2
    split
    ·rename_i hpp
     rw [hpp,M.hy] at hp
     obtain rfl:=lJ.inj hp
     exact e7.2 ((zd8 hK).2 (.inl ⟨hjq,S⟩))
    ·rw [e7,iJ]
     refine ⟨hjq,?_⟩
     cases h:(zAU n x).contains j with
     | false=>rfl
     | true=>exact absurd (e7.1 h) S
 ·unfold zEk
  simp only [lM,decide_eq_true_eq,lR]
  rw [g2]
  by_cases hjp:j=p
  ·subst hjp
   rw [M.hy] at F
   obtain rfl:=lJ.inj F
   rw [iP rfl] at g7
   have hcr:y.Kind=0->zBM f.Nodes (zAU n x)=0/\zEJ f.Nodes (-1) (zAU n x) 2=0\/zBM f.Nodes (zAU n x)+zBM f.Nodes y.Kids<=1/\zEJ f.Nodes (-1) (zAU n x) 2=0:=fun Q=>by
    have hc:=M.crowd Q
    have me:∀l,zEJ f.Nodes (-1) l 1=zBM f.Nodes l:=fun l=>by
     unfold zEJ zBM
     refine iF fun k _=>?_
     simp only [lM,bne_iff_ne]
     exact ⟨And.right,fun h=>⟨zUt h,h⟩⟩
    unfold zGg at hc
    rw [M.hy] at hc
    simp only [me] at hc
    simp only [iY,jN,decide_eq_false_iff_not] at hc
    rcases hc.2 with h | h
    ·exact .inl ⟨by omega,by omega⟩
    ·exact .inr ⟨by omega,by omega⟩
   refine ⟨?_,fun k hk=>?_,by rw [M.holder];rfl,?_⟩
   ·rw [g7,hK.nodup_iff,dM]
    refine ⟨b1.sublist iX,May.nodup hr M,fun a ha b hb e=>?_⟩
    subst e
    rw [iJ] at ha
    rw [e7.2 hb] at ha
    cases ha.2
   ·rw [g7,zd8 hK] at hk
    rcases hk with ⟨h1,h2⟩ | r
    ·exact E k h1 h2
    ·obtain ⟨u,X,huk,_⟩:=May.part hr M r
     obtain ⟨z,o,N,_,_,_,q6,_,q8⟩:=zLR H X
     unfold zPM
     rw [o]
     simp only [lM,dD,beq_iff_eq,bne_iff_ne]
     refine ⟨by rw [q6,iP r],by rw [q8,zbf hr M r,iP rfl,hpd v hv],?_⟩
     rw [N,g2]
     by_cases Q:y.Kind=0
     ·refine .inl (huk.resolve_right fun h2=>?_)
      have hz2:zEJ f.Nodes (-1) (zAU n x) 2=0:=(hcr Q).elim And.right And.right
      unfold zEJ at hz2
      rw [List.countP_eq_zero] at hz2
      refine hz2 k r ?_
      have hb:isB f.Nodes k 2=true:=by unfold isB;rw [X];exact beq_iff_eq.2 h2
      rw [hb,Bool.and_true]
      exact bne_iff_ne.2 (zUt hb)
     ·exact huk.imp id fun h=>⟨h,Q⟩
   ·rw [dD]
    by_cases Q:y.Kind=0
    ·right
     have e:zBM g.Nodes v.Kids=zBM f.Nodes (y.Kids.filter (fun k => !((zAU n x).contains k)))+zBM f.Nodes (zAU n x):=by
      unfold zBM
      rw [g7,hK.countP_eq,jE]
      exact congr (congrArg _ (iF fun k _=>by rw [zSM H])) (iF fun k _=>by rw [zSM H])
     have hle:zBM f.Nodes (y.Kids.filter (fun k => !((zAU n x).contains k)))<=zBM f.Nodes y.Kids:=iX.countP_le
     have h4:zBM f.Nodes y.Kids<=1:=by
      simp only [dD,decide_eq_true_eq] at b4
      exact b4.resolve_left (by simp [Q])
     refine decide_eq_true ?_
     rw [e]
     rcases hcr Q with h | h
     ·omega
     ·omega
    ·left;exact bne_iff_ne.2 Q
  ·rw [iN hjp] at g7
   have B:v.Kids.Sublist w.Kids:=by rw [g7];exact iX
   refine ⟨b1.sublist B,fun k hk=>?_,?_,?_⟩
   ·rw [g7,iJ] at hk
    exact E k hk.1 fun h=>by rw [e7.2 h] at hk;cases hk.2
   ·simp only [dD,decide_eq_true_eq] at b3 ⊢
    refine b3.imp id fun h=>?_
    have:=B.length_le
    omega
   ·simp only [dD,decide_eq_true_eq] at b4 ⊢
    refine b4.imp id fun h=>?_
    have e:zBM g.Nodes v.Kids=zBM f.Nodes v.Kids:=by
     unfold zBM
     exact iF fun k _=>by rw [zSM H]
    have:=B.countP_le (p:=fun k=>isB f.Nodes k 1)
    rw [e]
    unfold zBM at h ⊢
    omega
 ·unfold zOX at D ⊢
  rw [g2,g3]
  by_cases hk:w.Kind=4
  ·rw [iP hk] at D ⊢
   cases V:idx f.Nodes w.Host with
   | none=>rw [V] at D;cases D
   | some h =>
    rw [V] at D
    obtain ⟨u',o,N,_,q4,_⟩:=zLR H V
    rw [o]
    simp only [lM,beq_iff_eq] at D ⊢
    have S:j∉zAU n x:=fun h=>by
     obtain ⟨z,hz,hk',_⟩:=May.part hr M h
     rw [F] at hz
     obtain rfl:=lJ.inj hz
     omega
    have G:w.Parent = -1:=by
     unfold zMA at n3
     simp only [lM,dD,beq_iff_eq] at n3
     rcases n3 with h | ⟨h | h,_⟩
     ·exact h
     ·omega
     ·omega
    have hhi:InN f.Nodes w.Host:=zAI V
    have I:upI f.Nodes j=w.Host:=by rw [zHY F,iP G]
    exact ⟨by rw [N];exact D.1,by rw [q4];exact D.2.1,zb2 H F V hv o (zg8 hr M W S I hhi.ne).symm D.2.2⟩
  ·rw [iN hk] at D ⊢;exact D
 ·unfold zLf at n6 ⊢
  rw [g2,g4]
  simp only [dD,lM] at n6 ⊢
  refine n6.imp id fun ⟨k1,J⟩=>⟨k1,?_⟩
  cases V:idx f.Nodes w.Under with
  | none=>rw [V] at J;cases J
  | some h =>
   rw [V] at J
   obtain ⟨u',o,N,q3,_⟩:=zLR H V
   rw [o]
   simp only [N,q3]
   exact J
include hm
theorem zb3:zAG g=true:=by
 have o:=H.len
 have e:zHy g.Nodes=true:=by
  rw [zTk]
  intro j v N
  have I:InN f.Nodes j:=by have:=zAI N;rw [o] at this;exact this
  obtain ⟨w,W⟩:=zAK I
  exact zeb hr M H hK W N
 have F:=zLY e
 have d:=zAb hr
 have hfu:=zLY d.2.2.1
 have E:InN f.Nodes p:=zAI M.hy
 -- whoever isn't below a part goes up as before
 have free:∀(k:Nat) (j:Int),InN f.Nodes j->dB f (zAU n x) j=false->zBi f.Nodes k j=true->zBi g.Nodes k j=true:=by
  intro k
  induction k with
  | zero=>intro j _ _ h;cases h
  | succ k J =>
   intro j r G h
   have B:j∉zAU n x:=fun Q=>by rw [zbf hr M Q] at G;cases G
   rw [zBi,dD,beq_iff_eq] at h ⊢
   rw [zb4 M H r,iN B]
   rcases h with h | h
   ·exact .inl h
   ·by_cases u:upI f.Nodes j = -1
    ·exact .inl u
    ·exact .inr (J _ ((zAQ hr).par j r u).1 (by rw [<- zg8 hr M r B rfl u];exact G) h)
 have S:zBi g.Nodes f.Nodes.length p=true:=free _ p E (dB_p hr M) (zOV d.2.2.2 E)
 have all:∀(k:Nat) (j:Int),InN f.Nodes j->zBi f.Nodes k j=true->zBi g.Nodes (k+f.Nodes.length) j=true:=by
  intro k
  induction k with
  | zero=>intro j _ h;cases h
  | succ k J =>
   intro j r h
   rw [zBi,dD,beq_iff_eq] at h
   rw [show k+1+f.Nodes.length=(k+f.Nodes.length)+1 by omega,zBi,dD,beq_iff_eq,zb4 M H r]
   by_cases B:j∈zAU n x
   ·rw [iP B]
    exact .inr (zVx S (by omega))
   ·rw [iN B]
    rcases h with h | h
    ·exact .inl h
    ·by_cases u:upI f.Nodes j = -1
     ·exact .inl u
     ·exact .inr (J _ ((zAQ hr).par j r u).1 h)
 have q:zP0 g.Nodes=true:=by
  unfold zP0
  rw [lR]
  intro i hi
  have hi:i<g.Nodes.length:=by simpa using hi
  have D:InN f.Nodes (i:Int):=⟨by omega,by rw [o] at hi;omega⟩
  exact zXd F ⟨by omega,by omega⟩ (all _ _ D (zOV d.2.2.2 D))
 have V:=hr
 unfold zAG at hr ⊢
 simp only [lM,decide_eq_true_eq] at hr ⊢
 rw [hm,o,zSM H]
 exact ⟨hr.1,hr.2.1,hr.2.2.1,hr.2.2.2.1,hr.2.2.2.2.1,e,q⟩
end
end
section
theorem zKz {l:List α} {m:List α} {n:Int} {x : α} (h:idx l n=some x):idx (l++m) n=some x:=by
 have hr:=zAI h
 unfold idx at h ⊢
 rw [iP hr.1] at h ⊢
 rw [lN (by omega),h]
theorem zY1 (l:List α) (x : α):idx (l++[x]) (l.length:Int)=some x:=by
 rw [zFg];simp
theorem zXw {ns:List Node} {n k:Int} (h:isB ns n k=true):isB (ns++m) n k=true:=by
 unfold isB at h ⊢
 cases hx:idx ns n with
 | none=>rw [hx] at h;cases h
 | some x=>rw [hx] at h;rw [zKz hx];exact h
theorem zY3 {ns:List Node} {n k:Int} {x:Node} (h:idx ns n=some x):isB (ns++m) n k=isB ns n k:=by
 unfold isB;rw [zKz h,h]
theorem zek {ns:List Node} {n k:Int} {x:Node} (h:zPM ns n x k=true):zPM (ns++m) n x k=true:=by
 unfold zPM at h ⊢
 cases hx:idx ns k with
 | none=>rw [hx] at h;cases h
 | some y=>rw [hx] at h;rw [zKz hx];exact h
theorem zch {ns:List Node} {n:Int} {x:Node} (h:zF3 ns n x=true):zF3 (ns++m) n x=true:=by
 unfold zF3 at h ⊢
 simp only [lM] at h ⊢
 obtain ⟨I,u,D,E,o,F⟩:=h
 refine ⟨I,?_,?_,?_,?_,?_⟩
 ·unfold zMQ at u ⊢
  simp only [lM] at u ⊢
  exact ⟨zXw u.1,u.2⟩
 ·unfold zMA at D ⊢
  simp only [dD,lM] at D ⊢
  refine D.imp id fun ⟨r,d⟩=>⟨r,?_⟩
  cases q:idx ns x.Parent with
  | none=>rw [q] at d;cases d
  | some p=>rw [q] at d;rw [zKz q];exact d
 ·unfold zEk at E ⊢
  simp only [lM,lR] at E ⊢
  obtain ⟨r,d,J,B⟩:=E
  refine ⟨r,fun k hk=>zek (d k hk),J,?_⟩
  have e:zBM (ns++m) x.Kids=zBM ns x.Kids:=by
   unfold zBM
   refine iF fun k hk=>?_
   have:=d k hk
   unfold zPM at this
   cases hy:idx ns k with
   | none=>rw [hy] at this;cases this
   | some y=>rw [zY3 hy]
  rw [e];exact B
 ·unfold zOX at o ⊢
  by_cases hk:x.Kind=4
  ·rw [iP hk] at o ⊢
   cases G:idx ns x.Host with
   | none=>rw [G] at o;cases o
   | some y=>rw [G] at o;rw [zKz G];exact o
  ·rw [iN hk] at o ⊢;exact o
 ·unfold zLf at F ⊢
  simp only [dD,lM] at F ⊢
  refine F.imp id fun ⟨r,d⟩=>⟨r,?_⟩
  cases q:idx ns x.Under with
  | none=>rw [q] at d;cases d
  | some p=>rw [q] at d;rw [zKz q];exact d
theorem zdV {ns:List Node} {n:Int} (h:InN ns n):upI (ns++m) n=upI ns n:=by
 obtain ⟨x,hx⟩:=zAK h
 unfold upI
 rw [zKz hx,hx]
theorem zTT {ns m:List Node} (d:Ups ns):∀(k:Nat) (n:Int),InN ns n->zBi ns k n=true->zBi (ns++m) k n=true
 | 0,_,_,h=>by cases h
 | k+1,n,hn,h=>by
  simp only [zBi,dD,beq_iff_eq] at h ⊢
  rw [zdV hn]
  rcases h with h | h
  ·exact .inl h
  ·obtain ⟨x,hx⟩:=zAK hn
   rcases d n x hx with e | ⟨y,hy⟩
   ·exact .inl e
   ·exact .inr (zTT d k _ (zAI hy) h)
def zaT (f:Forest) (x:Node):Node:=⟨x.Kind,x.Name,x.Is,x.Data,x.Attrs,-1,[],-1,-1,if x.Kind=0 then (f.Nodes.length:Int) else x.Doc⟩
def zcd (f:Forest) (x:Node):Bool:=zHx (zaT f x)&&(x.Kind != 4&&(x.Kind==0||isB f.Nodes x.Doc 0))
theorem zWn {f:Forest} {x:Node} (hr:zAG f=true) (hx:zcd f x=true) (hm:(f.Nodes.length:Int)≠f.Most):zAG ⟨f.Nodes++[zaT f x],f.Most⟩=true:=by
 unfold zAG at hr ⊢
 simp only [lM,decide_eq_true_eq] at hr ⊢
 obtain ⟨q,r,G,I,u,o,B⟩:=hr
 unfold zcd at hx
 simp only [lM,dD,beq_iff_eq,bne_iff_ne] at hx
 obtain ⟨D,E,F⟩:=hx
 refine ⟨q,r,by simp,by simp;omega,zXw u,?_,?_⟩
 ·unfold zHy
  rw [lR]
  intro i hi
  simp only [jO,eR,cP,eK] at hi
  by_cases e:i<f.Nodes.length
  ·have hx:=zAT e
   rw [lN e,lC e]
   exact zch (zBm o hx)
  ·obtain rfl:i=f.Nodes.length:=by omega
   rw [List.getElem?_append_right (by omega),Nat.sub_self]
   show zF3 _ _ (zaT f x)=true
   unfold zF3
   simp only [lM]
   refine ⟨D,?_,rfl,?_,?_,rfl⟩
   ·unfold zMQ zaT
    simp only [lM,dD,beq_iff_eq,bne_iff_ne]
    by_cases hk:x.Kind=0
    ·rw [iP hk]
     refine ⟨?_,.inr rfl⟩
     unfold isB
     rw [zY1]
     simpa using hk
    ·rw [iN hk]
     exact ⟨zXw (F.resolve_left hk),.inl hk⟩
   ·unfold zEk zaT zBM
    simp
   ·unfold zOX zaT
    rw [iN E];rfl
 ·unfold zP0
  rw [lR]
  intro i hi
  simp only [jO,eR,cP,eK] at hi
  rw [show (f.Nodes++[zaT f x]).length=f.Nodes.length+1 by simp]
  by_cases e:i<f.Nodes.length
  ·have d:InN f.Nodes (i:Int):=⟨by omega,by omega⟩
   exact zL7 _ _ (zTT (zLY o) _ _ d (zOV B d))
  ·obtain rfl:i=f.Nodes.length:=by omega
   rw [zBi,dD]
   refine .inl ?_
   unfold upI
   rw [zY1];rfl
theorem zXQ {fu:Nat} (h:l.length<=1000):zAh fu l=some l:=by
 unfold zAh
 rw [zAi (by simp;omega),zAA,iU]
theorem zKD {fu:Nat} {l:List Node} (h:l.length<=1000):zAs fu l=some l:=by
 unfold zAs
 rw [zAi (by simp;omega),zAA,iU]
theorem zX2 {f:Forest} {fu:Nat} {x:Node} (hfu:1000<fu) (hk:zEq fu f.Nodes) (ha:x.Attrs.length<=1000):zDC fu f x=some (if zAG f=true/\zcd f x=true then (if (f.Nodes.length:Int)=f.Most then (f,-1,8) else (⟨f.Nodes++[zaT f x],f.Most⟩,(f.Nodes.length:Int),0)) else (f,-1,1)):=by
 have q:∀d:Int,d=(if x.Kind=0 then (f.Nodes.length:Int) else x.Doc)->zGs fu f x ⟨x.Kind,[],[],[],[],-1,[],-1,-1,x.Doc⟩ d=some (if zAG f=true/\zcd f x=true then (if (f.Nodes.length:Int)=f.Most then (f,-1,8) else (⟨f.Nodes++[zaT f x],f.Most⟩,(f.Nodes.length:Int),0)) else (f,-1,1)):=fun d B=>by
  unfold zGs
  rw [zXQ ha,zAA,zSw (v:=⟨⟨f.Nodes,f.Most⟩⟩) hfu hk,zAA]
  cases hr:zAG f with
  | false=>rw [iN (by simp)];rfl
  | true =>
   have D:=(zAb hr).2.1
   rw [iA,zAD,zTi (by omega),zAA]
   have G:(⟨x.Kind,x.Name,x.Is,x.Data,x.Attrs,-1,[],-1,-1,d⟩:Node)=zaT f x:=by rw [B];rfl
   simp only
   rw [G]
   have o:zcd f x=(zHx (zaT f x)&&(x.Kind != 4&&(x.Kind==0||isB f.Nodes x.Doc 0))):=rfl
   cases E:zHx (zaT f x) with
   | false =>
    rw [E] at o
    rw [iN (fun h=>by rw [o] at h;exact absurd h.2 (by simp))];rfl
   | true =>
    rw [E,iD] at o
    rw [iA,zAD,zAj,zKD (by omega),zAA,zAi (by simp;omega),zAA]
    by_cases r:x.Kind=4
    ·rw [iP r,iN (fun h=>by rw [o] at h;exact absurd h.2 (by simp [r]))]
    ·have F:(x.Kind != 4)=true:=bne_iff_ne.2 r
     rw [F,iD] at o
     rw [iN r,zAW,zAj]
     by_cases e:x.Kind=0
     ·have u:zcd f x=true:=by rw [o,e];rfl
      rw [iP e,iP (show True/\zcd f x=true from ⟨trivial,u⟩)]
      split<;>rfl
     ·have u:(x.Kind==0)=false:=beq_eq_false_iff_ne.2 e
      rw [u,e9] at o
      rw [iN e,zej,zAA]
      simp only
      rw [B,iN e]
      cases hi:isB f.Nodes x.Doc 0 with
      | false=>rw [jL,zAO,iN (show ¬(True/\zcd f x=true) from fun h=>by rw [o,hi] at h;exact absurd h.2 (by simp))]
      | true =>
       rw [iA,zAD,iP (show True/\zcd f x=true from ⟨trivial,o.trans hi⟩)]
       split<;>rfl
 unfold zDC zJb
 rw [zAA,zAj]
 by_cases e:x.Kind=0
 ·rw [iP e];exact q _ (by rw [iP e])
 ·rw [iN e];exact q _ (by rw [iN e])
theorem zae {fu:Nat} (h:l.length<fu) (d:l.length<=1000000):zFu fu l l=some true:=by
 unfold zFu
 rw [zAN (by simp)]
 refine (zOl (L:=zC3 l l) l.length (fun _=>true) (some true) (fun i hi k=>?_) (fun k=>?_) h).trans ?_
 ·simp only [zC3]
  rw [zAP (by simpa using hi),zAT hi,zAA,zAA,zBL (by omega),zAA,show zbr l[i] l[i]=true by simp [zbr]]
  rfl
 ·simp only [zC3]
  rw [zAN (by simp)]
 ·rw [lR.2 fun _ _=>rfl];rfl
theorem zZE {fu:Nat} {x:Node} (hfu:1000<fu) (ha:x.Attrs.length<=1000) (hk:x.Kids.length<=1000):zE6 fu x x=some true:=by
 unfold zE6
 rw [zae (by omega) (by omega),zUs (by omega) (by omega)]
 simp
theorem zdG {fu:Nat} {f:Forest} (hfu:1000<fu) (d:f.Nodes.length<=1000) (hx:∀x∈f.Nodes,x.Attrs.length<=1000/\x.Kids.length<=1000):zEX fu f f=some true:=by
 unfold zEX
 rw [zAN (by simp),zAN (by simp)]
 refine (zOl (L:=zC4 fu f f) f.Nodes.length (fun _=>true) (some true) (fun i hi k=>?_) (fun k=>?_) (by omega)).trans ?_
 ·have:=hx _ (gC hi)
  simp only [zC4]
  rw [zAP (by simpa using hi),zAT hi,zAA,zAA,zBL (by omega),zAA,zZE hfu this.1 this.2]
  rfl
 ·simp only [zC4]
  rw [zAN (by simp)]
 ·rw [lR.2 fun _ _=>rfl];rfl
theorem Small.same {f:Forest} (hs:Small f) {fu:Nat} (hfu:1000<fu):zEX fu f f=some true:=zdG hfu (by have:=hs.few;omega) fun x hx=>⟨by have:=hs.attrs x hx;omega,by have:=hs.kids x hx;omega⟩
end
section
theorem zWU {x:Node} (h:zHx x=true):x.Attrs.length<=40/\x.Name.length<=40:=by
 unfold zHx at h
 split at h
 ·simp only [lM] at h
  have d:=h.2.2.2
  unfold zHG at d
  simp only [lM,decide_eq_true_eq] at d
  have e:=h.1
  unfold zXo zF1 at e
  simp only [lM,decide_eq_true_eq] at e
  exact ⟨d.1,e.1.1.1.2⟩
 ·split at h
  ·simp only [lM,beq_iff_eq,decide_eq_true_eq] at h
   exact ⟨by omega,by rw [h.2.1];simp⟩
  ·split at h
   ·simp only [lM,beq_iff_eq,decide_eq_true_eq] at h
    exact ⟨by omega,by rw [h.1];simp⟩
   ·cases h
theorem zAH {f:Forest} (hr:zAG f=true):Small f:=by
 have h:=zAb hr
 have at_:∀x∈f.Nodes,x.Kids.length<=400/\x.Attrs.length<=40/\x.Name.length<=40:=fun x hx=>by
  obtain ⟨i,hi,e⟩:=iW hx
  have d:idx f.Nodes (i:Int)=some x:=by rw [zAT hi,e]
  have o:=zBm h.2.2.1 d
  unfold zF3 at o
  simp only [lM] at o
  have q:=o.2.2.2.1
  unfold zEk at q
  simp only [lM,decide_eq_true_eq] at q
  have:=zM3 f.Nodes.length x.Kids q.1 fun k hk=>by
   obtain ⟨y,hy⟩:=zJn h.2.2.1 d k hk
   exact zAI hy
  have r:=zWU o.1
  exact ⟨by omega,r⟩
 exact ⟨h.2.1,fun x hx=>(at_ x hx).1,fun x hx=>by have:=(at_ x hx).2.1;omega,fun x hx=>by have:=(at_ x hx).2.2;omega⟩
def zJE (ns:List Node):List (Node×Bool):=ns.map fun x=>(x,true)
theorem zIi (ns:List Node):(zJE ns).map Prod.fst=ns:=by simp [zJE,Function.comp_def]
theorem ze2 {ns:List Node} {n:Int}:idx (zJE ns) n=(idx ns n).map fun x=>(x,true):=by
 unfold idx zJE
 split<;>simp
theorem zGJ {ns:List Node} {n:Int} {x:Node} (h:idx ns n=some x):idx (zJE ns) n=some (x,true):=by rw [ze2,h];rfl
theorem zNS {ns:List Node} {x:Node}:(zJE ns).set i (x,true)=zJE (ns.set i x):=by unfold zJE;rw [dK]
theorem zVz {fu:Nat} {l:List Int} (h:l.length<=1000000):zBf fu l=some l:=by
 unfold zBf
 rw [zAi (by simp;omega),zAA,iU]
theorem zTp {f:Forest} {fu:Nat} (hs:Small f) (hfu:1000<fu):zLC fu f=some ((),f.Most,zJE f.Nodes,[]):=by
 have r:=hs.few
 unfold zLC
 rw [zKD (by omega),zAA]
 have q:(f.Nodes.map fun x=>(x,false)).length=f.Nodes.length:=by simp
 have:=upf (L:=zIF fu f f.Nodes) (f:=fun i=>((i:Int),mix (fun p:Node×Bool=>(p.1,true)) (f.Nodes.map fun x=>(x,false)) i)) (v:=some ((),f.Most,zJE f.Nodes,[])) f.Nodes.length (fun i hi k=>?_) (fun k=>?_) (show f.Nodes.length<fu by omega)
 ·rw [zZB] at this
  exact this
 ·have o:i<(f.Nodes.map fun x=>(x,false)).length:=by rw [q];exact hi
  have hm:=zcZ (fun p:Node×Bool=>(p.1,true)) o
  simp only [zIF]
  rw [zAP (by simpa using hi),hm,zAA,jP]
  rw [show zQc (f.Nodes[i],false).2=some () from rfl,zAA,zVz (by have:=hs.kids _ (gC hi);simp only;omega),zAA,zAA,zBL (by omega),zAA]
  have d:=zUx (fun p:Node×Bool=>(p.1,true)) o
  rw [jP] at d
  rw [<- d]
 ·simp only [zIF]
  rw [zAN (by simp)]
  have e:=zca (fun p:Node×Bool=>(p.1,true)) (f.Nodes.map fun x=>(x,false))
  rw [q] at e
  rw [e,iZ]
  rfl
def zKE (x:Note) (k:Int):Note:=⟨x.Kind,k,x.From,x.To,x.Name,x.Had,x.Has,x.Old,x.New⟩
theorem tell_l {fu:Nat} {x:Note} {ks:List Int} {l:List Note} {c:Int} (e:ks.length<fu) (o:l.length+ks.length<=1000000000):zC8 x ks fu (0,c,l)=some (l++ks.map (zKE x)):=by
 have:=upf (L:=zC8 x ks) (f:=fun i=>((i:Int),(ks.take i).getLastD c,l++(ks.take i).map (zKE x))) (v:=some (l++ks.map (zKE x))) ks.length (fun i hi k=>?_) (fun k=>?_) e
 ·simpa using this
 ·simp only [zC8]
  rw [zAP (by simpa using hi),zAT hi,zAA,zAi (by simp;omega),zAA,zBL (by omega),zAA]
  have d:(ks.take (i+1)).getLastD c=ks[i]:=by rw [iE hi,List.getLastD_concat]
  rw [d,iE hi,gG,<- eS]
  rfl
 ·simp only [zC8]
  rw [zAN (by simp),iI]
def zQe (f:Forest) (n:Int):List Int:=if zAG f=true then zMO f.Nodes n else []
theorem zbq {f:Forest} {fu:Nat} {n:Int} (hk:zEq fu f.Nodes) (hfu:1000<fu) (d:InN f.Nodes n):zGT fu f n=some (zQe f n):=by
 unfold zQe
 by_cases hr:zAG f=true
 ·rw [iP hr];exact zd6 (zAH hr) hfu hr d
 ·rw [iN hr]
  unfold zGT zD6
  rw [sh_no1 hfu hk (.inl (by simpa using hr)),zAA,jL,zAO,zAA,zTW (p:=fun _=>true) (fun x hx=>by cases hx) (by simp;omega) (by simp),zAA]
  rfl
theorem zTY {f:Forest} {n:Int} (d:InN f.Nodes n):(zQe f n).length<=400:=by
 unfold zQe
 by_cases hr:zAG f=true
 ·rw [iP hr]
  have:=(zAQ hr).all_len d
  have e:(zMO f.Nodes n).length<=(zGl f.Nodes n).length:=iT _ _
  have:=(zAb hr).2.1
  omega
 ·rw [iN hr];simp
theorem zVS {f:Forest} {fu:Nat} {n:Int} {x:Note} {l:List Note} (hk:zEq fu f.Nodes) (hfu:1000<fu) (d:InN f.Nodes n) (e:l.length<=500000000):zET fu n x f.Most (zJE f.Nodes) l=some (l++(zQe f n).map (zKE x)):=by
 unfold zET
 rw [zIi,zbq hk hfu d,zAA]
 have:=zTY d
 exact tell_l (by omega) (by omega)
theorem zT1 {fu:Nat} {l:List Int} {n:Int} (d:l.length<fu) (e:l.length<=1000000):zDJ fu n l=some (zb5 l n):=by
 unfold zDJ
 refine zZh (L:=zB8 n l) l n (fun i hi k=>?_) (fun k=>?_) d
 ·simp only [zB8]
  rw [zAP (by simpa using hi),zAT hi,zAA,zBL (by omega),zAA,zAj]
  by_cases h:l[i]=n
  ·rw [iP h.symm,iP h]
  ·rw [iN (Ne.symm h),iN h]
 ·simp only [zB8];rw [zAN (by simp)]
theorem del_ok {fu:Nat} {l:List Int} (h:i<l.length):zFY fu (i:Int) ((i+1:Nat):Int) l=some (l.eraseIdx i):=by
 have d:(zPD l i (i+1)).length=l.length:=by
  unfold zPD
  simp only [eR,cR,iK]
  omega
 have e:((i:Int)).toNat=i:=by omega
 have o:(((i+1:Nat):Int)).toNat=i+1:=by omega
 have q:((l.length:Int)).toNat=l.length:=by omega
 have r:(((i+(l.length - (i+1)):Nat):Int)).toNat=i+(l.length - (i+1)):=by omega
 unfold zFY
 rw [e,o,q,r]
 rw [show cut3 l.length (i:Int) ((i+1:Nat):Int) (l.length:Int)=some () from iP ⟨by omega,by omega,by omega,by omega⟩,zAA,zAj,iN (by omega)]
 rw [show zNy l.length 0 (i:Int)=some () from iP ⟨by omega,by omega,by omega⟩,zAA,show zNy l.length ((i+1:Nat):Int) (l.length:Int)=some () from iP ⟨by omega,by omega,by omega⟩,zAA]
 rw [show delB l.length i (i+1) l.length=some () from iP ⟨by omega,by omega,rfl⟩,zAA,d]
 rw [show zNy l.length ((i+(l.length - (i+1)):Nat):Int) (l.length:Int)=some () from iP ⟨by omega,by omega,by omega⟩,zAA]
 rw [show zf5 l.length (i+(l.length - (i+1))) l.length=some () from iP ⟨by omega,rfl⟩,zAA]
 have u:(zQa (zPD l i (i+1)) (i+(l.length - (i+1))) (0:Int)).length=l.length:=by
  unfold zQa
  simp only [eR,cR,kF,d]
  omega
 rw [u,show zag l.length (i+(l.length - (i+1)))=some () from iP (by omega),zAA]
 congr 1
 unfold zQa zPD
 rw [iV (by simp only [cR,eR,iK];omega),jI,jJ,iV (by simp only [cR,eR,iK];omega),kG,kH (by simp only [cR,eR,iK];omega)]
theorem zWA {l:List Int} {n:Int} (d:l.Nodup):l.eraseIdx (l.idxOf n)=l.filter fun k=>k != n:=by
 rw [<- List.erase_eq_eraseIdx_of_idxOf rfl,d.erase_eq_filter]
def zLj (ns:List Node) (n:Int):List Node:=match idx ns n with
 | some z=>if z.Parent = -1 then ns else (match idx ns z.Parent with
  | some y=>(ns.set z.Parent.toNat (zOZ y n)).set n.toNat (zM2 z)
  | none=>ns)
 | none=>ns
def zGO (f:Forest) (n:Int):List Note:=if zHa f.Nodes n ≠ -1/\zGm f.Nodes n=true then (zMO f.Nodes n).map (zKE ⟨2,0,0,0,[],false,false,[],[]⟩) else []
theorem zHH {f:Forest} (hr:zAG f=true) {n:Int} {z:Node} (hz:idx f.Nodes n=some z) (r:z.Parent ≠ -1):∃y,Hung f n z.Parent z y:=by
 have q:=(zAb hr).2.2.1
 have o:=zBm q hz
 unfold zF3 zMA at o
 simp only [lM,dD,beq_iff_eq] at o
 obtain ⟨_,d⟩:=o.2.2.1.resolve_left r
 cases hy:idx f.Nodes z.Parent with
 | none=>rw [hy] at d;cases d
 | some y =>
  rw [hy] at d
  simp only [lM] at d
  have hm:=e7.1 d.2
  obtain ⟨u,H⟩:=zcE hr hy hm
  have e:=H.hz
  rw [hz] at e
  obtain rfl:=lJ.inj e
  exact ⟨y,H⟩
theorem zPU {ns:List Node} {n:Int} {z:Node} (hz:idx ns n=some z) (d:z.Parent = -1):zLj ns n=ns:=by unfold zLj;rw [hz];simp only;rw [iP d]
theorem zM4 {f:Forest} {n:Int} {z y:Node} (H:Hung f n z.Parent z y) (d:z.Parent ≠ -1):zLj f.Nodes n=(zMP f n z.Parent z y).Nodes:=by
 unfold zLj zMP
 rw [H.hz]
 simp only
 rw [iN d,H.hy]
theorem zRY (ns:List Node) (n:Int):(zLj ns n).length=ns.length:=by
 unfold zLj
 split
 ·split
  ·rfl
  ·split<;>simp
 ·rfl
theorem zLb {f:Forest} (hr:zAG f=true) {n:Int} (e:InN f.Nodes n):zAG ⟨zLj f.Nodes n,f.Most⟩=true:=by
 obtain ⟨z,hz⟩:=zAK e
 by_cases d:z.Parent = -1
 ·rw [zPU hz d];exact hr
 ·obtain ⟨y,H⟩:=zHH hr hz d
  rw [zM4 H d]
  exact zPW H hr
theorem zKH {f:Forest} {n:Int} (hr:zAG f=true) (d:InN f.Nodes n):(zGO f n).length<=400:=by
 unfold zGO
 split
 ·have:=(zAQ hr).all_len d
  have e:(zMO f.Nodes n).length<=(zGl f.Nodes n).length:=iT _ _
  have:=(zAb hr).2.1
  simp only [lL]
  omega
 ·simp
theorem zU3 {f:Forest} {fu:Nat} {n:Int} {l:List Note} (hr:zAG f=true) (hfu:1000<fu) (r:InN f.Nodes n) (J:l.length<=500000000):zD4 fu n f.Most (zJE f.Nodes) l=some (zJE (zLj f.Nodes n),l++zGO f n):=by
 have hs:=zAH hr
 obtain ⟨z,hz⟩:=zAK r
 unfold zD4
 rw [zGJ hz,zAA,zAj]
 by_cases d:z.Parent = -1
 ·rw [iP d,zPU hz d]
  unfold zGO
  rw [iN (by rw [zJV hz];exact fun h=>h.1 d),gI]
 ·rw [iN d,zIi,zUF hs hfu hr r,zAA]
  obtain ⟨y,H⟩:=zHH hr hz d
  have hk:=hs.kids y (zFC H.hy)
  have o:=zBm (zAb hr).2.2.1 H.hy
  unfold zF3 zEk at o
  simp only [lM,decide_eq_true_eq] at o
  have u:y.Kids.Nodup:=o.2.2.2.1.1
  obtain ⟨G,I⟩:=zRP H.mem
  have B:=zAI H.hy
  have q:∀E,zFk fu n (zJE f.Nodes) (z,true) E=some (zJE (zLj f.Nodes n),E):=fun E=>by
   unfold zFk
   rw [zGJ H.hy,zAA,show zTK (y,true).2=some () from rfl,zAA,zT1 (by simp only;omega) (by simp only;omega),zAA,zAA]
   simp only
   rw [G,zBL (by omega),zAA,del_ok I,zAA,zWA u,zAA,zNS]
   have D:idx (f.Nodes.set z.Parent.toNat (zOZ y n)) n=some z:=by rw [zJ9 B.1 H.ne,hz]
   have e:(⟨y.Kind,y.Name,y.Is,y.Data,y.Attrs,y.Parent,y.Kids.filter (fun k=>k != n),y.Host,y.Under,y.Doc⟩:Node)=zOZ y n:=rfl
   rw [e,zGJ D,zAA]
   simp only
   rw [zNS,zM4 H d]
   rfl
  cases F:zGm f.Nodes n with
  | false =>
   rw [zAD,q]
   unfold zGO
   rw [iN (by rw [F];simp),gI]
  | true =>
   rw [zAO,zVS (hs.fit hfu) hfu r J,zAA,q]
   unfold zGO zQe
   rw [iP hr,iP ⟨by rw [zJV hz];exact d,F⟩]
end
section
theorem zTG {o:Type} {l:List α} {f g : α -> List o} (h:∀a∈l,f a=g a):l.flatMap f=l.flatMap g:=by
 induction l with
 | nil=>rfl
 | cons a l e=>rw [iH,iH,h a (lH ..),e fun b d=>h b (lG _ d)]
section
variable {f:Forest} (hr:zAG f=true)
include hr
theorem zX6 {n:Int} {z:Node} (hz:idx f.Nodes n=some z):n∉z.Kids:=fun h=>zgH hr hz h rfl
omit hr in
theorem zQh {l:List Int} {n:Int} (h:n∉l):l.filter (fun k => !(([n]:List Int).contains k))=l:=by
 rw [jM]
 intro a e
 have:([n]:List Int).contains a=false:=by
  rw [iL]
  intro d
  rw [e7,e8] at d
  exact h (d▸e)
 rw [this];rfl
theorem zSh {n:Int} (B:InN f.Nodes n):At f.Nodes (zLj f.Nodes n) (zQ8 [n]):=by
 obtain ⟨z,hz⟩:=zAK B
 have d:∀j,([n]:List Int).contains j=true↔j=n:=fun j=>by rw [e7,e8]
 refine ⟨zRY _ _,fun j w o=>?_⟩
 by_cases u:z.Parent = -1
 ·rw [zPU hz u,o]
  have hk:n∉w.Kids:=fun h=>by
   have:=zOY hr o hz h
   have:=zAI o
   omega
  unfold zQ8
  rw [zQh hk]
  by_cases q:j=n
  ·subst q
   rw [hz] at o
   obtain rfl:=lJ.inj o
   rw [iP ((d j).2 rfl),<- u]
  ·rw [iN fun h=>q ((d j).1 h)]
 ·obtain ⟨y,H⟩:=zHH hr hz u
  rw [zM4 H u]
  by_cases q:j=n
  ·subst q
   rw [hz] at o
   obtain rfl:=lJ.inj o
   rw [zPV H]
   unfold zQ8 zM2
   rw [iP ((d j).2 rfl),zQh (zX6 hr hz)]
  ·by_cases r:j=z.Parent
   ·subst r
    have e:=H.hy
    rw [o] at e
    obtain rfl:=lJ.inj e
    rw [zHX H]
    unfold zQ8 zOZ
    rw [iN fun h=>q ((d _).1 h)]
    congr 2
    refine List.filter_congr fun k _=>?_
    rw [eW,bne_iff_ne,gM,iL]
    exact not_congr (d k).symm
   ·rw [zM5 H q r,o]
    have hk:n∉w.Kids:=fun h=>r (zOY hr o hz h).symm
    unfold zQ8
    rw [zQh hk,iN fun h=>q ((d j).1 h)]
theorem zey {n:Int} (q:InN f.Nodes n):zGl (zLj f.Nodes n) n=zGl f.Nodes n:=by
 have U:=zAQ hr
 have V:=zAQ (f:=⟨zLj f.Nodes n,f.Most⟩) (zLb hr q)
 have E:=zSh hr q
 have u:∀{j},InN f.Nodes j->InN (zLj f.Nodes n) j:=fun h=>by unfold InN at h ⊢;rw [zRY];exact h
 have B:∀j,InN f.Nodes j->n∈zGf f.Nodes j->zGl (zLj f.Nodes n) j=zGl f.Nodes j:=U.down_ind fun j e I D=>by
  obtain ⟨w,d⟩:=zAK e
  have hk:n∉w.Kids:=fun h=>by
   obtain ⟨z,hz⟩:=zAK q
   have r:n∈zQI f.Nodes j:=by rw [zOD d];exact cA.2 (.inr h)
   have F:=U.wayU_kid r
   have G:j∈zGf f.Nodes n:=by rw [F];exact lG _ (U.wayU_self e)
   exact zgH hr d h (U.wayU_anti e D G)
  have hs:zQI (zLj f.Nodes n) j=zQI f.Nodes j:=by
   rw [zOD d,zOD (E.at_ j w d)]
   unfold zQ8
   rw [zQh hk]
  rw [V.all_eq (u e),U.all_eq e,hs]
  congr 1
  refine zTG fun k o=>I k o ?_
  rw [U.wayU_kid o]
  exact lG _ D
 exact B n q (U.wayU_self q)
end
def zaA (ns:List Node) (A:List Int) (d:Int):List Node:=A.foldl (fun m a=>match idx m a with
 | some w=>m.set a.toNat ⟨w.Kind,w.Name,w.Is,w.Data,w.Attrs,w.Parent,w.Kids,w.Host,w.Under,d⟩
 | none=>m) ns
theorem zV2 (ns:List Node) (A:List Int) (a d:Int):zaA ns (A++[a]) d=(match idx (zaA ns A d) a with
 | some w=>(zaA ns A d).set a.toNat ⟨w.Kind,w.Name,w.Is,w.Data,w.Attrs,w.Parent,w.Kids,w.Host,w.Under,d⟩
 | none=>zaA ns A d):=by unfold zaA;rw [List.foldl_append];rfl
theorem zbi {b:List Node} (H:At a b h) {A:List Int} {d:Int} (B:∀x∈A,InN a x):∀i,i<=A.length->At a (zaA b (A.take i) d) (zf7 (A.take i) d h):=by
 intro i
 induction i with
 | zero =>
  intro _
  refine (show At a (zaA b (A.take 0) d) h from by simpa [zaA] using H).congr fun j w _=>?_
  simp [zf7]
 | succ i r =>
  intro hi
  have o:i<A.length:=by omega
  have r:=r (by omega)
  have hx:=B _ (gC o)
  obtain ⟨w0,q⟩:=zAK hx
  rw [iE o,zV2,r.at_ _ w0 q]
  simp only
  refine (r.set hx _).congr fun j w u=>?_
  by_cases e:j=A[i]
  ·subst e
   rw [q] at u
   obtain rfl:=lJ.inj u
   have D:(A.take i++[A[i]]).contains A[i]=true:=by rw [zPC];simp
   rw [iP rfl]
   simp only [zf7,D,↓reduceIte]
  ·rw [iN e]
   unfold zf7
   have:(A.take i++[A[i]]).contains j=(A.take i).contains j:=by rw [zPC,beq_eq_false_iff_ne.2 e,Bool.or_false]
   rw [this]
theorem zbj {b:List Node} (H:At a b h) {A:List Int} {d:Int} (e:∀x∈A,InN a x):At a (zaA b A d) (zf7 A d h):=by
 have:=zbi H e (d:=d) A.length (cB _)
 rwa [iI] at this
def zWT (e d:Int):Note:=⟨3,0,e,d,[],false,false,[],[]⟩
def zMe (ns:List Node) (n:Int):Int:=match idx ns n with
 | some x=>x.Doc
 | none=>0
theorem zNK {ns:List Node} {n:Int} {x:Node} (h:idx ns n=some x):zMe ns n=x.Doc:=by unfold zMe;rw [h]
def zMC (f:Forest) (n d:Int):List Node:=if zMe f.Nodes n=d then zLj f.Nodes n else zaA (zLj f.Nodes n) (zGl f.Nodes n) d
def zOc (f:Forest) (n d:Int):List Note:=if zMe f.Nodes n=d then [] else (zQe ⟨zMC f n d,f.Most⟩ n).map (zKE (zWT (zMe f.Nodes n) d))
def zCa (f:Forest) (n d:Int):Int->Node->Node:=if zMe f.Nodes n=d then zQ8 [n] else zf7 (zGl f.Nodes n) d (zQ8 [n])
theorem At.kids {b:List Node} (H:At a b h) {N:Nat} (hk:∀x∈a,x.Kids.length<=N) (r:∀j w,idx a j=some w->(h j w).Kids.length<=w.Kids.length):∀x∈b,x.Kids.length<=N:=fun x hx=>by
 obtain ⟨i,hi,e⟩:=iW hx
 have d:i<a.length:=by rw [<- H.len];exact hi
 have o:idx a (i:Int)=some a[i]:=zAT d
 have q:=H.at_ _ _ o
 rw [zAT hi,e] at q
 obtain rfl:=lJ.inj q
 exact eM (r _ _ o) (hk _ (gC d))
theorem zTn (f:Forest) (n d j:Int) (w:Node):(zCa f n d j w).Kids=w.Kids.filter (fun k => !(([n]:List Int).contains k)):=by
 unfold zCa
 split<;>rfl
theorem zU5 {f:Forest} {fu:Nat} {n d:Int} {l:List Note} (hr:zAG f=true) (hfu:1000<fu) (e:InN f.Nodes n) (hl:l.length<=400000000):At f.Nodes (zMC f n d) (zCa f n d)/\(zOc f n d).length<=400/\zG4 fu n d f.Most (zJE f.Nodes) l=some (zJE (zMC f n d),l++zGO f n++zOc f n d):=by
 have hs:=zAH hr
 have D:=zLb hr e
 have Q:=zAH D
 have E:=zSh hr e
 have N:InN (zLj f.Nodes n) n:=by unfold InN at e ⊢;rw [zRY];exact e
 obtain ⟨z,hz⟩:=zAK e
 have V:=E.at_ n z hz
 have hwl:=zKH hr e
 unfold zG4
 rw [zU3 hr hfu e (by omega),zAA,zGJ V,zAA,zAj]
 have q:(zQ8 [n] n z).Doc=zMe f.Nodes n:=by rw [zNK hz];rfl
 simp only [q]
 by_cases o:zMe f.Nodes n=d
 ·rw [iP o]
  unfold zMC zCa zOc
  rw [iP o,iP o,iP o,gI]
  exact ⟨E,by simp,rfl⟩
 ·rw [iN o,zIi,zYZ (f:=⟨zLj f.Nodes n,f.Most⟩) Q hfu D N,zAA]
  have J:∀x∈zGl f.Nodes n,InN f.Nodes x:=fun x hx=>((zAQ hr).all_in n e x hx).1
  have I:=zbj E (d:=d) J
  have G:(zGl f.Nodes n).length<=400:=by
   have:=(zAQ hr).all_len e
   have:=(zAb hr).2.1
   omega
  have F:zMC f n d=zaA (zLj f.Nodes n) (zGl f.Nodes n) d:=by unfold zMC;rw [iN o]
  have eN:zCa f n d=zf7 (zGl f.Nodes n) d (zQ8 [n]):=by unfold zCa;rw [iN o]
  have r:zEq fu (zMC f n d):=fun x hx=>by
   have:=At.kids I hs.kids (fun j w _=>by simp only [zf7,zQ8];exact iT _ _) x (by rw [<- F];exact hx)
   omega
  have B:InN (zMC f n d) n:=by
   unfold InN at e ⊢
   rw [F,I.len]
   exact e
  have u:(zOc f n d).length<=400:=by
   unfold zOc
   rw [iN o,lL]
   exact zTY (f:=⟨zMC f n d,f.Most⟩) B
  refine ⟨by rw [F,eN];exact I,u,?_⟩
  rw [zey hr e]
  have:=upf (L:=zDt fu n d f.Most (zJE (zLj f.Nodes n),l++zGO f n) (zQ8 [n] n z,true) (zGl f.Nodes n)) (f:=fun i=>((i:Int),zJE (zaA (zLj f.Nodes n) ((zGl f.Nodes n).take i) d))) (v:=some (zJE (zMC f n d),l++zGO f n++zOc f n d)) (zGl f.Nodes n).length (fun i hi k=>?_) (fun k=>?_) (show (zGl f.Nodes n).length<fu by omega)
  ·simpa [zaA] using this
  ·have hx:=J _ (gC hi)
   obtain ⟨w0,S⟩:=zAK hx
   have W:=(zbi E J (d:=d) i (by omega)).at_ _ _ S
   simp only [zDt]
   rw [zAP (by simpa using hi),zAT hi,zAA,zGJ W,zAA,zBL (by omega),zAA,iE hi,zV2,W,zNS]
  ·simp only [zDt]
   rw [zAN (by simp),iI,<- F]
   have:=zVS (f:=⟨zMC f n d,f.Most⟩) (x:=zWT (zMe f.Nodes n) d) (l:=l++zGO f n) r hfu B (by simp only [eR];omega)
   have X:(⟨3,0,(zQ8 [n] n z,true).1.Doc,d,[],false,false,[],[]⟩:Note)=zWT (zMe f.Nodes n) d:=by rw [<- q];rfl
   rw [X]
   rw [this,zAA]
   unfold zOc
   rw [iN o]
theorem zeR {f:Forest} (hr:zAG f=true):∀j,InN f.Nodes j->∀a∈zGf f.Nodes j,zMe f.Nodes a=zMe f.Nodes j:=(zAQ hr).up_ind fun j G V a d=>by
 have U:=zAQ hr
 have B:=(zAb hr).2.2.1
 rw [U.wayU_eq G] at d
 rcases lD.1 d with e | d
 ·rw [e]
 ·by_cases E:upI f.Nodes j = -1
  ·rw [iP E] at d;cases d
  ·rw [iN E] at d
   rw [V E a d]
   obtain ⟨w,r⟩:=zAK G
   obtain ⟨J,Q⟩:=U.par j G E
   obtain ⟨q,D⟩:=zAK J
   rw [zNK r,zNK D]
   by_cases I:w.Parent = -1
   ·have F:upI f.Nodes j=w.Host:=by rw [zHY r,iP I]
    obtain ⟨u,N,_,_,S,_⟩:=zUo B r (by rw [<- F];exact E)
    rw [F] at D
    rw [D] at N
    obtain rfl:=lJ.inj N
    exact S
   ·have F:upI f.Nodes j=w.Parent:=by rw [zHY r,iN I]
    obtain ⟨y,H⟩:=zHH hr r I
    have o:=zBm B H.hy
    unfold zF3 zEk at o
    simp only [lM,lR] at o
    have hk:=o.2.2.2.1.2.1 j H.mem
    unfold zPM at hk
    rw [r] at hk
    simp only [lM,beq_iff_eq] at hk
    rw [F,H.hy] at D
    obtain rfl:=lJ.inj D
    exact hk.2.1.symm
def zNA (w:Node) (K:List Int):Node:=⟨w.Kind,w.Name,w.Is,w.Data,w.Attrs,w.Parent,K,w.Host,w.Under,w.Doc⟩
def zWI (l:List Int) (b k:Int):List Int:=zVZ l (if b = -1 then l.length else l.idxOf b) [k]
def zJX (f:Forest) (k p b:Int):List Node:=match idx f.Nodes p with
 | some y=>(match idx (zMC f k y.Doc) p with
  | some d=>(match idx ((zMC f k y.Doc).set p.toNat (zNA d (zWI d.Kids b k))) k with
   | some e=>((zMC f k y.Doc).set p.toNat (zNA d (zWI d.Kids b k))).set k.toNat (zT2 e p)
   | none=>f.Nodes)
  | none=>f.Nodes)
 | none=>f.Nodes
def zUZ (g:Forest) (k:Int):List Note:=if zGm g.Nodes k=true then (zMO g.Nodes k).map (zKE ⟨1,0,0,0,[],false,false,[],[]⟩) else []
def zWh (f:Forest) (k p b:Int):List Note:=zGO f k++zOc f k (zMe f.Nodes p)++zUZ ⟨zJX f k p b,f.Most⟩ k
structure Part (f:Forest) (k p b:Int) (z y:Node):Prop where
 hz:idx f.Nodes k=some z
 hy:idx f.Nodes p=some y
 kind:z.Kind=1\/z.Kind=2
 holder:zGn y.Kind=true
 free:k∉zGf f.Nodes p
 bef:b = -1\/b∈y.Kids
 bk:b≠k
 crowd:y.Kind=0->zGg f.Nodes p (-1) [k]=false
theorem zcG (l:List Int) (i:Nat) (k:Int):(zVZ l i [k]).Perm (l++[k]):=by
 unfold zVZ
 have d:(l.take i++[k]++l.drop i).Perm (l.take i++(l.drop i++[k])):=by
  rw [eS]
  exact List.Perm.append_left _ List.perm_append_comm
 refine d.trans ?_
 rw [<- eS,jT]
section
variable {f:Forest} {k p b:Int} {z y:Node} (hr:zAG f=true) (P:Part f k p b z y)
include P
theorem Part.parts:zAU k z=[k]:=by
 unfold zAU
 have:=P.kind
 rw [iN (by omega)]
theorem Part.may:May f k p z y where
 hx:=P.hz
 hy:=P.hy
 holder:=P.holder
 over:=by
  rw [iL]
  exact fun h=>P.free (zLc.1 h)
 k0:=by have:=P.kind;omega
 k4:=by have:=P.kind;omega
 crowd h:=by rw [P.parts];exact P.crowd h
include hr
theorem Part.ne:k≠p:=fun e=>P.free (by rw [<- e];exact (zAQ hr).wayU_self (zAI P.hz))
theorem zOi {fu:Nat} (hfu:1000<fu):At f.Nodes (zJX f k p b) (zXn f [k] p y.Doc (zWI (y.Kids.filter (fun c => !(([k]:List Int).contains c))) b k) [k])/\idx (zMC f k y.Doc) p=some (zCa f k y.Doc p y)/\zJX f k p b=((zMC f k y.Doc).set p.toNat (zNA (zCa f k y.Doc p y) (zWI (zCa f k y.Doc p y).Kids b k))).set k.toNat (zT2 (zCa f k y.Doc k z) p)/\idx ((zMC f k y.Doc).set p.toNat (zNA (zCa f k y.Doc p y) (zWI (zCa f k y.Doc p y).Kids b k))) k=some (zCa f k y.Doc k z):=by
 have U:=zAQ hr
 have D:=P.ne hr
 have hk:InN f.Nodes k:=zAI P.hz
 have hp:InN f.Nodes p:=zAI P.hy
 have HO:=(zU5 (l:=[]) (d:=y.Doc) hr hfu hk (by simp)).1
 have h1:=HO.at_ p y P.hy
 have H1:=HO.set hp (zNA (zCa f k y.Doc p y) (zWI (zCa f k y.Doc p y).Kids b k))
 have I:=H1.at_ k z P.hz
 rw [iN D] at I
 have H2:=H1.set hk (zT2 (zCa f k y.Doc k z) p)
 have e:zJX f k p b=((zMC f k y.Doc).set p.toNat (zNA (zCa f k y.Doc p y) (zWI (zCa f k y.Doc p y).Kids b k))).set k.toNat (zT2 (zCa f k y.Doc k z) p):=by
  unfold zJX
  rw [P.hy]
  simp only
  rw [h1]
  simp only
  rw [I]
 refine ⟨?_,h1,e,I⟩
 rw [e]
 refine H2.congr fun j w E=>?_
 have r:∀j,([k]:List Int).contains j=true↔j=k:=fun j=>by rw [e7,e8]
 have F:(([k]:List Int).any fun c=>(zGl f.Nodes c).contains j)=(zGl f.Nodes k).contains j:=by simp
 have hdoc:zMe f.Nodes k=z.Doc:=zNK P.hz
 have o:(zCa f k y.Doc j w).Doc=if (zGl f.Nodes k).contains j=true then y.Doc else w.Doc:=by
  unfold zCa
  by_cases J:zMe f.Nodes k=y.Doc
  ·rw [iP J]
   split
   ·rename_i hc
    have:=zeR hr j (zAI E) k ((U.all_in k hk j (e7.1 hc)).2)
    rw [zNK E,J] at this
    exact this.symm
   ·rfl
  ·rw [iN J];rfl
 have u:(zCa f k y.Doc j w).Kind=w.Kind/\(zCa f k y.Doc j w).Name=w.Name/\(zCa f k y.Doc j w).Is=w.Is/\(zCa f k y.Doc j w).Data=w.Data/\(zCa f k y.Doc j w).Attrs=w.Attrs/\(zCa f k y.Doc j w).Host=w.Host/\(zCa f k y.Doc j w).Under=w.Under/\(zCa f k y.Doc j w).Parent=(if ([k]:List Int).contains j=true then -1 else w.Parent):=by
  unfold zCa
  split<;>exact ⟨rfl,rfl,rfl,rfl,rfl,rfl,rfl,rfl⟩
 obtain ⟨N,Q,S,V,W,X,r7,r8⟩:=u
 have rk:=zTn f k y.Doc j w
 unfold zXn
 rw [F]
 by_cases q:j=k
 ·subst q
  have G:w=z:=by
   have:=P.hz
   rw [E] at this
   exact lJ.inj this
  subst G
  rw [iP rfl,iP ((r j).2 rfl),iN D]
  unfold zT2
  rw [N,Q,S,V,W,X,r7,o,rk]
 ·rw [iN q,iN fun h=>q ((r j).1 h),iN fun h=>q ((r j).1 h)]
  rw [iN fun h=>q ((r j).1 h)] at r8
  by_cases B:j=p
  ·subst B
   have G:w=y:=by
    have:=P.hy
    rw [E] at this
    exact lJ.inj this
   subst G
   rw [iP rfl,iP rfl]
   unfold zNA
   rw [N,Q,S,V,W,X,r7,r8,o,rk]
  ·rw [iN B,iN B]
   rw [<- N,<- Q,<- S,<- V,<- W,<- X,<- r7,<- r8,<- o,<- rk]
theorem zVH {fu:Nat} (hfu:1000<fu):∃K,At f.Nodes (zJX f k p b) (zXn f (zAU k z) p y.Doc K (zAU k z))/\K.Perm (y.Kids.filter (fun c => !((zAU k z).contains c))++zAU k z):=by
 rw [P.parts]
 exact ⟨_,(zOi hr P hfu).1,zcG _ _ _⟩
theorem zIW {fu:Nat} (hfu:1000<fu):zAG ⟨zJX f k p b,f.Most⟩=true:=by
 obtain ⟨K,H,hK⟩:=zVH hr P hfu
 exact zb3 (g:=⟨zJX f k p b,f.Most⟩) hr P.may H hK rfl
theorem zZP {fu:Nat} (hfu:1000<fu):(zJX f k p b).length=f.Nodes.length:=(zOi hr P hfu).1.len
theorem zVG {fu:Nat} (hfu:1000<fu):(zWh f k p b).length<=1200:=by
 have hk:InN f.Nodes k:=zAI P.hz
 have r:=zKH hr hk
 have q:=(zU5 (l:=[]) (d:=zMe f.Nodes p) hr hfu hk (by simp)).2.1
 have e:=zIW hr P hfu
 have o:InN (zJX f k p b) k:=by unfold InN at hk ⊢;rw [zZP hr P hfu];exact hk
 have u:(zUZ ⟨zJX f k p b,f.Most⟩ k).length<=400:=by
  unfold zUZ
  split
  ·have:=(zAQ e).all_len o
   have q:(zMO (zJX f k p b) k).length<=(zGl (zJX f k p b) k).length:=iT _ _
   have:=(zAb e).2.1
   simp only [lL] at *
   omega
  ·simp
 unfold zWh
 simp only [eR]
 omega
theorem zWg {fu:Nat} {K:Nat} {l:List Note} (hfu:1000<fu) (hi:i<L.length) (hk:L[i]=k) (hL:L.length<=1000) (hl:l.length<=300000000) :
  zAy fu p b f.Most L (K+1) ((i:Int),zJE f.Nodes,l)=zAy fu p b f.Most L K (((i+1:Nat):Int),zJE (zJX f k p b),l++zWh f k p b):=by
 have U:=zAQ hr
 have hs:=zAH hr
 have e:InN f.Nodes k:=zAI P.hz
 obtain ⟨G,N,h2,h3⟩:=zOi hr P hfu
 have q:=zIW hr P hfu
 have E:InN (zJX f k p b) k:=by unfold InN at e ⊢;rw [G.len];exact e
 obtain ⟨-,ho2,J⟩:=zU5 (l:=l) (d:=y.Doc) hr hfu e (by omega)
 have hwl:=zKH hr e
 have o:=zTn f k y.Doc p y
 have hkl:(zCa f k y.Doc p y).Kids.length<=400:=by
  rw [o]
  exact eM (iT _ _) (hs.kids y (zFC P.hy))
 have u:zMe f.Nodes p=y.Doc:=zNK P.hy
 have F:∀(at_:Nat),at_<=(zCa f k y.Doc p y).Kids.length->zWI (zCa f k y.Doc p y).Kids b k=zVZ (zCa f k y.Doc p y).Kids at_ [k]->zFl fu p f.Most (i:Int) k (zJE (zMC f k y.Doc),l++zGO f k++zOc f k y.Doc) (zCa f k y.Doc p y,true) (zAy fu p b f.Most L K) ((at_:Nat):Int)=zAy fu p b f.Most L K (((i+1:Nat):Int),zJE (zJX f k p b),l++zWh f k p b):=by
  intro at_ hat D
  unfold zFl
  rw [zGJ N,zAA]
  simp only
  have B:zNM fu (zCa f k y.Doc p y).Kids ((at_:Nat):Int) [k]=some (zWI (zCa f k y.Doc p y).Kids b k):=by
   unfold zNM
   rw [iP ⟨by omega,by omega,by simp,by simp only [cP,eK];omega⟩,D]
   rfl
  rw [B,zAA,zAA]
  have V:(⟨(zCa f k y.Doc p y).Kind,(zCa f k y.Doc p y).Name,(zCa f k y.Doc p y).Is,(zCa f k y.Doc p y).Data,(zCa f k y.Doc p y).Attrs,(zCa f k y.Doc p y).Parent,zWI (zCa f k y.Doc p y).Kids b k,(zCa f k y.Doc p y).Host,(zCa f k y.Doc p y).Under,(zCa f k y.Doc p y).Doc⟩:Node)=zNA (zCa f k y.Doc p y) (zWI (zCa f k y.Doc p y).Kids b k):=rfl
  rw [V,zNS,zGJ h3,zAA]
  simp only
  have W:(⟨(zCa f k y.Doc k z).Kind,(zCa f k y.Doc k z).Name,(zCa f k y.Doc k z).Is,(zCa f k y.Doc k z).Data,(zCa f k y.Doc k z).Attrs,p,(zCa f k y.Doc k z).Kids,(zCa f k y.Doc k z).Host,(zCa f k y.Doc k z).Under,(zCa f k y.Doc k z).Doc⟩:Node)=zT2 (zCa f k y.Doc k z) p:=rfl
  rw [W,zNS,<- h2,zIi,zUF (f:=⟨zJX f k p b,f.Most⟩) (zAH q) hfu q E,zAA]
  have X:∀m,l++zGO f k++zOc f k y.Doc++m=l++(zGO f k++zOc f k y.Doc++m):=fun m=>by simp only [eS]
  cases Q:zGm (zJX f k p b) k with
  | false =>
   rw [zAD,zBL (by omega),zAA]
   unfold zWh zUZ
   rw [u,iN (by rw [Q];simp),gI,<- eS]
  | true =>
   have S:=zVS (f:=⟨zJX f k p b,f.Most⟩) (x:=⟨1,0,0,0,[],false,false,[],[]⟩) (l:=l++zGO f k++zOc f k y.Doc) ((zAH q).fit hfu) hfu E (by simp only [eR];omega)
   simp only at S
   rw [zAO,S,zAA,zBL (by omega),zAA,X]
   unfold zWh zUZ zQe
   rw [u,iP q,iP Q]
 simp only [zAy]
 rw [zAP (by simpa using hi),zAT hi,zAA,hk,zGJ P.hy,zAA,J,zAA,zGJ N,zAA,show zTK (zCa f k y.Doc p y,true).2=some () from rfl,zAA,zAW]
 by_cases r:b = -1
 ·rw [iP r]
  exact F _ (cB _) (by unfold zWI;rw [iP r])
 ·rw [iN r,zAA,zT1 (by simp only;omega) (by simp only;omega),zAA]
  have I:b∈(zCa f k y.Doc p y).Kids:=by
   rw [o,iJ]
   refine ⟨P.bef.resolve_left r,?_⟩
   rw [gM,iL]
   intro h
   rw [e7,e8] at h
   exact P.bk h
  obtain ⟨g1,g2⟩:=zRP I
  simp only
  rw [g1]
  exact F _ (by omega) (by unfold zWI;rw [iN r])
end
end
section
inductive Mv:Nat->Forest->Forest->List Note->Prop
 | refl (f:Forest):Mv 0 f f []
 | out {m:Nat} {f g:Forest} {l:List Note} {n:Int}:Mv m f g l->InN g.Nodes n->Mv (m+1) f ⟨zLj g.Nodes n,g.Most⟩ (l++zGO g n)
 | put {m:Nat} {f g:Forest} {l:List Note} {k p b:Int} {z y:Node}:Mv m f g l->Part g k p b z y->Mv (m+1) f ⟨zJX g k p b,g.Most⟩ (l++zWh g k p b)
def zON (a b:List Node):Prop:=b.length=a.length/\∀j w,idx a j=some w->∃v,idx b j=some v/\v.Kind=w.Kind/\v.Name=w.Name/\v.Is=w.Is/\v.Data=w.Data/\v.Attrs=w.Attrs/\v.Host=w.Host/\v.Under=w.Under
theorem zON.refl (a:List Node):zON a a:=⟨rfl,fun _ w h=>⟨w,h,rfl,rfl,rfl,rfl,rfl,rfl,rfl⟩⟩
theorem zON.trans {b c:List Node} (d:zON a b) (e:zON b c):zON a c:=by
 refine ⟨e.1.trans d.1,fun j w I=>?_⟩
 obtain ⟨v,o,q,r,B,D,E,F,G⟩:=d.2 j w I
 obtain ⟨u,J,N,Q,k4,S,V,W,X⟩:=e.2 j v o
 exact ⟨u,J,N.trans q,Q.trans r,k4.trans B,S.trans D,V.trans E,W.trans F,X.trans G⟩
theorem zON.inN {b:List Node} (h:zON a b) {n:Int}:InN b n↔InN a n:=by unfold InN;rw [h.1]
theorem zON.isB {b:List Node} (h:zON a b) {n k:Int}:isB b n k=isB a n k:=by
 cases d:idx a n with
 | none =>
  have:idx b n=none:=by
   by_cases e:0<=n/\n<b.length
   ·rw [h.1] at e
    obtain ⟨x,hx⟩:=zAK e
    rw [d] at hx;cases hx
   ·exact zCk e
  unfold Proofs.YtmfbghpealgaiaaGreatDoor.isB;rw [d,this]
 | some w =>
  obtain ⟨v,o,q,_⟩:=h.2 n w d
  unfold Proofs.YtmfbghpealgaiaaGreatDoor.isB;rw [d,o];simp only [q]
theorem At.same {b:List Node} (H:At a b h) (e:∀j w,idx a j=some w->(h j w).Kind=w.Kind/\(h j w).Name=w.Name/\(h j w).Is=w.Is/\(h j w).Data=w.Data/\(h j w).Attrs=w.Attrs/\(h j w).Host=w.Host/\(h j w).Under=w.Under):zON a b :=
 ⟨H.len,fun j w d=>⟨_,H.at_ j w d,e j w d⟩⟩
theorem zSi {f:Forest} (hr:zAG f=true) {n:Int} (d:InN f.Nodes n):zON f.Nodes (zLj f.Nodes n):=At.same (zSh hr d) fun _ _ _=>⟨rfl,rfl,rfl,rfl,rfl,rfl,rfl⟩
theorem zPa {f:Forest} (hr:zAG f=true) {k p b:Int} {z y:Node} (P:Part f k p b z y):zON f.Nodes (zJX f k p b):=At.same (zOi hr P (fu:=1001) (by omega)).1 fun _ _ _=>⟨rfl,rfl,rfl,rfl,rfl,rfl,rfl⟩
theorem Mv.all {m:Nat} {f g:Forest} {l:List Note} (h:Mv m f g l) (hr:zAG f=true):zAG g=true/\g.Most=f.Most/\zON f.Nodes g.Nodes/\l.length<=1200*m:=by
 induction h with
 | refl f=>exact ⟨hr,rfl,zON.refl _,by simp⟩
 | out _ q r =>
  obtain ⟨d,e,o,u⟩:=r hr
  have:=zKH d q
  exact ⟨zLb d q,e,o.trans (zSi d q),by simp only [eR];omega⟩
 | put _ P r =>
  obtain ⟨d,e,o,u⟩:=r hr
  have:=zVG d P (fu:=1001) (by omega)
  exact ⟨zIW d P (fu:=1001) (by omega),e,o.trans (zPa d P),by simp only [eR];omega⟩
theorem Mv.trans {m n:Nat} {f g h:Forest} {l o:List Note} (d:Mv m f g l) (q:Mv n g h o):Mv (m+n) f h (l++o):=by
 induction q with
 | refl g=>simpa using d
 | out _ r e=>rw [<- eS];exact .out (e d) r
 | put _ P e=>rw [<- eS];exact .put (e d) P
theorem zez {f:Forest} (hr:zAG f=true) {n:Int} (o:InN f.Nodes n) {j:Int} (e:InN f.Nodes j) (q:n∉zGf f.Nodes j):zGf (zLj f.Nodes n) j=zGf f.Nodes j:=by
 obtain ⟨z,hz⟩:=zAK o
 by_cases d:z.Parent = -1
 ·rw [zPU hz d]
 ·obtain ⟨y,H⟩:=zHH hr hz d
  rw [zM4 H d]
  exact zck H hr j e q
theorem zfG {f:Forest} (hr:zAG f=true) {k p b:Int} {z y:Node} (P:Part f k p b z y):∀j,InN f.Nodes j->k∉zGf f.Nodes j->zGf (zJX f k p b) j=zGf f.Nodes j:=(zAQ hr).up_ind fun j d u hk=>by
 have U:=zAQ hr
 have r:=zIW hr P (fu:=1001) (by omega)
 have V:=zAQ r
 obtain ⟨K,H,hK⟩:=zVH hr P (fu:=1001) (by omega)
 have e:=U.wayU_eq d
 rw [e] at hk
 have q:j∉zAU k z:=by
  rw [P.parts,e8]
  exact fun h=>hk (by rw [h];simp)
 have o:InN (zJX f k p b) j:=by unfold InN at d ⊢;rw [H.len];exact d
 rw [e,V.wayU_eq o,zb4 (g:=⟨zJX f k p b,f.Most⟩) P.may H d,iN q]
 by_cases h:upI f.Nodes j = -1
 ·rw [iP h,iP h]
 ·rw [iN h] at hk
  rw [iN h,iN h,u h fun hm=>hk (lG _ hm)]
structure PI (g:Forest) (p b:Int) (M:List Int):Prop where
 hr:zAG g=true
 parts:∀k∈M,∃z,idx g.Nodes k=some z/\(z.Kind=1\/z.Kind=2)/\k∉zGf g.Nodes p
 nod:M.Nodup
 bM:b∉M
 par:∃y,idx g.Nodes p=some y/\zGn y.Kind=true/\(b = -1\/b∈y.Kids)/\(y.Kind=0->M.length<=1/\∀k∈M,zGg g.Nodes p (-1) [k]=false)
theorem PI.part {g:Forest} {p b k:Int} {M:List Int} (h:PI g p b M) (hk:k∈M):∃z y,Part g k p b z y:=by
 obtain ⟨z,hz,o,d⟩:=h.parts k hk
 obtain ⟨y,hy,B,r,u⟩:=h.par
 exact ⟨z,y,hz,hy,o,B,d,r,fun e=>h.bM (e▸hk),fun q=>(u q).2 k hk⟩
theorem PI.next {g:Forest} {p b k:Int} {M:List Int} (h:PI g p b (k::M)):PI ⟨zJX g k p b,g.Most⟩ p b M:=by
 obtain ⟨z,y,P⟩:=h.part (lH ..)
 have I:=zIW h.hr P (fu:=1001) (by omega)
 have F:=zPa h.hr P
 have d:InN g.Nodes p:=zAI P.hy
 have J:=lS.1 h.nod
 refine ⟨I,fun c u=>?_,J.2,fun q=>h.bM (lG _ q),?_⟩
 ·obtain ⟨w,N,hk,G⟩:=h.parts c (lG _ u)
  obtain ⟨v,r,o,_⟩:=F.2 c w N
  exact ⟨v,r,by rw [o];exact hk,by rw [zfG h.hr P p d P.free];exact G⟩
 ·obtain ⟨K,H,hK⟩:=zVH h.hr P (fu:=1001) (by omega)
  obtain ⟨v,r,o,_,_,_,_,D,_⟩:=zLR (g:=⟨zJX g k p b,g.Most⟩) H P.hy
  refine ⟨v,r,by rw [o];exact P.holder,?_,fun B=>?_⟩
  ·by_cases q:b = -1
   ·exact .inl q
   ·right
    rw [D,iP rfl,zd8 hK,P.parts]
    exact .inl ⟨P.bef.resolve_left q,by rw [e8];exact P.bk⟩
  ·obtain ⟨Q,e,_,_,u⟩:=h.par
   rw [P.hy] at e
   obtain rfl:=lJ.inj e
   have:=(u (by rw [<- o];exact B)).1
   have E:M=[]:=by
    simp only [cP] at this
    exact List.length_eq_zero_iff.1 (by omega)
   subst E
   exact ⟨by simp,fun k hk=>by cases hk⟩
theorem PI.out {g:Forest} {p b c:Int} {M:List Int} (h:PI g p b M) (N:c∈M):PI ⟨zLj g.Nodes c,g.Most⟩ p b M:=by
 obtain ⟨z,y,P⟩:=h.part N
 have o:InN g.Nodes c:=zAI P.hz
 have B:InN g.Nodes p:=zAI P.hy
 have X:=zLb h.hr o
 have F:=zSi h.hr o
 have J:=zSh h.hr o
 refine ⟨X,fun k hk=>?_,h.nod,h.bM,?_⟩
 ·obtain ⟨w,hw,G,W⟩:=h.parts k hk
  obtain ⟨v,Q,S,_⟩:=F.2 k w hw
  exact ⟨v,Q,by rw [S];exact G,by rw [zez h.hr o B P.free];exact W⟩
 ·obtain ⟨y',D,hh,V,u⟩:=h.par
  rw [P.hy] at D
  obtain rfl:=lJ.inj D
  refine ⟨_,J.at_ p y P.hy,hh,?_,fun I=>⟨(u I).1,fun k hk=>?_⟩⟩
  ·by_cases r:b = -1
   ·exact .inl r
   ·right
    unfold zQ8
    simp only
    rw [iJ]
    refine ⟨V.resolve_left r,?_⟩
    rw [gM,iL]
    intro E
    rw [e7,e8] at E
    exact h.bM (E▸N)
  ·have d:=(u I).2 k hk
   unfold zGg at d ⊢
   rw [P.hy] at d
   rw [J.at_ p y P.hy]
   have m1:∀q,zEJ (zLj g.Nodes c) (-1) [k] q=zEJ g.Nodes (-1) [k] q:=fun q=>by
    unfold zEJ
    exact iF fun j _=>by rw [F.isB]
   have m2:zEJ (zLj g.Nodes c) (-1) (zQ8 [c] p y).Kids 1<=zEJ g.Nodes (-1) y.Kids 1:=by
    have e:zEJ (zLj g.Nodes c) (-1) (zQ8 [c] p y).Kids 1=zEJ g.Nodes (-1) (zQ8 [c] p y).Kids 1:=by
     unfold zEJ
     exact iF fun j _=>by rw [F.isB]
    rw [e]
    unfold zEJ zQ8
    simp only
    exact iX.countP_le
   simp only [m1]
   simp only [iY,jN,decide_eq_false_iff_not] at d ⊢
   refine ⟨d.1,d.2.imp id fun E=>?_⟩
   omega
theorem puts6 {fu:Nat} {p b:Int} (hfu:1000<fu) (J:L.length<=400):∀(M:List Int) (i K:Nat) (g:Forest) (l:List Note),L.drop i=M->i<=L.length->M.length<K->PI g p b M->l.length+1200*M.length<=300000000 ->
  ∃h q,Mv M.length g h q/\zAy fu p b g.Most L K ((i:Int),zJE g.Nodes,l)=some (zJE h.Nodes,l++q):=by
 intro M
 induction M with
 | nil =>
  intro i K g l e hi hK _ _
  obtain ⟨K,rfl⟩:∃r,K=r+1:=⟨K - 1,by simp at hK;omega⟩
  have:i=L.length:=by
   have:=congrArg iO e
   simp at this
   omega
  subst this
  refine ⟨g,[],.refl g,?_⟩
  simp only [zAy]
  rw [zAN (by simp),gI]
 | cons k M I =>
  intro i K g l e hi hK o F
  obtain ⟨K,rfl⟩:∃r,K=r+1:=⟨K - 1,by simp at hK;omega⟩
  have d:i<L.length:=by
   rcases Nat.lt_or_ge i L.length with h | h
   ·exact h
   ·rw [List.drop_of_length_le h] at e;cases e
  have B:L[i]=k:=by
   have:=eT d
   rw [e] at this
   exact (dU.inj this).1.symm
  have u:L.drop (i+1)=M:=by
   have:=eT d
   rw [e] at this
   exact (dU.inj this).2.symm
  obtain ⟨z,y,P⟩:=o.part (lH ..)
  have G:=zVG o.hr P (fu:=1001) (by omega)
  simp only [cP] at F hK
  obtain ⟨h,q,D,E⟩:=I (i+1) K ⟨zJX g k p b,g.Most⟩ (l++zWh g k p b) u (by omega) (by omega) o.next (by simp only [eR];omega)
  refine ⟨h,zWh g k p b++q,?_,?_⟩
  ·have:=(Mv.put (.refl g) P).trans D
   rw [iU] at this
   rw [cP,Nat.add_comm M.length 1]
   simpa using this
  ·rw [zWg o.hr P hfu d B (by omega) (by omega)]
   rw [E,eS]
theorem outs6 {fu:Nat} {p b:Int} (hfu:1000<fu) (I:L.length<=400):∀(m i K:Nat) (g:Forest) (l:List Note),i+m=L.length->m<K->PI g p b L->l.length+1200*m<=300000000 ->
  ∃h q,Mv m g h q/\PI h p b L/\zES fu p b g.Most L K ((i:Int),zJE g.Nodes,l)=zDW fu p b g.Most L (zJE h.Nodes,l++q):=by
 intro m
 induction m with
 | zero =>
  intro i K g l hi hK o _
  obtain ⟨K,rfl⟩:∃r,K=r+1:=⟨K - 1,by omega⟩
  obtain rfl:i=L.length:=by omega
  refine ⟨g,[],.refl g,o,?_⟩
  simp only [zES]
  rw [zAN (by simp),gI]
 | succ m G =>
  intro i K g l hi hK o J
  obtain ⟨K,rfl⟩:∃r,K=r+1:=⟨K - 1,by omega⟩
  have e:i<L.length:=by omega
  have d:L[i]∈L:=gC e
  obtain ⟨z,y,P⟩:=o.part d
  have u:InN g.Nodes L[i]:=zAI P.hz
  have F:=zKH o.hr u
  obtain ⟨h,q,B,D,E⟩:=G (i+1) K ⟨zLj g.Nodes L[i],g.Most⟩ (l++zGO g L[i]) (by omega) (by omega) (o.out d) (by simp only [eR];omega)
  refine ⟨h,zGO g L[i]++q,?_,D,?_⟩
  ·have:=(Mv.out (.refl g) u).trans B
   rw [iU] at this
   rw [show m+1=0+1+m by omega]
   exact this
  ·simp only [zES]
   rw [zAP (by simpa using e),zAT e,zAA,zU3 o.hr hfu u (by omega),zAA,zBL (by omega),zAA,E,eS]
theorem zgM {fu:Nat} {g:Forest} {n:Int} {x:Node} (hr:zAG g=true) (hfu:1000<fu) (hx:idx g.Nodes n=some x):zJf fu g n=some (zAU n x):=by
 have hs:=zAH hr
 have d:=hs.kids x (zFC hx)
 unfold zJf zAU
 rw [zFn hfu (hs.fit hfu) hr (by simp),zAA]
 simp only [cK,iQ,zN9 (show InN g.Nodes n from zAI hx),iR,iA,zAD]
 rw [hx,zAA,zAj,zAA,zVz (by omega),zAA]
 split<;>rfl
theorem zc0 {fu:Nat} {g:Forest} {n p b:Int} {x:Node} {l:List Note} (hfu:1000<fu) (hx:idx g.Nodes n=some x) (o:PI g p b (zAU n x)) (S:l.length<=1000) :
  ∃h q,Mv ((if x.Kind=3 then (zAU n x).length else 0)+(zAU n x).length) g h q/\zCf fu n p b g.Most (zJE g.Nodes) l=some (zJE h.Nodes,l++q):=by
 have hs:=zAH o.hr
 have d:(zAU n x).length<=400:=by
  unfold zAU
  split
  ·exact hs.kids x (zFC hx)
  ·simp
 unfold zCf
 rw [zIi,zgM o.hr hfu hx,zAA,zGJ hx,zAA,zAj]
 by_cases e:x.Kind=3
 ·rw [iP e,iP e]
  obtain ⟨F,B,D,E,u⟩:=outs6 (L:=zAU n x) hfu d (zAU n x).length 0 fu g l (by omega) (by omega) o (by omega)
  obtain ⟨-,hm,-,J⟩:=D.all o.hr
  obtain ⟨h,N,Q,r⟩:=puts6 (L:=zAU n x) hfu d (zAU n x) 0 fu F (l++B) rfl (by omega) (by omega) E (by simp only [eR];omega)
  refine ⟨h,B++N,D.trans Q,?_⟩
  rw [hm] at r
  rw [show ((0:Nat):Int)=0 from rfl] at u r
  rw [u]
  unfold zDW
  exact r.trans (by rw [eS])
 ·rw [iN e,iN e]
  unfold zDW
  obtain ⟨h,q,G,I⟩:=puts6 (L:=zAU n x) hfu d (zAU n x) 0 fu g l rfl (by omega) (by omega) o (by unfold zAU;rw [iN e];simp;omega)
  exact ⟨h,q,by rw [dA];exact G,I⟩
end
section
theorem zSa (b:UInt8):(zGc b).toNat=if upB b=true then b.toNat+32 else b.toNat:=by
 unfold zGc
 by_cases h:upB b=true
 ·rw [iP h,iP h,UInt8.toNat_add]
  have d:(32:UInt8).toNat=32:=rfl
  unfold upB at h
  simp only [lM,decide_eq_true_eq] at h
  omega
 ·rw [iN h,iN h]
theorem zcU (b:UInt8):upB (zGc b)=false:=by
 have:=zSa b
 unfold upB at this ⊢
 simp only [lM,decide_eq_true_eq,jN,decide_eq_false_iff_not] at this ⊢
 split at this<;>omega
theorem zX0 (b:UInt8):zGc (zGc b)=zGc b:=by
 have h:∀c:UInt8,upB c=false->zGc c=c:=fun c d=>by
  unfold zGc
  rw [iN (by rw [d];simp)]
 exact h _ (zcU b)
theorem zcT (s:Bs):(s.map zGc).map zGc=s.map zGc:=by
 rw [iZ]
 exact iM fun b _=>zX0 b
theorem zaN {b:UInt8} (h:zQH b=true):zQH (zGc b)=true:=by
 have:=zSa b
 unfold zQH zcR upB at *
 simp only [dD,lM,decide_eq_true_eq] at *
 split at this<;>omega
theorem zaM {b:UInt8} (h:zaH b=true):zaH (zGc b)=true:=by
 have:=zSa b
 unfold zaH zcR upB at *
 simp only [dD,lM,decide_eq_true_eq] at *
 split at this<;>omega
theorem zYI (h:zF1 s=true):zF1 (s.map zGc)=true:=by
 unfold zF1 at *
 simp only [lM,decide_eq_true_eq,lL,lR,lE] at *
 obtain ⟨⟨⟨e,o⟩,q⟩,d⟩:=h
 refine ⟨⟨⟨e,o⟩,?_⟩,?_⟩
 ·rintro x ⟨b,r,rfl⟩
  exact zaN (q b r)
 ·cases s with
  | nil=>cases d
  | cons b t=>exact zaM d
theorem zb8 (h:zF1 s=true):zXo (s.map zGc)=true:=by
 unfold zXo
 rw [zYI h,zcT]
 simp
theorem zRI (h:zHG l=true):l.length<=40:=by
 unfold zHG at h
 simp only [lM,decide_eq_true_eq] at h
 exact h.1
theorem zbA {fu:Nat} (e:l.length<=1000000) (d:l.length<fu):zKV fu l s=some (zKo l fun a=>a.Name==s):=by
 unfold zKV zBO
 rw [zVV (L:=zAa _ l) l (fun a=>a.Name==s) (fun i hi k=>?_) (fun k=>?_) d,zAA]
 ·simp only [zAa]
  rw [zAP (by simpa using hi),zAT hi,zAA]
  unfold zGq
  rw [zAA,zBL (by omega),zAA]
  cases l[i].Name==s<;>rfl
 ·simp only [zAa]
  rw [zAN (by simp)]
def zGY (l:List Attr) (n:Bs):Bs×Int×Int:=if zHG l=true then (if zF1 n=true then (n.map zGc,zKo l (fun a=>a.Name==n.map zGc),0) else ([],-1,4)) else ([],-1,1)
theorem zRH {fu:Nat} {n:Bs} (hfu:200<fu):zG6 fu l n=some (zGY l n):=by
 unfold zG6 zGY
 rw [zQV hfu,zAA]
 by_cases h:zHG l=true
 ·have:=zRI h
  rw [h,zSN hfu,zAA,iP rfl]
  by_cases hr:zF1 n=true
  ·rw [iP hr,iP hr,zbA (by omega) (by omega),zAA]
   rfl
  ·rw [iN hr,iN hr];rfl
 ·have d:zHG l=false:=by cases e:zHG l with
   | false=>rfl
   | true=>exact absurd e h
  rw [iN h,d];rfl
theorem zRG {n:Bs}:(zGY l n).2.1<0\/∃(i:Nat) (_:i<l.length),(zGY l n).2.1=(i:Int)/\zHG l=true/\(zGY l n).2.2=0:=by
 unfold zGY
 by_cases h:zHG l=true
 ·rw [iP h]
  by_cases hr:zF1 n=true
  ·rw [iP hr]
   simp only
   cases e:l.any (fun a=>a.Name==n.map zGc) with
   | false=>left;rw [zSo e];omega
   | true =>
    obtain ⟨i,hi,d,_⟩:=zSn e
    exact .inr ⟨i,hi,d,h,trivial⟩
  ·rw [iN hr];left;simp only;omega
 ·rw [iN h];left;simp only;omega
def zdy (l:List Attr) (n:Bs):Bs×Bool:=match idx l (zGY l n).2.1 with
 | some a=>(a.Value,true)
 | none=>([],false)
theorem zPp {fu:Nat} {n:Bs} (hfu:200<fu):zGP fu l n=some (zdy l n):=by
 unfold zGP zdy
 rw [zRH hfu,zAA,zAS]
 rcases zRG (l:=l) (n:=n) with h | ⟨i,hi,h,_⟩
 ·rw [iP h,zCk (by omega)]
 ·rw [iN (by omega),h,zAT hi];rfl
theorem zKj {fu:Nat} (h:l.length<=1000000):zAh fu l=some l:=by
 unfold zAh
 rw [zAi (by simp;omega),zAA,iU]
theorem zeF (h:zHG l=true) (hi:i<l.length) {v:Bs} (u:v.length<=200):zHG (l.set i ⟨l[i].Name,v⟩)=true:=by
 unfold zHG at h ⊢
 simp only [lM,decide_eq_true_eq,lR,eE] at h ⊢
 obtain ⟨q,o,r⟩:=h
 refine ⟨q,fun a d=>?_,?_⟩
 ·rcases dT d with d | rfl
  ·exact o a d
  ·exact ⟨(o _ (gC hi)).1,u⟩
 ·rw [dK]
  have:(l.map (·.Name)).set i l[i].Name=l.map (·.Name):=by
   have e:l[i].Name=(l.map (·.Name))[i]'(by simpa using hi):=by simp
   rw [e];exact jC _
  simpa only [this] using r
theorem zeE {v:Bs} (h:zHG l=true) (E:l.length≠40) (hs:zXo s=true) (B:v.length<=200) (u:l.any (fun a=>a.Name==s)=false):zHG (l++[⟨s,v⟩])=true:=by
 unfold zHG at h ⊢
 simp only [lM,decide_eq_true_eq,lR,eR,cP,eK,cA,e8] at h ⊢
 obtain ⟨D,q,r⟩:=h
 refine ⟨by omega,fun a d=>?_,?_⟩
 ·rcases d with d | rfl
  ·exact q a d
  ·exact ⟨hs,B⟩
 ·rw [gG,dM]
  refine ⟨r,by simp,fun x hx y hy e=>?_⟩
  simp only [lT,List.map_nil,e8] at hy
  subst hy
  obtain ⟨a,d,o⟩:=lE.1 hx
  have:=(gK.1 u) a d
  simp only [beq_iff_eq] at this
  exact this (o.trans e)
def zZw (l:List Attr) (n v:Bs):List Attr×Int :=
 if (zGY l n).2.2≠0 then (l,(zGY l n).2.2)
 else if 200<v.length then (l,3)
 else match idx l (zGY l n).2.1 with
  | some a=>(l.set (zGY l n).2.1.toNat ⟨a.Name,v⟩,0)
  | none=>if l.length=40 then (l,3) else (l++[⟨(zGY l n).1,v⟩],0)
theorem zbE {fu:Nat} {n v:Bs} (hfu:200<fu) (q:l.length<=1000000):zK8 fu l n v=some (zZw l n v):=by
 unfold zK8 zZw
 rw [zRH hfu,zAA,zKj q,zAA,zAW]
 by_cases e:(zGY l n).2.2=0
 ·rw [iP e,iN (by simpa using e),zAS]
  by_cases o:200<v.length
  ·rw [iP (by omega),iP o]
  ·rw [iN (by omega),iN o,zAS]
   rcases zRG (l:=l) (n:=n) with h | ⟨i,hi,h,_⟩
   ·rw [iN (by omega),zCk (by omega),zAj]
    by_cases d:l.length=40
    ·rw [iP (by omega)];simp only;rw [iP d]
    ·rw [iN (by omega),zAi (by simp;omega),zAA];simp only;rw [iN d]
   ·rw [iP (by omega),h,zAT hi,zAA]
 ·rw [iN e,iP e]
theorem zTP {n v:Bs} (h:(zZw l n v).2=0):zHG (zZw l n v).1=true:=by
 unfold zZw at h ⊢
 by_cases d:(zGY l n).2.2=0
 ·rw [iN (by simpa using d)] at h ⊢
  by_cases B:200<v.length
  ·rw [iP B] at h;simp only at h;omega
  ·rw [iN B] at h ⊢
   rcases zRG (l:=l) (n:=n) with o | ⟨i,hi,o,hr,_⟩
   ·have E:idx l (zGY l n).2.1=none:=zCk (by omega)
    rw [E] at h ⊢
    simp only at h ⊢
    have q:zHG l=true/\zF1 n=true:=by
     unfold zGY at d
     by_cases r:zHG l=true
     ·by_cases u:zF1 n=true
      ·exact ⟨r,u⟩
      ·rw [iP r,iN u] at d;simp only at d;omega
     ·rw [iN r] at d;simp only at d;omega
    have D:zGY l n=(n.map zGc,zKo l (fun a=>a.Name==n.map zGc),0):=by unfold zGY;rw [iP q.1,iP q.2]
    by_cases e:l.length=40
    ·rw [iP e] at h;simp only at h;omega
    ·rw [iN e]
     rw [D] at o ⊢
     exact zeE q.1 e (zb8 q.2) (by omega) (zTs.1 o)
   ·rw [o,zAT hi]
    exact zeF hr hi (by omega)
 ·rw [iP d] at h;exact absurd h d
end
section
theorem zhB {fu:Nat} (h:i<l.length):zDg fu (i:Int) ((i:Int)+1) l=some (l.eraseIdx i):=by
 have d:(zPD l i (i+1)).length=l.length:=by
  unfold zPD
  simp only [eR,cR,iK]
  omega
 have o:((i:Int)).toNat=i:=by omega
 have e:((i:Int)+1)=((i+1:Nat):Int):=by omega
 have q:(((i+1:Nat):Int)).toNat=i+1:=by omega
 have r:((l.length:Int)).toNat=l.length:=by omega
 have u:(((i+(l.length - (i+1)):Nat):Int)).toNat=i+(l.length - (i+1)):=by omega
 rw [e]
 unfold zDg
 rw [o,q,r,u]
 rw [show cut3 l.length (i:Int) ((i+1:Nat):Int) (l.length:Int)=some () from iP ⟨by omega,by omega,by omega,by omega⟩,zAA,zAj,iN (by omega)]
 rw [show zNy l.length 0 (i:Int)=some () from iP ⟨by omega,by omega,by omega⟩,zAA,show zNy l.length ((i+1:Nat):Int) (l.length:Int)=some () from iP ⟨by omega,by omega,by omega⟩,zAA]
 rw [show delB l.length i (i+1) l.length=some () from iP ⟨by omega,by omega,rfl⟩,zAA,d]
 rw [show zNy l.length ((i+(l.length - (i+1)):Nat):Int) (l.length:Int)=some () from iP ⟨by omega,by omega,by omega⟩,zAA]
 rw [show zf5 l.length (i+(l.length - (i+1))) l.length=some () from iP ⟨by omega,rfl⟩,zAA]
 have B:(zQa (zPD l i (i+1)) (i+(l.length - (i+1))) (⟨[],[]⟩:Attr)).length=l.length:=by
  unfold zQa
  simp only [eR,cR,kF,d]
  omega
 rw [B,show zag l.length (i+(l.length - (i+1)))=some () from iP (by omega),zAA]
 congr 1
 unfold zQa zPD
 rw [iV (by simp only [cR,eR,iK];omega),jI,jJ,iV (by simp only [cR,eR,iK];omega),kG,kH (by simp only [cR,eR,iK];omega)]
def zgg (l:List Attr) (n:Bs):List Attr×Bool:=if (zGY l n).2.1<0 then (l,false) else (l.eraseIdx (zGY l n).2.1.toNat,true)
theorem zbB {fu:Nat} {n:Bs} (hfu:200<fu) (d:l.length<=1000000):zHc fu l n=some (zgg l n):=by
 unfold zHc zgg
 rw [zRH hfu,zAA,zKj d,zAA,zAS]
 rcases zRG (l:=l) (n:=n) with h | ⟨i,hi,h,_⟩
 ·rw [iP h,iP h]
 ·rw [iN (by omega),iN (by omega),h,zKG (by simp only [lo,Go.Pw.hi];omega),zAA,zhB hi,zAA]
  rfl
theorem zZy (h:zHG l=true):zHG (l.eraseIdx i)=true:=by
 have hs:(l.eraseIdx i).Sublist l:=List.eraseIdx_sublist ..
 unfold zHG at h ⊢
 simp only [lM,decide_eq_true_eq,lR] at h ⊢
 exact ⟨eM hs.length_le h.1,fun a d=>h.2.1 a (hs.subset d),(hs.map _).nodup h.2.2⟩
theorem zTO {n:Bs} (h:zHG l=true):zHG (zgg l n).1=true:=by
 unfold zgg
 split
 ·exact h
 ·exact zZy h
def zf1 (l:List Attr) (n:Bs) (k:Int):List Attr×Bool×Int :=
 if (zGY l n).2.2≠0 then (l,false,(zGY l n).2.2)
 else if (decide (k>0)||(k==0 && !(decide ((zGY l n).2.1>=0))))=decide ((zGY l n).2.1>=0) then (l,decide ((zGY l n).2.1>=0),0)
 else if (decide (k>0)||(k==0 && !(decide ((zGY l n).2.1>=0))))=true then ((zZw l n []).1,(zZw l n []).2==0,(zZw l n []).2)
 else ((zgg l n).1,false,0)
theorem zgk {fu:Nat} {n:Bs} {k:Int} (hfu:200<fu) (u:l.length<=1000000):zJa fu l n k=some (zf1 l n k):=by
 have d:∀b:Bool,zFo fu l n (zGY l n) b=some (if (zGY l n).2.2≠0 then (l,false,(zGY l n).2.2) else if b=decide ((zGY l n).2.1>=0) then (l,decide ((zGY l n).2.1>=0),0) else if b=true then ((zZw l n []).1,(zZw l n []).2==0,(zZw l n []).2) else ((zgg l n).1,false,0)):=fun b=>by
  unfold zFo
  rw [zKj u,zbE hfu u,zbB hfu u]
  simp only [zAA]
  rw [zAW,zAj]
  by_cases e:(zGY l n).2.2=0
  ·rw [iP e,iN (fun h:(zGY l n).2.2≠0=>h e)]
   by_cases r:b=decide ((zGY l n).2.1>=0)
   ·rw [iP r,iP r]
   ·rw [iN r,iN r]
    cases b<;>rfl
  ·rw [iN e,iP e]
 unfold zJa zf1
 rw [zRH hfu,zAA,d,d,d,zAS,zAj]
 by_cases o:k>0
 ·rw [iP o,decide_eq_true o,Bool.true_or]
 ·rw [iN o,decide_eq_false o,e9]
  by_cases q:k=0
  ·rw [iP q,show (k==0)=true by simpa using q,iD]
  ·rw [iN q,show (k==0)=false by simpa using q,jD]
theorem zZx {n:Bs} {k:Int} (h:zHG l=true) (d:(zf1 l n k).2.2=0):zHG (zf1 l n k).1=true:=by
 unfold zf1 at d ⊢
 split
 ·exact h
 ·split
  ·exact h
  ·split
   ·rename_i e o q
    rw [iN e,iN o,iP q] at d
    exact zTP d
   ·exact zTO h
def bare (x:Node):Node:=⟨x.Kind,[],[],[],[],x.Parent,x.Kids,x.Host,x.Under,x.Doc⟩
theorem zK0 {d:Type} {l:List α} {g : α -> d} {n:Int}:idx (l.map g) n=(idx l n).map g:=by
 unfold idx
 split<;>simp
section
variable (ns:List Node)
theorem zRJ (n k:Int):isB (ns.map bare) n k=isB ns n k:=by
 unfold isB;rw [zK0];cases idx ns n<;>rfl
theorem zXT (n:Int):upI (ns.map bare) n=upI ns n:=by
 unfold upI;rw [zK0];cases idx ns n<;>rfl
theorem zPq:∀(k:Nat) (n:Int),zBi (ns.map bare) k n=zBi ns k n
 | 0,_=>rfl
 | k+1,n=>by simp only [zBi,zXT,zPq k]
def zeq (n:Int) (x:Node):Bool:=zMQ ns n x&&(zMA ns n x&&(zEk ns n x&&(zOX ns n x&&zLf ns n x)))
theorem zVq (n:Int) (x:Node):zeq (ns.map bare) n (bare x)=zeq ns n x:=by
 have e:zMQ (ns.map bare) n (bare x)=zMQ ns n x:=by unfold zMQ;rw [zRJ];rfl
 have o:zMA (ns.map bare) n (bare x)=zMA ns n x:=by
  show (x.Parent == -1||((x.Kind==1||x.Kind==2)&&(match idx (ns.map bare) x.Parent with | some p=>zGn p.Kind&&p.Kids.contains n | none=>false)))=_
  unfold zMA
  rw [zK0];cases idx ns x.Parent<;>rfl
 have q:zPM (ns.map bare) n (bare x)=zPM ns n x:=funext fun k=>by
  unfold zPM;rw [zK0];cases idx ns k<;>rfl
 have r:zEk (ns.map bare) n (bare x)=zEk ns n x:=by
  have d:isB (ns.map bare)=isB ns:=funext fun a=>funext fun b=>zRJ ns a b
  unfold zEk zBM
  rw [q,d]
  rfl
 have B:zOX (ns.map bare) n (bare x)=zOX ns n x:=by
  show (if x.Kind=4 then (match idx (ns.map bare) x.Host with | some h=>h.Kind==1&&(h.Under==n&&h.Doc==x.Doc) | none=>false) else x.Host == -1)=_
  unfold zOX
  rw [zK0];cases idx ns x.Host<;>rfl
 have D:zLf (ns.map bare) n (bare x)=zLf ns n x:=by
  show (x.Under == -1||(x.Kind==1&&(match idx (ns.map bare) x.Under with | some u=>u.Kind==4&&u.Host==n | none=>false)))=_
  unfold zLf
  rw [zK0];cases idx ns x.Under<;>rfl
 unfold zeq
 rw [e,o,r,B,D]
end
theorem zNQ {ns:List Node} {n:Int} {x:Node}:zF3 ns n x=(zHx x&&zeq ns n x):=rfl
theorem zZz {f g:Forest} (hr:zAG f=true) (d:g.Nodes.map bare=f.Nodes.map bare) (hm:g.Most=f.Most) (N:∀x∈g.Nodes,zHx x=true):zAG g=true:=by
 have u:g.Nodes.length=f.Nodes.length:=by have:=congrArg iO d;simpa using this
 unfold zAG at hr ⊢
 simp only [lM,decide_eq_true_eq] at hr ⊢
 obtain ⟨D,E,F,G,I,J,q⟩:=hr
 refine ⟨by rw [hm];exact D,by rw [hm];exact E,by rw [u];exact F,by rw [hm,u];exact G,?_,?_,?_⟩
 ·rw [<- zRJ,d,zRJ];exact I
 ·unfold zHy
  rw [lR]
  intro i hi
  rw [jO] at hi
  rw [lC hi]
  simp only
  have o:i<f.Nodes.length:=by omega
  have r:=zBm J (zAT o)
  rw [zNQ] at r ⊢
  have e:bare g.Nodes[i]=bare f.Nodes[i]:=by
   have B:(g.Nodes.map bare)[i]? = (f.Nodes.map bare)[i]? := by rw [d]
   rw [lK,lK,lC hi,lC o] at B
   exact lJ.inj B
  simp only [lM] at r ⊢
  refine ⟨N _ (gC hi),?_⟩
  rw [<- zVq,d,e,zVq]
  exact r.2
 ·unfold zP0 at q ⊢
  rw [u]
  rw [lR] at q ⊢
  intro i hi
  rw [<- zPq,d,zPq]
  exact q i hi
def zJk (w:Node) (l:List Attr):Node:=⟨w.Kind,w.Name,w.Is,w.Data,l,w.Parent,w.Kids,w.Host,w.Under,w.Doc⟩
theorem zXR {f:Forest} (hr:zAG f=true) {n:Int} {x:Node} (hx:idx f.Nodes n=some x) (hk:x.Kind=1) {l:List Attr} (q:zHG l=true):zAG ⟨f.Nodes.set n.toNat (zJk x l),f.Most⟩=true:=by
 have o:=(zAb hr).2.2.1
 refine zZz hr ?_ rfl fun y hy=>?_
 ·show (f.Nodes.set n.toNat (zJk x l)).map bare=f.Nodes.map bare
  rw [dK]
  have r:=zAI hx
  have hi:n.toNat<f.Nodes.length:=by omega
  have e:bare (zJk x l)=(f.Nodes.map bare)[n.toNat]'(by simpa using hi):=by
   have:idx f.Nodes n=some f.Nodes[n.toNat]:=by
    have:=zAT hi
    rwa [show ((n.toNat:Nat):Int)=n by omega] at this
   rw [hx] at this
   rw [jP,<- lJ.inj this]
   rfl
  rw [e];exact jC _
 ·rcases dT hy with h | rfl
  ·obtain ⟨i,hi,e⟩:=iW h
   have:=zBm o (zAT hi)
   rw [e] at this
   rw [zNQ,lM] at this
   exact this.1
  ·have:=zBm o hx
   rw [zNQ,lM] at this
   have d:=this.1
   unfold zHx at d ⊢
   rw [iP hk] at d
   rw [iP (show (zJk x l).Kind=1 from hk)]
   simp only [lM] at d ⊢
   exact ⟨d.1,d.2.1,d.2.2.1,q⟩
theorem zXP {f:Forest} (hr:zAG f=true) {n:Int} {x:Node} (hx:idx f.Nodes n=some x) (hk:x.Kind=1):zHG x.Attrs=true:=by
 have:=zBm (zAb hr).2.2.1 hx
 rw [zNQ,lM] at this
 have d:=this.1
 unfold zHx at d
 rw [iP hk] at d
 simp only [lM] at d
 exact d.2.2.2
end
end Go.Proofs.YtmfbghpealgaiaaGreatDoor
