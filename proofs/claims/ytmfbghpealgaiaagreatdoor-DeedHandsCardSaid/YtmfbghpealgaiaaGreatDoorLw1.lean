/- Plain laws on the models, one behind the other. -/
import Derived.Test.YtmfbghpealgaiaaGreatDoorG
import Derived.Test.YtmfbghpealgaiaaGreatDoorCo3
/- strings.Contains of one byte, where the seat has it over the library's Index. -/
namespace Go.Proofs.YtmfbghpealgaiaaGreatDoor
open Go Go.Pw
open List renaming contains_iff_mem->e7,length_cons->cP,all_eq_true->lR,length_append->eR,mem_cons->lD,getElem_mem->gC,mem_cons_of_mem->lG,mem_singleton->e8,getElem?_eq_getElem->lC,mem_flatMap->e9,mem_append->cA,take_succ_eq_append_getElem->iB,append_assoc->eS,drop_eq_getElem_cons->eT,flatMap_append->iF,flatMap_cons->iG,nodup_append->dM,range->cW,take_length->iH,append_nil->gI,mem_filter->iI,mem_map->lE,countP_congr->iJ,map_congr_left->iL,length->iM,nodup_cons->lS,flatMap_def->iO,cons->dU,any_eq_true->dN,mem_of_getElem?->lU,length_nil->eK,getElem_of_mem->iQ,filter_sublist->iR,nil_append->iS,length_filter_le->iT,length_take->cR,map_map->iV,map_cons->lT,map_set->dK,countP_le_length->iW,mem_cons_self->lH,all_cons->cK,all_nil->iX,length_flatMap->iZ,length_drop->jA,length_map->lL,getElem?_map->lK,set_getElem_self->jB,getElem?_eq_none->cX,mem_or_eq_of_mem_set->dT,countP_append->jC,suffix_refl->jD,suffix_cons->jE,append_of_mem->jF,take_append_of_le_length->jG,filter_append->jH,filter_eq_self->jI,getElem_map->jK,any_eq_false->gK,getElem?_cons_zero->eU,contains_eq_any_beq->jM,countP_cons->dG,take_append_drop->jP,suffix_of_suffix_length_le->jQ,pairwise_flatMap->jR,eq_nil_or_concat->jS,concat_eq_append->jT,flatMap_nil->jU,reverse_append->jV,map_reverse->jW,sum_reverse->jX,take_take->jY,length_set->eE,map_append->gG
open Nat renaming le_refl->cB,zero_add->dA
open Int renaming toNat_natCast->eO
open Option renaming some->lJ,map_some->lW,map_eq_none_iff->jN
open Bool renaming and_eq_true->lM,or_eq_true->dD,false_or->iA,true_and->iD,not_true->iE,eq_iff_iff->eW,eq_false_iff->iK,or_eq_false_iff->iU,and_self->iY,and_eq_false_iff->jJ,not_eq_true'->gM,and_false->jL,false_and->jO,not_false->jZ
variable {l:List Attr} {α:Type} {j a i child:Int} {s:Bs} {v:zAL} {w:Node} {h:Int->Node->Node} {C:Int->Prop} {t:Int->Option Bool} {L nodes:List Int}
section
def zOb (_fu:Nat) (s:Bs) (c:UInt8):Option Bool:=some (decide (0<=Lib.indexByte s c))
theorem zPo (fu:Nat) (s:Bs) (c:UInt8):zEP fu s [c]=zOb fu s c:=by
 unfold zEP zJO zTl zOb
 rfl
end
section
def zbB (b:UInt8):Bool:=decide (97<=b.toNat)&&decide (b.toNat<=122)
def upB (b:UInt8):Bool:=decide (65<=b.toNat)&&decide (b.toNat<=90)
def zPU (b:UInt8):Bool:=zbB b||upB b||(decide (48<=b.toNat)&&decide (b.toNat<=57))||decide (b.toNat=45)||decide (b.toNat=95)||decide (b.toNat=46)
def zY9 (b:UInt8):Bool:=zbB b||upB b||decide (b.toNat=95)
def zFq (s:Bs):Bool:=decide (0<s.length)&&decide (s.length<=40)&&s.all zPU&&(match s with | []=>false | b::_=>zY9 b)
def zGM (b:UInt8):UInt8:=if upB b then b+32 else b
theorem zUL (fu:Nat) (c:Int):zFg fu c=some (decide (97<=c)&&decide (c<=122)):=by
 unfold zFg;by_cases h:97<=c<;>simp [h]
theorem zMd (fu:Nat) (c:Int):zBi fu c=some (decide (65<=c)&&decide (c<=90)):=by
 unfold zBi;by_cases h:65<=c<;>simp [h]
theorem end3 (c:Int):(if c=45 then some true else if c=95 then some true else some (c==46))=some (decide (c=45)||decide (c=95)||decide (c=46)):=by
 by_cases d:c=45
 ·simp [d]
 ·by_cases e:c=95
  ·simp [e]
  ·rw [iN d,iN e,decide_eq_false d,decide_eq_false e];rfl
theorem zb2 (fu:Nat) (c:Int):zHe fu c=some ((decide (97<=c)&&decide (c<=122))||(decide (65<=c)&&decide (c<=90))||(decide (48<=c)&&decide (c<=57))||decide (c=45)||decide (c=95)||decide (c=46)):=by
 unfold zHe zGj
 simp only [zUL,zMd,zAA,zBD]
 by_cases d:97<=c<;>by_cases e:c<=122<;>by_cases m:65<=c<;>by_cases o:c<=90<;>by_cases q:48<=c<;>by_cases r:c<=57<;>simp [d,e,m,o,q,r]<;>(first | omega | exact end3 c)
theorem zTq (b:UInt8):(decide (97<=(b.toNat:Int))&&decide ((b.toNat:Int)<=122))=zbB b:=by
 unfold zbB;congr 1<;>exact decide_eq_decide.2 (by omega)
theorem zXO (b:UInt8):(decide (65<=(b.toNat:Int))&&decide ((b.toNat:Int)<=90))=upB b:=by
 unfold upB;congr 1<;>exact decide_eq_decide.2 (by omega)
theorem zb1 (fu:Nat) (b:UInt8):zHe fu (b.toNat:Int)=some (zPU b):=by
 rw [zb2,zTq,zXO];unfold zPU
 congr 1
 have d:(decide (48<=(b.toNat:Int))&&decide ((b.toNat:Int)<=57))=(decide (48<=b.toNat)&&decide (b.toNat<=57)):=by congr 1<;>exact decide_eq_decide.2 (by omega)
 have e:decide ((b.toNat:Int)=45)=decide (b.toNat=45):=decide_eq_decide.2 (by omega)
 have m:decide ((b.toNat:Int)=95)=decide (b.toNat=95):=decide_eq_decide.2 (by omega)
 have o:decide ((b.toNat:Int)=46)=decide (b.toNat=46):=decide_eq_decide.2 (by omega)
 rw [d,e,m,o]
theorem zgl (fu:Nat) (c:Int) (h:128<=c):zHe fu c=some false:=by
 rw [zb2]
 simp only [decide_eq_false (show ¬c<=122 by omega),decide_eq_false (show ¬c<=90 by omega),decide_eq_false (show ¬c<=57 by omega),decide_eq_false (show ¬c=45 by omega),decide_eq_false (show ¬c=95 by omega),decide_eq_false (show ¬c=46 by omega),jL,Bool.or_false]
theorem zPs {fu:Nat} {f:UInt8->Bool} (E:∀b∈s,b.toNat<128->t (b.toNat:Int)=some (f b)) (hi:(∀b∈s,b.toNat<128)\/∀r:Int,128<=r->t r=some true) (I:s.length<fu) :
  zB4 fu t s=some (s.any fun b=>decide (128<=b.toNat)||f b):=by
 have D:∃r,zA1 t s true fu 0=some r/\decide (r>=0)=s.any fun b=>decide (128<=b.toNat)||f b:=by
  refine up (L:=zA1 t s true) (Inv:=fun i x=>x=i/\∀(j:Nat) (h:j<s.length),j<i->(decide (128<=s[j].toNat)||f s[j])=false) (Fin:=fun v=>∃r,v=some r/\decide (r>=0)=s.any fun b=>decide (128<=b.toNat)||f b) s.length (fun i x d ⟨hx,q⟩=>?_) (fun x ⟨hx,q⟩=>?_) (i:=0) ⟨rfl,fun j _ q=>by omega⟩ (Nat.zero_le _) (by omega)
  ·subst hx
   by_cases o:(decide (128<=s[x].toNat)||f s[x])=true
   ·refine .inl ⟨some (x:Int),⟨_,rfl,?_⟩,fun k=>?_⟩
    ·rw [decide_eq_true (by omega)]
     exact (dN.2 ⟨_,gC d,o⟩).symm
    ·simp only [zA1]
     rw [zAP (by simpa using d)]
     by_cases e:s[x].toNat<128
     ·rw [decide_eq_false (by omega),iA] at o
      rw [(zaN d e).1,E _ (gC d) e,zAA,o];rfl
     ·rcases hi with hi | hi
      ·exact absurd (hi _ (gC d)) e
      ·rw [hi _ (dec_hi d (by omega))];rfl
   ·have m:=iK.2 o
    have e:s[x].toNat<128:=by
     rw [iU,decide_eq_false_iff_not] at m
     omega
    refine .inr ⟨x+1,⟨rfl,fun j h B=>?_⟩,fun k=>?_⟩
    ·rcases Nat.lt_succ_iff_lt_or_eq.1 B with u | u
     ·exact q j h u
     ·subst u;exact m
    ·rw [iU] at m
     simp only [zA1]
     rw [zAP (by simpa using d),(zaN d e).1,E _ (gC d) e,zAA,m.2,(zaN d e).2];rfl
  ·subst hx
   refine ⟨some (-1),⟨_,rfl,?_⟩,fun k=>?_⟩
   ·have:(s.any fun b=>decide (128<=b.toNat)||f b)=false:=by
     rw [gK]
     intro b e
     obtain ⟨j,h,rfl⟩:=List.mem_iff_getElem.1 e
     simpa using q j h h
    rw [this];rfl
   ·simp only [zA1]
    rw [zAO (by simp)]
 obtain ⟨r,F,G⟩:=D
 unfold zB4 zFD zFE
 rw [F,zAA,zAA,G]
theorem zaw (b:UInt8) (fu:Nat):(bnd (rng .i32 (b.toNat:Int)) fun d=>bnd (zFg fu d) fun m=>cnd m (some true) (bnd (zBi fu d) fun o=>cnd o (some true) (some (d==95))))=some (zY9 b):=by
 have q:=b.toNat_lt
 rw [zNa (by simp only [lo,hi];omega),zAA,zUL,zMd,zAA,zAA,zTq,zXO]
 unfold zY9
 have e:((b.toNat:Int)==95)=decide (b.toNat=95):=by rw [eW];simp;omega
 rw [e]
 cases zbB b<;>cases upB b<;>rfl
theorem zcn (s:Bs):(s.any fun b=>decide (128<=b.toNat) || !(zPU b)) = !(s.all zPU):=by
 rw [List.not_all_eq_any_not]
 congr 1
 funext b
 cases h:zPU b
 ·simp
 ·have:b.toNat<128:=by
   unfold zPU zbB upB at h
   simp only [dD,lM,decide_eq_true_eq] at h
   omega
  simp;omega
theorem zYU {fu:Nat} (hfu:40<fu):zH8 fu s=some (zFq s):=by
 unfold zH8 zFq
 rw [zAN,zAN]
 by_cases d:s.length<1
 ·rw [iP (by omega)];simp [show ¬0<s.length by omega]
 rw [iN (by omega)]
 by_cases e:s.length>40
 ·rw [iP (by omega)];simp [show ¬s.length<=40 by omega]
 rw [iN (by omega),zPs (f:=fun b => !(zPU b)) (fun b _ _=>by unfold zDf;rw [zb1];rfl) (.inr fun r hr=>by unfold zDf;rw [zgl _ _ hr];rfl) (by omega),zAA,zcn,zO9]
 obtain ⟨b,t,rfl⟩:∃b t,s=b::t:=by cases s<;>simp_all
 rw [zXg]
 simp only [eU,lW,zAA]
 rw [zaw]
 rw [decide_eq_true (by omega),decide_eq_true (by omega)]
 cases (b::t).all zPU<;>simp
def zce (y:Int):Int:=if 65<=y/\y<=90 then y+32 else y
theorem zcA (b:UInt8):upB b=true↔65<=b.toNat/\b.toNat<=90:=by unfold upB;simp
theorem zbC (b:UInt8):zce (b.toNat:Int)=((zGM b).toNat:Int):=by
 unfold zce zGM
 by_cases h:upB b=true
 ·have:=(zcA b).1 h
  rw [iP (by omega),iP h,UInt8.toNat_add]
  simp;omega
 ·have:¬(65<=b.toNat/\b.toNat<=90):=fun d=>h ((zcA b).2 d)
  rw [iN (by omega),iN h]
theorem zgn (s:Bs):zVs ((zD9 s).map zce)=s.map zGM:=by
 unfold zVs zD9
 rw [iV,iV]
 refine iL fun b _=>?_
 simp only [Function.comp,zbC,eO,UInt8.ofNat_toNat]
theorem zVR {fu:Nat} (o:s.length<fu) (m:s.length<=1000000):zEr fu s=some (s.map zGM):=by
 unfold zEr
 rw [zBF (by omega),zAA]
 have d:(zD9 s).length=s.length:=by simp [zD9]
 have:=upf (L:=zE9 fu s) (f:=fun i=>((i:Int),mix zce (zD9 s) i)) (v:=some (s.map zGM)) (zD9 s).length (fun i hi k=>?_) (fun k=>?_) (by rw [d];exact o)
 ·simpa [zYB] using this
 ·simp only [zE9]
  rw [zAP (by simpa using hi),zbI zce hi,zAA]
  have hy:(zD9 s)[i]=((s[i]'(d▸hi)).toNat:Int):=by simp [zD9]
  have q:rng .i64 ((i:Int)+1)=some ((i+1:Nat):Int):=zBv (by omega)
  rw [<- zTs zce hi]
  have hk:=zdQ zce hi
  rw [<- zTs zce hi] at hk
  rw [hy] at hk ⊢
  have m:=(s[i]'(d▸hi)).toNat_lt
  generalize (s[i]'(d▸hi)).toNat=n at m hk
  rw [zNa (by simp only [lo,Go.Pw.hi];omega),zAA,zMd,zAA,q]
  by_cases h:65<=(n:Int)/\(n:Int)<=90
  ·rw [zAP (by simp;omega),zNa (by simp only [lo,Go.Pw.hi];omega),zAA,zNa (by simp only [lo,Go.Pw.hi];omega),zAA,zAA,zAA]
   unfold zce
   rw [iP h,show (n:Int) - 65+97=n+32 by omega]
  ·have e:zce (n:Int)=n:=iN h
   rw [zAO (by simp;omega),zAA,<- hk e]
 ·simp only [zE9]
  rw [zAO (by simp),zbJ,zgn]
def words:List Bs:=[[97,110,110,111,116,97,116,105,111,110,45,120,109,108],[99,111,108,111,114,45,112,114,111,102,105,108,101],[102,111,110,116,45,102,97,99,101],[102,111,110,116,45,102,97,99,101,45,115,114,99],[102,111,110,116,45,102,97,99,101,45,117,114,105],[102,111,110,116,45,102,97,99,101,45,102,111,114,109,97,116],[102,111,110,116,45,102,97,99,101,45,110,97,109,101],[109,105,115,115,105,110,103,45,103,108,121,112,104]]
def zHk (s:Bs):Bool:=zFq s&&(match s with | []=>false | b::_=>zbB b) && !(s.any upB)&&s.contains 45 && !(words.contains s)
theorem zML {fu:Nat} {l:List Bs} (m:l.length<fu) (o:l.length<=1000000):zA5 fu l s=some (l.contains s):=by
 unfold zA5 zFi
 obtain ⟨r,d,e⟩:=zGT (L:=zB3 l s) l (fun x=>s==x) (fun i hi k=>by
  simp only [zB3]
  rw [zAP (by simpa using hi),zAQ hi,zAA,zBv (by omega),zAA]
  cases s==l[i]<;>rfl) (fun k=>by simp only [zB3];rw [zAO (by simp)]) m
 rw [d,zAA,e]
 congr 1
 rw [jM]
theorem zSx (h:zFq s=true):0<s.length/\s.length<=40:=by
 unfold zFq at h
 simp only [lM,decide_eq_true_eq] at h
 exact h.1.1
theorem zKq {fu:Nat} (hfu:200<fu):zC9 fu s=some (zHk s):=by
 unfold zC9 zHk
 rw [zYU (by omega),zAA]
 cases hr:zFq s
 ·rfl
 ·rw [zAW]
  have u:s.length<fu:=by have:=zSx hr;omega
  have m:=hr
  unfold zFq at m
  obtain ⟨b,t,rfl⟩:∃b t,s=b::t:=by cases s<;>simp_all
  simp only [lM] at m
  have B:=b.toNat_lt
  have d:∀c∈b::t,c.toNat<128:=fun c r=>by
   have:=lR.1 m.1.2 c r
   unfold zPU zbB upB at this
   simp only [dD,lM,decide_eq_true_eq] at this
   omega
  have o:((b::t).any fun c=>decide (128<=c.toNat)||upB c)=(b::t).any upB:=by
   rw [eW,dN,dN]
   constructor
   ·rintro ⟨c,q,e⟩
    rw [dD,decide_eq_true_eq] at e
    rcases e with e | e
    ·have:=d c q;omega
    ·exact ⟨c,q,e⟩
   ·rintro ⟨c,q,e⟩
    exact ⟨c,q,by rw [e,Bool.or_true]⟩
  rw [zXg,eU,lW,zAA,zNa (by simp only [lo,Go.Pw.hi];omega),zAA,zUL,zTq,zAA,
   zPs (f:=upB) (fun c _ _=>by rw [zMd,zXO]) (.inl d) u,zAA,o]
  rw [zPo];unfold zOb zJE
  rw [zAA,zAA,zML (by simp;omega) (by simp),zAA,zTm]
  simp only [iD]
  cases zbB b<;>cases (b::t).any upB<;>cases (b::t).contains 45<;>rfl
def zWg (s:Bs):Bool:=zFq s&&(s.map zGM==s)
theorem zXt {fu:Nat} (hfu:200<fu):zFw fu s=some (if zFq s then (s.map zGM,0) else ([],4)):=by
 unfold zFw
 rw [zYU (by omega),zAA,zO9]
 cases hr:zFq s
 ·rfl
 ·have:=zSx hr
  rw [zAW,zVR (by omega) (by omega),zAA];rfl
end
section
theorem zRg {m q : Type} [DecidableEq m]:∀(l:List (m × q)) (k : m) (v : q),(k∈l.map (·.1)/\(zGt l k v).map (·.1)=l.map (·.1))\/(k∉l.map (·.1)/\(zGt l k v).map (·.1)=l.map (·.1)++[k]):=by
 have d:∀(l:List (m × q)) (k : m),zHo l k=none->k∉l.map (·.1):=by
  intro l
  induction l with
  | nil=>intro k _;simp
  | cons x l D =>
   intro k h
   simp only [zHo] at h
   split at h
   ·cases h
   ·rename_i o
    simp only [lT,lD,not_or]
    exact ⟨fun e=>o e.symm,D k (jN.1 h)⟩
 intro l k v
 unfold zGt
 cases h:zHo l k with
 | none=>exact .inr ⟨d l k h,by simp⟩
 | some j =>
  obtain ⟨E,r⟩:=zIz h
  refine .inl ⟨lE.2 ⟨_,lU r,rfl⟩,?_⟩
  simp only [dK]
  have:(l.map (·.1))[j]? = some k:=by rw [lK,r];rfl
  obtain ⟨u,B⟩:=List.getElem?_eq_some_iff.1 this
  rw [<- B];exact jB u
def tbl:List Attr->List (Bs×Attr)->List (Bs×Attr)
 | [],m=>m
 | a::l,m=>tbl l (zGt m a.Name a)
theorem zXL:∀(l:List Attr) (m:List (Bs×Attr)),(m.map (·.1)).Nodup->(tbl l m).length<=m.length+l.length/\((tbl l m).length=m.length+l.length↔(l.map (·.Name)).Nodup/\∀a∈l,a.Name∉m.map (·.1))
 | [],m,_=>by simp [tbl]
 | a::l,m,hm=>by
  simp only [tbl]
  rcases zRg m a.Name a with ⟨r,o⟩ | ⟨r,o⟩
  ·have d:(zGt m a.Name a).length=m.length:=by have:=congrArg iM o;simpa using this
   have u:=zXL l (zGt m a.Name a) (by rw [o];exact hm)
   rw [d] at u
   refine ⟨by simp only [cP];omega,?_⟩
   simp only [cP]
   constructor
   ·intro h;omega
   ·rintro ⟨_,h⟩
    exact absurd r (h a (by simp))
  ·have d:(zGt m a.Name a).length=m.length+1:=by have:=congrArg iM o;simpa using this
   have u:=zXL l (zGt m a.Name a) (by rw [o,dM];exact ⟨hm,by simp,fun x hx y hy=>by simp at hy;subst hy;exact fun e=>r (e▸hx)⟩)
   rw [d,o] at u
   refine ⟨by simp only [cP];omega,?_⟩
   simp only [cP]
   rw [show m.length+(l.length+1)=m.length+1+l.length by omega,u.2]
   simp only [lT]
   constructor
   ·rintro ⟨B,q⟩
    refine ⟨lS.2 ⟨fun hm=>?_,B⟩,fun b D=>?_⟩
    ·obtain ⟨x,hx,e⟩:=lE.1 hm
     exact q x hx (cA.2 (.inr (by simp [e])))
    ·rcases lD.1 D with rfl | D
     ·exact r
     ·exact fun h=>q b D (cA.2 (.inl h))
   ·rintro ⟨B,q⟩
    obtain ⟨E,F⟩:=lS.1 B
    refine ⟨F,fun x hx h=>?_⟩
    rcases cA.1 h with h | h
    ·exact q x (by simp [hx]) h
    ·simp at h
     exact E (lE.2 ⟨x,hx,h⟩)
def zIv (l:List Attr):Bool:=decide (l.length<=40)&&((l.all fun a=>zWg a.Name&&decide (a.Value.length<=200))&&decide ((l.map (·.Name)).Nodup))
theorem zeB {fu:Nat} (o:l.length<fu) (r:l.length<=1000000):zJn fu l=some (tbl l []):=by
 unfold zJn
 have e:∀(j i k:Nat) (m:List (Bs×Attr)),i+j=l.length->j<k->zFt l k ((i:Int),m)=some (tbl (l.drop i) m):=by
  intro j
  induction j with
  | zero =>
   intro i k m hi hk
   obtain ⟨k,rfl⟩:∃d,k=d+1:=⟨k - 1,by omega⟩
   obtain rfl:i=l.length:=by omega
   simp only [zFt]
   rw [zAO (by simp),List.drop_length];rfl
  | succ j q =>
   intro i k m hi hk
   obtain ⟨k,rfl⟩:∃d,k=d+1:=⟨k - 1,by omega⟩
   have h:i<l.length:=by omega
   simp only [zFt]
   rw [zAP (by simpa using h),zAQ h,zAA,zBv (by omega),zAA,q (i+1) k _ (by omega) (by omega),eT h]
   rfl
 simpa using e l.length 0 fu [] (by omega) o
theorem zRJ {fu:Nat} {t:Attr->Option Bool} {p:Attr->Bool} (o:∀x∈l,t x=some (p x)) (m:l.length<fu) (q:l.length<=1000000):zCA fu t l=some (l.any p):=by
 unfold zCA zBH
 obtain ⟨r,d,e⟩:=zGT (L:=zAY t l) l p (fun i hi k=>by
  simp only [zAY]
  rw [zAP (by simpa using hi),zAQ hi,zAA,o _ (gC hi),zAA,zBv (by omega),zAA]
  cases p l[i]<;>rfl) (fun k=>by simp only [zAY];rw [zAO (by simp)]) m
 rw [d,zAA,e]
theorem zcq {fu:Nat} {a:Attr} (hfu:200<fu):zEZ fu a=some (!(zWg a.Name&&decide (a.Value.length<=200))):=by
 unfold zEZ zWg
 rw [zXt hfu,zAA]
 have e:decide ((a.Value.length:Int)>200) = !(decide (a.Value.length<=200)):=by
  by_cases h:a.Value.length<=200
  ·rw [decide_eq_true h,decide_eq_false (by omega)];rfl
  ·rw [decide_eq_false h,decide_eq_true (by omega)];rfl
 rw [e]
 cases zFq a.Name
 ·rfl
 ·simp only [if_true,iD]
  cases a.Name.map zGM==a.Name<;>rfl
theorem zJQ (l:List α) (p : α -> Bool):(!(l.any fun x => !(p x)))=l.all p:=by
 rw [List.all_eq_not_any_not]
theorem zPj {fu:Nat} (hfu:200<fu):zGh fu l=some (zIv l):=by
 unfold zGh zIv
 rw [show decide ((l.length:Int)<=40)=decide (l.length<=40) from decide_eq_decide.2 (by omega)]
 by_cases h:l.length<=40
 ·rw [decide_eq_true h,zAW,zRJ (p:=fun a => !(zWg a.Name&&decide (a.Value.length<=200))) (fun a _=>zcq hfu) (by omega) (by omega),zAA,zeB (by omega) (by omega),zAA,zJQ,iD]
  have e:(((tbl l []).length:Int)==(l.length:Int))=decide ((l.map (·.Name)).Nodup):=by
   have:=zXL l [] (by simp)
   simp only [eK,dA,List.map_nil,List.not_mem_nil,not_false_eq_true,implies_true,and_true] at this
   rw [eW,beq_iff_eq,decide_eq_true_eq,<- this.2]
   omega
  rw [e]
  cases l.all fun a=>zWg a.Name&&decide (a.Value.length<=200)<;>rfl
 ·rw [decide_eq_false h];rfl
def zIn (x:Node):Bool :=
 if x.Kind=1 then zWg x.Name&&((x.Is==[]||zHk x.Is)&&(x.Data==[]&&zIv x.Attrs))
 else if x.Kind=2 then decide (x.Data.length<=200)&&(x.Name==[]&&(x.Is==[]&&decide (x.Attrs.length=0)))
 else if x.Kind=0\/x.Kind=3\/x.Kind=4 then x.Name==[]&&(x.Is==[]&&(x.Data==[]&&decide (x.Attrs.length=0)))
 else false
theorem len0 (l:List Attr):(((l.length:Int))==0)=decide (l.length=0):=by
 rw [eW,beq_iff_eq,decide_eq_true_eq];omega
theorem zdS (x:Node) (c:Bs):zDp x c=some (x.Name==[]&&(x.Is==[]&&(c==[]&&decide (x.Attrs.length=0)))):=by
 unfold zDp
 rw [len0]
 cases x.Name==([]:Bs)<;>cases x.Is==([]:Bs)<;>cases c==([]:Bs)<;>rfl
theorem zZN {fu:Nat} {x:Node} (hfu:200<fu):zGE fu x=some (zIn x):=by
 unfold zGE zIn
 simp only [zXt hfu,zPj hfu,zKq hfu,zAA,zdS,zBD,zAN]
 by_cases q:x.Kind=1
 ·simp only [iP q]
  unfold zWg
  cases hr:zFq x.Name
  ·simp
  ·simp only [if_true,iD]
   by_cases m:x.Name.map zGM=x.Name
   ·have o:(x.Name.map zGM==x.Name)=true:=by simp [m]
    simp only [iP m,o,iD]
    by_cases d:x.Is=[]
    ·simp only [d]
     by_cases e:x.Data=[]
     ·simp [e]
     ·simp [e]
    ·have u:(x.Is==([]:Bs))=false:=by simpa using d
     simp only [iN d,u,iA]
     cases zHk x.Is
     ·rfl
     ·by_cases e:x.Data=[]
      ·simp [e]
      ·simp [e]
   ·have o:(x.Name.map zGM==x.Name)=false:=by simpa using m
    simp only [iN m,o,jO]
 ·simp only [iN q]
  by_cases m:x.Kind=2
  ·simp only [iP m]
   by_cases d:x.Data.length<=200
   ·rw [iN (by omega),decide_eq_true d]
    simp
   ·rw [iP (by omega),decide_eq_false d];rfl
  ·simp only [iN m]
   by_cases d:x.Kind=0
   ·simp [d]
   ·by_cases e:x.Kind=3
    ·simp [e]
    ·by_cases r:x.Kind=4
     ·simp [r]
     ·simp [d,e,r]
def isB (ns:List Node) (n k:Int):Bool:=match idx ns n with | some y=>y.Kind==k | none=>false
def zNX (ns:List Node) (n:Int) (x:Node):Bool:=isB ns x.Doc 0&&(x.Kind != 0||x.Doc==n)
def zHH (k:Int):Bool:=k==0||(k==1||(k==3||k==4))
def zLu (ns:List Node) (n:Int) (x:Node):Bool:=x.Parent == -1||((x.Kind==1||x.Kind==2)&&(match idx ns x.Parent with | some p=>zHH p.Kind&&p.Kids.contains n | none=>false))
def zRZ (ns:List Node) (n:Int) (x:Node) (k:Int):Bool:=match idx ns k with | some y=>y.Parent==n&&(y.Doc==x.Doc&&(y.Kind==1||(y.Kind==2&&x.Kind != 0))) | none=>false
def zBo (ns:List Node) (l:List Int):Nat:=l.countP fun k=>isB ns k 1
def zFb (ns:List Node) (n:Int) (x:Node):Bool:=decide x.Kids.Nodup&&((x.Kids.all (zRZ ns n x))&&((zHH x.Kind||decide (x.Kids.length=0))&&(x.Kind != 0||decide (zBo ns x.Kids<=1))))
def zPJ (ns:List Node) (n:Int) (x:Node):Bool:=if x.Kind=4 then (match idx ns x.Host with | some h=>h.Kind==1&&(h.Under==n&&h.Doc==x.Doc) | none=>false) else x.Host == -1
def zLj (ns:List Node) (n:Int) (x:Node):Bool:=x.Under == -1||(x.Kind==1&&(match idx ns x.Under with | some u=>u.Kind==4&&u.Host==n | none=>false))
def upI (ns:List Node) (n:Int):Int:=match idx ns n with | some x=>if x.Parent = -1 then x.Host else x.Parent | none => -1
def zBp (ns:List Node):Nat->Int->Bool
 | 0,_=>false
 | k+1,n=>upI ns n == -1||zBp ns k (upI ns n)
def zHO (ns:List Node) (n:Int) (x:Node):Bool:=zIn x&&(zNX ns n x&&(zLu ns n x&&(zFb ns n x&&(zPJ ns n x&&zLj ns n x))))
def zHU (ns:List Node):Bool:=(cW ns.length).all fun i=>match ns[i]? with | some x=>zHO ns (i:Int) x | none=>true
def zQH (ns:List Node):Bool:=(cW ns.length).all fun i=>zBp ns ns.length (i:Int)
def zAJ (f:Forest):Bool:=decide (1<=f.Most)&&(decide (f.Most<=400)&&(decide (1<=f.Nodes.length)&&(decide ((f.Nodes.length:Int)<=f.Most)&&(isB f.Nodes 0 0&&(zHU f.Nodes&&zQH f.Nodes)))))
theorem zCu {l:List α} {n:Int} (h:¬(0<=n/\n<l.length)):idx l n=none:=by
 unfold idx
 by_cases d:0<=n
 ·rw [iP d,cX (by omega)]
 ·rw [iN d]
theorem zAK {l:List α} {n:Int} (h:0<=n/\n<l.length):∃x,idx l n=some x:=by
 unfold idx
 rw [iP h.1]
 exact ⟨_,lC (by omega)⟩
theorem zAM {l:List α} {n:Int} {x : α} (h:idx l n=some x):0<=n/\n<l.length:=by
 by_cases d:0<=n/\n<l.length
 ·exact d
 ·rw [zCu d] at h;cases h
theorem zQh (fu:Nat) (v:zAL) (n:Int):zCE fu v n=some (decide (0<=n/\n<v.Forest.Nodes.length)):=by
 unfold zCE
 rw [zAN]
 by_cases h:n>=0
 ·rw [iP h];congr 1;exact decide_eq_decide.2 ⟨fun d=>⟨h,d⟩,fun d=>d.2⟩
 ·rw [iN h,decide_eq_false (by omega)]
theorem zf0 (fu:Nat) (v:zAL) (n k:Int):zDN fu v n k=some (isB v.Forest.Nodes n k):=by
 unfold zDN isB
 rw [zQh,zAA,zAN]
 by_cases h:0<=n/\n<v.Forest.Nodes.length
 ·obtain ⟨x,hx⟩:=zAK h
  rw [iP h,hx];rfl
 ·rw [iN h,zCu h]
theorem zdd {fu:Nat} {n:Int} {x:Node} (hx:idx v.Forest.Nodes n=some x):zEx fu v n=some (zNX v.Forest.Nodes n x):=by
 unfold zEx zNX
 rw [hx,zAA,zf0,zAA]
 cases isB v.Forest.Nodes x.Doc 0
 ·rfl
 ·cases x.Kind != 0<;>rfl
theorem zVF (fu:Nat) (k:Int):zFe fu k=some (zHH k):=by
 unfold zFe zHH
 simp only [zBD]
 by_cases d:k=0
 ·simp [d]
 by_cases e:k=1
 ·simp [e]
 by_cases m:k=3
 ·simp [m]
 by_cases o:k=4
 ·simp [o]
 simp [d,e,m,o]
theorem zSF {fu:Nat} {l:List Int} {n:Int} (m:l.length<fu) (o:l.length<=1000000):zEO fu l n=some (l.contains n):=by
 unfold zEO zCd
 obtain ⟨r,d,e⟩:=zGT (L:=zBL l n) l (fun x=>n==x) (fun i hi k=>by
  simp only [zBL]
  rw [zAP (by simpa using hi),zAQ hi,zAA,zBv (by omega),zAA]
  cases n==l[i]<;>rfl) (fun k=>by simp only [zBL];rw [zAO (by simp)]) m
 rw [d,zAA,e,jM]
def zFT (fu:Nat) (ns:List Node):Prop:=∀x∈ns,x.Kids.length<fu/\x.Kids.length<=1000000
theorem zIh {l:List α} {n:Int} {x : α} (h:idx l n=some x):x∈l:=by
 unfold idx at h
 split at h
 ·exact lU h
 ·cases h
theorem zfy {fu:Nat} {n:Int} {x:Node} (hx:idx v.Forest.Nodes n=some x) (hk:zFT fu v.Forest.Nodes):zFV fu v n=some (zLu v.Forest.Nodes n x):=by
 have m:∀b:Bool,zDq fu v n x b=some (b&&(match idx v.Forest.Nodes x.Parent with | some p=>zHH p.Kind&&p.Kids.contains n | none=>false)):=fun b=>by
  unfold zDq
  cases b
  ·rfl
  ·rw [zAW,zQh,zAA,zAN]
   by_cases h:0<=x.Parent/\x.Parent<v.Forest.Nodes.length
   ·obtain ⟨p,o⟩:=zAK h
    have hm:=hk p (zIh o)
    rw [iP h,o,zAA,zVF,zAA,zAA,zSF hm.1 hm.2,zAA]
    simp only [iD]
    cases zHH p.Kind<;>rfl
   ·rw [iN h,zCu h];rfl
 unfold zFV zLu
 rw [hx,zAA,m,m,zBD,zBD]
 by_cases e:x.Parent = -1
 ·simp [e]
 ·rw [iN e]
  have q:(x.Parent == -1)=false:=by simpa using e
  rw [q]
  by_cases d:x.Kind=1
  ·rw [iP d,d];rfl
  ·have r:(x.Kind==1)=false:=by simpa using d
   rw [iN d,r,iA,iA]
theorem zb0 {fu:Nat} {n:Int} {x:Node} (hx:idx v.Forest.Nodes n=some x):zEe fu v n=some (zPJ v.Forest.Nodes n x&&zLj v.Forest.Nodes n x):=by
 have D:∀b:Bool,zBc fu v n x b=some (b&&zLj v.Forest.Nodes n x):=fun b=>by
  unfold zBc zCJ zLj
  rw [zf0,zAA,zBD,zBD]
  by_cases d:x.Under = -1
  ·simp [d];cases b<;>rfl
  ·rw [iN d]
   have r:(x.Under == -1)=false:=by simpa using d
   rw [r]
   by_cases m:x.Kind=1
   ·simp only [m,beq_self_eq_true,iD,iA]
    unfold isB
    by_cases e:0<=x.Under/\x.Under<v.Forest.Nodes.length
    ·obtain ⟨u,o⟩:=zAK e
     rw [o]
     simp only [zAA]
     cases b<;>cases u.Kind==4<;>rfl
    ·rw [zCu e];cases b<;>rfl
   ·have B:(x.Kind==1)=false:=by simpa using m
    simp only [iN m,B,jO,iA,jL]
    cases b<;>rfl
 unfold zEe zPJ
 rw [hx,zAA,zf0,zAA]
 simp only [D,zBD]
 by_cases d:x.Kind=4
 ·rw [iP d,iP d]
  unfold isB
  by_cases e:0<=x.Host/\x.Host<v.Forest.Nodes.length
  ·obtain ⟨u,o⟩:=zAK e
   rw [o]
   simp only [zAA]
   cases u.Kind==1
   ·rfl
   ·by_cases q:u.Under=n
    ·simp [q]
    ·simp [q]
  ·rw [zCu e];rfl
 ·rw [iN d,iN d]
theorem zbH {l:List (Int×Int)} {k:Int} (m:∀p∈l,0<p.2):zK0 l k 0>0↔k∈l.map (·.1):=by
 unfold zK0
 have d:∀(l:List (Int×Int)),zHo l k=none->k∉l.map (·.1):=by
  intro l
  induction l with
  | nil=>intro _;simp
  | cons x l r =>
   intro h
   simp only [zHo] at h
   split at h
   ·cases h
   ·rename_i o
    simp only [lT,lD,not_or]
    exact ⟨fun e=>o e.symm,r (jN.1 h)⟩
 cases h:zHo l k with
 | none=>simp only [Int.lt_irrefl,gt_iff_lt,false_iff];exact d l h
 | some j =>
  obtain ⟨v,q⟩:=zIz h
  simp only [q,Option.elim_some]
  exact ⟨fun _=>lE.2 ⟨_,lU q,rfl⟩,fun _=>m _ (lU q)⟩
theorem zdR {l:List (Int×Int)} {k v:Int} {p:Int×Int} (h:p∈zGt l k v):p∈l\/p=(k,v):=by
 unfold zGt at h
 split at h
 ·rcases dT h with h | h
  ·exact .inl h
  ·exact .inr h
 ·simpa using h
theorem zSY (ns:List Node) {l:List Int} {i:Nat} (h:i<l.length):zBo ns (l.take (i+1))=zBo ns (l.take i)+(if isB ns l[i] 1 then 1 else 0):=by
 unfold zBo
 rw [iB h,jC]
 simp [dG]
theorem zc8 (ns:List Node) (l:List Int):zBo ns l<=l.length:=iW
theorem zcv {fu:Nat} {n:Int} {x:Node} (hx:idx v.Forest.Nodes n=some x) (hf:x.Kids.length<fu) (hb:x.Kids.length<=1000000):zEw fu v n=some (zFb v.Forest.Nodes n x):=by
 unfold zEw
 rw [hx,zAA]
 let ns:=v.Forest.Nodes
 have no1:∀(i:Nat) (h:i<x.Kids.length),zRZ ns n x x.Kids[i]=false->zFb ns n x=false:=fun i h hk=>by
  unfold zFb
  have:x.Kids.all (zRZ ns n x)=false:=by
   rw [List.all_eq_false]
   exact ⟨_,gC h,by rw [hk];simp⟩
  rw [this];simp
 refine up (L:=zAp fu v n x) (Inv:=fun i y=>∃d:List (Int×Int),y=(((zBo ns (x.Kids.take i):Nat):Int),(i:Int),d)/\(∀k,k∈d.map (·.1)↔k∈x.Kids.take i)/\(∀p∈d,p.2=1)/\(x.Kids.take i).Nodup/\(x.Kids.take i).all (zRZ ns n x)=true) (Fin:=fun r=>r=some (zFb ns n x)) x.Kids.length (fun i y hi ⟨d,hy,Q,h2,h3,h4⟩=>?_) (fun y ⟨d,hy,Q,h2,h3,h4⟩=>?_) (i:=0) ⟨[],rfl,by simp,by simp,by simp,by simp⟩ (Nat.zero_le _) (by omega)
 ·subst hy
  have hn:rng .i64 ((i:Int)+1)=some ((i+1:Nat):Int):=zBv (by omega)
  have hle:=zc8 ns (x.Kids.take i)
  have hlt:(x.Kids.take i).length<=i:=by simp;omega
  have hn2:rng .i64 (((zBo ns (x.Kids.take i):Nat):Int)+1)=some ((zBo ns (x.Kids.take i)+1:Nat):Int):=zBv (by omega)
  have hpos:∀p∈d,0<p.2:=fun p D=>by rw [h2 p D];decide
  have hm:=zbH (k:=x.Kids[i]) hpos
  have m:∀k,zAp fu v n x (k+1) (((zBo ns (x.Kids.take i):Nat):Int),(i:Int),d) =
    if 0<=x.Kids[i]/\x.Kids[i]<v.Forest.Nodes.length then (if zK0 d x.Kids[i] 0>0 then some false else bnd (idx v.Forest.Nodes x.Kids[i]) fun y=>if y.Parent=n then (if y.Doc=x.Doc then bnd (rng .i64 (zK0 d x.Kids[i] 0+1)) fun i11 =>
     (if y.Kind=1 then zAp fu v n x k (((zBo ns (x.Kids.take i)+1:Nat):Int),((i+1:Nat):Int),zGt d x.Kids[i] i11) else if y.Kind=2 then (if x.Kind=0 then some false else zAp fu v n x k (((zBo ns (x.Kids.take i):Nat):Int),((i+1:Nat):Int),zGt d x.Kids[i] i11)) else some false) else some false) else some false) else some false:=fun k=>by
   simp only [zAp]
   rw [zAP (by simpa using hi),zAQ hi,zAA,zQh,zAA]
   cases hy:idx v.Forest.Nodes x.Kids[i] with
   | none=>simp only [zO9,zAN,zcw]
   | some y=>simp only [zO9,zAN,zAd,zBD,zAA,hn,hn2]
  have E:zRZ ns n x x.Kids[i]=false->zFb ns n x=false:=no1 i hi
  by_cases o:0<=x.Kids[i]/\x.Kids[i]<v.Forest.Nodes.length
  case neg =>
   refine .inl ⟨some false,?_,fun k=>by rw [m,iN o]⟩
   rw [E]
   unfold zRZ
   rw [show idx ns x.Kids[i]=none from zCu o]
  case pos =>
   by_cases B:zK0 d x.Kids[i] 0>0
   case pos =>
    refine .inl ⟨some false,?_,fun k=>by rw [m,iP o,iP B]⟩
    have X:=(Q _).1 (hm.1 B)
    have:¬x.Kids.Nodup:=fun hnd=>by
     rw [<- jP i x.Kids,dM] at hnd
     exact hnd.2.2 _ X _ (by rw [eT hi];exact lH) rfl
    unfold zFb
    rw [decide_eq_false this];rfl
   case neg =>
    have N:x.Kids[i]∉x.Kids.take i:=fun h=>B (hm.2 ((Q _).2 h))
    have h0:zK0 d x.Kids[i] 0=0:=by
     unfold zK0
     cases hj:zHo d x.Kids[i] with
     | none=>rfl
     | some j =>
      obtain ⟨v0,hv⟩:=zIz hj
      exact absurd ((Q _).1 (lE.2 ⟨_,lU hv,rfl⟩)) N
    obtain ⟨y,hy⟩:=zAK o
    have I:isB ns x.Kids[i] 1=(y.Kind==1):=by unfold isB;rw [show idx ns x.Kids[i]=some y from hy]
    have u:zRZ ns n x x.Kids[i]=(y.Parent==n&&(y.Doc==x.Doc&&(y.Kind==1||(y.Kind==2&&x.Kind != 0)))):=by unfold zRZ;rw [show idx ns x.Kids[i]=some y from hy]
    have F:rng .i64 (zK0 d x.Kids[i] 0+1)=some 1:=by rw [h0];exact zXF (by decide) (by decide)
    have next:zRZ ns n x x.Kids[i]=true->(∀q,q∈(zGt d x.Kids[i] 1).map (·.1)↔q∈x.Kids.take (i+1))/\(∀p∈zGt d x.Kids[i] 1,p.2=1)/\(x.Kids.take (i+1)).Nodup/\(x.Kids.take (i+1)).all (zRZ ns n x)=true:=fun hk=>by
     rw [iB hi]
     refine ⟨fun q=>?_,fun p D=>?_,?_,by rw [List.all_append,h4];simp [hk]⟩
     ·rcases zRg d x.Kids[i] 1 with ⟨V,_⟩ | ⟨_,W⟩
      ·exact absurd ((Q _).1 V) N
      ·rw [W,cA,cA,Q]
     ·rcases zdR D with D | rfl
      ·exact h2 p D
      ·rfl
     ·rw [dM]
      exact ⟨h3,by simp,fun a ha b hb=>by simp at hb;subst hb;exact fun e=>N (e▸ha)⟩
    by_cases D:y.Parent=n
    case neg =>
     refine .inl ⟨some false,?_,fun k=>by rw [m,iP o,iN B,hy,zAA,iN D]⟩
     rw [E (by rw [u];simp [D])]
    case pos =>
     by_cases G:y.Doc=x.Doc
     case neg =>
      refine .inl ⟨some false,?_,fun k=>by rw [m,iP o,iN B,hy,zAA,iP D,iN G]⟩
      rw [E (by rw [u];simp [G])]
     case pos =>
      by_cases J:y.Kind=1
      case pos =>
       have hk:zRZ ns n x x.Kids[i]=true:=by rw [u];simp [D,G,J]
       obtain ⟨V,W,g3,g4⟩:=next hk
       refine .inr ⟨_,⟨_,rfl,V,W,g3,g4⟩,fun k=>?_⟩
       rw [m,iP o,iN B,hy,zAA,iP D,iP G,F,zAA,iP J,zSY ns hi,I]
       simp [J]
      case neg =>
       by_cases S:y.Kind=2
       case neg =>
        refine .inl ⟨some false,?_,fun k=>by rw [m,iP o,iN B,hy,zAA,iP D,iP G,F,zAA,iN J,iN S]⟩
        rw [E (by rw [u];simp [J,S])]
       case pos =>
        by_cases k3:x.Kind=0
        case pos =>
         refine .inl ⟨some false,?_,fun k=>by rw [m,iP o,iN B,hy,zAA,iP D,iP G,F,zAA,iN J,iP S,iP k3]⟩
         rw [E (by rw [u];simp [S,k3])]
        case neg =>
         have hk:zRZ ns n x x.Kids[i]=true:=by rw [u];simp [D,G,S,k3]
         obtain ⟨V,W,g3,g4⟩:=next hk
         refine .inr ⟨_,⟨_,rfl,V,W,g3,g4⟩,fun k=>?_⟩
         rw [m,iP o,iN B,hy,zAA,iP D,iP G,F,zAA,iN J,iP S,iN k3,zSY ns hi,I]
         simp [J]
 ·subst hy
  rw [iH] at h3 h4 ⊢
  refine ⟨some (zFb ns n x),rfl,fun k=>?_⟩
  simp only [zAp]
  rw [zAO (by simp),zVF,zAA]
  unfold zFb
  rw [decide_eq_true h3,h4,iD,iD]
  have e1:(((x.Kids.length:Int))==0)=decide (x.Kids.length=0):=by rw [eW,beq_iff_eq,decide_eq_true_eq];omega
  have e2:decide (((zBo ns x.Kids:Nat):Int)<=1)=decide (zBo ns x.Kids<=1):=decide_eq_decide.2 (by omega)
  rw [e1,e2]
  cases zHH x.Kind<;>cases decide (x.Kids.length=0)<;>cases x.Kind != 0<;>rfl
def Ups (ns:List Node):Prop:=∀(n:Int) (x:Node),idx ns n=some x->upI ns n = -1\/∃y,idx ns (upI ns n)=some y
theorem up_ok {fu:Nat} {n:Int} {x:Node} (hx:idx v.Forest.Nodes n=some x):zGP fu v n=some (upI v.Forest.Nodes n):=by
 unfold zGP upI
 rw [hx,zAA,zAd,zAA]
 simp only
 split<;>rfl
theorem zfl {fu:Nat} (o:Ups v.Forest.Nodes) (r:v.Forest.Nodes.length<=1000000):∀(j t k:Nat) (n:Int) (x:Node),t+j=v.Forest.Nodes.length->j<k->idx v.Forest.Nodes n=some x->zCy fu v k (n,(t:Int))=some (zBp v.Forest.Nodes j n):=by
 intro j
 induction j with
 | zero =>
  intro t k n x m hk hx
  obtain ⟨k,rfl⟩:∃d,k=d+1:=⟨k - 1,by omega⟩
  simp only [zCy]
  rw [zAO (by simp;omega)];rfl
 | succ j q =>
  intro t k n x m hk hx
  obtain ⟨k,rfl⟩:∃d,k=d+1:=⟨k - 1,by omega⟩
  simp only [zCy]
  rw [zAP (by simp;omega),up_ok hx,zAA,zBD,zBv (by omega),zAA]
  simp only [zBp]
  by_cases h:upI v.Forest.Nodes n = -1
  ·rw [iP h];simp [h]
  ·rw [iN h]
   rcases o n x hx with e | ⟨y,hy⟩
   ·exact absurd e h
   ·rw [q (t+1) k _ y (by omega) (by omega) hy]
    have:(upI v.Forest.Nodes n == -1)=false:=by simpa using h
    rw [this,iA]
theorem zCU {ns:List Node} (h:zHU ns=true) {n:Int} {x:Node} (hx:idx ns n=some x):zHO ns n x=true:=by
 unfold zHU at h
 rw [lR] at h
 have hr:=zAM hx
 have:=h n.toNat (by simp;omega)
 have e:ns[n.toNat]? = some x:=by unfold idx at hx;rw [iP hr.1] at hx;exact hx
 rw [e] at this
 simpa [show ((n.toNat:Nat):Int)=n by omega] using this
theorem zMQ {ns:List Node} (h:zHU ns=true):Ups ns:=by
 intro n x hx
 have q:=zCU h hx
 unfold zHO zLu zPJ at q
 simp only [lM] at q
 obtain ⟨_,_,m,_,d,_⟩:=q
 unfold upI
 rw [hx]
 simp only
 by_cases r:x.Parent = -1
 ·rw [iP r]
  by_cases u:x.Kind=4
  ·rw [iP u] at d
   cases o:idx ns x.Host with
   | none=>rw [o] at d;cases d
   | some y=>exact .inr ⟨y,rfl⟩
  ·rw [iN u] at d
   exact .inl (by simpa using d)
 ·rw [iN r]
  have e:(x.Parent == -1)=false:=by simpa using r
  rw [e,iA,lM] at m
  cases o:idx ns x.Parent with
  | none=>rw [o] at m;simp at m
  | some y=>exact .inr ⟨y,rfl⟩
theorem zV1 {fu:Nat} (hfu:1000<fu) (hk:zFT fu v.Forest.Nodes):zCz fu v=some (zAJ v.Forest):=by
 unfold zCz zAJ
 rw [zAN,zAN,zAN,zAN]
 by_cases u:v.Forest.Most<1
 ·rw [iP u,decide_eq_false (show ¬1<=v.Forest.Most by omega)];rfl
 rw [iN u,decide_eq_true (show 1<=v.Forest.Most by omega)]
 by_cases B:v.Forest.Most>400
 ·rw [iP B,decide_eq_false (show ¬v.Forest.Most<=400 by omega)];rfl
 rw [iN B,decide_eq_true (show v.Forest.Most<=400 by omega)]
 by_cases D:(v.Forest.Nodes.length:Int)<1
 ·rw [iP D,decide_eq_false (show ¬1<=v.Forest.Nodes.length by omega)];rfl
 rw [iN D,decide_eq_true (show 1<=v.Forest.Nodes.length by omega)]
 by_cases E:(v.Forest.Nodes.length:Int)>v.Forest.Most
 ·rw [iP E,decide_eq_false (show ¬(v.Forest.Nodes.length:Int)<=v.Forest.Most by omega)];rfl
 rw [iN E,decide_eq_true (show (v.Forest.Nodes.length:Int)<=v.Forest.Most by omega)]
 obtain ⟨r,m⟩:=zAK (l:=v.Forest.Nodes) (n:=0) (by omega)
 rw [m,zAA,zAd]
 have F:isB v.Forest.Nodes 0 0=(r.Kind==0):=by unfold isB;rw [m]
 rw [F]
 by_cases o:r.Kind=0
 case neg =>
  rw [iN o]
  have:(r.Kind==0)=false:=by simpa using o
  rw [this];rfl
 rw [iP o,o]
 simp only [iD,beq_self_eq_true]
 have I:zHU v.Forest.Nodes=true->zBU fu v fu 0=some (zQH v.Forest.Nodes):=fun q=>by
  have G:=zMQ q
  refine (zNy (L:=zBU fu v) v.Forest.Nodes.length (fun i=>zBp v.Forest.Nodes v.Forest.Nodes.length (i:Int)) (some true) (fun i hi k=>?_) (fun k=>?_) (by omega)).trans ?_
  ·simp only [zBU]
   rw [zAP (by simpa using hi)]
   unfold zGz
   have:=zfl (fu:=fu) G (by omega) v.Forest.Nodes.length 0 fu (i:Int) _ (by omega) (by omega) (zAQ hi)
   rw [show ((0:Nat):Int)=0 from rfl] at this
   rw [this,zAA,zO9,zBv (by omega),zAA]
   cases zBp v.Forest.Nodes v.Forest.Nodes.length (i:Int)<;>rfl
  ·simp only [zBU]
   rw [zAO (by simp)]
  ·unfold zQH
   cases (cW v.Forest.Nodes.length).all fun i=>zBp v.Forest.Nodes v.Forest.Nodes.length (i:Int)<;>rfl
 refine (zNy (L:=zCh fu v) v.Forest.Nodes.length (fun i=>match v.Forest.Nodes[i]? with | some x=>zHO v.Forest.Nodes (i:Int) x | none=>true) (zBU fu v fu 0) (fun i hi k=>?_) (fun k=>?_) (by omega)).trans ?_
 ·have hx:=zAQ hi
  have d:=hk _ (zIh hx)
  simp only [zCh]
  rw [zAP (by simpa using hi),lC hi]
  rw [hx,zAA,zZN (by omega),zAA,zdd hx,zAA,zfy hx hk,zAA,zcv hx d.1 d.2,zAA,zb0 hx,zAA,zBv (by omega),zAA]
  unfold zHO
  simp only [zO9]
  cases zIn v.Forest.Nodes[i]<;>cases zNX v.Forest.Nodes (i:Int) v.Forest.Nodes[i]<;>cases zLu v.Forest.Nodes (i:Int) v.Forest.Nodes[i]<;>cases zFb v.Forest.Nodes (i:Int) v.Forest.Nodes[i]<;>cases (zPJ v.Forest.Nodes (i:Int) v.Forest.Nodes[i]&&zLj v.Forest.Nodes (i:Int) v.Forest.Nodes[i])<;>rfl
 ·simp only [zCh]
  rw [zAO (by simp)]
 ·have e:((cW v.Forest.Nodes.length).all fun i=>match v.Forest.Nodes[i]? with | some x=>zHO v.Forest.Nodes (i:Int) x | none=>true)=zHU v.Forest.Nodes:=rfl
  rw [e]
  cases q:zHU v.Forest.Nodes
  ·rfl
  ·rw [I q];rfl
theorem zFP {fu:Nat} {f:Forest} (hfu:1000<fu) (hk:zFT fu f.Nodes):zAo fu f=some (zAJ f):=by
 unfold zAo
 rw [zV1 (v:=⟨⟨f.Nodes,f.Most⟩⟩) hfu hk,zAA]
end
section
def zJ4 {α : Type} (l:List α) (p : α -> Bool):Int:=if l.any p=true then ((l.findIdx p:Nat):Int) else -1
theorem zRs {l:List α} {p : α -> Bool} (h:l.any p=false):zJ4 l p = -1:=by
 unfold zJ4;rw [h];rfl
theorem zRr {l:List α} {p : α -> Bool} (h:l.any p=true):∃(i:Nat) (hi:i<l.length),zJ4 l p=(i:Int)/\p l[i]=true:=by
 have hi:l.findIdx p<l.length:=List.findIdx_lt_length.2 (dN.1 h)
 exact ⟨l.findIdx p,hi,by unfold zJ4;rw [iP h],List.findIdx_getElem⟩
theorem zSt {l:List α} {p : α -> Bool}:zJ4 l p<0↔l.any p=false:=by
 constructor
 ·intro h
  cases e:l.any p with
  | false=>rfl
  | true=>obtain ⟨i,_,d,_⟩:=zRr e;omega
 ·intro h;rw [zRs h];omega
theorem zUR {L:Nat->Int->Option Int} (l:List α) (p : α -> Bool) (step:∀(i:Nat) (h:i<l.length) (k:Nat),L (k+1) (i:Int)=bif p l[i] then some (i:Int) else L k ((i+1:Nat):Int)) (d:∀k,L (k+1) (l.length:Int)=some (-1)) {k:Nat} (hk:l.length<k) :
  L k 0=some (zJ4 l p):=by
 have m:∀(j i k:Nat),i+j=l.length->j<k->L k (i:Int)=some (if (l.drop i).any p=true then (((l.drop i).findIdx p+i:Nat):Int) else -1):=by
  intro j
  induction j with
  | zero =>
   intro i k hi hk
   obtain ⟨k,rfl⟩:∃e,k=e+1:=⟨k - 1,by omega⟩
   obtain rfl:i=l.length:=by omega
   rw [d];simp
  | succ j o =>
   intro i k hi hk
   obtain ⟨k,rfl⟩:∃e,k=e+1:=⟨k - 1,by omega⟩
   have h:i<l.length:=by omega
   rw [step i h,eT h,List.any_cons,List.findIdx_cons]
   cases q:p l[i] with
   | true=>simp
   | false =>
    rw [o (i+1) k (by omega) (by omega)]
    simp only [cond_false,iA]
    split
    ·congr 1;omega
    ·rfl
 have:=m l.length 0 k (by omega) hk
 simpa [zJ4] using this
end
section
theorem zHF {fu:Nat} {p:Int->Bool} {l:List Int} (o:∀x∈l,t x=some (p x)) (m:l.length<fu) (q:l.length<=1000000):zAc fu t l=some (l.any p):=by
 unfold zAc zAS
 obtain ⟨r,d,e⟩:=zGT (L:=zAH t l) l p (fun i hi k=>by
  simp only [zAH]
  rw [zAP (by simpa using hi),zAQ hi,zAA,o _ (gC hi),zAA,zBv (by omega),zAA]
  cases p l[i]<;>rfl) (fun k=>by simp only [zAH];rw [zAO (by simp)]) m
 rw [d,zAA,e]
def inB (f:Forest) (n:Int):Bool:=decide (0<=n/\n<f.Nodes.length)
theorem zAs {f:Forest} (h:zAJ f=true):1<=f.Nodes.length/\f.Nodes.length<=400/\zHU f.Nodes=true/\zQH f.Nodes=true:=by
 unfold zAJ at h
 simp only [lM,decide_eq_true_eq] at h
 obtain ⟨o,q,d,r,u,e,m⟩:=h
 exact ⟨d,by omega,e,m⟩
theorem zPF {ns:List Node} (h:zQH ns=true) {n:Int} (d:0<=n/\n<ns.length):zBp ns ns.length n=true:=by
 unfold zQH at h
 rw [lR] at h
 have:=h n.toNat (by simp;omega)
 rwa [show ((n.toNat:Nat):Int)=n by omega] at this
theorem zMh {ns:List Node} (e:zHU ns=true) {n:Int} {x:Node} (hx:idx ns n=some x):∀k∈x.Kids,∃y,idx ns k=some y:=by
 intro k hk
 have h:=zCU e hx
 unfold zHO zFb at h
 simp only [lM] at h
 obtain ⟨_,_,_,⟨_,d,_⟩,_⟩:=h
 have:=lR.1 d k hk
 unfold zRZ at this
 cases hy:idx ns k with
 | none=>rw [hy] at this;cases this
 | some y=>exact ⟨y,rfl⟩
theorem zeu {n:Nat} (ha:0<=a) (d:1<=n):∃c,zga a (n:Int)=some c/\0<=c/\c<n:=by
 refine ⟨a.tmod n,iN (by omega),?_⟩
 rw [Int.tmod_eq_emod_of_nonneg ha]
 exact ⟨Int.emod_nonneg _ (by omega),Int.emod_lt_of_pos _ (by omega)⟩
def AllB (ns:List Node) (p:Int->Node->Bool):Prop:=∀n x,idx ns n=some x->p n x=true
theorem zSk {ns:List Node}:zHU ns=true↔AllB ns (zHO ns):=by
 constructor
 ·intro h n x hx;exact zCU h hx
 ·intro h
  unfold zHU
  rw [lR]
  intro i hi
  have hi:i<ns.length:=by simpa using hi
  rw [lC hi]
  exact h i _ (zAQ hi)
theorem zTp {x:Node} (h:zIn x=true):0<=x.Kind/\x.Kind<=4:=by
 unfold zIn at h
 by_cases d:x.Kind=1
 ·omega
 rw [iN d] at h
 by_cases e:x.Kind=2
 ·omega
 rw [iN e] at h
 by_cases m:x.Kind=0\/x.Kind=3\/x.Kind=4
 ·omega
 rw [iN m] at h
 cases h
theorem zNo {ns:List Node}:∀(k:Nat) (n:Int),zBp ns k n=true->zBp ns (k+1) n=true
 | 0,_,h=>by cases h
 | k+1,n,h=>by
  rw [zBp,dD] at h ⊢
  exact h.imp id fun h=>zNo k _ h
end
section
theorem zYE (f:Forest) (n:Int):cnd (decide (n<0)) (some true) (some (decide (n>=(f.Nodes.length:Int))))=some (!(inB f n)):=by
 unfold inB
 rw [zAN]
 by_cases h:n<0
 ·rw [iP h,decide_eq_false (by omega)];rfl
 ·rw [iN h]
  by_cases d:n<f.Nodes.length
  ·rw [decide_eq_false (by omega),decide_eq_true (by omega)];rfl
  ·rw [decide_eq_true (by omega),decide_eq_false (by omega)];rfl
theorem zb6 {fu:Nat} {f:Forest} {l:List Int} (hfu:1000<fu) (hk:zFT fu f.Nodes) (hr:zAJ f=true) (d:l.length<=100):zB9 fu f l=some (l.all (inB f)):=by
 unfold zB9
 rw [zFP hfu hk,zAA,hr,zAW,zHF (p:=fun n => !(inB f n)) (fun n _=>by unfold zDw;exact zYE f n) (by omega) (by omega),zAA,zJQ]
theorem zKx {fu:Nat} {f:Forest} {l:List Int} (hfu:1000<fu) (hk:zFT fu f.Nodes) (hr:zAJ f=true) (d:l.length<=100):zER fu f l=some (l.all (inB f)):=by
 unfold zER
 rw [zFP hfu hk,zAA,hr,zAW,zHF (p:=fun n => !(inB f n)) (fun n _=>by unfold zEp;exact zYE f n) (by omega) (by omega),zAA,zJQ]
def zVX (ns:List Node) (a:Int):Nat->Int->Bool
 | 0,b=>b==a
 | k+1,b=>if b = -1\/b=a then b==a else zVX ns a k (upI ns b)
def zSK (f:Forest) (a b:Int):Bool:=zVX f.Nodes a (f.Nodes.length+1) b
theorem sup_ok {fu:Nat} {f:Forest} {n:Int} {x:Node} (hx:idx f.Nodes n=some x):zGp fu f n=some (upI f.Nodes n):=by
 unfold zGp upI
 rw [hx,zAA,zAd,zAA]
 simp only
 split<;>rfl
theorem zbS {fu:Nat} {f:Forest} (B:Ups f.Nodes):∀(k q:Nat) (b:Int),(b = -1\/((∃x,idx f.Nodes b=some x)/\zBp f.Nodes k b=true))->k+1<q->zDV fu f a q b=some (zVX f.Nodes a (k+1) b):=by
 intro k
 induction k with
 | zero =>
  intro q b o u
  obtain ⟨q,rfl⟩:∃r,q=r+1:=⟨q - 1,by omega⟩
  rcases o with rfl | ⟨_,h⟩
  ·simp only [zDV]
   rw [zAd,iP rfl]
   simp only [zVX,true_or,if_true]
  ·simp [zBp] at h
 | succ k D =>
  intro q b o u
  obtain ⟨q,rfl⟩:∃r,q=r+1:=⟨q - 1,by omega⟩
  simp only [zDV]
  rw [zAd,zAd]
  rcases o with rfl | ⟨⟨x,hx⟩,h⟩
  ·rw [iP rfl]
   simp only [zVX,true_or,if_true]
  ·by_cases d:b = -1
   ·rw [iP d]
    simp only [zVX,d,true_or,if_true]
   ·rw [iN d]
    by_cases e:b=a
    ·rw [iP e]
     simp only [zVX,e,or_true,if_true]
    ·rw [iN e,sup_ok hx,zAA,D q _ ?_ (by omega)]
     ·conv=>rhs;rw [zVX]
      rw [iN (by simp [d,e])]
     ·simp only [zBp,dD,beq_iff_eq] at h
      rcases h with h | h
      ·exact .inl h
      ·rcases B b x hx with m | m
       ·exact .inl m
       ·exact .inr ⟨m,h⟩
theorem zbT {fu:Nat} {f:Forest} {b:Int} (hfu:1000<fu) (hk:zFT fu f.Nodes) (hr:zAJ f=true) (ha:inB f a=true) (e:inB f b=true):zEN fu f a b=some (zSK f a b):=by
 obtain ⟨_,q,m,o⟩:=zAs hr
 unfold zEN zSK
 rw [zb6 hfu hk hr (by simp),zAA]
 simp only [cK,iX,ha,e,iY,iE,zAF]
 have d:0<=b/\b<f.Nodes.length:=by unfold inB at e;simpa using e
 exact zbS (zMQ m) f.Nodes.length fu b (.inr ⟨zAK d,zPF o d⟩) (by omega)
def zGA (ns:List Node) (gone:Int) (l:List Int) (kind:Int):Nat:=l.countP fun k=>k != gone&&isB ns k kind
theorem zWw {fu:Nat} {l:zAf} {kind:Int} (q:∀k∈nodes,∃x,idx l.Forest.Nodes k=some x) (e:nodes.length<fu) (B:nodes.length<=1000000):zCe fu l nodes kind=some ((zGA l.Forest.Nodes l.gone nodes kind:Nat):Int):=by
 unfold zCe
 have:=upf (L:=zBe fu l nodes kind) (f:=fun i=>(((zGA l.Forest.Nodes l.gone (nodes.take i) kind:Nat):Int),(i:Int))) (v:=some ((zGA l.Forest.Nodes l.gone nodes kind:Nat):Int)) nodes.length (fun i hi k=>?_) (fun k=>?_) e
 ·simpa [zGA] using this
 ·obtain ⟨x,hx⟩:=q _ (gC hi)
  have m:zGA l.Forest.Nodes l.gone (nodes.take i) kind<=(nodes.take i).length:=iW
  have o:(nodes.take i).length<=i:=by simp;omega
  have hs:zGA l.Forest.Nodes l.gone (nodes.take (i+1)) kind=zGA l.Forest.Nodes l.gone (nodes.take i) kind+(if (nodes[i] != l.gone&&isB l.Forest.Nodes nodes[i] kind)=true then 1 else 0):=by
   unfold zGA
   rw [iB hi,jC]
   simp [dG]
  have d:isB l.Forest.Nodes nodes[i] kind=(x.Kind==kind):=by unfold isB;rw [hx]
  simp only [zBe]
  rw [zAP (by simpa using hi),zAQ hi,zAA,zBv (by omega),hs,d]
  unfold zAe
  rw [hx,zBv (by omega)]
  simp only [zAA]
  cases r:nodes[i] != l.gone
  ·rfl
  ·cases u:x.Kind==kind<;>rfl
 ·simp only [zBe]
  rw [zAO (by simp),iH]
def zHR (ns:List Node) (p gone:Int) (l:List Int):Bool:=decide (0<zGA ns gone l 2)||(decide (0<zGA ns gone l 1)&&(match idx ns p with | some y=>decide (1<zGA ns gone l 1+zGA ns gone y.Kids 1) | none=>false))
theorem zSS {fu:Nat} {l:zAf} {y:Node} (e:zHU l.Forest.Nodes=true) (m:idx l.Forest.Nodes l.p=some y) (hk:zFT fu l.Forest.Nodes) (B:∀k∈nodes,∃x,idx l.Forest.Nodes k=some x) (u:nodes.length<fu) (r:nodes.length<=1000000):zBd fu l nodes=some (zHR l.Forest.Nodes l.p l.gone nodes):=by
 have d:=hk _ (zIh m)
 have D:zGA l.Forest.Nodes l.gone nodes 1<=nodes.length:=iW
 have E:zGA l.Forest.Nodes l.gone y.Kids 1<=y.Kids.length:=iW
 unfold zBd zHR
 rw [zWw B u r,zAA,zWw B u r,zAA,zAA,m,zAA,zWw (zMh e m) d.1 d.2,zAA,zXF (by omega) (by omega),zAA,zAN,zAN]
 by_cases o:0<zGA l.Forest.Nodes l.gone nodes 2
 ·rw [iP (by omega),decide_eq_true o];rfl
 ·rw [iN (by omega),decide_eq_false o,iA]
  by_cases q:0<zGA l.Forest.Nodes l.gone nodes 1
  ·rw [iP (by omega),decide_eq_true q,iD]
   congr 1
   exact decide_eq_decide.2 (by omega)
  ·rw [iN (by omega),decide_eq_false q];rfl
def zXM (f:Forest) (n p _child gone:Int) (x y:Node) (d:Bool):Int :=
 if zHH y.Kind=false then 5 else if zSK f n p=true then 5 else if d=false then 6 else if x.Kind=0\/x.Kind=4 then 5
 else if y.Kind=0 then (if zHR f.Nodes p gone (if x.Kind=3 then x.Kids else [n])=true then 5 else 0) else 0
theorem zgr {fu:Nat} {f:Forest} {n p gone:Int} {x y:Node} (hfu:1000<fu) (hk:zFT fu f.Nodes) (hr:zAJ f=true) (hx:idx f.Nodes n=some x) (hy:idx f.Nodes p=some y) (hc:child = -1\/∃z,idx f.Nodes child=some z) :
  zDK fu ⟨⟨f.Nodes,f.Most⟩,p,child,gone⟩ n=some (zXM f n p child gone x y (child == -1||(match idx f.Nodes child with | some z=>z.Parent==p | none=>false))):=by
 obtain ⟨_,S,m,_⟩:=zAs hr
 have F:inB f n=true:=by unfold inB;exact decide_eq_true (zAM hx)
 have G:inB f p=true:=by unfold inB;exact decide_eq_true (zAM hy)
 have Q:zEN fu f n p=some (zSK f n p):=zbT hfu hk hr F G
 have kx:zAe fu ⟨⟨f.Nodes,f.Most⟩,p,child,gone⟩ n=some x.Kind:=by unfold zAe;rw [hx];rfl
 have V:zAe fu ⟨⟨f.Nodes,f.Most⟩,p,child,gone⟩ p=some y.Kind:=by unfold zAe;rw [hy];rfl
 have B:=hk _ (zIh hx)
 have D:zBd fu ⟨⟨f.Nodes,f.Most⟩,p,child,gone⟩ x.Kids=some (zHR f.Nodes p gone x.Kids):=zSS (l:=⟨⟨f.Nodes,f.Most⟩,p,child,gone⟩) m hy hk (zMh m hx) B.1 B.2
 have E:zBd fu ⟨⟨f.Nodes,f.Most⟩,p,child,gone⟩ [n]=some (zHR f.Nodes p gone [n]):=zSS (l:=⟨⟨f.Nodes,f.Most⟩,p,child,gone⟩) m hy hk (fun k u=>by simp at u;subst u;exact ⟨x,hx⟩) (by simp;omega) (by simp)
 have r:∀t:Bool,zD2 fu ⟨⟨f.Nodes,f.Most⟩,p,child,gone⟩ n x.Kind t=some (if t=true then 5 else if y.Kind=0 then (if zHR f.Nodes p gone (if x.Kind=3 then x.Kids else [n])=true then 5 else 0) else 0):=fun t=>by
  unfold zD2
  simp only [V,zAA,zBD,E,D,hx]
  cases t
  ·rw [zAF]
   by_cases o:x.Kind=3
   ·simp only [iP o,zec]
    by_cases d:y.Kind=0
    ·simp only [iP d]
     cases zHR f.Nodes p gone x.Kids<;>rfl
    ·simp only [iN d];rfl
   ·simp only [iN o,zec]
    by_cases d:y.Kind=0
    ·simp only [iP d]
     cases zHR f.Nodes p gone [n]<;>rfl
    ·simp only [iN d];rfl
  ·rfl
 have N:zD1 fu ⟨⟨f.Nodes,f.Most⟩,p,child,gone⟩ n ()=some (if x.Kind=0\/x.Kind=4 then 5 else if y.Kind=0 then (if zHR f.Nodes p gone (if x.Kind=3 then x.Kids else [n])=true then 5 else 0) else 0):=by
  unfold zD1
  rw [kx,zAA,r,r,zBD]
  by_cases d:x.Kind=0
  ·simp [d]
  ·by_cases q:x.Kind=4
   ·simp [q]
   ·simp [d,q]
 have J:∀(h c:Bool),zD0 fu ⟨⟨f.Nodes,f.Most⟩,p,child,gone⟩ n h c=some (if h=false then 5 else if zSK f n p=true then 5 else if c=false then 6 else if x.Kind=0\/x.Kind=4 then 5 else if y.Kind=0 then (if zHR f.Nodes p gone (if x.Kind=3 then x.Kids else [n])=true then 5 else 0) else 0):=fun h c=>by
  unfold zD0
  rw [show zEN fu (⟨⟨f.Nodes,f.Most⟩,p,child,gone⟩:zAf).Forest n (⟨⟨f.Nodes,f.Most⟩,p,child,gone⟩:zAf).p=some (zSK f n p) from Q,zAA,N]
  cases h
  ·rfl
  ·cases zSK f n p
   ·cases c<;>rfl
   ·rfl
 have I:∀h:Bool,zAk fu ⟨⟨f.Nodes,f.Most⟩,p,child,gone⟩ n h=some (if h=false then 5 else if zSK f n p=true then 5 else if (child == -1||(match idx f.Nodes child with | some z=>z.Parent==p | none=>false))=false then 6 else if x.Kind=0\/x.Kind=4 then 5 else if y.Kind=0 then (if zHR f.Nodes p gone (if x.Kind=3 then x.Kids else [n])=true then 5 else 0) else 0):=fun h=>by
  unfold zAk
  simp only [J,zAd]
  by_cases e:child = -1
  ·simp [e]
  ·have W:(child == -1)=false:=by simpa using e
   rw [iN e,W]
   rcases hc with X | ⟨z,hz⟩
   ·exact absurd X e
   ·rw [hz];rfl
 unfold zDK zXM
 rw [show zAe fu ⟨⟨f.Nodes,f.Most⟩,p,child,gone⟩ (⟨⟨f.Nodes,f.Most⟩,p,child,gone⟩:zAf).p=some y.Kind from V,zAA]
 simp only [I,zBD]
 unfold zHH
 by_cases d:y.Kind=0
 ·simp [d]
 by_cases e:y.Kind=1
 ·simp [e]
 by_cases o:y.Kind=3
 ·simp [o]
 by_cases q:y.Kind=4
 ·simp [q]
 simp [d,e,o,q]
theorem may_ok {fu:Nat} {f:Forest} {n p:Int} {x y:Node} (hfu:1000<fu) (hk:zFT fu f.Nodes) (hr:zAJ f=true) (hx:idx f.Nodes n=some x) (hy:idx f.Nodes p=some y) (o:child = -1\/∃z,idx f.Nodes child=some z) :
  zFF fu f n p child=some (zXM f n p child (-1) x y (child == -1||(match idx f.Nodes child with | some z=>z.Parent==p | none=>false))):=by
 have e:inB f n=true:=by unfold inB;exact decide_eq_true (zAM hx)
 have m:inB f p=true:=by unfold inB;exact decide_eq_true (zAM hy)
 unfold zFF
 rw [zKx hfu hk hr (by simp),zAA,zgr hfu hk hr hx hy o,zAA,zAd]
 simp only [cK,iX,e,m,iY,iE,zAF]
 by_cases d:child = -1
 ·rw [iP d]
 ·rw [iN d,zKx hfu hk hr (by simp),zAA]
  rcases o with q | ⟨z,hz⟩
  ·exact absurd q d
  ·have:inB f child=true:=by unfold inB;exact decide_eq_true (zAM hz)
   simp only [cK,iX,this,iY,iE,zAF]
end
section
def InN (ns:List Node) (n:Int):Prop:=0<=n/\n<ns.length
def zJU (ns:List Node) (n:Int):Int:=match idx ns n with | some x=>x.Parent | none => -1
def zLv (ns:List Node) (n:Int):List Int:=match idx ns n with | some x=>x.Kids | none=>[]
def zPm (ns:List Node):Nat->Int->Prop
 | 0,_=>False
 | k+1,n=>zJU ns n = -1\/zPm ns k (zJU ns n)
def zch (ns:List Node):Nat->Int->List Int
 | 0,_=>[]
 | k+1,n=>n::(if zJU ns n = -1 then [] else zch ns k (zJU ns n))
def way (ns:List Node) (n:Int):List Int:=zch ns ns.length n
def allF (ns:List Node):Nat->Int->List Int
 | 0,_=>[]
 | k+1,n=>n::(zLv ns n).flatMap (allF ns k)
def zNR (ns:List Node) (n:Int):List Int:=allF ns ns.length n
def zUG (ns:List Node):Nat->Int->Int
 | 0,n=>n
 | k+1,n=>if zJU ns n = -1 then n else zUG ns k (zJU ns n)
def zSL (ns:List Node) (n:Int):Int:=zUG ns ns.length n
structure Tree (ns:List Node):Prop where
 kid:∀n k,k∈zLv ns n->InN ns n/\InN ns k/\zJU ns k=n
 par:∀x,InN ns x->zJU ns x ≠ -1->InN ns (zJU ns x)/\x∈zLv ns (zJU ns x)
 nod:∀n,(zLv ns n).Nodup
 fin:∀n,InN ns n->zPm ns ns.length n
theorem zUO {ns:List Node} (q:zHU ns=true) (u:zQH ns=true):Tree ns where
 kid n k hk:=by
  unfold zLv at hk
  cases hx:idx ns n with
  | none=>rw [hx] at hk;simp at hk
  | some x =>
   rw [hx] at hk
   have h:=zCU q hx
   unfold zHO zFb at h
   simp only [lM] at h
   obtain ⟨_,_,_,⟨_,r,_⟩,_⟩:=h
   have:=lR.1 r k hk
   unfold zRZ at this
   cases hy:idx ns k with
   | none=>rw [hy] at this;cases this
   | some y =>
    rw [hy] at this
    simp only [lM,beq_iff_eq] at this
    refine ⟨zAM hx,zAM hy,?_⟩
    unfold zJU;rw [hy];exact this.1
 par x hx d:=by
  obtain ⟨y,hy⟩:=zAK hx
  have e:zJU ns x=y.Parent:=by unfold zJU;rw [hy]
  rw [e] at d ⊢
  have h:=zCU q hy
  unfold zHO zLu at h
  simp only [lM] at h
  obtain ⟨_,_,m,_⟩:=h
  have e:(y.Parent == -1)=false:=by simpa using d
  rw [e,iA,lM] at m
  cases o:idx ns y.Parent with
  | none=>rw [o] at m;simp at m
  | some p =>
   rw [o] at m
   simp only [lM] at m
   refine ⟨zAM o,?_⟩
   unfold zLv;rw [o]
   exact e7.1 m.2.2
 nod n:=by
  unfold zLv
  cases hx:idx ns n with
  | none=>simp
  | some x =>
   have h:=zCU q hx
   unfold zHO zFb at h
   simp only [lM,decide_eq_true_eq] at h
   exact h.2.2.2.1.1
 fin n h:=by
  have:=zPF u h
  revert this
  generalize ns.length=k
  clear h
  intro h
  induction k generalizing n with
  | zero=>cases h
  | succ k B =>
   simp only [zBp,dD,beq_iff_eq] at h
   simp only [zPm]
   by_cases d:zJU ns n = -1
   ·exact .inl d
   ·have e:upI ns n=zJU ns n:=by
     unfold upI;unfold zJU at d ⊢
     cases hx:idx ns n with
     | none=>rfl
     | some x=>rw [hx] at d;simp only at d ⊢;rw [iN d]
    rw [e] at h
    rcases h with h | h
    ·exact absurd h d
    ·exact .inr (B _ h)
theorem InN.pos {ns:List Node} {n:Int} (h:InN ns n):∃M,ns.length=M+1:=⟨ns.length - 1,by unfold InN at h;omega⟩
theorem InN.ne {ns:List Node} {n:Int} (h:InN ns n):n ≠ -1:=by unfold InN at h;omega
theorem zV2 {ns:List Node}:∀(k:Nat) (n:Int),zPm ns k n->∀j,k<=j->zch ns j n=zch ns k n
 | 0,_,h,_,_=>h.elim
 | k+1,n,h,j,hj=>by
  obtain ⟨j,rfl⟩:∃e,j=e+1:=⟨j - 1,by omega⟩
  simp only [zch]
  by_cases d:zJU ns n = -1
  ·rw [iP d,iP d]
  ·rw [iN d,iN d,zV2 k _ (h.resolve_left d) j (by omega)]
theorem zSy {ns:List Node}:∀(k:Nat) (n:Int),zPm ns k n->∀j,k<=j->zUG ns j n=zUG ns k n
 | 0,_,h,_,_=>h.elim
 | k+1,n,h,j,hj=>by
  obtain ⟨j,rfl⟩:∃e,j=e+1:=⟨j - 1,by omega⟩
  simp only [zUG]
  by_cases d:zJU ns n = -1
  ·rw [iP d,iP d]
  ·rw [iN d,iN d,zSy k _ (h.resolve_left d) j (by omega)]
theorem zYf {ns:List Node}:∀(k:Nat) (n:Int),(zch ns k n).length<=k
 | 0,_=>by simp [zch]
 | k+1,n=>by
  simp only [zch,cP]
  split
  ·simp
  ·have:=zYf (ns:=ns) k (zJU ns n);omega
section
variable {ns:List Node} (T:Tree ns)
include T
theorem Tree.climb {n:Int} (h:InN ns n) {M:Nat} (d:ns.length=M+1):zJU ns n = -1\/zPm ns M (zJU ns n):=by
 have:=T.fin n h
 rw [d] at this
 exact this
theorem Tree.way_eq {n:Int} (h:InN ns n):way ns n=n::(if zJU ns n = -1 then [] else way ns (zJU ns n)):=by
 obtain ⟨M,e⟩:=h.pos
 have m:=T.climb h e
 unfold way
 rw [e]
 simp only [zch]
 by_cases d:zJU ns n = -1
 ·rw [iP d,iP d]
 ·rw [iN d,iN d]
  have:=zV2 M _ (m.resolve_left d) (M+1) (by omega)
  simp only [zch] at this
  rw [this]
theorem Tree.root_eq {n:Int} (h:InN ns n):zSL ns n=if zJU ns n = -1 then n else zSL ns (zJU ns n):=by
 obtain ⟨M,e⟩:=h.pos
 have m:=T.climb h e
 unfold zSL
 rw [e]
 simp only [zUG]
 by_cases d:zJU ns n = -1
 ·rw [iP d,iP d]
 ·rw [iN d,iN d]
  have:=zSy M _ (m.resolve_left d) (M+1) (by omega)
  simp only [zUG] at this
  rw [this]
theorem Tree.up_ind (h:∀n,InN ns n->(zJU ns n ≠ -1->C (zJU ns n))->C n):∀n,InN ns n->C n:=by
 have e:∀(k:Nat) (n:Int),InN ns n->zPm ns k n->C n:=by
  intro k
  induction k with
  | zero=>intro n _ h;exact h.elim
  | succ k q =>
   intro n d o
   exact h n d fun m=>q _ (T.par n d m).1 (o.resolve_left m)
 exact fun n d=>e _ n d (T.fin n d)
theorem Tree.way_kid {n k:Int} (hk:k∈zLv ns n):way ns k=k::way ns n:=by
 obtain ⟨d,e,m⟩:=T.kid n k hk
 rw [T.way_eq e,m,iN d.ne]
theorem Tree.way_len {n:Int} (h:InN ns n):1<=(way ns n).length/\(way ns n).length<=ns.length:=by
 refine ⟨?_,zYf _ _⟩
 rw [T.way_eq h];simp
theorem Tree.down_ind (h:∀n,InN ns n->(∀k,k∈zLv ns n->C k)->C n):∀n,InN ns n->C n:=by
 have m:∀(d:Nat) (n:Int),InN ns n->ns.length<(way ns n).length+d->C n:=by
  intro d
  induction d with
  | zero=>intro n e o;have:=T.way_len e;omega
  | succ d q =>
   intro n e o
   exact h n e fun k hk=>q k (T.kid n k hk).2.1 (by rw [T.way_kid hk,cP];omega)
 exact fun n e=>m ns.length n e (by have:=T.way_len e;omega)
theorem Tree.allF_stab:∀(d:Nat) (n:Int),InN ns n->ns.length<(way ns n).length+d->∀j,allF ns (d+j) n=allF ns d n:=by
 intro d
 induction d with
 | zero=>intro n e m;have:=T.way_len e;omega
 | succ d o =>
  intro n e m j
  rw [show d+1+j=d+j+1 by omega]
  simp only [allF,iO]
  rw [iL fun k hk=>o k (T.kid n k hk).2.1 (by rw [T.way_kid hk,cP];omega) j]
theorem Tree.all_eq {n:Int} (h:InN ns n):zNR ns n=n::(zLv ns n).flatMap (zNR ns):=by
 obtain ⟨M,d⟩:=h.pos
 have hs:=T.allF_stab
 have e:=T.way_len h
 unfold zNR
 rw [d]
 conv=>lhs;simp only [allF]
 rw [iO,iO,iL fun k hk=>(hs M k (T.kid n k hk).2.1 (by rw [T.way_kid hk,cP];omega) 1).symm]
theorem Tree.way_self {n:Int} (h:InN ns n):n∈way ns n:=by rw [T.way_eq h];simp
theorem Tree.way_in:∀x,InN ns x->∀y∈way ns x,InN ns y:=T.up_ind fun x hx e y hy=>by
 rw [T.way_eq hx] at hy
 rcases lD.1 hy with rfl | hy
 ·exact hx
 ·split at hy
  ·simp at hy
  ·rename_i d;exact e d y hy
theorem Tree.way_suffix:∀x,InN ns x->∀y∈way ns x,way ns y <:+ way ns x:=T.up_ind fun x hx m y hy=>by
 have e:=T.way_eq hx
 rw [e] at hy
 rcases lD.1 hy with rfl | hy
 ·exact jD _
 ·split at hy
  ·simp at hy
  ·rename_i d
   rw [e,iN d]
   exact (m d y hy).trans (jE _ _)
theorem Tree.way_trans {x y z:Int} (hz:InN ns z) (d:x∈way ns y) (e:y∈way ns z):x∈way ns z:=(T.way_suffix z hz y e).subset d
theorem Tree.way_inj {x y:Int} (hx:InN ns x) (hy:InN ns y) (h:way ns x=way ns y):x=y:=by
 rw [T.way_eq hx,T.way_eq hy] at h
 exact (dU.inj h).1
theorem Tree.way_same {x y z:Int} (hz:InN ns z) (d:x∈way ns z) (e:y∈way ns z) (m:(way ns x).length=(way ns y).length):x=y :=
 T.way_inj (T.way_in z hz x d) (T.way_in z hz y e) ((jQ (T.way_suffix z hz x d) (T.way_suffix z hz y e) (by omega)).eq_of_length m)
end
end
section
theorem zMR:∀(N:Nat) (l:List Int),l.Nodup->(∀x∈l,0<=x/\x<N)->l.length<=N
 | 0,l,_,h=>by
  cases l with
  | nil=>simp
  | cons x l=>have:=h x (by simp);omega
 | N+1,l,hl,h=>by
  have d:=zMR N (l.erase (N:Int)) (hl.erase _) fun x hx=>by
   rw [hl.mem_erase_iff] at hx
   have:=h x hx.2
   have:=hx.1
   omega
  rw [List.length_erase] at d
  split at d<;>omega
section
variable {ns:List Node} (T:Tree ns)
include T
theorem Tree.kid_way {n k x:Int} (hx:InN ns x) (hk:k∈zLv ns n) (h:k∈way ns x):n∈way ns x :=
 T.way_trans hx (by rw [T.way_kid hk];exact lG _ (T.way_self (T.kid n k hk).1)) h
theorem Tree.all_in:∀n,InN ns n->∀x∈zNR ns n,InN ns x/\n∈way ns x:=T.down_ind fun n d o x hx=>by
 rw [T.all_eq d] at hx
 rcases lD.1 hx with rfl | hx
 ·exact ⟨d,T.way_self d⟩
 ·obtain ⟨k,hk,hx⟩:=e9.1 hx
  obtain ⟨e,m⟩:=o k hk x hx
  exact ⟨e,T.kid_way e hk m⟩
theorem Tree.all_self {n:Int} (d:InN ns n):n∈zNR ns n:=by rw [T.all_eq d];simp
theorem Tree.all_kid:∀n,InN ns n->∀y∈zNR ns n,∀k∈zLv ns y,k∈zNR ns n:=T.down_ind fun n m o y hy k hk=>by
 rw [T.all_eq m] at hy ⊢
 rcases lD.1 hy with rfl | hy
 ·exact lG _ (e9.2 ⟨k,hk,T.all_self (T.kid _ k hk).2.1⟩)
 ·obtain ⟨e,d,hy⟩:=e9.1 hy
  exact lG _ (e9.2 ⟨e,d,o e d y hy k hk⟩)
theorem Tree.mem_all {n:Int} (e:InN ns n):∀x,InN ns x->n∈way ns x->x∈zNR ns n:=T.up_ind fun x hx o h=>by
 have d:=h
 rw [T.way_eq hx] at d
 rcases lD.1 d with rfl | d
 ·exact T.all_self e
 ·split at d
  ·simp at d
  ·rename_i m
   exact T.all_kid n e _ (o m d) x (T.par x hx m).2
theorem Tree.kids_disj {n k e x:Int} (hk:k∈zLv ns n) (d:e∈zLv ns n) (h:x∈zNR ns k) (o:x∈zNR ns e):k=e:=by
 have m:=T.all_in k (T.kid n k hk).2.1 x h
 have q:=T.all_in e (T.kid n e d).2.1 x o
 exact T.way_same m.1 m.2 q.2 (by rw [T.way_kid hk,T.way_kid d];simp)
theorem Tree.all_nodup:∀n,InN ns n->(zNR ns n).Nodup:=T.down_ind fun n q u=>by
 rw [T.all_eq q,lS]
 refine ⟨fun h=>?_,?_⟩
 ·obtain ⟨k,hk,h⟩:=e9.1 h
  have r:=(T.all_in k (T.kid n k hk).2.1 n h).2
  have o:=T.way_suffix n q k r
  rw [T.way_kid hk] at o
  have:=o.length_le
  simp at this
  omega
 ·rw [List.Nodup,jR]
  refine ⟨fun k hk=>u k hk,?_⟩
  refine (T.nod n).imp_of_mem fun hk d m x hx y hy e=>?_
  subst e
  exact m (T.kids_disj hk d hx hy)
theorem Tree.all_len {n:Int} (d:InN ns n):(zNR ns n).length<=ns.length:=zMR _ _ (T.all_nodup n d) fun x hx=>(T.all_in n d x hx).1
theorem Tree.root_way:∀n,InN ns n->zSL ns n∈way ns n/\zJU ns (zSL ns n) = -1:=T.up_ind fun n e m=>by
 rw [T.root_eq e,T.way_eq e]
 by_cases d:zJU ns n = -1
 ·rw [iP d,iP d];exact ⟨by simp,d⟩
 ·rw [iN d,iN d];exact ⟨lG _ (m d).1,(m d).2⟩
theorem Tree.root_in {n:Int} (d:InN ns n):InN ns (zSL ns n):=T.way_in n d _ (T.root_way n d).1
theorem Tree.between:∀n,InN ns n->∀c∈zNR ns n,c≠n->∃A B C,zNR ns n=A++zJU ns c::(B++c::C)/\∀b∈B,InN ns b/\zJU ns c∈way ns b/\c∉way ns b:=T.down_ind fun n W X c E G=>by
 have e:=T.all_eq W
 rw [e] at E
 obtain ⟨k,hk,E⟩:=e9.1 ((lD.1 E).resolve_left G)
 obtain ⟨I,J,hK⟩:=jF hk
 rw [hK,iF,iG] at e
 by_cases q:c=k
 ·subst q
  have o:=T.kid n c hk
  rw [T.all_eq o.2.1] at e
  rw [o.2.2]
  refine ⟨[],I.flatMap (zNR ns),(zLv ns c).flatMap (zNR ns)++J.flatMap (zNR ns),by rw [e];simp,fun b D=>?_⟩
  obtain ⟨u,r,D⟩:=e9.1 D
  have d:u∈zLv ns n:=by rw [hK];simp [r]
  have m:=T.all_in u (T.kid n u d).2.1 b D
  refine ⟨m.1,T.kid_way m.1 d m.2,fun h=>?_⟩
  have F:=T.mem_all o.2.1 b m.1 h
  have V:=T.kids_disj d hk D F
  subst V
  have N:=T.nod n
  rw [hK,dM] at N
  exact N.2.2 u r u (by simp) rfl
 ·obtain ⟨A,B,C,Q,S⟩:=X k hk c E q
  rw [Q] at e
  exact ⟨n::(I.flatMap (zNR ns)++A),B,C++J.flatMap (zNR ns),by rw [e];simp,S⟩
end
end
section
def zan (l:List Int) (n:Int):Int:=if n∈l then ((l.idxOf n:Nat):Int) else -1
theorem zYc {L:Nat->Int->Option Int} (l:List Int) (n:Int) (step:∀(i:Nat) (h:i<l.length) (k:Nat),L (k+1) (i:Int)=if l[i]=n then some (i:Int) else L k ((i+1:Nat):Int)) (m:∀k,L (k+1) (l.length:Int)=some (-1)) {k:Nat} (hk:l.length<k):L k 0=some (zan l n):=by
 have q:∀(j i k:Nat),i+j=l.length->j<k->L k (i:Int)=some (if n∈l.drop i then (((l.drop i).idxOf n+i:Nat):Int) else -1):=by
  intro j
  induction j with
  | zero =>
   intro i k hi hk
   obtain ⟨k,rfl⟩:∃o,k=o+1:=⟨k - 1,by omega⟩
   obtain rfl:i=l.length:=by omega
   rw [m];simp
  | succ j u =>
   intro i k hi hk
   obtain ⟨k,rfl⟩:∃o,k=o+1:=⟨k - 1,by omega⟩
   have h:i<l.length:=by omega
   rw [step i h,eT h]
   by_cases d:l[i]=n
   ·rw [iP d,iP (by rw [d];simp),d,List.idxOf_cons_self,dA]
   ·rw [iN d,u (i+1) k (by omega) (by omega)]
    have e:(n∈l[i]::l.drop (i+1))↔n∈l.drop (i+1):=⟨fun h=>(lD.1 h).resolve_left (Ne.symm d),lG _⟩
    have r:(l[i]::l.drop (i+1)).idxOf n=(l.drop (i+1)).idxOf n+1:=by rw [List.idxOf_cons,beq_eq_false_iff_ne.2 d];rfl
    by_cases hm:n∈l.drop (i+1)
    ·rw [iP hm,iP (e.2 hm),r]
     congr 1;omega
    ·rw [iN hm,iN fun h=>hm (e.1 h)]
 have:=q l.length 0 k (by omega) hk
 simpa [zan] using this
theorem zby {fu:Nat} {l:List Int} {n:Int} (d:l.length<fu) (e:l.length<=1000000):zCd fu l n=some (zan l n):=by
 unfold zCd
 refine zYc (L:=zBL l n) l n (fun i hi k=>?_) (fun k=>?_) d
 ·simp only [zBL]
  rw [zAP (by simpa using hi),zAQ hi,zAA,zBv (by omega),zAA,zBD]
  by_cases h:l[i]=n
  ·rw [iP h.symm,iP h]
  ·rw [iN (Ne.symm h),iN h]
 ·simp only [zBL];rw [zAO (by simp)]
theorem zTn {fu:Nat} {a b:List Int} (q:a.length<fu) (o:a.length<=1000000):zBx fu a b=some (decide (a=b)):=by
 unfold zBx
 rw [zAd]
 by_cases m:a.length=b.length
 ·rw [iP (by omega)]
  refine (zNy (L:=zBK a b) a.length (fun i=>a[i]? == b[i]?) (some true) (fun i hi k=>?_) (fun k=>?_) (by omega)).trans ?_
  ·simp only [zBK]
   rw [zAP (by simpa using hi),zAQ hi,zAQ (by omega:i<b.length),zAA,zAA,zBv (by omega),zAA,zAd,lC hi,lC (by omega:i<b.length)]
   by_cases h:a[i]=b[i]
   ·rw [iP h,h];simp
   ·have d:(some a[i]==some b[i])=false:=beq_eq_false_iff_ne.2 fun e=>h (lJ.inj e)
    rw [iN h,d];rfl
  ·simp only [zBK]
   rw [zAO (by simp)]
  ·have:((cW a.length).all fun i=>a[i]? == b[i]?)=decide (a=b):=by
    rw [eW,lR,decide_eq_true_eq]
    constructor
    ·intro h
     refine List.ext_getElem? fun i=>?_
     by_cases hi:i<a.length
     ·simpa using h i (by simpa using hi)
     ·rw [cX (by omega),cX (by omega)]
    ·intro h i _;rw [h];simp
   rw [this]
   cases decide (a=b)<;>rfl
 ·rw [iN (by omega),decide_eq_false (fun h=>m (by rw [h]))]
theorem zTg {l:List Int} {n:Int} (h:n∈l):zan l n=((l.idxOf n:Nat):Int)/\l.idxOf n<l.length:=⟨iP h,List.idxOf_lt_length_of_mem h⟩
theorem zJ3 {ns:List Node} {n:Int} {x:Node} (h:idx ns n=some x):zJU ns n=x.Parent:=by unfold zJU;rw [h]
theorem zHm {ns:List Node} {n:Int} {x:Node} (h:idx ns n=some x):zLv ns n=x.Kids:=by unfold zLv;rw [h]
structure Small (f:Forest):Prop where
 few:f.Nodes.length<=400
 kids:∀x∈f.Nodes,x.Kids.length<=400
 attrs:∀x∈f.Nodes,x.Attrs.length<=60
 name:∀x∈f.Nodes,x.Name.length<=300
theorem Small.fit {f:Forest} (h:Small f) {fu:Nat} (hfu:1000<fu):zFT fu f.Nodes:=fun x hx=>by have:=h.kids x hx;omega
theorem zUK {fu:Nat} {f:Forest} (hfu:1000<fu):∃r,zE0 fu f=some r/\(r=true->Small f/\f.Nodes.length<=60):=by
 unfold zE0
 rw [zAN]
 by_cases h:f.Nodes.length<=60
 ·rw [iN (by omega)]
  refine ⟨f.Nodes.all fun n=>decide (n.Kids.length<=60)&&(decide (n.Attrs.length<=60)&&decide (n.Name.length<=300)),(zKw (L:=zCi f) f.Nodes (fun n=>decide (n.Kids.length<=60)&&(decide (n.Attrs.length<=60)&&decide (n.Name.length<=300))) (some true) (fun i hi k=>?_) (fun k=>?_) (by omega)).trans ?_,fun hr=>?_⟩
  ·simp only [zCi]
   rw [zAP (by simpa using hi),zAQ hi,zAA,zAA,zAA,zBv (by omega),zAA,zAN,zAN,zAN]
   generalize f.Nodes[i]=n
   by_cases e:n.Kids.length<=60
   ·by_cases m:n.Attrs.length<=60
    ·by_cases o:n.Name.length<=300
     ·rw [iN (by omega),iN (by omega),iN (by omega)];simp [e,m,o]
     ·rw [iN (by omega),iN (by omega),iP (by omega)];simp [o]
    ·rw [iN (by omega),iP (by omega)];simp [m]
   ·rw [iP (by omega)];simp [e]
  ·simp only [zCi]
   rw [zAO (by simp)]
  ·cases f.Nodes.all fun n=>decide (n.Kids.length<=60)&&(decide (n.Attrs.length<=60)&&decide (n.Name.length<=300))<;>rfl
  ·have d:∀n∈f.Nodes,n.Kids.length<=60/\n.Attrs.length<=60/\n.Name.length<=300:=fun n q=>by
    have:=lR.1 hr n q
    simpa only [lM,decide_eq_true_eq] using this
   exact ⟨⟨by omega,fun x hx=>(by have:=(d x hx).1;omega),fun x hx=>(d x hx).2.1,fun x hx=>(d x hx).2.2⟩,h⟩
 ·rw [iP (by omega)];exact ⟨false,rfl,by simp⟩
theorem zcp {fu:Nat} {f:Forest} {l:List Int} (hfu:1000<fu) (hk:zFT fu f.Nodes) (d:l.length<=1000):zFS fu f l=some (zAJ f&&l.all (inB f)):=by
 unfold zFS
 rw [zV1 (v:=⟨⟨f.Nodes,f.Most⟩⟩) hfu hk,zAA]
 cases zAJ f with
 | false=>rfl
 | true =>
  rw [zAW,zHF (p:=fun n => !(inB f n)) (fun n _=>by unfold zEC;rw [zQh,zAA];rfl) (by omega) (by omega),zAA,zJQ]
  rfl
theorem zRX {f:Forest} {n:Int} (h:InN f.Nodes n):inB f n=true:=decide_eq_true h
theorem zeY {fu:Nat} {f:Forest} {n:Int} (hfu:1000<fu) (hk:zFT fu f.Nodes) (hr:zAJ f=true) (h:InN f.Nodes n):zFS fu f [n]=some true:=by
 rw [zcp hfu hk (by simp),hr];simp [zRX h]
theorem zCQ {f:Forest} (hr:zAJ f=true):Tree f.Nodes:=by
 obtain ⟨_,_,d,e⟩:=zAs hr
 exact zUO d e
section
variable {f:Forest} (T:Tree f.Nodes)
include T
theorem root_l (k:Nat):∀n,InN f.Nodes n->zPm f.Nodes k n->∀K,k<=K->zGF f K n=some (zUG f.Nodes k n):=by
 induction k with
 | zero=>intro n _ h;exact h.elim
 | succ k q =>
  intro n d m K hK
  obtain ⟨K,rfl⟩:∃e,K=e+1:=⟨K - 1,by omega⟩
  obtain ⟨x,hx⟩:=zAK d
  have o:=zJ3 hx
  simp only [zGF,zUG]
  rw [hx,zAA,zAA,zAd,<- o]
  by_cases h:zJU f.Nodes n = -1
  ·rw [iP h,iP h]
  ·rw [iN h,iN h]
   exact q _ (T.par n d h).1 (m.resolve_left h) K (by omega)
theorem zdE {fu:Nat} {n:Int} (d:InN f.Nodes n) (hfu:f.Nodes.length<=fu):zK8 fu f n=some (zSL f.Nodes n):=root_l T _ n d (T.fin n d) fu hfu
theorem zgB (K:Nat):∀(st out:List Int),(∀x∈st,InN f.Nodes x)->(st.flatMap (zNR f.Nodes)).length<K->out.length+(st.flatMap (zNR f.Nodes)).length<=1000000->zCb f K (out,st)=some (out++st.reverse.flatMap (zNR f.Nodes)):=by
 induction K with
 | zero=>intro _ _ _ h;omega
 | succ K W =>
  intro st out u G N
  have e:∀l:List Int,(∀x∈l,InN f.Nodes x)->l.length<=(l.flatMap (zNR f.Nodes)).length:=by
   intro l
   induction l with
   | nil=>intro _;simp
   | cons x l J =>
    intro h
    have:=J fun y hy=>h y (by simp [hy])
    have h1:1<=(zNR f.Nodes x).length:=by rw [T.all_eq (h x (by simp))];simp
    simp only [iG,eR,cP];omega
  rcases jS st with rfl | ⟨d,x,q⟩
  ·simp only [zCb]
   rw [zAO (by simp)];simp
  ·rw [jT] at q
   subst q
   have B:=u x (by simp)
   obtain ⟨y,hy⟩:=zAK B
   have hk:=zHm hy
   have F:=T.all_eq B
   rw [hk] at F
   simp only [iF,iG,jU,gI,eR,F,cP] at G N
   have S:=e d fun z hz=>u z (by simp [hz])
   have m:∀k∈y.Kids,InN f.Nodes k:=fun k h=>(T.kid x k (by rw [hk];exact h)).2.1
   have V:=e y.Kids m
   simp only [zCb]
   have r:((d++[x]).length:Int) - 1=(d.length:Int):=by simp
   rw [zAP (by simp),r,zXF (by omega) (by omega),zAA,zAQ (by simp:d.length<(d++[x]).length),zAA,show (0:Int)=((0:Nat):Int) from rfl,zRq (by omega) (by simp),zAA]
   rw [show (d++[x])[d.length]'(by simp)=x by simp,show ((d++[x]).drop 0).take (d.length - 0)=d by simp]
   rw [zBF (by simp;omega),zAA,hy,zAA]
   have X:∀(k:Nat) (l:List Int),k<=y.Kids.length->l.length+k<=1000000->zEk out x y (zCb f K) k l=zCb f K (out++[x],l++(y.Kids.take k).reverse):=by
    intro k
    induction k with
    | zero=>intro l _ _;simp [zEk]
    | succ k I =>
     intro l Q hl
     have D:k<y.Kids.length:=by omega
     simp only [zEk]
     rw [lC D,zAA,zBF (by simp;omega),zAA,I _ (by omega) (by simp;omega),iB D,jV,eS]
     rfl
   rw [X _ _ (cB _) (by omega),iH]
   have E:∀z∈d++y.Kids.reverse,InN f.Nodes z:=fun z hz=>by
    rcases cA.1 hz with hz | hz
    ·exact u z (by simp [hz])
    ·exact m z (by simpa using hz)
   have o:(y.Kids.reverse.flatMap (zNR f.Nodes)).length=(y.Kids.flatMap (zNR f.Nodes)).length:=by
    rw [iZ,iZ,jW,jX]
   rw [W (d++y.Kids.reverse) (out++[x]) E (by simp only [iF,eR,o];omega) (by simp only [iF,eR,o,cP,eK];omega)]
   simp [F]
end
section
variable {f:Forest} {fu:Nat} (hs:Small f) (hfu:1000<fu) (hr:zAJ f=true)
include hs hfu hr
theorem zZv {n:Int} (d:InN f.Nodes n):zGy fu f n=some (zSL f.Nodes n):=by
 have:=hs.few
 unfold zGy
 rw [zeY hfu (hs.fit hfu) hr d,zAA,iE,zAF,zdE (zCQ hr) d (by omega),zAA]
theorem zXY {n:Int} (d:InN f.Nodes n):zFR fu f n=some (zNR f.Nodes n):=by
 have:=hs.few
 have e:=(zCQ hr).all_len d
 unfold zFR
 rw [zeY hfu (hs.fit hfu) hr d,zAA,iE,zAF,zgB (zCQ hr) fu [n] [] (by simp [d]) (by simp;omega) (by simp;omega)]
 simp
end
end
section
def zPW (ns:List Node) (n:Int):List Int:=match idx ns n with | some x=>(if x.Under = -1 then [] else [x.Under])++x.Kids | none=>[]
def zPn (ns:List Node):Nat->Int->Prop
 | 0,_=>False
 | k+1,n=>upI ns n = -1\/zPn ns k (upI ns n)
def zQM (ns:List Node):Nat->Int->List Int
 | 0,_=>[]
 | k+1,n=>n::(if upI ns n = -1 then [] else zQM ns k (upI ns n))
def zIj (ns:List Node) (n:Int):List Int:=zQM ns ns.length n
def zYo (ns:List Node):Nat->Int->List Int
 | 0,_=>[]
 | k+1,n=>n::(zPW ns n).flatMap (zYo ns k)
def zGS (ns:List Node) (n:Int):List Int:=zYo ns ns.length n
def zeD (ns:List Node):Nat->Int->Int
 | 0,n=>n
 | k+1,n=>if upI ns n = -1 then n else zeD ns k (upI ns n)
def zex (ns:List Node) (n:Int):Int:=zeD ns ns.length n
structure TreeU (ns:List Node):Prop where
 kid:∀n k,k∈zPW ns n->InN ns n/\InN ns k/\upI ns k=n
 par:∀x,InN ns x->upI ns x ≠ -1->InN ns (upI ns x)/\x∈zPW ns (upI ns x)
 nod:∀n,(zPW ns n).Nodup
 fin:∀n,InN ns n->zPn ns ns.length n
theorem zYb {ns:List Node} (r:zHU ns=true) {n:Int} {x:Node} (hx:idx ns n=some x) (h:x.Under ≠ -1):∃u,idx ns x.Under=some u/\u.Kind=4/\u.Host=n/\u.Parent = -1/\x.Kind=1:=by
 have o:=zCU r hx
 unfold zHO zLj at o
 simp only [lM] at o
 obtain ⟨_,_,_,_,_,d⟩:=o
 have e:(x.Under == -1)=false:=beq_eq_false_iff_ne.2 h
 rw [e,iA,lM,beq_iff_eq] at d
 cases q:idx ns x.Under with
 | none=>rw [q] at d;simp at d
 | some u =>
  rw [q] at d
  simp only [lM,beq_iff_eq] at d
  refine ⟨u,rfl,d.2.1,d.2.2,?_,d.1⟩
  have m:=zCU r q
  unfold zHO zLu at m
  simp only [lM,dD,beq_iff_eq] at m
  rcases m.2.2.1 with h | ⟨h | h,_⟩
  ·exact h
  ·omega
  ·omega
theorem zWp {ns:List Node} (o:zHU ns=true) {n:Int} {x:Node} (hx:idx ns n=some x) (h:x.Host ≠ -1):∃u,idx ns x.Host=some u/\u.Kind=1/\u.Under=n/\u.Doc=x.Doc/\x.Kind=4:=by
 have e:=zCU o hx
 unfold zHO zPJ at e
 simp only [lM] at e
 obtain ⟨_,_,_,_,d,_⟩:=e
 by_cases hk:x.Kind=4
 ·rw [iP hk] at d
  cases m:idx ns x.Host with
  | none=>rw [m] at d;simp at d
  | some u =>
   rw [m] at d
   simp only [lM,beq_iff_eq] at d
   exact ⟨u,rfl,d.1,d.2.1,d.2.2,hk⟩
 ·rw [iN hk,beq_iff_eq] at d
  exact absurd d h
theorem zJ7 {ns:List Node} {n:Int} {x:Node} (hx:idx ns n=some x):upI ns n=if x.Parent = -1 then x.Host else x.Parent:=by unfold upI;rw [hx]
theorem zcB {ns:List Node} {n:Int} (h:zJU ns n ≠ -1):upI ns n=zJU ns n:=by
 unfold upI;unfold zJU at h ⊢
 cases hx:idx ns n with
 | none=>rfl
 | some x=>rw [hx] at h;simp only at h ⊢;rw [iN h]
theorem zOr {ns:List Node} {n:Int} {x:Node} (hx:idx ns n=some x):zPW ns n=(if x.Under = -1 then [] else [x.Under])++x.Kids:=by unfold zPW;rw [hx]
theorem zeE {ns:List Node} (q:zHU ns=true) (B:zQH ns=true):TreeU ns where
 kid n k hk:=by
  cases hx:idx ns n with
  | none=>unfold zPW at hk;rw [hx] at hk;simp at hk
  | some x =>
   rw [zOr hx] at hk
   rcases cA.1 hk with hk | hk
   ·split at hk
    ·simp at hk
    ·rename_i F
     obtain rfl:=e8.1 hk
     obtain ⟨u,d,m,o,D,_⟩:=zYb q hx F
     exact ⟨zAM hx,zAM d,by rw [zJ7 d,iP D,o]⟩
   ·have T:=zUO q B
    obtain ⟨d,m,o⟩:=T.kid n k (by rw [zHm hx];exact hk)
    exact ⟨d,m,by rw [zcB (by rw [o];exact d.ne),o]⟩
 par x hx hp:=by
  obtain ⟨y,hy⟩:=zAK hx
  by_cases h:y.Parent = -1
  ·rw [zJ7 hy,iP h] at hp ⊢
   obtain ⟨u,d,m,o,_,_⟩:=zWp q hy hp
   refine ⟨zAM d,?_⟩
   rw [zOr d,o,iN hx.ne]
   simp
  ·have T:=zUO q B
   have r:zJU ns x ≠ -1:=by rw [zJ3 hy];exact h
   rw [zcB r]
   obtain ⟨d,m⟩:=T.par x hx r
   obtain ⟨z,hz⟩:=zAK d
   refine ⟨d,?_⟩
   rw [zOr hz]
   rw [zHm hz] at m
   exact cA.2 (.inr m)
 nod n:=by
  cases hx:idx ns n with
  | none=>unfold zPW;rw [hx];simp
  | some x =>
   have T:=zUO q B
   have hk:=T.nod n
   rw [zHm hx] at hk
   rw [zOr hx,dM]
   refine ⟨by split<;>simp,hk,fun a E b J e=>?_⟩
   subst e
   split at E
   ·simp at E
   ·rename_i F
    obtain rfl:=e8.1 E
    obtain ⟨u,d,m,o,D,_⟩:=zYb q hx F
    obtain ⟨I,Q,G⟩:=T.kid n x.Under (by rw [zHm hx];exact J)
    rw [zJ3 d,D] at G
    exact I.ne G.symm
 fin n h:=by
  have:=zPF B h
  revert this
  generalize ns.length=k
  clear h
  intro h
  induction k generalizing n with
  | zero=>cases h
  | succ k N =>
   simp only [zBp,dD,beq_iff_eq] at h
   exact h.imp id (N _)
theorem zS6 {ns:List Node}:∀(k:Nat) (n:Int),zPn ns k n->∀j,k<=j->zQM ns j n=zQM ns k n
 | 0,_,h,_,_=>h.elim
 | k+1,n,h,j,hj=>by
  obtain ⟨j,rfl⟩:∃e,j=e+1:=⟨j - 1,by omega⟩
  simp only [zQM]
  by_cases d:upI ns n = -1
  ·rw [iP d,iP d]
  ·rw [iN d,iN d,zS6 k _ (h.resolve_left d) j (by omega)]
theorem zVw {ns:List Node}:∀(k:Nat) (n:Int),zPn ns k n->∀j,k<=j->zeD ns j n=zeD ns k n
 | 0,_,h,_,_=>h.elim
 | k+1,n,h,j,hj=>by
  obtain ⟨j,rfl⟩:∃e,j=e+1:=⟨j - 1,by omega⟩
  simp only [zeD]
  by_cases d:upI ns n = -1
  ·rw [iP d,iP d]
  ·rw [iN d,iN d,zVw k _ (h.resolve_left d) j (by omega)]
theorem zV3 {ns:List Node}:∀(k:Nat) (n:Int),(zQM ns k n).length<=k
 | 0,_=>by simp [zQM]
 | k+1,n=>by
  simp only [zQM,cP]
  split
  ·simp
  ·have:=zV3 (ns:=ns) k (upI ns n);omega
section
variable {ns:List Node} (T:TreeU ns)
include T
theorem TreeU.climb {n:Int} (h:InN ns n) {M:Nat} (d:ns.length=M+1):upI ns n = -1\/zPn ns M (upI ns n):=by
 have:=T.fin n h
 rw [d] at this
 exact this
theorem TreeU.wayU_eq {n:Int} (h:InN ns n):zIj ns n=n::(if upI ns n = -1 then [] else zIj ns (upI ns n)):=by
 obtain ⟨M,e⟩:=h.pos
 have m:=T.climb h e
 unfold zIj
 rw [e]
 simp only [zQM]
 by_cases d:upI ns n = -1
 ·rw [iP d,iP d]
 ·rw [iN d,iN d]
  have:=zS6 M _ (m.resolve_left d) (M+1) (by omega)
  simp only [zQM] at this
  rw [this]
theorem TreeU.root_eq {n:Int} (h:InN ns n):zex ns n=if upI ns n = -1 then n else zex ns (upI ns n):=by
 obtain ⟨M,e⟩:=h.pos
 have m:=T.climb h e
 unfold zex
 rw [e]
 simp only [zeD]
 by_cases d:upI ns n = -1
 ·rw [iP d,iP d]
 ·rw [iN d,iN d]
  have:=zVw M _ (m.resolve_left d) (M+1) (by omega)
  simp only [zeD] at this
  rw [this]
theorem TreeU.up_ind (h:∀n,InN ns n->(upI ns n ≠ -1->C (upI ns n))->C n):∀n,InN ns n->C n:=by
 have e:∀(k:Nat) (n:Int),InN ns n->zPn ns k n->C n:=by
  intro k
  induction k with
  | zero=>intro n _ h;exact h.elim
  | succ k q =>
   intro n d o
   exact h n d fun m=>q _ (T.par n d m).1 (o.resolve_left m)
 exact fun n d=>e _ n d (T.fin n d)
theorem TreeU.wayU_kid {n k:Int} (hk:k∈zPW ns n):zIj ns k=k::zIj ns n:=by
 obtain ⟨d,e,m⟩:=T.kid n k hk
 rw [T.wayU_eq e,m,iN d.ne]
theorem TreeU.wayU_len {n:Int} (h:InN ns n):1<=(zIj ns n).length/\(zIj ns n).length<=ns.length:=by
 refine ⟨?_,zV3 _ _⟩
 rw [T.wayU_eq h];simp
theorem TreeU.down_ind (h:∀n,InN ns n->(∀k,k∈zPW ns n->C k)->C n):∀n,InN ns n->C n:=by
 have m:∀(d:Nat) (n:Int),InN ns n->ns.length<(zIj ns n).length+d->C n:=by
  intro d
  induction d with
  | zero=>intro n e o;have:=T.wayU_len e;omega
  | succ d q =>
   intro n e o
   exact h n e fun k hk=>q k (T.kid n k hk).2.1 (by rw [T.wayU_kid hk,cP];omega)
 exact fun n e=>m ns.length n e (by have:=T.wayU_len e;omega)
theorem TreeU.allUF_stab:∀(d:Nat) (n:Int),InN ns n->ns.length<(zIj ns n).length+d->∀j,zYo ns (d+j) n=zYo ns d n:=by
 intro d
 induction d with
 | zero=>intro n e m;have:=T.wayU_len e;omega
 | succ d o =>
  intro n e m j
  rw [show d+1+j=d+j+1 by omega]
  simp only [zYo,iO]
  rw [iL fun k hk=>o k (T.kid n k hk).2.1 (by rw [T.wayU_kid hk,cP];omega) j]
theorem TreeU.all_eq {n:Int} (h:InN ns n):zGS ns n=n::(zPW ns n).flatMap (zGS ns):=by
 obtain ⟨M,d⟩:=h.pos
 have hs:=T.allUF_stab
 have e:=T.wayU_len h
 unfold zGS
 rw [d]
 conv=>lhs;simp only [zYo]
 rw [iO,iO,iL fun k hk=>(hs M k (T.kid n k hk).2.1 (by rw [T.wayU_kid hk,cP];omega) 1).symm]
theorem TreeU.wayU_self {n:Int} (h:InN ns n):n∈zIj ns n:=by rw [T.wayU_eq h];simp
theorem TreeU.wayU_in:∀x,InN ns x->∀y∈zIj ns x,InN ns y:=T.up_ind fun x hx e y hy=>by
 rw [T.wayU_eq hx] at hy
 rcases lD.1 hy with rfl | hy
 ·exact hx
 ·split at hy
  ·simp at hy
  ·rename_i d;exact e d y hy
theorem TreeU.wayU_suffix:∀x,InN ns x->∀y∈zIj ns x,zIj ns y <:+ zIj ns x:=T.up_ind fun x hx m y hy=>by
 have e:=T.wayU_eq hx
 rw [e] at hy
 rcases lD.1 hy with rfl | hy
 ·exact jD _
 ·split at hy
  ·simp at hy
  ·rename_i d
   rw [e,iN d]
   exact (m d y hy).trans (jE _ _)
theorem TreeU.wayU_trans {x y z:Int} (hz:InN ns z) (d:x∈zIj ns y) (e:y∈zIj ns z):x∈zIj ns z:=(T.wayU_suffix z hz y e).subset d
theorem TreeU.wayU_inj {x y:Int} (hx:InN ns x) (hy:InN ns y) (h:zIj ns x=zIj ns y):x=y:=by
 rw [T.wayU_eq hx,T.wayU_eq hy] at h
 exact (dU.inj h).1
theorem TreeU.wayU_anti {x y:Int} (hy:InN ns y) (d:x∈zIj ns y) (e:y∈zIj ns x):x=y:=by
 have hx:=T.wayU_in y hy x d
 have m:=T.wayU_suffix y hy x d
 have o:=T.wayU_suffix x hx y e
 exact T.wayU_inj hx hy (m.eq_of_length_le o.length_le)
theorem TreeU.wayU_same {x y z:Int} (hz:InN ns z) (d:x∈zIj ns z) (e:y∈zIj ns z) (m:(zIj ns x).length=(zIj ns y).length):x=y :=
 T.wayU_inj (T.wayU_in z hz x d) (T.wayU_in z hz y e) ((jQ (T.wayU_suffix z hz x d) (T.wayU_suffix z hz y e) (by omega)).eq_of_length m)
end
section
variable {ns:List Node} (T:TreeU ns)
include T
theorem TreeU.kid_way {n k x:Int} (hx:InN ns x) (hk:k∈zPW ns n) (h:k∈zIj ns x):n∈zIj ns x :=
 T.wayU_trans hx (by rw [T.wayU_kid hk];exact lG _ (T.wayU_self (T.kid n k hk).1)) h
theorem TreeU.all_in:∀n,InN ns n->∀x∈zGS ns n,InN ns x/\n∈zIj ns x:=T.down_ind fun n d o x hx=>by
 rw [T.all_eq d] at hx
 rcases lD.1 hx with rfl | hx
 ·exact ⟨d,T.wayU_self d⟩
 ·obtain ⟨k,hk,hx⟩:=e9.1 hx
  obtain ⟨e,m⟩:=o k hk x hx
  exact ⟨e,T.kid_way e hk m⟩
theorem TreeU.all_self {n:Int} (d:InN ns n):n∈zGS ns n:=by rw [T.all_eq d];simp
theorem TreeU.all_kid:∀n,InN ns n->∀y∈zGS ns n,∀k∈zPW ns y,k∈zGS ns n:=T.down_ind fun n m o y hy k hk=>by
 rw [T.all_eq m] at hy ⊢
 rcases lD.1 hy with rfl | hy
 ·exact lG _ (e9.2 ⟨k,hk,T.all_self (T.kid _ k hk).2.1⟩)
 ·obtain ⟨e,d,hy⟩:=e9.1 hy
  exact lG _ (e9.2 ⟨e,d,o e d y hy k hk⟩)
theorem TreeU.mem_all {n:Int} (e:InN ns n):∀x,InN ns x->n∈zIj ns x->x∈zGS ns n:=T.up_ind fun x hx o h=>by
 have d:=h
 rw [T.wayU_eq hx] at d
 rcases lD.1 d with rfl | d
 ·exact T.all_self e
 ·split at d
  ·simp at d
  ·rename_i m
   exact T.all_kid n e _ (o m d) x (T.par x hx m).2
theorem TreeU.kids_disj {n k e x:Int} (hk:k∈zPW ns n) (d:e∈zPW ns n) (h:x∈zGS ns k) (o:x∈zGS ns e):k=e:=by
 have m:=T.all_in k (T.kid n k hk).2.1 x h
 have q:=T.all_in e (T.kid n e d).2.1 x o
 exact T.wayU_same m.1 m.2 q.2 (by rw [T.wayU_kid hk,T.wayU_kid d];simp)
theorem TreeU.all_nodup:∀n,InN ns n->(zGS ns n).Nodup:=T.down_ind fun n q u=>by
 rw [T.all_eq q,lS]
 refine ⟨fun h=>?_,?_⟩
 ·obtain ⟨k,hk,h⟩:=e9.1 h
  have r:=(T.all_in k (T.kid n k hk).2.1 n h).2
  have o:=T.wayU_suffix n q k r
  rw [T.wayU_kid hk] at o
  have:=o.length_le
  simp at this
  omega
 ·rw [List.Nodup,jR]
  refine ⟨fun k hk=>u k hk,?_⟩
  refine (T.nod n).imp_of_mem fun hk d m x hx y hy e=>?_
  subst e
  exact m (T.kids_disj hk d hx hy)
theorem TreeU.all_len {n:Int} (d:InN ns n):(zGS ns n).length<=ns.length:=zMR _ _ (T.all_nodup n d) fun x hx=>(T.all_in n d x hx).1
theorem TreeU.root_way:∀n,InN ns n->zex ns n∈zIj ns n/\upI ns (zex ns n) = -1:=T.up_ind fun n e m=>by
 rw [T.root_eq e,T.wayU_eq e]
 by_cases d:upI ns n = -1
 ·rw [iP d,iP d];exact ⟨by simp,d⟩
 ·rw [iN d,iN d];exact ⟨lG _ (m d).1,(m d).2⟩
theorem TreeU.root_in {n:Int} (d:InN ns n):InN ns (zex ns n):=T.wayU_in n d _ (T.root_way n d).1
theorem TreeU.between:∀n,InN ns n->∀c∈zGS ns n,c≠n->∃A B C,zGS ns n=A++upI ns c::(B++c::C)/\∀b∈B,InN ns b/\upI ns c∈zIj ns b/\c∉zIj ns b:=T.down_ind fun n W X c E G=>by
 have e:=T.all_eq W
 rw [e] at E
 obtain ⟨k,hk,E⟩:=e9.1 ((lD.1 E).resolve_left G)
 obtain ⟨I,J,hK⟩:=jF hk
 rw [hK,iF,iG] at e
 by_cases q:c=k
 ·subst q
  have o:=T.kid n c hk
  rw [T.all_eq o.2.1] at e
  rw [o.2.2]
  refine ⟨[],I.flatMap (zGS ns),(zPW ns c).flatMap (zGS ns)++J.flatMap (zGS ns),by rw [e];simp,fun b D=>?_⟩
  obtain ⟨u,r,D⟩:=e9.1 D
  have d:u∈zPW ns n:=by rw [hK];simp [r]
  have m:=T.all_in u (T.kid n u d).2.1 b D
  refine ⟨m.1,T.kid_way m.1 d m.2,fun h=>?_⟩
  have F:=T.mem_all o.2.1 b m.1 h
  have V:=T.kids_disj d hk D F
  subst V
  have N:=T.nod n
  rw [hK,dM] at N
  exact N.2.2 u r u (by simp) rfl
 ·obtain ⟨A,B,C,Q,S⟩:=X k hk c E q
  rw [Q] at e
  exact ⟨n::(I.flatMap (zGS ns)++A),B,C++J.flatMap (zGS ns),by rw [e];simp,S⟩
theorem TreeU.piece:∀n,InN ns n->∀c∈zGS ns n,∃A B,zGS ns n=A++(zGS ns c++B):=T.down_ind fun n u D c m=>by
 by_cases d:c=n
 ·subst d;exact ⟨[],[],by simp⟩
 have e:=T.all_eq u
 rw [e] at m
 obtain ⟨k,hk,m⟩:=e9.1 ((lD.1 m).resolve_left d)
 obtain ⟨o,q,hK⟩:=jF hk
 obtain ⟨A,B,r⟩:=D k hk c m
 rw [hK,iF,iG,r] at e
 exact ⟨n::(o.flatMap (zGS ns)++A),B++q.flatMap (zGS ns),by rw [e];simp⟩
end
theorem zAU {f:Forest} (hr:zAJ f=true):TreeU f.Nodes:=by
 obtain ⟨_,_,d,e⟩:=zAs hr
 exact zeE d e
end
section
theorem zb4 (f:Forest) (n:Int):cnd (decide (n<0)) (some true) (some (decide (n>=(f.Nodes.length:Int))))=some (!(inB f n)):=by
 rw [zAN]
 unfold inB
 by_cases h:n<0
 ·rw [iP h,decide_eq_false (show ¬(0<=n/\n<f.Nodes.length) by omega)];rfl
 ·rw [iN h]
  congr 1
  by_cases d:n<f.Nodes.length
  ·rw [decide_eq_true (show 0<=n/\n<f.Nodes.length by omega),decide_eq_false (by omega)];rfl
  ·rw [decide_eq_false (show ¬(0<=n/\n<f.Nodes.length) by omega),decide_eq_true (by omega)];rfl
theorem zPT {fu:Nat} {f:Forest} {l:List Int} (hfu:1000<fu) (hk:zFT fu f.Nodes) (d:l.length<=100):zB9 fu f l=some (zAJ f&&l.all (inB f)):=by
 unfold zB9
 rw [zFP hfu hk,zAA]
 cases zAJ f with
 | false=>rfl
 | true =>
  rw [zAW,zHF (p:=fun n => !(inB f n)) (fun n _=>by unfold zDw;exact zb4 f n) (by omega) (by omega),zAA,zJQ]
  rfl
section
variable {fu:Nat} {f:Forest} (hfu:1000<fu) (hk:zFT fu f.Nodes)
include hfu hk
theorem sh1 {n:Int} (hr:zAJ f=true) (h:InN f.Nodes n):zB9 fu f [n]=some true:=by
 rw [zPT hfu hk (by simp),hr];simp [zRX h]
theorem sh2 {n m:Int} (hr:zAJ f=true) (h:InN f.Nodes n) (d:InN f.Nodes m):zB9 fu f [n,m]=some true:=by
 rw [zPT hfu hk (by simp),hr];simp [zRX h,zRX d]
theorem sh_no1 (h:zAJ f=false\/inB f a=false):zB9 fu f [a]=some false:=by
 rw [zPT hfu hk (by simp)]
 rcases h with h | h
 ·rw [h];rfl
 ·simp [h]
end
theorem supU {fu:Nat} {f:Forest} {n:Int} {x:Node} (hx:idx f.Nodes n=some x):zGp fu f n=some (upI f.Nodes n):=by
 unfold zGp
 rw [hx,zAA,zAA,zAd,zJ7 hx]
 split<;>rfl
section
variable {f:Forest} (T:TreeU f.Nodes)
include T
theorem top_l (fu k:Nat):∀n,InN f.Nodes n->zPn f.Nodes k n->∀K,k<=K->zIG fu f K n=some (zeD f.Nodes k n):=by
 induction k with
 | zero=>intro n _ h;exact h.elim
 | succ k o =>
  intro n d m K hK
  obtain ⟨K,rfl⟩:∃e,K=e+1:=⟨K - 1,by omega⟩
  obtain ⟨x,hx⟩:=zAK d
  simp only [zIG,zeD]
  rw [supU hx,zAA,zAA,zAd]
  by_cases h:upI f.Nodes n = -1
  ·rw [iP h,iP h]
  ·rw [iN h,iN h]
   exact o _ (T.par n d h).1 (m.resolve_left h) K (by omega)
theorem over_l {fu:Nat} (ha:a ≠ -1) (k:Nat):∀n,InN f.Nodes n->zPn f.Nodes k n->∀K,k<K->zDV fu f a K n=some ((zQM f.Nodes k n).contains a):=by
 induction k with
 | zero=>intro n _ h;exact h.elim
 | succ k r =>
  intro n m q K hK
  obtain ⟨K,rfl⟩:∃e,K=e+1:=⟨K - 1,by omega⟩
  obtain ⟨x,hx⟩:=zAK m
  simp only [zDV,zQM]
  rw [supU hx,zAA,zAd,zAd,iN m.ne]
  by_cases d:n=a
  ·rw [iP d,d];simp
  ·rw [iN d]
   have o:(a==n)=false:=beq_eq_false_iff_ne.2 (Ne.symm d)
   rw [List.contains_cons,o,iA]
   by_cases h:upI f.Nodes n = -1
   ·obtain ⟨K,rfl⟩:∃e,K=e+1:=⟨K - 1,by omega⟩
    rw [iP h,h]
    simp only [zDV]
    rw [zAO (by simp)]
    simp [Ne.symm ha]
   ·rw [iN h,r _ (T.par n m h).1 (q.resolve_left h) K (by omega)]
def zdZ (ns:List Node) (a b:Int):Bool:=(zIj ns b).contains a
omit T in
theorem zRo {ns:List Node} {b:Int}:zdZ ns a b=true↔a∈zIj ns b:=e7
theorem full_l (K:Nat):∀(st out:List Int),(∀x∈st,InN f.Nodes x)->(st.flatMap (zGS f.Nodes)).length<K->out.length+(st.flatMap (zGS f.Nodes)).length<=1000000->zEM f K (out,st)=some (out++st.reverse.flatMap (zGS f.Nodes)):=by
 induction K with
 | zero=>intro _ _ _ h;omega
 | succ K ih =>
  intro st out u G Q
  have e:∀l:List Int,(∀x∈l,InN f.Nodes x)->l.length<=(l.flatMap (zGS f.Nodes)).length:=by
   intro l
   induction l with
   | nil=>intro _;simp
   | cons x l J =>
    intro h
    have:=J fun y hy=>h y (by simp [hy])
    have h1:1<=(zGS f.Nodes x).length:=by rw [T.all_eq (h x (by simp))];simp
    simp only [iG,eR,cP];omega
  rcases jS st with rfl | ⟨d,x,q⟩
  ·simp only [zEM]
   rw [zAO (by simp)];simp
  ·rw [jT] at q
   subst q
   have B:=u x (by simp)
   obtain ⟨y,hy⟩:=zAK B
   have hk:=zOr hy
   have N:=T.all_eq B
   simp only [iF,iG,jU,gI,eR,N,cP] at G Q
   have W:=e d fun z hz=>u z (by simp [hz])
   have m:∀k∈zPW f.Nodes x,InN f.Nodes k:=fun k h=>(T.kid x k h).2.1
   have X:=e _ m
   have hl3:y.Kids.length<=(zPW f.Nodes x).length:=by rw [hk];simp
   simp only [zEM]
   have r:((d++[x]).length:Int) - 1=(d.length:Int):=by simp
   rw [zAP (by simp),r,zXF (by omega) (by omega),zAA,zAQ (by simp:d.length<(d++[x]).length),zAA,show (0:Int)=((0:Nat):Int) from rfl,zRq (by omega) (by simp),zAA]
   rw [show (d++[x])[d.length]'(by simp)=x by simp,show ((d++[x]).drop 0).take (d.length - 0)=d by simp]
   rw [zBF (by simp;omega),zAA,hy,zAA]
   have l2:∀(k:Nat) (l:List Int),k<=y.Kids.length->l.length+k<=1000000->zGo out x y (zEM f K) k l=zEM f K (out++[x],l++((if y.Under = -1 then [] else [y.Under])++y.Kids.take k).reverse):=by
    intro k
    induction k with
    | zero =>
     intro l _ V
     simp only [zGo]
     rw [zAd,zBF (by simp;omega),zAA]
     by_cases F:y.Under = -1
     ·rw [iP F,iP F];simp
     ·rw [iN F,iN F];simp
    | succ k I =>
     intro l S V
     have D:k<y.Kids.length:=by omega
     simp only [zGo]
     rw [lC D,zAA,zBF (by simp;omega),zAA,I _ (by omega) (by simp;omega),iB D,<- eS,jV (bs:=[y.Kids[k]]),eS]
     rfl
   rw [l2 _ _ (cB _) (by omega),iH,<- hk]
   have E:∀z∈d++(zPW f.Nodes x).reverse,InN f.Nodes z:=fun z hz=>by
    rcases cA.1 hz with hz | hz
    ·exact u z (by simp [hz])
    ·exact m z (by simpa using hz)
   have o:((zPW f.Nodes x).reverse.flatMap (zGS f.Nodes)).length=((zPW f.Nodes x).flatMap (zGS f.Nodes)).length:=by
    rw [iZ,iZ,jW,jX]
   rw [ih (d++(zPW f.Nodes x).reverse) (out++[x]) E (by simp only [iF,eR,o];omega) (by simp only [iF,eR,o,cP,eK];omega)]
   simp [N]
end
theorem zSV {fu:Nat} {p:Int->Bool} {l:List Int} (W:∀x∈l,t x=some (p x)) (hf:l.length<fu) (hb:l.length<=1000000):zDX fu t l=some (l.filter fun x => !(p x)):=by
 have J:zAS fu t l=some (match (cW l.length).find? (fun i=>match l[i]? with | some x=>p x | none=>false) with | some j=>(j:Int) | none => -1):=by
  unfold zAS
  rw [zgx (L:=zAH t l) (fun i=>match l[i]? with | some x=>p x | none=>false) (fun j=>some (j:Int)) (some (-1)) l.length (fun j d e k=>?_) (fun j d e k=>?_) (fun k=>?_) hf]
  ·cases (cW l.length).find? (fun i=>match l[i]? with | some x=>p x | none=>false)<;>rfl
  ·rw [lC d] at e
   simp only at e
   simp only [zAH]
   rw [zAP (by simpa using d),zAQ d,zAA,W _ (gC d),zAA,e,zAW]
  ·rw [lC d] at e
   simp only at e
   simp only [zAH]
   rw [zAP (by simpa using d),zAQ d,zAA,W _ (gC d),zAA,e,zAF,zBv (by omega),zAA]
  ·simp only [zAH]
   rw [zAO (by simp)]
 have N:∀(m i j k:Nat) (o:List Int),j+m=l.length->i<j->o.length=l.length->o.take i=(l.take j).filter (fun x => !(p x))->o.drop j=l.drop j->m<k->zA6 t k ((i:Int),(j:Int),o)=some (l.filter fun x => !(p x)):=by
  intro m
  induction m with
  | zero =>
   intro i j k o d S G D F hk
   obtain ⟨k,rfl⟩:∃Q,k=Q+1:=⟨k - 1,by omega⟩
   obtain rfl:j=l.length:=by omega
   simp only [zA6]
   rw [zAO (by simp;omega)]
   unfold zVu
   rw [iP (by omega),zAA]
   have e:=zRq (s:=o.take ((i:Int)).toNat++List.replicate (o.length - ((i:Int)).toNat) 0) (i:=0) (j:=i) (by omega) (by simp;omega)
   rw [show ((0:Nat):Int)=0 from rfl] at e
   rw [e,zAA]
   simp only [eO,Nat.sub_zero,List.drop_zero]
   rw [jG (by simp;omega),jY,Nat.min_self,D,iH]
  | succ m X =>
   intro i j k o d S G D F hk
   obtain ⟨k,rfl⟩:∃Q,k=Q+1:=⟨k - 1,by omega⟩
   have r:j<l.length:=by omega
   have u:j<o.length:=by omega
   have E:i<o.length:=by omega
   have I:o[j]=l[j]:=by
    rw [eT r,eT u] at F
    exact (dU.inj F).1
   have q:o.drop (j+1)=l.drop (j+1):=by
    rw [eT r,eT u] at F
    exact (dU.inj F).2
   simp only [zA6]
   rw [zAP (by simp;omega),zAQ u,zAA,I,W _ (gC r),zAA,zAQ E,zAA,zBv (by omega),zAA,zBv (by omega),zAA,zAA]
   cases e:p l[j] with
   | true =>
    rw [iE,zAF]
    exact X i (j+1) k o (by omega) (by omega) G (by rw [D,iB r,jH];simp [e]) q (by omega)
   | false =>
    rw [jZ,zAW]
    refine X (i+1) (j+1) k _ (by omega) (by omega) (by simpa using G) ?_ ?_ (by omega)
    ·rw [eO,iB r,jH,<- D,iB (by simpa using E),List.take_set_of_le (cB i),List.getElem_set_self]
     simp [e]
    ·rw [<- q,eO,List.drop_set_of_lt (by omega)]
 unfold zDX
 rw [J,zAA]
 cases B:(cW l.length).find? (fun i=>match l[i]? with | some x=>p x | none=>false) with
 | none =>
  simp only
  rw [zAP (by simp)]
  congr 1
  rw [List.find?_eq_none] at B
  refine (jI.2 fun x hx=>?_).symm
  obtain ⟨i,hi,rfl⟩:=iQ hx
  have:=B i (by simpa using hi)
  rw [lC hi] at this
  simpa using this
 | some i =>
  simp only
  rw [List.find?_range_eq_some] at B
  obtain ⟨D,F,h3⟩:=B
  have hi:i<l.length:=by simpa using F
  rw [lC hi] at D
  simp only at D
  rw [zAO (by simp),zBv (by omega),zAA]
  refine N (l.length - (i+1)) i (i+1) fu l (by omega) (by omega) rfl ?_ rfl (by omega)
  rw [iB hi,jH]
  have e1:(l.take i).filter (fun x => !(p x))=l.take i:=jI.2 fun x hx=>by
   obtain ⟨j,d,rfl⟩:=iQ hx
   have V:j<i:=by simp at d;omega
   have:=h3 j V
   rw [lC (by omega:j<l.length)] at this
   simpa using this
  rw [e1]
  simp [D]
section
variable {f:Forest} {fu:Nat} (hs:Small f) (hfu:1000<fu) (hr:zAJ f=true)
include hs hfu hr
theorem Top_ok {n:Int} (d:InN f.Nodes n):zLC fu f n=some (zex f.Nodes n):=by
 have:=hs.few
 unfold zLC
 rw [sh1 hfu (hs.fit hfu) hr d,zAA,iE,zAF,top_l (zAU hr) fu _ n d ((zAU hr).fin n d) fu (by omega)]
 rfl
def zWW (ns:List Node) (n:Int):Bool:=isB ns (zex ns n) 0
theorem zWA {n:Int} (d:InN f.Nodes n):zDk fu f n=some (zWW f.Nodes n):=by
 have e:=(zAU hr).root_in d
 obtain ⟨x,hx⟩:=zAK e
 unfold zDk zWW isB
 rw [Top_ok hs hfu hr d,zAA,zAd,iN e.ne,hx,zAA]
theorem ze6 {n:Int} (ha:InN f.Nodes a) (d:InN f.Nodes n):zEN fu f a n=some (zdZ f.Nodes a n):=by
 have:=hs.few
 unfold zEN
 rw [sh2 hfu (hs.fit hfu) hr ha d,zAA,iE,zAF,over_l (zAU hr) ha.ne _ n d ((zAU hr).fin n d) fu (by omega)]
 rfl
theorem zZp {n:Int} (d:InN f.Nodes n):zDu fu f n=some (zGS f.Nodes n):=by
 have:=hs.few
 have e:=(zAU hr).all_len d
 unfold zDu
 rw [sh1 hfu (hs.fit hfu) hr d,zAA,iE,zAF,full_l (zAU hr) fu [n] [] (by simp [d]) (by simp;omega) (by simp;omega)]
 simp
def zPq (ns:List Node) (n:Int):List Int:=(zGS ns n).filter fun k=>isB ns k 1
theorem zcj {n:Int} (d:InN f.Nodes n):zFx fu f n=some (zPq f.Nodes n):=by
 have:=hs.few
 have T:=zAU hr
 have e:=T.all_len d
 unfold zFx
 rw [zZp hs hfu hr d,zAA,zSV (p:=fun k => !(isB f.Nodes k 1)) (fun k hk=>?_) (by omega) (by omega),zAA]
 ·unfold zPq
  simp only [Bool.not_not]
 ·obtain ⟨x,hx⟩:=zAK (T.all_in n d k hk).1
  unfold zDv isB
  rw [hx,zAA];rfl
end
end
section
theorem zOd {l:List α} {n:Int} {v : α} (h:0<=n/\n<l.length):idx (l.set n.toNat v) n=some v:=by
 unfold idx
 rw [iP h.1,List.getElem?_set_self (by omega)]
theorem zKn {l:List α} {n:Int} {v : α} (h:0<=n) (hi:i≠n):idx (l.set n.toNat v) i=idx l i:=by
 unfold idx
 by_cases d:0<=i
 ·rw [iP d,iP d,List.getElem?_set_ne (by omega)]
 ·rw [iN d,iN d]
def zXw (z:Node):Node:=⟨z.Kind,z.Name,z.Is,z.Data,z.Attrs,-1,z.Kids,z.Host,z.Under,z.Doc⟩
def zZF (y:Node) (c:Int):Node:=⟨y.Kind,y.Name,y.Is,y.Data,y.Attrs,y.Parent,y.Kids.filter (fun k=>k != c),y.Host,y.Under,y.Doc⟩
def zUV (f:Forest) (c p:Int) (z y:Node):Forest:=⟨(f.Nodes.set p.toNat (zZF y c)).set c.toNat (zXw z),f.Most⟩
structure Hung (f:Forest) (c p:Int) (z y:Node):Prop where
 hz:idx f.Nodes c=some z
 hy:idx f.Nodes p=some y
 par:z.Parent=p
 mem:c∈y.Kids
 ne:c≠p
theorem zfx {f:Forest} (hr:zAJ f=true) {c p:Int} {y:Node} (hy:idx f.Nodes p=some y) (d:c∈y.Kids):∃z,Hung f c p z y:=by
 have T:=zCQ hr
 obtain ⟨r,q,m⟩:=T.kid p c (by rw [zHm hy];exact d)
 obtain ⟨z,hz⟩:=zAK q
 rw [zJ3 hz] at m
 refine ⟨z,hz,hy,m,d,fun e=>?_⟩
 have o:=T.way_kid (n:=p) (k:=c) (by rw [zHm hy];exact d)
 rw [e] at o
 have:=congrArg iM o
 simp at this
section
variable {f:Forest} {c p:Int} {z y:Node} (H:Hung f c p z y)
include H
omit H in
theorem zbR (f:Forest) (c p:Int) (z y:Node):(zUV f c p z y).Nodes.length=f.Nodes.length:=by unfold zUV;simp
theorem zVV:idx (zUV f c p z y).Nodes c=some (zXw z):=by
 have h:=zAM H.hz
 unfold zUV
 simp only
 rw [zOd (by simp;omega)]
theorem zSn:idx (zUV f c p z y).Nodes p=some (zZF y c):=by
 have h:=zAM H.hz
 have d:=zAM H.hy
 unfold zUV
 simp only
 rw [zKn h.1 (Ne.symm H.ne),zOd (by omega)]
theorem zRn (d:i≠c) (e:i≠p):idx (zUV f c p z y).Nodes i=idx f.Nodes i:=by
 have h:=zAM H.hz
 have m:=zAM H.hy
 unfold zUV
 simp only
 rw [zKn h.1 d,zKn m.1 e]
theorem zRm (q:idx f.Nodes i=some w):∃d,idx (zUV f c p z y).Nodes i=some d/\d.Kind=w.Kind/\d.Doc=w.Doc/\d.Host=w.Host/\d.Under=w.Under/\d.Parent=(if i=c then -1 else w.Parent)/\d.Kids=(if i=p then w.Kids.filter (fun k=>k != c) else w.Kids)/\zIn d=zIn w:=by
 by_cases m:i=c
 ·subst m
  have e:=H.hz
  rw [q] at e
  obtain rfl:=lJ.inj e
  exact ⟨_,zVV H,rfl,rfl,rfl,rfl,by rw [iP rfl];rfl,by rw [iN H.ne];rfl,rfl⟩
 ·by_cases o:i=p
  ·subst o
   have e:=H.hy
   rw [q] at e
   obtain rfl:=lJ.inj e
   exact ⟨_,zSn H,rfl,rfl,rfl,rfl,by rw [iN m];rfl,by rw [iP rfl];rfl,rfl⟩
  ·exact ⟨w,(zRn H m o).trans q,rfl,rfl,rfl,rfl,by rw [iN m],by rw [iN o],rfl⟩
theorem zW3 {k:Int}:isB (zUV f c p z y).Nodes i k=isB f.Nodes i k:=by
 cases d:idx f.Nodes i with
 | none =>
  have q:i≠c:=fun e=>by rw [e,H.hz] at d;cases d
  have r:i≠p:=fun e=>by rw [e,H.hy] at d;cases d
  unfold isB;rw [zRn H q r]
 | some w =>
  obtain ⟨u,m,o,_⟩:=zRm H d
  unfold isB;rw [m,d];simp only [o]
variable (hr:zAJ f=true)
include hr
theorem zdY:z.Kind=1\/z.Kind=2:=by
 have e:=(zAs hr).2.2.1
 have d:=zCU e H.hz
 unfold zHO zLu at d
 simp only [lM,dD,beq_iff_eq] at d
 rcases d.2.2.1 with h | h
 ·have:=zAM H.hy
  have:=H.par
  omega
 ·exact h.1
theorem zdX:z.Host = -1:=by
 have d:=(zAs hr).2.2.1
 by_cases h:z.Host = -1
 ·exact h
 ·obtain ⟨_,_,_,_,_,e⟩:=zWp d H.hz h
  have:=zdY H hr
  omega
theorem zem (hi:InN f.Nodes i):upI (zUV f c p z y).Nodes i=if i=c then -1 else upI f.Nodes i:=by
 obtain ⟨w,d⟩:=zAK hi
 obtain ⟨r,m,_,_,o,_,q,_⟩:=zRm H d
 rw [zJ7 m,zJ7 d,o,q]
 by_cases h:i=c
 ·rw [iP h,iP h,iP rfl]
  subst h
  have e:=H.hz
  rw [d] at e
  obtain rfl:=lJ.inj e
  exact zdX H hr
 ·rw [iN h,iN h]
theorem zVW:zAJ (zUV f c p z y)=true:=by
 have T:=zCQ hr
 have o:=zbR f c p z y
 unfold zAJ at hr ⊢
 simp only [lM,decide_eq_true_eq] at hr ⊢
 obtain ⟨h1,h2,h3,h4,h5,X,h7⟩:=hr
 rw [o,zW3 H]
 refine ⟨h1,h2,h3,h4,h5,?_,?_⟩
 ·rw [zSk]
  intro i w' V
  have r:InN f.Nodes i:=by
   have:=zAM V
   rw [o] at this
   exact this
  obtain ⟨w,S⟩:=zAK r
  obtain ⟨v,g1,D,W,g4,g5,g6,g7,g8⟩:=zRm H S
  rw [V] at g1
  obtain rfl:=lJ.inj g1
  have G:=zCU X S
  unfold zHO at G
  simp only [lM] at G
  obtain ⟨n1,n2,n3,n4,B,n6⟩:=G
  unfold zHO
  simp only [lM]
  refine ⟨by rw [g8];exact n1,?_,?_,?_,?_,?_⟩
  ·unfold zNX at n2 ⊢
   rw [zW3 H,D,W];exact n2
  ·unfold zLu at n3 ⊢
   rw [D,g6]
   by_cases F:i=c
   ·rw [iP F];rfl
   ·rw [iN F]
    simp only [dD,lM] at n3 ⊢
    refine n3.imp id fun ⟨k1,m⟩=>⟨k1,?_⟩
    cases hp:idx f.Nodes w.Parent with
    | none=>rw [hp] at m;cases m
    | some q =>
     rw [hp] at m
     obtain ⟨q',I,J,_,_,_,_,q7,_⟩:=zRm H hp
     rw [I]
     simp only [J,q7]
     simp only [lM] at m ⊢
     refine ⟨m.1,?_⟩
     split
     ·rw [e7,iI]
      exact ⟨e7.1 m.2,by simpa using F⟩
     ·exact m.2
  ·unfold zFb at n4 ⊢
   simp only [lM,decide_eq_true_eq,lR] at n4 ⊢
   obtain ⟨b1,b2,b3,b4⟩:=n4
   have d:w'.Kids.Sublist w.Kids:=by
    rw [g7];split
    ·exact iR
    ·exact List.Sublist.refl _
   refine ⟨b1.sublist d,fun k hk=>?_,?_,?_⟩
   ·have hkc:k≠c:=fun e=>by
     subst e
     have hkw:=d.subset hk
     have:=(T.kid i k (by rw [zHm S];exact hkw)).2.2
     rw [zJ3 H.hz,H.par] at this
     subst this
     rw [g7,iP rfl,iI] at hk
     simp at hk
    have N:=b2 k (d.subset hk)
    unfold zRZ at N ⊢
    cases hu:idx f.Nodes k with
    | none=>rw [hu] at N;cases N
    | some u =>
     rw [hu] at N
     obtain ⟨u',I,J,q3,_,_,q6,_⟩:=zRm H hu
     rw [I]
     simp only [J,q3,q6,iN hkc,D,W]
     exact N
   ·rw [D]
    simp only [dD,decide_eq_true_eq] at b3 ⊢
    refine b3.imp id fun h=>?_
    have:=d.length_le
    omega
   ·rw [D]
    simp only [dD,decide_eq_true_eq] at b4 ⊢
    refine b4.imp id fun h=>?_
    have e:zBo (zUV f c p z y).Nodes w'.Kids=zBo f.Nodes w'.Kids:=by
     unfold zBo
     exact iJ fun k _=>by rw [zW3 H]
    have:=d.countP_le (p:=fun k=>isB f.Nodes k 1)
    rw [e]
    unfold zBo at h ⊢
    omega
  ·unfold zPJ at B ⊢
   rw [D,W,g4]
   by_cases hk:w.Kind=4
   ·rw [iP hk] at B ⊢
    cases E:idx f.Nodes w.Host with
    | none=>rw [E] at B;cases B
    | some h =>
     rw [E] at B
     obtain ⟨u',I,J,q3,_,q5,_⟩:=zRm H E
     rw [I]
     simp only [J,q3,q5]
     exact B
   ·rw [iN hk] at B ⊢;exact B
  ·unfold zLj at n6 ⊢
   rw [D,g5]
   simp only [dD,lM] at n6 ⊢
   refine n6.imp id fun ⟨k1,m⟩=>⟨k1,?_⟩
   cases E:idx f.Nodes w.Under with
   | none=>rw [E] at m;cases m
   | some h =>
    rw [E] at m
    obtain ⟨u',I,J,_,q4,_⟩:=zRm H E
    rw [I]
    simp only [J,q4]
    exact m
 ·have Q:=zMQ X
  have hr':zAJ f=true:=by
   unfold zAJ
   simp only [lM,decide_eq_true_eq]
   exact ⟨h1,h2,h3,h4,h5,X,h7⟩
  have climb:∀(k:Nat) (i:Int),InN f.Nodes i->zBp f.Nodes k i=true->zBp (zUV f c p z y).Nodes k i=true:=by
   intro k
   induction k with
   | zero=>intro i _ h;cases h
   | succ k ih =>
    intro i hi h
    rw [zBp,dD,beq_iff_eq] at h ⊢
    rw [zem H hr' hi]
    by_cases hc:i=c
    ·rw [iP hc];exact .inl rfl
    ·rw [iN hc]
     rcases h with h | h
     ·exact .inl h
     ·obtain ⟨w,S⟩:=zAK hi
      rcases Q i w S with h' | ⟨q,hq⟩
      ·exact .inl h'
      ·exact .inr (ih _ (zAM hq) h)
  unfold zQH
  rw [lR]
  intro i hi
  rw [o] at hi ⊢
  have hi:i<f.Nodes.length:=by simpa using hi
  have r:InN f.Nodes (i:Int):=⟨by omega,by omega⟩
  exact climb _ _ r (zPF h7 r)
theorem zgC:∀i,InN f.Nodes i->c∉zIj f.Nodes i->zIj (zUV f c p z y).Nodes i=zIj f.Nodes i:=(zAU hr).up_ind fun i hi r m=>by
 have U:=zAU hr
 have V:=zAU (zVW H hr)
 have d:=zbR f c p z y
 have o:InN (zUV f c p z y).Nodes i:=by unfold InN;rw [d];exact hi
 have e:=U.wayU_eq hi
 rw [e] at m
 have q:i≠c:=fun h=>m (by rw [h];simp)
 rw [e,V.wayU_eq o,zem H hr hi,iN q]
 by_cases h:upI f.Nodes i = -1
 ·rw [iP h,iP h]
 ·rw [iN h] at m
  rw [iN h,iN h,r h fun hm=>m (lG _ hm)]
end
end
section
theorem za5 {ns:List Node} {k:Int} (h:isB ns j k=true):j ≠ -1:=fun e=>by
 unfold isB at h
 rw [zCu (by omega)] at h
 cases h
theorem zbU {f:Forest} {fu:Nat} (hs:Small f) (hfu:1000<fu) (hr:zAJ f=true) {a b:Int} (ha:InN f.Nodes a) (d:InN f.Nodes b):zSK f a b=zdZ f.Nodes a b :=
 lJ.inj ((zbT hfu (hs.fit hfu) hr (zRX ha) (zRX d)).symm.trans (ze6 hs hfu hr ha d))
section
variable {f:Forest} {c p:Int} {z y:Node} (H:Hung f c p z y) (hr:zAJ f=true)
include H
include hr
end
end
section
structure At (a b:List Node) (h:Int->Node->Node):Prop where
 len:b.length=a.length
 at_:∀j w,idx a j=some w->idx b j=some (h j w)
theorem At.set {a b:List Node} (H:At a b h) {c:Int} (e:0<=c/\c<a.length) (v:Node):At a (b.set c.toNat v) (fun j w=>if j=c then v else h j w) where
 len:=by rw [eE,H.len]
 at_ j w hw:=by
  by_cases d:j=c
  ·subst d
   rw [iP rfl,zOd (by rw [H.len];exact e)]
  ·rw [iN d,zKn e.1 d,H.at_ j w hw]
theorem At.congr {a b:List Node} {d:Int->Node->Node} (H:At a b h) (e:∀j w,idx a j=some w->h j w=d j w):At a b d where
 len:=H.len
 at_ j w hw:=by rw [H.at_ j w hw,e j w hw]
def zUW (M:List Int) (j:Int) (w:Node):Node:=⟨w.Kind,w.Name,w.Is,w.Data,w.Attrs,if M.contains j=true then -1 else w.Parent,w.Kids.filter (fun k => !(M.contains k)),w.Host,w.Under,w.Doc⟩
theorem zOV (M:List Int) (c k:Int):(M++[c]).contains k=(M.contains k||k==c):=by
 rw [eW,e7,dD,e7,beq_iff_eq,cA,e8]
section
variable {f:Forest} (hr:zAJ f=true)
include hr
theorem zRa {c:Int} {z:Node} (d:idx f.Nodes j=some w) (hz:idx f.Nodes c=some z) (h:c∈w.Kids):z.Parent=j:=by
 have:=((zCQ hr).kid j c (by rw [zHm d];exact h)).2.2
 rwa [zJ3 hz] at this
theorem zek {c:Int} (d:idx f.Nodes j=some w) (h:c∈w.Kids):c≠j:=fun e=>by
 have hk:=(zCQ hr).way_kid (n:=j) (k:=c) (by rw [zHm d];exact h)
 rw [e] at hk
 have:=congrArg iM hk
 simp at this
end
def zed (A:List Int) (d:Int) (h:Int->Node->Node) (j:Int) (w:Node):Node:=⟨(h j w).Kind,(h j w).Name,(h j w).Is,(h j w).Data,(h j w).Attrs,(h j w).Parent,(h j w).Kids,(h j w).Host,(h j w).Under,if A.contains j=true then d else (h j w).Doc⟩
def finN (f:Forest) (L:List Int) (p d:Int) (K M:List Int) (j:Int) (w:Node):Node:=⟨w.Kind,w.Name,w.Is,w.Data,w.Attrs,if M.contains j=true then p else if L.contains j=true then -1 else w.Parent,if j=p then K else w.Kids.filter (fun k => !(L.contains k)),w.Host,w.Under,if (M.any fun c=>(zGS f.Nodes c).contains j)=true then d else w.Doc⟩
def zS1 (w:Node) (p:Int):Node:=⟨w.Kind,w.Name,w.Is,w.Data,w.Attrs,p,w.Kids,w.Host,w.Under,w.Doc⟩
end
section
def zAV (n:Int) (x:Node):List Int:=if x.Kind=3 then x.Kids else [n]
theorem zZZ {f:Forest} {n p g:Int} {x y:Node} (h:zXM f n p a g x y true=0):zHH y.Kind=true/\zSK f n p=false/\x.Kind≠0/\x.Kind≠4/\(y.Kind=0->zHR f.Nodes p g (zAV n x)=false):=by
 unfold zXM at h
 rw [show (if x.Kind=3 then x.Kids else [n])=zAV n x from rfl] at h
 generalize zAV n x=L at h ⊢
 split at h
 ·cases h
 ·rename_i o
  split at h
  ·cases h
  ·rename_i q
   rw [iN (show ¬true=false by simp)] at h
   split at h
   ·cases h
   ·rename_i d
    refine ⟨by simpa using o,by simpa using q,fun e=>d (.inl e),fun e=>d (.inr e),fun m=>?_⟩
    rw [iP m] at h
    split at h
    ·cases h
    ·rename_i r;simpa using r
structure May (f:Forest) (n p:Int) (x y:Node):Prop where
 hx:idx f.Nodes n=some x
 hy:idx f.Nodes p=some y
 holder:zHH y.Kind=true
 over:zdZ f.Nodes n p=false
 k0:x.Kind≠0
 k4:x.Kind≠4
 crowd:y.Kind=0->zHR f.Nodes p (-1) (zAV n x)=false
section
variable {f:Forest} {n p:Int} {x y:Node} (hr:zAJ f=true) (M:May f n p x y)
include hr M
theorem May.np:n≠p:=fun e=>by
 have U:=zAU hr
 have d:InN f.Nodes n:=zAM M.hx
 have:=M.over
 rw [<- e,zRo.2 (U.wayU_self d)] at this
 cases this
theorem May.part {c:Int} (e:c∈zAV n x):∃z,idx f.Nodes c=some z/\(z.Kind=1\/z.Kind=2)/\n∈zIj f.Nodes c:=by
 have U:=zAU hr
 have m:=(zAs hr).2.2.1
 have r:InN f.Nodes n:=zAM M.hx
 unfold zAV at e
 by_cases q:x.Kind=3
 ·rw [iP q] at e
  have d:=zCU m M.hx
  unfold zHO zFb at d
  simp only [lM,lR] at d
  have hk:=d.2.2.2.1.2.1 c e
  unfold zRZ at hk
  have o:c∈zPW f.Nodes n:=by rw [zOr M.hx];exact cA.2 (.inr e)
  cases hz:idx f.Nodes c with
  | none=>rw [hz] at hk;cases hk
  | some z =>
   rw [hz] at hk
   simp only [lM,dD,beq_iff_eq] at hk
   refine ⟨z,rfl,hk.2.2.imp id And.left,?_⟩
   rw [U.wayU_kid o]
   exact lG _ (U.wayU_self r)
 ·rw [iN q,e8] at e
  subst e
  have d:=zCU m M.hx
  unfold zHO at d
  simp only [lM] at d
  have:=zTp d.1
  have:=M.k0
  have:=M.k4
  exact ⟨x,M.hx,by omega,U.wayU_self r⟩
theorem May.in_ {c:Int} (d:c∈zAV n x):InN f.Nodes c:=by
 obtain ⟨z,hz,_⟩:=May.part hr M d
 exact zAM hz
theorem May.nodup:(zAV n x).Nodup:=by
 unfold zAV
 split
 ·have:=(zCQ hr).nod n
  rwa [zHm M.hx] at this
 ·simp
theorem May.free {c:Int} (d:c∈zAV n x):c∉zIj f.Nodes p:=fun h=>by
 have U:=zAU hr
 have e:InN f.Nodes p:=zAM M.hy
 obtain ⟨z,hz,_,m⟩:=May.part hr M d
 have:=zRo.2 (U.wayU_trans e m h)
 rw [M.over] at this
 cases this
omit hr in
theorem May.len (hs:Small f):(zAV n x).length<=400:=by
 unfold zAV
 split
 ·exact hs.kids x (zIh M.hx)
 ·simp
theorem zZ8 {fu:Nat} (hs:Small f) (hfu:1000<fu) (B:child = -1\/child∈y.Kids) (o:zFF fu f n p child=some 0):∃b,zHz fu f n p child=some b/\(b = -1\/(b∈y.Kids/\b∉zAV n x)):=by
 have Q:=hs.kids y (zIh M.hy)
 have T:=zCQ hr
 unfold zHz
 rw [o,zAA,zAO (by rfl),zAd]
 by_cases d:child=n
 ·rw [iP d]
  have J:InN f.Nodes n:=zAM M.hx
  have e:n∈y.Kids:=by
   rcases B with h | h
   ·rw [d] at h;exact absurd h J.ne
   ·rwa [d] at h
  obtain ⟨I,N⟩:=zTg e
  have E:=zRa hr M.hy M.hx e
  have r:x.Kind≠3:=by
   have m:=zCU (zAs hr).2.2.1 M.hx
   unfold zHO zLu at m
   simp only [lM,dD,beq_iff_eq] at m
   have:=(zAM M.hy).1
   rcases m.2.2.1 with h | h
   ·omega
   ·have:=h.1;omega
  rw [M.hy,zAA,zby (by omega) (by omega),zAA,I,zBv (by omega),zAA,zAN]
  by_cases D:((y.Kids.idxOf n+1:Nat):Int)>=(y.Kids.length:Int)
  ·rw [iP D];exact ⟨-1,rfl,.inl rfl⟩
  ·have hi:y.Kids.idxOf n+1<y.Kids.length:=by omega
   rw [iN D,zAQ hi,zAA]
   refine ⟨_,rfl,.inr ⟨gC hi,fun h=>?_⟩⟩
   unfold zAV at h
   rw [iN r,e8] at h
   have u:y.Kids.Nodup:=by have:=T.nod p;rwa [zHm M.hy] at this
   have:=u.idxOf_getElem _ hi
   rw [h] at this
   omega
 ·rw [iN d]
  refine ⟨child,rfl,B.imp id fun h=>⟨h,fun q=>?_⟩⟩
  unfold zAV at q
  split at q
  ·obtain ⟨z,hz⟩:=zAK (T.kid p child (by rw [zHm M.hy];exact h)).2.1
   have F:=zRa hr M.hy hz h
   have G:=zRa hr M.hx hz q
   exact May.np hr M (G.symm.trans F)
  ·exact d (e8.1 q)
end
end
section
def upF (ns:List Node):Nat->Int->List Int
 | 0,_=>[]
 | k+1,n=>n::(if upI ns n = -1 then [] else upF ns k (upI ns n))
theorem zUQ {ns:List Node}:∀(k:Nat) (n:Int),zBp ns k n=true->∀j,k<=j->upF ns j n=upF ns k n
 | 0,_,h,_,_=>by cases h
 | k+1,n,h,j,hj=>by
  obtain ⟨j,rfl⟩:∃e,j=e+1:=⟨j - 1,by omega⟩
  rw [zBp,dD,beq_iff_eq] at h
  simp only [upF]
  by_cases d:upI ns n = -1
  ·rw [iP d,iP d]
  ·rw [iN d,iN d,zUQ k _ (h.resolve_left d) j (by omega)]
theorem zUw {ns:List Node}:∀(k:Nat) (n:Int),zBp ns k n=true->zBp ns (upF ns k n).length n=true
 | 0,_,h=>by cases h
 | k+1,n,h=>by
  rw [zBp,dD,beq_iff_eq] at h
  simp only [upF,cP]
  rw [zBp,dD,beq_iff_eq]
  by_cases d:upI ns n = -1
  ·exact .inl d
  ·rw [iN d]
   exact .inr (zUw k _ (h.resolve_left d))
theorem zUv {ns:List Node} {n:Int} {k j:Nat} (h:zBp ns k n=true) (d:k<=j):zBp ns j n=true:=by
 induction d with
 | refl=>exact h
 | step _ e=>exact zNo _ _ e
theorem zey {ns:List Node} (K:Nat):∀(k:Nat) (n:Int),k<=K->zBp ns k n=true->∀y∈upF ns k n,zBp ns k y=true/\upF ns k y <:+ upF ns k n
 | 0,_,_,h,_,_=>by cases h
 | k+1,n,hK,h,y,hy=>by
  have m:=h
  rw [zBp,dD,beq_iff_eq] at m
  simp only [upF] at hy
  rcases lD.1 hy with rfl | hy
  ·exact ⟨h,jD _⟩
  ·by_cases d:upI ns n = -1
   ·rw [iP d] at hy;simp at hy
   ·rw [iN d] at hy
    obtain ⟨e,o⟩:=zey K k _ (by omega) (m.resolve_left d) y hy
    refine ⟨zNo _ _ e,?_⟩
    rw [zUQ k y e (k+1) (by omega)]
    have:upF ns (k+1) n=n::upF ns k (upI ns n):=by simp only [upF];rw [iN d]
    rw [this]
    exact o.trans (jE _ _)
theorem zYd {ns:List Node}:∀(k:Nat) (n:Int),zBp ns k n=true->(upF ns k n).Nodup
 | 0,_,h=>by cases h
 | k+1,n,h=>by
  rw [zBp,dD,beq_iff_eq] at h
  by_cases d:upI ns n = -1
  ·simp only [upF];rw [iP d];simp
  ·have o:=h.resolve_left d
   have e:upF ns (k+1) n=n::upF ns k (upI ns n):=by simp only [upF];rw [iN d]
   rw [e,lS]
   refine ⟨fun hm=>?_,zYd k _ o⟩
   obtain ⟨q,m⟩:=zey k k _ (cB _) o n hm
   rw [<- zUQ k n q (k+1) (by omega),e] at m
   have:=m.length_le
   simp at this
   omega
theorem up_in {ns:List Node} (d:Ups ns):∀(k:Nat) (n:Int),InN ns n->∀y∈upF ns k n,InN ns y
 | 0,_,_,_,hy=>by simp [upF] at hy
 | k+1,n,hn,y,hy=>by
  simp only [upF] at hy
  rcases lD.1 hy with rfl | hy
  ·exact hn
  ·split at hy
   ·simp at hy
   ·rename_i e
    obtain ⟨x,hx⟩:=zAK hn
    rcases d n x hx with h | ⟨z,hz⟩
    ·exact absurd h e
    ·exact up_in d k _ (zAM hz) y hy
theorem zWV {ns:List Node} (e:Ups ns) {n:Int} (d:InN ns n) {K:Nat} (h:zBp ns K n=true):zBp ns ns.length n=true :=
 zUv (zUw K n h) (zMR _ _ (zYd K n h) (up_in e K n d))
end
section
def dB (f:Forest) (L:List Int) (j:Int):Bool:=L.any fun c=>(zGS f.Nodes c).contains j
section
variable {f g:Forest} {n p:Int} {x y:Node} {K:List Int} (hr:zAJ f=true) (M:May f n p x y) (H:At f.Nodes g.Nodes (finN f (zAV n x) p y.Doc K (zAV n x))) (hK:K.Perm (y.Kids.filter (fun k => !((zAV n x).contains k))++zAV n x)) (hm:g.Most=f.Most)
include hr M
theorem zUy (m:InN f.Nodes j):dB f (zAV n x) j=true↔∃c∈zAV n x,c∈zIj f.Nodes j:=by
 have U:=zAU hr
 unfold dB
 rw [dN]
 refine exists_congr fun c=>and_congr_right fun e=>?_
 have d:=May.in_ hr M e
 rw [e7]
 exact ⟨fun h=>(U.all_in c d j h).2,fun h=>U.mem_all d j m h⟩
theorem zaM (d:j∈zAV n x):dB f (zAV n x) j=true:=(zUy hr M (May.in_ hr M d)).2 ⟨j,d,(zAU hr).wayU_self (May.in_ hr M d)⟩
theorem zfd {q:Int} (d:InN f.Nodes j) (u:j∉zAV n x) (o:upI f.Nodes j=q) (r:q ≠ -1):dB f (zAV n x) j=dB f (zAV n x) q:=by
 have U:=zAU hr
 have m:InN f.Nodes q:=by have:=(U.par j d (by rw [o];exact r)).1;rwa [o] at this
 rw [eW,zUy hr M d,zUy hr M m,U.wayU_eq d,o,iN r]
 refine exists_congr fun c=>and_congr_right fun B=>?_
 exact ⟨fun h=>(lD.1 h).resolve_left fun e=>u (e▸B),lG _⟩
theorem dB_top (d:InN f.Nodes j) (m:j∉zAV n x) (q:upI f.Nodes j = -1):dB f (zAV n x) j=false:=by
 have U:=zAU hr
 cases h:dB f (zAV n x) j with
 | false=>rfl
 | true =>
  obtain ⟨c,o,e⟩:=(zUy hr M d).1 h
  rw [U.wayU_eq d,iP q,e8] at e
  exact absurd (e▸o) m
theorem dB_p:dB f (zAV n x) p=false:=by
 cases h:dB f (zAV n x) p with
 | false=>rfl
 | true =>
  obtain ⟨c,d,e⟩:=(zUy hr M (zAM M.hy)).1 h
  exact absurd e (May.free hr M d)
include H
omit hr M in
theorem zKk (e:idx f.Nodes j=some w):∃v,idx g.Nodes j=some v/\v.Kind=w.Kind/\v.Host=w.Host/\v.Under=w.Under/\zIn v=zIn w/\v.Parent=(if j∈zAV n x then p else w.Parent)/\v.Kids=(if j=p then K else w.Kids.filter (fun k => !((zAV n x).contains k)))/\v.Doc=(if dB f (zAV n x) j=true then y.Doc else w.Doc):=by
 refine ⟨_,H.at_ j w e,rfl,rfl,rfl,rfl,?_,rfl,rfl⟩
 simp only [finN]
 by_cases h:j∈zAV n x
 ·rw [iP h,iP (e7.2 h)]
 ·rw [iN h,iN fun d=>h (e7.1 d),iN fun d=>h (e7.1 d)]
omit hr M in
theorem zRT {k:Int}:isB g.Nodes j k=isB f.Nodes j k:=by
 cases e:idx f.Nodes j with
 | none =>
  have:idx g.Nodes j=none:=by
   by_cases h:0<=j/\j<g.Nodes.length
   ·rw [H.len] at h
    obtain ⟨w,d⟩:=zAK h
    rw [e] at d;cases d
   ·exact zCu h
  unfold isB;rw [this,e]
 | some w =>
  obtain ⟨v,m,o,_⟩:=zKk H e
  unfold isB;rw [m,e];simp only [o]
omit hr in
theorem zam (q:InN f.Nodes j):upI g.Nodes j=if j∈zAV n x then p else upI f.Nodes j:=by
 obtain ⟨w,d⟩:=zAK q
 obtain ⟨v,e,_,m,_,_,o,_⟩:=zKk H d
 rw [zJ7 e,zJ7 d,m,o]
 by_cases h:j∈zAV n x
 ·rw [iP h,iP h,iN (InN.ne (zAM M.hy))]
 ·rw [iN h,iN h]
include hK
omit hr M H in
theorem zcl {k:Int}:k∈K↔(k∈y.Kids/\k∉zAV n x)\/k∈zAV n x:=by
 rw [hK.mem_iff,cA,iI]
 refine or_congr (and_congr_right fun _=>?_) Iff.rfl
 cases h:(zAV n x).contains k with
 | true=>simp [e7.1 h]
 | false =>
  have:k∉zAV n x:=fun d=>by rw [e7.2 d] at h;cases h
  simp [this]
omit hr M hK in
theorem zak {k:Int} {u v z:Node} (B:idx f.Nodes j=some w) (q:idx f.Nodes k=some u) (r:idx g.Nodes j=some v) (hz:idx g.Nodes k=some z) (o:dB f (zAV n x) k=dB f (zAV n x) j) (h:u.Doc=w.Doc):z.Doc=v.Doc:=by
 obtain ⟨E,d,_,_,_,_,_,_,m⟩:=zKk H B
 obtain ⟨F,e,_,_,_,_,_,_,D⟩:=zKk H q
 rw [r] at d;rw [hz] at e
 obtain rfl:=lJ.inj d
 obtain rfl:=lJ.inj e
 rw [m,D,o,h]
theorem zdB {v:Node} (E:idx f.Nodes j=some w) (hv:idx g.Nodes j=some v):zHO g.Nodes j v=true:=by
 have T:=zCQ hr
 have hns:=(zAs hr).2.2.1
 have V:InN f.Nodes j:=zAM E
 have hpi:InN f.Nodes p:=zAM M.hy
 obtain ⟨v',g1,g2,g3,g4,g5,g6,g7,g8⟩:=zKk H E
 rw [hv] at g1
 obtain rfl:=lJ.inj g1
 have hwn:=zCU hns E
 have hyn:=zCU hns M.hy
 unfold zHO at hwn hyn
 simp only [lM] at hwn hyn
 obtain ⟨n1,n2,X,n4,B,n6⟩:=hwn
 obtain ⟨y1,y2,y3,y4,y5,y6⟩:=hyn
 have hpd:∀vp,idx g.Nodes p=some vp->vp.Doc=y.Doc:=fun vp hvp=>by
  obtain ⟨v'',m,_,_,_,_,_,_,q8⟩:=zKk H M.hy
  rw [hvp] at m
  obtain rfl:=lJ.inj m
  rw [q8,dB_p hr M];rfl
 have hbears:=n4
 unfold zFb at n4
 simp only [lM,decide_eq_true_eq,lR] at n4
 obtain ⟨b1,b2,b3,b4⟩:=n4
 have D:∀k∈w.Kids,k∉zAV n x->zRZ g.Nodes j v k=true:=fun k hk o=>by
  have d:=b2 k hk
  unfold zRZ at d ⊢
  cases W:idx f.Nodes k with
  | none=>rw [W] at d;cases d
  | some u =>
   rw [W] at d
   obtain ⟨z,m,J,_,_,_,q6,_⟩:=zKk H W
   rw [m]
   simp only [lM,dD,beq_iff_eq,bne_iff_ne] at d ⊢
   have G:upI f.Nodes k=j:=by rw [zJ7 W,d.1,iN V.ne]
   refine ⟨by rw [q6,iN o];exact d.1,zak H E W hv m (zfd hr M (zAM W) o G V.ne) d.2.1,?_⟩
   rw [J,g2];exact d.2.2
 unfold zHO
 simp only [lM]
 refine ⟨by rw [g5];exact n1,?_,?_,?_,?_,?_⟩
 ·unfold zNX at n2 y2 ⊢
  rw [zRT H,g2,g8]
  simp only [lM,dD,bne_iff_ne,beq_iff_eq] at n2 y2 ⊢
  by_cases N:w.Kind=0
  ·have Q:j∉zAV n x:=fun h=>by
    obtain ⟨z,hz,hk,_⟩:=May.part hr M h
    rw [E] at hz
    obtain rfl:=lJ.inj hz
    omega
   have G:upI f.Nodes j = -1:=by
    have F:w.Parent = -1:=by
     unfold zLu at X
     simp only [lM,dD,beq_iff_eq] at X
     rcases X with h | ⟨h | h,_⟩
     ·exact h
     ·omega
     ·omega
    rw [zJ7 E,iP F]
    unfold zPJ at B
    rw [iN (by omega)] at B
    exact beq_iff_eq.1 B
   rw [dB_top hr M V Q G]
   exact n2
  ·refine ⟨?_,.inl N⟩
   split
   ·exact y2.1
   ·exact n2.1
 ·unfold zLu at X ⊢
  rw [g2,g6]
  by_cases Q:j∈zAV n x
  ·rw [iP Q]
   obtain ⟨z,hz,hk,_⟩:=May.part hr M Q
   rw [E] at hz
   obtain rfl:=lJ.inj hz
   obtain ⟨vp,m,J,_,_,_,_,q7,_⟩:=zKk H M.hy
   rw [m]
   simp only [J,q7,dD,lM,beq_iff_eq]
   exact .inr ⟨hk,M.holder,e7.2 ((zcl hK).2 (.inr Q))⟩
  ·rw [iN Q]
   simp only [dD,lM] at X ⊢
   refine X.imp id fun ⟨k1,I⟩=>⟨k1,?_⟩
   cases hp:idx f.Nodes w.Parent with
   | none=>rw [hp] at I;cases I
   | some q =>
    rw [hp] at I
    obtain ⟨q',m,J,_,_,_,_,q7,_⟩:=zKk H hp
    rw [m]
    simp only [J,q7]
    simp only [lM] at I ⊢
    refine ⟨I.1,?_⟩
    have hjq:=e7.1 I.2
    split
    ·rename_i hpp
     rw [hpp,M.hy] at hp
     obtain rfl:=lJ.inj hp
     exact e7.2 ((zcl hK).2 (.inl ⟨hjq,Q⟩))
    ·rw [e7,iI]
     refine ⟨hjq,?_⟩
     cases h:(zAV n x).contains j with
     | false=>rfl
     | true=>exact absurd (e7.1 h) Q
 ·unfold zFb
  simp only [lM,decide_eq_true_eq,lR]
  rw [g2]
  by_cases hjp:j=p
  ·subst hjp
   rw [M.hy] at E
   obtain rfl:=lJ.inj E
   rw [iP rfl] at g7
   have hcr:y.Kind=0->zBo f.Nodes (zAV n x)=0/\zGA f.Nodes (-1) (zAV n x) 2=0\/zBo f.Nodes (zAV n x)+zBo f.Nodes y.Kids<=1/\zGA f.Nodes (-1) (zAV n x) 2=0:=fun N=>by
    have hc:=M.crowd N
    have me:∀l,zGA f.Nodes (-1) l 1=zBo f.Nodes l:=fun l=>by
     unfold zGA zBo
     refine iJ fun k _=>?_
     simp only [lM,bne_iff_ne]
     exact ⟨And.right,fun h=>⟨za5 h,h⟩⟩
    unfold zHR at hc
    rw [M.hy] at hc
    simp only [me] at hc
    simp only [iU,jJ,decide_eq_false_iff_not] at hc
    rcases hc.2 with h | h
    ·exact .inl ⟨by omega,by omega⟩
    ·exact .inr ⟨by omega,by omega⟩
   refine ⟨?_,fun k hk=>?_,by rw [M.holder];rfl,?_⟩
   ·rw [g7,hK.nodup_iff,dM]
    refine ⟨b1.sublist iR,May.nodup hr M,fun a ha b hb e=>?_⟩
    subst e
    rw [iI] at ha
    rw [e7.2 hb] at ha
    cases ha.2
   ·rw [g7,zcl hK] at hk
    rcases hk with ⟨h1,h2⟩ | o
    ·exact D k h1 h2
    ·obtain ⟨u,W,huk,_⟩:=May.part hr M o
     obtain ⟨z,m,J,_,_,_,q6,_,q8⟩:=zKk H W
     unfold zRZ
     rw [m]
     simp only [lM,dD,beq_iff_eq,bne_iff_ne]
     refine ⟨by rw [q6,iP o],by rw [q8,zaM hr M o,iP rfl,hpd v hv],?_⟩
     rw [J,g2]
     by_cases N:y.Kind=0
     ·refine .inl (huk.resolve_right fun h2=>?_)
      have hz2:zGA f.Nodes (-1) (zAV n x) 2=0:=(hcr N).elim And.right And.right
      unfold zGA at hz2
      rw [List.countP_eq_zero] at hz2
      refine hz2 k o ?_
      have hb:isB f.Nodes k 2=true:=by unfold isB;rw [W];exact beq_iff_eq.2 h2
      rw [hb,Bool.and_true]
      exact bne_iff_ne.2 (za5 hb)
     ·exact huk.imp id fun h=>⟨h,N⟩
   ·rw [dD]
    by_cases N:y.Kind=0
    ·right
     have e:zBo g.Nodes v.Kids=zBo f.Nodes (y.Kids.filter (fun k => !((zAV n x).contains k)))+zBo f.Nodes (zAV n x):=by
      unfold zBo
      rw [g7,hK.countP_eq,jC]
      exact congr (congrArg _ (iJ fun k _=>by rw [zRT H])) (iJ fun k _=>by rw [zRT H])
     have hle:zBo f.Nodes (y.Kids.filter (fun k => !((zAV n x).contains k)))<=zBo f.Nodes y.Kids:=iR.countP_le
     have h4:zBo f.Nodes y.Kids<=1:=by
      simp only [dD,decide_eq_true_eq] at b4
      exact b4.resolve_left (by simp [N])
     refine decide_eq_true ?_
     rw [e]
     rcases hcr N with h | h
     ·omega
     ·omega
    ·left;exact bne_iff_ne.2 N
  ·rw [iN hjp] at g7
   have r:v.Kids.Sublist w.Kids:=by rw [g7];exact iR
   refine ⟨b1.sublist r,fun k hk=>?_,?_,?_⟩
   ·rw [g7,iI] at hk
    exact D k hk.1 fun h=>by rw [e7.2 h] at hk;cases hk.2
   ·simp only [dD,decide_eq_true_eq] at b3 ⊢
    refine b3.imp id fun h=>?_
    have:=r.length_le
    omega
   ·simp only [dD,decide_eq_true_eq] at b4 ⊢
    refine b4.imp id fun h=>?_
    have e:zBo g.Nodes v.Kids=zBo f.Nodes v.Kids:=by
     unfold zBo
     exact iJ fun k _=>by rw [zRT H]
    have:=r.countP_le (p:=fun k=>isB f.Nodes k 1)
    rw [e]
    unfold zBo at h ⊢
    omega
 ·unfold zPJ at B ⊢
  rw [g2,g3]
  by_cases hk:w.Kind=4
  ·rw [iP hk] at B ⊢
   cases S:idx f.Nodes w.Host with
   | none=>rw [S] at B;cases B
   | some h =>
    rw [S] at B
    obtain ⟨u',m,J,_,q4,_⟩:=zKk H S
    rw [m]
    simp only [lM,beq_iff_eq] at B ⊢
    have Q:j∉zAV n x:=fun h=>by
     obtain ⟨z,hz,hk',_⟩:=May.part hr M h
     rw [E] at hz
     obtain rfl:=lJ.inj hz
     omega
    have F:w.Parent = -1:=by
     unfold zLu at X
     simp only [lM,dD,beq_iff_eq] at X
     rcases X with h | ⟨h | h,_⟩
     ·exact h
     ·omega
     ·omega
    have hhi:InN f.Nodes w.Host:=zAM S
    have G:upI f.Nodes j=w.Host:=by rw [zJ7 E,iP F]
    exact ⟨by rw [J];exact B.1,by rw [q4];exact B.2.1,zak H E S hv m (zfd hr M V Q G hhi.ne).symm B.2.2⟩
  ·rw [iN hk] at B ⊢;exact B
 ·unfold zLj at n6 ⊢
  rw [g2,g4]
  simp only [dD,lM] at n6 ⊢
  refine n6.imp id fun ⟨k1,I⟩=>⟨k1,?_⟩
  cases S:idx f.Nodes w.Under with
  | none=>rw [S] at I;cases I
  | some h =>
   rw [S] at I
   obtain ⟨u',m,J,q3,_⟩:=zKk H S
   rw [m]
   simp only [J,q3]
   exact I
include hm
theorem zal:zAJ g=true:=by
 have m:=H.len
 have e:zHU g.Nodes=true:=by
  rw [zSk]
  intro j v J
  have G:InN f.Nodes j:=by have:=zAM J;rw [m] at this;exact this
  obtain ⟨w,V⟩:=zAK G
  exact zdB hr M H hK V J
 have E:=zMQ e
 have d:=zAs hr
 have hfu:=zMQ d.2.2.1
 have D:InN f.Nodes p:=zAM M.hy
 -- whoever isn't below a part goes up as before
 have free:∀(k:Nat) (j:Int),InN f.Nodes j->dB f (zAV n x) j=false->zBp f.Nodes k j=true->zBp g.Nodes k j=true:=by
  intro k
  induction k with
  | zero=>intro j _ _ h;cases h
  | succ k I =>
   intro j q F h
   have u:j∉zAV n x:=fun N=>by rw [zaM hr M N] at F;cases F
   rw [zBp,dD,beq_iff_eq] at h ⊢
   rw [zam M H q,iN u]
   rcases h with h | h
   ·exact .inl h
   ·by_cases r:upI f.Nodes j = -1
    ·exact .inl r
    ·exact .inr (I _ ((zAU hr).par j q r).1 (by rw [<- zfd hr M q u rfl r];exact F) h)
 have Q:zBp g.Nodes f.Nodes.length p=true:=free _ p D (dB_p hr M) (zPF d.2.2.2 D)
 have all:∀(k:Nat) (j:Int),InN f.Nodes j->zBp f.Nodes k j=true->zBp g.Nodes (k+f.Nodes.length) j=true:=by
  intro k
  induction k with
  | zero=>intro j _ h;cases h
  | succ k I =>
   intro j q h
   rw [zBp,dD,beq_iff_eq] at h
   rw [show k+1+f.Nodes.length=(k+f.Nodes.length)+1 by omega,zBp,dD,beq_iff_eq,zam M H q]
   by_cases u:j∈zAV n x
   ·rw [iP u]
    exact .inr (zUv Q (by omega))
   ·rw [iN u]
    rcases h with h | h
    ·exact .inl h
    ·by_cases r:upI f.Nodes j = -1
     ·exact .inl r
     ·exact .inr (I _ ((zAU hr).par j q r).1 h)
 have o:zQH g.Nodes=true:=by
  unfold zQH
  rw [lR]
  intro i hi
  have hi:i<g.Nodes.length:=by simpa using hi
  have B:InN f.Nodes (i:Int):=⟨by omega,by rw [m] at hi;omega⟩
  exact zWV E ⟨by omega,by omega⟩ (all _ _ B (zPF d.2.2.2 B))
 have S:=hr
 unfold zAJ at hr ⊢
 simp only [lM,decide_eq_true_eq] at hr ⊢
 rw [hm,m,zRT H]
 exact ⟨hr.1,hr.2.1,hr.2.2.1,hr.2.2.2.1,hr.2.2.2.2.1,e,o⟩
end
end
section
theorem zW0 {fu:Nat} {l:List Node} (h:l.length<=1000):zAm fu l=some l:=by
 unfold zAm
 rw [zBF (by simp;omega),zAA,iS]
theorem zZY {fu:Nat} (h:l.length<fu) (d:l.length<=1000000):zFW fu l l=some true:=by
 unfold zFW
 rw [zAO (by simp)]
 refine (zNy (L:=zC0 l l) l.length (fun _=>true) (some true) (fun i hi k=>?_) (fun k=>?_) h).trans ?_
 ·simp only [zC0]
  rw [zAP (by simpa using hi),zAQ hi,zAA,zAA,zBv (by omega),zAA,show zaZ l[i] l[i]=true by simp [zaZ]]
  rfl
 ·simp only [zC0]
  rw [zAO (by simp)]
 ·rw [lR.2 fun _ _=>rfl];rfl
theorem zdT {fu:Nat} {x:Node} (hfu:1000<fu) (ha:x.Attrs.length<=1000) (hk:x.Kids.length<=1000):zFv fu x x=some true:=by
 unfold zFv
 rw [zZY (by omega) (by omega),zTn (by omega) (by omega)]
 simp
theorem zbz {fu:Nat} {f:Forest} (hfu:1000<fu) (d:f.Nodes.length<=1000) (hx:∀x∈f.Nodes,x.Attrs.length<=1000/\x.Kids.length<=1000):zBC fu f f=some true:=by
 unfold zBC
 rw [zAO (by simp),zAO (by simp)]
 refine (zNy (L:=zC1 fu f f) f.Nodes.length (fun _=>true) (some true) (fun i hi k=>?_) (fun k=>?_) (by omega)).trans ?_
 ·have:=hx _ (gC hi)
  simp only [zC1]
  rw [zAP (by simpa using hi),zAQ hi,zAA,zAA,zBv (by omega),zAA,zdT hfu this.1 this.2]
  rfl
 ·simp only [zC1]
  rw [zAO (by simp)]
 ·rw [lR.2 fun _ _=>rfl];rfl
theorem Small.same {f:Forest} (hs:Small f) {fu:Nat} (hfu:1000<fu):zBC fu f f=some true:=zbz hfu (by have:=hs.few;omega) fun x hx=>⟨by have:=hs.attrs x hx;omega,by have:=hs.kids x hx;omega⟩
end
section
theorem zVQ {x:Node} (h:zIn x=true):x.Attrs.length<=40/\x.Name.length<=40:=by
 unfold zIn at h
 split at h
 ·simp only [lM] at h
  have d:=h.2.2.2
  unfold zIv at d
  simp only [lM,decide_eq_true_eq] at d
  have e:=h.1
  unfold zWg zFq at e
  simp only [lM,decide_eq_true_eq] at e
  exact ⟨d.1,e.1.1.1.2⟩
 ·split at h
  ·simp only [lM,beq_iff_eq,decide_eq_true_eq] at h
   exact ⟨by omega,by rw [h.2.1];simp⟩
  ·split at h
   ·simp only [lM,beq_iff_eq,decide_eq_true_eq] at h
    exact ⟨by omega,by rw [h.1];simp⟩
   ·cases h
theorem zAI {f:Forest} (hr:zAJ f=true):Small f:=by
 have h:=zAs hr
 have at_:∀x∈f.Nodes,x.Kids.length<=400/\x.Attrs.length<=40/\x.Name.length<=40:=fun x hx=>by
  obtain ⟨i,hi,e⟩:=iQ hx
  have d:idx f.Nodes (i:Int)=some x:=by rw [zAQ hi,e]
  have m:=zCU h.2.2.1 d
  unfold zHO at m
  simp only [lM] at m
  have o:=m.2.2.2.1
  unfold zFb at o
  simp only [lM,decide_eq_true_eq] at o
  have:=zMR f.Nodes.length x.Kids o.1 fun k hk=>by
   obtain ⟨y,hy⟩:=zMh h.2.2.1 d k hk
   exact zAM hy
  have q:=zVQ m.1
  exact ⟨by omega,q⟩
 exact ⟨h.2.1,fun x hx=>(at_ x hx).1,fun x hx=>by have:=(at_ x hx).2.1;omega,fun x hx=>by have:=(at_ x hx).2.2;omega⟩
def zJY (ns:List Node):List (Node×Bool):=ns.map fun x=>(x,true)
theorem zLV (ns:List Node):(zJY ns).map Prod.fst=ns:=by simp [zJY,Function.comp_def]
theorem zdb {ns:List Node} {n:Int}:idx (zJY ns) n=(idx ns n).map fun x=>(x,true):=by
 unfold idx zJY
 split<;>simp
theorem zHJ {ns:List Node} {n:Int} {x:Node} (h:idx ns n=some x):idx (zJY ns) n=some (x,true):=by rw [zdb,h];rfl
theorem zMo {ns:List Node} {i:Nat} {x:Node}:(zJY ns).set i (x,true)=zJY (ns.set i x):=by unfold zJY;rw [dK]
theorem zUx {fu:Nat} {l:List Int} (h:l.length<=1000000):zBY fu l=some l:=by
 unfold zBY
 rw [zBF (by simp;omega),zAA,iS]
theorem zSq {f:Forest} {fu:Nat} (hs:Small f) (hfu:1000<fu):zKU fu f=some ((),f.Most,zJY f.Nodes,[]):=by
 have q:=hs.few
 unfold zKU
 rw [zW0 (by omega),zAA]
 have o:(f.Nodes.map fun x=>(x,false)).length=f.Nodes.length:=by simp
 have:=upf (L:=zHb fu f f.Nodes) (f:=fun i=>((i:Int),mix (fun p:Node×Bool=>(p.1,true)) (f.Nodes.map fun x=>(x,false)) i)) (v:=some ((),f.Most,zJY f.Nodes,[])) f.Nodes.length (fun i hi k=>?_) (fun k=>?_) (show f.Nodes.length<fu by omega)
 ·rw [zYB] at this
  exact this
 ·have m:i<(f.Nodes.map fun x=>(x,false)).length:=by rw [o];exact hi
  have hm:=zbI (fun p:Node×Bool=>(p.1,true)) m
  simp only [zHb]
  rw [zAP (by simpa using hi),hm,zAA,jK]
  rw [show zSU (f.Nodes[i],false).2=some () from rfl,zAA,zUx (by have:=hs.kids _ (gC hi);simp only;omega),zAA,zAA,zBv (by omega),zAA]
  have d:=zTs (fun p:Node×Bool=>(p.1,true)) m
  rw [jK] at d
  rw [<- d]
 ·simp only [zHb]
  rw [zAO (by simp)]
  have e:=zbJ (fun p:Node×Bool=>(p.1,true)) (f.Nodes.map fun x=>(x,false))
  rw [o] at e
  rw [e,iV]
  rfl
def zRk (x:Note) (k:Int):Note:=⟨x.Kind,k,x.From,x.To,x.Name,x.Had,x.Has,x.Old,x.New⟩
theorem tell_l {fu:Nat} {x:Note} {ks:List Int} {l:List Note} {c:Int} (e:ks.length<fu) (m:l.length+ks.length<=1000000000):zC5 x ks fu (0,c,l)=some (l++ks.map (zRk x)):=by
 have:=upf (L:=zC5 x ks) (f:=fun i=>((i:Int),(ks.take i).getLastD c,l++(ks.take i).map (zRk x))) (v:=some (l++ks.map (zRk x))) ks.length (fun i hi k=>?_) (fun k=>?_) e
 ·simpa using this
 ·simp only [zC5]
  rw [zAP (by simpa using hi),zAQ hi,zAA,zBF (by simp;omega),zAA,zBv (by omega),zAA]
  have d:(ks.take (i+1)).getLastD c=ks[i]:=by rw [iB hi,List.getLastD_concat]
  rw [d,iB hi,gG,<- eS]
  rfl
 ·simp only [zC5]
  rw [zAO (by simp),iH]
def zPp (f:Forest) (n:Int):List Int:=if zAJ f=true then zPq f.Nodes n else []
theorem zaY {f:Forest} {fu:Nat} {n:Int} (hk:zFT fu f.Nodes) (hfu:1000<fu) (d:InN f.Nodes n):zFx fu f n=some (zPp f n):=by
 unfold zPp
 by_cases hr:zAJ f=true
 ·rw [iP hr];exact zcj (zAI hr) hfu hr d
 ·rw [iN hr]
  unfold zFx zDu
  rw [sh_no1 hfu hk (.inl (by simpa using hr)),zAA,jZ,zAW,zAA,zSV (p:=fun _=>true) (fun x hx=>by cases hx) (by simp;omega) (by simp),zAA]
  rfl
theorem zSX {f:Forest} {n:Int} (d:InN f.Nodes n):(zPp f n).length<=400:=by
 unfold zPp
 by_cases hr:zAJ f=true
 ·rw [iP hr]
  have:=(zAU hr).all_len d
  have e:(zPq f.Nodes n).length<=(zGS f.Nodes n).length:=iT _ _
  have:=(zAs hr).2.1
  omega
 ·rw [iN hr];simp
theorem zUN {f:Forest} {fu:Nat} {n:Int} {x:Note} {l:List Note} (hk:zFT fu f.Nodes) (hfu:1000<fu) (d:InN f.Nodes n) (e:l.length<=500000000):zEF fu n x f.Most (zJY f.Nodes) l=some (l++(zPp f n).map (zRk x)):=by
 unfold zEF
 rw [zLV,zaY hk hfu d,zAA]
 have:=zSX d
 exact tell_l (by omega) (by omega)
theorem zS0 {fu:Nat} {l:List Int} {n:Int} (d:l.length<fu) (e:l.length<=1000000):zDE fu n l=some (zan l n):=by
 unfold zDE
 refine zYc (L:=zB2 n l) l n (fun i hi k=>?_) (fun k=>?_) d
 ·simp only [zB2]
  rw [zAP (by simpa using hi),zAQ hi,zAA,zBv (by omega),zAA,zBD]
  by_cases h:l[i]=n
  ·rw [iP h.symm,iP h]
  ·rw [iN (Ne.symm h),iN h]
 ·simp only [zB2];rw [zAO (by simp)]
theorem del_ok {fu:Nat} {l:List Int} {i:Nat} (h:i<l.length):zFC fu (i:Int) ((i+1:Nat):Int) l=some (l.eraseIdx i):=by
 have d:(zQG l i (i+1)).length=l.length:=by
  unfold zQG
  simp only [eR,cR,jA]
  omega
 have e:((i:Int)).toNat=i:=by omega
 have m:(((i+1:Nat):Int)).toNat=i+1:=by omega
 have o:((l.length:Int)).toNat=l.length:=by omega
 have q:(((i+(l.length - (i+1)):Nat):Int)).toNat=i+(l.length - (i+1)):=by omega
 unfold zFC
 rw [e,m,o,q]
 rw [show cut3 l.length (i:Int) ((i+1:Nat):Int) (l.length:Int)=some () from iP ⟨by omega,by omega,by omega,by omega⟩,zAA,zBD,iN (by omega)]
 rw [show zPX l.length 0 (i:Int)=some () from iP ⟨by omega,by omega,by omega⟩,zAA,show zPX l.length ((i+1:Nat):Int) (l.length:Int)=some () from iP ⟨by omega,by omega,by omega⟩,zAA]
 rw [show delB l.length i (i+1) l.length=some () from iP ⟨by omega,by omega,rfl⟩,zAA,d]
 rw [show zPX l.length ((i+(l.length - (i+1)):Nat):Int) (l.length:Int)=some () from iP ⟨by omega,by omega,by omega⟩,zAA]
 rw [show zfa l.length (i+(l.length - (i+1))) l.length=some () from iP ⟨by omega,rfl⟩,zAA]
 have r:(zRI (zQG l i (i+1)) (i+(l.length - (i+1))) (0:Int)).length=l.length:=by
  unfold zRI
  simp only [eR,cR,List.length_replicate,d]
  omega
 rw [r,show zb8 l.length (i+(l.length - (i+1)))=some () from iP (by omega),zAA]
 congr 1
 unfold zRI zQG
 rw [jG (by simp only [cR,eR,jA];omega),jY,Nat.min_self,jG (by simp only [cR,eR,jA];omega),List.eraseIdx_eq_take_drop_succ,List.take_of_length_le (by simp only [cR,eR,jA];omega)]
theorem zU7 {l:List Int} {n:Int} (d:l.Nodup):l.eraseIdx (l.idxOf n)=l.filter fun k=>k != n:=by
 rw [<- List.erase_eq_eraseIdx_of_idxOf rfl,d.erase_eq_filter]
def zNW (ns:List Node) (n:Int):List Node:=match idx ns n with
 | some z=>if z.Parent = -1 then ns else (match idx ns z.Parent with
  | some y=>(ns.set z.Parent.toNat (zZF y n)).set n.toNat (zXw z)
  | none=>ns)
 | none=>ns
def zKy (f:Forest) (n:Int):List Note:=if zJU f.Nodes n ≠ -1/\zWW f.Nodes n=true then (zPq f.Nodes n).map (zRk ⟨2,0,0,0,[],false,false,[],[]⟩) else []
theorem zHl {f:Forest} (hr:zAJ f=true) {n:Int} {z:Node} (hz:idx f.Nodes n=some z) (q:z.Parent ≠ -1):∃y,Hung f n z.Parent z y:=by
 have o:=(zAs hr).2.2.1
 have m:=zCU o hz
 unfold zHO zLu at m
 simp only [lM,dD,beq_iff_eq] at m
 obtain ⟨_,d⟩:=m.2.2.1.resolve_left q
 cases hy:idx f.Nodes z.Parent with
 | none=>rw [hy] at d;cases d
 | some y =>
  rw [hy] at d
  simp only [lM] at d
  have hm:=e7.1 d.2
  obtain ⟨r,H⟩:=zfx hr hy hm
  have e:=H.hz
  rw [hz] at e
  obtain rfl:=lJ.inj e
  exact ⟨y,H⟩
theorem zQd {ns:List Node} {n:Int} {z:Node} (hz:idx ns n=some z) (d:z.Parent = -1):zNW ns n=ns:=by unfold zNW;rw [hz];simp only;rw [iP d]
theorem zOk {f:Forest} {n:Int} {z y:Node} (H:Hung f n z.Parent z y) (d:z.Parent ≠ -1):zNW f.Nodes n=(zUV f n z.Parent z y).Nodes:=by
 unfold zNW zUV
 rw [H.hz]
 simp only
 rw [iN d,H.hy]
theorem zTy (ns:List Node) (n:Int):(zNW ns n).length=ns.length:=by
 unfold zNW
 split
 ·split
  ·rfl
  ·split<;>simp
 ·rfl
theorem zMm {f:Forest} (hr:zAJ f=true) {n:Int} (e:InN f.Nodes n):zAJ ⟨zNW f.Nodes n,f.Most⟩=true:=by
 obtain ⟨z,hz⟩:=zAK e
 by_cases d:z.Parent = -1
 ·rw [zQd hz d];exact hr
 ·obtain ⟨y,H⟩:=zHl hr hz d
  rw [zOk H d]
  exact zVW H hr
theorem zMY {f:Forest} {n:Int} (hr:zAJ f=true) (d:InN f.Nodes n):(zKy f n).length<=400:=by
 unfold zKy
 split
 ·have:=(zAU hr).all_len d
  have e:(zPq f.Nodes n).length<=(zGS f.Nodes n).length:=iT _ _
  have:=(zAs hr).2.1
  simp only [lL]
  omega
 ·simp
theorem zW2 {f:Forest} {fu:Nat} {n:Int} {l:List Note} (hr:zAJ f=true) (hfu:1000<fu) (q:InN f.Nodes n) (I:l.length<=500000000):zDs fu n f.Most (zJY f.Nodes) l=some (zJY (zNW f.Nodes n),l++zKy f n):=by
 have hs:=zAI hr
 obtain ⟨z,hz⟩:=zAK q
 unfold zDs
 rw [zHJ hz,zAA,zBD]
 by_cases d:z.Parent = -1
 ·rw [iP d,zQd hz d]
  unfold zKy
  rw [iN (by rw [zJ3 hz];exact fun h=>h.1 d),gI]
 ·rw [iN d,zLV,zWA hs hfu hr q,zAA]
  obtain ⟨y,H⟩:=zHl hr hz d
  have hk:=hs.kids y (zIh H.hy)
  have m:=zCU (zAs hr).2.2.1 H.hy
  unfold zHO zFb at m
  simp only [lM,decide_eq_true_eq] at m
  have r:y.Kids.Nodup:=m.2.2.2.1.1
  obtain ⟨F,G⟩:=zTg H.mem
  have u:=zAM H.hy
  have o:∀D,zFN fu n (zJY f.Nodes) (z,true) D=some (zJY (zNW f.Nodes n),D):=fun D=>by
   unfold zFN
   rw [zHJ H.hy,zAA,show zT0 (y,true).2=some () from rfl,zAA,zS0 (by simp only;omega) (by simp only;omega),zAA,zAA]
   simp only
   rw [F,zBv (by omega),zAA,del_ok G,zAA,zU7 r,zAA,zMo]
   have B:idx (f.Nodes.set z.Parent.toNat (zZF y n)) n=some z:=by rw [zKn u.1 H.ne,hz]
   have e:(⟨y.Kind,y.Name,y.Is,y.Data,y.Attrs,y.Parent,y.Kids.filter (fun k=>k != n),y.Host,y.Under,y.Doc⟩:Node)=zZF y n:=rfl
   rw [e,zHJ B,zAA]
   simp only
   rw [zMo,zOk H d]
   rfl
  cases E:zWW f.Nodes n with
  | false =>
   rw [zAF,o]
   unfold zKy
   rw [iN (by rw [E];simp),gI]
  | true =>
   rw [zAW,zUN (hs.fit hfu) hfu q I,zAA,o]
   unfold zKy zPp
   rw [iP hr,iP ⟨by rw [zJ3 hz];exact d,E⟩]
end
section
theorem zSH {m:Type} {l:List α} {f g : α -> List m} (h:∀a∈l,f a=g a):l.flatMap f=l.flatMap g:=by
 induction l with
 | nil=>rfl
 | cons a l e=>rw [iG,iG,h a (lH ..),e fun b d=>h b (lG _ d)]
section
variable {f:Forest} (hr:zAJ f=true)
include hr
theorem zWz {n:Int} {z:Node} (hz:idx f.Nodes n=some z):n∉z.Kids:=fun h=>zek hr hz h rfl
omit hr in
theorem zXs {l:List Int} {n:Int} (h:n∉l):l.filter (fun k => !(([n]:List Int).contains k))=l:=by
 rw [jI]
 intro a e
 have:([n]:List Int).contains a=false:=by
  rw [iK]
  intro d
  rw [e7,e8] at d
  exact h (d▸e)
 rw [this];rfl
theorem zTx {n:Int} (u:InN f.Nodes n):At f.Nodes (zNW f.Nodes n) (zUW [n]):=by
 obtain ⟨z,hz⟩:=zAK u
 have d:∀j,([n]:List Int).contains j=true↔j=n:=fun j=>by rw [e7,e8]
 refine ⟨zTy _ _,fun j w m=>?_⟩
 by_cases r:z.Parent = -1
 ·rw [zQd hz r,m]
  have hk:n∉w.Kids:=fun h=>by
   have:=zRa hr m hz h
   have:=zAM m
   omega
  unfold zUW
  rw [zXs hk]
  by_cases o:j=n
  ·subst o
   rw [hz] at m
   obtain rfl:=lJ.inj m
   rw [iP ((d j).2 rfl),<- r]
  ·rw [iN fun h=>o ((d j).1 h)]
 ·obtain ⟨y,H⟩:=zHl hr hz r
  rw [zOk H r]
  by_cases o:j=n
  ·subst o
   rw [hz] at m
   obtain rfl:=lJ.inj m
   rw [zVV H]
   unfold zUW zXw
   rw [iP ((d j).2 rfl),zXs (zWz hr hz)]
  ·by_cases q:j=z.Parent
   ·subst q
    have e:=H.hy
    rw [m] at e
    obtain rfl:=lJ.inj e
    rw [zSn H]
    unfold zUW zZF
    rw [iN fun h=>o ((d _).1 h)]
    congr 2
    refine List.filter_congr fun k _=>?_
    rw [eW,bne_iff_ne,gM,iK]
    exact not_congr (d k).symm
   ·rw [zRn H o q,m]
    have hk:n∉w.Kids:=fun h=>q (zRa hr m hz h).symm
    unfold zUW
    rw [zXs hk,iN fun h=>o ((d j).1 h)]
theorem zdV {n:Int} (o:InN f.Nodes n):zGS (zNW f.Nodes n) n=zGS f.Nodes n:=by
 have U:=zAU hr
 have V:=zAU (f:=⟨zNW f.Nodes n,f.Most⟩) (zMm hr o)
 have D:=zTx hr o
 have r:∀{j},InN f.Nodes j->InN (zNW f.Nodes n) j:=fun h=>by unfold InN at h ⊢;rw [zTy];exact h
 have u:∀j,InN f.Nodes j->n∈zIj f.Nodes j->zGS (zNW f.Nodes n) j=zGS f.Nodes j:=U.down_ind fun j e G B=>by
  obtain ⟨w,d⟩:=zAK e
  have hk:n∉w.Kids:=fun h=>by
   obtain ⟨z,hz⟩:=zAK o
   have q:n∈zPW f.Nodes j:=by rw [zOr d];exact cA.2 (.inr h)
   have E:=U.wayU_kid q
   have F:j∈zIj f.Nodes n:=by rw [E];exact lG _ (U.wayU_self e)
   exact zek hr d h (U.wayU_anti e B F)
  have hs:zPW (zNW f.Nodes n) j=zPW f.Nodes j:=by
   rw [zOr d,zOr (D.at_ j w d)]
   unfold zUW
   rw [zXs hk]
  rw [V.all_eq (r e),U.all_eq e,hs]
  congr 1
  refine zSH fun k m=>G k m ?_
  rw [U.wayU_kid m]
  exact lG _ B
 exact u n o (U.wayU_self o)
end
def zY1 (ns:List Node) (A:List Int) (d:Int):List Node:=A.foldl (fun m a=>match idx m a with
 | some w=>m.set a.toNat ⟨w.Kind,w.Name,w.Is,w.Data,w.Attrs,w.Parent,w.Kids,w.Host,w.Under,d⟩
 | none=>m) ns
theorem zUz (ns:List Node) (A:List Int) (a d:Int):zY1 ns (A++[a]) d=(match idx (zY1 ns A d) a with
 | some w=>(zY1 ns A d).set a.toNat ⟨w.Kind,w.Name,w.Is,w.Data,w.Attrs,w.Parent,w.Kids,w.Host,w.Under,d⟩
 | none=>zY1 ns A d):=by unfold zY1;rw [List.foldl_append];rfl
theorem zaP {a b:List Node} (H:At a b h) {A:List Int} {d:Int} (u:∀x∈A,InN a x):∀i,i<=A.length->At a (zY1 b (A.take i) d) (zed (A.take i) d h):=by
 intro i
 induction i with
 | zero =>
  intro _
  refine (show At a (zY1 b (A.take 0) d) h from by simpa [zY1] using H).congr fun j w _=>?_
  simp [zed]
 | succ i q =>
  intro hi
  have m:i<A.length:=by omega
  have q:=q (by omega)
  have hx:=u _ (gC m)
  obtain ⟨w0,o⟩:=zAK hx
  rw [iB m,zUz,q.at_ _ w0 o]
  simp only
  refine (q.set hx _).congr fun j w r=>?_
  by_cases e:j=A[i]
  ·subst e
   rw [o] at r
   obtain rfl:=lJ.inj r
   have B:(A.take i++[A[i]]).contains A[i]=true:=by rw [zOV];simp
   rw [iP rfl]
   simp only [zed,B,↓reduceIte]
  ·rw [iN e]
   unfold zed
   have:(A.take i++[A[i]]).contains j=(A.take i).contains j:=by rw [zOV,beq_eq_false_iff_ne.2 e,Bool.or_false]
   rw [this]
theorem zaQ {a b:List Node} (H:At a b h) {A:List Int} {d:Int} (e:∀x∈A,InN a x):At a (zY1 b A d) (zed A d h):=by
 have:=zaP H e (d:=d) A.length (cB _)
 rwa [iH] at this
def zbL (e d:Int):Note:=⟨3,0,e,d,[],false,false,[],[]⟩
def zMN (ns:List Node) (n:Int):Int:=match idx ns n with
 | some x=>x.Doc
 | none=>0
theorem zMe {ns:List Node} {n:Int} {x:Node} (h:idx ns n=some x):zMN ns n=x.Doc:=by unfold zMN;rw [h]
def zLU (f:Forest) (n d:Int):List Node:=if zMN f.Nodes n=d then zNW f.Nodes n else zY1 (zNW f.Nodes n) (zGS f.Nodes n) d
def zQJ (f:Forest) (n d:Int):List Note:=if zMN f.Nodes n=d then [] else (zPp ⟨zLU f n d,f.Most⟩ n).map (zRk (zbL (zMN f.Nodes n) d))
def zCV (f:Forest) (n d:Int):Int->Node->Node:=if zMN f.Nodes n=d then zUW [n] else zed (zGS f.Nodes n) d (zUW [n])
theorem At.kids {a b:List Node} (H:At a b h) {N:Nat} (hk:∀x∈a,x.Kids.length<=N) (q:∀j w,idx a j=some w->(h j w).Kids.length<=w.Kids.length):∀x∈b,x.Kids.length<=N:=fun x hx=>by
 obtain ⟨i,hi,e⟩:=iQ hx
 have d:i<a.length:=by rw [<- H.len];exact hi
 have m:idx a (i:Int)=some a[i]:=zAQ d
 have o:=H.at_ _ _ m
 rw [zAQ hi,e] at o
 obtain rfl:=lJ.inj o
 exact Nat.le_trans (q _ _ m) (hk _ (gC d))
theorem zSo (f:Forest) (n d j:Int) (w:Node):(zCV f n d j w).Kids=w.Kids.filter (fun k => !(([n]:List Int).contains k)):=by
 unfold zCV
 split<;>rfl
theorem zTz {f:Forest} {fu:Nat} {n d:Int} {l:List Note} (hr:zAJ f=true) (hfu:1000<fu) (e:InN f.Nodes n) (hl:l.length<=400000000):At f.Nodes (zLU f n d) (zCV f n d)/\(zQJ f n d).length<=400/\zGR fu n d f.Most (zJY f.Nodes) l=some (zJY (zLU f n d),l++zKy f n++zQJ f n d):=by
 have hs:=zAI hr
 have B:=zMm hr e
 have N:=zAI B
 have D:=zTx hr e
 have J:InN (zNW f.Nodes n) n:=by unfold InN at e ⊢;rw [zTy];exact e
 obtain ⟨z,hz⟩:=zAK e
 have S:=D.at_ n z hz
 have hwl:=zMY hr e
 unfold zGR
 rw [zW2 hr hfu e (by omega),zAA,zHJ S,zAA,zBD]
 have o:(zUW [n] n z).Doc=zMN f.Nodes n:=by rw [zMe hz];rfl
 simp only [o]
 by_cases m:zMN f.Nodes n=d
 ·rw [iP m]
  unfold zLU zCV zQJ
  rw [iP m,iP m,iP m,gI]
  exact ⟨D,by simp,rfl⟩
 ·rw [iN m,zLV,zZp (f:=⟨zNW f.Nodes n,f.Most⟩) N hfu B J,zAA]
  have I:∀x∈zGS f.Nodes n,InN f.Nodes x:=fun x hx=>((zAU hr).all_in n e x hx).1
  have G:=zaQ D (d:=d) I
  have F:(zGS f.Nodes n).length<=400:=by
   have:=(zAU hr).all_len e
   have:=(zAs hr).2.1
   omega
  have E:zLU f n d=zY1 (zNW f.Nodes n) (zGS f.Nodes n) d:=by unfold zLU;rw [iN m]
  have X:zCV f n d=zed (zGS f.Nodes n) d (zUW [n]):=by unfold zCV;rw [iN m]
  have q:zFT fu (zLU f n d):=fun x hx=>by
   have:=At.kids G hs.kids (fun j w _=>by simp only [zed,zUW];exact iT _ _) x (by rw [<- E];exact hx)
   omega
  have u:InN (zLU f n d) n:=by
   unfold InN at e ⊢
   rw [E,G.len]
   exact e
  have r:(zQJ f n d).length<=400:=by
   unfold zQJ
   rw [iN m,lL]
   exact zSX (f:=⟨zLU f n d,f.Most⟩) u
  refine ⟨by rw [E,X];exact G,r,?_⟩
  rw [zdV hr e]
  have:=upf (L:=zDj fu n d f.Most (zJY (zNW f.Nodes n),l++zKy f n) (zUW [n] n z,true) (zGS f.Nodes n)) (f:=fun i=>((i:Int),zJY (zY1 (zNW f.Nodes n) ((zGS f.Nodes n).take i) d))) (v:=some (zJY (zLU f n d),l++zKy f n++zQJ f n d)) (zGS f.Nodes n).length (fun i hi k=>?_) (fun k=>?_) (show (zGS f.Nodes n).length<fu by omega)
  ·simpa [zY1] using this
  ·have hx:=I _ (gC hi)
   obtain ⟨w0,Q⟩:=zAK hx
   have V:=(zaP D I (d:=d) i (by omega)).at_ _ _ Q
   simp only [zDj]
   rw [zAP (by simpa using hi),zAQ hi,zAA,zHJ V,zAA,zBv (by omega),zAA,iB hi,zUz,V,zMo]
  ·simp only [zDj]
   rw [zAO (by simp),iH,<- E]
   have:=zUN (f:=⟨zLU f n d,f.Most⟩) (x:=zbL (zMN f.Nodes n) d) (l:=l++zKy f n) q hfu u (by simp only [eR];omega)
   have W:(⟨3,0,(zUW [n] n z,true).1.Doc,d,[],false,false,[],[]⟩:Note)=zbL (zMN f.Nodes n) d:=by rw [<- o];rfl
   rw [W]
   rw [this,zAA]
   unfold zQJ
   rw [iN m]
theorem zc1 {f:Forest} (hr:zAJ f=true):∀j,InN f.Nodes j->∀a∈zIj f.Nodes j,zMN f.Nodes a=zMN f.Nodes j:=(zAU hr).up_ind fun j F S a d=>by
 have U:=zAU hr
 have r:=(zAs hr).2.2.1
 rw [U.wayU_eq F] at d
 rcases lD.1 d with e | d
 ·rw [e]
 ·by_cases D:upI f.Nodes j = -1
  ·rw [iP D] at d;cases d
  ·rw [iN D] at d
   rw [S D a d]
   obtain ⟨w,o⟩:=zAK F
   obtain ⟨I,N⟩:=U.par j F D
   obtain ⟨q,B⟩:=zAK I
   rw [zMe o,zMe B]
   by_cases G:w.Parent = -1
   ·have E:upI f.Nodes j=w.Host:=by rw [zJ7 o,iP G]
    obtain ⟨u,J,_,_,Q,_⟩:=zWp r o (by rw [<- E];exact D)
    rw [E] at B
    rw [B] at J
    obtain rfl:=lJ.inj J
    exact Q
   ·have E:upI f.Nodes j=w.Parent:=by rw [zJ7 o,iN G]
    obtain ⟨y,H⟩:=zHl hr o G
    have m:=zCU r H.hy
    unfold zHO zFb at m
    simp only [lM,lR] at m
    have hk:=m.2.2.2.1.2.1 j H.mem
    unfold zRZ at hk
    rw [o] at hk
    simp only [lM,beq_iff_eq] at hk
    rw [E,H.hy] at B
    obtain rfl:=lJ.inj B
    exact hk.2.1.symm
def zMV (w:Node) (K:List Int):Node:=⟨w.Kind,w.Name,w.Is,w.Data,w.Attrs,w.Parent,K,w.Host,w.Under,w.Doc⟩
def zZA (l:List Int) (b k:Int):List Int:=zV8 l (if b = -1 then l.length else l.idxOf b) [k]
def zPQ (f:Forest) (k p b:Int):List Node:=match idx f.Nodes p with
 | some y=>(match idx (zLU f k y.Doc) p with
  | some d=>(match idx ((zLU f k y.Doc).set p.toNat (zMV d (zZA d.Kids b k))) k with
   | some e=>((zLU f k y.Doc).set p.toNat (zMV d (zZA d.Kids b k))).set k.toNat (zS1 e p)
   | none=>f.Nodes)
  | none=>f.Nodes)
 | none=>f.Nodes
def zaH (g:Forest) (k:Int):List Note:=if zWW g.Nodes k=true then (zPq g.Nodes k).map (zRk ⟨1,0,0,0,[],false,false,[],[]⟩) else []
def zdo (f:Forest) (k p b:Int):List Note:=zKy f k++zQJ f k (zMN f.Nodes p)++zaH ⟨zPQ f k p b,f.Most⟩ k
structure Part (f:Forest) (k p b:Int) (z y:Node):Prop where
 hz:idx f.Nodes k=some z
 hy:idx f.Nodes p=some y
 kind:z.Kind=1\/z.Kind=2
 holder:zHH y.Kind=true
 free:k∉zIj f.Nodes p
 bef:b = -1\/b∈y.Kids
 bk:b≠k
 crowd:y.Kind=0->zHR f.Nodes p (-1) [k]=false
theorem za1 (l:List Int) (i:Nat) (k:Int):(zV8 l i [k]).Perm (l++[k]):=by
 unfold zV8
 have d:(l.take i++[k]++l.drop i).Perm (l.take i++(l.drop i++[k])):=by
  rw [eS]
  exact List.Perm.append_left _ List.perm_append_comm
 refine d.trans ?_
 rw [<- eS,jP]
section
variable {f:Forest} {k p b:Int} {z y:Node} (hr:zAJ f=true) (P:Part f k p b z y)
include P
theorem Part.parts:zAV k z=[k]:=by
 unfold zAV
 have:=P.kind
 rw [iN (by omega)]
theorem Part.may:May f k p z y where
 hx:=P.hz
 hy:=P.hy
 holder:=P.holder
 over:=by
  rw [iK]
  exact fun h=>P.free (zRo.1 h)
 k0:=by have:=P.kind;omega
 k4:=by have:=P.kind;omega
 crowd h:=by rw [P.parts];exact P.crowd h
include hr
theorem Part.ne:k≠p:=fun e=>P.free (by rw [<- e];exact (zAU hr).wayU_self (zAM P.hz))
theorem zUB {fu:Nat} (hfu:1000<fu):At f.Nodes (zPQ f k p b) (finN f [k] p y.Doc (zZA (y.Kids.filter (fun c => !(([k]:List Int).contains c))) b k) [k])/\idx (zLU f k y.Doc) p=some (zCV f k y.Doc p y)/\zPQ f k p b=((zLU f k y.Doc).set p.toNat (zMV (zCV f k y.Doc p y) (zZA (zCV f k y.Doc p y).Kids b k))).set k.toNat (zS1 (zCV f k y.Doc k z) p)/\idx ((zLU f k y.Doc).set p.toNat (zMV (zCV f k y.Doc p y) (zZA (zCV f k y.Doc p y).Kids b k))) k=some (zCV f k y.Doc k z):=by
 have U:=zAU hr
 have B:=P.ne hr
 have hk:InN f.Nodes k:=zAM P.hz
 have hp:InN f.Nodes p:=zAM P.hy
 have HO:=(zTz (l:=[]) (d:=y.Doc) hr hfu hk (by simp)).1
 have h1:=HO.at_ p y P.hy
 have H1:=HO.set hp (zMV (zCV f k y.Doc p y) (zZA (zCV f k y.Doc p y).Kids b k))
 have G:=H1.at_ k z P.hz
 rw [iN B] at G
 have H2:=H1.set hk (zS1 (zCV f k y.Doc k z) p)
 have e:zPQ f k p b=((zLU f k y.Doc).set p.toNat (zMV (zCV f k y.Doc p y) (zZA (zCV f k y.Doc p y).Kids b k))).set k.toNat (zS1 (zCV f k y.Doc k z) p):=by
  unfold zPQ
  rw [P.hy]
  simp only
  rw [h1]
  simp only
  rw [G]
 refine ⟨?_,h1,e,G⟩
 rw [e]
 refine H2.congr fun j w D=>?_
 have q:∀j,([k]:List Int).contains j=true↔j=k:=fun j=>by rw [e7,e8]
 have E:(([k]:List Int).any fun c=>(zGS f.Nodes c).contains j)=(zGS f.Nodes k).contains j:=by simp
 have hdoc:zMN f.Nodes k=z.Doc:=zMe P.hz
 have m:(zCV f k y.Doc j w).Doc=if (zGS f.Nodes k).contains j=true then y.Doc else w.Doc:=by
  unfold zCV
  by_cases I:zMN f.Nodes k=y.Doc
  ·rw [iP I]
   split
   ·rename_i hc
    have:=zc1 hr j (zAM D) k ((U.all_in k hk j (e7.1 hc)).2)
    rw [zMe D,I] at this
    exact this.symm
   ·rfl
  ·rw [iN I];rfl
 have r:(zCV f k y.Doc j w).Kind=w.Kind/\(zCV f k y.Doc j w).Name=w.Name/\(zCV f k y.Doc j w).Is=w.Is/\(zCV f k y.Doc j w).Data=w.Data/\(zCV f k y.Doc j w).Attrs=w.Attrs/\(zCV f k y.Doc j w).Host=w.Host/\(zCV f k y.Doc j w).Under=w.Under/\(zCV f k y.Doc j w).Parent=(if ([k]:List Int).contains j=true then -1 else w.Parent):=by
  unfold zCV
  split<;>exact ⟨rfl,rfl,rfl,rfl,rfl,rfl,rfl,rfl⟩
 obtain ⟨J,N,Q,S,V,W,X,r8⟩:=r
 have rk:=zSo f k y.Doc j w
 unfold finN
 rw [E]
 by_cases o:j=k
 ·subst o
  have F:w=z:=by
   have:=P.hz
   rw [D] at this
   exact lJ.inj this
  subst F
  rw [iP rfl,iP ((q j).2 rfl),iN B]
  unfold zS1
  rw [J,N,Q,S,V,W,X,m,rk]
 ·rw [iN o,iN fun h=>o ((q j).1 h),iN fun h=>o ((q j).1 h)]
  rw [iN fun h=>o ((q j).1 h)] at r8
  by_cases u:j=p
  ·subst u
   have F:w=y:=by
    have:=P.hy
    rw [D] at this
    exact lJ.inj this
   subst F
   rw [iP rfl,iP rfl]
   unfold zMV
   rw [J,N,Q,S,V,W,X,r8,m,rk]
  ·rw [iN u,iN u]
   rw [<- J,<- N,<- Q,<- S,<- V,<- W,<- X,<- r8,<- m,<- rk]
theorem zUC {fu:Nat} (hfu:1000<fu):∃K,At f.Nodes (zPQ f k p b) (finN f (zAV k z) p y.Doc K (zAV k z))/\K.Perm (y.Kids.filter (fun c => !((zAV k z).contains c))++zAV k z):=by
 rw [P.parts]
 exact ⟨_,(zUB hr P hfu).1,za1 _ _ _⟩
theorem zKu {fu:Nat} (hfu:1000<fu):zAJ ⟨zPQ f k p b,f.Most⟩=true:=by
 obtain ⟨K,H,hK⟩:=zUC hr P hfu
 exact zal (g:=⟨zPQ f k p b,f.Most⟩) hr P.may H hK rfl
theorem zdp {fu:Nat} (hfu:1000<fu):(zPQ f k p b).length=f.Nodes.length:=(zUB hr P hfu).1.len
theorem zYM {fu:Nat} (hfu:1000<fu):(zdo f k p b).length<=1200:=by
 have hk:InN f.Nodes k:=zAM P.hz
 have q:=zMY hr hk
 have o:=(zTz (l:=[]) (d:=zMN f.Nodes p) hr hfu hk (by simp)).2.1
 have e:=zKu hr P hfu
 have m:InN (zPQ f k p b) k:=by unfold InN at hk ⊢;rw [zdp hr P hfu];exact hk
 have r:(zaH ⟨zPQ f k p b,f.Most⟩ k).length<=400:=by
  unfold zaH
  split
  ·have:=(zAU e).all_len m
   have o:(zPq (zPQ f k p b) k).length<=(zGS (zPQ f k p b) k).length:=iT _ _
   have:=(zAs e).2.1
   simp only [lL] at *
   omega
  ·simp
 unfold zdo
 simp only [eR]
 omega
theorem zbk {fu:Nat} {i K:Nat} {l:List Note} (hfu:1000<fu) (hi:i<L.length) (hk:L[i]=k) (hL:L.length<=1000) (hl:l.length<=300000000) :
  zA2 fu p b f.Most L (K+1) ((i:Int),zJY f.Nodes,l)=zA2 fu p b f.Most L K (((i+1:Nat):Int),zJY (zPQ f k p b),l++zdo f k p b):=by
 have U:=zAU hr
 have hs:=zAI hr
 have e:InN f.Nodes k:=zAM P.hz
 obtain ⟨G,N,h2,h3⟩:=zUB hr P hfu
 have q:=zKu hr P hfu
 have E:InN (zPQ f k p b) k:=by unfold InN at e ⊢;rw [G.len];exact e
 obtain ⟨-,ho2,J⟩:=zTz (l:=l) (d:=y.Doc) hr hfu e (by omega)
 have hwl:=zMY hr e
 have o:=zSo f k y.Doc p y
 have hkl:(zCV f k y.Doc p y).Kids.length<=400:=by
  rw [o]
  exact Nat.le_trans (iT _ _) (hs.kids y (zIh P.hy))
 have u:zMN f.Nodes p=y.Doc:=zMe P.hy
 have F:∀(at_:Nat),at_<=(zCV f k y.Doc p y).Kids.length->zZA (zCV f k y.Doc p y).Kids b k=zV8 (zCV f k y.Doc p y).Kids at_ [k]->zFO fu p f.Most (i:Int) k (zJY (zLU f k y.Doc),l++zKy f k++zQJ f k y.Doc) (zCV f k y.Doc p y,true) (zA2 fu p b f.Most L K) ((at_:Nat):Int)=zA2 fu p b f.Most L K (((i+1:Nat):Int),zJY (zPQ f k p b),l++zdo f k p b):=by
  intro at_ hat D
  unfold zFO
  rw [zHJ N,zAA]
  simp only
  have B:zMg fu (zCV f k y.Doc p y).Kids ((at_:Nat):Int) [k]=some (zZA (zCV f k y.Doc p y).Kids b k):=by
   unfold zMg
   rw [iP ⟨by omega,by omega,by simp,by simp only [cP,eK];omega⟩,D]
   rfl
  rw [B,zAA,zAA]
  have V:(⟨(zCV f k y.Doc p y).Kind,(zCV f k y.Doc p y).Name,(zCV f k y.Doc p y).Is,(zCV f k y.Doc p y).Data,(zCV f k y.Doc p y).Attrs,(zCV f k y.Doc p y).Parent,zZA (zCV f k y.Doc p y).Kids b k,(zCV f k y.Doc p y).Host,(zCV f k y.Doc p y).Under,(zCV f k y.Doc p y).Doc⟩:Node)=zMV (zCV f k y.Doc p y) (zZA (zCV f k y.Doc p y).Kids b k):=rfl
  rw [V,zMo,zHJ h3,zAA]
  simp only
  have W:(⟨(zCV f k y.Doc k z).Kind,(zCV f k y.Doc k z).Name,(zCV f k y.Doc k z).Is,(zCV f k y.Doc k z).Data,(zCV f k y.Doc k z).Attrs,p,(zCV f k y.Doc k z).Kids,(zCV f k y.Doc k z).Host,(zCV f k y.Doc k z).Under,(zCV f k y.Doc k z).Doc⟩:Node)=zS1 (zCV f k y.Doc k z) p:=rfl
  rw [W,zMo,<- h2,zLV,zWA (f:=⟨zPQ f k p b,f.Most⟩) (zAI q) hfu q E,zAA]
  have X:∀m,l++zKy f k++zQJ f k y.Doc++m=l++(zKy f k++zQJ f k y.Doc++m):=fun m=>by simp only [eS]
  cases Q:zWW (zPQ f k p b) k with
  | false =>
   rw [zAF,zBv (by omega),zAA]
   unfold zdo zaH
   rw [u,iN (by rw [Q];simp),gI,<- eS]
  | true =>
   have S:=zUN (f:=⟨zPQ f k p b,f.Most⟩) (x:=⟨1,0,0,0,[],false,false,[],[]⟩) (l:=l++zKy f k++zQJ f k y.Doc) ((zAI q).fit hfu) hfu E (by simp only [eR];omega)
   simp only at S
   rw [zAW,S,zAA,zBv (by omega),zAA,X]
   unfold zdo zaH zPp
   rw [u,iP q,iP Q]
 simp only [zA2]
 rw [zAP (by simpa using hi),zAQ hi,zAA,hk,zHJ P.hy,zAA,J,zAA,zHJ N,zAA,show zT0 (zCV f k y.Doc p y,true).2=some () from rfl,zAA,zAd]
 by_cases r:b = -1
 ·rw [iP r]
  exact F _ (cB _) (by unfold zZA;rw [iP r])
 ·rw [iN r,zAA,zS0 (by simp only;omega) (by simp only;omega),zAA]
  have I:b∈(zCV f k y.Doc p y).Kids:=by
   rw [o,iI]
   refine ⟨P.bef.resolve_left r,?_⟩
   rw [gM,iK]
   intro h
   rw [e7,e8] at h
   exact P.bk h
  obtain ⟨g1,g2⟩:=zTg I
  simp only
  rw [g1]
  exact F _ (by omega) (by unfold zZA;rw [iN r])
end
end
section
inductive Mv:Nat->Forest->Forest->List Note->Prop
 | refl (f:Forest):Mv 0 f f []
 | out {m:Nat} {f g:Forest} {l:List Note} {n:Int}:Mv m f g l->InN g.Nodes n->Mv (m+1) f ⟨zNW g.Nodes n,g.Most⟩ (l++zKy g n)
 | put {m:Nat} {f g:Forest} {l:List Note} {k p b:Int} {z y:Node}:Mv m f g l->Part g k p b z y->Mv (m+1) f ⟨zPQ g k p b,g.Most⟩ (l++zdo g k p b)
def zOB (a b:List Node):Prop:=b.length=a.length/\∀j w,idx a j=some w->∃v,idx b j=some v/\v.Kind=w.Kind/\v.Name=w.Name/\v.Is=w.Is/\v.Data=w.Data/\v.Attrs=w.Attrs/\v.Host=w.Host/\v.Under=w.Under
theorem zOB.refl (a:List Node):zOB a a:=⟨rfl,fun _ w h=>⟨w,h,rfl,rfl,rfl,rfl,rfl,rfl,rfl⟩⟩
theorem zOB.trans {a b c:List Node} (d:zOB a b) (e:zOB b c):zOB a c:=by
 refine ⟨e.1.trans d.1,fun j w G=>?_⟩
 obtain ⟨v,m,o,q,r,B,D,E,F⟩:=d.2 j w G
 obtain ⟨u,I,J,N,k4,Q,S,V,W⟩:=e.2 j v m
 exact ⟨u,I,J.trans o,N.trans q,k4.trans r,Q.trans B,S.trans D,V.trans E,W.trans F⟩
theorem zOB.isB {a b:List Node} (h:zOB a b) {n k:Int}:isB b n k=isB a n k:=by
 cases d:idx a n with
 | none =>
  have:idx b n=none:=by
   by_cases e:0<=n/\n<b.length
   ·rw [h.1] at e
    obtain ⟨x,hx⟩:=zAK e
    rw [d] at hx;cases hx
   ·exact zCu e
  unfold Proofs.YtmfbghpealgaiaaGreatDoor.isB;rw [d,this]
 | some w =>
  obtain ⟨v,m,o,_⟩:=h.2 n w d
  unfold Proofs.YtmfbghpealgaiaaGreatDoor.isB;rw [d,m];simp only [o]
theorem At.same {a b:List Node} (H:At a b h) (e:∀j w,idx a j=some w->(h j w).Kind=w.Kind/\(h j w).Name=w.Name/\(h j w).Is=w.Is/\(h j w).Data=w.Data/\(h j w).Attrs=w.Attrs/\(h j w).Host=w.Host/\(h j w).Under=w.Under):zOB a b :=
 ⟨H.len,fun j w d=>⟨_,H.at_ j w d,e j w d⟩⟩
theorem zVU {f:Forest} (hr:zAJ f=true) {n:Int} (d:InN f.Nodes n):zOB f.Nodes (zNW f.Nodes n):=At.same (zTx hr d) fun _ _ _=>⟨rfl,rfl,rfl,rfl,rfl,rfl,rfl⟩
theorem zVe {f:Forest} (hr:zAJ f=true) {k p b:Int} {z y:Node} (P:Part f k p b z y):zOB f.Nodes (zPQ f k p b):=At.same (zUB hr P (fu:=1001) (by omega)).1 fun _ _ _=>⟨rfl,rfl,rfl,rfl,rfl,rfl,rfl⟩
theorem Mv.all {m:Nat} {f g:Forest} {l:List Note} (h:Mv m f g l) (hr:zAJ f=true):zAJ g=true/\g.Most=f.Most/\zOB f.Nodes g.Nodes/\l.length<=1200*m:=by
 induction h with
 | refl f=>exact ⟨hr,rfl,zOB.refl _,by simp⟩
 | out _ q r =>
  obtain ⟨d,e,o,u⟩:=r hr
  have:=zMY d q
  exact ⟨zMm d q,e,o.trans (zVU d q),by simp only [eR];omega⟩
 | put _ P r =>
  obtain ⟨d,e,o,u⟩:=r hr
  have:=zYM d P (fu:=1001) (by omega)
  exact ⟨zKu d P (fu:=1001) (by omega),e,o.trans (zVe d P),by simp only [eR];omega⟩
theorem Mv.trans {m n:Nat} {f g h:Forest} {l o:List Note} (d:Mv m f g l) (q:Mv n g h o):Mv (m+n) f h (l++o):=by
 induction q with
 | refl g=>simpa using d
 | out _ r e=>rw [<- eS];exact .out (e d) r
 | put _ P e=>rw [<- eS];exact .put (e d) P
theorem zdW {f:Forest} (hr:zAJ f=true) {n:Int} (m:InN f.Nodes n) {j:Int} (e:InN f.Nodes j) (o:n∉zIj f.Nodes j):zIj (zNW f.Nodes n) j=zIj f.Nodes j:=by
 obtain ⟨z,hz⟩:=zAK m
 by_cases d:z.Parent = -1
 ·rw [zQd hz d]
 ·obtain ⟨y,H⟩:=zHl hr hz d
  rw [zOk H d]
  exact zgC H hr j e o
theorem zdq {f:Forest} (hr:zAJ f=true) {k p b:Int} {z y:Node} (P:Part f k p b z y):∀j,InN f.Nodes j->k∉zIj f.Nodes j->zIj (zPQ f k p b) j=zIj f.Nodes j:=(zAU hr).up_ind fun j d r hk=>by
 have U:=zAU hr
 have q:=zKu hr P (fu:=1001) (by omega)
 have V:=zAU q
 obtain ⟨K,H,hK⟩:=zUC hr P (fu:=1001) (by omega)
 have e:=U.wayU_eq d
 rw [e] at hk
 have o:j∉zAV k z:=by
  rw [P.parts,e8]
  exact fun h=>hk (by rw [h];simp)
 have m:InN (zPQ f k p b) j:=by unfold InN at d ⊢;rw [H.len];exact d
 rw [e,V.wayU_eq m,zam (g:=⟨zPQ f k p b,f.Most⟩) P.may H d,iN o]
 by_cases h:upI f.Nodes j = -1
 ·rw [iP h,iP h]
 ·rw [iN h] at hk
  rw [iN h,iN h,r h fun hm=>hk (lG _ hm)]
structure PI (g:Forest) (p b:Int) (M:List Int):Prop where
 hr:zAJ g=true
 parts:∀k∈M,∃z,idx g.Nodes k=some z/\(z.Kind=1\/z.Kind=2)/\k∉zIj g.Nodes p
 nod:M.Nodup
 bM:b∉M
 par:∃y,idx g.Nodes p=some y/\zHH y.Kind=true/\(b = -1\/b∈y.Kids)/\(y.Kind=0->M.length<=1/\∀k∈M,zHR g.Nodes p (-1) [k]=false)
theorem PI.part {g:Forest} {p b k:Int} {M:List Int} (h:PI g p b M) (hk:k∈M):∃z y,Part g k p b z y:=by
 obtain ⟨z,hz,m,d⟩:=h.parts k hk
 obtain ⟨y,hy,u,q,r⟩:=h.par
 exact ⟨z,y,hz,hy,m,u,d,q,fun e=>h.bM (e▸hk),fun o=>(r o).2 k hk⟩
theorem PI.next {g:Forest} {p b k:Int} {M:List Int} (h:PI g p b (k::M)):PI ⟨zPQ g k p b,g.Most⟩ p b M:=by
 obtain ⟨z,y,P⟩:=h.part (lH ..)
 have G:=zKu h.hr P (fu:=1001) (by omega)
 have E:=zVe h.hr P
 have d:InN g.Nodes p:=zAM P.hy
 have I:=lS.1 h.nod
 refine ⟨G,fun c r=>?_,I.2,fun o=>h.bM (lG _ o),?_⟩
 ·obtain ⟨w,J,hk,F⟩:=h.parts c (lG _ r)
  obtain ⟨v,q,m,_⟩:=E.2 c w J
  exact ⟨v,q,by rw [m];exact hk,by rw [zdq h.hr P p d P.free];exact F⟩
 ·obtain ⟨K,H,hK⟩:=zUC h.hr P (fu:=1001) (by omega)
  obtain ⟨v,q,m,_,_,_,_,B,_⟩:=zKk (g:=⟨zPQ g k p b,g.Most⟩) H P.hy
  refine ⟨v,q,by rw [m];exact P.holder,?_,fun u=>?_⟩
  ·by_cases o:b = -1
   ·exact .inl o
   ·right
    rw [B,iP rfl,zcl hK,P.parts]
    exact .inl ⟨P.bef.resolve_left o,by rw [e8];exact P.bk⟩
  ·obtain ⟨N,e,_,_,r⟩:=h.par
   rw [P.hy] at e
   obtain rfl:=lJ.inj e
   have:=(r (by rw [<- m];exact u)).1
   have D:M=[]:=by
    simp only [cP] at this
    exact List.length_eq_zero_iff.1 (by omega)
   subst D
   exact ⟨by simp,fun k hk=>by cases hk⟩
theorem PI.out {g:Forest} {p b c:Int} {M:List Int} (h:PI g p b M) (J:c∈M):PI ⟨zNW g.Nodes c,g.Most⟩ p b M:=by
 obtain ⟨z,y,P⟩:=h.part J
 have m:InN g.Nodes c:=zAM P.hz
 have u:InN g.Nodes p:=zAM P.hy
 have W:=zMm h.hr m
 have E:=zVU h.hr m
 have I:=zTx h.hr m
 refine ⟨W,fun k hk=>?_,h.nod,h.bM,?_⟩
 ·obtain ⟨w,hw,F,V⟩:=h.parts k hk
  obtain ⟨v,N,Q,_⟩:=E.2 k w hw
  exact ⟨v,N,by rw [Q];exact F,by rw [zdW h.hr m u P.free];exact V⟩
 ·obtain ⟨y',B,X,S,r⟩:=h.par
  rw [P.hy] at B
  obtain rfl:=lJ.inj B
  refine ⟨_,I.at_ p y P.hy,X,?_,fun G=>⟨(r G).1,fun k hk=>?_⟩⟩
  ·by_cases o:b = -1
   ·exact .inl o
   ·right
    unfold zUW
    simp only
    rw [iI]
    refine ⟨S.resolve_left o,?_⟩
    rw [gM,iK]
    intro D
    rw [e7,e8] at D
    exact h.bM (D▸J)
  ·have d:=(r G).2 k hk
   unfold zHR at d ⊢
   rw [P.hy] at d
   rw [I.at_ p y P.hy]
   have m1:∀q,zGA (zNW g.Nodes c) (-1) [k] q=zGA g.Nodes (-1) [k] q:=fun q=>by
    unfold zGA
    exact iJ fun j _=>by rw [E.isB]
   have m2:zGA (zNW g.Nodes c) (-1) (zUW [c] p y).Kids 1<=zGA g.Nodes (-1) y.Kids 1:=by
    have e:zGA (zNW g.Nodes c) (-1) (zUW [c] p y).Kids 1=zGA g.Nodes (-1) (zUW [c] p y).Kids 1:=by
     unfold zGA
     exact iJ fun j _=>by rw [E.isB]
    rw [e]
    unfold zGA zUW
    simp only
    exact iR.countP_le
   simp only [m1]
   simp only [iU,jJ,decide_eq_false_iff_not] at d ⊢
   refine ⟨d.1,d.2.imp id fun D=>?_⟩
   omega
theorem puts6 {fu:Nat} {p b:Int} (hfu:1000<fu) (I:L.length<=400):∀(M:List Int) (i K:Nat) (g:Forest) (l:List Note),L.drop i=M->i<=L.length->M.length<K->PI g p b M->l.length+1200*M.length<=300000000 ->
  ∃h o,Mv M.length g h o/\zA2 fu p b g.Most L K ((i:Int),zJY g.Nodes,l)=some (zJY h.Nodes,l++o):=by
 intro M
 induction M with
 | nil =>
  intro i K g l e hi hK _ _
  obtain ⟨K,rfl⟩:∃q,K=q+1:=⟨K - 1,by simp at hK;omega⟩
  have:i=L.length:=by
   have:=congrArg iM e
   simp at this
   omega
  subst this
  refine ⟨g,[],.refl g,?_⟩
  simp only [zA2]
  rw [zAO (by simp),gI]
 | cons k M G =>
  intro i K g l e hi hK m E
  obtain ⟨K,rfl⟩:∃q,K=q+1:=⟨K - 1,by simp at hK;omega⟩
  have d:i<L.length:=by
   rcases Nat.lt_or_ge i L.length with h | h
   ·exact h
   ·rw [List.drop_of_length_le h] at e;cases e
  have u:L[i]=k:=by
   have:=eT d
   rw [e] at this
   exact (dU.inj this).1.symm
  have r:L.drop (i+1)=M:=by
   have:=eT d
   rw [e] at this
   exact (dU.inj this).2.symm
  obtain ⟨z,y,P⟩:=m.part (lH ..)
  have F:=zYM m.hr P (fu:=1001) (by omega)
  simp only [cP] at E hK
  obtain ⟨h,o,B,D⟩:=G (i+1) K ⟨zPQ g k p b,g.Most⟩ (l++zdo g k p b) r (by omega) (by omega) m.next (by simp only [eR];omega)
  refine ⟨h,zdo g k p b++o,?_,?_⟩
  ·have:=(Mv.put (.refl g) P).trans B
   rw [iS] at this
   rw [cP,Nat.add_comm M.length 1]
   simpa using this
  ·rw [zbk m.hr P hfu d u (by omega) (by omega)]
   rw [D,eS]
theorem outs6 {fu:Nat} {p b:Int} (hfu:1000<fu) (I:L.length<=400):∀(m i K:Nat) (g:Forest) (l:List Note),i+m=L.length->m<K->PI g p b L->l.length+1200*m<=300000000 ->
  ∃h q,Mv m g h q/\PI h p b L/\zEE fu p b g.Most L K ((i:Int),zJY g.Nodes,l)=zED fu p b g.Most L (zJY h.Nodes,l++q):=by
 intro m
 induction m with
 | zero =>
  intro i K g l hi hK o _
  obtain ⟨K,rfl⟩:∃r,K=r+1:=⟨K - 1,by omega⟩
  obtain rfl:i=L.length:=by omega
  refine ⟨g,[],.refl g,o,?_⟩
  simp only [zEE]
  rw [zAO (by simp),gI]
 | succ m G =>
  intro i K g l hi hK o J
  obtain ⟨K,rfl⟩:∃r,K=r+1:=⟨K - 1,by omega⟩
  have e:i<L.length:=by omega
  have d:L[i]∈L:=gC e
  obtain ⟨z,y,P⟩:=o.part d
  have u:InN g.Nodes L[i]:=zAM P.hz
  have F:=zMY o.hr u
  obtain ⟨h,q,B,D,E⟩:=G (i+1) K ⟨zNW g.Nodes L[i],g.Most⟩ (l++zKy g L[i]) (by omega) (by omega) (o.out d) (by simp only [eR];omega)
  refine ⟨h,zKy g L[i]++q,?_,D,?_⟩
  ·have:=(Mv.out (.refl g) u).trans B
   rw [iS] at this
   rw [show m+1=0+1+m by omega]
   exact this
  ·simp only [zEE]
   rw [zAP (by simpa using e),zAQ e,zAA,zW2 o.hr hfu u (by omega),zAA,zBv (by omega),zAA,E,eS]
theorem parts6 {fu:Nat} {g:Forest} {n:Int} {x:Node} (hr:zAJ g=true) (hfu:1000<fu) (hx:idx g.Nodes n=some x):zIu fu g n=some (zAV n x):=by
 have hs:=zAI hr
 have d:=hs.kids x (zIh hx)
 unfold zIu zAV
 rw [zKx hfu (hs.fit hfu) hr (by simp),zAA]
 simp only [cK,iX,zRX (show InN g.Nodes n from zAM hx),iY,iE,zAF]
 rw [hx,zAA,zBD,zAA,zUx (by omega),zAA]
 split<;>rfl
theorem zgR {fu:Nat} {g:Forest} {n p b:Int} {x:Node} {l:List Note} (hfu:1000<fu) (hx:idx g.Nodes n=some x) (m:PI g p b (zAV n x)) (Q:l.length<=1000) :
  ∃h o,Mv ((if x.Kind=3 then (zAV n x).length else 0)+(zAV n x).length) g h o/\zEl fu n p b g.Most (zJY g.Nodes) l=some (zJY h.Nodes,l++o):=by
 have hs:=zAI m.hr
 have d:(zAV n x).length<=400:=by
  unfold zAV
  split
  ·exact hs.kids x (zIh hx)
  ·simp
 unfold zEl
 rw [zLV,parts6 m.hr hfu hx,zAA,zHJ hx,zAA,zBD]
 by_cases e:x.Kind=3
 ·rw [iP e,iP e]
  obtain ⟨E,u,B,D,r⟩:=outs6 (L:=zAV n x) hfu d (zAV n x).length 0 fu g l (by omega) (by omega) m (by omega)
  obtain ⟨-,hm,-,I⟩:=B.all m.hr
  obtain ⟨h,J,N,q⟩:=puts6 (L:=zAV n x) hfu d (zAV n x) 0 fu E (l++u) rfl (by omega) (by omega) D (by simp only [eR];omega)
  refine ⟨h,u++J,B.trans N,?_⟩
  rw [hm] at q
  rw [show ((0:Nat):Int)=0 from rfl] at r q
  rw [r]
  unfold zED
  exact q.trans (by rw [eS])
 ·rw [iN e,iN e]
  unfold zED
  obtain ⟨h,o,F,G⟩:=puts6 (L:=zAV n x) hfu d (zAV n x) 0 fu g l rfl (by omega) (by omega) m (by unfold zAV;rw [iN e];simp;omega)
  exact ⟨h,o,by rw [dA];exact F,G⟩
end
section
theorem zRf (b:UInt8):(zGM b).toNat=if upB b=true then b.toNat+32 else b.toNat:=by
 unfold zGM
 by_cases h:upB b=true
 ·rw [iP h,iP h,UInt8.toNat_add]
  have d:(32:UInt8).toNat=32:=rfl
  unfold upB at h
  simp only [lM,decide_eq_true_eq] at h
  omega
 ·rw [iN h,iN h]
theorem zbE (b:UInt8):upB (zGM b)=false:=by
 have:=zRf b
 unfold upB at this ⊢
 simp only [lM,decide_eq_true_eq,jJ,decide_eq_false_iff_not] at this ⊢
 split at this<;>omega
theorem zWu (b:UInt8):zGM (zGM b)=zGM b:=by
 have h:∀c:UInt8,upB c=false->zGM c=c:=fun c d=>by
  unfold zGM
  rw [iN (by rw [d];simp)]
 exact h _ (zbE b)
theorem zbD (s:Bs):(s.map zGM).map zGM=s.map zGM:=by
 rw [iV]
 exact iL fun b _=>zWu b
theorem zZH {b:UInt8} (h:zPU b=true):zPU (zGM b)=true:=by
 have:=zRf b
 unfold zPU zbB upB at *
 simp only [dD,lM,decide_eq_true_eq] at *
 split at this<;>omega
theorem zZG {b:UInt8} (h:zY9 b=true):zY9 (zGM b)=true:=by
 have:=zRf b
 unfold zY9 zbB upB at *
 simp only [dD,lM,decide_eq_true_eq] at *
 split at this<;>omega
theorem zXE (h:zFq s=true):zFq (s.map zGM)=true:=by
 unfold zFq at *
 simp only [lM,decide_eq_true_eq,lL,lR,lE] at *
 obtain ⟨⟨⟨e,m⟩,o⟩,d⟩:=h
 refine ⟨⟨⟨e,m⟩,?_⟩,?_⟩
 ·rintro x ⟨b,q,rfl⟩
  exact zZH (o b q)
 ·cases s with
  | nil=>cases d
  | cons b t=>exact zZG d
theorem zaq (h:zFq s=true):zWg (s.map zGM)=true:=by
 unfold zWg
 rw [zXE h,zbD]
 simp
theorem zXc (h:zIv l=true):l.length<=40:=by
 unfold zIv at h
 simp only [lM,decide_eq_true_eq] at h
 exact h.1
theorem zZ2 {fu:Nat} (e:l.length<=1000000) (d:l.length<fu):zJm fu l s=some (zJ4 l fun a=>a.Name==s):=by
 unfold zJm zBH
 rw [zUR (L:=zAY _ l) l (fun a=>a.Name==s) (fun i hi k=>?_) (fun k=>?_) d,zAA]
 ·simp only [zAY]
  rw [zAP (by simpa using hi),zAQ hi,zAA]
  unfold zGD
  rw [zAA,zBv (by omega),zAA]
  cases l[i].Name==s<;>rfl
 ·simp only [zAY]
  rw [zAO (by simp)]
def zLt (l:List Attr) (n:Bs):Bs×Int×Int:=if zIv l=true then (if zFq n=true then (n.map zGM,zJ4 l (fun a=>a.Name==n.map zGM),0) else ([],-1,4)) else ([],-1,1)
theorem zXa {fu:Nat} {n:Bs} (hfu:200<fu):zGU fu l n=some (zLt l n):=by
 unfold zGU zLt
 rw [zPj hfu,zAA]
 by_cases h:zIv l=true
 ·have:=zXc h
  rw [h,zXt hfu,zAA,iP rfl]
  by_cases hr:zFq n=true
  ·rw [iP hr,iP hr,zZ2 (by omega) (by omega),zAA]
   rfl
  ·rw [iN hr,iN hr];rfl
 ·have d:zIv l=false:=by cases e:zIv l with
   | false=>rfl
   | true=>exact absurd e h
  rw [iN h,d];rfl
theorem zTR {n:Bs}:(zLt l n).2.1<0\/∃(i:Nat) (_:i<l.length),(zLt l n).2.1=(i:Int)/\zIv l=true/\(zLt l n).2.2=0:=by
 unfold zLt
 by_cases h:zIv l=true
 ·rw [iP h]
  by_cases hr:zFq n=true
  ·rw [iP hr]
   simp only
   cases e:l.any (fun a=>a.Name==n.map zGM) with
   | false=>left;rw [zRs e];omega
   | true =>
    obtain ⟨i,hi,d,_⟩:=zRr e
    exact .inr ⟨i,hi,d,h,trivial⟩
  ·rw [iN hr];left;simp only;omega
 ·rw [iN h];left;simp only;omega
def zcm (l:List Attr) (n:Bs):Bs×Bool:=match idx l (zLt l n).2.1 with
 | some a=>(a.Value,true)
 | none=>([],false)
theorem zRB {fu:Nat} {n:Bs} (hfu:200<fu):zFs fu l n=some (zcm l n):=by
 unfold zFs zcm
 rw [zXa hfu,zAA,zAN]
 rcases zTR (l:=l) (n:=n) with h | ⟨i,hi,h,_⟩
 ·rw [iP h,zCu (by omega)]
 ·rw [iN (by omega),h,zAQ hi];rfl
theorem zUm {fu:Nat} (h:l.length<=1000000):zAl fu l=some l:=by
 unfold zAl
 rw [zBF (by simp;omega),zAA,iS]
theorem zcs {i:Nat} (h:zIv l=true) (hi:i<l.length) {v:Bs} (r:v.length<=200):zIv (l.set i ⟨l[i].Name,v⟩)=true:=by
 unfold zIv at h ⊢
 simp only [lM,decide_eq_true_eq,lR,eE] at h ⊢
 obtain ⟨o,m,q⟩:=h
 refine ⟨o,fun a d=>?_,?_⟩
 ·rcases dT d with d | rfl
  ·exact m a d
  ·exact ⟨(m _ (gC hi)).1,r⟩
 ·rw [dK]
  have:(l.map (·.Name)).set i l[i].Name=l.map (·.Name):=by
   have e:l[i].Name=(l.map (·.Name))[i]'(by simpa using hi):=by simp
   rw [e];exact jB _
  simpa only [this] using q
theorem zcr {v:Bs} (h:zIv l=true) (D:l.length≠40) (hs:zWg s=true) (u:v.length<=200) (r:l.any (fun a=>a.Name==s)=false):zIv (l++[⟨s,v⟩])=true:=by
 unfold zIv at h ⊢
 simp only [lM,decide_eq_true_eq,lR,eR,cP,eK,cA,e8] at h ⊢
 obtain ⟨B,o,q⟩:=h
 refine ⟨by omega,fun a d=>?_,?_⟩
 ·rcases d with d | rfl
  ·exact o a d
  ·exact ⟨hs,u⟩
 ·rw [gG,dM]
  refine ⟨q,by simp,fun x hx y hy e=>?_⟩
  simp only [lT,List.map_nil,e8] at hy
  subst hy
  obtain ⟨a,d,m⟩:=lE.1 hx
  have:=(gK.1 r) a d
  simp only [beq_iff_eq] at this
  exact this (m.trans e)
def zfD (l:List Attr) (n v:Bs):List Attr×Int :=
 if (zLt l n).2.2≠0 then (l,(zLt l n).2.2)
 else if 200<v.length then (l,3)
 else match idx l (zLt l n).2.1 with
  | some a=>(l.set (zLt l n).2.1.toNat ⟨a.Name,v⟩,0)
  | none=>if l.length=40 then (l,3) else (l++[⟨(zLt l n).1,v⟩],0)
theorem zfE {fu:Nat} {n v:Bs} (hfu:200<fu) (o:l.length<=1000000):zKQ fu l n v=some (zfD l n v):=by
 unfold zKQ zfD
 rw [zXa hfu,zAA,zUm o,zAA,zAd]
 by_cases e:(zLt l n).2.2=0
 ·rw [iP e,iN (by simpa using e),zAN]
  by_cases m:200<v.length
  ·rw [iP (by omega),iP m]
  ·rw [iN (by omega),iN m,zAN]
   rcases zTR (l:=l) (n:=n) with h | ⟨i,hi,h,_⟩
   ·rw [iN (by omega),zCu (by omega),zBD]
    by_cases d:l.length=40
    ·rw [iP (by omega)];simp only;rw [iP d]
    ·rw [iN (by omega),zBF (by simp;omega),zAA];simp only;rw [iN d]
   ·rw [iP (by omega),h,zAQ hi,zAA]
 ·rw [iN e,iP e]
theorem zYq {n v:Bs} (h:(zfD l n v).2=0):zIv (zfD l n v).1=true:=by
 unfold zfD at h ⊢
 by_cases d:(zLt l n).2.2=0
 ·rw [iN (by simpa using d)] at h ⊢
  by_cases u:200<v.length
  ·rw [iP u] at h;simp only at h;omega
  ·rw [iN u] at h ⊢
   rcases zTR (l:=l) (n:=n) with m | ⟨i,hi,m,hr,_⟩
   ·have D:idx l (zLt l n).2.1=none:=zCu (by omega)
    rw [D] at h ⊢
    simp only at h ⊢
    have o:zIv l=true/\zFq n=true:=by
     unfold zLt at d
     by_cases q:zIv l=true
     ·by_cases r:zFq n=true
      ·exact ⟨q,r⟩
      ·rw [iP q,iN r] at d;simp only at d;omega
     ·rw [iN q] at d;simp only at d;omega
    have B:zLt l n=(n.map zGM,zJ4 l (fun a=>a.Name==n.map zGM),0):=by unfold zLt;rw [iP o.1,iP o.2]
    by_cases e:l.length=40
    ·rw [iP e] at h;simp only at h;omega
    ·rw [iN e]
     rw [B] at m ⊢
     exact zcr o.1 e (zaq o.2) (by omega) (zSt.1 m)
   ·rw [m,zAQ hi]
    exact zcs hr hi (by omega)
 ·rw [iP d] at h;exact absurd h d
end
section
def bare (x:Node):Node:=⟨x.Kind,[],[],[],[],x.Parent,x.Kids,x.Host,x.Under,x.Doc⟩
theorem zKJ {d:Type} {l:List α} {g : α -> d} {n:Int}:idx (l.map g) n=(idx l n).map g:=by
 unfold idx
 split<;>simp
section
variable (ns:List Node)
theorem zQQ (n k:Int):isB (ns.map bare) n k=isB ns n k:=by
 unfold isB;rw [zKJ];cases idx ns n<;>rfl
theorem zWM (n:Int):upI (ns.map bare) n=upI ns n:=by
 unfold upI;rw [zKJ];cases idx ns n<;>rfl
theorem zO5:∀(k:Nat) (n:Int),zBp (ns.map bare) k n=zBp ns k n
 | 0,_=>rfl
 | k+1,n=>by simp only [zBp,zWM,zO5 k]
def zdM (n:Int) (x:Node):Bool:=zNX ns n x&&(zLu ns n x&&(zFb ns n x&&(zPJ ns n x&&zLj ns n x)))
theorem zUn (n:Int) (x:Node):zdM (ns.map bare) n (bare x)=zdM ns n x:=by
 have e:zNX (ns.map bare) n (bare x)=zNX ns n x:=by unfold zNX;rw [zQQ];rfl
 have m:zLu (ns.map bare) n (bare x)=zLu ns n x:=by
  show (x.Parent == -1||((x.Kind==1||x.Kind==2)&&(match idx (ns.map bare) x.Parent with | some p=>zHH p.Kind&&p.Kids.contains n | none=>false)))=_
  unfold zLu
  rw [zKJ];cases idx ns x.Parent<;>rfl
 have o:zRZ (ns.map bare) n (bare x)=zRZ ns n x:=funext fun k=>by
  unfold zRZ;rw [zKJ];cases idx ns k<;>rfl
 have q:zFb (ns.map bare) n (bare x)=zFb ns n x:=by
  have d:isB (ns.map bare)=isB ns:=funext fun a=>funext fun b=>zQQ ns a b
  unfold zFb zBo
  rw [o,d]
  rfl
 have r:zPJ (ns.map bare) n (bare x)=zPJ ns n x:=by
  show (if x.Kind=4 then (match idx (ns.map bare) x.Host with | some h=>h.Kind==1&&(h.Under==n&&h.Doc==x.Doc) | none=>false) else x.Host == -1)=_
  unfold zPJ
  rw [zKJ];cases idx ns x.Host<;>rfl
 have B:zLj (ns.map bare) n (bare x)=zLj ns n x:=by
  show (x.Under == -1||(x.Kind==1&&(match idx (ns.map bare) x.Under with | some u=>u.Kind==4&&u.Host==n | none=>false)))=_
  unfold zLj
  rw [zKJ];cases idx ns x.Under<;>rfl
 unfold zdM
 rw [e,m,q,r,B]
end
theorem zMl {ns:List Node} {n:Int} {x:Node}:zHO ns n x=(zIn x&&zdM ns n x):=rfl
theorem zYr {f g:Forest} (hr:zAJ f=true) (d:g.Nodes.map bare=f.Nodes.map bare) (hm:g.Most=f.Most) (J:∀x∈g.Nodes,zIn x=true):zAJ g=true:=by
 have r:g.Nodes.length=f.Nodes.length:=by have:=congrArg iM d;simpa using this
 unfold zAJ at hr ⊢
 simp only [lM,decide_eq_true_eq] at hr ⊢
 obtain ⟨B,D,E,F,G,I,o⟩:=hr
 refine ⟨by rw [hm];exact B,by rw [hm];exact D,by rw [r];exact E,by rw [hm,r];exact F,?_,?_,?_⟩
 ·rw [<- zQQ,d,zQQ];exact G
 ·unfold zHU
  rw [lR]
  intro i hi
  rw [List.mem_range] at hi
  rw [lC hi]
  simp only
  have m:i<f.Nodes.length:=by omega
  have q:=zCU I (zAQ m)
  rw [zMl] at q ⊢
  have e:bare g.Nodes[i]=bare f.Nodes[i]:=by
   have u:(g.Nodes.map bare)[i]? = (f.Nodes.map bare)[i]? := by rw [d]
   rw [lK,lK,lC hi,lC m] at u
   exact lJ.inj u
  simp only [lM] at q ⊢
  refine ⟨J _ (gC hi),?_⟩
  rw [<- zUn,d,e,zUn]
  exact q.2
 ·unfold zQH at o ⊢
  rw [r]
  rw [lR] at o ⊢
  intro i hi
  rw [<- zO5,d,zO5]
  exact o i hi
def zI0 (w:Node) (l:List Attr):Node:=⟨w.Kind,w.Name,w.Is,w.Data,l,w.Parent,w.Kids,w.Host,w.Under,w.Doc⟩
theorem zWK {f:Forest} (hr:zAJ f=true) {n:Int} {x:Node} (hx:idx f.Nodes n=some x) (hk:x.Kind=1) {l:List Attr} (o:zIv l=true):zAJ ⟨f.Nodes.set n.toNat (zI0 x l),f.Most⟩=true:=by
 have m:=(zAs hr).2.2.1
 refine zYr hr ?_ rfl fun y hy=>?_
 ·show (f.Nodes.set n.toNat (zI0 x l)).map bare=f.Nodes.map bare
  rw [dK]
  have q:=zAM hx
  have hi:n.toNat<f.Nodes.length:=by omega
  have e:bare (zI0 x l)=(f.Nodes.map bare)[n.toNat]'(by simpa using hi):=by
   have:idx f.Nodes n=some f.Nodes[n.toNat]:=by
    have:=zAQ hi
    rwa [show ((n.toNat:Nat):Int)=n by omega] at this
   rw [hx] at this
   rw [jK,<- lJ.inj this]
   rfl
  rw [e];exact jB _
 ·rcases dT hy with h | rfl
  ·obtain ⟨i,hi,e⟩:=iQ h
   have:=zCU m (zAQ hi)
   rw [e] at this
   rw [zMl,lM] at this
   exact this.1
  ·have:=zCU m hx
   rw [zMl,lM] at this
   have d:=this.1
   unfold zIn at d ⊢
   rw [iP hk] at d
   rw [iP (show (zI0 x l).Kind=1 from hk)]
   simp only [lM] at d ⊢
   exact ⟨d.1,d.2.1,d.2.2.1,o⟩
theorem zfG {f:Forest} (hr:zAJ f=true) {n:Int} {x:Node} (hx:idx f.Nodes n=some x) (hk:x.Kind=1):zIv x.Attrs=true:=by
 have:=zCU (zAs hr).2.2.1 hx
 rw [zMl,lM] at this
 have d:=this.1
 unfold zIn at d
 rw [iP hk] at d
 simp only [lM] at d
 exact d.2.2.2
end
end Go.Proofs.YtmfbghpealgaiaaGreatDoor
