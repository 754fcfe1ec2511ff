/- Plain laws on the models, one behind the other. -/
import Derived.Test.YtmfbghpealgaiaaGreatDoorG
import Derived.Test.YtmfbghpealgaiaaGreatDoorCo3
/- strings.Contains of one byte, where the seat has it over the library's Index. -/
namespace Go.Proofs.YtmfbghpealgaiaaGreatDoor
open Go Go.Pw
open List renaming length_append->eR,length_cons->cP,contains_iff_mem->e7,all_eq_true->lR,mem_cons->lD,mem_cons_of_mem->lG,getElem_mem->gC,mem_singleton->e8,mem_append->cA,getElem?_eq_getElem->lC,take_succ_eq_append_getElem->iD,append_assoc->eS,drop_eq_getElem_cons->eT,mem_flatMap->iE,countP_congr->iF,length_take->cR,take_length->iG,append_nil->gI,mem_filter->iH,length_drop->iI,mem_map->lE,length_nil->eK,range->cW,map_congr_left->iK,length->iL,nodup_append->dM,nodup_cons->lS,all_cons->cK,all_nil->iM,flatMap_def->iQ,cons->dU,flatMap_cons->iR,flatMap_append->iS,length_filter_le->iT,nil_append->iU,any_eq_true->dN,mem_of_getElem?->lU,mem_or_eq_of_mem_set->dT,take_append_of_le_length->iV,getElem_of_mem->iW,filter_sublist->iX,map_map->iZ,map_cons->lT,map_set->dK,countP_le_length->jA,mem_cons_self->lH,length_flatMap->jB,length_map->lL,getElem?_map->lK,set_getElem_self->jC,countP_append->jE,suffix_refl->jF,suffix_cons->jG,take_take->jH,filter_append->jJ,filter_eq_self->jL,mem_range->jN,getElem_map->jO,any_eq_false->gK,getElem?_cons_zero->eU,contains_eq_any_beq->jQ,countP_cons->dG,take_append_drop->jS,suffix_of_suffix_length_le->jT,pairwise_flatMap->jU,eq_nil_or_concat->jV,concat_eq_append->jW,flatMap_nil->jX,reverse_append->jY,map_reverse->jZ,sum_reverse->kD,length_set->eE,getElem?_append_left->lN,map_append->gG,length_replicate->kE,eraseIdx_eq_take_drop_succ->kF,take_of_length_le->kG
open Nat renaming le_refl->cB,le_trans->eM,zero_add->dA,min_self->jI
open Int renaming toNat_natCast->eO
open Option renaming some->lJ,map_some->lW,map_eq_none_iff->jR
open Bool renaming and_eq_true->lM,or_eq_true->dD,false_or->e9,not_true->iA,true_and->iB,eq_iff_iff->eW,eq_false_iff->iJ,and_self->iO,or_eq_false_iff->iY,false_and->jD,not_false->jK,and_eq_false_iff->jM,not_eq_true'->gM,and_false->jP
variable {l:List Attr} {α:Type} {j child:Int} {s:Bs} {a m:List Node} {v:zAP} {w:Node} {h:Int->Node->Node} {i:Nat} {C:Int->Prop} {t:Int->Option Bool} {L nodes:List Int}
section
def zOl (_fu:Nat) (s:Bs) (c:UInt8):Option Bool:=some (decide (0<=Lib.indexByte s c))
theorem zPx (fu:Nat) (s:Bs) (c:UInt8):zEN fu s [c]=zOl fu s c:=by
 unfold zEN zJa zT9 zOl
 rfl
end
section
def zbQ (b:UInt8):Bool:=decide (97<=b.toNat)&&decide (b.toNat<=122)
def upB (b:UInt8):Bool:=decide (65<=b.toNat)&&decide (b.toNat<=90)
def zPg (b:UInt8):Bool:=zbQ b||upB b||(decide (48<=b.toNat)&&decide (b.toNat<=57))||decide (b.toNat=45)||decide (b.toNat=95)||decide (b.toNat=46)
def zZL (b:UInt8):Bool:=zbQ b||upB b||decide (b.toNat=95)
def zFg (s:Bs):Bool:=decide (0<s.length)&&decide (s.length<=40)&&s.all zPg&&(match s with | []=>false | b::_=>zZL b)
def zGQ (b:UInt8):UInt8:=if upB b then b+32 else b
theorem zUg (fu:Nat) (c:Int):zFl fu c=some (decide (97<=c)&&decide (c<=122)):=by
 unfold zFl;by_cases h:97<=c<;>simp [h]
theorem zMv (fu:Nat) (c:Int):zBm fu c=some (decide (65<=c)&&decide (c<=90)):=by
 unfold zBm;by_cases h:65<=c<;>simp [h]
theorem end3 (c:Int):(if c=45 then some true else if c=95 then some true else some (c==46))=some (decide (c=45)||decide (c=95)||decide (c=46)):=by
 by_cases d:c=45
 ·simp [d]
 ·by_cases e:c=95
  ·simp [e]
  ·rw [iN d,iN e,decide_eq_false d,decide_eq_false e];rfl
theorem zcH (fu:Nat) (c:Int):zHt fu c=some ((decide (97<=c)&&decide (c<=122))||(decide (65<=c)&&decide (c<=90))||(decide (48<=c)&&decide (c<=57))||decide (c=45)||decide (c=95)||decide (c=46)):=by
 unfold zHt zGy
 simp only [zUg,zMv,zAA,zAj]
 by_cases d:97<=c<;>by_cases e:c<=122<;>by_cases o:65<=c<;>by_cases q:c<=90<;>by_cases r:48<=c<;>by_cases u:c<=57<;>simp [d,e,o,q,r,u]<;>(first | omega | exact end3 c)
theorem zUE (b:UInt8):(decide (97<=(b.toNat:Int))&&decide ((b.toNat:Int)<=122))=zbQ b:=by
 unfold zbQ;congr 1<;>exact decide_eq_decide.2 (by omega)
theorem zXY (b:UInt8):(decide (65<=(b.toNat:Int))&&decide ((b.toNat:Int)<=90))=upB b:=by
 unfold upB;congr 1<;>exact decide_eq_decide.2 (by omega)
theorem zcG (fu:Nat) (b:UInt8):zHt fu (b.toNat:Int)=some (zPg b):=by
 rw [zcH,zUE,zXY];unfold zPg
 congr 1
 have d:(decide (48<=(b.toNat:Int))&&decide ((b.toNat:Int)<=57))=(decide (48<=b.toNat)&&decide (b.toNat<=57)):=by congr 1<;>exact decide_eq_decide.2 (by omega)
 have e:decide ((b.toNat:Int)=45)=decide (b.toNat=45):=decide_eq_decide.2 (by omega)
 have o:decide ((b.toNat:Int)=95)=decide (b.toNat=95):=decide_eq_decide.2 (by omega)
 have q:decide ((b.toNat:Int)=46)=decide (b.toNat=46):=decide_eq_decide.2 (by omega)
 rw [d,e,o,q]
theorem zg8 (fu:Nat) (c:Int) (h:128<=c):zHt fu c=some false:=by
 rw [zcH]
 simp only [decide_eq_false (show ¬c<=122 by omega),decide_eq_false (show ¬c<=90 by omega),decide_eq_false (show ¬c<=57 by omega),decide_eq_false (show ¬c=45 by omega),decide_eq_false (show ¬c=95 by omega),decide_eq_false (show ¬c=46 by omega),jP,Bool.or_false]
theorem zP2 {fu:Nat} {f:UInt8->Bool} (F:∀b∈s,b.toNat<128->t (b.toNat:Int)=some (f b)) (hi:(∀b∈s,b.toNat<128)\/∀r:Int,128<=r->t r=some true) (J:s.length<fu) :
  zB1 fu t s=some (s.any fun b=>decide (128<=b.toNat)||f b):=by
 have E:∃r,zA5 t s true fu 0=some r/\decide (r>=0)=s.any fun b=>decide (128<=b.toNat)||f b:=by
  refine up (L:=zA5 t s true) (Inv:=fun i x=>x=i/\∀(j:Nat) (h:j<s.length),j<i->(decide (128<=s[j].toNat)||f s[j])=false) (Fin:=fun v=>∃r,v=some r/\decide (r>=0)=s.any fun b=>decide (128<=b.toNat)||f b) s.length (fun i x d ⟨hx,u⟩=>?_) (fun x ⟨hx,u⟩=>?_) (i:=0) ⟨rfl,fun j _ u=>by omega⟩ (Nat.zero_le _) (by omega)
  ·subst hx
   by_cases q:(decide (128<=s[x].toNat)||f s[x])=true
   ·refine .inl ⟨some (x:Int),⟨_,rfl,?_⟩,fun k=>?_⟩
    ·rw [decide_eq_true (by omega)]
     exact (dN.2 ⟨_,gC d,q⟩).symm
    ·simp only [zA5]
     rw [zAT (by simpa using d)]
     by_cases e:s[x].toNat<128
     ·rw [decide_eq_false (by omega),e9] at q
      rw [(zah d e).1,F _ (gC d) e,zAA,q];rfl
     ·rcases hi with hi | hi
      ·exact absurd (hi _ (gC d)) e
      ·rw [hi _ (dec_hi d (by omega))];rfl
   ·have o:=iJ.2 q
    have e:s[x].toNat<128:=by
     rw [iY,decide_eq_false_iff_not] at o
     omega
    refine .inr ⟨x+1,⟨rfl,fun j h D=>?_⟩,fun k=>?_⟩
    ·rcases Nat.lt_succ_iff_lt_or_eq.1 D with B | B
     ·exact u j h B
     ·subst B;exact o
    ·rw [iY] at o
     simp only [zA5]
     rw [zAT (by simpa using d),(zah d e).1,F _ (gC d) e,zAA,o.2,(zah d e).2];rfl
  ·subst hx
   refine ⟨some (-1),⟨_,rfl,?_⟩,fun k=>?_⟩
   ·have:(s.any fun b=>decide (128<=b.toNat)||f b)=false:=by
     rw [gK]
     intro b e
     obtain ⟨j,h,rfl⟩:=List.mem_iff_getElem.1 e
     simpa using u j h h
    rw [this];rfl
   ·simp only [zA5]
    rw [zAS (by simp)]
 obtain ⟨r,G,I⟩:=E
 unfold zB1 zFI zFJ
 rw [G,zAA,zAA,I]
theorem za6 (b:UInt8) (fu:Nat):(bnd (rng .i32 (b.toNat:Int)) fun d=>bnd (zFl fu d) fun o=>cnd o (some true) (bnd (zBm fu d) fun q=>cnd q (some true) (some (d==95))))=some (zZL b):=by
 have r:=b.toNat_lt
 rw [zJn (by simp only [lo,hi];omega),zAA,zUg,zMv,zAA,zAA,zUE,zXY]
 unfold zZL
 have e:((b.toNat:Int)==95)=decide (b.toNat=95):=by rw [eW];simp;omega
 rw [e]
 cases zbQ b<;>cases upB b<;>rfl
theorem zc9 (s:Bs):(s.any fun b=>decide (128<=b.toNat) || !(zPg b)) = !(s.all zPg):=by
 rw [List.not_all_eq_any_not]
 congr 1
 funext b
 cases h:zPg b
 ·simp
 ·have:b.toNat<128:=by
   unfold zPg zbQ upB at h
   simp only [dD,lM,decide_eq_true_eq] at h
   omega
  simp;omega
theorem zYg {fu:Nat} (hfu:40<fu):zIO fu s=some (zFg s):=by
 unfold zIO zFg
 rw [zAQ,zAQ]
 by_cases d:s.length<1
 ·rw [iP (by omega)];simp [show ¬0<s.length by omega]
 rw [iN (by omega)]
 by_cases e:s.length>40
 ·rw [iP (by omega)];simp [show ¬s.length<=40 by omega]
 rw [iN (by omega),zP2 (f:=fun b => !(zPg b)) (fun b _ _=>by unfold zDU;rw [zcG];rfl) (.inr fun r hr=>by unfold zDU;rw [zg8 _ _ hr];rfl) (by omega),zAA,zc9,zPK]
 obtain ⟨b,t,rfl⟩:∃b t,s=b::t:=by cases s<;>simp_all
 rw [zXn]
 simp only [eU,lW,zAA]
 rw [za6]
 rw [decide_eq_true (by omega),decide_eq_true (by omega)]
 cases (b::t).all zPg<;>simp
def zc0 (y:Int):Int:=if 65<=y/\y<=90 then y+32 else y
theorem zcR (b:UInt8):upB b=true↔65<=b.toNat/\b.toNat<=90:=by unfold upB;simp
theorem zbR (b:UInt8):zc0 (b.toNat:Int)=((zGQ b).toNat:Int):=by
 unfold zc0 zGQ
 by_cases h:upB b=true
 ·have:=(zcR b).1 h
  rw [iP (by omega),iP h,UInt8.toNat_add]
  simp;omega
 ·have:¬(65<=b.toNat/\b.toNat<=90):=fun d=>h ((zcR b).2 d)
  rw [iN (by omega),iN h]
theorem zhA (s:Bs):zV6 ((zD3 s).map zc0)=s.map zGQ:=by
 unfold zV6 zD3
 rw [iZ,iZ]
 refine iK fun b _=>?_
 simp only [Function.comp,zbR,eO,UInt8.ofNat_toNat]
theorem zRv {fu:Nat} (q:s.length<fu) (o:s.length<=1000000):zEH fu s=some (s.map zGQ):=by
 unfold zEH
 rw [zAg (by omega),zAA]
 have d:(zD3 s).length=s.length:=by simp [zD3]
 have:=upf (L:=zFE fu s) (f:=fun i=>((i:Int),mix zc0 (zD3 s) i)) (v:=some (s.map zGQ)) (zD3 s).length (fun i hi k=>?_) (fun k=>?_) (by rw [d];exact q)
 ·simpa [zYG] using this
 ·simp only [zFE]
  rw [zAT (by simpa using hi),zbZ zc0 hi,zAA]
  have hy:(zD3 s)[i]=((s[i]'(d▸hi)).toNat:Int):=by simp [zD3]
  have r:rng .i64 ((i:Int)+1)=some ((i+1:Nat):Int):=zBO (by omega)
  rw [<- zUG zc0 hi]
  have hk:=zdw zc0 hi
  rw [<- zUG zc0 hi] at hk
  rw [hy] at hk ⊢
  have o:=(s[i]'(d▸hi)).toNat_lt
  generalize (s[i]'(d▸hi)).toNat=n at o hk
  rw [zJn (by simp only [lo,Go.Pw.hi];omega),zAA,zMv,zAA,r]
  by_cases h:65<=(n:Int)/\(n:Int)<=90
  ·rw [zAT (by simp;omega),zJn (by simp only [lo,Go.Pw.hi];omega),zAA,zJn (by simp only [lo,Go.Pw.hi];omega),zAA,zAA,zAA]
   unfold zc0
   rw [iP h,show (n:Int) - 65+97=n+32 by omega]
  ·have e:zc0 (n:Int)=n:=iN h
   rw [zAS (by simp;omega),zAA,<- hk e]
 ·simp only [zFE]
  rw [zAS (by simp),zba,zhA]
def words:List Bs:=[[97,110,110,111,116,97,116,105,111,110,45,120,109,108],[99,111,108,111,114,45,112,114,111,102,105,108,101],[102,111,110,116,45,102,97,99,101],[102,111,110,116,45,102,97,99,101,45,115,114,99],[102,111,110,116,45,102,97,99,101,45,117,114,105],[102,111,110,116,45,102,97,99,101,45,102,111,114,109,97,116],[102,111,110,116,45,102,97,99,101,45,110,97,109,101],[109,105,115,115,105,110,103,45,103,108,121,112,104]]
def zFP (s:Bs):Bool:=zFg s&&(match s with | []=>false | b::_=>zbQ b) && !(s.any upB)&&s.contains 45 && !(words.contains s)
theorem zKI {fu:Nat} {l:List Bs} (o:l.length<fu) (q:l.length<=1000000):zA9 fu l s=some (l.contains s):=by
 unfold zA9 zFo
 obtain ⟨r,d,e⟩:=zGl (L:=zB0 l s) l (fun x=>s==x) (fun i hi k=>by
  simp only [zB0]
  rw [zAT (by simpa using hi),zAW hi,zAA,zBO (by omega),zAA]
  cases s==l[i]<;>rfl) (fun k=>by simp only [zB0];rw [zAS (by simp)]) o
 rw [d,zAA,e]
 congr 1
 rw [jQ]
theorem zTI (h:zFg s=true):0<s.length/\s.length<=40:=by
 unfold zFg at h
 simp only [lM,decide_eq_true_eq] at h
 exact h.1.1
theorem zH3 {fu:Nat} (hfu:200<fu):zCv fu s=some (zFP s):=by
 unfold zCv zFP
 rw [zYg (by omega),zAA]
 cases hr:zFg s
 ·rfl
 ·rw [zAO]
  have B:s.length<fu:=by have:=zTI hr;omega
  have o:=hr
  unfold zFg at o
  obtain ⟨b,t,rfl⟩:∃b t,s=b::t:=by cases s<;>simp_all
  simp only [lM] at o
  have D:=b.toNat_lt
  have d:∀c∈b::t,c.toNat<128:=fun c u=>by
   have:=lR.1 o.1.2 c u
   unfold zPg zbQ upB at this
   simp only [dD,lM,decide_eq_true_eq] at this
   omega
  have q:((b::t).any fun c=>decide (128<=c.toNat)||upB c)=(b::t).any upB:=by
   rw [eW,dN,dN]
   constructor
   ·rintro ⟨c,r,e⟩
    rw [dD,decide_eq_true_eq] at e
    rcases e with e | e
    ·have:=d c r;omega
    ·exact ⟨c,r,e⟩
   ·rintro ⟨c,r,e⟩
    exact ⟨c,r,by rw [e,Bool.or_true]⟩
  rw [zXn,eU,lW,zAA,zJn (by simp only [lo,Go.Pw.hi];omega),zAA,zUg,zUE,zAA,
   zP2 (f:=upB) (fun c _ _=>by rw [zMv,zXY]) (.inl d) B,zAA,q]
  rw [zPx];unfold zOl zJR
  rw [zAA,zAA,zKI (by simp;omega) (by simp),zAA,zUA]
  simp only [iB]
  cases zbQ b<;>cases (b::t).any upB<;>cases (b::t).contains 45<;>rfl
def zWw (s:Bs):Bool:=zFg s&&(s.map zGQ==s)
theorem zSx {fu:Nat} (hfu:200<fu):zF5 fu s=some (if zFg s then (s.map zGQ,0) else ([],4)):=by
 unfold zF5
 rw [zYg (by omega),zAA,zPK]
 cases hr:zFg s
 ·rfl
 ·have:=zTI hr
  rw [zAO,zRv (by omega) (by omega),zAA];rfl
end
section
theorem zRq {o r : Type} [DecidableEq o]:∀(l:List (o × r)) (k : o) (v : r),(k∈l.map (·.1)/\(zG9 l k v).map (·.1)=l.map (·.1))\/(k∉l.map (·.1)/\(zG9 l k v).map (·.1)=l.map (·.1)++[k]):=by
 have d:∀(l:List (o × r)) (k : o),zH2 l k=none->k∉l.map (·.1):=by
  intro l
  induction l with
  | nil=>intro k _;simp
  | cons x l E =>
   intro k h
   simp only [zH2] at h
   split at h
   ·cases h
   ·rename_i q
    simp only [lT,lD,not_or]
    exact ⟨fun e=>q e.symm,E k (jR.1 h)⟩
 intro l k v
 unfold zG9
 cases h:zH2 l k with
 | none=>exact .inr ⟨d l k h,by simp⟩
 | some j =>
  obtain ⟨F,u⟩:=zJB h
  refine .inl ⟨lE.2 ⟨_,lU u,rfl⟩,?_⟩
  simp only [dK]
  have:(l.map (·.1))[j]? = some k:=by rw [lK,u];rfl
  obtain ⟨B,D⟩:=List.getElem?_eq_some_iff.1 this
  rw [<- D];exact jC B
def tbl:List Attr->List (Bs×Attr)->List (Bs×Attr)
 | [],m=>m
 | a::l,m=>tbl l (zG9 m a.Name a)
theorem zXT:∀(l:List Attr) (m:List (Bs×Attr)),(m.map (·.1)).Nodup->(tbl l m).length<=m.length+l.length/\((tbl l m).length=m.length+l.length↔(l.map (·.Name)).Nodup/\∀a∈l,a.Name∉m.map (·.1))
 | [],m,_=>by simp [tbl]
 | a::l,m,hm=>by
  simp only [tbl]
  rcases zRq m a.Name a with ⟨r,o⟩ | ⟨r,o⟩
  ·have d:(zG9 m a.Name a).length=m.length:=by have:=congrArg iL o;simpa using this
   have u:=zXT l (zG9 m a.Name a) (by rw [o];exact hm)
   rw [d] at u
   refine ⟨by simp only [cP];omega,?_⟩
   simp only [cP]
   constructor
   ·intro h;omega
   ·rintro ⟨_,h⟩
    exact absurd r (h a (by simp))
  ·have d:(zG9 m a.Name a).length=m.length+1:=by have:=congrArg iL o;simpa using this
   have u:=zXT l (zG9 m a.Name a) (by rw [o,dM];exact ⟨hm,by simp,fun x hx y hy=>by simp at hy;subst hy;exact fun e=>r (e▸hx)⟩)
   rw [d,o] at u
   refine ⟨by simp only [cP];omega,?_⟩
   simp only [cP]
   rw [show m.length+(l.length+1)=m.length+1+l.length by omega,u.2]
   simp only [lT]
   constructor
   ·rintro ⟨B,q⟩
    refine ⟨lS.2 ⟨fun hm=>?_,B⟩,fun b D=>?_⟩
    ·obtain ⟨x,hx,e⟩:=lE.1 hm
     exact q x hx (cA.2 (.inr (by simp [e])))
    ·rcases lD.1 D with rfl | D
     ·exact r
     ·exact fun h=>q b D (cA.2 (.inl h))
   ·rintro ⟨B,q⟩
    obtain ⟨E,F⟩:=lS.1 B
    refine ⟨F,fun x hx h=>?_⟩
    rcases cA.1 h with h | h
    ·exact q x (by simp [hx]) h
    ·simp at h
     exact E (lE.2 ⟨x,hx,h⟩)
def zGu (l:List Attr):Bool:=decide (l.length<=40)&&((l.all fun a=>zWw a.Name&&decide (a.Value.length<=200))&&decide ((l.map (·.Name)).Nodup))
theorem zef {fu:Nat} (o:l.length<fu) (r:l.length<=1000000):zJ4 fu l=some (tbl l []):=by
 unfold zJ4
 have e:∀(j i k:Nat) (m:List (Bs×Attr)),i+j=l.length->j<k->zF3 l k ((i:Int),m)=some (tbl (l.drop i) m):=by
  intro j
  induction j with
  | zero =>
   intro i k m hi hk
   obtain ⟨k,rfl⟩:∃d,k=d+1:=⟨k - 1,by omega⟩
   obtain rfl:i=l.length:=by omega
   simp only [zF3]
   rw [zAS (by simp),List.drop_length];rfl
  | succ j q =>
   intro i k m hi hk
   obtain ⟨k,rfl⟩:∃d,k=d+1:=⟨k - 1,by omega⟩
   have h:i<l.length:=by omega
   simp only [zF3]
   rw [zAT (by simpa using h),zAW h,zAA,zBO (by omega),zAA,q (i+1) k _ (by omega) (by omega),eT h]
   rfl
 simpa using e l.length 0 fu [] (by omega) o
theorem zRS {fu:Nat} {t:Attr->Option Bool} {p:Attr->Bool} (q:∀x∈l,t x=some (p x)) (o:l.length<fu) (u:l.length<=1000000):zB6 fu t l=some (l.any p):=by
 unfold zB6 zBJ
 obtain ⟨r,d,e⟩:=zGl (L:=zAY t l) l p (fun i hi k=>by
  simp only [zAY]
  rw [zAT (by simpa using hi),zAW hi,zAA,q _ (gC hi),zAA,zBO (by omega),zAA]
  cases p l[i]<;>rfl) (fun k=>by simp only [zAY];rw [zAS (by simp)]) o
 rw [d,zAA,e]
theorem zdC {fu:Nat} {a:Attr} (hfu:200<fu):zEZ fu a=some (!(zWw a.Name&&decide (a.Value.length<=200))):=by
 unfold zEZ zWw
 rw [zSx hfu,zAA]
 have e:decide ((a.Value.length:Int)>200) = !(decide (a.Value.length<=200)):=by
  by_cases h:a.Value.length<=200
  ·rw [decide_eq_true h,decide_eq_false (by omega)];rfl
  ·rw [decide_eq_false h,decide_eq_true (by omega)];rfl
 rw [e]
 cases zFg a.Name
 ·rfl
 ·simp only [if_true,iB]
  cases a.Name.map zGQ==a.Name<;>rfl
theorem zHz (l:List α) (p : α -> Bool):(!(l.any fun x => !(p x)))=l.all p:=by
 rw [List.all_eq_not_any_not]
theorem zPr {fu:Nat} (hfu:200<fu):zGw fu l=some (zGu l):=by
 unfold zGw zGu
 rw [show decide ((l.length:Int)<=40)=decide (l.length<=40) from decide_eq_decide.2 (by omega)]
 by_cases h:l.length<=40
 ·rw [decide_eq_true h,zAO,zRS (p:=fun a => !(zWw a.Name&&decide (a.Value.length<=200))) (fun a _=>zdC hfu) (by omega) (by omega),zAA,zef (by omega) (by omega),zAA,zHz,iB]
  have e:(((tbl l []).length:Int)==(l.length:Int))=decide ((l.map (·.Name)).Nodup):=by
   have:=zXT l [] (by simp)
   simp only [eK,dA,List.map_nil,List.not_mem_nil,not_false_eq_true,implies_true,and_true] at this
   rw [eW,beq_iff_eq,decide_eq_true_eq,<- this.2]
   omega
  rw [e]
  cases l.all fun a=>zWw a.Name&&decide (a.Value.length<=200)<;>rfl
 ·rw [decide_eq_false h];rfl
def zHZ (x:Node):Bool :=
 if x.Kind=1 then zWw x.Name&&((x.Is==[]||zFP x.Is)&&(x.Data==[]&&zGu x.Attrs))
 else if x.Kind=2 then decide (x.Data.length<=200)&&(x.Name==[]&&(x.Is==[]&&decide (x.Attrs.length=0)))
 else if x.Kind=0\/x.Kind=3\/x.Kind=4 then x.Name==[]&&(x.Is==[]&&(x.Data==[]&&decide (x.Attrs.length=0)))
 else false
theorem len0 (l:List Attr):(((l.length:Int))==0)=decide (l.length=0):=by
 rw [eW,beq_iff_eq,decide_eq_true_eq];omega
theorem zdy (x:Node) (c:Bs):zDf x c=some (x.Name==[]&&(x.Is==[]&&(c==[]&&decide (x.Attrs.length=0)))):=by
 unfold zDf
 rw [len0]
 cases x.Name==([]:Bs)<;>cases x.Is==([]:Bs)<;>cases c==([]:Bs)<;>rfl
theorem zS3 {fu:Nat} {x:Node} (hfu:200<fu):zGX fu x=some (zHZ x):=by
 unfold zGX zHZ
 simp only [zSx hfu,zPr hfu,zH3 hfu,zAA,zdy,zAj,zAQ]
 by_cases r:x.Kind=1
 ·simp only [iP r]
  unfold zWw
  cases hr:zFg x.Name
  ·simp
  ·simp only [if_true,iB]
   by_cases o:x.Name.map zGQ=x.Name
   ·have q:(x.Name.map zGQ==x.Name)=true:=by simp [o]
    simp only [iP o,q,iB]
    by_cases d:x.Is=[]
    ·simp only [d]
     by_cases e:x.Data=[]
     ·simp [e]
     ·simp [e]
    ·have B:(x.Is==([]:Bs))=false:=by simpa using d
     simp only [iN d,B,e9]
     cases zFP x.Is
     ·rfl
     ·by_cases e:x.Data=[]
      ·simp [e]
      ·simp [e]
   ·have q:(x.Name.map zGQ==x.Name)=false:=by simpa using o
    simp only [iN o,q,jD]
 ·simp only [iN r]
  by_cases o:x.Kind=2
  ·simp only [iP o]
   by_cases d:x.Data.length<=200
   ·rw [iN (by omega),decide_eq_true d]
    simp
   ·rw [iP (by omega),decide_eq_false d];rfl
  ·simp only [iN o]
   by_cases d:x.Kind=0
   ·simp [d]
   ·by_cases e:x.Kind=3
    ·simp [e]
    ·by_cases u:x.Kind=4
     ·simp [u]
     ·simp [d,e,u]
def isB (ns:List Node) (n k:Int):Bool:=match idx ns n with | some y=>y.Kind==k | none=>false
def zL2 (ns:List Node) (n:Int) (x:Node):Bool:=isB ns x.Doc 0&&(x.Kind != 0||x.Doc==n)
def zGP (k:Int):Bool:=k==0||(k==1||(k==3||k==4))
def zK0 (ns:List Node) (n:Int) (x:Node):Bool:=x.Parent == -1||((x.Kind==1||x.Kind==2)&&(match idx ns x.Parent with | some p=>zGP p.Kind&&p.Kids.contains n | none=>false))
def zOo (ns:List Node) (n:Int) (x:Node) (k:Int):Bool:=match idx ns k with | some y=>y.Parent==n&&(y.Doc==x.Doc&&(y.Kind==1||(y.Kind==2&&x.Kind != 0))) | none=>false
def zBH (ns:List Node) (l:List Int):Nat:=l.countP fun k=>isB ns k 1
def zEV (ns:List Node) (n:Int) (x:Node):Bool:=decide x.Kids.Nodup&&((x.Kids.all (zOo ns n x))&&((zGP x.Kind||decide (x.Kids.length=0))&&(x.Kind != 0||decide (zBH ns x.Kids<=1))))
def zN2 (ns:List Node) (n:Int) (x:Node):Bool:=if x.Kind=4 then (match idx ns x.Host with | some h=>h.Kind==1&&(h.Under==n&&h.Doc==x.Doc) | none=>false) else x.Host == -1
def zLG (ns:List Node) (n:Int) (x:Node):Bool:=x.Under == -1||(x.Kind==1&&(match idx ns x.Under with | some u=>u.Kind==4&&u.Host==n | none=>false))
def upI (ns:List Node) (n:Int):Int:=match idx ns n with | some x=>if x.Parent = -1 then x.Host else x.Parent | none => -1
def zBb (ns:List Node):Nat->Int->Bool
 | 0,_=>false
 | k+1,n=>upI ns n == -1||zBb ns k (upI ns n)
def zFb (ns:List Node) (n:Int) (x:Node):Bool:=zHZ x&&(zL2 ns n x&&(zK0 ns n x&&(zEV ns n x&&(zN2 ns n x&&zLG ns n x))))
def zHa (ns:List Node):Bool:=(cW ns.length).all fun i=>match ns[i]? with | some x=>zFb ns (i:Int) x | none=>true
def zPS (ns:List Node):Bool:=(cW ns.length).all fun i=>zBb ns ns.length (i:Int)
def zAF (f:Forest):Bool:=decide (1<=f.Most)&&(decide (f.Most<=400)&&(decide (1<=f.Nodes.length)&&(decide ((f.Nodes.length:Int)<=f.Most)&&(isB f.Nodes 0 0&&(zHa f.Nodes&&zPS f.Nodes)))))
theorem zCa {l:List α} {n:Int} (h:¬(0<=n/\n<l.length)):idx l n=none:=by
 unfold idx
 by_cases d:0<=n
 ·rw [iP d,List.getElem?_eq_none (by omega)]
 ·rw [iN d]
theorem zAJ {l:List α} {n:Int} (h:0<=n/\n<l.length):∃x,idx l n=some x:=by
 unfold idx
 rw [iP h.1]
 exact ⟨_,lC (by omega)⟩
theorem zAK {l:List α} {n:Int} {x : α} (h:idx l n=some x):0<=n/\n<l.length:=by
 by_cases d:0<=n/\n<l.length
 ·exact d
 ·rw [zCa d] at h;cases h
theorem zQs (fu:Nat) (v:zAP) (n:Int):zCB fu v n=some (decide (0<=n/\n<v.Forest.Nodes.length)):=by
 unfold zCB
 rw [zAQ]
 by_cases h:n>=0
 ·rw [iP h];congr 1;exact decide_eq_decide.2 ⟨fun d=>⟨h,d⟩,fun d=>d.2⟩
 ·rw [iN h,decide_eq_false (by omega)]
theorem zdj (fu:Nat) (v:zAP) (n k:Int):zDB fu v n k=some (isB v.Forest.Nodes n k):=by
 unfold zDB isB
 rw [zQs,zAA,zAQ]
 by_cases h:0<=n/\n<v.Forest.Nodes.length
 ·obtain ⟨x,hx⟩:=zAJ h
  rw [iP h,hx];rfl
 ·rw [iN h,zCa h]
theorem zd6 {fu:Nat} {n:Int} {x:Node} (hx:idx v.Forest.Nodes n=some x):zE5 fu v n=some (zL2 v.Forest.Nodes n x):=by
 unfold zE5 zL2
 rw [hx,zAA,zdj,zAA]
 cases isB v.Forest.Nodes x.Doc 0
 ·rfl
 ·cases x.Kind != 0<;>rfl
theorem zVV (fu:Nat) (k:Int):zFj fu k=some (zGP k):=by
 unfold zFj zGP
 simp only [zAj]
 by_cases d:k=0
 ·simp [d]
 by_cases e:k=1
 ·simp [e]
 by_cases o:k=3
 ·simp [o]
 by_cases q:k=4
 ·simp [q]
 simp [d,e,o,q]
theorem zSX {fu:Nat} {l:List Int} {n:Int} (o:l.length<fu) (q:l.length<=1000000):zEM fu l n=some (l.contains n):=by
 unfold zEM zCX
 obtain ⟨r,d,e⟩:=zGl (L:=zBM l n) l (fun x=>n==x) (fun i hi k=>by
  simp only [zBM]
  rw [zAT (by simpa using hi),zAW hi,zAA,zBO (by omega),zAA]
  cases n==l[i]<;>rfl) (fun k=>by simp only [zBM];rw [zAS (by simp)]) o
 rw [d,zAA,e,jQ]
def zEb (fu:Nat) (ns:List Node):Prop:=∀x∈ns,x.Kids.length<fu/\x.Kids.length<=1000000
theorem zEw {l:List α} {n:Int} {x : α} (h:idx l n=some x):x∈l:=by
 unfold idx at h
 split at h
 ·exact lU h
 ·cases h
theorem zgM {fu:Nat} {n:Int} {x:Node} (hx:idx v.Forest.Nodes n=some x) (hk:zEb fu v.Forest.Nodes):zFc fu v n=some (zK0 v.Forest.Nodes n x):=by
 have o:∀b:Bool,zDg fu v n x b=some (b&&(match idx v.Forest.Nodes x.Parent with | some p=>zGP p.Kind&&p.Kids.contains n | none=>false)):=fun b=>by
  unfold zDg
  cases b
  ·rfl
  ·rw [zAO,zQs,zAA,zAQ]
   by_cases h:0<=x.Parent/\x.Parent<v.Forest.Nodes.length
   ·obtain ⟨p,q⟩:=zAJ h
    have hm:=hk p (zEw q)
    rw [iP h,q,zAA,zVV,zAA,zAA,zSX hm.1 hm.2,zAA]
    simp only [iB]
    cases zGP p.Kind<;>rfl
   ·rw [iN h,zCa h];rfl
 unfold zFc zK0
 rw [hx,zAA,o,o,zAj,zAj]
 by_cases e:x.Parent = -1
 ·simp [e]
 ·rw [iN e]
  have r:(x.Parent == -1)=false:=by simpa using e
  rw [r]
  by_cases d:x.Kind=1
  ·rw [iP d,d];rfl
  ·have u:(x.Kind==1)=false:=by simpa using d
   rw [iN d,u,e9,e9]
theorem zcF {fu:Nat} {n:Int} {x:Node} (hx:idx v.Forest.Nodes n=some x):zEk fu v n=some (zN2 v.Forest.Nodes n x&&zLG v.Forest.Nodes n x):=by
 have E:∀b:Bool,zBg fu v n x b=some (b&&zLG v.Forest.Nodes n x):=fun b=>by
  unfold zBg zCD zLG
  rw [zdj,zAA,zAj,zAj]
  by_cases d:x.Under = -1
  ·simp [d];cases b<;>rfl
  ·rw [iN d]
   have B:(x.Under == -1)=false:=by simpa using d
   rw [B]
   by_cases o:x.Kind=1
   ·simp only [o,beq_self_eq_true,iB,e9]
    unfold isB
    by_cases e:0<=x.Under/\x.Under<v.Forest.Nodes.length
    ·obtain ⟨u,q⟩:=zAJ e
     rw [q]
     simp only [zAA]
     cases b<;>cases u.Kind==4<;>rfl
    ·rw [zCa e];cases b<;>rfl
   ·have D:(x.Kind==1)=false:=by simpa using o
    simp only [iN o,D,jD,e9,jP]
    cases b<;>rfl
 unfold zEk zN2
 rw [hx,zAA,zdj,zAA]
 simp only [E,zAj]
 by_cases d:x.Kind=4
 ·rw [iP d,iP d]
  unfold isB
  by_cases e:0<=x.Host/\x.Host<v.Forest.Nodes.length
  ·obtain ⟨u,q⟩:=zAJ e
   rw [q]
   simp only [zAA]
   cases u.Kind==1
   ·rfl
   ·by_cases r:u.Under=n
    ·simp [r]
    ·simp [r]
  ·rw [zCa e];rfl
 ·rw [iN d,iN d]
theorem zbY {l:List (Int×Int)} {k:Int} (o:∀p∈l,0<p.2):zLJ l k 0>0↔k∈l.map (·.1):=by
 unfold zLJ
 have d:∀(l:List (Int×Int)),zH2 l k=none->k∉l.map (·.1):=by
  intro l
  induction l with
  | nil=>intro _;simp
  | cons x l u =>
   intro h
   simp only [zH2] at h
   split at h
   ·cases h
   ·rename_i q
    simp only [lT,lD,not_or]
    exact ⟨fun e=>q e.symm,u (jR.1 h)⟩
 cases h:zH2 l k with
 | none=>simp only [Int.lt_irrefl,gt_iff_lt,false_iff];exact d l h
 | some j =>
  obtain ⟨v,r⟩:=zJB h
  simp only [r,Option.elim_some]
  exact ⟨fun _=>lE.2 ⟨_,lU r,rfl⟩,fun _=>o _ (lU r)⟩
theorem zdx {l:List (Int×Int)} {k v:Int} {p:Int×Int} (h:p∈zG9 l k v):p∈l\/p=(k,v):=by
 unfold zG9 at h
 split at h
 ·rcases dT h with h | h
  ·exact .inl h
  ·exact .inr h
 ·simpa using h
theorem zSu (ns:List Node) {l:List Int} {i:Nat} (h:i<l.length):zBH ns (l.take (i+1))=zBH ns (l.take i)+(if isB ns l[i] 1 then 1 else 0):=by
 unfold zBH
 rw [iD h,jE]
 simp [dG]
theorem zdY (ns:List Node) (l:List Int):zBH ns l<=l.length:=jA
theorem zdH {fu:Nat} {n:Int} {x:Node} (hx:idx v.Forest.Nodes n=some x) (hf:x.Kids.length<fu) (hb:x.Kids.length<=1000000):zE4 fu v n=some (zEV v.Forest.Nodes n x):=by
 unfold zE4
 rw [hx,zAA]
 let ns:=v.Forest.Nodes
 have no1:∀(i:Nat) (h:i<x.Kids.length),zOo ns n x x.Kids[i]=false->zEV ns n x=false:=fun i h hk=>by
  unfold zEV
  have:x.Kids.all (zOo ns n x)=false:=by
   rw [List.all_eq_false]
   exact ⟨_,gC h,by rw [hk];simp⟩
  rw [this];simp
 refine up (L:=zAt fu v n x) (Inv:=fun i y=>∃d:List (Int×Int),y=(((zBH ns (x.Kids.take i):Nat):Int),(i:Int),d)/\(∀k,k∈d.map (·.1)↔k∈x.Kids.take i)/\(∀p∈d,p.2=1)/\(x.Kids.take i).Nodup/\(x.Kids.take i).all (zOo ns n x)=true) (Fin:=fun r=>r=some (zEV ns n x)) x.Kids.length (fun i y hi ⟨d,hy,S,h2,h3,h4⟩=>?_) (fun y ⟨d,hy,S,h2,h3,h4⟩=>?_) (i:=0) ⟨[],rfl,by simp,by simp,by simp,by simp⟩ (Nat.zero_le _) (by omega)
 ·subst hy
  have hn:rng .i64 ((i:Int)+1)=some ((i+1:Nat):Int):=zBO (by omega)
  have hle:=zdY ns (x.Kids.take i)
  have hlt:(x.Kids.take i).length<=i:=by simp;omega
  have hn2:rng .i64 (((zBH ns (x.Kids.take i):Nat):Int)+1)=some ((zBH ns (x.Kids.take i)+1:Nat):Int):=zBO (by omega)
  have hpos:∀p∈d,0<p.2:=fun p E=>by rw [h2 p E];decide
  have hm:=zbY (k:=x.Kids[i]) hpos
  have o:∀k,zAt fu v n x (k+1) (((zBH ns (x.Kids.take i):Nat):Int),(i:Int),d) =
    if 0<=x.Kids[i]/\x.Kids[i]<v.Forest.Nodes.length then (if zLJ d x.Kids[i] 0>0 then some false else bnd (idx v.Forest.Nodes x.Kids[i]) fun y=>if y.Parent=n then (if y.Doc=x.Doc then bnd (rng .i64 (zLJ d x.Kids[i] 0+1)) fun i11 =>
     (if y.Kind=1 then zAt fu v n x k (((zBH ns (x.Kids.take i)+1:Nat):Int),((i+1:Nat):Int),zG9 d x.Kids[i] i11) else if y.Kind=2 then (if x.Kind=0 then some false else zAt fu v n x k (((zBH ns (x.Kids.take i):Nat):Int),((i+1:Nat):Int),zG9 d x.Kids[i] i11)) else some false) else some false) else some false) else some false:=fun k=>by
   simp only [zAt]
   rw [zAT (by simpa using hi),zAW hi,zAA,zQs,zAA]
   cases hy:idx v.Forest.Nodes x.Kids[i] with
   | none=>simp only [zPK,zAQ,zdJ]
   | some y=>simp only [zPK,zAQ,zAi,zAj,zAA,hn,hn2]
  have F:zOo ns n x x.Kids[i]=false->zEV ns n x=false:=no1 i hi
  by_cases u:0<=x.Kids[i]/\x.Kids[i]<v.Forest.Nodes.length
  case neg =>
   refine .inl ⟨some false,?_,fun k=>by rw [o,iN u]⟩
   rw [F]
   unfold zOo
   rw [show idx ns x.Kids[i]=none from zCa u]
  case pos =>
   by_cases D:zLJ d x.Kids[i] 0>0
   case pos =>
    refine .inl ⟨some false,?_,fun k=>by rw [o,iP u,iP D]⟩
    have hmem:=(S _).1 (hm.1 D)
    have:¬x.Kids.Nodup:=fun hnd=>by
     rw [<- jS i x.Kids,dM] at hnd
     exact hnd.2.2 _ hmem _ (by rw [eT hi];exact lH) rfl
    unfold zEV
    rw [decide_eq_false this];rfl
   case neg =>
    have Q:x.Kids[i]∉x.Kids.take i:=fun h=>D (hm.2 ((S _).2 h))
    have h0:zLJ d x.Kids[i] 0=0:=by
     unfold zLJ
     cases hj:zH2 d x.Kids[i] with
     | none=>rfl
     | some j =>
      obtain ⟨v0,hv⟩:=zJB hj
      exact absurd ((S _).1 (lE.2 ⟨_,lU hv,rfl⟩)) Q
    obtain ⟨y,hy⟩:=zAJ u
    have J:isB ns x.Kids[i] 1=(y.Kind==1):=by unfold isB;rw [show idx ns x.Kids[i]=some y from hy]
    have B:zOo ns n x x.Kids[i]=(y.Parent==n&&(y.Doc==x.Doc&&(y.Kind==1||(y.Kind==2&&x.Kind != 0)))):=by unfold zOo;rw [show idx ns x.Kids[i]=some y from hy]
    have G:rng .i64 (zLJ d x.Kids[i] 0+1)=some 1:=by rw [h0];exact zcC (by decide) (by decide)
    have next:zOo ns n x x.Kids[i]=true->(∀q,q∈(zG9 d x.Kids[i] 1).map (·.1)↔q∈x.Kids.take (i+1))/\(∀p∈zG9 d x.Kids[i] 1,p.2=1)/\(x.Kids.take (i+1)).Nodup/\(x.Kids.take (i+1)).all (zOo ns n x)=true:=fun hk=>by
     rw [iD hi]
     refine ⟨fun q=>?_,fun p E=>?_,?_,by rw [List.all_append,h4];simp [hk]⟩
     ·rcases zRq d x.Kids[i] 1 with ⟨W,_⟩ | ⟨_,X⟩
      ·exact absurd ((S _).1 W) Q
      ·rw [X,cA,cA,S]
     ·rcases zdx E with E | rfl
      ·exact h2 p E
      ·rfl
     ·rw [dM]
      exact ⟨h3,by simp,fun a ha b hb=>by simp at hb;subst hb;exact fun e=>Q (e▸ha)⟩
    by_cases E:y.Parent=n
    case neg =>
     refine .inl ⟨some false,?_,fun k=>by rw [o,iP u,iN D,hy,zAA,iN E]⟩
     rw [F (by rw [B];simp [E])]
    case pos =>
     by_cases I:y.Doc=x.Doc
     case neg =>
      refine .inl ⟨some false,?_,fun k=>by rw [o,iP u,iN D,hy,zAA,iP E,iN I]⟩
      rw [F (by rw [B];simp [I])]
     case pos =>
      by_cases N:y.Kind=1
      case pos =>
       have hk:zOo ns n x x.Kids[i]=true:=by rw [B];simp [E,I,N]
       obtain ⟨W,X,g3,g4⟩:=next hk
       refine .inr ⟨_,⟨_,rfl,W,X,g3,g4⟩,fun k=>?_⟩
       rw [o,iP u,iN D,hy,zAA,iP E,iP I,G,zAA,iP N,zSu ns hi,J]
       simp [N]
      case neg =>
       by_cases V:y.Kind=2
       case neg =>
        refine .inl ⟨some false,?_,fun k=>by rw [o,iP u,iN D,hy,zAA,iP E,iP I,G,zAA,iN N,iN V]⟩
        rw [F (by rw [B];simp [N,V])]
       case pos =>
        by_cases k3:x.Kind=0
        case pos =>
         refine .inl ⟨some false,?_,fun k=>by rw [o,iP u,iN D,hy,zAA,iP E,iP I,G,zAA,iN N,iP V,iP k3]⟩
         rw [F (by rw [B];simp [V,k3])]
        case neg =>
         have hk:zOo ns n x x.Kids[i]=true:=by rw [B];simp [E,I,V,k3]
         obtain ⟨W,X,g3,g4⟩:=next hk
         refine .inr ⟨_,⟨_,rfl,W,X,g3,g4⟩,fun k=>?_⟩
         rw [o,iP u,iN D,hy,zAA,iP E,iP I,G,zAA,iN N,iP V,iN k3,zSu ns hi,J]
         simp [N]
 ·subst hy
  rw [iG] at h3 h4 ⊢
  refine ⟨some (zEV ns n x),rfl,fun k=>?_⟩
  simp only [zAt]
  rw [zAS (by simp),zVV,zAA]
  unfold zEV
  rw [decide_eq_true h3,h4,iB,iB]
  have e1:(((x.Kids.length:Int))==0)=decide (x.Kids.length=0):=by rw [eW,beq_iff_eq,decide_eq_true_eq];omega
  have e2:decide (((zBH ns x.Kids:Nat):Int)<=1)=decide (zBH ns x.Kids<=1):=decide_eq_decide.2 (by omega)
  rw [e1,e2]
  cases zGP x.Kind<;>cases decide (x.Kids.length=0)<;>cases x.Kind != 0<;>rfl
def Ups (ns:List Node):Prop:=∀(n:Int) (x:Node),idx ns n=some x->upI ns n = -1\/∃y,idx ns (upI ns n)=some y
theorem up_ok {fu:Nat} {n:Int} {x:Node} (hx:idx v.Forest.Nodes n=some x):zGh fu v n=some (upI v.Forest.Nodes n):=by
 unfold zGh upI
 rw [hx,zAA,zAi,zAA]
 simp only
 split<;>rfl
theorem zgE {fu:Nat} (q:Ups v.Forest.Nodes) (u:v.Forest.Nodes.length<=1000000):∀(j t k:Nat) (n:Int) (x:Node),t+j=v.Forest.Nodes.length->j<k->idx v.Forest.Nodes n=some x->zCp fu v k (n,(t:Int))=some (zBb v.Forest.Nodes j n):=by
 intro j
 induction j with
 | zero =>
  intro t k n x o hk hx
  obtain ⟨k,rfl⟩:∃d,k=d+1:=⟨k - 1,by omega⟩
  simp only [zCp]
  rw [zAS (by simp;omega)];rfl
 | succ j r =>
  intro t k n x o hk hx
  obtain ⟨k,rfl⟩:∃d,k=d+1:=⟨k - 1,by omega⟩
  simp only [zCp]
  rw [zAT (by simp;omega),up_ok hx,zAA,zAj,zBO (by omega),zAA]
  simp only [zBb]
  by_cases h:upI v.Forest.Nodes n = -1
  ·rw [iP h];simp [h]
  ·rw [iN h]
   rcases q n x hx with e | ⟨y,hy⟩
   ·exact absurd e h
   ·rw [r (t+1) k _ y (by omega) (by omega) hy]
    have:(upI v.Forest.Nodes n == -1)=false:=by simpa using h
    rw [this,e9]
theorem zBc {ns:List Node} (h:zHa ns=true) {n:Int} {x:Node} (hx:idx ns n=some x):zFb ns n x=true:=by
 unfold zHa at h
 rw [lR] at h
 have hr:=zAK hx
 have:=h n.toNat (by simp;omega)
 have e:ns[n.toNat]? = some x:=by unfold idx at hx;rw [iP hr.1] at hx;exact hx
 rw [e] at this
 simpa [show ((n.toNat:Nat):Int)=n by omega] using this
theorem zK6 {ns:List Node} (h:zHa ns=true):Ups ns:=by
 intro n x hx
 have r:=zBc h hx
 unfold zFb zK0 zN2 at r
 simp only [lM] at r
 obtain ⟨_,_,o,_,d,_⟩:=r
 unfold upI
 rw [hx]
 simp only
 by_cases u:x.Parent = -1
 ·rw [iP u]
  by_cases B:x.Kind=4
  ·rw [iP B] at d
   cases q:idx ns x.Host with
   | none=>rw [q] at d;cases d
   | some y=>exact .inr ⟨y,rfl⟩
  ·rw [iN B] at d
   exact .inl (by simpa using d)
 ·rw [iN u]
  have e:(x.Parent == -1)=false:=by simpa using u
  rw [e,e9,lM] at o
  cases q:idx ns x.Parent with
  | none=>rw [q] at o;simp at o
  | some y=>exact .inr ⟨y,rfl⟩
theorem zSF {fu:Nat} (hfu:1000<fu) (hk:zEb fu v.Forest.Nodes):zCq fu v=some (zAF v.Forest):=by
 unfold zCq zAF
 rw [zAQ,zAQ,zAQ,zAQ]
 by_cases B:v.Forest.Most<1
 ·rw [iP B,decide_eq_false (show ¬1<=v.Forest.Most by omega)];rfl
 rw [iN B,decide_eq_true (show 1<=v.Forest.Most by omega)]
 by_cases D:v.Forest.Most>400
 ·rw [iP D,decide_eq_false (show ¬v.Forest.Most<=400 by omega)];rfl
 rw [iN D,decide_eq_true (show v.Forest.Most<=400 by omega)]
 by_cases E:(v.Forest.Nodes.length:Int)<1
 ·rw [iP E,decide_eq_false (show ¬1<=v.Forest.Nodes.length by omega)];rfl
 rw [iN E,decide_eq_true (show 1<=v.Forest.Nodes.length by omega)]
 by_cases F:(v.Forest.Nodes.length:Int)>v.Forest.Most
 ·rw [iP F,decide_eq_false (show ¬(v.Forest.Nodes.length:Int)<=v.Forest.Most by omega)];rfl
 rw [iN F,decide_eq_true (show (v.Forest.Nodes.length:Int)<=v.Forest.Most by omega)]
 obtain ⟨u,o⟩:=zAJ (l:=v.Forest.Nodes) (n:=0) (by omega)
 rw [o,zAA,zAi]
 have G:isB v.Forest.Nodes 0 0=(u.Kind==0):=by unfold isB;rw [o]
 rw [G]
 by_cases q:u.Kind=0
 case neg =>
  rw [iN q]
  have:(u.Kind==0)=false:=by simpa using q
  rw [this];rfl
 rw [iP q,q]
 simp only [iB,beq_self_eq_true]
 have J:zHa v.Forest.Nodes=true->zBT fu v fu 0=some (zPS v.Forest.Nodes):=fun r=>by
  have I:=zK6 r
  refine (zUl (L:=zBT fu v) v.Forest.Nodes.length (fun i=>zBb v.Forest.Nodes v.Forest.Nodes.length (i:Int)) (some true) (fun i hi k=>?_) (fun k=>?_) (by omega)).trans ?_
  ·simp only [zBT]
   rw [zAT (by simpa using hi)]
   unfold zHH
   have:=zgE (fu:=fu) I (by omega) v.Forest.Nodes.length 0 fu (i:Int) _ (by omega) (by omega) (zAW hi)
   rw [show ((0:Nat):Int)=0 from rfl] at this
   rw [this,zAA,zPK,zBO (by omega),zAA]
   cases zBb v.Forest.Nodes v.Forest.Nodes.length (i:Int)<;>rfl
  ·simp only [zBT]
   rw [zAS (by simp)]
  ·unfold zPS
   cases (cW v.Forest.Nodes.length).all fun i=>zBb v.Forest.Nodes v.Forest.Nodes.length (i:Int)<;>rfl
 refine (zUl (L:=zCc fu v) v.Forest.Nodes.length (fun i=>match v.Forest.Nodes[i]? with | some x=>zFb v.Forest.Nodes (i:Int) x | none=>true) (zBT fu v fu 0) (fun i hi k=>?_) (fun k=>?_) (by omega)).trans ?_
 ·have hx:=zAW hi
  have d:=hk _ (zEw hx)
  simp only [zCc]
  rw [zAT (by simpa using hi),lC hi]
  rw [hx,zAA,zS3 (by omega),zAA,zd6 hx,zAA,zgM hx hk,zAA,zdH hx d.1 d.2,zAA,zcF hx,zAA,zBO (by omega),zAA]
  unfold zFb
  simp only [zPK]
  cases zHZ v.Forest.Nodes[i]<;>cases zL2 v.Forest.Nodes (i:Int) v.Forest.Nodes[i]<;>cases zK0 v.Forest.Nodes (i:Int) v.Forest.Nodes[i]<;>cases zEV v.Forest.Nodes (i:Int) v.Forest.Nodes[i]<;>cases (zN2 v.Forest.Nodes (i:Int) v.Forest.Nodes[i]&&zLG v.Forest.Nodes (i:Int) v.Forest.Nodes[i])<;>rfl
 ·simp only [zCc]
  rw [zAS (by simp)]
 ·have e:((cW v.Forest.Nodes.length).all fun i=>match v.Forest.Nodes[i]? with | some x=>zFb v.Forest.Nodes (i:Int) x | none=>true)=zHa v.Forest.Nodes:=rfl
  rw [e]
  cases r:zHa v.Forest.Nodes
  ·rfl
  ·rw [J r];rfl
theorem zEv {fu:Nat} {f:Forest} (hfu:1000<fu) (hk:zEb fu f.Nodes):zAs fu f=some (zAF f):=by
 unfold zAs
 rw [zSF (v:=⟨⟨f.Nodes,f.Most⟩⟩) hfu hk,zAA]
end
section
def zKL {α : Type} (l:List α) (p : α -> Bool):Int:=if l.any p=true then ((l.findIdx p:Nat):Int) else -1
theorem zR4 {l:List α} {p : α -> Bool} (h:l.any p=false):zKL l p = -1:=by
 unfold zKL;rw [h];rfl
theorem zR3 {l:List α} {p : α -> Bool} (h:l.any p=true):∃(i:Nat) (hi:i<l.length),zKL l p=(i:Int)/\p l[i]=true:=by
 have hi:l.findIdx p<l.length:=List.findIdx_lt_length.2 (dN.1 h)
 exact ⟨l.findIdx p,hi,by unfold zKL;rw [iP h],List.findIdx_getElem⟩
theorem zTD {l:List α} {p : α -> Bool}:zKL l p<0↔l.any p=false:=by
 constructor
 ·intro h
  cases e:l.any p with
  | false=>rfl
  | true=>obtain ⟨i,_,d,_⟩:=zR3 e;omega
 ·intro h;rw [zR4 h];omega
theorem zUm {L:Nat->Int->Option Int} (l:List α) (p : α -> Bool) (step:∀(i:Nat) (h:i<l.length) (k:Nat),L (k+1) (i:Int)=bif p l[i] then some (i:Int) else L k ((i+1:Nat):Int)) (d:∀k,L (k+1) (l.length:Int)=some (-1)) {k:Nat} (hk:l.length<k) :
  L k 0=some (zKL l p):=by
 have o:∀(j i k:Nat),i+j=l.length->j<k->L k (i:Int)=some (if (l.drop i).any p=true then (((l.drop i).findIdx p+i:Nat):Int) else -1):=by
  intro j
  induction j with
  | zero =>
   intro i k hi hk
   obtain ⟨k,rfl⟩:∃e,k=e+1:=⟨k - 1,by omega⟩
   obtain rfl:i=l.length:=by omega
   rw [d];simp
  | succ j q =>
   intro i k hi hk
   obtain ⟨k,rfl⟩:∃e,k=e+1:=⟨k - 1,by omega⟩
   have h:i<l.length:=by omega
   rw [step i h,eT h,List.any_cons,List.findIdx_cons]
   cases r:p l[i] with
   | true=>simp
   | false =>
    rw [q (i+1) k (by omega) (by omega)]
    simp only [cond_false,e9]
    split
    ·congr 1;omega
    ·rfl
 have:=o l.length 0 k (by omega) hk
 simpa [zKL] using this
end
section
theorem zFt {fu:Nat} {p:Int->Bool} {l:List Int} (q:∀x∈l,t x=some (p x)) (o:l.length<fu) (u:l.length<=1000000):zAd fu t l=some (l.any p):=by
 unfold zAd zAX
 obtain ⟨r,d,e⟩:=zGl (L:=zAM t l) l p (fun i hi k=>by
  simp only [zAM]
  rw [zAT (by simpa using hi),zAW hi,zAA,q _ (gC hi),zAA,zBO (by omega),zAA]
  cases p l[i]<;>rfl) (fun k=>by simp only [zAM];rw [zAS (by simp)]) o
 rw [d,zAA,e]
def inB (f:Forest) (n:Int):Bool:=decide (0<=n/\n<f.Nodes.length)
theorem zAa {f:Forest} (h:zAF f=true):1<=f.Nodes.length/\f.Nodes.length<=400/\zHa f.Nodes=true/\zPS f.Nodes=true:=by
 unfold zAF at h
 simp only [lM,decide_eq_true_eq] at h
 obtain ⟨q,r,d,u,B,e,o⟩:=h
 exact ⟨d,by omega,e,o⟩
theorem zNz {ns:List Node} (h:zPS ns=true) {n:Int} (d:0<=n/\n<ns.length):zBb ns ns.length n=true:=by
 unfold zPS at h
 rw [lR] at h
 have:=h n.toNat (by simp;omega)
 rwa [show ((n.toNat:Nat):Int)=n by omega] at this
theorem zJG {ns:List Node} (e:zHa ns=true) {n:Int} {x:Node} (hx:idx ns n=some x):∀k∈x.Kids,∃y,idx ns k=some y:=by
 intro k hk
 have h:=zBc e hx
 unfold zFb zEV at h
 simp only [lM] at h
 obtain ⟨_,_,_,⟨_,d,_⟩,_⟩:=h
 have:=lR.1 d k hk
 unfold zOo at this
 cases hy:idx ns k with
 | none=>rw [hy] at this;cases this
 | some y=>exact ⟨y,rfl⟩
def AllB (ns:List Node) (p:Int->Node->Bool):Prop:=∀n x,idx ns n=some x->p n x=true
theorem zS5 {ns:List Node}:zHa ns=true↔AllB ns (zFb ns):=by
 constructor
 ·intro h n x hx;exact zBc h hx
 ·intro h
  unfold zHa
  rw [lR]
  intro i hi
  have hi:i<ns.length:=by simpa using hi
  rw [lC hi]
  exact h i _ (zAW hi)
theorem zUD {x:Node} (h:zHZ x=true):0<=x.Kind/\x.Kind<=4:=by
 unfold zHZ at h
 by_cases d:x.Kind=1
 ·omega
 rw [iN d] at h
 by_cases e:x.Kind=2
 ·omega
 rw [iN e] at h
 by_cases o:x.Kind=0\/x.Kind=3\/x.Kind=4
 ·omega
 rw [iN o] at h
 cases h
theorem zLj {ns:List Node}:∀(k:Nat) (n:Int),zBb ns k n=true->zBb ns (k+1) n=true
 | 0,_,h=>by cases h
 | k+1,n,h=>by
  rw [zBb,dD] at h ⊢
  exact h.imp id fun h=>zLj k _ h
end
section
theorem zUM (f:Forest) (n:Int):cnd (decide (n<0)) (some true) (some (decide (n>=(f.Nodes.length:Int))))=some (!(inB f n)):=by
 unfold inB
 rw [zAQ]
 by_cases h:n<0
 ·rw [iP h,decide_eq_false (by omega)];rfl
 ·rw [iN h]
  by_cases d:n<f.Nodes.length
  ·rw [decide_eq_false (by omega),decide_eq_true (by omega)];rfl
  ·rw [decide_eq_true (by omega),decide_eq_false (by omega)];rfl
theorem zV5 {fu:Nat} {f:Forest} {l:List Int} (hfu:1000<fu) (hk:zEb fu f.Nodes) (hr:zAF f=true) (d:l.length<=100):zB5 fu f l=some (l.all (inB f)):=by
 unfold zB5
 rw [zEv hfu hk,zAA,hr,zAO,zFt (p:=fun n => !(inB f n)) (fun n _=>by unfold zDn;exact zUM f n) (by omega) (by omega),zAA,zHz]
theorem zFV {fu:Nat} {f:Forest} {l:List Int} (hfu:1000<fu) (hk:zEb fu f.Nodes) (hr:zAF f=true) (d:l.length<=100):zEP fu f l=some (l.all (inB f)):=by
 unfold zEP
 rw [zEv hfu hk,zAA,hr,zAO,zFt (p:=fun n => !(inB f n)) (fun n _=>by unfold zEu;exact zUM f n) (by omega) (by omega),zAA,zHz]
def zVj (ns:List Node) (a:Int):Nat->Int->Bool
 | 0,b=>b==a
 | k+1,b=>if b = -1\/b=a then b==a else zVj ns a k (upI ns b)
def zQQ (f:Forest) (a b:Int):Bool:=zVj f.Nodes a (f.Nodes.length+1) b
theorem sup_ok {fu:Nat} {f:Forest} {n:Int} {x:Node} (hx:idx f.Nodes n=some x):zG4 fu f n=some (upI f.Nodes n):=by
 unfold zG4 upI
 rw [hx,zAA,zAi,zAA]
 simp only
 split<;>rfl
theorem zbn {fu:Nat} {f:Forest} {a:Int} (D:Ups f.Nodes):∀(k q:Nat) (b:Int),(b = -1\/((∃x,idx f.Nodes b=some x)/\zBb f.Nodes k b=true))->k+1<q->zDL fu f a q b=some (zVj f.Nodes a (k+1) b):=by
 intro k
 induction k with
 | zero =>
  intro q b r B
  obtain ⟨q,rfl⟩:∃u,q=u+1:=⟨q - 1,by omega⟩
  rcases r with rfl | ⟨_,h⟩
  ·simp only [zDL]
   rw [zAi,iP rfl]
   simp only [zVj,true_or,if_true]
  ·simp [zBb] at h
 | succ k E =>
  intro q b r B
  obtain ⟨q,rfl⟩:∃u,q=u+1:=⟨q - 1,by omega⟩
  simp only [zDL]
  rw [zAi,zAi]
  rcases r with rfl | ⟨⟨x,hx⟩,h⟩
  ·rw [iP rfl]
   simp only [zVj,true_or,if_true]
  ·by_cases d:b = -1
   ·rw [iP d]
    simp only [zVj,d,true_or,if_true]
   ·rw [iN d]
    by_cases e:b=a
    ·rw [iP e]
     simp only [zVj,e,or_true,if_true]
    ·rw [iN e,sup_ok hx,zAA,E q _ ?_ (by omega)]
     ·conv=>rhs;rw [zVj]
      rw [iN (by simp [d,e])]
     ·simp only [zBb,dD,beq_iff_eq] at h
      rcases h with h | h
      ·exact .inl h
      ·rcases D b x hx with o | o
       ·exact .inl o
       ·exact .inr ⟨o,h⟩
theorem zXF {fu:Nat} {f:Forest} {a b:Int} (hfu:1000<fu) (hk:zEb fu f.Nodes) (hr:zAF f=true) (ha:inB f a=true) (e:inB f b=true):zEL fu f a b=some (zQQ f a b):=by
 obtain ⟨_,r,o,q⟩:=zAa hr
 unfold zEL zQQ
 rw [zV5 hfu hk hr (by simp),zAA]
 simp only [cK,iM,ha,e,iO,iA,zAG]
 have d:0<=b/\b<f.Nodes.length:=by unfold inB at e;simpa using e
 exact zbn (zK6 o) f.Nodes.length fu b (.inr ⟨zAJ d,zNz q d⟩) (by omega)
def zDz (ns:List Node) (gone:Int) (l:List Int) (kind:Int):Nat:=l.countP fun k=>k != gone&&isB ns k kind
theorem zXA {fu:Nat} {l:zAk} {kind:Int} (r:∀k∈nodes,∃x,idx l.Forest.Nodes k=some x) (e:nodes.length<fu) (D:nodes.length<=1000000):zCY fu l nodes kind=some ((zDz l.Forest.Nodes l.gone nodes kind:Nat):Int):=by
 unfold zCY
 have:=upf (L:=zBi fu l nodes kind) (f:=fun i=>(((zDz l.Forest.Nodes l.gone (nodes.take i) kind:Nat):Int),(i:Int))) (v:=some ((zDz l.Forest.Nodes l.gone nodes kind:Nat):Int)) nodes.length (fun i hi k=>?_) (fun k=>?_) e
 ·simpa [zDz] using this
 ·obtain ⟨x,hx⟩:=r _ (gC hi)
  have o:zDz l.Forest.Nodes l.gone (nodes.take i) kind<=(nodes.take i).length:=jA
  have q:(nodes.take i).length<=i:=by simp;omega
  have hs:zDz l.Forest.Nodes l.gone (nodes.take (i+1)) kind=zDz l.Forest.Nodes l.gone (nodes.take i) kind+(if (nodes[i] != l.gone&&isB l.Forest.Nodes nodes[i] kind)=true then 1 else 0):=by
   unfold zDz
   rw [iD hi,jE]
   simp [dG]
  have d:isB l.Forest.Nodes nodes[i] kind=(x.Kind==kind):=by unfold isB;rw [hx]
  simp only [zBi]
  rw [zAT (by simpa using hi),zAW hi,zAA,zBO (by omega),hs,d]
  unfold zAe
  rw [hx,zBO (by omega)]
  simp only [zAA]
  cases u:nodes[i] != l.gone
  ·rfl
  ·cases B:x.Kind==kind<;>rfl
 ·simp only [zBi]
  rw [zAS (by simp),iG]
def zGI (ns:List Node) (p gone:Int) (l:List Int):Bool:=decide (0<zDz ns gone l 2)||(decide (0<zDz ns gone l 1)&&(match idx ns p with | some y=>decide (1<zDz ns gone l 1+zDz ns gone y.Kids 1) | none=>false))
theorem zSp {fu:Nat} {l:zAk} {y:Node} (e:zHa l.Forest.Nodes=true) (o:idx l.Forest.Nodes l.p=some y) (hk:zEb fu l.Forest.Nodes) (D:∀k∈nodes,∃x,idx l.Forest.Nodes k=some x) (B:nodes.length<fu) (u:nodes.length<=1000000):zBh fu l nodes=some (zGI l.Forest.Nodes l.p l.gone nodes):=by
 have d:=hk _ (zEw o)
 have E:zDz l.Forest.Nodes l.gone nodes 1<=nodes.length:=jA
 have F:zDz l.Forest.Nodes l.gone y.Kids 1<=y.Kids.length:=jA
 unfold zBh zGI
 rw [zXA D B u,zAA,zXA D B u,zAA,zAA,o,zAA,zXA (zJG e o) d.1 d.2,zAA,zcC (by omega) (by omega),zAA,zAQ,zAQ]
 by_cases q:0<zDz l.Forest.Nodes l.gone nodes 2
 ·rw [iP (by omega),decide_eq_true q];rfl
 ·rw [iN (by omega),decide_eq_false q,e9]
  by_cases r:0<zDz l.Forest.Nodes l.gone nodes 1
  ·rw [iP (by omega),decide_eq_true r,iB]
   congr 1
   exact decide_eq_decide.2 (by omega)
  ·rw [iN (by omega),decide_eq_false r];rfl
def zPh (f:Forest) (n p _child gone:Int) (x y:Node) (d:Bool):Int :=
 if zGP y.Kind=false then 5 else if zQQ f n p=true then 5 else if d=false then 6 else if x.Kind=0\/x.Kind=4 then 5
 else if y.Kind=0 then (if zGI f.Nodes p gone (if x.Kind=3 then x.Kids else [n])=true then 5 else 0) else 0
theorem zXU {fu:Nat} {f:Forest} {n p gone:Int} {x y:Node} (hfu:1000<fu) (hk:zEb fu f.Nodes) (hr:zAF f=true) (hx:idx f.Nodes n=some x) (hy:idx f.Nodes p=some y) (hc:child = -1\/∃z,idx f.Nodes child=some z) :
  zC7 fu ⟨⟨f.Nodes,f.Most⟩,p,child,gone⟩ n=some (zPh f n p child gone x y (child == -1||(match idx f.Nodes child with | some z=>z.Parent==p | none=>false))):=by
 obtain ⟨_,V,o,_⟩:=zAa hr
 have G:inB f n=true:=by unfold inB;exact decide_eq_true (zAK hx)
 have I:inB f p=true:=by unfold inB;exact decide_eq_true (zAK hy)
 have S:zEL fu f n p=some (zQQ f n p):=zXF hfu hk hr G I
 have kx:zAe fu ⟨⟨f.Nodes,f.Most⟩,p,child,gone⟩ n=some x.Kind:=by unfold zAe;rw [hx];rfl
 have W:zAe fu ⟨⟨f.Nodes,f.Most⟩,p,child,gone⟩ p=some y.Kind:=by unfold zAe;rw [hy];rfl
 have D:=hk _ (zEw hx)
 have E:zBh fu ⟨⟨f.Nodes,f.Most⟩,p,child,gone⟩ x.Kids=some (zGI f.Nodes p gone x.Kids):=zSp (l:=⟨⟨f.Nodes,f.Most⟩,p,child,gone⟩) o hy hk (zJG o hx) D.1 D.2
 have F:zBh fu ⟨⟨f.Nodes,f.Most⟩,p,child,gone⟩ [n]=some (zGI f.Nodes p gone [n]):=zSp (l:=⟨⟨f.Nodes,f.Most⟩,p,child,gone⟩) o hy hk (fun k B=>by simp at B;subst B;exact ⟨x,hx⟩) (by simp;omega) (by simp)
 have u:∀t:Bool,zDt fu ⟨⟨f.Nodes,f.Most⟩,p,child,gone⟩ n x.Kind t=some (if t=true then 5 else if y.Kind=0 then (if zGI f.Nodes p gone (if x.Kind=3 then x.Kids else [n])=true then 5 else 0) else 0):=fun t=>by
  unfold zDt
  simp only [W,zAA,zAj,F,E,hx]
  cases t
  ·rw [zAG]
   by_cases q:x.Kind=3
   ·simp only [iP q,ze9]
    by_cases d:y.Kind=0
    ·simp only [iP d]
     cases zGI f.Nodes p gone x.Kids<;>rfl
    ·simp only [iN d];rfl
   ·simp only [iN q,ze9]
    by_cases d:y.Kind=0
    ·simp only [iP d]
     cases zGI f.Nodes p gone [n]<;>rfl
    ·simp only [iN d];rfl
  ·rfl
 have Q:zDs fu ⟨⟨f.Nodes,f.Most⟩,p,child,gone⟩ n ()=some (if x.Kind=0\/x.Kind=4 then 5 else if y.Kind=0 then (if zGI f.Nodes p gone (if x.Kind=3 then x.Kids else [n])=true then 5 else 0) else 0):=by
  unfold zDs
  rw [kx,zAA,u,u,zAj]
  by_cases d:x.Kind=0
  ·simp [d]
  ·by_cases r:x.Kind=4
   ·simp [r]
   ·simp [d,r]
 have N:∀(h c:Bool),zDr fu ⟨⟨f.Nodes,f.Most⟩,p,child,gone⟩ n h c=some (if h=false then 5 else if zQQ f n p=true then 5 else if c=false then 6 else if x.Kind=0\/x.Kind=4 then 5 else if y.Kind=0 then (if zGI f.Nodes p gone (if x.Kind=3 then x.Kids else [n])=true then 5 else 0) else 0):=fun h c=>by
  unfold zDr
  rw [show zEL fu (⟨⟨f.Nodes,f.Most⟩,p,child,gone⟩:zAk).Forest n (⟨⟨f.Nodes,f.Most⟩,p,child,gone⟩:zAk).p=some (zQQ f n p) from S,zAA,Q]
  cases h
  ·rfl
  ·cases zQQ f n p
   ·cases c<;>rfl
   ·rfl
 have J:∀h:Bool,zAq fu ⟨⟨f.Nodes,f.Most⟩,p,child,gone⟩ n h=some (if h=false then 5 else if zQQ f n p=true then 5 else if (child == -1||(match idx f.Nodes child with | some z=>z.Parent==p | none=>false))=false then 6 else if x.Kind=0\/x.Kind=4 then 5 else if y.Kind=0 then (if zGI f.Nodes p gone (if x.Kind=3 then x.Kids else [n])=true then 5 else 0) else 0):=fun h=>by
  unfold zAq
  simp only [N,zAi]
  by_cases e:child = -1
  ·simp [e]
  ·have X:(child == -1)=false:=by simpa using e
   rw [iN e,X]
   rcases hc with h2 | ⟨z,hz⟩
   ·exact absurd h2 e
   ·rw [hz];rfl
 unfold zC7 zPh
 rw [show zAe fu ⟨⟨f.Nodes,f.Most⟩,p,child,gone⟩ (⟨⟨f.Nodes,f.Most⟩,p,child,gone⟩:zAk).p=some y.Kind from W,zAA]
 simp only [J,zAj]
 unfold zGP
 by_cases d:y.Kind=0
 ·simp [d]
 by_cases e:y.Kind=1
 ·simp [e]
 by_cases q:y.Kind=3
 ·simp [q]
 by_cases r:y.Kind=4
 ·simp [r]
 simp [d,e,q,r]
theorem zbX {fu:Nat} {f:Forest} {n p:Int} {x y:Node} (hfu:1000<fu) (hk:zEb fu f.Nodes) (hr:zAF f=true) (hx:idx f.Nodes n=some x) (hy:idx f.Nodes p=some y) (q:child = -1\/∃z,idx f.Nodes child=some z) :
  zEh fu f n p child=some (zPh f n p child (-1) x y (child == -1||(match idx f.Nodes child with | some z=>z.Parent==p | none=>false))):=by
 have e:inB f n=true:=by unfold inB;exact decide_eq_true (zAK hx)
 have o:inB f p=true:=by unfold inB;exact decide_eq_true (zAK hy)
 unfold zEh
 rw [zFV hfu hk hr (by simp),zAA,zXU hfu hk hr hx hy q,zAA,zAi]
 simp only [cK,iM,e,o,iO,iA,zAG]
 by_cases d:child = -1
 ·rw [iP d]
 ·rw [iN d,zFV hfu hk hr (by simp),zAA]
  rcases q with r | ⟨z,hz⟩
  ·exact absurd r d
  ·have:inB f child=true:=by unfold inB;exact decide_eq_true (zAK hz)
   simp only [cK,iM,this,iO,iA,zAG]
theorem zhB {fu:Nat} {f:Forest} {n p:Int} {x y z:Node} (hfu:1000<fu) (hk:zEb fu f.Nodes) (hr:zAF f=true) (hx:idx f.Nodes n=some x) (hy:idx f.Nodes p=some y) (hz:idx f.Nodes child=some z) :
  zEO fu f n p child=some (zPh f n p child child x y (z.Parent==p)):=by
 have d:inB f n=true:=by unfold inB;exact decide_eq_true (zAK hx)
 have e:inB f p=true:=by unfold inB;exact decide_eq_true (zAK hy)
 have o:inB f child=true:=by unfold inB;exact decide_eq_true (zAK hz)
 have r:=zAK hz
 have q:(child == -1)=false:=by simp;omega
 unfold zEO zHS
 rw [zFV hfu hk hr (by simp),zAA,zFV hfu hk hr (by simp),zAA,zXU hfu hk hr hx hy (.inr ⟨z,hz⟩),zAA,zAi,iN (by omega),q,hz]
 simp only [cK,iM,d,e,o,iO,iA,zAG,e9]
end
section
def InN (ns:List Node) (n:Int):Prop:=0<=n/\n<ns.length
def zHB (ns:List Node) (n:Int):Int:=match idx ns n with | some x=>x.Parent | none => -1
def zMD (ns:List Node) (n:Int):List Int:=match idx ns n with | some x=>x.Kids | none=>[]
def zPu (ns:List Node):Nat->Int->Prop
 | 0,_=>False
 | k+1,n=>zHB ns n = -1\/zPu ns k (zHB ns n)
def zc3 (ns:List Node):Nat->Int->List Int
 | 0,_=>[]
 | k+1,n=>n::(if zHB ns n = -1 then [] else zc3 ns k (zHB ns n))
def way (ns:List Node) (n:Int):List Int:=zc3 ns ns.length n
def allF (ns:List Node):Nat->Int->List Int
 | 0,_=>[]
 | k+1,n=>n::(zMD ns n).flatMap (allF ns k)
def zMY (ns:List Node) (n:Int):List Int:=allF ns ns.length n
def zUb (ns:List Node):Nat->Int->Int
 | 0,n=>n
 | k+1,n=>if zHB ns n = -1 then n else zUb ns k (zHB ns n)
def zPe (ns:List Node) (n:Int):Int:=zUb ns ns.length n
structure Tree (ns:List Node):Prop where
 kid:∀n k,k∈zMD ns n->InN ns n/\InN ns k/\zHB ns k=n
 par:∀x,InN ns x->zHB ns x ≠ -1->InN ns (zHB ns x)/\x∈zMD ns (zHB ns x)
 nod:∀n,(zMD ns n).Nodup
 fin:∀n,InN ns n->zPu ns ns.length n
theorem zUj {ns:List Node} (r:zHa ns=true) (B:zPS ns=true):Tree ns where
 kid n k hk:=by
  unfold zMD at hk
  cases hx:idx ns n with
  | none=>rw [hx] at hk;simp at hk
  | some x =>
   rw [hx] at hk
   have h:=zBc r hx
   unfold zFb zEV at h
   simp only [lM] at h
   obtain ⟨_,_,_,⟨_,u,_⟩,_⟩:=h
   have:=lR.1 u k hk
   unfold zOo at this
   cases hy:idx ns k with
   | none=>rw [hy] at this;cases this
   | some y =>
    rw [hy] at this
    simp only [lM,beq_iff_eq] at this
    refine ⟨zAK hx,zAK hy,?_⟩
    unfold zHB;rw [hy];exact this.1
 par x hx d:=by
  obtain ⟨y,hy⟩:=zAJ hx
  have e:zHB ns x=y.Parent:=by unfold zHB;rw [hy]
  rw [e] at d ⊢
  have h:=zBc r hy
  unfold zFb zK0 at h
  simp only [lM] at h
  obtain ⟨_,_,o,_⟩:=h
  have e:(y.Parent == -1)=false:=by simpa using d
  rw [e,e9,lM] at o
  cases q:idx ns y.Parent with
  | none=>rw [q] at o;simp at o
  | some p =>
   rw [q] at o
   simp only [lM] at o
   refine ⟨zAK q,?_⟩
   unfold zMD;rw [q]
   exact e7.1 o.2.2
 nod n:=by
  unfold zMD
  cases hx:idx ns n with
  | none=>simp
  | some x =>
   have h:=zBc r hx
   unfold zFb zEV at h
   simp only [lM,decide_eq_true_eq] at h
   exact h.2.2.2.1.1
 fin n h:=by
  have:=zNz B h
  revert this
  generalize ns.length=k
  clear h
  intro h
  induction k generalizing n with
  | zero=>cases h
  | succ k D =>
   simp only [zBb,dD,beq_iff_eq] at h
   simp only [zPu]
   by_cases d:zHB ns n = -1
   ·exact .inl d
   ·have e:upI ns n=zHB ns n:=by
     unfold upI;unfold zHB at d ⊢
     cases hx:idx ns n with
     | none=>rfl
     | some x=>rw [hx] at d;simp only at d ⊢;rw [iN d]
    rw [e] at h
    rcases h with h | h
    ·exact absurd h d
    ·exact .inr (D _ h)
theorem InN.pos {ns:List Node} {n:Int} (h:InN ns n):∃M,ns.length=M+1:=⟨ns.length - 1,by unfold InN at h;omega⟩
theorem InN.ne {ns:List Node} {n:Int} (h:InN ns n):n ≠ -1:=by unfold InN at h;omega
theorem zWF {ns:List Node}:∀(k:Nat) (n:Int),zPu ns k n->∀j,k<=j->zc3 ns j n=zc3 ns k n
 | 0,_,h,_,_=>h.elim
 | k+1,n,h,j,hj=>by
  obtain ⟨j,rfl⟩:∃e,j=e+1:=⟨j - 1,by omega⟩
  simp only [zc3]
  by_cases d:zHB ns n = -1
  ·rw [iP d,iP d]
  ·rw [iN d,iN d,zWF k _ (h.resolve_left d) j (by omega)]
theorem zTJ {ns:List Node}:∀(k:Nat) (n:Int),zPu ns k n->∀j,k<=j->zUb ns j n=zUb ns k n
 | 0,_,h,_,_=>h.elim
 | k+1,n,h,j,hj=>by
  obtain ⟨j,rfl⟩:∃e,j=e+1:=⟨j - 1,by omega⟩
  simp only [zUb]
  by_cases d:zHB ns n = -1
  ·rw [iP d,iP d]
  ·rw [iN d,iN d,zTJ k _ (h.resolve_left d) j (by omega)]
theorem zYt {ns:List Node}:∀(k:Nat) (n:Int),(zc3 ns k n).length<=k
 | 0,_=>by simp [zc3]
 | k+1,n=>by
  simp only [zc3,cP]
  split
  ·simp
  ·have:=zYt (ns:=ns) k (zHB ns n);omega
section
variable {ns:List Node} (T:Tree ns)
include T
theorem Tree.climb {n:Int} (h:InN ns n) {M:Nat} (d:ns.length=M+1):zHB ns n = -1\/zPu ns M (zHB ns n):=by
 have:=T.fin n h
 rw [d] at this
 exact this
theorem Tree.way_eq {n:Int} (h:InN ns n):way ns n=n::(if zHB ns n = -1 then [] else way ns (zHB ns n)):=by
 obtain ⟨M,e⟩:=h.pos
 have o:=T.climb h e
 unfold way
 rw [e]
 simp only [zc3]
 by_cases d:zHB ns n = -1
 ·rw [iP d,iP d]
 ·rw [iN d,iN d]
  have:=zWF M _ (o.resolve_left d) (M+1) (by omega)
  simp only [zc3] at this
  rw [this]
theorem Tree.root_eq {n:Int} (h:InN ns n):zPe ns n=if zHB ns n = -1 then n else zPe ns (zHB ns n):=by
 obtain ⟨M,e⟩:=h.pos
 have o:=T.climb h e
 unfold zPe
 rw [e]
 simp only [zUb]
 by_cases d:zHB ns n = -1
 ·rw [iP d,iP d]
 ·rw [iN d,iN d]
  have:=zTJ M _ (o.resolve_left d) (M+1) (by omega)
  simp only [zUb] at this
  rw [this]
theorem Tree.up_ind (h:∀n,InN ns n->(zHB ns n ≠ -1->C (zHB ns n))->C n):∀n,InN ns n->C n:=by
 have e:∀(k:Nat) (n:Int),InN ns n->zPu ns k n->C n:=by
  intro k
  induction k with
  | zero=>intro n _ h;exact h.elim
  | succ k r =>
   intro n d q
   exact h n d fun o=>r _ (T.par n d o).1 (q.resolve_left o)
 exact fun n d=>e _ n d (T.fin n d)
theorem Tree.way_kid {n k:Int} (hk:k∈zMD ns n):way ns k=k::way ns n:=by
 obtain ⟨d,e,o⟩:=T.kid n k hk
 rw [T.way_eq e,o,iN d.ne]
theorem Tree.way_len {n:Int} (h:InN ns n):1<=(way ns n).length/\(way ns n).length<=ns.length:=by
 refine ⟨?_,zYt _ _⟩
 rw [T.way_eq h];simp
theorem Tree.down_ind (h:∀n,InN ns n->(∀k,k∈zMD ns n->C k)->C n):∀n,InN ns n->C n:=by
 have o:∀(d:Nat) (n:Int),InN ns n->ns.length<(way ns n).length+d->C n:=by
  intro d
  induction d with
  | zero=>intro n e q;have:=T.way_len e;omega
  | succ d r =>
   intro n e q
   exact h n e fun k hk=>r k (T.kid n k hk).2.1 (by rw [T.way_kid hk,cP];omega)
 exact fun n e=>o ns.length n e (by have:=T.way_len e;omega)
theorem Tree.allF_stab:∀(d:Nat) (n:Int),InN ns n->ns.length<(way ns n).length+d->∀j,allF ns (d+j) n=allF ns d n:=by
 intro d
 induction d with
 | zero=>intro n e o;have:=T.way_len e;omega
 | succ d q =>
  intro n e o j
  rw [show d+1+j=d+j+1 by omega]
  simp only [allF,iQ]
  rw [iK fun k hk=>q k (T.kid n k hk).2.1 (by rw [T.way_kid hk,cP];omega) j]
theorem Tree.all_eq {n:Int} (h:InN ns n):zMY ns n=n::(zMD ns n).flatMap (zMY ns):=by
 obtain ⟨M,d⟩:=h.pos
 have hs:=T.allF_stab
 have e:=T.way_len h
 unfold zMY
 rw [d]
 conv=>lhs;simp only [allF]
 rw [iQ,iQ,iK fun k hk=>(hs M k (T.kid n k hk).2.1 (by rw [T.way_kid hk,cP];omega) 1).symm]
theorem Tree.way_self {n:Int} (h:InN ns n):n∈way ns n:=by rw [T.way_eq h];simp
theorem Tree.way_in:∀x,InN ns x->∀y∈way ns x,InN ns y:=T.up_ind fun x hx e y hy=>by
 rw [T.way_eq hx] at hy
 rcases lD.1 hy with rfl | hy
 ·exact hx
 ·split at hy
  ·simp at hy
  ·rename_i d;exact e d y hy
theorem Tree.way_suffix:∀x,InN ns x->∀y∈way ns x,way ns y <:+ way ns x:=T.up_ind fun x hx o y hy=>by
 have e:=T.way_eq hx
 rw [e] at hy
 rcases lD.1 hy with rfl | hy
 ·exact jF _
 ·split at hy
  ·simp at hy
  ·rename_i d
   rw [e,iN d]
   exact (o d y hy).trans (jG _ _)
theorem Tree.way_trans {x y z:Int} (hz:InN ns z) (d:x∈way ns y) (e:y∈way ns z):x∈way ns z:=(T.way_suffix z hz y e).subset d
theorem Tree.way_inj {x y:Int} (hx:InN ns x) (hy:InN ns y) (h:way ns x=way ns y):x=y:=by
 rw [T.way_eq hx,T.way_eq hy] at h
 exact (dU.inj h).1
theorem Tree.way_same {x y z:Int} (hz:InN ns z) (d:x∈way ns z) (e:y∈way ns z) (o:(way ns x).length=(way ns y).length):x=y :=
 T.way_inj (T.way_in z hz x d) (T.way_in z hz y e) ((jT (T.way_suffix z hz x d) (T.way_suffix z hz y e) (by omega)).eq_of_length o)
end
end
section
theorem zMf:∀(N:Nat) (l:List Int),l.Nodup->(∀x∈l,0<=x/\x<N)->l.length<=N
 | 0,l,_,h=>by
  cases l with
  | nil=>simp
  | cons x l=>have:=h x (by simp);omega
 | N+1,l,hl,h=>by
  have d:=zMf N (l.erase (N:Int)) (hl.erase _) fun x hx=>by
   rw [hl.mem_erase_iff] at hx
   have:=h x hx.2
   have:=hx.1
   omega
  rw [List.length_erase] at d
  split at d<;>omega
section
variable {ns:List Node} (T:Tree ns)
include T
theorem Tree.kid_way {n k x:Int} (hx:InN ns x) (hk:k∈zMD ns n) (h:k∈way ns x):n∈way ns x :=
 T.way_trans hx (by rw [T.way_kid hk];exact lG _ (T.way_self (T.kid n k hk).1)) h
theorem Tree.all_in:∀n,InN ns n->∀x∈zMY ns n,InN ns x/\n∈way ns x:=T.down_ind fun n d q x hx=>by
 rw [T.all_eq d] at hx
 rcases lD.1 hx with rfl | hx
 ·exact ⟨d,T.way_self d⟩
 ·obtain ⟨k,hk,hx⟩:=iE.1 hx
  obtain ⟨e,o⟩:=q k hk x hx
  exact ⟨e,T.kid_way e hk o⟩
theorem Tree.all_self {n:Int} (d:InN ns n):n∈zMY ns n:=by rw [T.all_eq d];simp
theorem Tree.all_kid:∀n,InN ns n->∀y∈zMY ns n,∀k∈zMD ns y,k∈zMY ns n:=T.down_ind fun n o q y hy k hk=>by
 rw [T.all_eq o] at hy ⊢
 rcases lD.1 hy with rfl | hy
 ·exact lG _ (iE.2 ⟨k,hk,T.all_self (T.kid _ k hk).2.1⟩)
 ·obtain ⟨e,d,hy⟩:=iE.1 hy
  exact lG _ (iE.2 ⟨e,d,q e d y hy k hk⟩)
theorem Tree.mem_all {n:Int} (e:InN ns n):∀x,InN ns x->n∈way ns x->x∈zMY ns n:=T.up_ind fun x hx q h=>by
 have d:=h
 rw [T.way_eq hx] at d
 rcases lD.1 d with rfl | d
 ·exact T.all_self e
 ·split at d
  ·simp at d
  ·rename_i o
   exact T.all_kid n e _ (q o d) x (T.par x hx o).2
theorem Tree.kids_disj {n k e x:Int} (hk:k∈zMD ns n) (d:e∈zMD ns n) (h:x∈zMY ns k) (q:x∈zMY ns e):k=e:=by
 have o:=T.all_in k (T.kid n k hk).2.1 x h
 have r:=T.all_in e (T.kid n e d).2.1 x q
 exact T.way_same o.1 o.2 r.2 (by rw [T.way_kid hk,T.way_kid d];simp)
theorem Tree.all_nodup:∀n,InN ns n->(zMY ns n).Nodup:=T.down_ind fun n r B=>by
 rw [T.all_eq r,lS]
 refine ⟨fun h=>?_,?_⟩
 ·obtain ⟨k,hk,h⟩:=iE.1 h
  have u:=(T.all_in k (T.kid n k hk).2.1 n h).2
  have q:=T.way_suffix n r k u
  rw [T.way_kid hk] at q
  have:=q.length_le
  simp at this
  omega
 ·rw [List.Nodup,jU]
  refine ⟨fun k hk=>B k hk,?_⟩
  refine (T.nod n).imp_of_mem fun hk d o x hx y hy e=>?_
  subst e
  exact o (T.kids_disj hk d hx hy)
theorem Tree.all_len {n:Int} (d:InN ns n):(zMY ns n).length<=ns.length:=zMf _ _ (T.all_nodup n d) fun x hx=>(T.all_in n d x hx).1
theorem Tree.root_way:∀n,InN ns n->zPe ns n∈way ns n/\zHB ns (zPe ns n) = -1:=T.up_ind fun n e o=>by
 rw [T.root_eq e,T.way_eq e]
 by_cases d:zHB ns n = -1
 ·rw [iP d,iP d];exact ⟨by simp,d⟩
 ·rw [iN d,iN d];exact ⟨lG _ (o d).1,(o d).2⟩
theorem Tree.root_in {n:Int} (d:InN ns n):InN ns (zPe ns n):=T.way_in n d _ (T.root_way n d).1
theorem Tree.root_same:∀x,InN ns x->∀y∈way ns x,zPe ns x=zPe ns y:=T.up_ind fun x hx e y hy=>by
 rw [T.way_eq hx] at hy
 rcases lD.1 hy with rfl | hy
 ·rfl
 ·split at hy
  ·simp at hy
  ·rename_i d
   rw [T.root_eq hx,iN d]
   exact e d y hy
theorem Tree.root_top {n:Int} (d:InN ns n) (e:zHB ns n = -1):zPe ns n=n:=by rw [T.root_eq d,iP e]
end
end
section
def za2 (l:List Int) (n:Int):Int:=if n∈l then ((l.idxOf n:Nat):Int) else -1
theorem zYq {L:Nat->Int->Option Int} (l:List Int) (n:Int) (step:∀(i:Nat) (h:i<l.length) (k:Nat),L (k+1) (i:Int)=if l[i]=n then some (i:Int) else L k ((i+1:Nat):Int)) (o:∀k,L (k+1) (l.length:Int)=some (-1)) {k:Nat} (hk:l.length<k):L k 0=some (za2 l n):=by
 have r:∀(j i k:Nat),i+j=l.length->j<k->L k (i:Int)=some (if n∈l.drop i then (((l.drop i).idxOf n+i:Nat):Int) else -1):=by
  intro j
  induction j with
  | zero =>
   intro i k hi hk
   obtain ⟨k,rfl⟩:∃q,k=q+1:=⟨k - 1,by omega⟩
   obtain rfl:i=l.length:=by omega
   rw [o];simp
  | succ j B =>
   intro i k hi hk
   obtain ⟨k,rfl⟩:∃q,k=q+1:=⟨k - 1,by omega⟩
   have h:i<l.length:=by omega
   rw [step i h,eT h]
   by_cases d:l[i]=n
   ·rw [iP d,iP (by rw [d];simp),d,List.idxOf_cons_self,dA]
   ·rw [iN d,B (i+1) k (by omega) (by omega)]
    have e:(n∈l[i]::l.drop (i+1))↔n∈l.drop (i+1):=⟨fun h=>(lD.1 h).resolve_left (Ne.symm d),lG _⟩
    have u:(l[i]::l.drop (i+1)).idxOf n=(l.drop (i+1)).idxOf n+1:=by rw [List.idxOf_cons,beq_eq_false_iff_ne.2 d];rfl
    by_cases hm:n∈l.drop (i+1)
    ·rw [iP hm,iP (e.2 hm),u]
     congr 1;omega
    ·rw [iN hm,iN fun h=>hm (e.1 h)]
 have:=r l.length 0 k (by omega) hk
 simpa [za2] using this
theorem zVz {fu:Nat} {l:List Int} {n:Int} (d:l.length<fu) (e:l.length<=1000000):zCX fu l n=some (za2 l n):=by
 unfold zCX
 refine zYq (L:=zBM l n) l n (fun i hi k=>?_) (fun k=>?_) d
 ·simp only [zBM]
  rw [zAT (by simpa using hi),zAW hi,zAA,zBO (by omega),zAA,zAj]
  by_cases h:l[i]=n
  ·rw [iP h.symm,iP h]
  ·rw [iN (Ne.symm h),iN h]
 ·simp only [zBM];rw [zAS (by simp)]
theorem zQg {l:List Int} {n:Int} (h:n∈l):za2 l n=((l.idxOf n:Nat):Int)/\l.idxOf n<l.length:=⟨iP h,List.idxOf_lt_length_of_mem h⟩
theorem zIy {ns:List Node} {n:Int} {x:Node} (h:idx ns n=some x):zHB ns n=x.Parent:=by unfold zHB;rw [h]
theorem zFv {ns:List Node} {n:Int} {x:Node} (h:idx ns n=some x):zMD ns n=x.Kids:=by unfold zMD;rw [h]
structure Small (f:Forest):Prop where
 few:f.Nodes.length<=400
 kids:∀x∈f.Nodes,x.Kids.length<=400
 attrs:∀x∈f.Nodes,x.Attrs.length<=60
 name:∀x∈f.Nodes,x.Name.length<=300
theorem Small.fit {f:Forest} (h:Small f) {fu:Nat} (hfu:1000<fu):zEb fu f.Nodes:=fun x hx=>by have:=h.kids x hx;omega
theorem zUf {fu:Nat} {f:Forest} (hfu:1000<fu):∃r,zE7 fu f=some r/\(r=true->Small f/\f.Nodes.length<=60):=by
 unfold zE7
 rw [zAQ]
 by_cases h:f.Nodes.length<=60
 ·rw [iN (by omega)]
  refine ⟨f.Nodes.all fun n=>decide (n.Kids.length<=60)&&(decide (n.Attrs.length<=60)&&decide (n.Name.length<=300)),(zLH (L:=zCd f) f.Nodes (fun n=>decide (n.Kids.length<=60)&&(decide (n.Attrs.length<=60)&&decide (n.Name.length<=300))) (some true) (fun i hi k=>?_) (fun k=>?_) (by omega)).trans ?_,fun hr=>?_⟩
  ·simp only [zCd]
   rw [zAT (by simpa using hi),zAW hi,zAA,zAA,zAA,zBO (by omega),zAA,zAQ,zAQ,zAQ]
   generalize f.Nodes[i]=n
   by_cases e:n.Kids.length<=60
   ·by_cases o:n.Attrs.length<=60
    ·by_cases q:n.Name.length<=300
     ·rw [iN (by omega),iN (by omega),iN (by omega)];simp [e,o,q]
     ·rw [iN (by omega),iN (by omega),iP (by omega)];simp [q]
    ·rw [iN (by omega),iP (by omega)];simp [o]
   ·rw [iP (by omega)];simp [e]
  ·simp only [zCd]
   rw [zAS (by simp)]
  ·cases f.Nodes.all fun n=>decide (n.Kids.length<=60)&&(decide (n.Attrs.length<=60)&&decide (n.Name.length<=300))<;>rfl
  ·have d:∀n∈f.Nodes,n.Kids.length<=60/\n.Attrs.length<=60/\n.Name.length<=300:=fun n u=>by
    have:=lR.1 hr n u
    simpa only [lM,decide_eq_true_eq] using this
   exact ⟨⟨by omega,fun x hx=>(by have:=(d x hx).1;omega),fun x hx=>(d x hx).2.1,fun x hx=>(d x hx).2.2⟩,h⟩
 ·rw [iP (by omega)];exact ⟨false,rfl,by simp⟩
theorem zdB {fu:Nat} {f:Forest} {l:List Int} (hfu:1000<fu) (hk:zEb fu f.Nodes) (d:l.length<=1000):zFX fu f l=some (zAF f&&l.all (inB f)):=by
 unfold zFX
 rw [zSF (v:=⟨⟨f.Nodes,f.Most⟩⟩) hfu hk,zAA]
 cases zAF f with
 | false=>rfl
 | true =>
  rw [zAO,zFt (p:=fun n => !(inB f n)) (fun n _=>by unfold zD7;rw [zQs,zAA];rfl) (by omega) (by omega),zAA,zHz]
  rfl
theorem zNh {f:Forest} {n:Int} (h:InN f.Nodes n):inB f n=true:=decide_eq_true h
theorem ze3 {fu:Nat} {f:Forest} {n:Int} (hfu:1000<fu) (hk:zEb fu f.Nodes) (hr:zAF f=true) (h:InN f.Nodes n):zFX fu f [n]=some true:=by
 rw [zdB hfu hk (by simp),hr];simp [zNh h]
theorem zBG {f:Forest} (hr:zAF f=true):Tree f.Nodes:=by
 obtain ⟨_,_,d,e⟩:=zAa hr
 exact zUj d e
section
variable {f:Forest} (T:Tree f.Nodes)
include T
theorem root_l (k:Nat):∀n,InN f.Nodes n->zPu f.Nodes k n->∀K,k<=K->zGY f K n=some (zUb f.Nodes k n):=by
 induction k with
 | zero=>intro n _ h;exact h.elim
 | succ k r =>
  intro n d o K hK
  obtain ⟨K,rfl⟩:∃e,K=e+1:=⟨K - 1,by omega⟩
  obtain ⟨x,hx⟩:=zAJ d
  have q:=zIy hx
  simp only [zGY,zUb]
  rw [hx,zAA,zAA,zAi,<- q]
  by_cases h:zHB f.Nodes n = -1
  ·rw [iP h,iP h]
  ·rw [iN h,iN h]
   exact r _ (T.par n d h).1 (o.resolve_left h) K (by omega)
theorem zde {fu:Nat} {n:Int} (d:InN f.Nodes n) (hfu:f.Nodes.length<=fu):zLP fu f n=some (zPe f.Nodes n):=root_l T _ n d (T.fin n d) fu hfu
theorem zgY (K:Nat):∀(st out:List Int),(∀x∈st,InN f.Nodes x)->(st.flatMap (zMY f.Nodes)).length<K->out.length+(st.flatMap (zMY f.Nodes)).length<=1000000->zCV f K (out,st)=some (out++st.reverse.flatMap (zMY f.Nodes)):=by
 induction K with
 | zero=>intro _ _ _ h;omega
 | succ K X =>
  intro st out B I Q
  have e:∀l:List Int,(∀x∈l,InN f.Nodes x)->l.length<=(l.flatMap (zMY f.Nodes)).length:=by
   intro l
   induction l with
   | nil=>intro _;simp
   | cons x l N =>
    intro h
    have:=N fun y hy=>h y (by simp [hy])
    have h1:1<=(zMY f.Nodes x).length:=by rw [T.all_eq (h x (by simp))];simp
    simp only [iR,eR,cP];omega
  rcases jV st with rfl | ⟨d,x,r⟩
  ·simp only [zCV]
   rw [zAS (by simp)];simp
  ·rw [jW] at r
   subst r
   have D:=B x (by simp)
   obtain ⟨y,hy⟩:=zAJ D
   have hk:=zFv hy
   have G:=T.all_eq D
   rw [hk] at G
   simp only [iS,iR,jX,gI,eR,G,cP] at I Q
   have V:=e d fun z hz=>B z (by simp [hz])
   have o:∀k∈y.Kids,InN f.Nodes k:=fun k h=>(T.kid x k (by rw [hk];exact h)).2.1
   have W:=e y.Kids o
   simp only [zCV]
   have u:((d++[x]).length:Int) - 1=(d.length:Int):=by simp
   rw [zAT (by simp),u,zcC (by omega) (by omega),zAA,zAW (by simp:d.length<(d++[x]).length),zAA,show (0:Int)=((0:Nat):Int) from rfl,zR2 (by omega) (by simp),zAA]
   rw [show (d++[x])[d.length]'(by simp)=x by simp,show ((d++[x]).drop 0).take (d.length - 0)=d by simp]
   rw [zAg (by simp;omega),zAA,hy,zAA]
   have l2:∀(k:Nat) (l:List Int),k<=y.Kids.length->l.length+k<=1000000->zEq out x y (zCV f K) k l=zCV f K (out++[x],l++(y.Kids.take k).reverse):=by
    intro k
    induction k with
    | zero=>intro l _ _;simp [zEq]
    | succ k J =>
     intro l S hl
     have E:k<y.Kids.length:=by omega
     simp only [zEq]
     rw [lC E,zAA,zAg (by simp;omega),zAA,J _ (by omega) (by simp;omega),iD E,jY,eS]
     rfl
   rw [l2 _ _ (cB _) (by omega),iG]
   have F:∀z∈d++y.Kids.reverse,InN f.Nodes z:=fun z hz=>by
    rcases cA.1 hz with hz | hz
    ·exact B z (by simp [hz])
    ·exact o z (by simpa using hz)
   have q:(y.Kids.reverse.flatMap (zMY f.Nodes)).length=(y.Kids.flatMap (zMY f.Nodes)).length:=by
    rw [jB,jB,jZ,kD]
   rw [X (d++y.Kids.reverse) (out++[x]) F (by simp only [iS,eR,q];omega) (by simp only [iS,eR,q,cP,eK];omega)]
   simp [G]
end
section
variable {f:Forest} {fu:Nat} (hs:Small f) (hfu:1000<fu) (hr:zAF f=true)
include hs hfu hr
theorem zZ7 {n:Int} (d:InN f.Nodes n):zHG fu f n=some (zPe f.Nodes n):=by
 have:=hs.few
 unfold zHG
 rw [ze3 hfu (hs.fit hfu) hr d,zAA,iA,zAG,zde (zBG hr) d (by omega),zAA]
theorem zTj {n:Int} (d:InN f.Nodes n):zEa fu f n=some (zMY f.Nodes n):=by
 have:=hs.few
 have e:=(zBG hr).all_len d
 unfold zEa
 rw [ze3 hfu (hs.fit hfu) hr d,zAA,iA,zAG,zgY (zBG hr) fu [n] [] (by simp [d]) (by simp;omega) (by simp;omega)]
 simp
end
end
section
def zQT (ns:List Node) (n:Int):List Int:=match idx ns n with | some x=>(if x.Under = -1 then [] else [x.Under])++x.Kids | none=>[]
def zPv (ns:List Node):Nat->Int->Prop
 | 0,_=>False
 | k+1,n=>upI ns n = -1\/zPv ns k (upI ns n)
def zQU (ns:List Node):Nat->Int->List Int
 | 0,_=>[]
 | k+1,n=>n::(if upI ns n = -1 then [] else zQU ns k (upI ns n))
def zGL (ns:List Node) (n:Int):List Int:=zQU ns ns.length n
def zY2 (ns:List Node):Nat->Int->List Int
 | 0,_=>[]
 | k+1,n=>n::(zQT ns n).flatMap (zY2 ns k)
def zIG (ns:List Node) (n:Int):List Int:=zY2 ns ns.length n
def zeh (ns:List Node):Nat->Int->Int
 | 0,n=>n
 | k+1,n=>if upI ns n = -1 then n else zeh ns k (upI ns n)
def zXW (ns:List Node) (n:Int):Int:=zeh ns ns.length n
structure TreeU (ns:List Node):Prop where
 kid:∀n k,k∈zQT ns n->InN ns n/\InN ns k/\upI ns k=n
 par:∀x,InN ns x->upI ns x ≠ -1->InN ns (upI ns x)/\x∈zQT ns (upI ns x)
 nod:∀n,(zQT ns n).Nodup
 fin:∀n,InN ns n->zPv ns ns.length n
theorem zYp {ns:List Node} (B:zHa ns=true) {n:Int} {x:Node} (hx:idx ns n=some x) (h:x.Under ≠ -1):∃u,idx ns x.Under=some u/\u.Kind=4/\u.Host=n/\u.Parent = -1/\x.Kind=1:=by
 have q:=zBc B hx
 unfold zFb zLG at q
 simp only [lM] at q
 obtain ⟨_,_,_,_,_,d⟩:=q
 have e:(x.Under == -1)=false:=beq_eq_false_iff_ne.2 h
 rw [e,e9,lM,beq_iff_eq] at d
 cases r:idx ns x.Under with
 | none=>rw [r] at d;simp at d
 | some u =>
  rw [r] at d
  simp only [lM,beq_iff_eq] at d
  refine ⟨u,rfl,d.2.1,d.2.2,?_,d.1⟩
  have o:=zBc B r
  unfold zFb zK0 at o
  simp only [lM,dD,beq_iff_eq] at o
  rcases o.2.2.1 with h | ⟨h | h,_⟩
  ·exact h
  ·omega
  ·omega
theorem zRi {ns:List Node} (q:zHa ns=true) {n:Int} {x:Node} (hx:idx ns n=some x) (h:x.Host ≠ -1):∃u,idx ns x.Host=some u/\u.Kind=1/\u.Under=n/\u.Doc=x.Doc/\x.Kind=4:=by
 have e:=zBc q hx
 unfold zFb zN2 at e
 simp only [lM] at e
 obtain ⟨_,_,_,_,d,_⟩:=e
 by_cases hk:x.Kind=4
 ·rw [iP hk] at d
  cases o:idx ns x.Host with
  | none=>rw [o] at d;simp at d
  | some u =>
   rw [o] at d
   simp only [lM,beq_iff_eq] at d
   exact ⟨u,rfl,d.1,d.2.1,d.2.2,hk⟩
 ·rw [iN hk,beq_iff_eq] at d
  exact absurd d h
theorem zGg {ns:List Node} {n:Int} {x:Node} (hx:idx ns n=some x):upI ns n=if x.Parent = -1 then x.Host else x.Parent:=by unfold upI;rw [hx]
theorem zcT {ns:List Node} {n:Int} (h:zHB ns n ≠ -1):upI ns n=zHB ns n:=by
 unfold upI;unfold zHB at h ⊢
 cases hx:idx ns n with
 | none=>rfl
 | some x=>rw [hx] at h;simp only at h ⊢;rw [iN h]
theorem zO3 {ns:List Node} {n:Int} {x:Node} (hx:idx ns n=some x):zQT ns n=(if x.Under = -1 then [] else [x.Under])++x.Kids:=by unfold zQT;rw [hx]
theorem zei {ns:List Node} (r:zHa ns=true) (D:zPS ns=true):TreeU ns where
 kid n k hk:=by
  cases hx:idx ns n with
  | none=>unfold zQT at hk;rw [hx] at hk;simp at hk
  | some x =>
   rw [zO3 hx] at hk
   rcases cA.1 hk with hk | hk
   ·split at hk
    ·simp at hk
    ·rename_i G
     obtain rfl:=e8.1 hk
     obtain ⟨u,d,o,q,E,_⟩:=zYp r hx G
     exact ⟨zAK hx,zAK d,by rw [zGg d,iP E,q]⟩
   ·have T:=zUj r D
    obtain ⟨d,o,q⟩:=T.kid n k (by rw [zFv hx];exact hk)
    exact ⟨d,o,by rw [zcT (by rw [q];exact d.ne),q]⟩
 par x hx hp:=by
  obtain ⟨y,hy⟩:=zAJ hx
  by_cases h:y.Parent = -1
  ·rw [zGg hy,iP h] at hp ⊢
   obtain ⟨u,d,o,q,_,_⟩:=zRi r hy hp
   refine ⟨zAK d,?_⟩
   rw [zO3 d,q,iN hx.ne]
   simp
  ·have T:=zUj r D
   have B:zHB ns x ≠ -1:=by rw [zIy hy];exact h
   rw [zcT B]
   obtain ⟨d,o⟩:=T.par x hx B
   obtain ⟨z,hz⟩:=zAJ d
   refine ⟨d,?_⟩
   rw [zO3 hz]
   rw [zFv hz] at o
   exact cA.2 (.inr o)
 nod n:=by
  cases hx:idx ns n with
  | none=>unfold zQT;rw [hx];simp
  | some x =>
   have T:=zUj r D
   have hk:=T.nod n
   rw [zFv hx] at hk
   rw [zO3 hx,dM]
   refine ⟨by split<;>simp,hk,fun a F b N e=>?_⟩
   subst e
   split at F
   ·simp at F
   ·rename_i G
    obtain rfl:=e8.1 F
    obtain ⟨u,d,o,q,E,_⟩:=zYp r hx G
    obtain ⟨J,S,I⟩:=T.kid n x.Under (by rw [zFv hx];exact N)
    rw [zIy d,E] at I
    exact J.ne I.symm
 fin n h:=by
  have:=zNz D h
  revert this
  generalize ns.length=k
  clear h
  intro h
  induction k generalizing n with
  | zero=>cases h
  | succ k Q =>
   simp only [zBb,dD,beq_iff_eq] at h
   exact h.imp id (Q _)
theorem zTT {ns:List Node}:∀(k:Nat) (n:Int),zPv ns k n->∀j,k<=j->zQU ns j n=zQU ns k n
 | 0,_,h,_,_=>h.elim
 | k+1,n,h,j,hj=>by
  obtain ⟨j,rfl⟩:∃e,j=e+1:=⟨j - 1,by omega⟩
  simp only [zQU]
  by_cases d:upI ns n = -1
  ·rw [iP d,iP d]
  ·rw [iN d,iN d,zTT k _ (h.resolve_left d) j (by omega)]
theorem zV9 {ns:List Node}:∀(k:Nat) (n:Int),zPv ns k n->∀j,k<=j->zeh ns j n=zeh ns k n
 | 0,_,h,_,_=>h.elim
 | k+1,n,h,j,hj=>by
  obtain ⟨j,rfl⟩:∃e,j=e+1:=⟨j - 1,by omega⟩
  simp only [zeh]
  by_cases d:upI ns n = -1
  ·rw [iP d,iP d]
  ·rw [iN d,iN d,zV9 k _ (h.resolve_left d) j (by omega)]
theorem zWG {ns:List Node}:∀(k:Nat) (n:Int),(zQU ns k n).length<=k
 | 0,_=>by simp [zQU]
 | k+1,n=>by
  simp only [zQU,cP]
  split
  ·simp
  ·have:=zWG (ns:=ns) k (upI ns n);omega
section
variable {ns:List Node} (T:TreeU ns)
include T
theorem TreeU.climb {n:Int} (h:InN ns n) {M:Nat} (d:ns.length=M+1):upI ns n = -1\/zPv ns M (upI ns n):=by
 have:=T.fin n h
 rw [d] at this
 exact this
theorem TreeU.wayU_eq {n:Int} (h:InN ns n):zGL ns n=n::(if upI ns n = -1 then [] else zGL ns (upI ns n)):=by
 obtain ⟨M,e⟩:=h.pos
 have o:=T.climb h e
 unfold zGL
 rw [e]
 simp only [zQU]
 by_cases d:upI ns n = -1
 ·rw [iP d,iP d]
 ·rw [iN d,iN d]
  have:=zTT M _ (o.resolve_left d) (M+1) (by omega)
  simp only [zQU] at this
  rw [this]
theorem TreeU.root_eq {n:Int} (h:InN ns n):zXW ns n=if upI ns n = -1 then n else zXW ns (upI ns n):=by
 obtain ⟨M,e⟩:=h.pos
 have o:=T.climb h e
 unfold zXW
 rw [e]
 simp only [zeh]
 by_cases d:upI ns n = -1
 ·rw [iP d,iP d]
 ·rw [iN d,iN d]
  have:=zV9 M _ (o.resolve_left d) (M+1) (by omega)
  simp only [zeh] at this
  rw [this]
theorem TreeU.up_ind (h:∀n,InN ns n->(upI ns n ≠ -1->C (upI ns n))->C n):∀n,InN ns n->C n:=by
 have e:∀(k:Nat) (n:Int),InN ns n->zPv ns k n->C n:=by
  intro k
  induction k with
  | zero=>intro n _ h;exact h.elim
  | succ k r =>
   intro n d q
   exact h n d fun o=>r _ (T.par n d o).1 (q.resolve_left o)
 exact fun n d=>e _ n d (T.fin n d)
theorem TreeU.wayU_kid {n k:Int} (hk:k∈zQT ns n):zGL ns k=k::zGL ns n:=by
 obtain ⟨d,e,o⟩:=T.kid n k hk
 rw [T.wayU_eq e,o,iN d.ne]
theorem TreeU.wayU_len {n:Int} (h:InN ns n):1<=(zGL ns n).length/\(zGL ns n).length<=ns.length:=by
 refine ⟨?_,zWG _ _⟩
 rw [T.wayU_eq h];simp
theorem TreeU.down_ind (h:∀n,InN ns n->(∀k,k∈zQT ns n->C k)->C n):∀n,InN ns n->C n:=by
 have o:∀(d:Nat) (n:Int),InN ns n->ns.length<(zGL ns n).length+d->C n:=by
  intro d
  induction d with
  | zero=>intro n e q;have:=T.wayU_len e;omega
  | succ d r =>
   intro n e q
   exact h n e fun k hk=>r k (T.kid n k hk).2.1 (by rw [T.wayU_kid hk,cP];omega)
 exact fun n e=>o ns.length n e (by have:=T.wayU_len e;omega)
theorem TreeU.allUF_stab:∀(d:Nat) (n:Int),InN ns n->ns.length<(zGL ns n).length+d->∀j,zY2 ns (d+j) n=zY2 ns d n:=by
 intro d
 induction d with
 | zero=>intro n e o;have:=T.wayU_len e;omega
 | succ d q =>
  intro n e o j
  rw [show d+1+j=d+j+1 by omega]
  simp only [zY2,iQ]
  rw [iK fun k hk=>q k (T.kid n k hk).2.1 (by rw [T.wayU_kid hk,cP];omega) j]
theorem TreeU.all_eq {n:Int} (h:InN ns n):zIG ns n=n::(zQT ns n).flatMap (zIG ns):=by
 obtain ⟨M,d⟩:=h.pos
 have hs:=T.allUF_stab
 have e:=T.wayU_len h
 unfold zIG
 rw [d]
 conv=>lhs;simp only [zY2]
 rw [iQ,iQ,iK fun k hk=>(hs M k (T.kid n k hk).2.1 (by rw [T.wayU_kid hk,cP];omega) 1).symm]
theorem TreeU.wayU_self {n:Int} (h:InN ns n):n∈zGL ns n:=by rw [T.wayU_eq h];simp
theorem TreeU.wayU_in:∀x,InN ns x->∀y∈zGL ns x,InN ns y:=T.up_ind fun x hx e y hy=>by
 rw [T.wayU_eq hx] at hy
 rcases lD.1 hy with rfl | hy
 ·exact hx
 ·split at hy
  ·simp at hy
  ·rename_i d;exact e d y hy
theorem TreeU.wayU_suffix:∀x,InN ns x->∀y∈zGL ns x,zGL ns y <:+ zGL ns x:=T.up_ind fun x hx o y hy=>by
 have e:=T.wayU_eq hx
 rw [e] at hy
 rcases lD.1 hy with rfl | hy
 ·exact jF _
 ·split at hy
  ·simp at hy
  ·rename_i d
   rw [e,iN d]
   exact (o d y hy).trans (jG _ _)
theorem TreeU.wayU_trans {x y z:Int} (hz:InN ns z) (d:x∈zGL ns y) (e:y∈zGL ns z):x∈zGL ns z:=(T.wayU_suffix z hz y e).subset d
theorem TreeU.wayU_inj {x y:Int} (hx:InN ns x) (hy:InN ns y) (h:zGL ns x=zGL ns y):x=y:=by
 rw [T.wayU_eq hx,T.wayU_eq hy] at h
 exact (dU.inj h).1
theorem TreeU.wayU_anti {x y:Int} (hy:InN ns y) (d:x∈zGL ns y) (e:y∈zGL ns x):x=y:=by
 have hx:=T.wayU_in y hy x d
 have o:=T.wayU_suffix y hy x d
 have q:=T.wayU_suffix x hx y e
 exact T.wayU_inj hx hy (o.eq_of_length_le q.length_le)
theorem TreeU.wayU_same {x y z:Int} (hz:InN ns z) (d:x∈zGL ns z) (e:y∈zGL ns z) (o:(zGL ns x).length=(zGL ns y).length):x=y :=
 T.wayU_inj (T.wayU_in z hz x d) (T.wayU_in z hz y e) ((jT (T.wayU_suffix z hz x d) (T.wayU_suffix z hz y e) (by omega)).eq_of_length o)
end
section
variable {ns:List Node} (T:TreeU ns)
include T
theorem TreeU.kid_way {n k x:Int} (hx:InN ns x) (hk:k∈zQT ns n) (h:k∈zGL ns x):n∈zGL ns x :=
 T.wayU_trans hx (by rw [T.wayU_kid hk];exact lG _ (T.wayU_self (T.kid n k hk).1)) h
theorem TreeU.all_in:∀n,InN ns n->∀x∈zIG ns n,InN ns x/\n∈zGL ns x:=T.down_ind fun n d q x hx=>by
 rw [T.all_eq d] at hx
 rcases lD.1 hx with rfl | hx
 ·exact ⟨d,T.wayU_self d⟩
 ·obtain ⟨k,hk,hx⟩:=iE.1 hx
  obtain ⟨e,o⟩:=q k hk x hx
  exact ⟨e,T.kid_way e hk o⟩
theorem TreeU.all_self {n:Int} (d:InN ns n):n∈zIG ns n:=by rw [T.all_eq d];simp
theorem TreeU.all_kid:∀n,InN ns n->∀y∈zIG ns n,∀k∈zQT ns y,k∈zIG ns n:=T.down_ind fun n o q y hy k hk=>by
 rw [T.all_eq o] at hy ⊢
 rcases lD.1 hy with rfl | hy
 ·exact lG _ (iE.2 ⟨k,hk,T.all_self (T.kid _ k hk).2.1⟩)
 ·obtain ⟨e,d,hy⟩:=iE.1 hy
  exact lG _ (iE.2 ⟨e,d,q e d y hy k hk⟩)
theorem TreeU.mem_all {n:Int} (e:InN ns n):∀x,InN ns x->n∈zGL ns x->x∈zIG ns n:=T.up_ind fun x hx q h=>by
 have d:=h
 rw [T.wayU_eq hx] at d
 rcases lD.1 d with rfl | d
 ·exact T.all_self e
 ·split at d
  ·simp at d
  ·rename_i o
   exact T.all_kid n e _ (q o d) x (T.par x hx o).2
theorem TreeU.kids_disj {n k e x:Int} (hk:k∈zQT ns n) (d:e∈zQT ns n) (h:x∈zIG ns k) (q:x∈zIG ns e):k=e:=by
 have o:=T.all_in k (T.kid n k hk).2.1 x h
 have r:=T.all_in e (T.kid n e d).2.1 x q
 exact T.wayU_same o.1 o.2 r.2 (by rw [T.wayU_kid hk,T.wayU_kid d];simp)
theorem TreeU.all_nodup:∀n,InN ns n->(zIG ns n).Nodup:=T.down_ind fun n r B=>by
 rw [T.all_eq r,lS]
 refine ⟨fun h=>?_,?_⟩
 ·obtain ⟨k,hk,h⟩:=iE.1 h
  have u:=(T.all_in k (T.kid n k hk).2.1 n h).2
  have q:=T.wayU_suffix n r k u
  rw [T.wayU_kid hk] at q
  have:=q.length_le
  simp at this
  omega
 ·rw [List.Nodup,jU]
  refine ⟨fun k hk=>B k hk,?_⟩
  refine (T.nod n).imp_of_mem fun hk d o x hx y hy e=>?_
  subst e
  exact o (T.kids_disj hk d hx hy)
theorem TreeU.all_len {n:Int} (d:InN ns n):(zIG ns n).length<=ns.length:=zMf _ _ (T.all_nodup n d) fun x hx=>(T.all_in n d x hx).1
theorem TreeU.root_way:∀n,InN ns n->zXW ns n∈zGL ns n/\upI ns (zXW ns n) = -1:=T.up_ind fun n e o=>by
 rw [T.root_eq e,T.wayU_eq e]
 by_cases d:upI ns n = -1
 ·rw [iP d,iP d];exact ⟨by simp,d⟩
 ·rw [iN d,iN d];exact ⟨lG _ (o d).1,(o d).2⟩
theorem TreeU.root_in {n:Int} (d:InN ns n):InN ns (zXW ns n):=T.wayU_in n d _ (T.root_way n d).1
theorem TreeU.root_same:∀x,InN ns x->∀y∈zGL ns x,zXW ns x=zXW ns y:=T.up_ind fun x hx e y hy=>by
 rw [T.wayU_eq hx] at hy
 rcases lD.1 hy with rfl | hy
 ·rfl
 ·split at hy
  ·simp at hy
  ·rename_i d
   rw [T.root_eq hx,iN d]
   exact e d y hy
theorem TreeU.root_top {n:Int} (d:InN ns n) (e:upI ns n = -1):zXW ns n=n:=by rw [T.root_eq d,iP e]
end
theorem zAL {f:Forest} (hr:zAF f=true):TreeU f.Nodes:=by
 obtain ⟨_,_,d,e⟩:=zAa hr
 exact zei d e
end
section
theorem zcJ (f:Forest) (n:Int):cnd (decide (n<0)) (some true) (some (decide (n>=(f.Nodes.length:Int))))=some (!(inB f n)):=by
 rw [zAQ]
 unfold inB
 by_cases h:n<0
 ·rw [iP h,decide_eq_false (show ¬(0<=n/\n<f.Nodes.length) by omega)];rfl
 ·rw [iN h]
  congr 1
  by_cases d:n<f.Nodes.length
  ·rw [decide_eq_true (show 0<=n/\n<f.Nodes.length by omega),decide_eq_false (by omega)];rfl
  ·rw [decide_eq_false (show ¬(0<=n/\n<f.Nodes.length) by omega),decide_eq_true (by omega)];rfl
theorem zPf {fu:Nat} {f:Forest} {l:List Int} (hfu:1000<fu) (hk:zEb fu f.Nodes) (d:l.length<=100):zB5 fu f l=some (zAF f&&l.all (inB f)):=by
 unfold zB5
 rw [zEv hfu hk,zAA]
 cases zAF f with
 | false=>rfl
 | true =>
  rw [zAO,zFt (p:=fun n => !(inB f n)) (fun n _=>by unfold zDn;exact zcJ f n) (by omega) (by omega),zAA,zHz]
  rfl
section
variable {fu:Nat} {f:Forest} (hfu:1000<fu) (hk:zEb fu f.Nodes)
include hfu hk
theorem sh1 {n:Int} (hr:zAF f=true) (h:InN f.Nodes n):zB5 fu f [n]=some true:=by
 rw [zPf hfu hk (by simp),hr];simp [zNh h]
theorem sh2 {n m:Int} (hr:zAF f=true) (h:InN f.Nodes n) (d:InN f.Nodes m):zB5 fu f [n,m]=some true:=by
 rw [zPf hfu hk (by simp),hr];simp [zNh h,zNh d]
theorem sh_no1 {a:Int} (h:zAF f=false\/inB f a=false):zB5 fu f [a]=some false:=by
 rw [zPf hfu hk (by simp)]
 rcases h with h | h
 ·rw [h];rfl
 ·simp [h]
end
theorem supU {fu:Nat} {f:Forest} {n:Int} {x:Node} (hx:idx f.Nodes n=some x):zG4 fu f n=some (upI f.Nodes n):=by
 unfold zG4
 rw [hx,zAA,zAA,zAi,zGg hx]
 split<;>rfl
section
variable {f:Forest} (T:TreeU f.Nodes)
include T
theorem top_l (fu k:Nat):∀n,InN f.Nodes n->zPv f.Nodes k n->∀K,k<=K->zIW fu f K n=some (zeh f.Nodes k n):=by
 induction k with
 | zero=>intro n _ h;exact h.elim
 | succ k q =>
  intro n d o K hK
  obtain ⟨K,rfl⟩:∃e,K=e+1:=⟨K - 1,by omega⟩
  obtain ⟨x,hx⟩:=zAJ d
  simp only [zIW,zeh]
  rw [supU hx,zAA,zAA,zAi]
  by_cases h:upI f.Nodes n = -1
  ·rw [iP h,iP h]
  ·rw [iN h,iN h]
   exact q _ (T.par n d h).1 (o.resolve_left h) K (by omega)
theorem over_l {fu:Nat} {a:Int} (ha:a ≠ -1) (k:Nat):∀n,InN f.Nodes n->zPv f.Nodes k n->∀K,k<K->zDL fu f a K n=some ((zQU f.Nodes k n).contains a):=by
 induction k with
 | zero=>intro n _ h;exact h.elim
 | succ k u =>
  intro n o r K hK
  obtain ⟨K,rfl⟩:∃e,K=e+1:=⟨K - 1,by omega⟩
  obtain ⟨x,hx⟩:=zAJ o
  simp only [zDL,zQU]
  rw [supU hx,zAA,zAi,zAi,iN o.ne]
  by_cases d:n=a
  ·rw [iP d,d];simp
  ·rw [iN d]
   have q:(a==n)=false:=beq_eq_false_iff_ne.2 (Ne.symm d)
   rw [List.contains_cons,q,e9]
   by_cases h:upI f.Nodes n = -1
   ·obtain ⟨K,rfl⟩:∃e,K=e+1:=⟨K - 1,by omega⟩
    rw [iP h,h]
    simp only [zDL]
    rw [zAS (by simp)]
    simp [Ne.symm ha]
   ·rw [iN h,u _ (T.par n o h).1 (r.resolve_left h) K (by omega)]
def zSc (ns:List Node) (a b:Int):Bool:=(zGL ns b).contains a
omit T in
theorem zLC {ns:List Node} {a b:Int}:zSc ns a b=true↔a∈zGL ns b:=e7
theorem full_l (K:Nat):∀(st out:List Int),(∀x∈st,InN f.Nodes x)->(st.flatMap (zIG f.Nodes)).length<K->out.length+(st.flatMap (zIG f.Nodes)).length<=1000000->zEJ f K (out,st)=some (out++st.reverse.flatMap (zIG f.Nodes)):=by
 induction K with
 | zero=>intro _ _ _ h;omega
 | succ K ih =>
  intro st out B I S
  have e:∀l:List Int,(∀x∈l,InN f.Nodes x)->l.length<=(l.flatMap (zIG f.Nodes)).length:=by
   intro l
   induction l with
   | nil=>intro _;simp
   | cons x l N =>
    intro h
    have:=N fun y hy=>h y (by simp [hy])
    have h1:1<=(zIG f.Nodes x).length:=by rw [T.all_eq (h x (by simp))];simp
    simp only [iR,eR,cP];omega
  rcases jV st with rfl | ⟨d,x,r⟩
  ·simp only [zEJ]
   rw [zAS (by simp)];simp
  ·rw [jW] at r
   subst r
   have D:=B x (by simp)
   obtain ⟨y,hy⟩:=zAJ D
   have hk:=zO3 hy
   have Q:=T.all_eq D
   simp only [iS,iR,jX,gI,eR,Q,cP] at I S
   have X:=e d fun z hz=>B z (by simp [hz])
   have o:∀k∈zQT f.Nodes x,InN f.Nodes k:=fun k h=>(T.kid x k h).2.1
   have hl2:=e _ o
   have hl3:y.Kids.length<=(zQT f.Nodes x).length:=by rw [hk];simp
   simp only [zEJ]
   have u:((d++[x]).length:Int) - 1=(d.length:Int):=by simp
   rw [zAT (by simp),u,zcC (by omega) (by omega),zAA,zAW (by simp:d.length<(d++[x]).length),zAA,show (0:Int)=((0:Nat):Int) from rfl,zR2 (by omega) (by simp),zAA]
   rw [show (d++[x])[d.length]'(by simp)=x by simp,show ((d++[x]).drop 0).take (d.length - 0)=d by simp]
   rw [zAg (by simp;omega),zAA,hy,zAA]
   have l2:∀(k:Nat) (l:List Int),k<=y.Kids.length->l.length+k<=1000000->zG3 out x y (zEJ f K) k l=zEJ f K (out++[x],l++((if y.Under = -1 then [] else [y.Under])++y.Kids.take k).reverse):=by
    intro k
    induction k with
    | zero =>
     intro l _ W
     simp only [zG3]
     rw [zAi,zAg (by simp;omega),zAA]
     by_cases G:y.Under = -1
     ·rw [iP G,iP G];simp
     ·rw [iN G,iN G];simp
    | succ k J =>
     intro l V W
     have E:k<y.Kids.length:=by omega
     simp only [zG3]
     rw [lC E,zAA,zAg (by simp;omega),zAA,J _ (by omega) (by simp;omega),iD E,<- eS,jY (bs:=[y.Kids[k]]),eS]
     rfl
   rw [l2 _ _ (cB _) (by omega),iG,<- hk]
   have F:∀z∈d++(zQT f.Nodes x).reverse,InN f.Nodes z:=fun z hz=>by
    rcases cA.1 hz with hz | hz
    ·exact B z (by simp [hz])
    ·exact o z (by simpa using hz)
   have q:((zQT f.Nodes x).reverse.flatMap (zIG f.Nodes)).length=((zQT f.Nodes x).flatMap (zIG f.Nodes)).length:=by
    rw [jB,jB,jZ,kD]
   rw [ih (d++(zQT f.Nodes x).reverse) (out++[x]) F (by simp only [iS,eR,q];omega) (by simp only [iS,eR,q,cP,eK];omega)]
   simp [Q]
end
theorem zSr {fu:Nat} {p:Int->Bool} {l:List Int} (W:∀x∈l,t x=some (p x)) (hf:l.length<fu) (hb:l.length<=1000000):zDN fu t l=some (l.filter fun x => !(p x)):=by
 have J:zAX fu t l=some (match (cW l.length).find? (fun i=>match l[i]? with | some x=>p x | none=>false) with | some j=>(j:Int) | none => -1):=by
  unfold zAX
  rw [zhK (L:=zAM t l) (fun i=>match l[i]? with | some x=>p x | none=>false) (fun j=>some (j:Int)) (some (-1)) l.length (fun j d e k=>?_) (fun j d e k=>?_) (fun k=>?_) hf]
  ·cases (cW l.length).find? (fun i=>match l[i]? with | some x=>p x | none=>false)<;>rfl
  ·rw [lC d] at e
   simp only at e
   simp only [zAM]
   rw [zAT (by simpa using d),zAW d,zAA,W _ (gC d),zAA,e,zAO]
  ·rw [lC d] at e
   simp only at e
   simp only [zAM]
   rw [zAT (by simpa using d),zAW d,zAA,W _ (gC d),zAA,e,zAG,zBO (by omega),zAA]
  ·simp only [zAM]
   rw [zAS (by simp)]
 have N:∀(m i j k:Nat) (o:List Int),j+m=l.length->i<j->o.length=l.length->o.take i=(l.take j).filter (fun x => !(p x))->o.drop j=l.drop j->m<k->zBA t k ((i:Int),(j:Int),o)=some (l.filter fun x => !(p x)):=by
  intro m
  induction m with
  | zero =>
   intro i j k o d S G D F hk
   obtain ⟨k,rfl⟩:∃Q,k=Q+1:=⟨k - 1,by omega⟩
   obtain rfl:j=l.length:=by omega
   simp only [zBA]
   rw [zAS (by simp;omega)]
   unfold zV8
   rw [iP (by omega),zAA]
   have e:=zR2 (s:=o.take ((i:Int)).toNat++List.replicate (o.length - ((i:Int)).toNat) 0) (i:=0) (j:=i) (by omega) (by simp;omega)
   rw [show ((0:Nat):Int)=0 from rfl] at e
   rw [e,zAA]
   simp only [eO,Nat.sub_zero,List.drop_zero]
   rw [iV (by simp;omega),jH,jI,D,iG]
  | succ m X =>
   intro i j k o d S G D F hk
   obtain ⟨k,rfl⟩:∃Q,k=Q+1:=⟨k - 1,by omega⟩
   have r:j<l.length:=by omega
   have u:j<o.length:=by omega
   have E:i<o.length:=by omega
   have I:o[j]=l[j]:=by
    rw [eT r,eT u] at F
    exact (dU.inj F).1
   have q:o.drop (j+1)=l.drop (j+1):=by
    rw [eT r,eT u] at F
    exact (dU.inj F).2
   simp only [zBA]
   rw [zAT (by simp;omega),zAW u,zAA,I,W _ (gC r),zAA,zAW E,zAA,zBO (by omega),zAA,zBO (by omega),zAA,zAA]
   cases e:p l[j] with
   | true =>
    rw [iA,zAG]
    exact X i (j+1) k o (by omega) (by omega) G (by rw [D,iD r,jJ];simp [e]) q (by omega)
   | false =>
    rw [jK,zAO]
    refine X (i+1) (j+1) k _ (by omega) (by omega) (by simpa using G) ?_ ?_ (by omega)
    ·rw [eO,iD r,jJ,<- D,iD (by simpa using E),List.take_set_of_le (cB i),List.getElem_set_self]
     simp [e]
    ·rw [<- q,eO,List.drop_set_of_lt (by omega)]
 unfold zDN
 rw [J,zAA]
 cases B:(cW l.length).find? (fun i=>match l[i]? with | some x=>p x | none=>false) with
 | none =>
  simp only
  rw [zAT (by simp)]
  congr 1
  rw [List.find?_eq_none] at B
  refine (jL.2 fun x hx=>?_).symm
  obtain ⟨i,hi,rfl⟩:=iW hx
  have:=B i (by simpa using hi)
  rw [lC hi] at this
  simpa using this
 | some i =>
  simp only
  rw [List.find?_range_eq_some] at B
  obtain ⟨D,F,h3⟩:=B
  have hi:i<l.length:=by simpa using F
  rw [lC hi] at D
  simp only at D
  rw [zAS (by simp),zBO (by omega),zAA]
  refine N (l.length - (i+1)) i (i+1) fu l (by omega) (by omega) rfl ?_ rfl (by omega)
  rw [iD hi,jJ]
  have e1:(l.take i).filter (fun x => !(p x))=l.take i:=jL.2 fun x hx=>by
   obtain ⟨j,d,rfl⟩:=iW hx
   have V:j<i:=by simp at d;omega
   have:=h3 j V
   rw [lC (by omega:j<l.length)] at this
   simpa using this
  rw [e1]
  simp [D]
section
variable {f:Forest} {fu:Nat} (hs:Small f) (hfu:1000<fu) (hr:zAF f=true)
include hs hfu hr
theorem Top_ok {n:Int} (d:InN f.Nodes n):zLT fu f n=some (zXW f.Nodes n):=by
 have:=hs.few
 unfold zLT
 rw [sh1 hfu (hs.fit hfu) hr d,zAA,iA,zAG,top_l (zAL hr) fu _ n d ((zAL hr).fin n d) fu (by omega)]
 rfl
def zEi (ns:List Node) (n:Int):Bool:=isB ns (zXW ns n) 0
theorem zQw {n:Int} (d:InN f.Nodes n):zCH fu f n=some (zEi f.Nodes n):=by
 have e:=(zAL hr).root_in d
 obtain ⟨x,hx⟩:=zAJ e
 unfold zCH zEi isB
 rw [Top_ok hs hfu hr d,zAA,zAi,iN e.ne,hx,zAA]
theorem zfa {a n:Int} (ha:InN f.Nodes a) (d:InN f.Nodes n):zEL fu f a n=some (zSc f.Nodes a n):=by
 have:=hs.few
 unfold zEL
 rw [sh2 hfu (hs.fit hfu) hr ha d,zAA,iA,zAG,over_l (zAL hr) ha.ne _ n d ((zAL hr).fin n d) fu (by omega)]
 rfl
theorem zXf {n:Int} (d:InN f.Nodes n):zDl fu f n=some (zIG f.Nodes n):=by
 have:=hs.few
 have e:=(zAL hr).all_len d
 unfold zDl
 rw [sh1 hfu (hs.fit hfu) hr d,zAA,iA,zAG,full_l (zAL hr) fu [n] [] (by simp [d]) (by simp;omega) (by simp;omega)]
 simp
def zL0 (ns:List Node) (n:Int):List Int:=(zIG ns n).filter fun k=>isB ns k 1
theorem zc6 {n:Int} (d:InN f.Nodes n):zF6 fu f n=some (zL0 f.Nodes n):=by
 have:=hs.few
 have T:=zAL hr
 have e:=T.all_len d
 unfold zF6
 rw [zXf hs hfu hr d,zAA,zSr (p:=fun k => !(isB f.Nodes k 1)) (fun k hk=>?_) (by omega) (by omega),zAA]
 ·unfold zL0
  simp only [Bool.not_not]
 ·obtain ⟨x,hx⟩:=zAJ (T.all_in n d k hk).1
  unfold zDm isB
  rw [hx,zAA];rfl
end
end
section
theorem zK1 {l:List α} {n:Int} {v : α} (h:0<=n/\n<l.length):idx (l.set n.toNat v) n=some v:=by
 unfold idx
 rw [iP h.1,List.getElem?_set_self (by omega)]
theorem zJh {l:List α} {n i:Int} {v : α} (h:0<=n) (hi:i≠n):idx (l.set n.toNat v) i=idx l i:=by
 unfold idx
 by_cases d:0<=i
 ·rw [iP d,iP d,List.getElem?_set_ne (by omega)]
 ·rw [iN d,iN d]
def zMe (z:Node):Node:=⟨z.Kind,z.Name,z.Is,z.Data,z.Attrs,-1,z.Kids,z.Host,z.Under,z.Doc⟩
def zN4 (y:Node) (c:Int):Node:=⟨y.Kind,y.Name,y.Is,y.Data,y.Attrs,y.Parent,y.Kids.filter (fun k=>k != c),y.Host,y.Under,y.Doc⟩
def zL1 (f:Forest) (c p:Int) (z y:Node):Forest:=⟨(f.Nodes.set p.toNat (zN4 y c)).set c.toNat (zMe z),f.Most⟩
structure Hung (f:Forest) (c p:Int) (z y:Node):Prop where
 hz:idx f.Nodes c=some z
 hy:idx f.Nodes p=some y
 par:z.Parent=p
 mem:c∈y.Kids
 ne:c≠p
theorem zgL {f:Forest} (hr:zAF f=true) {c p:Int} {y:Node} (hy:idx f.Nodes p=some y) (d:c∈y.Kids):∃z,Hung f c p z y:=by
 have T:=zBG hr
 obtain ⟨u,r,o⟩:=T.kid p c (by rw [zFv hy];exact d)
 obtain ⟨z,hz⟩:=zAJ r
 rw [zIy hz] at o
 refine ⟨z,hz,hy,o,d,fun e=>?_⟩
 have q:=T.way_kid (n:=p) (k:=c) (by rw [zFv hy];exact d)
 rw [e] at q
 have:=congrArg iL q
 simp at this
section
variable {f:Forest} {c p:Int} {z y:Node} (H:Hung f c p z y)
include H
omit H in
theorem zR0 (f:Forest) (c p:Int) (z y:Node):(zL1 f c p z y).Nodes.length=f.Nodes.length:=by unfold zL1;simp
theorem zOv:idx (zL1 f c p z y).Nodes c=some (zMe z):=by
 have h:=zAK H.hz
 unfold zL1
 simp only
 rw [zK1 (by simp;omega)]
theorem zHA:idx (zL1 f c p z y).Nodes p=some (zN4 y c):=by
 have h:=zAK H.hz
 have d:=zAK H.hy
 unfold zL1
 simp only
 rw [zJh h.1 (Ne.symm H.ne),zK1 (by omega)]
theorem zMg {i:Int} (d:i≠c) (e:i≠p):idx (zL1 f c p z y).Nodes i=idx f.Nodes i:=by
 have h:=zAK H.hz
 have o:=zAK H.hy
 unfold zL1
 simp only
 rw [zJh h.1 d,zJh o.1 e]
theorem zRz {i:Int} (r:idx f.Nodes i=some w):∃d,idx (zL1 f c p z y).Nodes i=some d/\d.Kind=w.Kind/\d.Doc=w.Doc/\d.Host=w.Host/\d.Under=w.Under/\d.Parent=(if i=c then -1 else w.Parent)/\d.Kids=(if i=p then w.Kids.filter (fun k=>k != c) else w.Kids)/\zHZ d=zHZ w:=by
 by_cases o:i=c
 ·subst o
  have e:=H.hz
  rw [r] at e
  obtain rfl:=lJ.inj e
  exact ⟨_,zOv H,rfl,rfl,rfl,rfl,by rw [iP rfl];rfl,by rw [iN H.ne];rfl,rfl⟩
 ·by_cases q:i=p
  ·subst q
   have e:=H.hy
   rw [r] at e
   obtain rfl:=lJ.inj e
   exact ⟨_,zHA H,rfl,rfl,rfl,rfl,by rw [iN o];rfl,by rw [iP rfl];rfl,rfl⟩
  ·exact ⟨w,(zMg H o q).trans r,rfl,rfl,rfl,rfl,by rw [iN o],by rw [iN q],rfl⟩
theorem zN6 {i k:Int}:isB (zL1 f c p z y).Nodes i k=isB f.Nodes i k:=by
 cases d:idx f.Nodes i with
 | none =>
  have r:i≠c:=fun e=>by rw [e,H.hz] at d;cases d
  have u:i≠p:=fun e=>by rw [e,H.hy] at d;cases d
  unfold isB;rw [zMg H r u]
 | some w =>
  obtain ⟨B,o,q,_⟩:=zRz H d
  unfold isB;rw [o,d];simp only [q]
variable (hr:zAF f=true)
include hr
theorem zYM:z.Kind=1\/z.Kind=2:=by
 have e:=(zAa hr).2.2.1
 have d:=zBc e H.hz
 unfold zFb zK0 at d
 simp only [lM,dD,beq_iff_eq] at d
 rcases d.2.2.1 with h | h
 ·have:=zAK H.hy
  have:=H.par
  omega
 ·exact h.1
theorem zd2:z.Host = -1:=by
 have d:=(zAa hr).2.2.1
 by_cases h:z.Host = -1
 ·exact h
 ·obtain ⟨_,_,_,_,_,e⟩:=zRi d H.hz h
  have:=zYM H hr
  omega
theorem zbl {i:Int} (hi:InN f.Nodes i):upI (zL1 f c p z y).Nodes i=if i=c then -1 else upI f.Nodes i:=by
 obtain ⟨w,d⟩:=zAJ hi
 obtain ⟨u,o,_,_,q,_,r,_⟩:=zRz H d
 rw [zGg o,zGg d,q,r]
 by_cases h:i=c
 ·rw [iP h,iP h,iP rfl]
  subst h
  have e:=H.hz
  rw [d] at e
  obtain rfl:=lJ.inj e
  exact zd2 H hr
 ·rw [iN h,iN h]
theorem zOw:zAF (zL1 f c p z y)=true:=by
 have T:=zBG hr
 have r:=zR0 f c p z y
 unfold zAF at hr ⊢
 simp only [lM,decide_eq_true_eq] at hr ⊢
 obtain ⟨h1,h2,h3,h4,h5,h6,h7⟩:=hr
 rw [r,zN6 H]
 refine ⟨h1,h2,h3,h4,h5,?_,?_⟩
 ·rw [zS5]
  intro i w' W
  have B:InN f.Nodes i:=by
   have:=zAK W
   rw [r] at this
   exact this
  obtain ⟨w,V⟩:=zAJ B
  obtain ⟨v,g1,E,X,g4,g5,g6,g7,g8⟩:=zRz H V
  rw [W] at g1
  obtain rfl:=lJ.inj g1
  have I:=zBc h6 V
  unfold zFb at I
  simp only [lM] at I
  obtain ⟨n1,n2,n3,n4,D,n6⟩:=I
  unfold zFb
  simp only [lM]
  refine ⟨by rw [g8];exact n1,?_,?_,?_,?_,?_⟩
  ·unfold zL2 at n2 ⊢
   rw [zN6 H,E,X];exact n2
  ·unfold zK0 at n3 ⊢
   rw [E,g6]
   by_cases G:i=c
   ·rw [iP G];rfl
   ·rw [iN G]
    simp only [dD,lM] at n3 ⊢
    refine n3.imp id fun ⟨k1,o⟩=>⟨k1,?_⟩
    cases hp:idx f.Nodes w.Parent with
    | none=>rw [hp] at o;cases o
    | some q =>
     rw [hp] at o
     obtain ⟨q',J,N,_,_,_,_,q7,_⟩:=zRz H hp
     rw [J]
     simp only [N,q7]
     simp only [lM] at o ⊢
     refine ⟨o.1,?_⟩
     split
     ·rw [e7,iH]
      exact ⟨e7.1 o.2,by simpa using G⟩
     ·exact o.2
  ·unfold zEV at n4 ⊢
   simp only [lM,decide_eq_true_eq,lR] at n4 ⊢
   obtain ⟨b1,b2,b3,b4⟩:=n4
   have d:w'.Kids.Sublist w.Kids:=by
    rw [g7];split
    ·exact iX
    ·exact List.Sublist.refl _
   refine ⟨b1.sublist d,fun k hk=>?_,?_,?_⟩
   ·have hkc:k≠c:=fun e=>by
     subst e
     have hkw:=d.subset hk
     have:=(T.kid i k (by rw [zFv V];exact hkw)).2.2
     rw [zIy H.hz,H.par] at this
     subst this
     rw [g7,iP rfl,iH] at hk
     simp at hk
    have Q:=b2 k (d.subset hk)
    unfold zOo at Q ⊢
    cases hu:idx f.Nodes k with
    | none=>rw [hu] at Q;cases Q
    | some u =>
     rw [hu] at Q
     obtain ⟨u',J,N,q3,_,_,q6,_⟩:=zRz H hu
     rw [J]
     simp only [N,q3,q6,iN hkc,E,X]
     exact Q
   ·rw [E]
    simp only [dD,decide_eq_true_eq] at b3 ⊢
    refine b3.imp id fun h=>?_
    have:=d.length_le
    omega
   ·rw [E]
    simp only [dD,decide_eq_true_eq] at b4 ⊢
    refine b4.imp id fun h=>?_
    have e:zBH (zL1 f c p z y).Nodes w'.Kids=zBH f.Nodes w'.Kids:=by
     unfold zBH
     exact iF fun k _=>by rw [zN6 H]
    have:=d.countP_le (p:=fun k=>isB f.Nodes k 1)
    rw [e]
    unfold zBH at h ⊢
    omega
  ·unfold zN2 at D ⊢
   rw [E,X,g4]
   by_cases hk:w.Kind=4
   ·rw [iP hk] at D ⊢
    cases F:idx f.Nodes w.Host with
    | none=>rw [F] at D;cases D
    | some h =>
     rw [F] at D
     obtain ⟨u',J,N,q3,_,q5,_⟩:=zRz H F
     rw [J]
     simp only [N,q3,q5]
     exact D
   ·rw [iN hk] at D ⊢;exact D
  ·unfold zLG at n6 ⊢
   rw [E,g5]
   simp only [dD,lM] at n6 ⊢
   refine n6.imp id fun ⟨k1,o⟩=>⟨k1,?_⟩
   cases F:idx f.Nodes w.Under with
   | none=>rw [F] at o;cases o
   | some h =>
    rw [F] at o
    obtain ⟨u',J,N,_,q4,_⟩:=zRz H F
    rw [J]
    simp only [N,q4]
    exact o
 ·have S:=zK6 h6
  have hr':zAF f=true:=by
   unfold zAF
   simp only [lM,decide_eq_true_eq]
   exact ⟨h1,h2,h3,h4,h5,h6,h7⟩
  have climb:∀(k:Nat) (i:Int),InN f.Nodes i->zBb f.Nodes k i=true->zBb (zL1 f c p z y).Nodes k i=true:=by
   intro k
   induction k with
   | zero=>intro i _ h;cases h
   | succ k ih =>
    intro i hi h
    rw [zBb,dD,beq_iff_eq] at h ⊢
    rw [zbl H hr' hi]
    by_cases hc:i=c
    ·rw [iP hc];exact .inl rfl
    ·rw [iN hc]
     rcases h with h | h
     ·exact .inl h
     ·obtain ⟨w,V⟩:=zAJ hi
      rcases S i w V with h' | ⟨q,hq⟩
      ·exact .inl h'
      ·exact .inr (ih _ (zAK hq) h)
  unfold zPS
  rw [lR]
  intro i hi
  rw [r] at hi ⊢
  have hi:i<f.Nodes.length:=by simpa using hi
  have B:InN f.Nodes (i:Int):=⟨by omega,by omega⟩
  exact climb _ _ B (zNz h7 B)
theorem zbm:∀i,InN f.Nodes i->c∉zGL f.Nodes i->zGL (zL1 f c p z y).Nodes i=zGL f.Nodes i:=(zAL hr).up_ind fun i hi u o=>by
 have U:=zAL hr
 have V:=zAL (zOw H hr)
 have d:=zR0 f c p z y
 have q:InN (zL1 f c p z y).Nodes i:=by unfold InN;rw [d];exact hi
 have e:=U.wayU_eq hi
 rw [e] at o
 have r:i≠c:=fun h=>o (by rw [h];simp)
 rw [e,V.wayU_eq q,zbl H hr hi,iN r]
 by_cases h:upI f.Nodes i = -1
 ·rw [iP h,iP h]
 ·rw [iN h] at o
  rw [iN h,iN h,u h fun hm=>o (lG _ hm)]
theorem zYO {n:Int}:zSc (zL1 f c p z y).Nodes n p=zSc f.Nodes n p:=by
 have U:=zAL hr
 have e:InN f.Nodes p:=zAK H.hy
 have o:InN f.Nodes c:=zAK H.hz
 have d:c∉zGL f.Nodes p:=fun h=>by
  have r:p∈zGL f.Nodes c:=by
   have q:upI f.Nodes c=p:=by rw [zGg H.hz,H.par,iN e.ne]
   rw [U.wayU_eq o,q,iN e.ne]
   exact lG _ (U.wayU_self e)
  exact H.ne (U.wayU_anti e h r)
 unfold zSc
 rw [zbm H hr p e d]
end
end
section
theorem zUB {ns:List Node} {k:Int} (h:isB ns j k=true):j ≠ -1:=fun e=>by
 unfold isB at h
 rw [zCa (by omega)] at h
 cases h
theorem zMh {f:Forest} {fu:Nat} (hs:Small f) (hfu:1000<fu) (hr:zAF f=true) {a b:Int} (ha:InN f.Nodes a) (d:InN f.Nodes b):zQQ f a b=zSc f.Nodes a b :=
 lJ.inj ((zXF hfu (hs.fit hfu) hr (zNh ha) (zNh d)).symm.trans (zfa hs hfu hr ha d))
theorem zcL {f:Forest} {fu:Nat} {n p:Int} {x y:Node} (hfu:1000<fu) (hk:zEb fu f.Nodes) (hr:zAF f=true) (hx:idx f.Nodes n=some x) (hy:idx f.Nodes p=some y):∃r,zEO fu f n p (-1)=some r/\r≠0:=by
 have d:inB f n=true:=zNh (zAK hx)
 have e:inB f p=true:=zNh (zAK hy)
 have B:zAe fu ⟨⟨f.Nodes,f.Most⟩,p,-1,-1⟩ p=some y.Kind:=by unfold zAe;rw [hy];rfl
 have u:∃b,zFd fu ⟨⟨f.Nodes,f.Most⟩,p,-1,-1⟩ n=some b:=by
  unfold zFd
  rw [B,zAA]
  cases y.Kind != 2 with
  | false=>exact ⟨_,rfl⟩
  | true =>
   rw [zAO]
   exact ⟨_,by rw [zXF hfu hk hr d e,zAA]⟩
 obtain ⟨b,q⟩:=u
 have o:=zXU (child := -1) (gone := -1) hfu hk hr hx hy (.inl rfl)
 revert o
 generalize zPh f n p (-1) (-1) x y _=T
 intro o
 unfold zEO zHS
 rw [zFV hfu hk hr (by simp),zAA,o,zAA,q,zAA]
 simp only [cK,iM,d,e,iO,iA,zAG]
 rw [zAS (by rfl),zAT (by rfl),zAj]
 split
 ·exact ⟨6,rfl,by decide⟩
 ·rename_i h
  cases b with
  | true=>exact ⟨6,rfl,by decide⟩
  | false=>exact ⟨_,rfl,h⟩
section
variable {f:Forest} {c p:Int} {z y:Node} (H:Hung f c p z y) (hr:zAF f=true)
include H
theorem zVi (hs:Small f):Small (zL1 f c p z y):=by
 have q:∀r∈(zL1 f c p z y).Nodes,r∈f.Nodes\/r=zN4 y c\/r=zMe z:=fun r d=>by
  unfold zL1 at d
  rcases dT d with d | d
  ·rcases dT d with d | d
   ·exact .inl d
   ·exact .inr (.inl d)
  ·exact .inr (.inr d)
 have o:=zEw H.hz
 have e:=zEw H.hy
 refine ⟨by rw [zR0];exact hs.few,fun w d=>?_,fun w d=>?_,fun w d=>?_⟩
 ·rcases q w d with h | rfl | rfl
  ·exact hs.kids w h
  ·exact eM (iT _ _) (hs.kids y e)
  ·exact hs.kids z o
 ·rcases q w d with h | rfl | rfl
  ·exact hs.attrs w h
  ·exact hs.attrs y e
  ·exact hs.attrs z o
 ·rcases q w d with h | rfl | rfl
  ·exact hs.name w h
  ·exact hs.name y e
  ·exact hs.name z o
theorem zYN {l:List Int} {k:Int} (q:c∉l):zDz (zL1 f c p z y).Nodes (-1) l k=zDz f.Nodes c l k:=by
 unfold zDz
 refine iF fun j o=>?_
 have d:j≠c:=fun e=>q (e▸o)
 rw [zN6 H]
 simp only [lM,bne_iff_ne]
 exact ⟨fun h=>⟨d,h.2⟩,fun h=>⟨zUB h.2,h.2⟩⟩
theorem zVh {l:List Int} {k:Int}:zDz (zL1 f c p z y).Nodes (-1) (l.filter fun j=>j != c) k=zDz f.Nodes c l k:=by
 unfold zDz
 rw [List.countP_filter]
 refine iF fun j d=>?_
 rw [zN6 H]
 simp only [lM,bne_iff_ne]
 exact ⟨fun h=>⟨h.2,h.1.2⟩,fun h=>⟨⟨zUB h.2,h.2⟩,h.1⟩⟩
theorem zbk {l:List Int} (d:c∉l):zGI (zL1 f c p z y).Nodes p (-1) l=zGI f.Nodes p c l:=by
 unfold zGI
 rw [zYN H d,zYN H d,zHA H,H.hy]
 simp only
 rw [show (zN4 y c).Kids=y.Kids.filter (fun j=>j != c) from rfl,zVh H]
include hr
theorem zW3:zGP y.Kind=true:=by
 have d:=zBc (zAa hr).2.2.1 H.hy
 unfold zFb zEV at d
 simp only [lM,dD,decide_eq_true_eq] at d
 rcases d.2.2.2.1.2.2.1 with h | h
 ·exact h
 ·have:=H.mem
  rw [List.eq_nil_of_length_eq_zero h] at this
  simp at this
theorem zT8:zSc f.Nodes c p=false:=by
 have U:=zAL hr
 have d:InN f.Nodes p:=zAK H.hy
 have r:InN f.Nodes c:=zAK H.hz
 cases h:zSc f.Nodes c p with
 | false=>rfl
 | true =>
  have o:=zLC.1 h
  have q:p∈zGL f.Nodes c:=by
   have e:upI f.Nodes c=p:=by rw [zGg H.hz,H.par,iN d.ne]
   rw [U.wayU_eq r,e,iN d.ne]
   exact lG _ (U.wayU_self d)
  exact absurd (U.wayU_anti d o q) H.ne
theorem zZk {fu:Nat} (hs:Small f) (hfu:1000<fu) {n:Int} {x:Node} (hx:idx f.Nodes n=some x) (J:n≠c) (u:zQQ f n p=false):zEh fu (zL1 f c p z y) n p (-1)=some (zPh f n p c c x y true):=by
 have I:=zOw H hr
 have D:=zVi H hs
 have T:=zBG hr
 have U:=zAL hr
 have q:InN f.Nodes n:=zAK hx
 have B:InN f.Nodes p:=zAK H.hy
 have o:zSc f.Nodes n p=false:=by rw [<- zMh hs hfu hr q B];exact u
 have r:n≠p:=fun e=>by
  subst e
  have:=zLC.2 (U.wayU_self q)
  rw [o] at this
  cases this
 have G:idx (zL1 f c p z y).Nodes n=some x:=(zMg H J r).trans hx
 have d:=zR0 f c p z y
 have F:zQQ (zL1 f c p z y) n p=false:=by
  rw [zMh D hfu I (by unfold InN;rw [d];exact q) (by unfold InN;rw [d];exact B),zYO H hr];exact o
 have E:c∉(if x.Kind=3 then x.Kids else [n]):=by
  split
  ·intro hm
   have:=(T.kid n c (by rw [zFv hx];exact hm)).2.2
   rw [zIy H.hz,H.par] at this
   exact r this.symm
  ·intro hm
   exact J (e8.1 hm).symm
 rw [zbX hfu (D.fit hfu) I G (zHA H) (.inl rfl)]
 unfold zPh
 rw [F,u,zbk H E]
 rfl
end
end
section
structure At (a b:List Node) (h:Int->Node->Node):Prop where
 len:b.length=a.length
 at_:∀j w,idx a j=some w->idx b j=some (h j w)
theorem At.set {b:List Node} (H:At a b h) {c:Int} (e:0<=c/\c<a.length) (v:Node):At a (b.set c.toNat v) (fun j w=>if j=c then v else h j w) where
 len:=by rw [eE,H.len]
 at_ j w hw:=by
  by_cases d:j=c
  ·subst d
   rw [iP rfl,zK1 (by rw [H.len];exact e)]
  ·rw [iN d,zJh e.1 d,H.at_ j w hw]
theorem At.congr {b:List Node} {d:Int->Node->Node} (H:At a b h) (e:∀j w,idx a j=some w->h j w=d j w):At a b d where
 len:=H.len
 at_ j w hw:=by rw [H.at_ j w hw,e j w hw]
def zUr (M:List Int) (j:Int) (w:Node):Node:=⟨w.Kind,w.Name,w.Is,w.Data,w.Attrs,if M.contains j=true then -1 else w.Parent,w.Kids.filter (fun k => !(M.contains k)),w.Host,w.Under,w.Doc⟩
theorem zOe (M:List Int) (c k:Int):(M++[c]).contains k=(M.contains k||k==c):=by
 rw [eW,e7,dD,e7,beq_iff_eq,cA,e8]
section
variable {f:Forest} (hr:zAF f=true)
include hr
theorem zN3 {c:Int} {z:Node} (d:idx f.Nodes j=some w) (hz:idx f.Nodes c=some z) (h:c∈w.Kids):z.Parent=j:=by
 have:=((zBG hr).kid j c (by rw [zFv d];exact h)).2.2
 rwa [zIy hz] at this
theorem zfG {c:Int} (d:idx f.Nodes j=some w) (h:c∈w.Kids):c≠j:=fun e=>by
 have hk:=(zBG hr).way_kid (n:=j) (k:=c) (by rw [zFv d];exact h)
 rw [e] at hk
 have:=congrArg iL hk
 simp at this
end
def zfA (A:List Int) (d:Int) (h:Int->Node->Node) (j:Int) (w:Node):Node:=⟨(h j w).Kind,(h j w).Name,(h j w).Is,(h j w).Data,(h j w).Attrs,(h j w).Parent,(h j w).Kids,(h j w).Host,(h j w).Under,if A.contains j=true then d else (h j w).Doc⟩
def zgF (f:Forest) (L:List Int) (p d:Int) (K M:List Int) (j:Int) (w:Node):Node:=⟨w.Kind,w.Name,w.Is,w.Data,w.Attrs,if M.contains j=true then p else if L.contains j=true then -1 else w.Parent,if j=p then K else w.Kids.filter (fun k => !(L.contains k)),w.Host,w.Under,if (M.any fun c=>(zIG f.Nodes c).contains j)=true then d else w.Doc⟩
def zTM (w:Node) (p:Int):Node:=⟨w.Kind,w.Name,w.Is,w.Data,w.Attrs,p,w.Kids,w.Host,w.Under,w.Doc⟩
end
section
def zAU (n:Int) (x:Node):List Int:=if x.Kind=3 then x.Kids else [n]
theorem zPi {f:Forest} {n p a g:Int} {x y:Node} (h:zPh f n p a g x y true=0):zGP y.Kind=true/\zQQ f n p=false/\x.Kind≠0/\x.Kind≠4/\(y.Kind=0->zGI f.Nodes p g (zAU n x)=false):=by
 unfold zPh at h
 rw [show (if x.Kind=3 then x.Kids else [n])=zAU n x from rfl] at h
 generalize zAU n x=L at h ⊢
 split at h
 ·cases h
 ·rename_i q
  split at h
  ·cases h
  ·rename_i r
   rw [iN (show ¬true=false by simp)] at h
   split at h
   ·cases h
   ·rename_i d
    refine ⟨by simpa using q,by simpa using r,fun e=>d (.inl e),fun e=>d (.inr e),fun o=>?_⟩
    rw [iP o] at h
    split at h
    ·cases h
    ·rename_i u;simpa using u
structure May (f:Forest) (n p:Int) (x y:Node):Prop where
 hx:idx f.Nodes n=some x
 hy:idx f.Nodes p=some y
 holder:zGP y.Kind=true
 over:zSc f.Nodes n p=false
 k0:x.Kind≠0
 k4:x.Kind≠4
 crowd:y.Kind=0->zGI f.Nodes p (-1) (zAU n x)=false
section
variable {f:Forest} {n p:Int} {x y:Node} (hr:zAF f=true) (M:May f n p x y)
include hr M
theorem May.np:n≠p:=fun e=>by
 have U:=zAL hr
 have d:InN f.Nodes n:=zAK M.hx
 have:=M.over
 rw [<- e,zLC.2 (U.wayU_self d)] at this
 cases this
theorem May.part {c:Int} (e:c∈zAU n x):∃z,idx f.Nodes c=some z/\(z.Kind=1\/z.Kind=2)/\n∈zGL f.Nodes c:=by
 have U:=zAL hr
 have o:=(zAa hr).2.2.1
 have u:InN f.Nodes n:=zAK M.hx
 unfold zAU at e
 by_cases r:x.Kind=3
 ·rw [iP r] at e
  have d:=zBc o M.hx
  unfold zFb zEV at d
  simp only [lM,lR] at d
  have hk:=d.2.2.2.1.2.1 c e
  unfold zOo at hk
  have q:c∈zQT f.Nodes n:=by rw [zO3 M.hx];exact cA.2 (.inr e)
  cases hz:idx f.Nodes c with
  | none=>rw [hz] at hk;cases hk
  | some z =>
   rw [hz] at hk
   simp only [lM,dD,beq_iff_eq] at hk
   refine ⟨z,rfl,hk.2.2.imp id And.left,?_⟩
   rw [U.wayU_kid q]
   exact lG _ (U.wayU_self u)
 ·rw [iN r,e8] at e
  subst e
  have d:=zBc o M.hx
  unfold zFb at d
  simp only [lM] at d
  have:=zUD d.1
  have:=M.k0
  have:=M.k4
  exact ⟨x,M.hx,by omega,U.wayU_self u⟩
theorem May.in_ {c:Int} (d:c∈zAU n x):InN f.Nodes c:=by
 obtain ⟨z,hz,_⟩:=May.part hr M d
 exact zAK hz
theorem May.nodup:(zAU n x).Nodup:=by
 unfold zAU
 split
 ·have:=(zBG hr).nod n
  rwa [zFv M.hx] at this
 ·simp
theorem May.free {c:Int} (d:c∈zAU n x):c∉zGL f.Nodes p:=fun h=>by
 have U:=zAL hr
 have e:InN f.Nodes p:=zAK M.hy
 obtain ⟨z,hz,_,o⟩:=May.part hr M d
 have:=zLC.2 (U.wayU_trans e o h)
 rw [M.over] at this
 cases this
omit hr in
theorem May.len (hs:Small f):(zAU n x).length<=400:=by
 unfold zAU
 split
 ·exact hs.kids x (zEw M.hx)
 ·simp
theorem zaM {fu:Nat} (hs:Small f) (hfu:1000<fu) (D:child = -1\/child∈y.Kids) (q:zEh fu f n p child=some 0):∃b,zIE fu f n p child=some b/\(b = -1\/(b∈y.Kids/\b∉zAU n x)):=by
 have S:=hs.kids y (zEw M.hy)
 have T:=zBG hr
 unfold zIE
 rw [q,zAA,zAS (by rfl),zAi]
 by_cases d:child=n
 ·rw [iP d]
  have N:InN f.Nodes n:=zAK M.hx
  have e:n∈y.Kids:=by
   rcases D with h | h
   ·rw [d] at h;exact absurd h N.ne
   ·rwa [d] at h
  obtain ⟨J,Q⟩:=zQg e
  have F:=zN3 hr M.hy M.hx e
  have u:x.Kind≠3:=by
   have o:=zBc (zAa hr).2.2.1 M.hx
   unfold zFb zK0 at o
   simp only [lM,dD,beq_iff_eq] at o
   have:=(zAK M.hy).1
   rcases o.2.2.1 with h | h
   ·omega
   ·have:=h.1;omega
  rw [M.hy,zAA,zVz (by omega) (by omega),zAA,J,zBO (by omega),zAA,zAQ]
  by_cases E:((y.Kids.idxOf n+1:Nat):Int)>=(y.Kids.length:Int)
  ·rw [iP E];exact ⟨-1,rfl,.inl rfl⟩
  ·have hi:y.Kids.idxOf n+1<y.Kids.length:=by omega
   rw [iN E,zAW hi,zAA]
   refine ⟨_,rfl,.inr ⟨gC hi,fun h=>?_⟩⟩
   unfold zAU at h
   rw [iN u,e8] at h
   have B:y.Kids.Nodup:=by have:=T.nod p;rwa [zFv M.hy] at this
   have:=B.idxOf_getElem _ hi
   rw [h] at this
   omega
 ·rw [iN d]
  refine ⟨child,rfl,D.imp id fun h=>⟨h,fun r=>?_⟩⟩
  unfold zAU at r
  split at r
  ·obtain ⟨z,hz⟩:=zAJ (T.kid p child (by rw [zFv M.hy];exact h)).2.1
   have G:=zN3 hr M.hy hz h
   have I:=zN3 hr M.hx hz r
   exact May.np hr M (I.symm.trans G)
  ·exact d (e8.1 r)
end
end
section
def upF (ns:List Node):Nat->Int->List Int
 | 0,_=>[]
 | k+1,n=>n::(if upI ns n = -1 then [] else upF ns k (upI ns n))
theorem zUk {ns:List Node}:∀(k:Nat) (n:Int),zBb ns k n=true->∀j,k<=j->upF ns j n=upF ns k n
 | 0,_,h,_,_=>by cases h
 | k+1,n,h,j,hj=>by
  obtain ⟨j,rfl⟩:∃e,j=e+1:=⟨j - 1,by omega⟩
  rw [zBb,dD,beq_iff_eq] at h
  simp only [upF]
  by_cases d:upI ns n = -1
  ·rw [iP d,iP d]
  ·rw [iN d,iN d,zUk k _ (h.resolve_left d) j (by omega)]
theorem zVG {ns:List Node}:∀(k:Nat) (n:Int),zBb ns k n=true->zBb ns (upF ns k n).length n=true
 | 0,_,h=>by cases h
 | k+1,n,h=>by
  rw [zBb,dD,beq_iff_eq] at h
  simp only [upF,cP]
  rw [zBb,dD,beq_iff_eq]
  by_cases d:upI ns n = -1
  ·exact .inl d
  ·rw [iN d]
   exact .inr (zVG k _ (h.resolve_left d))
theorem zVF {ns:List Node} {n:Int} {k j:Nat} (h:zBb ns k n=true) (d:k<=j):zBb ns j n=true:=by
 induction d with
 | refl=>exact h
 | step _ e=>exact zLj _ _ e
theorem zfR {ns:List Node} (K:Nat):∀(k:Nat) (n:Int),k<=K->zBb ns k n=true->∀y∈upF ns k n,zBb ns k y=true/\upF ns k y <:+ upF ns k n
 | 0,_,_,h,_,_=>by cases h
 | k+1,n,hK,h,y,hy=>by
  have o:=h
  rw [zBb,dD,beq_iff_eq] at o
  simp only [upF] at hy
  rcases lD.1 hy with rfl | hy
  ·exact ⟨h,jF _⟩
  ·by_cases d:upI ns n = -1
   ·rw [iP d] at hy;simp at hy
   ·rw [iN d] at hy
    obtain ⟨e,q⟩:=zfR K k _ (by omega) (o.resolve_left d) y hy
    refine ⟨zLj _ _ e,?_⟩
    rw [zUk k y e (k+1) (by omega)]
    have:upF ns (k+1) n=n::upF ns k (upI ns n):=by simp only [upF];rw [iN d]
    rw [this]
    exact q.trans (jG _ _)
theorem zYr {ns:List Node}:∀(k:Nat) (n:Int),zBb ns k n=true->(upF ns k n).Nodup
 | 0,_,h=>by cases h
 | k+1,n,h=>by
  rw [zBb,dD,beq_iff_eq] at h
  by_cases d:upI ns n = -1
  ·simp only [upF];rw [iP d];simp
  ·have q:=h.resolve_left d
   have e:upF ns (k+1) n=n::upF ns k (upI ns n):=by simp only [upF];rw [iN d]
   rw [e,lS]
   refine ⟨fun hm=>?_,zYr k _ q⟩
   obtain ⟨r,o⟩:=zfR k k _ (cB _) q n hm
   rw [<- zUk k n r (k+1) (by omega),e] at o
   have:=o.length_le
   simp at this
   omega
theorem up_in {ns:List Node} (d:Ups ns):∀(k:Nat) (n:Int),InN ns n->∀y∈upF ns k n,InN ns y
 | 0,_,_,_,hy=>by simp [upF] at hy
 | k+1,n,hn,y,hy=>by
  simp only [upF] at hy
  rcases lD.1 hy with rfl | hy
  ·exact hn
  ·split at hy
   ·simp at hy
   ·rename_i e
    obtain ⟨x,hx⟩:=zAJ hn
    rcases d n x hx with h | ⟨z,hz⟩
    ·exact absurd h e
    ·exact up_in d k _ (zAK hz) y hy
theorem zWo {ns:List Node} (e:Ups ns) {n:Int} (d:InN ns n) {K:Nat} (h:zBb ns K n=true):zBb ns ns.length n=true :=
 zVF (zVG K n h) (zMf _ _ (zYr K n h) (up_in e K n d))
end
section
def dB (f:Forest) (L:List Int) (j:Int):Bool:=L.any fun c=>(zIG f.Nodes c).contains j
section
variable {f g:Forest} {n p:Int} {x y:Node} {K:List Int} (hr:zAF f=true) (M:May f n p x y) (H:At f.Nodes g.Nodes (zgF f (zAU n x) p y.Doc K (zAU n x))) (hK:K.Perm (y.Kids.filter (fun k => !((zAU n x).contains k))++zAU n x)) (hm:g.Most=f.Most)
include hr M
theorem zVI (o:InN f.Nodes j):dB f (zAU n x) j=true↔∃c∈zAU n x,c∈zGL f.Nodes j:=by
 have U:=zAL hr
 unfold dB
 rw [dN]
 refine exists_congr fun c=>and_congr_right fun e=>?_
 have d:=May.in_ hr M e
 rw [e7]
 exact ⟨fun h=>(U.all_in c d j h).2,fun h=>U.mem_all d j o h⟩
theorem zag (d:j∈zAU n x):dB f (zAU n x) j=true:=(zVI hr M (May.in_ hr M d)).2 ⟨j,d,(zAL hr).wayU_self (May.in_ hr M d)⟩
theorem zf5 {q:Int} (d:InN f.Nodes j) (B:j∉zAU n x) (r:upI f.Nodes j=q) (u:q ≠ -1):dB f (zAU n x) j=dB f (zAU n x) q:=by
 have U:=zAL hr
 have o:InN f.Nodes q:=by have:=(U.par j d (by rw [r];exact u)).1;rwa [r] at this
 rw [eW,zVI hr M d,zVI hr M o,U.wayU_eq d,r,iN u]
 refine exists_congr fun c=>and_congr_right fun D=>?_
 exact ⟨fun h=>(lD.1 h).resolve_left fun e=>B (e▸D),lG _⟩
theorem dB_top (d:InN f.Nodes j) (o:j∉zAU n x) (r:upI f.Nodes j = -1):dB f (zAU n x) j=false:=by
 have U:=zAL hr
 cases h:dB f (zAU n x) j with
 | false=>rfl
 | true =>
  obtain ⟨c,q,e⟩:=(zVI hr M d).1 h
  rw [U.wayU_eq d,iP r,e8] at e
  exact absurd (e▸q) o
theorem dB_p:dB f (zAU n x) p=false:=by
 cases h:dB f (zAU n x) p with
 | false=>rfl
 | true =>
  obtain ⟨c,d,e⟩:=(zVI hr M (zAK M.hy)).1 h
  exact absurd e (May.free hr M d)
include H
omit hr M in
theorem zKy (e:idx f.Nodes j=some w):∃v,idx g.Nodes j=some v/\v.Kind=w.Kind/\v.Host=w.Host/\v.Under=w.Under/\zHZ v=zHZ w/\v.Parent=(if j∈zAU n x then p else w.Parent)/\v.Kids=(if j=p then K else w.Kids.filter (fun k => !((zAU n x).contains k)))/\v.Doc=(if dB f (zAU n x) j=true then y.Doc else w.Doc):=by
 refine ⟨_,H.at_ j w e,rfl,rfl,rfl,rfl,?_,rfl,rfl⟩
 simp only [zgF]
 by_cases h:j∈zAU n x
 ·rw [iP h,iP (e7.2 h)]
 ·rw [iN h,iN fun d=>h (e7.1 d),iN fun d=>h (e7.1 d)]
omit hr M in
theorem zRc {k:Int}:isB g.Nodes j k=isB f.Nodes j k:=by
 cases e:idx f.Nodes j with
 | none =>
  have:idx g.Nodes j=none:=by
   by_cases h:0<=j/\j<g.Nodes.length
   ·rw [H.len] at h
    obtain ⟨w,d⟩:=zAJ h
    rw [e] at d;cases d
   ·exact zCa h
  unfold isB;rw [this,e]
 | some w =>
  obtain ⟨v,o,q,_⟩:=zKy H e
  unfold isB;rw [o,e];simp only [q]
omit hr in
theorem za1 (r:InN f.Nodes j):upI g.Nodes j=if j∈zAU n x then p else upI f.Nodes j:=by
 obtain ⟨w,d⟩:=zAJ r
 obtain ⟨v,e,_,o,_,_,q,_⟩:=zKy H d
 rw [zGg e,zGg d,o,q]
 by_cases h:j∈zAU n x
 ·rw [iP h,iP h,iN (InN.ne (zAK M.hy))]
 ·rw [iN h,iN h]
include hK
omit hr M H in
theorem zc8 {k:Int}:k∈K↔(k∈y.Kids/\k∉zAU n x)\/k∈zAU n x:=by
 rw [hK.mem_iff,cA,iH]
 refine or_congr (and_congr_right fun _=>?_) Iff.rfl
 cases h:(zAU n x).contains k with
 | true=>simp [e7.1 h]
 | false =>
  have:k∉zAU n x:=fun d=>by rw [e7.2 d] at h;cases h
  simp [this]
omit hr M hK in
theorem zaz {k:Int} {u v z:Node} (D:idx f.Nodes j=some w) (r:idx f.Nodes k=some u) (B:idx g.Nodes j=some v) (hz:idx g.Nodes k=some z) (q:dB f (zAU n x) k=dB f (zAU n x) j) (h:u.Doc=w.Doc):z.Doc=v.Doc:=by
 obtain ⟨F,d,_,_,_,_,_,_,o⟩:=zKy H D
 obtain ⟨G,e,_,_,_,_,_,_,E⟩:=zKy H r
 rw [B] at d;rw [hz] at e
 obtain rfl:=lJ.inj d
 obtain rfl:=lJ.inj e
 rw [o,E,q,h]
theorem zda {v:Node} (F:idx f.Nodes j=some w) (hv:idx g.Nodes j=some v):zFb g.Nodes j v=true:=by
 have T:=zBG hr
 have hns:=(zAa hr).2.2.1
 have W:InN f.Nodes j:=zAK F
 have hpi:InN f.Nodes p:=zAK M.hy
 obtain ⟨v',g1,g2,g3,g4,g5,g6,g7,g8⟩:=zKy H F
 rw [hv] at g1
 obtain rfl:=lJ.inj g1
 have hwn:=zBc hns F
 have hyn:=zBc hns M.hy
 unfold zFb at hwn hyn
 simp only [lM] at hwn hyn
 obtain ⟨n1,n2,n3,n4,D,n6⟩:=hwn
 obtain ⟨y1,y2,y3,y4,y5,y6⟩:=hyn
 have hpd:∀vp,idx g.Nodes p=some vp->vp.Doc=y.Doc:=fun vp hvp=>by
  obtain ⟨v'',o,_,_,_,_,_,_,q8⟩:=zKy H M.hy
  rw [hvp] at o
  obtain rfl:=lJ.inj o
  rw [q8,dB_p hr M];rfl
 have hbears:=n4
 unfold zEV at n4
 simp only [lM,decide_eq_true_eq,lR] at n4
 obtain ⟨b1,b2,b3,b4⟩:=n4
 have E:∀k∈w.Kids,k∉zAU n x->zOo g.Nodes j v k=true:=fun k hk r=>by
  have d:=b2 k hk
  unfold zOo at d ⊢
  cases X:idx f.Nodes k with
  | none=>rw [X] at d;cases d
  | some u =>
   rw [X] at d
   obtain ⟨z,o,N,_,_,_,q6,_⟩:=zKy H X
   rw [o]
   simp only [lM,dD,beq_iff_eq,bne_iff_ne] at d ⊢
   have I:upI f.Nodes k=j:=by rw [zGg X,d.1,iN W.ne]
   refine ⟨by rw [q6,iN r];exact d.1,zaz H F X hv o (zf5 hr M (zAK X) r I W.ne) d.2.1,?_⟩
   rw [N,g2];exact d.2.2
 unfold zFb
 simp only [lM]
 refine ⟨by rw [g5];exact n1,?_,?_,?_,?_,?_⟩
 ·unfold zL2 at n2 y2 ⊢
  rw [zRc H,g2,g8]
  simp only [lM,dD,bne_iff_ne,beq_iff_eq] at n2 y2 ⊢
  by_cases Q:w.Kind=0
  ·have S:j∉zAU n x:=fun h=>by
    obtain ⟨z,hz,hk,_⟩:=May.part hr M h
    rw [F] at hz
    obtain rfl:=lJ.inj hz
    omega
   have I:upI f.Nodes j = -1:=by
    have G:w.Parent = -1:=by
     unfold zK0 at n3
     simp only [lM,dD,beq_iff_eq] at n3
     rcases n3 with h | ⟨h | h,_⟩
     ·exact h
     ·omega
     ·omega
    rw [zGg F,iP G]
    unfold zN2 at D
    rw [iN (by omega)] at D
    exact beq_iff_eq.1 D
   rw [dB_top hr M W S I]
   exact n2
  ·refine ⟨?_,.inl Q⟩
   split
   ·exact y2.1
   ·exact n2.1
 ·unfold zK0 at n3 ⊢
  rw [g2,g6]
  by_cases S:j∈zAU n x
  ·rw [iP S]
   obtain ⟨z,hz,hk,_⟩:=May.part hr M S
   rw [F] at hz
   obtain rfl:=lJ.inj hz
   obtain ⟨vp,o,N,_,_,_,_,q7,_⟩:=zKy H M.hy
   rw [o]
   simp only [N,q7,dD,lM,beq_iff_eq]
   exact .inr ⟨hk,M.holder,e7.2 ((zc8 hK).2 (.inr S))⟩
  ·rw [iN S]
   simp only [dD,lM] at n3 ⊢
   refine n3.imp id fun ⟨k1,J⟩=>⟨k1,?_⟩
   cases hp:idx f.Nodes w.Parent with
   | none=>rw [hp] at J;cases J
   | some q =>
    rw [hp] at J
    obtain ⟨q',o,N,_,_,_,_,q7,_⟩:=zKy H hp
    rw [o]
    simp only [N,q7]
    simp only [lM] at J ⊢
    refine ⟨J.1,?_⟩
    have hjq:=e7.1 J.2
    split
    ·rename_i hpp
     rw [hpp,M.hy] at hp
     obtain rfl:=lJ.inj hp
     exact e7.2 ((zc8 hK).2 (.inl ⟨hjq,S⟩))
    ·rw [e7,iH]
     refine ⟨hjq,?_⟩
     cases h:(zAU n x).contains j with
     | false=>rfl
     | true=>exact absurd (e7.1 h) S
 ·unfold zEV
  simp only [lM,decide_eq_true_eq,lR]
  rw [g2]
  by_cases hjp:j=p
  ·subst hjp
   rw [M.hy] at F
   obtain rfl:=lJ.inj F
   rw [iP rfl] at g7
   have hcr:y.Kind=0->zBH f.Nodes (zAU n x)=0/\zDz f.Nodes (-1) (zAU n x) 2=0\/zBH f.Nodes (zAU n x)+zBH f.Nodes y.Kids<=1/\zDz f.Nodes (-1) (zAU n x) 2=0:=fun Q=>by
    have hc:=M.crowd Q
    have me:∀l,zDz f.Nodes (-1) l 1=zBH f.Nodes l:=fun l=>by
     unfold zDz zBH
     refine iF fun k _=>?_
     simp only [lM,bne_iff_ne]
     exact ⟨And.right,fun h=>⟨zUB h,h⟩⟩
    unfold zGI at hc
    rw [M.hy] at hc
    simp only [me] at hc
    simp only [iY,jM,decide_eq_false_iff_not] at hc
    rcases hc.2 with h | h
    ·exact .inl ⟨by omega,by omega⟩
    ·exact .inr ⟨by omega,by omega⟩
   refine ⟨?_,fun k hk=>?_,by rw [M.holder];rfl,?_⟩
   ·rw [g7,hK.nodup_iff,dM]
    refine ⟨b1.sublist iX,May.nodup hr M,fun a ha b hb e=>?_⟩
    subst e
    rw [iH] at ha
    rw [e7.2 hb] at ha
    cases ha.2
   ·rw [g7,zc8 hK] at hk
    rcases hk with ⟨h1,h2⟩ | r
    ·exact E k h1 h2
    ·obtain ⟨u,X,huk,_⟩:=May.part hr M r
     obtain ⟨z,o,N,_,_,_,q6,_,q8⟩:=zKy H X
     unfold zOo
     rw [o]
     simp only [lM,dD,beq_iff_eq,bne_iff_ne]
     refine ⟨by rw [q6,iP r],by rw [q8,zag hr M r,iP rfl,hpd v hv],?_⟩
     rw [N,g2]
     by_cases Q:y.Kind=0
     ·refine .inl (huk.resolve_right fun h2=>?_)
      have hz2:zDz f.Nodes (-1) (zAU n x) 2=0:=(hcr Q).elim And.right And.right
      unfold zDz at hz2
      rw [List.countP_eq_zero] at hz2
      refine hz2 k r ?_
      have hb:isB f.Nodes k 2=true:=by unfold isB;rw [X];exact beq_iff_eq.2 h2
      rw [hb,Bool.and_true]
      exact bne_iff_ne.2 (zUB hb)
     ·exact huk.imp id fun h=>⟨h,Q⟩
   ·rw [dD]
    by_cases Q:y.Kind=0
    ·right
     have e:zBH g.Nodes v.Kids=zBH f.Nodes (y.Kids.filter (fun k => !((zAU n x).contains k)))+zBH f.Nodes (zAU n x):=by
      unfold zBH
      rw [g7,hK.countP_eq,jE]
      exact congr (congrArg _ (iF fun k _=>by rw [zRc H])) (iF fun k _=>by rw [zRc H])
     have hle:zBH f.Nodes (y.Kids.filter (fun k => !((zAU n x).contains k)))<=zBH f.Nodes y.Kids:=iX.countP_le
     have h4:zBH f.Nodes y.Kids<=1:=by
      simp only [dD,decide_eq_true_eq] at b4
      exact b4.resolve_left (by simp [Q])
     refine decide_eq_true ?_
     rw [e]
     rcases hcr Q with h | h
     ·omega
     ·omega
    ·left;exact bne_iff_ne.2 Q
  ·rw [iN hjp] at g7
   have B:v.Kids.Sublist w.Kids:=by rw [g7];exact iX
   refine ⟨b1.sublist B,fun k hk=>?_,?_,?_⟩
   ·rw [g7,iH] at hk
    exact E k hk.1 fun h=>by rw [e7.2 h] at hk;cases hk.2
   ·simp only [dD,decide_eq_true_eq] at b3 ⊢
    refine b3.imp id fun h=>?_
    have:=B.length_le
    omega
   ·simp only [dD,decide_eq_true_eq] at b4 ⊢
    refine b4.imp id fun h=>?_
    have e:zBH g.Nodes v.Kids=zBH f.Nodes v.Kids:=by
     unfold zBH
     exact iF fun k _=>by rw [zRc H]
    have:=B.countP_le (p:=fun k=>isB f.Nodes k 1)
    rw [e]
    unfold zBH at h ⊢
    omega
 ·unfold zN2 at D ⊢
  rw [g2,g3]
  by_cases hk:w.Kind=4
  ·rw [iP hk] at D ⊢
   cases V:idx f.Nodes w.Host with
   | none=>rw [V] at D;cases D
   | some h =>
    rw [V] at D
    obtain ⟨u',o,N,_,q4,_⟩:=zKy H V
    rw [o]
    simp only [lM,beq_iff_eq] at D ⊢
    have S:j∉zAU n x:=fun h=>by
     obtain ⟨z,hz,hk',_⟩:=May.part hr M h
     rw [F] at hz
     obtain rfl:=lJ.inj hz
     omega
    have G:w.Parent = -1:=by
     unfold zK0 at n3
     simp only [lM,dD,beq_iff_eq] at n3
     rcases n3 with h | ⟨h | h,_⟩
     ·exact h
     ·omega
     ·omega
    have hhi:InN f.Nodes w.Host:=zAK V
    have I:upI f.Nodes j=w.Host:=by rw [zGg F,iP G]
    exact ⟨by rw [N];exact D.1,by rw [q4];exact D.2.1,zaz H F V hv o (zf5 hr M W S I hhi.ne).symm D.2.2⟩
  ·rw [iN hk] at D ⊢;exact D
 ·unfold zLG at n6 ⊢
  rw [g2,g4]
  simp only [dD,lM] at n6 ⊢
  refine n6.imp id fun ⟨k1,J⟩=>⟨k1,?_⟩
  cases V:idx f.Nodes w.Under with
  | none=>rw [V] at J;cases J
  | some h =>
   rw [V] at J
   obtain ⟨u',o,N,q3,_⟩:=zKy H V
   rw [o]
   simp only [N,q3]
   exact J
include hm
theorem za0:zAF g=true:=by
 have o:=H.len
 have e:zHa g.Nodes=true:=by
  rw [zS5]
  intro j v N
  have I:InN f.Nodes j:=by have:=zAK N;rw [o] at this;exact this
  obtain ⟨w,W⟩:=zAJ I
  exact zda hr M H hK W N
 have F:=zK6 e
 have d:=zAa hr
 have hfu:=zK6 d.2.2.1
 have E:InN f.Nodes p:=zAK M.hy
 -- whoever isn't below a part goes up as before
 have free:∀(k:Nat) (j:Int),InN f.Nodes j->dB f (zAU n x) j=false->zBb f.Nodes k j=true->zBb g.Nodes k j=true:=by
  intro k
  induction k with
  | zero=>intro j _ _ h;cases h
  | succ k J =>
   intro j r G h
   have B:j∉zAU n x:=fun Q=>by rw [zag hr M Q] at G;cases G
   rw [zBb,dD,beq_iff_eq] at h ⊢
   rw [za1 M H r,iN B]
   rcases h with h | h
   ·exact .inl h
   ·by_cases u:upI f.Nodes j = -1
    ·exact .inl u
    ·exact .inr (J _ ((zAL hr).par j r u).1 (by rw [<- zf5 hr M r B rfl u];exact G) h)
 have S:zBb g.Nodes f.Nodes.length p=true:=free _ p E (dB_p hr M) (zNz d.2.2.2 E)
 have all:∀(k:Nat) (j:Int),InN f.Nodes j->zBb f.Nodes k j=true->zBb g.Nodes (k+f.Nodes.length) j=true:=by
  intro k
  induction k with
  | zero=>intro j _ h;cases h
  | succ k J =>
   intro j r h
   rw [zBb,dD,beq_iff_eq] at h
   rw [show k+1+f.Nodes.length=(k+f.Nodes.length)+1 by omega,zBb,dD,beq_iff_eq,za1 M H r]
   by_cases B:j∈zAU n x
   ·rw [iP B]
    exact .inr (zVF S (by omega))
   ·rw [iN B]
    rcases h with h | h
    ·exact .inl h
    ·by_cases u:upI f.Nodes j = -1
     ·exact .inl u
     ·exact .inr (J _ ((zAL hr).par j r u).1 h)
 have q:zPS g.Nodes=true:=by
  unfold zPS
  rw [lR]
  intro i hi
  have hi:i<g.Nodes.length:=by simpa using hi
  have D:InN f.Nodes (i:Int):=⟨by omega,by rw [o] at hi;omega⟩
  exact zWo F ⟨by omega,by omega⟩ (all _ _ D (zNz d.2.2.2 D))
 have V:=hr
 unfold zAF at hr ⊢
 simp only [lM,decide_eq_true_eq] at hr ⊢
 rw [hm,o,zRc H]
 exact ⟨hr.1,hr.2.1,hr.2.2.1,hr.2.2.2.1,hr.2.2.2.2.1,e,q⟩
end
end
section
theorem zKV {l:List α} {m:List α} {n:Int} {x : α} (h:idx l n=some x):idx (l++m) n=some x:=by
 have hr:=zAK h
 unfold idx at h ⊢
 rw [iP hr.1] at h ⊢
 rw [lN (by omega),h]
theorem zX6 (l:List α) (x : α):idx (l++[x]) (l.length:Int)=some x:=by
 rw [zHX];simp
theorem zW4 {ns:List Node} {n k:Int} (h:isB ns n k=true):isB (ns++m) n k=true:=by
 unfold isB at h ⊢
 cases hx:idx ns n with
 | none=>rw [hx] at h;cases h
 | some x=>rw [hx] at h;rw [zKV hx];exact h
theorem zX8 {ns:List Node} {n k:Int} {x:Node} (h:idx ns n=some x):isB (ns++m) n k=isB ns n k:=by
 unfold isB;rw [zKV h,h]
theorem zdk {ns:List Node} {n k:Int} {x:Node} (h:zOo ns n x k=true):zOo (ns++m) n x k=true:=by
 unfold zOo at h ⊢
 cases hx:idx ns k with
 | none=>rw [hx] at h;cases h
 | some y=>rw [hx] at h;rw [zKV hx];exact h
theorem zbi {ns:List Node} {n:Int} {x:Node} (h:zFb ns n x=true):zFb (ns++m) n x=true:=by
 unfold zFb at h ⊢
 simp only [lM] at h ⊢
 obtain ⟨I,u,D,E,o,F⟩:=h
 refine ⟨I,?_,?_,?_,?_,?_⟩
 ·unfold zL2 at u ⊢
  simp only [lM] at u ⊢
  exact ⟨zW4 u.1,u.2⟩
 ·unfold zK0 at D ⊢
  simp only [dD,lM] at D ⊢
  refine D.imp id fun ⟨r,d⟩=>⟨r,?_⟩
  cases q:idx ns x.Parent with
  | none=>rw [q] at d;cases d
  | some p=>rw [q] at d;rw [zKV q];exact d
 ·unfold zEV at E ⊢
  simp only [lM,lR] at E ⊢
  obtain ⟨r,d,J,B⟩:=E
  refine ⟨r,fun k hk=>zdk (d k hk),J,?_⟩
  have e:zBH (ns++m) x.Kids=zBH ns x.Kids:=by
   unfold zBH
   refine iF fun k hk=>?_
   have:=d k hk
   unfold zOo at this
   cases hy:idx ns k with
   | none=>rw [hy] at this;cases this
   | some y=>rw [zX8 hy]
  rw [e];exact B
 ·unfold zN2 at o ⊢
  by_cases hk:x.Kind=4
  ·rw [iP hk] at o ⊢
   cases G:idx ns x.Host with
   | none=>rw [G] at o;cases o
   | some y=>rw [G] at o;rw [zKV G];exact o
  ·rw [iN hk] at o ⊢;exact o
 ·unfold zLG at F ⊢
  simp only [dD,lM] at F ⊢
  refine F.imp id fun ⟨r,d⟩=>⟨r,?_⟩
  cases q:idx ns x.Under with
  | none=>rw [q] at d;cases d
  | some p=>rw [q] at d;rw [zKV q];exact d
theorem zcS {ns:List Node} {n:Int} (h:InN ns n):upI (ns++m) n=upI ns n:=by
 obtain ⟨x,hx⟩:=zAJ h
 unfold upI
 rw [zKV hx,hx]
theorem zSn {ns m:List Node} (d:Ups ns):∀(k:Nat) (n:Int),InN ns n->zBb ns k n=true->zBb (ns++m) k n=true
 | 0,_,_,h=>by cases h
 | k+1,n,hn,h=>by
  simp only [zBb,dD,beq_iff_eq] at h ⊢
  rw [zcS hn]
  rcases h with h | h
  ·exact .inl h
  ·obtain ⟨x,hx⟩:=zAJ hn
   rcases d n x hx with e | ⟨y,hy⟩
   ·exact .inl e
   ·exact .inr (zSn d k _ (zAK hy) h)
def zZX (f:Forest) (x:Node):Node:=⟨x.Kind,x.Name,x.Is,x.Data,x.Attrs,-1,[],-1,-1,if x.Kind=0 then (f.Nodes.length:Int) else x.Doc⟩
def zbd (f:Forest) (x:Node):Bool:=zHZ (zZX f x)&&(x.Kind != 4&&(x.Kind==0||isB f.Nodes x.Doc 0))
theorem zVv {f:Forest} {x:Node} (hr:zAF f=true) (hx:zbd f x=true) (hm:(f.Nodes.length:Int)≠f.Most):zAF ⟨f.Nodes++[zZX f x],f.Most⟩=true:=by
 unfold zAF at hr ⊢
 simp only [lM,decide_eq_true_eq] at hr ⊢
 obtain ⟨q,r,G,I,u,o,B⟩:=hr
 unfold zbd at hx
 simp only [lM,dD,beq_iff_eq,bne_iff_ne] at hx
 obtain ⟨D,E,F⟩:=hx
 refine ⟨q,r,by simp,by simp;omega,zW4 u,?_,?_⟩
 ·unfold zHa
  rw [lR]
  intro i hi
  simp only [jN,eR,cP,eK] at hi
  by_cases e:i<f.Nodes.length
  ·have hx:=zAW e
   rw [lN e,lC e]
   exact zbi (zBc o hx)
  ·obtain rfl:i=f.Nodes.length:=by omega
   rw [List.getElem?_append_right (by omega),Nat.sub_self]
   show zFb _ _ (zZX f x)=true
   unfold zFb
   simp only [lM]
   refine ⟨D,?_,rfl,?_,?_,rfl⟩
   ·unfold zL2 zZX
    simp only [lM,dD,beq_iff_eq,bne_iff_ne]
    by_cases hk:x.Kind=0
    ·rw [iP hk]
     refine ⟨?_,.inr rfl⟩
     unfold isB
     rw [zX6]
     simpa using hk
    ·rw [iN hk]
     exact ⟨zW4 (F.resolve_left hk),.inl hk⟩
   ·unfold zEV zZX zBH
    simp
   ·unfold zN2 zZX
    rw [iN E];rfl
 ·unfold zPS
  rw [lR]
  intro i hi
  simp only [jN,eR,cP,eK] at hi
  rw [show (f.Nodes++[zZX f x]).length=f.Nodes.length+1 by simp]
  by_cases e:i<f.Nodes.length
  ·have d:InN f.Nodes (i:Int):=⟨by omega,by omega⟩
   exact zLj _ _ (zSn (zK6 o) _ _ d (zNz B d))
  ·obtain rfl:i=f.Nodes.length:=by omega
   rw [zBb,dD]
   refine .inl ?_
   unfold upI
   rw [zX6];rfl
theorem zWa {fu:Nat} (h:l.length<=1000):zAf fu l=some l:=by
 unfold zAf
 rw [zAg (by simp;omega),zAA,iU]
theorem zJl {fu:Nat} {l:List Node} (h:l.length<=1000):zAr fu l=some l:=by
 unfold zAr
 rw [zAg (by simp;omega),zAA,iU]
theorem zbV {f:Forest} {fu:Nat} {x:Node} (hfu:1000<fu) (hk:zEb fu f.Nodes) (ha:x.Attrs.length<=1000):zDJ fu f x=some (if zAF f=true/\zbd f x=true then (if (f.Nodes.length:Int)=f.Most then (f,-1,8) else (⟨f.Nodes++[zZX f x],f.Most⟩,(f.Nodes.length:Int),0)) else (f,-1,1)):=by
 have q:∀d:Int,d=(if x.Kind=0 then (f.Nodes.length:Int) else x.Doc)->zGW fu f x ⟨x.Kind,[],[],[],[],-1,[],-1,-1,x.Doc⟩ d=some (if zAF f=true/\zbd f x=true then (if (f.Nodes.length:Int)=f.Most then (f,-1,8) else (⟨f.Nodes++[zZX f x],f.Most⟩,(f.Nodes.length:Int),0)) else (f,-1,1)):=fun d B=>by
  unfold zGW
  rw [zWa ha,zAA,zSF (v:=⟨⟨f.Nodes,f.Most⟩⟩) hfu hk,zAA]
  cases hr:zAF f with
  | false=>rw [iN (by simp)];rfl
  | true =>
   have D:=(zAa hr).2.1
   rw [iA,zAG,zS3 (by omega),zAA]
   have G:(⟨x.Kind,x.Name,x.Is,x.Data,x.Attrs,-1,[],-1,-1,d⟩:Node)=zZX f x:=by rw [B];rfl
   simp only
   rw [G]
   have o:zbd f x=(zHZ (zZX f x)&&(x.Kind != 4&&(x.Kind==0||isB f.Nodes x.Doc 0))):=rfl
   cases E:zHZ (zZX f x) with
   | false =>
    rw [E] at o
    rw [iN (fun h=>by rw [o] at h;exact absurd h.2 (by simp))];rfl
   | true =>
    rw [E,iB] at o
    rw [iA,zAG,zAj,zJl (by omega),zAA,zAg (by simp;omega),zAA]
    by_cases r:x.Kind=4
    ·rw [iP r,iN (fun h=>by rw [o] at h;exact absurd h.2 (by simp [r]))]
    ·have F:(x.Kind != 4)=true:=bne_iff_ne.2 r
     rw [F,iB] at o
     rw [iN r,zAi,zAj]
     by_cases e:x.Kind=0
     ·have u:zbd f x=true:=by rw [o,e];rfl
      rw [iP e,iP (show True/\zbd f x=true from ⟨trivial,u⟩)]
      split<;>rfl
     ·have u:(x.Kind==0)=false:=beq_eq_false_iff_ne.2 e
      rw [u,e9] at o
      rw [iN e,zdj,zAA]
      simp only
      rw [B,iN e]
      cases hi:isB f.Nodes x.Doc 0 with
      | false=>rw [jK,zAO,iN (show ¬(True/\zbd f x=true) from fun h=>by rw [o,hi] at h;exact absurd h.2 (by simp))]
      | true =>
       rw [iA,zAG,iP (show True/\zbd f x=true from ⟨trivial,o.trans hi⟩)]
       split<;>rfl
 unfold zDJ zI3
 rw [zAA,zAj]
 by_cases e:x.Kind=0
 ·rw [iP e];exact q _ (by rw [iP e])
 ·rw [iN e];exact q _ (by rw [iN e])
end
section
theorem zVe {x:Node} (h:zHZ x=true):x.Attrs.length<=40/\x.Name.length<=40:=by
 unfold zHZ at h
 split at h
 ·simp only [lM] at h
  have d:=h.2.2.2
  unfold zGu at d
  simp only [lM,decide_eq_true_eq] at d
  have e:=h.1
  unfold zWw zFg at e
  simp only [lM,decide_eq_true_eq] at e
  exact ⟨d.1,e.1.1.1.2⟩
 ·split at h
  ·simp only [lM,beq_iff_eq,decide_eq_true_eq] at h
   exact ⟨by omega,by rw [h.2.1];simp⟩
  ·split at h
   ·simp only [lM,beq_iff_eq,decide_eq_true_eq] at h
    exact ⟨by omega,by rw [h.1];simp⟩
   ·cases h
theorem zAH {f:Forest} (hr:zAF f=true):Small f:=by
 have h:=zAa hr
 have at_:∀x∈f.Nodes,x.Kids.length<=400/\x.Attrs.length<=40/\x.Name.length<=40:=fun x hx=>by
  obtain ⟨i,hi,e⟩:=iW hx
  have d:idx f.Nodes (i:Int)=some x:=by rw [zAW hi,e]
  have o:=zBc h.2.2.1 d
  unfold zFb at o
  simp only [lM] at o
  have q:=o.2.2.2.1
  unfold zEV at q
  simp only [lM,decide_eq_true_eq] at q
  have:=zMf f.Nodes.length x.Kids q.1 fun k hk=>by
   obtain ⟨y,hy⟩:=zJG h.2.2.1 d k hk
   exact zAK hy
  have r:=zVe o.1
  exact ⟨by omega,r⟩
 exact ⟨h.2.1,fun x hx=>(at_ x hx).1,fun x hx=>by have:=(at_ x hx).2.1;omega,fun x hx=>by have:=(at_ x hx).2.2;omega⟩
def zJH (ns:List Node):List (Node×Bool):=ns.map fun x=>(x,true)
theorem zLo (ns:List Node):(zJH ns).map Prod.fst=ns:=by simp [zJH,Function.comp_def]
theorem zd4 {ns:List Node} {n:Int}:idx (zJH ns) n=(idx ns n).map fun x=>(x,true):=by
 unfold idx zJH
 split<;>simp
theorem zGS {ns:List Node} {n:Int} {x:Node} (h:idx ns n=some x):idx (zJH ns) n=some (x,true):=by rw [zd4,h];rfl
theorem zM6 {ns:List Node} {x:Node}:(zJH ns).set i (x,true)=zJH (ns.set i x):=by unfold zJH;rw [dK]
theorem zVH {fu:Nat} {l:List Int} (h:l.length<=1000000):zBZ fu l=some l:=by
 unfold zBZ
 rw [zAg (by simp;omega),zAA,iU]
theorem zTA {f:Forest} {fu:Nat} (hs:Small f) (hfu:1000<fu):zKj fu f=some ((),f.Most,zJH f.Nodes,[]):=by
 have r:=hs.few
 unfold zKj
 rw [zJl (by omega),zAA]
 have q:(f.Nodes.map fun x=>(x,false)).length=f.Nodes.length:=by simp
 have:=upf (L:=zHq fu f f.Nodes) (f:=fun i=>((i:Int),mix (fun p:Node×Bool=>(p.1,true)) (f.Nodes.map fun x=>(x,false)) i)) (v:=some ((),f.Most,zJH f.Nodes,[])) f.Nodes.length (fun i hi k=>?_) (fun k=>?_) (show f.Nodes.length<fu by omega)
 ·rw [zYG] at this
  exact this
 ·have o:i<(f.Nodes.map fun x=>(x,false)).length:=by rw [q];exact hi
  have hm:=zbZ (fun p:Node×Bool=>(p.1,true)) o
  simp only [zHq]
  rw [zAT (by simpa using hi),hm,zAA,jO]
  rw [show zPy (f.Nodes[i],false).2=some () from rfl,zAA,zVH (by have:=hs.kids _ (gC hi);simp only;omega),zAA,zAA,zBO (by omega),zAA]
  have d:=zUG (fun p:Node×Bool=>(p.1,true)) o
  rw [jO] at d
  rw [<- d]
 ·simp only [zHq]
  rw [zAS (by simp)]
  have e:=zba (fun p:Node×Bool=>(p.1,true)) (f.Nodes.map fun x=>(x,false))
  rw [q] at e
  rw [e,iZ]
  rfl
def zK8 (x:Note) (k:Int):Note:=⟨x.Kind,k,x.From,x.To,x.Name,x.Had,x.Has,x.Old,x.New⟩
theorem tell_l {fu:Nat} {x:Note} {ks:List Int} {l:List Note} {c:Int} (e:ks.length<fu) (o:l.length+ks.length<=1000000000):zCr x ks fu (0,c,l)=some (l++ks.map (zK8 x)):=by
 have:=upf (L:=zCr x ks) (f:=fun i=>((i:Int),(ks.take i).getLastD c,l++(ks.take i).map (zK8 x))) (v:=some (l++ks.map (zK8 x))) ks.length (fun i hi k=>?_) (fun k=>?_) e
 ·simpa using this
 ·simp only [zCr]
  rw [zAT (by simpa using hi),zAW hi,zAA,zAg (by simp;omega),zAA,zBO (by omega),zAA]
  have d:(ks.take (i+1)).getLastD c=ks[i]:=by rw [iD hi,List.getLastD_concat]
  rw [d,iD hi,gG,<- eS]
  rfl
 ·simp only [zCr]
  rw [zAS (by simp),iG]
def zPz (f:Forest) (n:Int):List Int:=if zAF f=true then zL0 f.Nodes n else []
theorem zar {f:Forest} {fu:Nat} {n:Int} (hk:zEb fu f.Nodes) (hfu:1000<fu) (d:InN f.Nodes n):zF6 fu f n=some (zPz f n):=by
 unfold zPz
 by_cases hr:zAF f=true
 ·rw [iP hr];exact zc6 (zAH hr) hfu hr d
 ·rw [iN hr]
  unfold zF6 zDl
  rw [sh_no1 hfu hk (.inl (by simpa using hr)),zAA,jK,zAO,zAA,zSr (p:=fun _=>true) (fun x hx=>by cases hx) (by simp;omega) (by simp),zAA]
  rfl
theorem zSt {f:Forest} {n:Int} (d:InN f.Nodes n):(zPz f n).length<=400:=by
 unfold zPz
 by_cases hr:zAF f=true
 ·rw [iP hr]
  have:=(zAL hr).all_len d
  have e:(zL0 f.Nodes n).length<=(zIG f.Nodes n).length:=iT _ _
  have:=(zAa hr).2.1
  omega
 ·rw [iN hr];simp
theorem zUi {f:Forest} {fu:Nat} {n:Int} {x:Note} {l:List Note} (hk:zEb fu f.Nodes) (hfu:1000<fu) (d:InN f.Nodes n) (e:l.length<=500000000):zEA fu n x f.Most (zJH f.Nodes) l=some (l++(zPz f n).map (zK8 x)):=by
 unfold zEA
 rw [zLo,zar hk hfu d,zAA]
 have:=zSt d
 exact tell_l (by omega) (by omega)
theorem zTL {fu:Nat} {l:List Int} {n:Int} (d:l.length<fu) (e:l.length<=1000000):zC0 fu n l=some (za2 l n):=by
 unfold zC0
 refine zYq (L:=zBz n l) l n (fun i hi k=>?_) (fun k=>?_) d
 ·simp only [zBz]
  rw [zAT (by simpa using hi),zAW hi,zAA,zBO (by omega),zAA,zAj]
  by_cases h:l[i]=n
  ·rw [iP h.symm,iP h]
  ·rw [iN (Ne.symm h),iN h]
 ·simp only [zBz];rw [zAS (by simp)]
theorem del_ok {fu:Nat} {l:List Int} (h:i<l.length):zFH fu (i:Int) ((i+1:Nat):Int) l=some (l.eraseIdx i):=by
 have d:(zOf l i (i+1)).length=l.length:=by
  unfold zOf
  simp only [eR,cR,iI]
  omega
 have e:((i:Int)).toNat=i:=by omega
 have o:(((i+1:Nat):Int)).toNat=i+1:=by omega
 have q:((l.length:Int)).toNat=l.length:=by omega
 have r:(((i+(l.length - (i+1)):Nat):Int)).toNat=i+(l.length - (i+1)):=by omega
 unfold zFH
 rw [e,o,q,r]
 rw [show cut3 l.length (i:Int) ((i+1:Nat):Int) (l.length:Int)=some () from iP ⟨by omega,by omega,by omega,by omega⟩,zAA,zAj,iN (by omega)]
 rw [show zNZ l.length 0 (i:Int)=some () from iP ⟨by omega,by omega,by omega⟩,zAA,show zNZ l.length ((i+1:Nat):Int) (l.length:Int)=some () from iP ⟨by omega,by omega,by omega⟩,zAA]
 rw [show delB l.length i (i+1) l.length=some () from iP ⟨by omega,by omega,rfl⟩,zAA,d]
 rw [show zNZ l.length ((i+(l.length - (i+1)):Nat):Int) (l.length:Int)=some () from iP ⟨by omega,by omega,by omega⟩,zAA]
 rw [show ze8 l.length (i+(l.length - (i+1))) l.length=some () from iP ⟨by omega,rfl⟩,zAA]
 have u:(zPw (zOf l i (i+1)) (i+(l.length - (i+1))) (0:Int)).length=l.length:=by
  unfold zPw
  simp only [eR,cR,kE,d]
  omega
 rw [u,show zZl l.length (i+(l.length - (i+1)))=some () from iP (by omega),zAA]
 congr 1
 unfold zPw zOf
 rw [iV (by simp only [cR,eR,iI];omega),jH,jI,iV (by simp only [cR,eR,iI];omega),kF,kG (by simp only [cR,eR,iI];omega)]
theorem zVP {l:List Int} {n:Int} (d:l.Nodup):l.eraseIdx (l.idxOf n)=l.filter fun k=>k != n:=by
 rw [<- List.erase_eq_eraseIdx_of_idxOf rfl,d.erase_eq_filter]
def zKY (ns:List Node) (n:Int):List Node:=match idx ns n with
 | some z=>if z.Parent = -1 then ns else (match idx ns z.Parent with
  | some y=>(ns.set z.Parent.toNat (zN4 y n)).set n.toNat (zMe z)
  | none=>ns)
 | none=>ns
def zF1 (f:Forest) (n:Int):List Note:=if zHB f.Nodes n ≠ -1/\zEi f.Nodes n=true then (zL0 f.Nodes n).map (zK8 ⟨2,0,0,0,[],false,false,[],[]⟩) else []
theorem zFu {f:Forest} (hr:zAF f=true) {n:Int} {z:Node} (hz:idx f.Nodes n=some z) (r:z.Parent ≠ -1):∃y,Hung f n z.Parent z y:=by
 have q:=(zAa hr).2.2.1
 have o:=zBc q hz
 unfold zFb zK0 at o
 simp only [lM,dD,beq_iff_eq] at o
 obtain ⟨_,d⟩:=o.2.2.1.resolve_left r
 cases hy:idx f.Nodes z.Parent with
 | none=>rw [hy] at d;cases d
 | some y =>
  rw [hy] at d
  simp only [lM] at d
  have hm:=e7.1 d.2
  obtain ⟨u,H⟩:=zgL hr hy hm
  have e:=H.hz
  rw [hz] at e
  obtain rfl:=lJ.inj e
  exact ⟨y,H⟩
theorem zLm {ns:List Node} {n:Int} {z:Node} (hz:idx ns n=some z) (d:z.Parent = -1):zKY ns n=ns:=by unfold zKY;rw [hz];simp only;rw [iP d]
theorem zLA {f:Forest} {n:Int} {z y:Node} (H:Hung f n z.Parent z y) (d:z.Parent ≠ -1):zKY f.Nodes n=(zL1 f n z.Parent z y).Nodes:=by
 unfold zKY zL1
 rw [H.hz]
 simp only
 rw [iN d,H.hy]
theorem zQo (ns:List Node) (n:Int):(zKY ns n).length=ns.length:=by
 unfold zKY
 split
 ·split
  ·rfl
  ·split<;>simp
 ·rfl
theorem zLB {f:Forest} (hr:zAF f=true) {n:Int} (e:InN f.Nodes n):zAF ⟨zKY f.Nodes n,f.Most⟩=true:=by
 obtain ⟨z,hz⟩:=zAJ e
 by_cases d:z.Parent = -1
 ·rw [zLm hz d];exact hr
 ·obtain ⟨y,H⟩:=zFu hr hz d
  rw [zLA H d]
  exact zOw H hr
theorem zJo {f:Forest} {n:Int} (hr:zAF f=true) (d:InN f.Nodes n):(zF1 f n).length<=400:=by
 unfold zF1
 split
 ·have:=(zAL hr).all_len d
  have e:(zL0 f.Nodes n).length<=(zIG f.Nodes n).length:=iT _ _
  have:=(zAa hr).2.1
  simp only [lL]
  omega
 ·simp
theorem zUK {f:Forest} {fu:Nat} {n:Int} {l:List Note} (hr:zAF f=true) (hfu:1000<fu) (r:InN f.Nodes n) (J:l.length<=500000000):zDi fu n f.Most (zJH f.Nodes) l=some (zJH (zKY f.Nodes n),l++zF1 f n):=by
 have hs:=zAH hr
 obtain ⟨z,hz⟩:=zAJ r
 unfold zDi
 rw [zGS hz,zAA,zAj]
 by_cases d:z.Parent = -1
 ·rw [iP d,zLm hz d]
  unfold zF1
  rw [iN (by rw [zIy hz];exact fun h=>h.1 d),gI]
 ·rw [iN d,zLo,zQw hs hfu hr r,zAA]
  obtain ⟨y,H⟩:=zFu hr hz d
  have hk:=hs.kids y (zEw H.hy)
  have o:=zBc (zAa hr).2.2.1 H.hy
  unfold zFb zEV at o
  simp only [lM,decide_eq_true_eq] at o
  have u:y.Kids.Nodup:=o.2.2.2.1.1
  obtain ⟨G,I⟩:=zQg H.mem
  have B:=zAK H.hy
  have q:∀E,zFS fu n (zJH f.Nodes) (z,true) E=some (zJH (zKY f.Nodes n),E):=fun E=>by
   unfold zFS
   rw [zGS H.hy,zAA,show zSd (y,true).2=some () from rfl,zAA,zTL (by simp only;omega) (by simp only;omega),zAA,zAA]
   simp only
   rw [G,zBO (by omega),zAA,del_ok I,zAA,zVP u,zAA,zM6]
   have D:idx (f.Nodes.set z.Parent.toNat (zN4 y n)) n=some z:=by rw [zJh B.1 H.ne,hz]
   have e:(⟨y.Kind,y.Name,y.Is,y.Data,y.Attrs,y.Parent,y.Kids.filter (fun k=>k != n),y.Host,y.Under,y.Doc⟩:Node)=zN4 y n:=rfl
   rw [e,zGS D,zAA]
   simp only
   rw [zM6,zLA H d]
   rfl
  cases F:zEi f.Nodes n with
  | false =>
   rw [zAG,q]
   unfold zF1
   rw [iN (by rw [F];simp),gI]
  | true =>
   rw [zAO,zUi (hs.fit hfu) hfu r J,zAA,q]
   unfold zF1 zPz
   rw [iP hr,iP ⟨by rw [zIy hz];exact d,F⟩]
end
section
theorem zSZ {o:Type} {l:List α} {f g : α -> List o} (h:∀a∈l,f a=g a):l.flatMap f=l.flatMap g:=by
 induction l with
 | nil=>rfl
 | cons a l e=>rw [iR,iR,h a (lH ..),e fun b d=>h b (lG _ d)]
section
variable {f:Forest} (hr:zAF f=true)
include hr
theorem zXD {n:Int} {z:Node} (hz:idx f.Nodes n=some z):n∉z.Kids:=fun h=>zfG hr hz h rfl
omit hr in
theorem zXz {l:List Int} {n:Int} (h:n∉l):l.filter (fun k => !(([n]:List Int).contains k))=l:=by
 rw [jL]
 intro a e
 have:([n]:List Int).contains a=false:=by
  rw [iJ]
  intro d
  rw [e7,e8] at d
  exact h (d▸e)
 rw [this];rfl
theorem zUL {n:Int} (B:InN f.Nodes n):At f.Nodes (zKY f.Nodes n) (zUr [n]):=by
 obtain ⟨z,hz⟩:=zAJ B
 have d:∀j,([n]:List Int).contains j=true↔j=n:=fun j=>by rw [e7,e8]
 refine ⟨zQo _ _,fun j w o=>?_⟩
 by_cases u:z.Parent = -1
 ·rw [zLm hz u,o]
  have hk:n∉w.Kids:=fun h=>by
   have:=zN3 hr o hz h
   have:=zAK o
   omega
  unfold zUr
  rw [zXz hk]
  by_cases q:j=n
  ·subst q
   rw [hz] at o
   obtain rfl:=lJ.inj o
   rw [iP ((d j).2 rfl),<- u]
  ·rw [iN fun h=>q ((d j).1 h)]
 ·obtain ⟨y,H⟩:=zFu hr hz u
  rw [zLA H u]
  by_cases q:j=n
  ·subst q
   rw [hz] at o
   obtain rfl:=lJ.inj o
   rw [zOv H]
   unfold zUr zMe
   rw [iP ((d j).2 rfl),zXz (zXD hr hz)]
  ·by_cases r:j=z.Parent
   ·subst r
    have e:=H.hy
    rw [o] at e
    obtain rfl:=lJ.inj e
    rw [zHA H]
    unfold zUr zN4
    rw [iN fun h=>q ((d _).1 h)]
    congr 2
    refine List.filter_congr fun k _=>?_
    rw [eW,bne_iff_ne,gM,iJ]
    exact not_congr (d k).symm
   ·rw [zMg H q r,o]
    have hk:n∉w.Kids:=fun h=>r (zN3 hr o hz h).symm
    unfold zUr
    rw [zXz hk,iN fun h=>q ((d j).1 h)]
theorem zgZ {n:Int} (r:InN f.Nodes n) (q:InN f.Nodes j) (hk:∀z,idx f.Nodes n=some z->z.Kind=1\/z.Kind=2):upI (zKY f.Nodes n) j=if j=n then -1 else upI f.Nodes j:=by
 obtain ⟨z,hz⟩:=zAJ r
 by_cases d:z.Parent = -1
 ·rw [zLm hz d]
  by_cases e:j=n
  ·subst e
   rw [iP rfl,zGg hz,iP d]
   by_cases o:z.Host = -1
   ·exact o
   ·obtain ⟨_,_,_,_,_,u⟩:=zRi (zAa hr).2.2.1 hz o
    have:=hk z hz
    omega
  ·rw [iN e]
 ·obtain ⟨y,H⟩:=zFu hr hz d
  rw [zLA H d]
  exact zbl H hr q
theorem zd0 {n:Int} (q:InN f.Nodes n):zIG (zKY f.Nodes n) n=zIG f.Nodes n:=by
 have U:=zAL hr
 have V:=zAL (f:=⟨zKY f.Nodes n,f.Most⟩) (zLB hr q)
 have E:=zUL hr q
 have u:∀{j},InN f.Nodes j->InN (zKY f.Nodes n) j:=fun h=>by unfold InN at h ⊢;rw [zQo];exact h
 have B:∀j,InN f.Nodes j->n∈zGL f.Nodes j->zIG (zKY f.Nodes n) j=zIG f.Nodes j:=U.down_ind fun j e I D=>by
  obtain ⟨w,d⟩:=zAJ e
  have hk:n∉w.Kids:=fun h=>by
   obtain ⟨z,hz⟩:=zAJ q
   have r:n∈zQT f.Nodes j:=by rw [zO3 d];exact cA.2 (.inr h)
   have F:=U.wayU_kid r
   have G:j∈zGL f.Nodes n:=by rw [F];exact lG _ (U.wayU_self e)
   exact zfG hr d h (U.wayU_anti e D G)
  have hs:zQT (zKY f.Nodes n) j=zQT f.Nodes j:=by
   rw [zO3 d,zO3 (E.at_ j w d)]
   unfold zUr
   rw [zXz hk]
  rw [V.all_eq (u e),U.all_eq e,hs]
  congr 1
  refine zSZ fun k o=>I k o ?_
  rw [U.wayU_kid o]
  exact lG _ D
 exact B n q (U.wayU_self q)
end
def zZH (ns:List Node) (A:List Int) (d:Int):List Node:=A.foldl (fun m a=>match idx m a with
 | some w=>m.set a.toNat ⟨w.Kind,w.Name,w.Is,w.Data,w.Attrs,w.Parent,w.Kids,w.Host,w.Under,d⟩
 | none=>m) ns
theorem zVJ (ns:List Node) (A:List Int) (a d:Int):zZH ns (A++[a]) d=(match idx (zZH ns A d) a with
 | some w=>(zZH ns A d).set a.toNat ⟨w.Kind,w.Name,w.Is,w.Data,w.Attrs,w.Parent,w.Kids,w.Host,w.Under,d⟩
 | none=>zZH ns A d):=by unfold zZH;rw [List.foldl_append];rfl
theorem zaj {b:List Node} (H:At a b h) {A:List Int} {d:Int} (B:∀x∈A,InN a x):∀i,i<=A.length->At a (zZH b (A.take i) d) (zfA (A.take i) d h):=by
 intro i
 induction i with
 | zero =>
  intro _
  refine (show At a (zZH b (A.take 0) d) h from by simpa [zZH] using H).congr fun j w _=>?_
  simp [zfA]
 | succ i r =>
  intro hi
  have o:i<A.length:=by omega
  have r:=r (by omega)
  have hx:=B _ (gC o)
  obtain ⟨w0,q⟩:=zAJ hx
  rw [iD o,zVJ,r.at_ _ w0 q]
  simp only
  refine (r.set hx _).congr fun j w u=>?_
  by_cases e:j=A[i]
  ·subst e
   rw [q] at u
   obtain rfl:=lJ.inj u
   have D:(A.take i++[A[i]]).contains A[i]=true:=by rw [zOe];simp
   rw [iP rfl]
   simp only [zfA,D,↓reduceIte]
  ·rw [iN e]
   unfold zfA
   have:(A.take i++[A[i]]).contains j=(A.take i).contains j:=by rw [zOe,beq_eq_false_iff_ne.2 e,Bool.or_false]
   rw [this]
theorem zak {b:List Node} (H:At a b h) {A:List Int} {d:Int} (e:∀x∈A,InN a x):At a (zZH b A d) (zfA A d h):=by
 have:=zaj H e (d:=d) A.length (cB _)
 rwa [iG] at this
def zYH (e d:Int):Note:=⟨3,0,e,d,[],false,false,[],[]⟩
def zMC (ns:List Node) (n:Int):Int:=match idx ns n with
 | some x=>x.Doc
 | none=>0
theorem zMw {ns:List Node} {n:Int} {x:Node} (h:idx ns n=some x):zMC ns n=x.Doc:=by unfold zMC;rw [h]
def zLn (f:Forest) (n d:Int):List Node:=if zMC f.Nodes n=d then zKY f.Nodes n else zZH (zKY f.Nodes n) (zIG f.Nodes n) d
def zOx (f:Forest) (n d:Int):List Note:=if zMC f.Nodes n=d then [] else (zPz ⟨zLn f n d,f.Most⟩ n).map (zK8 (zYH (zMC f.Nodes n) d))
def zCR (f:Forest) (n d:Int):Int->Node->Node:=if zMC f.Nodes n=d then zUr [n] else zfA (zIG f.Nodes n) d (zUr [n])
theorem At.kids {b:List Node} (H:At a b h) {N:Nat} (hk:∀x∈a,x.Kids.length<=N) (r:∀j w,idx a j=some w->(h j w).Kids.length<=w.Kids.length):∀x∈b,x.Kids.length<=N:=fun x hx=>by
 obtain ⟨i,hi,e⟩:=iW hx
 have d:i<a.length:=by rw [<- H.len];exact hi
 have o:idx a (i:Int)=some a[i]:=zAW d
 have q:=H.at_ _ _ o
 rw [zAW hi,e] at q
 obtain rfl:=lJ.inj q
 exact eM (r _ _ o) (hk _ (gC d))
theorem zS8 (f:Forest) (n d j:Int) (w:Node):(zCR f n d j w).Kids=w.Kids.filter (fun k => !(([n]:List Int).contains k)):=by
 unfold zCR
 split<;>rfl
theorem zUN {f:Forest} {fu:Nat} {n d:Int} {l:List Note} (hr:zAF f=true) (hfu:1000<fu) (e:InN f.Nodes n) (hl:l.length<=400000000):At f.Nodes (zLn f n d) (zCR f n d)/\(zOx f n d).length<=400/\zGk fu n d f.Most (zJH f.Nodes) l=some (zJH (zLn f n d),l++zF1 f n++zOx f n d):=by
 have hs:=zAH hr
 have D:=zLB hr e
 have Q:=zAH D
 have E:=zUL hr e
 have N:InN (zKY f.Nodes n) n:=by unfold InN at e ⊢;rw [zQo];exact e
 obtain ⟨z,hz⟩:=zAJ e
 have V:=E.at_ n z hz
 have hwl:=zJo hr e
 unfold zGk
 rw [zUK hr hfu e (by omega),zAA,zGS V,zAA,zAj]
 have q:(zUr [n] n z).Doc=zMC f.Nodes n:=by rw [zMw hz];rfl
 simp only [q]
 by_cases o:zMC f.Nodes n=d
 ·rw [iP o]
  unfold zLn zCR zOx
  rw [iP o,iP o,iP o,gI]
  exact ⟨E,by simp,rfl⟩
 ·rw [iN o,zLo,zXf (f:=⟨zKY f.Nodes n,f.Most⟩) Q hfu D N,zAA]
  have J:∀x∈zIG f.Nodes n,InN f.Nodes x:=fun x hx=>((zAL hr).all_in n e x hx).1
  have I:=zak E (d:=d) J
  have G:(zIG f.Nodes n).length<=400:=by
   have:=(zAL hr).all_len e
   have:=(zAa hr).2.1
   omega
  have F:zLn f n d=zZH (zKY f.Nodes n) (zIG f.Nodes n) d:=by unfold zLn;rw [iN o]
  have eN:zCR f n d=zfA (zIG f.Nodes n) d (zUr [n]):=by unfold zCR;rw [iN o]
  have r:zEb fu (zLn f n d):=fun x hx=>by
   have:=At.kids I hs.kids (fun j w _=>by simp only [zfA,zUr];exact iT _ _) x (by rw [<- F];exact hx)
   omega
  have B:InN (zLn f n d) n:=by
   unfold InN at e ⊢
   rw [F,I.len]
   exact e
  have u:(zOx f n d).length<=400:=by
   unfold zOx
   rw [iN o,lL]
   exact zSt (f:=⟨zLn f n d,f.Most⟩) B
  refine ⟨by rw [F,eN];exact I,u,?_⟩
  rw [zd0 hr e]
  have:=upf (L:=zDX fu n d f.Most (zJH (zKY f.Nodes n),l++zF1 f n) (zUr [n] n z,true) (zIG f.Nodes n)) (f:=fun i=>((i:Int),zJH (zZH (zKY f.Nodes n) ((zIG f.Nodes n).take i) d))) (v:=some (zJH (zLn f n d),l++zF1 f n++zOx f n d)) (zIG f.Nodes n).length (fun i hi k=>?_) (fun k=>?_) (show (zIG f.Nodes n).length<fu by omega)
  ·simpa [zZH] using this
  ·have hx:=J _ (gC hi)
   obtain ⟨w0,S⟩:=zAJ hx
   have W:=(zaj E J (d:=d) i (by omega)).at_ _ _ S
   simp only [zDX]
   rw [zAT (by simpa using hi),zAW hi,zAA,zGS W,zAA,zBO (by omega),zAA,iD hi,zVJ,W,zM6]
  ·simp only [zDX]
   rw [zAS (by simp),iG,<- F]
   have:=zUi (f:=⟨zLn f n d,f.Most⟩) (x:=zYH (zMC f.Nodes n) d) (l:=l++zF1 f n) r hfu B (by simp only [eR];omega)
   have X:(⟨3,0,(zUr [n] n z,true).1.Doc,d,[],false,false,[],[]⟩:Note)=zYH (zMC f.Nodes n) d:=by rw [<- q];rfl
   rw [X]
   rw [this,zAA]
   unfold zOx
   rw [iN o]
theorem zdQ {f:Forest} (hr:zAF f=true):∀j,InN f.Nodes j->∀a∈zGL f.Nodes j,zMC f.Nodes a=zMC f.Nodes j:=(zAL hr).up_ind fun j G V a d=>by
 have U:=zAL hr
 have B:=(zAa hr).2.2.1
 rw [U.wayU_eq G] at d
 rcases lD.1 d with e | d
 ·rw [e]
 ·by_cases E:upI f.Nodes j = -1
  ·rw [iP E] at d;cases d
  ·rw [iN E] at d
   rw [V E a d]
   obtain ⟨w,r⟩:=zAJ G
   obtain ⟨J,Q⟩:=U.par j G E
   obtain ⟨q,D⟩:=zAJ J
   rw [zMw r,zMw D]
   by_cases I:w.Parent = -1
   ·have F:upI f.Nodes j=w.Host:=by rw [zGg r,iP I]
    obtain ⟨u,N,_,_,S,_⟩:=zRi B r (by rw [<- F];exact E)
    rw [F] at D
    rw [D] at N
    obtain rfl:=lJ.inj N
    exact S
   ·have F:upI f.Nodes j=w.Parent:=by rw [zGg r,iN I]
    obtain ⟨y,H⟩:=zFu hr r I
    have o:=zBc B H.hy
    unfold zFb zEV at o
    simp only [lM,lR] at o
    have hk:=o.2.2.2.1.2.1 j H.mem
    unfold zOo at hk
    rw [r] at hk
    simp only [lM,beq_iff_eq] at hk
    rw [F,H.hy] at D
    obtain rfl:=lJ.inj D
    exact hk.2.1.symm
def zMl (w:Node) (K:List Int):Node:=⟨w.Kind,w.Name,w.Is,w.Data,w.Attrs,w.Parent,K,w.Host,w.Under,w.Doc⟩
def zZM (l:List Int) (b k:Int):List Int:=zWL l (if b = -1 then l.length else l.idxOf b) [k]
def zKd (f:Forest) (k p b:Int):List Node:=match idx f.Nodes p with
 | some y=>(match idx (zLn f k y.Doc) p with
  | some d=>(match idx ((zLn f k y.Doc).set p.toNat (zMl d (zZM d.Kids b k))) k with
   | some e=>((zLn f k y.Doc).set p.toNat (zMl d (zZM d.Kids b k))).set k.toNat (zTM e p)
   | none=>f.Nodes)
  | none=>f.Nodes)
 | none=>f.Nodes
def zVE (g:Forest) (k:Int):List Note:=if zEi g.Nodes k=true then (zL0 g.Nodes k).map (zK8 ⟨1,0,0,0,[],false,false,[],[]⟩) else []
def zZz (f:Forest) (k p b:Int):List Note:=zF1 f k++zOx f k (zMC f.Nodes p)++zVE ⟨zKd f k p b,f.Most⟩ k
structure Part (f:Forest) (k p b:Int) (z y:Node):Prop where
 hz:idx f.Nodes k=some z
 hy:idx f.Nodes p=some y
 kind:z.Kind=1\/z.Kind=2
 holder:zGP y.Kind=true
 free:k∉zGL f.Nodes p
 bef:b = -1\/b∈y.Kids
 bk:b≠k
 crowd:y.Kind=0->zGI f.Nodes p (-1) [k]=false
theorem zbA (l:List Int) (i:Nat) (k:Int):(zWL l i [k]).Perm (l++[k]):=by
 unfold zWL
 have d:(l.take i++[k]++l.drop i).Perm (l.take i++(l.drop i++[k])):=by
  rw [eS]
  exact List.Perm.append_left _ List.perm_append_comm
 refine d.trans ?_
 rw [<- eS,jS]
section
variable {f:Forest} {k p b:Int} {z y:Node} (hr:zAF f=true) (P:Part f k p b z y)
include P
theorem Part.parts:zAU k z=[k]:=by
 unfold zAU
 have:=P.kind
 rw [iN (by omega)]
theorem Part.may:May f k p z y where
 hx:=P.hz
 hy:=P.hy
 holder:=P.holder
 over:=by
  rw [iJ]
  exact fun h=>P.free (zLC.1 h)
 k0:=by have:=P.kind;omega
 k4:=by have:=P.kind;omega
 crowd h:=by rw [P.parts];exact P.crowd h
include hr
theorem Part.ne:k≠p:=fun e=>P.free (by rw [<- e];exact (zAL hr).wayU_self (zAK P.hz))
theorem zSA {fu:Nat} (hfu:1000<fu):At f.Nodes (zKd f k p b) (zgF f [k] p y.Doc (zZM (y.Kids.filter (fun c => !(([k]:List Int).contains c))) b k) [k])/\idx (zLn f k y.Doc) p=some (zCR f k y.Doc p y)/\zKd f k p b=((zLn f k y.Doc).set p.toNat (zMl (zCR f k y.Doc p y) (zZM (zCR f k y.Doc p y).Kids b k))).set k.toNat (zTM (zCR f k y.Doc k z) p)/\idx ((zLn f k y.Doc).set p.toNat (zMl (zCR f k y.Doc p y) (zZM (zCR f k y.Doc p y).Kids b k))) k=some (zCR f k y.Doc k z):=by
 have U:=zAL hr
 have D:=P.ne hr
 have hk:InN f.Nodes k:=zAK P.hz
 have hp:InN f.Nodes p:=zAK P.hy
 have HO:=(zUN (l:=[]) (d:=y.Doc) hr hfu hk (by simp)).1
 have h1:=HO.at_ p y P.hy
 have H1:=HO.set hp (zMl (zCR f k y.Doc p y) (zZM (zCR f k y.Doc p y).Kids b k))
 have I:=H1.at_ k z P.hz
 rw [iN D] at I
 have H2:=H1.set hk (zTM (zCR f k y.Doc k z) p)
 have e:zKd f k p b=((zLn f k y.Doc).set p.toNat (zMl (zCR f k y.Doc p y) (zZM (zCR f k y.Doc p y).Kids b k))).set k.toNat (zTM (zCR f k y.Doc k z) p):=by
  unfold zKd
  rw [P.hy]
  simp only
  rw [h1]
  simp only
  rw [I]
 refine ⟨?_,h1,e,I⟩
 rw [e]
 refine H2.congr fun j w E=>?_
 have r:∀j,([k]:List Int).contains j=true↔j=k:=fun j=>by rw [e7,e8]
 have F:(([k]:List Int).any fun c=>(zIG f.Nodes c).contains j)=(zIG f.Nodes k).contains j:=by simp
 have hdoc:zMC f.Nodes k=z.Doc:=zMw P.hz
 have o:(zCR f k y.Doc j w).Doc=if (zIG f.Nodes k).contains j=true then y.Doc else w.Doc:=by
  unfold zCR
  by_cases J:zMC f.Nodes k=y.Doc
  ·rw [iP J]
   split
   ·rename_i hc
    have:=zdQ hr j (zAK E) k ((U.all_in k hk j (e7.1 hc)).2)
    rw [zMw E,J] at this
    exact this.symm
   ·rfl
  ·rw [iN J];rfl
 have u:(zCR f k y.Doc j w).Kind=w.Kind/\(zCR f k y.Doc j w).Name=w.Name/\(zCR f k y.Doc j w).Is=w.Is/\(zCR f k y.Doc j w).Data=w.Data/\(zCR f k y.Doc j w).Attrs=w.Attrs/\(zCR f k y.Doc j w).Host=w.Host/\(zCR f k y.Doc j w).Under=w.Under/\(zCR f k y.Doc j w).Parent=(if ([k]:List Int).contains j=true then -1 else w.Parent):=by
  unfold zCR
  split<;>exact ⟨rfl,rfl,rfl,rfl,rfl,rfl,rfl,rfl⟩
 obtain ⟨N,Q,S,V,W,X,r7,r8⟩:=u
 have rk:=zS8 f k y.Doc j w
 unfold zgF
 rw [F]
 by_cases q:j=k
 ·subst q
  have G:w=z:=by
   have:=P.hz
   rw [E] at this
   exact lJ.inj this
  subst G
  rw [iP rfl,iP ((r j).2 rfl),iN D]
  unfold zTM
  rw [N,Q,S,V,W,X,r7,o,rk]
 ·rw [iN q,iN fun h=>q ((r j).1 h),iN fun h=>q ((r j).1 h)]
  rw [iN fun h=>q ((r j).1 h)] at r8
  by_cases B:j=p
  ·subst B
   have G:w=y:=by
    have:=P.hy
    rw [E] at this
    exact lJ.inj this
   subst G
   rw [iP rfl,iP rfl]
   unfold zMl
   rw [N,Q,S,V,W,X,r7,r8,o,rk]
  ·rw [iN B,iN B]
   rw [<- N,<- Q,<- S,<- V,<- W,<- X,<- r7,<- r8,<- o,<- rk]
theorem zUX {fu:Nat} (hfu:1000<fu):∃K,At f.Nodes (zKd f k p b) (zgF f (zAU k z) p y.Doc K (zAU k z))/\K.Perm (y.Kids.filter (fun c => !((zAU k z).contains c))++zAU k z):=by
 rw [P.parts]
 exact ⟨_,(zSA hr P hfu).1,zbA _ _ _⟩
theorem zJJ {fu:Nat} (hfu:1000<fu):zAF ⟨zKd f k p b,f.Most⟩=true:=by
 obtain ⟨K,H,hK⟩:=zUX hr P hfu
 exact za0 (g:=⟨zKd f k p b,f.Most⟩) hr P.may H hK rfl
theorem zYX {fu:Nat} (hfu:1000<fu):(zKd f k p b).length=f.Nodes.length:=(zSA hr P hfu).1.len
theorem zYW {fu:Nat} (hfu:1000<fu):(zZz f k p b).length<=1200:=by
 have hk:InN f.Nodes k:=zAK P.hz
 have r:=zJo hr hk
 have q:=(zUN (l:=[]) (d:=zMC f.Nodes p) hr hfu hk (by simp)).2.1
 have e:=zJJ hr P hfu
 have o:InN (zKd f k p b) k:=by unfold InN at hk ⊢;rw [zYX hr P hfu];exact hk
 have u:(zVE ⟨zKd f k p b,f.Most⟩ k).length<=400:=by
  unfold zVE
  split
  ·have:=(zAL e).all_len o
   have q:(zL0 (zKd f k p b) k).length<=(zIG (zKd f k p b) k).length:=iT _ _
   have:=(zAa e).2.1
   simp only [lL] at *
   omega
  ·simp
 unfold zZz
 simp only [eR]
 omega
theorem zb3 {fu:Nat} {K:Nat} {l:List Note} (hfu:1000<fu) (hi:i<L.length) (hk:L[i]=k) (hL:L.length<=1000) (hl:l.length<=300000000) :
  zA6 fu p b f.Most L (K+1) ((i:Int),zJH f.Nodes,l)=zA6 fu p b f.Most L K (((i+1:Nat):Int),zJH (zKd f k p b),l++zZz f k p b):=by
 have U:=zAL hr
 have hs:=zAH hr
 have e:InN f.Nodes k:=zAK P.hz
 obtain ⟨G,N,h2,h3⟩:=zSA hr P hfu
 have q:=zJJ hr P hfu
 have E:InN (zKd f k p b) k:=by unfold InN at e ⊢;rw [G.len];exact e
 obtain ⟨-,ho2,J⟩:=zUN (l:=l) (d:=y.Doc) hr hfu e (by omega)
 have hwl:=zJo hr e
 have o:=zS8 f k y.Doc p y
 have hkl:(zCR f k y.Doc p y).Kids.length<=400:=by
  rw [o]
  exact eM (iT _ _) (hs.kids y (zEw P.hy))
 have u:zMC f.Nodes p=y.Doc:=zMw P.hy
 have F:∀(at_:Nat),at_<=(zCR f k y.Doc p y).Kids.length->zZM (zCR f k y.Doc p y).Kids b k=zWL (zCR f k y.Doc p y).Kids at_ [k]->zFT fu p f.Most (i:Int) k (zJH (zLn f k y.Doc),l++zF1 f k++zOx f k y.Doc) (zCR f k y.Doc p y,true) (zA6 fu p b f.Most L K) ((at_:Nat):Int)=zA6 fu p b f.Most L K (((i+1:Nat):Int),zJH (zKd f k p b),l++zZz f k p b):=by
  intro at_ hat D
  unfold zFT
  rw [zGS N,zAA]
  simp only
  have B:zMy fu (zCR f k y.Doc p y).Kids ((at_:Nat):Int) [k]=some (zZM (zCR f k y.Doc p y).Kids b k):=by
   unfold zMy
   rw [iP ⟨by omega,by omega,by simp,by simp only [cP,eK];omega⟩,D]
   rfl
  rw [B,zAA,zAA]
  have V:(⟨(zCR f k y.Doc p y).Kind,(zCR f k y.Doc p y).Name,(zCR f k y.Doc p y).Is,(zCR f k y.Doc p y).Data,(zCR f k y.Doc p y).Attrs,(zCR f k y.Doc p y).Parent,zZM (zCR f k y.Doc p y).Kids b k,(zCR f k y.Doc p y).Host,(zCR f k y.Doc p y).Under,(zCR f k y.Doc p y).Doc⟩:Node)=zMl (zCR f k y.Doc p y) (zZM (zCR f k y.Doc p y).Kids b k):=rfl
  rw [V,zM6,zGS h3,zAA]
  simp only
  have W:(⟨(zCR f k y.Doc k z).Kind,(zCR f k y.Doc k z).Name,(zCR f k y.Doc k z).Is,(zCR f k y.Doc k z).Data,(zCR f k y.Doc k z).Attrs,p,(zCR f k y.Doc k z).Kids,(zCR f k y.Doc k z).Host,(zCR f k y.Doc k z).Under,(zCR f k y.Doc k z).Doc⟩:Node)=zTM (zCR f k y.Doc k z) p:=rfl
  rw [W,zM6,<- h2,zLo,zQw (f:=⟨zKd f k p b,f.Most⟩) (zAH q) hfu q E,zAA]
  have X:∀m,l++zF1 f k++zOx f k y.Doc++m=l++(zF1 f k++zOx f k y.Doc++m):=fun m=>by simp only [eS]
  cases Q:zEi (zKd f k p b) k with
  | false =>
   rw [zAG,zBO (by omega),zAA]
   unfold zZz zVE
   rw [u,iN (by rw [Q];simp),gI,<- eS]
  | true =>
   have S:=zUi (f:=⟨zKd f k p b,f.Most⟩) (x:=⟨1,0,0,0,[],false,false,[],[]⟩) (l:=l++zF1 f k++zOx f k y.Doc) ((zAH q).fit hfu) hfu E (by simp only [eR];omega)
   simp only at S
   rw [zAO,S,zAA,zBO (by omega),zAA,X]
   unfold zZz zVE zPz
   rw [u,iP q,iP Q]
 simp only [zA6]
 rw [zAT (by simpa using hi),zAW hi,zAA,hk,zGS P.hy,zAA,J,zAA,zGS N,zAA,show zSd (zCR f k y.Doc p y,true).2=some () from rfl,zAA,zAi]
 by_cases r:b = -1
 ·rw [iP r]
  exact F _ (cB _) (by unfold zZM;rw [iP r])
 ·rw [iN r,zAA,zTL (by simp only;omega) (by simp only;omega),zAA]
  have I:b∈(zCR f k y.Doc p y).Kids:=by
   rw [o,iH]
   refine ⟨P.bef.resolve_left r,?_⟩
   rw [gM,iJ]
   intro h
   rw [e7,e8] at h
   exact P.bk h
  obtain ⟨g1,g2⟩:=zQg I
  simp only
  rw [g1]
  exact F _ (by omega) (by unfold zZM;rw [iN r])
end
end
section
inductive Mv:Nat->Forest->Forest->List Note->Prop
 | refl (f:Forest):Mv 0 f f []
 | out {m:Nat} {f g:Forest} {l:List Note} {n:Int}:Mv m f g l->InN g.Nodes n->Mv (m+1) f ⟨zKY g.Nodes n,g.Most⟩ (l++zF1 g n)
 | put {m:Nat} {f g:Forest} {l:List Note} {k p b:Int} {z y:Node}:Mv m f g l->Part g k p b z y->Mv (m+1) f ⟨zKd g k p b,g.Most⟩ (l++zZz g k p b)
def zNq (a b:List Node):Prop:=b.length=a.length/\∀j w,idx a j=some w->∃v,idx b j=some v/\v.Kind=w.Kind/\v.Name=w.Name/\v.Is=w.Is/\v.Data=w.Data/\v.Attrs=w.Attrs/\v.Host=w.Host/\v.Under=w.Under
theorem zNq.refl (a:List Node):zNq a a:=⟨rfl,fun _ w h=>⟨w,h,rfl,rfl,rfl,rfl,rfl,rfl,rfl⟩⟩
theorem zNq.trans {b c:List Node} (d:zNq a b) (e:zNq b c):zNq a c:=by
 refine ⟨e.1.trans d.1,fun j w I=>?_⟩
 obtain ⟨v,o,q,r,B,D,E,F,G⟩:=d.2 j w I
 obtain ⟨u,J,N,Q,k4,S,V,W,X⟩:=e.2 j v o
 exact ⟨u,J,N.trans q,Q.trans r,k4.trans B,S.trans D,V.trans E,W.trans F,X.trans G⟩
theorem zNq.inN {b:List Node} (h:zNq a b) {n:Int}:InN b n↔InN a n:=by unfold InN;rw [h.1]
theorem zNq.isB {b:List Node} (h:zNq a b) {n k:Int}:isB b n k=isB a n k:=by
 cases d:idx a n with
 | none =>
  have:idx b n=none:=by
   by_cases e:0<=n/\n<b.length
   ·rw [h.1] at e
    obtain ⟨x,hx⟩:=zAJ e
    rw [d] at hx;cases hx
   ·exact zCa e
  unfold Proofs.YtmfbghpealgaiaaGreatDoor.isB;rw [d,this]
 | some w =>
  obtain ⟨v,o,q,_⟩:=h.2 n w d
  unfold Proofs.YtmfbghpealgaiaaGreatDoor.isB;rw [d,o];simp only [q]
theorem At.same {b:List Node} (H:At a b h) (e:∀j w,idx a j=some w->(h j w).Kind=w.Kind/\(h j w).Name=w.Name/\(h j w).Is=w.Is/\(h j w).Data=w.Data/\(h j w).Attrs=w.Attrs/\(h j w).Host=w.Host/\(h j w).Under=w.Under):zNq a b :=
 ⟨H.len,fun j w d=>⟨_,H.at_ j w d,e j w d⟩⟩
theorem zRy {f:Forest} (hr:zAF f=true) {n:Int} (d:InN f.Nodes n):zNq f.Nodes (zKY f.Nodes n):=At.same (zUL hr d) fun _ _ _=>⟨rfl,rfl,rfl,rfl,rfl,rfl,rfl⟩
theorem zSB {f:Forest} (hr:zAF f=true) {k p b:Int} {z y:Node} (P:Part f k p b z y):zNq f.Nodes (zKd f k p b):=At.same (zSA hr P (fu:=1001) (by omega)).1 fun _ _ _=>⟨rfl,rfl,rfl,rfl,rfl,rfl,rfl⟩
theorem Mv.all {m:Nat} {f g:Forest} {l:List Note} (h:Mv m f g l) (hr:zAF f=true):zAF g=true/\g.Most=f.Most/\zNq f.Nodes g.Nodes/\l.length<=1200*m:=by
 induction h with
 | refl f=>exact ⟨hr,rfl,zNq.refl _,by simp⟩
 | out _ q r =>
  obtain ⟨d,e,o,u⟩:=r hr
  have:=zJo d q
  exact ⟨zLB d q,e,o.trans (zRy d q),by simp only [eR];omega⟩
 | put _ P r =>
  obtain ⟨d,e,o,u⟩:=r hr
  have:=zYW d P (fu:=1001) (by omega)
  exact ⟨zJJ d P (fu:=1001) (by omega),e,o.trans (zSB d P),by simp only [eR];omega⟩
theorem Mv.trans {m n:Nat} {f g h:Forest} {l o:List Note} (d:Mv m f g l) (q:Mv n g h o):Mv (m+n) f h (l++o):=by
 induction q with
 | refl g=>simpa using d
 | out _ r e=>rw [<- eS];exact .out (e d) r
 | put _ P e=>rw [<- eS];exact .put (e d) P
theorem zd1 {f:Forest} (hr:zAF f=true) {n:Int} (o:InN f.Nodes n) {j:Int} (e:InN f.Nodes j) (q:n∉zGL f.Nodes j):zGL (zKY f.Nodes n) j=zGL f.Nodes j:=by
 obtain ⟨z,hz⟩:=zAJ o
 by_cases d:z.Parent = -1
 ·rw [zLm hz d]
 ·obtain ⟨y,H⟩:=zFu hr hz d
  rw [zLA H d]
  exact zbm H hr j e q
theorem zeI {f:Forest} (hr:zAF f=true) {k p b:Int} {z y:Node} (P:Part f k p b z y):∀j,InN f.Nodes j->k∉zGL f.Nodes j->zGL (zKd f k p b) j=zGL f.Nodes j:=(zAL hr).up_ind fun j d u hk=>by
 have U:=zAL hr
 have r:=zJJ hr P (fu:=1001) (by omega)
 have V:=zAL r
 obtain ⟨K,H,hK⟩:=zUX hr P (fu:=1001) (by omega)
 have e:=U.wayU_eq d
 rw [e] at hk
 have q:j∉zAU k z:=by
  rw [P.parts,e8]
  exact fun h=>hk (by rw [h];simp)
 have o:InN (zKd f k p b) j:=by unfold InN at d ⊢;rw [H.len];exact d
 rw [e,V.wayU_eq o,za1 (g:=⟨zKd f k p b,f.Most⟩) P.may H d,iN q]
 by_cases h:upI f.Nodes j = -1
 ·rw [iP h,iP h]
 ·rw [iN h] at hk
  rw [iN h,iN h,u h fun hm=>hk (lG _ hm)]
structure PI (g:Forest) (p b:Int) (M:List Int):Prop where
 hr:zAF g=true
 parts:∀k∈M,∃z,idx g.Nodes k=some z/\(z.Kind=1\/z.Kind=2)/\k∉zGL g.Nodes p
 nod:M.Nodup
 bM:b∉M
 par:∃y,idx g.Nodes p=some y/\zGP y.Kind=true/\(b = -1\/b∈y.Kids)/\(y.Kind=0->M.length<=1/\∀k∈M,zGI g.Nodes p (-1) [k]=false)
theorem PI.part {g:Forest} {p b k:Int} {M:List Int} (h:PI g p b M) (hk:k∈M):∃z y,Part g k p b z y:=by
 obtain ⟨z,hz,o,d⟩:=h.parts k hk
 obtain ⟨y,hy,B,r,u⟩:=h.par
 exact ⟨z,y,hz,hy,o,B,d,r,fun e=>h.bM (e▸hk),fun q=>(u q).2 k hk⟩
theorem PI.next {g:Forest} {p b k:Int} {M:List Int} (h:PI g p b (k::M)):PI ⟨zKd g k p b,g.Most⟩ p b M:=by
 obtain ⟨z,y,P⟩:=h.part (lH ..)
 have I:=zJJ h.hr P (fu:=1001) (by omega)
 have F:=zSB h.hr P
 have d:InN g.Nodes p:=zAK P.hy
 have J:=lS.1 h.nod
 refine ⟨I,fun c u=>?_,J.2,fun q=>h.bM (lG _ q),?_⟩
 ·obtain ⟨w,N,hk,G⟩:=h.parts c (lG _ u)
  obtain ⟨v,r,o,_⟩:=F.2 c w N
  exact ⟨v,r,by rw [o];exact hk,by rw [zeI h.hr P p d P.free];exact G⟩
 ·obtain ⟨K,H,hK⟩:=zUX h.hr P (fu:=1001) (by omega)
  obtain ⟨v,r,o,_,_,_,_,D,_⟩:=zKy (g:=⟨zKd g k p b,g.Most⟩) H P.hy
  refine ⟨v,r,by rw [o];exact P.holder,?_,fun B=>?_⟩
  ·by_cases q:b = -1
   ·exact .inl q
   ·right
    rw [D,iP rfl,zc8 hK,P.parts]
    exact .inl ⟨P.bef.resolve_left q,by rw [e8];exact P.bk⟩
  ·obtain ⟨Q,e,_,_,u⟩:=h.par
   rw [P.hy] at e
   obtain rfl:=lJ.inj e
   have:=(u (by rw [<- o];exact B)).1
   have E:M=[]:=by
    simp only [cP] at this
    exact List.length_eq_zero_iff.1 (by omega)
   subst E
   exact ⟨by simp,fun k hk=>by cases hk⟩
theorem PI.out {g:Forest} {p b c:Int} {M:List Int} (h:PI g p b M) (N:c∈M):PI ⟨zKY g.Nodes c,g.Most⟩ p b M:=by
 obtain ⟨z,y,P⟩:=h.part N
 have o:InN g.Nodes c:=zAK P.hz
 have B:InN g.Nodes p:=zAK P.hy
 have X:=zLB h.hr o
 have F:=zRy h.hr o
 have J:=zUL h.hr o
 refine ⟨X,fun k hk=>?_,h.nod,h.bM,?_⟩
 ·obtain ⟨w,hw,G,W⟩:=h.parts k hk
  obtain ⟨v,Q,S,_⟩:=F.2 k w hw
  exact ⟨v,Q,by rw [S];exact G,by rw [zd1 h.hr o B P.free];exact W⟩
 ·obtain ⟨y',D,hh,V,u⟩:=h.par
  rw [P.hy] at D
  obtain rfl:=lJ.inj D
  refine ⟨_,J.at_ p y P.hy,hh,?_,fun I=>⟨(u I).1,fun k hk=>?_⟩⟩
  ·by_cases r:b = -1
   ·exact .inl r
   ·right
    unfold zUr
    simp only
    rw [iH]
    refine ⟨V.resolve_left r,?_⟩
    rw [gM,iJ]
    intro E
    rw [e7,e8] at E
    exact h.bM (E▸N)
  ·have d:=(u I).2 k hk
   unfold zGI at d ⊢
   rw [P.hy] at d
   rw [J.at_ p y P.hy]
   have m1:∀q,zDz (zKY g.Nodes c) (-1) [k] q=zDz g.Nodes (-1) [k] q:=fun q=>by
    unfold zDz
    exact iF fun j _=>by rw [F.isB]
   have m2:zDz (zKY g.Nodes c) (-1) (zUr [c] p y).Kids 1<=zDz g.Nodes (-1) y.Kids 1:=by
    have e:zDz (zKY g.Nodes c) (-1) (zUr [c] p y).Kids 1=zDz g.Nodes (-1) (zUr [c] p y).Kids 1:=by
     unfold zDz
     exact iF fun j _=>by rw [F.isB]
    rw [e]
    unfold zDz zUr
    simp only
    exact iX.countP_le
   simp only [m1]
   simp only [iY,jM,decide_eq_false_iff_not] at d ⊢
   refine ⟨d.1,d.2.imp id fun E=>?_⟩
   omega
theorem puts6 {fu:Nat} {p b:Int} (hfu:1000<fu) (J:L.length<=400):∀(M:List Int) (i K:Nat) (g:Forest) (l:List Note),L.drop i=M->i<=L.length->M.length<K->PI g p b M->l.length+1200*M.length<=300000000 ->
  ∃h q,Mv M.length g h q/\zA6 fu p b g.Most L K ((i:Int),zJH g.Nodes,l)=some (zJH h.Nodes,l++q):=by
 intro M
 induction M with
 | nil =>
  intro i K g l e hi hK _ _
  obtain ⟨K,rfl⟩:∃r,K=r+1:=⟨K - 1,by simp at hK;omega⟩
  have:i=L.length:=by
   have:=congrArg iL e
   simp at this
   omega
  subst this
  refine ⟨g,[],.refl g,?_⟩
  simp only [zA6]
  rw [zAS (by simp),gI]
 | cons k M I =>
  intro i K g l e hi hK o F
  obtain ⟨K,rfl⟩:∃r,K=r+1:=⟨K - 1,by simp at hK;omega⟩
  have d:i<L.length:=by
   rcases Nat.lt_or_ge i L.length with h | h
   ·exact h
   ·rw [List.drop_of_length_le h] at e;cases e
  have B:L[i]=k:=by
   have:=eT d
   rw [e] at this
   exact (dU.inj this).1.symm
  have u:L.drop (i+1)=M:=by
   have:=eT d
   rw [e] at this
   exact (dU.inj this).2.symm
  obtain ⟨z,y,P⟩:=o.part (lH ..)
  have G:=zYW o.hr P (fu:=1001) (by omega)
  simp only [cP] at F hK
  obtain ⟨h,q,D,E⟩:=I (i+1) K ⟨zKd g k p b,g.Most⟩ (l++zZz g k p b) u (by omega) (by omega) o.next (by simp only [eR];omega)
  refine ⟨h,zZz g k p b++q,?_,?_⟩
  ·have:=(Mv.put (.refl g) P).trans D
   rw [iU] at this
   rw [cP,Nat.add_comm M.length 1]
   simpa using this
  ·rw [zb3 o.hr P hfu d B (by omega) (by omega)]
   rw [E,eS]
theorem outs6 {fu:Nat} {p b:Int} (hfu:1000<fu) (I:L.length<=400):∀(m i K:Nat) (g:Forest) (l:List Note),i+m=L.length->m<K->PI g p b L->l.length+1200*m<=300000000 ->
  ∃h q,Mv m g h q/\PI h p b L/\zD9 fu p b g.Most L K ((i:Int),zJH g.Nodes,l)=zD8 fu p b g.Most L (zJH h.Nodes,l++q):=by
 intro m
 induction m with
 | zero =>
  intro i K g l hi hK o _
  obtain ⟨K,rfl⟩:∃r,K=r+1:=⟨K - 1,by omega⟩
  obtain rfl:i=L.length:=by omega
  refine ⟨g,[],.refl g,o,?_⟩
  simp only [zD9]
  rw [zAS (by simp),gI]
 | succ m G =>
  intro i K g l hi hK o J
  obtain ⟨K,rfl⟩:∃r,K=r+1:=⟨K - 1,by omega⟩
  have e:i<L.length:=by omega
  have d:L[i]∈L:=gC e
  obtain ⟨z,y,P⟩:=o.part d
  have u:InN g.Nodes L[i]:=zAK P.hz
  have F:=zJo o.hr u
  obtain ⟨h,q,B,D,E⟩:=G (i+1) K ⟨zKY g.Nodes L[i],g.Most⟩ (l++zF1 g L[i]) (by omega) (by omega) (o.out d) (by simp only [eR];omega)
  refine ⟨h,zF1 g L[i]++q,?_,D,?_⟩
  ·have:=(Mv.out (.refl g) u).trans B
   rw [iU] at this
   rw [show m+1=0+1+m by omega]
   exact this
  ·simp only [zD9]
   rw [zAT (by simpa using e),zAW e,zAA,zUK o.hr hfu u (by omega),zAA,zBO (by omega),zAA,E,eS]
theorem parts6 {fu:Nat} {g:Forest} {n:Int} {x:Node} (hr:zAF g=true) (hfu:1000<fu) (hx:idx g.Nodes n=some x):zI7 fu g n=some (zAU n x):=by
 have hs:=zAH hr
 have d:=hs.kids x (zEw hx)
 unfold zI7 zAU
 rw [zFV hfu (hs.fit hfu) hr (by simp),zAA]
 simp only [cK,iM,zNh (show InN g.Nodes n from zAK hx),iO,iA,zAG]
 rw [hx,zAA,zAj,zAA,zVH (by omega),zAA]
 split<;>rfl
theorem zb2 {fu:Nat} {g:Forest} {n p b:Int} {x:Node} {l:List Note} (hfu:1000<fu) (hx:idx g.Nodes n=some x) (o:PI g p b (zAU n x)) (S:l.length<=1000) :
  ∃h q,Mv ((if x.Kind=3 then (zAU n x).length else 0)+(zAU n x).length) g h q/\zDj fu n p b g.Most (zJH g.Nodes) l=some (zJH h.Nodes,l++q):=by
 have hs:=zAH o.hr
 have d:(zAU n x).length<=400:=by
  unfold zAU
  split
  ·exact hs.kids x (zEw hx)
  ·simp
 unfold zDj
 rw [zLo,parts6 o.hr hfu hx,zAA,zGS hx,zAA,zAj]
 by_cases e:x.Kind=3
 ·rw [iP e,iP e]
  obtain ⟨F,B,D,E,u⟩:=outs6 (L:=zAU n x) hfu d (zAU n x).length 0 fu g l (by omega) (by omega) o (by omega)
  obtain ⟨-,hm,-,J⟩:=D.all o.hr
  obtain ⟨h,N,Q,r⟩:=puts6 (L:=zAU n x) hfu d (zAU n x) 0 fu F (l++B) rfl (by omega) (by omega) E (by simp only [eR];omega)
  refine ⟨h,B++N,D.trans Q,?_⟩
  rw [hm] at r
  rw [show ((0:Nat):Int)=0 from rfl] at u r
  rw [u]
  unfold zD8
  exact r.trans (by rw [eS])
 ·rw [iN e,iN e]
  unfold zD8
  obtain ⟨h,q,G,I⟩:=puts6 (L:=zAU n x) hfu d (zAU n x) 0 fu g l rfl (by omega) (by omega) o (by unfold zAU;rw [iN e];simp;omega)
  exact ⟨h,q,by rw [dA];exact G,I⟩
end
section
theorem zRp (b:UInt8):(zGQ b).toNat=if upB b=true then b.toNat+32 else b.toNat:=by
 unfold zGQ
 by_cases h:upB b=true
 ·rw [iP h,iP h,UInt8.toNat_add]
  have d:(32:UInt8).toNat=32:=rfl
  unfold upB at h
  simp only [lM,decide_eq_true_eq] at h
  omega
 ·rw [iN h,iN h]
theorem zbT (b:UInt8):upB (zGQ b)=false:=by
 have:=zRp b
 unfold upB at this ⊢
 simp only [lM,decide_eq_true_eq,jM,decide_eq_false_iff_not] at this ⊢
 split at this<;>omega
theorem zW8 (b:UInt8):zGQ (zGQ b)=zGQ b:=by
 have h:∀c:UInt8,upB c=false->zGQ c=c:=fun c d=>by
  unfold zGQ
  rw [iN (by rw [d];simp)]
 exact h _ (zbT b)
theorem zbS (s:Bs):(s.map zGQ).map zGQ=s.map zGQ:=by
 rw [iZ]
 exact iK fun b _=>zW8 b
theorem zZS {b:UInt8} (h:zPg b=true):zPg (zGQ b)=true:=by
 have:=zRp b
 unfold zPg zbQ upB at *
 simp only [dD,lM,decide_eq_true_eq] at *
 split at this<;>omega
theorem zZR {b:UInt8} (h:zZL b=true):zZL (zGQ b)=true:=by
 have:=zRp b
 unfold zZL zbQ upB at *
 simp only [dD,lM,decide_eq_true_eq] at *
 split at this<;>omega
theorem zXO (h:zFg s=true):zFg (s.map zGQ)=true:=by
 unfold zFg at *
 simp only [lM,decide_eq_true_eq,lL,lR,lE] at *
 obtain ⟨⟨⟨e,o⟩,q⟩,d⟩:=h
 refine ⟨⟨⟨e,o⟩,?_⟩,?_⟩
 ·rintro x ⟨b,r,rfl⟩
  exact zZS (q b r)
 ·cases s with
  | nil=>cases d
  | cons b t=>exact zZR d
theorem za4 (h:zFg s=true):zWw (s.map zGQ)=true:=by
 unfold zWw
 rw [zXO h,zbS]
 simp
theorem zQa (h:zGu l=true):l.length<=40:=by
 unfold zGu at h
 simp only [lM,decide_eq_true_eq] at h
 exact h.1
theorem zaE {fu:Nat} (e:l.length<=1000000) (d:l.length<fu):zJ3 fu l s=some (zKL l fun a=>a.Name==s):=by
 unfold zJ3 zBJ
 rw [zUm (L:=zAY _ l) l (fun a=>a.Name==s) (fun i hi k=>?_) (fun k=>?_) d,zAA]
 ·simp only [zAY]
  rw [zAT (by simpa using hi),zAW hi,zAA]
  unfold zGU
  rw [zAA,zBO (by omega),zAA]
  cases l[i].Name==s<;>rfl
 ·simp only [zAY]
  rw [zAS (by simp)]
def zGB (l:List Attr) (n:Bs):Bs×Int×Int:=if zGu l=true then (if zFg n=true then (n.map zGQ,zKL l (fun a=>a.Name==n.map zGQ),0) else ([],-1,4)) else ([],-1,1)
theorem zQZ {fu:Nat} {n:Bs} (hfu:200<fu):zGm fu l n=some (zGB l n):=by
 unfold zGm zGB
 rw [zPr hfu,zAA]
 by_cases h:zGu l=true
 ·have:=zQa h
  rw [h,zSx hfu,zAA,iP rfl]
  by_cases hr:zFg n=true
  ·rw [iP hr,iP hr,zaE (by omega) (by omega),zAA]
   rfl
  ·rw [iN hr,iN hr];rfl
 ·have d:zGu l=false:=by cases e:zGu l with
   | false=>rfl
   | true=>exact absurd e h
  rw [iN h,d];rfl
theorem zQY {n:Bs}:(zGB l n).2.1<0\/∃(i:Nat) (_:i<l.length),(zGB l n).2.1=(i:Int)/\zGu l=true/\(zGB l n).2.2=0:=by
 unfold zGB
 by_cases h:zGu l=true
 ·rw [iP h]
  by_cases hr:zFg n=true
  ·rw [iP hr]
   simp only
   cases e:l.any (fun a=>a.Name==n.map zGQ) with
   | false=>left;rw [zR4 e];omega
   | true =>
    obtain ⟨i,hi,d,_⟩:=zR3 e
    exact .inr ⟨i,hi,d,h,trivial⟩
  ·rw [iN hr];left;simp only;omega
 ·rw [iN h];left;simp only;omega
def zcv (l:List Attr) (n:Bs):Bs×Bool:=match idx l (zGB l n).2.1 with
 | some a=>(a.Value,true)
 | none=>([],false)
theorem zPG {fu:Nat} {n:Bs} (hfu:200<fu):zF2 fu l n=some (zcv l n):=by
 unfold zF2 zcv
 rw [zQZ hfu,zAA,zAQ]
 rcases zQY (l:=l) (n:=n) with h | ⟨i,hi,h,_⟩
 ·rw [iP h,zCa (by omega)]
 ·rw [iN (by omega),h,zAW hi];rfl
theorem zKG {fu:Nat} (h:l.length<=1000000):zAf fu l=some l:=by
 unfold zAf
 rw [zAg (by simp;omega),zAA,iU]
theorem zdE (h:zGu l=true) (hi:i<l.length) {v:Bs} (u:v.length<=200):zGu (l.set i ⟨l[i].Name,v⟩)=true:=by
 unfold zGu at h ⊢
 simp only [lM,decide_eq_true_eq,lR,eE] at h ⊢
 obtain ⟨q,o,r⟩:=h
 refine ⟨q,fun a d=>?_,?_⟩
 ·rcases dT d with d | rfl
  ·exact o a d
  ·exact ⟨(o _ (gC hi)).1,u⟩
 ·rw [dK]
  have:(l.map (·.Name)).set i l[i].Name=l.map (·.Name):=by
   have e:l[i].Name=(l.map (·.Name))[i]'(by simpa using hi):=by simp
   rw [e];exact jC _
  simpa only [this] using r
theorem zdD {v:Bs} (h:zGu l=true) (E:l.length≠40) (hs:zWw s=true) (B:v.length<=200) (u:l.any (fun a=>a.Name==s)=false):zGu (l++[⟨s,v⟩])=true:=by
 unfold zGu at h ⊢
 simp only [lM,decide_eq_true_eq,lR,eR,cP,eK,cA,e8] at h ⊢
 obtain ⟨D,q,r⟩:=h
 refine ⟨by omega,fun a d=>?_,?_⟩
 ·rcases d with d | rfl
  ·exact q a d
  ·exact ⟨hs,B⟩
 ·rw [gG,dM]
  refine ⟨r,by simp,fun x hx y hy e=>?_⟩
  simp only [lT,List.map_nil,e8] at hy
  subst hy
  obtain ⟨a,d,o⟩:=lE.1 hx
  have:=(gK.1 u) a d
  simp only [beq_iff_eq] at this
  exact this (o.trans e)
def zY4 (l:List Attr) (n v:Bs):List Attr×Int :=
 if (zGB l n).2.2≠0 then (l,(zGB l n).2.2)
 else if 200<v.length then (l,3)
 else match idx l (zGB l n).2.1 with
  | some a=>(l.set (zGB l n).2.1.toNat ⟨a.Name,v⟩,0)
  | none=>if l.length=40 then (l,3) else (l++[⟨(zGB l n).1,v⟩],0)
theorem zaI {fu:Nat} {n v:Bs} (hfu:200<fu) (q:l.length<=1000000):zKe fu l n v=some (zY4 l n v):=by
 unfold zKe zY4
 rw [zQZ hfu,zAA,zKG q,zAA,zAi]
 by_cases e:(zGB l n).2.2=0
 ·rw [iP e,iN (by simpa using e),zAQ]
  by_cases o:200<v.length
  ·rw [iP (by omega),iP o]
  ·rw [iN (by omega),iN o,zAQ]
   rcases zQY (l:=l) (n:=n) with h | ⟨i,hi,h,_⟩
   ·rw [iN (by omega),zCa (by omega),zAj]
    by_cases d:l.length=40
    ·rw [iP (by omega)];simp only;rw [iP d]
    ·rw [iN (by omega),zAg (by simp;omega),zAA];simp only;rw [iN d]
   ·rw [iP (by omega),h,zAW hi,zAA]
 ·rw [iN e,iP e]
theorem zSj {n v:Bs} (h:(zY4 l n v).2=0):zGu (zY4 l n v).1=true:=by
 unfold zY4 at h ⊢
 by_cases d:(zGB l n).2.2=0
 ·rw [iN (by simpa using d)] at h ⊢
  by_cases B:200<v.length
  ·rw [iP B] at h;simp only at h;omega
  ·rw [iN B] at h ⊢
   rcases zQY (l:=l) (n:=n) with o | ⟨i,hi,o,hr,_⟩
   ·have E:idx l (zGB l n).2.1=none:=zCa (by omega)
    rw [E] at h ⊢
    simp only at h ⊢
    have q:zGu l=true/\zFg n=true:=by
     unfold zGB at d
     by_cases r:zGu l=true
     ·by_cases u:zFg n=true
      ·exact ⟨r,u⟩
      ·rw [iP r,iN u] at d;simp only at d;omega
     ·rw [iN r] at d;simp only at d;omega
    have D:zGB l n=(n.map zGQ,zKL l (fun a=>a.Name==n.map zGQ),0):=by unfold zGB;rw [iP q.1,iP q.2]
    by_cases e:l.length=40
    ·rw [iP e] at h;simp only at h;omega
    ·rw [iN e]
     rw [D] at o ⊢
     exact zdD q.1 e (za4 q.2) (by omega) (zTD.1 o)
   ·rw [o,zAW hi]
    exact zdE hr hi (by omega)
 ·rw [iP d] at h;exact absurd h d
end
section
theorem zf8 {fu:Nat} (h:i<l.length):zDO fu (i:Int) ((i:Int)+1) l=some (l.eraseIdx i):=by
 have d:(zOf l i (i+1)).length=l.length:=by
  unfold zOf
  simp only [eR,cR,iI]
  omega
 have o:((i:Int)).toNat=i:=by omega
 have e:((i:Int)+1)=((i+1:Nat):Int):=by omega
 have q:(((i+1:Nat):Int)).toNat=i+1:=by omega
 have r:((l.length:Int)).toNat=l.length:=by omega
 have u:(((i+(l.length - (i+1)):Nat):Int)).toNat=i+(l.length - (i+1)):=by omega
 rw [e]
 unfold zDO
 rw [o,q,r,u]
 rw [show cut3 l.length (i:Int) ((i+1:Nat):Int) (l.length:Int)=some () from iP ⟨by omega,by omega,by omega,by omega⟩,zAA,zAj,iN (by omega)]
 rw [show zNZ l.length 0 (i:Int)=some () from iP ⟨by omega,by omega,by omega⟩,zAA,show zNZ l.length ((i+1:Nat):Int) (l.length:Int)=some () from iP ⟨by omega,by omega,by omega⟩,zAA]
 rw [show delB l.length i (i+1) l.length=some () from iP ⟨by omega,by omega,rfl⟩,zAA,d]
 rw [show zNZ l.length ((i+(l.length - (i+1)):Nat):Int) (l.length:Int)=some () from iP ⟨by omega,by omega,by omega⟩,zAA]
 rw [show ze8 l.length (i+(l.length - (i+1))) l.length=some () from iP ⟨by omega,rfl⟩,zAA]
 have B:(zPw (zOf l i (i+1)) (i+(l.length - (i+1))) (⟨[],[]⟩:Attr)).length=l.length:=by
  unfold zPw
  simp only [eR,cR,kE,d]
  omega
 rw [B,show zZl l.length (i+(l.length - (i+1)))=some () from iP (by omega),zAA]
 congr 1
 unfold zPw zOf
 rw [iV (by simp only [cR,eR,iI];omega),jH,jI,iV (by simp only [cR,eR,iI];omega),kF,kG (by simp only [cR,eR,iI];omega)]
def zfd (l:List Attr) (n:Bs):List Attr×Bool:=if (zGB l n).2.1<0 then (l,false) else (l.eraseIdx (zGB l n).2.1.toNat,true)
theorem zaF {fu:Nat} {n:Bs} (hfu:200<fu) (d:l.length<=1000000):zHD fu l n=some (zfd l n):=by
 unfold zHD zfd
 rw [zQZ hfu,zAA,zKG d,zAA,zAQ]
 rcases zQY (l:=l) (n:=n) with h | ⟨i,hi,h,_⟩
 ·rw [iP h,iP h]
 ·rw [iN (by omega),iN (by omega),h,zJn (by simp only [lo,Go.Pw.hi];omega),zAA,zf8 hi,zAA]
  rfl
theorem zY6 (h:zGu l=true):zGu (l.eraseIdx i)=true:=by
 have hs:(l.eraseIdx i).Sublist l:=List.eraseIdx_sublist ..
 unfold zGu at h ⊢
 simp only [lM,decide_eq_true_eq,lR] at h ⊢
 exact ⟨eM hs.length_le h.1,fun a d=>h.2.1 a (hs.subset d),(hs.map _).nodup h.2.2⟩
theorem zSi {n:Bs} (h:zGu l=true):zGu (zfd l n).1=true:=by
 unfold zfd
 split
 ·exact h
 ·exact zY6 h
def ze4 (l:List Attr) (n:Bs) (k:Int):List Attr×Bool×Int :=
 if (zGB l n).2.2≠0 then (l,false,(zGB l n).2.2)
 else if (decide (k>0)||(k==0 && !(decide ((zGB l n).2.1>=0))))=decide ((zGB l n).2.1>=0) then (l,decide ((zGB l n).2.1>=0),0)
 else if (decide (k>0)||(k==0 && !(decide ((zGB l n).2.1>=0))))=true then ((zY4 l n []).1,(zY4 l n []).2==0,(zY4 l n []).2)
 else ((zfd l n).1,false,0)
theorem zfh {fu:Nat} {n:Bs} {k:Int} (hfu:200<fu) (u:l.length<=1000000):zI2 fu l n k=some (ze4 l n k):=by
 have d:∀b:Bool,zFW fu l n (zGB l n) b=some (if (zGB l n).2.2≠0 then (l,false,(zGB l n).2.2) else if b=decide ((zGB l n).2.1>=0) then (l,decide ((zGB l n).2.1>=0),0) else if b=true then ((zY4 l n []).1,(zY4 l n []).2==0,(zY4 l n []).2) else ((zfd l n).1,false,0)):=fun b=>by
  unfold zFW
  rw [zKG u,zaI hfu u,zaF hfu u]
  simp only [zAA]
  rw [zAi,zAj]
  by_cases e:(zGB l n).2.2=0
  ·rw [iP e,iN (fun h:(zGB l n).2.2≠0=>h e)]
   by_cases r:b=decide ((zGB l n).2.1>=0)
   ·rw [iP r,iP r]
   ·rw [iN r,iN r]
    cases b<;>rfl
  ·rw [iN e,iP e]
 unfold zI2 ze4
 rw [zQZ hfu,zAA,d,d,d,zAQ,zAj]
 by_cases o:k>0
 ·rw [iP o,decide_eq_true o,Bool.true_or]
 ·rw [iN o,decide_eq_false o,e9]
  by_cases q:k=0
  ·rw [iP q,show (k==0)=true by simpa using q,iB]
  ·rw [iN q,show (k==0)=false by simpa using q,jD]
theorem zY5 {n:Bs} {k:Int} (h:zGu l=true) (d:(ze4 l n k).2.2=0):zGu (ze4 l n k).1=true:=by
 unfold ze4 at d ⊢
 split
 ·exact h
 ·split
  ·exact h
  ·split
   ·rename_i e o q
    rw [iN e,iN o,iP q] at d
    exact zSj d
   ·exact zSi h
def bare (x:Node):Node:=⟨x.Kind,[],[],[],[],x.Parent,x.Kids,x.Host,x.Under,x.Doc⟩
theorem zKW {d:Type} {l:List α} {g : α -> d} {n:Int}:idx (l.map g) n=(idx l n).map g:=by
 unfold idx
 split<;>simp
section
variable (ns:List Node)
theorem zQb (n k:Int):isB (ns.map bare) n k=isB ns n k:=by
 unfold isB;rw [zKW];cases idx ns n<;>rfl
theorem zWd (n:Int):upI (ns.map bare) n=upI ns n:=by
 unfold upI;rw [zKW];cases idx ns n<;>rfl
theorem zPH:∀(k:Nat) (n:Int),zBb (ns.map bare) k n=zBb ns k n
 | 0,_=>rfl
 | k+1,n=>by simp only [zBb,zWd,zPH k]
def zdq (n:Int) (x:Node):Bool:=zL2 ns n x&&(zK0 ns n x&&(zEV ns n x&&(zN2 ns n x&&zLG ns n x)))
theorem zU8 (n:Int) (x:Node):zdq (ns.map bare) n (bare x)=zdq ns n x:=by
 have e:zL2 (ns.map bare) n (bare x)=zL2 ns n x:=by unfold zL2;rw [zQb];rfl
 have o:zK0 (ns.map bare) n (bare x)=zK0 ns n x:=by
  show (x.Parent == -1||((x.Kind==1||x.Kind==2)&&(match idx (ns.map bare) x.Parent with | some p=>zGP p.Kind&&p.Kids.contains n | none=>false)))=_
  unfold zK0
  rw [zKW];cases idx ns x.Parent<;>rfl
 have q:zOo (ns.map bare) n (bare x)=zOo ns n x:=funext fun k=>by
  unfold zOo;rw [zKW];cases idx ns k<;>rfl
 have r:zEV (ns.map bare) n (bare x)=zEV ns n x:=by
  have d:isB (ns.map bare)=isB ns:=funext fun a=>funext fun b=>zQb ns a b
  unfold zEV zBH
  rw [q,d]
  rfl
 have B:zN2 (ns.map bare) n (bare x)=zN2 ns n x:=by
  show (if x.Kind=4 then (match idx (ns.map bare) x.Host with | some h=>h.Kind==1&&(h.Under==n&&h.Doc==x.Doc) | none=>false) else x.Host == -1)=_
  unfold zN2
  rw [zKW];cases idx ns x.Host<;>rfl
 have D:zLG (ns.map bare) n (bare x)=zLG ns n x:=by
  show (x.Under == -1||(x.Kind==1&&(match idx (ns.map bare) x.Under with | some u=>u.Kind==4&&u.Host==n | none=>false)))=_
  unfold zLG
  rw [zKW];cases idx ns x.Under<;>rfl
 unfold zdq
 rw [e,o,r,B,D]
end
theorem zM4 {ns:List Node} {n:Int} {x:Node}:zFb ns n x=(zHZ x&&zdq ns n x):=rfl
theorem zY7 {f g:Forest} (hr:zAF f=true) (d:g.Nodes.map bare=f.Nodes.map bare) (hm:g.Most=f.Most) (N:∀x∈g.Nodes,zHZ x=true):zAF g=true:=by
 have u:g.Nodes.length=f.Nodes.length:=by have:=congrArg iL d;simpa using this
 unfold zAF at hr ⊢
 simp only [lM,decide_eq_true_eq] at hr ⊢
 obtain ⟨D,E,F,G,I,J,q⟩:=hr
 refine ⟨by rw [hm];exact D,by rw [hm];exact E,by rw [u];exact F,by rw [hm,u];exact G,?_,?_,?_⟩
 ·rw [<- zQb,d,zQb];exact I
 ·unfold zHa
  rw [lR]
  intro i hi
  rw [jN] at hi
  rw [lC hi]
  simp only
  have o:i<f.Nodes.length:=by omega
  have r:=zBc J (zAW o)
  rw [zM4] at r ⊢
  have e:bare g.Nodes[i]=bare f.Nodes[i]:=by
   have B:(g.Nodes.map bare)[i]? = (f.Nodes.map bare)[i]? := by rw [d]
   rw [lK,lK,lC hi,lC o] at B
   exact lJ.inj B
  simp only [lM] at r ⊢
  refine ⟨N _ (gC hi),?_⟩
  rw [<- zU8,d,e,zU8]
  exact r.2
 ·unfold zPS at q ⊢
  rw [u]
  rw [lR] at q ⊢
  intro i hi
  rw [<- zPH,d,zPH]
  exact q i hi
def zJC (w:Node) (l:List Attr):Node:=⟨w.Kind,w.Name,w.Is,w.Data,l,w.Parent,w.Kids,w.Host,w.Under,w.Doc⟩
theorem zWb {f:Forest} (hr:zAF f=true) {n:Int} {x:Node} (hx:idx f.Nodes n=some x) (hk:x.Kind=1) {l:List Attr} (q:zGu l=true):zAF ⟨f.Nodes.set n.toNat (zJC x l),f.Most⟩=true:=by
 have o:=(zAa hr).2.2.1
 refine zY7 hr ?_ rfl fun y hy=>?_
 ·show (f.Nodes.set n.toNat (zJC x l)).map bare=f.Nodes.map bare
  rw [dK]
  have r:=zAK hx
  have hi:n.toNat<f.Nodes.length:=by omega
  have e:bare (zJC x l)=(f.Nodes.map bare)[n.toNat]'(by simpa using hi):=by
   have:idx f.Nodes n=some f.Nodes[n.toNat]:=by
    have:=zAW hi
    rwa [show ((n.toNat:Nat):Int)=n by omega] at this
   rw [hx] at this
   rw [jO,<- lJ.inj this]
   rfl
  rw [e];exact jC _
 ·rcases dT hy with h | rfl
  ·obtain ⟨i,hi,e⟩:=iW h
   have:=zBc o (zAW hi)
   rw [e] at this
   rw [zM4,lM] at this
   exact this.1
  ·have:=zBc o hx
   rw [zM4,lM] at this
   have d:=this.1
   unfold zHZ at d ⊢
   rw [iP hk] at d
   rw [iP (show (zJC x l).Kind=1 from hk)]
   simp only [lM] at d ⊢
   exact ⟨d.1,d.2.1,d.2.2.1,q⟩
theorem zWZ {f:Forest} (hr:zAF f=true) {n:Int} {x:Node} (hx:idx f.Nodes n=some x) (hk:x.Kind=1):zGu x.Attrs=true:=by
 have:=zBc (zAa hr).2.2.1 hx
 rw [zM4,lM] at this
 have d:=this.1
 unfold zHZ at d
 rw [iP hk] at d
 simp only [lM] at d
 exact d.2.2.2
end
end Go.Proofs.YtmfbghpealgaiaaGreatDoor
