/- Plain laws on the models, one behind the other. -/
import Derived.Test.YtoboimmgglnjfaaGreatDoorG
import Derived.Test.YtoboimmgglnjfaaGreatDoorPlain
import Derived.Test.YtoboimmgglnjfaaGreatDoorLine
import Derived.Lib.ItoaNum
import Derived.Lib.AtoiAll
import Derived.Test.YtoboimmgglnjfaaGreatDoorQuo
/- What the models of layer 1 (name) and of the reference for it come to. -/
namespace Go.Proofs.YtoboimmgglnjfaaGreatDoor
open Go Go.Pw
def lowB (b:UInt8):Bool:=decide (97<=b.toNat)&&decide (b.toNat<=122)
def upB (b:UInt8):Bool:=decide (65<=b.toNat)&&decide (b.toNat<=90)
def zI6 (b:UInt8):Bool:=lowB b||upB b||(decide (48<=b.toNat)&&decide (b.toNat<=57))||decide (b.toNat=45)||decide (b.toNat=95)||decide (b.toNat=46)
def zSH (b:UInt8):Bool:=lowB b||upB b||decide (b.toNat=95)
def zFo (s:Bs):Bool:=decide (0<s.length)&&decide (s.length<=40)&&s.all zI6&&(match s with | []=>false | b::_=>zSH b)
def zKO (b:UInt8):UInt8:=if upB b then b+32 else b
theorem zMV (fu:Nat) (c:Int):zCx fu c=some (decide (97<=c)&&decide (c<=122)):=by
 unfold zCx;by_cases h:97<=c<;>simp [h]
theorem zGr (fu:Nat) (c:Int):zB6 fu c=some (decide (65<=c)&&decide (c<=90)):=by
 unfold zB6;by_cases h:65<=c<;>simp [h]
theorem end3 (c:Int):(if c=45 then some true else if c=95 then some true else some (c==46))=some (decide (c=45)||decide (c=95)||decide (c=46)):=by
 by_cases h1:c=45
 ·simp [h1]
 ·by_cases h2:c=95
  ·simp [h2]
  ·rw [if_neg h1,if_neg h2,decide_eq_false h1,decide_eq_false h2];rfl
theorem zNT (fu:Nat) (c:Int):zDM fu c=some ((decide (97<=c)&&decide (c<=122))||(decide (65<=c)&&decide (c<=90))||(decide (48<=c)&&decide (c<=57))||decide (c=45)||decide (c=95)||decide (c=46)):=by
 unfold zDM zCw
 simp only [zMV,zGr,bnd_some,zBe]
 by_cases h1:97<=c<;>by_cases h2:c<=122<;>by_cases h3:65<=c<;>by_cases h4:c<=90<;>by_cases h5:48<=c<;>by_cases h6:c<=57<;>simp [h1,h2,h3,h4,h5,h6]<;>(first | omega | exact end3 c)
theorem zMI (b:UInt8):(decide (97<=(b.toNat:Int))&&decide ((b.toNat:Int)<=122))=lowB b:=by
 unfold lowB;congr 1<;>exact decide_eq_decide.2 (by omega)
theorem zO7 (b:UInt8):(decide (65<=(b.toNat:Int))&&decide ((b.toNat:Int)<=90))=upB b:=by
 unfold upB;congr 1<;>exact decide_eq_decide.2 (by omega)
theorem zOm (fu:Nat) (b:UInt8):zDM fu (b.toNat:Int)=some (zI6 b):=by
 rw [zNT,zMI,zO7];unfold zI6
 congr 1
 have e1:(decide (48<=(b.toNat:Int))&&decide ((b.toNat:Int)<=57))=(decide (48<=b.toNat)&&decide (b.toNat<=57)):=by congr 1<;>exact decide_eq_decide.2 (by omega)
 have e2:decide ((b.toNat:Int)=45)=decide (b.toNat=45):=decide_eq_decide.2 (by omega)
 have e3:decide ((b.toNat:Int)=95)=decide (b.toNat=95):=decide_eq_decide.2 (by omega)
 have e4:decide ((b.toNat:Int)=46)=decide (b.toNat=46):=decide_eq_decide.2 (by omega)
 rw [e1,e2,e3,e4]
theorem zRm (fu:Nat) (c:Int) (h:128<=c):zDM fu c=some false:=by
 rw [zNT]
 simp only [decide_eq_false (show ¬c<=122 by omega),decide_eq_false (show ¬c<=90 by omega),decide_eq_false (show ¬c<=57 by omega),decide_eq_false (show ¬c=45 by omega),decide_eq_false (show ¬c=95 by omega),decide_eq_false (show ¬c=46 by omega),Bool.and_false,Bool.or_false]
theorem zJw {fu:Nat} {t:Int->Option Bool} {f:UInt8->Bool} {s:Bs} (ht:∀b∈s,b.toNat<128->t (b.toNat:Int)=some (f b)) (hi:(∀b∈s,b.toNat<128)\/∀r:Int,128<=r->t r=some true) (hf:s.length<fu) :
  zBx fu t s=some (s.any fun b=>decide (128<=b.toNat)||f b):=by
 have key:∃r,zAw t s true fu 0=some r/\decide (r>=0)=s.any fun b=>decide (128<=b.toNat)||f b:=by
  refine up (L:=zAw t s true) (Inv:=fun i x=>x=i/\∀(j:Nat) (h:j<s.length),j<i->(decide (128<=s[j].toNat)||f s[j])=false) (Fin:=fun v=>∃r,v=some r/\decide (r>=0)=s.any fun b=>decide (128<=b.toNat)||f b) s.length (fun i x hl ⟨hx,hj⟩=>?_) (fun x ⟨hx,hj⟩=>?_) (i:=0) ⟨rfl,fun j _ hj=>by omega⟩ (Nat.zero_le _) (by omega)
  ·subst hx
   by_cases hc:(decide (128<=s[x].toNat)||f s[x])=true
   ·refine .inl ⟨some (x:Int),⟨_,rfl,?_⟩,fun k=>?_⟩
    ·rw [decide_eq_true (by omega)]
     exact (List.any_eq_true.2 ⟨_,List.getElem_mem hl,hc⟩).symm
    ·simp only [zAw]
     rw [zB8 (by simpa using hl)]
     by_cases hb:s[x].toNat<128
     ·rw [decide_eq_false (by omega),Bool.false_or] at hc
      rw [(zOi hl hb).1,ht _ (List.getElem_mem hl) hb,bnd_some,hc];rfl
     ·rcases hi with hi | hi
      ·exact absurd (hi _ (List.getElem_mem hl)) hb
      ·rw [hi _ (dec_hi hl (by omega))];rfl
   ·have hc':=Bool.eq_false_iff.2 hc
    have hb:s[x].toNat<128:=by
     rw [Bool.or_eq_false_iff,decide_eq_false_iff_not] at hc'
     omega
    refine .inr ⟨x+1,⟨rfl,fun j h hj'=>?_⟩,fun k=>?_⟩
    ·rcases Nat.lt_succ_iff_lt_or_eq.1 hj' with h' | h'
     ·exact hj j h h'
     ·subst h';exact hc'
    ·rw [Bool.or_eq_false_iff] at hc'
     simp only [zAw]
     rw [zB8 (by simpa using hl),(zOi hl hb).1,ht _ (List.getElem_mem hl) hb,bnd_some,hc'.2,(zOi hl hb).2];rfl
  ·subst hx
   refine ⟨some (-1),⟨_,rfl,?_⟩,fun k=>?_⟩
   ·have:(s.any fun b=>decide (128<=b.toNat)||f b)=false:=by
     rw [List.any_eq_false]
     intro b hb
     obtain ⟨j,h,rfl⟩:=List.mem_iff_getElem.1 hb
     simpa using hj j h h
    rw [this];rfl
   ·simp only [zAw]
    rw [zBY (by simp)]
 obtain ⟨r,h1,h2⟩:=key
 unfold zBx zCq zCn
 rw [h1,bnd_some,bnd_some,h2]
theorem zPL (b:UInt8) (fu:Nat):(bnd (rng .i32 (b.toNat:Int)) fun i4=>bnd (zCx fu i4) fun r5=>cnd r5 (some true) (bnd (zB6 fu i4) fun r6=>cnd r6 (some true) (some (i4==95))))=some (zSH b):=by
 have hb:=b.toNat_lt
 rw [zJ6 (by simp only [lo,hi];omega),bnd_some,zMV,zGr,bnd_some,bnd_some,zMI,zO7]
 unfold zSH
 have e:((b.toNat:Int)==95)=decide (b.toNat=95):=by rw [Bool.eq_iff_iff];simp;omega
 rw [e]
 cases lowB b<;>cases upB b<;>rfl
theorem zP6 (s:Bs):(s.any fun b=>decide (128<=b.toNat) || !(zI6 b)) = !(s.all zI6):=by
 rw [List.not_all_eq_any_not]
 congr 1
 funext b
 cases h:zI6 b
 ·simp
 ·have:b.toNat<128:=by
   unfold zI6 lowB upB at h
   simp only [Bool.or_eq_true,Bool.and_eq_true,decide_eq_true_eq] at h
   omega
  simp;omega
theorem zP4 {fu:Nat} {s:Bs} (hfu:40<fu):zEG fu s=some (zFo s):=by
 unfold zEG zFo
 rw [zDf,zDf]
 by_cases h1:s.length<1
 ·rw [if_pos (by omega)];simp [show ¬0<s.length by omega]
 rw [if_neg (by omega)]
 by_cases h2:s.length>40
 ·rw [if_pos (by omega)];simp [show ¬s.length<=40 by omega]
 rw [if_neg (by omega),zJw (f:=fun b => !(zI6 b)) (fun b _ _=>by unfold zBp;rw [zOm];rfl) (.inr fun r hr=>by unfold zBp;rw [zRm _ _ hr];rfl) (by omega),bnd_some,zP6,zHY]
 obtain ⟨b,t,rfl⟩:∃b t,s=b::t:=by cases s<;>simp_all
 rw [zPn]
 simp only [List.getElem?_cons_zero,Option.map_some,bnd_some]
 rw [zPL]
 rw [decide_eq_true (by omega),decide_eq_true (by omega)]
 cases (b::t).all zI6<;>simp
def lowI (y:Int):Int:=if 65<=y/\y<=90 then y+32 else y
theorem zOA (b:UInt8):upB b=true↔65<=b.toNat/\b.toNat<=90:=by unfold upB;simp
theorem zOK (b:UInt8):lowI (b.toNat:Int)=((zKO b).toNat:Int):=by
 unfold lowI zKO
 by_cases h:upB b=true
 ·have:=(zOA b).1 h
  rw [if_pos (by omega),if_pos h,UInt8.toNat_add]
  simp;omega
 ·have:¬(65<=b.toNat/\b.toNat<=90):=fun h'=>h ((zOA b).2 h')
  rw [if_neg (by omega),if_neg h]
theorem zRv (s:Bs):zDo ((zAP s).map lowI)=s.map zKO:=by
 unfold zDo zAP
 rw [List.map_map,List.map_map]
 refine List.map_congr_left fun b _=>?_
 simp only [Function.comp,zOK,Int.toNat_natCast,UInt8.ofNat_toNat]
theorem zON {fu:Nat} {s:Bs} (hf:s.length<fu) (hb:s.length<=1000000):zEE fu s=some (s.map zKO):=by
 unfold zEE
 rw [zDQ (by omega),bnd_some]
 have hl:(zAP s).length=s.length:=by simp [zAP]
 have:=upf (L:=zCF fu s) (f:=fun i=>((i:Int),mix lowI (zAP s) i)) (v:=some (s.map zKO)) (zAP s).length (fun i hi k=>?_) (fun k=>?_) (by rw [hl];exact hf)
 ·simpa [zPa] using this
 ·simp only [zCF]
  rw [zB8 (by simpa using hi),zQ5 lowI hi,bnd_some]
  have hy:(zAP s)[i]=((s[i]'(hl▸hi)).toNat:Int):=by simp [zAP]
  have hn:rng .i64 ((i:Int)+1)=some ((i+1:Nat):Int):=zCE (by omega)
  rw [<- zKj lowI hi]
  have hk:=zQW lowI hi
  rw [<- zKj lowI hi] at hk
  rw [hy] at hk ⊢
  have hb:=(s[i]'(hl▸hi)).toNat_lt
  generalize (s[i]'(hl▸hi)).toNat=n at hb hk
  rw [zJ6 (by simp only [lo,Go.Pw.hi];omega),bnd_some,zGr,bnd_some,hn]
  by_cases h:65<=(n:Int)/\(n:Int)<=90
  ·rw [zB8 (by simp;omega),zJ6 (by simp only [lo,Go.Pw.hi];omega),bnd_some,zJ6 (by simp only [lo,Go.Pw.hi];omega),bnd_some,bnd_some,bnd_some]
   unfold lowI
   rw [if_pos h,show (n:Int) - 65+97=n+32 by omega]
  ·have e:lowI (n:Int)=n:=if_neg h
   rw [zBY (by simp;omega),bnd_some,<- hk e]
 ·simp only [zCF]
  rw [zBY (by simp),zRt,zRv]
def words:List Bs:=[[97,110,110,111,116,97,116,105,111,110,45,120,109,108],[99,111,108,111,114,45,112,114,111,102,105,108,101],[102,111,110,116,45,102,97,99,101],[102,111,110,116,45,102,97,99,101,45,115,114,99],[102,111,110,116,45,102,97,99,101,45,117,114,105],[102,111,110,116,45,102,97,99,101,45,102,111,114,109,97,116],[102,111,110,116,45,102,97,99,101,45,110,97,109,101],[109,105,115,115,105,110,103,45,103,108,121,112,104]]
theorem zGn {s:Bs} (h:zFo s=true):0<s.length/\s.length<=40:=by
 unfold zFo at h
 simp only [Bool.and_eq_true,decide_eq_true_eq] at h
 exact h.1.1
def fitB (s:Bs):Bool:=zFo s&&(s.map zKO==s)
theorem zQj {fu:Nat} {s:Bs} (hfu:200<fu):zEb fu s=some (if zFo s then (s.map zKO,0) else ([],4)):=by
 unfold zEb
 rw [zP4 (by omega),bnd_some,zHY]
 cases hr:zFo s
 ·rfl
 ·have:=zGn hr
  rw [cnd_true,zON (by omega) (by omega),bnd_some];rfl
end Go.Proofs.YtoboimmgglnjfaaGreatDoor
/- Texts as bytes: lines, cuts at a sign, numbers as text and back. No program is named here. -/
namespace Go.Pw
open Go
theorem zGs:∀{l r:List UInt8},(10:UInt8)∉l->zBO (l++10::r)=(l++[10])::zBO r
 | [],r,_=>by simp [zBO]
 | b::l,r,h=>by
  have hb:¬b=10:=fun e=>h (by simp [e])
  have ih:=zGs (l:=l) (r:=r) (fun hm=>h (List.mem_cons_of_mem _ hm))
  rw [List.cons_append,zBO,if_neg hb,ih]
  rfl
theorem zG0:∀(s:List UInt8),(zBO s).flatten=s
 | []=>rfl
 | b::r=>by
  have ih:=zG0 r
  rw [zBO]
  by_cases hb:b=10
  ·simp [hb,ih]
  ·rw [if_neg hb]
   cases h:zBO r with
   | nil=>rw [h] at ih;simp at ih;simp [<- ih]
   | cons l ls=>rw [h] at ih;simp at ih ⊢;exact ih
theorem zFF:∀(s l:List UInt8),l∈zBO s->(∃t,l=t++[10]/\(10:UInt8)∉t)\/(l≠[]/\(10:UInt8)∉l)
 | [],l,h=>by simp [zBO] at h
 | b::r,l,h=>by
  rw [zBO] at h
  by_cases hb:b=10
  ·simp only [hb,if_true,List.mem_cons] at h
   rcases h with rfl | h
   ·exact .inl ⟨[],rfl,by simp⟩
   ·exact zFF r l h
  ·rw [if_neg hb] at h
   have ih:=zFF r
   cases hr:zBO r with
   | nil =>
    rw [hr] at h;simp at h;subst h
    exact .inr ⟨by simp,by simpa using Ne.symm hb⟩
   | cons l0 ls =>
    rw [hr] at h ih
    simp only [List.mem_cons] at h
    rcases h with rfl | h
    ·rcases ih l0 (by simp) with ⟨t,rfl,ht⟩ | ⟨_,ht⟩
     ·exact .inl ⟨b::t,rfl,by simp [Ne.symm hb,ht]⟩
     ·exact .inr ⟨by simp,by simp [Ne.symm hb,ht]⟩
    ·exact ih l (by simp [h])
theorem zHW {α : Type}:∀{L:List (List α)} {l:List α},l∈L->l.length<=L.flatten.length
 | a::L,l,h=>by
  rcases List.mem_cons.1 h with rfl | h
  ·simp
  ·have:=zHW h
   rw [List.flatten_cons,List.length_append];omega
theorem zE5 {s l:List UInt8} (h:l∈zBO s):l.length<=s.length:=by
 have:=zHW h
 rwa [zG0] at this
theorem zMY:∀{w r:List UInt8} {c:UInt8},c∉w->Lib.indexByte (w++c::r) c=(w.length:Nat)
 | [],r,c,_=>by simp [Lib.indexByte]
 | b::w,r,c,h=>by
  have hb:¬b=c:=fun e=>h (by simp [e])
  have ih:=zMY (w:=w) (r:=r) (c:=c) (fun hm=>h (List.mem_cons_of_mem _ hm))
  rw [List.cons_append,zFm,if_neg hb,ih,if_neg (by omega)]
  simp
theorem zMb {w:List UInt8} {c:UInt8} (h:c∉w):Lib.indexByte w c = -1:=by
 have:=zEI w c
 by_cases h0:0<=Lib.indexByte w c
 ·exact absurd (this.1.1 h0) h
 ·omega
theorem zHE {s:List UInt8} {c:UInt8} (h:c∈s):∃w r,s=w++c::r/\c∉w:=by
 induction s with
 | nil=>cases h
 | cons b s ih =>
  by_cases hb:b=c
  ·exact ⟨[],s,by simp [hb],by simp⟩
  ·obtain ⟨w,r,rfl,hw⟩:=ih (by simpa [Ne.symm hb] using h)
   exact ⟨b::w,r,rfl,by simp [Ne.symm hb,hw]⟩
theorem zJe:∀(l r:List UInt8) (acc:Nat),Lib.parseUint10 acc (l++r)=match Lib.parseUint10 acc l with
  | .ok a=>Lib.parseUint10 a r
  | e=>e
 | [],r,acc=>by simp [Lib.parseUint10]
 | c::l,r,acc=>by
  simp only [List.cons_append,Lib.parseUint10]
  have ih:=zJe l r
  split
  ·split
   ·rfl
   ·split
    ·rfl
    ·exact ih _
  ·rfl
theorem zJM {d:Nat} (h:d<10):(UInt8.ofNat (48+d)).toNat=48+d:=by simp;omega
theorem zGx:∀(u:Nat),u<18446744073709551616->Lib.parseUint10 0 (Lib.decDigits u)=.ok u:=by
 intro u
 induction u using Nat.strongRecOn with
 | ind u ih =>
  intro hu
  rw [Lib.decDigits]
  by_cases h:u<10
  ·rw [dif_pos h]
   simp only [Lib.parseUint10,zJM h]
   rw [if_pos (by omega),if_neg (by omega),if_neg (by omega)]
   simp
  ·rw [dif_neg h,zJe,ih (u / 10) (by omega) (by omega)]
   have hd:u % 10<10:=Nat.mod_lt _ (by omega)
   simp only [Lib.parseUint10,zJM hd]
   rw [if_pos (by omega),if_neg (by omega),if_neg (by omega)]
   congr 1
   omega
theorem zJr (u:Nat):Lib.decDigits u≠[]:=by
 rw [Lib.decDigits];split<;>simp
theorem zFe:∀(u:Nat) (b:UInt8),b∈Lib.decDigits u->48<=b.toNat/\b.toNat<=57:=by
 intro u
 induction u using Nat.strongRecOn with
 | ind u ih =>
  intro b hb
  rw [Lib.decDigits] at hb
  by_cases h:u<10
  ·rw [dif_pos h,List.mem_singleton] at hb
   subst hb
   rw [zJM h];omega
  ·rw [dif_neg h] at hb
   simp only [List.mem_append,List.mem_singleton] at hb
   rcases hb with hb | rfl
   ·exact ih _ (by omega) b hb
   ·have hd:u % 10<10:=Nat.mod_lt _ (by omega)
    rw [zJM hd];omega
theorem zQT {n:Int} {b:UInt8} (h:b∈Lib.itoa n):b=45\/48<=b.toNat/\b.toNat<=57:=by
 unfold Lib.itoa at h
 split at h
 ·simp only [List.mem_cons] at h
  rcases h with h | h
  ·exact .inl h
  ·exact .inr (zFe _ _ h)
 ·exact .inr (zFe _ _ h)
theorem zN0 {n:Int} {c:UInt8} (h:c.toNat<45\/c.toNat=46\/c.toNat=47\/57<c.toNat):c∉Lib.itoa n:=fun hm=>by
 rcases zQT hm with h' | h'
 ·subst h';simp at h
 ·omega
theorem zOs {n:Int} (h1 : -9223372036854775808<=n) (h2:n<=9223372036854775807):Lib.atoiAll (Lib.itoa n)=.ok n:=by
 unfold Lib.itoa
 by_cases h:n<0
 ·rw [if_pos h]
  have hm:Lib.parseMag (Lib.decDigits n.natAbs)=.ok n.natAbs:=by
   unfold Lib.parseMag;rw [if_neg (zJr _),zGx _ (by omega)]
  simp only [Lib.atoiAll]
  rw [if_pos (by right;rfl),hm]
  simp only []
  rw [if_neg (by intro hh;exact hh.1 rfl),if_neg (by omega),if_pos (by rfl)]
  congr 1
  omega
 ·rw [if_neg h]
  cases hd:Lib.decDigits n.toNat with
  | nil=>exact absurd hd (zJr _)
  | cons c r =>
   have hc:=zFe n.toNat c (by rw [hd];simp)
   have hm:Lib.parseMag (c::r)=.ok n.toNat:=by
    unfold Lib.parseMag;rw [if_neg (by simp),<- hd,zGx _ (by omega)]
   simp only [Lib.atoiAll]
   rw [if_neg (by omega),hm]
   simp only []
   rw [if_neg (by omega),if_neg (by omega),if_neg (by omega)]
   congr 1
   omega
theorem zIM (u:Nat):u<10 ^ 20->(Lib.decDigits u).length<=20:=by
 have key:∀(k u:Nat),u<10 ^ (k+1)->(Lib.decDigits u).length<=k+1:=by
  intro k
  induction k with
  | zero=>intro u h;rw [Lib.decDigits,dif_pos (by simpa using h)];simp
  | succ k ih =>
   intro u h
   rw [Lib.decDigits]
   split
   ·simp
   ·have:=ih (u / 10) (by rw [Nat.pow_succ] at h;omega)
    simp;omega
 exact key 19 u
theorem zPl {n:Int} (h1 : -9223372036854775808<=n) (h2:n<=9223372036854775807):(Lib.itoa n).length<=21:=by
 unfold Lib.itoa
 split
 ·have:=zIM n.natAbs (by omega)
  simp;omega
 ·have:=zIM n.toNat (by omega)
  omega
theorem zMi {s:List UInt8} {v:Int} (h:Lib.atoiAll s=.ok v) : -9223372036854775808<=v/\v<=9223372036854775807:=by
 unfold Lib.atoiAll at h
 split at h
 ·cases h
 ·simp only [] at h
  split at h
  ·cases h
  ·cases h
  ·split at h
   ·cases h
   ·split at h
    ·cases h
    ·cases h
     split<;>omega
end Go.Pw
/- Texts as bytes: texts in quotes and back; numbers without a digit to spare; pieces of a text behind a place. No program is named here. -/
namespace Go.Pw
open Go
theorem zJv (s t:List UInt8):zAP (s++t)=zAP s++zAP t:=by simp [zAP]
theorem zNx (b:UInt8):zAP [b]=[(b.toNat:Int)]:=rfl
theorem zHe (s:List UInt8):(zAP s).length=s.length:=by simp [zAP]
theorem zNm (s:List UInt8):zDo (zAP s)=s:=by
 simp only [zDo,zAP,List.map_map]
 conv=>rhs;rw [<- List.map_id s]
 refine List.map_congr_left fun b _=>?_
 simp
theorem zF3 (b c:UInt8):((b.toNat:Int)==(c.toNat:Int))=(b==c):=by
 rw [Bool.eq_iff_iff,beq_iff_eq,beq_iff_eq,<- UInt8.toNat_inj];omega
def inI (n:Int):Prop := -9223372036854775808<=n/\n<=9223372036854775807
theorem zL4 {S r:List UInt8} {p:Nat} {c:UInt8} (h:S.drop p=c::r):chr S (p:Int)=some (c.toNat:Int):=by
 rw [zLQ]
 have:S[p]? = some c:=by
  have h2:(S.drop p)[0]? = some c:=by rw [h];rfl
  simpa using h2
 rw [this];rfl
theorem zJj {S r:List UInt8} {p:Nat} {c:UInt8} (h:S.drop p=c::r):p<S.length/\S.drop (p+1)=r:=by
 have hl:=congrArg List.length h
 simp at hl
 exact ⟨by omega,by rw [<- List.drop_drop,h];rfl⟩
theorem zNy {S:List UInt8} {p:Nat} (h:p<S.length):∃c r,S.drop p=c::r:=⟨S[p],S.drop (p+1),List.drop_eq_getElem_cons h⟩
def unq:List UInt8->Option (List UInt8×List UInt8)
 | []=>none
 | [b]=>if b=34 then some ([],[]) else none
 | b::c::r=>if b=34 then some ([],c::r) else if b=92 then (if c=34\/c=92 then (unq r).map fun x=>(c::x.1,x.2) else none) else (unq (c::r)).map fun x=>(b::x.1,x.2)
theorem zKy (r:List UInt8):unq (34::r)=some ([],r):=by cases r<;>simp [unq]
theorem zK3 {c:UInt8} (h:c=34\/c=92) (r:List UInt8):unq (92::c::r)=(unq r).map fun x=>(c::x.1,x.2):=by simp [unq,h]
theorem zIV {c:UInt8} (h:¬(c=34\/c=92)) (r:List UInt8):unq (92::c::r)=none:=by simp [unq,h]
theorem zH4:unq [92]=none:=by simp [unq]
theorem zLB {b:UInt8} (h1:b≠34) (h2:b≠92) (r:List UInt8):unq (b::r)=(unq r).map fun x=>(b::x.1,x.2):=by cases r<;>simp [unq,h1,h2]
theorem zRj:quoL []=[]:=rfl
theorem zGS (b:UInt8) (s:List UInt8):quoL (b::s)=quoB b++quoL s:=by simp [quoL]
theorem zMP {b:UInt8} (h:b=34\/b=92):quoB b=[92,b]:=by rcases h with rfl | rfl<;>rfl
theorem zNa {b:UInt8} (h1:b≠34) (h2:b≠92):quoB b=[b]:=by simp [quoB,zBL,h1,h2]
theorem zOc:∀(s r:List UInt8),unq (quoL s++34::r)=some (s,r)
 | [],r=>zKy r
 | b::s,r=>by
  have ih:=zOc s r
  rw [zGS]
  by_cases h:b=34\/b=92
  ·rw [zMP h]
   show unq (92::b::(quoL s++34::r))=_
   rw [zK3 h,ih];rfl
  ·have h1:b≠34:=fun e=>h (.inl e)
   have h2:b≠92:=fun e=>h (.inr e)
   rw [zNa h1 h2]
   show unq (b::(quoL s++34::r))=_
   rw [zLB h1 h2,ih];rfl
theorem zLM:∀(n:Nat) (t s r:List UInt8),t.length<=n->unq t=some (s,r)->t=quoL s++34::r
 | 0,t,s,r,hn,h=>by
  obtain rfl:=List.length_eq_zero_iff.1 (Nat.le_zero.1 hn)
  simp [unq] at h
 | n+1,[],s,r,hn,h=>by simp [unq] at h
 | n+1,b::t,s,r,hn,h=>by
  simp only [List.length_cons] at hn
  by_cases h1:b=34
  ·subst h1
   rw [zKy] at h
   cases h;rfl
  ·by_cases h2:b=92
   ·subst h2
    cases t with
    | nil=>rw [zH4] at h;cases h
    | cons c t =>
     by_cases h3:c=34\/c=92
     ·rw [zK3 h3] at h
      cases h4:unq t with
      | none=>rw [h4] at h;cases h
      | some x =>
       rw [h4] at h
       cases h
       have:=zLM n t x.1 x.2 (by simp at hn;omega) h4
       rw [zGS,zMP h3]
       show 92::c::t=92::c::(quoL x.1++34::x.2)
       rw [<- this]
     ·rw [zIV h3] at h;cases h
   ·rw [zLB h1 h2] at h
    cases h4:unq t with
    | none=>rw [h4] at h;cases h
    | some x =>
     rw [h4] at h
     cases h
     have:=zLM n t x.1 x.2 (by omega) h4
     rw [zGS,zNa h1 h2]
     show b::t=b::(quoL x.1++34::x.2)
     rw [<- this]
theorem zQ8:∀(s:List UInt8),s.length<=(quoL s).length
 | []=>Nat.le_refl _
 | b::s=>by
  have:=zQ8 s
  rw [zGS,List.length_append,List.length_cons]
  have:1<=(quoB b).length:=by unfold quoB;split<;>simp
  omega
theorem zOr {c:UInt8}:∀{s:List UInt8},c∈quoL s->c=92\/c∈s
 | [],h=>by simp [zRj] at h
 | b::s,h=>by
  rw [zGS,List.mem_append] at h
  rcases h with h | h
  ·unfold quoB at h
   split at h
   ·simp at h;rcases h with h | h
    ·exact .inl h
    ·exact .inr (by simp [h])
   ·simp at h;exact .inr (by simp [h])
  ·rcases zOr h with h | h
   ·exact .inl h
   ·exact .inr (by simp [h])
def val (l:List UInt8):Nat:=l.foldl (fun a c=>a*10+(c.toNat - 48)) 0
def isD (c:UInt8):Prop:=48<=c.toNat/\c.toNat<=57
instance (c:UInt8):Decidable (isD c):=by unfold isD;infer_instance
theorem zHu:∀(k u:Nat),u<10 ^ (k+1)->(Lib.decDigits u).length<=k+1:=by
 intro k
 induction k with
 | zero=>intro u h;rw [Lib.decDigits,dif_pos (by simpa using h)];simp
 | succ k ih =>
  intro u h
  rw [Lib.decDigits]
  split
  ·simp
  ·have:=ih (u / 10) (by rw [Nat.pow_succ] at h;omega)
   simp;omega
end Go.Pw
/- Operations: the library's functions on texts, the words and the fields of all kinds, and which operations are right. -/
namespace Go.Proofs.YtoboimmgglnjfaaGreatDoor
open Go Go.Pw
set_option linter.unusedVariables false
theorem zLP {fu:Nat} {w r:Bs} {c:UInt8} (hw:c∉w) (hl:(w++c::r).length<=1000000000):zAc fu (w++c::r) [c]=some (w,r,true):=by
 simp only [List.length_append,List.length_cons] at hl
 unfold zAc zBP
 simp only [zFW,bnd_some]
 rw [zMY hw,show decide (((w.length:Nat):Int)>=0)=true from by simp,cnd_true,show (0:Int)=((0:Nat):Int) from rfl,zCY (by omega) (by simp),bnd_some,
  show ((w.length:Nat):Int)+(([c].length:Nat):Int)=((w.length+1:Nat):Int) from by simp,zKI (by omega) (by omega),bnd_some,zCY (by simp) (by simp),bnd_some,bnd_some]
 simp
 exact List.take_of_length_le (by omega)
theorem zNK {fu:Nat} {s:Bs} {c:UInt8} (hs:c∉s):zAc fu s [c]=some (s,[],false):=by
 unfold zAc zBP
 simp only [zFW,bnd_some]
 rw [zMb hs]
 rfl
theorem zNV {fu:Nat} {s:Bs} (c:UInt8) (hl:s.length<=1000000000):∃w r b,zAc fu s [c]=some (w,r,b)/\w.length<=s.length/\r.length<=s.length:=by
 by_cases h:c∈s
 ·obtain ⟨w,r,rfl,hw⟩:=zHE h
  exact ⟨w,r,true,zLP hw hl,by simp,by simp;omega⟩
 ·exact ⟨s,[],false,zNK h,Nat.le_refl _,by simp⟩
theorem zK0 {fu:Nat} {c:UInt8}:zAN fu [] [c]=some ([],false):=by
 unfold zAN zA0 zAU
 rfl
theorem zHJ {fu:Nat} {b c:UInt8} {r:Bs} (hl:r.length<=1000000000):zAN fu (b::r) [c]=some (if b=c then (r,true) else (b::r,false)):=by
 unfold zAN zA0 zAU
 rw [show decide ((((b::r).length:Nat):Int)>=(([c].length:Nat):Int))=true from by simp;omega,cnd_true]
 rw [show (0:Int)=((0:Nat):Int) from rfl,zCY (by omega) (by simp),bnd_some,bnd_some]
 rw [show (((b::r).drop 0).take ([c].length - 0)==[c])=decide (b=c) from by simp [Bool.beq_eq_decide_eq]]
 by_cases h:b=c
 ·rw [if_pos h]
  simp only [h,decide_true,Bool.not_true,cnd_false]
  rw [zCY (by simp) (by simp),bnd_some,bnd_some]
  simp
 ·rw [if_neg h]
  simp [h]
theorem zLS {fu:Nat} {s:Bs} {c:UInt8} (hl:s.length<=1000000000):∃r b,zAN fu s [c]=some (r,b)/\r.length<=s.length:=by
 cases s with
 | nil=>exact ⟨_,_,zK0,Nat.le_refl _⟩
 | cons b s =>
  rw [zHJ (by simp at hl;omega)]
  by_cases h:b=c
  ·rw [if_pos h];exact ⟨_,_,rfl,by simp⟩
  ·rw [if_neg h];exact ⟨_,_,rfl,Nat.le_refl _⟩
theorem zQS {fu:Nat} {c:UInt8}:zBR fu [] [c]=some false:=by
 unfold zBR zAU
 rfl
theorem zPF {fu:Nat} {b c:UInt8} {r:Bs}:zBR fu (b::r) [c]=some (decide (b=c)):=by
 unfold zBR zAU
 rw [show decide ((((b::r).length:Nat):Int)>=(([c].length:Nat):Int))=true from by simp;omega,cnd_true]
 rw [show (0:Int)=((0:Nat):Int) from rfl,zCY (by omega) (by simp),bnd_some,bnd_some]
 simp [Bool.beq_eq_decide_eq]
theorem zLR {fu:Nat} {l:List Bs} {v:Bs} (hl:l.length<fu) (hb:l.length<=1000000000):zAd fu l v=match (List.range l.length).find? fun i=>v==l.getD i [] with
  | some i=>some (i:Int)
  | none=>some (-1):=by
 unfold zAd
 have at_:∀i,i<l.length->∀k,zAg l v (k+1) (i:Int)=cnd (v==l.getD i []) (some (i:Int)) (zAg l v k ((i+1:Nat):Int)):=fun i hi k=>by
  rw [zAg,show decide ((i:Int)<((l.length:Nat):Int))=true from by simpa using hi,cnd_true,zDw hi,bnd_some,zCE (by omega),bnd_some]
  simp [List.getD,hi]
 exact zRV (L:=zAg l v) (fun i=>v==l.getD i []) (fun i=>some (i:Int)) (some (-1)) l.length
  (fun i hi hp k=>by rw [at_ i hi k,hp,cnd_true]) (fun i hi hp k=>by rw [at_ i hi k,hp,cnd_false]) (fun k=>by
   rw [zAg,show decide (((l.length:Nat):Int)<((l.length:Nat):Int))=false from by simp,cnd_false]) hl
theorem wstr {fu:Nat} {s t:Bs} (h:t.length+s.length<=1000000000):zAF fu s (zAP t)=some (((s.length:Nat):Int),false,zAP (t++s)):=by
 unfold zAF
 simp only [zAY,bnd_some]
 rw [zHe,zDQ (by omega),bnd_some,zJv]
theorem zR0 {fu:Nat} {b:UInt8} {t:Bs} (h:t.length<1000000000):zAl fu (b.toNat:Int) (zAP t)=some (false,zAP (t++[b])):=by
 unfold zAl
 simp only [zAY,bnd_some]
 rw [zHe,zDQ (by simp;omega),bnd_some,zJv,zNx]
theorem bstr {fu:Nat} {t:Bs}:zAW fu (zAP t)=some t:=congrArg some (zNm t)
def wordsL:List Bs:=[[45],[110,101,119],[100,114,97,102,116],[116,101,120,116],[102,114,97,103],[115,104,97,100,101],[112,117,116],[111,117,116],[115,119,97,112],[115,101,116],[117,110,115,101,116],[116,111,103,103,108,101],[99,111,112,121],[116,97,107,101],[101,109,112,116,121],[106,111,105,110],[100,101,102,105,110,101],[119,97,105,116],[117,112,103,114,97,100,101],[98,117,105,108,100],[115,117,112,101,114],[103,105,118,101],[116,104,114,111,119],[114,101,115,101,116],[114,101,115,116,111,114,101],[114,101,115,116],[104,97,110,100,112,117,116],[104,97,110,100,111,117,116],[104,97,110,100,115,101,116]]
theorem zO9 (fu:Nat):zFT fu=some wordsL:=by kernel_rfl
def Knd (k:Int):Prop:=0<k/\k<=28
instance (k:Int):Decidable (Knd k):=by unfold Knd;infer_instance
def wd (k:Int):Bs:=if Knd k then wordsL.getD k.toNat [] else []
def fieldsL:List Bs:=[[110,46,46,46,46],[110,46,46,115,115],[110,46,46,115,115],[110,46,46,115,46],[110,46,46,46,46],[110,46,46,46,46],[110,110,111,46,46],[110,46,46,46,46],[110,110,111,46,46],[110,46,46,115,115],[110,46,46,115,46],[110,105,46,115,46],[110,105,110,46,46],[110,110,46,46,46],[110,46,46,46,46],[110,46,46,46,46],[105,46,46,115,115],[46,46,46,115,46],[110,46,46,46,46],[105,46,46,46,46],[46,46,46,46,46],[110,46,46,46,46],[46,46,46,46,46],[110,46,46,46,46],[110,46,46,115,46],[46,46,46,46,46],[110,110,111,46,46],[110,46,46,46,46],[110,46,46,115,115]]
def fd (k:Int):Bs:=if Knd k then fieldsL.getD k.toNat [] else [110,46,46,46,46]
theorem zIB {k:Int} (h:Knd k):k=1\/k=2\/k=3\/k=4\/k=5\/k=6\/k=7\/k=8\/k=9\/k=10\/k=11\/k=12\/k=13\/k=14\/k=15\/k=16\/k=17\/k=18\/k=19\/k=20\/k=21\/k=22\/k=23\/k=24\/k=25\/k=26\/k=27\/k=28:=by
 unfold Knd at h;omega
theorem zQk (fu:Nat) (k:Int):zB3 fu k=some (wd k):=by
 unfold zB3
 rw [zO9,bnd_some]
 by_cases h:Knd k
 ·have hw:wd k=wordsL.getD k.toNat []:=if_pos h
  rw [hw]
  obtain ⟨h1,h2⟩:=h
  obtain ⟨n,rfl⟩:∃n:Nat,k=(n:Int):=⟨k.toNat,by omega⟩
  rw [show decide ((n:Int)>0)=true from by simpa using h1,cnd_true,show decide ((n:Int)<((wordsL.length:Nat):Int))=true from by simp [wordsL];omega,cnd_true]
  have hl:n<wordsL.length:=by simp [wordsL];omega
  rw [zDw hl,bnd_some]
  simp [List.getD,hl]
 ·rw [wd,if_neg h]
  unfold Knd at h
  by_cases h1:k>0
  ·rw [show decide (k>0)=true from by simpa using h1,cnd_true,show decide (k<((wordsL.length:Nat):Int))=false from by simp [wordsL];omega,cnd_false]
  ·rw [show decide (k>0)=false from by simpa using h1,cnd_false]
theorem zOb (fu:Nat) (k:Int):zCp fu k=some (⟨wd k,fd k⟩,decide (Knd k)):=by
 by_cases h:Knd k
 ·rw [show decide (Knd k)=true from by simpa using h]
  rcases zIB h with rfl | rfl | rfl | rfl | rfl | rfl | rfl | rfl | rfl | rfl | rfl | rfl | rfl | rfl | rfl | rfl | rfl | rfl | rfl | rfl | rfl | rfl | rfl | rfl | rfl | rfl | rfl | rfl <;>
   simp [zCp,zCa,zCu,zCz,zCt,zQk,fd,fieldsL,Knd]
 ·rw [show decide (Knd k)=false from by simpa using h,fd,if_neg h]
  unfold Knd at h
  have e:∀j:Int,0<j->j<=28->(k==j)=false:=fun j h1 h2=>beq_false_of_ne (fun e=>h (by omega))
  simp only [zCp,zCa,zCu,zCz,zCt,zQk,bnd_some,
   e 1 (by decide) (by decide),e 2 (by decide) (by decide),e 3 (by decide) (by decide),e 6 (by decide) (by decide),e 8 (by decide) (by decide),e 9 (by decide) (by decide),e 10 (by decide) (by decide),e 11 (by decide) (by decide),e 12 (by decide) (by decide),e 13 (by decide) (by decide),e 16 (by decide) (by decide),e 17 (by decide) (by decide),e 19 (by decide) (by decide),e 20 (by decide) (by decide),e 22 (by decide) (by decide),e 24 (by decide) (by decide),e 25 (by decide) (by decide),e 26 (by decide) (by decide),e 28 (by decide) (by decide),cnd_false]
  by_cases h1:k>0
  ·rw [show decide (k>0)=true from by simpa using h1,cnd_true,show decide (k<=28)=false from by simp;omega]
  ·rw [show decide (k>0)=false from by simpa using h1,cnd_false]
def fc (k:Int) (i:Nat):UInt8:=(fd k).getD i 0
theorem fd_len (k:Int):(fd k).length=5:=by
 unfold fd
 split
 ·rename_i h
  rcases zIB h with rfl | rfl | rfl | rfl | rfl | rfl | rfl | rfl | rfl | rfl | rfl | rfl | rfl | rfl | rfl | rfl | rfl | rfl | rfl | rfl | rfl | rfl | rfl | rfl | rfl | rfl | rfl | rfl<;>rfl
 ·rfl
theorem zER {k:Int} {i:Nat} (hi:i<5):chr (fd k) (i:Int)=some ((fc k i).toNat:Int):=by
 have:i<(fd k).length:=by rw [fd_len];exact hi
 rw [zQe this,fc,List.getD_eq_getElem?_getD,List.getElem?_eq_getElem this];rfl
theorem zGB (k:Int) {i:Nat} (hi:i<3):fc k i=110\/fc k i=111\/fc k i=105\/fc k i=46:=by
 have key:∀j:Fin 29,∀i:Fin 3,(fieldsL.getD j.1 []).getD i.1 0=110\/(fieldsL.getD j.1 []).getD i.1 0=111\/(fieldsL.getD j.1 []).getD i.1 0=105\/(fieldsL.getD j.1 []).getD i.1 0=46:=by decide
 unfold fc fd
 split
 ·rename_i h
  exact key ⟨k.toNat,by unfold Knd at h;omega⟩ ⟨i,hi⟩
 ·exact key ⟨0,by omega⟩ ⟨i,hi⟩
theorem zIP (k:Int) {i:Nat} (h3:3<=i) (hi:i<5):fc k i=115\/fc k i=46:=by
 have key:∀j:Fin 29,∀i:Fin 5,3<=i.1->(fieldsL.getD j.1 []).getD i.1 0=115\/(fieldsL.getD j.1 []).getD i.1 0=46:=by decide
 unfold fc fd
 split
 ·rename_i h
  exact key ⟨k.toNat,by unfold Knd at h;omega⟩ ⟨i,hi⟩ h3
 ·exact key ⟨0,by omega⟩ ⟨i,hi⟩ h3
def fit (f:UInt8) (n:Int):Bool :=
 if f=105 then decide (-1000<=n/\n<=1000) else if f=110\/f=111 then decide (n = -2\/n = -3\/0<=n/\n<400\/f=111/\n = -1) else decide (n=0)
def fitT (f:UInt8) (s:Bs):Bool:=if f=115 then decide (s.length<=200/\(10:UInt8)∉s) else decide (s=[])
def zE7 (o:Op):Bool:=decide (Knd o.Kind)&&(fit (fc o.Kind 0) o.A&&(fit (fc o.Kind 1) o.B&&(fit (fc o.Kind 2) o.C&&(fitT (fc o.Kind 3) o.S&&fitT (fc o.Kind 4) o.T))))
theorem zQp (n:Int):zEU n ()=some (decide (n = -2\/n = -3\/0<=n/\n<400)):=by
 unfold zEU
 simp only [zBe,zDf]
 by_cases h1:n = -2
 ·simp [h1]
 by_cases h2:n = -3
 ·simp [h2]
 by_cases h3:n>=0
 ·rw [if_neg h1,if_neg h2,if_pos h3]
  congr 1
  rw [decide_eq_decide]
  omega
 ·rw [if_neg h1,if_neg h2,if_neg h3,eq_comm,decide_eq_false]
  omega
theorem zRw (fu:Nat) {f:UInt8} (hf:f=110\/f=111\/f=105\/f=46) (n:Int):zFQ fu (f.toNat:Int) n=some (fit f n):=by
 unfold zFQ
 rcases hf with rfl | rfl | rfl | rfl
 ·show cnd false _ (cnd true (zEU n ()) _)=_
  rw [cnd_false,cnd_true,zQp]
  congr 1
  simp [fit]
 ·show cnd true _ _=_
  rw [cnd_true,zBe,zQp]
  by_cases h:n = -1
  ·rw [if_pos h];simp [fit,h]
  ·rw [if_neg h];congr 1;simp [fit,h]
 ·show cnd false _ (cnd false _ (cnd true _ _))=_
  rw [cnd_false,cnd_false,cnd_true,zDf]
  by_cases h:n >= -1000
  ·rw [if_pos h];congr 1;simp [fit];omega
  ·rw [if_neg h];congr 1;simp [fit];omega
 ·show cnd false _ (cnd false _ (cnd false _ _))=_
  rw [cnd_false,cnd_false,cnd_false]
  congr 1
theorem has_m (fu:Nat) (s:Bs) (c:UInt8):zCM fu s [c]=some (decide (c∈s)):=by
 unfold zCM zD8
 simp only [zFW,bnd_some]
 congr 1
 by_cases h:c∈s
 ·have:=(zEI s c).1.2 h
  simp [h];omega
 ·rw [zMb h];simp [h]
theorem zJ5 (fu:Nat) {f:UInt8} (hf:f=115\/f=46) (s:Bs):zCT fu (f.toNat:Int) s=some (fitT f s):=by
 unfold zCT
 rcases hf with rfl | rfl
 ·show cnd true _ _=_
  rw [cnd_true,zDf,has_m,bnd_some]
  by_cases h:(s.length:Int)<=200
  ·rw [if_pos h];congr 1
   simp [fitT]
   omega
  ·rw [if_neg h];congr 1
   simp [fitT]
   intro h2;omega
 ·show cnd false _ _=_
  rw [cnd_false]
  congr 1
  cases s<;>rfl
theorem zNn (fu:Nat) (o:Op):zDt fu o=some (zE7 o):=by
 unfold zDt
 simp only [zOb,bnd_some,zCS]
 have j2:∀b ok:Bool,zDI fu o (⟨wd o.Kind,fd o.Kind⟩,b) ok=some (ok&&(fitT (fc o.Kind 3) o.S&&fitT (fc o.Kind 4) o.T)):=fun b ok=>by
  unfold zDI
  simp only [zCc,bnd_some]
  cases ok with
  | false=>rfl
  | true =>
   rw [cnd_true,show rng .i64 (3+0)=some ((3:Nat):Int) from rfl,bnd_some,zER (by omega),bnd_some,zJ5 fu (zIP _ (by omega) (by omega)),bnd_some]
   cases fitT (fc o.Kind 3) o.S with
   | false=>rfl
   | true =>
    rw [cnd_true,show rng .i64 (3+1)=some ((4:Nat):Int) from rfl,bnd_some,zER (by omega),bnd_some,zJ5 fu (zIP _ (by omega) (by omega)),bnd_some]
    rfl
 have j1:∀b ok:Bool,zD5 fu o (⟨wd o.Kind,fd o.Kind⟩,b) ok=some (ok&&(fit (fc o.Kind 1) o.B&&(fit (fc o.Kind 2) o.C&&(fitT (fc o.Kind 3) o.S&&fitT (fc o.Kind 4) o.T)))):=fun b ok=>by
  unfold zD5
  cases ok with
  | false=>rw [cnd_false,j2];rfl
  | true =>
   rw [cnd_true,show (1:Int)=((1:Nat):Int) from rfl,zER (by omega),bnd_some,zRw fu (zGB _ (by omega)),bnd_some]
   cases fit (fc o.Kind 1) o.B with
   | false=>rw [cnd_false,j2];rfl
   | true =>
    rw [cnd_true,show (2:Int)=((2:Nat):Int) from rfl,zER (by omega),bnd_some,zRw fu (zGB _ (by omega)),bnd_some,j2]
    rfl
 unfold zE7
 cases hk:decide (Knd o.Kind) with
 | false=>rw [cnd_false,j1];rfl
 | true =>
  rw [cnd_true,show (0:Int)=((0:Nat):Int) from rfl,zER (by omega),bnd_some,zRw fu (zGB _ (by omega)),bnd_some,j1]
  rfl
end Go.Proofs.YtoboimmgglnjfaaGreatDoor
/- An operation's text, and what op.Put comes to. -/
namespace Go.Proofs.YtoboimmgglnjfaaGreatDoor
open Go Go.Pw
set_option linter.unusedVariables false
def tl (l:List Bs):Bs:=l.flatMap fun f=>32::f
theorem zDk:tl []=[]:=rfl
theorem zDG (f:Bs) (l:List Bs):tl (f::l)=32::(f++tl l):=rfl
theorem zKK (l m:List Bs):tl (l++m)=tl l++tl m:=by simp [tl]
def zNJ:Bs:=[115,101,108,102]
def zNt:Bs:=[108,97,115,116]
def numW (f:UInt8) (n:Int):Bs:=if f=105\/0<=n then Lib.itoa n else if n = -1 then [45] else if n = -2 then zNJ else zNt
def numL (f:UInt8) (n:Int):List Bs:=if f=46 then [] else [numW f n]
def qS (s:Bs):Bs:=34::quoL s++[34]
def txtL (f:UInt8) (s:Bs):List Bs:=if f=115 then [qS s] else []
def zGg (o:Op):List Bs:=txtL (fc o.Kind 3) o.S++txtL (fc o.Kind 4) o.T
def zC9 (o:Op):List Bs:=numL (fc o.Kind 0) o.A++(numL (fc o.Kind 1) o.B++(numL (fc o.Kind 2) o.C++zGg o))
def bang (b:Bool):Bs:=if b then [33] else []
def putP (o:Op):Bs:=bang o.Must++(wd o.Kind++tl (zC9 o))
theorem zQm (k:Int):(wd k).length<=7:=by
 have key:∀j:Fin 29,(wordsL.getD j.1 []).length<=7:=by decide
 unfold wd
 split
 ·rename_i h
  exact key ⟨k.toNat,by unfold Knd at h;omega⟩
 ·simp
theorem zDy {f:UInt8} {n:Int} (h:fit f n=true) : -1000<=n/\n<=1000:=by
 unfold fit at h
 split at h
 ·simpa using h
 ·split at h
  ·simp at h;omega
  ·simp at h;omega
theorem zIY {n:Int} (h1 : -1000<=n) (h2:n<=1000):(Lib.itoa n).length<=5:=by
 unfold Lib.itoa
 split
 ·have:=zHu 3 n.natAbs (by omega)
  simp;omega
 ·have:=zHu 3 n.toNat (by omega)
  omega
theorem zQA {f:UInt8} {n:Int} (h1 : -1000<=n) (h2:n<=1000):(numW f n).length<=5:=by
 unfold numW
 split
 ·exact zIY h1 h2
 ·split
  ·simp
  ·split<;>simp [zNJ,zNt]
theorem zFO {f:UInt8} {n:Int} (h1 : -1000<=n) (h2:n<=1000):(tl (numL f n)).length<=6:=by
 unfold numL
 split
 ·simp [zDk]
 ·have:=zQA (f:=f) h1 h2
  simp [zDG,zDk];omega
theorem zNc (s:Bs):(qS s).length<=2*s.length+2:=by
 have:=zGK s
 simp [qS];omega
theorem zIq (f:UInt8) (s:Bs):(tl (txtL f s)).length<=2*s.length+3:=by
 unfold txtL
 split
 ·have:=zNc s
  simp [zDG,zDk];omega
 ·simp [zDk]
theorem zKw {fu:Nat} {n:Int} (h:inI n):zIm fu n=some (Lib.itoa n):=if_pos h
theorem zJS {fu:Nat} {f:UInt8} {n:Int} {t:Bs} (hf:f=110\/f=111\/f=105\/f=46) (h1 : -1000<=n) (h2:n<=1000) (ht:t.length<=1000000) :
  zBG fu (f.toNat:Int) n (zAP t)=some (zAP (t++tl (numL f n))):=by
 have hl:=zIY h1 h2
 have j1:∀b:Bool,(b=true↔f=105\/0<=n)->zBr fu n (zAP t) b=some (zAP (t++32::numW f n)):=fun b hb=>by
  unfold zBr numW
  cases b with
  | true =>
   rw [if_pos (hb.1 rfl),cnd_true,zKw ⟨by omega,by omega⟩,bnd_some,zH2 (by simp;omega),bnd_some,wstr (by simp;omega),bnd_some]
   rfl
  | false =>
   rw [if_neg (fun h=>by have:=hb.2 h;cases this),cnd_false,zBe,zBe]
   by_cases e1:n = -1
   ·rw [if_pos e1,if_pos e1]
    show bnd (zAF fu [32,45] (zAP t)) _=_
    rw [wstr (by simp;omega)];rfl
   ·rw [if_neg e1,if_neg e1]
    by_cases e2:n = -2
    ·rw [if_pos e2,if_pos e2,wstr (by simp;omega)];rfl
    ·rw [if_neg e2,if_neg e2,wstr (by simp;omega)];rfl
 unfold zBG numL
 rcases hf with rfl | rfl | rfl | rfl
 ·show cnd false _ (cnd false _ _)=_
  rw [cnd_false,cnd_false,j1 _ (by simp),if_neg (by decide)]
  simp [zDG,zDk]
 ·show cnd false _ (cnd false _ _)=_
  rw [cnd_false,cnd_false,j1 _ (by simp),if_neg (by decide)]
  simp [zDG,zDk]
 ·show cnd false _ (cnd true (zBr fu n (zAP t) true) _)=_
  rw [cnd_false,cnd_true,j1 true (by simp),if_neg (by decide)]
  simp [zDG,zDk]
 ·show cnd true _ _=_
  rw [cnd_true,if_pos rfl]
  simp [zDk]
theorem zLy {fu:Nat} {s:Bs} (h:s.length<=1000000):zGm fu s=some (qS s):=by
 unfold zGm;rw [if_pos (by omega)];rfl
structure RightP (o:Op):Prop where
 kind:Knd o.Kind
 a:fit (fc o.Kind 0) o.A=true
 b:fit (fc o.Kind 1) o.B=true
 c:fit (fc o.Kind 2) o.C=true
 s:fitT (fc o.Kind 3) o.S=true
 t:fitT (fc o.Kind 4) o.T=true
theorem right_iff {o:Op}:zE7 o=true↔RightP o:=by
 unfold zE7
 simp only [Bool.and_eq_true,decide_eq_true_eq]
 exact ⟨fun h=>⟨h.1,h.2.1,h.2.2.1,h.2.2.2.1,h.2.2.2.2.1,h.2.2.2.2.2⟩,fun h=>⟨h.kind,h.a,h.b,h.c,h.s,h.t⟩⟩
theorem zFS {f:UInt8} {s:Bs} (h:fitT f s=true):s.length<=200/\(10:UInt8)∉s:=by
 unfold fitT at h
 split at h
 ·simpa using h
 ·simp at h;subst h;simp
theorem zQv {fu:Nat} {o:Op} {b:Bool} {t:Bs} (ho:o.T.length<=200) (ht:t.length<=10000) :
  zFE fu o (⟨wd o.Kind,fd o.Kind⟩,b) (zAP t)=some (t++tl (txtL (fc o.Kind 4) o.T),0):=by
 have hq:=zNc o.T
 unfold zFE txtL
 rw [show (4:Int)=((4:Nat):Int) from rfl,zER (by omega),bnd_some]
 rcases zIP o.Kind (i:=4) (by omega) (by omega) with h | h
 ·rw [h,if_pos rfl]
  show cnd true _ _=_
  rw [cnd_true,zLy (by omega),bnd_some,zH2 (by simp;omega),bnd_some,wstr (by simp;omega),bnd_some,bstr,bnd_some]
  simp [zDG,zDk]
 ·rw [h,if_neg (by decide)]
  show cnd false _ _=_
  rw [cnd_false,bstr,bnd_some]
  simp [zDk]
theorem zQr {fu:Nat} {o:Op} {b:Bool} {t:Bs} (h:RightP o) (ht:t.length<=1000) :
  zEW fu o (⟨wd o.Kind,fd o.Kind⟩,b) (zAP t)=some (t++(wd o.Kind++tl (zC9 o)),0):=by
 have hw:=zQm o.Kind
 obtain ⟨a1,a2⟩:=zDy h.a
 obtain ⟨b1,b2⟩:=zDy h.b
 obtain ⟨c1,c2⟩:=zDy h.c
 have l1:=zFO (f:=fc o.Kind 0) a1 a2
 have l2:=zFO (f:=fc o.Kind 1) b1 b2
 have l3:=zFO (f:=fc o.Kind 2) c1 c2
 have hs:=(zFS h.s).1
 have hT:=(zFS h.t).1
 have hq:=zNc o.S
 have l4:=zIq (fc o.Kind 3) o.S
 unfold zEW
 rw [wstr (by simp;omega),bnd_some]
 simp only [zCS,zCc,bnd_some]
 rw [show (0:Int)=((0:Nat):Int) from rfl,show (1:Int)=((1:Nat):Int) from rfl,show (2:Int)=((2:Nat):Int) from rfl,show (3:Int)=((3:Nat):Int) from rfl,
  zER (by omega),bnd_some,zJS (zGB _ (by omega)) a1 a2 (by simp;omega),bnd_some,zER (by omega),bnd_some,zJS (zGB _ (by omega)) b1 b2 (by simp;omega),bnd_some,zER (by omega),bnd_some,zJS (zGB _ (by omega)) c1 c2 (by simp;omega),bnd_some,zER (by omega),bnd_some]
 have e:∀x:Bs,x=t++(wd o.Kind++tl (zC9 o))->some (x,(0:Int))=some (t++(wd o.Kind++tl (zC9 o)),(0:Int)):=fun x hx=>by rw [hx]
 rcases zIP o.Kind (i:=3) (by omega) (by omega) with h3 | h3
 ·rw [h3]
  show cnd true _ _=_
  rw [cnd_true,zLy (by omega),bnd_some,zH2 (by simp;omega),bnd_some,wstr (by simp;omega),bnd_some,zQv hT (by simp;omega)]
  refine e _ ?_
  unfold zC9 zGg
  simp only [zKK,txtL,h3,if_true,zDG,List.append_assoc,List.cons_append,List.nil_append]
 ·rw [h3]
  show cnd false _ _=_
  rw [cnd_false,zQv hT (by simp;omega)]
  refine e _ ?_
  unfold zC9 zGg
  have:¬(46:UInt8)=115:=by decide
  simp only [zKK,txtL,h3,if_neg this,List.append_assoc,List.nil_append]
theorem zSG (fu:Nat) (o:Op):zFU fu o=some (if zE7 o=true then (putP o,0) else ([],1)):=by
 unfold zFU
 rw [zNn,bnd_some]
 cases h:zE7 o with
 | false=>rfl
 | true =>
  have hr:=right_iff.1 h
  rw [if_pos rfl]
  simp only [Bool.not_true,cnd_false]
  rw [zOb,bnd_some]
  unfold putP bang
  cases o.Must with
  | true =>
   rw [cnd_true]
   show bnd (zAF fu [33] (zAP [])) _=_
   rw [wstr (by simp),bnd_some,zQr hr (by simp)]
   rfl
  | false =>
   rw [cnd_false]
   show zEW fu o _ (zAP [])=_
   rw [zQr hr (by simp)]
   rfl
theorem zOW {fu:Nat} {o:Op} (h:RightP o):zFU fu o=some (putP o,0):=by rw [zSG,if_pos (right_iff.2 h)]
theorem zI2 {o:Op} (h:RightP o):(putP o).length<=1000:=by
 obtain ⟨a1,a2⟩:=zDy h.a
 obtain ⟨b1,b2⟩:=zDy h.b
 obtain ⟨c1,c2⟩:=zDy h.c
 have l1:=zFO (f:=fc o.Kind 0) a1 a2
 have l2:=zFO (f:=fc o.Kind 1) b1 b2
 have l3:=zFO (f:=fc o.Kind 2) c1 c2
 have hs:=(zFS h.s).1
 have hT:=(zFS h.t).1
 have l4:=zIq (fc o.Kind 3) o.S
 have l5:=zIq (fc o.Kind 4) o.T
 have hw:=zQm o.Kind
 have hb:(bang o.Must).length<=1:=by cases o.Must<;>simp [bang]
 unfold putP zC9 zGg
 simp only [zKK,List.length_append]
 omega
end Go.Proofs.YtoboimmgglnjfaaGreatDoor
/- What op.Read comes to: at any text, and at an operation's own. -/
namespace Go.Proofs.YtoboimmgglnjfaaGreatDoor
open Go Go.Pw
set_option linter.unusedVariables false
theorem ratoi {fu:Nat} {w:Bs} (hw:w.length<=1000000000):∃n e,zHZ fu w=some (n,e)/\(e=false->inI n):=by
 unfold zHZ
 rw [if_pos (by omega)]
 generalize h:Lib.atoiAll w=q
 rcases q with v | _ | _
 ·exact ⟨_,_,rfl,fun _=>zMi h⟩
 ·exact ⟨_,_,rfl,fun e=>by cases e⟩
 ·exact ⟨_,_,rfl,fun e=>by cases e⟩
theorem zOu {fu:Nat} {f:Int} {w:Bs} (hw:w.length<=1000000000):∃n b,zBl fu f w ()=some (n,b):=by
 unfold zBl
 obtain ⟨n,e,h,hr⟩:=ratoi (fu:=fu) hw
 rw [h,bnd_some]
 cases e with
 | true=>exact ⟨_,_,rfl⟩
 | false =>
  show ∃n' b,cnd (!false) _ _=some (n',b)
  rw [Bool.not_false,cnd_true,zKw (hr rfl),bnd_some]
  cases Lib.itoa (n,false).1==w with
  | false=>exact ⟨_,_,rfl⟩
  | true=>rw [cnd_true];cases f==105<;>exact ⟨_,_,rfl⟩
theorem zPs {fu:Nat} {f:Int} {w:Bs} (hw:w.length<=1000000000):∃n b,zBE fu f w=some (n,b):=by
 unfold zBE
 cases f != 105 with
 | false=>exact zOu hw
 | true =>
  rw [cnd_true,zBe,zBe,zBe]
  split
  ·exact ⟨_,_,rfl⟩
  ·split
   ·exact ⟨_,_,rfl⟩
   ·split
    ·exact ⟨_,_,rfl⟩
    ·exact zOu hw
theorem zQH {fu:Nat} {n:Int} (h:inI n):zHZ fu (Lib.itoa n)=some (n,false):=by
 have:=zPl h.1 h.2
 unfold zHZ
 rw [if_pos (by omega),zOs h.1 h.2]
theorem zHt {fu:Nat} {f:UInt8} {n:Int} (h:inI n) (hn:f=105\/0<=n):zBl fu (f.toNat:Int) (Lib.itoa n) ()=some (n,true):=by
 unfold zBl
 rw [zQH h,bnd_some]
 show cnd (!false) _ _=_
 rw [Bool.not_false,cnd_true,zKw h,bnd_some]
 rw [show (Lib.itoa (n,false).1==Lib.itoa n)=true from by simp,cnd_true]
 rcases hn with rfl | hn
 ·rfl
 ·cases (f.toNat:Int)==105 with
  | true=>rfl
  | false=>rw [cnd_false];congr 2;simpa using hn
theorem zMW {n:Int} {w:Bs} {c:UInt8} (hc:c∈w) (h:c.toNat<45\/c.toNat=46\/c.toNat=47\/57<c.toNat):Lib.itoa n≠w:=fun e=>zN0 (n:=n) h (by rw [e];exact hc)
theorem zPo {n:Int} (hn:0<=n):Lib.itoa n≠[45]:=fun e=>by
 unfold Lib.itoa at e
 rw [if_neg (by omega)] at e
 have:=zFe n.toNat 45 (by rw [e];simp)
 simp at this
theorem zQJ {fu:Nat} {f:UInt8} {n:Int} (hf:f=110\/f=111\/f=105) (h:fit f n=true):zBE fu (f.toNat:Int) (numW f n)=some (n,true):=by
 obtain ⟨h1,h2⟩:=zDy h
 have hi:inI n:=⟨by omega,by omega⟩
 have hs:∀w:Bs,zNJ=w\/zNt=w->∃c∈w,57<c.toNat:=fun w hw=>by
  rcases hw with rfl | rfl
  ·exact ⟨115,by decide,by decide⟩
  ·exact ⟨108,by decide,by decide⟩
 unfold zBE
 by_cases hf5:f=105
 ·subst hf5
  show cnd false _ _=_
  rw [cnd_false,numW,if_pos (.inl rfl)]
  exact zHt hi (.inl rfl)
 ·have hf5':((f.toNat:Int) != 105)=true:=by rcases hf with rfl | rfl | rfl<;>first | rfl | exact absurd rfl hf5
  rw [hf5',cnd_true,zBe,zBe,zBe]
  by_cases hn:0<=n
  ·have e:numW f n=Lib.itoa n:=if_pos (.inr hn)
   rw [e,if_neg (zPo hn),if_neg (zMW (c:=115) (by decide) (by decide)),if_neg (zMW (c:=108) (by decide) (by decide))]
   exact zHt hi (.inr hn)
  ·have e:numW f n=if n = -1 then [45] else if n = -2 then zNJ else zNt:=if_neg (fun h=>by rcases h with h | h;exact hf5 h;exact hn h)
   have hfit:n = -2\/n = -3\/f=111/\n = -1:=by
    unfold fit at h
    rw [if_neg hf5,if_pos (by rcases hf with h | h | h;exact .inl h;exact .inr h;exact absurd h hf5)] at h
    rcases of_decide_eq_true h with h | h | h | h
    ·exact .inl h
    ·exact .inr (.inl h)
    ·exact absurd h.1 hn
    ·exact .inr (.inr h)
   rcases hfit with rfl | rfl | ⟨rfl,rfl⟩
   ·rw [show numW f (-2)=zNJ from e.trans (by decide),if_neg (by decide),if_pos (by decide)]
   ·rw [show numW f (-3)=zNt from e.trans (by decide),if_neg (by decide),if_neg (by decide),if_pos (by decide)]
   ·rw [show numW 111 (-1)=[45] from e.trans (by decide),if_pos rfl];rfl
def unqR (out:Bs):Option (Bs×Bs)->Option (Bs×Bs×Bool)
 | some x=>some (out++x.1,x.2,true)
 | none=>some ([],[],false)
theorem zSi {fu:Nat} {s:Bs} (hs:s.length<=1000000):∀(n i k:Nat) (out:Bs),s.length - i<=n->i<=s.length->out.length<=i->n<k->zBW fu s k ((i:Int),zAP out)=unqR out (unq (s.drop i)):=by
 intro n
 induction n with
 | zero =>
  intro i k out h1 h2 h3 h4
  obtain ⟨k,rfl⟩:∃k',k=k'+1:=⟨k - 1,by omega⟩
  rw [zBW,show decide ((i:Int)<((s.length:Nat):Int))=false from by simp;omega,cnd_false,List.drop_of_length_le (by omega)]
  rfl
 | succ n ih =>
  intro i k out h1 h2 h3 h4
  obtain ⟨k,rfl⟩:∃k',k=k'+1:=⟨k - 1,by omega⟩
  by_cases hi:i<s.length
  ·obtain ⟨b,r,hd⟩:=zNy hi
   have hb:=zL4 hd
   obtain ⟨_,hd1⟩:=zJj hd
   rw [zBW,show decide ((i:Int)<((s.length:Nat):Int))=true from by simpa using hi,cnd_true,hb]
   simp only [bnd_some]
   rw [show (((b.toNat:Nat):Int)==34)=(b==34) from zF3 b 34,show (((b.toNat:Nat):Int) != 92)=(b != 92) from congrArg (!·) (zF3 b 92)]
   rw [zBe]
   by_cases h34:b=34
   ·rw [if_pos h34,bstr,bnd_some,zCE (by omega),bnd_some,zCY (by omega) (Nat.le_refl _),bnd_some,hd,h34,zKy]
    have:(s.drop (i+1)).take (s.length - (i+1))=r:=by rw [hd1];exact List.take_of_length_le (by rw [<- hd1];simp)
    rw [this]
    simp [unqR]
   ·rw [if_neg h34,zRD]
    by_cases h92:b=92
    ·rw [if_pos h92,zCE (by omega),bnd_some]
     subst h92
     by_cases hi1:i+1<s.length
     ·obtain ⟨c,r',hr⟩:=zNy hi1
      have hc:=zL4 hr
      obtain ⟨_,hd2⟩:=zJj hr
      obtain rfl:r=c::r':=hd1.symm.trans hr
      rw [show decide (((i+1:Nat):Int)<((s.length:Nat):Int))=true from by rw [decide_eq_true_eq];omega,cnd_true,bnd_some,hc,bnd_some]
      rw [show (((c.toNat:Nat):Int)==34)=(c==34) from zF3 c 34,zBe]
      have hrec:∀(hcc:c=34\/c=92),unqR out (unq (s.drop i))=unqR (out++[c]) (unq (s.drop (i+1+1))):=fun hcc=>by
       rw [hd,zK3 hcc,hd2]
       cases unq r'<;>simp [unqR]
      by_cases hc34:c=34
      ·rw [if_pos hc34,bnd_some,hc,bnd_some,zR0 (by omega),bnd_some,zCE (by omega),bnd_some,hrec (.inl hc34)]
       exact ih (i+1+1) k (out++[c]) (by omega) (by omega) (by simp;omega) (by omega)
      ·rw [if_neg hc34,bnd_some,hc,bnd_some]
       rw [show (((c.toNat:Nat):Int)==92)=(c==92) from zF3 c 92,zBe]
       by_cases hc92:c=92
       ·rw [if_pos hc92,bnd_some,hc,bnd_some,zR0 (by omega),bnd_some,zCE (by omega),bnd_some,hrec (.inr hc92)]
        exact ih (i+1+1) k (out++[c]) (by omega) (by omega) (by simp;omega) (by omega)
       ·rw [if_neg hc92,hd,zIV (by simp [hc34,hc92])];rfl
     ·rw [show decide (((i+1:Nat):Int)<((s.length:Nat):Int))=false from by rw [decide_eq_false_iff_not];omega,cnd_false]
      have:r=[]:=by rw [<- hd1];exact List.drop_of_length_le (by omega)
      rw [hd,this,zH4];rfl
    ·rw [if_neg h92,zR0 (by omega),bnd_some,zCE (by omega),bnd_some]
     have e:unqR out (unq (s.drop i))=unqR (out++[b]) (unq (s.drop (i+1))):=by
      rw [hd,zLB h34 h92,hd1]
      cases unq r<;>simp [unqR]
     rw [e]
     exact ih (i+1) k (out++[b]) (by omega) (by omega) (by simp;omega) (by omega)
  ·rw [zBW,show decide ((i:Int)<((s.length:Nat):Int))=false from by simp;omega,cnd_false,List.drop_of_length_le (by omega)]
   rfl
theorem zOY {fu:Nat} {s:Bs} (hs:s.length<=1000000) (hf:s.length<fu):zAz fu s=match s with
  | []=>some ([],[],false)
  | b::r=>if b=34 then unqR [] (unq r) else some ([],[],false):=by
 unfold zAz
 cases s with
 | nil=>rw [zQS,bnd_some];rfl
 | cons b r =>
  rw [zPF,bnd_some]
  by_cases h:b=34
  ·simp only [h,decide_true,Bool.not_true,cnd_false,if_true]
   have:=zSi (fu:=fu) (s:=34::r) (by rw [<- h];exact hs) r.length 1 fu [] (by simp) (by simp) (by simp) (by simp at hf;omega)
   exact this
  ·simp only [h,decide_false,Bool.not_false,cnd_true,if_false]
theorem zRK:∀(t s r:Bs),unq t=some (s,r)->s.length<=t.length/\r.length<=t.length:=fun t s r h=>by
 have:=zLM t.length t s r (Nat.le_refl _) h
 have h2:=zQ8 s
 rw [this];simp;omega
theorem zJ3 {fu:Nat} {s:Bs} (hs:s.length<=1000000) (hf:s.length<fu):∃t r b,zAz fu s=some (t,r,b)/\r.length<=s.length:=by
 rw [zOY hs hf]
 cases s with
 | nil=>exact ⟨_,_,_,rfl,by simp⟩
 | cons b r =>
  by_cases h:b=34
  ·simp only [h,if_true]
   cases hu:unq r with
   | none=>exact ⟨_,_,_,rfl,by simp⟩
   | some x=>exact ⟨_,_,_,rfl,by have:=(zRK _ _ _ hu).2;simp;omega⟩
  ·simp only [h,if_false];exact ⟨_,_,_,rfl,by simp⟩
theorem zJ2 {fu:Nat} {s r:Bs} (hs:(qS s++r).length<=1000000) (hf:(qS s++r).length<fu):zAz fu (qS s++r)=some (s,r,true):=by
 rw [zOY hs hf]
 show (if (34:UInt8)=34 then unqR [] (unq (quoL s++[34]++r)) else _)=_
 rw [if_pos rfl,List.append_assoc]
 show unqR [] (unq (quoL s++34::r))=_
 rw [zOc];rfl
def nst (fu:Nat) (f:UInt8) (x:Bs×Bool):Option (Bs×Bool×Int) :=
 if x.2=true/\f≠46 then bnd (zAc fu x.1 [32]) fun r=>bnd (zBE fu (f.toNat:Int) r.1) fun r'=>some (r.2.1,r'.2,r'.1) else some (x.1,x.2,0)
def tst1 (fu:Nat) (f:UInt8) (x:Bs×Bool):Option (Bs×Bool×Bs) :=
 if x.2=true/\f=115 then bnd (zAz fu x.1) fun r=>bnd (zAN fu r.2.1 [32]) fun p=>cnd p.2 (some (p.1,r.2.2,r.1)) (some (r.2.1,r.2.2,r.1)) else some (x.1,x.2,[])
def tst2 (fu:Nat) (f:UInt8) (x:Bs×Bool):Option (Bs×Bool×Bs) :=
 if x.2=true/\f=115 then bnd (zAz fu x.1) fun r=>bnd (zAN fu r.2.1 [32]) fun p=>some (r.2.1,r.2.2,r.1) else some (x.1,x.2,[])
theorem zLW {α β γ : Type} (o:Option α) (f : α -> Option β) (g : β -> Option γ):bnd (bnd o f) g=bnd o fun a=>bnd (f a) g:=by cases o<;>rfl
theorem zRg (b c:UInt8):(((b.toNat:Nat):Int) != ((c.toNat:Nat):Int))=(b != c):=congrArg (!·) (zF3 b c)
theorem zCO {α β : Type} {o:Option α} {f g : α -> Option β} (h:∀a,f a=g a):bnd o f=bnd o g:=by rw [show f=g from funext h]
theorem zNe {β : Type} {fu:Nat} {k:Int} {i:Nat} (hi:i<5) (rest:Bs) (ok:Bool) (J:Bs×Bool×Int->Option β) :
  cnd ok (bnd (chr (fd k) (i:Int)) fun b=>cnd (b != 46) (bnd (zAc fu rest [32]) fun r=>bnd (chr (fd k) (i:Int)) fun b'=>bnd (zBE fu b' r.1) fun r'=>J (r.2.1,r'.2,r'.1)) (J (rest,ok,0))) (J (rest,ok,0))=bnd (nst fu (fc k i) (rest,ok)) J:=by
 unfold nst
 cases ok with
 | false=>rfl
 | true =>
  rw [cnd_true,zER hi]
  simp only [bnd_some]
  rw [show (((fc k i).toNat:Int) != 46)=(fc k i != 46) from zRg _ 46,zRD]
  by_cases h:fc k i=46
  ·rw [if_pos h,if_neg (by simp [h])];rfl
  ·rw [if_neg h,if_pos ⟨trivial,h⟩]
   simp only [zLW,bnd_some]
theorem zRe {β : Type} {fu:Nat} {k:Int} {i:Nat} (hi:i<5) (rest:Bs) (ok:Bool) (J:Bs×Bool×Bs->Option β) :
  cnd ok (bnd (chr (fd k) (i:Int)) fun b=>cnd (b==115) (bnd (zAz fu rest) fun r=>bnd (zAN fu r.2.1 [32]) fun p=>cnd p.2 (J (p.1,r.2.2,r.1)) (J (r.2.1,r.2.2,r.1))) (J (rest,ok,[]))) (J (rest,ok,[]))=bnd (tst1 fu (fc k i) (rest,ok)) J:=by
 unfold tst1
 cases ok with
 | false=>rfl
 | true =>
  rw [cnd_true,zER hi]
  simp only [bnd_some]
  rw [show (((fc k i).toNat:Int)==115)=(fc k i==115) from zF3 _ 115,zBe]
  by_cases h:fc k i=115
  ·rw [if_pos h,if_pos ⟨trivial,h⟩]
   simp only [zLW]
   refine zCO fun a=>zCO fun p=>?_
   cases p.2<;>rfl
  ·rw [if_neg h,if_neg (by simp [h])];rfl
theorem zRc {β : Type} {fu:Nat} {k:Int} {i:Nat} (hi:i<5) (rest:Bs) (ok:Bool) (J:Bs×Bool×Bs->Option β) :
  cnd ok (bnd (chr (fd k) (i:Int)) fun b=>cnd (b==115) (bnd (zAz fu rest) fun r=>bnd (zAN fu r.2.1 [32]) fun p=>cnd p.2 (J (r.2.1,r.2.2,r.1)) (J (r.2.1,r.2.2,r.1))) (J (rest,ok,[]))) (J (rest,ok,[]))=bnd (tst2 fu (fc k i) (rest,ok)) J:=by
 unfold tst2
 cases ok with
 | false=>rfl
 | true =>
  rw [cnd_true,zER hi]
  simp only [bnd_some]
  rw [show (((fc k i).toNat:Int)==115)=(fc k i==115) from zF3 _ 115,zBe]
  by_cases h:fc k i=115
  ·rw [if_pos h,if_pos ⟨trivial,h⟩]
   simp only [zLW,bnd_some]
   refine zCO fun a=>zCO fun p=>?_
   cases p.2<;>rfl
  ·rw [if_neg h,if_neg (by simp [h])];rfl
theorem zOI (fu:Nat) (s:Bs):zBu fu s=bnd (zAN fu s [33]) fun r2=>bnd (zAc fu r2.1 [32]) fun r3=>bnd (zAd fu wordsL r3.1) fun k =>
  bnd (nst fu (fc k 0) (r3.2.1,decide (Knd k))) fun x1=>bnd (nst fu (fc k 1) (x1.1,x1.2.1)) fun x2=>bnd (nst fu (fc k 2) (x2.1,x2.2.1)) fun x3 =>
  bnd (tst1 fu (fc k 3) (x3.1,x3.2.1)) fun y1=>bnd (tst2 fu (fc k 4) (y1.1,y1.2.1)) fun y2=>zCe fu s r2 k x1.2.2 x2.2.2 x3.2.2 (y2.1,y2.2.1,y1.2.2,y2.2.2):=by
 unfold zBu
 refine zCO fun r2=>zCO fun r3=>?_
 rw [zO9,bnd_some]
 refine zCO fun k=>?_
 rw [zOb,bnd_some]
 simp only [zCS,bnd_some]
 refine (zNe (i:=0) (by omega) r3.2.1 (decide (Knd k)) _).trans (zCO fun x1=>?_)
 obtain ⟨a1,b1,c1⟩:=x1
 unfold zEY
 refine (zNe (i:=1) (by omega) a1 b1 _).trans (zCO fun x2=>?_)
 obtain ⟨a2,b2,c2⟩:=x2
 unfold zEQ
 refine (zNe (i:=2) (by omega) a2 b2 fun x=>zDu fu s r2 k (⟨wd k,fd k⟩,decide (Knd k)) (x.1,x.2.1,c1,c2,x.2.2)).trans (zCO fun x3=>?_)
 obtain ⟨a3,b3,c3⟩:=x3
 unfold zDu
 simp only [zCc,bnd_some]
 refine (zRe (i:=3) (by omega) a3 b3 fun x=>zCA fu s r2 k (⟨wd k,fd k⟩,decide (Knd k)) c1 c2 c3 x).trans (zCO fun y1=>?_)
 obtain ⟨a4,b4,c4⟩:=y1
 unfold zCA
 exact zRc (i:=4) (by omega) a4 b4 fun x=>zCe fu s r2 k c1 c2 c3 (x.1,x.2.1,c4,x.2.2)
theorem zK1 {fu:Nat} {f:UInt8} {x:Bs×Bool} (h:x.1.length<=1000000):∃y,nst fu f x=some y/\y.1.length<=x.1.length:=by
 unfold nst
 split
 ·obtain ⟨w,r,b,h1,h2,h3⟩:=zNV (fu:=fu) (s:=x.1) 32 (by omega)
  rw [h1,bnd_some]
  obtain ⟨n,b',h4⟩:=zPs (fu:=fu) (f:=(f.toNat:Int)) (w:=w) (by omega)
  rw [h4,bnd_some]
  exact ⟨_,rfl,h3⟩
 ·exact ⟨_,rfl,Nat.le_refl _⟩
theorem zPR {fu:Nat} {f:UInt8} {x:Bs×Bool} (h:x.1.length<=1000000) (hf:x.1.length<fu):∃y,tst1 fu f x=some y/\y.1.length<=x.1.length:=by
 unfold tst1
 split
 ·obtain ⟨t,r,b,h1,h2⟩:=zJ3 (fu:=fu) h hf
  rw [h1,bnd_some]
  obtain ⟨p,b',h3,h4⟩:=zLS (fu:=fu) (s:=r) (c:=32) (by omega)
  rw [h3,bnd_some]
  cases b' with
  | true=>exact ⟨_,rfl,by show p.length<=_;omega⟩
  | false=>exact ⟨_,rfl,h2⟩
 ·exact ⟨_,rfl,Nat.le_refl _⟩
theorem zPf {fu:Nat} {f:UInt8} {x:Bs×Bool} (h:x.1.length<=1000000) (hf:x.1.length<fu):∃y,tst2 fu f x=some y:=by
 unfold tst2
 split
 ·obtain ⟨t,r,b,h1,h2⟩:=zJ3 (fu:=fu) h hf
  rw [h1,bnd_some]
  obtain ⟨p,b',h3,h4⟩:=zLS (fu:=fu) (s:=r) (c:=32) (by omega)
  rw [h3,bnd_some]
  exact ⟨_,rfl⟩
 ·exact ⟨_,rfl⟩
def op0:Op:=⟨0,0,0,0,[],[],false⟩
theorem zPi {fu:Nat} {s:Bs} (hs:s.length<=1000000) (hf:s.length+30<fu):zBu fu s=some (op0,2)\/∃o,zBu fu s=some (o,0)/\RightP o/\putP o=s:=by
 rw [zOI]
 obtain ⟨r,must,h1,h2⟩:=zLS (fu:=fu) (s:=s) (c:=33) (by omega)
 rw [h1,bnd_some]
 obtain ⟨w,r3,b3,h3,_,h4⟩:=zNV (fu:=fu) (s:=r) 32 (by omega)
 rw [h3,bnd_some]
 obtain ⟨k,hk⟩:∃k,zAd fu wordsL w=some k:=by
  rw [zLR (by simp [wordsL];omega) (by simp [wordsL])]
  split<;>exact ⟨_,rfl⟩
 rw [hk,bnd_some]
 obtain ⟨x1,e1,l1⟩:=zK1 (fu:=fu) (f:=fc k 0) (x:=(r3,decide (Knd k))) (by show r3.length<=_;omega)
 simp only at l1
 rw [e1,bnd_some]
 obtain ⟨x2,e2,l2⟩:=zK1 (fu:=fu) (f:=fc k 1) (x:=(x1.1,x1.2.1)) (by show x1.1.length<=_;omega)
 simp only at l2
 rw [e2,bnd_some]
 obtain ⟨x3,e3,l3⟩:=zK1 (fu:=fu) (f:=fc k 2) (x:=(x2.1,x2.2.1)) (by show x2.1.length<=_;omega)
 simp only at l3
 rw [e3,bnd_some]
 obtain ⟨y1,e4,l4⟩:=zPR (fu:=fu) (f:=fc k 3) (x:=(x3.1,x3.2.1)) (by show x3.1.length<=_;omega) (by show x3.1.length<_;omega)
 simp only at l4
 rw [e4,bnd_some]
 obtain ⟨y2,e5⟩:=zPf (fu:=fu) (f:=fc k 4) (x:=(y1.1,y1.2.1)) (by show y1.1.length<=_;omega) (by show y1.1.length<_;omega)
 rw [e5,bnd_some]
 unfold zCe
 simp only [zSG,bnd_some]
 generalize (⟨k,x1.2.2,x2.2.2,x3.2.2,y1.2.2,y2.2.2,must⟩:Op)=o
 cases y2.2.1 with
 | false=>exact .inl rfl
 | true =>
  simp only [Bool.not_true,cnd_false]
  cases y2.1==([]:Bs) with
  | false=>exact .inl rfl
  | true =>
   simp only [Bool.not_true,cnd_false]
   cases hr:zE7 o with
   | false=>exact .inl rfl
   | true =>
    rw [if_pos rfl]
    show cnd ((0:Int) != 0) _ _=_\/∃o',cnd ((0:Int) != 0) _ _=_/\_
    rw [show ((0:Int) != 0)=false from rfl,cnd_false]
    by_cases hp:putP o=s
    ·refine .inr ⟨o,?_,right_iff.1 hr,hp⟩
     rw [show (putP o==s)=true from by simpa using hp];rfl
    ·left
     rw [show (putP o==s)=false from by simpa using hp];rfl
end Go.Proofs.YtoboimmgglnjfaaGreatDoor
/- What op.Read comes to at an operation's own text. -/
namespace Go.Proofs.YtoboimmgglnjfaaGreatDoor
open Go Go.Pw
set_option linter.unusedVariables false
def nxt:List Bs->Bs
 | []=>[]
 | f::l=>f++tl l
theorem zOk {fu:Nat} {f:Bs} {l:List Bs} (hf:(32:UInt8)∉f) (hl:(f++tl l).length<=1000000):∃b,zAc fu (f++tl l) [32]=some (f,nxt l,b):=by
 cases l with
 | nil=>rw [zDk,List.append_nil];exact ⟨false,zNK hf⟩
 | cons g l=>rw [zDG] at hl ⊢;exact ⟨true,zLP hf (by omega)⟩
theorem zOn {f:UInt8} {n:Int} {c:UInt8} (h:c=32\/c=10):c∉numW f n:=by
 have hi:c∉Lib.itoa n:=zN0 (by rcases h with rfl | rfl<;>decide)
 unfold numW
 split
 ·exact hi
 ·split
  ·rcases h with rfl | rfl<;>decide
  ·split <;> · rcases h with rfl | rfl<;>decide
theorem zLI {fu:Nat} {f:UInt8} {n:Int} {L:List Bs} (hf:f=110\/f=111\/f=105\/f=46) (h:fit f n=true) (hl:(nxt (numL f n++L)).length<=1000000):nst fu f (nxt (numL f n++L),true)=some (nxt L,true,n):=by
 unfold nst
 by_cases h46:f=46
 ·subst h46
  rw [if_neg (by simp)]
  have hn:n=0:=by unfold fit at h;rw [if_neg (by decide),if_neg (by decide)] at h;simpa using h
  rw [hn];rfl
 ·rw [if_pos ⟨rfl,h46⟩]
  have e:numL f n=[numW f n]:=if_neg h46
  rw [e] at hl ⊢
  obtain ⟨b,hb⟩:=zOk (fu:=fu) (f:=numW f n) (l:=L) (zOn (.inl rfl)) hl
  show bnd (zAc fu (numW f n++tl L) [32]) _=_
  rw [hb,bnd_some,zQJ (by rcases hf with h | h | h | h;exact .inl h;exact .inr (.inl h);exact .inr (.inr h);exact absurd h h46) h,bnd_some]
theorem zPy {fu:Nat} {f:UInt8} {s:Bs} {L:List Bs} (hf:f=115\/f=46) (h:fitT f s=true) (hl:(nxt (txtL f s++L)).length<=1000000) (hfu:(nxt (txtL f s++L)).length<fu):tst1 fu f (nxt (txtL f s++L),true)=some (nxt L,true,s):=by
 unfold tst1
 rcases hf with rfl | rfl
 ·rw [if_pos ⟨rfl,rfl⟩]
  have e:txtL 115 s=[qS s]:=rfl
  rw [e] at hl hfu ⊢
  have hl':(qS s++tl L).length<=1000000:=hl
  have hfu':(qS s++tl L).length<fu:=hfu
  show bnd (zAz fu (qS s++tl L)) _=_
  rw [zJ2 hl' hfu',bnd_some]
  cases L with
  | nil =>
   show bnd (zAN fu [] [32]) _=_
   rw [zK0];rfl
  | cons g L =>
   simp [zDG] at hl'
   show bnd (zAN fu (32::(g++tl L)) [32]) _=_
   rw [zHJ (by simp;omega),if_pos rfl];rfl
 ·rw [if_neg (fun e=>absurd e.2 (by decide))]
  have:s=[]:=by simpa [fitT] using h
  subst this;rfl
theorem zQR {fu:Nat} {f:UInt8} {s:Bs} (hf:f=115\/f=46) (h:fitT f s=true) (hl:(nxt (txtL f s)).length<=1000000) (hfu:(nxt (txtL f s)).length<fu):tst2 fu f (nxt (txtL f s),true)=some ([],true,s):=by
 unfold tst2
 rcases hf with rfl | rfl
 ·rw [if_pos ⟨rfl,rfl⟩]
  have e:txtL 115 s=[qS s]:=rfl
  rw [e] at hl hfu ⊢
  show bnd (zAz fu (qS s++[])) _=_
  rw [zJ2 (r:=[]) hl hfu,bnd_some]
  show bnd (zAN fu [] [32]) _=_
  rw [zK0];rfl
 ·rw [if_neg (fun e=>absurd e.2 (by decide))]
  have:s=[]:=by simpa [fitT] using h
  subst this;rfl
theorem zRJ {k:Int} {c:UInt8} (h:c.toNat<97\/122<c.toNat):c∉wd k\/¬Knd k:=by
 have key:∀j:Fin 29,0<j.1->∀b∈wordsL.getD j.1 [],97<=b.toNat/\b.toNat<=122:=by decide
 by_cases hk:Knd k
 ·left
  rw [wd,if_pos hk]
  intro hm
  have:=key ⟨k.toNat,by unfold Knd at hk;omega⟩ (by unfold Knd at hk;simp;omega) c hm
  omega
 ·exact .inr hk
theorem zLZ {k:Int} (hk:Knd k):∃b w,wd k=b::w/\97<=b.toNat/\b.toNat<=122:=by
 have key:∀j:Fin 29,0<j.1->wordsL.getD j.1 []≠[]:=by decide
 have h0:=key ⟨k.toNat,by unfold Knd at hk;omega⟩ (by unfold Knd at hk;simp;omega)
 have e:wd k=wordsL.getD k.toNat []:=if_pos hk
 rw [<- e] at h0
 cases hw:wd k with
 | nil=>exact absurd hw h0
 | cons b w =>
  refine ⟨b,w,rfl,?_⟩
  have:97<=b.toNat/\b.toNat<=122\/¬(97<=b.toNat/\b.toNat<=122):=Decidable.em _
  rcases this with h | h
  ·exact h
  ·rcases zRJ (k:=k) (c:=b) (by omega) with h2 | h2
   ·exact absurd (by rw [hw];simp) h2
   ·exact absurd hk h2
theorem zP0 {fu:Nat} (hf:30<fu) {k:Int} (hk:Knd k):zAd fu wordsL (wd k)=some k:=by
 rw [zLR (by simp [wordsL];omega) (by simp [wordsL])]
 have key:∀j:Fin 29,((List.range 29).find? fun i=>wordsL.getD j.1 []==wordsL.getD i [])=some j.1:=by decide
 have e:wd k=wordsL.getD k.toNat []:=if_pos hk
 have hj:=key ⟨k.toNat,by unfold Knd at hk;omega⟩
 rw [e]
 show (match (List.range 29).find? fun i=>wordsL.getD k.toNat []==wordsL.getD i [] with | some i=>some (i:Int) | none=>some (-1))=_
 rw [hj]
 show some ((k.toNat:Nat):Int)=some k
 congr 1
 unfold Knd at hk
 omega
theorem zKP:∀(l:List Bs),(nxt l).length<=(tl l).length
 | []=>Nat.le_refl _
 | f::l=>by simp [nxt,zDG]
theorem zJE (l m:List Bs):(tl m).length<=(tl (l++m)).length:=by rw [zKK];simp
theorem zHI {fu:Nat} {o:Op} (h:RightP o) (hf:2000<fu):zBu fu (putP o)=some (o,0):=by
 have hlen:=zI2 h
 obtain ⟨b0,w0,hw,hb1,hb2⟩:=zLZ h.kind
 have hl0:(wd o.Kind++tl (zC9 o)).length<=1000:=by
  have:putP o=bang o.Must++(wd o.Kind++tl (zC9 o)):=rfl
  rw [this,List.length_append] at hlen;omega
 have hlt:(tl (zC9 o)).length<=1000:=by simp at hl0;omega
 have m1:(nxt (zC9 o)).length<=1000:=Nat.le_trans (zKP _) hlt
 have m2:(tl (numL (fc o.Kind 1) o.B++(numL (fc o.Kind 2) o.C++zGg o))).length<=1000:=Nat.le_trans (zJE _ _) hlt
 have m3:(tl (numL (fc o.Kind 2) o.C++zGg o)).length<=1000:=Nat.le_trans (zJE _ _) m2
 have m4:(tl (zGg o)).length<=1000:=Nat.le_trans (zJE _ _) m3
 have m5:(tl (txtL (fc o.Kind 4) o.T)).length<=1000:=Nat.le_trans (zJE (txtL (fc o.Kind 3) o.S) _) m4
 have k2:=zKP (numL (fc o.Kind 1) o.B++(numL (fc o.Kind 2) o.C++zGg o))
 have k3:=zKP (numL (fc o.Kind 2) o.C++zGg o)
 have k4:=zKP (zGg o)
 have k5:=zKP (txtL (fc o.Kind 4) o.T)
 rw [zOI]
 have h1:zAN fu (putP o) [33]=some (wd o.Kind++tl (zC9 o),o.Must):=by
  unfold putP bang
  cases o.Must with
  | true =>
   show zAN fu (33::(wd o.Kind++tl (zC9 o))) [33]=_
   rw [zHJ (by omega),if_pos rfl]
  | false =>
   rw [if_neg (by decide),List.nil_append]
   rw [hw] at hl0 ⊢
   have hl1:(w0++tl (zC9 o)).length<=1000:=by simp at hl0 ⊢;omega
   show zAN fu (b0::(w0++tl (zC9 o))) [33]=_
   rw [zHJ (by omega),if_neg (fun e=>by rw [e] at hb1;simp at hb1)]
   rfl
 rw [h1,bnd_some]
 have hno:(32:UInt8)∉wd o.Kind:=by
  rcases zRJ (k:=o.Kind) (c:=32) (.inl (by decide)) with h2 | h2
  ·exact h2
  ·exact absurd h.kind h2
 obtain ⟨b,h2⟩:=zOk (fu:=fu) (l:=zC9 o) hno (by omega)
 rw [h2,bnd_some,zP0 (by omega) h.kind,bnd_some,show decide (Knd o.Kind)=true from by simpa using h.kind]
 simp only
 rw [show nxt (zC9 o)=nxt (numL (fc o.Kind 0) o.A++(numL (fc o.Kind 1) o.B++(numL (fc o.Kind 2) o.C++zGg o))) from rfl] at m1 ⊢
 rw [zLI (zGB _ (by omega)) h.a (by omega),bnd_some]
 simp only
 rw [zLI (zGB _ (by omega)) h.b (by omega),bnd_some]
 simp only
 rw [zLI (zGB _ (by omega)) h.c (by omega),bnd_some]
 simp only
 rw [show nxt (zGg o)=nxt (txtL (fc o.Kind 3) o.S++txtL (fc o.Kind 4) o.T) from rfl] at k4 ⊢
 rw [zPy (zIP _ (by omega) (by omega)) h.s (by omega) (by omega),bnd_some]
 simp only
 rw [zQR (zIP _ (by omega) (by omega)) h.t (by omega) (by omega),bnd_some]
 unfold zCe
 simp only
 have ho:(⟨o.Kind,o.A,o.B,o.C,o.S,o.T,o.Must⟩:Op)=o:=rfl
 rw [ho,zOW h,bnd_some]
 simp
theorem zPe {o p:Op} (ho:RightP o) (hp:RightP p) (h:putP o=putP p):o=p:=by
 have h1:=zHI (fu:=2001) ho (by omega)
 rw [h,zHI hp (by omega)] at h1
 cases h1;rfl
theorem zJ4 {fu:Nat} {s:Bs} (hs:s.length<=1000000) (hf:s.length+3000<fu) :
  (∃o,RightP o/\putP o=s/\zBu fu s=some (o,0))\/(∀o,RightP o->putP o≠s)/\zBu fu s=some (op0,2):=by
 rcases zPi hs (by omega:s.length+30<fu) with h | ⟨o,h1,h2,h3⟩
 ·refine .inr ⟨fun o ho e=>?_,h⟩
  rw [<- e,zHI ho (by omega)] at h
  cases h
 ·exact .inl ⟨o,h2,h3,h1⟩
theorem zOj {fu:Nat} {s:Bs} (hs:s.length<=1000000) (hf:s.length+3000<fu) (h:∀o,RightP o->putP o≠s):zBu fu s=some (op0,2):=by
 rcases zJ4 hs hf with ⟨o,h1,h2,_⟩ | ⟨_,h1⟩
 ·exact absurd h2 (h o h1)
 ·exact h1
theorem zN2 {o:Op} (h:RightP o):(10:UInt8)∉putP o:=by
 have hn:∀(x:UInt8) (n:Int),(10:UInt8)∉tl (numL x n):=fun x n=>by
  unfold numL
  split
  ·simp [zDk]
  ·have:=zOn (f:=x) (n:=n) (c:=10) (.inr rfl)
   simp [zDG,zDk,this]
 have ht:∀(x:UInt8) (s:Bs),(10:UInt8)∉s->(10:UInt8)∉tl (txtL x s):=fun x s hs=>by
  unfold txtL
  split
  ·simp only [zDG,zDk,qS,List.append_nil,List.mem_cons,List.mem_append,List.cons_append]
   rintro (h | h | h | h | h)
   ·cases h
   ·cases h
   ·rcases zOr h with h | h
    ·cases h
    ·exact hs h
   ·cases h
   ·cases h
  ·simp [zDk]
 have hw:(10:UInt8)∉wd o.Kind:=by
  rcases zRJ (k:=o.Kind) (c:=10) (.inl (by decide)) with h2 | h2
  ·exact h2
  ·exact absurd h.kind h2
 have hb:(10:UInt8)∉bang o.Must:=by cases o.Must<;>simp [bang]
 unfold putP zC9 zGg
 simp only [zKK,List.mem_append]
 rintro (h1 | h1 | h1 | h1 | h1 | h1 | h1)
 ·exact hb h1
 ·exact hw h1
 ·exact hn _ _ h1
 ·exact hn _ _ h1
 ·exact hn _ _ h1
 ·exact ht _ _ (zFS h.s).2 h1
 ·exact ht _ _ (zFS h.t).2 h1
theorem zRP {o:Op} (h:RightP o):putP o≠[]:=by
 obtain ⟨b0,w0,hw,_⟩:=zLZ h.kind
 unfold putP
 rw [hw]
 cases o.Must<;>simp [bang]
end Go.Proofs.YtoboimmgglnjfaaGreatDoor
/- The reader of scripts: what a line that is a head's does. -/
namespace Go.Proofs.YtoboimmgglnjfaaGreatDoor
open Go Go.Pw
set_option linter.unusedVariables false
def cutS:Bs->Bs×Bs×Bool
 | []=>([],[],false)
 | b::s=>if b=32 then ([],s,true) else (b::(cutS s).1,(cutS s).2.1,(cutS s).2.2)
theorem zGO:∀{w:Bs} (r:Bs),(32:UInt8)∉w->cutS (w++32::r)=(w,r,true)
 | [],r,_=>rfl
 | b::w,r,h=>by
  simp only [List.mem_cons,not_or] at h
  rw [List.cons_append,cutS,if_neg (fun e=>h.1 e.symm),zGO r h.2]
theorem zKt:∀{s:Bs},(32:UInt8)∉s->cutS s=(s,[],false)
 | [],_=>rfl
 | b::s,h=>by
  simp only [List.mem_cons,not_or] at h
  rw [cutS,if_neg (fun e=>h.1 e.symm),zKt h.2]
theorem cut_s {fu:Nat} {s:Bs} (hl:s.length<=1000000000):zAc fu s [32]=some (cutS s):=by
 by_cases h:(32:UInt8)∈s
 ·obtain ⟨w,r,rfl,hw⟩:=zHE h
  rw [zLP hw hl,zGO r hw]
 ·rw [zNK h,zKt h]
def kindsL:List Bs:=[[45],[99,97,109,101],[119,101,110,116],[109,111,118,101,100],[99,104,97,110,103,101,100],[111,119,110,101,100],[98,97,114,114,101,100],[99,108,101,97,114,101,100],[114,101,115,116,111,114,101,100]]
theorem zOq {fu:Nat}:zCj fu=some kindsL:=by kernel_rfl
def zFC (v:Bs):Int:=match (List.range 9).find? fun i=>v==kindsL.getD i [] with
 | some i=>(i:Int)
 | none => -1
theorem kind_m {fu:Nat} {v:Bs} (hf:10<fu):zAd fu kindsL v=some (zFC v):=by
 rw [zLR (by simp [kindsL];omega) (by simp [kindsL])]
 unfold zFC
 rw [show kindsL.length=9 from rfl]
 cases (List.range 9).find? fun i=>v==kindsL.getD i []<;>rfl
structure Rs where
 k:Nat
 most:Int
 pre:List Class
 act:Bool
 form:Bool
 hpre:List Hook
 hact:Bool
 kind:Int
 wat:List Bs
 pk:List Op
 mak:List Op
 dos:List Op
def Rs.hooks (x:Rs):List Hook:=x.hpre++if x.hact then [(⟨x.kind,x.dos⟩:Hook)] else []
def Rs.cls (x:Rs):List Class:=x.pre++if x.act then [(⟨x.form,x.wat,x.pk,x.mak,x.hooks⟩:Class)] else []
abbrev HOut:=Bool×Nat×Int×(List Class×Bool)×Bool×(List Hook×Bool)×Int×List Bs×List Op×List Op×List Op
def Rs.out (b:Bool) (x:Rs):HOut:=(b,x.k,x.most,(x.pre,x.act),x.form,(x.hpre,x.hact),x.kind,x.wat,x.pk,x.mak,x.dos)
structure Rs.Ok (x:Rs):Prop where
 pre0:x.act=false->x.pre=[]
 hpre0:x.hact=false->x.hpre=[]
 k0:x.act=false->x.k=0
 k3:x.k=3->x.hact=true
 kle:x.k<=3
 most_:x.most=if x.k=0 then 300 else 60
 cls12:x.cls.length<=12
 hooks12:x.hooks.length<=12
 wat12:x.wat.length<=12
 pk60:x.pk.length<=60
 mak60:x.mak.length<=60
 dos60:x.dos.length<=60
theorem zGI (x:Rs):x.hooks.length=x.hpre.length+(if x.hact then 1 else 0):=by unfold Rs.hooks;cases x.hact<;>simp
theorem zEv (x:Rs):x.cls.length=x.pre.length+(if x.act then 1 else 0):=by unfold Rs.cls;cases x.act<;>simp
def zFj (x:Rs) (s:Bs):Option Rs :=
 if s=[109,97,105,110] then some { x with k:=0,most:=300 }
 else if s=[99,108,97,115,115]\/s=[99,108,97,115,115,32,102,111,114,109] then
  (if x.cls.length=12 then none else some ⟨2,60,x.cls,true,(cutS s).2.2,[],false,0,[],[],[],[]⟩)
 else if x.act=false then none
 else if s=[112,101,101,107] then some { x with k:=1,most:=60 }
 else if s=[109,97,107,101] then some { x with k:=2,most:=60 }
 else if (cutS s).1=[119,97,116,99,104] then
  (if (cutS s).2.2=true then (if fitB (cutS s).2.1=true then (if x.wat.length=12 then none else some { x with wat:=x.wat++[(cutS s).2.1] }) else none) else none)
 else if (cutS s).1=[111,110] then
  (if (cutS s).2.2=true then (if zFC (cutS s).2.1<1 then none else if x.hooks.length=12 then none else some { x with k:=3,most:=60,hpre:=x.hooks,hact:=true,kind:=zFC (cutS s).2.1,dos:=[] }) else none)
 else none
def outR (x:Rs):Option Rs->HOut
 | some y=>y.out true
 | none=>x.out false
theorem zQu {fu:Nat} {n:Int}:zBN fu n=some (true,n):=rfl
theorem zIu {fu:Nat} {n:Int}:zAT fu n=some (true,n):=rfl
theorem zGl {l:Nat}:zHi l (((l+1:Nat):Int) - 1)=some ():=by
 unfold zHi
 rw [if_pos (by omega)]
theorem zK2 {l:Nat} (h:l<=1000):rng .i64 (((l+1:Nat):Int) - 1)=some (((l+1:Nat):Int) - 1):=zKI (by omega) (by omega)
theorem zOC {fu:Nat} {s:Bs} {x:Rs} (hx:x.Ok):zBc fu x.k x.most (x.pre,x.act) x.form (x.hpre,x.hact) x.kind x.wat x.pk x.mak x.dos (cutS s) ()=some (outR x (if x.cls.length=12 then none else some ⟨2,60,x.cls,true,(cutS s).2.2,[],false,0,[],[],[],[]⟩)):=by
 have hc:=hx.cls12
 have hcl:=zEv x
 unfold zBc
 dsimp only
 simp only [if_true]
 rw [show (x.pre++if x.act then [(⟨x.form,x.wat,x.pk,x.mak,(x.hpre++if x.hact then [(⟨x.kind,x.dos⟩:Hook)] else [])⟩:Class)] else [])=x.cls from rfl,<- hcl,zBe]
 by_cases h:x.cls.length=12
 ·rw [if_pos h,if_pos (by omega)];rfl
 ·rw [if_neg h,if_neg (by omega),zDQ (by omega),bnd_some,zK2 (by omega),bnd_some,zGl,bnd_some,zIu,bnd_some]
  rfl
theorem head_m {fu:Nat} {s:Bs} {x:Rs} (hx:x.Ok) (hf:300<fu) (hs:s.length<=1000000) :
  zB7 fu s x.k x.most (x.pre,x.act) x.form (x.hpre,x.hact) x.kind x.wat x.pk x.mak x.dos=some (outR x (zFj x s)):=by
 have hc:=hx.cls12
 have hcl:=zEv x
 have hhl:=zGI x
 have hh:=hx.hooks12
 have hw:=hx.wat12
 unfold zB7 zFj
 rw [cut_s (by omega),bnd_some,zBe]
 by_cases h1:s=[109,97,105,110]
 ·rw [if_pos h1,if_pos h1,zQu,bnd_some];rfl
 rw [if_neg h1,if_neg h1,zBe]
 by_cases h2:s=[99,108,97,115,115]
 ·rw [if_pos h2,if_pos (.inl h2),zOC hx]
 rw [if_neg h2,zBe]
 by_cases h3:s=[99,108,97,115,115,32,102,111,114,109]
 ·rw [if_pos h3,if_pos (.inr h3),zOC hx]
 have h23:¬(s=[99,108,97,115,115]\/s=[99,108,97,115,115,32,102,111,114,109]):=fun h=>h.elim h2 h3
 rw [if_neg h3,if_neg h23,zBe]
 dsimp only
 simp only [if_true]
 rw [<- hcl]
 cases ha:x.act with
 | false =>
  have h0:x.cls.length=0:=by rw [hcl,ha,hx.pre0 ha];rfl
  rw [if_pos (show ((x.cls.length:Nat):Int)=0 by omega),if_pos rfl,hx.pre0 ha]
  show some (false,x.k,x.most,(([]:List Class),false),x.form,(x.hpre,x.hact),x.kind,x.wat,x.pk,x.mak,x.dos)=some (x.out false)
  unfold Rs.out
  rw [ha,hx.pre0 ha]
 | true =>
  have e0:x.out false=(false,x.k,x.most,(x.pre,true),x.form,(x.hpre,x.hact),x.kind,x.wat,x.pk,x.mak,x.dos):=by unfold Rs.out;rw [ha]
  rw [ha] at hcl
  simp only [if_true] at hcl
  rw [if_neg (show ¬(((x.cls.length:Nat):Int)=0) by omega),if_neg (show ¬(true=false) by simp)]
  rw [show zHD true=some () from rfl,bnd_some,zK2 (by omega),bnd_some,zGl,bnd_some,zBe]
  have e1:∀y,y.act=true->outR x (some y)=(true,y.k,y.most,(y.pre,true),y.form,(y.hpre,y.hact),y.kind,y.wat,y.pk,y.mak,y.dos):=fun y hy=>by show y.out true=_;unfold Rs.out;rw [hy]
  have e2:outR x none=(false,x.k,x.most,(x.pre,true),x.form,(x.hpre,x.hact),x.kind,x.wat,x.pk,x.mak,x.dos):=e0
  by_cases h4:s=[112,101,101,107]
  ·rw [if_pos h4,if_pos h4,zIu,bnd_some,e1 _ rfl]
  rw [if_neg h4,if_neg h4,zBe]
  by_cases h5:s=[109,97,107,101]
  ·rw [if_pos h5,if_pos h5,zIu,bnd_some,e1 _ rfl]
  rw [if_neg h5,if_neg h5,zBe]
  have hj2:zBb fu x.k x.most (x.pre,true) x.form (x.hpre,x.hact) x.kind x.wat x.pk x.mak x.dos (cutS s) ()=some (outR x (if (cutS s).1=[111,110] then
    (if (cutS s).2.2=true then (if zFC (cutS s).2.1<1 then none else if x.hooks.length=12 then none else some { x with k:=3,most:=60,act:=true,hpre:=x.hooks,hact:=true,kind:=zFC (cutS s).2.1,dos:=[] }) else none) else none)):=by
   unfold zBb
   dsimp only
   simp only [if_true]
   rw [zBe]
   by_cases h7:(cutS s).1=[111,110]
   ·rw [if_pos h7,if_pos h7]
    cases h8:(cutS s).2.2 with
    | false=>rw [cnd_false,if_neg (by simp),e2]
    | true =>
     rw [cnd_true,if_pos rfl,zOq,bnd_some,kind_m (by omega),bnd_some,zDf]
     by_cases h9:zFC (cutS s).2.1<1
     ·rw [if_pos h9,if_pos h9,e2]
     ·rw [if_neg h9,if_neg h9,zBe]
      rw [show (x.hpre++if x.hact then [(⟨x.kind,x.dos⟩:Hook)] else [])=x.hooks from rfl]
      rw [<- hhl]
      by_cases h10:x.hooks.length=12
      ·rw [if_pos (by omega),if_pos h10,e2]
      ·rw [if_neg (by omega),if_neg h10,zDQ (by omega),bnd_some,zK2 (by omega),bnd_some,zGl,bnd_some,zIu,bnd_some,e1 _ rfl]
   ·rw [if_neg h7,if_neg h7,e2]
  by_cases h6:(cutS s).1=[119,97,116,99,104]
  ·rw [if_pos h6,if_pos h6]
   cases h8:(cutS s).2.2 with
   | false =>
    rw [cnd_false,if_neg (by simp),hj2,if_neg (by rw [h6];decide)]
   | true =>
    rw [cnd_true,if_pos rfl,zQj (by omega),bnd_some]
    unfold fitB
    cases hr:zFo (cutS s).2.1 with
    | false =>
     rw [if_neg (by simp),if_neg (by simp),e2]
     rfl
    | true =>
     rw [if_pos rfl]
     dsimp only
     rw [show ((0:Int) != 0)=false from rfl,cnd_false,zHY,Bool.true_and]
     cases hlw:((cutS s).2.1.map zKO==(cutS s).2.1) with
     | false=>rw [cnd_false,if_neg (by simp),e2]
     | true =>
      rw [cnd_true,if_pos rfl,zBe]
      by_cases h9:x.wat.length=12
      ·rw [if_pos (by omega),if_pos h9,e2]
      ·rw [if_neg (by omega),if_neg h9,zDQ (by simp;omega),bnd_some,e1 _ rfl]
  ·rw [if_neg h6,if_neg h6,hj2]
end Go.Proofs.YtoboimmgglnjfaaGreatDoor
/- The reader of scripts: line by line. -/
namespace Go.Proofs.YtoboimmgglnjfaaGreatDoor
open Go Go.Pw
set_option linter.unusedVariables false
def opR (s:Bs):Op:=match zBu 3000000 s with
 | some r=>r.1
 | none=>op0
theorem opR_m {fu:Nat} {s:Bs} (hs:s.length<=1000000) (hf:s.length+3000<fu):∃e,zBu fu s=some (opR s,e):=by
 unfold opR
 rcases zJ4 (fu:=3000000) hs (by omega) with ⟨o,h1,h2,h3⟩ | ⟨h1,h2⟩
 ·rw [h3]
  rcases zJ4 (fu:=fu) hs hf with ⟨p,g1,g2,g3⟩ | ⟨g1,g2⟩
  ·rw [zPe h1 g1 (h2.trans g2.symm)];exact ⟨0,g3⟩
  ·exact absurd h2 (g1 o h1)
 ·rw [h2]
  rcases zJ4 (fu:=fu) hs hf with ⟨p,g1,g2,g3⟩ | ⟨g1,g2⟩
  ·exact absurd g2 (h1 p g1)
  ·exact ⟨2,g2⟩
theorem zSe {o:Op} (h:RightP o) (hl:(putP o).length<=1000000):opR (putP o)=o:=by
 unfold opR
 rw [zHI h (by omega)]
def zFv (l:Bs):Bs:=l.filter fun b=>b != 10
theorem zF6 {t:Bs} (h:(10:UInt8)∉t):zFv t=t:=List.filter_eq_self.2 fun b hb=>by
 have:b≠10:=fun e=>h (e▸hb)
 simpa using this
theorem zP9 {fu:Nat} {t:Bs} (hl:t.length<=1000000):zA6 fu (t++[10]) [10]=some t:=by
 unfold zA6 zAy zA1
 have e:(((t++[10]:Bs).length:Nat):Int) - ((([10]:Bs).length:Nat):Int)=((t.length:Nat):Int):=by simp
 rw [e,zKI (by omega) (by omega),zB8 (by simp;omega),bnd_some,zCY (by simp) (Nat.le_refl _),bnd_some,bnd_some]
 rw [show ((((t++[10]:Bs).drop t.length).take ((t++[10]:Bs).length - t.length))==([10]:Bs))=true from by simp,cnd_true,bnd_some]
 have:=zCY (s:=(t++[10]:Bs)) (i:=0) (j:=t.length) (Nat.zero_le _) (by simp)
 rw [show ((0:Nat):Int)=0 from rfl] at this
 rw [this,bnd_some,bnd_some]
 simp
theorem zRZ {fu:Nat} {t:Bs} (hl:t.length<=1000000) (h:(10:UInt8)∉t):zA6 fu t [10]=some t:=by
 unfold zA6 zAy zA1
 cases t with
 | nil=>rfl
 | cons b s =>
  have e:(((b::s:Bs).length:Nat):Int) - ((([10]:Bs).length:Nat):Int)=((s.length:Nat):Int):=by simp
  simp only [List.length_cons] at hl
  rw [e,zKI (by omega) (by omega),zB8 (by simp;omega),bnd_some,zCY (by simp) (Nat.le_refl _),bnd_some,bnd_some]
  have hne:((((b::s:Bs).drop s.length).take ((b::s:Bs).length - s.length))==([10]:Bs))=false:=by
   rw [beq_eq_false_iff_ne]
   intro he
   have:(10:UInt8)∈((b::s:Bs).drop s.length).take ((b::s:Bs).length - s.length):=by rw [he];simp
   exact h (List.mem_of_mem_drop (List.mem_of_mem_take this))
  rw [hne,cnd_false,bnd_some]
def Line (l:Bs):Prop:=(∃t,l=t++[10]/\(10:UInt8)∉t)\/(l≠[]/\(10:UInt8)∉l)
theorem trim_m {fu:Nat} {l:Bs} (hl:l.length<=1000000) (h:Line l):zA6 fu l [10]=some (zFv l):=by
 rcases h with ⟨t,rfl,ht⟩ | ⟨_,ht⟩
 ·rw [zP9 (by simp at hl;omega)]
  have:zFv (t++[10])=t:=by
   unfold zFv
   rw [List.filter_append,show t.filter (fun b=>b != 10)=t from zF6 ht]
   simp
  rw [this]
 ·rw [zRZ hl ht,zF6 ht]
theorem zKB (l:Bs):(zFv l).length<=l.length:=List.length_filter_le _ _
theorem zMU {x y:Rs} {s:Bs} (hx:x.Ok) (h:zFj x s=some y):y.Ok:=by
 have hc:=zEv x
 have hh:=zGI x
 have h12:=hx.cls12
 have hh12:=hx.hooks12
 unfold zFj at h
 split at h
 ·cases h
  exact ⟨hx.pre0,hx.hpre0,fun _=>rfl,fun h=>(by cases h),by simp,rfl,h12,hh12,hx.wat12,hx.pk60,hx.mak60,hx.dos60⟩
 split at h
 ·split at h
  ·cases h
  ·rename_i hne
   cases h
   refine ⟨fun h=>(by cases h),fun _=>rfl,fun h=>(by cases h),fun h=>(by cases h),by simp,rfl,?_,by simp [Rs.hooks],by simp,by simp,by simp,by simp⟩
   rw [zEv]
   simp only [if_true]
   omega
 split at h
 ·cases h
 rename_i hact
 have ha:x.act=true:=by cases e:x.act<;>simp_all
 split at h
 ·cases h
  exact ⟨hx.pre0,hx.hpre0,fun h=>absurd (ha.symm.trans h) (by simp),fun h=>(by cases h),by simp,rfl,h12,hh12,hx.wat12,hx.pk60,hx.mak60,hx.dos60⟩
 split at h
 ·cases h
  exact ⟨hx.pre0,hx.hpre0,fun h=>absurd (ha.symm.trans h) (by simp),fun h=>(by cases h),by simp,rfl,h12,hh12,hx.wat12,hx.pk60,hx.mak60,hx.dos60⟩
 split at h
 ·split at h
  ·split at h
   ·split at h
    ·cases h
    ·rename_i hw
     cases h
     refine ⟨hx.pre0,hx.hpre0,hx.k0,hx.k3,hx.kle,hx.most_,?_,hh12,?_,hx.pk60,hx.mak60,hx.dos60⟩
     ·rw [zEv] at h12 ⊢;exact h12
     ·have:=hx.wat12
      simp only [List.length_append,List.length_cons,List.length_nil]
      omega
   ·cases h
  ·cases h
 split at h
 ·split at h
  ·split at h
   ·cases h
   ·split at h
    ·cases h
    ·rename_i hne
     cases h
     refine ⟨hx.pre0,fun h=>(by cases h),fun h=>absurd (ha.symm.trans h) (by simp),fun _=>rfl,by simp,rfl,?_,?_,hx.wat12,hx.pk60,hx.mak60,by simp⟩
     ·rw [zEv] at h12 ⊢;exact h12
     ·rw [zGI]
      simp only [if_true]
      omega
  ·cases h
 ·cases h
def zDY (x:Rs×List Op) (s:Bs):Option (Rs×List Op) :=
 if s=[] then some x else match zFj x.1 s with
 | some y=>some (y,x.2)
 | none=>match x.1.k with
  | 0=>if x.2.length=300 then none else some (x.1,x.2++[opR s])
  | 1=>if x.1.pk.length=60 then none else some ({ x.1 with pk:=x.1.pk++[opR s] },x.2)
  | 2=>if x.1.mak.length=60 then none else some ({ x.1 with mak:=x.1.mak++[opR s] },x.2)
  | _=>if x.1.dos.length=60 then none else some ({ x.1 with dos:=x.1.dos++[opR s] },x.2)
def zM1:List Bs->Rs×List Op->Option (Rs×List Op)
 | [],x=>some x
 | l::ls,x=>match zDY x (zFv l) with
  | some y=>zM1 ls y
  | none=>none
def finR:Option (Rs×List Op)->Script×Int
 | some x=>(⟨x.1.cls,x.2⟩,0)
 | none=>(⟨[],[]⟩,3)
theorem zLq {x y:Rs×List Op} {s:Bs} (hx:x.1.Ok) (hm:x.2.length<=300) (h:zDY x s=some y):y.1.Ok/\y.2.length<=300:=by
 unfold zDY at h
 split at h
 ·cases h;exact ⟨hx,hm⟩
 split at h
 ·rename_i z hz
  cases h;exact ⟨zMU hx hz,hm⟩
 ·split at h
  ·split at h
   ·cases h
   ·cases h
    exact ⟨hx,by simp only [List.length_append,List.length_cons,List.length_nil];omega⟩
  ·split at h
   ·cases h
   ·rename_i hk hne
    cases h
    refine ⟨⟨hx.pre0,hx.hpre0,hx.k0,hx.k3,hx.kle,hx.most_,?_,hx.hooks12,hx.wat12,?_,hx.mak60,hx.dos60⟩,hm⟩
    ·have:=hx.cls12
     rw [zEv] at this ⊢;exact this
    ·have:=hx.pk60
     simp only [List.length_append,List.length_cons,List.length_nil];omega
  ·split at h
   ·cases h
   ·rename_i hk hne
    cases h
    refine ⟨⟨hx.pre0,hx.hpre0,hx.k0,hx.k3,hx.kle,hx.most_,?_,hx.hooks12,hx.wat12,hx.pk60,?_,hx.dos60⟩,hm⟩
    ·have:=hx.cls12
     rw [zEv] at this ⊢;exact this
    ·have:=hx.mak60
     simp only [List.length_append,List.length_cons,List.length_nil];omega
  ·split at h
   ·cases h
   ·rename_i hk hne
    cases h
    refine ⟨⟨hx.pre0,hx.hpre0,hx.k0,hx.k3,hx.kle,hx.most_,?_,?_,hx.wat12,hx.pk60,hx.mak60,?_⟩,hm⟩
    ·have:=hx.cls12
     rw [zEv] at this ⊢;exact this
    ·have:=hx.hooks12
     rw [zGI] at this ⊢;exact this
    ·have:=hx.dos60
     simp only [List.length_append,List.length_cons,List.length_nil];omega
theorem zOD {fu:Nat} (hf:30000<fu):∀(ls:List Bs) (x:Rs) (m:List Op),x.Ok->m.length<=300->(∀l∈ls,Line l/\l.length<=20000) ->
  zBD fu ls (x.k,x.most,(x.pre,x.act),x.form,x.wat,x.pk,x.mak,(x.hpre,x.hact),x.kind,x.dos,m)=some (finR (zM1 ls (x,m)))
 | [],x,m,hx,hm,hl=>rfl
 | l::ls,x,m,hx,hm,hl=>by
  obtain ⟨h1,h2⟩:=hl l (by simp)
  have hls:∀l∈ls,Line l/\l.length<=20000:=fun l hl'=>hl l (by simp [hl'])
  have ht:=zKB l
  have ih:=fun (y:Rs) (m':List Op) (hy:y.Ok) (hm':m'.length<=300)=>zOD hf ls y m' hy hm' hls
  rw [zBD,trim_m (by omega) h1,bnd_some,zBe,zM1]
  have hso:=fun y=>zLq (y:=y) (s:=zFv l) (x:=(x,m)) hx hm
  unfold zDY at hso ⊢
  by_cases h0:zFv l=[]
  ·rw [if_pos h0,if_pos h0]
   exact ih x m hx hm
  rw [if_neg h0] at hso
  rw [if_neg h0,if_neg h0,head_m hx (by omega) (by omega),bnd_some]
  dsimp only at hso ⊢
  cases hh:zFj x (zFv l) with
  | some y =>
   show cnd true (zBD fu ls (y.k,y.most,(y.pre,y.act),y.form,y.wat,y.pk,y.mak,(y.hpre,y.hact),y.kind,y.dos,m)) _=_
   rw [cnd_true]
   exact ih y m (zMU hx hh) hm
  | none =>
   rw [hh] at hso
   obtain ⟨e,he⟩:=opR_m (fu:=fu) (s:=zFv l) (by omega) (by omega)
   rw [show outR x none=(false,x.k,x.most,(x.pre,x.act),x.form,(x.hpre,x.hact),x.kind,x.wat,x.pk,x.mak,x.dos) from rfl]
   dsimp only
   rw [cnd_false]
   have hmo:=hx.most_
   dsimp only at hso ⊢
   match hk:x.k,hx.kle with
   | 0,_ =>
    rw [hk] at hmo hso
    simp only [if_true] at hmo
    try dsimp only at hso
    show cnd (((m.length:Nat):Int)==x.most) _ _=_
    rw [hmo,zBe]
    by_cases h3:m.length=300
    ·rw [if_pos (by omega),if_pos h3];rfl
    ·rw [if_neg (by omega),if_neg h3,he,bnd_some,zDQ (by simp;omega),bnd_some]
     have:=ih x (m++[opR (zFv l)]) hx (by simp;omega)
     rw [hk,hmo] at this
     exact this
   | 1,_ =>
    rw [hk] at hmo hso
    simp only [show ¬(1=0) by decide,if_false] at hmo
    try dsimp only at hso
    have hact:x.act=true:=by
     cases ha:x.act with
     | true=>rfl
     | false=>have:=hx.k0 ha;omega
    show bnd (zHD x.act) (fun _=>cnd (((x.pk.length:Nat):Int)==x.most) _ _)=_
    rw [hact,show zHD true=some () from rfl,bnd_some,hmo,zBe]
    by_cases h3:x.pk.length=60
    ·rw [if_pos (by omega),if_pos h3];rfl
    ·have hp:=hx.pk60
     rw [if_neg (by omega),if_neg h3,he,bnd_some,zDQ (by simp;omega),bnd_some]
     have hy:=(hso _ (if_neg h3)).1
     have:=ih _ m hy hm
     dsimp only at this
     rw [hmo,hact] at this
     exact this
   | 2,_ =>
    rw [hk] at hmo hso
    simp only [show ¬(2=0) by decide,if_false] at hmo
    try dsimp only at hso
    have hact:x.act=true:=by
     cases ha:x.act with
     | true=>rfl
     | false=>have:=hx.k0 ha;omega
    show bnd (zHD x.act) (fun _=>cnd (((x.mak.length:Nat):Int)==x.most) _ _)=_
    rw [hact,show zHD true=some () from rfl,bnd_some,hmo,zBe]
    by_cases h3:x.mak.length=60
    ·rw [if_pos (by omega),if_pos h3];rfl
    ·have hp:=hx.mak60
     rw [if_neg (by omega),if_neg h3,he,bnd_some,zDQ (by simp;omega),bnd_some]
     have hy:=(hso _ (if_neg h3)).1
     have:=ih _ m hy hm
     dsimp only at this
     rw [hmo,hact] at this
     exact this
   | 3,_ =>
    rw [hk] at hmo hso
    simp only [show ¬(3=0) by decide,if_false] at hmo
    try dsimp only at hso
    have hact:x.hact=true:=hx.k3 hk
    show bnd (zHD x.hact) (fun _=>cnd (((x.dos.length:Nat):Int)==x.most) _ _)=_
    rw [hact,show zHD true=some () from rfl,bnd_some,hmo,zBe]
    by_cases h3:x.dos.length=60
    ·rw [if_pos (by omega),if_pos h3];rfl
    ·have hp:=hx.dos60
     rw [if_neg (by omega),if_neg h3,he,bnd_some,zDQ (by simp;omega),bnd_some]
     have hy:=(hso _ (if_neg h3)).1
     have:=ih _ m hy hm
     dsimp only at this
     rw [hmo,hact] at this
     exact this
def rs0:Rs:=⟨0,300,[],false,false,[],false,0,[],[],[],[]⟩
theorem zQa:rs0.Ok:=⟨fun _=>rfl,fun _=>rfl,fun _=>rfl,fun h=>(by cases h),by decide,rfl,by decide,by decide,by decide,by decide,by decide,by decide⟩
def zH8 (s:Bs):Script×Int:=if s.length>16384 then (⟨[],[]⟩,3) else finR (zM1 (zBO s) (rs0,[]))
theorem zJa {fu:Nat} (hf:30000<fu) (s:Bs):zBn fu s=some (zH8 s):=by
 unfold zBn zH8
 rw [zDf]
 by_cases h:s.length>16384
 ·rw [if_pos (by omega),if_pos h]
 ·rw [if_neg (by omega),if_neg h,zQu,bnd_some,show fits s=some () from if_pos (by omega),bnd_some]
  exact zOD hf (zBO s) rs0 [] zQa (by simp) fun l hl=>⟨zFF s l hl,by have:=zE5 hl;omega⟩
end Go.Proofs.YtoboimmgglnjfaaGreatDoor
/- Scripts: who is allowed, and the text that is put. -/
namespace Go.Proofs.YtoboimmgglnjfaaGreatDoor
open Go Go.Pw
set_option linter.unusedVariables false
theorem eqO (x y:Op):eqOp x y=decide (x=y):=by
 rw [Bool.eq_iff_iff,decide_eq_true_eq]
 obtain ⟨a1,a2,a3,a4,a5,a6,a7⟩:=x
 obtain ⟨b1,b2,b3,b4,b5,b6,b7⟩:=y
 simp [eqOp]
def okOp (o:Op):Bool:=decide (o=op0)||zE7 o
theorem odd_m (fu:Nat) (o:Op):zCP fu o=some (!okOp o):=by
 unfold zCP okOp
 rw [eqO,zHY,zDf]
 show (if o=op0 then some false else bnd (zDt fu o) fun r2=>some (!r2))=_
 by_cases h:o=op0
 ·rw [if_pos h,decide_eq_true h];rfl
 ·rw [if_neg h,decide_eq_false h,zNn,bnd_some,Bool.false_or]
theorem hasOp {fu:Nat} {t:Op->Option Bool} {p:Op->Bool} {l:List Op} (ht:∀x∈l,t x=some (p x)) (hf:l.length<fu) (hb:l.length<=1000000):zBJ fu t l=some (l.any p):=by
 unfold zBJ zCB
 obtain ⟨r,h1,h2⟩:=zHP (L:=zAv t l) l p (fun i hi k=>by
  simp only [zAv]
  rw [zB8 (by simpa using hi),zDw hi,bnd_some,ht _ (List.getElem_mem hi),bnd_some,zCE (by omega),bnd_some]
  cases p l[i]<;>rfl) (fun k=>by simp only [zAv];rw [zBY (by simp)]) hf
 rw [h1,bnd_some,h2]
theorem zRx {fu:Nat} {t:Hook->Option Bool} {p:Hook->Bool} {l:List Hook} (ht:∀x∈l,t x=some (p x)) (hf:l.length<fu) (hb:l.length<=1000000):zBH fu t l=some (l.any p):=by
 unfold zBH zBz
 obtain ⟨r,h1,h2⟩:=zHP (L:=zAi t l) l p (fun i hi k=>by
  simp only [zAi]
  rw [zB8 (by simpa using hi),zDw hi,bnd_some,ht _ (List.getElem_mem hi),bnd_some,zCE (by omega),bnd_some]
  cases p l[i]<;>rfl) (fun k=>by simp only [zAi];rw [zBY (by simp)]) hf
 rw [h1,bnd_some,h2]
theorem zPj {fu:Nat} {t:Class->Option Bool} {p:Class->Bool} {l:List Class} (ht:∀x∈l,t x=some (p x)) (hf:l.length<fu) (hb:l.length<=1000000):zBA fu t l=some (l.any p):=by
 unfold zBA zBw
 obtain ⟨r,h1,h2⟩:=zHP (L:=zAf t l) l p (fun i hi k=>by
  simp only [zAf]
  rw [zB8 (by simpa using hi),zDw hi,bnd_some,ht _ (List.getElem_mem hi),bnd_some,zCE (by omega),bnd_some]
  cases p l[i]<;>rfl) (fun k=>by simp only [zAf];rw [zBY (by simp)]) hf
 rw [h1,bnd_some,h2]
theorem hasStr {fu:Nat} {t:Bs->Option Bool} {p:Bs->Bool} {l:List Bs} (ht:∀x∈l,t x=some (p x)) (hf:l.length<fu) (hb:l.length<=1000000):zBI fu t l=some (l.any p):=by
 unfold zBI zB5
 obtain ⟨r,h1,h2⟩:=zHP (L:=zAp t l) l p (fun i hi k=>by
  simp only [zAp]
  rw [zB8 (by simpa using hi),zDw hi,bnd_some,ht _ (List.getElem_mem hi),bnd_some,zCE (by omega),bnd_some]
  cases p l[i]<;>rfl) (fun k=>by simp only [zAp];rw [zBY (by simp)]) hf
 rw [h1,bnd_some,h2]
theorem zJV {α : Type} (l:List α) (p : α -> Bool):(!(l.any fun x => !p x))=l.all p:=by induction l<;>simp_all
theorem zPT {α : Type} (l:List α) (p : α -> Bool):(l.any fun x => !p x) = !(l.all p):=by rw [<- zJV,Bool.not_not]
def hokB (h:Hook):Bool:=decide (1<=h.Kind)&&(decide (h.Kind<=8)&&decide (h.Do.length<=60))
def clsB (c:Class):Bool:=decide (c.Watch.length<=12)&&(c.Watch.all fitB&&(decide (c.Hooks.length<=12)&&(c.Hooks.all hokB&&(decide (c.Peek.length<=60)&&decide (c.Make.length<=60)))))
theorem gt_le (n:Nat) (m:Nat):decide (((n:Nat):Int)>(m:Int)) = !decide (n<=m):=by
 by_cases h:n<=m
 ·rw [decide_eq_true h,decide_eq_false (by omega)];rfl
 ·rw [decide_eq_false h,decide_eq_true (by omega)];rfl
theorem zSP (n:Nat) (m:Nat):decide (((n:Nat):Int)<=(m:Int))=decide (n<=m):=by
 rw [Bool.eq_iff_iff,decide_eq_true_eq,decide_eq_true_eq];omega
theorem zOE (fu:Nat) (l:List Op):zDX fu l=some (!decide (l.length<=60)):=congrArg some (gt_le l.length 60)
theorem zRU {fu:Nat} (hf:300<fu) (s:Bs):zBS fu s=some (!fitB s):=by
 unfold zBS fitB
 rw [zQj (by omega),bnd_some]
 cases zFo s with
 | false=>rfl
 | true =>
  rw [if_pos rfl,Bool.true_and]
  rfl
theorem zRG (fu:Nat) (h:Hook):zBT fu h=some (!hokB h):=by
 unfold zBT hokB
 rw [zOE,bnd_some,zDf,zDf]
 by_cases h1:h.Kind<1
 ·rw [if_pos h1,decide_eq_false (by omega)];rfl
 ·rw [if_neg h1,decide_eq_true (show 1<=h.Kind by omega),Bool.true_and]
  by_cases h2:h.Kind>8
  ·rw [if_pos h2,decide_eq_false (by omega)];rfl
  ·rw [if_neg h2,decide_eq_true (show h.Kind<=8 by omega),Bool.true_and]
theorem zRn {fu:Nat} (hf:300<fu) (c:Class):zC3 fu c=some (clsB c):=by
 unfold zC3 clsB
 rw [show decide (((c.Watch.length:Nat):Int)<=12)=decide (c.Watch.length<=12) from zSP _ 12,show decide (((c.Hooks.length:Nat):Int)<=12)=decide (c.Hooks.length<=12) from zSP _ 12]
 by_cases h1:c.Watch.length<=12
 ·rw [decide_eq_true h1,cnd_true,hasStr (p:=fun s => !fitB s) (fun s _=>zRU hf s) (by omega) (by omega),bnd_some,zJV,Bool.true_and]
  cases c.Watch.all fitB with
  | false=>rfl
  | true =>
   rw [cnd_true,Bool.true_and]
   by_cases h2:c.Hooks.length<=12
   ·rw [decide_eq_true h2,cnd_true,zRx (p:=fun h => !hokB h) (fun h _=>zRG fu h) (by omega) (by omega),bnd_some,zJV,Bool.true_and]
    cases c.Hooks.all hokB with
    | false=>rfl
    | true =>
     rw [cnd_true,zOE,bnd_some,Bool.not_not,Bool.true_and,zOE,bnd_some]
     cases decide (c.Peek.length<=60)<;>simp
   ·rw [decide_eq_false h2];rfl
 ·rw [decide_eq_false h1];rfl
def okPr (y:zM5):Bool:=decide ((y.1.length:Int)<=y.2)&&y.1.all okOp
def zDC (s:Script):Bool:=(zAj s).all okPr&&(decide (s.Classes.length<=12)&&s.Classes.all clsB)
theorem zM3 (s:Script):∀y∈zAj s,y.2<=300:=by
 intro y hy
 simp only [zAj,List.mem_append,List.mem_flatMap,zG3,List.mem_cons,List.mem_map,List.not_mem_nil,or_false] at hy
 rcases hy with ⟨c,_,rfl | rfl | ⟨h,_,rfl⟩⟩ | rfl<;>simp
theorem zKJ {fu:Nat} (hf:1000<fu) (s:Script):∀ys:List zM5,(∀y∈ys,y.2<=300)->zBs fu s ys ()=some (ys.all okPr&&(decide (s.Classes.length<=12)&&s.Classes.all clsB))
 | [],_=>by
  rw [zBs,show decide (((s.Classes.length:Nat):Int)<=12)=decide (s.Classes.length<=12) from zSP _ 12,List.all_nil,Bool.true_and]
  by_cases h:s.Classes.length<=12
  ·rw [decide_eq_true h,cnd_true,zPj (p:=fun c => !clsB c) (fun c _=>?_) (by omega) (by omega),bnd_some,zJV,Bool.true_and]
   unfold zBf
   rw [zRn (by omega),bnd_some]
  ·rw [decide_eq_false h];rfl
 | y::ys,hy=>by
  have h3:=hy y (by simp)
  rw [zBs,List.all_cons,zDf]
  unfold okPr
  by_cases h:((y.1.length:Nat):Int)>y.2
  ·rw [if_pos h,decide_eq_false (by omega)];rfl
  ·rw [if_neg h,decide_eq_true (show (y.1.length:Int)<=y.2 by omega),hasOp (p:=fun o => !okOp o) (fun o _=>odd_m fu o) (by omega) (by omega),bnd_some,zPT,Bool.true_and]
   cases y.1.all okOp with
   | false=>rfl
   | true =>
    show cnd false _ _=_
    rw [cnd_false,zKJ hf s ys fun z hz=>hy z (by simp [hz]),Bool.true_and]
    rfl
theorem zH1 {fu:Nat} (hf:1000<fu) (s:Script):zBj fu s=some (zDC s):=zKJ hf s _ (zM3 s)
end Go.Proofs.YtoboimmgglnjfaaGreatDoor
/- Scripts: the text that is put. -/
namespace Go.Proofs.YtoboimmgglnjfaaGreatDoor
open Go Go.Pw
set_option linter.unusedVariables false
set_option maxRecDepth 4000
def zEa (o:Op):Bs:=if zE7 o=true then putP o else [63]
def opL (o:Op):Bs:=zEa o++[10]
def opsT (h:Bs) (l:List Op):Bs:=(if l=[]\/h=[] then [] else h++[10])++l.flatMap opL
def zEh (w:Bs):Bs:=([119,97,116,99,104]:Bs)++32::w++[10]
def zEM (h:Hook):Bs:=([111,110]:Bs)++32::kindsL.getD h.Kind.toNat []++[10]++opsT [] h.Do
def clsH (c:Class):Bs:=(if c.Form then ([99,108,97,115,115]:Bs)++32::([102,111,114,109]:Bs) else ([99,108,97,115,115]:Bs))++[10]
def clsT (c:Class):Bs:=clsH c++(c.Watch.flatMap zEh++(opsT ([112,101,101,107]:Bs) c.Peek++(opsT ([109,97,107,101]:Bs) c.Make++c.Hooks.flatMap zEM)))
def putR (s:Script):Bs:=s.Classes.flatMap clsT++opsT ([109,97,105,110]:Bs) s.Main
theorem zKd (o:Op):(zEa o).length<=1000:=by
 unfold zEa
 split
 ·rename_i h;exact zI2 (right_iff.1 h)
 ·simp
theorem zEm {α : Type} (f : α -> Bs) (n:Nat):∀(l:List α),(∀x∈l,(f x).length<=n)->(l.flatMap f).length<=l.length*n
 | [],_=>by simp
 | x::l,h=>by
  have:=zEm f n l fun y hy=>h y (by simp [hy])
  have h1:=h x (by simp)
  simp only [List.flatMap_cons,List.length_append,List.length_cons,Nat.succ_mul]
  omega
theorem zEu (h:Bs) (l:List Op):(opsT h l).length<=h.length+1+l.length*1001:=by
 have:=zEm opL 1001 l fun o _=>by unfold opL;have:=zKd o;simp;omega
 unfold opsT
 rw [List.length_append]
 split<;>simp only [List.length_nil,List.length_append,List.length_cons]<;>omega
theorem zPz (a b s:Bs):Lib.join [a,b] s=a++(s++b):=by simp [Lib.join,List.intercalate]
theorem zRE {fu:Nat} {ws:List Bs} {t:Bs} (h0:ws≠[]) (hn:ws.length<=100) (hj:(Lib.join ws [32]).length<=100000) (ht:t.length<=900000000):zAQ fu ws (zAP t)=some (zAP (t++(Lib.join ws [32]++[10]))):=by
 unfold zAQ zJy
 rw [if_pos ⟨h0,by omega,by omega⟩,bnd_some,wstr (by omega),bnd_some,wstr (by simp;omega),bnd_some,List.append_assoc]
theorem zLD {fu:Nat} {w t:Bs} (hj:w.length<=100000) (ht:t.length<=900000000):zAQ fu [w] (zAP t)=some (zAP (t++(w++[10]))):=by
 have h:Lib.join [w] [32]=w:=Lib.join_one _ _
 rw [zRE (by simp) (by simp) (by rw [h];exact hj) ht,h]
theorem zKq {fu:Nat} {v w t:Bs} (hv:v.length<=100) (hj:w.length<=1000) (ht:t.length<=900000000):zAQ fu [v,w] (zAP t)=some (zAP (t++(v++32::w++[10]))):=by
 have h:Lib.join [v,w] [32]=v++32::w:=zPz _ _ _
 rw [zRE (by simp) (by simp) (by rw [h];simp;omega) ht,h]
theorem zQ4 {fu:Nat} {l:List Op}:∀(j i k:Nat) (t:Bs),i+j=l.length->j<k->l.length<=100000->t.length+j*2000<=800000000->zAe fu l k ((i:Int),zAP t)=some (zAP (t++(l.drop i).flatMap opL))
 | 0,i,k+1,t,hi,hk,hl,ht=>by
  rw [zAe,zBY (by simp;omega),List.drop_of_length_le (by omega)]
  simp
 | j+1,i,k+1,t,hi,hk,hl,ht=>by
  have hlt:i<l.length:=by omega
  rw [zAe,zB8 (by simpa using hlt),zDw hlt,bnd_some,zSG,bnd_some]
  have hp:=zKd l[i]
  have e:∀w:Bs,w=zEa l[i]->bnd (zAQ fu [w] (zAP t)) (fun r10=>bnd (rng .i64 ((i:Int)+1)) fun i12=>zAe fu l k (i12,r10))=some (zAP (t++(l.drop i).flatMap opL)):=fun w hw=>by
   subst hw
   rw [zLD (by omega) (by omega),bnd_some,zCE (by omega),bnd_some,zQ4 j (i+1) k _ (by omega) (by omega) hl (by simp;omega),List.drop_eq_getElem_cons hlt,List.flatMap_cons]
   simp [opL]
  unfold zEa at e
  by_cases hr:zE7 l[i]=true
  ·rw [if_pos hr] at e ⊢
   show cnd ((0:Int) != 0) _ _=_
   rw [show ((0:Int) != 0)=false from rfl,cnd_false]
   exact e _ rfl
  ·rw [if_neg hr] at e ⊢
   show cnd ((1:Int) != 0) _ _=_
   rw [show ((1:Int) != 0)=true from rfl,cnd_true]
   exact e _ rfl
theorem zMN {fu:Nat} {h:Bs} {l:List Op} {t:Bs} (hf:l.length<fu) (hh:h.length<=1000) (hl:l.length<=1000) (ht:t.length<=700000000):zA8 fu h l (zAP t)=some (zAP (t++opsT h l)):=by
 unfold zA8 zBZ opsT
 have key:∀t:Bs,t.length<=750000000->zAe fu l fu (0,zAP t)=some (zAP (t++l.flatMap opL)):=fun t ht=>zQ4 l.length 0 fu t (by omega) hf (by omega) (by omega)
 cases l with
 | nil =>
  rw [zBY (by simp),key t (by omega)]
  simp
 | cons o l =>
  rw [zB8 (by simp),zHY,zBe]
  by_cases h0:h=[]
  ·rw [if_pos h0,key t (by omega),if_pos (.inr h0)];rfl
  ·rw [if_neg h0,zLD (by omega) (by omega),bnd_some,key _ (by simp;omega),if_neg (by simp [h0])]
   simp
theorem zKA (i:Nat):(kindsL.getD i []).length<=8:=by
 rcases Nat.lt_or_ge i 9 with h | h
 ·have:∀j:Fin 9,(kindsL.getD j []).length<=8:=by decide
  exact this ⟨i,h⟩
 ·rw [List.getD_eq_getElem?_getD,List.getElem?_eq_none (by simpa [kindsL] using h)];simp
theorem zPP {k:Int} (h1:1<=k) (h2:k<=8):idx kindsL k=some (kindsL.getD k.toNat []):=by
 have e:k=((k.toNat:Nat):Int):=by omega
 rw [e,zDw (by simp [kindsL];omega)]
 simp only [Int.toNat_natCast]
 rw [List.getD_eq_getElem?_getD,List.getElem?_eq_getElem (by simp [kindsL];omega)]
 rfl
theorem zQg {fu:Nat} {t3:Int} {c:Class} {rc:Int×List Int->Option (Bs×Int)} (hf:1000<fu) (hc:clsB c=true) (hp:100<fu):∀(j i k:Nat) (t:Bs),i+j=c.Hooks.length->j<k->t.length+j*70000<=600000000 ->
  zCd fu t3 c rc k ((i:Int),zAP t)=bnd (rng .i64 (t3+1)) fun i24=>rc (i24,zAP (t++(c.Hooks.drop i).flatMap zEM))
 | 0,i,k+1,t,hi,hk,ht=>by
  rw [zCd,zBY (by simp;omega),List.drop_of_length_le (by omega)]
  simp
 | j+1,i,k+1,t,hi,hk,ht=>by
  have hlt:i<c.Hooks.length:=by omega
  simp only [clsB,Bool.and_eq_true,decide_eq_true_eq] at hc
  have hh:=List.all_eq_true.1 hc.2.2.2.1 c.Hooks[i] (List.getElem_mem hlt)
  simp only [hokB,Bool.and_eq_true,decide_eq_true_eq] at hh
  rw [zCd,zB8 (by simpa using hlt),zDw hlt,bnd_some,zOq,bnd_some,zPP hh.1 hh.2.1,bnd_some]
  have hk8:=zKA c.Hooks[i].Kind.toNat
  have hol:=zEu [] c.Hooks[i].Do
  simp only [List.length_nil] at hol
  rw [zKq (by simp) (by omega) (by omega),bnd_some,zMN (by omega) (by simp) (by omega) (by simp only [List.length_append,List.length_cons,List.length_nil];omega),bnd_some,zCE (by omega),bnd_some,
   zQg hf (by simp only [clsB,Bool.and_eq_true,decide_eq_true_eq];exact hc) hp j (i+1) k _ (by omega) (by omega) (by simp only [List.length_append,List.length_cons,List.length_nil];omega),List.drop_eq_getElem_cons hlt,List.flatMap_cons]
  simp [zEM]
theorem zQn {fu:Nat} {t3:Int} {c:Class} {rc:Int×List Int->Option (Bs×Int)} (hf:1000<fu) (hc:clsB c=true):∀(j i k:Nat) (t:Bs),i+j=c.Watch.length->j<k->t.length+j*70000<=500000000 ->
  zCb fu t3 c rc k ((i:Int),zAP t)=bnd (rng .i64 (t3+1)) fun i24=>rc (i24,zAP (t++((c.Watch.drop i).flatMap zEh++(opsT ([112,101,101,107]:Bs) c.Peek++(opsT ([109,97,107,101]:Bs) c.Make++c.Hooks.flatMap zEM)))))
 | 0,i,k+1,t,hi,hk,ht=>by
  have hc':=hc
  simp only [clsB,Bool.and_eq_true,decide_eq_true_eq] at hc'
  have h1:=zEu ([112,101,101,107]:Bs) c.Peek
  have h2:=zEu ([109,97,107,101]:Bs) c.Make
  simp only [List.length_cons,List.length_nil] at h1 h2
  have hp1:=hc'.2.2.2.2.1
  have hp2:=hc'.2.2.2.2.2
  have hw:=hc'.2.2.1
  clear hc'
  have l1:(t++opsT ([112,101,101,107]:Bs) c.Peek).length=t.length+(opsT ([112,101,101,107]:Bs) c.Peek).length:=List.length_append
  have l2:((t++opsT ([112,101,101,107]:Bs) c.Peek)++opsT ([109,97,107,101]:Bs) c.Make).length=(t++opsT ([112,101,101,107]:Bs) c.Peek).length+(opsT ([109,97,107,101]:Bs) c.Make).length:=List.length_append
  have hb:(t++opsT ([112,101,101,107]:Bs) c.Peek).length<=700000000:=by omega
  have hb2:((t++opsT ([112,101,101,107]:Bs) c.Peek)++opsT ([109,97,107,101]:Bs) c.Make).length+c.Hooks.length*70000<=600000000:=by omega
  have q1:c.Peek.length<fu/\c.Peek.length<=1000/\t.length<=700000000:=by omega
  have q2:c.Make.length<fu/\c.Make.length<=1000:=by omega
  have e1:=zMN (fu:=fu) (h:=([112,101,101,107]:Bs)) (t:=t) q1.1 (by decide) q1.2.1 q1.2.2
  have e2:=zMN (fu:=fu) (h:=([109,97,107,101]:Bs)) q2.1 (by decide) q2.2 hb
  rw [zCb,zBY (by simp;omega),e1,bnd_some,e2,bnd_some]
  have:=zQg (fu:=fu) (t3:=t3) (rc:=rc) hf hc (by omega) c.Hooks.length 0 fu ((t++opsT ([112,101,101,107]:Bs) c.Peek)++opsT ([109,97,107,101]:Bs) c.Make) (by omega) (by omega) hb2
  rw [show ((0:Nat):Int)=0 from rfl] at this
  rw [this,List.drop_of_length_le (by omega:c.Watch.length<=i)]
  simp
 | j+1,i,k+1,t,hi,hk,ht=>by
  have hlt:i<c.Watch.length:=by omega
  have hc':=hc
  simp only [clsB,Bool.and_eq_true,decide_eq_true_eq] at hc'
  have hw:=List.all_eq_true.1 hc'.2.1 c.Watch[i] (List.getElem_mem hlt)
  unfold fitB at hw
  simp only [Bool.and_eq_true] at hw
  have hwl:=(zGn hw.1).2
  rw [zCb,zB8 (by simpa using hlt),zDw hlt,bnd_some,zKq (by simp) (by omega) (by omega),bnd_some,zCE (by omega),bnd_some,
   zQn hf hc j (i+1) k _ (by omega) (by omega) (by simp only [List.length_append,List.length_cons,List.length_nil];omega),List.drop_eq_getElem_cons hlt,List.flatMap_cons]
  simp [zEh]
theorem zMv {c:Class} (hc:clsB c=true):(c.Watch.flatMap zEh).length<=12*50:=by
 simp only [clsB,Bool.and_eq_true,decide_eq_true_eq] at hc
 have:=zEm zEh 50 c.Watch fun w hw=>by
  have hw:=List.all_eq_true.1 hc.2.1 w hw
  unfold fitB at hw
  simp only [Bool.and_eq_true] at hw
  have hwl:=(zGn hw.1).2
  simp [zEh];omega
 have h1:=hc.1
 have:c.Watch.length*50<=12*50:=Nat.mul_le_mul_right _ h1
 omega
theorem zQG {c:Class} (hc:clsB c=true):(clsT c).length<=1000000:=by
 have hw:=zMv hc
 simp only [clsB,Bool.and_eq_true,decide_eq_true_eq] at hc
 have h1:=zEu ([112,101,101,107]:Bs) c.Peek
 have h2:=zEu ([109,97,107,101]:Bs) c.Make
 simp only [List.length_cons,List.length_nil] at h1 h2
 have h3:=zEm zEM 62000 c.Hooks fun h hh=>by
  have hh:=List.all_eq_true.1 hc.2.2.2.1 h hh
  simp only [hokB,Bool.and_eq_true,decide_eq_true_eq] at hh
  have hol:=zEu [] h.Do
  simp only [List.length_nil] at hol
  have:=zKA h.Kind.toNat
  simp only [zEM,List.length_append,List.length_cons,List.length_nil]
  omega
 have h4:(clsH c).length<=20:=by unfold clsH;split<;>simp
 unfold clsT
 simp only [List.length_append]
 omega
def finP (t:Bs):Bs×Int:=if t.length>16384 then ([],3) else (t,0)
theorem zQ2 {fu:Nat} {s:Script} (hf:1000<fu) (hs:s.Classes.length<=12) (hc:∀c∈s.Classes,clsB c=true) (hm:s.Main.length<=300):∀(j i k:Nat) (t:Bs),i+j=s.Classes.length->j<k->t.length+j*1000000<=300000000 ->
  zA2 fu s k ((i:Int),zAP t)=some (finP (t++((s.Classes.drop i).flatMap clsT++opsT ([109,97,105,110]:Bs) s.Main)))
 | 0,i,k+1,t,hi,hk,ht=>by
  have h1:=zEu ([109,97,105,110]:Bs) s.Main
  simp only [List.length_cons,List.length_nil] at h1
  rw [zA2,zBY (by simp;omega),zMN (by omega) (by simp) (by omega) (by omega),bnd_some,List.drop_of_length_le (by omega)]
  unfold zCW
  rw [bnd_some,zHe,zDf,bstr,bnd_some,List.flatMap_nil,List.nil_append]
  unfold finP
  by_cases h:(t++opsT ([109,97,105,110]:Bs) s.Main).length>16384
  ·rw [if_pos h,if_pos (by omega)]
  ·rw [if_neg h,if_neg (by omega)]
 | j+1,i,k+1,t,hi,hk,ht=>by
  have hlt:i<s.Classes.length:=by omega
  have hci:=hc _ (List.getElem_mem hlt)
  have hcl:=zQG hci
  have hci':=hci
  simp only [clsB,Bool.and_eq_true,decide_eq_true_eq] at hci'
  have e:∀h:Bs,h=clsH s.Classes[i]->zC8 fu (i:Int) s.Classes[i] (zA2 fu s k) (zAP (t++h))=some (finP (t++((s.Classes.drop i).flatMap clsT++opsT ([109,97,105,110]:Bs) s.Main))):=fun h hh=>by
   subst hh
   have h4:(clsH s.Classes[i]).length<=20:=by unfold clsH;split<;>simp
   unfold zC8
   have:=zQn (fu:=fu) (t3:=(i:Int)) (rc:=zA2 fu s k) hf hci s.Classes[i].Watch.length 0 fu (t++clsH s.Classes[i]) (by omega) (by omega) (by simp only [List.length_append];omega)
   rw [show ((0:Nat):Int)=0 from rfl] at this
   rw [this,zCE (by omega),bnd_some,List.drop_zero,List.append_assoc]
   show zA2 fu s k (((i+1:Nat):Int),zAP (t++clsT s.Classes[i]))=_
   rw [zQ2 hf hs hc hm j (i+1) k _ (by omega) (by omega) (by simp only [List.length_append];omega),List.drop_eq_getElem_cons hlt,List.flatMap_cons]
   simp
  rw [zA2,zB8 (by simpa using hlt),zDw hlt,bnd_some]
  unfold clsH at e
  cases hF:s.Classes[i].Form with
  | true =>
   rw [hF] at e
   rw [cnd_true,zKq (by simp) (by simp) (by omega),bnd_some]
   exact e _ rfl
  | false =>
   rw [hF] at e
   rw [cnd_false,zLD (by simp) (by omega),bnd_some]
   exact e _ rfl
theorem zD9 {s:Script} (h:zDC s=true):s.Classes.length<=12/\(∀c∈s.Classes,clsB c=true)/\s.Main.length<=300:=by
 unfold zDC at h
 simp only [Bool.and_eq_true,decide_eq_true_eq] at h
 refine ⟨h.2.1,fun c hc=>List.all_eq_true.1 h.2.2 c hc,?_⟩
 have:=List.all_eq_true.1 h.1 (s.Main,300) (by simp [zAj])
 simp only [okPr,Bool.and_eq_true,decide_eq_true_eq] at this
 omega
def putA (s:Script):Bs×Int:=if zDC s=true then finP (putR s) else ([],1)
theorem zQl {fu:Nat} (hf:1000<fu) (s:Script):zCR fu s=some (putA s):=by
 unfold zCR putA
 rw [zH1 (by omega),bnd_some]
 cases h:zDC s with
 | false=>rfl
 | true =>
  obtain ⟨h1,h2,h3⟩:=zD9 h
  rw [if_pos rfl]
  show cnd false _ _=_
  rw [cnd_false]
  have:=zQ2 (fu:=fu) hf h1 h2 h3 s.Classes.length 0 fu [] (by omega) (by omega) (by simp;omega)
  exact this
end Go.Proofs.YtoboimmgglnjfaaGreatDoor
/- Scripts: what is put is read as it was. -/
namespace Go.Proofs.YtoboimmgglnjfaaGreatDoor
open Go Go.Pw
set_option linter.unusedVariables false
def zCJ (s:Bs):List Bs:=(zBO s).map zFv
def zBv:List Bs->Rs×List Op->Option (Rs×List Op)
 | [],x=>some x
 | t::ts,x=>match zDY x t with
  | some y=>zBv ts y
  | none=>none
theorem zNL:∀(ls:List Bs) (x:Rs×List Op),zM1 ls x=zBv (ls.map zFv) x
 | [],x=>rfl
 | l::ls,x=>by
  rw [zM1,List.map_cons,zBv]
  cases zDY x (zFv l) with
  | none=>rfl
  | some y=>exact zNL ls y
theorem zJU (s:Bs):zH8 s=if s.length>16384 then (⟨[],[]⟩,3) else finR (zBv (zCJ s) (rs0,[])):=by
 unfold zH8 zCJ
 rw [zNL]
theorem zD4:∀(l m:List Bs) (x:Rs×List Op),zBv (l++m) x=match zBv l x with
  | some y=>zBv m y
  | none=>none
 | [],m,x=>rfl
 | t::l,m,x=>by
  rw [List.cons_append,zBv,zBv]
  cases zDY x t with
  | none=>rfl
  | some y=>exact zD4 l m y
theorem zGh {t:Bs} (r:Bs) (h:(10:UInt8)∉t):zCJ (t++10::r)=t::zCJ r:=by
 unfold zCJ
 rw [zGs h,List.map_cons]
 congr 1
 unfold zFv
 rw [List.filter_append,show t.filter (fun b=>b != 10)=t from zF6 h]
 simp
theorem zIG:∀(ts:List Bs) (r:Bs),(∀t∈ts,(10:UInt8)∉t)->zCJ (ts.flatMap (fun t=>t++[10])++r)=ts++zCJ r
 | [],r,_=>rfl
 | t::ts,r,h=>by
  rw [List.flatMap_cons,List.append_assoc,List.append_assoc,List.singleton_append,zGh _ (h t (by simp)),zIG ts r fun u hu=>h u (by simp [hu])]
  rfl
def opsL (h:Bs) (l:List Op):List Bs:=(if l=[]\/h=[] then [] else [h])++l.map zEa
def zLN (h:Hook):List Bs:=(([111,110]:Bs)++32::kindsL.getD h.Kind.toNat [])::opsL [] h.Do
def clsF (c:Class):Bs:=if c.Form then ([99,108,97,115,115]:Bs)++32::([102,111,114,109]:Bs) else ([99,108,97,115,115]:Bs)
def clsL (c:Class):List Bs:=clsF c::(c.Watch.map (fun w=>([119,97,116,99,104]:Bs)++32::w)++(opsL ([112,101,101,107]:Bs) c.Peek++(opsL ([109,97,107,101]:Bs) c.Make++c.Hooks.flatMap zLN)))
def putL (s:Script):List Bs:=s.Classes.flatMap clsL++opsL ([109,97,105,110]:Bs) s.Main
abbrev nl (t:Bs):Bs:=t++[10]
theorem zL3 (h:Bs) (l:List Op):opsT h l=(opsL h l).flatMap nl:=by
 unfold opsT opsL
 rw [List.flatMap_append]
 congr 1
 ·split<;>simp
 ·rw [List.flatMap_map];rfl
theorem zSf (h:Hook):zEM h=(zLN h).flatMap nl:=by
 unfold zEM zLN
 rw [zL3,List.flatMap_cons]
theorem flat2 {α : Type} (l:List α) (f : α -> Bs) (g : α -> List Bs) (h:∀x∈l,f x=(g x).flatMap nl):l.flatMap f=(l.flatMap g).flatMap nl:=by
 induction l with
 | nil=>rfl
 | cons a l ih =>
  rw [List.flatMap_cons,List.flatMap_cons,List.flatMap_append,h a (by simp),ih fun x hx=>h x (by simp [hx])]
theorem clsT_L (c:Class):clsT c=(clsL c).flatMap nl:=by
 unfold clsT clsL
 rw [List.flatMap_cons,List.flatMap_append,List.flatMap_append,List.flatMap_append,zL3,zL3,flat2 c.Hooks zEM zLN fun h _=>zSf h,List.flatMap_map]
 rfl
theorem putR_L (s:Script):putR s=(putL s).flatMap nl:=by
 unfold putR putL
 rw [List.flatMap_append,zL3,flat2 s.Classes clsT clsL fun c _=>clsT_L c]
theorem zPQ (o:Op):(10:UInt8)∉zEa o:=by
 unfold zEa
 split
 ·rename_i h;exact zN2 (right_iff.1 h)
 ·decide
theorem zP2 (o:Op):zEa o≠[]:=by
 unfold zEa
 split
 ·rename_i h;exact zRP (right_iff.1 h)
 ·decide
theorem zJO {h:Bs} {l:List Op} (hh:(10:UInt8)∉h):∀t∈opsL h l,(10:UInt8)∉t:=by
 intro t ht
 unfold opsL at ht
 rcases List.mem_append.1 ht with ht | ht
 ·split at ht
  ·cases ht
  ·rw [List.mem_singleton.1 ht];exact hh
 ·obtain ⟨o,_,rfl⟩:=List.mem_map.1 ht
  exact zPQ o
theorem zQP (i:Nat):(10:UInt8)∉kindsL.getD i []:=by
 rcases Nat.lt_or_ge i 9 with h | h
 ·have:∀j:Fin 9,(10:UInt8)∉kindsL.getD j []:=by decide
  exact this ⟨i,h⟩
 ·rw [List.getD_eq_getElem?_getD,List.getElem?_eq_none (by simpa [kindsL] using h)];simp
theorem fit_no {w:Bs} (h:fitB w=true):(10:UInt8)∉w:=fun hm=>by
 simp only [fitB,zFo,Bool.and_eq_true] at h
 have:=List.all_eq_true.1 h.1.1.2 10 hm
 revert this
 decide
theorem zRz {c:Class} (hc:clsB c=true):∀t∈clsL c,(10:UInt8)∉t:=by
 intro t ht
 simp only [clsB,Bool.and_eq_true,decide_eq_true_eq] at hc
 unfold clsL at ht
 rcases List.mem_cons.1 ht with rfl | ht
 ·unfold clsF;split<;>decide
 rcases List.mem_append.1 ht with ht | ht
 ·obtain ⟨w,hw,rfl⟩:=List.mem_map.1 ht
  have:=fit_no (List.all_eq_true.1 hc.2.1 w hw)
  simp [this]
 rcases List.mem_append.1 ht with ht | ht
 ·exact zJO (by decide) t ht
 rcases List.mem_append.1 ht with ht | ht
 ·exact zJO (by decide) t ht
 ·obtain ⟨h,hh,ht⟩:=List.mem_flatMap.1 ht
  rcases List.mem_cons.1 ht with rfl | ht
  ·have:=zQP h.Kind.toNat
   simp only [List.mem_append,List.mem_cons,not_or]
   exact ⟨by decide,by decide,this⟩
  ·exact zJO (by simp) t ht
theorem zSU {s:Script} (h:zDC s=true):∀t∈putL s,(10:UInt8)∉t:=by
 intro t ht
 obtain ⟨_,h2,_⟩:=zD9 h
 rcases List.mem_append.1 ht with ht | ht
 ·obtain ⟨c,hc,ht⟩:=List.mem_flatMap.1 ht
  exact zRz (h2 c hc) t ht
 ·exact zJO (by decide) t ht
theorem zPB {s:Script} (h:zDC s=true) (r:Bs):zCJ (putR s++r)=putL s++zCJ r:=by
 rw [putR_L]
 exact zIG (putL s) r (zSU h)
def zLV (w:Bs):Prop:=w=([109,97,105,110]:Bs)\/w=([99,108,97,115,115]:Bs)\/w=([112,101,101,107]:Bs)\/w=([109,97,107,101]:Bs)\/w=([119,97,116,99,104]:Bs)\/w=([111,110]:Bs)
theorem zM9 {x:Rs} {s:Bs} (h:¬zLV (cutS s).1):zFj x s=none:=by
 unfold zFj
 have h1:s≠([109,97,105,110]:Bs):=fun e=>h (by subst e;exact .inl rfl)
 have h2:¬(s=([99,108,97,115,115]:Bs)\/s=[99,108,97,115,115,32,102,111,114,109]):=fun e=>h (by rcases e with rfl | rfl<;>exact .inr (.inl rfl))
 have h3:s≠([112,101,101,107]:Bs):=fun e=>h (by subst e;exact .inr (.inr (.inl rfl)))
 have h4:s≠([109,97,107,101]:Bs):=fun e=>h (by subst e;exact .inr (.inr (.inr (.inl rfl))))
 have h5:(cutS s).1≠([119,97,116,99,104]:Bs):=fun e=>h (.inr (.inr (.inr (.inr (.inl e)))))
 have h6:(cutS s).1≠([111,110]:Bs):=fun e=>h (.inr (.inr (.inr (.inr (.inr e)))))
 rw [if_neg h1,if_neg h2,if_neg h3,if_neg h4,if_neg h5,if_neg h6]
 split<;>rfl
theorem zNU {w:Bs} (l:List Bs) (h:(32:UInt8)∉w):(cutS (w++tl l)).1=w:=by
 cases l with
 | nil=>rw [zDk,List.append_nil,zKt h]
 | cons f l=>rw [zDG,zGO _ h]
theorem zRd {k:Int} (hk:Knd k):(32:UInt8)∉wd k/\(33:UInt8)∉wd k/\¬zLV (wd k):=by
 unfold zLV
 rcases zIB hk with rfl | rfl | rfl | rfl | rfl | rfl | rfl | rfl | rfl | rfl | rfl | rfl | rfl | rfl | rfl | rfl | rfl | rfl | rfl | rfl | rfl | rfl | rfl | rfl | rfl | rfl | rfl | rfl<;>decide
theorem zMq (o:Op):¬zLV (cutS (zEa o)).1:=by
 unfold zEa
 split
 ·rename_i h
  have hr:=right_iff.1 h
  obtain ⟨h1,h2,h3⟩:=zRd hr.kind
  unfold putP bang
  cases o.Must with
  | false =>
   rw [if_neg (by simp),List.nil_append,zNU _ h1]
   exact h3
  | true =>
   have e:(cutS ((if true=true then [33] else [])++(wd o.Kind++tl (zC9 o)))).1=33::wd o.Kind:=by
    rw [if_pos rfl,<- List.append_assoc,zNU _ (by simp [h1])]
    rfl
   rw [e]
   unfold zLV
   simp
 ·unfold zLV;decide
theorem putP_q {o:Op} (h:RightP o) (r:Bs):putP o≠63::r:=fun e=>by
 obtain ⟨b,w,hw,h1,h2⟩:=zLZ h.kind
 unfold putP bang at e
 rw [hw] at e
 cases hm:o.Must with
 | true=>rw [hm] at e;simp at e
 | false =>
  rw [hm] at e
  simp only [Bool.false_eq_true,if_false,List.nil_append,List.cons_append,List.cons.injEq] at e
  rw [e.1] at h1
  revert h1
  decide
theorem opR_q:opR [63]=op0:=by
 unfold opR
 rw [zOj (by simp) (by simp) fun o ho=>putP_q ho []]
theorem opR_op {o:Op} (h:okOp o=true):opR (zEa o)=o:=by
 unfold zEa
 by_cases hr:zE7 o=true
 ·rw [if_pos hr]
  exact zSe (right_iff.1 hr) (by have:=zI2 (right_iff.1 hr);omega)
 ·rw [if_neg hr]
  unfold okOp at h
  have:o=op0:=by
   simp only [Bool.or_eq_true,decide_eq_true_eq] at h
   exact h.resolve_right hr
  rw [this]
  exact opR_q
end Go.Proofs.YtoboimmgglnjfaaGreatDoor
/- Scripts: the reader over the lines that were put. -/
namespace Go.Proofs.YtoboimmgglnjfaaGreatDoor
open Go Go.Pw
set_option linter.unusedVariables false
abbrev RS:=Rs×List Op
def cur (p:RS):List Op:=match p.1.k with
 | 0=>p.2
 | 1=>p.1.pk
 | 2=>p.1.mak
 | _=>p.1.dos
def lim (p:RS):Nat:=match p.1.k with
 | 0=>300
 | _=>60
def addk (p:RS) (l:List Op):RS:=match p.1.k with
 | 0=>(p.1,p.2++l)
 | 1=>({ p.1 with pk:=p.1.pk++l },p.2)
 | 2=>({ p.1 with mak:=p.1.mak++l },p.2)
 | _=>({ p.1 with dos:=p.1.dos++l },p.2)
theorem zNE {p:RS} {s:Bs} (h0:s≠[]) (hh:zFj p.1 s=none):zDY p s=if (cur p).length=lim p then none else some (addk p [opR s]):=by
 unfold zDY
 rw [if_neg h0,hh]
 rcases p with ⟨⟨k,most,pre,act,form,hpre,hact,kind,wat,pk,mak,dos⟩,m⟩
 match k with
 | 0=>rfl
 | 1=>rfl
 | 2=>rfl
 | k+3=>rfl
theorem zPb (p:RS):addk p []=p:=by
 rcases p with ⟨⟨k,most,pre,act,form,hpre,hact,kind,wat,pk,mak,dos⟩,m⟩
 match k with
 | 0=>simp [addk]
 | 1=>simp [addk]
 | 2=>simp [addk]
 | k+3=>simp [addk]
theorem zPx (p:RS) (l r:List Op):addk (addk p l) r=addk p (l++r):=by
 rcases p with ⟨⟨k,most,pre,act,form,hpre,hact,kind,wat,pk,mak,dos⟩,m⟩
 match k with
 | 0=>simp [addk]
 | 1=>simp [addk]
 | 2=>simp [addk]
 | k+3=>simp [addk]
theorem zPX (p:RS) (l:List Op):cur (addk p l)=cur p++l/\lim (addk p l)=lim p:=by
 rcases p with ⟨⟨k,most,pre,act,form,hpre,hact,kind,wat,pk,mak,dos⟩,m⟩
 match k with
 | 0=>simp [addk,cur,lim]
 | 1=>simp [addk,cur,lim]
 | 2=>simp [addk,cur,lim]
 | k+3=>simp [addk,cur,lim]
theorem zIX:∀(ts:List Bs) (p:RS),(∀t∈ts,t≠[]/\¬zLV (cutS t).1)->(cur p).length<=lim p->zBv ts p=if (cur p).length+ts.length<=lim p then some (addk p (ts.map opR)) else none
 | [],p,_,h=>by rw [if_pos (by simpa using h),List.map_nil,zPb];rfl
 | t::ts,p,ht,h=>by
  obtain ⟨h1,h2⟩:=ht t (by simp)
  obtain ⟨c1,c2⟩:=zPX p [opR t]
  rw [zBv,zNE h1 (zM9 h2)]
  by_cases he:(cur p).length=lim p
  ·rw [if_pos he,if_neg (by simp;omega)]
  ·rw [if_neg he]
   show zBv ts (addk p [opR t])=_
   rw [zIX ts _ (fun u hu=>ht u (by simp [hu])) (by rw [c1,c2,List.length_append,List.length_singleton];omega),c1,c2,zPx,List.length_append,List.length_singleton,List.length_cons,List.map_cons,List.singleton_append]
   by_cases hl:(cur p).length+1+ts.length<=lim p
   ·rw [if_pos hl,if_pos (by omega)]
   ·rw [if_neg hl,if_neg (by omega)]
theorem zR9 {l:List Op} (h:∀o∈l,okOp o=true):(l.map zEa).map opR=l:=by
 rw [List.map_map]
 exact (List.map_congr_left (g:=id) fun o ho=>opR_op (h o ho)).trans (List.map_id l)
theorem zHU {l:List Op} {p:RS} (h:∀o∈l,okOp o=true) (hc:(cur p).length<=lim p):zBv (l.map zEa) p=if (cur p).length+l.length<=lim p then some (addk p l) else none:=by
 rw [zIX _ _ (fun t ht=>?_) hc,zR9 h,List.length_map]
 obtain ⟨o,_,rfl⟩:=List.mem_map.1 ht
 exact ⟨zP2 o,zMq o⟩
theorem zNF (p:RS):zDY p ([109,97,105,110]:Bs)=some ({ p.1 with k:=0,most:=300 },p.2):=rfl
theorem zMk {p:RS} {c:Class} (h:p.1.cls.length<12):zDY p (clsF c)=some (⟨2,60,p.1.cls,true,c.Form,[],false,0,[],[],[],[]⟩,p.2):=by
 have key:∀s:Bs,s=([99,108,97,115,115]:Bs)\/s=[99,108,97,115,115,32,102,111,114,109]->zDY p s=some (⟨2,60,p.1.cls,true,(cutS s).2.2,[],false,0,[],[],[],[]⟩,p.2):=fun s hs=>by
  unfold zDY zFj
  have h0:s≠[]:=by rcases hs with rfl | rfl<;>simp
  have h1:s≠[109,97,105,110]:=by rcases hs with rfl | rfl<;>simp
  rw [if_neg h0,if_neg h1,if_pos hs,if_neg (by omega)]
 unfold clsF
 cases c.Form with
 | true=>rw [if_pos rfl];exact key _ (.inr rfl)
 | false=>rw [if_neg (by simp)];exact key _ (.inl rfl)
theorem zNO {p:RS} (ha:p.1.act=true):zDY p ([112,101,101,107]:Bs)=some ({ p.1 with k:=1,most:=60 },p.2):=by
 unfold zDY zFj
 rw [if_neg (by simp),if_neg (by simp),if_neg (by simp),if_neg (by rw [ha];simp),if_pos rfl]
theorem zNr {p:RS} (ha:p.1.act=true):zDY p ([109,97,107,101]:Bs)=some ({ p.1 with k:=2,most:=60 },p.2):=by
 unfold zDY zFj
 rw [if_neg (by simp),if_neg (by simp),if_neg (by simp),if_neg (by rw [ha];simp),if_neg (by simp),if_pos rfl]
theorem zMm {p:RS} {w:Bs} (ha:p.1.act=true) (hw:fitB w=true) (hl:p.1.wat.length<12):zDY p (([119,97,116,99,104]:Bs)++32::w)=some ({ p.1 with wat:=p.1.wat++[w] },p.2):=by
 have hcut:cutS (([119,97,116,99,104]:Bs)++32::w)=(([119,97,116,99,104]:Bs),w,true):=zGO w (by decide)
 unfold zDY zFj
 rw [if_neg (by simp),if_neg (by simp),if_neg (by simp),if_neg (by rw [ha];simp),if_neg (by simp),if_neg (by simp),hcut]
 dsimp only
 rw [if_pos rfl,if_pos rfl,if_pos hw,if_neg (by omega)]
theorem zPd {k:Int} (h1:1<=k) (h2:k<=8):zFC (kindsL.getD k.toNat [])=k:=by
 have:∀j:Fin 9,zFC (kindsL.getD j [])=(j:Nat):=by decide
 have:=this ⟨k.toNat,by omega⟩
 rw [this]
 simp only
 omega
theorem zSc {p:RS} {k:Int} (ha:p.1.act=true) (h1:1<=k) (h2:k<=8) (hl:p.1.hooks.length<12):zDY p (([111,110]:Bs)++32::kindsL.getD k.toNat [])=some ({ p.1 with k:=3,most:=60,hpre:=p.1.hooks,hact:=true,kind:=k,dos:=[] },p.2):=by
 have hcut:cutS (([111,110]:Bs)++32::kindsL.getD k.toNat [])=(([111,110]:Bs),kindsL.getD k.toNat [],true):=zGO _ (by decide)
 unfold zDY zFj
 rw [if_neg (by simp),if_neg (by simp),if_neg (by simp),if_neg (by rw [ha];simp),if_neg (by simp),if_neg (by simp),hcut]
 dsimp only
 rw [if_neg (by simp),if_pos rfl,if_pos rfl,zPd h1 h2,if_neg (by omega),if_neg (by omega)]
theorem zIL:∀(ws:List Bs) (x:Rs) (m:List Op),x.act=true->(∀w∈ws,fitB w=true)->x.wat.length+ws.length<=12->zBv (ws.map fun w=>([119,97,116,99,104]:Bs)++32::w) (x,m)=some ({ x with wat:=x.wat++ws },m)
 | [],x,m,_,_,_=>by simp [zBv]
 | w::ws,x,m,ha,hw,hl=>by
  simp only [List.length_cons] at hl
  rw [List.map_cons,zBv,zMm ha (hw w (by simp)) (show x.wat.length<12 by omega)]
  show zBv _ ({ x with wat:=x.wat++[w] },m)=_
  rw [zIL ws { x with wat:=x.wat++[w] } m ha (fun v hv=>hw v (by simp [hv])) (by simp;omega)]
  simp
theorem zN1 {x:Rs} {m l:List Op} (ha:x.act=true) (h0:x.pk=[]) (hl:l.length<=60) (ho:∀o∈l,okOp o=true):∃k most,zBv (opsL ([112,101,101,107]:Bs) l) (x,m)=some ({ x with k:=k,most:=most,pk:=l },m):=by
 unfold opsL
 by_cases h:l=[]
 ·subst h
  refine ⟨x.k,x.most,?_⟩
  rw [if_pos (.inl rfl)]
  cases x
  simp only at h0
  subst h0
  rfl
 ·refine ⟨1,60,?_⟩
  rw [if_neg (by simp [h]),List.singleton_append,zBv,zNO ha]
  show zBv _ ({ x with k:=1,most:=60 },m)=_
  refine (zHU (p:=({ x with k:=1,most:=60 },m)) ho (show (x.pk).length<=60 by rw [h0];simp)).trans ((if_pos (show x.pk.length+l.length<=60 by rw [h0];simpa using hl)).trans ?_)
  show some ({ x with k:=1,most:=60,pk:=x.pk++l },m)=_
  rw [h0];rfl
theorem zPE {x:Rs} {m l:List Op} (ha:x.act=true) (h0:x.mak=[]) (hl:l.length<=60) (ho:∀o∈l,okOp o=true):∃k most,zBv (opsL ([109,97,107,101]:Bs) l) (x,m)=some ({ x with k:=k,most:=most,mak:=l },m):=by
 unfold opsL
 by_cases h:l=[]
 ·subst h
  refine ⟨x.k,x.most,?_⟩
  rw [if_pos (.inl rfl)]
  cases x
  simp only at h0
  subst h0
  rfl
 ·refine ⟨2,60,?_⟩
  rw [if_neg (by simp [h]),List.singleton_append,zBv,zNr ha]
  show zBv _ ({ x with k:=2,most:=60 },m)=_
  refine (zHU (p:=({ x with k:=2,most:=60 },m)) ho (show (x.mak).length<=60 by rw [h0];simp)).trans ((if_pos (show x.mak.length+l.length<=60 by rw [h0];simpa using hl)).trans ?_)
  show some ({ x with k:=2,most:=60,mak:=x.mak++l },m)=_
  rw [h0];rfl
theorem zO3 {x:Rs} {m:List Op} {h:Hook} (ha:x.act=true) (hb:hokB h=true) (hl:x.hooks.length<12) (ho:∀o∈h.Do,okOp o=true) :
  zBv (zLN h) (x,m)=some ({ x with k:=3,most:=60,hpre:=x.hooks,hact:=true,kind:=h.Kind,dos:=h.Do },m):=by
 simp only [hokB,Bool.and_eq_true,decide_eq_true_eq] at hb
 unfold zLN opsL
 rw [if_pos (.inr rfl),zBv,zSc ha hb.1 hb.2.1 hl]
 show zBv (h.Do.map zEa) ({ x with k:=3,most:=60,hpre:=x.hooks,hact:=true,kind:=h.Kind,dos:=[] },m)=_
 refine (zHU (p:=({ x with k:=3,most:=60,hpre:=x.hooks,hact:=true,kind:=h.Kind,dos:=[] },m)) ho (show (0:Nat)<=60 by omega)).trans ((if_pos (show 0+h.Do.length<=60 by omega)).trans ?_)
 rfl
theorem zIo:∀(hs:List Hook) (x:Rs) (m:List Op),x.act=true->(∀h∈hs,hokB h=true)->x.hooks.length+hs.length<=12->(∀h∈hs,∀o∈h.Do,okOp o=true) ->
  ∃y,zBv (hs.flatMap zLN) (x,m)=some (y,m)/\y.act=true/\y.pre=x.pre/\y.form=x.form/\y.wat=x.wat/\y.pk=x.pk/\y.mak=x.mak/\y.hooks=x.hooks++hs
 | [],x,m,ha,_,_,_=>⟨x,rfl,ha,rfl,rfl,rfl,rfl,rfl,by simp⟩
 | h::hs,x,m,ha,hb,hl,ho=>by
  simp only [List.length_cons] at hl
  have h1:=zO3 (m:=m) ha (hb h (by simp)) (by omega) (ho h (by simp))
  have hh:Rs.hooks { x with k:=3,most:=60,hpre:=x.hooks,hact:=true,kind:=h.Kind,dos:=h.Do }=x.hooks++[h]:=rfl
  obtain ⟨y,g1,g2,g3,g4,g5,g6,g7,g8⟩:=zIo hs { x with k:=3,most:=60,hpre:=x.hooks,hact:=true,kind:=h.Kind,dos:=h.Do } m ha (fun z hz=>hb z (by simp [hz])) (by rw [hh];simp;omega) (fun z hz=>ho z (by simp [hz]))
  refine ⟨y,?_,g2,g3,g4,g5,g6,g7,by rw [g8,hh];simp⟩
  rw [List.flatMap_cons,zD4,h1]
  exact g1
def zLm (c:Class):Prop:=(∀o∈c.Peek,okOp o=true)/\(∀o∈c.Make,okOp o=true)/\∀h∈c.Hooks,∀o∈h.Do,okOp o=true
theorem zMf {x:Rs} {m:List Op} {c:Class} (hl:x.cls.length<12) (hc:clsB c=true) (ho:zLm c):∃y,zBv (clsL c) (x,m)=some (y,m)/\y.cls=x.cls++[c]:=by
 simp only [clsB,Bool.and_eq_true,decide_eq_true_eq] at hc
 obtain ⟨c1,c2,c3,c4,c5,c6⟩:=hc
 unfold clsL
 obtain ⟨k1,m1,e1⟩:=zN1 (x:=⟨2,60,x.cls,true,c.Form,[],false,0,c.Watch,[],[],[]⟩) (m:=m) rfl rfl c5 ho.1
 obtain ⟨k2,m2,e2⟩:=zPE (x:=⟨k1,m1,x.cls,true,c.Form,[],false,0,c.Watch,c.Peek,[],[]⟩) (m:=m) rfl rfl c6 ho.2.1
 obtain ⟨y,g1,g2,g3,g4,g5,g6,g7,g8⟩:=zIo c.Hooks ⟨k2,m2,x.cls,true,c.Form,[],false,0,c.Watch,c.Peek,c.Make,[]⟩ m rfl (fun h hh=>List.all_eq_true.1 c4 h hh) (by simpa [Rs.hooks] using c3) ho.2.2
 have hw:=zIL c.Watch ⟨2,60,x.cls,true,c.Form,[],false,0,[],[],[],[]⟩ m rfl (fun w hw=>List.all_eq_true.1 c2 w hw) (by simpa using c1)
 refine ⟨y,?_,?_⟩
 ·rw [zBv,zMk hl]
  show zBv _ (⟨2,60,x.cls,true,c.Form,[],false,0,[],[],[],[]⟩,m)=_
  rw [zD4,hw]
  show zBv _ (⟨2,60,x.cls,true,c.Form,[],false,0,[]++c.Watch,[],[],[]⟩,m)=_
  rw [List.nil_append,zD4,e1]
  show zBv _ (⟨k1,m1,x.cls,true,c.Form,[],false,0,c.Watch,c.Peek,[],[]⟩,m)=_
  rw [zD4,e2]
  exact g1
 ·unfold Rs.cls
  rw [g2,if_pos rfl,g3,g4,g5,g6,g7,g8]
  rfl
theorem zGt:∀(cs:List Class) (x:Rs) (m:List Op),x.cls.length+cs.length<=12->(∀c∈cs,clsB c=true/\zLm c)->∃y,zBv (cs.flatMap clsL) (x,m)=some (y,m)/\y.cls=x.cls++cs
 | [],x,m,_,_=>⟨x,rfl,by simp⟩
 | c::cs,x,m,hl,h=>by
  simp only [List.length_cons] at hl
  obtain ⟨h1,h2⟩:=h c (by simp)
  obtain ⟨y,g1,g2⟩:=zMf (m:=m) (x:=x) (by omega) h1 h2
  obtain ⟨z,f1,f2⟩:=zGt cs y m (by rw [g2];simp;omega) (fun d hd=>h d (by simp [hd]))
  refine ⟨z,?_,by rw [f2,g2];simp⟩
  rw [List.flatMap_cons,zD4,g1]
  exact f1
theorem zNX {x:Rs} {m l:List Op} (hm:m.length<=300) (ho:∀o∈l,okOp o=true):if m.length+l.length<=300 then ∃y,zBv (opsL ([109,97,105,110]:Bs) l) (x,m)=some (y,m++l)/\y.cls=x.cls else zBv (opsL ([109,97,105,110]:Bs) l) (x,m)=none:=by
 unfold opsL
 by_cases h:l=[]
 ·subst h
  rw [if_pos (by simpa using hm)]
  refine ⟨x,?_,rfl⟩
  rw [if_pos (.inl rfl),List.append_nil];rfl
 ·have e:zBv ((if l=[]\/([109,97,105,110]:Bs)=[] then [] else [([109,97,105,110]:Bs)])++l.map zEa) (x,m)=if m.length+l.length<=300 then some ({ x with k:=0,most:=300 },m++l) else none:=by
   rw [if_neg (by simp [h]),List.singleton_append,zBv,zNF]
   show zBv _ ({ x with k:=0,most:=300 },m)=_
   exact zHU (p:=({ x with k:=0,most:=300 },m)) ho (show m.length<=300 from hm)
  by_cases hl:m.length+l.length<=300
  ·rw [if_pos hl]
   rw [if_pos hl] at e
   exact ⟨_,e,rfl⟩
  ·rw [if_neg hl]
   rw [if_neg hl] at e
   exact e
theorem zOx {s:Script} (h:zDC s=true):(∀c∈s.Classes,clsB c=true/\zLm c)/\∀o∈s.Main,okOp o=true:=by
 obtain ⟨_,h2,_⟩:=zD9 h
 unfold zDC at h
 simp only [Bool.and_eq_true] at h
 have key:∀y∈zAj s,∀o∈y.1,okOp o=true:=fun y hy o ho=>by
  have:=List.all_eq_true.1 h.1 y hy
  simp only [okPr,Bool.and_eq_true] at this
  exact List.all_eq_true.1 this.2 o ho
 refine ⟨fun c hc=>⟨h2 c hc,?_,?_,?_⟩,?_⟩
 ·exact key (c.Peek,60) (by simp only [zAj,List.mem_append,List.mem_flatMap];exact .inl ⟨c,hc,by simp [zG3]⟩)
 ·exact key (c.Make,60) (by simp only [zAj,List.mem_append,List.mem_flatMap];exact .inl ⟨c,hc,by simp [zG3]⟩)
 ·intro k hk
  exact key (k.Do,60) (by simp only [zAj,List.mem_append,List.mem_flatMap];exact .inl ⟨c,hc,by simp only [zG3,List.mem_cons,List.mem_map];exact .inr (.inr ⟨k,hk,rfl⟩)⟩)
 ·exact key (s.Main,300) (by simp [zAj])
theorem zPu {s:Script} (h:zDC s=true) {x:Rs} {m:List Op} (hc:x.cls.length+s.Classes.length<=12) (hm:m.length+s.Main.length<=300):∃y,zBv (putL s) (x,m)=some (y,m++s.Main)/\y.cls=x.cls++s.Classes:=by
 obtain ⟨h1,h2⟩:=zOx h
 obtain ⟨y,g1,g2⟩:=zGt s.Classes x m hc h1
 have:=zNX (x:=y) (m:=m) (by omega) h2
 rw [if_pos hm] at this
 obtain ⟨z,f1,f2⟩:=this
 refine ⟨z,?_,f2.trans g2⟩
 unfold putL
 rw [zD4,g1]
 exact f1
theorem zLe {s:Script} (h:zDC s=true) (hl:(putR s).length<=16384):zH8 (putR s)=(s,0):=by
 obtain ⟨h1,h2,h3⟩:=zD9 h
 rw [zJU,if_neg (by omega)]
 have ht:=zPB h []
 rw [List.append_nil] at ht
 obtain ⟨y,g1,g2⟩:=zPu h (x:=rs0) (m:=[]) (by simpa [rs0,Rs.cls] using h1) (by simpa using h3)
 rw [ht,show zCJ []=[] from rfl,List.append_nil,g1]
 show ((⟨y.cls,[]++s.Main⟩:Script),(0:Int))=_
 rw [g2]
 rfl
end Go.Proofs.YtoboimmgglnjfaaGreatDoor
/- Scripts: what the laws share: a fixed answer, what is not too much, what is the same. -/
namespace Go.Proofs.YtoboimmgglnjfaaGreatDoor
open Go Go.Pw
set_option linter.unusedVariables false
def scr0:Script:=⟨[⟨true,[[97]],[],[⟨20,0,0,0,[],[],false⟩],[⟨1,[⟨22,0,0,0,[],[],true⟩]⟩]⟩],[⟨16,0,0,0,[120,45,97],[],false⟩,op0]⟩
def txt0:Bs:=[99,108,97,115,115,32,102,111,114,109,10,119,97,116,99,104,32,97,10,109,97,107,101,10,115,117,112,101,114,10,111,110,32,99,97,109,101,10,33,116,104,114,111,119,10,109,97,105,110,10,100,101,102,105,110,101,32,48,32,34,120,45,97,34,32,34,34,10,63,10]
theorem put0:putR scr0=txt0:=by kernel_rfl
theorem zNY:zDC scr0=true:=by kernel_rfl
theorem zRa {fu:Nat} (hf:30000<fu):zCH fu=some true:=by
 have hl:(putR scr0).length<=16384:=by rw [put0];decide
 have h1:=zLe zNY hl
 rw [put0] at h1
 have h2:putA scr0=(txt0,0):=by
  unfold putA finP
  rw [if_pos zNY,if_neg (by omega),put0]
 unfold zCH
 show bnd (zBn fu txt0) _=_
 rw [zJa hf,bnd_some,h1]
 show bnd (zCR fu scr0) _=_
 rw [zQl (by omega),bnd_some,h2]
 show bnd (zBj fu scr0) (fun r7=>some r7)=_
 rw [zH1 (by omega),bnd_some,zNY]
theorem zHG {fu:Nat} {l:List Op} (hf:l.length<fu) (hb:l.length<=1000000):zBQ fu l l=some true:=by
 unfold zBQ
 rw [zBY (by simp)]
 have:=zL9 (L:=zBh l l) l (fun _=>true) (some true) (fun i hi k=>by
  simp only [zBh]
  rw [zB8 (by simpa using hi),zDw hi,bnd_some,bnd_some,eqO,decide_eq_true rfl,zCE (by omega)]
  rfl) (fun k=>by simp only [zBh];rw [zBY (by simp)]) hf
 rw [this,List.all_eq_true.2 fun _ _=>rfl]
 rfl
def bndC (c:Class):Prop:=c.Watch.length<=100/\c.Peek.length<=100/\c.Make.length<=100/\c.Hooks.length<=100/\∀h∈c.Hooks,h.Do.length<=100
theorem zM7 {fu:Nat} {c:Class} (hf:1000<fu) (hc:bndC c):zCG fu c c=some true:=by
 obtain ⟨c1,c2,c3,c4,c5⟩:=hc
 have h2:zA7 fu c c fu 0=some true:=by
  have:=zL9 (L:=zA7 fu c c) c.Hooks (fun _=>true) (some true) (fun i hi k=>by
   simp only [zA7]
   have hd:=c5 _ (List.getElem_mem hi)
   rw [zB8 (by simpa using hi),zDw hi,bnd_some,bnd_some,zBY (by simp),bnd_some,bnd_some,zHG (by omega) (by omega),bnd_some,zCE (by omega)]
   rfl) (fun k=>by simp only [zA7];rw [zBY (by simp)]) (show c.Hooks.length<fu by omega)
  rw [this,List.all_eq_true.2 fun _ _=>rfl]
  rfl
 have h1:zA5 fu c c fu 0=some true:=by
  have:=zL9 (L:=zA5 fu c c) c.Watch (fun _=>true) (some true) (fun i hi k=>by
   simp only [zA5]
   rw [zB8 (by simpa using hi),zDw hi,bnd_some,bnd_some,zBY (by simp),zCE (by omega)]
   rfl) (fun k=>by simp only [zA5];rw [zBY (by simp),h2]) (show c.Watch.length<fu by omega)
  rw [this,List.all_eq_true.2 fun _ _=>rfl]
  rfl
 unfold zCG
 rw [zBY (by simp),zBY (by simp),zHG (by omega) (by omega),bnd_some,zBY (by simp),zHG (by omega) (by omega),bnd_some,zBY (by simp),zBY (by simp),h1]
theorem zQz {fu:Nat} {s:Script} (hf:1000<fu) (h1:s.Classes.length<=100) (h2:∀c∈s.Classes,bndC c) (h3:s.Main.length<=900):zAn fu s s=some true:=by
 have h:zB4 fu s.Classes s.Classes=some true:=by
  unfold zB4
  rw [zBY (by simp)]
  have:=zL9 (L:=zBC fu s.Classes s.Classes) s.Classes (fun _=>true) (some true) (fun i hi k=>by
   simp only [zBC]
   rw [zB8 (by simpa using hi),zDw hi,bnd_some,bnd_some,zM7 hf (h2 _ (List.getElem_mem hi)),bnd_some,zCE (by omega)]
   rfl) (fun k=>by simp only [zBC];rw [zBY (by simp)]) (show s.Classes.length<fu by omega)
  rw [this,List.all_eq_true.2 fun _ _=>rfl]
  rfl
 unfold zAn
 rw [h,bnd_some,cnd_true,zHG (by omega) (by omega),bnd_some]
theorem zSd {c:Class} (h:clsB c=true):bndC c:=by
 simp only [clsB,Bool.and_eq_true,decide_eq_true_eq] at h
 refine ⟨by omega,by omega,by omega,by omega,fun k hk=>?_⟩
 have:=List.all_eq_true.1 h.2.2.2.1 k hk
 simp only [hokB,Bool.and_eq_true,decide_eq_true_eq] at this
 omega
theorem zIW {fu:Nat} {s:Script} (hf:1000<fu) (h:zDC s=true):zAn fu s s=some true:=by
 obtain ⟨h1,h2,h3⟩:=zD9 h
 exact zQz hf (by omega) (fun c hc=>zSd (h2 c hc)) (by omega)
theorem zST {t:Bs} (h:¬t.length>16384):finP t=(t,0):=if_neg h
end Go.Proofs.YtoboimmgglnjfaaGreatDoor
/- ScriptReads: what is read from any text. -/
namespace Go.Proofs.YtoboimmgglnjfaaGreatDoor
open Go Go.Pw
set_option linter.unusedVariables false
theorem zH7:∀{s:Bs},s≠[]->(10:UInt8)∉s->zBO s=[s]
 | [],h,_=>absurd rfl h
 | b::r,_,h=>by
  simp only [List.mem_cons,not_or] at h
  rw [zBO,if_neg (fun e=>h.1 e.symm)]
  cases r with
  | nil=>rfl
  | cons c r=>rw [zH7 (by simp) h.2]
theorem zKe {s:Bs} (h0:s≠[]) (h:(10:UInt8)∉s):zCJ s=[s]:=by
 unfold zCJ
 rw [zH7 h0 h,List.map_singleton,zF6 h]
def neB (t:Bs):Bool := !t.isEmpty
def nes (s:Bs):List Bs:=(zCJ s).filter neB
theorem zI4 {t:Bs} (r:Bs) (h:(10:UInt8)∉t):nes (t++10::r)=[t].filter neB++nes r:=by
 unfold nes
 rw [zGh r h,<- List.filter_append]
 rfl
theorem zSZ {s:Bs} (h:(10:UInt8)∉s):nes s=[s].filter neB:=by
 by_cases h0:s=[]
 ·subst h0;rfl
 ·unfold nes
  rw [zKe h0 h]
theorem zFM:∀(n:Nat) (a b:Bs),a.length<=n->nes (a++10::b)=nes a++nes b
 | n,a,b,hn=>by
  by_cases h:(10:UInt8)∈a
  ·obtain ⟨w,r,rfl,hw⟩:=zHE h
   rw [List.length_append,List.length_cons] at hn
   match n,hn with
   | n+1,hn =>
    rw [List.append_assoc,List.cons_append,zI4 _ hw,zI4 _ hw,zFM n r b (by omega),List.append_assoc]
  ·rw [zI4 _ h,zSZ h]
theorem zHT:∀(ts:List Bs) (p:RS),zBv ts p=zBv (ts.filter neB) p
 | [],p=>rfl
 | []::ts,p=>by
  rw [zBv,show zDY p []=some p from if_pos rfl]
  exact zHT ts p
 | (b::t)::ts,p=>by
  rw [show ((b::t)::ts).filter neB=(b::t)::ts.filter neB from rfl,zBv,zBv]
  cases zDY p (b::t) with
  | none=>rfl
  | some y=>exact zHT ts y
theorem zRF {s t:Bs} (hs:s.length<=16384) (ht:t.length<=16384) (h:nes s=nes t):zH8 s=zH8 t:=by
 rw [zJU,zJU,if_neg (by omega),if_neg (by omega),zHT,show (zCJ s).filter neB=nes s from rfl,h,zHT (zCJ t)]
 rfl
theorem nes_in (a b:Bs):nes ((a++[10])++(10::b))=nes ((a++[10])++b):=by
 rw [List.append_assoc,List.append_assoc,List.singleton_append,List.singleton_append,zFM _ a _ (Nat.le_refl _),zFM _ a _ (Nat.le_refl _),show (10::b:Bs)=[]++10::b from rfl,zFM _ [] b (Nat.le_refl _)]
 rfl
theorem zRQ (s:Bs):nes (([10]++s)++[10,10])=nes s:=by
 rw [List.append_assoc,show ([10]++(s++[10,10]):Bs)=[]++10::(s++10::([]++10::[])) from rfl,zFM _ [] _ (Nat.le_refl _),zFM _ s _ (Nat.le_refl _),zFM _ [] _ (Nat.le_refl _)]
 show []++(nes s++([]++[]))=nes s
 simp
theorem zPC (s:Bs):nes (10::s)=nes s:=zFM _ [] s (Nat.le_refl _)
theorem zJt {s:Bs} (hs:s.length<=1000000):RightP (opR s)/\putP (opR s)=s\/opR s=op0:=by
 unfold opR
 rcases zJ4 (fu:=3000000) hs (by omega) with ⟨o,h1,h2,h3⟩ | ⟨h1,h2⟩
 ·rw [h3];exact .inl ⟨h1,h2⟩
 ·rw [h2];exact .inr rfl
theorem opR_ok {s:Bs} (hs:s.length<=1000000):okOp (opR s)=true:=by
 unfold okOp
 rcases zJt hs with ⟨h,_⟩ | h
 ·rw [right_iff.2 h,Bool.or_true]
 ·rw [decide_eq_true h,Bool.true_or]
theorem zSA:zEa op0=[63]:=by kernel_rfl
theorem zRO {s:Bs} (hs:s.length<=1000000) (h0:s≠[]):(opL (opR s)).length<=s.length+1:=by
 unfold opL
 rw [List.length_append,List.length_singleton]
 have:0<s.length:=List.length_pos_iff.2 h0
 rcases zJt hs with ⟨h,h2⟩ | h
 ·unfold zEa
  rw [if_pos (right_iff.2 h),h2]
  omega
 ·rw [h,zSA]
  simp only [List.length_singleton]
  omega
def Gd (c:Class):Prop:=clsB c=true/\zLm c
def Hg (h:Hook):Prop:=hokB h=true/\∀o∈h.Do,okOp o=true
def Lg (x:Rs):Prop:=(∀w∈x.wat,fitB w=true)/\(∀o∈x.pk,okOp o=true)/\(∀o∈x.mak,okOp o=true)/\∀h∈x.hooks,Hg h
theorem zL0 {x:Rs} (hx:x.Ok) (hp:∀c∈x.pre,Gd c) (hl:x.act=true->Lg x):∀c∈x.cls,Gd c:=by
 intro c hc
 unfold Rs.cls at hc
 rcases List.mem_append.1 hc with h | h
 ·exact hp c h
 ·cases ha:x.act with
  | false=>rw [ha] at h;cases h
  | true =>
   rw [ha,if_pos rfl,List.mem_singleton] at h
   obtain ⟨l1,l2,l3,l4⟩:=hl ha
   subst h
   refine ⟨?_,l2,l3,fun k hk=>(l4 k hk).2⟩
   simp only [clsB,Bool.and_eq_true,decide_eq_true_eq]
   exact ⟨hx.wat12,List.all_eq_true.2 l1,hx.hooks12,List.all_eq_true.2 fun k hk=>(l4 k hk).1,hx.pk60,hx.mak60⟩
theorem zPg (v:Bs):zFC v<=8/\(1<=zFC v->kindsL.getD (zFC v).toNat []=v):=by
 unfold zFC
 cases h:(List.range 9).find? fun i=>v==kindsL.getD i [] with
 | none=>exact ⟨by decide,fun h=>by cases h⟩
 | some i =>
  have h1:=List.mem_of_find?_eq_some h
  have h2:=List.find?_some h
  rw [List.mem_range] at h1
  simp only at h2 ⊢
  refine ⟨by omega,fun _=>?_⟩
  rw [Int.toNat_natCast]
  exact (beq_iff_eq.1 h2).symm
theorem zLX:∀{s:Bs},(cutS s).2.2=true->s=(cutS s).1++32::(cutS s).2.1
 | [],h=>by cases h
 | b::s,h=>by
  rw [cutS] at h ⊢
  by_cases hb:b=32
  ·rw [if_pos hb,hb];rfl
  ·rw [if_neg hb] at h ⊢
   show b::s=b::((cutS s).1++32::(cutS s).2.1)
   rw [<- zLX (s:=s) h]
def clsU (c:Class):Bs:=clsH c++(c.Watch.flatMap zEh++(c.Peek.flatMap opL++(c.Make.flatMap opL++c.Hooks.flatMap zEM)))
def wx (x:Rs):Nat:=(x.cls.flatMap clsU).length
def wt (p:RS):Nat:=wx p.1+(p.2.flatMap opL).length
theorem zHV (x:Rs):wx x=(x.pre.flatMap clsU).length+if x.act then (clsH ⟨x.form,[],[],[],[]⟩).length+((x.wat.flatMap zEh).length+((x.pk.flatMap opL).length+((x.mak.flatMap opL).length+(x.hooks.flatMap zEM).length))) else 0:=by
 unfold wx Rs.cls
 cases x.act with
 | false=>simp
 | true =>
  rw [if_pos rfl,if_pos rfl,List.flatMap_append,List.length_append,List.flatMap_cons,List.flatMap_nil,List.append_nil]
  unfold clsU clsH
  simp only [List.length_append]
theorem zFa {α : Type} (l:List α) (a : α) (f : α -> Bs):((l++[a]).flatMap f).length=(l.flatMap f).length+(f a).length:=by
 rw [List.flatMap_append,List.length_append,List.flatMap_cons,List.flatMap_nil,List.append_nil]
theorem zLU (h:Bs) (l:List Op):(opsT h l).length<=h.length+1+(l.flatMap opL).length:=by
 unfold opsT
 rw [List.length_append]
 split<;>simp only [List.length_nil,List.length_append,List.length_cons]<;>omega
theorem zI5 (k:Int) (d:List Op):(zEM ⟨k,d⟩).length=(kindsL.getD k.toNat []).length+4+(d.flatMap opL).length:=by
 unfold zEM opsT
 rw [if_pos (.inr rfl)]
 simp only [List.length_append,List.length_cons,List.length_nil]
 omega
theorem zRL (c:Class):(clsT c).length<=(clsU c).length+10:=by
 have h1:=zLU [112,101,101,107] c.Peek
 have h2:=zLU [109,97,107,101] c.Make
 unfold clsT clsU
 simp only [List.length_append,List.length_cons,List.length_nil] at h1 h2 ⊢
 omega
theorem zN6:∀cs:List Class,(cs.flatMap clsT).length<=(cs.flatMap clsU).length+10*cs.length
 | []=>by simp
 | c::cs=>by
  have h1:=zN6 cs
  have h2:=zRL c
  rw [List.flatMap_cons,List.flatMap_cons,List.length_append,List.length_append,List.length_cons]
  omega
theorem zR4 (s:Script):(putR s).length<=(s.Classes.flatMap clsU).length+(s.Main.flatMap opL).length+10*s.Classes.length+5:=by
 have h1:=zN6 s.Classes
 have h2:=zLU [109,97,105,110] s.Main
 unfold putR
 simp only [List.length_append,List.length_cons,List.length_nil] at h2 ⊢
 omega
theorem zKV:∀(n:Nat) (s:Bs),s.length<=n->((zCJ s).flatMap nl).length<=s.length+1
 | n,s,hn=>by
  by_cases h:(10:UInt8)∈s
  ·obtain ⟨w,r,rfl,hw⟩:=zHE h
   have hl:(w++10::r).length=w.length+r.length+1:=by rw [List.length_append,List.length_cons];omega
   match n,hn with
   | 0,hn=>omega
   | n+1,hn =>
    have:=zKV n r (by omega)
    have e:(nl w).length=w.length+1:=by simp [nl]
    rw [zGh r hw,List.flatMap_cons,List.length_append,e]
    omega
  ·by_cases h0:s=[]
   ·subst h0;exact Nat.zero_le _
   ·rw [zKe h0 h];simp [nl]
theorem zMr {x y:Rs} {s:Bs} (hx:x.Ok) (hp:∀c∈x.pre,Gd c) (hl:x.act=true->Lg x) (h:zFj x s=some y):(∀c∈y.pre,Gd c)/\(y.act=true->Lg y)/\wx y<=wx x+s.length+1:=by
 unfold zFj at h
 split at h
 ·cases h;exact ⟨hp,hl,show wx x<=_ by omega⟩
 split at h
 ·rename_i hs
  split at h
  ·cases h
  ·cases h
   refine ⟨zL0 hx hp hl,fun _=>⟨by simp,by simp,by simp,by simp [Rs.hooks]⟩,?_⟩
   rw [zHV,show wx x=(x.cls.flatMap clsU).length from rfl]
   rcases hs with rfl | rfl
   ·show (x.cls.flatMap clsU).length+6<=(x.cls.flatMap clsU).length+5+1
    omega
   ·show (x.cls.flatMap clsU).length+11<=(x.cls.flatMap clsU).length+10+1
    omega
 split at h
 ·cases h
 rename_i hact
 have ha:x.act=true:=by cases e:x.act<;>simp_all
 split at h
 ·cases h;exact ⟨hp,hl,show wx x<=_ by omega⟩
 split at h
 ·cases h;exact ⟨hp,hl,show wx x<=_ by omega⟩
 split at h
 ·rename_i hw
  split at h
  ·rename_i hc
   split at h
   ·rename_i hfit
    split at h
    ·cases h
    ·cases h
     have hs:=zLX hc
     obtain ⟨l1,l2,l3,l4⟩:=hl ha
     refine ⟨hp,fun _=>⟨fun v hv=>?_,l2,l3,l4⟩,?_⟩
     ·rcases List.mem_append.1 hv with h | h
      ·exact l1 v h
      ·rw [List.mem_singleton.1 h];exact hfit
     ·have e:(zEh (cutS s).2.1).length=s.length+1:=by
       have:=congrArg List.length hs
       rw [hw] at this
       unfold zEh
       simp only [List.length_append,List.length_cons,List.length_nil] at this ⊢
       omega
      have hh:Rs.hooks { x with wat:=x.wat++[(cutS s).2.1] }=x.hooks:=rfl
      rw [zHV,zHV x,hh]
      dsimp only
      rw [zFa,e,if_pos ha,if_pos ha]
      omega
   ·cases h
  ·cases h
 split at h
 ·rename_i hw
  split at h
  ·rename_i hc
   split at h
   ·cases h
   ·rename_i hk
    split at h
    ·cases h
    ·cases h
     have hs:=zLX hc
     obtain ⟨k1,k2⟩:=zPg (cutS s).2.1
     obtain ⟨l1,l2,l3,l4⟩:=hl ha
     refine ⟨hp,fun _=>⟨l1,l2,l3,fun v hv=>?_⟩,?_⟩
     ·have hv':v∈x.hooks++[(⟨zFC (cutS s).2.1,[]⟩:Hook)]:=hv
      rcases List.mem_append.1 hv' with h | h
      ·exact l4 v h
      ·rw [List.mem_singleton.1 h]
       refine ⟨?_,by simp⟩
       simp only [hokB,Bool.and_eq_true,decide_eq_true_eq]
       exact ⟨by omega,by omega,by simp⟩
     ·have e:(zEM ⟨zFC (cutS s).2.1,[]⟩).length=s.length+1:=by
       have:=congrArg List.length hs
       rw [hw] at this
       rw [zI5,k2 (by omega)]
       simp only [List.length_append,List.length_cons,List.length_nil,List.flatMap_nil] at this ⊢
       omega
      have hh:Rs.hooks { x with k:=3,most:=60,hpre:=x.hooks,hact:=true,kind:=zFC (cutS s).2.1,dos:=[] }=x.hooks++[(⟨zFC (cutS s).2.1,[]⟩:Hook)]:=rfl
      rw [zHV,zHV x,hh]
      dsimp only
      rw [zFa,e,if_pos ha,if_pos ha]
      omega
  ·cases h
 ·cases h
structure Inv (p:RS):Prop where
 ok:p.1.Ok
 m300:p.2.length<=300
 pre:∀c∈p.1.pre,Gd c
 lst:p.1.act=true->Lg p.1
 ops:∀o∈p.2,okOp o=true
theorem zML {l:List Op} {o:Op} (h:∀p∈l,okOp p=true) (ho:okOp o=true):∀p∈l++[o],okOp p=true:=fun p hp=>by
 rcases List.mem_append.1 hp with hp | hp
 ·exact h p hp
 ·rw [List.mem_singleton.1 hp];exact ho
theorem zPO {p y:RS} {s:Bs} (hi:Inv p) (hs:s.length<=1000000) (h:zDY p s=some y):Inv y/\wt y<=wt p+s.length+1:=by
 obtain ⟨g1,g2⟩:=zLq hi.ok hi.m300 h
 unfold zDY at h
 split at h
 ·cases h;exact ⟨hi,by omega⟩
 rename_i h0
 have hok:=opR_ok hs
 have hlen:=zRO hs h0
 split at h
 ·rename_i z hz
  cases h
  obtain ⟨a,b,c⟩:=zMr hi.ok hi.pre hi.lst hz
  refine ⟨⟨g1,g2,a,b,hi.ops⟩,?_⟩
  show wx z+(p.2.flatMap opL).length<=wx p.1+(p.2.flatMap opL).length+s.length+1
  omega
 ·split at h
  ·split at h
   ·cases h
   ·cases h
    refine ⟨⟨g1,g2,hi.pre,hi.lst,zML hi.ops hok⟩,?_⟩
    show wx p.1+((p.2++[opR s]).flatMap opL).length<=wx p.1+(p.2.flatMap opL).length+s.length+1
    rw [zFa]
    omega
  ·split at h
   ·cases h
   ·cases h
    refine ⟨⟨g1,g2,hi.pre,fun ha=>?_,hi.ops⟩,?_⟩
    ·obtain ⟨l1,l2,l3,l4⟩:=hi.lst ha
     exact ⟨l1,zML l2 hok,l3,l4⟩
    ·show wx { p.1 with pk:=p.1.pk++[opR s] }+(p.2.flatMap opL).length<=wx p.1+(p.2.flatMap opL).length+s.length+1
     rw [zHV,zHV p.1]
     show _+(if p.1.act=true then _+(_+(((p.1.pk++[opR s]).flatMap opL).length+(_+(p.1.hooks.flatMap zEM).length))) else 0)+_<=_
     rw [zFa]
     show (p.1.pre.flatMap clsU).length+(if p.1.act=true then (clsH ⟨p.1.form,[],[],[],[]⟩).length+((p.1.wat.flatMap zEh).length+((p.1.pk.flatMap opL).length+(opL (opR s)).length+((p.1.mak.flatMap opL).length+(p.1.hooks.flatMap zEM).length))) else 0)+_<=_
     split<;>omega
  ·split at h
   ·cases h
   ·cases h
    refine ⟨⟨g1,g2,hi.pre,fun ha=>?_,hi.ops⟩,?_⟩
    ·obtain ⟨l1,l2,l3,l4⟩:=hi.lst ha
     exact ⟨l1,l2,zML l3 hok,l4⟩
    ·show wx { p.1 with mak:=p.1.mak++[opR s] }+(p.2.flatMap opL).length<=wx p.1+(p.2.flatMap opL).length+s.length+1
     rw [zHV,zHV p.1]
     show _+(if p.1.act=true then _+(_+(_+(((p.1.mak++[opR s]).flatMap opL).length+(p.1.hooks.flatMap zEM).length))) else 0)+_<=_
     rw [zFa]
     show (p.1.pre.flatMap clsU).length+(if p.1.act=true then (clsH ⟨p.1.form,[],[],[],[]⟩).length+((p.1.wat.flatMap zEh).length+((p.1.pk.flatMap opL).length+((p.1.mak.flatMap opL).length+(opL (opR s)).length+(p.1.hooks.flatMap zEM).length))) else 0)+_<=_
     split<;>omega
  ·split at h
   ·cases h
   ·cases h
    have hd60:=g1.dos60
    refine ⟨⟨g1,g2,hi.pre,fun ha=>?_,hi.ops⟩,?_⟩
    ·obtain ⟨l1,l2,l3,l4⟩:=hi.lst ha
     refine ⟨l1,l2,l3,fun v hv=>?_⟩
     have hv':v∈p.1.hpre++(if p.1.hact then [(⟨p.1.kind,p.1.dos++[opR s]⟩:Hook)] else []):=hv
     unfold Rs.hooks at l4
     rcases List.mem_append.1 hv' with h | h
     ·exact l4 v (List.mem_append_left _ h)
     ·cases hh:p.1.hact with
      | false=>rw [hh] at h;cases h
      | true =>
       rw [hh,if_pos rfl] at h
       obtain ⟨m1,m2⟩:=l4 ⟨p.1.kind,p.1.dos⟩ (by rw [hh];simp)
       rw [List.mem_singleton.1 h]
       refine ⟨?_,zML m2 hok⟩
       simp only [hokB,Bool.and_eq_true,decide_eq_true_eq] at m1 ⊢
       exact ⟨m1.1,m1.2.1,hd60⟩
    ·have e:((p.1.hpre++(if p.1.hact then [(⟨p.1.kind,p.1.dos++[opR s]⟩:Hook)] else [])).flatMap zEM).length<=(p.1.hooks.flatMap zEM).length+s.length+1:=by
      unfold Rs.hooks
      rw [List.flatMap_append,List.flatMap_append,List.length_append,List.length_append]
      cases p.1.hact with
      | false =>
       simp only [Bool.false_eq_true,if_false,List.flatMap_nil,List.length_nil]
       omega
      | true =>
       rw [if_pos rfl,if_pos rfl,List.flatMap_cons,List.flatMap_cons,List.flatMap_nil,List.append_nil,List.append_nil,zI5,zI5,zFa]
       omega
     show wx { p.1 with dos:=p.1.dos++[opR s] }+(p.2.flatMap opL).length<=wx p.1+(p.2.flatMap opL).length+s.length+1
     rw [zHV,zHV p.1]
     show (p.1.pre.flatMap clsU).length+(if p.1.act=true then (clsH ⟨p.1.form,[],[],[],[]⟩).length+((p.1.wat.flatMap zEh).length+((p.1.pk.flatMap opL).length+((p.1.mak.flatMap opL).length+((p.1.hpre++(if p.1.hact then [(⟨p.1.kind,p.1.dos++[opR s]⟩:Hook)] else [])).flatMap zEM).length))) else 0)+_<=_
     split<;>omega
theorem zMQ:∀(ts:List Bs) (p y:RS),Inv p->(∀t∈ts,t.length<=1000000)->zBv ts p=some y->Inv y/\wt y<=wt p+(ts.flatMap nl).length
 | [],p,y,hi,_,h=>by
  have:some p=some y:=h
  cases this
  exact ⟨hi,by simp⟩
 | t::ts,p,y,hi,ht,h=>by
  rw [zBv] at h
  cases hs:zDY p t with
  | none=>rw [hs] at h;cases h
  | some z =>
   rw [hs] at h
   obtain ⟨a,b⟩:=zPO hi (ht t (by simp)) hs
   obtain ⟨c,d⟩:=zMQ ts z y a (fun u hu=>ht u (by simp [hu])) h
   have e:(nl t).length=t.length+1:=by simp [nl]
   rw [List.flatMap_cons,List.length_append,e]
   exact ⟨c,by omega⟩
theorem inv0:Inv (rs0,[]):=⟨zQa,by simp,by simp [rs0],fun h=>(by cases h),by simp⟩
theorem zK8 {s:Script} (h1:s.Classes.length<=12) (h2:∀c∈s.Classes,Gd c) (h3:s.Main.length<=300) (h4:∀o∈s.Main,okOp o=true):zDC s=true:=by
 unfold zDC
 rw [Bool.and_eq_true,Bool.and_eq_true,decide_eq_true_eq]
 refine ⟨List.all_eq_true.2 fun y hy=>?_,h1,List.all_eq_true.2 fun c hc=>(h2 c hc).1⟩
 have pr:∀(l:List Op) (n:Int),(l.length:Int)<=n->(∀o∈l,okOp o=true)->okPr (l,n)=true:=fun l n hl ho=>by
  unfold okPr
  rw [Bool.and_eq_true,decide_eq_true_eq]
  exact ⟨hl,List.all_eq_true.2 ho⟩
 simp only [zAj,List.mem_append,List.mem_flatMap,zG3,List.mem_cons,List.mem_map,List.not_mem_nil,or_false] at hy
 rcases hy with ⟨c,hc,hy⟩ | rfl
 ·obtain ⟨g1,g2,g3,g4⟩:=h2 c hc
  simp only [clsB,Bool.and_eq_true,decide_eq_true_eq] at g1
  rcases hy with rfl | rfl | ⟨h,hh,rfl⟩
  ·exact pr _ _ (by omega) g2
  ·exact pr _ _ (by omega) g3
  ·have:=List.all_eq_true.1 g1.2.2.2.1 h hh
   simp only [hokB,Bool.and_eq_true,decide_eq_true_eq] at this
   exact pr _ _ (by omega) (g4 h hh)
 ·exact pr _ _ (by omega) h4
theorem zNR {s:Bs} (hs:s.length<=8000):zH8 s=(⟨[],[]⟩,3)\/∃x,zH8 s=(x,0)/\zDC x=true/\(putR x).length<=16384:=by
 rw [zJU,if_neg (by omega)]
 cases h:zBv (zCJ s) (rs0,[]) with
 | none=>exact .inl rfl
 | some y =>
  have hl:∀t∈zCJ s,t.length<=1000000:=fun t ht=>by
   obtain ⟨l,h1,rfl⟩:=List.mem_map.1 ht
   have:=zKB l
   have:=zE5 h1
   omega
  obtain ⟨a,b⟩:=zMQ _ _ _ inv0 hl h
  have h1:=zKV _ s (Nat.le_refl _)
  have h2:wt (rs0,[])=0:=rfl
  have hc:=zL0 a.ok a.pre a.lst
  have h3:=zR4 ⟨y.1.cls,y.2⟩
  have h4:wt y=(y.1.cls.flatMap clsU).length+(y.2.flatMap opL).length:=rfl
  have h5:=a.ok.cls12
  dsimp only at h3
  refine .inr ⟨⟨y.1.cls,y.2⟩,rfl,zK8 h5 hc a.m300 a.ops,?_⟩
  omega
theorem zLz {fu:Nat} {x:Script} {s more:Bs} (hf:30000<fu) (hr:zH8 s=(x,0)) (ha:zDC x=true) (hs:s.length<=8000) (hm:more.length<=8010) (h:nes more=nes s):zA4 fu (x,0) more=some true:=by
 unfold zA4
 rw [zJa hf,bnd_some,zRF (by omega) (by omega) h,hr]
 show bnd (zAn fu x x) _=_
 rw [zIW (by omega) ha,bnd_some]
theorem zIr {fu:Nat} {x:Script} {s:Bs} {n:Nat} (hf:30000<fu) (hr:zH8 s=(x,0)) (ha:zDC x=true) (hs:s.length<=8000) (hn:n<=s.length) (h:n=0\/n=s.length\/∃a b,s=(a++[10])++b/\(a++[10]).length=n):zAq fu s (x,0) (n:Int)=some true:=by
 unfold zAq
 have p1:=zCY (s:=s) (i:=0) (j:=n) (Nat.zero_le _) hn
 have p2:=zCY (s:=s) (i:=n) (j:=s.length) hn (Nat.le_refl _)
 rw [show ((0:Nat):Int)=0 from rfl,Nat.sub_zero,List.drop_zero] at p1
 have e2:(s.drop n).take (s.length - n)=s.drop n:=List.take_of_length_le (by rw [List.length_drop];omega)
 rw [e2] at p2
 have l1:(s.take n).length<=8000:=by rw [List.length_take];omega
 have l2:(s.drop n).length<=8000:=by rw [List.length_drop];omega
 have l3:(s.take n++[10]++s.drop n).length=s.length+1:=by rw [List.length_append,List.length_append,List.length_take,List.length_drop,List.length_singleton];omega
 have l4:(([10]:Bs)++s++[10,10]).length=s.length+3:=by simp only [List.length_append,List.length_cons,List.length_nil];omega
 rw [p1,bnd_some,zH2 (by rw [List.length_singleton];omega),bnd_some,p2,bnd_some,zH2 (by rw [List.length_append,List.length_singleton];omega),bnd_some,zBe]
 by_cases hl:(n:Int)=(s.length:Int)
 ·rw [if_pos hl,zH2 (by rw [List.length_singleton];omega),bnd_some,zH2 (by rw [List.length_append];simp only [List.length_cons,List.length_nil];omega),bnd_some]
  exact zLz hf hr ha hs (by omega) (zRQ s)
 ·rw [if_neg hl]
  refine zLz hf hr ha hs (by omega) ?_
  rcases h with rfl | h | ⟨a,b,rfl,h⟩
  ·rw [List.take_zero,List.drop_zero]
   exact zPC s
  ·omega
  ·rw [<- h,List.take_left,List.drop_left,List.append_assoc (a++[10]) [10] b]
   exact nes_in a b
theorem scriptReads {s:Bs} {cut:Int} (h0:0<=cut) (h1:cut<=65535):∃fu,zAu fu s cut=some true:=by
 refine ⟨40000,?_⟩
 generalize hfu:40000=fu
 have hf:30000<fu:=by omega
 unfold zAu
 rw [zRa hf,bnd_some,Bool.not_true,cnd_false,show decide (((s.length:Nat):Int)>8000) = !decide (s.length<=8000) from gt_le _ 8000]
 by_cases h8:s.length<=8000
 rotate_left
 ·rw [decide_eq_false h8];rfl
 rw [decide_eq_true h8,Bool.not_true,cnd_false,zJa hf,bnd_some]
 rcases zNR h8 with hr | ⟨x,hr,ha,hl⟩
 ·rw [hr]
  show bnd (zAn fu ⟨[],[]⟩ ⟨[],[]⟩) _=_
  rw [zQz (s:=⟨[],[]⟩) (by omega) (by simp) (by simp) (by simp),bnd_some]
 ·have hr':=hr
  rw [hr]
  show bnd (zBj fu x) _=_
  rw [zH1 (by omega),bnd_some,ha,Bool.not_true,cnd_false]
  show bnd (zCR fu x) _=_
  have hp:putA x=(putR x,0):=by
   unfold putA
   rw [if_pos ha,zST (by omega)]
  rw [zQl (by omega),bnd_some,hp]
  show bnd (zBn fu (putR x)) _=_
  rw [zJa hf,zLe ha hl,bnd_some]
  show bnd (zAn fu x x) _=_
  rw [zIW (by omega) ha,bnd_some,Bool.not_true,cnd_false,zKI (by omega) (by omega),bnd_some,zKI (by omega) (by omega),bnd_some]
  have hm:remI cut (((s.length:Nat):Int)+1)=some (((cut.toNat % (s.length+1)):Nat):Int):=by
   unfold remI
   rw [if_neg (by omega),Int.tmod_eq_emod_of_nonneg h0]
   have e:cut=((cut.toNat:Nat):Int):=by omega
   rw [e,show (((s.length:Nat):Int)+1)=((s.length+1:Nat):Int) by omega,<- Int.natCast_emod,Int.toNat_natCast]
  rw [hm,bnd_some]
  have hlt:cut.toNat % (s.length+1)<s.length+1:=Nat.mod_lt _ (by omega)
  generalize hn:cut.toNat % (s.length+1)=n at hlt ⊢
  by_cases hz:n=0
  ·rw [zBY (by simp;omega)]
   exact zIr hf hr' ha h8 (by omega) (.inl hz)
  ·rw [zB8 (by simp;omega),zKI (by omega) (by omega),bnd_some,show ((n:Int) - 1)=((n - 1:Nat):Int) by omega,zQe (show n - 1<s.length by omega),bnd_some,show (((s[n - 1].toNat:Nat):Int) != 10) = !(s[n - 1]==10) from congrArg (! ·) (zR8 _ 10 (by omega))]
   cases hb:s[n - 1]==10 with
   | false =>
    rw [Bool.not_false,cnd_true]
    exact zIr hf hr' ha h8 (Nat.le_refl _) (.inr (.inl rfl))
   | true =>
    rw [Bool.not_true,cnd_false]
    refine zIr hf hr' ha h8 (by omega) (.inr (.inr ⟨s.take (n - 1),s.drop n,?_,?_⟩))
    ·have h3:s.take (n - 1+1)=s.take (n - 1)++[s[n - 1]]:=List.take_succ_eq_append_getElem (by omega)
     rw [show n - 1+1=n by omega,beq_iff_eq.1 hb] at h3
     rw [<- h3,List.take_append_drop]
    ·rw [List.length_append,List.length_take,List.length_singleton];omega
end Go.Proofs.YtoboimmgglnjfaaGreatDoor
