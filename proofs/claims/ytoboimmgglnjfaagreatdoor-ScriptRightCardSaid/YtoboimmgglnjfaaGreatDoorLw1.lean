/- Plain laws on the models, one behind the other. -/
import Derived.Test.YtoboimmgglnjfaaGreatDoorG
import Derived.Test.YtoboimmgglnjfaaGreatDoorPlain
import Derived.Test.YtoboimmgglnjfaaGreatDoorLine
import Derived.Lib.ItoaNum
import Derived.Lib.AtoiAll
import Derived.Test.YtoboimmgglnjfaaGreatDoorQuo
/- What the models of layer 1 (name) and of the reference for it come to. -/
namespace Go.Proofs.YtoboimmgglnjfaaGreatDoor
open Go Go.Pw
def lowB (b:UInt8):Bool:=decide (97<=b.toNat)&&decide (b.toNat<=122)
def upB (b:UInt8):Bool:=decide (65<=b.toNat)&&decide (b.toNat<=90)
def zHy (b:UInt8):Bool:=lowB b||upB b||(decide (48<=b.toNat)&&decide (b.toNat<=57))||decide (b.toNat=45)||decide (b.toNat=95)||decide (b.toNat=46)
def zMr (b:UInt8):Bool:=lowB b||upB b||decide (b.toNat=95)
def zGO (s:Bs):Bool:=decide (0<s.length)&&decide (s.length<=40)&&s.all zHy&&(match s with | []=>false | b::_=>zMr b)
def zHB (b:UInt8):UInt8:=if upB b then b+32 else b
theorem zPh (fu:Nat) (c:Int):zEm fu c=some (decide (97<=c)&&decide (c<=122)):=by
 unfold zEm;by_cases h:97<=c<;>simp [h]
theorem zIx (fu:Nat) (c:Int):zDa fu c=some (decide (65<=c)&&decide (c<=90)):=by
 unfold zDa;by_cases h:65<=c<;>simp [h]
theorem end3 (c:Int):(if c=45 then some true else if c=95 then some true else some (c==46))=some (decide (c=45)||decide (c=95)||decide (c=46)):=by
 by_cases h1:c=45
 ·simp [h1]
 ·by_cases h2:c=95
  ·simp [h2]
  ·rw [if_neg h1,if_neg h2,decide_eq_false h1,decide_eq_false h2];rfl
theorem zSi (fu:Nat) (c:Int):zFA fu c=some ((decide (97<=c)&&decide (c<=122))||(decide (65<=c)&&decide (c<=90))||(decide (48<=c)&&decide (c<=57))||decide (c=45)||decide (c=95)||decide (c=46)):=by
 unfold zFA zEl
 simp only [zPh,zIx,bnd_some,zBC]
 by_cases h1:97<=c<;>by_cases h2:c<=122<;>by_cases h3:65<=c<;>by_cases h4:c<=90<;>by_cases h5:48<=c<;>by_cases h6:c<=57<;>simp [h1,h2,h3,h4,h5,h6]<;>(first | omega | exact end3 c)
theorem zO5 (b:UInt8):(decide (97<=(b.toNat:Int))&&decide ((b.toNat:Int)<=122))=lowB b:=by
 unfold lowB;congr 1<;>exact decide_eq_decide.2 (by omega)
theorem zSr (b:UInt8):(decide (65<=(b.toNat:Int))&&decide ((b.toNat:Int)<=90))=upB b:=by
 unfold upB;congr 1<;>exact decide_eq_decide.2 (by omega)
theorem zSh (fu:Nat) (b:UInt8):zFA fu (b.toNat:Int)=some (zHy b):=by
 rw [zSi,zO5,zSr];unfold zHy
 congr 1
 have e1:(decide (48<=(b.toNat:Int))&&decide ((b.toNat:Int)<=57))=(decide (48<=b.toNat)&&decide (b.toNat<=57)):=by congr 1<;>exact decide_eq_decide.2 (by omega)
 have e2:decide ((b.toNat:Int)=45)=decide (b.toNat=45):=decide_eq_decide.2 (by omega)
 have e3:decide ((b.toNat:Int)=95)=decide (b.toNat=95):=decide_eq_decide.2 (by omega)
 have e4:decide ((b.toNat:Int)=46)=decide (b.toNat=46):=decide_eq_decide.2 (by omega)
 rw [e1,e2,e3,e4]
theorem zWF (fu:Nat) (c:Int) (h:128<=c):zFA fu c=some false:=by
 rw [zSi]
 simp only [decide_eq_false (show ¬c<=122 by omega),decide_eq_false (show ¬c<=90 by omega),decide_eq_false (show ¬c<=57 by omega),decide_eq_false (show ¬c=45 by omega),decide_eq_false (show ¬c=95 by omega),decide_eq_false (show ¬c=46 by omega),Bool.and_false,Bool.or_false]
theorem zMu {fu:Nat} {t:Int->Option Bool} {f:UInt8->Bool} {s:Bs} (ht:∀b∈s,b.toNat<128->t (b.toNat:Int)=some (f b)) (hi:(∀b∈s,b.toNat<128)\/∀r:Int,128<=r->t r=some true) (hf:s.length<fu) :
  zDG fu t s=some (s.any fun b=>decide (128<=b.toNat)||f b):=by
 have key:∃r,zBT t s true fu 0=some r/\decide (r>=0)=s.any fun b=>decide (128<=b.toNat)||f b:=by
  refine up (L:=zBT t s true) (Inv:=fun i x=>x=i/\∀(j:Nat) (h:j<s.length),j<i->(decide (128<=s[j].toNat)||f s[j])=false) (Fin:=fun v=>∃r,v=some r/\decide (r>=0)=s.any fun b=>decide (128<=b.toNat)||f b) s.length (fun i x hl ⟨hx,hj⟩=>?_) (fun x ⟨hx,hj⟩=>?_) (i:=0) ⟨rfl,fun j _ hj=>by omega⟩ (Nat.zero_le _) (by omega)
  ·subst hx
   by_cases hc:(decide (128<=s[x].toNat)||f s[x])=true
   ·refine .inl ⟨some (x:Int),⟨_,rfl,?_⟩,fun k=>?_⟩
    ·rw [decide_eq_true (by omega)]
     exact (List.any_eq_true.2 ⟨_,List.getElem_mem hl,hc⟩).symm
    ·simp only [zBT]
     rw [zAo (by simpa using hl)]
     by_cases hb:s[x].toNat<128
     ·rw [decide_eq_false (by omega),Bool.false_or] at hc
      rw [(zQ4 hl hb).1,ht _ (List.getElem_mem hl) hb,bnd_some,hc];rfl
     ·rcases hi with hi | hi
      ·exact absurd (hi _ (List.getElem_mem hl)) hb
      ·rw [hi _ (dec_hi hl (by omega))];rfl
   ·have hc':=Bool.eq_false_iff.2 hc
    have hb:s[x].toNat<128:=by
     rw [Bool.or_eq_false_iff,decide_eq_false_iff_not] at hc'
     omega
    refine .inr ⟨x+1,⟨rfl,fun j h hj'=>?_⟩,fun k=>?_⟩
    ·rcases Nat.lt_succ_iff_lt_or_eq.1 hj' with h' | h'
     ·exact hj j h h'
     ·subst h';exact hc'
    ·rw [Bool.or_eq_false_iff] at hc'
     simp only [zBT]
     rw [zAo (by simpa using hl),(zQ4 hl hb).1,ht _ (List.getElem_mem hl) hb,bnd_some,hc'.2,(zQ4 hl hb).2];rfl
  ·subst hx
   refine ⟨some (-1),⟨_,rfl,?_⟩,fun k=>?_⟩
   ·have:(s.any fun b=>decide (128<=b.toNat)||f b)=false:=by
     rw [List.any_eq_false]
     intro b hb
     obtain ⟨j,h,rfl⟩:=List.mem_iff_getElem.1 hb
     simpa using hj j h h
    rw [this];rfl
   ·simp only [zBT]
    rw [zAi (by simp)]
 obtain ⟨r,h1,h2⟩:=key
 unfold zDG zEf zEg
 rw [h1,bnd_some,bnd_some,h2]
theorem zRT (b:UInt8) (fu:Nat):(bnd (rng .i32 (b.toNat:Int)) fun i4=>bnd (zEm fu i4) fun r5=>cnd r5 (some true) (bnd (zDa fu i4) fun r6=>cnd r6 (some true) (some (i4==95))))=some (zMr b):=by
 have hb:=b.toNat_lt
 rw [zKg (by simp only [lo,hi];omega),bnd_some,zPh,zIx,bnd_some,bnd_some,zO5,zSr]
 unfold zMr
 have e:((b.toNat:Int)==95)=decide (b.toNat=95):=by rw [Bool.eq_iff_iff];simp;omega
 rw [e]
 cases lowB b<;>cases upB b<;>rfl
theorem zS2 (s:Bs):(s.any fun b=>decide (128<=b.toNat) || !(zHy b)) = !(s.all zHy):=by
 rw [List.not_all_eq_any_not]
 congr 1
 funext b
 cases h:zHy b
 ·simp
 ·have:b.toNat<128:=by
   unfold zHy lowB upB at h
   simp only [Bool.or_eq_true,Bool.and_eq_true,decide_eq_true_eq] at h
   omega
  simp;omega
theorem zT3 {fu:Nat} {s:Bs} (hfu:40<fu):zGJ fu s=some (zGO s):=by
 unfold zGJ zGO
 rw [zCu,zCu]
 by_cases h1:s.length<1
 ·rw [if_pos (by omega)];simp [show ¬0<s.length by omega]
 rw [if_neg (by omega)]
 by_cases h2:s.length>40
 ·rw [if_pos (by omega)];simp [show ¬s.length<=40 by omega]
 rw [if_neg (by omega),zMu (f:=fun b => !(zHy b)) (fun b _ _=>by unfold zCv;rw [zSh];rfl) (.inr fun r hr=>by unfold zCv;rw [zWF _ _ hr];rfl) (by omega),bnd_some,zS2,zHL]
 obtain ⟨b,t,rfl⟩:∃b t,s=b::t:=by cases s<;>simp_all
 rw [zOg]
 simp only [List.getElem?_cons_zero,Option.map_some,bnd_some]
 rw [zRT]
 rw [decide_eq_true (by omega),decide_eq_true (by omega)]
 cases (b::t).all zHy<;>simp
def lowI (y:Int):Int:=if 65<=y/\y<=90 then y+32 else y
theorem zMQ (b:UInt8):upB b=true↔65<=b.toNat/\b.toNat<=90:=by unfold upB;simp
theorem zM1 (b:UInt8):lowI (b.toNat:Int)=((zHB b).toNat:Int):=by
 unfold lowI zHB
 by_cases h:upB b=true
 ·have:=(zMQ b).1 h
  rw [if_pos (by omega),if_pos h,UInt8.toNat_add]
  simp;omega
 ·have:¬(65<=b.toNat/\b.toNat<=90):=fun h'=>h ((zMQ b).2 h')
  rw [if_neg (by omega),if_neg h]
theorem zWH (s:Bs):zEd ((zAS s).map lowI)=s.map zHB:=by
 unfold zEd zAS
 rw [List.map_map,List.map_map]
 refine List.map_congr_left fun b _=>?_
 simp only [Function.comp,zM1,Int.toNat_natCast,UInt8.ofNat_toNat]
theorem zRk {fu:Nat} {s:Bs} (hf:s.length<fu) (hb:s.length<=1000000):zGK fu s=some (s.map zHB):=by
 unfold zGK
 rw [zBv (by omega),bnd_some]
 have hl:(zAS s).length=s.length:=by simp [zAS]
 have:=upf (L:=zDs fu s) (f:=fun i=>((i:Int),mix lowI (zAS s) i)) (v:=some (s.map zHB)) (zAS s).length (fun i hi k=>?_) (fun k=>?_) (by rw [hl];exact hf)
 ·simpa [zTd] using this
 ·simp only [zDs]
  rw [zAo (by simpa using hi),zUq lowI hi,bnd_some]
  have hy:(zAS s)[i]=((s[i]'(hl▸hi)).toNat:Int):=by simp [zAS]
  have hn:rng .i64 ((i:Int)+1)=some ((i+1:Nat):Int):=zAw (by omega)
  rw [<- zN4 lowI hi]
  have hk:=zTc lowI hi
  rw [<- zN4 lowI hi] at hk
  rw [hy] at hk ⊢
  have hb:=(s[i]'(hl▸hi)).toNat_lt
  generalize (s[i]'(hl▸hi)).toNat=n at hb hk
  rw [zKg (by simp only [lo,Go.Pw.hi];omega),bnd_some,zIx,bnd_some,hn]
  by_cases h:65<=(n:Int)/\(n:Int)<=90
  ·rw [zAo (by simp;omega),zKg (by simp only [lo,Go.Pw.hi];omega),bnd_some,zKg (by simp only [lo,Go.Pw.hi];omega),bnd_some,bnd_some,bnd_some]
   unfold lowI
   rw [if_pos h,show (n:Int) - 65+97=n+32 by omega]
  ·have e:lowI (n:Int)=n:=if_neg h
   rw [zAi (by simp;omega),bnd_some,<- hk e]
 ·simp only [zDs]
  rw [zAi (by simp),zVd,zWH]
def zWX:List Bs:=[[97,110,110,111,116,97,116,105,111,110,45,120,109,108],[99,111,108,111,114,45,112,114,111,102,105,108,101],[102,111,110,116,45,102,97,99,101],[102,111,110,116,45,102,97,99,101,45,115,114,99],[102,111,110,116,45,102,97,99,101,45,117,114,105],[102,111,110,116,45,102,97,99,101,45,102,111,114,109,97,116],[102,111,110,116,45,102,97,99,101,45,110,97,109,101],[109,105,115,115,105,110,103,45,103,108,121,112,104]]
theorem zHp {s:Bs} (h:zGO s=true):0<s.length/\s.length<=40:=by
 unfold zGO at h
 simp only [Bool.and_eq_true,decide_eq_true_eq] at h
 exact h.1.1
def fitB (s:Bs):Bool:=zGO s&&(s.map zHB==s)
theorem zUm {fu:Nat} {s:Bs} (hfu:200<fu):zGY fu s=some (if zGO s then (s.map zHB,0) else ([],4)):=by
 unfold zGY
 rw [zT3 (by omega),bnd_some,zHL]
 cases hr:zGO s
 ·rfl
 ·have:=zHp hr
  rw [cnd_true,zRk (by omega) (by omega),bnd_some];rfl
end Go.Proofs.YtoboimmgglnjfaaGreatDoor
/- Texts as bytes: lines, cuts at a sign, numbers as text and back. No program is named here. -/
namespace Go.Pw
open Go
theorem zJN:∀{l r:List UInt8},(10:UInt8)∉l->zCK (l++10::r)=(l++[10])::zCK r
 | [],r,_=>by simp [zCK]
 | b::l,r,h=>by
  have hb:¬b=10:=fun e=>h (by simp [e])
  have ih:=zJN (l:=l) (r:=r) (fun hm=>h (List.mem_cons_of_mem _ hm))
  rw [List.cons_append,zCK,if_neg hb,ih]
  rfl
theorem zJM:∀(s:List UInt8),(zCK s).flatten=s
 | []=>rfl
 | b::r=>by
  have ih:=zJM r
  rw [zCK]
  by_cases hb:b=10
  ·simp [hb,ih]
  ·rw [if_neg hb]
   cases h:zCK r with
   | nil=>rw [h] at ih;simp at ih;simp [<- ih]
   | cons l ls=>rw [h] at ih;simp at ih ⊢;exact ih
theorem zHT:∀(s l:List UInt8),l∈zCK s->(∃t,l=t++[10]/\(10:UInt8)∉t)\/(l≠[]/\(10:UInt8)∉l)
 | [],l,h=>by simp [zCK] at h
 | b::r,l,h=>by
  rw [zCK] at h
  by_cases hb:b=10
  ·simp only [hb,if_true,List.mem_cons] at h
   rcases h with rfl | h
   ·exact .inl ⟨[],rfl,by simp⟩
   ·exact zHT r l h
  ·rw [if_neg hb] at h
   have ih:=zHT r
   cases hr:zCK r with
   | nil =>
    rw [hr] at h;simp at h;subst h
    exact .inr ⟨by simp,by simpa using Ne.symm hb⟩
   | cons l0 ls =>
    rw [hr] at h ih
    simp only [List.mem_cons] at h
    rcases h with rfl | h
    ·rcases ih l0 (by simp) with ⟨t,rfl,ht⟩ | ⟨_,ht⟩
     ·exact .inl ⟨b::t,rfl,by simp [Ne.symm hb,ht]⟩
     ·exact .inr ⟨by simp,by simp [Ne.symm hb,ht]⟩
    ·exact ih l (by simp [h])
theorem zKQ {α : Type}:∀{L:List (List α)} {l:List α},l∈L->l.length<=L.flatten.length
 | a::L,l,h=>by
  rcases List.mem_cons.1 h with rfl | h
  ·simp
  ·have:=zKQ h
   rw [List.flatten_cons,List.length_append];omega
theorem zHU {s l:List UInt8} (h:l∈zCK s):l.length<=s.length:=by
 have:=zKQ h
 rwa [zJM] at this
theorem zOw:∀{w r:List UInt8} {c:UInt8},c∉w->Lib.indexByte (w++c::r) c=(w.length:Nat)
 | [],r,c,_=>by simp [Lib.indexByte]
 | b::w,r,c,h=>by
  have hb:¬b=c:=fun e=>h (by simp [e])
  have ih:=zOw (w:=w) (r:=r) (c:=c) (fun hm=>h (List.mem_cons_of_mem _ hm))
  rw [List.cons_append,zH2,if_neg hb,ih,if_neg (by omega)]
  simp
theorem zOx {w:List UInt8} {c:UInt8} (h:c∉w):Lib.indexByte w c = -1:=by
 have:=zGU w c
 by_cases h0:0<=Lib.indexByte w c
 ·exact absurd (this.1.1 h0) h
 ·omega
theorem zMI {s:List UInt8} {c:UInt8} (h:c∈s):∃w r,s=w++c::r/\c∉w:=by
 induction s with
 | nil=>cases h
 | cons b s ih =>
  by_cases hb:b=c
  ·exact ⟨[],s,by simp [hb],by simp⟩
  ·obtain ⟨w,r,rfl,hw⟩:=ih (by simpa [Ne.symm hb] using h)
   exact ⟨b::w,r,rfl,by simp [Ne.symm hb,hw]⟩
theorem zM7:∀(l r:List UInt8) (acc:Nat),Lib.parseUint10 acc (l++r)=match Lib.parseUint10 acc l with
  | .ok a=>Lib.parseUint10 a r
  | e=>e
 | [],r,acc=>by simp [Lib.parseUint10]
 | c::l,r,acc=>by
  simp only [List.cons_append,Lib.parseUint10]
  have ih:=zM7 l r
  split
  ·split
   ·rfl
   ·split
    ·rfl
    ·exact ih _
  ·rfl
theorem zID {d:Nat} (h:d<10):(UInt8.ofNat (48+d)).toNat=48+d:=by simp;omega
theorem zJQ:∀(u:Nat),u<18446744073709551616->Lib.parseUint10 0 (Lib.decDigits u)=.ok u:=by
 intro u
 induction u using Nat.strongRecOn with
 | ind u ih =>
  intro hu
  rw [Lib.decDigits]
  by_cases h:u<10
  ·rw [dif_pos h]
   simp only [Lib.parseUint10,zID h]
   rw [if_pos (by omega),if_neg (by omega),if_neg (by omega)]
   simp
  ·rw [dif_neg h,zM7,ih (u / 10) (by omega) (by omega)]
   have hd:u % 10<10:=Nat.mod_lt _ (by omega)
   simp only [Lib.parseUint10,zID hd]
   rw [if_pos (by omega),if_neg (by omega),if_neg (by omega)]
   congr 1
   omega
theorem zHM (u:Nat):Lib.decDigits u≠[]:=by
 rw [Lib.decDigits];split<;>simp
theorem zFy:∀(u:Nat) (b:UInt8),b∈Lib.decDigits u->48<=b.toNat/\b.toNat<=57:=by
 intro u
 induction u using Nat.strongRecOn with
 | ind u ih =>
  intro b hb
  rw [Lib.decDigits] at hb
  by_cases h:u<10
  ·rw [dif_pos h,List.mem_singleton] at hb
   subst hb
   rw [zID h];omega
  ·rw [dif_neg h] at hb
   simp only [List.mem_append,List.mem_singleton] at hb
   rcases hb with hb | rfl
   ·exact ih _ (by omega) b hb
   ·have hd:u % 10<10:=Nat.mod_lt _ (by omega)
    rw [zID hd];omega
theorem zTR {n:Int} {b:UInt8} (h:b∈Lib.itoa n):b=45\/48<=b.toNat/\b.toNat<=57:=by
 unfold Lib.itoa at h
 split at h
 ·simp only [List.mem_cons] at h
  rcases h with h | h
  ·exact .inl h
  ·exact .inr (zFy _ _ h)
 ·exact .inr (zFy _ _ h)
theorem zVW (n:Int):Lib.itoa n≠[]:=by
 unfold Lib.itoa
 split
 ·simp
 ·exact zHM _
theorem zRW {n:Int} {c:UInt8} (h:c.toNat<45\/c.toNat=46\/c.toNat=47\/57<c.toNat):c∉Lib.itoa n:=fun hm=>by
 rcases zTR hm with h' | h'
 ·subst h';simp at h
 ·omega
theorem zQY {n:Int} (h1 : -9223372036854775808<=n) (h2:n<=9223372036854775807):Lib.atoiAll (Lib.itoa n)=.ok n:=by
 unfold Lib.itoa
 by_cases h:n<0
 ·rw [if_pos h]
  have hm:Lib.parseMag (Lib.decDigits n.natAbs)=.ok n.natAbs:=by
   unfold Lib.parseMag;rw [if_neg (zHM _),zJQ _ (by omega)]
  simp only [Lib.atoiAll]
  rw [if_pos (by right;rfl),hm]
  simp only []
  rw [if_neg (by intro hh;exact hh.1 rfl),if_neg (by omega),if_pos (by rfl)]
  congr 1
  omega
 ·rw [if_neg h]
  cases hd:Lib.decDigits n.toNat with
  | nil=>exact absurd hd (zHM _)
  | cons c r =>
   have hc:=zFy n.toNat c (by rw [hd];simp)
   have hm:Lib.parseMag (c::r)=.ok n.toNat:=by
    unfold Lib.parseMag;rw [if_neg (by simp),<- hd,zJQ _ (by omega)]
   simp only [Lib.atoiAll]
   rw [if_neg (by omega),hm]
   simp only []
   rw [if_neg (by omega),if_neg (by omega),if_neg (by omega)]
   congr 1
   omega
theorem zK1 (u:Nat):u<10 ^ 20->(Lib.decDigits u).length<=20:=by
 have key:∀(k u:Nat),u<10 ^ (k+1)->(Lib.decDigits u).length<=k+1:=by
  intro k
  induction k with
  | zero=>intro u h;rw [Lib.decDigits,dif_pos (by simpa using h)];simp
  | succ k ih =>
   intro u h
   rw [Lib.decDigits]
   split
   ·simp
   ·have:=ih (u / 10) (by rw [Nat.pow_succ] at h;omega)
    simp;omega
 exact key 19 u
theorem zTQ {n:Int} (h1 : -9223372036854775808<=n) (h2:n<=9223372036854775807):(Lib.itoa n).length<=21:=by
 unfold Lib.itoa
 split
 ·have:=zK1 n.natAbs (by omega)
  simp;omega
 ·have:=zK1 n.toNat (by omega)
  omega
theorem zPr {s:List UInt8} {v:Int} (h:Lib.atoiAll s=.ok v) : -9223372036854775808<=v/\v<=9223372036854775807:=by
 unfold Lib.atoiAll at h
 split at h
 ·cases h
 ·simp only [] at h
  split at h
  ·cases h
  ·cases h
  ·split at h
   ·cases h
   ·split at h
    ·cases h
    ·cases h
     split<;>omega
end Go.Pw
/- Texts as bytes: texts in quotes and back; numbers without a digit to spare; pieces of a text behind a place. No program is named here. -/
namespace Go.Pw
open Go
theorem zMb (s t:List UInt8):zAS (s++t)=zAS s++zAS t:=by simp [zAS]
theorem zQe (b:UInt8):zAS [b]=[(b.toNat:Int)]:=rfl
theorem zKE (s:List UInt8):(zAS s).length=s.length:=by simp [zAS]
theorem zSn (s:List UInt8):zEd (zAS s)=s:=by
 simp only [zEd,zAS,List.map_map]
 conv=>rhs;rw [<- List.map_id s]
 refine List.map_congr_left fun b _=>?_
 simp
theorem zDu (b c:UInt8):((b.toNat:Int)==(c.toNat:Int))=(b==c):=by
 rw [Bool.eq_iff_iff,beq_iff_eq,beq_iff_eq,<- UInt8.toNat_inj];omega
def inI (n:Int):Prop := -9223372036854775808<=n/\n<=9223372036854775807
theorem zTO {n:Int} (h:inI n):IntKind.i64.wrap n=n:=zSv (k:=.i64) ⟨h.1,h.2⟩
theorem zFs {S t r:List UInt8} {p:Nat} (h:S.drop p=t++r):S.drop (p+t.length)=r:=by
 rw [<- List.drop_drop,h,List.drop_left' rfl]
theorem zHN {S t r:List UInt8} {p:Nat} (hp:p<=S.length) (h:S.drop p=t++r):p+t.length<=S.length:=by
 have:=congrArg List.length h
 simp at this;omega
theorem zFr {S r:List UInt8} {p:Nat} {c:UInt8} (h:S.drop p=c::r):chr S (p:Int)=some (c.toNat:Int):=by
 rw [zNi]
 have:S[p]? = some c:=by
  have h2:(S.drop p)[0]? = some c:=by rw [h];rfl
  simpa using h2
 rw [this];rfl
theorem zED {S r:List UInt8} {p:Nat} {c:UInt8} (h:S.drop p=c::r):p<S.length/\S.drop (p+1)=r:=by
 have hl:=congrArg List.length h
 simp at hl
 exact ⟨by omega,by rw [<- List.drop_drop,h];rfl⟩
theorem zKJ {S:List UInt8} {p:Nat} (h:p<S.length):∃c r,S.drop p=c::r:=⟨S[p],S.drop (p+1),List.drop_eq_getElem_cons h⟩
def unq:List UInt8->Option (List UInt8×List UInt8)
 | []=>none
 | [b]=>if b=34 then some ([],[]) else none
 | b::c::r=>if b=34 then some ([],c::r) else if b=92 then (if c=34\/c=92 then (unq r).map fun x=>(c::x.1,x.2) else none) else (unq (c::r)).map fun x=>(b::x.1,x.2)
theorem zMN (r:List UInt8):unq (34::r)=some ([],r):=by cases r<;>simp [unq]
theorem zMO {c:UInt8} (h:c=34\/c=92) (r:List UInt8):unq (92::c::r)=(unq r).map fun x=>(c::x.1,x.2):=by simp [unq,h]
theorem zJF {c:UInt8} (h:¬(c=34\/c=92)) (r:List UInt8):unq (92::c::r)=none:=by simp [unq,h]
theorem zIO:unq [92]=none:=by simp [unq]
theorem zMP {b:UInt8} (h1:b≠34) (h2:b≠92) (r:List UInt8):unq (b::r)=(unq r).map fun x=>(b::x.1,x.2):=by cases r<;>simp [unq,h1,h2]
theorem zVz:quoL []=[]:=rfl
theorem zIr (b:UInt8) (s:List UInt8):quoL (b::s)=quoB b++quoL s:=by simp [quoL]
theorem zJv {b:UInt8} (h:b=34\/b=92):quoB b=[92,b]:=by rcases h with rfl | rfl<;>rfl
theorem zOK {b:UInt8} (h1:b≠34) (h2:b≠92):quoB b=[b]:=by simp [quoB,zCD,h1,h2]
theorem zOP:∀(s r:List UInt8),unq (quoL s++34::r)=some (s,r)
 | [],r=>zMN r
 | b::s,r=>by
  have ih:=zOP s r
  rw [zIr]
  by_cases h:b=34\/b=92
  ·rw [zJv h]
   show unq (92::b::(quoL s++34::r))=_
   rw [zMO h,ih];rfl
  ·have h1:b≠34:=fun e=>h (.inl e)
   have h2:b≠92:=fun e=>h (.inr e)
   rw [zOK h1 h2]
   show unq (b::(quoL s++34::r))=_
   rw [zMP h1 h2,ih];rfl
theorem zMB:∀(n:Nat) (t s r:List UInt8),t.length<=n->unq t=some (s,r)->t=quoL s++34::r
 | 0,t,s,r,hn,h=>by
  obtain rfl:=List.length_eq_zero_iff.1 (Nat.le_zero.1 hn)
  simp [unq] at h
 | n+1,[],s,r,hn,h=>by simp [unq] at h
 | n+1,b::t,s,r,hn,h=>by
  simp only [List.length_cons] at hn
  by_cases h1:b=34
  ·subst h1
   rw [zMN] at h
   cases h;rfl
  ·by_cases h2:b=92
   ·subst h2
    cases t with
    | nil=>rw [zIO] at h;cases h
    | cons c t =>
     by_cases h3:c=34\/c=92
     ·rw [zMO h3] at h
      cases h4:unq t with
      | none=>rw [h4] at h;cases h
      | some x =>
       rw [h4] at h
       cases h
       have:=zMB n t x.1 x.2 (by simp at hn;omega) h4
       rw [zIr,zJv h3]
       show 92::c::t=92::c::(quoL x.1++34::x.2)
       rw [<- this]
     ·rw [zJF h3] at h;cases h
   ·rw [zMP h1 h2] at h
    cases h4:unq t with
    | none=>rw [h4] at h;cases h
    | some x =>
     rw [h4] at h
     cases h
     have:=zMB n t x.1 x.2 (by omega) h4
     rw [zIr,zOK h1 h2]
     show b::t=b::(quoL x.1++34::x.2)
     rw [<- this]
theorem zPN:∀(s:List UInt8),s.length<=(quoL s).length
 | []=>Nat.le_refl _
 | b::s=>by
  have:=zPN s
  rw [zIr,List.length_append,List.length_cons]
  have:1<=(quoB b).length:=by unfold quoB;split<;>simp
  omega
theorem zSF {c:UInt8}:∀{s:List UInt8},c∈quoL s->c=92\/c∈s
 | [],h=>by simp [zVz] at h
 | b::s,h=>by
  rw [zIr,List.mem_append] at h
  rcases h with h | h
  ·unfold quoB at h
   split at h
   ·simp at h;rcases h with h | h
    ·exact .inl h
    ·exact .inr (by simp [h])
   ·simp at h;exact .inr (by simp [h])
  ·rcases zSF h with h | h
   ·exact .inl h
   ·exact .inr (by simp [h])
def val (l:List UInt8):Nat:=l.foldl (fun a c=>a*10+(c.toNat - 48)) 0
def isD (c:UInt8):Prop:=48<=c.toNat/\c.toNat<=57
instance (c:UInt8):Decidable (isD c):=by unfold isD;infer_instance
theorem zJ1 (l:List UInt8) (c:UInt8):val (l++[c])=val l*10+(c.toNat - 48):=by simp [val]
theorem zLV:∀(u:Nat),val (Lib.decDigits u)=u:=by
 intro u
 induction u using Nat.strongRecOn with
 | ind u ih =>
  rw [Lib.decDigits]
  by_cases h:u<10
  ·rw [dif_pos h]
   simp only [val,List.foldl_cons,List.foldl_nil,zID h]
   omega
  ·have hd:u % 10<10:=Nat.mod_lt _ (by omega)
   rw [dif_neg h,zJ1,ih (u / 10) (by omega),zID hd]
   omega
def zSw (l:List UInt8):Prop:=l≠[]/\(∀c∈l,isD c)/\(l.head? = some 48->l.length=1)
theorem zQx:∀{l:List UInt8},(∀c∈l,isD c)->l≠[]->l.head? ≠ some 48->0<val l:=by
 intro l
 have key:∀(l:List UInt8) (a:Nat),0<a->0<l.foldl (fun a c=>a*10+(c.toNat - 48)) a:=by
  intro l
  induction l with
  | nil=>intro a h;exact h
  | cons c l ih=>intro a h;exact ih _ (by show 0<a*10+(c.toNat - 48);omega)
 cases l with
 | nil=>intro _ h;exact absurd rfl h
 | cons c l =>
  intro h _ h2
  have hc:=h c (by simp)
  have:c.toNat≠48:=fun e=>h2 (by simp;rw [<- UInt8.toNat_inj];exact e)
  exact key l _ (by unfold isD at hc;show 0<0*10+(c.toNat - 48);omega)
theorem zLR {α : Type} (l:List α):l=[]\/∃i x,l=i++[x]:=by
 by_cases h:l=[]
 ·exact .inl h
 ·exact .inr ⟨_,_,(List.dropLast_concat_getLast h).symm⟩
theorem zS7:∀(n:Nat) (l:List UInt8),l.length<=n->zSw l->Lib.decDigits (val l)=l:=by
 intro n
 induction n with
 | zero =>
  intro l hl h
  exact absurd (List.length_eq_zero_iff.1 (Nat.le_zero.1 hl)) h.1
 | succ n ih =>
  intro l hl ⟨h1,h2,h3⟩
  rcases zLR l with rfl | ⟨i,c,rfl⟩
  ·exact absurd rfl h1
  ·have hc:=h2 c (by simp)
   unfold isD at hc
   rw [zJ1]
   by_cases hi:i=[]
   ·subst hi
    rw [Lib.decDigits,dif_pos (by show 0*10+_<10;omega)]
    show [UInt8.ofNat (48+(0*10+(c.toNat - 48)))]=[c]
    congr 1
    rw [<- UInt8.toNat_inj]
    simp;omega
   ·have hh:i.head? ≠ some 48:=fun e=>by
     have:(i++[c]).length=1:=h3 (by rw [List.head?_append,e];rfl)
     simp at this
     exact hi this
    have hv:=zQx (fun c hc=>h2 c (by simp [hc])) hi hh
    have:=ih i (by simp at hl;omega) ⟨hi,fun c hc=>h2 c (by simp [hc]),fun e=>absurd e hh⟩
    rw [Lib.decDigits,dif_neg (by omega),show (val i*10+(c.toNat - 48)) / 10=val i from by omega,this,show (val i*10+(c.toNat - 48)) % 10=c.toNat - 48 from by omega]
    congr 2
    rw [<- UInt8.toNat_inj]
    simp;omega
theorem zNl:∀(u:Nat),0<u->(Lib.decDigits u).head? ≠ some 48:=by
 intro u
 induction u using Nat.strongRecOn with
 | ind u ih =>
  intro hu
  rw [Lib.decDigits]
  by_cases h:u<10
  ·rw [dif_pos h]
   intro e
   have:UInt8.ofNat (48+u)=48:=by simpa using e
   have:=congrArg UInt8.toNat this
   rw [zID h] at this
   have e48:(48:UInt8).toNat=48:=rfl
   omega
  ·rw [dif_neg h,List.head?_append]
   have:=ih (u / 10) (by omega) (by omega)
   cases hd:(Lib.decDigits (u / 10)).head? with
   | none=>exact absurd (List.head?_eq_none_iff.1 hd) (zHM _)
   | some x=>rw [hd] at this;simpa using this
theorem zKw (u:Nat):zSw (Lib.decDigits u):=by
 refine ⟨zHM u,fun c hc=>zFy u c hc,fun h=>?_⟩
 by_cases hu:0<u
 ·exact absurd h (zNl u hu)
 ·have:u=0:=by omega
  subst this
  rw [Lib.decDigits];rfl
theorem zGx:∀(k u:Nat),u<10 ^ (k+1)->(Lib.decDigits u).length<=k+1:=by
 intro k
 induction k with
 | zero=>intro u h;rw [Lib.decDigits,dif_pos (by simpa using h)];simp
 | succ k ih =>
  intro u h
  rw [Lib.decDigits]
  split
  ·simp
  ·have:=ih (u / 10) (by rw [Nat.pow_succ] at h;omega)
   simp;omega
theorem zSs:∀(n:Nat) (l:List UInt8),l.length<=n->(∀c∈l,isD c)->val l<10 ^ n
 | 0,l,h,_=>by obtain rfl:=List.length_eq_zero_iff.1 (Nat.le_zero.1 h);simp [val]
 | n+1,l,h,hd=>by
  rcases zLR l with rfl | ⟨i,c,rfl⟩
  ·simp [val,Nat.pow_pos]
  ·have:=zSs n i (by simp at h;omega) (fun c hc=>hd c (by simp [hc]))
   have hc:=hd c (by simp)
   unfold isD at hc
   rw [zJ1,Nat.pow_succ];omega
end Go.Pw
/- Operations: the library's functions on texts, the zWX and the fields of all kinds, and which operations are right. -/
namespace Go.Proofs.YtoboimmgglnjfaaGreatDoor
open Go Go.Pw
set_option linter.unusedVariables false
theorem zNk {fu:Nat} {w r:Bs} {c:UInt8} (hw:c∉w) (hl:(w++c::r).length<=1000000000):zBA fu (w++c::r) [c]=some (w,r,true):=by
 simp only [List.length_append,List.length_cons] at hl
 unfold zBA zCL
 simp only [zHk,bnd_some]
 rw [zOw hw,show decide (((w.length:Nat):Int)>=0)=true from by simp,cnd_true,show (0:Int)=((0:Nat):Int) from rfl,zCc (by omega) (by simp),bnd_some,
  show ((w.length:Nat):Int)+(([c].length:Nat):Int)=((w.length+1:Nat):Int) from by simp,zGF (by omega) (by omega),bnd_some,zCc (by simp) (by simp),bnd_some,bnd_some]
 simp
 exact List.take_of_length_le (by omega)
theorem zQ1 {fu:Nat} {s:Bs} {c:UInt8} (hs:c∉s):zBA fu s [c]=some (s,[],false):=by
 unfold zBA zCL
 simp only [zHk,bnd_some]
 rw [zOx hs]
 rfl
theorem zQ0 {fu:Nat} {s:Bs} (c:UInt8) (hl:s.length<=1000000000):∃w r b,zBA fu s [c]=some (w,r,b)/\w.length<=s.length/\r.length<=s.length:=by
 by_cases h:c∈s
 ·obtain ⟨w,r,rfl,hw⟩:=zMI h
  exact ⟨w,r,true,zNk hw hl,by simp,by simp;omega⟩
 ·exact ⟨s,[],false,zQ1 h,Nat.le_refl _,by simp⟩
theorem zOE {fu:Nat} {c:UInt8}:zAR fu [] [c]=some ([],false):=by
 unfold zAR zBa zAk
 rfl
theorem zJs {fu:Nat} {b c:UInt8} {r:Bs} (hl:r.length<=1000000000):zAR fu (b::r) [c]=some (if b=c then (r,true) else (b::r,false)):=by
 unfold zAR zBa zAk
 rw [show decide ((((b::r).length:Nat):Int)>=(([c].length:Nat):Int))=true from by simp;omega,cnd_true]
 rw [show (0:Int)=((0:Nat):Int) from rfl,zCc (by omega) (by simp),bnd_some,bnd_some]
 rw [show (((b::r).drop 0).take ([c].length - 0)==[c])=decide (b=c) from by simp [Bool.beq_eq_decide_eq]]
 by_cases h:b=c
 ·rw [if_pos h]
  simp only [h,decide_true,Bool.not_true,cnd_false]
  rw [zCc (by simp) (by simp),bnd_some,bnd_some]
  simp
 ·rw [if_neg h]
  simp [h]
theorem zOC {fu:Nat} {s:Bs} {c:UInt8} (hl:s.length<=1000000000):∃r b,zAR fu s [c]=some (r,b)/\r.length<=s.length:=by
 cases s with
 | nil=>exact ⟨_,_,zOE,Nat.le_refl _⟩
 | cons b s =>
  rw [zJs (by simp at hl;omega)]
  by_cases h:b=c
  ·rw [if_pos h];exact ⟨_,_,rfl,by simp⟩
  ·rw [if_neg h];exact ⟨_,_,rfl,Nat.le_refl _⟩
theorem zTM {fu:Nat} {c:UInt8}:zCS fu [] [c]=some false:=by
 unfold zCS zAk
 rfl
theorem zRS {fu:Nat} {b c:UInt8} {r:Bs}:zCS fu (b::r) [c]=some (decide (b=c)):=by
 unfold zCS zAk
 rw [show decide ((((b::r).length:Nat):Int)>=(([c].length:Nat):Int))=true from by simp;omega,cnd_true]
 rw [show (0:Int)=((0:Nat):Int) from rfl,zCc (by omega) (by simp),bnd_some,bnd_some]
 simp [Bool.beq_eq_decide_eq]
theorem zNx {fu:Nat} {l:List Bs} {v:Bs} (hl:l.length<fu) (hb:l.length<=1000000000):zA9 fu l v=match (List.range l.length).find? fun i=>v==l.getD i [] with
  | some i=>some (i:Int)
  | none=>some (-1):=by
 unfold zA9
 have at_:∀i,i<l.length->∀k,zBG l v (k+1) (i:Int)=cnd (v==l.getD i []) (some (i:Int)) (zBG l v k ((i+1:Nat):Int)):=fun i hi k=>by
  rw [zBG,show decide ((i:Int)<((l.length:Nat):Int))=true from by simpa using hi,cnd_true,zCm hi,bnd_some,zAw (by omega),bnd_some]
  simp [List.getD,hi]
 exact zWR (L:=zBG l v) (fun i=>v==l.getD i []) (fun i=>some (i:Int)) (some (-1)) l.length
  (fun i hi hp k=>by rw [at_ i hi k,hp,cnd_true]) (fun i hi hp k=>by rw [at_ i hi k,hp,cnd_false]) (fun k=>by
   rw [zBG,show decide (((l.length:Nat):Int)<((l.length:Nat):Int))=false from by simp,cnd_false]) hl
theorem wstr {fu:Nat} {s t:Bs} (h:t.length+s.length<=1000000000):zAO fu s (zAS t)=some (((s.length:Nat):Int),false,zAS (t++s)):=by
 unfold zAO
 simp only [zA1,bnd_some]
 rw [zKE,zBv (by omega),bnd_some,zMb]
theorem zWS {fu:Nat} {b:UInt8} {t:Bs} (h:t.length<1000000000):zBL fu (b.toNat:Int) (zAS t)=some (false,zAS (t++[b])):=by
 unfold zBL
 simp only [zA1,bnd_some]
 rw [zKE,zBv (by simp;omega),bnd_some,zMb,zQe]
theorem bstr {fu:Nat} {t:Bs}:zAp fu (zAS t)=some t:=congrArg some (zSn t)
def wordsL:List Bs:=[[45],[110,101,119],[100,114,97,102,116],[116,101,120,116],[102,114,97,103],[115,104,97,100,101],[112,117,116],[111,117,116],[115,119,97,112],[115,101,116],[117,110,115,101,116],[116,111,103,103,108,101],[99,111,112,121],[116,97,107,101],[101,109,112,116,121],[106,111,105,110],[100,101,102,105,110,101],[119,97,105,116],[117,112,103,114,97,100,101],[98,117,105,108,100],[115,117,112,101,114],[103,105,118,101],[116,104,114,111,119],[114,101,115,101,116],[114,101,115,116,111,114,101],[114,101,115,116],[104,97,110,100,112,117,116],[104,97,110,100,111,117,116],[104,97,110,100,115,101,116]]
theorem zSu (fu:Nat):zHe fu=some wordsL:=by kernel_rfl
def Knd (k:Int):Prop:=0<k/\k<=28
instance (k:Int):Decidable (Knd k):=by unfold Knd;infer_instance
def wd (k:Int):Bs:=if Knd k then wordsL.getD k.toNat [] else []
def fieldsL:List Bs:=[[110,46,46,46,46],[110,46,46,115,115],[110,46,46,115,115],[110,46,46,115,46],[110,46,46,46,46],[110,46,46,46,46],[110,110,111,46,46],[110,46,46,46,46],[110,110,111,46,46],[110,46,46,115,115],[110,46,46,115,46],[110,105,46,115,46],[110,105,110,46,46],[110,110,46,46,46],[110,46,46,46,46],[110,46,46,46,46],[105,46,46,115,115],[46,46,46,115,46],[110,46,46,46,46],[105,46,46,46,46],[46,46,46,46,46],[110,46,46,46,46],[46,46,46,46,46],[110,46,46,46,46],[110,46,46,115,46],[46,46,46,46,46],[110,110,111,46,46],[110,46,46,46,46],[110,46,46,115,115]]
def fd (k:Int):Bs:=if Knd k then fieldsL.getD k.toNat [] else [110,46,46,46,46]
theorem zHS {k:Int} (h:Knd k):k=1\/k=2\/k=3\/k=4\/k=5\/k=6\/k=7\/k=8\/k=9\/k=10\/k=11\/k=12\/k=13\/k=14\/k=15\/k=16\/k=17\/k=18\/k=19\/k=20\/k=21\/k=22\/k=23\/k=24\/k=25\/k=26\/k=27\/k=28:=by
 unfold Knd at h;omega
theorem zU5 (fu:Nat) (k:Int):zDW fu k=some (wd k):=by
 unfold zDW
 rw [zSu,bnd_some]
 by_cases h:Knd k
 ·have hw:wd k=wordsL.getD k.toNat []:=if_pos h
  rw [hw]
  obtain ⟨h1,h2⟩:=h
  obtain ⟨n,rfl⟩:∃n:Nat,k=(n:Int):=⟨k.toNat,by omega⟩
  rw [show decide ((n:Int)>0)=true from by simpa using h1,cnd_true,show decide ((n:Int)<((wordsL.length:Nat):Int))=true from by simp [wordsL];omega,cnd_true]
  have hl:n<wordsL.length:=by simp [wordsL];omega
  rw [zCm hl,bnd_some]
  simp [List.getD,hl]
 ·rw [wd,if_neg h]
  unfold Knd at h
  by_cases h1:k>0
  ·rw [show decide (k>0)=true from by simpa using h1,cnd_true,show decide (k<((wordsL.length:Nat):Int))=false from by simp [wordsL];omega,cnd_false]
  ·rw [show decide (k>0)=false from by simpa using h1,cnd_false]
theorem zRQ (fu:Nat) (k:Int):zEe fu k=some (⟨wd k,fd k⟩,decide (Knd k)):=by
 by_cases h:Knd k
 ·rw [show decide (Knd k)=true from by simpa using h]
  rcases zHS h with rfl | rfl | rfl | rfl | rfl | rfl | rfl | rfl | rfl | rfl | rfl | rfl | rfl | rfl | rfl | rfl | rfl | rfl | rfl | rfl | rfl | rfl | rfl | rfl | rfl | rfl | rfl | rfl <;>
   simp [zEe,zD7,zEn,zEo,zEp,zU5,fd,fieldsL,Knd]
 ·rw [show decide (Knd k)=false from by simpa using h,fd,if_neg h]
  unfold Knd at h
  have e:∀j:Int,0<j->j<=28->(k==j)=false:=fun j h1 h2=>beq_false_of_ne (fun e=>h (by omega))
  simp only [zEe,zD7,zEn,zEo,zEp,zU5,bnd_some,
   e 1 (by decide) (by decide),e 2 (by decide) (by decide),e 3 (by decide) (by decide),e 6 (by decide) (by decide),e 8 (by decide) (by decide),e 9 (by decide) (by decide),e 10 (by decide) (by decide),e 11 (by decide) (by decide),e 12 (by decide) (by decide),e 13 (by decide) (by decide),e 16 (by decide) (by decide),e 17 (by decide) (by decide),e 19 (by decide) (by decide),e 20 (by decide) (by decide),e 22 (by decide) (by decide),e 24 (by decide) (by decide),e 25 (by decide) (by decide),e 26 (by decide) (by decide),e 28 (by decide) (by decide),cnd_false]
  by_cases h1:k>0
  ·rw [show decide (k>0)=true from by simpa using h1,cnd_true,show decide (k<=28)=false from by simp;omega]
  ·rw [show decide (k>0)=false from by simpa using h1,cnd_false]
def fc (k:Int) (i:Nat):UInt8:=(fd k).getD i 0
theorem zRD (k:Int):(fd k).length=5:=by
 unfold fd
 split
 ·rename_i h
  rcases zHS h with rfl | rfl | rfl | rfl | rfl | rfl | rfl | rfl | rfl | rfl | rfl | rfl | rfl | rfl | rfl | rfl | rfl | rfl | rfl | rfl | rfl | rfl | rfl | rfl | rfl | rfl | rfl | rfl<;>rfl
 ·rfl
theorem zGm {k:Int} {i:Nat} (hi:i<5):chr (fd k) (i:Int)=some ((fc k i).toNat:Int):=by
 have:i<(fd k).length:=by rw [zRD];exact hi
 rw [zKy this,fc,List.getD_eq_getElem?_getD,List.getElem?_eq_getElem this];rfl
theorem zEU (k:Int) {i:Nat} (hi:i<3):fc k i=110\/fc k i=111\/fc k i=105\/fc k i=46:=by
 have key:∀j:Fin 29,∀i:Fin 3,(fieldsL.getD j.1 []).getD i.1 0=110\/(fieldsL.getD j.1 []).getD i.1 0=111\/(fieldsL.getD j.1 []).getD i.1 0=105\/(fieldsL.getD j.1 []).getD i.1 0=46:=by decide
 unfold fc fd
 split
 ·rename_i h
  exact key ⟨k.toNat,by unfold Knd at h;omega⟩ ⟨i,hi⟩
 ·exact key ⟨0,by omega⟩ ⟨i,hi⟩
theorem zFU (k:Int) {i:Nat} (h3:3<=i) (hi:i<5):fc k i=115\/fc k i=46:=by
 have key:∀j:Fin 29,∀i:Fin 5,3<=i.1->(fieldsL.getD j.1 []).getD i.1 0=115\/(fieldsL.getD j.1 []).getD i.1 0=46:=by decide
 unfold fc fd
 split
 ·rename_i h
  exact key ⟨k.toNat,by unfold Knd at h;omega⟩ ⟨i,hi⟩ h3
 ·exact key ⟨0,by omega⟩ ⟨i,hi⟩ h3
def fit (f:UInt8) (n:Int):Bool :=
 if f=105 then decide (-1000<=n/\n<=1000) else if f=110\/f=111 then decide (n = -2\/n = -3\/0<=n/\n<400\/f=111/\n = -1) else decide (n=0)
def fitT (f:UInt8) (s:Bs):Bool:=if f=115 then decide (s.length<=200/\(10:UInt8)∉s) else decide (s=[])
def zE7 (o:Op):Bool:=decide (Knd o.Kind)&&(fit (fc o.Kind 0) o.A&&(fit (fc o.Kind 1) o.B&&(fit (fc o.Kind 2) o.C&&(fitT (fc o.Kind 3) o.S&&fitT (fc o.Kind 4) o.T))))
theorem zUl (n:Int):zGc n ()=some (decide (n = -2\/n = -3\/0<=n/\n<400)):=by
 unfold zGc
 simp only [zBC,zCu]
 by_cases h1:n = -2
 ·simp [h1]
 by_cases h2:n = -3
 ·simp [h2]
 by_cases h3:n>=0
 ·rw [if_neg h1,if_neg h2,if_pos h3]
  congr 1
  rw [decide_eq_decide]
  omega
 ·rw [if_neg h1,if_neg h2,if_neg h3,eq_comm,decide_eq_false]
  omega
theorem zVT (fu:Nat) {f:UInt8} (hf:f=110\/f=111\/f=105\/f=46) (n:Int):zHd fu (f.toNat:Int) n=some (fit f n):=by
 unfold zHd
 rcases hf with rfl | rfl | rfl | rfl
 ·show cnd false _ (cnd true (zGc n ()) _)=_
  rw [cnd_false,cnd_true,zUl]
  congr 1
  simp [fit]
 ·show cnd true _ _=_
  rw [cnd_true,zBC,zUl]
  by_cases h:n = -1
  ·rw [if_pos h];simp [fit,h]
  ·rw [if_neg h];congr 1;simp [fit,h]
 ·show cnd false _ (cnd false _ (cnd true _ _))=_
  rw [cnd_false,cnd_false,cnd_true,zCu]
  by_cases h:n >= -1000
  ·rw [if_pos h];congr 1;simp [fit];omega
  ·rw [if_neg h];congr 1;simp [fit];omega
 ·show cnd false _ (cnd false _ (cnd false _ _))=_
  rw [cnd_false,cnd_false,cnd_false]
  congr 1
theorem has_m (fu:Nat) (s:Bs) (c:UInt8):zD0 fu s [c]=some (decide (c∈s)):=by
 unfold zD0 zF7
 simp only [zHk,bnd_some]
 congr 1
 by_cases h:c∈s
 ·have:=(zGU s c).1.2 h
  simp [h];omega
 ·rw [zOx h];simp [h]
theorem zMm (fu:Nat) {f:UInt8} (hf:f=115\/f=46) (s:Bs):zD6 fu (f.toNat:Int) s=some (fitT f s):=by
 unfold zD6
 rcases hf with rfl | rfl
 ·show cnd true _ _=_
  rw [cnd_true,zCu,has_m,bnd_some]
  by_cases h:(s.length:Int)<=200
  ·rw [if_pos h];congr 1
   simp [fitT]
   omega
  ·rw [if_neg h];congr 1
   simp [fitT]
   intro h2;omega
 ·show cnd false _ _=_
  rw [cnd_false]
  congr 1
  cases s<;>rfl
theorem zSN (fu:Nat) (o:Op):zFx fu o=some (zE7 o):=by
 unfold zFx
 simp only [zRQ,bnd_some,zD8]
 have j2:∀b ok:Bool,zFB fu o (⟨wd o.Kind,fd o.Kind⟩,b) ok=some (ok&&(fitT (fc o.Kind 3) o.S&&fitT (fc o.Kind 4) o.T)):=fun b ok=>by
  unfold zFB
  simp only [zEP,bnd_some]
  cases ok with
  | false=>rfl
  | true =>
   rw [cnd_true,show rng .i64 (3+0)=some ((3:Nat):Int) from rfl,bnd_some,zGm (by omega),bnd_some,zMm fu (zFU _ (by omega) (by omega)),bnd_some]
   cases fitT (fc o.Kind 3) o.S with
   | false=>rfl
   | true =>
    rw [cnd_true,show rng .i64 (3+1)=some ((4:Nat):Int) from rfl,bnd_some,zGm (by omega),bnd_some,zMm fu (zFU _ (by omega) (by omega)),bnd_some]
    rfl
 have j1:∀b ok:Bool,zF5 fu o (⟨wd o.Kind,fd o.Kind⟩,b) ok=some (ok&&(fit (fc o.Kind 1) o.B&&(fit (fc o.Kind 2) o.C&&(fitT (fc o.Kind 3) o.S&&fitT (fc o.Kind 4) o.T)))):=fun b ok=>by
  unfold zF5
  cases ok with
  | false=>rw [cnd_false,j2];rfl
  | true =>
   rw [cnd_true,show (1:Int)=((1:Nat):Int) from rfl,zGm (by omega),bnd_some,zVT fu (zEU _ (by omega)),bnd_some]
   cases fit (fc o.Kind 1) o.B with
   | false=>rw [cnd_false,j2];rfl
   | true =>
    rw [cnd_true,show (2:Int)=((2:Nat):Int) from rfl,zGm (by omega),bnd_some,zVT fu (zEU _ (by omega)),bnd_some,j2]
    rfl
 unfold zE7
 cases hk:decide (Knd o.Kind) with
 | false=>rw [cnd_false,j1];rfl
 | true =>
  rw [cnd_true,show (0:Int)=((0:Nat):Int) from rfl,zGm (by omega),bnd_some,zVT fu (zEU _ (by omega)),bnd_some,j1]
  rfl
end Go.Proofs.YtoboimmgglnjfaaGreatDoor
/- An operation's text, and what op.Put comes to. -/
namespace Go.Proofs.YtoboimmgglnjfaaGreatDoor
open Go Go.Pw
set_option linter.unusedVariables false
def tl (l:List Bs):Bs:=l.flatMap fun f=>32::f
theorem zCx:tl []=[]:=rfl
theorem zDF (f:Bs) (l:List Bs):tl (f::l)=32::(f++tl l):=rfl
theorem zFm (l m:List Bs):tl (l++m)=tl l++tl m:=by simp [tl]
def zOM:Bs:=[115,101,108,102]
def zNz:Bs:=[108,97,115,116]
def numW (f:UInt8) (n:Int):Bs:=if f=105\/0<=n then Lib.itoa n else if n = -1 then [45] else if n = -2 then zOM else zNz
def numL (f:UInt8) (n:Int):List Bs:=if f=46 then [] else [numW f n]
def qS (s:Bs):Bs:=34::quoL s++[34]
def txtL (f:UInt8) (s:Bs):List Bs:=if f=115 then [qS s] else []
def zHa (o:Op):List Bs:=txtL (fc o.Kind 3) o.S++txtL (fc o.Kind 4) o.T
def zEI (o:Op):List Bs:=numL (fc o.Kind 0) o.A++(numL (fc o.Kind 1) o.B++(numL (fc o.Kind 2) o.C++zHa o))
def bang (b:Bool):Bs:=if b then [33] else []
def putP (o:Op):Bs:=bang o.Must++(wd o.Kind++tl (zEI o))
theorem zNW (k:Int):(wd k).length<=7:=by
 have key:∀j:Fin 29,(wordsL.getD j.1 []).length<=7:=by decide
 unfold wd
 split
 ·rename_i h
  exact key ⟨k.toNat,by unfold Knd at h;omega⟩
 ·simp
theorem zEF {f:UInt8} {n:Int} (h:fit f n=true) : -1000<=n/\n<=1000:=by
 unfold fit at h
 split at h
 ·simpa using h
 ·split at h
  ·simp at h;omega
  ·simp at h;omega
theorem zHl {n:Int} (h1 : -1000<=n) (h2:n<=1000):(Lib.itoa n).length<=5:=by
 unfold Lib.itoa
 split
 ·have:=zGx 3 n.natAbs (by omega)
  simp;omega
 ·have:=zGx 3 n.toNat (by omega)
  omega
theorem zTe {f:UInt8} {n:Int} (h1 : -1000<=n) (h2:n<=1000):(numW f n).length<=5:=by
 unfold numW
 split
 ·exact zHl h1 h2
 ·split
  ·simp
  ·split<;>simp [zOM,zNz]
theorem zFt {f:UInt8} {n:Int} (h1 : -1000<=n) (h2:n<=1000):(tl (numL f n)).length<=6:=by
 unfold numL
 split
 ·simp [zCx]
 ·have:=zTe (f:=f) h1 h2
  simp [zDF,zCx];omega
theorem zNA (s:Bs):(qS s).length<=2*s.length+2:=by
 have:=zH3 s
 simp [qS];omega
theorem zJz (f:UInt8) (s:Bs):(tl (txtL f s)).length<=2*s.length+3:=by
 unfold txtL
 split
 ·have:=zNA s
  simp [zDF,zCx];omega
 ·simp [zCx]
theorem zNy {fu:Nat} {n:Int} (h:inI n):zK6 fu n=some (Lib.itoa n):=if_pos h
theorem zLy {fu:Nat} {f:UInt8} {n:Int} {t:Bs} (hf:f=110\/f=111\/f=105\/f=46) (h1 : -1000<=n) (h2:n<=1000) (ht:t.length<=1000000) :
  zB1 fu (f.toNat:Int) n (zAS t)=some (zAS (t++tl (numL f n))):=by
 have hl:=zHl h1 h2
 have j1:∀b:Bool,(b=true↔f=105\/0<=n)->zCz fu n (zAS t) b=some (zAS (t++32::numW f n)):=fun b hb=>by
  unfold zCz numW
  cases b with
  | true =>
   rw [if_pos (hb.1 rfl),cnd_true,zNy ⟨by omega,by omega⟩,bnd_some,zCM (by simp;omega),bnd_some,wstr (by simp;omega),bnd_some]
   rfl
  | false =>
   rw [if_neg (fun h=>by have:=hb.2 h;cases this),cnd_false,zBC,zBC]
   by_cases e1:n = -1
   ·rw [if_pos e1,if_pos e1]
    show bnd (zAO fu [32,45] (zAS t)) _=_
    rw [wstr (by simp;omega)];rfl
   ·rw [if_neg e1,if_neg e1]
    by_cases e2:n = -2
    ·rw [if_pos e2,if_pos e2,wstr (by simp;omega)];rfl
    ·rw [if_neg e2,if_neg e2,wstr (by simp;omega)];rfl
 unfold zB1 numL
 rcases hf with rfl | rfl | rfl | rfl
 ·show cnd false _ (cnd false _ _)=_
  rw [cnd_false,cnd_false,j1 _ (by simp),if_neg (by decide)]
  simp [zDF,zCx]
 ·show cnd false _ (cnd false _ _)=_
  rw [cnd_false,cnd_false,j1 _ (by simp),if_neg (by decide)]
  simp [zDF,zCx]
 ·show cnd false _ (cnd true (zCz fu n (zAS t) true) _)=_
  rw [cnd_false,cnd_true,j1 true (by simp),if_neg (by decide)]
  simp [zDF,zCx]
 ·show cnd true _ _=_
  rw [cnd_true,if_pos rfl]
  simp [zCx]
theorem zPP {fu:Nat} {s:Bs} (h:s.length<=1000000):zJC fu s=some (qS s):=by
 unfold zJC;rw [if_pos (by omega)];rfl
structure RightP (o:Op):Prop where
 kind:Knd o.Kind
 a:fit (fc o.Kind 0) o.A=true
 b:fit (fc o.Kind 1) o.B=true
 c:fit (fc o.Kind 2) o.C=true
 s:fitT (fc o.Kind 3) o.S=true
 t:fitT (fc o.Kind 4) o.T=true
theorem right_iff {o:Op}:zE7 o=true↔RightP o:=by
 unfold zE7
 simp only [Bool.and_eq_true,decide_eq_true_eq]
 exact ⟨fun h=>⟨h.1,h.2.1,h.2.2.1,h.2.2.2.1,h.2.2.2.2.1,h.2.2.2.2.2⟩,fun h=>⟨h.kind,h.a,h.b,h.c,h.s,h.t⟩⟩
theorem zFM {f:UInt8} {s:Bs} (h:fitT f s=true):s.length<=200/\(10:UInt8)∉s:=by
 unfold fitT at h
 split at h
 ·simpa using h
 ·simp at h;subst h;simp
theorem zUu {fu:Nat} {o:Op} {b:Bool} {t:Bs} (ho:o.T.length<=200) (ht:t.length<=10000) :
  zHD fu o (⟨wd o.Kind,fd o.Kind⟩,b) (zAS t)=some (t++tl (txtL (fc o.Kind 4) o.T),0):=by
 have hq:=zNA o.T
 unfold zHD txtL
 rw [show (4:Int)=((4:Nat):Int) from rfl,zGm (by omega),bnd_some]
 rcases zFU o.Kind (i:=4) (by omega) (by omega) with h | h
 ·rw [h,if_pos rfl]
  show cnd true _ _=_
  rw [cnd_true,zPP (by omega),bnd_some,zCM (by simp;omega),bnd_some,wstr (by simp;omega),bnd_some,bstr,bnd_some]
  simp [zDF,zCx]
 ·rw [h,if_neg (by decide)]
  show cnd false _ _=_
  rw [cnd_false,bstr,bnd_some]
  simp [zCx]
theorem zUt {fu:Nat} {o:Op} {b:Bool} {t:Bs} (h:RightP o) (ht:t.length<=1000) :
  zGZ fu o (⟨wd o.Kind,fd o.Kind⟩,b) (zAS t)=some (t++(wd o.Kind++tl (zEI o)),0):=by
 have hw:=zNW o.Kind
 obtain ⟨a1,a2⟩:=zEF h.a
 obtain ⟨b1,b2⟩:=zEF h.b
 obtain ⟨c1,c2⟩:=zEF h.c
 have l1:=zFt (f:=fc o.Kind 0) a1 a2
 have l2:=zFt (f:=fc o.Kind 1) b1 b2
 have l3:=zFt (f:=fc o.Kind 2) c1 c2
 have hs:=(zFM h.s).1
 have hT:=(zFM h.t).1
 have hq:=zNA o.S
 have l4:=zJz (fc o.Kind 3) o.S
 unfold zGZ
 rw [wstr (by simp;omega),bnd_some]
 simp only [zD8,zEP,bnd_some]
 rw [show (0:Int)=((0:Nat):Int) from rfl,show (1:Int)=((1:Nat):Int) from rfl,show (2:Int)=((2:Nat):Int) from rfl,show (3:Int)=((3:Nat):Int) from rfl,
  zGm (by omega),bnd_some,zLy (zEU _ (by omega)) a1 a2 (by simp;omega),bnd_some,zGm (by omega),bnd_some,zLy (zEU _ (by omega)) b1 b2 (by simp;omega),bnd_some,zGm (by omega),bnd_some,zLy (zEU _ (by omega)) c1 c2 (by simp;omega),bnd_some,zGm (by omega),bnd_some]
 have e:∀x:Bs,x=t++(wd o.Kind++tl (zEI o))->some (x,(0:Int))=some (t++(wd o.Kind++tl (zEI o)),(0:Int)):=fun x hx=>by rw [hx]
 rcases zFU o.Kind (i:=3) (by omega) (by omega) with h3 | h3
 ·rw [h3]
  show cnd true _ _=_
  rw [cnd_true,zPP (by omega),bnd_some,zCM (by simp;omega),bnd_some,wstr (by simp;omega),bnd_some,zUu hT (by simp;omega)]
  refine e _ ?_
  unfold zEI zHa
  simp only [zFm,txtL,h3,if_true,zDF,List.append_assoc,List.cons_append,List.nil_append]
 ·rw [h3]
  show cnd false _ _=_
  rw [cnd_false,zUu hT (by simp;omega)]
  refine e _ ?_
  unfold zEI zHa
  have:¬(46:UInt8)=115:=by decide
  simp only [zFm,txtL,h3,if_neg this,List.append_assoc,List.nil_append]
theorem zVt (fu:Nat) (o:Op):zHb fu o=some (if zE7 o=true then (putP o,0) else ([],1)):=by
 unfold zHb
 rw [zSN,bnd_some]
 cases h:zE7 o with
 | false=>rfl
 | true =>
  have hr:=right_iff.1 h
  rw [if_pos rfl]
  simp only [Bool.not_true,cnd_false]
  rw [zRQ,bnd_some]
  unfold putP bang
  cases o.Must with
  | true =>
   rw [cnd_true]
   show bnd (zAO fu [33] (zAS [])) _=_
   rw [wstr (by simp),bnd_some,zUt hr (by simp)]
   rfl
  | false =>
   rw [cnd_false]
   show zGZ fu o _ (zAS [])=_
   rw [zUt hr (by simp)]
   rfl
theorem zR9 {fu:Nat} {o:Op} (h:RightP o):zHb fu o=some (putP o,0):=by rw [zVt,if_pos (right_iff.2 h)]
theorem zJt {o:Op} (h:RightP o):(putP o).length<=1000:=by
 obtain ⟨a1,a2⟩:=zEF h.a
 obtain ⟨b1,b2⟩:=zEF h.b
 obtain ⟨c1,c2⟩:=zEF h.c
 have l1:=zFt (f:=fc o.Kind 0) a1 a2
 have l2:=zFt (f:=fc o.Kind 1) b1 b2
 have l3:=zFt (f:=fc o.Kind 2) c1 c2
 have hs:=(zFM h.s).1
 have hT:=(zFM h.t).1
 have l4:=zJz (fc o.Kind 3) o.S
 have l5:=zJz (fc o.Kind 4) o.T
 have hw:=zNW o.Kind
 have hb:(bang o.Must).length<=1:=by cases o.Must<;>simp [bang]
 unfold putP zEI zHa
 simp only [zFm,List.length_append]
 omega
end Go.Proofs.YtoboimmgglnjfaaGreatDoor
/- What op.Read comes to: at any text, and at an operation's own. -/
namespace Go.Proofs.YtoboimmgglnjfaaGreatDoor
open Go Go.Pw
set_option linter.unusedVariables false
theorem ratoi {fu:Nat} {w:Bs} (hw:w.length<=1000000000):∃n e,zKB fu w=some (n,e)/\(e=false->inI n):=by
 unfold zKB
 rw [if_pos (by omega)]
 generalize h:Lib.atoiAll w=q
 rcases q with v | _ | _
 ·exact ⟨_,_,rfl,fun _=>zPr h⟩
 ·exact ⟨_,_,rfl,fun e=>by cases e⟩
 ·exact ⟨_,_,rfl,fun e=>by cases e⟩
theorem zSR {fu:Nat} {f:Int} {w:Bs} (hw:w.length<=1000000000):∃n b,zCn fu f w ()=some (n,b):=by
 unfold zCn
 obtain ⟨n,e,h,hr⟩:=ratoi (fu:=fu) hw
 rw [h,bnd_some]
 cases e with
 | true=>exact ⟨_,_,rfl⟩
 | false =>
  show ∃n' b,cnd (!false) _ _=some (n',b)
  rw [Bool.not_false,cnd_true,zNy (hr rfl),bnd_some]
  cases Lib.itoa (n,false).1==w with
  | false=>exact ⟨_,_,rfl⟩
  | true=>rw [cnd_true];cases f==105<;>exact ⟨_,_,rfl⟩
theorem zT4 {fu:Nat} {f:Int} {w:Bs} (hw:w.length<=1000000000):∃n b,zBz fu f w=some (n,b):=by
 unfold zBz
 cases f != 105 with
 | false=>exact zSR hw
 | true =>
  rw [cnd_true,zBC,zBC,zBC]
  split
  ·exact ⟨_,_,rfl⟩
  ·split
   ·exact ⟨_,_,rfl⟩
   ·split
    ·exact ⟨_,_,rfl⟩
    ·exact zSR hw
theorem zS3 {fu:Nat} {n:Int} (h:inI n):zKB fu (Lib.itoa n)=some (n,false):=by
 have:=zTQ h.1 h.2
 unfold zKB
 rw [if_pos (by omega),zQY h.1 h.2]
theorem zKh {fu:Nat} {f:UInt8} {n:Int} (h:inI n) (hn:f=105\/0<=n):zCn fu (f.toNat:Int) (Lib.itoa n) ()=some (n,true):=by
 unfold zCn
 rw [zS3 h,bnd_some]
 show cnd (!false) _ _=_
 rw [Bool.not_false,cnd_true,zNy h,bnd_some]
 rw [show (Lib.itoa (n,false).1==Lib.itoa n)=true from by simp,cnd_true]
 rcases hn with rfl | hn
 ·rfl
 ·cases (f.toNat:Int)==105 with
  | true=>rfl
  | false=>rw [cnd_false];congr 2;simpa using hn
theorem zOz {n:Int} {w:Bs} {c:UInt8} (hc:c∈w) (h:c.toNat<45\/c.toNat=46\/c.toNat=47\/57<c.toNat):Lib.itoa n≠w:=fun e=>zRW (n:=n) h (by rw [e];exact hc)
theorem zTS {n:Int} (hn:0<=n):Lib.itoa n≠[45]:=fun e=>by
 unfold Lib.itoa at e
 rw [if_neg (by omega)] at e
 have:=zFy n.toNat 45 (by rw [e];simp)
 simp at this
theorem zT5 {fu:Nat} {f:UInt8} {n:Int} (hf:f=110\/f=111\/f=105) (h:fit f n=true):zBz fu (f.toNat:Int) (numW f n)=some (n,true):=by
 obtain ⟨h1,h2⟩:=zEF h
 have hi:inI n:=⟨by omega,by omega⟩
 have hs:∀w:Bs,zOM=w\/zNz=w->∃c∈w,57<c.toNat:=fun w hw=>by
  rcases hw with rfl | rfl
  ·exact ⟨115,by decide,by decide⟩
  ·exact ⟨108,by decide,by decide⟩
 unfold zBz
 by_cases hf5:f=105
 ·subst hf5
  show cnd false _ _=_
  rw [cnd_false,numW,if_pos (.inl rfl)]
  exact zKh hi (.inl rfl)
 ·have hf5':((f.toNat:Int) != 105)=true:=by rcases hf with rfl | rfl | rfl<;>first | rfl | exact absurd rfl hf5
  rw [hf5',cnd_true,zBC,zBC,zBC]
  by_cases hn:0<=n
  ·have e:numW f n=Lib.itoa n:=if_pos (.inr hn)
   rw [e,if_neg (zTS hn),if_neg (zOz (c:=115) (by decide) (by decide)),if_neg (zOz (c:=108) (by decide) (by decide))]
   exact zKh hi (.inr hn)
  ·have e:numW f n=if n = -1 then [45] else if n = -2 then zOM else zNz:=if_neg (fun h=>by rcases h with h | h;exact hf5 h;exact hn h)
   have hfit:n = -2\/n = -3\/f=111/\n = -1:=by
    unfold fit at h
    rw [if_neg hf5,if_pos (by rcases hf with h | h | h;exact .inl h;exact .inr h;exact absurd h hf5)] at h
    rcases of_decide_eq_true h with h | h | h | h
    ·exact .inl h
    ·exact .inr (.inl h)
    ·exact absurd h.1 hn
    ·exact .inr (.inr h)
   rcases hfit with rfl | rfl | ⟨rfl,rfl⟩
   ·rw [show numW f (-2)=zOM from e.trans (by decide),if_neg (by decide),if_pos (by decide)]
   ·rw [show numW f (-3)=zNz from e.trans (by decide),if_neg (by decide),if_neg (by decide),if_pos (by decide)]
   ·rw [show numW 111 (-1)=[45] from e.trans (by decide),if_pos rfl];rfl
def unqR (out:Bs):Option (Bs×Bs)->Option (Bs×Bs×Bool)
 | some x=>some (out++x.1,x.2,true)
 | none=>some ([],[],false)
theorem zWB {fu:Nat} {s:Bs} (hs:s.length<=1000000):∀(n i k:Nat) (out:Bs),s.length - i<=n->i<=s.length->out.length<=i->n<k->zCX fu s k ((i:Int),zAS out)=unqR out (unq (s.drop i)):=by
 intro n
 induction n with
 | zero =>
  intro i k out h1 h2 h3 h4
  obtain ⟨k,rfl⟩:∃k',k=k'+1:=⟨k - 1,by omega⟩
  rw [zCX,show decide ((i:Int)<((s.length:Nat):Int))=false from by simp;omega,cnd_false,List.drop_of_length_le (by omega)]
  rfl
 | succ n ih =>
  intro i k out h1 h2 h3 h4
  obtain ⟨k,rfl⟩:∃k',k=k'+1:=⟨k - 1,by omega⟩
  by_cases hi:i<s.length
  ·obtain ⟨b,r,hd⟩:=zKJ hi
   have hb:=zFr hd
   obtain ⟨_,hd1⟩:=zED hd
   rw [zCX,show decide ((i:Int)<((s.length:Nat):Int))=true from by simpa using hi,cnd_true,hb]
   simp only [bnd_some]
   rw [show (((b.toNat:Nat):Int)==34)=(b==34) from zDu b 34,show (((b.toNat:Nat):Int) != 92)=(b != 92) from congrArg (!·) (zDu b 92)]
   rw [zBC]
   by_cases h34:b=34
   ·rw [if_pos h34,bstr,bnd_some,zAw (by omega),bnd_some,zCc (by omega) (Nat.le_refl _),bnd_some,hd,h34,zMN]
    have:(s.drop (i+1)).take (s.length - (i+1))=r:=by rw [hd1];exact List.take_of_length_le (by rw [<- hd1];simp)
    rw [this]
    simp [unqR]
   ·rw [if_neg h34,zMf]
    by_cases h92:b=92
    ·rw [if_pos h92,zAw (by omega),bnd_some]
     subst h92
     by_cases hi1:i+1<s.length
     ·obtain ⟨c,r',hr⟩:=zKJ hi1
      have hc:=zFr hr
      obtain ⟨_,hd2⟩:=zED hr
      obtain rfl:r=c::r':=hd1.symm.trans hr
      rw [show decide (((i+1:Nat):Int)<((s.length:Nat):Int))=true from by rw [decide_eq_true_eq];omega,cnd_true,bnd_some,hc,bnd_some]
      rw [show (((c.toNat:Nat):Int)==34)=(c==34) from zDu c 34,zBC]
      have hrec:∀(hcc:c=34\/c=92),unqR out (unq (s.drop i))=unqR (out++[c]) (unq (s.drop (i+1+1))):=fun hcc=>by
       rw [hd,zMO hcc,hd2]
       cases unq r'<;>simp [unqR]
      by_cases hc34:c=34
      ·rw [if_pos hc34,bnd_some,hc,bnd_some,zWS (by omega),bnd_some,zAw (by omega),bnd_some,hrec (.inl hc34)]
       exact ih (i+1+1) k (out++[c]) (by omega) (by omega) (by simp;omega) (by omega)
      ·rw [if_neg hc34,bnd_some,hc,bnd_some]
       rw [show (((c.toNat:Nat):Int)==92)=(c==92) from zDu c 92,zBC]
       by_cases hc92:c=92
       ·rw [if_pos hc92,bnd_some,hc,bnd_some,zWS (by omega),bnd_some,zAw (by omega),bnd_some,hrec (.inr hc92)]
        exact ih (i+1+1) k (out++[c]) (by omega) (by omega) (by simp;omega) (by omega)
       ·rw [if_neg hc92,hd,zJF (by simp [hc34,hc92])];rfl
     ·rw [show decide (((i+1:Nat):Int)<((s.length:Nat):Int))=false from by rw [decide_eq_false_iff_not];omega,cnd_false]
      have:r=[]:=by rw [<- hd1];exact List.drop_of_length_le (by omega)
      rw [hd,this,zIO];rfl
    ·rw [if_neg h92,zWS (by omega),bnd_some,zAw (by omega),bnd_some]
     have e:unqR out (unq (s.drop i))=unqR (out++[b]) (unq (s.drop (i+1))):=by
      rw [hd,zMP h34 h92,hd1]
      cases unq r<;>simp [unqR]
     rw [e]
     exact ih (i+1) k (out++[b]) (by omega) (by omega) (by simp;omega) (by omega)
  ·rw [zCX,show decide ((i:Int)<((s.length:Nat):Int))=false from by simp;omega,cnd_false,List.drop_of_length_le (by omega)]
   rfl
theorem zSc {fu:Nat} {s:Bs} (hs:s.length<=1000000) (hf:s.length<fu):zBY fu s=match s with
  | []=>some ([],[],false)
  | b::r=>if b=34 then unqR [] (unq r) else some ([],[],false):=by
 unfold zBY
 cases s with
 | nil=>rw [zTM,bnd_some];rfl
 | cons b r =>
  rw [zRS,bnd_some]
  by_cases h:b=34
  ·simp only [h,decide_true,Bool.not_true,cnd_false,if_true]
   have:=zWB (fu:=fu) (s:=34::r) (by rw [<- h];exact hs) r.length 1 fu [] (by simp) (by simp) (by simp) (by simp at hf;omega)
   exact this
  ·simp only [h,decide_false,Bool.not_false,cnd_true,if_false]
theorem zWP:∀(t s r:Bs),unq t=some (s,r)->s.length<=t.length/\r.length<=t.length:=fun t s r h=>by
 have:=zMB t.length t s r (Nat.le_refl _) h
 have h2:=zPN s
 rw [this];simp;omega
theorem zNH {fu:Nat} {s:Bs} (hs:s.length<=1000000) (hf:s.length<fu):∃t r b,zBY fu s=some (t,r,b)/\r.length<=s.length:=by
 rw [zSc hs hf]
 cases s with
 | nil=>exact ⟨_,_,_,rfl,by simp⟩
 | cons b r =>
  by_cases h:b=34
  ·simp only [h,if_true]
   cases hu:unq r with
   | none=>exact ⟨_,_,_,rfl,by simp⟩
   | some x=>exact ⟨_,_,_,rfl,by have:=(zWP _ _ _ hu).2;simp;omega⟩
  ·simp only [h,if_false];exact ⟨_,_,_,rfl,by simp⟩
theorem zNI {fu:Nat} {s r:Bs} (hs:(qS s++r).length<=1000000) (hf:(qS s++r).length<fu):zBY fu (qS s++r)=some (s,r,true):=by
 rw [zSc hs hf]
 show (if (34:UInt8)=34 then unqR [] (unq (quoL s++[34]++r)) else _)=_
 rw [if_pos rfl,List.append_assoc]
 show unqR [] (unq (quoL s++34::r))=_
 rw [zOP];rfl
def nst (fu:Nat) (f:UInt8) (x:Bs×Bool):Option (Bs×Bool×Int) :=
 if x.2=true/\f≠46 then bnd (zBA fu x.1 [32]) fun r=>bnd (zBz fu (f.toNat:Int) r.1) fun r'=>some (r.2.1,r'.2,r'.1) else some (x.1,x.2,0)
def tst1 (fu:Nat) (f:UInt8) (x:Bs×Bool):Option (Bs×Bool×Bs) :=
 if x.2=true/\f=115 then bnd (zBY fu x.1) fun r=>bnd (zAR fu r.2.1 [32]) fun p=>cnd p.2 (some (p.1,r.2.2,r.1)) (some (r.2.1,r.2.2,r.1)) else some (x.1,x.2,[])
def tst2 (fu:Nat) (f:UInt8) (x:Bs×Bool):Option (Bs×Bool×Bs) :=
 if x.2=true/\f=115 then bnd (zBY fu x.1) fun r=>bnd (zAR fu r.2.1 [32]) fun p=>some (r.2.1,r.2.2,r.1) else some (x.1,x.2,[])
theorem zKD {α β γ : Type} (o:Option α) (f : α -> Option β) (g : β -> Option γ):bnd (bnd o f) g=bnd o fun a=>bnd (f a) g:=by cases o<;>rfl
theorem zLf (b c:UInt8):(((b.toNat:Nat):Int) != ((c.toNat:Nat):Int))=(b != c):=congrArg (!·) (zDu b c)
theorem zCp {α β : Type} {o:Option α} {f g : α -> Option β} (h:∀a,f a=g a):bnd o f=bnd o g:=by rw [show f=g from funext h]
theorem zRl {β : Type} {fu:Nat} {k:Int} {i:Nat} (hi:i<5) (rest:Bs) (ok:Bool) (J:Bs×Bool×Int->Option β) :
  cnd ok (bnd (chr (fd k) (i:Int)) fun b=>cnd (b != 46) (bnd (zBA fu rest [32]) fun r=>bnd (chr (fd k) (i:Int)) fun b'=>bnd (zBz fu b' r.1) fun r'=>J (r.2.1,r'.2,r'.1)) (J (rest,ok,0))) (J (rest,ok,0))=bnd (nst fu (fc k i) (rest,ok)) J:=by
 unfold nst
 cases ok with
 | false=>rfl
 | true =>
  rw [cnd_true,zGm hi]
  simp only [bnd_some]
  rw [show (((fc k i).toNat:Int) != 46)=(fc k i != 46) from zLf _ 46,zMf]
  by_cases h:fc k i=46
  ·rw [if_pos h,if_neg (by simp [h])];rfl
  ·rw [if_neg h,if_pos ⟨trivial,h⟩]
   simp only [zKD,bnd_some]
theorem zWM {β : Type} {fu:Nat} {k:Int} {i:Nat} (hi:i<5) (rest:Bs) (ok:Bool) (J:Bs×Bool×Bs->Option β) :
  cnd ok (bnd (chr (fd k) (i:Int)) fun b=>cnd (b==115) (bnd (zBY fu rest) fun r=>bnd (zAR fu r.2.1 [32]) fun p=>cnd p.2 (J (p.1,r.2.2,r.1)) (J (r.2.1,r.2.2,r.1))) (J (rest,ok,[]))) (J (rest,ok,[]))=bnd (tst1 fu (fc k i) (rest,ok)) J:=by
 unfold tst1
 cases ok with
 | false=>rfl
 | true =>
  rw [cnd_true,zGm hi]
  simp only [bnd_some]
  rw [show (((fc k i).toNat:Int)==115)=(fc k i==115) from zDu _ 115,zBC]
  by_cases h:fc k i=115
  ·rw [if_pos h,if_pos ⟨trivial,h⟩]
   simp only [zKD]
   refine zCp fun a=>zCp fun p=>?_
   cases p.2<;>rfl
  ·rw [if_neg h,if_neg (by simp [h])];rfl
theorem zWN {β : Type} {fu:Nat} {k:Int} {i:Nat} (hi:i<5) (rest:Bs) (ok:Bool) (J:Bs×Bool×Bs->Option β) :
  cnd ok (bnd (chr (fd k) (i:Int)) fun b=>cnd (b==115) (bnd (zBY fu rest) fun r=>bnd (zAR fu r.2.1 [32]) fun p=>cnd p.2 (J (r.2.1,r.2.2,r.1)) (J (r.2.1,r.2.2,r.1))) (J (rest,ok,[]))) (J (rest,ok,[]))=bnd (tst2 fu (fc k i) (rest,ok)) J:=by
 unfold tst2
 cases ok with
 | false=>rfl
 | true =>
  rw [cnd_true,zGm hi]
  simp only [bnd_some]
  rw [show (((fc k i).toNat:Int)==115)=(fc k i==115) from zDu _ 115,zBC]
  by_cases h:fc k i=115
  ·rw [if_pos h,if_pos ⟨trivial,h⟩]
   simp only [zKD,bnd_some]
   refine zCp fun a=>zCp fun p=>?_
   cases p.2<;>rfl
  ·rw [if_neg h,if_neg (by simp [h])];rfl
theorem zSJ (fu:Nat) (s:Bs):zDC fu s=bnd (zAR fu s [33]) fun r2=>bnd (zBA fu r2.1 [32]) fun r3=>bnd (zA9 fu wordsL r3.1) fun k =>
  bnd (nst fu (fc k 0) (r3.2.1,decide (Knd k))) fun x1=>bnd (nst fu (fc k 1) (x1.1,x1.2.1)) fun x2=>bnd (nst fu (fc k 2) (x2.1,x2.2.1)) fun x3 =>
  bnd (tst1 fu (fc k 3) (x3.1,x3.2.1)) fun y1=>bnd (tst2 fu (fc k 4) (y1.1,y1.2.1)) fun y2=>zEO fu s r2 k x1.2.2 x2.2.2 x3.2.2 (y2.1,y2.2.1,y1.2.2,y2.2.2):=by
 unfold zDC
 refine zCp fun r2=>zCp fun r3=>?_
 rw [zSu,bnd_some]
 refine zCp fun k=>?_
 rw [zRQ,bnd_some]
 simp only [zD8,bnd_some]
 refine (zRl (i:=0) (by omega) r3.2.1 (decide (Knd k)) _).trans (zCp fun x1=>?_)
 obtain ⟨a1,b1,c1⟩:=x1
 unfold zGa
 refine (zRl (i:=1) (by omega) a1 b1 _).trans (zCp fun x2=>?_)
 obtain ⟨a2,b2,c2⟩:=x2
 unfold zGb
 refine (zRl (i:=2) (by omega) a2 b2 fun x=>zFw fu s r2 k (⟨wd k,fd k⟩,decide (Knd k)) (x.1,x.2.1,c1,c2,x.2.2)).trans (zCp fun x3=>?_)
 obtain ⟨a3,b3,c3⟩:=x3
 unfold zFw
 simp only [zEP,bnd_some]
 refine (zWM (i:=3) (by omega) a3 b3 fun x=>zDh fu s r2 k (⟨wd k,fd k⟩,decide (Knd k)) c1 c2 c3 x).trans (zCp fun y1=>?_)
 obtain ⟨a4,b4,c4⟩:=y1
 unfold zDh
 exact zWN (i:=4) (by omega) a4 b4 fun x=>zEO fu s r2 k c1 c2 c3 (x.1,x.2.1,c4,x.2.2)
theorem zN7 {fu:Nat} {f:UInt8} {x:Bs×Bool} (h:x.1.length<=1000000):∃y,nst fu f x=some y/\y.1.length<=x.1.length:=by
 unfold nst
 split
 ·obtain ⟨w,r,b,h1,h2,h3⟩:=zQ0 (fu:=fu) (s:=x.1) 32 (by omega)
  rw [h1,bnd_some]
  obtain ⟨n,b',h4⟩:=zT4 (fu:=fu) (f:=(f.toNat:Int)) (w:=w) (by omega)
  rw [h4,bnd_some]
  exact ⟨_,rfl,h3⟩
 ·exact ⟨_,rfl,Nat.le_refl _⟩
theorem zUG {fu:Nat} {f:UInt8} {x:Bs×Bool} (h:x.1.length<=1000000) (hf:x.1.length<fu):∃y,tst1 fu f x=some y/\y.1.length<=x.1.length:=by
 unfold tst1
 split
 ·obtain ⟨t,r,b,h1,h2⟩:=zNH (fu:=fu) h hf
  rw [h1,bnd_some]
  obtain ⟨p,b',h3,h4⟩:=zOC (fu:=fu) (s:=r) (c:=32) (by omega)
  rw [h3,bnd_some]
  cases b' with
  | true=>exact ⟨_,rfl,by show p.length<=_;omega⟩
  | false=>exact ⟨_,rfl,h2⟩
 ·exact ⟨_,rfl,Nat.le_refl _⟩
theorem zUI {fu:Nat} {f:UInt8} {x:Bs×Bool} (h:x.1.length<=1000000) (hf:x.1.length<fu):∃y,tst2 fu f x=some y:=by
 unfold tst2
 split
 ·obtain ⟨t,r,b,h1,h2⟩:=zNH (fu:=fu) h hf
  rw [h1,bnd_some]
  obtain ⟨p,b',h3,h4⟩:=zOC (fu:=fu) (s:=r) (c:=32) (by omega)
  rw [h3,bnd_some]
  exact ⟨_,rfl⟩
 ·exact ⟨_,rfl⟩
def op0:Op:=⟨0,0,0,0,[],[],false⟩
theorem zTw {fu:Nat} {s:Bs} (hs:s.length<=1000000) (hf:s.length+30<fu):zDC fu s=some (op0,2)\/∃o,zDC fu s=some (o,0)/\RightP o/\putP o=s:=by
 rw [zSJ]
 obtain ⟨r,must,h1,h2⟩:=zOC (fu:=fu) (s:=s) (c:=33) (by omega)
 rw [h1,bnd_some]
 obtain ⟨w,r3,b3,h3,_,h4⟩:=zQ0 (fu:=fu) (s:=r) 32 (by omega)
 rw [h3,bnd_some]
 obtain ⟨k,hk⟩:∃k,zA9 fu wordsL w=some k:=by
  rw [zNx (by simp [wordsL];omega) (by simp [wordsL])]
  split<;>exact ⟨_,rfl⟩
 rw [hk,bnd_some]
 obtain ⟨x1,e1,l1⟩:=zN7 (fu:=fu) (f:=fc k 0) (x:=(r3,decide (Knd k))) (by show r3.length<=_;omega)
 simp only at l1
 rw [e1,bnd_some]
 obtain ⟨x2,e2,l2⟩:=zN7 (fu:=fu) (f:=fc k 1) (x:=(x1.1,x1.2.1)) (by show x1.1.length<=_;omega)
 simp only at l2
 rw [e2,bnd_some]
 obtain ⟨x3,e3,l3⟩:=zN7 (fu:=fu) (f:=fc k 2) (x:=(x2.1,x2.2.1)) (by show x2.1.length<=_;omega)
 simp only at l3
 rw [e3,bnd_some]
 obtain ⟨y1,e4,l4⟩:=zUG (fu:=fu) (f:=fc k 3) (x:=(x3.1,x3.2.1)) (by show x3.1.length<=_;omega) (by show x3.1.length<_;omega)
 simp only at l4
 rw [e4,bnd_some]
 obtain ⟨y2,e5⟩:=zUI (fu:=fu) (f:=fc k 4) (x:=(y1.1,y1.2.1)) (by show y1.1.length<=_;omega) (by show y1.1.length<_;omega)
 rw [e5,bnd_some]
 unfold zEO
 simp only [zVt,bnd_some]
 generalize (⟨k,x1.2.2,x2.2.2,x3.2.2,y1.2.2,y2.2.2,must⟩:Op)=o
 cases y2.2.1 with
 | false=>exact .inl rfl
 | true =>
  simp only [Bool.not_true,cnd_false]
  cases y2.1==([]:Bs) with
  | false=>exact .inl rfl
  | true =>
   simp only [Bool.not_true,cnd_false]
   cases hr:zE7 o with
   | false=>exact .inl rfl
   | true =>
    rw [if_pos rfl]
    show cnd ((0:Int) != 0) _ _=_\/∃o',cnd ((0:Int) != 0) _ _=_/\_
    rw [show ((0:Int) != 0)=false from rfl,cnd_false]
    by_cases hp:putP o=s
    ·refine .inr ⟨o,?_,right_iff.1 hr,hp⟩
     rw [show (putP o==s)=true from by simpa using hp];rfl
    ·left
     rw [show (putP o==s)=false from by simpa using hp];rfl
end Go.Proofs.YtoboimmgglnjfaaGreatDoor
/- What op.Read comes to at an operation's own text. -/
namespace Go.Proofs.YtoboimmgglnjfaaGreatDoor
open Go Go.Pw
set_option linter.unusedVariables false
def nxt:List Bs->Bs
 | []=>[]
 | f::l=>f++tl l
theorem zQ2 {fu:Nat} {f:Bs} {l:List Bs} (hf:(32:UInt8)∉f) (hl:(f++tl l).length<=1000000):∃b,zBA fu (f++tl l) [32]=some (f,nxt l,b):=by
 cases l with
 | nil=>rw [zCx,List.append_nil];exact ⟨false,zQ1 hf⟩
 | cons g l=>rw [zDF] at hl ⊢;exact ⟨true,zNk hf (by omega)⟩
theorem zRm {f:UInt8} {n:Int} {c:UInt8} (h:c=32\/c=10):c∉numW f n:=by
 have hi:c∉Lib.itoa n:=zRW (by rcases h with rfl | rfl<;>decide)
 unfold numW
 split
 ·exact hi
 ·split
  ·rcases h with rfl | rfl<;>decide
  ·split <;> · rcases h with rfl | rfl<;>decide
theorem zN8 {fu:Nat} {f:UInt8} {n:Int} {L:List Bs} (hf:f=110\/f=111\/f=105\/f=46) (h:fit f n=true) (hl:(nxt (numL f n++L)).length<=1000000):nst fu f (nxt (numL f n++L),true)=some (nxt L,true,n):=by
 unfold nst
 by_cases h46:f=46
 ·subst h46
  rw [if_neg (by simp)]
  have hn:n=0:=by unfold fit at h;rw [if_neg (by decide),if_neg (by decide)] at h;simpa using h
  rw [hn];rfl
 ·rw [if_pos ⟨rfl,h46⟩]
  have e:numL f n=[numW f n]:=if_neg h46
  rw [e] at hl ⊢
  obtain ⟨b,hb⟩:=zQ2 (fu:=fu) (f:=numW f n) (l:=L) (zRm (.inl rfl)) hl
  show bnd (zBA fu (numW f n++tl L) [32]) _=_
  rw [hb,bnd_some,zT5 (by rcases hf with h | h | h | h;exact .inl h;exact .inr (.inl h);exact .inr (.inr h);exact absurd h h46) h,bnd_some]
theorem zUH {fu:Nat} {f:UInt8} {s:Bs} {L:List Bs} (hf:f=115\/f=46) (h:fitT f s=true) (hl:(nxt (txtL f s++L)).length<=1000000) (hfu:(nxt (txtL f s++L)).length<fu):tst1 fu f (nxt (txtL f s++L),true)=some (nxt L,true,s):=by
 unfold tst1
 rcases hf with rfl | rfl
 ·rw [if_pos ⟨rfl,rfl⟩]
  have e:txtL 115 s=[qS s]:=rfl
  rw [e] at hl hfu ⊢
  have hl':(qS s++tl L).length<=1000000:=hl
  have hfu':(qS s++tl L).length<fu:=hfu
  show bnd (zBY fu (qS s++tl L)) _=_
  rw [zNI hl' hfu',bnd_some]
  cases L with
  | nil =>
   show bnd (zAR fu [] [32]) _=_
   rw [zOE];rfl
  | cons g L =>
   simp [zDF] at hl'
   show bnd (zAR fu (32::(g++tl L)) [32]) _=_
   rw [zJs (by simp;omega),if_pos rfl];rfl
 ·rw [if_neg (fun e=>absurd e.2 (by decide))]
  have:s=[]:=by simpa [fitT] using h
  subst this;rfl
theorem zUJ {fu:Nat} {f:UInt8} {s:Bs} (hf:f=115\/f=46) (h:fitT f s=true) (hl:(nxt (txtL f s)).length<=1000000) (hfu:(nxt (txtL f s)).length<fu):tst2 fu f (nxt (txtL f s),true)=some ([],true,s):=by
 unfold tst2
 rcases hf with rfl | rfl
 ·rw [if_pos ⟨rfl,rfl⟩]
  have e:txtL 115 s=[qS s]:=rfl
  rw [e] at hl hfu ⊢
  show bnd (zBY fu (qS s++[])) _=_
  rw [zNI (r:=[]) hl hfu,bnd_some]
  show bnd (zAR fu [] [32]) _=_
  rw [zOE];rfl
 ·rw [if_neg (fun e=>absurd e.2 (by decide))]
  have:s=[]:=by simpa [fitT] using h
  subst this;rfl
theorem zWU {k:Int} {c:UInt8} (h:c.toNat<97\/122<c.toNat):c∉wd k\/¬Knd k:=by
 have key:∀j:Fin 29,0<j.1->∀b∈wordsL.getD j.1 [],97<=b.toNat/\b.toNat<=122:=by decide
 by_cases hk:Knd k
 ·left
  rw [wd,if_pos hk]
  intro hm
  have:=key ⟨k.toNat,by unfold Knd at hk;omega⟩ (by unfold Knd at hk;simp;omega) c hm
  omega
 ·exact .inr hk
theorem zMR {k:Int} (hk:Knd k):∃b w,wd k=b::w/\97<=b.toNat/\b.toNat<=122:=by
 have key:∀j:Fin 29,0<j.1->wordsL.getD j.1 []≠[]:=by decide
 have h0:=key ⟨k.toNat,by unfold Knd at hk;omega⟩ (by unfold Knd at hk;simp;omega)
 have e:wd k=wordsL.getD k.toNat []:=if_pos hk
 rw [<- e] at h0
 cases hw:wd k with
 | nil=>exact absurd hw h0
 | cons b w =>
  refine ⟨b,w,rfl,?_⟩
  have:97<=b.toNat/\b.toNat<=122\/¬(97<=b.toNat/\b.toNat<=122):=Decidable.em _
  rcases this with h | h
  ·exact h
  ·rcases zWU (k:=k) (c:=b) (by omega) with h2 | h2
   ·exact absurd (by rw [hw];simp) h2
   ·exact absurd hk h2
theorem zTP {fu:Nat} (hf:30<fu) {k:Int} (hk:Knd k):zA9 fu wordsL (wd k)=some k:=by
 rw [zNx (by simp [wordsL];omega) (by simp [wordsL])]
 have key:∀j:Fin 29,((List.range 29).find? fun i=>wordsL.getD j.1 []==wordsL.getD i [])=some j.1:=by decide
 have e:wd k=wordsL.getD k.toNat []:=if_pos hk
 have hj:=key ⟨k.toNat,by unfold Knd at hk;omega⟩
 rw [e]
 show (match (List.range 29).find? fun i=>wordsL.getD k.toNat []==wordsL.getD i [] with | some i=>some (i:Int) | none=>some (-1))=_
 rw [hj]
 show some ((k.toNat:Nat):Int)=some k
 congr 1
 unfold Knd at hk
 omega
theorem zM4:∀(l:List Bs),(nxt l).length<=(tl l).length
 | []=>Nat.le_refl _
 | f::l=>by simp [nxt,zDF]
theorem zMM (l m:List Bs):(tl m).length<=(tl (l++m)).length:=by rw [zFm];simp
theorem zJy {fu:Nat} {o:Op} (h:RightP o) (hf:2000<fu):zDC fu (putP o)=some (o,0):=by
 have hlen:=zJt h
 obtain ⟨b0,w0,hw,hb1,hb2⟩:=zMR h.kind
 have hl0:(wd o.Kind++tl (zEI o)).length<=1000:=by
  have:putP o=bang o.Must++(wd o.Kind++tl (zEI o)):=rfl
  rw [this,List.length_append] at hlen;omega
 have hlt:(tl (zEI o)).length<=1000:=by simp at hl0;omega
 have m1:(nxt (zEI o)).length<=1000:=Nat.le_trans (zM4 _) hlt
 have m2:(tl (numL (fc o.Kind 1) o.B++(numL (fc o.Kind 2) o.C++zHa o))).length<=1000:=Nat.le_trans (zMM _ _) hlt
 have m3:(tl (numL (fc o.Kind 2) o.C++zHa o)).length<=1000:=Nat.le_trans (zMM _ _) m2
 have m4:(tl (zHa o)).length<=1000:=Nat.le_trans (zMM _ _) m3
 have m5:(tl (txtL (fc o.Kind 4) o.T)).length<=1000:=Nat.le_trans (zMM (txtL (fc o.Kind 3) o.S) _) m4
 have k2:=zM4 (numL (fc o.Kind 1) o.B++(numL (fc o.Kind 2) o.C++zHa o))
 have k3:=zM4 (numL (fc o.Kind 2) o.C++zHa o)
 have k4:=zM4 (zHa o)
 have k5:=zM4 (txtL (fc o.Kind 4) o.T)
 rw [zSJ]
 have h1:zAR fu (putP o) [33]=some (wd o.Kind++tl (zEI o),o.Must):=by
  unfold putP bang
  cases o.Must with
  | true =>
   show zAR fu (33::(wd o.Kind++tl (zEI o))) [33]=_
   rw [zJs (by omega),if_pos rfl]
  | false =>
   rw [if_neg (by decide),List.nil_append]
   rw [hw] at hl0 ⊢
   have hl1:(w0++tl (zEI o)).length<=1000:=by simp at hl0 ⊢;omega
   show zAR fu (b0::(w0++tl (zEI o))) [33]=_
   rw [zJs (by omega),if_neg (fun e=>by rw [e] at hb1;simp at hb1)]
   rfl
 rw [h1,bnd_some]
 have hno:(32:UInt8)∉wd o.Kind:=by
  rcases zWU (k:=o.Kind) (c:=32) (.inl (by decide)) with h2 | h2
  ·exact h2
  ·exact absurd h.kind h2
 obtain ⟨b,h2⟩:=zQ2 (fu:=fu) (l:=zEI o) hno (by omega)
 rw [h2,bnd_some,zTP (by omega) h.kind,bnd_some,show decide (Knd o.Kind)=true from by simpa using h.kind]
 simp only
 rw [show nxt (zEI o)=nxt (numL (fc o.Kind 0) o.A++(numL (fc o.Kind 1) o.B++(numL (fc o.Kind 2) o.C++zHa o))) from rfl] at m1 ⊢
 rw [zN8 (zEU _ (by omega)) h.a (by omega),bnd_some]
 simp only
 rw [zN8 (zEU _ (by omega)) h.b (by omega),bnd_some]
 simp only
 rw [zN8 (zEU _ (by omega)) h.c (by omega),bnd_some]
 simp only
 rw [show nxt (zHa o)=nxt (txtL (fc o.Kind 3) o.S++txtL (fc o.Kind 4) o.T) from rfl] at k4 ⊢
 rw [zUH (zFU _ (by omega) (by omega)) h.s (by omega) (by omega),bnd_some]
 simp only
 rw [zUJ (zFU _ (by omega) (by omega)) h.t (by omega) (by omega),bnd_some]
 unfold zEO
 simp only
 have ho:(⟨o.Kind,o.A,o.B,o.C,o.S,o.T,o.Must⟩:Op)=o:=rfl
 rw [ho,zR9 h,bnd_some]
 simp
theorem zPJ {o p:Op} (ho:RightP o) (hp:RightP p) (h:putP o=putP p):o=p:=by
 have h1:=zJy (fu:=2001) ho (by omega)
 rw [h,zJy hp (by omega)] at h1
 cases h1;rfl
theorem zLM {fu:Nat} {s:Bs} (hs:s.length<=1000000) (hf:s.length+3000<fu) :
  (∃o,RightP o/\putP o=s/\zDC fu s=some (o,0))\/(∀o,RightP o->putP o≠s)/\zDC fu s=some (op0,2):=by
 rcases zTw hs (by omega:s.length+30<fu) with h | ⟨o,h1,h2,h3⟩
 ·refine .inr ⟨fun o ho e=>?_,h⟩
  rw [<- e,zJy ho (by omega)] at h
  cases h
 ·exact .inl ⟨o,h2,h3,h1⟩
theorem zSL {fu:Nat} {s:Bs} (hs:s.length<=1000000) (hf:s.length+3000<fu) (h:∀o,RightP o->putP o≠s):zDC fu s=some (op0,2):=by
 rcases zLM hs hf with ⟨o,h1,h2,_⟩ | ⟨_,h1⟩
 ·exact absurd h2 (h o h1)
 ·exact h1
theorem zR7 {o:Op} (h:RightP o):(10:UInt8)∉putP o:=by
 have hn:∀(x:UInt8) (n:Int),(10:UInt8)∉tl (numL x n):=fun x n=>by
  unfold numL
  split
  ·simp [zCx]
  ·have:=zRm (f:=x) (n:=n) (c:=10) (.inr rfl)
   simp [zDF,zCx,this]
 have ht:∀(x:UInt8) (s:Bs),(10:UInt8)∉s->(10:UInt8)∉tl (txtL x s):=fun x s hs=>by
  unfold txtL
  split
  ·simp only [zDF,zCx,qS,List.append_nil,List.mem_cons,List.mem_append,List.cons_append]
   rintro (h | h | h | h | h)
   ·cases h
   ·cases h
   ·rcases zSF h with h | h
    ·cases h
    ·exact hs h
   ·cases h
   ·cases h
  ·simp [zCx]
 have hw:(10:UInt8)∉wd o.Kind:=by
  rcases zWU (k:=o.Kind) (c:=10) (.inl (by decide)) with h2 | h2
  ·exact h2
  ·exact absurd h.kind h2
 have hb:(10:UInt8)∉bang o.Must:=by cases o.Must<;>simp [bang]
 unfold putP zEI zHa
 simp only [zFm,List.mem_append]
 rintro (h1 | h1 | h1 | h1 | h1 | h1 | h1)
 ·exact hb h1
 ·exact hw h1
 ·exact hn _ _ h1
 ·exact hn _ _ h1
 ·exact hn _ _ h1
 ·exact ht _ _ (zFM h.s).2 h1
 ·exact ht _ _ (zFM h.t).2 h1
theorem zVs {o:Op} (h:RightP o):putP o≠[]:=by
 obtain ⟨b0,w0,hw,_⟩:=zMR h.kind
 unfold putP
 rw [hw]
 cases o.Must<;>simp [bang]
end Go.Proofs.YtoboimmgglnjfaaGreatDoor
/- The reader of scripts: what a line that is a head's does. -/
namespace Go.Proofs.YtoboimmgglnjfaaGreatDoor
open Go Go.Pw
set_option linter.unusedVariables false
def cutS:Bs->Bs×Bs×Bool
 | []=>([],[],false)
 | b::s=>if b=32 then ([],s,true) else (b::(cutS s).1,(cutS s).2.1,(cutS s).2.2)
theorem zGv:∀{w:Bs} (r:Bs),(32:UInt8)∉w->cutS (w++32::r)=(w,r,true)
 | [],r,_=>rfl
 | b::w,r,h=>by
  simp only [List.mem_cons,not_or] at h
  rw [List.cons_append,cutS,if_neg (fun e=>h.1 e.symm),zGv r h.2]
theorem zNj:∀{s:Bs},(32:UInt8)∉s->cutS s=(s,[],false)
 | [],_=>rfl
 | b::s,h=>by
  simp only [List.mem_cons,not_or] at h
  rw [cutS,if_neg (fun e=>h.1 e.symm),zNj h.2]
theorem cut_s {fu:Nat} {s:Bs} (hl:s.length<=1000000000):zBA fu s [32]=some (cutS s):=by
 by_cases h:(32:UInt8)∈s
 ·obtain ⟨w,r,rfl,hw⟩:=zMI h
  rw [zNk hw hl,zGv r hw]
 ·rw [zQ1 h,zNj h]
def kindsL:List Bs:=[[45],[99,97,109,101],[119,101,110,116],[109,111,118,101,100],[99,104,97,110,103,101,100],[111,119,110,101,100],[98,97,114,114,101,100],[99,108,101,97,114,101,100],[114,101,115,116,111,114,101,100]]
theorem zRZ {fu:Nat}:zEY fu=some kindsL:=by kernel_rfl
def zGB (v:Bs):Int:=match (List.range 9).find? fun i=>v==kindsL.getD i [] with
 | some i=>(i:Int)
 | none => -1
theorem kind_m {fu:Nat} {v:Bs} (hf:10<fu):zA9 fu kindsL v=some (zGB v):=by
 rw [zNx (by simp [kindsL];omega) (by simp [kindsL])]
 unfold zGB
 rw [show kindsL.length=9 from rfl]
 cases (List.range 9).find? fun i=>v==kindsL.getD i []<;>rfl
structure Rs where
 k:Nat
 most:Int
 pre:List Class
 act:Bool
 form:Bool
 hpre:List Hook
 hact:Bool
 kind:Int
 wat:List Bs
 pk:List Op
 mak:List Op
 dos:List Op
def Rs.hooks (x:Rs):List Hook:=x.hpre++if x.hact then [(⟨x.kind,x.dos⟩:Hook)] else []
def Rs.cls (x:Rs):List Class:=x.pre++if x.act then [(⟨x.form,x.wat,x.pk,x.mak,x.hooks⟩:Class)] else []
abbrev HOut:=Bool×Nat×Int×(List Class×Bool)×Bool×(List Hook×Bool)×Int×List Bs×List Op×List Op×List Op
def Rs.out (b:Bool) (x:Rs):HOut:=(b,x.k,x.most,(x.pre,x.act),x.form,(x.hpre,x.hact),x.kind,x.wat,x.pk,x.mak,x.dos)
structure Rs.Ok (x:Rs):Prop where
 pre0:x.act=false->x.pre=[]
 hpre0:x.hact=false->x.hpre=[]
 k0:x.act=false->x.k=0
 k3:x.k=3->x.hact=true
 kle:x.k<=3
 most_:x.most=if x.k=0 then 300 else 60
 cls12:x.cls.length<=12
 hooks12:x.hooks.length<=12
 wat12:x.wat.length<=12
 pk60:x.pk.length<=60
 mak60:x.mak.length<=60
 dos60:x.dos.length<=60
theorem zHP (x:Rs):x.hooks.length=x.hpre.length+(if x.hact then 1 else 0):=by unfold Rs.hooks;cases x.hact<;>simp
theorem zFb (x:Rs):x.cls.length=x.pre.length+(if x.act then 1 else 0):=by unfold Rs.cls;cases x.act<;>simp
def zFI (x:Rs) (s:Bs):Option Rs :=
 if s=[109,97,105,110] then some { x with k:=0,most:=300 }
 else if s=[99,108,97,115,115]\/s=[99,108,97,115,115,32,102,111,114,109] then
  (if x.cls.length=12 then none else some ⟨2,60,x.cls,true,(cutS s).2.2,[],false,0,[],[],[],[]⟩)
 else if x.act=false then none
 else if s=[112,101,101,107] then some { x with k:=1,most:=60 }
 else if s=[109,97,107,101] then some { x with k:=2,most:=60 }
 else if (cutS s).1=[119,97,116,99,104] then
  (if (cutS s).2.2=true then (if fitB (cutS s).2.1=true then (if x.wat.length=12 then none else some { x with wat:=x.wat++[(cutS s).2.1] }) else none) else none)
 else if (cutS s).1=[111,110] then
  (if (cutS s).2.2=true then (if zGB (cutS s).2.1<1 then none else if x.hooks.length=12 then none else some { x with k:=3,most:=60,hpre:=x.hooks,hact:=true,kind:=zGB (cutS s).2.1,dos:=[] }) else none)
 else none
def outR (x:Rs):Option Rs->HOut
 | some y=>y.out true
 | none=>x.out false
theorem zUo {fu:Nat} {n:Int}:zCJ fu n=some (true,n):=rfl
theorem zLp {fu:Nat} {n:Int}:zAh fu n=some (true,n):=rfl
theorem zJG {l:Nat}:zKm l (((l+1:Nat):Int) - 1)=some ():=by
 unfold zKm
 rw [if_pos (by omega)]
theorem zIK {l:Nat} (h:l<=1000):rng .i64 (((l+1:Nat):Int) - 1)=some (((l+1:Nat):Int) - 1):=zGF (by omega) (by omega)
theorem zRU {fu:Nat} {s:Bs} {x:Rs} (hx:x.Ok):zCa fu x.k x.most (x.pre,x.act) x.form (x.hpre,x.hact) x.kind x.wat x.pk x.mak x.dos (cutS s) ()=some (outR x (if x.cls.length=12 then none else some ⟨2,60,x.cls,true,(cutS s).2.2,[],false,0,[],[],[],[]⟩)):=by
 have hc:=hx.cls12
 have hcl:=zFb x
 unfold zCa
 dsimp only
 simp only [if_true]
 rw [show (x.pre++if x.act then [(⟨x.form,x.wat,x.pk,x.mak,(x.hpre++if x.hact then [(⟨x.kind,x.dos⟩:Hook)] else [])⟩:Class)] else [])=x.cls from rfl,<- hcl,zBC]
 by_cases h:x.cls.length=12
 ·rw [if_pos h,if_pos (by omega)];rfl
 ·rw [if_neg h,if_neg (by omega),zBv (by omega),bnd_some,zIK (by omega),bnd_some,zJG,bnd_some,zLp,bnd_some]
  rfl
theorem head_m {fu:Nat} {s:Bs} {x:Rs} (hx:x.Ok) (hf:300<fu) (hs:s.length<=1000000) :
  zDe fu s x.k x.most (x.pre,x.act) x.form (x.hpre,x.hact) x.kind x.wat x.pk x.mak x.dos=some (outR x (zFI x s)):=by
 have hc:=hx.cls12
 have hcl:=zFb x
 have hhl:=zHP x
 have hh:=hx.hooks12
 have hw:=hx.wat12
 unfold zDe zFI
 rw [cut_s (by omega),bnd_some,zBC]
 by_cases h1:s=[109,97,105,110]
 ·rw [if_pos h1,if_pos h1,zUo,bnd_some];rfl
 rw [if_neg h1,if_neg h1,zBC]
 by_cases h2:s=[99,108,97,115,115]
 ·rw [if_pos h2,if_pos (.inl h2),zRU hx]
 rw [if_neg h2,zBC]
 by_cases h3:s=[99,108,97,115,115,32,102,111,114,109]
 ·rw [if_pos h3,if_pos (.inr h3),zRU hx]
 have h23:¬(s=[99,108,97,115,115]\/s=[99,108,97,115,115,32,102,111,114,109]):=fun h=>h.elim h2 h3
 rw [if_neg h3,if_neg h23,zBC]
 dsimp only
 simp only [if_true]
 rw [<- hcl]
 cases ha:x.act with
 | false =>
  have h0:x.cls.length=0:=by rw [hcl,ha,hx.pre0 ha];rfl
  rw [if_pos (show ((x.cls.length:Nat):Int)=0 by omega),if_pos rfl,hx.pre0 ha]
  show some (false,x.k,x.most,(([]:List Class),false),x.form,(x.hpre,x.hact),x.kind,x.wat,x.pk,x.mak,x.dos)=some (x.out false)
  unfold Rs.out
  rw [ha,hx.pre0 ha]
 | true =>
  have e0:x.out false=(false,x.k,x.most,(x.pre,true),x.form,(x.hpre,x.hact),x.kind,x.wat,x.pk,x.mak,x.dos):=by unfold Rs.out;rw [ha]
  rw [ha] at hcl
  simp only [if_true] at hcl
  rw [if_neg (show ¬(((x.cls.length:Nat):Int)=0) by omega),if_neg (show ¬(true=false) by simp)]
  rw [show zJc true=some () from rfl,bnd_some,zIK (by omega),bnd_some,zJG,bnd_some,zBC]
  have e1:∀y,y.act=true->outR x (some y)=(true,y.k,y.most,(y.pre,true),y.form,(y.hpre,y.hact),y.kind,y.wat,y.pk,y.mak,y.dos):=fun y hy=>by show y.out true=_;unfold Rs.out;rw [hy]
  have e2:outR x none=(false,x.k,x.most,(x.pre,true),x.form,(x.hpre,x.hact),x.kind,x.wat,x.pk,x.mak,x.dos):=e0
  by_cases h4:s=[112,101,101,107]
  ·rw [if_pos h4,if_pos h4,zLp,bnd_some,e1 _ rfl]
  rw [if_neg h4,if_neg h4,zBC]
  by_cases h5:s=[109,97,107,101]
  ·rw [if_pos h5,if_pos h5,zLp,bnd_some,e1 _ rfl]
  rw [if_neg h5,if_neg h5,zBC]
  have hj2:zCb fu x.k x.most (x.pre,true) x.form (x.hpre,x.hact) x.kind x.wat x.pk x.mak x.dos (cutS s) ()=some (outR x (if (cutS s).1=[111,110] then
    (if (cutS s).2.2=true then (if zGB (cutS s).2.1<1 then none else if x.hooks.length=12 then none else some { x with k:=3,most:=60,act:=true,hpre:=x.hooks,hact:=true,kind:=zGB (cutS s).2.1,dos:=[] }) else none) else none)):=by
   unfold zCb
   dsimp only
   simp only [if_true]
   rw [zBC]
   by_cases h7:(cutS s).1=[111,110]
   ·rw [if_pos h7,if_pos h7]
    cases h8:(cutS s).2.2 with
    | false=>rw [cnd_false,if_neg (by simp),e2]
    | true =>
     rw [cnd_true,if_pos rfl,zRZ,bnd_some,kind_m (by omega),bnd_some,zCu]
     by_cases h9:zGB (cutS s).2.1<1
     ·rw [if_pos h9,if_pos h9,e2]
     ·rw [if_neg h9,if_neg h9,zBC]
      rw [show (x.hpre++if x.hact then [(⟨x.kind,x.dos⟩:Hook)] else [])=x.hooks from rfl]
      rw [<- hhl]
      by_cases h10:x.hooks.length=12
      ·rw [if_pos (by omega),if_pos h10,e2]
      ·rw [if_neg (by omega),if_neg h10,zBv (by omega),bnd_some,zIK (by omega),bnd_some,zJG,bnd_some,zLp,bnd_some,e1 _ rfl]
   ·rw [if_neg h7,if_neg h7,e2]
  by_cases h6:(cutS s).1=[119,97,116,99,104]
  ·rw [if_pos h6,if_pos h6]
   cases h8:(cutS s).2.2 with
   | false =>
    rw [cnd_false,if_neg (by simp),hj2,if_neg (by rw [h6];decide)]
   | true =>
    rw [cnd_true,if_pos rfl,zUm (by omega),bnd_some]
    unfold fitB
    cases hr:zGO (cutS s).2.1 with
    | false =>
     rw [if_neg (by simp),if_neg (by simp),e2]
     rfl
    | true =>
     rw [if_pos rfl]
     dsimp only
     rw [show ((0:Int) != 0)=false from rfl,cnd_false,zHL,Bool.true_and]
     cases hlw:((cutS s).2.1.map zHB==(cutS s).2.1) with
     | false=>rw [cnd_false,if_neg (by simp),e2]
     | true =>
      rw [cnd_true,if_pos rfl,zBC]
      by_cases h9:x.wat.length=12
      ·rw [if_pos (by omega),if_pos h9,e2]
      ·rw [if_neg (by omega),if_neg h9,zBv (by simp;omega),bnd_some,e1 _ rfl]
  ·rw [if_neg h6,if_neg h6,hj2]
end Go.Proofs.YtoboimmgglnjfaaGreatDoor
/- The reader of scripts: line by line. -/
namespace Go.Proofs.YtoboimmgglnjfaaGreatDoor
open Go Go.Pw
set_option linter.unusedVariables false
def opR (s:Bs):Op:=match zDC 3000000 s with
 | some r=>r.1
 | none=>op0
theorem opR_m {fu:Nat} {s:Bs} (hs:s.length<=1000000) (hf:s.length+3000<fu):∃e,zDC fu s=some (opR s,e):=by
 unfold opR
 rcases zLM (fu:=3000000) hs (by omega) with ⟨o,h1,h2,h3⟩ | ⟨h1,h2⟩
 ·rw [h3]
  rcases zLM (fu:=fu) hs hf with ⟨p,g1,g2,g3⟩ | ⟨g1,g2⟩
  ·rw [zPJ h1 g1 (h2.trans g2.symm)];exact ⟨0,g3⟩
  ·exact absurd h2 (g1 o h1)
 ·rw [h2]
  rcases zLM (fu:=fu) hs hf with ⟨p,g1,g2,g3⟩ | ⟨g1,g2⟩
  ·exact absurd g2 (h1 p g1)
  ·exact ⟨2,g2⟩
theorem zVh {o:Op} (h:RightP o) (hl:(putP o).length<=1000000):opR (putP o)=o:=by
 unfold opR
 rw [zJy h (by omega)]
def zIN (l:Bs):Bs:=l.filter fun b=>b != 10
theorem zId {t:Bs} (h:(10:UInt8)∉t):zIN t=t:=List.filter_eq_self.2 fun b hb=>by
 have:b≠10:=fun e=>h (e▸hb)
 simpa using this
theorem zUF {fu:Nat} {t:Bs} (hl:t.length<=1000000):zBq fu (t++[10]) [10]=some t:=by
 unfold zBq zBX zBb
 have e:(((t++[10]:Bs).length:Nat):Int) - ((([10]:Bs).length:Nat):Int)=((t.length:Nat):Int):=by simp
 rw [e,zGF (by omega) (by omega),zAo (by simp;omega),bnd_some,zCc (by simp) (Nat.le_refl _),bnd_some,bnd_some]
 rw [show ((((t++[10]:Bs).drop t.length).take ((t++[10]:Bs).length - t.length))==([10]:Bs))=true from by simp,cnd_true,bnd_some]
 have:=zCc (s:=(t++[10]:Bs)) (i:=0) (j:=t.length) (Nat.zero_le _) (by simp)
 rw [show ((0:Nat):Int)=0 from rfl] at this
 rw [this,bnd_some,bnd_some]
 simp
theorem zWL {fu:Nat} {t:Bs} (hl:t.length<=1000000) (h:(10:UInt8)∉t):zBq fu t [10]=some t:=by
 unfold zBq zBX zBb
 cases t with
 | nil=>rfl
 | cons b s =>
  have e:(((b::s:Bs).length:Nat):Int) - ((([10]:Bs).length:Nat):Int)=((s.length:Nat):Int):=by simp
  simp only [List.length_cons] at hl
  rw [e,zGF (by omega) (by omega),zAo (by simp;omega),bnd_some,zCc (by simp) (Nat.le_refl _),bnd_some,bnd_some]
  have hne:((((b::s:Bs).drop s.length).take ((b::s:Bs).length - s.length))==([10]:Bs))=false:=by
   rw [beq_eq_false_iff_ne]
   intro he
   have:(10:UInt8)∈((b::s:Bs).drop s.length).take ((b::s:Bs).length - s.length):=by rw [he];simp
   exact h (List.mem_of_mem_drop (List.mem_of_mem_take this))
  rw [hne,cnd_false,bnd_some]
def Line (l:Bs):Prop:=(∃t,l=t++[10]/\(10:UInt8)∉t)\/(l≠[]/\(10:UInt8)∉l)
theorem trim_m {fu:Nat} {l:Bs} (hl:l.length<=1000000) (h:Line l):zBq fu l [10]=some (zIN l):=by
 rcases h with ⟨t,rfl,ht⟩ | ⟨_,ht⟩
 ·rw [zUF (by simp at hl;omega)]
  have:zIN (t++[10])=t:=by
   unfold zIN
   rw [List.filter_append,show t.filter (fun b=>b != 10)=t from zId ht]
   simp
  rw [this]
 ·rw [zWL hl ht,zId ht]
theorem zNS (l:Bs):(zIN l).length<=l.length:=List.length_filter_le _ _
theorem zOv {x y:Rs} {s:Bs} (hx:x.Ok) (h:zFI x s=some y):y.Ok:=by
 have hc:=zFb x
 have hh:=zHP x
 have h12:=hx.cls12
 have hh12:=hx.hooks12
 unfold zFI at h
 split at h
 ·cases h
  exact ⟨hx.pre0,hx.hpre0,fun _=>rfl,fun h=>(by cases h),by simp,rfl,h12,hh12,hx.wat12,hx.pk60,hx.mak60,hx.dos60⟩
 split at h
 ·split at h
  ·cases h
  ·rename_i hne
   cases h
   refine ⟨fun h=>(by cases h),fun _=>rfl,fun h=>(by cases h),fun h=>(by cases h),by simp,rfl,?_,by simp [Rs.hooks],by simp,by simp,by simp,by simp⟩
   rw [zFb]
   simp only [if_true]
   omega
 split at h
 ·cases h
 rename_i hact
 have ha:x.act=true:=by cases e:x.act<;>simp_all
 split at h
 ·cases h
  exact ⟨hx.pre0,hx.hpre0,fun h=>absurd (ha.symm.trans h) (by simp),fun h=>(by cases h),by simp,rfl,h12,hh12,hx.wat12,hx.pk60,hx.mak60,hx.dos60⟩
 split at h
 ·cases h
  exact ⟨hx.pre0,hx.hpre0,fun h=>absurd (ha.symm.trans h) (by simp),fun h=>(by cases h),by simp,rfl,h12,hh12,hx.wat12,hx.pk60,hx.mak60,hx.dos60⟩
 split at h
 ·split at h
  ·split at h
   ·split at h
    ·cases h
    ·rename_i hw
     cases h
     refine ⟨hx.pre0,hx.hpre0,hx.k0,hx.k3,hx.kle,hx.most_,?_,hh12,?_,hx.pk60,hx.mak60,hx.dos60⟩
     ·rw [zFb] at h12 ⊢;exact h12
     ·have:=hx.wat12
      simp only [List.length_append,List.length_cons,List.length_nil]
      omega
   ·cases h
  ·cases h
 split at h
 ·split at h
  ·split at h
   ·cases h
   ·split at h
    ·cases h
    ·rename_i hne
     cases h
     refine ⟨hx.pre0,fun h=>(by cases h),fun h=>absurd (ha.symm.trans h) (by simp),fun _=>rfl,by simp,rfl,?_,?_,hx.wat12,hx.pk60,hx.mak60,by simp⟩
     ·rw [zFb] at h12 ⊢;exact h12
     ·rw [zHP]
      simp only [if_true]
      omega
  ·cases h
 ·cases h
def zE5 (x:Rs×List Op) (s:Bs):Option (Rs×List Op) :=
 if s=[] then some x else match zFI x.1 s with
 | some y=>some (y,x.2)
 | none=>match x.1.k with
  | 0=>if x.2.length=300 then none else some (x.1,x.2++[opR s])
  | 1=>if x.1.pk.length=60 then none else some ({ x.1 with pk:=x.1.pk++[opR s] },x.2)
  | 2=>if x.1.mak.length=60 then none else some ({ x.1 with mak:=x.1.mak++[opR s] },x.2)
  | _=>if x.1.dos.length=60 then none else some ({ x.1 with dos:=x.1.dos++[opR s] },x.2)
def zPz:List Bs->Rs×List Op->Option (Rs×List Op)
 | [],x=>some x
 | l::ls,x=>match zE5 x (zIN l) with
  | some y=>zPz ls y
  | none=>none
def finR:Option (Rs×List Op)->Script×Int
 | some x=>(⟨x.1.cls,x.2⟩,0)
 | none=>(⟨[],[]⟩,3)
theorem zMJ {x y:Rs×List Op} {s:Bs} (hx:x.1.Ok) (hm:x.2.length<=300) (h:zE5 x s=some y):y.1.Ok/\y.2.length<=300:=by
 unfold zE5 at h
 split at h
 ·cases h;exact ⟨hx,hm⟩
 split at h
 ·rename_i z hz
  cases h;exact ⟨zOv hx hz,hm⟩
 ·split at h
  ·split at h
   ·cases h
   ·cases h
    exact ⟨hx,by simp only [List.length_append,List.length_cons,List.length_nil];omega⟩
  ·split at h
   ·cases h
   ·rename_i hk hne
    cases h
    refine ⟨⟨hx.pre0,hx.hpre0,hx.k0,hx.k3,hx.kle,hx.most_,?_,hx.hooks12,hx.wat12,?_,hx.mak60,hx.dos60⟩,hm⟩
    ·have:=hx.cls12
     rw [zFb] at this ⊢;exact this
    ·have:=hx.pk60
     simp only [List.length_append,List.length_cons,List.length_nil];omega
  ·split at h
   ·cases h
   ·rename_i hk hne
    cases h
    refine ⟨⟨hx.pre0,hx.hpre0,hx.k0,hx.k3,hx.kle,hx.most_,?_,hx.hooks12,hx.wat12,hx.pk60,?_,hx.dos60⟩,hm⟩
    ·have:=hx.cls12
     rw [zFb] at this ⊢;exact this
    ·have:=hx.mak60
     simp only [List.length_append,List.length_cons,List.length_nil];omega
  ·split at h
   ·cases h
   ·rename_i hk hne
    cases h
    refine ⟨⟨hx.pre0,hx.hpre0,hx.k0,hx.k3,hx.kle,hx.most_,?_,?_,hx.wat12,hx.pk60,hx.mak60,?_⟩,hm⟩
    ·have:=hx.cls12
     rw [zFb] at this ⊢;exact this
    ·have:=hx.hooks12
     rw [zHP] at this ⊢;exact this
    ·have:=hx.dos60
     simp only [List.length_append,List.length_cons,List.length_nil];omega
theorem zSK {fu:Nat} (hf:30000<fu):∀(ls:List Bs) (x:Rs) (m:List Op),x.Ok->m.length<=300->(∀l∈ls,Line l/\l.length<=20000) ->
  zB0 fu ls (x.k,x.most,(x.pre,x.act),x.form,x.wat,x.pk,x.mak,(x.hpre,x.hact),x.kind,x.dos,m)=some (finR (zPz ls (x,m)))
 | [],x,m,hx,hm,hl=>rfl
 | l::ls,x,m,hx,hm,hl=>by
  obtain ⟨h1,h2⟩:=hl l (by simp)
  have hls:∀l∈ls,Line l/\l.length<=20000:=fun l hl'=>hl l (by simp [hl'])
  have ht:=zNS l
  have ih:=fun (y:Rs) (m':List Op) (hy:y.Ok) (hm':m'.length<=300)=>zSK hf ls y m' hy hm' hls
  rw [zB0,trim_m (by omega) h1,bnd_some,zBC,zPz]
  have hso:=fun y=>zMJ (y:=y) (s:=zIN l) (x:=(x,m)) hx hm
  unfold zE5 at hso ⊢
  by_cases h0:zIN l=[]
  ·rw [if_pos h0,if_pos h0]
   exact ih x m hx hm
  rw [if_neg h0] at hso
  rw [if_neg h0,if_neg h0,head_m hx (by omega) (by omega),bnd_some]
  dsimp only at hso ⊢
  cases hh:zFI x (zIN l) with
  | some y =>
   show cnd true (zB0 fu ls (y.k,y.most,(y.pre,y.act),y.form,y.wat,y.pk,y.mak,(y.hpre,y.hact),y.kind,y.dos,m)) _=_
   rw [cnd_true]
   exact ih y m (zOv hx hh) hm
  | none =>
   rw [hh] at hso
   obtain ⟨e,he⟩:=opR_m (fu:=fu) (s:=zIN l) (by omega) (by omega)
   rw [show outR x none=(false,x.k,x.most,(x.pre,x.act),x.form,(x.hpre,x.hact),x.kind,x.wat,x.pk,x.mak,x.dos) from rfl]
   dsimp only
   rw [cnd_false]
   have hmo:=hx.most_
   dsimp only at hso ⊢
   match hk:x.k,hx.kle with
   | 0,_ =>
    rw [hk] at hmo hso
    simp only [if_true] at hmo
    try dsimp only at hso
    show cnd (((m.length:Nat):Int)==x.most) _ _=_
    rw [hmo,zBC]
    by_cases h3:m.length=300
    ·rw [if_pos (by omega),if_pos h3];rfl
    ·rw [if_neg (by omega),if_neg h3,he,bnd_some,zBv (by simp;omega),bnd_some]
     have:=ih x (m++[opR (zIN l)]) hx (by simp;omega)
     rw [hk,hmo] at this
     exact this
   | 1,_ =>
    rw [hk] at hmo hso
    simp only [show ¬(1=0) by decide,if_false] at hmo
    try dsimp only at hso
    have hact:x.act=true:=by
     cases ha:x.act with
     | true=>rfl
     | false=>have:=hx.k0 ha;omega
    show bnd (zJc x.act) (fun _=>cnd (((x.pk.length:Nat):Int)==x.most) _ _)=_
    rw [hact,show zJc true=some () from rfl,bnd_some,hmo,zBC]
    by_cases h3:x.pk.length=60
    ·rw [if_pos (by omega),if_pos h3];rfl
    ·have hp:=hx.pk60
     rw [if_neg (by omega),if_neg h3,he,bnd_some,zBv (by simp;omega),bnd_some]
     have hy:=(hso _ (if_neg h3)).1
     have:=ih _ m hy hm
     dsimp only at this
     rw [hmo,hact] at this
     exact this
   | 2,_ =>
    rw [hk] at hmo hso
    simp only [show ¬(2=0) by decide,if_false] at hmo
    try dsimp only at hso
    have hact:x.act=true:=by
     cases ha:x.act with
     | true=>rfl
     | false=>have:=hx.k0 ha;omega
    show bnd (zJc x.act) (fun _=>cnd (((x.mak.length:Nat):Int)==x.most) _ _)=_
    rw [hact,show zJc true=some () from rfl,bnd_some,hmo,zBC]
    by_cases h3:x.mak.length=60
    ·rw [if_pos (by omega),if_pos h3];rfl
    ·have hp:=hx.mak60
     rw [if_neg (by omega),if_neg h3,he,bnd_some,zBv (by simp;omega),bnd_some]
     have hy:=(hso _ (if_neg h3)).1
     have:=ih _ m hy hm
     dsimp only at this
     rw [hmo,hact] at this
     exact this
   | 3,_ =>
    rw [hk] at hmo hso
    simp only [show ¬(3=0) by decide,if_false] at hmo
    try dsimp only at hso
    have hact:x.hact=true:=hx.k3 hk
    show bnd (zJc x.hact) (fun _=>cnd (((x.dos.length:Nat):Int)==x.most) _ _)=_
    rw [hact,show zJc true=some () from rfl,bnd_some,hmo,zBC]
    by_cases h3:x.dos.length=60
    ·rw [if_pos (by omega),if_pos h3];rfl
    ·have hp:=hx.dos60
     rw [if_neg (by omega),if_neg h3,he,bnd_some,zBv (by simp;omega),bnd_some]
     have hy:=(hso _ (if_neg h3)).1
     have:=ih _ m hy hm
     dsimp only at this
     rw [hmo,hact] at this
     exact this
def rs0:Rs:=⟨0,300,[],false,false,[],false,0,[],[],[],[]⟩
theorem zSb:rs0.Ok:=⟨fun _=>rfl,fun _=>rfl,fun _=>rfl,fun h=>(by cases h),by decide,rfl,by decide,by decide,by decide,by decide,by decide,by decide⟩
def zSH (s:Bs):Script×Int:=if s.length>16384 then (⟨[],[]⟩,3) else finR (zPz (zCK s) (rs0,[]))
theorem zSj {fu:Nat} (hf:30000<fu) (s:Bs):zES fu s=some (zSH s):=by
 unfold zES zSH
 rw [zCu]
 by_cases h:s.length>16384
 ·rw [if_pos (by omega),if_pos h]
 ·rw [if_neg (by omega),if_neg h,zUo,bnd_some,show fits s=some () from if_pos (by omega),bnd_some]
  exact zSK hf (zCK s) rs0 [] zSb (by simp) fun l hl=>⟨zHT s l hl,by have:=zHU hl;omega⟩
end Go.Proofs.YtoboimmgglnjfaaGreatDoor
/- Scripts: who is allowed, and the text that is put. -/
namespace Go.Proofs.YtoboimmgglnjfaaGreatDoor
open Go Go.Pw
set_option linter.unusedVariables false
theorem eqO (x y:Op):eqOp x y=decide (x=y):=by
 rw [Bool.eq_iff_iff,decide_eq_true_eq]
 obtain ⟨a1,a2,a3,a4,a5,a6,a7⟩:=x
 obtain ⟨b1,b2,b3,b4,b5,b6,b7⟩:=y
 simp [eqOp]
def okOp (o:Op):Bool:=decide (o=op0)||zE7 o
theorem odd_m (fu:Nat) (o:Op):zD9 fu o=some (!okOp o):=by
 unfold zD9 okOp
 rw [eqO,zHL,zCu]
 show (if o=op0 then some false else bnd (zFx fu o) fun r2=>some (!r2))=_
 by_cases h:o=op0
 ·rw [if_pos h,decide_eq_true h];rfl
 ·rw [if_neg h,decide_eq_false h,zSN,bnd_some,Bool.false_or]
theorem hasOp {fu:Nat} {t:Op->Option Bool} {p:Op->Bool} {l:List Op} (ht:∀x∈l,t x=some (p x)) (hf:l.length<fu) (hb:l.length<=1000000):zCA fu t l=some (l.any p):=by
 unfold zCA zDj
 obtain ⟨r,h1,h2⟩:=zJ0 (L:=zBR t l) l p (fun i hi k=>by
  simp only [zBR]
  rw [zAo (by simpa using hi),zCm hi,bnd_some,ht _ (List.getElem_mem hi),bnd_some,zAw (by omega),bnd_some]
  cases p l[i]<;>rfl) (fun k=>by simp only [zBR];rw [zAi (by simp)]) hf
 rw [h1,bnd_some,h2]
theorem zVU {fu:Nat} {t:Hook->Option Bool} {p:Hook->Bool} {l:List Hook} (ht:∀x∈l,t x=some (p x)) (hf:l.length<fu) (hb:l.length<=1000000):zB2 fu t l=some (l.any p):=by
 unfold zB2 zDH
 obtain ⟨r,h1,h2⟩:=zJ0 (L:=zBK t l) l p (fun i hi k=>by
  simp only [zBK]
  rw [zAo (by simpa using hi),zCm hi,bnd_some,ht _ (List.getElem_mem hi),bnd_some,zAw (by omega),bnd_some]
  cases p l[i]<;>rfl) (fun k=>by simp only [zBK];rw [zAi (by simp)]) hf
 rw [h1,bnd_some,h2]
theorem zTL {fu:Nat} {t:Class->Option Bool} {p:Class->Bool} {l:List Class} (ht:∀x∈l,t x=some (p x)) (hf:l.length<fu) (hb:l.length<=1000000):zBt fu t l=some (l.any p):=by
 unfold zBt zDD
 obtain ⟨r,h1,h2⟩:=zJ0 (L:=zBF t l) l p (fun i hi k=>by
  simp only [zBF]
  rw [zAo (by simpa using hi),zCm hi,bnd_some,ht _ (List.getElem_mem hi),bnd_some,zAw (by omega),bnd_some]
  cases p l[i]<;>rfl) (fun k=>by simp only [zBF];rw [zAi (by simp)]) hf
 rw [h1,bnd_some,h2]
theorem hasStr {fu:Nat} {t:Bs->Option Bool} {p:Bs->Bool} {l:List Bs} (ht:∀x∈l,t x=some (p x)) (hf:l.length<fu) (hb:l.length<=1000000):zB6 fu t l=some (l.any p):=by
 unfold zB6 zDb
 obtain ⟨r,h1,h2⟩:=zJ0 (L:=zBO t l) l p (fun i hi k=>by
  simp only [zBO]
  rw [zAo (by simpa using hi),zCm hi,bnd_some,ht _ (List.getElem_mem hi),bnd_some,zAw (by omega),bnd_some]
  cases p l[i]<;>rfl) (fun k=>by simp only [zBO];rw [zAi (by simp)]) hf
 rw [h1,bnd_some,h2]
theorem zLb {α : Type} (l:List α) (p : α -> Bool):(!(l.any fun x => !p x))=l.all p:=by induction l<;>simp_all
theorem zS1 {α : Type} (l:List α) (p : α -> Bool):(l.any fun x => !p x) = !(l.all p):=by rw [<- zLb,Bool.not_not]
def hokB (h:Hook):Bool:=decide (1<=h.Kind)&&(decide (h.Kind<=8)&&decide (h.Do.length<=60))
def clsB (c:Class):Bool:=decide (c.Watch.length<=12)&&(c.Watch.all fitB&&(decide (c.Hooks.length<=12)&&(c.Hooks.all hokB&&(decide (c.Peek.length<=60)&&decide (c.Make.length<=60)))))
theorem zGT (n:Nat) (m:Nat):decide (((n:Nat):Int)>(m:Int)) = !decide (n<=m):=by
 by_cases h:n<=m
 ·rw [decide_eq_true h,decide_eq_false (by omega)];rfl
 ·rw [decide_eq_false h,decide_eq_true (by omega)];rfl
theorem zTa (n:Nat) (m:Nat):decide (((n:Nat):Int)<=(m:Int))=decide (n<=m):=by
 rw [Bool.eq_iff_iff,decide_eq_true_eq,decide_eq_true_eq];omega
theorem zRf (fu:Nat) (l:List Op):zFS fu l=some (!decide (l.length<=60)):=congrArg some (zGT l.length 60)
theorem zWW {fu:Nat} (hf:300<fu) (s:Bs):zCT fu s=some (!fitB s):=by
 unfold zCT fitB
 rw [zUm (by omega),bnd_some]
 cases zGO s with
 | false=>rfl
 | true =>
  rw [if_pos rfl,Bool.true_and]
  rfl
theorem zWV (fu:Nat) (h:Hook):zCU fu h=some (!hokB h):=by
 unfold zCU hokB
 rw [zRf,bnd_some,zCu,zCu]
 by_cases h1:h.Kind<1
 ·rw [if_pos h1,decide_eq_false (by omega)];rfl
 ·rw [if_neg h1,decide_eq_true (show 1<=h.Kind by omega),Bool.true_and]
  by_cases h2:h.Kind>8
  ·rw [if_pos h2,decide_eq_false (by omega)];rfl
  ·rw [if_neg h2,decide_eq_true (show h.Kind<=8 by omega),Bool.true_and]
theorem zWY {fu:Nat} (hf:300<fu) (c:Class):zEz fu c=some (clsB c):=by
 unfold zEz clsB
 rw [show decide (((c.Watch.length:Nat):Int)<=12)=decide (c.Watch.length<=12) from zTa _ 12,show decide (((c.Hooks.length:Nat):Int)<=12)=decide (c.Hooks.length<=12) from zTa _ 12]
 by_cases h1:c.Watch.length<=12
 ·rw [decide_eq_true h1,cnd_true,hasStr (p:=fun s => !fitB s) (fun s _=>zWW hf s) (by omega) (by omega),bnd_some,zLb,Bool.true_and]
  cases c.Watch.all fitB with
  | false=>rfl
  | true =>
   rw [cnd_true,Bool.true_and]
   by_cases h2:c.Hooks.length<=12
   ·rw [decide_eq_true h2,cnd_true,zVU (p:=fun h => !hokB h) (fun h _=>zWV fu h) (by omega) (by omega),bnd_some,zLb,Bool.true_and]
    cases c.Hooks.all hokB with
    | false=>rfl
    | true =>
     rw [cnd_true,zRf,bnd_some,Bool.not_not,Bool.true_and,zRf,bnd_some]
     cases decide (c.Peek.length<=60)<;>simp
   ·rw [decide_eq_false h2];rfl
 ·rw [decide_eq_false h1];rfl
def okPr (y:zPo):Bool:=decide ((y.1.length:Int)<=y.2)&&y.1.all okOp
def zEa (s:Script):Bool:=(zBJ s).all okPr&&(decide (s.Classes.length<=12)&&s.Classes.all clsB)
theorem zQD (s:Script):∀y∈zBJ s,y.2<=300:=by
 intro y hy
 simp only [zBJ,List.mem_append,List.mem_flatMap,zJT,List.mem_cons,List.mem_map,List.not_mem_nil,or_false] at hy
 rcases hy with ⟨c,_,rfl | rfl | ⟨h,_,rfl⟩⟩ | rfl<;>simp
theorem zMW {fu:Nat} (hf:1000<fu) (s:Script):∀ys:List zPo,(∀y∈ys,y.2<=300)->zC0 fu s ys ()=some (ys.all okPr&&(decide (s.Classes.length<=12)&&s.Classes.all clsB))
 | [],_=>by
  rw [zC0,show decide (((s.Classes.length:Nat):Int)<=12)=decide (s.Classes.length<=12) from zTa _ 12,List.all_nil,Bool.true_and]
  by_cases h:s.Classes.length<=12
  ·rw [decide_eq_true h,cnd_true,zTL (p:=fun c => !clsB c) (fun c _=>?_) (by omega) (by omega),bnd_some,zLb,Bool.true_and]
   unfold zCl
   rw [zWY (by omega),bnd_some]
  ·rw [decide_eq_false h];rfl
 | y::ys,hy=>by
  have h3:=hy y (by simp)
  rw [zC0,List.all_cons,zCu]
  unfold okPr
  by_cases h:((y.1.length:Nat):Int)>y.2
  ·rw [if_pos h,decide_eq_false (by omega)];rfl
  ·rw [if_neg h,decide_eq_true (show (y.1.length:Int)<=y.2 by omega),hasOp (p:=fun o => !okOp o) (fun o _=>odd_m fu o) (by omega) (by omega),bnd_some,zS1,Bool.true_and]
   cases y.1.all okOp with
   | false=>rfl
   | true =>
    show cnd false _ _=_
    rw [cnd_false,zMW hf s ys fun z hz=>hy z (by simp [hz]),Bool.true_and]
    rfl
theorem zKA {fu:Nat} (hf:1000<fu) (s:Script):zDJ fu s=some (zEa s):=zMW hf s _ (zQD s)
end Go.Proofs.YtoboimmgglnjfaaGreatDoor
/- Scripts: the text that is put. -/
namespace Go.Proofs.YtoboimmgglnjfaaGreatDoor
open Go Go.Pw
set_option linter.unusedVariables false
set_option maxRecDepth 4000
def zGX (o:Op):Bs:=if zE7 o=true then putP o else [63]
def opL (o:Op):Bs:=zGX o++[10]
def opsT (h:Bs) (l:List Op):Bs:=(if l=[]\/h=[] then [] else h++[10])++l.flatMap opL
def zE8 (w:Bs):Bs:=([119,97,116,99,104]:Bs)++32::w++[10]
def zFJ (h:Hook):Bs:=([111,110]:Bs)++32::kindsL.getD h.Kind.toNat []++[10]++opsT [] h.Do
def clsH (c:Class):Bs:=(if c.Form then ([99,108,97,115,115]:Bs)++32::([102,111,114,109]:Bs) else ([99,108,97,115,115]:Bs))++[10]
def clsT (c:Class):Bs:=clsH c++(c.Watch.flatMap zE8++(opsT ([112,101,101,107]:Bs) c.Peek++(opsT ([109,97,107,101]:Bs) c.Make++c.Hooks.flatMap zFJ)))
def putR (s:Script):Bs:=s.Classes.flatMap clsT++opsT ([109,97,105,110]:Bs) s.Main
theorem zIq (o:Op):(zGX o).length<=1000:=by
 unfold zGX
 split
 ·rename_i h;exact zJt (right_iff.1 h)
 ·simp
theorem zF9 {α : Type} (f : α -> Bs) (n:Nat):∀(l:List α),(∀x∈l,(f x).length<=n)->(l.flatMap f).length<=l.length*n
 | [],_=>by simp
 | x::l,h=>by
  have:=zF9 f n l fun y hy=>h y (by simp [hy])
  have h1:=h x (by simp)
  simp only [List.flatMap_cons,List.length_append,List.length_cons,Nat.succ_mul]
  omega
theorem zFu (h:Bs) (l:List Op):(opsT h l).length<=h.length+1+l.length*1001:=by
 have:=zF9 opL 1001 l fun o _=>by unfold opL;have:=zIq o;simp;omega
 unfold opsT
 rw [List.length_append]
 split<;>simp only [List.length_nil,List.length_append,List.length_cons]<;>omega
theorem zTU (a b s:Bs):Lib.join [a,b] s=a++(s++b):=by simp [Lib.join,List.intercalate]
theorem zUp {fu:Nat} {ws:List Bs} {t:Bs} (h0:ws≠[]) (hn:ws.length<=100) (hj:(Lib.join ws [32]).length<=100000) (ht:t.length<=900000000):zAa fu ws (zAS t)=some (zAS (t++(Lib.join ws [32]++[10]))):=by
 unfold zAa zMw
 rw [if_pos ⟨h0,by omega,by omega⟩,bnd_some,wstr (by omega),bnd_some,wstr (by simp;omega),bnd_some,List.append_assoc]
theorem zN0 {fu:Nat} {w t:Bs} (hj:w.length<=100000) (ht:t.length<=900000000):zAa fu [w] (zAS t)=some (zAS (t++(w++[10]))):=by
 have h:Lib.join [w] [32]=w:=Lib.join_one _ _
 rw [zUp (by simp) (by simp) (by rw [h];exact hj) ht,h]
theorem zN1 {fu:Nat} {v w t:Bs} (hv:v.length<=100) (hj:w.length<=1000) (ht:t.length<=900000000):zAa fu [v,w] (zAS t)=some (zAS (t++(v++32::w++[10]))):=by
 have h:Lib.join [v,w] [32]=v++32::w:=zTU _ _ _
 rw [zUp (by simp) (by simp) (by rw [h];simp;omega) ht,h]
theorem zUs {fu:Nat} {l:List Op}:∀(j i k:Nat) (t:Bs),i+j=l.length->j<k->l.length<=100000->t.length+j*2000<=800000000->zA8 fu l k ((i:Int),zAS t)=some (zAS (t++(l.drop i).flatMap opL))
 | 0,i,k+1,t,hi,hk,hl,ht=>by
  rw [zA8,zAi (by simp;omega),List.drop_of_length_le (by omega)]
  simp
 | j+1,i,k+1,t,hi,hk,hl,ht=>by
  have hlt:i<l.length:=by omega
  rw [zA8,zAo (by simpa using hlt),zCm hlt,bnd_some,zVt,bnd_some]
  have hp:=zIq l[i]
  have e:∀w:Bs,w=zGX l[i]->bnd (zAa fu [w] (zAS t)) (fun r10=>bnd (rng .i64 ((i:Int)+1)) fun i12=>zA8 fu l k (i12,r10))=some (zAS (t++(l.drop i).flatMap opL)):=fun w hw=>by
   subst hw
   rw [zN0 (by omega) (by omega),bnd_some,zAw (by omega),bnd_some,zUs j (i+1) k _ (by omega) (by omega) hl (by simp;omega),List.drop_eq_getElem_cons hlt,List.flatMap_cons]
   simp [opL]
  unfold zGX at e
  by_cases hr:zE7 l[i]=true
  ·rw [if_pos hr] at e ⊢
   show cnd ((0:Int) != 0) _ _=_
   rw [show ((0:Int) != 0)=false from rfl,cnd_false]
   exact e _ rfl
  ·rw [if_neg hr] at e ⊢
   show cnd ((1:Int) != 0) _ _=_
   rw [show ((1:Int) != 0)=true from rfl,cnd_true]
   exact e _ rfl
theorem zPH {fu:Nat} {h:Bs} {l:List Op} {t:Bs} (hf:l.length<fu) (hh:h.length<=1000) (hl:l.length<=1000) (ht:t.length<=700000000):zBp fu h l (zAS t)=some (zAS (t++opsT h l)):=by
 unfold zBp zCZ opsT
 have key:∀t:Bs,t.length<=750000000->zA8 fu l fu (0,zAS t)=some (zAS (t++l.flatMap opL)):=fun t ht=>zUs l.length 0 fu t (by omega) hf (by omega) (by omega)
 cases l with
 | nil =>
  rw [zAi (by simp),key t (by omega)]
  simp
 | cons o l =>
  rw [zAo (by simp),zHL,zBC]
  by_cases h0:h=[]
  ·rw [if_pos h0,key t (by omega),if_pos (.inr h0)];rfl
  ·rw [if_neg h0,zN0 (by omega) (by omega),bnd_some,key _ (by simp;omega),if_neg (by simp [h0])]
   simp
theorem zIg (i:Nat):(kindsL.getD i []).length<=8:=by
 rcases Nat.lt_or_ge i 9 with h | h
 ·have:∀j:Fin 9,(kindsL.getD j []).length<=8:=by decide
  exact this ⟨i,h⟩
 ·rw [List.getD_eq_getElem?_getD,List.getElem?_eq_none (by simpa [kindsL] using h)];simp
theorem zTX {k:Int} (h1:1<=k) (h2:k<=8):idx kindsL k=some (kindsL.getD k.toNat []):=by
 have e:k=((k.toNat:Nat):Int):=by omega
 rw [e,zCm (by simp [kindsL];omega)]
 simp only [Int.toNat_natCast]
 rw [List.getD_eq_getElem?_getD,List.getElem?_eq_getElem (by simp [kindsL];omega)]
 rfl
theorem zUx {fu:Nat} {t3:Int} {c:Class} {rc:Int×List Int->Option (Bs×Int)} (hf:1000<fu) (hc:clsB c=true) (hp:100<fu):∀(j i k:Nat) (t:Bs),i+j=c.Hooks.length->j<k->t.length+j*70000<=600000000 ->
  zER fu t3 c rc k ((i:Int),zAS t)=bnd (rng .i64 (t3+1)) fun i24=>rc (i24,zAS (t++(c.Hooks.drop i).flatMap zFJ))
 | 0,i,k+1,t,hi,hk,ht=>by
  rw [zER,zAi (by simp;omega),List.drop_of_length_le (by omega)]
  simp
 | j+1,i,k+1,t,hi,hk,ht=>by
  have hlt:i<c.Hooks.length:=by omega
  simp only [clsB,Bool.and_eq_true,decide_eq_true_eq] at hc
  have hh:=List.all_eq_true.1 hc.2.2.2.1 c.Hooks[i] (List.getElem_mem hlt)
  simp only [hokB,Bool.and_eq_true,decide_eq_true_eq] at hh
  rw [zER,zAo (by simpa using hlt),zCm hlt,bnd_some,zRZ,bnd_some,zTX hh.1 hh.2.1,bnd_some]
  have hk8:=zIg c.Hooks[i].Kind.toNat
  have hol:=zFu [] c.Hooks[i].Do
  simp only [List.length_nil] at hol
  rw [zN1 (by simp) (by omega) (by omega),bnd_some,zPH (by omega) (by simp) (by omega) (by simp only [List.length_append,List.length_cons,List.length_nil];omega),bnd_some,zAw (by omega),bnd_some,
   zUx hf (by simp only [clsB,Bool.and_eq_true,decide_eq_true_eq];exact hc) hp j (i+1) k _ (by omega) (by omega) (by simp only [List.length_append,List.length_cons,List.length_nil];omega),List.drop_eq_getElem_cons hlt,List.flatMap_cons]
  simp [zFJ]
theorem zUw {fu:Nat} {t3:Int} {c:Class} {rc:Int×List Int->Option (Bs×Int)} (hf:1000<fu) (hc:clsB c=true):∀(j i k:Nat) (t:Bs),i+j=c.Watch.length->j<k->t.length+j*70000<=500000000 ->
  zEQ fu t3 c rc k ((i:Int),zAS t)=bnd (rng .i64 (t3+1)) fun i24=>rc (i24,zAS (t++((c.Watch.drop i).flatMap zE8++(opsT ([112,101,101,107]:Bs) c.Peek++(opsT ([109,97,107,101]:Bs) c.Make++c.Hooks.flatMap zFJ)))))
 | 0,i,k+1,t,hi,hk,ht=>by
  have hc':=hc
  simp only [clsB,Bool.and_eq_true,decide_eq_true_eq] at hc'
  have h1:=zFu ([112,101,101,107]:Bs) c.Peek
  have h2:=zFu ([109,97,107,101]:Bs) c.Make
  simp only [List.length_cons,List.length_nil] at h1 h2
  have hp1:=hc'.2.2.2.2.1
  have hp2:=hc'.2.2.2.2.2
  have hw:=hc'.2.2.1
  clear hc'
  have l1:(t++opsT ([112,101,101,107]:Bs) c.Peek).length=t.length+(opsT ([112,101,101,107]:Bs) c.Peek).length:=List.length_append
  have l2:((t++opsT ([112,101,101,107]:Bs) c.Peek)++opsT ([109,97,107,101]:Bs) c.Make).length=(t++opsT ([112,101,101,107]:Bs) c.Peek).length+(opsT ([109,97,107,101]:Bs) c.Make).length:=List.length_append
  have hb:(t++opsT ([112,101,101,107]:Bs) c.Peek).length<=700000000:=by omega
  have hb2:((t++opsT ([112,101,101,107]:Bs) c.Peek)++opsT ([109,97,107,101]:Bs) c.Make).length+c.Hooks.length*70000<=600000000:=by omega
  have q1:c.Peek.length<fu/\c.Peek.length<=1000/\t.length<=700000000:=by omega
  have q2:c.Make.length<fu/\c.Make.length<=1000:=by omega
  have e1:=zPH (fu:=fu) (h:=([112,101,101,107]:Bs)) (t:=t) q1.1 (by decide) q1.2.1 q1.2.2
  have e2:=zPH (fu:=fu) (h:=([109,97,107,101]:Bs)) q2.1 (by decide) q2.2 hb
  rw [zEQ,zAi (by simp;omega),e1,bnd_some,e2,bnd_some]
  have:=zUx (fu:=fu) (t3:=t3) (rc:=rc) hf hc (by omega) c.Hooks.length 0 fu ((t++opsT ([112,101,101,107]:Bs) c.Peek)++opsT ([109,97,107,101]:Bs) c.Make) (by omega) (by omega) hb2
  rw [show ((0:Nat):Int)=0 from rfl] at this
  rw [this,List.drop_of_length_le (by omega:c.Watch.length<=i)]
  simp
 | j+1,i,k+1,t,hi,hk,ht=>by
  have hlt:i<c.Watch.length:=by omega
  have hc':=hc
  simp only [clsB,Bool.and_eq_true,decide_eq_true_eq] at hc'
  have hw:=List.all_eq_true.1 hc'.2.1 c.Watch[i] (List.getElem_mem hlt)
  unfold fitB at hw
  simp only [Bool.and_eq_true] at hw
  have hwl:=(zHp hw.1).2
  rw [zEQ,zAo (by simpa using hlt),zCm hlt,bnd_some,zN1 (by simp) (by omega) (by omega),bnd_some,zAw (by omega),bnd_some,
   zUw hf hc j (i+1) k _ (by omega) (by omega) (by simp only [List.length_append,List.length_cons,List.length_nil];omega),List.drop_eq_getElem_cons hlt,List.flatMap_cons]
  simp [zE8]
theorem zQP {c:Class} (hc:clsB c=true):(c.Watch.flatMap zE8).length<=12*50:=by
 simp only [clsB,Bool.and_eq_true,decide_eq_true_eq] at hc
 have:=zF9 zE8 50 c.Watch fun w hw=>by
  have hw:=List.all_eq_true.1 hc.2.1 w hw
  unfold fitB at hw
  simp only [Bool.and_eq_true] at hw
  have hwl:=(zHp hw.1).2
  simp [zE8];omega
 have h1:=hc.1
 have:c.Watch.length*50<=12*50:=Nat.mul_le_mul_right _ h1
 omega
theorem zOh {c:Class} (hc:clsB c=true):(clsT c).length<=1000000:=by
 have hw:=zQP hc
 simp only [clsB,Bool.and_eq_true,decide_eq_true_eq] at hc
 have h1:=zFu ([112,101,101,107]:Bs) c.Peek
 have h2:=zFu ([109,97,107,101]:Bs) c.Make
 simp only [List.length_cons,List.length_nil] at h1 h2
 have h3:=zF9 zFJ 62000 c.Hooks fun h hh=>by
  have hh:=List.all_eq_true.1 hc.2.2.2.1 h hh
  simp only [hokB,Bool.and_eq_true,decide_eq_true_eq] at hh
  have hol:=zFu [] h.Do
  simp only [List.length_nil] at hol
  have:=zIg h.Kind.toNat
  simp only [zFJ,List.length_append,List.length_cons,List.length_nil]
  omega
 have h4:(clsH c).length<=20:=by unfold clsH;split<;>simp
 unfold clsT
 simp only [List.length_append]
 omega
def finP (t:Bs):Bs×Int:=if t.length>16384 then ([],3) else (t,0)
theorem zUv {fu:Nat} {s:Script} (hf:1000<fu) (hs:s.Classes.length<=12) (hc:∀c∈s.Classes,clsB c=true) (hm:s.Main.length<=300):∀(j i k:Nat) (t:Bs),i+j=s.Classes.length->j<k->t.length+j*1000000<=300000000 ->
  zBh fu s k ((i:Int),zAS t)=some (finP (t++((s.Classes.drop i).flatMap clsT++opsT ([109,97,105,110]:Bs) s.Main)))
 | 0,i,k+1,t,hi,hk,ht=>by
  have h1:=zFu ([109,97,105,110]:Bs) s.Main
  simp only [List.length_cons,List.length_nil] at h1
  rw [zBh,zAi (by simp;omega),zPH (by omega) (by simp) (by omega) (by omega),bnd_some,List.drop_of_length_le (by omega)]
  unfold zEA
  rw [bnd_some,zKE,zCu,bstr,bnd_some,List.flatMap_nil,List.nil_append]
  unfold finP
  by_cases h:(t++opsT ([109,97,105,110]:Bs) s.Main).length>16384
  ·rw [if_pos h,if_pos (by omega)]
  ·rw [if_neg h,if_neg (by omega)]
 | j+1,i,k+1,t,hi,hk,ht=>by
  have hlt:i<s.Classes.length:=by omega
  have hci:=hc _ (List.getElem_mem hlt)
  have hcl:=zOh hci
  have hci':=hci
  simp only [clsB,Bool.and_eq_true,decide_eq_true_eq] at hci'
  have e:∀h:Bs,h=clsH s.Classes[i]->zEy fu (i:Int) s.Classes[i] (zBh fu s k) (zAS (t++h))=some (finP (t++((s.Classes.drop i).flatMap clsT++opsT ([109,97,105,110]:Bs) s.Main))):=fun h hh=>by
   subst hh
   have h4:(clsH s.Classes[i]).length<=20:=by unfold clsH;split<;>simp
   unfold zEy
   have:=zUw (fu:=fu) (t3:=(i:Int)) (rc:=zBh fu s k) hf hci s.Classes[i].Watch.length 0 fu (t++clsH s.Classes[i]) (by omega) (by omega) (by simp only [List.length_append];omega)
   rw [show ((0:Nat):Int)=0 from rfl] at this
   rw [this,zAw (by omega),bnd_some,List.drop_zero,List.append_assoc]
   show zBh fu s k (((i+1:Nat):Int),zAS (t++clsT s.Classes[i]))=_
   rw [zUv hf hs hc hm j (i+1) k _ (by omega) (by omega) (by simp only [List.length_append];omega),List.drop_eq_getElem_cons hlt,List.flatMap_cons]
   simp
  rw [zBh,zAo (by simpa using hlt),zCm hlt,bnd_some]
  unfold clsH at e
  cases hF:s.Classes[i].Form with
  | true =>
   rw [hF] at e
   rw [cnd_true,zN1 (by simp) (by simp) (by omega),bnd_some]
   exact e _ rfl
  | false =>
   rw [hF] at e
   rw [cnd_false,zN0 (by simp) (by omega),bnd_some]
   exact e _ rfl
theorem zEh {s:Script} (h:zEa s=true):s.Classes.length<=12/\(∀c∈s.Classes,clsB c=true)/\s.Main.length<=300:=by
 unfold zEa at h
 simp only [Bool.and_eq_true,decide_eq_true_eq] at h
 refine ⟨h.2.1,fun c hc=>List.all_eq_true.1 h.2.2 c hc,?_⟩
 have:=List.all_eq_true.1 h.1 (s.Main,300) (by simp [zBJ])
 simp only [okPr,Bool.and_eq_true,decide_eq_true_eq] at this
 omega
def putA (s:Script):Bs×Int:=if zEa s=true then finP (putR s) else ([],1)
theorem zU1 {fu:Nat} (hf:1000<fu) (s:Script):zEq fu s=some (putA s):=by
 unfold zEq putA
 rw [zKA (by omega),bnd_some]
 cases h:zEa s with
 | false=>rfl
 | true =>
  obtain ⟨h1,h2,h3⟩:=zEh h
  rw [if_pos rfl]
  show cnd false _ _=_
  rw [cnd_false]
  have:=zUv (fu:=fu) hf h1 h2 h3 s.Classes.length 0 fu [] (by omega) (by omega) (by simp;omega)
  exact this
end Go.Proofs.YtoboimmgglnjfaaGreatDoor
/- Scripts: what is put is read as it was. -/
namespace Go.Proofs.YtoboimmgglnjfaaGreatDoor
open Go Go.Pw
set_option linter.unusedVariables false
def zEL (s:Bs):List Bs:=(zCK s).map zIN
def zDE:List Bs->Rs×List Op->Option (Rs×List Op)
 | [],x=>some x
 | t::ts,x=>match zE5 x t with
  | some y=>zDE ts y
  | none=>none
theorem zRL:∀(ls:List Bs) (x:Rs×List Op),zPz ls x=zDE (ls.map zIN) x
 | [],x=>rfl
 | l::ls,x=>by
  rw [zPz,List.map_cons,zDE]
  cases zE5 x (zIN l) with
  | none=>rfl
  | some y=>exact zRL ls y
theorem zSI (s:Bs):zSH s=if s.length>16384 then (⟨[],[]⟩,3) else finR (zDE (zEL s) (rs0,[])):=by
 unfold zSH zEL
 rw [zRL]
theorem zGA:∀(l m:List Bs) (x:Rs×List Op),zDE (l++m) x=match zDE l x with
  | some y=>zDE m y
  | none=>none
 | [],m,x=>rfl
 | t::l,m,x=>by
  rw [List.cons_append,zDE,zDE]
  cases zE5 x t with
  | none=>rfl
  | some y=>exact zGA l m y
theorem zLT {t:Bs} (r:Bs) (h:(10:UInt8)∉t):zEL (t++10::r)=t::zEL r:=by
 unfold zEL
 rw [zJN h,List.map_cons]
 congr 1
 unfold zIN
 rw [List.filter_append,show t.filter (fun b=>b != 10)=t from zId h]
 simp
theorem zLU:∀(ts:List Bs) (r:Bs),(∀t∈ts,(10:UInt8)∉t)->zEL (ts.flatMap (fun t=>t++[10])++r)=ts++zEL r
 | [],r,_=>rfl
 | t::ts,r,h=>by
  rw [List.flatMap_cons,List.append_assoc,List.append_assoc,List.singleton_append,zLT _ (h t (by simp)),zLU ts r fun u hu=>h u (by simp [hu])]
  rfl
def opsL (h:Bs) (l:List Op):List Bs:=(if l=[]\/h=[] then [] else [h])++l.map zGX
def zNv (h:Hook):List Bs:=(([111,110]:Bs)++32::kindsL.getD h.Kind.toNat [])::opsL [] h.Do
def clsF (c:Class):Bs:=if c.Form then ([99,108,97,115,115]:Bs)++32::([102,111,114,109]:Bs) else ([99,108,97,115,115]:Bs)
def clsL (c:Class):List Bs:=clsF c::(c.Watch.map (fun w=>([119,97,116,99,104]:Bs)++32::w)++(opsL ([112,101,101,107]:Bs) c.Peek++(opsL ([109,97,107,101]:Bs) c.Make++c.Hooks.flatMap zNv)))
def putL (s:Script):List Bs:=s.Classes.flatMap clsL++opsL ([109,97,105,110]:Bs) s.Main
abbrev nl (t:Bs):Bs:=t++[10]
theorem zPB (h:Bs) (l:List Op):opsT h l=(opsL h l).flatMap nl:=by
 unfold opsT opsL
 rw [List.flatMap_append]
 congr 1
 ·split<;>simp
 ·rw [List.flatMap_map];rfl
theorem zVV (h:Hook):zFJ h=(zNv h).flatMap nl:=by
 unfold zFJ zNv
 rw [zPB,List.flatMap_cons]
theorem flat2 {α : Type} (l:List α) (f : α -> Bs) (g : α -> List Bs) (h:∀x∈l,f x=(g x).flatMap nl):l.flatMap f=(l.flatMap g).flatMap nl:=by
 induction l with
 | nil=>rfl
 | cons a l ih =>
  rw [List.flatMap_cons,List.flatMap_cons,List.flatMap_append,h a (by simp),ih fun x hx=>h x (by simp [hx])]
theorem clsT_L (c:Class):clsT c=(clsL c).flatMap nl:=by
 unfold clsT clsL
 rw [List.flatMap_cons,List.flatMap_append,List.flatMap_append,List.flatMap_append,zPB,zPB,flat2 c.Hooks zFJ zNv fun h _=>zVV h,List.flatMap_map]
 rfl
theorem putR_L (s:Script):putR s=(putL s).flatMap nl:=by
 unfold putR putL
 rw [List.flatMap_append,zPB,flat2 s.Classes clsT clsL fun c _=>clsT_L c]
theorem zTp (o:Op):(10:UInt8)∉zGX o:=by
 unfold zGX
 split
 ·rename_i h;exact zR7 (right_iff.1 h)
 ·decide
theorem zTo (o:Op):zGX o≠[]:=by
 unfold zGX
 split
 ·rename_i h;exact zVs (right_iff.1 h)
 ·decide
theorem zL1 {h:Bs} {l:List Op} (hh:(10:UInt8)∉h):∀t∈opsL h l,(10:UInt8)∉t:=by
 intro t ht
 unfold opsL at ht
 rcases List.mem_append.1 ht with ht | ht
 ·split at ht
  ·cases ht
  ·rw [List.mem_singleton.1 ht];exact hh
 ·obtain ⟨o,_,rfl⟩:=List.mem_map.1 ht
  exact zTp o
theorem zTY (i:Nat):(10:UInt8)∉kindsL.getD i []:=by
 rcases Nat.lt_or_ge i 9 with h | h
 ·have:∀j:Fin 9,(10:UInt8)∉kindsL.getD j []:=by decide
  exact this ⟨i,h⟩
 ·rw [List.getD_eq_getElem?_getD,List.getElem?_eq_none (by simpa [kindsL] using h)];simp
theorem fit_no {w:Bs} (h:fitB w=true):(10:UInt8)∉w:=fun hm=>by
 simp only [fitB,zGO,Bool.and_eq_true] at h
 have:=List.all_eq_true.1 h.1.1.2 10 hm
 revert this
 decide
theorem zVL {c:Class} (hc:clsB c=true):∀t∈clsL c,(10:UInt8)∉t:=by
 intro t ht
 simp only [clsB,Bool.and_eq_true,decide_eq_true_eq] at hc
 unfold clsL at ht
 rcases List.mem_cons.1 ht with rfl | ht
 ·unfold clsF;split<;>decide
 rcases List.mem_append.1 ht with ht | ht
 ·obtain ⟨w,hw,rfl⟩:=List.mem_map.1 ht
  have:=fit_no (List.all_eq_true.1 hc.2.1 w hw)
  simp [this]
 rcases List.mem_append.1 ht with ht | ht
 ·exact zL1 (by decide) t ht
 rcases List.mem_append.1 ht with ht | ht
 ·exact zL1 (by decide) t ht
 ·obtain ⟨h,hh,ht⟩:=List.mem_flatMap.1 ht
  rcases List.mem_cons.1 ht with rfl | ht
  ·have:=zTY h.Kind.toNat
   simp only [List.mem_append,List.mem_cons,not_or]
   exact ⟨by decide,by decide,this⟩
  ·exact zL1 (by simp) t ht
theorem zVr {s:Script} (h:zEa s=true):∀t∈putL s,(10:UInt8)∉t:=by
 intro t ht
 obtain ⟨_,h2,_⟩:=zEh h
 rcases List.mem_append.1 ht with ht | ht
 ·obtain ⟨c,hc,ht⟩:=List.mem_flatMap.1 ht
  exact zVL (h2 c hc) t ht
 ·exact zL1 (by decide) t ht
theorem zSp {s:Script} (h:zEa s=true) (r:Bs):zEL (putR s++r)=putL s++zEL r:=by
 rw [putR_L]
 exact zLU (putL s) r (zVr h)
def zNu (w:Bs):Prop:=w=([109,97,105,110]:Bs)\/w=([99,108,97,115,115]:Bs)\/w=([112,101,101,107]:Bs)\/w=([109,97,107,101]:Bs)\/w=([119,97,116,99,104]:Bs)\/w=([111,110]:Bs)
theorem zP2 {x:Rs} {s:Bs} (h:¬zNu (cutS s).1):zFI x s=none:=by
 unfold zFI
 have h1:s≠([109,97,105,110]:Bs):=fun e=>h (by subst e;exact .inl rfl)
 have h2:¬(s=([99,108,97,115,115]:Bs)\/s=[99,108,97,115,115,32,102,111,114,109]):=fun e=>h (by rcases e with rfl | rfl<;>exact .inr (.inl rfl))
 have h3:s≠([112,101,101,107]:Bs):=fun e=>h (by subst e;exact .inr (.inr (.inl rfl)))
 have h4:s≠([109,97,107,101]:Bs):=fun e=>h (by subst e;exact .inr (.inr (.inr (.inl rfl))))
 have h5:(cutS s).1≠([119,97,116,99,104]:Bs):=fun e=>h (.inr (.inr (.inr (.inr (.inl e)))))
 have h6:(cutS s).1≠([111,110]:Bs):=fun e=>h (.inr (.inr (.inr (.inr (.inr e)))))
 rw [if_neg h1,if_neg h2,if_neg h3,if_neg h4,if_neg h5,if_neg h6]
 split<;>rfl
theorem zQz {w:Bs} (l:List Bs) (h:(32:UInt8)∉w):(cutS (w++tl l)).1=w:=by
 cases l with
 | nil=>rw [zCx,List.append_nil,zNj h]
 | cons f l=>rw [zDF,zGv _ h]
theorem zWT {k:Int} (hk:Knd k):(32:UInt8)∉wd k/\(33:UInt8)∉wd k/\¬zNu (wd k):=by
 unfold zNu
 rcases zHS hk with rfl | rfl | rfl | rfl | rfl | rfl | rfl | rfl | rfl | rfl | rfl | rfl | rfl | rfl | rfl | rfl | rfl | rfl | rfl | rfl | rfl | rfl | rfl | rfl | rfl | rfl | rfl | rfl<;>decide
theorem zQE (o:Op):¬zNu (cutS (zGX o)).1:=by
 unfold zGX
 split
 ·rename_i h
  have hr:=right_iff.1 h
  obtain ⟨h1,h2,h3⟩:=zWT hr.kind
  unfold putP bang
  cases o.Must with
  | false =>
   rw [if_neg (by simp),List.nil_append,zQz _ h1]
   exact h3
  | true =>
   have e:(cutS ((if true=true then [33] else [])++(wd o.Kind++tl (zEI o)))).1=33::wd o.Kind:=by
    rw [if_pos rfl,<- List.append_assoc,zQz _ (by simp [h1])]
    rfl
   rw [e]
   unfold zNu
   simp
 ·unfold zNu;decide
theorem putP_q {o:Op} (h:RightP o) (r:Bs):putP o≠63::r:=fun e=>by
 obtain ⟨b,w,hw,h1,h2⟩:=zMR h.kind
 unfold putP bang at e
 rw [hw] at e
 cases hm:o.Must with
 | true=>rw [hm] at e;simp at e
 | false =>
  rw [hm] at e
  simp only [Bool.false_eq_true,if_false,List.nil_append,List.cons_append,List.cons.injEq] at e
  rw [e.1] at h1
  revert h1
  decide
theorem opR_q:opR [63]=op0:=by
 unfold opR
 rw [zSL (by simp) (by simp) fun o ho=>putP_q ho []]
theorem opR_op {o:Op} (h:okOp o=true):opR (zGX o)=o:=by
 unfold zGX
 by_cases hr:zE7 o=true
 ·rw [if_pos hr]
  exact zVh (right_iff.1 hr) (by have:=zJt (right_iff.1 hr);omega)
 ·rw [if_neg hr]
  unfold okOp at h
  have:o=op0:=by
   simp only [Bool.or_eq_true,decide_eq_true_eq] at h
   exact h.resolve_right hr
  rw [this]
  exact opR_q
end Go.Proofs.YtoboimmgglnjfaaGreatDoor
/- Scripts: the reader over the lines that were put. -/
namespace Go.Proofs.YtoboimmgglnjfaaGreatDoor
open Go Go.Pw
set_option linter.unusedVariables false
abbrev RS:=Rs×List Op
def cur (p:RS):List Op:=match p.1.k with
 | 0=>p.2
 | 1=>p.1.pk
 | 2=>p.1.mak
 | _=>p.1.dos
def lim (p:RS):Nat:=match p.1.k with
 | 0=>300
 | _=>60
def addk (p:RS) (l:List Op):RS:=match p.1.k with
 | 0=>(p.1,p.2++l)
 | 1=>({ p.1 with pk:=p.1.pk++l },p.2)
 | 2=>({ p.1 with mak:=p.1.mak++l },p.2)
 | _=>({ p.1 with dos:=p.1.dos++l },p.2)
theorem zNR {p:RS} {s:Bs} (h0:s≠[]) (hh:zFI p.1 s=none):zE5 p s=if (cur p).length=lim p then none else some (addk p [opR s]):=by
 unfold zE5
 rw [if_neg h0,hh]
 rcases p with ⟨⟨k,most,pre,act,form,hpre,hact,kind,wat,pk,mak,dos⟩,m⟩
 match k with
 | 0=>rfl
 | 1=>rfl
 | 2=>rfl
 | k+3=>rfl
theorem zSz (p:RS):addk p []=p:=by
 rcases p with ⟨⟨k,most,pre,act,form,hpre,hact,kind,wat,pk,mak,dos⟩,m⟩
 match k with
 | 0=>simp [addk]
 | 1=>simp [addk]
 | 2=>simp [addk]
 | k+3=>simp [addk]
theorem zSx (p:RS) (l r:List Op):addk (addk p l) r=addk p (l++r):=by
 rcases p with ⟨⟨k,most,pre,act,form,hpre,hact,kind,wat,pk,mak,dos⟩,m⟩
 match k with
 | 0=>simp [addk]
 | 1=>simp [addk]
 | 2=>simp [addk]
 | k+3=>simp [addk]
theorem zSy (p:RS) (l:List Op):cur (addk p l)=cur p++l/\lim (addk p l)=lim p:=by
 rcases p with ⟨⟨k,most,pre,act,form,hpre,hact,kind,wat,pk,mak,dos⟩,m⟩
 match k with
 | 0=>simp [addk,cur,lim]
 | 1=>simp [addk,cur,lim]
 | 2=>simp [addk,cur,lim]
 | k+3=>simp [addk,cur,lim]
theorem zK4:∀(ts:List Bs) (p:RS),(∀t∈ts,t≠[]/\¬zNu (cutS t).1)->(cur p).length<=lim p->zDE ts p=if (cur p).length+ts.length<=lim p then some (addk p (ts.map opR)) else none
 | [],p,_,h=>by rw [if_pos (by simpa using h),List.map_nil,zSz];rfl
 | t::ts,p,ht,h=>by
  obtain ⟨h1,h2⟩:=ht t (by simp)
  obtain ⟨c1,c2⟩:=zSy p [opR t]
  rw [zDE,zNR h1 (zP2 h2)]
  by_cases he:(cur p).length=lim p
  ·rw [if_pos he,if_neg (by simp;omega)]
  ·rw [if_neg he]
   show zDE ts (addk p [opR t])=_
   rw [zK4 ts _ (fun u hu=>ht u (by simp [hu])) (by rw [c1,c2,List.length_append,List.length_singleton];omega),c1,c2,zSx,List.length_append,List.length_singleton,List.length_cons,List.map_cons,List.singleton_append]
   by_cases hl:(cur p).length+1+ts.length<=lim p
   ·rw [if_pos hl,if_pos (by omega)]
   ·rw [if_neg hl,if_neg (by omega)]
theorem zVc {l:List Op} (h:∀o∈l,okOp o=true):(l.map zGX).map opR=l:=by
 rw [List.map_map]
 exact (List.map_congr_left (g:=id) fun o ho=>opR_op (h o ho)).trans (List.map_id l)
theorem zJk {l:List Op} {p:RS} (h:∀o∈l,okOp o=true) (hc:(cur p).length<=lim p):zDE (l.map zGX) p=if (cur p).length+l.length<=lim p then some (addk p l) else none:=by
 rw [zK4 _ _ (fun t ht=>?_) hc,zVc h,List.length_map]
 obtain ⟨o,_,rfl⟩:=List.mem_map.1 ht
 exact ⟨zTo o,zQE o⟩
theorem zSk (p:RS):zE5 p ([109,97,105,110]:Bs)=some ({ p.1 with k:=0,most:=300 },p.2):=rfl
theorem zQM {p:RS} {c:Class} (h:p.1.cls.length<12):zE5 p (clsF c)=some (⟨2,60,p.1.cls,true,c.Form,[],false,0,[],[],[],[]⟩,p.2):=by
 have key:∀s:Bs,s=([99,108,97,115,115]:Bs)\/s=[99,108,97,115,115,32,102,111,114,109]->zE5 p s=some (⟨2,60,p.1.cls,true,(cutS s).2.2,[],false,0,[],[],[],[]⟩,p.2):=fun s hs=>by
  unfold zE5 zFI
  have h0:s≠[]:=by rcases hs with rfl | rfl<;>simp
  have h1:s≠[109,97,105,110]:=by rcases hs with rfl | rfl<;>simp
  rw [if_neg h0,if_neg h1,if_pos hs,if_neg (by omega)]
 unfold clsF
 cases c.Form with
 | true=>rw [if_pos rfl];exact key _ (.inr rfl)
 | false=>rw [if_neg (by simp)];exact key _ (.inl rfl)
theorem zSm {p:RS} (ha:p.1.act=true):zE5 p ([112,101,101,107]:Bs)=some ({ p.1 with k:=1,most:=60 },p.2):=by
 unfold zE5 zFI
 rw [if_neg (by simp),if_neg (by simp),if_neg (by simp),if_neg (by rw [ha];simp),if_pos rfl]
theorem zSl {p:RS} (ha:p.1.act=true):zE5 p ([109,97,107,101]:Bs)=some ({ p.1 with k:=2,most:=60 },p.2):=by
 unfold zE5 zFI
 rw [if_neg (by simp),if_neg (by simp),if_neg (by simp),if_neg (by rw [ha];simp),if_neg (by simp),if_pos rfl]
theorem zQN {p:RS} {w:Bs} (ha:p.1.act=true) (hw:fitB w=true) (hl:p.1.wat.length<12):zE5 p (([119,97,116,99,104]:Bs)++32::w)=some ({ p.1 with wat:=p.1.wat++[w] },p.2):=by
 have hcut:cutS (([119,97,116,99,104]:Bs)++32::w)=(([119,97,116,99,104]:Bs),w,true):=zGv w (by decide)
 unfold zE5 zFI
 rw [if_neg (by simp),if_neg (by simp),if_neg (by simp),if_neg (by rw [ha];simp),if_neg (by simp),if_neg (by simp),hcut]
 dsimp only
 rw [if_pos rfl,if_pos rfl,if_pos hw,if_neg (by omega)]
theorem zO1 {k:Int} (h1:1<=k) (h2:k<=8):zGB (kindsL.getD k.toNat [])=k:=by
 have:∀j:Fin 9,zGB (kindsL.getD j [])=(j:Nat):=by decide
 have:=this ⟨k.toNat,by omega⟩
 rw [this]
 simp only
 omega
theorem zWG {p:RS} {k:Int} (ha:p.1.act=true) (h1:1<=k) (h2:k<=8) (hl:p.1.hooks.length<12):zE5 p (([111,110]:Bs)++32::kindsL.getD k.toNat [])=some ({ p.1 with k:=3,most:=60,hpre:=p.1.hooks,hact:=true,kind:=k,dos:=[] },p.2):=by
 have hcut:cutS (([111,110]:Bs)++32::kindsL.getD k.toNat [])=(([111,110]:Bs),kindsL.getD k.toNat [],true):=zGv _ (by decide)
 unfold zE5 zFI
 rw [if_neg (by simp),if_neg (by simp),if_neg (by simp),if_neg (by rw [ha];simp),if_neg (by simp),if_neg (by simp),hcut]
 dsimp only
 rw [if_neg (by simp),if_pos rfl,if_pos rfl,zO1 h1 h2,if_neg (by omega),if_neg (by omega)]
theorem zK5:∀(ws:List Bs) (x:Rs) (m:List Op),x.act=true->(∀w∈ws,fitB w=true)->x.wat.length+ws.length<=12->zDE (ws.map fun w=>([119,97,116,99,104]:Bs)++32::w) (x,m)=some ({ x with wat:=x.wat++ws },m)
 | [],x,m,_,_,_=>by simp [zDE]
 | w::ws,x,m,ha,hw,hl=>by
  simp only [List.length_cons] at hl
  rw [List.map_cons,zDE,zQN ha (hw w (by simp)) (show x.wat.length<12 by omega)]
  show zDE _ ({ x with wat:=x.wat++[w] },m)=_
  rw [zK5 ws { x with wat:=x.wat++[w] } m ha (fun v hv=>hw v (by simp [hv])) (by simp;omega)]
  simp
theorem zRP {x:Rs} {m l:List Op} (ha:x.act=true) (h0:x.pk=[]) (hl:l.length<=60) (ho:∀o∈l,okOp o=true):∃k most,zDE (opsL ([112,101,101,107]:Bs) l) (x,m)=some ({ x with k:=k,most:=most,pk:=l },m):=by
 unfold opsL
 by_cases h:l=[]
 ·subst h
  refine ⟨x.k,x.most,?_⟩
  rw [if_pos (.inl rfl)]
  cases x
  simp only at h0
  subst h0
  rfl
 ·refine ⟨1,60,?_⟩
  rw [if_neg (by simp [h]),List.singleton_append,zDE,zSm ha]
  show zDE _ ({ x with k:=1,most:=60 },m)=_
  refine (zJk (p:=({ x with k:=1,most:=60 },m)) ho (show (x.pk).length<=60 by rw [h0];simp)).trans ((if_pos (show x.pk.length+l.length<=60 by rw [h0];simpa using hl)).trans ?_)
  show some ({ x with k:=1,most:=60,pk:=x.pk++l },m)=_
  rw [h0];rfl
theorem zRO {x:Rs} {m l:List Op} (ha:x.act=true) (h0:x.mak=[]) (hl:l.length<=60) (ho:∀o∈l,okOp o=true):∃k most,zDE (opsL ([109,97,107,101]:Bs) l) (x,m)=some ({ x with k:=k,most:=most,mak:=l },m):=by
 unfold opsL
 by_cases h:l=[]
 ·subst h
  refine ⟨x.k,x.most,?_⟩
  rw [if_pos (.inl rfl)]
  cases x
  simp only at h0
  subst h0
  rfl
 ·refine ⟨2,60,?_⟩
  rw [if_neg (by simp [h]),List.singleton_append,zDE,zSl ha]
  show zDE _ ({ x with k:=2,most:=60 },m)=_
  refine (zJk (p:=({ x with k:=2,most:=60 },m)) ho (show (x.mak).length<=60 by rw [h0];simp)).trans ((if_pos (show x.mak.length+l.length<=60 by rw [h0];simpa using hl)).trans ?_)
  show some ({ x with k:=2,most:=60,mak:=x.mak++l },m)=_
  rw [h0];rfl
theorem zRM {x:Rs} {m:List Op} {h:Hook} (ha:x.act=true) (hb:hokB h=true) (hl:x.hooks.length<12) (ho:∀o∈h.Do,okOp o=true) :
  zDE (zNv h) (x,m)=some ({ x with k:=3,most:=60,hpre:=x.hooks,hact:=true,kind:=h.Kind,dos:=h.Do },m):=by
 simp only [hokB,Bool.and_eq_true,decide_eq_true_eq] at hb
 unfold zNv opsL
 rw [if_pos (.inr rfl),zDE,zWG ha hb.1 hb.2.1 hl]
 show zDE (h.Do.map zGX) ({ x with k:=3,most:=60,hpre:=x.hooks,hact:=true,kind:=h.Kind,dos:=[] },m)=_
 refine (zJk (p:=({ x with k:=3,most:=60,hpre:=x.hooks,hact:=true,kind:=h.Kind,dos:=[] },m)) ho (show (0:Nat)<=60 by omega)).trans ((if_pos (show 0+h.Do.length<=60 by omega)).trans ?_)
 rfl
theorem zK3:∀(hs:List Hook) (x:Rs) (m:List Op),x.act=true->(∀h∈hs,hokB h=true)->x.hooks.length+hs.length<=12->(∀h∈hs,∀o∈h.Do,okOp o=true) ->
  ∃y,zDE (hs.flatMap zNv) (x,m)=some (y,m)/\y.act=true/\y.pre=x.pre/\y.form=x.form/\y.wat=x.wat/\y.pk=x.pk/\y.mak=x.mak/\y.hooks=x.hooks++hs
 | [],x,m,ha,_,_,_=>⟨x,rfl,ha,rfl,rfl,rfl,rfl,rfl,by simp⟩
 | h::hs,x,m,ha,hb,hl,ho=>by
  simp only [List.length_cons] at hl
  have h1:=zRM (m:=m) ha (hb h (by simp)) (by omega) (ho h (by simp))
  have hh:Rs.hooks { x with k:=3,most:=60,hpre:=x.hooks,hact:=true,kind:=h.Kind,dos:=h.Do }=x.hooks++[h]:=rfl
  obtain ⟨y,g1,g2,g3,g4,g5,g6,g7,g8⟩:=zK3 hs { x with k:=3,most:=60,hpre:=x.hooks,hact:=true,kind:=h.Kind,dos:=h.Do } m ha (fun z hz=>hb z (by simp [hz])) (by rw [hh];simp;omega) (fun z hz=>ho z (by simp [hz]))
  refine ⟨y,?_,g2,g3,g4,g5,g6,g7,by rw [g8,hh];simp⟩
  rw [List.flatMap_cons,zGA,h1]
  exact g1
def zKz (c:Class):Prop:=(∀o∈c.Peek,okOp o=true)/\(∀o∈c.Make,okOp o=true)/\∀h∈c.Hooks,∀o∈h.Do,okOp o=true
theorem zP0 {x:Rs} {m:List Op} {c:Class} (hl:x.cls.length<12) (hc:clsB c=true) (ho:zKz c):∃y,zDE (clsL c) (x,m)=some (y,m)/\y.cls=x.cls++[c]:=by
 simp only [clsB,Bool.and_eq_true,decide_eq_true_eq] at hc
 obtain ⟨c1,c2,c3,c4,c5,c6⟩:=hc
 unfold clsL
 obtain ⟨k1,m1,e1⟩:=zRP (x:=⟨2,60,x.cls,true,c.Form,[],false,0,c.Watch,[],[],[]⟩) (m:=m) rfl rfl c5 ho.1
 obtain ⟨k2,m2,e2⟩:=zRO (x:=⟨k1,m1,x.cls,true,c.Form,[],false,0,c.Watch,c.Peek,[],[]⟩) (m:=m) rfl rfl c6 ho.2.1
 obtain ⟨y,g1,g2,g3,g4,g5,g6,g7,g8⟩:=zK3 c.Hooks ⟨k2,m2,x.cls,true,c.Form,[],false,0,c.Watch,c.Peek,c.Make,[]⟩ m rfl (fun h hh=>List.all_eq_true.1 c4 h hh) (by simpa [Rs.hooks] using c3) ho.2.2
 have hw:=zK5 c.Watch ⟨2,60,x.cls,true,c.Form,[],false,0,[],[],[],[]⟩ m rfl (fun w hw=>List.all_eq_true.1 c2 w hw) (by simpa using c1)
 refine ⟨y,?_,?_⟩
 ·rw [zDE,zQM hl]
  show zDE _ (⟨2,60,x.cls,true,c.Form,[],false,0,[],[],[],[]⟩,m)=_
  rw [zGA,hw]
  show zDE _ (⟨2,60,x.cls,true,c.Form,[],false,0,[]++c.Watch,[],[],[]⟩,m)=_
  rw [List.nil_append,zGA,e1]
  show zDE _ (⟨k1,m1,x.cls,true,c.Form,[],false,0,c.Watch,c.Peek,[],[]⟩,m)=_
  rw [zGA,e2]
  exact g1
 ·unfold Rs.cls
  rw [g2,if_pos rfl,g3,g4,g5,g6,g7,g8]
  rfl
theorem zJJ:∀(cs:List Class) (x:Rs) (m:List Op),x.cls.length+cs.length<=12->(∀c∈cs,clsB c=true/\zKz c)->∃y,zDE (cs.flatMap clsL) (x,m)=some (y,m)/\y.cls=x.cls++cs
 | [],x,m,_,_=>⟨x,rfl,by simp⟩
 | c::cs,x,m,hl,h=>by
  simp only [List.length_cons] at hl
  obtain ⟨h1,h2⟩:=h c (by simp)
  obtain ⟨y,g1,g2⟩:=zP0 (m:=m) (x:=x) (by omega) h1 h2
  obtain ⟨z,f1,f2⟩:=zJJ cs y m (by rw [g2];simp;omega) (fun d hd=>h d (by simp [hd]))
  refine ⟨z,?_,by rw [f2,g2];simp⟩
  rw [List.flatMap_cons,zGA,g1]
  exact f1
theorem zRN {x:Rs} {m l:List Op} (hm:m.length<=300) (ho:∀o∈l,okOp o=true):if m.length+l.length<=300 then ∃y,zDE (opsL ([109,97,105,110]:Bs) l) (x,m)=some (y,m++l)/\y.cls=x.cls else zDE (opsL ([109,97,105,110]:Bs) l) (x,m)=none:=by
 unfold opsL
 by_cases h:l=[]
 ·subst h
  rw [if_pos (by simpa using hm)]
  refine ⟨x,?_,rfl⟩
  rw [if_pos (.inl rfl),List.append_nil];rfl
 ·have e:zDE ((if l=[]\/([109,97,105,110]:Bs)=[] then [] else [([109,97,105,110]:Bs)])++l.map zGX) (x,m)=if m.length+l.length<=300 then some ({ x with k:=0,most:=300 },m++l) else none:=by
   rw [if_neg (by simp [h]),List.singleton_append,zDE,zSk]
   show zDE _ ({ x with k:=0,most:=300 },m)=_
   exact zJk (p:=({ x with k:=0,most:=300 },m)) ho (show m.length<=300 from hm)
  by_cases hl:m.length+l.length<=300
  ·rw [if_pos hl]
   rw [if_pos hl] at e
   exact ⟨_,e,rfl⟩
  ·rw [if_neg hl]
   rw [if_neg hl] at e
   exact e
theorem zJ9 {s:Script} (h:zEa s=true):(∀c∈s.Classes,clsB c=true/\zKz c)/\∀o∈s.Main,okOp o=true:=by
 obtain ⟨_,h2,_⟩:=zEh h
 unfold zEa at h
 simp only [Bool.and_eq_true] at h
 have key:∀y∈zBJ s,∀o∈y.1,okOp o=true:=fun y hy o ho=>by
  have:=List.all_eq_true.1 h.1 y hy
  simp only [okPr,Bool.and_eq_true] at this
  exact List.all_eq_true.1 this.2 o ho
 refine ⟨fun c hc=>⟨h2 c hc,?_,?_,?_⟩,?_⟩
 ·exact key (c.Peek,60) (by simp only [zBJ,List.mem_append,List.mem_flatMap];exact .inl ⟨c,hc,by simp [zJT]⟩)
 ·exact key (c.Make,60) (by simp only [zBJ,List.mem_append,List.mem_flatMap];exact .inl ⟨c,hc,by simp [zJT]⟩)
 ·intro k hk
  exact key (k.Do,60) (by simp only [zBJ,List.mem_append,List.mem_flatMap];exact .inl ⟨c,hc,by simp only [zJT,List.mem_cons,List.mem_map];exact .inr (.inr ⟨k,hk,rfl⟩)⟩)
 ·exact key (s.Main,300) (by simp [zBJ])
theorem zTJ {s:Script} (h:zEa s=true) {x:Rs} {m:List Op} (hc:x.cls.length+s.Classes.length<=12) (hm:m.length+s.Main.length<=300):∃y,zDE (putL s) (x,m)=some (y,m++s.Main)/\y.cls=x.cls++s.Classes:=by
 obtain ⟨h1,h2⟩:=zJ9 h
 obtain ⟨y,g1,g2⟩:=zJJ s.Classes x m hc h1
 have:=zRN (x:=y) (m:=m) (by omega) h2
 rw [if_pos hm] at this
 obtain ⟨z,f1,f2⟩:=this
 refine ⟨z,?_,f2.trans g2⟩
 unfold putL
 rw [zGA,g1]
 exact f1
theorem zTx {s:Script} (h:zEa s=true) (hl:(putR s).length<=16384):zSH (putR s)=(s,0):=by
 obtain ⟨h1,h2,h3⟩:=zEh h
 rw [zSI,if_neg (by omega)]
 have ht:=zSp h []
 rw [List.append_nil] at ht
 obtain ⟨y,g1,g2⟩:=zTJ h (x:=rs0) (m:=[]) (by simpa [rs0,Rs.cls] using h1) (by simpa using h3)
 rw [ht,show zEL []=[] from rfl,List.append_nil,g1]
 show ((⟨y.cls,[]++s.Main⟩:Script),(0:Int))=_
 rw [g2]
 rfl
end Go.Proofs.YtoboimmgglnjfaaGreatDoor
/- Scripts: what the laws share: a fixed answer, what is not too much, what is the same. -/
namespace Go.Proofs.YtoboimmgglnjfaaGreatDoor
open Go Go.Pw
set_option linter.unusedVariables false
def scr0:Script:=⟨[⟨true,[[97]],[],[⟨20,0,0,0,[],[],false⟩],[⟨1,[⟨22,0,0,0,[],[],true⟩]⟩]⟩],[⟨16,0,0,0,[120,45,97],[],false⟩,op0]⟩
def txt0:Bs:=[99,108,97,115,115,32,102,111,114,109,10,119,97,116,99,104,32,97,10,109,97,107,101,10,115,117,112,101,114,10,111,110,32,99,97,109,101,10,33,116,104,114,111,119,10,109,97,105,110,10,100,101,102,105,110,101,32,48,32,34,120,45,97,34,32,34,34,10,63,10]
theorem put0:putR scr0=txt0:=by kernel_rfl
theorem zQR:zEa scr0=true:=by kernel_rfl
theorem zVB {fu:Nat} (hf:30000<fu):zDo fu=some true:=by
 have hl:(putR scr0).length<=16384:=by rw [put0];decide
 have h1:=zTx zQR hl
 rw [put0] at h1
 have h2:putA scr0=(txt0,0):=by
  unfold putA finP
  rw [if_pos zQR,if_neg (by omega),put0]
 unfold zDo
 show bnd (zES fu txt0) _=_
 rw [zSj hf,bnd_some,h1]
 show bnd (zEq fu scr0) _=_
 rw [zU1 (by omega),bnd_some,h2]
 show bnd (zDJ fu scr0) (fun r7=>some r7)=_
 rw [zKA (by omega),bnd_some,zQR]
theorem zJr {fu:Nat} {l:List Op} (hf:l.length<fu) (hb:l.length<=1000000):zCO fu l l=some true:=by
 unfold zCO
 rw [zAi (by simp)]
 have:=zGP (L:=zCg l l) l (fun _=>true) (some true) (fun i hi k=>by
  simp only [zCg]
  rw [zAo (by simpa using hi),zCm hi,bnd_some,bnd_some,eqO,decide_eq_true rfl,zAw (by omega)]
  rfl) (fun k=>by simp only [zCg];rw [zAi (by simp)]) hf
 rw [this,List.all_eq_true.2 fun _ _=>rfl]
 rfl
def bndC (c:Class):Prop:=c.Watch.length<=100/\c.Peek.length<=100/\c.Make.length<=100/\c.Hooks.length<=100/\∀h∈c.Hooks,h.Do.length<=100
theorem zPp {fu:Nat} {c:Class} (hf:1000<fu) (hc:bndC c):zDp fu c c=some true:=by
 obtain ⟨c1,c2,c3,c4,c5⟩:=hc
 have h2:zBn fu c c fu 0=some true:=by
  have:=zGP (L:=zBn fu c c) c.Hooks (fun _=>true) (some true) (fun i hi k=>by
   simp only [zBn]
   have hd:=c5 _ (List.getElem_mem hi)
   rw [zAo (by simpa using hi),zCm hi,bnd_some,bnd_some,zAi (by simp),bnd_some,bnd_some,zJr (by omega) (by omega),bnd_some,zAw (by omega)]
   rfl) (fun k=>by simp only [zBn];rw [zAi (by simp)]) (show c.Hooks.length<fu by omega)
  rw [this,List.all_eq_true.2 fun _ _=>rfl]
  rfl
 have h1:zBm fu c c fu 0=some true:=by
  have:=zGP (L:=zBm fu c c) c.Watch (fun _=>true) (some true) (fun i hi k=>by
   simp only [zBm]
   rw [zAo (by simpa using hi),zCm hi,bnd_some,bnd_some,zAi (by simp),zAw (by omega)]
   rfl) (fun k=>by simp only [zBm];rw [zAi (by simp),h2]) (show c.Watch.length<fu by omega)
  rw [this,List.all_eq_true.2 fun _ _=>rfl]
  rfl
 unfold zDp
 rw [zAi (by simp),zAi (by simp),zJr (by omega) (by omega),bnd_some,zAi (by simp),zJr (by omega) (by omega),bnd_some,zAi (by simp),zAi (by simp),h1]
theorem zU0 {fu:Nat} {s:Script} (hf:1000<fu) (h1:s.Classes.length<=100) (h2:∀c∈s.Classes,bndC c) (h3:s.Main.length<=900):zB7 fu s s=some true:=by
 have h:zDQ fu s.Classes s.Classes=some true:=by
  unfold zDQ
  rw [zAi (by simp)]
  have:=zGP (L:=zBx fu s.Classes s.Classes) s.Classes (fun _=>true) (some true) (fun i hi k=>by
   simp only [zBx]
   rw [zAo (by simpa using hi),zCm hi,bnd_some,bnd_some,zPp hf (h2 _ (List.getElem_mem hi)),bnd_some,zAw (by omega)]
   rfl) (fun k=>by simp only [zBx];rw [zAi (by simp)]) (show s.Classes.length<fu by omega)
  rw [this,List.all_eq_true.2 fun _ _=>rfl]
  rfl
 unfold zB7
 rw [h,bnd_some,cnd_true,zJr (by omega) (by omega),bnd_some]
theorem zVM {c:Class} (h:clsB c=true):bndC c:=by
 simp only [clsB,Bool.and_eq_true,decide_eq_true_eq] at h
 refine ⟨by omega,by omega,by omega,by omega,fun k hk=>?_⟩
 have:=List.all_eq_true.1 h.2.2.2.1 k hk
 simp only [hokB,Bool.and_eq_true,decide_eq_true_eq] at this
 omega
theorem zQL {fu:Nat} {s:Script} (hf:1000<fu) (h:zEa s=true):zB7 fu s s=some true:=by
 obtain ⟨h1,h2,h3⟩:=zEh h
 exact zU0 hf (by omega) (fun c hc=>zVM (h2 c hc)) (by omega)
def shB (c:Class):Bool:=decide (c.Watch.length<=20)&&(decide (c.Hooks.length<=20)&&(decide (c.Peek.length<=80)&&(decide (c.Make.length<=80)&&c.Hooks.all fun h=>decide (h.Do.length<=80))))
theorem zUA {fu:Nat} {cs:List Class} (hf:1000<fu):zDq fu cs=some (decide (cs.length<=14)&&cs.all shB):=by
 unfold zDq
 rw [show decide (((cs.length:Nat):Int)>14) = !decide (cs.length<=14) from zGT _ 14,zHL]
 by_cases h:cs.length<=14
 ·rw [decide_eq_true h,cnd_true,Bool.true_and]
  have:=zGP (L:=zBH fu cs) cs shB (some true) (fun i hi k=>by
   simp only [zBH]
   rw [zAo (by simpa using hi),zCm hi,bnd_some]
   generalize cs[i]=c
   unfold shB
   rw [show decide (((c.Watch.length:Nat):Int)>20) = !decide (c.Watch.length<=20) from zGT _ 20,show decide (((c.Hooks.length:Nat):Int)>20) = !decide (c.Hooks.length<=20) from zGT _ 20,
    show decide (((c.Peek.length:Nat):Int)>80) = !decide (c.Peek.length<=80) from zGT _ 80,show decide (((c.Make.length:Nat):Int)>80) = !decide (c.Make.length<=80) from zGT _ 80]
   cases decide (c.Watch.length<=20) with
   | false=>rfl
   | true =>
   by_cases hh:c.Hooks.length<=20
   ·rw [decide_eq_true hh]
    cases decide (c.Peek.length<=80) with
    | false=>rfl
    | true =>
    cases decide (c.Make.length<=80) with
    | false=>rfl
    | true =>
     have:=zGP (L:=zCG (i:Int) c (zBH fu cs k)) c.Hooks (fun h=>decide (h.Do.length<=80)) (zBH fu cs k ((i+1:Nat):Int)) (fun j hj k2=>by
      simp only [zCG]
      rw [zAo (by simpa using hj),zCm hj,bnd_some,show decide (((c.Hooks[j].Do.length:Nat):Int)>80) = !decide (c.Hooks[j].Do.length<=80) from zGT _ 80,zAw (by omega)]
      cases decide (c.Hooks[j].Do.length<=80)<;>rfl) (fun k2=>by simp only [zCG];rw [zAi (by simp),zAw (by omega),bnd_some]) (show c.Hooks.length<fu by omega)
     simp only [Bool.not_true,cnd_false,Bool.true_and]
     rw [this]
   ·rw [decide_eq_false hh];rfl) (fun k=>by simp only [zBH];rw [zAi (by simp)]) (show cs.length<fu by omega)
  rw [this]
  cases cs.all shB<;>rfl
 ·rw [decide_eq_false h];rfl
theorem zRJ {t:Bs} (h:t.length>16384):finP t=([],3):=if_pos h
theorem zVS {t:Bs} (h:¬t.length>16384):finP t=(t,0):=if_neg h
end Go.Proofs.YtoboimmgglnjfaaGreatDoor
/- ScriptReads: what is read from any text. -/
namespace Go.Proofs.YtoboimmgglnjfaaGreatDoor
open Go Go.Pw
set_option linter.unusedVariables false
theorem zKT:∀{s:Bs},s≠[]->(10:UInt8)∉s->zCK s=[s]
 | [],h,_=>absurd rfl h
 | b::r,_,h=>by
  simp only [List.mem_cons,not_or] at h
  rw [zCK,if_neg (fun e=>h.1 e.symm)]
  cases r with
  | nil=>rfl
  | cons c r=>rw [zKT (by simp) h.2]
theorem zSo {s:Bs} (h0:s≠[]) (h:(10:UInt8)∉s):zEL s=[s]:=by
 unfold zEL
 rw [zKT h0 h,List.map_singleton,zId h]
theorem zM6 {s:Bs} (hs:s.length<=1000000):RightP (opR s)/\putP (opR s)=s\/opR s=op0:=by
 unfold opR
 rcases zLM (fu:=3000000) hs (by omega) with ⟨o,h1,h2,h3⟩ | ⟨h1,h2⟩
 ·rw [h3];exact .inl ⟨h1,h2⟩
 ·rw [h2];exact .inr rfl
theorem opR_ok {s:Bs} (hs:s.length<=1000000):okOp (opR s)=true:=by
 unfold okOp
 rcases zM6 hs with ⟨h,_⟩ | h
 ·rw [right_iff.2 h,Bool.or_true]
 ·rw [decide_eq_true h,Bool.true_or]
theorem zR8:zGX op0=[63]:=by kernel_rfl
theorem zVg {s:Bs} (hs:s.length<=1000000) (h0:s≠[]):(opL (opR s)).length<=s.length+1:=by
 unfold opL
 rw [List.length_append,List.length_singleton]
 have:0<s.length:=List.length_pos_iff.2 h0
 rcases zM6 hs with ⟨h,h2⟩ | h
 ·unfold zGX
  rw [if_pos (right_iff.2 h),h2]
  omega
 ·rw [h,zR8]
  simp only [List.length_singleton]
  omega
def Gd (c:Class):Prop:=clsB c=true/\zKz c
def Hg (h:Hook):Prop:=hokB h=true/\∀o∈h.Do,okOp o=true
def Lg (x:Rs):Prop:=(∀w∈x.wat,fitB w=true)/\(∀o∈x.pk,okOp o=true)/\(∀o∈x.mak,okOp o=true)/\∀h∈x.hooks,Hg h
theorem zOi {x:Rs} (hx:x.Ok) (hp:∀c∈x.pre,Gd c) (hl:x.act=true->Lg x):∀c∈x.cls,Gd c:=by
 intro c hc
 unfold Rs.cls at hc
 rcases List.mem_append.1 hc with h | h
 ·exact hp c h
 ·cases ha:x.act with
  | false=>rw [ha] at h;cases h
  | true =>
   rw [ha,if_pos rfl,List.mem_singleton] at h
   obtain ⟨l1,l2,l3,l4⟩:=hl ha
   subst h
   refine ⟨?_,l2,l3,fun k hk=>(l4 k hk).2⟩
   simp only [clsB,Bool.and_eq_true,decide_eq_true_eq]
   exact ⟨hx.wat12,List.all_eq_true.2 l1,hx.hooks12,List.all_eq_true.2 fun k hk=>(l4 k hk).1,hx.pk60,hx.mak60⟩
theorem zO2 (v:Bs):zGB v<=8/\(1<=zGB v->kindsL.getD (zGB v).toNat []=v):=by
 unfold zGB
 cases h:(List.range 9).find? fun i=>v==kindsL.getD i [] with
 | none=>exact ⟨by decide,fun h=>by cases h⟩
 | some i =>
  have h1:=List.mem_of_find?_eq_some h
  have h2:=List.find?_some h
  rw [List.mem_range] at h1
  simp only at h2 ⊢
  refine ⟨by omega,fun _=>?_⟩
  rw [Int.toNat_natCast]
  exact (beq_iff_eq.1 h2).symm
theorem zI0:∀{s:Bs},(cutS s).2.2=true->s=(cutS s).1++32::(cutS s).2.1
 | [],h=>by cases h
 | b::s,h=>by
  rw [cutS] at h ⊢
  by_cases hb:b=32
  ·rw [if_pos hb,hb];rfl
  ·rw [if_neg hb] at h ⊢
   show b::s=b::((cutS s).1++32::(cutS s).2.1)
   rw [<- zI0 (s:=s) h]
def clsU (c:Class):Bs:=clsH c++(c.Watch.flatMap zE8++(c.Peek.flatMap opL++(c.Make.flatMap opL++c.Hooks.flatMap zFJ)))
def wx (x:Rs):Nat:=(x.cls.flatMap clsU).length
def wt (p:RS):Nat:=wx p.1+(p.2.flatMap opL).length
theorem zKo (x:Rs):wx x=(x.pre.flatMap clsU).length+if x.act then (clsH ⟨x.form,[],[],[],[]⟩).length+((x.wat.flatMap zE8).length+((x.pk.flatMap opL).length+((x.mak.flatMap opL).length+(x.hooks.flatMap zFJ).length))) else 0:=by
 unfold wx Rs.cls
 cases x.act with
 | false=>simp
 | true =>
  rw [if_pos rfl,if_pos rfl,List.flatMap_append,List.length_append,List.flatMap_cons,List.flatMap_nil,List.append_nil]
  unfold clsU clsH
  simp only [List.length_append]
theorem zHi {α : Type} (l:List α) (a : α) (f : α -> Bs):((l++[a]).flatMap f).length=(l.flatMap f).length+(f a).length:=by
 rw [List.flatMap_append,List.length_append,List.flatMap_cons,List.flatMap_nil,List.append_nil]
theorem zJl (k:Int) (d:List Op):(zFJ ⟨k,d⟩).length=(kindsL.getD k.toNat []).length+4+(d.flatMap opL).length:=by
 unfold zFJ opsT
 rw [if_pos (.inr rfl)]
 simp only [List.length_append,List.length_cons,List.length_nil]
 omega
theorem zP1 {x y:Rs} {s:Bs} (hx:x.Ok) (hp:∀c∈x.pre,Gd c) (hl:x.act=true->Lg x) (h:zFI x s=some y):(∀c∈y.pre,Gd c)/\(y.act=true->Lg y)/\wx y<=wx x+s.length+1:=by
 unfold zFI at h
 split at h
 ·cases h;exact ⟨hp,hl,show wx x<=_ by omega⟩
 split at h
 ·rename_i hs
  split at h
  ·cases h
  ·cases h
   refine ⟨zOi hx hp hl,fun _=>⟨by simp,by simp,by simp,by simp [Rs.hooks]⟩,?_⟩
   rw [zKo,show wx x=(x.cls.flatMap clsU).length from rfl]
   rcases hs with rfl | rfl
   ·show (x.cls.flatMap clsU).length+6<=(x.cls.flatMap clsU).length+5+1
    omega
   ·show (x.cls.flatMap clsU).length+11<=(x.cls.flatMap clsU).length+10+1
    omega
 split at h
 ·cases h
 rename_i hact
 have ha:x.act=true:=by cases e:x.act<;>simp_all
 split at h
 ·cases h;exact ⟨hp,hl,show wx x<=_ by omega⟩
 split at h
 ·cases h;exact ⟨hp,hl,show wx x<=_ by omega⟩
 split at h
 ·rename_i hw
  split at h
  ·rename_i hc
   split at h
   ·rename_i hfit
    split at h
    ·cases h
    ·cases h
     have hs:=zI0 hc
     obtain ⟨l1,l2,l3,l4⟩:=hl ha
     refine ⟨hp,fun _=>⟨fun v hv=>?_,l2,l3,l4⟩,?_⟩
     ·rcases List.mem_append.1 hv with h | h
      ·exact l1 v h
      ·rw [List.mem_singleton.1 h];exact hfit
     ·have e:(zE8 (cutS s).2.1).length=s.length+1:=by
       have:=congrArg List.length hs
       rw [hw] at this
       unfold zE8
       simp only [List.length_append,List.length_cons,List.length_nil] at this ⊢
       omega
      have hh:Rs.hooks { x with wat:=x.wat++[(cutS s).2.1] }=x.hooks:=rfl
      rw [zKo,zKo x,hh]
      dsimp only
      rw [zHi,e,if_pos ha,if_pos ha]
      omega
   ·cases h
  ·cases h
 split at h
 ·rename_i hw
  split at h
  ·rename_i hc
   split at h
   ·cases h
   ·rename_i hk
    split at h
    ·cases h
    ·cases h
     have hs:=zI0 hc
     obtain ⟨k1,k2⟩:=zO2 (cutS s).2.1
     obtain ⟨l1,l2,l3,l4⟩:=hl ha
     refine ⟨hp,fun _=>⟨l1,l2,l3,fun v hv=>?_⟩,?_⟩
     ·have hv':v∈x.hooks++[(⟨zGB (cutS s).2.1,[]⟩:Hook)]:=hv
      rcases List.mem_append.1 hv' with h | h
      ·exact l4 v h
      ·rw [List.mem_singleton.1 h]
       refine ⟨?_,by simp⟩
       simp only [hokB,Bool.and_eq_true,decide_eq_true_eq]
       exact ⟨by omega,by omega,by simp⟩
     ·have e:(zFJ ⟨zGB (cutS s).2.1,[]⟩).length=s.length+1:=by
       have:=congrArg List.length hs
       rw [hw] at this
       rw [zJl,k2 (by omega)]
       simp only [List.length_append,List.length_cons,List.length_nil,List.flatMap_nil] at this ⊢
       omega
      have hh:Rs.hooks { x with k:=3,most:=60,hpre:=x.hooks,hact:=true,kind:=zGB (cutS s).2.1,dos:=[] }=x.hooks++[(⟨zGB (cutS s).2.1,[]⟩:Hook)]:=rfl
      rw [zKo,zKo x,hh]
      dsimp only
      rw [zHi,e,if_pos ha,if_pos ha]
      omega
  ·cases h
 ·cases h
structure Inv (p:RS):Prop where
 ok:p.1.Ok
 m300:p.2.length<=300
 pre:∀c∈p.1.pre,Gd c
 lst:p.1.act=true->Lg p.1
 ops:∀o∈p.2,okOp o=true
theorem zPA {l:List Op} {o:Op} (h:∀p∈l,okOp p=true) (ho:okOp o=true):∀p∈l++[o],okOp p=true:=fun p hp=>by
 rcases List.mem_append.1 hp with hp | hp
 ·exact h p hp
 ·rw [List.mem_singleton.1 hp];exact ho
theorem zUC {p y:RS} {s:Bs} (hi:Inv p) (hs:s.length<=1000000) (h:zE5 p s=some y):Inv y/\wt y<=wt p+s.length+1:=by
 obtain ⟨g1,g2⟩:=zMJ hi.ok hi.m300 h
 unfold zE5 at h
 split at h
 ·cases h;exact ⟨hi,by omega⟩
 rename_i h0
 have hok:=opR_ok hs
 have hlen:=zVg hs h0
 split at h
 ·rename_i z hz
  cases h
  obtain ⟨a,b,c⟩:=zP1 hi.ok hi.pre hi.lst hz
  refine ⟨⟨g1,g2,a,b,hi.ops⟩,?_⟩
  show wx z+(p.2.flatMap opL).length<=wx p.1+(p.2.flatMap opL).length+s.length+1
  omega
 ·split at h
  ·split at h
   ·cases h
   ·cases h
    refine ⟨⟨g1,g2,hi.pre,hi.lst,zPA hi.ops hok⟩,?_⟩
    show wx p.1+((p.2++[opR s]).flatMap opL).length<=wx p.1+(p.2.flatMap opL).length+s.length+1
    rw [zHi]
    omega
  ·split at h
   ·cases h
   ·cases h
    refine ⟨⟨g1,g2,hi.pre,fun ha=>?_,hi.ops⟩,?_⟩
    ·obtain ⟨l1,l2,l3,l4⟩:=hi.lst ha
     exact ⟨l1,zPA l2 hok,l3,l4⟩
    ·show wx { p.1 with pk:=p.1.pk++[opR s] }+(p.2.flatMap opL).length<=wx p.1+(p.2.flatMap opL).length+s.length+1
     rw [zKo,zKo p.1]
     show _+(if p.1.act=true then _+(_+(((p.1.pk++[opR s]).flatMap opL).length+(_+(p.1.hooks.flatMap zFJ).length))) else 0)+_<=_
     rw [zHi]
     show (p.1.pre.flatMap clsU).length+(if p.1.act=true then (clsH ⟨p.1.form,[],[],[],[]⟩).length+((p.1.wat.flatMap zE8).length+((p.1.pk.flatMap opL).length+(opL (opR s)).length+((p.1.mak.flatMap opL).length+(p.1.hooks.flatMap zFJ).length))) else 0)+_<=_
     split<;>omega
  ·split at h
   ·cases h
   ·cases h
    refine ⟨⟨g1,g2,hi.pre,fun ha=>?_,hi.ops⟩,?_⟩
    ·obtain ⟨l1,l2,l3,l4⟩:=hi.lst ha
     exact ⟨l1,l2,zPA l3 hok,l4⟩
    ·show wx { p.1 with mak:=p.1.mak++[opR s] }+(p.2.flatMap opL).length<=wx p.1+(p.2.flatMap opL).length+s.length+1
     rw [zKo,zKo p.1]
     show _+(if p.1.act=true then _+(_+(_+(((p.1.mak++[opR s]).flatMap opL).length+(p.1.hooks.flatMap zFJ).length))) else 0)+_<=_
     rw [zHi]
     show (p.1.pre.flatMap clsU).length+(if p.1.act=true then (clsH ⟨p.1.form,[],[],[],[]⟩).length+((p.1.wat.flatMap zE8).length+((p.1.pk.flatMap opL).length+((p.1.mak.flatMap opL).length+(opL (opR s)).length+(p.1.hooks.flatMap zFJ).length))) else 0)+_<=_
     split<;>omega
  ·split at h
   ·cases h
   ·cases h
    have hd60:=g1.dos60
    refine ⟨⟨g1,g2,hi.pre,fun ha=>?_,hi.ops⟩,?_⟩
    ·obtain ⟨l1,l2,l3,l4⟩:=hi.lst ha
     refine ⟨l1,l2,l3,fun v hv=>?_⟩
     have hv':v∈p.1.hpre++(if p.1.hact then [(⟨p.1.kind,p.1.dos++[opR s]⟩:Hook)] else []):=hv
     unfold Rs.hooks at l4
     rcases List.mem_append.1 hv' with h | h
     ·exact l4 v (List.mem_append_left _ h)
     ·cases hh:p.1.hact with
      | false=>rw [hh] at h;cases h
      | true =>
       rw [hh,if_pos rfl] at h
       obtain ⟨m1,m2⟩:=l4 ⟨p.1.kind,p.1.dos⟩ (by rw [hh];simp)
       rw [List.mem_singleton.1 h]
       refine ⟨?_,zPA m2 hok⟩
       simp only [hokB,Bool.and_eq_true,decide_eq_true_eq] at m1 ⊢
       exact ⟨m1.1,m1.2.1,hd60⟩
    ·have e:((p.1.hpre++(if p.1.hact then [(⟨p.1.kind,p.1.dos++[opR s]⟩:Hook)] else [])).flatMap zFJ).length<=(p.1.hooks.flatMap zFJ).length+s.length+1:=by
      unfold Rs.hooks
      rw [List.flatMap_append,List.flatMap_append,List.length_append,List.length_append]
      cases p.1.hact with
      | false =>
       simp only [Bool.false_eq_true,if_false,List.flatMap_nil,List.length_nil]
       omega
      | true =>
       rw [if_pos rfl,if_pos rfl,List.flatMap_cons,List.flatMap_cons,List.flatMap_nil,List.append_nil,List.append_nil,zJl,zJl,zHi]
       omega
     show wx { p.1 with dos:=p.1.dos++[opR s] }+(p.2.flatMap opL).length<=wx p.1+(p.2.flatMap opL).length+s.length+1
     rw [zKo,zKo p.1]
     show (p.1.pre.flatMap clsU).length+(if p.1.act=true then (clsH ⟨p.1.form,[],[],[],[]⟩).length+((p.1.wat.flatMap zE8).length+((p.1.pk.flatMap opL).length+((p.1.mak.flatMap opL).length+((p.1.hpre++(if p.1.hact then [(⟨p.1.kind,p.1.dos++[opR s]⟩:Hook)] else [])).flatMap zFJ).length))) else 0)+_<=_
     split<;>omega
theorem zOs:∀(ts:List Bs) (p y:RS),Inv p->(∀t∈ts,t.length<=1000000)->zDE ts p=some y->Inv y/\wt y<=wt p+(ts.flatMap nl).length
 | [],p,y,hi,_,h=>by
  have:some p=some y:=h
  cases this
  exact ⟨hi,by simp⟩
 | t::ts,p,y,hi,ht,h=>by
  rw [zDE] at h
  cases hs:zE5 p t with
  | none=>rw [hs] at h;cases h
  | some z =>
   rw [hs] at h
   obtain ⟨a,b⟩:=zUC hi (ht t (by simp)) hs
   obtain ⟨c,d⟩:=zOs ts z y a (fun u hu=>ht u (by simp [hu])) h
   have e:(nl t).length=t.length+1:=by simp [nl]
   rw [List.flatMap_cons,List.length_append,e]
   exact ⟨c,by omega⟩
theorem inv0:Inv (rs0,[]):=⟨zSb,by simp,by simp [rs0],fun h=>(by cases h),by simp⟩
theorem zJ8 {s:Script} (h1:s.Classes.length<=12) (h2:∀c∈s.Classes,Gd c) (h3:s.Main.length<=300) (h4:∀o∈s.Main,okOp o=true):zEa s=true:=by
 unfold zEa
 rw [Bool.and_eq_true,Bool.and_eq_true,decide_eq_true_eq]
 refine ⟨List.all_eq_true.2 fun y hy=>?_,h1,List.all_eq_true.2 fun c hc=>(h2 c hc).1⟩
 have pr:∀(l:List Op) (n:Int),(l.length:Int)<=n->(∀o∈l,okOp o=true)->okPr (l,n)=true:=fun l n hl ho=>by
  unfold okPr
  rw [Bool.and_eq_true,decide_eq_true_eq]
  exact ⟨hl,List.all_eq_true.2 ho⟩
 simp only [zBJ,List.mem_append,List.mem_flatMap,zJT,List.mem_cons,List.mem_map,List.not_mem_nil,or_false] at hy
 rcases hy with ⟨c,hc,hy⟩ | rfl
 ·obtain ⟨g1,g2,g3,g4⟩:=h2 c hc
  simp only [clsB,Bool.and_eq_true,decide_eq_true_eq] at g1
  rcases hy with rfl | rfl | ⟨h,hh,rfl⟩
  ·exact pr _ _ (by omega) g2
  ·exact pr _ _ (by omega) g3
  ·have:=List.all_eq_true.1 g1.2.2.2.1 h hh
   simp only [hokB,Bool.and_eq_true,decide_eq_true_eq] at this
   exact pr _ _ (by omega) (g4 h hh)
 ·exact pr _ _ (by omega) h4
end Go.Proofs.YtoboimmgglnjfaaGreatDoor
/- The reference's fields, zWX, and text of an operation. -/
namespace Go.Proofs.YtoboimmgglnjfaaGreatDoor
open Go Go.Pw
set_option linter.unusedVariables false
def rf (f:UInt8):UInt8:=if f=46 then 45 else if f=115 then 116 else f
def rfd (k:Int):Bs:=if Knd k then (fd k).map rf else []
theorem zKf (fu:Nat) (k:Int):zCH fu k=some (rfd k):=by
 unfold rfd
 by_cases h:Knd k
 ·rw [if_pos h]
  rcases zHS h with rfl | rfl | rfl | rfl | rfl | rfl | rfl | rfl | rfl | rfl | rfl | rfl | rfl | rfl | rfl | rfl | rfl | rfl | rfl | rfl | rfl | rfl | rfl | rfl | rfl | rfl | rfl | rfl<;>rfl
 ·rw [if_neg h]
  unfold Knd at h
  have e:∀j:Int,0<j->j<=28->(k==j)=false:=fun j h1 h2=>beq_false_of_ne (fun e=>h (by omega))
  unfold zCH
  simp only [e 1 (by decide) (by decide),e 2 (by decide) (by decide),e 3 (by decide) (by decide),e 4 (by decide) (by decide),e 5 (by decide) (by decide),e 6 (by decide) (by decide),e 7 (by decide) (by decide),e 8 (by decide) (by decide),e 9 (by decide) (by decide),e 10 (by decide) (by decide),e 11 (by decide) (by decide),e 12 (by decide) (by decide),e 13 (by decide) (by decide),e 14 (by decide) (by decide),e 15 (by decide) (by decide),e 16 (by decide) (by decide),e 17 (by decide) (by decide),e 18 (by decide) (by decide),e 19 (by decide) (by decide),e 20 (by decide) (by decide),e 21 (by decide) (by decide),e 22 (by decide) (by decide),e 23 (by decide) (by decide),e 24 (by decide) (by decide),e 25 (by decide) (by decide),e 26 (by decide) (by decide),e 27 (by decide) (by decide),e 28 (by decide) (by decide),cnd_false]
theorem zSM {k:Int} (h:Knd k):(rfd k).length=5:=by rw [rfd,if_pos h,List.length_map,zRD]
theorem zFd {k:Int} (h:Knd k) {i:Nat} (hi:i<5):chr (rfd k) (i:Int)=some ((rf (fc k i)).toNat:Int):=by
 have h1:i<(fd k).length:=by rw [zRD];exact hi
 have h2:i<(rfd k).length:=by rw [zSM h];exact hi
 rw [zKy h2,fc,List.getD_eq_getElem?_getD,List.getElem?_eq_getElem h1]
 have:(rfd k)[i]=rf (fd k)[i]:=by simp [rfd,h]
 rw [this];rfl
theorem zKi (fu:Nat) {f:UInt8} (hf:f=110\/f=111\/f=105\/f=46) (n:Int):zCI fu ((rf f).toNat:Int) n=some (fit f n):=by
 unfold zCI
 have no:∀b:Bool,cnd (decide (n>=0)) (cnd (decide (n<400)) (some true) (cnd (n == -2) (some true) (cnd (n == -3) (some true) (cnd b (some (n == -1)) (some false))))) (cnd (n == -2) (some true) (cnd (n == -3) (some true) (cnd b (some (n == -1)) (some false))))=some (decide (n = -2\/n = -3\/0<=n/\n<400\/b=true/\n = -1)):=fun b=>by
  simp only [zCu,zBC]
  by_cases h1:n>=0
  ·rw [if_pos h1]
   by_cases h2:n<400
   ·rw [if_pos h2];congr 1;symm;rw [decide_eq_true_eq];omega
   ·rw [if_neg h2,if_neg (by omega),if_neg (by omega)]
    cases b
    ·rw [cnd_false];congr 1;symm;rw [decide_eq_false_iff_not]
     rintro (h | h | h | h)
     ·omega
     ·omega
     ·omega
     ·cases h.1
    ·rw [cnd_true];congr 1
     rw [beq_false_of_ne (by omega)];symm;rw [decide_eq_false_iff_not]
     rintro (h | h | h | h)<;>omega
  ·rw [if_neg h1]
   by_cases h2:n = -2
   ·rw [if_pos h2];simp [h2]
   ·rw [if_neg h2]
    by_cases h3:n = -3
    ·rw [if_pos h3];simp [h3]
    ·rw [if_neg h3]
     cases b
     ·rw [cnd_false];congr 1;symm;rw [decide_eq_false_iff_not]
      rintro (h | h | h | h)
      ·omega
      ·omega
      ·omega
      ·cases h.1
     ·rw [cnd_true];congr 1
      rw [Bool.eq_iff_iff,beq_iff_eq,decide_eq_true_eq]
      exact ⟨fun h=>.inr (.inr (.inr ⟨rfl,h⟩)),fun h=>by rcases h with h | h | h | h<;>omega⟩
 rcases hf with rfl | rfl | rfl | rfl
 ·show cnd false _ (cnd false _ (cnd _ (cnd _ _ (cnd _ _ (cnd _ _ (cnd false _ _)))) (cnd _ _ (cnd _ _ (cnd false _ _)))))=_
  rw [cnd_false,cnd_false,no];simp [fit]
 ·show cnd false _ (cnd false _ (cnd _ (cnd _ _ (cnd _ _ (cnd _ _ (cnd true _ _)))) (cnd _ _ (cnd _ _ (cnd true _ _)))))=_
  rw [cnd_false,cnd_false,no];simp [fit]
 ·show cnd true _ _=_
  rw [cnd_true,zCu]
  by_cases h:n >= -1000
  ·rw [if_pos h];congr 1;simp [fit];omega
  ·rw [if_neg h];congr 1;simp [fit];omega
 ·show cnd false _ (cnd true _ _)=_
  rw [cnd_false,cnd_true]
  congr 1
theorem zUz {fu:Nat} {f:UInt8} (hf:f=115\/f=46) {s:Bs} (hs:s.length<fu) (hl:s.length<=1000000):zDO fu ((rf f).toNat:Int) s=some (fitT f s):=by
 unfold zDO
 rcases hf with rfl | rfl
 ·show cnd false _ _=_
  rw [cnd_false]
  have:=zGP (L:=zCP s) s (fun b=>b != 10) (some (decide ((s.length:Int)<=200))) (fun i h k=>by
   rw [zCP,show decide ((i:Int)<((s.length:Nat):Int))=true from by simpa using h,cnd_true,zKy h,bnd_some,zAw (by omega),bnd_some]
   rw [show (((s[i].toNat:Nat):Int)==10)=(s[i]==10) from zDu _ 10]
   cases hb:s[i]==10<;>simp [bne,hb]) (fun k=>by
   rw [zCP,show decide (((s.length:Nat):Int)<((s.length:Nat):Int))=false from by simp,cnd_false]) hs
  rw [this]
  unfold fitT
  rw [if_pos rfl]
  by_cases h:(10:UInt8)∈s
  ·rw [show (s.all fun b=>b != 10)=false from by rw [List.all_eq_false];exact ⟨10,h,by decide⟩]
   simp [h]
  ·rw [show (s.all fun b=>b != 10)=true from by rw [List.all_eq_true];intro b hb;simp;intro e;exact h (e▸hb)]
   simp [h];omega
 ·show cnd true _ _=_
  rw [cnd_true]
  congr 1
  cases s<;>rfl
theorem zPa {fu:Nat} {o:Op} (hs:o.S.length<fu) (ht:o.T.length<fu) (hs2:o.S.length<=1000000) (ht2:o.T.length<=1000000):zDB fu o=some (zE7 o):=by
 unfold zDB zE7
 rw [zKf,bnd_some]
 by_cases h:Knd o.Kind
 ·have hne:(rfd o.Kind==([]:Bs))=false:=by
   have:=zSM h
   cases hr:rfd o.Kind with
   | nil=>rw [hr] at this;cases this
   | cons a l=>rfl
  rw [hne,Bool.not_false,cnd_true,show (0:Int)=((0:Nat):Int) from rfl,show (1:Int)=((1:Nat):Int) from rfl,show (2:Int)=((2:Nat):Int) from rfl,show (3:Int)=((3:Nat):Int) from rfl,show (4:Int)=((4:Nat):Int) from rfl,
   zFd h (by omega),zFd h (by omega),zFd h (by omega),zFd h (by omega),zFd h (by omega)]
  simp only [bnd_some]
  rw [zKi fu (zEU _ (by omega)),zKi fu (zEU _ (by omega)),zKi fu (zEU _ (by omega)),zUz (zFU _ (by omega) (by omega)) hs hs2,zUz (zFU _ (by omega) (by omega)) ht ht2]
  simp only [bnd_some]
  rw [show decide (Knd o.Kind)=true from by simpa using h]
  cases fit (fc o.Kind 0) o.A<;>cases fit (fc o.Kind 1) o.B<;>cases fit (fc o.Kind 2) o.C<;>cases fitT (fc o.Kind 3) o.S<;>rfl
 ·rw [rfd,if_neg h,show decide (Knd o.Kind)=false from by simpa using h]
  rfl
theorem zSg {fu:Nat} (hf:170<=fu) {k:Int} (h:Knd k):zDN fu k=some (wd k):=by
 obtain ⟨n,rfl⟩:∃n,fu=n+170:=⟨fu - 170,by omega⟩
 unfold zDN
 rcases zHS h with rfl | rfl | rfl | rfl | rfl | rfl | rfl | rfl | rfl | rfl | rfl | rfl | rfl | rfl | rfl | rfl | rfl | rfl | rfl | rfl | rfl | rfl | rfl | rfl | rfl | rfl | rfl | rfl<;>kernel_rfl
theorem rng8 {n:Int} (h1:0<=n) (h2:n<=255):rng .u8 n=some n:=zKg ⟨h1,h2⟩
theorem zKe:∀(u fu:Nat),u<fu->u<=1000000->zAu fu (u:Int)=some (Lib.decDigits u):=by
 intro u
 induction u using Nat.strongRecOn with
 | ind u ih =>
  intro fu hf hu
  obtain ⟨fu,rfl⟩:∃f,fu=f+1:=⟨fu - 1,by omega⟩
  rw [zAu,show decide ((u:Int)<0)=false from by simp,cnd_false,Lib.decDigits]
  by_cases h:u<10
  ·rw [dif_pos h,show decide ((u:Int)<10)=true from by simp;omega,cnd_true,rng8 (by omega) (by omega),bnd_some,rng8 (by omega) (by omega),bnd_some]
   congr 1
  ·rw [dif_neg h,show decide ((u:Int)<10)=false from by simp;omega,cnd_false]
   have hq:quoW .i64 (u:Int) 10=some ((u / 10:Nat):Int):=by
    unfold quoW
    rw [if_neg (by decide)]
    congr 1
    rw [show ((u:Int)).tdiv 10=((u / 10:Nat):Int) from by rw [Int.tdiv_eq_ediv_of_nonneg (by omega)];omega]
    exact zTO ⟨by omega,by omega⟩
   rw [hq,bnd_some,ih (u / 10) (by omega) fu (by omega) (by omega),bnd_some]
   have hr:remI (u:Int) 10=some ((u % 10:Nat):Int):=by
    unfold remI
    rw [if_neg (by decide)]
    congr 1
   rw [hr,bnd_some,rng8 (by omega) (by omega),bnd_some,rng8 (by omega) (by omega),bnd_some]
   have hl:=zGx 20 (u / 10) (by omega)
   rw [zCM (by simp [zEd];omega),bnd_some]
   congr 2
theorem zND {fu:Nat} {n:Int} (h1 : -1000<=n) (h2:n<=1000) (hf:1010<fu):zAu fu n=some (Lib.itoa n):=by
 unfold Lib.itoa
 by_cases h:n<0
 ·obtain ⟨fu,rfl⟩:∃f,fu=f+1:=⟨fu - 1,by omega⟩
  rw [if_pos h,zAu,show decide (n<0)=true from by simpa using h,cnd_true,zGF (by omega) (by omega),bnd_some]
  rw [show 0 - n=((n.natAbs:Nat):Int) from by omega,zKe _ _ (by omega) (by omega),bnd_some]
  have:=zGx 4 n.natAbs (by omega)
  rw [zCM (by simp;omega)];rfl
 ·rw [if_neg h]
  obtain ⟨m,rfl⟩:∃m:Nat,n=(m:Int):=⟨n.toNat,by omega⟩
  rw [zKe _ _ (by omega) (by omega)]
  rfl
theorem zSS {fu:Nat} {f:UInt8} {n:Int} (hf:f=110\/f=111\/f=105\/f=46) (h1 : -1000<=n) (h2:n<=1000) (hfu:1010<fu):zCy fu ((rf f).toNat:Int) n=some (tl (numL f n)):=by
 have hl:=zHl h1 h2
 have key:f≠105->f≠46->cnd (decide (n>=0)) (bnd (zAu fu n) fun r5=>bnd (cat ([32]:Bs) r5) fun s6=>some s6) (cnd (n==(-1)) (some [32,45]) (cnd (n==(-2)) (some [32,115,101,108,102]) (some [32,108,97,115,116])))=some (tl (numL f n)):=fun e1 e2=>by
  unfold numL numW
  rw [if_neg e2,zCu,zBC,zBC]
  by_cases h:n>=0
  ·rw [if_pos h,if_pos (.inr h),zND h1 h2 hfu,bnd_some,zCM (by simp;omega),bnd_some]
   simp [zDF,zCx]
  ·rw [if_neg h,if_neg (show ¬(f=105\/0<=n) from fun h'=>by rcases h' with h' | h';exact e1 h';exact h h')]
   by_cases h3:n = -1
   ·rw [if_pos h3,if_pos h3];rfl
   ·rw [if_neg h3,if_neg h3]
    by_cases h4:n = -2
    ·rw [if_pos h4,if_pos h4];rfl
    ·rw [if_neg h4,if_neg h4];rfl
 unfold zCy
 rcases hf with rfl | rfl | rfl | rfl
 ·exact key (by decide) (by decide)
 ·exact key (by decide) (by decide)
 ·show cnd false _ (cnd true _ _)=_
  rw [cnd_false,cnd_true,zND h1 h2 hfu,bnd_some,zCM (by simp;omega),bnd_some]
  simp [zDF,zCx,numL,numW]
 ·rfl
theorem zPX {fu:Nat} {s:Bs} (hs:s.length<fu) (hl:s.length<=1000000):zC6 fu s=some (qS s):=by
 unfold zC6
 have hq:∀i,(quoL (s.take i)).length<=2*s.length:=fun i=>by
  have:=zH3 (s.take i)
  have:(s.take i).length<=s.length:=by simp;omega
  omega
 have:=upf (L:=zAt s) (fun i=>(34::quoL (s.take i),(i:Int))) (some (qS s)) s.length (fun i hi k=>?_) (fun k=>?_) hs
 ·exact this
 ·rw [zAt,show decide ((i:Int)<((s.length:Nat):Int))=true from by simpa using hi,cnd_true,zKy hi]
  simp only [bnd_some]
  rw [show (((s[i].toNat:Nat):Int)==34)=(s[i]==34) from zDu _ 34,show (((s[i].toNat:Nat):Int)==92)=(s[i]==92) from zDu _ 92,zBC,zBC]
  have:=hq i
  have hp:zC3 s (i:Int) ((i+1:Nat):Int)=some [s[i]]:=by
   rw [zCc (by omega) (by omega),List.drop_eq_getElem_cons hi,show i+1 - i=1 from by omega]
   rfl
  have fin:∀out:Bs,out.length<=3*s.length+3->zCF s (i:Int) (zAt s k) out=zAt s k (out++[s[i]],((i+1:Nat):Int)):=fun out ho=>by
   unfold zCF
   rw [zAw (by omega),bnd_some,hp,bnd_some,zCM (by simp;omega),bnd_some,bnd_some]
  have hsn:=zHn (l:=s) (k:=i) (h:=hi) rfl
  by_cases h34:s[i]=34
  ·rw [if_pos h34,zCM (by simp;omega),bnd_some,fin _ (by simp;omega),hsn,zJv (.inl h34)]
   simp
  ·rw [if_neg h34]
   by_cases h92:s[i]=92
   ·rw [if_pos h92,zCM (by simp;omega),bnd_some,fin _ (by simp;omega),hsn,zJv (.inr h92)]
    simp
   ·rw [if_neg h92,fin _ (by simp;omega),hsn,zOK h34 h92]
    simp
 ·rw [zAt,show decide (((s.length:Nat):Int)<((s.length:Nat):Int))=false from by simp,cnd_false]
  have:=hq s.length
  rw [List.take_length] at this ⊢
  rw [zCM (by simp;omega),bnd_some]
  rfl
theorem rput_m {fu:Nat} {o:Op} (h:RightP o) (hf:2000<fu):zEN fu o=some (putP o):=by
 have hw:=zNW o.Kind
 obtain ⟨a1,a2⟩:=zEF h.a
 obtain ⟨b1,b2⟩:=zEF h.b
 obtain ⟨c1,c2⟩:=zEF h.c
 have l1:=zFt (f:=fc o.Kind 0) a1 a2
 have l2:=zFt (f:=fc o.Kind 1) b1 b2
 have l3:=zFt (f:=fc o.Kind 2) c1 c2
 have hs:=(zFM h.s).1
 have hT:=(zFM h.t).1
 have q1:=zNA o.S
 have q2:=zNA o.T
 have l4:=zJz (fc o.Kind 3) o.S
 have j2:∀x:Bs,x.length<=10000->zDM fu o (rfd o.Kind) x=some (x++tl (txtL (fc o.Kind 4) o.T)):=fun x hx=>by
  unfold zDM txtL
  rw [show (4:Int)=((4:Nat):Int) from rfl,zFd h.kind (by omega),bnd_some]
  rcases zFU o.Kind (i:=4) (by omega) (by omega) with e | e
  ·rw [e,if_pos rfl]
   show cnd true _ _=_
   rw [cnd_true,zPX (by omega) (by omega),bnd_some,zCM (by simp;omega),bnd_some,zCM (by simp;omega),bnd_some]
   simp [zDF,zCx]
  ·rw [e,if_neg (by decide)]
   show cnd false _ _=_
   rw [cnd_false];simp [zCx]
 have j1:∀x:Bs,x.length<=1000->zDL fu o (rfd o.Kind) x=some (x++tl (zHa o)):=fun x hx=>by
  unfold zDL zHa
  rw [show (3:Int)=((3:Nat):Int) from rfl,zFd h.kind (by omega),bnd_some,zFm]
  rcases zFU o.Kind (i:=3) (by omega) (by omega) with e | e
  ·rw [e]
   show cnd true _ _=_
   rw [cnd_true,zPX (by omega) (by omega),bnd_some,zCM (by simp;omega),bnd_some,zCM (by simp;omega),bnd_some,j2 _ (by simp;omega)]
   simp [zDF,zCx,txtL]
  ·rw [e]
   show cnd false _ _=_
   rw [cnd_false,j2 _ (by omega)]
   simp [zCx,txtL]
 unfold zEN
 rw [zKf,bnd_some,zSg (by omega) h.kind,bnd_some,show (0:Int)=((0:Nat):Int) from rfl,zFd h.kind (by omega),bnd_some,zSS (zEU _ (by omega)) a1 a2 (by omega),bnd_some,zCM (by omega),bnd_some,
  show (1:Int)=((1:Nat):Int) from rfl,zFd h.kind (by omega),bnd_some,zSS (zEU _ (by omega)) b1 b2 (by omega),bnd_some,zCM (by simp;omega),bnd_some,
  show (2:Int)=((2:Nat):Int) from rfl,zFd h.kind (by omega),bnd_some,zSS (zEU _ (by omega)) c1 c2 (by omega),bnd_some,zCM (by simp;omega),bnd_some]
 unfold putP zEI bang
 cases o.Must with
 | true=>rw [cnd_true,zCM (by simp;omega),bnd_some,j1 _ (by simp;omega)];simp [zFm]
 | false=>rw [cnd_false,j1 _ (by simp;omega)];simp [zFm]
end Go.Proofs.YtoboimmgglnjfaaGreatDoor
/- The reference's reader of operations. -/
namespace Go.Proofs.YtoboimmgglnjfaaGreatDoor
open Go Go.Pw
set_option linter.unusedVariables false
theorem zUB {fu:Nat} {S t:Bs} {p:Nat} (hp:p<=S.length) (hS:S.length<=1000000) (ht:t.length<=1000) :
  zAT fu S (p:Int) t=some (if S.drop p=t++S.drop (p+t.length) then ((p+t.length:Nat):Int) else -1):=by
 unfold zAT
 rw [show decide ((p:Int)<0)=false from by simp,cnd_false,show ((S.length:Nat):Int) - (p:Int)=((S.length - p:Nat):Int) from by omega,zGF (by omega) (by omega),bnd_some]
 by_cases h:S.length - p<t.length
 ·rw [show decide (((S.length - p:Nat):Int)<((t.length:Nat):Int))=true from by rw [decide_eq_true_eq];omega,cnd_true,if_neg]
  intro e
  have:=congrArg List.length e
  simp at this;omega
 ·rw [show decide (((S.length - p:Nat):Int)<((t.length:Nat):Int))=false from by rw [decide_eq_false_iff_not];omega,cnd_false,show (p:Int)+((t.length:Nat):Int)=((p+t.length:Nat):Int) from by omega,zGF (by omega) (by omega),bnd_some,zCc (by omega) (by omega),bnd_some,show p+t.length - p=t.length from by omega,bnd_some]
  have hd:S.drop p=(S.drop p).take t.length++S.drop (p+t.length):=by rw [<- List.drop_drop,List.take_append_drop]
  by_cases e:(S.drop p).take t.length=t
  ·rw [e,beq_self_eq_true]
   simp only [Bool.not_true,cnd_false]
   rw [if_pos (by rw [e] at hd;exact hd)]
  ·rw [beq_false_of_ne e]
   simp only [Bool.not_false,cnd_true]
   rw [if_neg]
   intro h2
   exact e (by rw [h2,List.take_left' rfl])
theorem zET {fu:Nat} {S t:Bs} {p:Nat} (hp:p<=S.length) (hS:S.length<=1000000) (ht:t.length<=1000) :
  (zAT fu S (p:Int) t=some ((p+t.length:Nat):Int)/\S.drop p=t++S.drop (p+t.length)/\p+t.length<=S.length)\/(zAT fu S (p:Int) t=some (-1)/\∀r,S.drop p≠t++r):=by
 rw [zUB hp hS ht]
 by_cases h:S.drop p=t++S.drop (p+t.length)
 ·rw [if_pos h];exact .inl ⟨rfl,h,zHN hp h⟩
 ·rw [if_neg h];exact .inr ⟨rfl,fun r e=>h (by rw [e,zFs e])⟩
theorem zFL {fu:Nat} {S t r:Bs} {p:Nat} (hp:p<=S.length) (hS:S.length<=1000000) (ht:t.length<=1000) (h:S.drop p=t++r):zAT fu S (p:Int) t=some ((p+t.length:Nat):Int):=by
 rcases zET (fu:=fu) hp hS ht with ⟨h1,_⟩ | ⟨_,h1⟩
 ·exact h1
 ·exact absurd h (h1 r)
theorem zGG {fu:Nat} {S t:Bs} {p:Nat} (hp:p<=S.length) (hS:S.length<=1000000) (ht:t.length<=1000) (h:∀r,S.drop p≠t++r):zAT fu S (p:Int) t=some (-1):=by
 rcases zET (fu:=fu) hp hS ht with ⟨_,h1,_⟩ | ⟨h1,_⟩
 ·exact absurd h1 (h _)
 ·exact h1
def dig (c:UInt8):Bool:=decide (isD c)
def run5 (S:Bs) (f:Nat):Bs:=((S.drop f).take 5).takeWhile dig
theorem zPc {S:Bs} {f:Nat}:∀c∈run5 S f,isD c:=fun c hc=>by simpa [dig] using List.all_eq_true.1 List.all_takeWhile c hc
theorem zPd (S:Bs) (f:Nat):(run5 S f).length<=5:=by
 have h1:(run5 S f).length<=((S.drop f).take 5).length:=(List.takeWhile_sublist dig).length_le
 have:((S.drop f).take 5).length<=5:=by simp;omega
 omega
theorem zJE (S:Bs) (f:Nat):S.drop f=run5 S f++S.drop (f+(run5 S f).length):=by
 have h:=List.takeWhile_append_dropWhile (p:=dig) (l:=(S.drop f).take 5)
 have e:S.drop f=run5 S f++(((S.drop f).take 5).dropWhile dig++(S.drop f).drop 5):=by
  rw [<- List.append_assoc]
  unfold run5
  rw [h,List.take_append_drop]
 rw [zFs e];exact e
theorem zT9 {S:Bs} {f:Nat} {c:UInt8} {r:Bs} (h:S.drop (f+(run5 S f).length)=c::r) (h5:(run5 S f).length<5):¬isD c:=by
 have h2:=List.takeWhile_append_dropWhile (p:=dig) (l:=(S.drop f).take 5)
 have e:S.drop f=run5 S f++(((S.drop f).take 5).dropWhile dig++(S.drop f).drop 5):=by
  rw [<- List.append_assoc]
  unfold run5
  rw [h2,List.take_append_drop]
 rw [zFs e] at h
 cases hd:((S.drop f).take 5).dropWhile dig with
 | nil =>
  rw [hd,List.append_nil] at h2
  rw [hd,List.nil_append] at h
  have hl:(run5 S f).length=((S.drop f).take 5).length:=by unfold run5;rw [h2]
  have:((S.drop f).drop 5).length=0:=by simp at hl ⊢;omega
  rw [h] at this;cases this
 | cons x l =>
  rw [hd] at h
  simp at h
  have:=List.head?_dropWhile_not dig ((S.drop f).take 5)
  rw [hd] at this
  simp at this
  rw [<- h.1]
  simpa [dig] using this
theorem zWC {S d r:Bs} {f:Nat} (h:S.drop f=d++r) (hd:∀c∈d,isD c) (hl:d.length<=5) (hr:∀c,r.head? = some c->¬isD c):run5 S f=d:=by
 unfold run5
 rw [h,List.take_append,List.take_of_length_le hl,List.takeWhile_append_of_pos (fun c hc=>by simpa [dig] using hd c hc)]
 have:(r.take (5 - d.length)).takeWhile dig=[]:=by
  cases r with
  | nil=>simp
  | cons c r =>
   have:=hr c rfl
   cases h5:5 - d.length with
   | zero=>rfl
   | succ n=>rw [List.take_succ_cons,List.takeWhile_cons,if_neg (by simpa [dig] using this)]
 rw [this,List.append_nil]
theorem zNm {S:Bs} {f i k:Nat} {minus:Bool} {d:UInt8} {r:Bs} {v:Nat} (hS:S.length<=1000000) (hc:S.drop (f+i)=d::r) (hd:isD d) (hi:i<5) (hv:v<100000) :
  zAe S minus (f:Int) (k+1) (((f+i:Nat):Int),(v:Int))=zAe S minus (f:Int) k (((f+(i+1):Nat):Int),((v*10+(d.toNat - 48):Nat):Int)):=by
 have hlt:f+i<S.length:=(zED hc).1
 unfold isD at hd
 have e1:decide (((f+i:Nat):Int)<((S.length:Nat):Int))=true:=by rw [decide_eq_true_eq];omega
 have e2:decide (((d.toNat:Nat):Int)>=48)=true:=by rw [decide_eq_true_eq];omega
 have e3:decide (((d.toNat:Nat):Int)<=57)=true:=by rw [decide_eq_true_eq];omega
 have e4:rng .i64 (((f+i:Nat):Int) - (f:Int))=some ((i:Nat):Int):=by rw [zGF (by omega) (by omega)];congr 1;omega
 have e5:decide ((i:Int)<5)=true:=by rw [decide_eq_true_eq];omega
 have e6:rng .i64 ((v:Int)*10)=some ((v:Int)*10):=zGF (by omega) (by omega)
 have e7:rng .u8 (((d.toNat:Nat):Int) - 48)=some (((d.toNat - 48:Nat)):Int):=by rw [rng8 (by omega) (by omega)];congr 1;omega
 have e8:rng .i64 (((d.toNat - 48:Nat)):Int)=some (((d.toNat - 48:Nat)):Int):=zGF (by omega) (by omega)
 have e9:rng .i64 ((v:Int)*10+(((d.toNat - 48:Nat)):Int))=some ((v*10+(d.toNat - 48):Nat):Int):=by rw [zGF (by omega) (by omega)];congr 1
 have e10:rng .i64 (((f+i:Nat):Int)+1)=some ((f+(i+1):Nat):Int):=zAw (by omega)
 rw [zAe,e1,cnd_true,zFr hc,bnd_some,e2,cnd_true,bnd_some,e3,cnd_true,e4,bnd_some,e5,cnd_true,e6,bnd_some,bnd_some,e7,bnd_some,e8,bnd_some,e9,bnd_some,e10,bnd_some]
theorem zNn {S:Bs} {f n k:Nat} {minus:Bool} {v:Int} (hS:S.length<=1000000) (h:n=5\/∀c r,S.drop (f+n)=c::r->¬isD c) (hn:n<=5) :
  zAe S minus (f:Int) (k+1) (((f+n:Nat):Int),v)=zAc S minus (f:Int) (((f+n:Nat):Int),v):=by
 rw [zAe]
 by_cases hlt:f+n<S.length
 ·obtain ⟨c,r,hcr⟩:=zKJ hlt
  have e1:decide (((f+n:Nat):Int)<((S.length:Nat):Int))=true:=by rw [decide_eq_true_eq];omega
  rw [e1,cnd_true,zFr hcr,bnd_some]
  cases h2:decide (((c.toNat:Nat):Int)>=48) with
  | false=>rfl
  | true =>
   rw [cnd_true,bnd_some]
   cases h3:decide (((c.toNat:Nat):Int)<=57) with
   | false=>rfl
   | true =>
    rw [cnd_true]
    rw [decide_eq_true_eq] at h2 h3
    rcases h with h | h
    ·have e4:rng .i64 (((f+n:Nat):Int) - (f:Int))=some ((n:Nat):Int):=by rw [zGF (by omega) (by omega)];congr 1;omega
     have e5:decide ((n:Int)<5)=false:=by rw [decide_eq_false_iff_not];omega
     rw [e4,bnd_some,e5,cnd_false]
    ·exact absurd ⟨by omega,by omega⟩ (h c r hcr)
 ·have e1:decide (((f+n:Nat):Int)<((S.length:Nat):Int))=false:=by rw [decide_eq_false_iff_not];omega
  rw [e1,cnd_false]
theorem zTA {S:Bs} {f:Nat} {minus:Bool} (hf:f<=S.length) (hS:S.length<=1000000) {k:Nat} (hk:6<k) :
  zAe S minus (f:Int) k ((f:Int),0)=zAc S minus (f:Int) (((f+(run5 S f).length:Nat):Int),(val (run5 S f):Int)):=by
 have hall:=zPc (S:=S) (f:=f)
 have hlen:=zPd S f
 have hsp:=zJE S f
 have hend:=fun c r=>zT9 (S:=S) (f:=f) (c:=c) (r:=r)
 generalize run5 S f=D at *
 have:=upf (L:=zAe S minus (f:Int)) (fun i=>(((f+i:Nat):Int),(val (D.take i):Int))) (zAc S minus (f:Int) (((f+D.length:Nat):Int),(val D:Int))) D.length (fun i hi k=>?_) (fun k=>?_) (k:=k) (by omega)
 ·exact this
 ·have hsp':S.drop f=D.take i++(D[i]::(D.drop (i+1)++S.drop (f+D.length))):=by
   rw [<- List.cons_append,<- List.drop_eq_getElem_cons hi,<- List.append_assoc,List.take_append_drop];exact hsp
  have h1:=zFs hsp'
  rw [List.length_take,Nat.min_eq_left (by omega)] at h1
  have hv:=zSs 5 (D.take i) (by simp;omega) (fun c hc=>hall c (List.mem_of_mem_take hc))
  have:=zNm (minus:=minus) (k:=k) (v:=val (D.take i)) hS h1 (hall D[i] (List.getElem_mem hi)) (by omega) hv
  rw [this,List.take_succ_eq_append_getElem hi,zJ1]
 ·rw [List.take_length]
  refine zNn hS ?_ hlen
  by_cases h5:D.length<5
  ·exact .inr fun c r hcr=>hend c r hcr h5
  ·exact .inl (by omega)
def sgn (minus:Bool) (v:Nat):Int:=if minus then -(v:Int) else (v:Int)
def sgnS (minus:Bool):Bs:=if minus then [45] else []
def okD (minus:Bool) (D:Bs):Prop:=zSw D/\¬(minus=true/\val D=0)
theorem zTT {minus:Bool} {D:Bs} (h:okD minus D):Lib.itoa (sgn minus (val D))=sgnS minus++D:=by
 have hb:=zS7 D.length D (Nat.le_refl _) h.1
 unfold sgn sgnS Lib.itoa
 cases minus with
 | true =>
  have:0<val D:=by
   rcases Nat.eq_zero_or_pos (val D) with h0 | h0
   ·exact absurd ⟨rfl,h0⟩ h.2
   ·exact h0
  rw [if_pos rfl,if_pos rfl,if_pos (by omega),show (-(val D:Int)).natAbs=val D from by omega,hb];rfl
 | false =>
  show (if (val D:Int)<0 then _ else Lib.decDigits ((val D:Int)).toNat)=[]++D
  rw [if_neg (by omega),Int.toNat_natCast,hb];rfl
theorem j6_m {S:Bs} {f:Nat} {minus:Bool} (hf:f<=S.length) (hS:S.length<=1000000) :
  (okD minus (run5 S f)/\zAc S minus (f:Int) (((f+(run5 S f).length:Nat):Int),(val (run5 S f):Int))=some (sgn minus (val (run5 S f)),((f+(run5 S f).length:Nat):Int))) \/
  (¬okD minus (run5 S f)/\zAc S minus (f:Int) (((f+(run5 S f).length:Nat):Int),(val (run5 S f):Int))=some (0,-1)):=by
 have hall:=zPc (S:=S) (f:=f)
 have hlen:=zPd S f
 have hsp:=zJE S f
 have hle:=zHN hf hsp
 generalize run5 S f=D at *
 unfold zAc
 simp only
 cases D with
 | nil =>
  refine .inr ⟨fun h=>h.1.1 rfl,?_⟩
  rw [show ((((f+([]:Bs).length:Nat):Int))==(f:Int))=true from by simp,cnd_true]
 | cons d D =>
  simp only [List.length_cons] at *
  have hv:=zSs 5 (d::D) (by simpa using hlen) hall
  rw [show ((((f+(D.length+1):Nat):Int))==(f:Int))=false from by rw [beq_eq_false_iff_ne];omega,cnd_false]
  rw [List.cons_append] at hsp
  rw [zFr hsp,bnd_some,show (((d.toNat:Nat):Int)==48)=(d==48) from zDu d 48,zBC]
  by_cases h48:d=48
  ·rw [if_pos h48,zGF (by omega) (by omega),bnd_some]
   by_cases hD:D=[]
   ·subst hD
    rw [show decide (((f+(([]:Bs).length+1):Nat):Int)>(f:Int)+1)=false from by rw [decide_eq_false_iff_not];simp,cnd_false]
    have hv0:val [d]=0:=by rw [h48];rfl
    cases minus with
    | true=>exact .inr ⟨fun h=>h.2 ⟨rfl,hv0⟩,rfl⟩
    | false=>exact .inl ⟨⟨⟨by simp,hall,fun _=>rfl⟩,fun h=>by cases h.1⟩,rfl⟩
   ·have hDl:0<D.length:=List.length_pos_iff.2 hD
    rw [show decide (((f+(D.length+1):Nat):Int)>(f:Int)+1)=true from by rw [decide_eq_true_eq];omega,cnd_true]
    refine .inr ⟨fun h=>?_,rfl⟩
    have:=h.1.2.2 (by rw [h48];rfl)
    simp at this
    exact hD this
  ·rw [if_neg h48]
   have hp:=zQx hall (by simp) (by simpa using h48)
   refine .inl ⟨⟨⟨by simp,hall,fun h=>absurd (by simpa using h) h48⟩,fun h=>by omega⟩,?_⟩
   cases minus with
   | true =>
    rw [cnd_true,zGF (by omega) (by omega),bnd_some,sgn,if_pos rfl]
    congr 2;omega
   | false=>rw [cnd_false];rfl
theorem zK0 {fu:Nat} {S:Bs} {f:Nat} {minus:Bool} (hf:f<=S.length) (hS:S.length<=1000000) (hk:6<fu) :
  (okD minus (run5 S f)/\zAz fu S minus (f:Int)=some (sgn minus (val (run5 S f)),((f+(run5 S f).length:Nat):Int)))\/(¬okD minus (run5 S f)/\zAz fu S minus (f:Int)=some (0,-1)):=by
 unfold zAz
 rw [zTA hf hS hk]
 exact j6_m hf hS
def Took (S:Bs) (p:Nat) (t:Bs) (a:Int):Prop:=∃q:Nat,a=(q:Int)/\q<=S.length/\S.drop p=t++S.drop q
theorem zSZ {fu:Nat} {S:Bs} {p:Nat} {f:UInt8} (hf:f=110\/f=111\/f=105) (hp:p<=S.length) (hS:S.length<=1000000) (hk:6<fu) :
  ∃n a,zAl fu S (p:Int) (f.toNat:Int)=some (n,a)/\(a = -1\/Took S p (32::numW f n) a):=by
 have dg:∀{q:Nat} {minus:Bool},S.drop p=32::sgnS minus++S.drop q->q<=S.length->(f=105\/minus=false)->∃n a,zAz fu S minus (q:Int)=some (n,a)/\(a = -1\/Took S p (32::numW f n) a):=fun {q minus} hd hq hfm=>by
  rcases zK0 (fu:=fu) (minus:=minus) hq hS hk with ⟨h1,h2⟩ | ⟨_,h2⟩
  ·have hsp:=zJE S q
   refine ⟨_,_,h2,.inr ⟨_,rfl,zHN hq hsp,?_⟩⟩
   have e:numW f (sgn minus (val (run5 S q)))=sgnS minus++run5 S q:=by
    unfold numW
    rw [if_pos,zTT h1]
    rcases hfm with h | h
    ·exact .inl h
    ·right;rw [h];simp [sgn]
   rw [e,hd]
   simp only [List.cons_append,List.append_assoc]
   rw [<- hsp]
  ·exact ⟨_,_,h2,.inl rfl⟩
 unfold zAl
 rcases zET (fu:=fu) (t:=[32]) hp hS (by simp) with ⟨h1,h2,h3⟩ | ⟨h1,_⟩
 ·rw [show p+([32]:Bs).length=p+1 from rfl] at h1
  rw [h1,bnd_some,show decide (((p+1:Nat):Int)<0)=false from by rw [decide_eq_false_iff_not];omega,cnd_false]
  have hq:p+1<=S.length:=h3
  have hd:S.drop p=32::S.drop (p+1):=h2
  show ∃n a,cnd _ (bnd (zAT fu S ((p+1:Nat):Int) _) _) (zAb fu S (f.toNat:Int) ((p+1:Nat):Int) ())=some (n,a)/\_
  have j4:∀b:Bool,(b=true->f=105/\S.drop (p+1)=45::S.drop (p+2)/\p+2<=S.length)->∃n a,zAy fu S ((p+1:Nat):Int) b=some (n,a)/\(a = -1\/Took S p (32::numW f n) a):=fun b hb=>by
   unfold zAy
   cases b with
   | true =>
    obtain ⟨e1,e2,e3⟩:=hb rfl
    rw [cnd_true,zAw (by omega),bnd_some]
    exact dg (q:=p+1+1) (minus:=true) (by rw [hd,e2];rfl) e3 (.inl e1)
   | false =>
    rw [cnd_false]
    exact dg (q:=p+1) (minus:=false) (by rw [hd];rfl) hq (.inr rfl)
  have j3:∃n a,zBE fu S (f.toNat:Int) ((p+1:Nat):Int) ()=some (n,a)/\(a = -1\/Took S p (32::numW f n) a):=by
   unfold zBE
   rw [show ((f.toNat:Int)==105)=(f==105) from zDu f 105,zBC]
   by_cases h5:f=105
   ·rw [if_pos h5]
    rcases zET (fu:=fu) (t:=[45]) hq hS (by simp) with ⟨s1,s2,s3⟩ | ⟨s1,_⟩
    ·rw [s1,bnd_some]
     exact j4 _ (fun _=>⟨h5,s2,s3⟩)
    ·rw [s1,bnd_some]
     exact j4 _ (fun h=>by simp at h)
   ·rw [if_neg h5]
    exact j4 _ (fun h=>by cases h)
  by_cases h5:f=105
  ·rw [show ((f.toNat:Int) != 105)=false from by rw [h5];rfl,cnd_false]
   unfold zAb
   rw [show ((f.toNat:Int) != 105)=false from by rw [h5];rfl,cnd_false]
   unfold zAx
   rw [show ((f.toNat:Int)==111)=false from by rw [h5];rfl,cnd_false]
   exact j3
  ·have hne:((f.toNat:Int) != 105)=true:=by rcases hf with rfl | rfl | rfl<;>first | rfl | exact absurd rfl h5
   have nn:∀n:Int,n<0->numW f n=if n = -1 then [45] else if n = -2 then zOM else zNz:=fun n hn=>if_neg (fun h=>by rcases h with h | h;exact h5 h;omega)
   rw [hne,cnd_true]
   rcases zET (fu:=fu) (t:=[115,101,108,102]) hq hS (by simp) with ⟨s1,s2,s3⟩ | ⟨s1,_⟩
   ·rw [s1,bnd_some,show decide (((p+1+([115,101,108,102]:Bs).length:Nat):Int)>=0)=true from by rw [decide_eq_true_eq];omega,cnd_true,zGF (by omega) (by omega),bnd_some]
    refine ⟨_,_,rfl,.inr ⟨p+1+4,by omega,s3,?_⟩⟩
    rw [nn (-2) (by decide),hd,s2];rfl
   ·rw [s1,bnd_some,show decide ((-1:Int)>=0)=false from rfl,cnd_false]
    unfold zAb
    rw [hne,cnd_true]
    rcases zET (fu:=fu) (t:=[108,97,115,116]) hq hS (by simp) with ⟨s1,s2,s3⟩ | ⟨s1,_⟩
    ·rw [s1,bnd_some,show decide (((p+1+([108,97,115,116]:Bs).length:Nat):Int)>=0)=true from by rw [decide_eq_true_eq];omega,cnd_true,zGF (by omega) (by omega),bnd_some]
     refine ⟨_,_,rfl,.inr ⟨p+1+4,by omega,s3,?_⟩⟩
     rw [nn (-3) (by decide),hd,s2];rfl
    ·rw [s1,bnd_some,show decide ((-1:Int)>=0)=false from rfl,cnd_false]
     unfold zAx
     rw [show ((f.toNat:Int)==111)=(f==111) from zDu f 111,zBC]
     by_cases h11:f=111
     ·rw [if_pos h11]
      rcases zET (fu:=fu) (t:=[45]) hq hS (by simp) with ⟨s1,s2,s3⟩ | ⟨s1,_⟩
      ·rw [s1,bnd_some,show decide (((p+1+([45]:Bs).length:Nat):Int)>=0)=true from by rw [decide_eq_true_eq];omega,cnd_true,zGF (by omega) (by omega),bnd_some]
       refine ⟨_,_,rfl,.inr ⟨p+1+1,by omega,s3,?_⟩⟩
       rw [nn (-1) (by decide),hd,s2];rfl
      ·rw [s1,bnd_some,show decide ((-1:Int)>=0)=false from rfl,cnd_false]
       exact j3
     ·rw [if_neg h11];exact j3
 ·rw [h1,bnd_some]
  exact ⟨_,_,rfl,.inl rfl⟩
theorem zS8 {n:Int}:∃minus D,Lib.itoa n=sgnS minus++D/\zSw D/\n=sgn minus (val D)/\(minus=true->n<0):=by
 unfold Lib.itoa
 by_cases h:n<0
 ·refine ⟨true,Lib.decDigits n.natAbs,by rw [if_pos h];rfl,zKw _,?_,fun _=>h⟩
  rw [zLV,sgn,if_pos rfl];omega
 ·refine ⟨false,Lib.decDigits n.toNat,by rw [if_neg h];rfl,zKw _,?_,fun e=>by cases e⟩
  rw [zLV,sgn,if_neg (by decide)];omega
theorem zSa {fu:Nat} {S r:Bs} {p:Nat} {f:UInt8} {n:Int} (hf:f=110\/f=111\/f=105) (hn:fit f n=true) (hp:p<=S.length) (hS:S.length<=1000000) (hk:6<fu) (h:S.drop p=32::numW f n++r) (hr:r=[]\/r.head? = some 32) :
  zAl fu S (p:Int) (f.toNat:Int)=some (n,((p+1+(numW f n).length:Nat):Int)):=by
 obtain ⟨n1,n2⟩:=zEF hn
 have hnr:∀c,r.head? = some c->¬isD c:=fun c hc=>by
  rcases hr with rfl | hr
  ·cases hc
  ·rw [hr] at hc;cases hc;decide
 unfold zAl
 rw [zFL (t:=[32]) hp hS (by simp) h,bnd_some,show p+([32]:Bs).length=p+1 from rfl,show decide (((p+1:Nat):Int)<0)=false from by rw [decide_eq_false_iff_not];omega,cnd_false]
 obtain ⟨hq,hd⟩:=zED (show S.drop p=32::(numW f n++r) from h)
 have hq:p+1<=S.length:=hq
 show cnd _ (bnd (zAT fu S ((p+1:Nat):Int) _) _) (zAb fu S (f.toNat:Int) ((p+1:Nat):Int) ())=_
 -- digits,behind a sign or not
 have dg:f=105\/0<=n->zBE fu S (f.toNat:Int) ((p+1:Nat):Int) ()=some (n,((p+1+(numW f n).length:Nat):Int)):=fun hfn=>by
  have ew:numW f n=Lib.itoa n:=if_pos hfn
  obtain ⟨minus,D,e1,e2,e3,e4⟩:=zS8 (n:=n)
  have hok:okD minus D:=⟨e2,fun hm=>by
   have:=e4 hm.1
   rw [e3,sgn,if_pos hm.1] at this;omega⟩
  rw [ew] at hd ⊢
  have hDl:D.length<=5:=by
   have:=zHl n1 n2
   rw [e1] at this;simp at this;omega
  have fin:∀q:Nat,S.drop q=D++r->q<=S.length->zAz fu S minus (q:Int)=some (n,((q+D.length:Nat):Int)):=fun q hq1 hq2=>by
   have hrun:=zWC hq1 e2.2.1 hDl hnr
   rcases zK0 (fu:=fu) (minus:=minus) hq2 hS hk with ⟨_,h2⟩ | ⟨h1,_⟩
   ·rw [h2,hrun,<- e3]
   ·rw [hrun] at h1;exact absurd hok h1
  unfold zBE
  rw [show ((f.toNat:Int)==105)=(f==105) from zDu f 105,zBC]
  rw [e1] at hd ⊢
  cases minus with
  | true =>
   have h5:f=105:=by
    rcases hfn with h | h
    ·exact h
    ·exact absurd h (by have:=e4 rfl;omega)
   have hd':S.drop (p+1)=[45]++(D++r):=hd
   rw [if_pos h5,zFL (t:=[45]) hq hS (by simp) hd',bnd_some,show decide (((p+1+([45]:Bs).length:Nat):Int)>=0)=true from by rw [decide_eq_true_eq];omega]
   unfold zAy
   rw [cnd_true,zAw (by omega),bnd_some,fin (p+1+1) (zED hd').2 (zED hd').1]
   congr 3
   simp [sgnS];omega
  | false =>
   have hd':S.drop (p+1)=D++r:=hd
   have hno:∀x,S.drop (p+1)≠[45]++x:=fun x e=>by
    rw [hd'] at e
    obtain ⟨d,D',rfl⟩:∃d D',D=d::D':=by
     cases D with
     | nil=>exact absurd rfl e2.1
     | cons d D=>exact ⟨d,D,rfl⟩
    simp at e
    have:=e2.2.1 d (by simp)
    rw [e.1] at this
    exact absurd this (by decide)
   have j4:zAy fu S ((p+1:Nat):Int) false=some (n,((p+1+(sgnS false++D).length:Nat):Int)):=by
    unfold zAy
    rw [cnd_false,fin (p+1) hd' hq];rfl
   by_cases h5:f=105
   ·rw [if_pos h5,zGG (t:=[45]) hq hS (by simp) hno,bnd_some];exact j4
   ·rw [if_neg h5];exact j4
 have hdig:0<=n->∀(c:UInt8) (t x:Bs),¬isD c->S.drop (p+1)≠(c::t)++x:=fun h0 c t x hc e=>by
  have ew:numW f n=Lib.itoa n:=if_pos (.inr h0)
  rw [hd,ew] at e
  have hne:=zVW n
  obtain ⟨d,D',hD⟩:∃d D',Lib.itoa n=d::D':=by
   cases hi:Lib.itoa n with
   | nil=>exact absurd hi hne
   | cons d D=>exact ⟨d,D,rfl⟩
  rw [hD] at e
  simp at e
  have hi:Lib.itoa n=Lib.decDigits n.toNat:=by unfold Lib.itoa;rw [if_neg (by omega)]
  have:=zFy n.toNat d (by rw [<- hi,hD];simp)
  rw [e.1] at this
  exact hc this
 by_cases h5:f=105
 ·rw [show ((f.toNat:Int) != 105)=false from by rw [h5];rfl,cnd_false]
  unfold zAb
  rw [show ((f.toNat:Int) != 105)=false from by rw [h5];rfl,cnd_false]
  unfold zAx
  rw [show ((f.toNat:Int)==111)=false from by rw [h5];rfl,cnd_false]
  exact dg (.inl h5)
 ·have hne:((f.toNat:Int) != 105)=true:=by rcases hf with rfl | rfl | rfl<;>first | rfl | exact absurd rfl h5
  have nn:∀n:Int,n<0->numW f n=if n = -1 then [45] else if n = -2 then zOM else zNz:=fun n hn=>if_neg (fun h=>by rcases h with h | h;exact h5 h;omega)
  rw [hne,cnd_true]
  have hfit:n = -2\/n = -3\/0<=n\/f=111/\n = -1:=by
   unfold fit at hn
   rw [if_neg h5,if_pos (by rcases hf with h | h | h;exact .inl h;exact .inr h;exact absurd h h5)] at hn
   rcases of_decide_eq_true hn with h | h | h | h
   ·exact .inl h
   ·exact .inr (.inl h)
   ·exact .inr (.inr (.inl h.1))
   ·exact .inr (.inr (.inr h))
  rcases hfit with rfl | rfl | h0 | ⟨rfl,rfl⟩
  ·rw [nn (-2) (by decide)] at hd ⊢
   rw [zFL (t:=[115,101,108,102]) hq hS (by simp) hd,bnd_some,show decide (((p+1+([115,101,108,102]:Bs).length:Nat):Int)>=0)=true from by rw [decide_eq_true_eq];omega,cnd_true,zGF (by omega) (by omega),bnd_some]
   rfl
  ·rw [nn (-3) (by decide)] at hd ⊢
   rw [zGG (t:=[115,101,108,102]) hq hS (by simp) (fun x e=>by rw [hd] at e;exact absurd (List.cons.inj e).1 (by decide)),bnd_some,show decide ((-1:Int)>=0)=false from rfl,cnd_false]
   unfold zAb
   rw [hne,cnd_true,zFL (t:=[108,97,115,116]) hq hS (by simp) hd,bnd_some,show decide (((p+1+([108,97,115,116]:Bs).length:Nat):Int)>=0)=true from by rw [decide_eq_true_eq];omega,cnd_true,zGF (by omega) (by omega),bnd_some]
   rfl
  ·rw [zGG (t:=[115,101,108,102]) hq hS (by simp) (fun x=>hdig h0 115 _ x (by decide)),bnd_some,show decide ((-1:Int)>=0)=false from rfl,cnd_false]
   unfold zAb
   rw [hne,cnd_true,zGG (t:=[108,97,115,116]) hq hS (by simp) (fun x=>hdig h0 108 _ x (by decide)),bnd_some,show decide ((-1:Int)>=0)=false from rfl,cnd_false]
   unfold zAx
   rw [show ((f.toNat:Int)==111)=(f==111) from zDu f 111,zBC]
   by_cases h11:f=111
   ·rw [if_pos h11,zGG (t:=[45]) hq hS (by simp) (fun x=>hdig h0 45 _ x (by decide)),bnd_some,show decide ((-1:Int)>=0)=false from rfl,cnd_false]
    exact dg (.inr h0)
   ·rw [if_neg h11];exact dg (.inr h0)
  ·rw [nn (-1) (by decide)] at hd ⊢
   rw [zGG (t:=[115,101,108,102]) hq hS (by simp) (fun x e=>by rw [hd] at e;exact absurd (List.cons.inj e).1 (by decide)),bnd_some,show decide ((-1:Int)>=0)=false from rfl,cnd_false]
   unfold zAb
   rw [hne,cnd_true,zGG (t:=[108,97,115,116]) hq hS (by simp) (fun x e=>by rw [hd] at e;exact absurd (List.cons.inj e).1 (by decide)),bnd_some,show decide ((-1:Int)>=0)=false from rfl,cnd_false]
   unfold zAx
   show cnd true _ _=_
   rw [cnd_true,zFL (t:=[45]) hq hS (by simp) hd,bnd_some,show decide (((p+1+([45]:Bs).length:Nat):Int)>=0)=true from by rw [decide_eq_true_eq];omega,cnd_true,zGF (by omega) (by omega),bnd_some]
   rfl
end Go.Proofs.YtoboimmgglnjfaaGreatDoor
/- The reference's reader of operations: texts, kinds, all. -/
namespace Go.Proofs.YtoboimmgglnjfaaGreatDoor
open Go Go.Pw
set_option linter.unusedVariables false
def unqQ (S out:Bs):Option (Bs×Bs)->Option (Bs×Int)
 | some x=>some (out++x.1,((S.length - x.2.length:Nat):Int))
 | none=>some ([],-1)
theorem zKl {s out:Bs} {i:Nat} {c:UInt8} {r:Bs} {rc:Int×Bs->Option (Bs×Int)} (hs:s.length<=1000000) (ho:out.length<=1000000) (h:s.drop i=c::r) :
  zBg s out rc (i:Int)=rc (((i+1:Nat):Int),out++[c]):=by
 obtain ⟨hl,_⟩:=zED h
 have e1:rng .i64 ((i:Int)+1)=some ((i+1:Nat):Int):=zAw (by omega)
 have e2:zC3 s (i:Int) ((i+1:Nat):Int)=some [c]:=by
  rw [zCc (by omega) (by omega),h,show i+1 - i=1 from by omega];rfl
 have e3:cat out [c]=some (out++[c]):=zCM (by simp;omega)
 unfold zBg
 rw [e1,bnd_some,e2,bnd_some,e3,bnd_some,bnd_some]
theorem zPb {S:Bs} (hs:S.length<=1000000):∀(n i k:Nat) (out:Bs),S.length - i<=n->i<=S.length->out.length<=i->n<k->zAn S k ((i:Int),out)=unqQ S out (unq (S.drop i)):=by
 intro n
 induction n with
 | zero =>
  intro i k out h1 h2 h3 h4
  obtain ⟨k,rfl⟩:∃k',k=k'+1:=⟨k - 1,by omega⟩
  rw [zAn,show decide ((i:Int)<((S.length:Nat):Int))=false from by simp;omega,cnd_false,List.drop_of_length_le (by omega)]
  rfl
 | succ n ih =>
  intro i k out h1 h2 h3 h4
  obtain ⟨k,rfl⟩:∃k',k=k'+1:=⟨k - 1,by omega⟩
  by_cases hi:i<S.length
  ·obtain ⟨b,r,hd⟩:=zKJ hi
   obtain ⟨_,hd1⟩:=zED hd
   have e1:decide ((i:Int)<((S.length:Nat):Int))=true:=by simpa using hi
   have e2:rng .i64 ((i:Int)+1)=some ((i+1:Nat):Int):=zAw (by omega)
   rw [zAn,e1,cnd_true,zFr hd,bnd_some,show (((b.toNat:Nat):Int)==34)=(b==34) from zDu b 34,zBC]
   by_cases h34:b=34
   ·rw [if_pos h34,e2,bnd_some,hd,h34,zMN]
    have hr:S.length - r.length=i+1:=by rw [<- hd1];simp;omega
    show _=some (out++[],((S.length - r.length:Nat):Int))
    rw [hr,List.append_nil]
   ·rw [if_neg h34,bnd_some,show (((b.toNat:Nat):Int)==92)=(b==92) from zDu b 92,zBC]
    by_cases h92:b=92
    ·rw [if_pos h92,e2,bnd_some]
     subst h92
     by_cases hi1:i+1<S.length
     ·obtain ⟨c,r',hr⟩:=zKJ hi1
      obtain ⟨_,hd2⟩:=zED hr
      obtain rfl:r=c::r':=hd1.symm.trans hr
      have hrec:∀(hcc:c=34\/c=92),unqQ S out (unq (S.drop i))=unqQ S (out++[c]) (unq (S.drop (i+1+1))):=fun hcc=>by
       rw [hd,zMO hcc,hd2]
       cases unq r'<;>simp [unqQ]
      have e3:decide (((i+1:Nat):Int)>=((S.length:Nat):Int))=false:=by rw [decide_eq_false_iff_not];omega
      rw [e3,cnd_false,zFr hr,bnd_some,show (((c.toNat:Nat):Int) != 34)=(c != 34) from zLf c 34,zMf]
      by_cases hc34:c=34
      ·rw [if_pos hc34,zKl hs (by omega) hr,hrec (.inl hc34)]
       exact ih (i+1+1) k (out++[c]) (by omega) (by omega) (by simp;omega) (by omega)
      ·rw [if_neg hc34,bnd_some,show (((c.toNat:Nat):Int) != 92)=(c != 92) from zLf c 92,zMf]
       by_cases hc92:c=92
       ·rw [if_pos hc92,zKl hs (by omega) hr,hrec (.inr hc92)]
        exact ih (i+1+1) k (out++[c]) (by omega) (by omega) (by simp;omega) (by omega)
       ·rw [if_neg hc92,hd,zJF (by simp [hc34,hc92])];rfl
     ·have e3:decide (((i+1:Nat):Int)>=((S.length:Nat):Int))=true:=by rw [decide_eq_true_eq];omega
      rw [e3,cnd_true]
      have:r=[]:=by rw [<- hd1];exact List.drop_of_length_le (by omega)
      rw [hd,this,zIO];rfl
    ·rw [if_neg h92,zKl hs (by omega) hd]
     have e:unqQ S out (unq (S.drop i))=unqQ S (out++[b]) (unq (S.drop (i+1))):=by
      rw [hd,zMP h34 h92,hd1]
      cases unq r<;>simp [unqQ]
     rw [e]
     exact ih (i+1) k (out++[b]) (by omega) (by omega) (by simp;omega) (by omega)
  ·rw [zAn,show decide ((i:Int)<((S.length:Nat):Int))=false from by simp;omega,cnd_false,List.drop_of_length_le (by omega)]
   rfl
theorem zQH {fu:Nat} {S:Bs} {p:Nat} (hp:p<=S.length) (hS:S.length<=1000000) (hk:S.length<fu) :
  ∃t a,zA3 fu S (p:Int)=some (t,a)/\(a = -1\/Took S p (32::qS t) a):=by
 unfold zA3
 rcases zET (fu:=fu) (t:=[32,34]) hp hS (by simp) with ⟨h1,h2,h3⟩ | ⟨h1,_⟩
 ·have h3:p+2<=S.length:=h3
  have e:p+([32,34]:Bs).length=p+2:=rfl
  rw [e] at h1 h2
  rw [h1,bnd_some,show decide (((p+2:Nat):Int)<0)=false from by rw [decide_eq_false_iff_not];omega,cnd_false,zPb hS (S.length - (p+2)) (p+2) fu [] (Nat.le_refl _) h3 (by simp) (by omega)]
  cases hu:unq (S.drop (p+2)) with
  | none=>exact ⟨_,_,rfl,.inl rfl⟩
  | some x =>
   have hq:=zMB _ _ x.1 x.2 (Nat.le_refl _) hu
   refine ⟨_,_,rfl,.inr ⟨S.length - x.2.length,rfl,by omega,?_⟩⟩
   have hx:S.drop p=(32::qS x.1)++x.2:=by
    rw [h2,hq];simp [qS]
   have hl:=zHN hp hx
   have hd:=zFs hx
   have hlen:(S.drop (p+(32::qS x.1).length)).length=x.2.length:=by rw [hd]
   simp only [List.nil_append]
   rw [show S.length - x.2.length=p+(32::qS x.1).length from by rw [List.length_drop] at hlen;omega,hd]
   exact hx
 ·rw [h1,bnd_some]
  exact ⟨_,_,rfl,.inl rfl⟩
theorem zQI {fu:Nat} {S t r:Bs} {p:Nat} (hp:p<=S.length) (hS:S.length<=1000000) (hk:S.length<fu) (h:S.drop p=32::qS t++r) :
  zA3 fu S (p:Int)=some (t,((p+(32::qS t).length:Nat):Int)):=by
 have h':S.drop p=[32,34]++(quoL t++34::r):=by rw [h];simp [qS]
 have hle:=zHN hp h'
 have hle2:=zHN hp h
 have hd:=zFs h'
 have hd2:=zFs h
 unfold zA3
 have e:p+([32,34]:Bs).length=p+2:=rfl
 rw [e] at hle hd
 rw [zFL (t:=[32,34]) hp hS (by simp) h',e,bnd_some,show decide (((p+2:Nat):Int)<0)=false from by rw [decide_eq_false_iff_not];omega,cnd_false,zPb hS (S.length - (p+2)) (p+2) fu [] (Nat.le_refl _) hle (by simp) (by omega),hd,zOP]
 show some ([]++t,((S.length - r.length:Nat):Int))=_
 have hlen:=congrArg List.length hd2
 rw [List.length_drop] at hlen
 rw [List.nil_append,show S.length - r.length=p+(32::qS t).length from by omega]
def nstR (fu:Nat) (S:Bs) (f:UInt8) (a:Int):Option (Int×Int) :=
 if 0<=a/\f≠46 then bnd (zAl fu S a (f.toNat:Int)) fun r=>some (r.2,r.1) else some (a,0)
def tstR (fu:Nat) (S:Bs) (f:UInt8) (a:Int):Option (Int×Bs) :=
 if 0<=a/\f≠46 then bnd (zA3 fu S a) fun r=>some (r.2,r.1) else some (a,[])
theorem rf_num {f:UInt8} (hf:f=110\/f=111\/f=105\/f=46) (h:f≠46):rf f=f/\(((rf f).toNat:Int) != 45)=true:=by
 rcases hf with rfl | rfl | rfl | rfl
 ·exact ⟨rfl,rfl⟩
 ·exact ⟨rfl,rfl⟩
 ·exact ⟨rfl,rfl⟩
 ·exact absurd rfl h
theorem zN6 {β : Type} {fu:Nat} {S:Bs} {k:Int} (hk:Knd k) {i:Nat} (hi:i<3) (a:Int) (J:Int×Int->Option β) :
  cnd (decide (a>=0)) (bnd (chr (rfd k) (i:Int)) fun b=>cnd (b != 45) (bnd (chr (rfd k) (i:Int)) fun b'=>bnd (zAl fu S a b') fun r=>J (r.2,r.1)) (J (a,0))) (J (a,0))=bnd (nstR fu S (fc k i) a) J:=by
 unfold nstR
 rw [zCu]
 by_cases ha:a>=0
 ·rw [if_pos ha,zFd hk (by omega)]
  simp only [bnd_some]
  by_cases h:fc k i=46
  ·rw [h,if_neg (fun e=>e.2 rfl)];rfl
  ·obtain ⟨e1,e2⟩:=rf_num (zEU k hi) h
   rw [e2,cnd_true,if_pos ⟨ha,h⟩,e1,zKD];rfl
 ·rw [if_neg ha,if_neg (fun e=>ha e.1)];rfl
theorem zSq {β : Type} {fu:Nat} {S:Bs} {k:Int} (hk:Knd k) {i:Nat} (h3:3<=i) (hi:i<5) (a:Int) (J:Int×Bs->Option β) :
  cnd (decide (a>=0)) (bnd (chr (rfd k) (i:Int)) fun b=>cnd (b != 45) (bnd (zA3 fu S a) fun r=>J (r.2,r.1)) (J (a,[]))) (J (a,[]))=bnd (tstR fu S (fc k i) a) J:=by
 unfold tstR
 rw [zCu]
 by_cases ha:a>=0
 ·rw [if_pos ha,zFd hk (by omega),bnd_some]
  rcases zFU k h3 hi with h | h
  ·rw [h,if_pos ⟨ha,by decide⟩,zKD];rfl
  ·rw [h,if_neg (fun e=>e.2 rfl)];rfl
 ·rw [if_neg ha,if_neg (fun e=>ha e.1)];rfl
theorem zKk {fu:Nat} {S:Bs} {k:Int} (hk:Knd k) (hf:170<=fu) (rc:Int->Option (Op×Bool)) (a:Int) (must:Bool):zBD fu S k rc (a,must) =
  bnd (zAT fu S a (wd k)) fun r8=>bnd (nstR fu S (fc k 0) r8) fun x1=>bnd (nstR fu S (fc k 1) x1.1) fun x2=>bnd (nstR fu S (fc k 2) x2.1) fun x3=>bnd (tstR fu S (fc k 3) x3.1) fun y1=>bnd (tstR fu S (fc k 4) y1.1) fun y2 =>
   zBP fu S k must x1.2 x2.2 x3.2 y1.2 rc y2:=by
 unfold zBD
 simp only
 rw [zKf,bnd_some,zSg hf hk,bnd_some]
 refine zCp fun r8=>?_
 refine (zN6 hk (i:=0) (by omega) r8 _).trans (zCp fun x1=>?_)
 obtain ⟨a1,c1⟩:=x1
 unfold zC7
 refine (zN6 hk (i:=1) (by omega) a1 _).trans (zCp fun x2=>?_)
 obtain ⟨a2,c2⟩:=x2
 unfold zC8
 refine (zN6 hk (i:=2) (by omega) a2 _).trans (zCp fun x3=>?_)
 obtain ⟨a3,c3⟩:=x3
 unfold zC9
 refine (zSq hk (i:=3) (by omega) (by omega) a3 _).trans (zCp fun y1=>?_)
 obtain ⟨a4,c4⟩:=y1
 unfold zDA
 exact zSq hk (i:=4) (by omega) (by omega) a4 fun x=>zBP fu S k must c1 c2 c3 c4 rc x
def At (S:Bs) (p:Nat) (t:Bs) (a:Int):Prop:=a = -1\/Took S p t a
theorem zQX {S t u:Bs} {p q:Nat} {a:Int} (h:S.drop p=t++S.drop q) (h2:a = -1\/Took S q u a):At S p (t++u) a:=by
 rcases h2 with h2 | ⟨q',rfl,h3,h4⟩
 ·exact .inl h2
 ·exact .inr ⟨q',rfl,h3,by rw [h,h4,List.append_assoc]⟩
theorem zLw {fu:Nat} {S t:Bs} {p:Nat} {f:UInt8} {a:Int} (hf:f=110\/f=111\/f=105\/f=46) (hS:S.length<=1000000) (hk:6<fu) (h:At S p t a):∃n a',nstR fu S f a=some (a',n)/\At S p (t++tl (numL f n)) a':=by
 unfold nstR
 by_cases h46:f=46
 ·rw [if_neg (fun e=>e.2 h46)]
  refine ⟨_,_,rfl,?_⟩
  rw [show numL f 0=[] from if_pos h46,zCx,List.append_nil];exact h
 ·rcases h with rfl | ⟨q,rfl,hq,h⟩
  ·rw [if_neg (by simp)];exact ⟨_,_,rfl,.inl rfl⟩
  ·rw [if_pos ⟨by omega,h46⟩]
   obtain ⟨n,a,h1,h2⟩:=zSZ (fu:=fu) (f:=f) (by rcases hf with h | h | h | h;exact .inl h;exact .inr (.inl h);exact .inr (.inr h);exact absurd h h46) hq hS hk
   rw [h1,bnd_some]
   refine ⟨_,_,rfl,?_⟩
   have e:tl (numL f n)=32::numW f n:=by rw [show numL f n=[numW f n] from if_neg h46];simp [zDF,zCx]
   rw [e]
   exact zQX h h2
theorem zPj {fu:Nat} {S t:Bs} {p:Nat} {f:UInt8} {a:Int} (hf:f=115\/f=46) (hS:S.length<=1000000) (hk:S.length<fu) (h:At S p t a):∃x a',tstR fu S f a=some (a',x)/\At S p (t++tl (txtL f x)) a':=by
 unfold tstR
 rcases hf with rfl | rfl
 ·rcases h with rfl | ⟨q,rfl,hq,h⟩
  ·rw [if_neg (by simp)];exact ⟨_,_,rfl,.inl rfl⟩
  ·rw [if_pos ⟨by omega,by decide⟩]
   obtain ⟨x,a,h1,h2⟩:=zQH (fu:=fu) hq hS hk
   rw [h1,bnd_some]
   refine ⟨_,_,rfl,?_⟩
   have e:tl (txtL 115 x)=32::qS x:=by rw [show txtL 115 x=[qS x] from rfl];simp [zDF,zCx]
   rw [e]
   exact zQX h h2
 ·rw [if_neg (fun e=>e.2 rfl)]
  refine ⟨_,_,rfl,?_⟩
  rw [show txtL 46 ([]:Bs)=[] from rfl,zCx,List.append_nil];exact h
theorem zPY {fu:Nat} {S:Bs} {k:Int} {must:Bool} {a b c:Int} {s t:Bs} {rc:Int->Option (Op×Bool)} {at_:Int} (hs:s.length<fu) (ht:t.length<fu) (hs2:s.length<=1000000) (ht2:t.length<=1000000) (hk:Knd k) :
  zBP fu S k must a b c s rc (at_,t)=if at_=(S.length:Int)/\zE7 ⟨k,a,b,c,s,t,must⟩=true then some (⟨k,a,b,c,s,t,must⟩,true) else rc (k+1):=by
 have hr:rng .i64 (k+1)=some (k+1):=zGF (by unfold Knd at hk;omega) (by unfold Knd at hk;omega)
 unfold zBP
 simp only
 rw [zBC]
 by_cases h:at_=(S.length:Int)
 ·rw [if_pos h,zPa (o:=⟨k,a,b,c,s,t,must⟩) hs ht hs2 ht2,bnd_some]
  cases hp:zE7 ⟨k,a,b,c,s,t,must⟩ with
  | true=>rw [cnd_true,if_pos ⟨h,rfl⟩]
  | false=>rw [cnd_false,hr,bnd_some,if_neg (fun e=>by cases e.2)]
 ·rw [if_neg h,hr,bnd_some,if_neg (fun e=>h e.1)]
theorem zWJ {S t:Bs} {p:Nat} {a:Int} (h:Took S p t a):t.length<=S.length:=by
 obtain ⟨q,_,_,h⟩:=h
 have:=congrArg List.length h
 simp at this;omega
def p0 (S:Bs):Nat:=if S.head? = some 33 then 1 else 0
def m0 (S:Bs):Bool:=decide (S.head? = some 33)
theorem zKt (S:Bs):S=bang (m0 S)++S.drop (p0 S)/\p0 S<=S.length:=by
 unfold bang m0 p0
 cases S with
 | nil=>simp
 | cons b r =>
  by_cases h:b=33
  ·simp [h]
  ·simp [h]
theorem zSO {fu:Nat} {S:Bs} {k:Int} (hk:Knd k) (hS:S.length<=1000000) (hf:S.length+1000<fu) (rc:Int->Option (Op×Bool)) :
  (∃o,zBD fu S k rc ((p0 S:Nat),m0 S)=some (o,true)/\RightP o/\putP o=S)\/zBD fu S k rc ((p0 S:Nat),m0 S)=rc (k+1):=by
 obtain ⟨hsp,hp⟩:=zKt S
 rw [zKk hk (by omega)]
 have hw:=zNW k
 obtain ⟨a0,h0,e0⟩:∃a0,zAT fu S ((p0 S:Nat):Int) (wd k)=some a0/\At S (p0 S) (wd k) a0:=by
  rcases zET (fu:=fu) (t:=wd k) hp hS (by omega) with ⟨h1,h2,h3⟩ | ⟨h1,_⟩
  ·exact ⟨_,h1,.inr ⟨_,rfl,h3,h2⟩⟩
  ·exact ⟨_,h1,.inl rfl⟩
 rw [h0,bnd_some]
 obtain ⟨n1,a1,h1,e1⟩:=zLw (fu:=fu) (f:=fc k 0) (zEU k (by omega)) hS (by omega) e0
 rw [h1,bnd_some]
 obtain ⟨n2,a2,h2,e2⟩:=zLw (fu:=fu) (f:=fc k 1) (zEU k (by omega)) hS (by omega) e1
 rw [h2,bnd_some]
 obtain ⟨n3,a3,h3,e3⟩:=zLw (fu:=fu) (f:=fc k 2) (zEU k (by omega)) hS (by omega) e2
 rw [h3,bnd_some]
 obtain ⟨t4,a4,h4,e4⟩:=zPj (fu:=fu) (f:=fc k 3) (zFU k (by omega) (by omega)) hS (by omega) e3
 rw [h4,bnd_some]
 obtain ⟨t5,a5,h5,e5⟩:=zPj (fu:=fu) (f:=fc k 4) (zFU k (by omega) (by omega)) hS (by omega) e4
 rw [h5,bnd_some]
 simp only
 rcases e5 with rfl | e5
 ·right
  unfold zBP
  simp only
  rw [zBC,if_neg (by omega),zGF (by unfold Knd at hk;omega) (by unfold Knd at hk;omega),bnd_some]
 ·have hlen:=zWJ e5
  simp only [List.length_append] at hlen
  have hq:∀t:Bs,(tl (txtL (fc k 3) t)).length<=S.length->fc k 3=115->t.length<=S.length:=fun t h e=>by
   rw [e] at h
   have:=zPN t
   simp [txtL,zDF,zCx,qS] at h;omega
  have hT:∀(f:UInt8) (t:Bs) (a a':Int),f=115\/f=46->tstR fu S f a=some (a',t)->(tl (txtL f t)).length<=S.length->t.length<=S.length:=fun f t a a' hf ht hl=>by
   rcases hf with rfl | rfl
   ·have:=zPN t
    simp [txtL,zDF,zCx,qS] at hl;omega
   ·unfold tstR at ht
    rw [if_neg (fun e=>e.2 rfl)] at ht
    cases ht;simp
  have l4:=hT _ _ _ _ (zFU k (i:=3) (by omega) (by omega)) h4 (by omega)
  have l5:=hT _ _ _ _ (zFU k (i:=4) (by omega) (by omega)) h5 (by omega)
  rw [zPY (by omega) (by omega) (by omega) (by omega) hk]
  by_cases hc:a5=(S.length:Int)/\zE7 ⟨k,n1,n2,n3,t4,t5,m0 S⟩=true
  ·left
   refine ⟨_,if_pos hc,right_iff.1 hc.2,?_⟩
   obtain ⟨q,hq1,hq2,hq3⟩:=e5
   have hq4:q=S.length:=by omega
   rw [hq4,List.drop_length,List.append_nil] at hq3
   conv=>rhs;rw [hsp,hq3]
   unfold putP zEI zHa
   simp only [zFm,List.append_assoc]
  ·exact .inr (if_neg hc)
theorem zLx {fu:Nat} {S t r:Bs} {p:Nat} {f:UInt8} {n:Int} (hf:f=110\/f=111\/f=105\/f=46) (hn:fit f n=true) (hp:p<=S.length) (hS:S.length<=1000000) (hk:6<fu) (h:S.drop p=t++(tl (numL f n)++r)) (hr:r=[]\/r.head? = some 32) :
  nstR fu S f ((p+t.length:Nat):Int)=some (((p+(t++tl (numL f n)).length:Nat):Int),n):=by
 have hle:=zHN hp h
 have hd:=zFs h
 unfold nstR
 by_cases h46:f=46
 ·subst h46
  have hn0:n=0:=by unfold fit at hn;rw [if_neg (by decide),if_neg (by decide)] at hn;simpa using hn
  rw [if_neg (fun e=>e.2 rfl),hn0,show numL 46 0=[] from rfl,zCx,List.append_nil]
 ·rw [if_pos ⟨by omega,h46⟩]
  have e:tl (numL f n)=32::numW f n:=by rw [show numL f n=[numW f n] from if_neg h46];simp [zDF,zCx]
  rw [e] at hd ⊢
  rw [zSa (by rcases hf with h | h | h | h;exact .inl h;exact .inr (.inl h);exact .inr (.inr h);exact absurd h h46) hn hle hS hk hd hr,bnd_some]
  congr 3
  simp;omega
theorem zPk {fu:Nat} {S t r x:Bs} {p:Nat} {f:UInt8} (hf:f=115\/f=46) (hn:fitT f x=true) (hp:p<=S.length) (hS:S.length<=1000000) (hk:S.length<fu) (h:S.drop p=t++(tl (txtL f x)++r)) :
  tstR fu S f ((p+t.length:Nat):Int)=some (((p+(t++tl (txtL f x)).length:Nat):Int),x):=by
 have hle:=zHN hp h
 have hd:=zFs h
 unfold tstR
 rcases hf with rfl | rfl
 ·rw [if_pos ⟨by omega,by decide⟩]
  have e:tl (txtL 115 x)=32::qS x:=by rw [show txtL 115 x=[qS x] from rfl];simp [zDF,zCx]
  rw [e] at hd ⊢
  rw [zQI hle hS hk hd,bnd_some]
  congr 3
  simp;omega
 ·have:x=[]:=by simpa [fitT] using hn
  subst this
  rw [if_neg (fun e=>e.2 rfl),show txtL 46 ([]:Bs)=[] from rfl,zCx,List.append_nil]
theorem zOO (l:List Bs):tl l=[]\/(tl l).head? = some 32:=by
 cases l with
 | nil=>exact .inl rfl
 | cons f l=>exact .inr rfl
theorem m0_put {o:Op} (h:RightP o):m0 (putP o)=o.Must/\(putP o).drop (p0 (putP o))=wd o.Kind++tl (zEI o):=by
 obtain ⟨b,w,hw,h1,h2⟩:=zMR h.kind
 unfold m0 p0 putP bang
 rw [hw]
 cases o.Must with
 | true=>exact ⟨rfl,rfl⟩
 | false =>
  have:b≠33:=fun e=>by rw [e] at h1;simp at h1
  simp [this]
theorem zSP {fu:Nat} {o:Op} (h:RightP o) (hf:3000<fu) (rc:Int->Option (Op×Bool)):zBD fu (putP o) o.Kind rc ((p0 (putP o):Nat),m0 (putP o))=some (o,true):=by
 have hlen:=zJt h
 obtain ⟨hm,hd⟩:=m0_put h
 obtain ⟨hsp,hp⟩:=zKt (putP o)
 have hs:=zFM h.s
 have hT:=zFM h.t
 have hw:=zNW o.Kind
 rw [zKk h.kind (by omega)]
 have hS:(putP o).length<=1000000:=by omega
 have hk:(putP o).length<fu:=by omega
 rw [hm]
 generalize putP o=S at *
 generalize p0 S=p at *
 have hd0:S.drop p=wd o.Kind++(tl (numL (fc o.Kind 0) o.A)++(tl (numL (fc o.Kind 1) o.B)++(tl (numL (fc o.Kind 2) o.C)++(tl (txtL (fc o.Kind 3) o.S)++tl (txtL (fc o.Kind 4) o.T))))):=by
  rw [hd];simp [zEI,zHa,zFm]
 rw [zFL (t:=wd o.Kind) hp hS (by omega) hd0,bnd_some]
 have hr1:(tl (numL (fc o.Kind 1) o.B)++(tl (numL (fc o.Kind 2) o.C)++(tl (txtL (fc o.Kind 3) o.S)++tl (txtL (fc o.Kind 4) o.T))))=[]\/(tl (numL (fc o.Kind 1) o.B)++(tl (numL (fc o.Kind 2) o.C)++(tl (txtL (fc o.Kind 3) o.S)++tl (txtL (fc o.Kind 4) o.T)))).head? = some 32:=by
  rw [<- zFm,<- zFm,<- zFm];exact zOO _
 have hr2:(tl (numL (fc o.Kind 2) o.C)++(tl (txtL (fc o.Kind 3) o.S)++tl (txtL (fc o.Kind 4) o.T)))=[]\/(tl (numL (fc o.Kind 2) o.C)++(tl (txtL (fc o.Kind 3) o.S)++tl (txtL (fc o.Kind 4) o.T))).head? = some 32:=by
  rw [<- zFm,<- zFm];exact zOO _
 have hr3:(tl (txtL (fc o.Kind 3) o.S)++tl (txtL (fc o.Kind 4) o.T))=[]\/(tl (txtL (fc o.Kind 3) o.S)++tl (txtL (fc o.Kind 4) o.T)).head? = some 32:=by
  rw [<- zFm];exact zOO _
 rw [zLx (zEU _ (by omega)) h.a hp hS (by omega) hd0 hr1,bnd_some]
 rw [<- List.append_assoc] at hd0
 simp only
 rw [zLx (zEU _ (by omega)) h.b hp hS (by omega) hd0 hr2,bnd_some]
 rw [<- List.append_assoc] at hd0
 simp only
 rw [zLx (zEU _ (by omega)) h.c hp hS (by omega) hd0 hr3,bnd_some]
 rw [<- List.append_assoc] at hd0
 simp only
 rw [zPk (zFU _ (by omega) (by omega)) h.s hp hS hk hd0,bnd_some]
 rw [<- List.append_assoc] at hd0
 simp only
 have hd1:=hd0
 rw [<- List.append_nil (tl (txtL (fc o.Kind 4) o.T))] at hd1
 rw [zPk (zFU _ (by omega) (by omega)) h.t hp hS hk hd1,bnd_some,zPY (by omega) (by omega) (by omega) (by omega) h.kind]
 have e:(⟨o.Kind,o.A,o.B,o.C,o.S,o.T,o.Must⟩:Op)=o:=rfl
 rw [e,if_pos]
 refine ⟨?_,right_iff.2 h⟩
 have:=congrArg List.length hd0
 rw [List.length_drop] at this
 congr 1
 omega
theorem zV8 {fu:Nat} {S:Bs} {k:Nat} {j:Int} (hj:Knd j):zAU fu S (k+1) j=zBD fu S j (zAU fu S k) ((p0 S:Nat),m0 S):=by
 rw [zAU,show decide (j<=28)=true from by simpa using hj.2,cnd_true]
 cases S with
 | nil=>rfl
 | cons b r =>
  rw [show decide ((((b::r).length:Nat):Int)>0)=true from by simp,cnd_true,zOg]
  show cnd ((b.toNat:Int)==33) _ _=_
  rw [show ((b.toNat:Int)==33)=(b==33) from zDu b 33,zBC]
  by_cases h:b=33
  ·rw [if_pos h];subst h;rfl
  ·rw [if_neg h]
   have e1:p0 (b::r)=0:=if_neg (by simpa using h)
   have e2:m0 (b::r)=false:=by simp [m0,h]
   rw [e1,e2];rfl
theorem zSY {fu:Nat} {S:Bs} {k:Nat}:zAU fu S (k+1) 29=some (op0,false):=by
 rw [zAU];rfl
theorem zV9 {fu:Nat} {S:Bs} (hS:S.length<=1000000) (hf:S.length+3000<fu) :
  (∀o,RightP o->putP o=S->zCh fu S=some (o,true))/\((∀o,RightP o->putP o≠S)->zCh fu S=some (op0,false)):=by
 have key:∀(d:Nat) (j:Int) (k:Nat),0<j->j+d=29->d<k->(∀o,RightP o->putP o=S->j<=o.Kind->zAU fu S k j=some (o,true))/\((∀o,RightP o->putP o≠S)->zAU fu S k j=some (op0,false)):=by
  intro d
  induction d with
  | zero =>
   intro j k hj hd hk
   obtain ⟨k,rfl⟩:∃k',k=k'+1:=⟨k - 1,by omega⟩
   obtain rfl:j=29:=by omega
   refine ⟨fun o ho _ hle=>?_,fun _=>zSY⟩
   have:=ho.kind.2
   omega
  | succ d ih =>
   intro j k hj hd hk
   obtain ⟨k,rfl⟩:∃k',k=k'+1:=⟨k - 1,by omega⟩
   have hkn:Knd j:=⟨hj,by omega⟩
   rw [zV8 hkn]
   obtain ⟨i1,i2⟩:=ih (j+1) k (by omega) (by omega) (by omega)
   rcases zSO (fu:=fu) hkn hS (by omega) (zAU fu S k) with ⟨o',h1,h2,h3⟩ | h1
   ·rw [h1]
    refine ⟨fun o ho hp _=>?_,fun hno=>absurd h3 (hno o' h2)⟩
    rw [zPJ h2 ho (h3.trans hp.symm)]
   ·refine ⟨fun o ho hp hle=>?_,fun hno=>by rw [h1];exact i2 hno⟩
    by_cases e:j=o.Kind
    ·subst hp
     rw [e]
     exact zSP ho (by omega) _
    ·rw [h1]
     exact i1 o ho hp (by omega)
 obtain ⟨h1,h2⟩:=key 28 1 fu (by omega) (by omega) (by omega)
 exact ⟨fun o ho hp=>h1 o ho hp (by have:=ho.kind.1;omega),h2⟩
end Go.Proofs.YtoboimmgglnjfaaGreatDoor
/- What the models of the reference for layer 1 (name) come to. -/
namespace Go.Proofs.YtoboimmgglnjfaaGreatDoor
open Go Go.Pw
theorem zNF {fu:Nat} {s:Bs} (hfu:40<fu):zC4 fu s=some (zGO s):=by
 unfold zC4 zGO
 rw [zBC,zCu]
 by_cases h1:s.length=0
 ·rw [if_pos (by omega)];simp [h1]
 rw [if_neg (by omega)]
 by_cases h2:s.length>40
 ·rw [if_pos (by omega)];simp [show ¬s.length<=40 by omega]
 rw [if_neg (by omega)]
 rw [zWQ (L:=zAj s) s.length (fun i=>match s[i]? with | some b=>lowB b||upB b||decide (b.toNat=95)||(decide (i≠0)&&zHy b) | none=>true) (some true) (fun i hi k=>?_) (fun k=>?_) (by omega)]
 ·rw [decide_eq_true (by omega),decide_eq_true (by omega)]
  obtain ⟨b,t,rfl⟩:∃b t,s=b::t:=by cases s<;>simp_all
  have:((List.range (b::t).length).all fun i=>match (b::t)[i]? with | some b=>lowB b||upB b||decide (b.toNat=95)||(decide (i≠0)&&zHy b) | none=>true)=((b::t).all zHy&&zMr b):=by
   rw [Bool.eq_iff_iff]
   simp only [List.all_eq_true,Bool.and_eq_true,List.mem_range]
   have hs:∀c:UInt8,(lowB c||upB c||decide (c.toNat=95))=true->zHy c=true:=fun c hc=>by
    unfold zHy;simp only [Bool.or_eq_true,decide_eq_true_eq] at hc ⊢;rcases hc with (hc | hc) | hc<;>simp [hc]
   constructor
   ·intro h
    have h0:zMr b=true:=by simpa [zMr] using h 0 (by simp)
    refine ⟨fun c hc=>?_,h0⟩
    obtain ⟨j,hj,rfl⟩:=List.mem_iff_getElem.1 hc
    have:=h j hj
    rw [List.getElem?_eq_getElem hj] at this
    simp only [Bool.or_eq_true,Bool.and_eq_true,decide_eq_true_eq] at this
    rcases this with hq | hq
    ·exact hs _ (by simpa using hq)
    ·exact hq.2
   ·rintro ⟨h,h0⟩ j hj
    rw [List.getElem?_eq_getElem hj]
    simp only [Bool.or_eq_true,Bool.and_eq_true,decide_eq_true_eq]
    by_cases e:j=0
    ·subst e;left;simpa [zMr] using h0
    ·right;exact ⟨e,h _ (List.getElem_mem hj)⟩
  rw [this]
  simp only [Bool.true_and]
  cases ((b::t).all zHy&&zMr b)<;>rfl
 ·simp only [zAj]
  rw [zAo (by simpa using hi),zKy hi,bnd_some,List.getElem?_eq_getElem hi]
  have hn:=zAw (show i<=9223372036854775806 by omega)
  have hk:rng .i64 ((i:Int)+1)=some (((i+1:Nat)):Int):=hn
  simp only [zBk,zBl,hk,bnd_some,zCu,zBC,zMf,zHL]
  generalize zAj s k ((i+1:Nat):Int)=X
  generalize s[i]=b
  unfold zHy lowB upB
  have hb:=b.toNat_lt
  generalize b.toNat=n at hb
  simp only [Bool.cond_eq_ite,Bool.or_eq_true,Bool.and_eq_true,decide_eq_true_eq,cnd_if]
  have c1:((n:Int)>=97)=(97<=n):=propext ⟨by omega,by omega⟩
  have c2:((n:Int)<=122)=(n<=122):=propext ⟨by omega,by omega⟩
  have c3:((n:Int)>=65)=(65<=n):=propext ⟨by omega,by omega⟩
  have c4:((n:Int)<=90)=(n<=90):=propext ⟨by omega,by omega⟩
  have c5:((n:Int)>=48)=(48<=n):=propext ⟨by omega,by omega⟩
  have c6:((n:Int)<=57)=(n<=57):=propext ⟨by omega,by omega⟩
  have c7:((n:Int)=45)=(n=45):=propext ⟨by omega,by omega⟩
  have c8:((n:Int)=95)=(n=95):=propext ⟨by omega,by omega⟩
  have c9:((n:Int)=46)=(n=46):=propext ⟨by omega,by omega⟩
  have c10:((i:Int)=0)=(i=0):=propext ⟨by omega,by omega⟩
  simp only [c1,c2,c3,c4,c5,c6,c7,c8,c9,c10,ne_eq]
  clear c1 c2 c3 c4 c5 c6 c7 c8 c9 c10 hn hk
  by_cases a1:97<=n<;>by_cases a2:n<=122<;>by_cases a3:65<=n<;>by_cases a4:n<=90<;>(try omega)<;>by_cases a5:48<=n<;>by_cases a6:n<=57<;>(try omega)<;>by_cases a7:n=45<;>(try omega)<;>by_cases a8:n=95<;>(try omega)<;>by_cases a9:n=46<;>(try omega)<;>by_cases a10:i=0<;>simp [a1,a2,a3,a4,a5,a6,a7,a8,a9,a10]
 ·simp only [zAj]
  rw [zAi (by simp)]
theorem zNG {fu:Nat} {s:Bs} (hf:s.length<fu) (hb:s.length<=1000000):zC5 fu s=some (s.map zHB):=by
 unfold zC5
 have:=upf (L:=zBS s) (f:=fun i=>((s.take i).map zHB,(i:Int))) (v:=some (s.map zHB)) s.length (fun i hi k=>?_) (fun k=>?_) hf
 ·simpa using this
 ·simp only [zBS]
  have hn:rng .i64 ((i:Int)+1)=some ((i+1:Nat):Int):=zAw (by omega)
  have hp:zC3 s (i:Int) ((i+1:Nat):Int)=some [s[i]]:=by
   rw [zCc (by omega) (by omega),List.drop_eq_getElem_cons hi,show i+1 - i=1 by omega];rfl
  have hc:∀x:UInt8,cat ((s.take i).map zHB) [x]=some ((s.take i).map zHB++[x]):=fun x=>zCM (by simp;omega)
  rw [zAo (by simpa using hi),zKy hi,bnd_some,bnd_some,bnd_some,hn,zML _ hi]
  simp only [bnd_some,hp,hc,zCu]
  have hb:=s[i].toNat_lt
  by_cases h:upB s[i]=true
  ·have h':=(zMQ _).1 h
   rw [if_pos (by omega),if_pos (by omega),zKg (by simp only [lo,Go.Pw.hi];omega),bnd_some]
   have:zEd [(s[i].toNat:Int)+32]=[zHB s[i]]:=by
    have e:=zM1 s[i]
    unfold lowI at e
    rw [if_pos (by omega)] at e
    rw [e];simp [zEd]
   rw [this,hc,bnd_some]
  ·have h':¬(65<=s[i].toNat/\s[i].toNat<=90):=fun h'=>h ((zMQ _).2 h')
   have e:zHB s[i]=s[i]:=by unfold zHB;rw [if_neg h]
   rw [e]
   by_cases h1:(s[i].toNat:Int)>=65
   ·rw [if_pos h1,if_neg (by omega)]
   ·rw [if_neg h1]
 ·simp only [zBS]
  rw [zAi (by simp)];simp
end Go.Proofs.YtoboimmgglnjfaaGreatDoor
