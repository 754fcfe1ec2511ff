/- Plain laws on the models, one behind the other. -/
import Derived.Test.YtoboimmgglnjfaaGreatDoorG
import Derived.Test.YtoboimmgglnjfaaGreatDoorPlain
import Derived.Test.YtoboimmgglnjfaaGreatDoorLine
import Derived.Lib.ItoaNum
import Derived.Lib.AtoiAll
import Derived.Test.YtoboimmgglnjfaaGreatDoorQuo
/- What the models of layer 1 (name) and of the reference for it come to. -/
namespace Go.Proofs.YtoboimmgglnjfaaGreatDoor
open Go Go.Pw
def lowB (b:UInt8):Bool:=decide (97<=b.toNat)&&decide (b.toNat<=122)
def upB (b:UInt8):Bool:=decide (65<=b.toNat)&&decide (b.toNat<=90)
def zJo (b:UInt8):Bool:=lowB b||upB b||(decide (48<=b.toNat)&&decide (b.toNat<=57))||decide (b.toNat=45)||decide (b.toNat=95)||decide (b.toNat=46)
def zRq (b:UInt8):Bool:=lowB b||upB b||decide (b.toNat=95)
def zFz (s:Bs):Bool:=decide (0<s.length)&&decide (s.length<=40)&&s.all zJo&&(match s with | []=>false | b::_=>zRq b)
def zKV (b:UInt8):UInt8:=if upB b then b+32 else b
theorem zMm (fu:Nat) (c:Int):zC9 fu c=some (decide (97<=c)&&decide (c<=122)):=by
 unfold zC9;by_cases h:97<=c<;>simp [h]
theorem zGo (fu:Nat) (c:Int):zCD fu c=some (decide (65<=c)&&decide (c<=90)):=by
 unfold zCD;by_cases h:65<=c<;>simp [h]
theorem end3 (c:Int):(if c=45 then some true else if c=95 then some true else some (c==46))=some (decide (c=45)||decide (c=95)||decide (c=46)):=by
 by_cases h1:c=45
 ·simp [h1]
 ·by_cases h2:c=95
  ·simp [h2]
  ·rw [if_neg h1,if_neg h2,decide_eq_false h1,decide_eq_false h2];rfl
theorem zPN (fu:Nat) (c:Int):zDW fu c=some ((decide (97<=c)&&decide (c<=122))||(decide (65<=c)&&decide (c<=90))||(decide (48<=c)&&decide (c<=57))||decide (c=45)||decide (c=95)||decide (c=46)):=by
 unfold zDW zC8
 simp only [zMm,zGo,bnd_some,zBq]
 by_cases h1:97<=c<;>by_cases h2:c<=122<;>by_cases h3:65<=c<;>by_cases h4:c<=90<;>by_cases h5:48<=c<;>by_cases h6:c<=57<;>simp [h1,h2,h3,h4,h5,h6]<;>(first | omega | exact end3 c)
theorem zMM (b:UInt8):(decide (97<=(b.toNat:Int))&&decide ((b.toNat:Int)<=122))=lowB b:=by
 unfold lowB;congr 1<;>exact decide_eq_decide.2 (by omega)
theorem zPV (b:UInt8):(decide (65<=(b.toNat:Int))&&decide ((b.toNat:Int)<=90))=upB b:=by
 unfold upB;congr 1<;>exact decide_eq_decide.2 (by omega)
theorem zPM (fu:Nat) (b:UInt8):zDW fu (b.toNat:Int)=some (zJo b):=by
 rw [zPN,zMM,zPV];unfold zJo
 congr 1
 have e1:(decide (48<=(b.toNat:Int))&&decide ((b.toNat:Int)<=57))=(decide (48<=b.toNat)&&decide (b.toNat<=57)):=by congr 1<;>exact decide_eq_decide.2 (by omega)
 have e2:decide ((b.toNat:Int)=45)=decide (b.toNat=45):=decide_eq_decide.2 (by omega)
 have e3:decide ((b.toNat:Int)=95)=decide (b.toNat=95):=decide_eq_decide.2 (by omega)
 have e4:decide ((b.toNat:Int)=46)=decide (b.toNat=46):=decide_eq_decide.2 (by omega)
 rw [e1,e2,e3,e4]
theorem zSV (fu:Nat) (c:Int) (h:128<=c):zDW fu c=some false:=by
 rw [zPN]
 simp only [decide_eq_false (show ¬c<=122 by omega),decide_eq_false (show ¬c<=90 by omega),decide_eq_false (show ¬c<=57 by omega),decide_eq_false (show ¬c=45 by omega),decide_eq_false (show ¬c=95 by omega),decide_eq_false (show ¬c=46 by omega),Bool.and_false,Bool.or_false]
theorem zKN {fu:Nat} {t:Int->Option Bool} {f:UInt8->Bool} {s:Bs} (ht:∀b∈s,b.toNat<128->t (b.toNat:Int)=some (f b)) (hi:(∀b∈s,b.toNat<128)\/∀r:Int,128<=r->t r=some true) (hf:s.length<fu) :
  zB4 fu t s=some (s.any fun b=>decide (128<=b.toNat)||f b):=by
 have key:∃r,zAx t s true fu 0=some r/\decide (r>=0)=s.any fun b=>decide (128<=b.toNat)||f b:=by
  refine up (L:=zAx t s true) (Inv:=fun i x=>x=i/\∀(j:Nat) (h:j<s.length),j<i->(decide (128<=s[j].toNat)||f s[j])=false) (Fin:=fun v=>∃r,v=some r/\decide (r>=0)=s.any fun b=>decide (128<=b.toNat)||f b) s.length (fun i x hl ⟨hx,hj⟩=>?_) (fun x ⟨hx,hj⟩=>?_) (i:=0) ⟨rfl,fun j _ hj=>by omega⟩ (Nat.zero_le _) (by omega)
  ·subst hx
   by_cases hc:(decide (128<=s[x].toNat)||f s[x])=true
   ·refine .inl ⟨some (x:Int),⟨_,rfl,?_⟩,fun k=>?_⟩
    ·rw [decide_eq_true (by omega)]
     exact (List.any_eq_true.2 ⟨_,List.getElem_mem hl,hc⟩).symm
    ·simp only [zAx]
     rw [zBX (by simpa using hl)]
     by_cases hb:s[x].toNat<128
     ·rw [decide_eq_false (by omega),Bool.false_or] at hc
      rw [(zNx hl hb).1,ht _ (List.getElem_mem hl) hb,bnd_some,hc];rfl
     ·rcases hi with hi | hi
      ·exact absurd (hi _ (List.getElem_mem hl)) hb
      ·rw [hi _ (dec_hi hl (by omega))];rfl
   ·have hc':=Bool.eq_false_iff.2 hc
    have hb:s[x].toNat<128:=by
     rw [Bool.or_eq_false_iff,decide_eq_false_iff_not] at hc'
     omega
    refine .inr ⟨x+1,⟨rfl,fun j h hj'=>?_⟩,fun k=>?_⟩
    ·rcases Nat.lt_succ_iff_lt_or_eq.1 hj' with h' | h'
     ·exact hj j h h'
     ·subst h';exact hc'
    ·rw [Bool.or_eq_false_iff] at hc'
     simp only [zAx]
     rw [zBX (by simpa using hl),(zNx hl hb).1,ht _ (List.getElem_mem hl) hb,bnd_some,hc'.2,(zNx hl hb).2];rfl
  ·subst hx
   refine ⟨some (-1),⟨_,rfl,?_⟩,fun k=>?_⟩
   ·have:(s.any fun b=>decide (128<=b.toNat)||f b)=false:=by
     rw [List.any_eq_false]
     intro b hb
     obtain ⟨j,h,rfl⟩:=List.mem_iff_getElem.1 hb
     simpa using hj j h h
    rw [this];rfl
   ·simp only [zAx]
    rw [zAt (by simp)]
 obtain ⟨r,h1,h2⟩:=key
 unfold zB4 zC3 zC4
 rw [h1,bnd_some,bnd_some,h2]
theorem zOK (b:UInt8) (fu:Nat):(bnd (rng .i32 (b.toNat:Int)) fun i4=>bnd (zC9 fu i4) fun r5=>cnd r5 (some true) (bnd (zCD fu i4) fun r6=>cnd r6 (some true) (some (i4==95))))=some (zRq b):=by
 have hb:=b.toNat_lt
 rw [zKl (by simp only [lo,hi];omega),bnd_some,zMm,zGo,bnd_some,bnd_some,zMM,zPV]
 unfold zRq
 have e:((b.toNat:Int)==95)=decide (b.toNat=95):=by rw [Bool.eq_iff_iff];simp;omega
 rw [e]
 cases lowB b<;>cases upB b<;>rfl
theorem zPd (s:Bs):(s.any fun b=>decide (128<=b.toNat) || !(zJo b)) = !(s.all zJo):=by
 rw [List.not_all_eq_any_not]
 congr 1
 funext b
 cases h:zJo b
 ·simp
 ·have:b.toNat<128:=by
   unfold zJo lowB upB at h
   simp only [Bool.or_eq_true,Bool.and_eq_true,decide_eq_true_eq] at h
   omega
  simp;omega
theorem zQS {fu:Nat} {s:Bs} (hfu:40<fu):zEP fu s=some (zFz s):=by
 unfold zEP zFz
 rw [zC6,zC6]
 by_cases h1:s.length<1
 ·rw [if_pos (by omega)];simp [show ¬0<s.length by omega]
 rw [if_neg (by omega)]
 by_cases h2:s.length>40
 ·rw [if_pos (by omega)];simp [show ¬s.length<=40 by omega]
 rw [if_neg (by omega),zKN (f:=fun b => !(zJo b)) (fun b _ _=>by unfold zBx;rw [zPM];rfl) (.inr fun r hr=>by unfold zBx;rw [zSV _ _ hr];rfl) (by omega),bnd_some,zPd,zGq]
 obtain ⟨b,t,rfl⟩:∃b t,s=b::t:=by cases s<;>simp_all
 rw [zPj]
 simp only [List.getElem?_cons_zero,Option.map_some,bnd_some]
 rw [zOK]
 rw [decide_eq_true (by omega),decide_eq_true (by omega)]
 cases (b::t).all zJo<;>simp
def lowI (y:Int):Int:=if 65<=y/\y<=90 then y+32 else y
theorem zPU (b:UInt8):upB b=true↔65<=b.toNat/\b.toNat<=90:=by unfold upB;simp
theorem zOY (b:UInt8):lowI (b.toNat:Int)=((zKV b).toNat:Int):=by
 unfold lowI zKV
 by_cases h:upB b=true
 ·have:=(zPU b).1 h
  rw [if_pos (by omega),if_pos h,UInt8.toNat_add]
  simp;omega
 ·have:¬(65<=b.toNat/\b.toNat<=90):=fun h'=>h ((zPU b).2 h')
  rw [if_neg (by omega),if_neg h]
theorem zSX (s:Bs):zD8 ((zAP s).map lowI)=s.map zKV:=by
 unfold zD8 zAP
 rw [List.map_map,List.map_map]
 refine List.map_congr_left fun b _=>?_
 simp only [Function.comp,zOY,Int.toNat_natCast,UInt8.ofNat_toNat]
theorem zOd {fu:Nat} {s:Bs} (hf:s.length<fu) (hb:s.length<=1000000):zEQ fu s=some (s.map zKV):=by
 unfold zEQ
 rw [zCZ (by omega),bnd_some]
 have hl:(zAP s).length=s.length:=by simp [zAP]
 have:=upf (L:=zCQ fu s) (f:=fun i=>((i:Int),mix lowI (zAP s) i)) (v:=some (s.map zKV)) (zAP s).length (fun i hi k=>?_) (fun k=>?_) (by rw [hl];exact hf)
 ·simpa [zP8] using this
 ·simp only [zCQ]
  rw [zBX (by simpa using hi),zRA lowI hi,bnd_some]
  have hy:(zAP s)[i]=((s[i]'(hl▸hi)).toNat:Int):=by simp [zAP]
  have hn:rng .i64 ((i:Int)+1)=some ((i+1:Nat):Int):=zBt (by omega)
  rw [<- zLR lowI hi]
  have hk:=zP7 lowI hi
  rw [<- zLR lowI hi] at hk
  rw [hy] at hk ⊢
  have hb:=(s[i]'(hl▸hi)).toNat_lt
  generalize (s[i]'(hl▸hi)).toNat=n at hb hk
  rw [zKl (by simp only [lo,Go.Pw.hi];omega),bnd_some,zGo,bnd_some,hn]
  by_cases h:65<=(n:Int)/\(n:Int)<=90
  ·rw [zBX (by simp;omega),zKl (by simp only [lo,Go.Pw.hi];omega),bnd_some,zKl (by simp only [lo,Go.Pw.hi];omega),bnd_some,bnd_some,bnd_some]
   unfold lowI
   rw [if_pos h,show (n:Int) - 65+97=n+32 by omega]
  ·have e:lowI (n:Int)=n:=if_neg h
   rw [zAt (by simp;omega),bnd_some,<- hk e]
 ·simp only [zCQ]
  rw [zAt (by simp),zRz,zSX]
def words:List Bs:=[[97,110,110,111,116,97,116,105,111,110,45,120,109,108],[99,111,108,111,114,45,112,114,111,102,105,108,101],[102,111,110,116,45,102,97,99,101],[102,111,110,116,45,102,97,99,101,45,115,114,99],[102,111,110,116,45,102,97,99,101,45,117,114,105],[102,111,110,116,45,102,97,99,101,45,102,111,114,109,97,116],[102,111,110,116,45,102,97,99,101,45,110,97,109,101],[109,105,115,115,105,110,103,45,103,108,121,112,104]]
theorem zG5 {s:Bs} (h:zFz s=true):0<s.length/\s.length<=40:=by
 unfold zFz at h
 simp only [Bool.and_eq_true,decide_eq_true_eq] at h
 exact h.1.1
def fitB (s:Bs):Bool:=zFz s&&(s.map zKV==s)
theorem zQ5 {fu:Nat} {s:Bs} (hfu:200<fu):zEa fu s=some (if zFz s then (s.map zKV,0) else ([],4)):=by
 unfold zEa
 rw [zQS (by omega),bnd_some,zGq]
 cases hr:zFz s
 ·rfl
 ·have:=zG5 hr
  rw [cnd_true,zOd (by omega) (by omega),bnd_some];rfl
end Go.Proofs.YtoboimmgglnjfaaGreatDoor
/- Texts as bytes: lines, cuts at a sign, numbers as text and back. No program is named here. -/
namespace Go.Pw
open Go
theorem zHC:∀{l r:List UInt8},(10:UInt8)∉l->zBj (l++10::r)=(l++[10])::zBj r
 | [],r,_=>by simp [zBj]
 | b::l,r,h=>by
  have hb:¬b=10:=fun e=>h (by simp [e])
  have ih:=zHC (l:=l) (r:=r) (fun hm=>h (List.mem_cons_of_mem _ hm))
  rw [List.cons_append,zBj,if_neg hb,ih]
  rfl
theorem zHB:∀(s:List UInt8),(zBj s).flatten=s
 | []=>rfl
 | b::r=>by
  have ih:=zHB r
  rw [zBj]
  by_cases hb:b=10
  ·simp [hb,ih]
  ·rw [if_neg hb]
   cases h:zBj r with
   | nil=>rw [h] at ih;simp at ih;simp [<- ih]
   | cons l ls=>rw [h] at ih;simp at ih ⊢;exact ih
theorem zFP:∀(s l:List UInt8),l∈zBj s->(∃t,l=t++[10]/\(10:UInt8)∉t)\/(l≠[]/\(10:UInt8)∉l)
 | [],l,h=>by simp [zBj] at h
 | b::r,l,h=>by
  rw [zBj] at h
  by_cases hb:b=10
  ·simp only [hb,if_true,List.mem_cons] at h
   rcases h with rfl | h
   ·exact .inl ⟨[],rfl,by simp⟩
   ·exact zFP r l h
  ·rw [if_neg hb] at h
   have ih:=zFP r
   cases hr:zBj r with
   | nil =>
    rw [hr] at h;simp at h;subst h
    exact .inr ⟨by simp,by simpa using Ne.symm hb⟩
   | cons l0 ls =>
    rw [hr] at h ih
    simp only [List.mem_cons] at h
    rcases h with rfl | h
    ·rcases ih l0 (by simp) with ⟨t,rfl,ht⟩ | ⟨_,ht⟩
     ·exact .inl ⟨b::t,rfl,by simp [Ne.symm hb,ht]⟩
     ·exact .inr ⟨by simp,by simp [Ne.symm hb,ht]⟩
    ·exact ih l (by simp [h])
theorem zH5 {α : Type}:∀{L:List (List α)} {l:List α},l∈L->l.length<=L.flatten.length
 | a::L,l,h=>by
  rcases List.mem_cons.1 h with rfl | h
  ·simp
  ·have:=zH5 h
   rw [List.flatten_cons,List.length_append];omega
theorem zH8 {s l:List UInt8} (h:l∈zBj s):l.length<=s.length:=by
 have:=zH5 h
 rwa [zHB] at this
theorem zMG:∀{w r:List UInt8} {c:UInt8},c∉w->Lib.indexByte (w++c::r) c=(w.length:Nat)
 | [],r,c,_=>by simp [Lib.indexByte]
 | b::w,r,c,h=>by
  have hb:¬b=c:=fun e=>h (by simp [e])
  have ih:=zMG (w:=w) (r:=r) (c:=c) (fun hm=>h (List.mem_cons_of_mem _ hm))
  rw [List.cons_append,zFx,if_neg hb,ih,if_neg (by omega)]
  simp
theorem zMH {w:List UInt8} {c:UInt8} (h:c∉w):Lib.indexByte w c = -1:=by
 have:=zEX w c
 by_cases h0:0<=Lib.indexByte w c
 ·exact absurd (this.1.1 h0) h
 ·omega
theorem zMn {s:List UInt8} {c:UInt8} (h:c∈s):∃w r,s=w++c::r/\c∉w:=by
 induction s with
 | nil=>cases h
 | cons b s ih =>
  by_cases hb:b=c
  ·exact ⟨[],s,by simp [hb],by simp⟩
  ·obtain ⟨w,r,rfl,hw⟩:=ih (by simpa [Ne.symm hb] using h)
   exact ⟨b::w,r,rfl,by simp [Ne.symm hb,hw]⟩
theorem zKa:∀(l r:List UInt8) (acc:Nat),Lib.parseUint10 acc (l++r)=match Lib.parseUint10 acc l with
  | .ok a=>Lib.parseUint10 a r
  | e=>e
 | [],r,acc=>by simp [Lib.parseUint10]
 | c::l,r,acc=>by
  simp only [List.cons_append,Lib.parseUint10]
  have ih:=zKa l r
  split
  ·split
   ·rfl
   ·split
    ·rfl
    ·exact ih _
  ·rfl
theorem zJF {d:Nat} (h:d<10):(UInt8.ofNat (48+d)).toNat=48+d:=by simp;omega
theorem zHF:∀(u:Nat),u<18446744073709551616->Lib.parseUint10 0 (Lib.decDigits u)=.ok u:=by
 intro u
 induction u using Nat.strongRecOn with
 | ind u ih =>
  intro hu
  rw [Lib.decDigits]
  by_cases h:u<10
  ·rw [dif_pos h]
   simp only [Lib.parseUint10,zJF h]
   rw [if_pos (by omega),if_neg (by omega),if_neg (by omega)]
   simp
  ·rw [dif_neg h,zKa,ih (u / 10) (by omega) (by omega)]
   have hd:u % 10<10:=Nat.mod_lt _ (by omega)
   simp only [Lib.parseUint10,zJF hd]
   rw [if_pos (by omega),if_neg (by omega),if_neg (by omega)]
   congr 1
   omega
theorem zJ8 (u:Nat):Lib.decDigits u≠[]:=by
 rw [Lib.decDigits];split<;>simp
theorem zFf:∀(u:Nat) (b:UInt8),b∈Lib.decDigits u->48<=b.toNat/\b.toNat<=57:=by
 intro u
 induction u using Nat.strongRecOn with
 | ind u ih =>
  intro b hb
  rw [Lib.decDigits] at hb
  by_cases h:u<10
  ·rw [dif_pos h,List.mem_singleton] at hb
   subst hb
   rw [zJF h];omega
  ·rw [dif_neg h] at hb
   simp only [List.mem_append,List.mem_singleton] at hb
   rcases hb with hb | rfl
   ·exact ih _ (by omega) b hb
   ·have hd:u % 10<10:=Nat.mod_lt _ (by omega)
    rw [zJF hd];omega
theorem zPx {n:Int} {b:UInt8} (h:b∈Lib.itoa n):b=45\/48<=b.toNat/\b.toNat<=57:=by
 unfold Lib.itoa at h
 split at h
 ·simp only [List.mem_cons] at h
  rcases h with h | h
  ·exact .inl h
  ·exact .inr (zFf _ _ h)
 ·exact .inr (zFf _ _ h)
theorem zON {n:Int} {c:UInt8} (h:c.toNat<45\/c.toNat=46\/c.toNat=47\/57<c.toNat):c∉Lib.itoa n:=fun hm=>by
 rcases zPx hm with h' | h'
 ·subst h';simp at h
 ·omega
theorem zNV {n:Int} (h1 : -9223372036854775808<=n) (h2:n<=9223372036854775807):Lib.atoiAll (Lib.itoa n)=.ok n:=by
 unfold Lib.itoa
 by_cases h:n<0
 ·rw [if_pos h]
  have hm:Lib.parseMag (Lib.decDigits n.natAbs)=.ok n.natAbs:=by
   unfold Lib.parseMag;rw [if_neg (zJ8 _),zHF _ (by omega)]
  simp only [Lib.atoiAll]
  rw [if_pos (by right;rfl),hm]
  simp only []
  rw [if_neg (by intro hh;exact hh.1 rfl),if_neg (by omega),if_pos (by rfl)]
  congr 1
  omega
 ·rw [if_neg h]
  cases hd:Lib.decDigits n.toNat with
  | nil=>exact absurd hd (zJ8 _)
  | cons c r =>
   have hc:=zFf n.toNat c (by rw [hd];simp)
   have hm:Lib.parseMag (c::r)=.ok n.toNat:=by
    unfold Lib.parseMag;rw [if_neg (by simp),<- hd,zHF _ (by omega)]
   simp only [Lib.atoiAll]
   rw [if_neg (by omega),hm]
   simp only []
   rw [if_neg (by omega),if_neg (by omega),if_neg (by omega)]
   congr 1
   omega
theorem zIX (u:Nat):u<10 ^ 20->(Lib.decDigits u).length<=20:=by
 have key:∀(k u:Nat),u<10 ^ (k+1)->(Lib.decDigits u).length<=k+1:=by
  intro k
  induction k with
  | zero=>intro u h;rw [Lib.decDigits,dif_pos (by simpa using h)];simp
  | succ k ih =>
   intro u h
   rw [Lib.decDigits]
   split
   ·simp
   ·have:=ih (u / 10) (by rw [Nat.pow_succ] at h;omega)
    simp;omega
 exact key 19 u
theorem zPw {n:Int} (h1 : -9223372036854775808<=n) (h2:n<=9223372036854775807):(Lib.itoa n).length<=21:=by
 unfold Lib.itoa
 split
 ·have:=zIX n.natAbs (by omega)
  simp;omega
 ·have:=zIX n.toNat (by omega)
  omega
theorem zMw {s:List UInt8} {v:Int} (h:Lib.atoiAll s=.ok v) : -9223372036854775808<=v/\v<=9223372036854775807:=by
 unfold Lib.atoiAll at h
 split at h
 ·cases h
 ·simp only [] at h
  split at h
  ·cases h
  ·cases h
  ·split at h
   ·cases h
   ·split at h
    ·cases h
    ·cases h
     split<;>omega
end Go.Pw
/- Texts as bytes: texts in quotes and back; numbers without a digit to spare; pieces of a text behind a place. No program is named here. -/
namespace Go.Pw
open Go
theorem zJ3 (s t:List UInt8):zAP (s++t)=zAP s++zAP t:=by simp [zAP]
theorem zNb (b:UInt8):zAP [b]=[(b.toNat:Int)]:=rfl
theorem zHs (s:List UInt8):(zAP s).length=s.length:=by simp [zAP]
theorem zPR (s:List UInt8):zD8 (zAP s)=s:=by
 simp only [zD8,zAP,List.map_map]
 conv=>rhs;rw [<- List.map_id s]
 refine List.map_congr_left fun b _=>?_
 simp
theorem zF4 (b c:UInt8):((b.toNat:Int)==(c.toNat:Int))=(b==c):=by
 rw [Bool.eq_iff_iff,beq_iff_eq,beq_iff_eq,<- UInt8.toNat_inj];omega
def inI (n:Int):Prop := -9223372036854775808<=n/\n<=9223372036854775807
theorem zL5 {S r:List UInt8} {p:Nat} {c:UInt8} (h:S.drop p=c::r):chr S (p:Int)=some (c.toNat:Int):=by
 rw [zK9]
 have:S[p]? = some c:=by
  have h2:(S.drop p)[0]? = some c:=by rw [h];rfl
  simpa using h2
 rw [this];rfl
theorem zKB {S r:List UInt8} {p:Nat} {c:UInt8} (h:S.drop p=c::r):p<S.length/\S.drop (p+1)=r:=by
 have hl:=congrArg List.length h
 simp at hl
 exact ⟨by omega,by rw [<- List.drop_drop,h];rfl⟩
theorem zN4 {S:List UInt8} {p:Nat} (h:p<S.length):∃c r,S.drop p=c::r:=⟨S[p],S.drop (p+1),List.drop_eq_getElem_cons h⟩
def unq:List UInt8->Option (List UInt8×List UInt8)
 | []=>none
 | [b]=>if b=34 then some ([],[]) else none
 | b::c::r=>if b=34 then some ([],c::r) else if b=92 then (if c=34\/c=92 then (unq r).map fun x=>(c::x.1,x.2) else none) else (unq (c::r)).map fun x=>(b::x.1,x.2)
theorem zLo (r:List UInt8):unq (34::r)=some ([],r):=by cases r<;>simp [unq]
theorem zLp {c:UInt8} (h:c=34\/c=92) (r:List UInt8):unq (92::c::r)=(unq r).map fun x=>(c::x.1,x.2):=by simp [unq,h]
theorem zI1 {c:UInt8} (h:¬(c=34\/c=92)) (r:List UInt8):unq (92::c::r)=none:=by simp [unq,h]
theorem zIK:unq [92]=none:=by simp [unq]
theorem zLq {b:UInt8} (h1:b≠34) (h2:b≠92) (r:List UInt8):unq (b::r)=(unq r).map fun x=>(b::x.1,x.2):=by cases r<;>simp [unq,h1,h2]
theorem zSL:quoL []=[]:=rfl
theorem zGf (b:UInt8) (s:List UInt8):quoL (b::s)=quoB b++quoL s:=by simp [quoL]
theorem zMd {b:UInt8} (h:b=34\/b=92):quoB b=[92,b]:=by rcases h with rfl | rfl<;>rfl
theorem zO7 {b:UInt8} (h1:b≠34) (h2:b≠92):quoB b=[b]:=by simp [quoB,zBT,h1,h2]
theorem zPT:∀(s r:List UInt8),unq (quoL s++34::r)=some (s,r)
 | [],r=>zLo r
 | b::s,r=>by
  have ih:=zPT s r
  rw [zGf]
  by_cases h:b=34\/b=92
  ·rw [zMd h]
   show unq (92::b::(quoL s++34::r))=_
   rw [zLp h,ih];rfl
  ·have h1:b≠34:=fun e=>h (.inl e)
   have h2:b≠92:=fun e=>h (.inr e)
   rw [zO7 h1 h2]
   show unq (b::(quoL s++34::r))=_
   rw [zLq h1 h2,ih];rfl
theorem zLi:∀(n:Nat) (t s r:List UInt8),t.length<=n->unq t=some (s,r)->t=quoL s++34::r
 | 0,t,s,r,hn,h=>by
  obtain rfl:=List.length_eq_zero_iff.1 (Nat.le_zero.1 hn)
  simp [unq] at h
 | n+1,[],s,r,hn,h=>by simp [unq] at h
 | n+1,b::t,s,r,hn,h=>by
  simp only [List.length_cons] at hn
  by_cases h1:b=34
  ·subst h1
   rw [zLo] at h
   cases h;rfl
  ·by_cases h2:b=92
   ·subst h2
    cases t with
    | nil=>rw [zIK] at h;cases h
    | cons c t =>
     by_cases h3:c=34\/c=92
     ·rw [zLp h3] at h
      cases h4:unq t with
      | none=>rw [h4] at h;cases h
      | some x =>
       rw [h4] at h
       cases h
       have:=zLi n t x.1 x.2 (by simp at hn;omega) h4
       rw [zGf,zMd h3]
       show 92::c::t=92::c::(quoL x.1++34::x.2)
       rw [<- this]
     ·rw [zI1 h3] at h;cases h
   ·rw [zLq h1 h2] at h
    cases h4:unq t with
    | none=>rw [h4] at h;cases h
    | some x =>
     rw [h4] at h
     cases h
     have:=zLi n t x.1 x.2 (by omega) h4
     rw [zGf,zO7 h1 h2]
     show b::t=b::(quoL x.1++34::x.2)
     rw [<- this]
theorem zRK:∀(s:List UInt8),s.length<=(quoL s).length
 | []=>Nat.le_refl _
 | b::s=>by
  have:=zRK s
  rw [zGf,List.length_append,List.length_cons]
  have:1<=(quoB b).length:=by unfold quoB;split<;>simp
  omega
theorem zO8 {c:UInt8}:∀{s:List UInt8},c∈quoL s->c=92\/c∈s
 | [],h=>by simp [zSL] at h
 | b::s,h=>by
  rw [zGf,List.mem_append] at h
  rcases h with h | h
  ·unfold quoB at h
   split at h
   ·simp at h;rcases h with h | h
    ·exact .inl h
    ·exact .inr (by simp [h])
   ·simp at h;exact .inr (by simp [h])
  ·rcases zO8 h with h | h
   ·exact .inl h
   ·exact .inr (by simp [h])
def val (l:List UInt8):Nat:=l.foldl (fun a c=>a*10+(c.toNat - 48)) 0
def isD (c:UInt8):Prop:=48<=c.toNat/\c.toNat<=57
instance (c:UInt8):Decidable (isD c):=by unfold isD;infer_instance
theorem zHu:∀(k u:Nat),u<10 ^ (k+1)->(Lib.decDigits u).length<=k+1:=by
 intro k
 induction k with
 | zero=>intro u h;rw [Lib.decDigits,dif_pos (by simpa using h)];simp
 | succ k ih =>
  intro u h
  rw [Lib.decDigits]
  split
  ·simp
  ·have:=ih (u / 10) (by rw [Nat.pow_succ] at h;omega)
   simp;omega
end Go.Pw
/- Operations: the library's functions on texts, the words and the fields of all kinds, and which operations are right. -/
namespace Go.Proofs.YtoboimmgglnjfaaGreatDoor
open Go Go.Pw
set_option linter.unusedVariables false
theorem zLC {fu:Nat} {w r:Bs} {c:UInt8} (hw:c∉w) (hl:(w++c::r).length<=1000000000):zAf fu (w++c::r) [c]=some (w,r,true):=by
 simp only [List.length_append,List.length_cons] at hl
 unfold zAf zBY
 simp only [zFi,bnd_some]
 rw [zMG hw,show decide (((w.length:Nat):Int)>=0)=true from by simp,cnd_true,show (0:Int)=((0:Nat):Int) from rfl,zDS (by omega) (by simp),bnd_some,
  show ((w.length:Nat):Int)+(([c].length:Nat):Int)=((w.length+1:Nat):Int) from by simp,zJk (by omega) (by omega),bnd_some,zDS (by simp) (by simp),bnd_some,bnd_some]
 simp
 exact List.take_of_length_le (by omega)
theorem zNu {fu:Nat} {s:Bs} {c:UInt8} (hs:c∉s):zAf fu s [c]=some (s,[],false):=by
 unfold zAf zBY
 simp only [zFi,bnd_some]
 rw [zMH hs]
 rfl
theorem zNt {fu:Nat} {s:Bs} (c:UInt8) (hl:s.length<=1000000000):∃w r b,zAf fu s [c]=some (w,r,b)/\w.length<=s.length/\r.length<=s.length:=by
 by_cases h:c∈s
 ·obtain ⟨w,r,rfl,hw⟩:=zMn h
  exact ⟨w,r,true,zLC hw hl,by simp,by simp;omega⟩
 ·exact ⟨s,[],false,zNu h,Nat.le_refl _,by simp⟩
theorem zLb {fu:Nat} {c:UInt8}:zAO fu [] [c]=some ([],false):=by
 unfold zAO zA5 zAV
 rfl
theorem zHe {fu:Nat} {b c:UInt8} {r:Bs} (hl:r.length<=1000000000):zAO fu (b::r) [c]=some (if b=c then (r,true) else (b::r,false)):=by
 unfold zAO zA5 zAV
 rw [show decide ((((b::r).length:Nat):Int)>=(([c].length:Nat):Int))=true from by simp;omega,cnd_true]
 rw [show (0:Int)=((0:Nat):Int) from rfl,zDS (by omega) (by simp),bnd_some,bnd_some]
 rw [show (((b::r).drop 0).take ([c].length - 0)==[c])=decide (b=c) from by simp [Bool.beq_eq_decide_eq]]
 by_cases h:b=c
 ·rw [if_pos h]
  simp only [h,decide_true,Bool.not_true,cnd_false]
  rw [zDS (by simp) (by simp),bnd_some,bnd_some]
  simp
 ·rw [if_neg h]
  simp [h]
theorem zLZ {fu:Nat} {s:Bs} {c:UInt8} (hl:s.length<=1000000000):∃r b,zAO fu s [c]=some (r,b)/\r.length<=s.length:=by
 cases s with
 | nil=>exact ⟨_,_,zLb,Nat.le_refl _⟩
 | cons b s =>
  rw [zHe (by simp at hl;omega)]
  by_cases h:b=c
  ·rw [if_pos h];exact ⟨_,_,rfl,by simp⟩
  ·rw [if_neg h];exact ⟨_,_,rfl,Nat.le_refl _⟩
theorem zPu {fu:Nat} {c:UInt8}:zBa fu [] [c]=some false:=by
 unfold zBa zAV
 rfl
theorem zOJ {fu:Nat} {b c:UInt8} {r:Bs}:zBa fu (b::r) [c]=some (decide (b=c)):=by
 unfold zBa zAV
 rw [show decide ((((b::r).length:Nat):Int)>=(([c].length:Nat):Int))=true from by simp;omega,cnd_true]
 rw [show (0:Int)=((0:Nat):Int) from rfl,zDS (by omega) (by simp),bnd_some,bnd_some]
 simp [Bool.beq_eq_decide_eq]
theorem zLL {fu:Nat} {l:List Bs} {v:Bs} (hl:l.length<fu) (hb:l.length<=1000000000):zAe fu l v=match (List.range l.length).find? fun i=>v==l.getD i [] with
  | some i=>some (i:Int)
  | none=>some (-1):=by
 unfold zAe
 have at_:∀i,i<l.length->∀k,zAj l v (k+1) (i:Int)=cnd (v==l.getD i []) (some (i:Int)) (zAj l v k ((i+1:Nat):Int)):=fun i hi k=>by
  rw [zAj,show decide ((i:Int)<((l.length:Nat):Int))=true from by simpa using hi,cnd_true,zCy hi,bnd_some,zBt (by omega),bnd_some]
  simp [List.getD,hi]
 exact zSf (L:=zAj l v) (fun i=>v==l.getD i []) (fun i=>some (i:Int)) (some (-1)) l.length
  (fun i hi hp k=>by rw [at_ i hi k,hp,cnd_true]) (fun i hi hp k=>by rw [at_ i hi k,hp,cnd_false]) (fun k=>by
   rw [zAj,show decide (((l.length:Nat):Int)<((l.length:Nat):Int))=false from by simp,cnd_false]) hl
theorem wstr {fu:Nat} {s t:Bs} (h:t.length+s.length<=1000000000):zAG fu s (zAP t)=some (((s.length:Nat):Int),false,zAP (t++s)):=by
 unfold zAG
 simp only [zAY,bnd_some]
 rw [zHs,zCZ (by omega),bnd_some,zJ3]
theorem zSg {fu:Nat} {b:UInt8} {t:Bs} (h:t.length<1000000000):zAm fu (b.toNat:Int) (zAP t)=some (false,zAP (t++[b])):=by
 unfold zAm
 simp only [zAY,bnd_some]
 rw [zHs,zCZ (by simp;omega),bnd_some,zJ3,zNb]
theorem bstr {fu:Nat} {t:Bs}:zAX fu (zAP t)=some t:=congrArg some (zPR t)
def wordsL:List Bs:=[[45],[110,101,119],[100,114,97,102,116],[116,101,120,116],[102,114,97,103],[115,104,97,100,101],[112,117,116],[111,117,116],[115,119,97,112],[115,101,116],[117,110,115,101,116],[116,111,103,103,108,101],[99,111,112,121],[116,97,107,101],[101,109,112,116,121],[106,111,105,110],[100,101,102,105,110,101],[119,97,105,116],[117,112,103,114,97,100,101],[98,117,105,108,100],[115,117,112,101,114],[103,105,118,101],[116,104,114,111,119],[114,101,115,101,116],[114,101,115,116,111,114,101],[114,101,115,116],[104,97,110,100,112,117,116],[104,97,110,100,111,117,116],[104,97,110,100,115,101,116]]
theorem zPX (fu:Nat):zFb fu=some wordsL:=by kernel_rfl
def Knd (k:Int):Prop:=0<k/\k<=28
instance (k:Int):Decidable (Knd k):=by unfold Knd;infer_instance
def wd (k:Int):Bs:=if Knd k then wordsL.getD k.toNat [] else []
def fieldsL:List Bs:=[[110,46,46,46,46],[110,46,46,115,115],[110,46,46,115,115],[110,46,46,115,46],[110,46,46,46,46],[110,46,46,46,46],[110,110,111,46,46],[110,46,46,46,46],[110,110,111,46,46],[110,46,46,115,115],[110,46,46,115,46],[110,105,46,115,46],[110,105,110,46,46],[110,110,46,46,46],[110,46,46,46,46],[110,46,46,46,46],[105,46,46,115,115],[46,46,46,115,46],[110,46,46,46,46],[105,46,46,46,46],[46,46,46,46,46],[110,46,46,46,46],[46,46,46,46,46],[110,46,46,46,46],[110,46,46,115,46],[46,46,46,46,46],[110,110,111,46,46],[110,46,46,46,46],[110,46,46,115,115]]
def fd (k:Int):Bs:=if Knd k then fieldsL.getD k.toNat [] else [110,46,46,46,46]
theorem zH3 {k:Int} (h:Knd k):k=1\/k=2\/k=3\/k=4\/k=5\/k=6\/k=7\/k=8\/k=9\/k=10\/k=11\/k=12\/k=13\/k=14\/k=15\/k=16\/k=17\/k=18\/k=19\/k=20\/k=21\/k=22\/k=23\/k=24\/k=25\/k=26\/k=27\/k=28:=by
 unfold Knd at h;omega
theorem zRQ (fu:Nat) (k:Int):zCA fu k=some (wd k):=by
 unfold zCA
 rw [zPX,bnd_some]
 by_cases h:Knd k
 ·have hw:wd k=wordsL.getD k.toNat []:=if_pos h
  rw [hw]
  obtain ⟨h1,h2⟩:=h
  obtain ⟨n,rfl⟩:∃n:Nat,k=(n:Int):=⟨k.toNat,by omega⟩
  rw [show decide ((n:Int)>0)=true from by simpa using h1,cnd_true,show decide ((n:Int)<((wordsL.length:Nat):Int))=true from by simp [wordsL];omega,cnd_true]
  have hl:n<wordsL.length:=by simp [wordsL];omega
  rw [zCy hl,bnd_some]
  simp [List.getD,hl]
 ·rw [wd,if_neg h]
  unfold Knd at h
  by_cases h1:k>0
  ·rw [show decide (k>0)=true from by simpa using h1,cnd_true,show decide (k<((wordsL.length:Nat):Int))=false from by simp [wordsL];omega,cnd_false]
  ·rw [show decide (k>0)=false from by simpa using h1,cnd_false]
theorem zOH (fu:Nat) (k:Int):zC2 fu k=some (⟨wd k,fd k⟩,decide (Knd k)):=by
 by_cases h:Knd k
 ·rw [show decide (Knd k)=true from by simpa using h]
  rcases zH3 h with rfl | rfl | rfl | rfl | rfl | rfl | rfl | rfl | rfl | rfl | rfl | rfl | rfl | rfl | rfl | rfl | rfl | rfl | rfl | rfl | rfl | rfl | rfl | rfl | rfl | rfl | rfl | rfl <;>
   simp [zC2,zCc,zDA,zDB,zDC,zRQ,fd,fieldsL,Knd]
 ·rw [show decide (Knd k)=false from by simpa using h,fd,if_neg h]
  unfold Knd at h
  have e:∀j:Int,0<j->j<=28->(k==j)=false:=fun j h1 h2=>beq_false_of_ne (fun e=>h (by omega))
  simp only [zC2,zCc,zDA,zDB,zDC,zRQ,bnd_some,
   e 1 (by decide) (by decide),e 2 (by decide) (by decide),e 3 (by decide) (by decide),e 6 (by decide) (by decide),e 8 (by decide) (by decide),e 9 (by decide) (by decide),e 10 (by decide) (by decide),e 11 (by decide) (by decide),e 12 (by decide) (by decide),e 13 (by decide) (by decide),e 16 (by decide) (by decide),e 17 (by decide) (by decide),e 19 (by decide) (by decide),e 20 (by decide) (by decide),e 22 (by decide) (by decide),e 24 (by decide) (by decide),e 25 (by decide) (by decide),e 26 (by decide) (by decide),e 28 (by decide) (by decide),cnd_false]
  by_cases h1:k>0
  ·rw [show decide (k>0)=true from by simpa using h1,cnd_true,show decide (k<=28)=false from by simp;omega]
  ·rw [show decide (k>0)=false from by simpa using h1,cnd_false]
def fc (k:Int) (i:Nat):UInt8:=(fd k).getD i 0
theorem fd_len (k:Int):(fd k).length=5:=by
 unfold fd
 split
 ·rename_i h
  rcases zH3 h with rfl | rfl | rfl | rfl | rfl | rfl | rfl | rfl | rfl | rfl | rfl | rfl | rfl | rfl | rfl | rfl | rfl | rfl | rfl | rfl | rfl | rfl | rfl | rfl | rfl | rfl | rfl | rfl<;>rfl
 ·rfl
theorem zEp {k:Int} {i:Nat} (hi:i<5):chr (fd k) (i:Int)=some ((fc k i).toNat:Int):=by
 have:i<(fd k).length:=by rw [fd_len];exact hi
 rw [chr_lt this,fc,List.getD_eq_getElem?_getD,List.getElem?_eq_getElem this];rfl
theorem zGQ (k:Int) {i:Nat} (hi:i<3):fc k i=110\/fc k i=111\/fc k i=105\/fc k i=46:=by
 have key:∀j:Fin 29,∀i:Fin 3,(fieldsL.getD j.1 []).getD i.1 0=110\/(fieldsL.getD j.1 []).getD i.1 0=111\/(fieldsL.getD j.1 []).getD i.1 0=105\/(fieldsL.getD j.1 []).getD i.1 0=46:=by decide
 unfold fc fd
 split
 ·rename_i h
  exact key ⟨k.toNat,by unfold Knd at h;omega⟩ ⟨i,hi⟩
 ·exact key ⟨0,by omega⟩ ⟨i,hi⟩
theorem zIZ (k:Int) {i:Nat} (h3:3<=i) (hi:i<5):fc k i=115\/fc k i=46:=by
 have key:∀j:Fin 29,∀i:Fin 5,3<=i.1->(fieldsL.getD j.1 []).getD i.1 0=115\/(fieldsL.getD j.1 []).getD i.1 0=46:=by decide
 unfold fc fd
 split
 ·rename_i h
  exact key ⟨k.toNat,by unfold Knd at h;omega⟩ ⟨i,hi⟩ h3
 ·exact key ⟨0,by omega⟩ ⟨i,hi⟩ h3
def fit (f:UInt8) (n:Int):Bool :=
 if f=105 then decide (-1000<=n/\n<=1000) else if f=110\/f=111 then decide (n = -2\/n = -3\/0<=n/\n<400\/f=111/\n = -1) else decide (n=0)
def fitT (f:UInt8) (s:Bs):Bool:=if f=115 then decide (s.length<=200/\(10:UInt8)∉s) else decide (s=[])
def zFV (o:Op):Bool:=decide (Knd o.Kind)&&(fit (fc o.Kind 0) o.A&&(fit (fc o.Kind 1) o.B&&(fit (fc o.Kind 2) o.C&&(fitT (fc o.Kind 3) o.S&&fitT (fc o.Kind 4) o.T))))
theorem zQ4 (n:Int):zEe n ()=some (decide (n = -2\/n = -3\/0<=n/\n<400)):=by
 unfold zEe
 simp only [zBq,zC6]
 by_cases h1:n = -2
 ·simp [h1]
 by_cases h2:n = -3
 ·simp [h2]
 by_cases h3:n>=0
 ·rw [if_neg h1,if_neg h2,if_pos h3]
  congr 1
  rw [decide_eq_decide]
  omega
 ·rw [if_neg h1,if_neg h2,if_neg h3,eq_comm,decide_eq_false]
  omega
theorem zRo (fu:Nat) {f:UInt8} (hf:f=110\/f=111\/f=105\/f=46) (n:Int):zFa fu (f.toNat:Int) n=some (fit f n):=by
 unfold zFa
 rcases hf with rfl | rfl | rfl | rfl
 ·show cnd false _ (cnd true (zEe n ()) _)=_
  rw [cnd_false,cnd_true,zQ4]
  congr 1
  simp [fit]
 ·show cnd true _ _=_
  rw [cnd_true,zBq,zQ4]
  by_cases h:n = -1
  ·rw [if_pos h];simp [fit,h]
  ·rw [if_neg h];congr 1;simp [fit,h]
 ·show cnd false _ (cnd false _ (cnd true _ _))=_
  rw [cnd_false,cnd_false,cnd_true,zC6]
  by_cases h:n >= -1000
  ·rw [if_pos h];congr 1;simp [fit];omega
  ·rw [if_neg h];congr 1;simp [fit];omega
 ·show cnd false _ (cnd false _ (cnd false _ _))=_
  rw [cnd_false,cnd_false,cnd_false]
  congr 1
theorem has_m (fu:Nat) (s:Bs) (c:UInt8):zCW fu s [c]=some (decide (c∈s)):=by
 unfold zCW zEH
 simp only [zFi,bnd_some]
 congr 1
 by_cases h:c∈s
 ·have:=(zEX s c).1.2 h
  simp [h];omega
 ·rw [zMH h];simp [h]
theorem zKF (fu:Nat) {f:UInt8} (hf:f=115\/f=46) (s:Bs):zCb fu (f.toNat:Int) s=some (fitT f s):=by
 unfold zCb
 rcases hf with rfl | rfl
 ·show cnd true _ _=_
  rw [cnd_true,zC6,has_m,bnd_some]
  by_cases h:(s.length:Int)<=200
  ·rw [if_pos h];congr 1
   simp [fitT]
   omega
  ·rw [if_neg h];congr 1
   simp [fitT]
   intro h2;omega
 ·show cnd false _ _=_
  rw [cnd_false]
  congr 1
  cases s<;>rfl
theorem zPE (fu:Nat) (o:Op):zEA fu o=some (zFV o):=by
 unfold zEA
 simp only [zOH,bnd_some,zCd]
 have j2:∀b ok:Bool,zDX fu o (⟨wd o.Kind,fd o.Kind⟩,b) ok=some (ok&&(fitT (fc o.Kind 3) o.S&&fitT (fc o.Kind 4) o.T)):=fun b ok=>by
  unfold zDX
  simp only [zCo,bnd_some]
  cases ok with
  | false=>rfl
  | true =>
   rw [cnd_true,show rng .i64 (3+0)=some ((3:Nat):Int) from rfl,bnd_some,zEp (by omega),bnd_some,zKF fu (zIZ _ (by omega) (by omega)),bnd_some]
   cases fitT (fc o.Kind 3) o.S with
   | false=>rfl
   | true =>
    rw [cnd_true,show rng .i64 (3+1)=some ((4:Nat):Int) from rfl,bnd_some,zEp (by omega),bnd_some,zKF fu (zIZ _ (by omega) (by omega)),bnd_some]
    rfl
 have j1:∀b ok:Bool,zEF fu o (⟨wd o.Kind,fd o.Kind⟩,b) ok=some (ok&&(fit (fc o.Kind 1) o.B&&(fit (fc o.Kind 2) o.C&&(fitT (fc o.Kind 3) o.S&&fitT (fc o.Kind 4) o.T)))):=fun b ok=>by
  unfold zEF
  cases ok with
  | false=>rw [cnd_false,j2];rfl
  | true =>
   rw [cnd_true,show (1:Int)=((1:Nat):Int) from rfl,zEp (by omega),bnd_some,zRo fu (zGQ _ (by omega)),bnd_some]
   cases fit (fc o.Kind 1) o.B with
   | false=>rw [cnd_false,j2];rfl
   | true =>
    rw [cnd_true,show (2:Int)=((2:Nat):Int) from rfl,zEp (by omega),bnd_some,zRo fu (zGQ _ (by omega)),bnd_some,j2]
    rfl
 unfold zFV
 cases hk:decide (Knd o.Kind) with
 | false=>rw [cnd_false,j1];rfl
 | true =>
  rw [cnd_true,show (0:Int)=((0:Nat):Int) from rfl,zEp (by omega),bnd_some,zRo fu (zGQ _ (by omega)),bnd_some,j1]
  rfl
end Go.Proofs.YtoboimmgglnjfaaGreatDoor
/- An operation's text, and what op.Put comes to. -/
namespace Go.Proofs.YtoboimmgglnjfaaGreatDoor
open Go Go.Pw
set_option linter.unusedVariables false
def tl (l:List Bs):Bs:=l.flatMap fun f=>32::f
theorem zD1:tl []=[]:=rfl
theorem zDf (f:Bs) (l:List Bs):tl (f::l)=32::(f++tl l):=rfl
theorem zKw (l m:List Bs):tl (l++m)=tl l++tl m:=by simp [tl]
def zPL:Bs:=[115,101,108,102]
def zOR:Bs:=[108,97,115,116]
def numW (f:UInt8) (n:Int):Bs:=if f=105\/0<=n then Lib.itoa n else if n = -1 then [45] else if n = -2 then zPL else zOR
def numL (f:UInt8) (n:Int):List Bs:=if f=46 then [] else [numW f n]
def qS (s:Bs):Bs:=34::quoL s++[34]
def txtL (f:UInt8) (s:Bs):List Bs:=if f=115 then [qS s] else []
def zG6 (o:Op):List Bs:=txtL (fc o.Kind 3) o.S++txtL (fc o.Kind 4) o.T
def zDQ (o:Op):List Bs:=numL (fc o.Kind 0) o.A++(numL (fc o.Kind 1) o.B++(numL (fc o.Kind 2) o.C++zG6 o))
def bang (b:Bool):Bs:=if b then [33] else []
def putP (o:Op):Bs:=bang o.Must++(wd o.Kind++tl (zDQ o))
theorem zRO (k:Int):(wd k).length<=7:=by
 have key:∀j:Fin 29,(wordsL.getD j.1 []).length<=7:=by decide
 unfold wd
 split
 ·rename_i h
  exact key ⟨k.toNat,by unfold Knd at h;omega⟩
 ·simp
theorem zEJ {f:UInt8} {n:Int} (h:fit f n=true) : -1000<=n/\n<=1000:=by
 unfold fit at h
 split at h
 ·simpa using h
 ·split at h
  ·simp at h;omega
  ·simp at h;omega
theorem zIe {n:Int} (h1 : -1000<=n) (h2:n<=1000):(Lib.itoa n).length<=5:=by
 unfold Lib.itoa
 split
 ·have:=zHu 3 n.natAbs (by omega)
  simp;omega
 ·have:=zHu 3 n.toNat (by omega)
  omega
theorem zP9 {f:UInt8} {n:Int} (h1 : -1000<=n) (h2:n<=1000):(numW f n).length<=5:=by
 unfold numW
 split
 ·exact zIe h1 h2
 ·split
  ·simp
  ·split<;>simp [zPL,zOR]
theorem zFk {f:UInt8} {n:Int} (h1 : -1000<=n) (h2:n<=1000):(tl (numL f n)).length<=6:=by
 unfold numL
 split
 ·simp [zD1]
 ·have:=zP9 (f:=f) h1 h2
  simp [zDf,zD1];omega
theorem zO4 (s:Bs):(qS s).length<=2*s.length+2:=by
 have:=zGg s
 simp [qS];omega
theorem zJr (f:UInt8) (s:Bs):(tl (txtL f s)).length<=2*s.length+3:=by
 unfold txtL
 split
 ·have:=zO4 s
  simp [zDf,zD1];omega
 ·simp [zD1]
theorem zLM {fu:Nat} {n:Int} (h:inI n):zId fu n=some (Lib.itoa n):=if_pos h
theorem zJV {fu:Nat} {f:UInt8} {n:Int} {t:Bs} (hf:f=110\/f=111\/f=105\/f=46) (h1 : -1000<=n) (h2:n<=1000) (ht:t.length<=1000000) :
  zBM fu (f.toNat:Int) n (zAP t)=some (zAP (t++tl (numL f n))):=by
 have hl:=zIe h1 h2
 have j1:∀b:Bool,(b=true↔f=105\/0<=n)->zBz fu n (zAP t) b=some (zAP (t++32::numW f n)):=fun b hb=>by
  unfold zBz numW
  cases b with
  | true =>
   rw [if_pos (hb.1 rfl),cnd_true,zLM ⟨by omega,by omega⟩,bnd_some,zIV (by simp;omega),bnd_some,wstr (by simp;omega),bnd_some]
   rfl
  | false =>
   rw [if_neg (fun h=>by have:=hb.2 h;cases this),cnd_false,zBq,zBq]
   by_cases e1:n = -1
   ·rw [if_pos e1,if_pos e1]
    show bnd (zAG fu [32,45] (zAP t)) _=_
    rw [wstr (by simp;omega)];rfl
   ·rw [if_neg e1,if_neg e1]
    by_cases e2:n = -2
    ·rw [if_pos e2,if_pos e2,wstr (by simp;omega)];rfl
    ·rw [if_neg e2,if_neg e2,wstr (by simp;omega)];rfl
 unfold zBM numL
 rcases hf with rfl | rfl | rfl | rfl
 ·show cnd false _ (cnd false _ _)=_
  rw [cnd_false,cnd_false,j1 _ (by simp),if_neg (by decide)]
  simp [zDf,zD1]
 ·show cnd false _ (cnd false _ _)=_
  rw [cnd_false,cnd_false,j1 _ (by simp),if_neg (by decide)]
  simp [zDf,zD1]
 ·show cnd false _ (cnd true (zBz fu n (zAP t) true) _)=_
  rw [cnd_false,cnd_true,j1 true (by simp),if_neg (by decide)]
  simp [zDf,zD1]
 ·show cnd true _ _=_
  rw [cnd_true,if_pos rfl]
  simp [zD1]
theorem zMf {fu:Nat} {s:Bs} (h:s.length<=1000000):zG3 fu s=some (qS s):=by
 unfold zG3;rw [if_pos (by omega)];rfl
structure RightP (o:Op):Prop where
 kind:Knd o.Kind
 a:fit (fc o.Kind 0) o.A=true
 b:fit (fc o.Kind 1) o.B=true
 c:fit (fc o.Kind 2) o.C=true
 s:fitT (fc o.Kind 3) o.S=true
 t:fitT (fc o.Kind 4) o.T=true
theorem right_iff {o:Op}:zFV o=true↔RightP o:=by
 unfold zFV
 simp only [Bool.and_eq_true,decide_eq_true_eq]
 exact ⟨fun h=>⟨h.1,h.2.1,h.2.2.1,h.2.2.2.1,h.2.2.2.2.1,h.2.2.2.2.2⟩,fun h=>⟨h.kind,h.a,h.b,h.c,h.s,h.t⟩⟩
theorem zFg {f:UInt8} {s:Bs} (h:fitT f s=true):s.length<=200/\(10:UInt8)∉s:=by
 unfold fitT at h
 split at h
 ·simpa using h
 ·simp at h;subst h;simp
theorem zRF {fu:Nat} {o:Op} {b:Bool} {t:Bs} (ho:o.T.length<=200) (ht:t.length<=10000) :
  zFE fu o (⟨wd o.Kind,fd o.Kind⟩,b) (zAP t)=some (t++tl (txtL (fc o.Kind 4) o.T),0):=by
 have hq:=zO4 o.T
 unfold zFE txtL
 rw [show (4:Int)=((4:Nat):Int) from rfl,zEp (by omega),bnd_some]
 rcases zIZ o.Kind (i:=4) (by omega) (by omega) with h | h
 ·rw [h,if_pos rfl]
  show cnd true _ _=_
  rw [cnd_true,zMf (by omega),bnd_some,zIV (by simp;omega),bnd_some,wstr (by simp;omega),bnd_some,bstr,bnd_some]
  simp [zDf,zD1]
 ·rw [h,if_neg (by decide)]
  show cnd false _ _=_
  rw [cnd_false,bstr,bnd_some]
  simp [zD1]
theorem zRE {fu:Nat} {o:Op} {b:Bool} {t:Bs} (h:RightP o) (ht:t.length<=1000) :
  zEb fu o (⟨wd o.Kind,fd o.Kind⟩,b) (zAP t)=some (t++(wd o.Kind++tl (zDQ o)),0):=by
 have hw:=zRO o.Kind
 obtain ⟨a1,a2⟩:=zEJ h.a
 obtain ⟨b1,b2⟩:=zEJ h.b
 obtain ⟨c1,c2⟩:=zEJ h.c
 have l1:=zFk (f:=fc o.Kind 0) a1 a2
 have l2:=zFk (f:=fc o.Kind 1) b1 b2
 have l3:=zFk (f:=fc o.Kind 2) c1 c2
 have hs:=(zFg h.s).1
 have hT:=(zFg h.t).1
 have hq:=zO4 o.S
 have l4:=zJr (fc o.Kind 3) o.S
 unfold zEb
 rw [wstr (by simp;omega),bnd_some]
 simp only [zCd,zCo,bnd_some]
 rw [show (0:Int)=((0:Nat):Int) from rfl,show (1:Int)=((1:Nat):Int) from rfl,show (2:Int)=((2:Nat):Int) from rfl,show (3:Int)=((3:Nat):Int) from rfl,
  zEp (by omega),bnd_some,zJV (zGQ _ (by omega)) a1 a2 (by simp;omega),bnd_some,zEp (by omega),bnd_some,zJV (zGQ _ (by omega)) b1 b2 (by simp;omega),bnd_some,zEp (by omega),bnd_some,zJV (zGQ _ (by omega)) c1 c2 (by simp;omega),bnd_some,zEp (by omega),bnd_some]
 have e:∀x:Bs,x=t++(wd o.Kind++tl (zDQ o))->some (x,(0:Int))=some (t++(wd o.Kind++tl (zDQ o)),(0:Int)):=fun x hx=>by rw [hx]
 rcases zIZ o.Kind (i:=3) (by omega) (by omega) with h3 | h3
 ·rw [h3]
  show cnd true _ _=_
  rw [cnd_true,zMf (by omega),bnd_some,zIV (by simp;omega),bnd_some,wstr (by simp;omega),bnd_some,zRF hT (by simp;omega)]
  refine e _ ?_
  unfold zDQ zG6
  simp only [zKw,txtL,h3,if_true,zDf,List.append_assoc,List.cons_append,List.nil_append]
 ·rw [h3]
  show cnd false _ _=_
  rw [cnd_false,zRF hT (by simp;omega)]
  refine e _ ?_
  unfold zDQ zG6
  have:¬(46:UInt8)=115:=by decide
  simp only [zKw,txtL,h3,if_neg this,List.append_assoc,List.nil_append]
theorem zSF (fu:Nat) (o:Op):zFY fu o=some (if zFV o=true then (putP o,0) else ([],1)):=by
 unfold zFY
 rw [zPE,bnd_some]
 cases h:zFV o with
 | false=>rfl
 | true =>
  have hr:=right_iff.1 h
  rw [if_pos rfl]
  simp only [Bool.not_true,cnd_false]
  rw [zOH,bnd_some]
  unfold putP bang
  cases o.Must with
  | true =>
   rw [cnd_true]
   show bnd (zAG fu [33] (zAP [])) _=_
   rw [wstr (by simp),bnd_some,zRE hr (by simp)]
   rfl
  | false =>
   rw [cnd_false]
   show zEb fu o _ (zAP [])=_
   rw [zRE hr (by simp)]
   rfl
theorem zO0 {fu:Nat} {o:Op} (h:RightP o):zFY fu o=some (putP o,0):=by rw [zSF,if_pos (right_iff.2 h)]
theorem zJe {o:Op} (h:RightP o):(putP o).length<=1000:=by
 obtain ⟨a1,a2⟩:=zEJ h.a
 obtain ⟨b1,b2⟩:=zEJ h.b
 obtain ⟨c1,c2⟩:=zEJ h.c
 have l1:=zFk (f:=fc o.Kind 0) a1 a2
 have l2:=zFk (f:=fc o.Kind 1) b1 b2
 have l3:=zFk (f:=fc o.Kind 2) c1 c2
 have hs:=(zFg h.s).1
 have hT:=(zFg h.t).1
 have l4:=zJr (fc o.Kind 3) o.S
 have l5:=zJr (fc o.Kind 4) o.T
 have hw:=zRO o.Kind
 have hb:(bang o.Must).length<=1:=by cases o.Must<;>simp [bang]
 unfold putP zDQ zG6
 simp only [zKw,List.length_append]
 omega
end Go.Proofs.YtoboimmgglnjfaaGreatDoor
/- What op.Read comes to: at any text, and at an operation's own. -/
namespace Go.Proofs.YtoboimmgglnjfaaGreatDoor
open Go Go.Pw
set_option linter.unusedVariables false
theorem ratoi {fu:Nat} {w:Bs} (hw:w.length<=1000000000):∃n e,zHq fu w=some (n,e)/\(e=false->inI n):=by
 unfold zHq
 rw [if_pos (by omega)]
 generalize h:Lib.atoiAll w=q
 rcases q with v | _ | _
 ·exact ⟨_,_,rfl,fun _=>zMw h⟩
 ·exact ⟨_,_,rfl,fun e=>by cases e⟩
 ·exact ⟨_,_,rfl,fun e=>by cases e⟩
theorem zPF {fu:Nat} {f:Int} {w:Bs} (hw:w.length<=1000000000):∃n b,zBr fu f w ()=some (n,b):=by
 unfold zBr
 obtain ⟨n,e,h,hr⟩:=ratoi (fu:=fu) hw
 rw [h,bnd_some]
 cases e with
 | true=>exact ⟨_,_,rfl⟩
 | false =>
  show ∃n' b,cnd (!false) _ _=some (n',b)
  rw [Bool.not_false,cnd_true,zLM (hr rfl),bnd_some]
  cases Lib.itoa (n,false).1==w with
  | false=>exact ⟨_,_,rfl⟩
  | true=>rw [cnd_true];cases f==105<;>exact ⟨_,_,rfl⟩
theorem zQT {fu:Nat} {f:Int} {w:Bs} (hw:w.length<=1000000000):∃n b,zBK fu f w=some (n,b):=by
 unfold zBK
 cases f != 105 with
 | false=>exact zPF hw
 | true =>
  rw [cnd_true,zBq,zBq,zBq]
  split
  ·exact ⟨_,_,rfl⟩
  ·split
   ·exact ⟨_,_,rfl⟩
   ·split
    ·exact ⟨_,_,rfl⟩
    ·exact zPF hw
theorem zPe {fu:Nat} {n:Int} (h:inI n):zHq fu (Lib.itoa n)=some (n,false):=by
 have:=zPw h.1 h.2
 unfold zHq
 rw [if_pos (by omega),zNV h.1 h.2]
theorem zII {fu:Nat} {f:UInt8} {n:Int} (h:inI n) (hn:f=105\/0<=n):zBr fu (f.toNat:Int) (Lib.itoa n) ()=some (n,true):=by
 unfold zBr
 rw [zPe h,bnd_some]
 show cnd (!false) _ _=_
 rw [Bool.not_false,cnd_true,zLM h,bnd_some]
 rw [show (Lib.itoa (n,false).1==Lib.itoa n)=true from by simp,cnd_true]
 rcases hn with rfl | hn
 ·rfl
 ·cases (f.toNat:Int)==105 with
  | true=>rfl
  | false=>rw [cnd_false];congr 2;simpa using hn
theorem zMJ {n:Int} {w:Bs} {c:UInt8} (hc:c∈w) (h:c.toNat<45\/c.toNat=46\/c.toNat=47\/57<c.toNat):Lib.itoa n≠w:=fun e=>zON (n:=n) h (by rw [e];exact hc)
theorem zPy {n:Int} (hn:0<=n):Lib.itoa n≠[45]:=fun e=>by
 unfold Lib.itoa at e
 rw [if_neg (by omega)] at e
 have:=zFf n.toNat 45 (by rw [e];simp)
 simp at this
theorem zQU {fu:Nat} {f:UInt8} {n:Int} (hf:f=110\/f=111\/f=105) (h:fit f n=true):zBK fu (f.toNat:Int) (numW f n)=some (n,true):=by
 obtain ⟨h1,h2⟩:=zEJ h
 have hi:inI n:=⟨by omega,by omega⟩
 have hs:∀w:Bs,zPL=w\/zOR=w->∃c∈w,57<c.toNat:=fun w hw=>by
  rcases hw with rfl | rfl
  ·exact ⟨115,by decide,by decide⟩
  ·exact ⟨108,by decide,by decide⟩
 unfold zBK
 by_cases hf5:f=105
 ·subst hf5
  show cnd false _ _=_
  rw [cnd_false,numW,if_pos (.inl rfl)]
  exact zII hi (.inl rfl)
 ·have hf5':((f.toNat:Int) != 105)=true:=by rcases hf with rfl | rfl | rfl<;>first | rfl | exact absurd rfl hf5
  rw [hf5',cnd_true,zBq,zBq,zBq]
  by_cases hn:0<=n
  ·have e:numW f n=Lib.itoa n:=if_pos (.inr hn)
   rw [e,if_neg (zPy hn),if_neg (zMJ (c:=115) (by decide) (by decide)),if_neg (zMJ (c:=108) (by decide) (by decide))]
   exact zII hi (.inr hn)
  ·have e:numW f n=if n = -1 then [45] else if n = -2 then zPL else zOR:=if_neg (fun h=>by rcases h with h | h;exact hf5 h;exact hn h)
   have hfit:n = -2\/n = -3\/f=111/\n = -1:=by
    unfold fit at h
    rw [if_neg hf5,if_pos (by rcases hf with h | h | h;exact .inl h;exact .inr h;exact absurd h hf5)] at h
    rcases of_decide_eq_true h with h | h | h | h
    ·exact .inl h
    ·exact .inr (.inl h)
    ·exact absurd h.1 hn
    ·exact .inr (.inr h)
   rcases hfit with rfl | rfl | ⟨rfl,rfl⟩
   ·rw [show numW f (-2)=zPL from e.trans (by decide),if_neg (by decide),if_pos (by decide)]
   ·rw [show numW f (-3)=zOR from e.trans (by decide),if_neg (by decide),if_neg (by decide),if_pos (by decide)]
   ·rw [show numW 111 (-1)=[45] from e.trans (by decide),if_pos rfl];rfl
def unqR (out:Bs):Option (Bs×Bs)->Option (Bs×Bs×Bool)
 | some x=>some (out++x.1,x.2,true)
 | none=>some ([],[],false)
theorem zSS {fu:Nat} {s:Bs} (hs:s.length<=1000000):∀(n i k:Nat) (out:Bs),s.length - i<=n->i<=s.length->out.length<=i->n<k->zBe fu s k ((i:Int),zAP out)=unqR out (unq (s.drop i)):=by
 intro n
 induction n with
 | zero =>
  intro i k out h1 h2 h3 h4
  obtain ⟨k,rfl⟩:∃k',k=k'+1:=⟨k - 1,by omega⟩
  rw [zBe,show decide ((i:Int)<((s.length:Nat):Int))=false from by simp;omega,cnd_false,List.drop_of_length_le (by omega)]
  rfl
 | succ n ih =>
  intro i k out h1 h2 h3 h4
  obtain ⟨k,rfl⟩:∃k',k=k'+1:=⟨k - 1,by omega⟩
  by_cases hi:i<s.length
  ·obtain ⟨b,r,hd⟩:=zN4 hi
   have hb:=zL5 hd
   obtain ⟨_,hd1⟩:=zKB hd
   rw [zBe,show decide ((i:Int)<((s.length:Nat):Int))=true from by simpa using hi,cnd_true,hb]
   simp only [bnd_some]
   rw [show (((b.toNat:Nat):Int)==34)=(b==34) from zF4 b 34,show (((b.toNat:Nat):Int) != 92)=(b != 92) from congrArg (!·) (zF4 b 92)]
   rw [zBq]
   by_cases h34:b=34
   ·rw [if_pos h34,bstr,bnd_some,zBt (by omega),bnd_some,zDS (by omega) (Nat.le_refl _),bnd_some,hd,h34,zLo]
    have:(s.drop (i+1)).take (s.length - (i+1))=r:=by rw [hd1];exact List.take_of_length_le (by rw [<- hd1];simp)
    rw [this]
    simp [unqR]
   ·rw [if_neg h34,zQy]
    by_cases h92:b=92
    ·rw [if_pos h92,zBt (by omega),bnd_some]
     subst h92
     by_cases hi1:i+1<s.length
     ·obtain ⟨c,r',hr⟩:=zN4 hi1
      have hc:=zL5 hr
      obtain ⟨_,hd2⟩:=zKB hr
      obtain rfl:r=c::r':=hd1.symm.trans hr
      rw [show decide (((i+1:Nat):Int)<((s.length:Nat):Int))=true from by rw [decide_eq_true_eq];omega,cnd_true,bnd_some,hc,bnd_some]
      rw [show (((c.toNat:Nat):Int)==34)=(c==34) from zF4 c 34,zBq]
      have hrec:∀(hcc:c=34\/c=92),unqR out (unq (s.drop i))=unqR (out++[c]) (unq (s.drop (i+1+1))):=fun hcc=>by
       rw [hd,zLp hcc,hd2]
       cases unq r'<;>simp [unqR]
      by_cases hc34:c=34
      ·rw [if_pos hc34,bnd_some,hc,bnd_some,zSg (by omega),bnd_some,zBt (by omega),bnd_some,hrec (.inl hc34)]
       exact ih (i+1+1) k (out++[c]) (by omega) (by omega) (by simp;omega) (by omega)
      ·rw [if_neg hc34,bnd_some,hc,bnd_some]
       rw [show (((c.toNat:Nat):Int)==92)=(c==92) from zF4 c 92,zBq]
       by_cases hc92:c=92
       ·rw [if_pos hc92,bnd_some,hc,bnd_some,zSg (by omega),bnd_some,zBt (by omega),bnd_some,hrec (.inr hc92)]
        exact ih (i+1+1) k (out++[c]) (by omega) (by omega) (by simp;omega) (by omega)
       ·rw [if_neg hc92,hd,zI1 (by simp [hc34,hc92])];rfl
     ·rw [show decide (((i+1:Nat):Int)<((s.length:Nat):Int))=false from by rw [decide_eq_false_iff_not];omega,cnd_false]
      have:r=[]:=by rw [<- hd1];exact List.drop_of_length_le (by omega)
      rw [hd,this,zIK];rfl
    ·rw [if_neg h92,zSg (by omega),bnd_some,zBt (by omega),bnd_some]
     have e:unqR out (unq (s.drop i))=unqR (out++[b]) (unq (s.drop (i+1))):=by
      rw [hd,zLq h34 h92,hd1]
      cases unq r<;>simp [unqR]
     rw [e]
     exact ih (i+1) k (out++[b]) (by omega) (by omega) (by simp;omega) (by omega)
  ·rw [zBe,show decide ((i:Int)<((s.length:Nat):Int))=false from by simp;omega,cnd_false,List.drop_of_length_le (by omega)]
   rfl
theorem zPH {fu:Nat} {s:Bs} (hs:s.length<=1000000) (hf:s.length<fu):zA2 fu s=match s with
  | []=>some ([],[],false)
  | b::r=>if b=34 then unqR [] (unq r) else some ([],[],false):=by
 unfold zA2
 cases s with
 | nil=>rw [zPu,bnd_some];rfl
 | cons b r =>
  rw [zOJ,bnd_some]
  by_cases h:b=34
  ·simp only [h,decide_true,Bool.not_true,cnd_false,if_true]
   have:=zSS (fu:=fu) (s:=34::r) (by rw [<- h];exact hs) r.length 1 fu [] (by simp) (by simp) (by simp) (by simp at hf;omega)
   exact this
  ·simp only [h,decide_false,Bool.not_false,cnd_true,if_false]
theorem zSe:∀(t s r:Bs),unq t=some (s,r)->s.length<=t.length/\r.length<=t.length:=fun t s r h=>by
 have:=zLi t.length t s r (Nat.le_refl _) h
 have h2:=zRK s
 rw [this];simp;omega
theorem zKm {fu:Nat} {s:Bs} (hs:s.length<=1000000) (hf:s.length<fu):∃t r b,zA2 fu s=some (t,r,b)/\r.length<=s.length:=by
 rw [zPH hs hf]
 cases s with
 | nil=>exact ⟨_,_,_,rfl,by simp⟩
 | cons b r =>
  by_cases h:b=34
  ·simp only [h,if_true]
   cases hu:unq r with
   | none=>exact ⟨_,_,_,rfl,by simp⟩
   | some x=>exact ⟨_,_,_,rfl,by have:=(zSe _ _ _ hu).2;simp;omega⟩
  ·simp only [h,if_false];exact ⟨_,_,_,rfl,by simp⟩
theorem zKn {fu:Nat} {s r:Bs} (hs:(qS s++r).length<=1000000) (hf:(qS s++r).length<fu):zA2 fu (qS s++r)=some (s,r,true):=by
 rw [zPH hs hf]
 show (if (34:UInt8)=34 then unqR [] (unq (quoL s++[34]++r)) else _)=_
 rw [if_pos rfl,List.append_assoc]
 show unqR [] (unq (quoL s++34::r))=_
 rw [zPT];rfl
def nst (fu:Nat) (f:UInt8) (x:Bs×Bool):Option (Bs×Bool×Int) :=
 if x.2=true/\f≠46 then bnd (zAf fu x.1 [32]) fun r=>bnd (zBK fu (f.toNat:Int) r.1) fun r'=>some (r.2.1,r'.2,r'.1) else some (x.1,x.2,0)
def tst1 (fu:Nat) (f:UInt8) (x:Bs×Bool):Option (Bs×Bool×Bs) :=
 if x.2=true/\f=115 then bnd (zA2 fu x.1) fun r=>bnd (zAO fu r.2.1 [32]) fun p=>cnd p.2 (some (p.1,r.2.2,r.1)) (some (r.2.1,r.2.2,r.1)) else some (x.1,x.2,[])
def tst2 (fu:Nat) (f:UInt8) (x:Bs×Bool):Option (Bs×Bool×Bs) :=
 if x.2=true/\f=115 then bnd (zA2 fu x.1) fun r=>bnd (zAO fu r.2.1 [32]) fun p=>some (r.2.1,r.2.2,r.1) else some (x.1,x.2,[])
theorem zK4 {α β γ : Type} (o:Option α) (f : α -> Option β) (g : β -> Option γ):bnd (bnd o f) g=bnd o fun a=>bnd (f a) g:=by cases o<;>rfl
theorem zRX (b c:UInt8):(((b.toNat:Nat):Int) != ((c.toNat:Nat):Int))=(b != c):=congrArg (!·) (zF4 b c)
theorem zCh {α β : Type} {o:Option α} {f g : α -> Option β} (h:∀a,f a=g a):bnd o f=bnd o g:=by rw [show f=g from funext h]
theorem zOe {β : Type} {fu:Nat} {k:Int} {i:Nat} (hi:i<5) (rest:Bs) (ok:Bool) (J:Bs×Bool×Int->Option β) :
  cnd ok (bnd (chr (fd k) (i:Int)) fun b=>cnd (b != 46) (bnd (zAf fu rest [32]) fun r=>bnd (chr (fd k) (i:Int)) fun b'=>bnd (zBK fu b' r.1) fun r'=>J (r.2.1,r'.2,r'.1)) (J (rest,ok,0))) (J (rest,ok,0))=bnd (nst fu (fc k i) (rest,ok)) J:=by
 unfold nst
 cases ok with
 | false=>rfl
 | true =>
  rw [cnd_true,zEp hi]
  simp only [bnd_some]
  rw [show (((fc k i).toNat:Int) != 46)=(fc k i != 46) from zRX _ 46,zQy]
  by_cases h:fc k i=46
  ·rw [if_pos h,if_neg (by simp [h])];rfl
  ·rw [if_neg h,if_pos ⟨trivial,h⟩]
   simp only [zK4,bnd_some]
theorem zSb {β : Type} {fu:Nat} {k:Int} {i:Nat} (hi:i<5) (rest:Bs) (ok:Bool) (J:Bs×Bool×Bs->Option β) :
  cnd ok (bnd (chr (fd k) (i:Int)) fun b=>cnd (b==115) (bnd (zA2 fu rest) fun r=>bnd (zAO fu r.2.1 [32]) fun p=>cnd p.2 (J (p.1,r.2.2,r.1)) (J (r.2.1,r.2.2,r.1))) (J (rest,ok,[]))) (J (rest,ok,[]))=bnd (tst1 fu (fc k i) (rest,ok)) J:=by
 unfold tst1
 cases ok with
 | false=>rfl
 | true =>
  rw [cnd_true,zEp hi]
  simp only [bnd_some]
  rw [show (((fc k i).toNat:Int)==115)=(fc k i==115) from zF4 _ 115,zBq]
  by_cases h:fc k i=115
  ·rw [if_pos h,if_pos ⟨trivial,h⟩]
   simp only [zK4]
   refine zCh fun a=>zCh fun p=>?_
   cases p.2<;>rfl
  ·rw [if_neg h,if_neg (by simp [h])];rfl
theorem zSc {β : Type} {fu:Nat} {k:Int} {i:Nat} (hi:i<5) (rest:Bs) (ok:Bool) (J:Bs×Bool×Bs->Option β) :
  cnd ok (bnd (chr (fd k) (i:Int)) fun b=>cnd (b==115) (bnd (zA2 fu rest) fun r=>bnd (zAO fu r.2.1 [32]) fun p=>cnd p.2 (J (r.2.1,r.2.2,r.1)) (J (r.2.1,r.2.2,r.1))) (J (rest,ok,[]))) (J (rest,ok,[]))=bnd (tst2 fu (fc k i) (rest,ok)) J:=by
 unfold tst2
 cases ok with
 | false=>rfl
 | true =>
  rw [cnd_true,zEp hi]
  simp only [bnd_some]
  rw [show (((fc k i).toNat:Int)==115)=(fc k i==115) from zF4 _ 115,zBq]
  by_cases h:fc k i=115
  ·rw [if_pos h,if_pos ⟨trivial,h⟩]
   simp only [zK4,bnd_some]
   refine zCh fun a=>zCh fun p=>?_
   cases p.2<;>rfl
  ·rw [if_neg h,if_neg (by simp [h])];rfl
theorem zPB (fu:Nat) (s:Bs):zB2 fu s=bnd (zAO fu s [33]) fun r2=>bnd (zAf fu r2.1 [32]) fun r3=>bnd (zAe fu wordsL r3.1) fun k =>
  bnd (nst fu (fc k 0) (r3.2.1,decide (Knd k))) fun x1=>bnd (nst fu (fc k 1) (x1.1,x1.2.1)) fun x2=>bnd (nst fu (fc k 2) (x2.1,x2.2.1)) fun x3 =>
  bnd (tst1 fu (fc k 3) (x3.1,x3.2.1)) fun y1=>bnd (tst2 fu (fc k 4) (y1.1,y1.2.1)) fun y2=>zCn fu s r2 k x1.2.2 x2.2.2 x3.2.2 (y2.1,y2.2.1,y1.2.2,y2.2.2):=by
 unfold zB2
 refine zCh fun r2=>zCh fun r3=>?_
 rw [zPX,bnd_some]
 refine zCh fun k=>?_
 rw [zOH,bnd_some]
 simp only [zCd,bnd_some]
 refine (zOe (i:=0) (by omega) r3.2.1 (decide (Knd k)) _).trans (zCh fun x1=>?_)
 obtain ⟨a1,b1,c1⟩:=x1
 unfold zEc
 refine (zOe (i:=1) (by omega) a1 b1 _).trans (zCh fun x2=>?_)
 obtain ⟨a2,b2,c2⟩:=x2
 unfold zEd
 refine (zOe (i:=2) (by omega) a2 b2 fun x=>zD9 fu s r2 k (⟨wd k,fd k⟩,decide (Knd k)) (x.1,x.2.1,c1,c2,x.2.2)).trans (zCh fun x3=>?_)
 obtain ⟨a3,b3,c3⟩:=x3
 unfold zD9
 simp only [zCo,bnd_some]
 refine (zSb (i:=3) (by omega) a3 b3 fun x=>zCI fu s r2 k (⟨wd k,fd k⟩,decide (Knd k)) c1 c2 c3 x).trans (zCh fun y1=>?_)
 obtain ⟨a4,b4,c4⟩:=y1
 unfold zCI
 exact zSc (i:=4) (by omega) a4 b4 fun x=>zCn fu s r2 k c1 c2 c3 (x.1,x.2.1,c4,x.2.2)
theorem zLT {fu:Nat} {f:UInt8} {x:Bs×Bool} (h:x.1.length<=1000000):∃y,nst fu f x=some y/\y.1.length<=x.1.length:=by
 unfold nst
 split
 ·obtain ⟨w,r,b,h1,h2,h3⟩:=zNt (fu:=fu) (s:=x.1) 32 (by omega)
  rw [h1,bnd_some]
  obtain ⟨n,b',h4⟩:=zQT (fu:=fu) (f:=(f.toNat:Int)) (w:=w) (by omega)
  rw [h4,bnd_some]
  exact ⟨_,rfl,h3⟩
 ·exact ⟨_,rfl,Nat.le_refl _⟩
theorem zQb {fu:Nat} {f:UInt8} {x:Bs×Bool} (h:x.1.length<=1000000) (hf:x.1.length<fu):∃y,tst1 fu f x=some y/\y.1.length<=x.1.length:=by
 unfold tst1
 split
 ·obtain ⟨t,r,b,h1,h2⟩:=zKm (fu:=fu) h hf
  rw [h1,bnd_some]
  obtain ⟨p,b',h3,h4⟩:=zLZ (fu:=fu) (s:=r) (c:=32) (by omega)
  rw [h3,bnd_some]
  cases b' with
  | true=>exact ⟨_,rfl,by show p.length<=_;omega⟩
  | false=>exact ⟨_,rfl,h2⟩
 ·exact ⟨_,rfl,Nat.le_refl _⟩
theorem zQd {fu:Nat} {f:UInt8} {x:Bs×Bool} (h:x.1.length<=1000000) (hf:x.1.length<fu):∃y,tst2 fu f x=some y:=by
 unfold tst2
 split
 ·obtain ⟨t,r,b,h1,h2⟩:=zKm (fu:=fu) h hf
  rw [h1,bnd_some]
  obtain ⟨p,b',h3,h4⟩:=zLZ (fu:=fu) (s:=r) (c:=32) (by omega)
  rw [h3,bnd_some]
  exact ⟨_,rfl⟩
 ·exact ⟨_,rfl⟩
def op0:Op:=⟨0,0,0,0,[],[],false⟩
theorem zQO {fu:Nat} {s:Bs} (hs:s.length<=1000000) (hf:s.length+30<fu):zB2 fu s=some (op0,2)\/∃o,zB2 fu s=some (o,0)/\RightP o/\putP o=s:=by
 rw [zPB]
 obtain ⟨r,must,h1,h2⟩:=zLZ (fu:=fu) (s:=s) (c:=33) (by omega)
 rw [h1,bnd_some]
 obtain ⟨w,r3,b3,h3,_,h4⟩:=zNt (fu:=fu) (s:=r) 32 (by omega)
 rw [h3,bnd_some]
 obtain ⟨k,hk⟩:∃k,zAe fu wordsL w=some k:=by
  rw [zLL (by simp [wordsL];omega) (by simp [wordsL])]
  split<;>exact ⟨_,rfl⟩
 rw [hk,bnd_some]
 obtain ⟨x1,e1,l1⟩:=zLT (fu:=fu) (f:=fc k 0) (x:=(r3,decide (Knd k))) (by show r3.length<=_;omega)
 simp only at l1
 rw [e1,bnd_some]
 obtain ⟨x2,e2,l2⟩:=zLT (fu:=fu) (f:=fc k 1) (x:=(x1.1,x1.2.1)) (by show x1.1.length<=_;omega)
 simp only at l2
 rw [e2,bnd_some]
 obtain ⟨x3,e3,l3⟩:=zLT (fu:=fu) (f:=fc k 2) (x:=(x2.1,x2.2.1)) (by show x2.1.length<=_;omega)
 simp only at l3
 rw [e3,bnd_some]
 obtain ⟨y1,e4,l4⟩:=zQb (fu:=fu) (f:=fc k 3) (x:=(x3.1,x3.2.1)) (by show x3.1.length<=_;omega) (by show x3.1.length<_;omega)
 simp only at l4
 rw [e4,bnd_some]
 obtain ⟨y2,e5⟩:=zQd (fu:=fu) (f:=fc k 4) (x:=(y1.1,y1.2.1)) (by show y1.1.length<=_;omega) (by show y1.1.length<_;omega)
 rw [e5,bnd_some]
 unfold zCn
 simp only [zSF,bnd_some]
 generalize (⟨k,x1.2.2,x2.2.2,x3.2.2,y1.2.2,y2.2.2,must⟩:Op)=o
 cases y2.2.1 with
 | false=>exact .inl rfl
 | true =>
  simp only [Bool.not_true,cnd_false]
  cases y2.1==([]:Bs) with
  | false=>exact .inl rfl
  | true =>
   simp only [Bool.not_true,cnd_false]
   cases hr:zFV o with
   | false=>exact .inl rfl
   | true =>
    rw [if_pos rfl]
    show cnd ((0:Int) != 0) _ _=_\/∃o',cnd ((0:Int) != 0) _ _=_/\_
    rw [show ((0:Int) != 0)=false from rfl,cnd_false]
    by_cases hp:putP o=s
    ·refine .inr ⟨o,?_,right_iff.1 hr,hp⟩
     rw [show (putP o==s)=true from by simpa using hp];rfl
    ·left
     rw [show (putP o==s)=false from by simpa using hp];rfl
end Go.Proofs.YtoboimmgglnjfaaGreatDoor
/- What op.Read comes to at an operation's own text. -/
namespace Go.Proofs.YtoboimmgglnjfaaGreatDoor
open Go Go.Pw
set_option linter.unusedVariables false
def nxt:List Bs->Bs
 | []=>[]
 | f::l=>f++tl l
theorem zNv {fu:Nat} {f:Bs} {l:List Bs} (hf:(32:UInt8)∉f) (hl:(f++tl l).length<=1000000):∃b,zAf fu (f++tl l) [32]=some (f,nxt l,b):=by
 cases l with
 | nil=>rw [zD1,List.append_nil];exact ⟨false,zNu hf⟩
 | cons g l=>rw [zDf] at hl ⊢;exact ⟨true,zLC hf (by omega)⟩
theorem zOf {f:UInt8} {n:Int} {c:UInt8} (h:c=32\/c=10):c∉numW f n:=by
 have hi:c∉Lib.itoa n:=zON (by rcases h with rfl | rfl<;>decide)
 unfold numW
 split
 ·exact hi
 ·split
  ·rcases h with rfl | rfl<;>decide
  ·split <;> · rcases h with rfl | rfl<;>decide
theorem zLU {fu:Nat} {f:UInt8} {n:Int} {L:List Bs} (hf:f=110\/f=111\/f=105\/f=46) (h:fit f n=true) (hl:(nxt (numL f n++L)).length<=1000000):nst fu f (nxt (numL f n++L),true)=some (nxt L,true,n):=by
 unfold nst
 by_cases h46:f=46
 ·subst h46
  rw [if_neg (by simp)]
  have hn:n=0:=by unfold fit at h;rw [if_neg (by decide),if_neg (by decide)] at h;simpa using h
  rw [hn];rfl
 ·rw [if_pos ⟨rfl,h46⟩]
  have e:numL f n=[numW f n]:=if_neg h46
  rw [e] at hl ⊢
  obtain ⟨b,hb⟩:=zNv (fu:=fu) (f:=numW f n) (l:=L) (zOf (.inl rfl)) hl
  show bnd (zAf fu (numW f n++tl L) [32]) _=_
  rw [hb,bnd_some,zQU (by rcases hf with h | h | h | h;exact .inl h;exact .inr (.inl h);exact .inr (.inr h);exact absurd h h46) h,bnd_some]
theorem zQc {fu:Nat} {f:UInt8} {s:Bs} {L:List Bs} (hf:f=115\/f=46) (h:fitT f s=true) (hl:(nxt (txtL f s++L)).length<=1000000) (hfu:(nxt (txtL f s++L)).length<fu):tst1 fu f (nxt (txtL f s++L),true)=some (nxt L,true,s):=by
 unfold tst1
 rcases hf with rfl | rfl
 ·rw [if_pos ⟨rfl,rfl⟩]
  have e:txtL 115 s=[qS s]:=rfl
  rw [e] at hl hfu ⊢
  have hl':(qS s++tl L).length<=1000000:=hl
  have hfu':(qS s++tl L).length<fu:=hfu
  show bnd (zA2 fu (qS s++tl L)) _=_
  rw [zKn hl' hfu',bnd_some]
  cases L with
  | nil =>
   show bnd (zAO fu [] [32]) _=_
   rw [zLb];rfl
  | cons g L =>
   simp [zDf] at hl'
   show bnd (zAO fu (32::(g++tl L)) [32]) _=_
   rw [zHe (by simp;omega),if_pos rfl];rfl
 ·rw [if_neg (fun e=>absurd e.2 (by decide))]
  have:s=[]:=by simpa [fitT] using h
  subst this;rfl
theorem zQe {fu:Nat} {f:UInt8} {s:Bs} (hf:f=115\/f=46) (h:fitT f s=true) (hl:(nxt (txtL f s)).length<=1000000) (hfu:(nxt (txtL f s)).length<fu):tst2 fu f (nxt (txtL f s),true)=some ([],true,s):=by
 unfold tst2
 rcases hf with rfl | rfl
 ·rw [if_pos ⟨rfl,rfl⟩]
  have e:txtL 115 s=[qS s]:=rfl
  rw [e] at hl hfu ⊢
  show bnd (zA2 fu (qS s++[])) _=_
  rw [zKn (r:=[]) hl hfu,bnd_some]
  show bnd (zAO fu [] [32]) _=_
  rw [zLb];rfl
 ·rw [if_neg (fun e=>absurd e.2 (by decide))]
  have:s=[]:=by simpa [fitT] using h
  subst this;rfl
theorem zSi {k:Int} {c:UInt8} (h:c.toNat<97\/122<c.toNat):c∉wd k\/¬Knd k:=by
 have key:∀j:Fin 29,0<j.1->∀b∈wordsL.getD j.1 [],97<=b.toNat/\b.toNat<=122:=by decide
 by_cases hk:Knd k
 ·left
  rw [wd,if_pos hk]
  intro hm
  have:=key ⟨k.toNat,by unfold Knd at hk;omega⟩ (by unfold Knd at hk;simp;omega) c hm
  omega
 ·exact .inr hk
theorem zLt {k:Int} (hk:Knd k):∃b w,wd k=b::w/\97<=b.toNat/\b.toNat<=122:=by
 have key:∀j:Fin 29,0<j.1->wordsL.getD j.1 []≠[]:=by decide
 have h0:=key ⟨k.toNat,by unfold Knd at hk;omega⟩ (by unfold Knd at hk;simp;omega)
 have e:wd k=wordsL.getD k.toNat []:=if_pos hk
 rw [<- e] at h0
 cases hw:wd k with
 | nil=>exact absurd hw h0
 | cons b w =>
  refine ⟨b,w,rfl,?_⟩
  have:97<=b.toNat/\b.toNat<=122\/¬(97<=b.toNat/\b.toNat<=122):=Decidable.em _
  rcases this with h | h
  ·exact h
  ·rcases zSi (k:=k) (c:=b) (by omega) with h2 | h2
   ·exact absurd (by rw [hw];simp) h2
   ·exact absurd hk h2
theorem zPv {fu:Nat} (hf:30<fu) {k:Int} (hk:Knd k):zAe fu wordsL (wd k)=some k:=by
 rw [zLL (by simp [wordsL];omega) (by simp [wordsL])]
 have key:∀j:Fin 29,((List.range 29).find? fun i=>wordsL.getD j.1 []==wordsL.getD i [])=some j.1:=by decide
 have e:wd k=wordsL.getD k.toNat []:=if_pos hk
 have hj:=key ⟨k.toNat,by unfold Knd at hk;omega⟩
 rw [e]
 show (match (List.range 29).find? fun i=>wordsL.getD k.toNat []==wordsL.getD i [] with | some i=>some (i:Int) | none=>some (-1))=_
 rw [hj]
 show some ((k.toNat:Nat):Int)=some k
 congr 1
 unfold Knd at hk
 omega
theorem zKY:∀(l:List Bs),(nxt l).length<=(tl l).length
 | []=>Nat.le_refl _
 | f::l=>by simp [nxt,zDf]
theorem zJq (l m:List Bs):(tl m).length<=(tl (l++m)).length:=by rw [zKw];simp
theorem zHi {fu:Nat} {o:Op} (h:RightP o) (hf:2000<fu):zB2 fu (putP o)=some (o,0):=by
 have hlen:=zJe h
 obtain ⟨b0,w0,hw,hb1,hb2⟩:=zLt h.kind
 have hl0:(wd o.Kind++tl (zDQ o)).length<=1000:=by
  have:putP o=bang o.Must++(wd o.Kind++tl (zDQ o)):=rfl
  rw [this,List.length_append] at hlen;omega
 have hlt:(tl (zDQ o)).length<=1000:=by simp at hl0;omega
 have m1:(nxt (zDQ o)).length<=1000:=Nat.le_trans (zKY _) hlt
 have m2:(tl (numL (fc o.Kind 1) o.B++(numL (fc o.Kind 2) o.C++zG6 o))).length<=1000:=Nat.le_trans (zJq _ _) hlt
 have m3:(tl (numL (fc o.Kind 2) o.C++zG6 o)).length<=1000:=Nat.le_trans (zJq _ _) m2
 have m4:(tl (zG6 o)).length<=1000:=Nat.le_trans (zJq _ _) m3
 have m5:(tl (txtL (fc o.Kind 4) o.T)).length<=1000:=Nat.le_trans (zJq (txtL (fc o.Kind 3) o.S) _) m4
 have k2:=zKY (numL (fc o.Kind 1) o.B++(numL (fc o.Kind 2) o.C++zG6 o))
 have k3:=zKY (numL (fc o.Kind 2) o.C++zG6 o)
 have k4:=zKY (zG6 o)
 have k5:=zKY (txtL (fc o.Kind 4) o.T)
 rw [zPB]
 have h1:zAO fu (putP o) [33]=some (wd o.Kind++tl (zDQ o),o.Must):=by
  unfold putP bang
  cases o.Must with
  | true =>
   show zAO fu (33::(wd o.Kind++tl (zDQ o))) [33]=_
   rw [zHe (by omega),if_pos rfl]
  | false =>
   rw [if_neg (by decide),List.nil_append]
   rw [hw] at hl0 ⊢
   have hl1:(w0++tl (zDQ o)).length<=1000:=by simp at hl0 ⊢;omega
   show zAO fu (b0::(w0++tl (zDQ o))) [33]=_
   rw [zHe (by omega),if_neg (fun e=>by rw [e] at hb1;simp at hb1)]
   rfl
 rw [h1,bnd_some]
 have hno:(32:UInt8)∉wd o.Kind:=by
  rcases zSi (k:=o.Kind) (c:=32) (.inl (by decide)) with h2 | h2
  ·exact h2
  ·exact absurd h.kind h2
 obtain ⟨b,h2⟩:=zNv (fu:=fu) (l:=zDQ o) hno (by omega)
 rw [h2,bnd_some,zPv (by omega) h.kind,bnd_some,show decide (Knd o.Kind)=true from by simpa using h.kind]
 simp only
 rw [show nxt (zDQ o)=nxt (numL (fc o.Kind 0) o.A++(numL (fc o.Kind 1) o.B++(numL (fc o.Kind 2) o.C++zG6 o))) from rfl] at m1 ⊢
 rw [zLU (zGQ _ (by omega)) h.a (by omega),bnd_some]
 simp only
 rw [zLU (zGQ _ (by omega)) h.b (by omega),bnd_some]
 simp only
 rw [zLU (zGQ _ (by omega)) h.c (by omega),bnd_some]
 simp only
 rw [show nxt (zG6 o)=nxt (txtL (fc o.Kind 3) o.S++txtL (fc o.Kind 4) o.T) from rfl] at k4 ⊢
 rw [zQc (zIZ _ (by omega) (by omega)) h.s (by omega) (by omega),bnd_some]
 simp only
 rw [zQe (zIZ _ (by omega) (by omega)) h.t (by omega) (by omega),bnd_some]
 unfold zCn
 simp only
 have ho:(⟨o.Kind,o.A,o.B,o.C,o.S,o.T,o.Must⟩:Op)=o:=rfl
 rw [ho,zO0 h,bnd_some]
 simp
theorem zQJ {o p:Op} (ho:RightP o) (hp:RightP p) (h:putP o=putP p):o=p:=by
 have h1:=zHi (fu:=2001) ho (by omega)
 rw [h,zHi hp (by omega)] at h1
 cases h1;rfl
theorem zMh {fu:Nat} {s:Bs} (hs:s.length<=1000000) (hf:s.length+3000<fu) :
  (∃o,RightP o/\putP o=s/\zB2 fu s=some (o,0))\/(∀o,RightP o->putP o≠s)/\zB2 fu s=some (op0,2):=by
 rcases zQO hs (by omega:s.length+30<fu) with h | ⟨o,h1,h2,h3⟩
 ·refine .inr ⟨fun o ho e=>?_,h⟩
  rw [<- e,zHi ho (by omega)] at h
  cases h
 ·exact .inl ⟨o,h2,h3,h1⟩
theorem zPD {fu:Nat} {s:Bs} (hs:s.length<=1000000) (hf:s.length+3000<fu) (h:∀o,RightP o->putP o≠s):zB2 fu s=some (op0,2):=by
 rcases zMh hs hf with ⟨o,h1,h2,_⟩ | ⟨_,h1⟩
 ·exact absurd h2 (h o h1)
 ·exact h1
theorem zOz {o:Op} (h:RightP o):(10:UInt8)∉putP o:=by
 have hn:∀(x:UInt8) (n:Int),(10:UInt8)∉tl (numL x n):=fun x n=>by
  unfold numL
  split
  ·simp [zD1]
  ·have:=zOf (f:=x) (n:=n) (c:=10) (.inr rfl)
   simp [zDf,zD1,this]
 have ht:∀(x:UInt8) (s:Bs),(10:UInt8)∉s->(10:UInt8)∉tl (txtL x s):=fun x s hs=>by
  unfold txtL
  split
  ·simp only [zDf,zD1,qS,List.append_nil,List.mem_cons,List.mem_append,List.cons_append]
   rintro (h | h | h | h | h)
   ·cases h
   ·cases h
   ·rcases zO8 h with h | h
    ·cases h
    ·exact hs h
   ·cases h
   ·cases h
  ·simp [zD1]
 have hw:(10:UInt8)∉wd o.Kind:=by
  rcases zSi (k:=o.Kind) (c:=10) (.inl (by decide)) with h2 | h2
  ·exact h2
  ·exact absurd h.kind h2
 have hb:(10:UInt8)∉bang o.Must:=by cases o.Must<;>simp [bang]
 unfold putP zDQ zG6
 simp only [zKw,List.mem_append]
 rintro (h1 | h1 | h1 | h1 | h1 | h1 | h1)
 ·exact hb h1
 ·exact hw h1
 ·exact hn _ _ h1
 ·exact hn _ _ h1
 ·exact hn _ _ h1
 ·exact ht _ _ (zFg h.s).2 h1
 ·exact ht _ _ (zFg h.t).2 h1
theorem zSE {o:Op} (h:RightP o):putP o≠[]:=by
 obtain ⟨b0,w0,hw,_⟩:=zLt h.kind
 unfold putP
 rw [hw]
 cases o.Must<;>simp [bang]
end Go.Proofs.YtoboimmgglnjfaaGreatDoor
/- The reader of scripts: what a line that is a head's does. -/
namespace Go.Proofs.YtoboimmgglnjfaaGreatDoor
open Go Go.Pw
set_option linter.unusedVariables false
def cutS:Bs->Bs×Bs×Bool
 | []=>([],[],false)
 | b::s=>if b=32 then ([],s,true) else (b::(cutS s).1,(cutS s).2.1,(cutS s).2.2)
theorem zGP:∀{w:Bs} (r:Bs),(32:UInt8)∉w->cutS (w++32::r)=(w,r,true)
 | [],r,_=>rfl
 | b::w,r,h=>by
  simp only [List.mem_cons,not_or] at h
  rw [List.cons_append,cutS,if_neg (fun e=>h.1 e.symm),zGP r h.2]
theorem zLB:∀{s:Bs},(32:UInt8)∉s->cutS s=(s,[],false)
 | [],_=>rfl
 | b::s,h=>by
  simp only [List.mem_cons,not_or] at h
  rw [cutS,if_neg (fun e=>h.1 e.symm),zLB h.2]
theorem cut_s {fu:Nat} {s:Bs} (hl:s.length<=1000000000):zAf fu s [32]=some (cutS s):=by
 by_cases h:(32:UInt8)∈s
 ·obtain ⟨w,r,rfl,hw⟩:=zMn h
  rw [zLC hw hl,zGP r hw]
 ·rw [zNu h,zLB h]
def kindsL:List Bs:=[[45],[99,97,109,101],[119,101,110,116],[109,111,118,101,100],[99,104,97,110,103,101,100],[111,119,110,101,100],[98,97,114,114,101,100],[99,108,101,97,114,101,100],[114,101,115,116,111,114,101,100]]
theorem zOQ {fu:Nat}:zCv fu=some kindsL:=by kernel_rfl
def zJP (v:Bs):Int:=match (List.range 9).find? fun i=>v==kindsL.getD i [] with
 | some i=>(i:Int)
 | none => -1
theorem kind_m {fu:Nat} {v:Bs} (hf:10<fu):zAe fu kindsL v=some (zJP v):=by
 rw [zLL (by simp [kindsL];omega) (by simp [kindsL])]
 unfold zJP
 rw [show kindsL.length=9 from rfl]
 cases (List.range 9).find? fun i=>v==kindsL.getD i []<;>rfl
structure Rs where
 k:Nat
 most:Int
 pre:List Class
 act:Bool
 form:Bool
 hpre:List Hook
 hact:Bool
 kind:Int
 wat:List Bs
 pk:List Op
 mak:List Op
 dos:List Op
def Rs.hooks (x:Rs):List Hook:=x.hpre++if x.hact then [(⟨x.kind,x.dos⟩:Hook)] else []
def Rs.cls (x:Rs):List Class:=x.pre++if x.act then [(⟨x.form,x.wat,x.pk,x.mak,x.hooks⟩:Class)] else []
abbrev HOut:=Bool×Nat×Int×(List Class×Bool)×Bool×(List Hook×Bool)×Int×List Bs×List Op×List Op×List Op
def Rs.out (b:Bool) (x:Rs):HOut:=(b,x.k,x.most,(x.pre,x.act),x.form,(x.hpre,x.hact),x.kind,x.wat,x.pk,x.mak,x.dos)
structure Rs.Ok (x:Rs):Prop where
 pre0:x.act=false->x.pre=[]
 hpre0:x.hact=false->x.hpre=[]
 k0:x.act=false->x.k=0
 k3:x.k=3->x.hact=true
 kle:x.k<=3
 most_:x.most=if x.k=0 then 300 else 60
 cls12:x.cls.length<=12
 hooks12:x.hooks.length<=12
 wat12:x.wat.length<=12
 pk60:x.pk.length<=60
 mak60:x.mak.length<=60
 dos60:x.dos.length<=60
theorem zGU (x:Rs):x.hooks.length=x.hpre.length+(if x.hact then 1 else 0):=by unfold Rs.hooks;cases x.hact<;>simp
theorem zEy (x:Rs):x.cls.length=x.pre.length+(if x.act then 1 else 0):=by unfold Rs.cls;cases x.act<;>simp
def zGT (x:Rs) (s:Bs):Option Rs :=
 if s=[109,97,105,110] then some { x with k:=0,most:=300 }
 else if s=[99,108,97,115,115]\/s=[99,108,97,115,115,32,102,111,114,109] then
  (if x.cls.length=12 then none else some ⟨2,60,x.cls,true,(cutS s).2.2,[],false,0,[],[],[],[]⟩)
 else if x.act=false then none
 else if s=[112,101,101,107] then some { x with k:=1,most:=60 }
 else if s=[109,97,107,101] then some { x with k:=2,most:=60 }
 else if (cutS s).1=[119,97,116,99,104] then
  (if (cutS s).2.2=true then (if fitB (cutS s).2.1=true then (if x.wat.length=12 then none else some { x with wat:=x.wat++[(cutS s).2.1] }) else none) else none)
 else if (cutS s).1=[111,110] then
  (if (cutS s).2.2=true then (if zJP (cutS s).2.1<1 then none else if x.hooks.length=12 then none else some { x with k:=3,most:=60,hpre:=x.hooks,hact:=true,kind:=zJP (cutS s).2.1,dos:=[] }) else none)
 else none
def outR (x:Rs):Option Rs->HOut
 | some y=>y.out true
 | none=>x.out false
theorem zQ7 {fu:Nat} {n:Int}:zBW fu n=some (true,n):=rfl
theorem zJM {fu:Nat} {n:Int}:zAT fu n=some (true,n):=rfl
theorem zG7 {l:Nat}:zIM l (((l+1:Nat):Int) - 1)=some ():=by
 unfold zIM
 rw [if_pos (by omega)]
theorem zLl {l:Nat} (h:l<=1000):rng .i64 (((l+1:Nat):Int) - 1)=some (((l+1:Nat):Int) - 1):=zJk (by omega) (by omega)
theorem zOL {fu:Nat} {s:Bs} {x:Rs} (hx:x.Ok):zBh fu x.k x.most (x.pre,x.act) x.form (x.hpre,x.hact) x.kind x.wat x.pk x.mak x.dos (cutS s) ()=some (outR x (if x.cls.length=12 then none else some ⟨2,60,x.cls,true,(cutS s).2.2,[],false,0,[],[],[],[]⟩)):=by
 have hc:=hx.cls12
 have hcl:=zEy x
 unfold zBh
 dsimp only
 simp only [if_true]
 rw [show (x.pre++if x.act then [(⟨x.form,x.wat,x.pk,x.mak,(x.hpre++if x.hact then [(⟨x.kind,x.dos⟩:Hook)] else [])⟩:Class)] else [])=x.cls from rfl,<- hcl,zBq]
 by_cases h:x.cls.length=12
 ·rw [if_pos h,if_pos (by omega)];rfl
 ·rw [if_neg h,if_neg (by omega),zCZ (by omega),bnd_some,zLl (by omega),bnd_some,zG7,bnd_some,zJM,bnd_some]
  rfl
theorem head_m {fu:Nat} {s:Bs} {x:Rs} (hx:x.Ok) (hf:300<fu) (hs:s.length<=1000000) :
  zCG fu s x.k x.most (x.pre,x.act) x.form (x.hpre,x.hact) x.kind x.wat x.pk x.mak x.dos=some (outR x (zGT x s)):=by
 have hc:=hx.cls12
 have hcl:=zEy x
 have hhl:=zGU x
 have hh:=hx.hooks12
 have hw:=hx.wat12
 unfold zCG zGT
 rw [cut_s (by omega),bnd_some,zBq]
 by_cases h1:s=[109,97,105,110]
 ·rw [if_pos h1,if_pos h1,zQ7,bnd_some];rfl
 rw [if_neg h1,if_neg h1,zBq]
 by_cases h2:s=[99,108,97,115,115]
 ·rw [if_pos h2,if_pos (.inl h2),zOL hx]
 rw [if_neg h2,zBq]
 by_cases h3:s=[99,108,97,115,115,32,102,111,114,109]
 ·rw [if_pos h3,if_pos (.inr h3),zOL hx]
 have h23:¬(s=[99,108,97,115,115]\/s=[99,108,97,115,115,32,102,111,114,109]):=fun h=>h.elim h2 h3
 rw [if_neg h3,if_neg h23,zBq]
 dsimp only
 simp only [if_true]
 rw [<- hcl]
 cases ha:x.act with
 | false =>
  have h0:x.cls.length=0:=by rw [hcl,ha,hx.pre0 ha];rfl
  rw [if_pos (show ((x.cls.length:Nat):Int)=0 by omega),if_pos rfl,hx.pre0 ha]
  show some (false,x.k,x.most,(([]:List Class),false),x.form,(x.hpre,x.hact),x.kind,x.wat,x.pk,x.mak,x.dos)=some (x.out false)
  unfold Rs.out
  rw [ha,hx.pre0 ha]
 | true =>
  have e0:x.out false=(false,x.k,x.most,(x.pre,true),x.form,(x.hpre,x.hact),x.kind,x.wat,x.pk,x.mak,x.dos):=by unfold Rs.out;rw [ha]
  rw [ha] at hcl
  simp only [if_true] at hcl
  rw [if_neg (show ¬(((x.cls.length:Nat):Int)=0) by omega),if_neg (show ¬(true=false) by simp)]
  rw [show zHP true=some () from rfl,bnd_some,zLl (by omega),bnd_some,zG7,bnd_some,zBq]
  have e1:∀y,y.act=true->outR x (some y)=(true,y.k,y.most,(y.pre,true),y.form,(y.hpre,y.hact),y.kind,y.wat,y.pk,y.mak,y.dos):=fun y hy=>by show y.out true=_;unfold Rs.out;rw [hy]
  have e2:outR x none=(false,x.k,x.most,(x.pre,true),x.form,(x.hpre,x.hact),x.kind,x.wat,x.pk,x.mak,x.dos):=e0
  by_cases h4:s=[112,101,101,107]
  ·rw [if_pos h4,if_pos h4,zJM,bnd_some,e1 _ rfl]
  rw [if_neg h4,if_neg h4,zBq]
  by_cases h5:s=[109,97,107,101]
  ·rw [if_pos h5,if_pos h5,zJM,bnd_some,e1 _ rfl]
  rw [if_neg h5,if_neg h5,zBq]
  have hj2:zBi fu x.k x.most (x.pre,true) x.form (x.hpre,x.hact) x.kind x.wat x.pk x.mak x.dos (cutS s) ()=some (outR x (if (cutS s).1=[111,110] then
    (if (cutS s).2.2=true then (if zJP (cutS s).2.1<1 then none else if x.hooks.length=12 then none else some { x with k:=3,most:=60,act:=true,hpre:=x.hooks,hact:=true,kind:=zJP (cutS s).2.1,dos:=[] }) else none) else none)):=by
   unfold zBi
   dsimp only
   simp only [if_true]
   rw [zBq]
   by_cases h7:(cutS s).1=[111,110]
   ·rw [if_pos h7,if_pos h7]
    cases h8:(cutS s).2.2 with
    | false=>rw [cnd_false,if_neg (by simp),e2]
    | true =>
     rw [cnd_true,if_pos rfl,zOQ,bnd_some,kind_m (by omega),bnd_some,zC6]
     by_cases h9:zJP (cutS s).2.1<1
     ·rw [if_pos h9,if_pos h9,e2]
     ·rw [if_neg h9,if_neg h9,zBq]
      rw [show (x.hpre++if x.hact then [(⟨x.kind,x.dos⟩:Hook)] else [])=x.hooks from rfl]
      rw [<- hhl]
      by_cases h10:x.hooks.length=12
      ·rw [if_pos (by omega),if_pos h10,e2]
      ·rw [if_neg (by omega),if_neg h10,zCZ (by omega),bnd_some,zLl (by omega),bnd_some,zG7,bnd_some,zJM,bnd_some,e1 _ rfl]
   ·rw [if_neg h7,if_neg h7,e2]
  by_cases h6:(cutS s).1=[119,97,116,99,104]
  ·rw [if_pos h6,if_pos h6]
   cases h8:(cutS s).2.2 with
   | false =>
    rw [cnd_false,if_neg (by simp),hj2,if_neg (by rw [h6];decide)]
   | true =>
    rw [cnd_true,if_pos rfl,zQ5 (by omega),bnd_some]
    unfold fitB
    cases hr:zFz (cutS s).2.1 with
    | false =>
     rw [if_neg (by simp),if_neg (by simp),e2]
     rfl
    | true =>
     rw [if_pos rfl]
     dsimp only
     rw [show ((0:Int) != 0)=false from rfl,cnd_false,zGq,Bool.true_and]
     cases hlw:((cutS s).2.1.map zKV==(cutS s).2.1) with
     | false=>rw [cnd_false,if_neg (by simp),e2]
     | true =>
      rw [cnd_true,if_pos rfl,zBq]
      by_cases h9:x.wat.length=12
      ·rw [if_pos (by omega),if_pos h9,e2]
      ·rw [if_neg (by omega),if_neg h9,zCZ (by simp;omega),bnd_some,e1 _ rfl]
  ·rw [if_neg h6,if_neg h6,hj2]
end Go.Proofs.YtoboimmgglnjfaaGreatDoor
/- The reader of scripts: line by line. -/
namespace Go.Proofs.YtoboimmgglnjfaaGreatDoor
open Go Go.Pw
set_option linter.unusedVariables false
def opR (s:Bs):Op:=match zB2 3000000 s with
 | some r=>r.1
 | none=>op0
theorem opR_m {fu:Nat} {s:Bs} (hs:s.length<=1000000) (hf:s.length+3000<fu):∃e,zB2 fu s=some (opR s,e):=by
 unfold opR
 rcases zMh (fu:=3000000) hs (by omega) with ⟨o,h1,h2,h3⟩ | ⟨h1,h2⟩
 ·rw [h3]
  rcases zMh (fu:=fu) hs hf with ⟨p,g1,g2,g3⟩ | ⟨g1,g2⟩
  ·rw [zQJ h1 g1 (h2.trans g2.symm)];exact ⟨0,g3⟩
  ·exact absurd h2 (g1 o h1)
 ·rw [h2]
  rcases zMh (fu:=fu) hs hf with ⟨p,g1,g2,g3⟩ | ⟨g1,g2⟩
  ·exact absurd g2 (h1 p g1)
  ·exact ⟨2,g2⟩
theorem zR3 {o:Op} (h:RightP o) (hl:(putP o).length<=1000000):opR (putP o)=o:=by
 unfold opR
 rw [zHi h (by omega)]
def zGF (l:Bs):Bs:=l.filter fun b=>b != 10
theorem zHx {t:Bs} (h:(10:UInt8)∉t):zGF t=t:=List.filter_eq_self.2 fun b hb=>by
 have:b≠10:=fun e=>h (e▸hb)
 simpa using this
theorem zQa {fu:Nat} {t:Bs} (hl:t.length<=1000000):zBE fu (t++[10]) [10]=some t:=by
 unfold zBE zA1 zA6
 have e:(((t++[10]:Bs).length:Nat):Int) - ((([10]:Bs).length:Nat):Int)=((t.length:Nat):Int):=by simp
 rw [e,zJk (by omega) (by omega),zBX (by simp;omega),bnd_some,zDS (by simp) (Nat.le_refl _),bnd_some,bnd_some]
 rw [show ((((t++[10]:Bs).drop t.length).take ((t++[10]:Bs).length - t.length))==([10]:Bs))=true from by simp,cnd_true,bnd_some]
 have:=zDS (s:=(t++[10]:Bs)) (i:=0) (j:=t.length) (Nat.zero_le _) (by simp)
 rw [show ((0:Nat):Int)=0 from rfl] at this
 rw [this,bnd_some,bnd_some]
 simp
theorem zSa {fu:Nat} {t:Bs} (hl:t.length<=1000000) (h:(10:UInt8)∉t):zBE fu t [10]=some t:=by
 unfold zBE zA1 zA6
 cases t with
 | nil=>rfl
 | cons b s =>
  have e:(((b::s:Bs).length:Nat):Int) - ((([10]:Bs).length:Nat):Int)=((s.length:Nat):Int):=by simp
  simp only [List.length_cons] at hl
  rw [e,zJk (by omega) (by omega),zBX (by simp;omega),bnd_some,zDS (by simp) (Nat.le_refl _),bnd_some,bnd_some]
  have hne:((((b::s:Bs).drop s.length).take ((b::s:Bs).length - s.length))==([10]:Bs))=false:=by
   rw [beq_eq_false_iff_ne]
   intro he
   have:(10:UInt8)∈((b::s:Bs).drop s.length).take ((b::s:Bs).length - s.length):=by rw [he];simp
   exact h (List.mem_of_mem_drop (List.mem_of_mem_take this))
  rw [hne,cnd_false,bnd_some]
def Line (l:Bs):Prop:=(∃t,l=t++[10]/\(10:UInt8)∉t)\/(l≠[]/\(10:UInt8)∉l)
theorem trim_m {fu:Nat} {l:Bs} (hl:l.length<=1000000) (h:Line l):zBE fu l [10]=some (zGF l):=by
 rcases h with ⟨t,rfl,ht⟩ | ⟨_,ht⟩
 ·rw [zQa (by simp at hl;omega)]
  have:zGF (t++[10])=t:=by
   unfold zGF
   rw [List.filter_append,show t.filter (fun b=>b != 10)=t from zHx ht]
   simp
  rw [this]
 ·rw [zSa hl ht,zHx ht]
theorem zPS (l:Bs):(zGF l).length<=l.length:=List.length_filter_le _ _
theorem zMF {x y:Rs} {s:Bs} (hx:x.Ok) (h:zGT x s=some y):y.Ok:=by
 have hc:=zEy x
 have hh:=zGU x
 have h12:=hx.cls12
 have hh12:=hx.hooks12
 unfold zGT at h
 split at h
 ·cases h
  exact ⟨hx.pre0,hx.hpre0,fun _=>rfl,fun h=>(by cases h),by simp,rfl,h12,hh12,hx.wat12,hx.pk60,hx.mak60,hx.dos60⟩
 split at h
 ·split at h
  ·cases h
  ·rename_i hne
   cases h
   refine ⟨fun h=>(by cases h),fun _=>rfl,fun h=>(by cases h),fun h=>(by cases h),by simp,rfl,?_,by simp [Rs.hooks],by simp,by simp,by simp,by simp⟩
   rw [zEy]
   simp only [if_true]
   omega
 split at h
 ·cases h
 rename_i hact
 have ha:x.act=true:=by cases e:x.act<;>simp_all
 split at h
 ·cases h
  exact ⟨hx.pre0,hx.hpre0,fun h=>absurd (ha.symm.trans h) (by simp),fun h=>(by cases h),by simp,rfl,h12,hh12,hx.wat12,hx.pk60,hx.mak60,hx.dos60⟩
 split at h
 ·cases h
  exact ⟨hx.pre0,hx.hpre0,fun h=>absurd (ha.symm.trans h) (by simp),fun h=>(by cases h),by simp,rfl,h12,hh12,hx.wat12,hx.pk60,hx.mak60,hx.dos60⟩
 split at h
 ·split at h
  ·split at h
   ·split at h
    ·cases h
    ·rename_i hw
     cases h
     refine ⟨hx.pre0,hx.hpre0,hx.k0,hx.k3,hx.kle,hx.most_,?_,hh12,?_,hx.pk60,hx.mak60,hx.dos60⟩
     ·rw [zEy] at h12 ⊢;exact h12
     ·have:=hx.wat12
      simp only [List.length_append,List.length_cons,List.length_nil]
      omega
   ·cases h
  ·cases h
 split at h
 ·split at h
  ·split at h
   ·cases h
   ·split at h
    ·cases h
    ·rename_i hne
     cases h
     refine ⟨hx.pre0,fun h=>(by cases h),fun h=>absurd (ha.symm.trans h) (by simp),fun _=>rfl,by simp,rfl,?_,?_,hx.wat12,hx.pk60,hx.mak60,by simp⟩
     ·rw [zEy] at h12 ⊢;exact h12
     ·rw [zGU]
      simp only [if_true]
      omega
  ·cases h
 ·cases h
def zEN (x:Rs×List Op) (s:Bs):Option (Rs×List Op) :=
 if s=[] then some x else match zGT x.1 s with
 | some y=>some (y,x.2)
 | none=>match x.1.k with
  | 0=>if x.2.length=300 then none else some (x.1,x.2++[opR s])
  | 1=>if x.1.pk.length=60 then none else some ({ x.1 with pk:=x.1.pk++[opR s] },x.2)
  | 2=>if x.1.mak.length=60 then none else some ({ x.1 with mak:=x.1.mak++[opR s] },x.2)
  | _=>if x.1.dos.length=60 then none else some ({ x.1 with dos:=x.1.dos++[opR s] },x.2)
def zM4:List Bs->Rs×List Op->Option (Rs×List Op)
 | [],x=>some x
 | l::ls,x=>match zEN x (zGF l) with
  | some y=>zM4 ls y
  | none=>none
def finR:Option (Rs×List Op)->Script×Int
 | some x=>(⟨x.1.cls,x.2⟩,0)
 | none=>(⟨[],[]⟩,3)
theorem zQX {x y:Rs×List Op} {s:Bs} (hx:x.1.Ok) (hm:x.2.length<=300) (h:zEN x s=some y):y.1.Ok/\y.2.length<=300:=by
 unfold zEN at h
 split at h
 ·cases h;exact ⟨hx,hm⟩
 split at h
 ·rename_i z hz
  cases h;exact ⟨zMF hx hz,hm⟩
 ·split at h
  ·split at h
   ·cases h
   ·cases h
    exact ⟨hx,by simp only [List.length_append,List.length_cons,List.length_nil];omega⟩
  ·split at h
   ·cases h
   ·rename_i hk hne
    cases h
    refine ⟨⟨hx.pre0,hx.hpre0,hx.k0,hx.k3,hx.kle,hx.most_,?_,hx.hooks12,hx.wat12,?_,hx.mak60,hx.dos60⟩,hm⟩
    ·have:=hx.cls12
     rw [zEy] at this ⊢;exact this
    ·have:=hx.pk60
     simp only [List.length_append,List.length_cons,List.length_nil];omega
  ·split at h
   ·cases h
   ·rename_i hk hne
    cases h
    refine ⟨⟨hx.pre0,hx.hpre0,hx.k0,hx.k3,hx.kle,hx.most_,?_,hx.hooks12,hx.wat12,hx.pk60,?_,hx.dos60⟩,hm⟩
    ·have:=hx.cls12
     rw [zEy] at this ⊢;exact this
    ·have:=hx.mak60
     simp only [List.length_append,List.length_cons,List.length_nil];omega
  ·split at h
   ·cases h
   ·rename_i hk hne
    cases h
    refine ⟨⟨hx.pre0,hx.hpre0,hx.k0,hx.k3,hx.kle,hx.most_,?_,?_,hx.wat12,hx.pk60,hx.mak60,?_⟩,hm⟩
    ·have:=hx.cls12
     rw [zEy] at this ⊢;exact this
    ·have:=hx.hooks12
     rw [zGU] at this ⊢;exact this
    ·have:=hx.dos60
     simp only [List.length_append,List.length_cons,List.length_nil];omega
theorem zPC {fu:Nat} (hf:30000<fu):∀(ls:List Bs) (x:Rs) (m:List Op),x.Ok->m.length<=300->(∀l∈ls,Line l/\l.length<=20000) ->
  zBL fu ls (x.k,x.most,(x.pre,x.act),x.form,x.wat,x.pk,x.mak,(x.hpre,x.hact),x.kind,x.dos,m)=some (finR (zM4 ls (x,m)))
 | [],x,m,hx,hm,hl=>rfl
 | l::ls,x,m,hx,hm,hl=>by
  obtain ⟨h1,h2⟩:=hl l (by simp)
  have hls:∀l∈ls,Line l/\l.length<=20000:=fun l hl'=>hl l (by simp [hl'])
  have ht:=zPS l
  have ih:=fun (y:Rs) (m':List Op) (hy:y.Ok) (hm':m'.length<=300)=>zPC hf ls y m' hy hm' hls
  rw [zBL,trim_m (by omega) h1,bnd_some,zBq,zM4]
  have hso:=fun y=>zQX (y:=y) (s:=zGF l) (x:=(x,m)) hx hm
  unfold zEN at hso ⊢
  by_cases h0:zGF l=[]
  ·rw [if_pos h0,if_pos h0]
   exact ih x m hx hm
  rw [if_neg h0] at hso
  rw [if_neg h0,if_neg h0,head_m hx (by omega) (by omega),bnd_some]
  dsimp only at hso ⊢
  cases hh:zGT x (zGF l) with
  | some y =>
   show cnd true (zBL fu ls (y.k,y.most,(y.pre,y.act),y.form,y.wat,y.pk,y.mak,(y.hpre,y.hact),y.kind,y.dos,m)) _=_
   rw [cnd_true]
   exact ih y m (zMF hx hh) hm
  | none =>
   rw [hh] at hso
   obtain ⟨e,he⟩:=opR_m (fu:=fu) (s:=zGF l) (by omega) (by omega)
   rw [show outR x none=(false,x.k,x.most,(x.pre,x.act),x.form,(x.hpre,x.hact),x.kind,x.wat,x.pk,x.mak,x.dos) from rfl]
   dsimp only
   rw [cnd_false]
   have hmo:=hx.most_
   dsimp only at hso ⊢
   match hk:x.k,hx.kle with
   | 0,_ =>
    rw [hk] at hmo hso
    simp only [if_true] at hmo
    try dsimp only at hso
    show cnd (((m.length:Nat):Int)==x.most) _ _=_
    rw [hmo,zBq]
    by_cases h3:m.length=300
    ·rw [if_pos (by omega),if_pos h3];rfl
    ·rw [if_neg (by omega),if_neg h3,he,bnd_some,zCZ (by simp;omega),bnd_some]
     have:=ih x (m++[opR (zGF l)]) hx (by simp;omega)
     rw [hk,hmo] at this
     exact this
   | 1,_ =>
    rw [hk] at hmo hso
    simp only [show ¬(1=0) by decide,if_false] at hmo
    try dsimp only at hso
    have hact:x.act=true:=by
     cases ha:x.act with
     | true=>rfl
     | false=>have:=hx.k0 ha;omega
    show bnd (zHP x.act) (fun _=>cnd (((x.pk.length:Nat):Int)==x.most) _ _)=_
    rw [hact,show zHP true=some () from rfl,bnd_some,hmo,zBq]
    by_cases h3:x.pk.length=60
    ·rw [if_pos (by omega),if_pos h3];rfl
    ·have hp:=hx.pk60
     rw [if_neg (by omega),if_neg h3,he,bnd_some,zCZ (by simp;omega),bnd_some]
     have hy:=(hso _ (if_neg h3)).1
     have:=ih _ m hy hm
     dsimp only at this
     rw [hmo,hact] at this
     exact this
   | 2,_ =>
    rw [hk] at hmo hso
    simp only [show ¬(2=0) by decide,if_false] at hmo
    try dsimp only at hso
    have hact:x.act=true:=by
     cases ha:x.act with
     | true=>rfl
     | false=>have:=hx.k0 ha;omega
    show bnd (zHP x.act) (fun _=>cnd (((x.mak.length:Nat):Int)==x.most) _ _)=_
    rw [hact,show zHP true=some () from rfl,bnd_some,hmo,zBq]
    by_cases h3:x.mak.length=60
    ·rw [if_pos (by omega),if_pos h3];rfl
    ·have hp:=hx.mak60
     rw [if_neg (by omega),if_neg h3,he,bnd_some,zCZ (by simp;omega),bnd_some]
     have hy:=(hso _ (if_neg h3)).1
     have:=ih _ m hy hm
     dsimp only at this
     rw [hmo,hact] at this
     exact this
   | 3,_ =>
    rw [hk] at hmo hso
    simp only [show ¬(3=0) by decide,if_false] at hmo
    try dsimp only at hso
    have hact:x.hact=true:=hx.k3 hk
    show bnd (zHP x.hact) (fun _=>cnd (((x.dos.length:Nat):Int)==x.most) _ _)=_
    rw [hact,show zHP true=some () from rfl,bnd_some,hmo,zBq]
    by_cases h3:x.dos.length=60
    ·rw [if_pos (by omega),if_pos h3];rfl
    ·have hp:=hx.dos60
     rw [if_neg (by omega),if_neg h3,he,bnd_some,zCZ (by simp;omega),bnd_some]
     have hy:=(hso _ (if_neg h3)).1
     have:=ih _ m hy hm
     dsimp only at this
     rw [hmo,hact] at this
     exact this
def rs0:Rs:=⟨0,300,[],false,false,[],false,0,[],[],[],[]⟩
theorem rs0_ok:rs0.Ok:=⟨fun _=>rfl,fun _=>rfl,fun _=>rfl,fun h=>(by cases h),by decide,rfl,by decide,by decide,by decide,by decide,by decide,by decide⟩
def zLj (s:Bs):Script×Int:=if s.length>16384 then (⟨[],[]⟩,3) else finR (zM4 (zBj s) (rs0,[]))
theorem zLm {fu:Nat} (hf:30000<fu) (s:Bs):zCR fu s=some (zLj s):=by
 unfold zCR zLj
 rw [zC6]
 by_cases h:s.length>16384
 ·rw [if_pos (by omega),if_pos h]
 ·rw [if_neg (by omega),if_neg h,zQ7,bnd_some,show fits s=some () from if_pos (by omega),bnd_some]
  exact zPC hf (zBj s) rs0 [] rs0_ok (by simp) fun l hl=>⟨zFP s l hl,by have:=zH8 hl;omega⟩
end Go.Proofs.YtoboimmgglnjfaaGreatDoor
/- Scripts: who is allowed, and the text that is put. -/
namespace Go.Proofs.YtoboimmgglnjfaaGreatDoor
open Go Go.Pw
set_option linter.unusedVariables false
theorem eqO (x y:Op):eqOp x y=decide (x=y):=by
 rw [Bool.eq_iff_iff,decide_eq_true_eq]
 obtain ⟨a1,a2,a3,a4,a5,a6,a7⟩:=x
 obtain ⟨b1,b2,b3,b4,b5,b6,b7⟩:=y
 simp [eqOp]
def okOp (o:Op):Bool:=decide (o=op0)||zFV o
theorem odd_m (fu:Nat) (o:Op):zCe fu o=some (!okOp o):=by
 unfold zCe okOp
 rw [eqO,zGq,zC6]
 show (if o=op0 then some false else bnd (zEA fu o) fun r2=>some (!r2))=_
 by_cases h:o=op0
 ·rw [if_pos h,decide_eq_true h];rfl
 ·rw [if_neg h,decide_eq_false h,zPE,bnd_some,Bool.false_or]
theorem hasOp {fu:Nat} {t:Op->Option Bool} {p:Op->Bool} {l:List Op} (ht:∀x∈l,t x=some (p x)) (hf:l.length<fu) (hb:l.length<=1000000):zBP fu t l=some (l.any p):=by
 unfold zBP zCK
 obtain ⟨r,h1,h2⟩:=zHj (L:=zAw t l) l p (fun i hi k=>by
  simp only [zAw]
  rw [zBX (by simpa using hi),zCy hi,bnd_some,ht _ (List.getElem_mem hi),bnd_some,zBt (by omega),bnd_some]
  cases p l[i]<;>rfl) (fun k=>by simp only [zAw];rw [zAt (by simp)]) hf
 rw [h1,bnd_some,h2]
theorem zRp {fu:Nat} {t:Hook->Option Bool} {p:Hook->Bool} {l:List Hook} (ht:∀x∈l,t x=some (p x)) (hf:l.length<fu) (hb:l.length<=1000000):zBN fu t l=some (l.any p):=by
 unfold zBN zB6
 obtain ⟨r,h1,h2⟩:=zHj (L:=zAl t l) l p (fun i hi k=>by
  simp only [zAl]
  rw [zBX (by simpa using hi),zCy hi,bnd_some,ht _ (List.getElem_mem hi),bnd_some,zBt (by omega),bnd_some]
  cases p l[i]<;>rfl) (fun k=>by simp only [zAl];rw [zAt (by simp)]) hf
 rw [h1,bnd_some,h2]
theorem zPt {fu:Nat} {t:Class->Option Bool} {p:Class->Bool} {l:List Class} (ht:∀x∈l,t x=some (p x)) (hf:l.length<fu) (hb:l.length<=1000000):zBG fu t l=some (l.any p):=by
 unfold zBG zB3
 obtain ⟨r,h1,h2⟩:=zHj (L:=zAi t l) l p (fun i hi k=>by
  simp only [zAi]
  rw [zBX (by simpa using hi),zCy hi,bnd_some,ht _ (List.getElem_mem hi),bnd_some,zBt (by omega),bnd_some]
  cases p l[i]<;>rfl) (fun k=>by simp only [zAi];rw [zAt (by simp)]) hf
 rw [h1,bnd_some,h2]
theorem hasStr {fu:Nat} {t:Bs->Option Bool} {p:Bs->Bool} {l:List Bs} (ht:∀x∈l,t x=some (p x)) (hf:l.length<fu) (hb:l.length<=1000000):zBO fu t l=some (l.any p):=by
 unfold zBO zCE
 obtain ⟨r,h1,h2⟩:=zHj (L:=zAq t l) l p (fun i hi k=>by
  simp only [zAq]
  rw [zBX (by simpa using hi),zCy hi,bnd_some,ht _ (List.getElem_mem hi),bnd_some,zBt (by omega),bnd_some]
  cases p l[i]<;>rfl) (fun k=>by simp only [zAq];rw [zAt (by simp)]) hf
 rw [h1,bnd_some,h2]
theorem zI8 {α : Type} (l:List α) (p : α -> Bool):(!(l.any fun x => !p x))=l.all p:=by induction l<;>simp_all
theorem zPc {α : Type} (l:List α) (p : α -> Bool):(l.any fun x => !p x) = !(l.all p):=by rw [<- zI8,Bool.not_not]
def hokB (h:Hook):Bool:=decide (1<=h.Kind)&&(decide (h.Kind<=8)&&decide (h.Do.length<=60))
def clsB (c:Class):Bool:=decide (c.Watch.length<=12)&&(c.Watch.all fitB&&(decide (c.Hooks.length<=12)&&(c.Hooks.all hokB&&(decide (c.Peek.length<=60)&&decide (c.Make.length<=60)))))
theorem zHz (n:Nat) (m:Nat):decide (((n:Nat):Int)>(m:Int)) = !decide (n<=m):=by
 by_cases h:n<=m
 ·rw [decide_eq_true h,decide_eq_false (by omega)];rfl
 ·rw [decide_eq_false h,decide_eq_true (by omega)];rfl
theorem zRu (n:Nat) (m:Nat):decide (((n:Nat):Int)<=(m:Int))=decide (n<=m):=by
 rw [Bool.eq_iff_iff,decide_eq_true_eq,decide_eq_true_eq];omega
theorem zOX (fu:Nat) (l:List Op):zDl fu l=some (!decide (l.length<=60)):=congrArg some (zHz l.length 60)
theorem zSk {fu:Nat} (hf:300<fu) (s:Bs):zBb fu s=some (!fitB s):=by
 unfold zBb fitB
 rw [zQ5 (by omega),bnd_some]
 cases zFz s with
 | false=>rfl
 | true =>
  rw [if_pos rfl,Bool.true_and]
  rfl
theorem zSj (fu:Nat) (h:Hook):zBc fu h=some (!hokB h):=by
 unfold zBc hokB
 rw [zOX,bnd_some,zC6,zC6]
 by_cases h1:h.Kind<1
 ·rw [if_pos h1,decide_eq_false (by omega)];rfl
 ·rw [if_neg h1,decide_eq_true (show 1<=h.Kind by omega),Bool.true_and]
  by_cases h2:h.Kind>8
  ·rw [if_pos h2,decide_eq_false (by omega)];rfl
  ·rw [if_neg h2,decide_eq_true (show h.Kind<=8 by omega),Bool.true_and]
theorem zSl {fu:Nat} (hf:300<fu) (c:Class):zDK fu c=some (clsB c):=by
 unfold zDK clsB
 rw [show decide (((c.Watch.length:Nat):Int)<=12)=decide (c.Watch.length<=12) from zRu _ 12,show decide (((c.Hooks.length:Nat):Int)<=12)=decide (c.Hooks.length<=12) from zRu _ 12]
 by_cases h1:c.Watch.length<=12
 ·rw [decide_eq_true h1,cnd_true,hasStr (p:=fun s => !fitB s) (fun s _=>zSk hf s) (by omega) (by omega),bnd_some,zI8,Bool.true_and]
  cases c.Watch.all fitB with
  | false=>rfl
  | true =>
   rw [cnd_true,Bool.true_and]
   by_cases h2:c.Hooks.length<=12
   ·rw [decide_eq_true h2,cnd_true,zRp (p:=fun h => !hokB h) (fun h _=>zSj fu h) (by omega) (by omega),bnd_some,zI8,Bool.true_and]
    cases c.Hooks.all hokB with
    | false=>rfl
    | true =>
     rw [cnd_true,zOX,bnd_some,Bool.not_not,Bool.true_and,zOX,bnd_some]
     cases decide (c.Peek.length<=60)<;>simp
   ·rw [decide_eq_false h2];rfl
 ·rw [decide_eq_false h1];rfl
def okPr (y:zMt):Bool:=decide ((y.1.length:Int)<=y.2)&&y.1.all okOp
def zDx (s:Script):Bool:=(zAs s).all okPr&&(decide (s.Classes.length<=12)&&s.Classes.all clsB)
theorem zNH (s:Script):∀y∈zAs s,y.2<=300:=by
 intro y hy
 simp only [zAs,List.mem_append,List.mem_flatMap,zIG,List.mem_cons,List.mem_map,List.not_mem_nil,or_false] at hy
 rcases hy with ⟨c,_,rfl | rfl | ⟨h,_,rfl⟩⟩ | rfl<;>simp
theorem zJx {fu:Nat} (hf:1000<fu) (s:Script):∀ys:List zMt,(∀y∈ys,y.2<=300)->zB0 fu s ys ()=some (ys.all okPr&&(decide (s.Classes.length<=12)&&s.Classes.all clsB))
 | [],_=>by
  rw [zB0,show decide (((s.Classes.length:Nat):Int)<=12)=decide (s.Classes.length<=12) from zRu _ 12,List.all_nil,Bool.true_and]
  by_cases h:s.Classes.length<=12
  ·rw [decide_eq_true h,cnd_true,zPt (p:=fun c => !clsB c) (fun c _=>?_) (by omega) (by omega),bnd_some,zI8,Bool.true_and]
   unfold zBp
   rw [zSl (by omega),bnd_some]
  ·rw [decide_eq_false h];rfl
 | y::ys,hy=>by
  have h3:=hy y (by simp)
  rw [zB0,List.all_cons,zC6]
  unfold okPr
  by_cases h:((y.1.length:Nat):Int)>y.2
  ·rw [if_pos h,decide_eq_false (by omega)];rfl
  ·rw [if_neg h,decide_eq_true (show (y.1.length:Int)<=y.2 by omega),hasOp (p:=fun o => !okOp o) (fun o _=>odd_m fu o) (by omega) (by omega),bnd_some,zPc,Bool.true_and]
   cases y.1.all okOp with
   | false=>rfl
   | true =>
    show cnd false _ _=_
    rw [cnd_false,zJx hf s ys fun z hz=>hy z (by simp [hz]),Bool.true_and]
    rfl
theorem zJy {fu:Nat} (hf:1000<fu) (s:Script):zCS fu s=some (zDx s):=zJx hf s _ (zNH s)
end Go.Proofs.YtoboimmgglnjfaaGreatDoor
/- Scripts: the text that is put. -/
namespace Go.Proofs.YtoboimmgglnjfaaGreatDoor
open Go Go.Pw
set_option linter.unusedVariables false
set_option maxRecDepth 4000
def zFD (o:Op):Bs:=if zFV o=true then putP o else [63]
def opL (o:Op):Bs:=zFD o++[10]
def opsT (h:Bs) (l:List Op):Bs:=(if l=[]\/h=[] then [] else h++[10])++l.flatMap opL
def zI4 (w:Bs):Bs:=([119,97,116,99,104]:Bs)++32::w++[10]
def zJN (h:Hook):Bs:=([111,110]:Bs)++32::kindsL.getD h.Kind.toNat []++[10]++opsT [] h.Do
def clsH (c:Class):Bs:=(if c.Form then ([99,108,97,115,115]:Bs)++32::([102,111,114,109]:Bs) else ([99,108,97,115,115]:Bs))++[10]
def clsT (c:Class):Bs:=clsH c++(c.Watch.flatMap zI4++(opsT ([112,101,101,107]:Bs) c.Peek++(opsT ([109,97,107,101]:Bs) c.Make++c.Hooks.flatMap zJN)))
def putR (s:Script):Bs:=s.Classes.flatMap clsT++opsT ([109,97,105,110]:Bs) s.Main
theorem zKi (o:Op):(zFD o).length<=1000:=by
 unfold zFD
 split
 ·rename_i h;exact zJe (right_iff.1 h)
 ·simp
theorem zE0 {α : Type} (f : α -> Bs) (n:Nat):∀(l:List α),(∀x∈l,(f x).length<=n)->(l.flatMap f).length<=l.length*n
 | [],_=>by simp
 | x::l,h=>by
  have:=zE0 f n l fun y hy=>h y (by simp [hy])
  have h1:=h x (by simp)
  simp only [List.flatMap_cons,List.length_append,List.length_cons,Nat.succ_mul]
  omega
theorem zE4 (h:Bs) (l:List Op):(opsT h l).length<=h.length+1+l.length*1001:=by
 have:=zE0 opL 1001 l fun o _=>by unfold opL;have:=zKi o;simp;omega
 unfold opsT
 rw [List.length_append]
 split<;>simp only [List.length_nil,List.length_append,List.length_cons]<;>omega
theorem zPz (a b s:Bs):Lib.join [a,b] s=a++(s++b):=by simp [Lib.join,List.intercalate]
theorem zQ9 {fu:Nat} {ws:List Bs} {t:Bs} (h0:ws≠[]) (hn:ws.length<=100) (hj:(Lib.join ws [32]).length<=100000) (ht:t.length<=900000000):zAR fu ws (zAP t)=some (zAP (t++(Lib.join ws [32]++[10]))):=by
 unfold zAR zKP
 rw [if_pos ⟨h0,by omega,by omega⟩,bnd_some,wstr (by omega),bnd_some,wstr (by simp;omega),bnd_some,List.append_assoc]
theorem zLN {fu:Nat} {w t:Bs} (hj:w.length<=100000) (ht:t.length<=900000000):zAR fu [w] (zAP t)=some (zAP (t++(w++[10]))):=by
 have h:Lib.join [w] [32]=w:=Lib.join_one _ _
 rw [zQ9 (by simp) (by simp) (by rw [h];exact hj) ht,h]
theorem zLO {fu:Nat} {v w t:Bs} (hv:v.length<=100) (hj:w.length<=1000) (ht:t.length<=900000000):zAR fu [v,w] (zAP t)=some (zAP (t++(v++32::w++[10]))):=by
 have h:Lib.join [v,w] [32]=v++32::w:=zPz _ _ _
 rw [zQ9 (by simp) (by simp) (by rw [h];simp;omega) ht,h]
theorem zRD {fu:Nat} {l:List Op}:∀(j i k:Nat) (t:Bs),i+j=l.length->j<k->l.length<=100000->t.length+j*2000<=800000000->zAd fu l k ((i:Int),zAP t)=some (zAP (t++(l.drop i).flatMap opL))
 | 0,i,k+1,t,hi,hk,hl,ht=>by
  rw [zAd,zAt (by simp;omega),List.drop_of_length_le (by omega)]
  simp
 | j+1,i,k+1,t,hi,hk,hl,ht=>by
  have hlt:i<l.length:=by omega
  rw [zAd,zBX (by simpa using hlt),zCy hlt,bnd_some,zSF,bnd_some]
  have hp:=zKi l[i]
  have e:∀w:Bs,w=zFD l[i]->bnd (zAR fu [w] (zAP t)) (fun r10=>bnd (rng .i64 ((i:Int)+1)) fun i12=>zAd fu l k (i12,r10))=some (zAP (t++(l.drop i).flatMap opL)):=fun w hw=>by
   subst hw
   rw [zLN (by omega) (by omega),bnd_some,zBt (by omega),bnd_some,zRD j (i+1) k _ (by omega) (by omega) hl (by simp;omega),List.drop_eq_getElem_cons hlt,List.flatMap_cons]
   simp [opL]
  unfold zFD at e
  by_cases hr:zFV l[i]=true
  ·rw [if_pos hr] at e ⊢
   show cnd ((0:Int) != 0) _ _=_
   rw [show ((0:Int) != 0)=false from rfl,cnd_false]
   exact e _ rfl
  ·rw [if_neg hr] at e ⊢
   show cnd ((1:Int) != 0) _ _=_
   rw [show ((1:Int) != 0)=true from rfl,cnd_true]
   exact e _ rfl
theorem zMY {fu:Nat} {h:Bs} {l:List Op} {t:Bs} (hf:l.length<fu) (hh:h.length<=1000) (hl:l.length<=1000) (ht:t.length<=700000000):zBD fu h l (zAP t)=some (zAP (t++opsT h l)):=by
 unfold zBD zBg opsT
 have key:∀t:Bs,t.length<=750000000->zAd fu l fu (0,zAP t)=some (zAP (t++l.flatMap opL)):=fun t ht=>zRD l.length 0 fu t (by omega) hf (by omega) (by omega)
 cases l with
 | nil =>
  rw [zAt (by simp),key t (by omega)]
  simp
 | cons o l =>
  rw [zBX (by simp),zGq,zBq]
  by_cases h0:h=[]
  ·rw [if_pos h0,key t (by omega),if_pos (.inr h0)];rfl
  ·rw [if_neg h0,zLN (by omega) (by omega),bnd_some,key _ (by simp;omega),if_neg (by simp [h0])]
   simp
theorem zKQ (i:Nat):(kindsL.getD i []).length<=8:=by
 rcases Nat.lt_or_ge i 9 with h | h
 ·have:∀j:Fin 9,(kindsL.getD j []).length<=8:=by decide
  exact this ⟨i,h⟩
 ·rw [List.getD_eq_getElem?_getD,List.getElem?_eq_none (by simpa [kindsL] using h)];simp
theorem zP3 {k:Int} (h1:1<=k) (h2:k<=8):idx kindsL k=some (kindsL.getD k.toNat []):=by
 have e:k=((k.toNat:Nat):Int):=by omega
 rw [e,zCy (by simp [kindsL];omega)]
 simp only [Int.toNat_natCast]
 rw [List.getD_eq_getElem?_getD,List.getElem?_eq_getElem (by simp [kindsL];omega)]
 rfl
theorem zRI {fu:Nat} {t3:Int} {c:Class} {rc:Int×List Int->Option (Bs×Int)} (hf:1000<fu) (hc:clsB c=true) (hp:100<fu):∀(j i k:Nat) (t:Bs),i+j=c.Hooks.length->j<k->t.length+j*70000<=600000000 ->
  zCq fu t3 c rc k ((i:Int),zAP t)=bnd (rng .i64 (t3+1)) fun i24=>rc (i24,zAP (t++(c.Hooks.drop i).flatMap zJN))
 | 0,i,k+1,t,hi,hk,ht=>by
  rw [zCq,zAt (by simp;omega),List.drop_of_length_le (by omega)]
  simp
 | j+1,i,k+1,t,hi,hk,ht=>by
  have hlt:i<c.Hooks.length:=by omega
  simp only [clsB,Bool.and_eq_true,decide_eq_true_eq] at hc
  have hh:=List.all_eq_true.1 hc.2.2.2.1 c.Hooks[i] (List.getElem_mem hlt)
  simp only [hokB,Bool.and_eq_true,decide_eq_true_eq] at hh
  rw [zCq,zBX (by simpa using hlt),zCy hlt,bnd_some,zOQ,bnd_some,zP3 hh.1 hh.2.1,bnd_some]
  have hk8:=zKQ c.Hooks[i].Kind.toNat
  have hol:=zE4 [] c.Hooks[i].Do
  simp only [List.length_nil] at hol
  rw [zLO (by simp) (by omega) (by omega),bnd_some,zMY (by omega) (by simp) (by omega) (by simp only [List.length_append,List.length_cons,List.length_nil];omega),bnd_some,zBt (by omega),bnd_some,
   zRI hf (by simp only [clsB,Bool.and_eq_true,decide_eq_true_eq];exact hc) hp j (i+1) k _ (by omega) (by omega) (by simp only [List.length_append,List.length_cons,List.length_nil];omega),List.drop_eq_getElem_cons hlt,List.flatMap_cons]
  simp [zJN]
theorem zRH {fu:Nat} {t3:Int} {c:Class} {rc:Int×List Int->Option (Bs×Int)} (hf:1000<fu) (hc:clsB c=true):∀(j i k:Nat) (t:Bs),i+j=c.Watch.length->j<k->t.length+j*70000<=500000000 ->
  zCp fu t3 c rc k ((i:Int),zAP t)=bnd (rng .i64 (t3+1)) fun i24=>rc (i24,zAP (t++((c.Watch.drop i).flatMap zI4++(opsT ([112,101,101,107]:Bs) c.Peek++(opsT ([109,97,107,101]:Bs) c.Make++c.Hooks.flatMap zJN)))))
 | 0,i,k+1,t,hi,hk,ht=>by
  have hc':=hc
  simp only [clsB,Bool.and_eq_true,decide_eq_true_eq] at hc'
  have h1:=zE4 ([112,101,101,107]:Bs) c.Peek
  have h2:=zE4 ([109,97,107,101]:Bs) c.Make
  simp only [List.length_cons,List.length_nil] at h1 h2
  have hp1:=hc'.2.2.2.2.1
  have hp2:=hc'.2.2.2.2.2
  have hw:=hc'.2.2.1
  clear hc'
  have l1:(t++opsT ([112,101,101,107]:Bs) c.Peek).length=t.length+(opsT ([112,101,101,107]:Bs) c.Peek).length:=List.length_append
  have l2:((t++opsT ([112,101,101,107]:Bs) c.Peek)++opsT ([109,97,107,101]:Bs) c.Make).length=(t++opsT ([112,101,101,107]:Bs) c.Peek).length+(opsT ([109,97,107,101]:Bs) c.Make).length:=List.length_append
  have hb:(t++opsT ([112,101,101,107]:Bs) c.Peek).length<=700000000:=by omega
  have hb2:((t++opsT ([112,101,101,107]:Bs) c.Peek)++opsT ([109,97,107,101]:Bs) c.Make).length+c.Hooks.length*70000<=600000000:=by omega
  have q1:c.Peek.length<fu/\c.Peek.length<=1000/\t.length<=700000000:=by omega
  have q2:c.Make.length<fu/\c.Make.length<=1000:=by omega
  have e1:=zMY (fu:=fu) (h:=([112,101,101,107]:Bs)) (t:=t) q1.1 (by decide) q1.2.1 q1.2.2
  have e2:=zMY (fu:=fu) (h:=([109,97,107,101]:Bs)) q2.1 (by decide) q2.2 hb
  rw [zCp,zAt (by simp;omega),e1,bnd_some,e2,bnd_some]
  have:=zRI (fu:=fu) (t3:=t3) (rc:=rc) hf hc (by omega) c.Hooks.length 0 fu ((t++opsT ([112,101,101,107]:Bs) c.Peek)++opsT ([109,97,107,101]:Bs) c.Make) (by omega) (by omega) hb2
  rw [show ((0:Nat):Int)=0 from rfl] at this
  rw [this,List.drop_of_length_le (by omega:c.Watch.length<=i)]
  simp
 | j+1,i,k+1,t,hi,hk,ht=>by
  have hlt:i<c.Watch.length:=by omega
  have hc':=hc
  simp only [clsB,Bool.and_eq_true,decide_eq_true_eq] at hc'
  have hw:=List.all_eq_true.1 hc'.2.1 c.Watch[i] (List.getElem_mem hlt)
  unfold fitB at hw
  simp only [Bool.and_eq_true] at hw
  have hwl:=(zG5 hw.1).2
  rw [zCp,zBX (by simpa using hlt),zCy hlt,bnd_some,zLO (by simp) (by omega) (by omega),bnd_some,zBt (by omega),bnd_some,
   zRH hf hc j (i+1) k _ (by omega) (by omega) (by simp only [List.length_append,List.length_cons,List.length_nil];omega),List.drop_eq_getElem_cons hlt,List.flatMap_cons]
  simp [zI4]
theorem zNP {c:Class} (hc:clsB c=true):(c.Watch.flatMap zI4).length<=12*50:=by
 simp only [clsB,Bool.and_eq_true,decide_eq_true_eq] at hc
 have:=zE0 zI4 50 c.Watch fun w hw=>by
  have hw:=List.all_eq_true.1 hc.2.1 w hw
  unfold fitB at hw
  simp only [Bool.and_eq_true] at hw
  have hwl:=(zG5 hw.1).2
  simp [zI4];omega
 have h1:=hc.1
 have:c.Watch.length*50<=12*50:=Nat.mul_le_mul_right _ h1
 omega
theorem zPk {c:Class} (hc:clsB c=true):(clsT c).length<=1000000:=by
 have hw:=zNP hc
 simp only [clsB,Bool.and_eq_true,decide_eq_true_eq] at hc
 have h1:=zE4 ([112,101,101,107]:Bs) c.Peek
 have h2:=zE4 ([109,97,107,101]:Bs) c.Make
 simp only [List.length_cons,List.length_nil] at h1 h2
 have h3:=zE0 zJN 62000 c.Hooks fun h hh=>by
  have hh:=List.all_eq_true.1 hc.2.2.2.1 h hh
  simp only [hokB,Bool.and_eq_true,decide_eq_true_eq] at hh
  have hol:=zE4 [] h.Do
  simp only [List.length_nil] at hol
  have:=zKQ h.Kind.toNat
  simp only [zJN,List.length_append,List.length_cons,List.length_nil]
  omega
 have h4:(clsH c).length<=20:=by unfold clsH;split<;>simp
 unfold clsT
 simp only [List.length_append]
 omega
def finP (t:Bs):Bs×Int:=if t.length>16384 then ([],3) else (t,0)
theorem zRG {fu:Nat} {s:Script} (hf:1000<fu) (hs:s.Classes.length<=12) (hc:∀c∈s.Classes,clsB c=true) (hm:s.Main.length<=300):∀(j i k:Nat) (t:Bs),i+j=s.Classes.length->j<k->t.length+j*1000000<=300000000 ->
  zA8 fu s k ((i:Int),zAP t)=some (finP (t++((s.Classes.drop i).flatMap clsT++opsT ([109,97,105,110]:Bs) s.Main)))
 | 0,i,k+1,t,hi,hk,ht=>by
  have h1:=zE4 ([109,97,105,110]:Bs) s.Main
  simp only [List.length_cons,List.length_nil] at h1
  rw [zA8,zAt (by simp;omega),zMY (by omega) (by simp) (by omega) (by omega),bnd_some,List.drop_of_length_le (by omega)]
  unfold zCf
  rw [bnd_some,zHs,zC6,bstr,bnd_some,List.flatMap_nil,List.nil_append]
  unfold finP
  by_cases h:(t++opsT ([109,97,105,110]:Bs) s.Main).length>16384
  ·rw [if_pos h,if_pos (by omega)]
  ·rw [if_neg h,if_neg (by omega)]
 | j+1,i,k+1,t,hi,hk,ht=>by
  have hlt:i<s.Classes.length:=by omega
  have hci:=hc _ (List.getElem_mem hlt)
  have hcl:=zPk hci
  have hci':=hci
  simp only [clsB,Bool.and_eq_true,decide_eq_true_eq] at hci'
  have e:∀h:Bs,h=clsH s.Classes[i]->zDJ fu (i:Int) s.Classes[i] (zA8 fu s k) (zAP (t++h))=some (finP (t++((s.Classes.drop i).flatMap clsT++opsT ([109,97,105,110]:Bs) s.Main))):=fun h hh=>by
   subst hh
   have h4:(clsH s.Classes[i]).length<=20:=by unfold clsH;split<;>simp
   unfold zDJ
   have:=zRH (fu:=fu) (t3:=(i:Int)) (rc:=zA8 fu s k) hf hci s.Classes[i].Watch.length 0 fu (t++clsH s.Classes[i]) (by omega) (by omega) (by simp only [List.length_append];omega)
   rw [show ((0:Nat):Int)=0 from rfl] at this
   rw [this,zBt (by omega),bnd_some,List.drop_zero,List.append_assoc]
   show zA8 fu s k (((i+1:Nat):Int),zAP (t++clsT s.Classes[i]))=_
   rw [zRG hf hs hc hm j (i+1) k _ (by omega) (by omega) (by simp only [List.length_append];omega),List.drop_eq_getElem_cons hlt,List.flatMap_cons]
   simp
  rw [zA8,zBX (by simpa using hlt),zCy hlt,bnd_some]
  unfold clsH at e
  cases hF:s.Classes[i].Form with
  | true =>
   rw [hF] at e
   rw [cnd_true,zLO (by simp) (by simp) (by omega),bnd_some]
   exact e _ rfl
  | false =>
   rw [hF] at e
   rw [cnd_false,zLN (by simp) (by omega),bnd_some]
   exact e _ rfl
theorem zC5 {s:Script} (h:zDx s=true):s.Classes.length<=12/\(∀c∈s.Classes,clsB c=true)/\s.Main.length<=300:=by
 unfold zDx at h
 simp only [Bool.and_eq_true,decide_eq_true_eq] at h
 refine ⟨h.2.1,fun c hc=>List.all_eq_true.1 h.2.2 c hc,?_⟩
 have:=List.all_eq_true.1 h.1 (s.Main,300) (by simp [zAs])
 simp only [okPr,Bool.and_eq_true,decide_eq_true_eq] at this
 omega
def putA (s:Script):Bs×Int:=if zDx s=true then finP (putR s) else ([],1)
theorem zMo {fu:Nat} (hf:1000<fu) (s:Script):zCM fu s=some (putA s):=by
 unfold zCM putA
 rw [zJy (by omega),bnd_some]
 cases h:zDx s with
 | false=>rfl
 | true =>
  obtain ⟨h1,h2,h3⟩:=zC5 h
  rw [if_pos rfl]
  show cnd false _ _=_
  rw [cnd_false]
  have:=zRG (fu:=fu) hf h1 h2 h3 s.Classes.length 0 fu [] (by omega) (by omega) (by simp;omega)
  exact this
end Go.Proofs.YtoboimmgglnjfaaGreatDoor
/- Scripts: what is put is read as it was. -/
namespace Go.Proofs.YtoboimmgglnjfaaGreatDoor
open Go Go.Pw
set_option linter.unusedVariables false
def zDw (s:Bs):List Bs:=(zBj s).map zGF
def zCF:List Bs->Rs×List Op->Option (Rs×List Op)
 | [],x=>some x
 | t::ts,x=>match zEN x t with
  | some y=>zCF ts y
  | none=>none
theorem zOD:∀(ls:List Bs) (x:Rs×List Op),zM4 ls x=zCF (ls.map zGF) x
 | [],x=>rfl
 | l::ls,x=>by
  rw [zM4,List.map_cons,zCF]
  cases zEN x (zGF l) with
  | none=>rfl
  | some y=>exact zOD ls y
theorem zJi (s:Bs):zLj s=if s.length>16384 then (⟨[],[]⟩,3) else finR (zCF (zDw s) (rs0,[])):=by
 unfold zLj zDw
 rw [zOD]
theorem zDM:∀(l m:List Bs) (x:Rs×List Op),zCF (l++m) x=match zCF l x with
  | some y=>zCF m y
  | none=>none
 | [],m,x=>rfl
 | t::l,m,x=>by
  rw [List.cons_append,zCF,zCF]
  cases zEN x t with
  | none=>rfl
  | some y=>exact zDM l m y
theorem zIz {t:Bs} (r:Bs) (h:(10:UInt8)∉t):zDw (t++10::r)=t::zDw r:=by
 unfold zDw
 rw [zHC h,List.map_cons]
 congr 1
 unfold zGF
 rw [List.filter_append,show t.filter (fun b=>b != 10)=t from zHx h]
 simp
theorem zI0:∀(ts:List Bs) (r:Bs),(∀t∈ts,(10:UInt8)∉t)->zDw (ts.flatMap (fun t=>t++[10])++r)=ts++zDw r
 | [],r,_=>rfl
 | t::ts,r,h=>by
  rw [List.flatMap_cons,List.append_assoc,List.append_assoc,List.singleton_append,zIz _ (h t (by simp)),zI0 ts r fun u hu=>h u (by simp [hu])]
  rfl
def opsL (h:Bs) (l:List Op):List Bs:=(if l=[]\/h=[] then [] else [h])++l.map zFD
def zLJ (h:Hook):List Bs:=(([111,110]:Bs)++32::kindsL.getD h.Kind.toNat [])::opsL [] h.Do
def clsF (c:Class):Bs:=if c.Form then ([99,108,97,115,115]:Bs)++32::([102,111,114,109]:Bs) else ([99,108,97,115,115]:Bs)
def clsL (c:Class):List Bs:=clsF c::(c.Watch.map (fun w=>([119,97,116,99,104]:Bs)++32::w)++(opsL ([112,101,101,107]:Bs) c.Peek++(opsL ([109,97,107,101]:Bs) c.Make++c.Hooks.flatMap zLJ)))
def putL (s:Script):List Bs:=s.Classes.flatMap clsL++opsL ([109,97,105,110]:Bs) s.Main
abbrev nl (t:Bs):Bs:=t++[10]
theorem zMR (h:Bs) (l:List Op):opsT h l=(opsL h l).flatMap nl:=by
 unfold opsT opsL
 rw [List.flatMap_append]
 congr 1
 ·split<;>simp
 ·rw [List.flatMap_map];rfl
theorem zRr (h:Hook):zJN h=(zLJ h).flatMap nl:=by
 unfold zJN zLJ
 rw [zMR,List.flatMap_cons]
theorem flat2 {α : Type} (l:List α) (f : α -> Bs) (g : α -> List Bs) (h:∀x∈l,f x=(g x).flatMap nl):l.flatMap f=(l.flatMap g).flatMap nl:=by
 induction l with
 | nil=>rfl
 | cons a l ih =>
  rw [List.flatMap_cons,List.flatMap_cons,List.flatMap_append,h a (by simp),ih fun x hx=>h x (by simp [hx])]
theorem clsT_L (c:Class):clsT c=(clsL c).flatMap nl:=by
 unfold clsT clsL
 rw [List.flatMap_cons,List.flatMap_append,List.flatMap_append,List.flatMap_append,zMR,zMR,flat2 c.Hooks zJN zLJ fun h _=>zRr h,List.flatMap_map]
 rfl
theorem putR_L (s:Script):putR s=(putL s).flatMap nl:=by
 unfold putR putL
 rw [List.flatMap_append,zMR,flat2 s.Classes clsT clsL fun c _=>clsT_L c]
theorem zQI (o:Op):(10:UInt8)∉zFD o:=by
 unfold zFD
 split
 ·rename_i h;exact zOz (right_iff.1 h)
 ·decide
theorem zQH (o:Op):zFD o≠[]:=by
 unfold zFD
 split
 ·rename_i h;exact zSE (right_iff.1 h)
 ·decide
theorem zJX {h:Bs} {l:List Op} (hh:(10:UInt8)∉h):∀t∈opsL h l,(10:UInt8)∉t:=by
 intro t ht
 unfold opsL at ht
 rcases List.mem_append.1 ht with ht | ht
 ·split at ht
  ·cases ht
  ·rw [List.mem_singleton.1 ht];exact hh
 ·obtain ⟨o,_,rfl⟩:=List.mem_map.1 ht
  exact zQI o
theorem zP4 (i:Nat):(10:UInt8)∉kindsL.getD i []:=by
 rcases Nat.lt_or_ge i 9 with h | h
 ·have:∀j:Fin 9,(10:UInt8)∉kindsL.getD j []:=by decide
  exact this ⟨i,h⟩
 ·rw [List.getD_eq_getElem?_getD,List.getElem?_eq_none (by simpa [kindsL] using h)];simp
theorem fit_no {w:Bs} (h:fitB w=true):(10:UInt8)∉w:=fun hm=>by
 simp only [fitB,zFz,Bool.and_eq_true] at h
 have:=List.all_eq_true.1 h.1.1.2 10 hm
 revert this
 decide
theorem zRh {c:Class} (hc:clsB c=true):∀t∈clsL c,(10:UInt8)∉t:=by
 intro t ht
 simp only [clsB,Bool.and_eq_true,decide_eq_true_eq] at hc
 unfold clsL at ht
 rcases List.mem_cons.1 ht with rfl | ht
 ·unfold clsF;split<;>decide
 rcases List.mem_append.1 ht with ht | ht
 ·obtain ⟨w,hw,rfl⟩:=List.mem_map.1 ht
  have:=fit_no (List.all_eq_true.1 hc.2.1 w hw)
  simp [this]
 rcases List.mem_append.1 ht with ht | ht
 ·exact zJX (by decide) t ht
 rcases List.mem_append.1 ht with ht | ht
 ·exact zJX (by decide) t ht
 ·obtain ⟨h,hh,ht⟩:=List.mem_flatMap.1 ht
  rcases List.mem_cons.1 ht with rfl | ht
  ·have:=zP4 h.Kind.toNat
   simp only [List.mem_append,List.mem_cons,not_or]
   exact ⟨by decide,by decide,this⟩
  ·exact zJX (by simp) t ht
theorem zSD {s:Script} (h:zDx s=true):∀t∈putL s,(10:UInt8)∉t:=by
 intro t ht
 obtain ⟨_,h2,_⟩:=zC5 h
 rcases List.mem_append.1 ht with ht | ht
 ·obtain ⟨c,hc,ht⟩:=List.mem_flatMap.1 ht
  exact zRh (h2 c hc) t ht
 ·exact zJX (by decide) t ht
theorem zFX {s:Script} (h:zDx s=true) (r:Bs):zDw (putR s++r)=putL s++zDw r:=by
 rw [putR_L]
 exact zI0 (putL s) r (zSD h)
def zLI (w:Bs):Prop:=w=([109,97,105,110]:Bs)\/w=([99,108,97,115,115]:Bs)\/w=([112,101,101,107]:Bs)\/w=([109,97,107,101]:Bs)\/w=([119,97,116,99,104]:Bs)\/w=([111,110]:Bs)
theorem zM6 {x:Rs} {s:Bs} (h:¬zLI (cutS s).1):zGT x s=none:=by
 unfold zGT
 have h1:s≠([109,97,105,110]:Bs):=fun e=>h (by subst e;exact .inl rfl)
 have h2:¬(s=([99,108,97,115,115]:Bs)\/s=[99,108,97,115,115,32,102,111,114,109]):=fun e=>h (by rcases e with rfl | rfl<;>exact .inr (.inl rfl))
 have h3:s≠([112,101,101,107]:Bs):=fun e=>h (by subst e;exact .inr (.inr (.inl rfl)))
 have h4:s≠([109,97,107,101]:Bs):=fun e=>h (by subst e;exact .inr (.inr (.inr (.inl rfl))))
 have h5:(cutS s).1≠([119,97,116,99,104]:Bs):=fun e=>h (.inr (.inr (.inr (.inr (.inl e)))))
 have h6:(cutS s).1≠([111,110]:Bs):=fun e=>h (.inr (.inr (.inr (.inr (.inr e)))))
 rw [if_neg h1,if_neg h2,if_neg h3,if_neg h4,if_neg h5,if_neg h6]
 split<;>rfl
theorem zNs {w:Bs} (l:List Bs) (h:(32:UInt8)∉w):(cutS (w++tl l)).1=w:=by
 cases l with
 | nil=>rw [zD1,List.append_nil,zLB h]
 | cons f l=>rw [zDf,zGP _ h]
theorem zSh {k:Int} (hk:Knd k):(32:UInt8)∉wd k/\(33:UInt8)∉wd k/\¬zLI (wd k):=by
 unfold zLI
 rcases zH3 hk with rfl | rfl | rfl | rfl | rfl | rfl | rfl | rfl | rfl | rfl | rfl | rfl | rfl | rfl | rfl | rfl | rfl | rfl | rfl | rfl | rfl | rfl | rfl | rfl | rfl | rfl | rfl | rfl<;>decide
theorem zNI (o:Op):¬zLI (cutS (zFD o)).1:=by
 unfold zFD
 split
 ·rename_i h
  have hr:=right_iff.1 h
  obtain ⟨h1,h2,h3⟩:=zSh hr.kind
  unfold putP bang
  cases o.Must with
  | false =>
   rw [if_neg (by simp),List.nil_append,zNs _ h1]
   exact h3
  | true =>
   have e:(cutS ((if true=true then [33] else [])++(wd o.Kind++tl (zDQ o)))).1=33::wd o.Kind:=by
    rw [if_pos rfl,<- List.append_assoc,zNs _ (by simp [h1])]
    rfl
   rw [e]
   unfold zLI
   simp
 ·unfold zLI;decide
theorem putP_q {o:Op} (h:RightP o) (r:Bs):putP o≠63::r:=fun e=>by
 obtain ⟨b,w,hw,h1,h2⟩:=zLt h.kind
 unfold putP bang at e
 rw [hw] at e
 cases hm:o.Must with
 | true=>rw [hm] at e;simp at e
 | false =>
  rw [hm] at e
  simp only [Bool.false_eq_true,if_false,List.nil_append,List.cons_append,List.cons.injEq] at e
  rw [e.1] at h1
  revert h1
  decide
theorem opR_q:opR [63]=op0:=by
 unfold opR
 rw [zPD (by simp) (by simp) fun o ho=>putP_q ho []]
theorem opR_op {o:Op} (h:okOp o=true):opR (zFD o)=o:=by
 unfold zFD
 by_cases hr:zFV o=true
 ·rw [if_pos hr]
  exact zR3 (right_iff.1 hr) (by have:=zJe (right_iff.1 hr);omega)
 ·rw [if_neg hr]
  unfold okOp at h
  have:o=op0:=by
   simp only [Bool.or_eq_true,decide_eq_true_eq] at h
   exact h.resolve_right hr
  rw [this]
  exact opR_q
end Go.Proofs.YtoboimmgglnjfaaGreatDoor
/- Scripts: the reader over the lines that were put. -/
namespace Go.Proofs.YtoboimmgglnjfaaGreatDoor
open Go Go.Pw
set_option linter.unusedVariables false
abbrev RS:=Rs×List Op
def cur (p:RS):List Op:=match p.1.k with
 | 0=>p.2
 | 1=>p.1.pk
 | 2=>p.1.mak
 | _=>p.1.dos
def lim (p:RS):Nat:=match p.1.k with
 | 0=>300
 | _=>60
def addk (p:RS) (l:List Op):RS:=match p.1.k with
 | 0=>(p.1,p.2++l)
 | 1=>({ p.1 with pk:=p.1.pk++l },p.2)
 | 2=>({ p.1 with mak:=p.1.mak++l },p.2)
 | _=>({ p.1 with dos:=p.1.dos++l },p.2)
theorem zPO {p:RS} {s:Bs} (h0:s≠[]) (hh:zGT p.1 s=none):zEN p s=if (cur p).length=lim p then none else some (addk p [opR s]):=by
 unfold zEN
 rw [if_neg h0,hh]
 rcases p with ⟨⟨k,most,pre,act,form,hpre,hact,kind,wat,pk,mak,dos⟩,m⟩
 match k with
 | 0=>rfl
 | 1=>rfl
 | 2=>rfl
 | k+3=>rfl
theorem zPa (p:RS):addk p []=p:=by
 rcases p with ⟨⟨k,most,pre,act,form,hpre,hact,kind,wat,pk,mak,dos⟩,m⟩
 match k with
 | 0=>simp [addk]
 | 1=>simp [addk]
 | 2=>simp [addk]
 | k+3=>simp [addk]
theorem zPY (p:RS) (l r:List Op):addk (addk p l) r=addk p (l++r):=by
 rcases p with ⟨⟨k,most,pre,act,form,hpre,hact,kind,wat,pk,mak,dos⟩,m⟩
 match k with
 | 0=>simp [addk]
 | 1=>simp [addk]
 | 2=>simp [addk]
 | k+3=>simp [addk]
theorem zPZ (p:RS) (l:List Op):cur (addk p l)=cur p++l/\lim (addk p l)=lim p:=by
 rcases p with ⟨⟨k,most,pre,act,form,hpre,hact,kind,wat,pk,mak,dos⟩,m⟩
 match k with
 | 0=>simp [addk,cur,lim]
 | 1=>simp [addk,cur,lim]
 | 2=>simp [addk,cur,lim]
 | k+3=>simp [addk,cur,lim]
theorem zIb:∀(ts:List Bs) (p:RS),(∀t∈ts,t≠[]/\¬zLI (cutS t).1)->(cur p).length<=lim p->zCF ts p=if (cur p).length+ts.length<=lim p then some (addk p (ts.map opR)) else none
 | [],p,_,h=>by rw [if_pos (by simpa using h),List.map_nil,zPa];rfl
 | t::ts,p,ht,h=>by
  obtain ⟨h1,h2⟩:=ht t (by simp)
  obtain ⟨c1,c2⟩:=zPZ p [opR t]
  rw [zCF,zPO h1 (zM6 h2)]
  by_cases he:(cur p).length=lim p
  ·rw [if_pos he,if_neg (by simp;omega)]
  ·rw [if_neg he]
   show zCF ts (addk p [opR t])=_
   rw [zIb ts _ (fun u hu=>ht u (by simp [hu])) (by rw [c1,c2,List.length_append,List.length_singleton];omega),c1,c2,zPY,List.length_append,List.length_singleton,List.length_cons,List.map_cons,List.singleton_append]
   by_cases hl:(cur p).length+1+ts.length<=lim p
   ·rw [if_pos hl,if_pos (by omega)]
   ·rw [if_neg hl,if_neg (by omega)]
theorem zRy {l:List Op} (h:∀o∈l,okOp o=true):(l.map zFD).map opR=l:=by
 rw [List.map_map]
 exact (List.map_congr_left (g:=id) fun o ho=>opR_op (h o ho)).trans (List.map_id l)
theorem zHW {l:List Op} {p:RS} (h:∀o∈l,okOp o=true) (hc:(cur p).length<=lim p):zCF (l.map zFD) p=if (cur p).length+l.length<=lim p then some (addk p l) else none:=by
 rw [zIb _ _ (fun t ht=>?_) hc,zRy h,List.length_map]
 obtain ⟨o,_,rfl⟩:=List.mem_map.1 ht
 exact ⟨zQH o,zNI o⟩
theorem zKv (p:RS):zEN p ([109,97,105,110]:Bs)=some ({ p.1 with k:=0,most:=300 },p.2):=rfl
theorem zNM {p:RS} {c:Class} (h:p.1.cls.length<12):zEN p (clsF c)=some (⟨2,60,p.1.cls,true,c.Form,[],false,0,[],[],[],[]⟩,p.2):=by
 have key:∀s:Bs,s=([99,108,97,115,115]:Bs)\/s=[99,108,97,115,115,32,102,111,114,109]->zEN p s=some (⟨2,60,p.1.cls,true,(cutS s).2.2,[],false,0,[],[],[],[]⟩,p.2):=fun s hs=>by
  unfold zEN zGT
  have h0:s≠[]:=by rcases hs with rfl | rfl<;>simp
  have h1:s≠[109,97,105,110]:=by rcases hs with rfl | rfl<;>simp
  rw [if_neg h0,if_neg h1,if_pos hs,if_neg (by omega)]
 unfold clsF
 cases c.Form with
 | true=>rw [if_pos rfl];exact key _ (.inr rfl)
 | false=>rw [if_neg (by simp)];exact key _ (.inl rfl)
theorem zPQ {p:RS} (ha:p.1.act=true):zEN p ([112,101,101,107]:Bs)=some ({ p.1 with k:=1,most:=60 },p.2):=by
 unfold zEN zGT
 rw [if_neg (by simp),if_neg (by simp),if_neg (by simp),if_neg (by rw [ha];simp),if_pos rfl]
theorem zPP {p:RS} (ha:p.1.act=true):zEN p ([109,97,107,101]:Bs)=some ({ p.1 with k:=2,most:=60 },p.2):=by
 unfold zEN zGT
 rw [if_neg (by simp),if_neg (by simp),if_neg (by simp),if_neg (by rw [ha];simp),if_neg (by simp),if_pos rfl]
theorem zNN {p:RS} {w:Bs} (ha:p.1.act=true) (hw:fitB w=true) (hl:p.1.wat.length<12):zEN p (([119,97,116,99,104]:Bs)++32::w)=some ({ p.1 with wat:=p.1.wat++[w] },p.2):=by
 have hcut:cutS (([119,97,116,99,104]:Bs)++32::w)=(([119,97,116,99,104]:Bs),w,true):=zGP w (by decide)
 unfold zEN zGT
 rw [if_neg (by simp),if_neg (by simp),if_neg (by simp),if_neg (by rw [ha];simp),if_neg (by simp),if_neg (by simp),hcut]
 dsimp only
 rw [if_pos rfl,if_pos rfl,if_pos hw,if_neg (by omega)]
theorem zP2 {k:Int} (h1:1<=k) (h2:k<=8):zJP (kindsL.getD k.toNat [])=k:=by
 have:∀j:Fin 9,zJP (kindsL.getD j [])=(j:Nat):=by decide
 have:=this ⟨k.toNat,by omega⟩
 rw [this]
 simp only
 omega
theorem zSW {p:RS} {k:Int} (ha:p.1.act=true) (h1:1<=k) (h2:k<=8) (hl:p.1.hooks.length<12):zEN p (([111,110]:Bs)++32::kindsL.getD k.toNat [])=some ({ p.1 with k:=3,most:=60,hpre:=p.1.hooks,hact:=true,kind:=k,dos:=[] },p.2):=by
 have hcut:cutS (([111,110]:Bs)++32::kindsL.getD k.toNat [])=(([111,110]:Bs),kindsL.getD k.toNat [],true):=zGP _ (by decide)
 unfold zEN zGT
 rw [if_neg (by simp),if_neg (by simp),if_neg (by simp),if_neg (by rw [ha];simp),if_neg (by simp),if_neg (by simp),hcut]
 dsimp only
 rw [if_neg (by simp),if_pos rfl,if_pos rfl,zP2 h1 h2,if_neg (by omega),if_neg (by omega)]
theorem zIc:∀(ws:List Bs) (x:Rs) (m:List Op),x.act=true->(∀w∈ws,fitB w=true)->x.wat.length+ws.length<=12->zCF (ws.map fun w=>([119,97,116,99,104]:Bs)++32::w) (x,m)=some ({ x with wat:=x.wat++ws },m)
 | [],x,m,_,_,_=>by simp [zCF]
 | w::ws,x,m,ha,hw,hl=>by
  simp only [List.length_cons] at hl
  rw [List.map_cons,zCF,zNN ha (hw w (by simp)) (show x.wat.length<12 by omega)]
  show zCF _ ({ x with wat:=x.wat++[w] },m)=_
  rw [zIc ws { x with wat:=x.wat++[w] } m ha (fun v hv=>hw v (by simp [hv])) (by simp;omega)]
  simp
theorem zOG {x:Rs} {m l:List Op} (ha:x.act=true) (h0:x.pk=[]) (hl:l.length<=60) (ho:∀o∈l,okOp o=true):∃k most,zCF (opsL ([112,101,101,107]:Bs) l) (x,m)=some ({ x with k:=k,most:=most,pk:=l },m):=by
 unfold opsL
 by_cases h:l=[]
 ·subst h
  refine ⟨x.k,x.most,?_⟩
  rw [if_pos (.inl rfl)]
  cases x
  simp only at h0
  subst h0
  rfl
 ·refine ⟨1,60,?_⟩
  rw [if_neg (by simp [h]),List.singleton_append,zCF,zPQ ha]
  show zCF _ ({ x with k:=1,most:=60 },m)=_
  refine (zHW (p:=({ x with k:=1,most:=60 },m)) ho (show (x.pk).length<=60 by rw [h0];simp)).trans ((if_pos (show x.pk.length+l.length<=60 by rw [h0];simpa using hl)).trans ?_)
  show some ({ x with k:=1,most:=60,pk:=x.pk++l },m)=_
  rw [h0];rfl
theorem zOF {x:Rs} {m l:List Op} (ha:x.act=true) (h0:x.mak=[]) (hl:l.length<=60) (ho:∀o∈l,okOp o=true):∃k most,zCF (opsL ([109,97,107,101]:Bs) l) (x,m)=some ({ x with k:=k,most:=most,mak:=l },m):=by
 unfold opsL
 by_cases h:l=[]
 ·subst h
  refine ⟨x.k,x.most,?_⟩
  rw [if_pos (.inl rfl)]
  cases x
  simp only at h0
  subst h0
  rfl
 ·refine ⟨2,60,?_⟩
  rw [if_neg (by simp [h]),List.singleton_append,zCF,zPP ha]
  show zCF _ ({ x with k:=2,most:=60 },m)=_
  refine (zHW (p:=({ x with k:=2,most:=60 },m)) ho (show (x.mak).length<=60 by rw [h0];simp)).trans ((if_pos (show x.mak.length+l.length<=60 by rw [h0];simpa using hl)).trans ?_)
  show some ({ x with k:=2,most:=60,mak:=x.mak++l },m)=_
  rw [h0];rfl
theorem zOE {x:Rs} {m:List Op} {h:Hook} (ha:x.act=true) (hb:hokB h=true) (hl:x.hooks.length<12) (ho:∀o∈h.Do,okOp o=true) :
  zCF (zLJ h) (x,m)=some ({ x with k:=3,most:=60,hpre:=x.hooks,hact:=true,kind:=h.Kind,dos:=h.Do },m):=by
 simp only [hokB,Bool.and_eq_true,decide_eq_true_eq] at hb
 unfold zLJ opsL
 rw [if_pos (.inr rfl),zCF,zSW ha hb.1 hb.2.1 hl]
 show zCF (h.Do.map zFD) ({ x with k:=3,most:=60,hpre:=x.hooks,hact:=true,kind:=h.Kind,dos:=[] },m)=_
 refine (zHW (p:=({ x with k:=3,most:=60,hpre:=x.hooks,hact:=true,kind:=h.Kind,dos:=[] },m)) ho (show (0:Nat)<=60 by omega)).trans ((if_pos (show 0+h.Do.length<=60 by omega)).trans ?_)
 rfl
theorem zIa:∀(hs:List Hook) (x:Rs) (m:List Op),x.act=true->(∀h∈hs,hokB h=true)->x.hooks.length+hs.length<=12->(∀h∈hs,∀o∈h.Do,okOp o=true) ->
  ∃y,zCF (hs.flatMap zLJ) (x,m)=some (y,m)/\y.act=true/\y.pre=x.pre/\y.form=x.form/\y.wat=x.wat/\y.pk=x.pk/\y.mak=x.mak/\y.hooks=x.hooks++hs
 | [],x,m,ha,_,_,_=>⟨x,rfl,ha,rfl,rfl,rfl,rfl,rfl,by simp⟩
 | h::hs,x,m,ha,hb,hl,ho=>by
  simp only [List.length_cons] at hl
  have h1:=zOE (m:=m) ha (hb h (by simp)) (by omega) (ho h (by simp))
  have hh:Rs.hooks { x with k:=3,most:=60,hpre:=x.hooks,hact:=true,kind:=h.Kind,dos:=h.Do }=x.hooks++[h]:=rfl
  obtain ⟨y,g1,g2,g3,g4,g5,g6,g7,g8⟩:=zIa hs { x with k:=3,most:=60,hpre:=x.hooks,hact:=true,kind:=h.Kind,dos:=h.Do } m ha (fun z hz=>hb z (by simp [hz])) (by rw [hh];simp;omega) (fun z hz=>ho z (by simp [hz]))
  refine ⟨y,?_,g2,g3,g4,g5,g6,g7,by rw [g8,hh];simp⟩
  rw [List.flatMap_cons,zDM,h1]
  exact g1
def zNq (c:Class):Prop:=(∀o∈c.Peek,okOp o=true)/\(∀o∈c.Make,okOp o=true)/\∀h∈c.Hooks,∀o∈h.Do,okOp o=true
theorem zM5 {x:Rs} {m:List Op} {c:Class} (hl:x.cls.length<12) (hc:clsB c=true) (ho:zNq c):∃y,zCF (clsL c) (x,m)=some (y,m)/\y.cls=x.cls++[c]:=by
 simp only [clsB,Bool.and_eq_true,decide_eq_true_eq] at hc
 obtain ⟨c1,c2,c3,c4,c5,c6⟩:=hc
 unfold clsL
 obtain ⟨k1,m1,e1⟩:=zOG (x:=⟨2,60,x.cls,true,c.Form,[],false,0,c.Watch,[],[],[]⟩) (m:=m) rfl rfl c5 ho.1
 obtain ⟨k2,m2,e2⟩:=zOF (x:=⟨k1,m1,x.cls,true,c.Form,[],false,0,c.Watch,c.Peek,[],[]⟩) (m:=m) rfl rfl c6 ho.2.1
 obtain ⟨y,g1,g2,g3,g4,g5,g6,g7,g8⟩:=zIa c.Hooks ⟨k2,m2,x.cls,true,c.Form,[],false,0,c.Watch,c.Peek,c.Make,[]⟩ m rfl (fun h hh=>List.all_eq_true.1 c4 h hh) (by simpa [Rs.hooks] using c3) ho.2.2
 have hw:=zIc c.Watch ⟨2,60,x.cls,true,c.Form,[],false,0,[],[],[],[]⟩ m rfl (fun w hw=>List.all_eq_true.1 c2 w hw) (by simpa using c1)
 refine ⟨y,?_,?_⟩
 ·rw [zCF,zNM hl]
  show zCF _ (⟨2,60,x.cls,true,c.Form,[],false,0,[],[],[],[]⟩,m)=_
  rw [zDM,hw]
  show zCF _ (⟨2,60,x.cls,true,c.Form,[],false,0,[]++c.Watch,[],[],[]⟩,m)=_
  rw [List.nil_append,zDM,e1]
  show zCF _ (⟨k1,m1,x.cls,true,c.Form,[],false,0,c.Watch,c.Peek,[],[]⟩,m)=_
  rw [zDM,e2]
  exact g1
 ·unfold Rs.cls
  rw [g2,if_pos rfl,g3,g4,g5,g6,g7,g8]
  rfl
theorem zG9:∀(cs:List Class) (x:Rs) (m:List Op),x.cls.length+cs.length<=12->(∀c∈cs,clsB c=true/\zNq c)->∃y,zCF (cs.flatMap clsL) (x,m)=some (y,m)/\y.cls=x.cls++cs
 | [],x,m,_,_=>⟨x,rfl,by simp⟩
 | c::cs,x,m,hl,h=>by
  simp only [List.length_cons] at hl
  obtain ⟨h1,h2⟩:=h c (by simp)
  obtain ⟨y,g1,g2⟩:=zM5 (m:=m) (x:=x) (by omega) h1 h2
  obtain ⟨z,f1,f2⟩:=zG9 cs y m (by rw [g2];simp;omega) (fun d hd=>h d (by simp [hd]))
  refine ⟨z,?_,by rw [f2,g2];simp⟩
  rw [List.flatMap_cons,zDM,g1]
  exact f1
theorem zKI {x:Rs} {m l:List Op} (hm:m.length<=300) (ho:∀o∈l,okOp o=true):if m.length+l.length<=300 then ∃y,zCF (opsL ([109,97,105,110]:Bs) l) (x,m)=some (y,m++l)/\y.cls=x.cls else zCF (opsL ([109,97,105,110]:Bs) l) (x,m)=none:=by
 unfold opsL
 by_cases h:l=[]
 ·subst h
  rw [if_pos (by simpa using hm)]
  refine ⟨x,?_,rfl⟩
  rw [if_pos (.inl rfl),List.append_nil];rfl
 ·have e:zCF ((if l=[]\/([109,97,105,110]:Bs)=[] then [] else [([109,97,105,110]:Bs)])++l.map zFD) (x,m)=if m.length+l.length<=300 then some ({ x with k:=0,most:=300 },m++l) else none:=by
   rw [if_neg (by simp [h]),List.singleton_append,zCF,zKv]
   show zCF _ ({ x with k:=0,most:=300 },m)=_
   exact zHW (p:=({ x with k:=0,most:=300 },m)) ho (show m.length<=300 from hm)
  by_cases hl:m.length+l.length<=300
  ·rw [if_pos hl]
   rw [if_pos hl] at e
   exact ⟨_,e,rfl⟩
  ·rw [if_neg hl]
   rw [if_neg hl] at e
   exact e
theorem zJw {s:Script} (h:zDx s=true):(∀c∈s.Classes,clsB c=true/\zNq c)/\∀o∈s.Main,okOp o=true:=by
 obtain ⟨_,h2,_⟩:=zC5 h
 unfold zDx at h
 simp only [Bool.and_eq_true] at h
 have key:∀y∈zAs s,∀o∈y.1,okOp o=true:=fun y hy o ho=>by
  have:=List.all_eq_true.1 h.1 y hy
  simp only [okPr,Bool.and_eq_true] at this
  exact List.all_eq_true.1 this.2 o ho
 refine ⟨fun c hc=>⟨h2 c hc,?_,?_,?_⟩,?_⟩
 ·exact key (c.Peek,60) (by simp only [zAs,List.mem_append,List.mem_flatMap];exact .inl ⟨c,hc,by simp [zIG]⟩)
 ·exact key (c.Make,60) (by simp only [zAs,List.mem_append,List.mem_flatMap];exact .inl ⟨c,hc,by simp [zIG]⟩)
 ·intro k hk
  exact key (k.Do,60) (by simp only [zAs,List.mem_append,List.mem_flatMap];exact .inl ⟨c,hc,by simp only [zIG,List.mem_cons,List.mem_map];exact .inr (.inr ⟨k,hk,rfl⟩)⟩)
 ·exact key (s.Main,300) (by simp [zAs])
theorem zHX {s:Script} (h:zDx s=true) {x:Rs} {m:List Op} (hc:x.cls.length+s.Classes.length<=12) (hm:m.length+s.Main.length<=300):∃y,zCF (putL s) (x,m)=some (y,m++s.Main)/\y.cls=x.cls++s.Classes:=by
 obtain ⟨h1,h2⟩:=zJw h
 obtain ⟨y,g1,g2⟩:=zG9 s.Classes x m hc h1
 have:=zKI (x:=y) (m:=m) (by omega) h2
 rw [if_pos hm] at this
 obtain ⟨z,f1,f2⟩:=this
 refine ⟨z,?_,f2.trans g2⟩
 unfold putL
 rw [zDM,g1]
 exact f1
theorem zQP {s:Script} (h:zDx s=true) (hl:(putR s).length<=16384):zLj (putR s)=(s,0):=by
 obtain ⟨h1,h2,h3⟩:=zC5 h
 rw [zJi,if_neg (by omega)]
 have ht:=zFX h []
 rw [List.append_nil] at ht
 obtain ⟨y,g1,g2⟩:=zHX h (x:=rs0) (m:=[]) (by simpa [rs0,Rs.cls] using h1) (by simpa using h3)
 rw [ht,show zDw []=[] from rfl,List.append_nil,g1]
 show ((⟨y.cls,[]++s.Main⟩:Script),(0:Int))=_
 rw [g2]
 rfl
end Go.Proofs.YtoboimmgglnjfaaGreatDoor
/- Scripts: what the laws share: a fixed answer, what is not too much, what is the same. -/
namespace Go.Proofs.YtoboimmgglnjfaaGreatDoor
open Go Go.Pw
set_option linter.unusedVariables false
def scr0:Script:=⟨[⟨true,[[97]],[],[⟨20,0,0,0,[],[],false⟩],[⟨1,[⟨22,0,0,0,[],[],true⟩]⟩]⟩],[⟨16,0,0,0,[120,45,97],[],false⟩,op0]⟩
def txt0:Bs:=[99,108,97,115,115,32,102,111,114,109,10,119,97,116,99,104,32,97,10,109,97,107,101,10,115,117,112,101,114,10,111,110,32,99,97,109,101,10,33,116,104,114,111,119,10,109,97,105,110,10,100,101,102,105,110,101,32,48,32,34,120,45,97,34,32,34,34,10,63,10]
theorem put0:putR scr0=txt0:=by kernel_rfl
theorem zNR:zDx scr0=true:=by kernel_rfl
theorem zRW {fu:Nat} (hf:30000<fu):zCN fu=some true:=by
 have hl:(putR scr0).length<=16384:=by rw [put0];decide
 have h1:=zQP zNR hl
 rw [put0] at h1
 have h2:putA scr0=(txt0,0):=by
  unfold putA finP
  rw [if_pos zNR,if_neg (by omega),put0]
 unfold zCN
 show bnd (zCR fu txt0) _=_
 rw [zLm hf,bnd_some,h1]
 show bnd (zCM fu scr0) _=_
 rw [zMo (by omega),bnd_some,h2]
 show bnd (zCS fu scr0) (fun r7=>some r7)=_
 rw [zJy (by omega),bnd_some,zNR]
theorem zHd {fu:Nat} {l:List Op} (hf:l.length<fu) (hb:l.length<=1000000):zBZ fu l l=some true:=by
 unfold zBZ
 rw [zAt (by simp)]
 have:=zIL (L:=zBn l l) l (fun _=>true) (some true) (fun i hi k=>by
  simp only [zBn]
  rw [zBX (by simpa using hi),zCy hi,bnd_some,bnd_some,eqO,decide_eq_true rfl,zBt (by omega)]
  rfl) (fun k=>by simp only [zBn];rw [zAt (by simp)]) hf
 rw [this,List.all_eq_true.2 fun _ _=>rfl]
 rfl
def bndC (c:Class):Prop:=c.Watch.length<=100/\c.Peek.length<=100/\c.Make.length<=100/\c.Hooks.length<=100/\∀h∈c.Hooks,h.Do.length<=100
theorem zMu {fu:Nat} {c:Class} (hf:1000<fu) (hc:bndC c):zCO fu c c=some true:=by
 obtain ⟨c1,c2,c3,c4,c5⟩:=hc
 have h2:zBC fu c c fu 0=some true:=by
  have:=zIL (L:=zBC fu c c) c.Hooks (fun _=>true) (some true) (fun i hi k=>by
   simp only [zBC]
   have hd:=c5 _ (List.getElem_mem hi)
   rw [zBX (by simpa using hi),zCy hi,bnd_some,bnd_some,zAt (by simp),bnd_some,bnd_some,zHd (by omega) (by omega),bnd_some,zBt (by omega)]
   rfl) (fun k=>by simp only [zBC];rw [zAt (by simp)]) (show c.Hooks.length<fu by omega)
  rw [this,List.all_eq_true.2 fun _ _=>rfl]
  rfl
 have h1:zBB fu c c fu 0=some true:=by
  have:=zIL (L:=zBB fu c c) c.Watch (fun _=>true) (some true) (fun i hi k=>by
   simp only [zBB]
   rw [zBX (by simpa using hi),zCy hi,bnd_some,bnd_some,zAt (by simp),zBt (by omega)]
   rfl) (fun k=>by simp only [zBB];rw [zAt (by simp),h2]) (show c.Watch.length<fu by omega)
  rw [this,List.all_eq_true.2 fun _ _=>rfl]
  rfl
 unfold zCO
 rw [zAt (by simp),zAt (by simp),zHd (by omega) (by omega),bnd_some,zAt (by simp),zHd (by omega) (by omega),bnd_some,zAt (by simp),zAt (by simp),h1]
theorem zRL {fu:Nat} {s:Script} (hf:1000<fu) (h1:s.Classes.length<=100) (h2:∀c∈s.Classes,bndC c) (h3:s.Main.length<=900):zA0 fu s s=some true:=by
 have h:zB8 fu s.Classes s.Classes=some true:=by
  unfold zB8
  rw [zAt (by simp)]
  have:=zIL (L:=zBJ fu s.Classes s.Classes) s.Classes (fun _=>true) (some true) (fun i hi k=>by
   simp only [zBJ]
   rw [zBX (by simpa using hi),zCy hi,bnd_some,bnd_some,zMu hf (h2 _ (List.getElem_mem hi)),bnd_some,zBt (by omega)]
   rfl) (fun k=>by simp only [zBJ];rw [zAt (by simp)]) (show s.Classes.length<fu by omega)
  rw [this,List.all_eq_true.2 fun _ _=>rfl]
  rfl
 unfold zA0
 rw [h,bnd_some,cnd_true,zHd (by omega) (by omega),bnd_some]
theorem zLA {c:Class} (h:clsB c=true):bndC c:=by
 simp only [clsB,Bool.and_eq_true,decide_eq_true_eq] at h
 refine ⟨by omega,by omega,by omega,by omega,fun k hk=>?_⟩
 have:=List.all_eq_true.1 h.2.2.2.1 k hk
 simp only [hokB,Bool.and_eq_true,decide_eq_true_eq] at this
 omega
theorem zIJ {fu:Nat} {l:List Op} (hf:l.length<fu) (hb:l.length<=9223372036854775807):∃b,zA7 fu l=some b:=by
 have:=zIL (L:=zBU l) l (fun o=>decide (o.S.length<=300)&&decide (o.T.length<=300)) (some true) (fun i hi k=>by
  simp only [zBU]
  rw [zBX (by simpa using hi),zCy hi,bnd_some,bnd_some,show decide (((l[i].S.length:Nat):Int)>300) = !decide (l[i].S.length<=300) from zHz _ 300,show decide (((l[i].T.length:Nat):Int)>300) = !decide (l[i].T.length<=300) from zHz _ 300,zBt (by omega),bnd_some]
  cases decide (l[i].S.length<=300)<;>cases decide (l[i].T.length<=300)<;>rfl) (fun k=>by simp only [zBU];rw [zAt (by simp)]) hf
 unfold zA7
 rw [this]
 cases l.all fun o=>decide (o.S.length<=300)&&decide (o.T.length<=300)
 ·exact ⟨_,rfl⟩
 ·exact ⟨_,rfl⟩
def shB (c:Class):Bool:=decide (c.Watch.length<=20)&&(decide (c.Hooks.length<=20)&&(decide (c.Peek.length<=80)&&(decide (c.Make.length<=80)&&c.Hooks.all fun h=>decide (h.Do.length<=80))))
theorem zQW {fu:Nat} {cs:List Class} (hf:1000<fu):zCP fu cs=some (decide (cs.length<=14)&&cs.all shB):=by
 unfold zCP
 rw [show decide (((cs.length:Nat):Int)>14) = !decide (cs.length<=14) from zHz _ 14,zGq]
 by_cases h:cs.length<=14
 ·rw [decide_eq_true h,cnd_true,Bool.true_and]
  have:=zIL (L:=zAk fu cs) cs shB (some true) (fun i hi k=>by
   simp only [zAk]
   rw [zBX (by simpa using hi),zCy hi,bnd_some]
   generalize cs[i]=c
   unfold shB
   rw [show decide (((c.Watch.length:Nat):Int)>20) = !decide (c.Watch.length<=20) from zHz _ 20,show decide (((c.Hooks.length:Nat):Int)>20) = !decide (c.Hooks.length<=20) from zHz _ 20,
    show decide (((c.Peek.length:Nat):Int)>80) = !decide (c.Peek.length<=80) from zHz _ 80,show decide (((c.Make.length:Nat):Int)>80) = !decide (c.Make.length<=80) from zHz _ 80]
   cases decide (c.Watch.length<=20) with
   | false=>rfl
   | true =>
   by_cases hh:c.Hooks.length<=20
   ·rw [decide_eq_true hh]
    cases decide (c.Peek.length<=80) with
    | false=>rfl
    | true =>
    cases decide (c.Make.length<=80) with
    | false=>rfl
    | true =>
     have:=zIL (L:=zBV (i:Int) c (zAk fu cs k)) c.Hooks (fun h=>decide (h.Do.length<=80)) (zAk fu cs k ((i+1:Nat):Int)) (fun j hj k2=>by
      simp only [zBV]
      rw [zBX (by simpa using hj),zCy hj,bnd_some,show decide (((c.Hooks[j].Do.length:Nat):Int)>80) = !decide (c.Hooks[j].Do.length<=80) from zHz _ 80,zBt (by omega)]
      cases decide (c.Hooks[j].Do.length<=80)<;>rfl) (fun k2=>by simp only [zBV];rw [zAt (by simp),zBt (by omega),bnd_some]) (show c.Hooks.length<fu by omega)
     simp only [Bool.not_true,cnd_false,Bool.true_and]
     rw [this]
   ·rw [decide_eq_false hh];rfl) (fun k=>by simp only [zAk];rw [zAt (by simp)]) (show cs.length<fu by omega)
  rw [this]
  cases cs.all shB<;>rfl
 ·rw [decide_eq_false h];rfl
theorem zQ2 {fu:Nat} {i:Nat} {c:Class} {rc:Int->Option Bool} (hf:1000<fu) (hi:i<=100) (hc:shB c=true) (hr:∃b,rc ((i+1:Nat):Int)=some b):∀(j n k:Nat),n+j=c.Hooks.length->j<k->∃b,zBm fu (i:Int) c rc k (n:Int)=some b
 | 0,n,k+1,hn,hk=>by
  simp only [shB,Bool.and_eq_true,decide_eq_true_eq] at hc
  rw [zBm,zAt (by simp;omega)]
  obtain ⟨b1,e1⟩:=zIJ (fu:=fu) (l:=c.Peek) (by omega) (by omega)
  obtain ⟨b2,e2⟩:=zIJ (fu:=fu) (l:=c.Make) (by omega) (by omega)
  rw [e1,bnd_some,e2]
  cases b1 with
  | false=>exact ⟨_,rfl⟩
  | true =>
  cases b2 with
  | false=>exact ⟨_,rfl⟩
  | true =>
   rw [Bool.not_true,cnd_false,bnd_some,Bool.not_true,cnd_false,zBt (by omega),bnd_some]
   exact hr
 | j+1,n,k+1,hn,hk=>by
  have hc':=hc
  simp only [shB,Bool.and_eq_true,decide_eq_true_eq] at hc'
  have hlt:n<c.Hooks.length:=by omega
  have hd:=List.all_eq_true.1 hc'.2.2.2.2 c.Hooks[n] (List.getElem_mem hlt)
  simp only [decide_eq_true_eq] at hd
  obtain ⟨b1,e1⟩:=zIJ (fu:=fu) (l:=c.Hooks[n].Do) (by omega) (by omega)
  rw [zBm,zBX (by simpa using hlt),zCy hlt,bnd_some,e1,bnd_some]
  cases b1 with
  | false=>exact ⟨_,rfl⟩
  | true =>
   rw [Bool.not_true,cnd_false,zBt (by omega),bnd_some]
   exact zQ2 hf hi hc hr j (n+1) k (by omega) (by omega)
theorem zQ1 {fu:Nat} {i:Nat} {c:Class} {rc:Int->Option Bool} (hf:1000<fu) (hi:i<=100) (hc:shB c=true) (hr:∃b,rc ((i+1:Nat):Int)=some b):∀(j n k:Nat),n+j=c.Watch.length->j<k->∃b,zBl fu (i:Int) c rc k (n:Int)=some b
 | 0,n,k+1,hn,hk=>by
  have hc':=hc
  simp only [shB,Bool.and_eq_true,decide_eq_true_eq] at hc'
  rw [zBl,zAt (by simp;omega)]
  exact zQ2 hf hi hc hr c.Hooks.length 0 fu (by omega) (by omega)
 | j+1,n,k+1,hn,hk=>by
  have hc':=hc
  simp only [shB,Bool.and_eq_true,decide_eq_true_eq] at hc'
  have hlt:n<c.Watch.length:=by omega
  rw [zBl,zBX (by simpa using hlt),zCy hlt,bnd_some]
  cases decide (((c.Watch[n].length:Nat):Int)>300) with
  | true=>exact ⟨_,rfl⟩
  | false =>
   rw [cnd_false,zBt (by omega),bnd_some]
   exact zQ1 hf hi hc hr j (n+1) k (by omega) (by omega)
theorem zQ0 {fu:Nat} {s:Script} (hf:1000<fu) (hs:s.Classes.length<=14) (hc:∀c∈s.Classes,shB c=true):∀(j n k:Nat),n+j=s.Classes.length->j<k->∃b,zBF fu s k (n:Int)=some b
 | 0,n,k+1,hn,hk=>by
  rw [zBF,zAt (by simp;omega)]
  exact ⟨_,rfl⟩
 | j+1,n,k+1,hn,hk=>by
  have hlt:n<s.Classes.length:=by omega
  have hcn:=hc _ (List.getElem_mem hlt)
  have hc':=hcn
  simp only [shB,Bool.and_eq_true,decide_eq_true_eq] at hc'
  rw [zBF,zBX (by simpa using hlt),zCy hlt,bnd_some]
  exact zQ1 hf (by omega) hcn (zQ0 hf hs hc j (n+1) k (by omega) (by omega)) s.Classes[n].Watch.length 0 fu (by omega) (by omega)
theorem few_m {fu:Nat} (hf:1000<fu) (s:Script):∃b,zCH fu s=some b:=by
 unfold zCH
 rw [zQW hf,bnd_some]
 cases h:decide (s.Classes.length<=14)&&s.Classes.all shB with
 | false=>exact ⟨_,rfl⟩
 | true =>
  simp only [Bool.and_eq_true,decide_eq_true_eq] at h
  rw [Bool.not_true,cnd_false,show decide (((s.Main.length:Nat):Int)>320) = !decide (s.Main.length<=320) from zHz _ 320]
  by_cases hm:s.Main.length<=320
  ·obtain ⟨b1,e1⟩:=zIJ (fu:=fu) (l:=s.Main) (by omega) (by omega)
   rw [decide_eq_true hm,Bool.not_true,cnd_false,e1,bnd_some]
   cases b1 with
   | false=>exact ⟨_,rfl⟩
   | true =>
    rw [Bool.not_true,cnd_false]
    exact zQ0 hf h.1 (fun c hc=>List.all_eq_true.1 h.2 c hc) s.Classes.length 0 fu (by omega) (by omega)
  ·rw [decide_eq_false hm];exact ⟨_,rfl⟩
theorem zOB {t:Bs} (h:t.length>16384):finP t=([],3):=if_pos h
theorem zRn {t:Bs} (h:¬t.length>16384):finP t=(t,0):=if_neg h
end Go.Proofs.YtoboimmgglnjfaaGreatDoor
/- ScriptMore: what stands behind a script's text. -/
namespace Go.Proofs.YtoboimmgglnjfaaGreatDoor
open Go Go.Pw
set_option linter.unusedVariables false
theorem zG0 (s:Script):(zDx s=true/\(putR s).length<=16384/\putA s=(putR s,0))\/∃e,e≠0/\putA s=([],e):=by
 unfold putA
 cases h:zDx s with
 | false=>exact .inr ⟨1,by decide,rfl⟩
 | true =>
  rw [if_pos rfl]
  by_cases hl:(putR s).length>16384
  ·exact .inr ⟨3,by decide,zOB hl⟩
  ·exact .inl ⟨rfl,by omega,zRn hl⟩
theorem zR0 {r8 r9 r10:Bs×Int} (h8:r8.2=0\/r8.1=[]) (h9:r9.2=0\/r9.1=[]) (h10:r10.2=0\/r10.1=[]):zAh r8 r9 r10 ()=some true:=by
 unfold zAh
 have k10:cnd (r10.2==0) (some true) (some (r10.1==([]:Bs)))=some true:=by
  rcases h10 with h | h
  ·rw [h];rfl
  ·rw [h];cases r10.2==0<;>rfl
 rw [k10]
 have k9:cnd (r9.2==0) (some true) (cnd (r9.1==([]:Bs)) (some true) (some false))=some true:=by
  rcases h9 with h | h
  ·rw [h];rfl
  ·rw [h];cases r9.2==0<;>rfl
 rw [k9]
 rcases h8 with h | h
 ·rw [h];rfl
 ·rw [h];cases r8.2==0<;>rfl
theorem zLe {s:Script} (h:(∃e,e≠0/\putA s=([],e))\/(putA s).2=0):(putA s).2=0\/(putA s).1=[]:=by
 rcases h with ⟨e,_,h⟩ | h
 ·rw [h];exact .inr rfl
 ·exact .inl h
theorem zR1 {fu:Nat} {x:Script} {c:Class} (hf:30000<fu) (hx:zDx x=true) (hlx:(putR x).length<=16384) (hc:zDx ⟨[c],[]⟩=true) (hlc:(putR ⟨[c],[]⟩).length<=16384):zAv fu x c (putR x,0) (putR ⟨[c],[]⟩,0) ()=some true:=by
 unfold zAv
 dsimp only
 obtain ⟨x1,x2,x3⟩:=zC5 hx
 obtain ⟨c1,c2,c3⟩:=zC5 hc
 rw [zIV (by omega),bnd_some,zLm hf,bnd_some,zBq]
 by_cases h12:((x.Classes.length:Nat):Int)=12
 ·rw [if_pos h12]
 ·rw [if_neg h12,zJk (by omega) (by omega),bnd_some,zC6]
  by_cases hl:(((putR x).length:Nat):Int)+(((putR ⟨[c],[]⟩).length:Nat):Int)>16384
  ·rw [if_pos hl]
  ·rw [if_neg hl]
   have hr:zLj (putR x++putR ⟨[c],[]⟩)=(⟨x.Classes++[c],x.Main⟩,0):=by
    rw [zJi,if_neg (by rw [List.length_append];omega),zFX hx]
    have ht:=zFX hc []
    rw [List.append_nil,show zDw []=[] from rfl,List.append_nil] at ht
    obtain ⟨y,g1,g2⟩:=zHX hx (x:=rs0) (m:=[]) (by simpa [rs0,Rs.cls] using x1) (by simpa using x3)
    obtain ⟨z,f1,f2⟩:=zHX hc (x:=y) (m:=[]++x.Main) (by rw [g2];simp [rs0,Rs.cls];omega) (by simpa using x3)
    rw [ht,zDM,g1]
    show finR (zCF (putL ⟨[c],[]⟩) (y,[]++x.Main))=_
    rw [f1]
    show ((⟨z.cls,([]++x.Main)++[]⟩:Script),(0:Int))=_
    rw [f2,g2,List.nil_append,List.append_nil]
    rfl
   rw [hr]
   show bnd (zDG 104 _) _=_
   rw [zCZ (by simp;omega),bnd_some,zCZ (by simp;omega),bnd_some]
   show bnd (zA0 fu ⟨x.Classes++[c],x.Main⟩ ⟨x.Classes++[c],x.Main⟩) _=_
   rw [zRL (s:=⟨x.Classes++[c],x.Main⟩) (by omega) (by simp;omega) (fun d hd=>by
    rcases List.mem_append.1 hd with h | h
    ·exact zLA (x2 d h)
    ·exact zLA (c2 d h)) (show x.Main.length<=900 by omega),bnd_some]
theorem scriptMore {x:Script} {l:List Op} {c:Class} (hl:l.length<=maxLen):∃fu,zA3 fu x l c=some true:=by
 refine ⟨40000+l.length,?_⟩
 generalize hfu:40000+l.length=fu
 have hf:30000<fu:=by omega
 have hm:maxLen=9223372036854775807:=rfl
 unfold zA3
 rw [zRW hf,bnd_some,Bool.not_true,cnd_false]
 obtain ⟨b1,e1⟩:=few_m (fu:=fu) (by omega) x
 obtain ⟨b2,e2⟩:=few_m (fu:=fu) (by omega) (⟨[c],[]⟩:Script)
 obtain ⟨b3,e3⟩:=zIJ (fu:=fu) (l:=l) (by omega) (by omega)
 rw [e1,bnd_some,e2]
 cases b1 with
 | false=>rfl
 | true =>
 rw [Bool.not_true,cnd_false,bnd_some]
 cases b2 with
 | false=>rfl
 | true =>
 rw [Bool.not_true,cnd_false,e3,bnd_some]
 cases b3 with
 | false=>rfl
 | true =>
 rw [Bool.not_true,cnd_false,show decide (((l.length:Nat):Int)>40) = !decide (l.length<=40) from zHz _ 40]
 by_cases h40:l.length<=40
 rotate_left
 ·rw [decide_eq_false h40];rfl
 rw [decide_eq_true h40,Bool.not_true,cnd_false,zMo (by omega),bnd_some,zMo (by omega),bnd_some,zMo (by omega),bnd_some]
 have d8:=zG0 x
 have d9:=zG0 ⟨[],l⟩
 have d10:=zG0 ⟨[c],[]⟩
 have hj1:zAh (putA x) (putA ⟨[],l⟩) (putA ⟨[c],[]⟩) ()=some true :=
  zR0 (zLe (d8.symm.imp_right fun h=>by rw [h.2.2])) (zLe (d9.symm.imp_right fun h=>by rw [h.2.2])) (zLe (d10.symm.imp_right fun h=>by rw [h.2.2]))
 rw [hj1]
 rcases d8 with ⟨hx,hlx,e8⟩ | ⟨e,he,e8⟩
 rotate_left
 ·rw [zBX (by rw [e8];simpa using he)]
 rcases d9 with ⟨hm9,hl9,e9⟩ | ⟨e,he,e9⟩
 rotate_left
 ·rw [zAt (by rw [e8];rfl),zBX (by rw [e9];simpa using he)]
 rcases d10 with ⟨hc,hlc,e10⟩ | ⟨e,he,e10⟩
 rotate_left
 ·rw [zAt (by rw [e8];rfl),zAt (by rw [e9];rfl),zBX (by rw [e10];simpa using he)]
 rw [zAt (by rw [e8];rfl),zAt (by rw [e9];rfl),zAt (by rw [e10];rfl),e8,e9,e10]
 dsimp only
 obtain ⟨x1,x2,x3⟩:=zC5 hx
 have hj2:=zR1 hf hx hlx hc hlc
 rw [zIV (by simp;omega),bnd_some,zIV (by simp;omega),bnd_some,zLm hf,bnd_some,zJk (by omega) (by omega),bnd_some,zJk (by omega) (by omega),bnd_some,zC6]
 have hlen:((putR x++([109,97,105,110]:Bs)++[10])++putR ⟨[],l⟩).length=(putR x).length+(putR ⟨[],l⟩).length+5:=by simp;omega
 have etxt:(putR x++[109,97,105,110,10])++putR ⟨[],l⟩=(putR x++([109,97,105,110]:Bs)++[10])++putR ⟨[],l⟩:=by simp
 rw [etxt]
 by_cases hlong:(((putR x).length:Nat):Int)+(((putR ⟨[],l⟩).length:Nat):Int)+5>16384
 ·rw [if_pos hlong,zJi,if_pos (by omega)]
  exact hj2
 ·rw [if_neg hlong,zJk (by omega) (by omega),bnd_some,zC6]
  obtain ⟨_,ho⟩:=zJw hm9
  obtain ⟨y,g1,g2⟩:=zHX hx (x:=rs0) (m:=[]) (by simpa [rs0,Rs.cls] using x1) (by simpa using x3)
  have hfm:=zKI (x:={ y with k:=0,most:=300 }) (m:=[]++x.Main) (l:=l) (by simpa using x3) ho
  have ht9:=zFX hm9 []
  rw [List.append_nil,show zDw []=[] from rfl,List.append_nil] at ht9
  have hrd:zLj ((putR x++([109,97,105,110]:Bs)++[10])++putR ⟨[],l⟩)=finR (zCF (opsL ([109,97,105,110]:Bs) l) ({ y with k:=0,most:=300 },[]++x.Main)):=by
   rw [zJi,if_neg (by omega),List.append_assoc,List.append_assoc,zFX hx,List.singleton_append,zIz _ (by decide),ht9,zDM,g1]
   show finR (match zEN (y,[]++x.Main) ([109,97,105,110]:Bs) with
    | some z=>zCF (putL ⟨[],l⟩) z
    | none=>none)=_
   rw [zKv]
   rfl
  rw [hrd]
  by_cases h300:(((x.Main.length:Nat):Int)+((l.length:Nat):Int))>300
  ·rw [if_pos h300]
   rw [if_neg (by simp;omega)] at hfm
   rw [hfm]
   exact hj2
  ·rw [if_neg h300]
   rw [if_pos (by simp;omega)] at hfm
   obtain ⟨z,f1,f2⟩:=hfm
   rw [f1]
   have hz:z.cls=x.Classes:=by
    rw [f2]
    exact g2.trans (by simp [rs0,Rs.cls])
   show cnd ((0:Int) != 0) _ _=_
   rw [zAt (by decide),zCZ (by simp;omega),bnd_some,zCZ (by simp;omega),bnd_some]
   show bnd (zA0 fu ⟨z.cls,([]++x.Main)++l⟩ ⟨x.Classes,([]++x.Main)++l⟩) _=_
   rw [hz,zRL (s:=⟨x.Classes,([]++x.Main)++l⟩) (by omega) (show x.Classes.length<=100 by omega) (fun d hd=>zLA (x2 d hd)) (show (([]++x.Main)++l).length<=900 by simp;omega),bnd_some,Bool.not_true,cnd_false]
   exact hj2
end Go.Proofs.YtoboimmgglnjfaaGreatDoor
