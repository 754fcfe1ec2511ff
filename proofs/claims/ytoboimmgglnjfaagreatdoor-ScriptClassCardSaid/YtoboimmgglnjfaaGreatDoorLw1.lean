/- Plain laws on the models, one behind the other. -/
import Derived.Test.YtoboimmgglnjfaaGreatDoorG
import Derived.Test.YtoboimmgglnjfaaGreatDoorPlain
import Derived.Test.YtoboimmgglnjfaaGreatDoorLine
import Derived.Lib.ItoaNum
import Derived.Lib.AtoiAll
import Derived.Test.YtoboimmgglnjfaaGreatDoorQuo
/- What the models of layer 1 (name) and of the reference for it come to. -/
namespace Go.Proofs.YtoboimmgglnjfaaGreatDoor
open Go Go.Pw
def lowB (b:UInt8):Bool:=decide (97<=b.toNat)&&decide (b.toNat<=122)
def upB (b:UInt8):Bool:=decide (65<=b.toNat)&&decide (b.toNat<=90)
def zJM (b:UInt8):Bool:=lowB b||upB b||(decide (48<=b.toNat)&&decide (b.toNat<=57))||decide (b.toNat=45)||decide (b.toNat=95)||decide (b.toNat=46)
def zRI (b:UInt8):Bool:=lowB b||upB b||decide (b.toNat=95)
def zFh (s:Bs):Bool:=decide (0<s.length)&&decide (s.length<=40)&&s.all zJM&&(match s with | []=>false | b::_=>zRI b)
def zJz (b:UInt8):UInt8:=if upB b then b+32 else b
theorem zMH (fu:Nat) (c:Int):zCp fu c=some (decide (97<=c)&&decide (c<=122)):=by
 unfold zCp;by_cases h:97<=c<;>simp [h]
theorem zGP (fu:Nat) (c:Int):zB1 fu c=some (decide (65<=c)&&decide (c<=90)):=by
 unfold zB1;by_cases h:65<=c<;>simp [h]
theorem end3 (c:Int):(if c=45 then some true else if c=95 then some true else some (c==46))=some (decide (c=45)||decide (c=95)||decide (c=46)):=by
 by_cases h1:c=45
 ·simp [h1]
 ·by_cases h2:c=95
  ·simp [h2]
  ·rw [if_neg h1,if_neg h2,decide_eq_false h1,decide_eq_false h2];rfl
theorem zOp (fu:Nat) (c:Int):zDA fu c=some ((decide (97<=c)&&decide (c<=122))||(decide (65<=c)&&decide (c<=90))||(decide (48<=c)&&decide (c<=57))||decide (c=45)||decide (c=95)||decide (c=46)):=by
 unfold zDA zCo
 simp only [zMH,zGP,bnd_some,zBf]
 by_cases h1:97<=c<;>by_cases h2:c<=122<;>by_cases h3:65<=c<;>by_cases h4:c<=90<;>by_cases h5:48<=c<;>by_cases h6:c<=57<;>simp [h1,h2,h3,h4,h5,h6]<;>(first | omega | exact end3 c)
theorem zLq (b:UInt8):(decide (97<=(b.toNat:Int))&&decide ((b.toNat:Int)<=122))=lowB b:=by
 unfold lowB;congr 1<;>exact decide_eq_decide.2 (by omega)
theorem zOy (b:UInt8):(decide (65<=(b.toNat:Int))&&decide ((b.toNat:Int)<=90))=upB b:=by
 unfold upB;congr 1<;>exact decide_eq_decide.2 (by omega)
theorem zOo (fu:Nat) (b:UInt8):zDA fu (b.toNat:Int)=some (zJM b):=by
 rw [zOp,zLq,zOy];unfold zJM
 congr 1
 have e1:(decide (48<=(b.toNat:Int))&&decide ((b.toNat:Int)<=57))=(decide (48<=b.toNat)&&decide (b.toNat<=57)):=by congr 1<;>exact decide_eq_decide.2 (by omega)
 have e2:decide ((b.toNat:Int)=45)=decide (b.toNat=45):=decide_eq_decide.2 (by omega)
 have e3:decide ((b.toNat:Int)=95)=decide (b.toNat=95):=decide_eq_decide.2 (by omega)
 have e4:decide ((b.toNat:Int)=46)=decide (b.toNat=46):=decide_eq_decide.2 (by omega)
 rw [e1,e2,e3,e4]
theorem zRw (fu:Nat) (c:Int) (h:128<=c):zDA fu c=some false:=by
 rw [zOp]
 simp only [decide_eq_false (show ¬c<=122 by omega),decide_eq_false (show ¬c<=90 by omega),decide_eq_false (show ¬c<=57 by omega),decide_eq_false (show ¬c=45 by omega),decide_eq_false (show ¬c=95 by omega),decide_eq_false (show ¬c=46 by omega),Bool.and_false,Bool.or_false]
theorem zJs {fu:Nat} {t:Int->Option Bool} {f:UInt8->Bool} {s:Bs} (ht:∀b∈s,b.toNat<128->t (b.toNat:Int)=some (f b)) (hi:(∀b∈s,b.toNat<128)\/∀r:Int,128<=r->t r=some true) (hf:s.length<fu) :
  zBs fu t s=some (s.any fun b=>decide (128<=b.toNat)||f b):=by
 have key:∃r,zAw t s true fu 0=some r/\decide (r>=0)=s.any fun b=>decide (128<=b.toNat)||f b:=by
  refine up (L:=zAw t s true) (Inv:=fun i x=>x=i/\∀(j:Nat) (h:j<s.length),j<i->(decide (128<=s[j].toNat)||f s[j])=false) (Fin:=fun v=>∃r,v=some r/\decide (r>=0)=s.any fun b=>decide (128<=b.toNat)||f b) s.length (fun i x hl ⟨hx,hj⟩=>?_) (fun x ⟨hx,hj⟩=>?_) (i:=0) ⟨rfl,fun j _ hj=>by omega⟩ (Nat.zero_le _) (by omega)
  ·subst hx
   by_cases hc:(decide (128<=s[x].toNat)||f s[x])=true
   ·refine .inl ⟨some (x:Int),⟨_,rfl,?_⟩,fun k=>?_⟩
    ·rw [decide_eq_true (by omega)]
     exact (List.any_eq_true.2 ⟨_,List.getElem_mem hl,hc⟩).symm
    ·simp only [zAw]
     rw [zCR (by simpa using hl)]
     by_cases hb:s[x].toNat<128
     ·rw [decide_eq_false (by omega),Bool.false_or] at hc
      rw [(zNP hl hb).1,ht _ (List.getElem_mem hl) hb,bnd_some,hc];rfl
     ·rcases hi with hi | hi
      ·exact absurd (hi _ (List.getElem_mem hl)) hb
      ·rw [hi _ (dec_hi hl (by omega))];rfl
   ·have hc':=Bool.eq_false_iff.2 hc
    have hb:s[x].toNat<128:=by
     rw [Bool.or_eq_false_iff,decide_eq_false_iff_not] at hc'
     omega
    refine .inr ⟨x+1,⟨rfl,fun j h hj'=>?_⟩,fun k=>?_⟩
    ·rcases Nat.lt_succ_iff_lt_or_eq.1 hj' with h' | h'
     ·exact hj j h h'
     ·subst h';exact hc'
    ·rw [Bool.or_eq_false_iff] at hc'
     simp only [zAw]
     rw [zCR (by simpa using hl),(zNP hl hb).1,ht _ (List.getElem_mem hl) hb,bnd_some,hc'.2,(zNP hl hb).2];rfl
  ·subst hx
   refine ⟨some (-1),⟨_,rfl,?_⟩,fun k=>?_⟩
   ·have:(s.any fun b=>decide (128<=b.toNat)||f b)=false:=by
     rw [List.any_eq_false]
     intro b hb
     obtain ⟨j,h,rfl⟩:=List.mem_iff_getElem.1 hb
     simpa using hj j h h
    rw [this];rfl
   ·simp only [zAw]
    rw [zBc (by simp)]
 obtain ⟨r,h1,h2⟩:=key
 unfold zBs zCl zCm
 rw [h1,bnd_some,bnd_some,h2]
theorem zNm (b:UInt8) (fu:Nat):(bnd (rng .i32 (b.toNat:Int)) fun i4=>bnd (zCp fu i4) fun r5=>cnd r5 (some true) (bnd (zB1 fu i4) fun r6=>cnd r6 (some true) (some (i4==95))))=some (zRI b):=by
 have hb:=b.toNat_lt
 rw [zKE (by simp only [lo,hi];omega),bnd_some,zMH,zGP,bnd_some,bnd_some,zLq,zOy]
 unfold zRI
 have e:((b.toNat:Int)==95)=decide (b.toNat=95):=by rw [Bool.eq_iff_iff];simp;omega
 rw [e]
 cases lowB b<;>cases upB b<;>rfl
theorem zO6 (s:Bs):(s.any fun b=>decide (128<=b.toNat) || !(zJM b)) = !(s.all zJM):=by
 rw [List.not_all_eq_any_not]
 congr 1
 funext b
 cases h:zJM b
 ·simp
 ·have:b.toNat<128:=by
   unfold zJM lowB upB at h
   simp only [Bool.or_eq_true,Bool.and_eq_true,decide_eq_true_eq] at h
   omega
  simp;omega
theorem zPz {fu:Nat} {s:Bs} (hfu:40<fu):zD2 fu s=some (zFh s):=by
 unfold zD2 zFh
 rw [zDX,zDX]
 by_cases h1:s.length<1
 ·rw [if_pos (by omega)];simp [show ¬0<s.length by omega]
 rw [if_neg (by omega)]
 by_cases h2:s.length>40
 ·rw [if_pos (by omega)];simp [show ¬s.length<=40 by omega]
 rw [if_neg (by omega),zJs (f:=fun b => !(zJM b)) (fun b _ _=>by unfold zBk;rw [zOo];rfl) (.inr fun r hr=>by unfold zBk;rw [zRw _ _ hr];rfl) (by omega),bnd_some,zO6,zHT]
 obtain ⟨b,t,rfl⟩:∃b t,s=b::t:=by cases s<;>simp_all
 rw [zPC]
 simp only [List.getElem?_cons_zero,Option.map_some,bnd_some]
 rw [zNm]
 rw [decide_eq_true (by omega),decide_eq_true (by omega)]
 cases (b::t).all zJM<;>simp
def lowI (y:Int):Int:=if 65<=y/\y<=90 then y+32 else y
theorem zOx (b:UInt8):upB b=true↔65<=b.toNat/\b.toNat<=90:=by unfold upB;simp
theorem zN0 (b:UInt8):lowI (b.toNat:Int)=((zJz b).toNat:Int):=by
 unfold lowI zJz
 by_cases h:upB b=true
 ·have:=(zOx b).1 h
  rw [if_pos (by omega),if_pos h,UInt8.toNat_add]
  simp;omega
 ·have:¬(65<=b.toNat/\b.toNat<=90):=fun h'=>h ((zOx b).2 h')
  rw [if_neg (by omega),if_neg h]
theorem zRx (s:Bs):zDk ((zAO s).map lowI)=s.map zJz:=by
 unfold zDk zAO
 rw [List.map_map,List.map_map]
 refine List.map_congr_left fun b _=>?_
 simp only [Function.comp,zN0,Int.toNat_natCast,UInt8.ofNat_toNat]
theorem zN5 {fu:Nat} {s:Bs} (hf:s.length<fu) (hb:s.length<=1000000):zD3 fu s=some (s.map zJz):=by
 unfold zD3
 rw [zDL (by omega),bnd_some]
 have hl:(zAO s).length=s.length:=by simp [zAO]
 have:=upf (L:=zCA fu s) (f:=fun i=>((i:Int),mix lowI (zAO s) i)) (v:=some (s.map zJz)) (zAO s).length (fun i hi k=>?_) (fun k=>?_) (by rw [hl];exact hf)
 ·simpa [zPd] using this
 ·simp only [zCA]
  rw [zCR (by simpa using hi),zQb lowI hi,bnd_some]
  have hy:(zAO s)[i]=((s[i]'(hl▸hi)).toNat:Int):=by simp [zAO]
  have hn:rng .i64 ((i:Int)+1)=some ((i+1:Nat):Int):=zCV (by omega)
  rw [<- zKu lowI hi]
  have hk:=zPc lowI hi
  rw [<- zKu lowI hi] at hk
  rw [hy] at hk ⊢
  have hb:=(s[i]'(hl▸hi)).toNat_lt
  generalize (s[i]'(hl▸hi)).toNat=n at hb hk
  rw [zKE (by simp only [lo,Go.Pw.hi];omega),bnd_some,zGP,bnd_some,hn]
  by_cases h:65<=(n:Int)/\(n:Int)<=90
  ·rw [zCR (by simp;omega),zKE (by simp only [lo,Go.Pw.hi];omega),bnd_some,zKE (by simp only [lo,Go.Pw.hi];omega),bnd_some,bnd_some,bnd_some]
   unfold lowI
   rw [if_pos h,show (n:Int) - 65+97=n+32 by omega]
  ·have e:lowI (n:Int)=n:=if_neg h
   rw [zBc (by simp;omega),bnd_some,<- hk e]
 ·simp only [zCA]
  rw [zBc (by simp),zRR,zRx]
def words:List Bs:=[[97,110,110,111,116,97,116,105,111,110,45,120,109,108],[99,111,108,111,114,45,112,114,111,102,105,108,101],[102,111,110,116,45,102,97,99,101],[102,111,110,116,45,102,97,99,101,45,115,114,99],[102,111,110,116,45,102,97,99,101,45,117,114,105],[102,111,110,116,45,102,97,99,101,45,102,111,114,109,97,116],[102,111,110,116,45,102,97,99,101,45,110,97,109,101],[109,105,115,115,105,110,103,45,103,108,121,112,104]]
theorem zGe {s:Bs} (h:zFh s=true):0<s.length/\s.length<=40:=by
 unfold zFh at h
 simp only [Bool.and_eq_true,decide_eq_true_eq] at h
 exact h.1.1
def fitB (s:Bs):Bool:=zFh s&&(s.map zJz==s)
theorem zQX {fu:Nat} {s:Bs} (hfu:200<fu):zEG fu s=some (if zFh s then (s.map zJz,0) else ([],4)):=by
 unfold zEG
 rw [zPz (by omega),bnd_some,zHT]
 cases hr:zFh s
 ·rfl
 ·have:=zGe hr
  rw [cnd_true,zN5 (by omega) (by omega),bnd_some];rfl
end Go.Proofs.YtoboimmgglnjfaaGreatDoor
/- Texts as bytes: lines, cuts at a sign, numbers as text and back. No program is named here. -/
namespace Go.Pw
open Go
theorem zGl:∀{l r:List UInt8},(10:UInt8)∉l->zBX (l++10::r)=(l++[10])::zBX r
 | [],r,_=>by simp [zBX]
 | b::l,r,h=>by
  have hb:¬b=10:=fun e=>h (by simp [e])
  have ih:=zGl (l:=l) (r:=r) (fun hm=>h (List.mem_cons_of_mem _ hm))
  rw [List.cons_append,zBX,if_neg hb,ih]
  rfl
theorem zGk:∀(s:List UInt8),(zBX s).flatten=s
 | []=>rfl
 | b::r=>by
  have ih:=zGk r
  rw [zBX]
  by_cases hb:b=10
  ·simp [hb,ih]
  ·rw [if_neg hb]
   cases h:zBX r with
   | nil=>rw [h] at ih;simp at ih;simp [<- ih]
   | cons l ls=>rw [h] at ih;simp at ih ⊢;exact ih
theorem zE7:∀(s l:List UInt8),l∈zBX s->(∃t,l=t++[10]/\(10:UInt8)∉t)\/(l≠[]/\(10:UInt8)∉l)
 | [],l,h=>by simp [zBX] at h
 | b::r,l,h=>by
  rw [zBX] at h
  by_cases hb:b=10
  ·simp only [hb,if_true,List.mem_cons] at h
   rcases h with rfl | h
   ·exact .inl ⟨[],rfl,by simp⟩
   ·exact zE7 r l h
  ·rw [if_neg hb] at h
   have ih:=zE7 r
   cases hr:zBX r with
   | nil =>
    rw [hr] at h;simp at h;subst h
    exact .inr ⟨by simp,by simpa using Ne.symm hb⟩
   | cons l0 ls =>
    rw [hr] at h ih
    simp only [List.mem_cons] at h
    rcases h with rfl | h
    ·rcases ih l0 (by simp) with ⟨t,rfl,ht⟩ | ⟨_,ht⟩
     ·exact .inl ⟨b::t,rfl,by simp [Ne.symm hb,ht]⟩
     ·exact .inr ⟨by simp,by simp [Ne.symm hb,ht]⟩
    ·exact ih l (by simp [h])
theorem zHe {α : Type}:∀{L:List (List α)} {l:List α},l∈L->l.length<=L.flatten.length
 | a::L,l,h=>by
  rcases List.mem_cons.1 h with rfl | h
  ·simp
  ·have:=zHe h
   rw [List.flatten_cons,List.length_append];omega
theorem zHh {s l:List UInt8} (h:l∈zBX s):l.length<=s.length:=by
 have:=zHe h
 rwa [zGk] at this
theorem zLk:∀{w r:List UInt8} {c:UInt8},c∉w->Lib.indexByte (w++c::r) c=(w.length:Nat)
 | [],r,c,_=>by simp [Lib.indexByte]
 | b::w,r,c,h=>by
  have hb:¬b=c:=fun e=>h (by simp [e])
  have ih:=zLk (w:=w) (r:=r) (c:=c) (fun hm=>h (List.mem_cons_of_mem _ hm))
  rw [List.cons_append,zFf,if_neg hb,ih,if_neg (by omega)]
  simp
theorem zLl {w:List UInt8} {c:UInt8} (h:c∉w):Lib.indexByte w c = -1:=by
 have:=zEB w c
 by_cases h0:0<=Lib.indexByte w c
 ·exact absurd (this.1.1 h0) h
 ·omega
theorem zMI {s:List UInt8} {c:UInt8} (h:c∈s):∃w r,s=w++c::r/\c∉w:=by
 induction s with
 | nil=>cases h
 | cons b s ih =>
  by_cases hb:b=c
  ·exact ⟨[],s,by simp [hb],by simp⟩
  ·obtain ⟨w,r,rfl,hw⟩:=ih (by simpa [Ne.symm hb] using h)
   exact ⟨b::w,r,rfl,by simp [Ne.symm hb,hw]⟩
theorem zJ4:∀(l r:List UInt8) (acc:Nat),Lib.parseUint10 acc (l++r)=match Lib.parseUint10 acc l with
  | .ok a=>Lib.parseUint10 a r
  | e=>e
 | [],r,acc=>by simp [Lib.parseUint10]
 | c::l,r,acc=>by
  simp only [List.cons_append,Lib.parseUint10]
  have ih:=zJ4 l r
  split
  ·split
   ·rfl
   ·split
    ·rfl
    ·exact ih _
  ·rfl
theorem zIn {d:Nat} (h:d<10):(UInt8.ofNat (48+d)).toNat=48+d:=by simp;omega
theorem zGo:∀(u:Nat),u<18446744073709551616->Lib.parseUint10 0 (Lib.decDigits u)=.ok u:=by
 intro u
 induction u using Nat.strongRecOn with
 | ind u ih =>
  intro hu
  rw [Lib.decDigits]
  by_cases h:u<10
  ·rw [dif_pos h]
   simp only [Lib.parseUint10,zIn h]
   rw [if_pos (by omega),if_neg (by omega),if_neg (by omega)]
   simp
  ·rw [dif_neg h,zJ4,ih (u / 10) (by omega) (by omega)]
   have hd:u % 10<10:=Nat.mod_lt _ (by omega)
   simp only [Lib.parseUint10,zIn hd]
   rw [if_pos (by omega),if_neg (by omega),if_neg (by omega)]
   congr 1
   omega
theorem zJe (u:Nat):Lib.decDigits u≠[]:=by
 rw [Lib.decDigits];split<;>simp
theorem zFO:∀(u:Nat) (b:UInt8),b∈Lib.decDigits u->48<=b.toNat/\b.toNat<=57:=by
 intro u
 induction u using Nat.strongRecOn with
 | ind u ih =>
  intro b hb
  rw [Lib.decDigits] at hb
  by_cases h:u<10
  ·rw [dif_pos h,List.mem_singleton] at hb
   subst hb
   rw [zIn h];omega
  ·rw [dif_neg h] at hb
   simp only [List.mem_append,List.mem_singleton] at hb
   rcases hb with hb | rfl
   ·exact ih _ (by omega) b hb
   ·have hd:u % 10<10:=Nat.mod_lt _ (by omega)
    rw [zIn hd];omega
theorem zPT {n:Int} {b:UInt8} (h:b∈Lib.itoa n):b=45\/48<=b.toNat/\b.toNat<=57:=by
 unfold Lib.itoa at h
 split at h
 ·simp only [List.mem_cons] at h
  rcases h with h | h
  ·exact .inl h
  ·exact .inr (zFO _ _ h)
 ·exact .inr (zFO _ _ h)
theorem zNp {n:Int} {c:UInt8} (h:c.toNat<45\/c.toNat=46\/c.toNat=47\/57<c.toNat):c∉Lib.itoa n:=fun hm=>by
 rcases zPT hm with h' | h'
 ·subst h';simp at h
 ·omega
theorem zMy {n:Int} (h1 : -9223372036854775808<=n) (h2:n<=9223372036854775807):Lib.atoiAll (Lib.itoa n)=.ok n:=by
 unfold Lib.itoa
 by_cases h:n<0
 ·rw [if_pos h]
  have hm:Lib.parseMag (Lib.decDigits n.natAbs)=.ok n.natAbs:=by
   unfold Lib.parseMag;rw [if_neg (zJe _),zGo _ (by omega)]
  simp only [Lib.atoiAll]
  rw [if_pos (by right;rfl),hm]
  simp only []
  rw [if_neg (by intro hh;exact hh.1 rfl),if_neg (by omega),if_pos (by rfl)]
  congr 1
  omega
 ·rw [if_neg h]
  cases hd:Lib.decDigits n.toNat with
  | nil=>exact absurd hd (zJe _)
  | cons c r =>
   have hc:=zFO n.toNat c (by rw [hd];simp)
   have hm:Lib.parseMag (c::r)=.ok n.toNat:=by
    unfold Lib.parseMag;rw [if_neg (by simp),<- hd,zGo _ (by omega)]
   simp only [Lib.atoiAll]
   rw [if_neg (by omega),hm]
   simp only []
   rw [if_neg (by omega),if_neg (by omega),if_neg (by omega)]
   congr 1
   omega
theorem zH5 (u:Nat):u<10 ^ 20->(Lib.decDigits u).length<=20:=by
 have key:∀(k u:Nat),u<10 ^ (k+1)->(Lib.decDigits u).length<=k+1:=by
  intro k
  induction k with
  | zero=>intro u h;rw [Lib.decDigits,dif_pos (by simpa using h)];simp
  | succ k ih =>
   intro u h
   rw [Lib.decDigits]
   split
   ·simp
   ·have:=ih (u / 10) (by rw [Nat.pow_succ] at h;omega)
    simp;omega
 exact key 19 u
theorem zPS {n:Int} (h1 : -9223372036854775808<=n) (h2:n<=9223372036854775807):(Lib.itoa n).length<=21:=by
 unfold Lib.itoa
 split
 ·have:=zH5 n.natAbs (by omega)
  simp;omega
 ·have:=zH5 n.toNat (by omega)
  omega
theorem zMO {s:List UInt8} {v:Int} (h:Lib.atoiAll s=.ok v) : -9223372036854775808<=v/\v<=9223372036854775807:=by
 unfold Lib.atoiAll at h
 split at h
 ·cases h
 ·simp only [] at h
  split at h
  ·cases h
  ·cases h
  ·split at h
   ·cases h
   ·split at h
    ·cases h
    ·cases h
     split<;>omega
end Go.Pw
/- Texts as bytes: texts in quotes and back; numbers without a digit to spare; pieces of a text behind a place. No program is named here. -/
namespace Go.Pw
open Go
theorem zJZ (s t:List UInt8):zAO (s++t)=zAO s++zAO t:=by simp [zAO]
theorem zM3 (b:UInt8):zAO [b]=[(b.toNat:Int)]:=rfl
theorem zHQ (s:List UInt8):(zAO s).length=s.length:=by simp [zAO]
theorem zOt (s:List UInt8):zDk (zAO s)=s:=by
 simp only [zDk,zAO,List.map_map]
 conv=>rhs;rw [<- List.map_id s]
 refine List.map_congr_left fun b _=>?_
 simp
theorem zFm (b c:UInt8):((b.toNat:Int)==(c.toNat:Int))=(b==c):=by
 rw [Bool.eq_iff_iff,beq_iff_eq,beq_iff_eq,<- UInt8.toNat_inj];omega
def inI (n:Int):Prop := -9223372036854775808<=n/\n<=9223372036854775807
theorem zLW {S r:List UInt8} {p:Nat} {c:UInt8} (h:S.drop p=c::r):chr S (p:Int)=some (c.toNat:Int):=by
 rw [zKc]
 have:S[p]? = some c:=by
  have h2:(S.drop p)[0]? = some c:=by rw [h];rfl
  simpa using h2
 rw [this];rfl
theorem zJh {S r:List UInt8} {p:Nat} {c:UInt8} (h:S.drop p=c::r):p<S.length/\S.drop (p+1)=r:=by
 have hl:=congrArg List.length h
 simp at hl
 exact ⟨by omega,by rw [<- List.drop_drop,h];rfl⟩
theorem zNW {S:List UInt8} {p:Nat} (h:p<S.length):∃c r,S.drop p=c::r:=⟨S[p],S.drop (p+1),List.drop_eq_getElem_cons h⟩
def unq:List UInt8->Option (List UInt8×List UInt8)
 | []=>none
 | [b]=>if b=34 then some ([],[]) else none
 | b::c::r=>if b=34 then some ([],c::r) else if b=92 then (if c=34\/c=92 then (unq r).map fun x=>(c::x.1,x.2) else none) else (unq (c::r)).map fun x=>(b::x.1,x.2)
theorem zLI (r:List UInt8):unq (34::r)=some ([],r):=by cases r<;>simp [unq]
theorem zLJ {c:UInt8} (h:c=34\/c=92) (r:List UInt8):unq (92::c::r)=(unq r).map fun x=>(c::x.1,x.2):=by simp [unq,h]
theorem zIZ {c:UInt8} (h:¬(c=34\/c=92)) (r:List UInt8):unq (92::c::r)=none:=by simp [unq,h]
theorem zHu:unq [92]=none:=by simp [unq]
theorem zLK {b:UInt8} (h1:b≠34) (h2:b≠92) (r:List UInt8):unq (b::r)=(unq r).map fun x=>(b::x.1,x.2):=by cases r<;>simp [unq,h1,h2]
theorem zRl:quoL []=[]:=rfl
theorem zGK (b:UInt8) (s:List UInt8):quoL (b::s)=quoB b++quoL s:=by simp [quoL]
theorem zL8 {b:UInt8} (h:b=34\/b=92):quoB b=[92,b]:=by rcases h with rfl | rfl<;>rfl
theorem zOb {b:UInt8} (h1:b≠34) (h2:b≠92):quoB b=[b]:=by simp [quoB,zBK,h1,h2]
theorem zOw:∀(s r:List UInt8),unq (quoL s++34::r)=some (s,r)
 | [],r=>zLI r
 | b::s,r=>by
  have ih:=zOw s r
  rw [zGK]
  by_cases h:b=34\/b=92
  ·rw [zL8 h]
   show unq (92::b::(quoL s++34::r))=_
   rw [zLJ h,ih];rfl
  ·have h1:b≠34:=fun e=>h (.inl e)
   have h2:b≠92:=fun e=>h (.inr e)
   rw [zOb h1 h2]
   show unq (b::(quoL s++34::r))=_
   rw [zLK h1 h2,ih];rfl
theorem zLA:∀(n:Nat) (t s r:List UInt8),t.length<=n->unq t=some (s,r)->t=quoL s++34::r
 | 0,t,s,r,hn,h=>by
  obtain rfl:=List.length_eq_zero_iff.1 (Nat.le_zero.1 hn)
  simp [unq] at h
 | n+1,[],s,r,hn,h=>by simp [unq] at h
 | n+1,b::t,s,r,hn,h=>by
  simp only [List.length_cons] at hn
  by_cases h1:b=34
  ·subst h1
   rw [zLI] at h
   cases h;rfl
  ·by_cases h2:b=92
   ·subst h2
    cases t with
    | nil=>rw [zHu] at h;cases h
    | cons c t =>
     by_cases h3:c=34\/c=92
     ·rw [zLJ h3] at h
      cases h4:unq t with
      | none=>rw [h4] at h;cases h
      | some x =>
       rw [h4] at h
       cases h
       have:=zLA n t x.1 x.2 (by simp at hn;omega) h4
       rw [zGK,zL8 h3]
       show 92::c::t=92::c::(quoL x.1++34::x.2)
       rw [<- this]
     ·rw [zIZ h3] at h;cases h
   ·rw [zLK h1 h2] at h
    cases h4:unq t with
    | none=>rw [h4] at h;cases h
    | some x =>
     rw [h4] at h
     cases h
     have:=zLA n t x.1 x.2 (by omega) h4
     rw [zGK,zOb h1 h2]
     show b::t=b::(quoL x.1++34::x.2)
     rw [<- this]
theorem zQn:∀(s:List UInt8),s.length<=(quoL s).length
 | []=>Nat.le_refl _
 | b::s=>by
  have:=zQn s
  rw [zGK,List.length_append,List.length_cons]
  have:1<=(quoB b).length:=by unfold quoB;split<;>simp
  omega
theorem zOc {c:UInt8}:∀{s:List UInt8},c∈quoL s->c=92\/c∈s
 | [],h=>by simp [zRl] at h
 | b::s,h=>by
  rw [zGK,List.mem_append] at h
  rcases h with h | h
  ·unfold quoB at h
   split at h
   ·simp at h;rcases h with h | h
    ·exact .inl h
    ·exact .inr (by simp [h])
   ·simp at h;exact .inr (by simp [h])
  ·rcases zOc h with h | h
   ·exact .inl h
   ·exact .inr (by simp [h])
def val (l:List UInt8):Nat:=l.foldl (fun a c=>a*10+(c.toNat - 48)) 0
def isD (c:UInt8):Prop:=48<=c.toNat/\c.toNat<=57
instance (c:UInt8):Decidable (isD c):=by unfold isD;infer_instance
theorem zHU:∀(k u:Nat),u<10 ^ (k+1)->(Lib.decDigits u).length<=k+1:=by
 intro k
 induction k with
 | zero=>intro u h;rw [Lib.decDigits,dif_pos (by simpa using h)];simp
 | succ k ih =>
  intro u h
  rw [Lib.decDigits]
  split
  ·simp
  ·have:=ih (u / 10) (by rw [Nat.pow_succ] at h;omega)
   simp;omega
end Go.Pw
/- Operations: the library's functions on texts, the words and the fields of all kinds, and which operations are right. -/
namespace Go.Proofs.YtoboimmgglnjfaaGreatDoor
open Go Go.Pw
set_option linter.unusedVariables false
theorem zKf {fu:Nat} {w r:Bs} {c:UInt8} (hw:c∉w) (hl:(w++c::r).length<=1000000000):zAg fu (w++c::r) [c]=some (w,r,true):=by
 simp only [List.length_append,List.length_cons] at hl
 unfold zAg zBM
 simp only [zFT,bnd_some]
 rw [zLk hw,show decide (((w.length:Nat):Int)>=0)=true from by simp,cnd_true,show (0:Int)=((0:Nat):Int) from rfl,zC5 (by omega) (by simp),bnd_some,
  show ((w.length:Nat):Int)+(([c].length:Nat):Int)=((w.length+1:Nat):Int) from by simp,zJI (by omega) (by omega),bnd_some,zC5 (by simp) (by simp),bnd_some,bnd_some]
 simp
 exact List.take_of_length_le (by omega)
theorem zNM {fu:Nat} {s:Bs} {c:UInt8} (hs:c∉s):zAg fu s [c]=some (s,[],false):=by
 unfold zAg zBM
 simp only [zFT,bnd_some]
 rw [zLl hs]
 rfl
theorem zNL {fu:Nat} {s:Bs} (c:UInt8) (hl:s.length<=1000000000):∃w r b,zAg fu s [c]=some (w,r,b)/\w.length<=s.length/\r.length<=s.length:=by
 by_cases h:c∈s
 ·obtain ⟨w,r,rfl,hw⟩:=zMI h
  exact ⟨w,r,true,zKf hw hl,by simp,by simp;omega⟩
 ·exact ⟨s,[],false,zNM h,Nat.le_refl _,by simp⟩
theorem zK4 {fu:Nat} {c:UInt8}:zAM fu [] [c]=some ([],false):=by
 unfold zAM zA1 zAU
 rfl
theorem zHB {fu:Nat} {b c:UInt8} {r:Bs} (hl:r.length<=1000000000):zAM fu (b::r) [c]=some (if b=c then (r,true) else (b::r,false)):=by
 unfold zAM zA1 zAU
 rw [show decide ((((b::r).length:Nat):Int)>=(([c].length:Nat):Int))=true from by simp;omega,cnd_true]
 rw [show (0:Int)=((0:Nat):Int) from rfl,zC5 (by omega) (by simp),bnd_some,bnd_some]
 rw [show (((b::r).drop 0).take ([c].length - 0)==[c])=decide (b=c) from by simp [Bool.beq_eq_decide_eq]]
 by_cases h:b=c
 ·rw [if_pos h]
  simp only [h,decide_true,Bool.not_true,cnd_false]
  rw [zC5 (by simp) (by simp),bnd_some,bnd_some]
  simp
 ·rw [if_neg h]
  simp [h]
theorem zK2 {fu:Nat} {s:Bs} {c:UInt8} (hl:s.length<=1000000000):∃r b,zAM fu s [c]=some (r,b)/\r.length<=s.length:=by
 cases s with
 | nil=>exact ⟨_,_,zK4,Nat.le_refl _⟩
 | cons b s =>
  rw [zHB (by simp at hl;omega)]
  by_cases h:b=c
  ·rw [if_pos h];exact ⟨_,_,rfl,by simp⟩
  ·rw [if_neg h];exact ⟨_,_,rfl,Nat.le_refl _⟩
theorem zPQ {fu:Nat} {c:UInt8}:zBN fu [] [c]=some false:=by
 unfold zBN zAU
 rfl
theorem zNk {fu:Nat} {b c:UInt8} {r:Bs}:zBN fu (b::r) [c]=some (decide (b=c)):=by
 unfold zBN zAU
 rw [show decide ((((b::r).length:Nat):Int)>=(([c].length:Nat):Int))=true from by simp;omega,cnd_true]
 rw [show (0:Int)=((0:Nat):Int) from rfl,zC5 (by omega) (by simp),bnd_some,bnd_some]
 simp [Bool.beq_eq_decide_eq]
theorem zKo {fu:Nat} {l:List Bs} {v:Bs} (hl:l.length<fu) (hb:l.length<=1000000000):zAf fu l v=match (List.range l.length).find? fun i=>v==l.getD i [] with
  | some i=>some (i:Int)
  | none=>some (-1):=by
 unfold zAf
 have at_:∀i,i<l.length->∀k,zAl l v (k+1) (i:Int)=cnd (v==l.getD i []) (some (i:Int)) (zAl l v k ((i+1:Nat):Int)):=fun i hi k=>by
  rw [zAl,show decide ((i:Int)<((l.length:Nat):Int))=true from by simpa using hi,cnd_true,zEq hi,bnd_some,zCV (by omega),bnd_some]
  simp [List.getD,hi]
 exact zR5 (L:=zAl l v) (fun i=>v==l.getD i []) (fun i=>some (i:Int)) (some (-1)) l.length
  (fun i hi hp k=>by rw [at_ i hi k,hp,cnd_true]) (fun i hi hp k=>by rw [at_ i hi k,hp,cnd_false]) (fun k=>by
   rw [zAl,show decide (((l.length:Nat):Int)<((l.length:Nat):Int))=false from by simp,cnd_false]) hl
theorem wstr {fu:Nat} {s t:Bs} (h:t.length+s.length<=1000000000):zAF fu s (zAO t)=some (((s.length:Nat):Int),false,zAO (t++s)):=by
 unfold zAF
 simp only [zAY,bnd_some]
 rw [zHQ,zDL (by omega),bnd_some,zJZ]
theorem zR6 {fu:Nat} {b:UInt8} {t:Bs} (h:t.length<1000000000):zAn fu (b.toNat:Int) (zAO t)=some (false,zAO (t++[b])):=by
 unfold zAn
 simp only [zAY,bnd_some]
 rw [zHQ,zDL (by simp;omega),bnd_some,zJZ,zM3]
theorem bstr {fu:Nat} {t:Bs}:zAV fu (zAO t)=some t:=congrArg some (zOt t)
def wordsL:List Bs:=[[45],[110,101,119],[100,114,97,102,116],[116,101,120,116],[102,114,97,103],[115,104,97,100,101],[112,117,116],[111,117,116],[115,119,97,112],[115,101,116],[117,110,115,101,116],[116,111,103,103,108,101],[99,111,112,121],[116,97,107,101],[101,109,112,116,121],[106,111,105,110],[100,101,102,105,110,101],[119,97,105,116],[117,112,103,114,97,100,101],[98,117,105,108,100],[115,117,112,101,114],[103,105,118,101],[116,104,114,111,119],[114,101,115,101,116],[114,101,115,116,111,114,101],[114,101,115,116],[104,97,110,100,112,117,116],[104,97,110,100,111,117,116],[104,97,110,100,115,101,116]]
theorem zOz (fu:Nat):zFK fu=some wordsL:=by kernel_rfl
def Knd (k:Int):Prop:=0<k/\k<=28
instance (k:Int):Decidable (Knd k):=by unfold Knd;infer_instance
def wd (k:Int):Bs:=if Knd k then wordsL.getD k.toNat [] else []
def fieldsL:List Bs:=[[110,46,46,46,46],[110,46,46,115,115],[110,46,46,115,115],[110,46,46,115,46],[110,46,46,46,46],[110,46,46,46,46],[110,110,111,46,46],[110,46,46,46,46],[110,110,111,46,46],[110,46,46,115,115],[110,46,46,115,46],[110,105,46,115,46],[110,105,110,46,46],[110,110,46,46,46],[110,46,46,46,46],[110,46,46,46,46],[105,46,46,115,115],[46,46,46,115,46],[110,46,46,46,46],[105,46,46,46,46],[46,46,46,46,46],[110,46,46,46,46],[46,46,46,46,46],[110,46,46,46,46],[110,46,46,115,46],[46,46,46,46,46],[110,110,111,46,46],[110,46,46,46,46],[110,46,46,115,115]]
def fd (k:Int):Bs:=if Knd k then fieldsL.getD k.toNat [] else [110,46,46,46,46]
theorem zHc {k:Int} (h:Knd k):k=1\/k=2\/k=3\/k=4\/k=5\/k=6\/k=7\/k=8\/k=9\/k=10\/k=11\/k=12\/k=13\/k=14\/k=15\/k=16\/k=17\/k=18\/k=19\/k=20\/k=21\/k=22\/k=23\/k=24\/k=25\/k=26\/k=27\/k=28:=by
 unfold Knd at h;omega
theorem zQs (fu:Nat) (k:Int):zBy fu k=some (wd k):=by
 unfold zBy
 rw [zOz,bnd_some]
 by_cases h:Knd k
 ·have hw:wd k=wordsL.getD k.toNat []:=if_pos h
  rw [hw]
  obtain ⟨h1,h2⟩:=h
  obtain ⟨n,rfl⟩:∃n:Nat,k=(n:Int):=⟨k.toNat,by omega⟩
  rw [show decide ((n:Int)>0)=true from by simpa using h1,cnd_true,show decide ((n:Int)<((wordsL.length:Nat):Int))=true from by simp [wordsL];omega,cnd_true]
  have hl:n<wordsL.length:=by simp [wordsL];omega
  rw [zEq hl,bnd_some]
  simp [List.getD,hl]
 ·rw [wd,if_neg h]
  unfold Knd at h
  by_cases h1:k>0
  ·rw [show decide (k>0)=true from by simpa using h1,cnd_true,show decide (k<((wordsL.length:Nat):Int))=false from by simp [wordsL];omega,cnd_false]
  ·rw [show decide (k>0)=false from by simpa using h1,cnd_false]
theorem zNi (fu:Nat) (k:Int):zCk fu k=some (⟨wd k,fd k⟩,decide (Knd k)):=by
 by_cases h:Knd k
 ·rw [show decide (Knd k)=true from by simpa using h]
  rcases zHc h with rfl | rfl | rfl | rfl | rfl | rfl | rfl | rfl | rfl | rfl | rfl | rfl | rfl | rfl | rfl | rfl | rfl | rfl | rfl | rfl | rfl | rfl | rfl | rfl | rfl | rfl | rfl | rfl <;>
   simp [zCk,zCK,zCq,zCr,zCs,zQs,fd,fieldsL,Knd]
 ·rw [show decide (Knd k)=false from by simpa using h,fd,if_neg h]
  unfold Knd at h
  have e:∀j:Int,0<j->j<=28->(k==j)=false:=fun j h1 h2=>beq_false_of_ne (fun e=>h (by omega))
  simp only [zCk,zCK,zCq,zCr,zCs,zQs,bnd_some,
   e 1 (by decide) (by decide),e 2 (by decide) (by decide),e 3 (by decide) (by decide),e 6 (by decide) (by decide),e 8 (by decide) (by decide),e 9 (by decide) (by decide),e 10 (by decide) (by decide),e 11 (by decide) (by decide),e 12 (by decide) (by decide),e 13 (by decide) (by decide),e 16 (by decide) (by decide),e 17 (by decide) (by decide),e 19 (by decide) (by decide),e 20 (by decide) (by decide),e 22 (by decide) (by decide),e 24 (by decide) (by decide),e 25 (by decide) (by decide),e 26 (by decide) (by decide),e 28 (by decide) (by decide),cnd_false]
  by_cases h1:k>0
  ·rw [show decide (k>0)=true from by simpa using h1,cnd_true,show decide (k<=28)=false from by simp;omega]
  ·rw [show decide (k>0)=false from by simpa using h1,cnd_false]
def fc (k:Int) (i:Nat):UInt8:=(fd k).getD i 0
theorem fd_len (k:Int):(fd k).length=5:=by
 unfold fd
 split
 ·rename_i h
  rcases zHc h with rfl | rfl | rfl | rfl | rfl | rfl | rfl | rfl | rfl | rfl | rfl | rfl | rfl | rfl | rfl | rfl | rfl | rfl | rfl | rfl | rfl | rfl | rfl | rfl | rfl | rfl | rfl | rfl<;>rfl
 ·rfl
theorem zEU {k:Int} {i:Nat} (hi:i<5):chr (fd k) (i:Int)=some ((fc k i).toNat:Int):=by
 have:i<(fd k).length:=by rw [fd_len];exact hi
 rw [zQS this,fc,List.getD_eq_getElem?_getD,List.getElem?_eq_getElem this];rfl
theorem zF6 (k:Int) {i:Nat} (hi:i<3):fc k i=110\/fc k i=111\/fc k i=105\/fc k i=46:=by
 have key:∀j:Fin 29,∀i:Fin 3,(fieldsL.getD j.1 []).getD i.1 0=110\/(fieldsL.getD j.1 []).getD i.1 0=111\/(fieldsL.getD j.1 []).getD i.1 0=105\/(fieldsL.getD j.1 []).getD i.1 0=46:=by decide
 unfold fc fd
 split
 ·rename_i h
  exact key ⟨k.toNat,by unfold Knd at h;omega⟩ ⟨i,hi⟩
 ·exact key ⟨0,by omega⟩ ⟨i,hi⟩
theorem zH7 (k:Int) {i:Nat} (h3:3<=i) (hi:i<5):fc k i=115\/fc k i=46:=by
 have key:∀j:Fin 29,∀i:Fin 5,3<=i.1->(fieldsL.getD j.1 []).getD i.1 0=115\/(fieldsL.getD j.1 []).getD i.1 0=46:=by decide
 unfold fc fd
 split
 ·rename_i h
  exact key ⟨k.toNat,by unfold Knd at h;omega⟩ ⟨i,hi⟩ h3
 ·exact key ⟨0,by omega⟩ ⟨i,hi⟩ h3
def fit (f:UInt8) (n:Int):Bool :=
 if f=105 then decide (-1000<=n/\n<=1000) else if f=110\/f=111 then decide (n = -2\/n = -3\/0<=n/\n<400\/f=111/\n = -1) else decide (n=0)
def fitT (f:UInt8) (s:Bs):Bool:=if f=115 then decide (s.length<=200/\(10:UInt8)∉s) else decide (s=[])
def zFE (o:Op):Bool:=decide (Knd o.Kind)&&(fit (fc o.Kind 0) o.A&&(fit (fc o.Kind 1) o.B&&(fit (fc o.Kind 2) o.C&&(fitT (fc o.Kind 3) o.S&&fitT (fc o.Kind 4) o.T))))
theorem zQW (n:Int):zEK n ()=some (decide (n = -2\/n = -3\/0<=n/\n<400)):=by
 unfold zEK
 simp only [zBf,zDX]
 by_cases h1:n = -2
 ·simp [h1]
 by_cases h2:n = -3
 ·simp [h2]
 by_cases h3:n>=0
 ·rw [if_neg h1,if_neg h2,if_pos h3]
  congr 1
  rw [decide_eq_decide]
  omega
 ·rw [if_neg h1,if_neg h2,if_neg h3,eq_comm,decide_eq_false]
  omega
theorem zRG (fu:Nat) {f:UInt8} (hf:f=110\/f=111\/f=105\/f=46) (n:Int):zFJ fu (f.toNat:Int) n=some (fit f n):=by
 unfold zFJ
 rcases hf with rfl | rfl | rfl | rfl
 ·show cnd false _ (cnd true (zEK n ()) _)=_
  rw [cnd_false,cnd_true,zQW]
  congr 1
  simp [fit]
 ·show cnd true _ _=_
  rw [cnd_true,zBf,zQW]
  by_cases h:n = -1
  ·rw [if_pos h];simp [fit,h]
  ·rw [if_neg h];congr 1;simp [fit,h]
 ·show cnd false _ (cnd false _ (cnd true _ _))=_
  rw [cnd_false,cnd_false,cnd_true,zDX]
  by_cases h:n >= -1000
  ·rw [if_pos h];congr 1;simp [fit];omega
  ·rw [if_neg h];congr 1;simp [fit];omega
 ·show cnd false _ (cnd false _ (cnd false _ _))=_
  rw [cnd_false,cnd_false,cnd_false]
  congr 1
theorem has_m (fu:Nat) (s:Bs) (c:UInt8):zCG fu s [c]=some (decide (c∈s)):=by
 unfold zCG zDs
 simp only [zFT,bnd_some]
 congr 1
 by_cases h:c∈s
 ·have:=(zEB s c).1.2 h
  simp [h];omega
 ·rw [zLl h];simp [h]
theorem zJl (fu:Nat) {f:UInt8} (hf:f=115\/f=46) (s:Bs):zCJ fu (f.toNat:Int) s=some (fitT f s):=by
 unfold zCJ
 rcases hf with rfl | rfl
 ·show cnd true _ _=_
  rw [cnd_true,zDX,has_m,bnd_some]
  by_cases h:(s.length:Int)<=200
  ·rw [if_pos h];congr 1
   simp [fitT]
   omega
  ·rw [if_neg h];congr 1
   simp [fitT]
   intro h2;omega
 ·show cnd false _ _=_
  rw [cnd_false]
  congr 1
  cases s<;>rfl
theorem zOg (fu:Nat) (o:Op):zDm fu o=some (zFE o):=by
 unfold zDm
 simp only [zNi,bnd_some,zCL]
 have j2:∀b ok:Bool,zDB fu o (⟨wd o.Kind,fd o.Kind⟩,b) ok=some (ok&&(fitT (fc o.Kind 3) o.S&&fitT (fc o.Kind 4) o.T)):=fun b ok=>by
  unfold zDB
  simp only [zCX,bnd_some]
  cases ok with
  | false=>rfl
  | true =>
   rw [cnd_true,show rng .i64 (3+0)=some ((3:Nat):Int) from rfl,bnd_some,zEU (by omega),bnd_some,zJl fu (zH7 _ (by omega) (by omega)),bnd_some]
   cases fitT (fc o.Kind 3) o.S with
   | false=>rfl
   | true =>
    rw [cnd_true,show rng .i64 (3+1)=some ((4:Nat):Int) from rfl,bnd_some,zEU (by omega),bnd_some,zJl fu (zH7 _ (by omega) (by omega)),bnd_some]
    rfl
 have j1:∀b ok:Bool,zDq fu o (⟨wd o.Kind,fd o.Kind⟩,b) ok=some (ok&&(fit (fc o.Kind 1) o.B&&(fit (fc o.Kind 2) o.C&&(fitT (fc o.Kind 3) o.S&&fitT (fc o.Kind 4) o.T)))):=fun b ok=>by
  unfold zDq
  cases ok with
  | false=>rw [cnd_false,j2];rfl
  | true =>
   rw [cnd_true,show (1:Int)=((1:Nat):Int) from rfl,zEU (by omega),bnd_some,zRG fu (zF6 _ (by omega)),bnd_some]
   cases fit (fc o.Kind 1) o.B with
   | false=>rw [cnd_false,j2];rfl
   | true =>
    rw [cnd_true,show (2:Int)=((2:Nat):Int) from rfl,zEU (by omega),bnd_some,zRG fu (zF6 _ (by omega)),bnd_some,j2]
    rfl
 unfold zFE
 cases hk:decide (Knd o.Kind) with
 | false=>rw [cnd_false,j1];rfl
 | true =>
  rw [cnd_true,show (0:Int)=((0:Nat):Int) from rfl,zEU (by omega),bnd_some,zRG fu (zF6 _ (by omega)),bnd_some,j1]
  rfl
end Go.Proofs.YtoboimmgglnjfaaGreatDoor
/- An operation's text, and what op.Put comes to. -/
namespace Go.Proofs.YtoboimmgglnjfaaGreatDoor
open Go Go.Pw
set_option linter.unusedVariables false
def tl (l:List Bs):Bs:=l.flatMap fun f=>32::f
theorem zDe:tl []=[]:=rfl
theorem zDI (f:Bs) (l:List Bs):tl (f::l)=32::(f++tl l):=rfl
theorem zKP (l m:List Bs):tl (l++m)=tl l++tl m:=by simp [tl]
def zOn:Bs:=[115,101,108,102]
def zNt:Bs:=[108,97,115,116]
def numW (f:UInt8) (n:Int):Bs:=if f=105\/0<=n then Lib.itoa n else if n = -1 then [45] else if n = -2 then zOn else zNt
def numL (f:UInt8) (n:Int):List Bs:=if f=46 then [] else [numW f n]
def qS (s:Bs):Bs:=34::quoL s++[34]
def txtL (f:UInt8) (s:Bs):List Bs:=if f=115 then [qS s] else []
def zGf (o:Op):List Bs:=txtL (fc o.Kind 3) o.S++txtL (fc o.Kind 4) o.T
def zC3 (o:Op):List Bs:=numL (fc o.Kind 0) o.A++(numL (fc o.Kind 1) o.B++(numL (fc o.Kind 2) o.C++zGf o))
def bang (b:Bool):Bs:=if b then [33] else []
def putP (o:Op):Bs:=bang o.Must++(wd o.Kind++tl (zC3 o))
theorem zQq (k:Int):(wd k).length<=7:=by
 have key:∀j:Fin 29,(wordsL.getD j.1 []).length<=7:=by decide
 unfold wd
 split
 ·rename_i h
  exact key ⟨k.toNat,by unfold Knd at h;omega⟩
 ·simp
theorem zDu {f:UInt8} {n:Int} (h:fit f n=true) : -1000<=n/\n<=1000:=by
 unfold fit at h
 split at h
 ·simpa using h
 ·split at h
  ·simp at h;omega
  ·simp at h;omega
theorem zIC {n:Int} (h1 : -1000<=n) (h2:n<=1000):(Lib.itoa n).length<=5:=by
 unfold Lib.itoa
 split
 ·have:=zHU 3 n.natAbs (by omega)
  simp;omega
 ·have:=zHU 3 n.toNat (by omega)
  omega
theorem zPe {f:UInt8} {n:Int} (h1 : -1000<=n) (h2:n<=1000):(numW f n).length<=5:=by
 unfold numW
 split
 ·exact zIC h1 h2
 ·split
  ·simp
  ·split<;>simp [zOn,zNt]
theorem zFV {f:UInt8} {n:Int} (h1 : -1000<=n) (h2:n<=1000):(tl (numL f n)).length<=6:=by
 unfold numL
 split
 ·simp [zDe]
 ·have:=zPe (f:=f) h1 h2
  simp [zDI,zDe];omega
theorem zOY (s:Bs):(qS s).length<=2*s.length+2:=by
 have:=zGL s
 simp [qS];omega
theorem zJP (f:UInt8) (s:Bs):(tl (txtL f s)).length<=2*s.length+3:=by
 unfold txtL
 split
 ·have:=zOY s
  simp [zDI,zDe];omega
 ·simp [zDe]
theorem zKp {fu:Nat} {n:Int} (h:inI n):zIB fu n=some (Lib.itoa n):=if_pos h
theorem zI4 {fu:Nat} {f:UInt8} {n:Int} {t:Bs} (hf:f=110\/f=111\/f=105\/f=46) (h1 : -1000<=n) (h2:n<=1000) (ht:t.length<=1000000) :
  zBC fu (f.toNat:Int) n (zAO t)=some (zAO (t++tl (numL f n))):=by
 have hl:=zIC h1 h2
 have j1:∀b:Bool,(b=true↔f=105\/0<=n)->zBm fu n (zAO t) b=some (zAO (t++32::numW f n)):=fun b hb=>by
  unfold zBm numW
  cases b with
  | true =>
   rw [if_pos (hb.1 rfl),cnd_true,zKp ⟨by omega,by omega⟩,bnd_some,zFe (by simp;omega),bnd_some,wstr (by simp;omega),bnd_some]
   rfl
  | false =>
   rw [if_neg (fun h=>by have:=hb.2 h;cases this),cnd_false,zBf,zBf]
   by_cases e1:n = -1
   ·rw [if_pos e1,if_pos e1]
    show bnd (zAF fu [32,45] (zAO t)) _=_
    rw [wstr (by simp;omega)];rfl
   ·rw [if_neg e1,if_neg e1]
    by_cases e2:n = -2
    ·rw [if_pos e2,if_pos e2,wstr (by simp;omega)];rfl
    ·rw [if_neg e2,if_neg e2,wstr (by simp;omega)];rfl
 unfold zBC numL
 rcases hf with rfl | rfl | rfl | rfl
 ·show cnd false _ (cnd false _ _)=_
  rw [cnd_false,cnd_false,j1 _ (by simp),if_neg (by decide)]
  simp [zDI,zDe]
 ·show cnd false _ (cnd false _ _)=_
  rw [cnd_false,cnd_false,j1 _ (by simp),if_neg (by decide)]
  simp [zDI,zDe]
 ·show cnd false _ (cnd true (zBm fu n (zAO t) true) _)=_
  rw [cnd_false,cnd_true,j1 true (by simp),if_neg (by decide)]
  simp [zDI,zDe]
 ·show cnd true _ _=_
  rw [cnd_true,if_pos rfl]
  simp [zDe]
theorem zMA {fu:Nat} {s:Bs} (h:s.length<=1000000):zGc fu s=some (qS s):=by
 unfold zGc;rw [if_pos (by omega)];rfl
structure RightP (o:Op):Prop where
 kind:Knd o.Kind
 a:fit (fc o.Kind 0) o.A=true
 b:fit (fc o.Kind 1) o.B=true
 c:fit (fc o.Kind 2) o.C=true
 s:fitT (fc o.Kind 3) o.S=true
 t:fitT (fc o.Kind 4) o.T=true
theorem right_iff {o:Op}:zFE o=true↔RightP o:=by
 unfold zFE
 simp only [Bool.and_eq_true,decide_eq_true_eq]
 exact ⟨fun h=>⟨h.1,h.2.1,h.2.2.1,h.2.2.2.1,h.2.2.2.2.1,h.2.2.2.2.2⟩,fun h=>⟨h.kind,h.a,h.b,h.c,h.s,h.t⟩⟩
theorem zFP {f:UInt8} {s:Bs} (h:fitT f s=true):s.length<=200/\(10:UInt8)∉s:=by
 unfold fitT at h
 split at h
 ·simpa using h
 ·simp at h;subst h;simp
theorem zQi {fu:Nat} {o:Op} {b:Bool} {t:Bs} (ho:o.T.length<=200) (ht:t.length<=10000) :
  zEv fu o (⟨wd o.Kind,fd o.Kind⟩,b) (zAO t)=some (t++tl (txtL (fc o.Kind 4) o.T),0):=by
 have hq:=zOY o.T
 unfold zEv txtL
 rw [show (4:Int)=((4:Nat):Int) from rfl,zEU (by omega),bnd_some]
 rcases zH7 o.Kind (i:=4) (by omega) (by omega) with h | h
 ·rw [h,if_pos rfl]
  show cnd true _ _=_
  rw [cnd_true,zMA (by omega),bnd_some,zFe (by simp;omega),bnd_some,wstr (by simp;omega),bnd_some,bstr,bnd_some]
  simp [zDI,zDe]
 ·rw [h,if_neg (by decide)]
  show cnd false _ _=_
  rw [cnd_false,bstr,bnd_some]
  simp [zDe]
theorem zQh {fu:Nat} {o:Op} {b:Bool} {t:Bs} (h:RightP o) (ht:t.length<=1000) :
  zEH fu o (⟨wd o.Kind,fd o.Kind⟩,b) (zAO t)=some (t++(wd o.Kind++tl (zC3 o)),0):=by
 have hw:=zQq o.Kind
 obtain ⟨a1,a2⟩:=zDu h.a
 obtain ⟨b1,b2⟩:=zDu h.b
 obtain ⟨c1,c2⟩:=zDu h.c
 have l1:=zFV (f:=fc o.Kind 0) a1 a2
 have l2:=zFV (f:=fc o.Kind 1) b1 b2
 have l3:=zFV (f:=fc o.Kind 2) c1 c2
 have hs:=(zFP h.s).1
 have hT:=(zFP h.t).1
 have hq:=zOY o.S
 have l4:=zJP (fc o.Kind 3) o.S
 unfold zEH
 rw [wstr (by simp;omega),bnd_some]
 simp only [zCL,zCX,bnd_some]
 rw [show (0:Int)=((0:Nat):Int) from rfl,show (1:Int)=((1:Nat):Int) from rfl,show (2:Int)=((2:Nat):Int) from rfl,show (3:Int)=((3:Nat):Int) from rfl,
  zEU (by omega),bnd_some,zI4 (zF6 _ (by omega)) a1 a2 (by simp;omega),bnd_some,zEU (by omega),bnd_some,zI4 (zF6 _ (by omega)) b1 b2 (by simp;omega),bnd_some,zEU (by omega),bnd_some,zI4 (zF6 _ (by omega)) c1 c2 (by simp;omega),bnd_some,zEU (by omega),bnd_some]
 have e:∀x:Bs,x=t++(wd o.Kind++tl (zC3 o))->some (x,(0:Int))=some (t++(wd o.Kind++tl (zC3 o)),(0:Int)):=fun x hx=>by rw [hx]
 rcases zH7 o.Kind (i:=3) (by omega) (by omega) with h3 | h3
 ·rw [h3]
  show cnd true _ _=_
  rw [cnd_true,zMA (by omega),bnd_some,zFe (by simp;omega),bnd_some,wstr (by simp;omega),bnd_some,zQi hT (by simp;omega)]
  refine e _ ?_
  unfold zC3 zGf
  simp only [zKP,txtL,h3,if_true,zDI,List.append_assoc,List.cons_append,List.nil_append]
 ·rw [h3]
  show cnd false _ _=_
  rw [cnd_false,zQi hT (by simp;omega)]
  refine e _ ?_
  unfold zC3 zGf
  have:¬(46:UInt8)=115:=by decide
  simp only [zKP,txtL,h3,if_neg this,List.append_assoc,List.nil_append]
theorem zRf (fu:Nat) (o:Op):zFH fu o=some (if zFE o=true then (putP o,0) else ([],1)):=by
 unfold zFH
 rw [zOg,bnd_some]
 cases h:zFE o with
 | false=>rfl
 | true =>
  have hr:=right_iff.1 h
  rw [if_pos rfl]
  simp only [Bool.not_true,cnd_false]
  rw [zNi,bnd_some]
  unfold putP bang
  cases o.Must with
  | true =>
   rw [cnd_true]
   show bnd (zAF fu [33] (zAO [])) _=_
   rw [wstr (by simp),bnd_some,zQh hr (by simp)]
   rfl
  | false =>
   rw [cnd_false]
   show zEH fu o _ (zAO [])=_
   rw [zQh hr (by simp)]
   rfl
theorem zOU {fu:Nat} {o:Op} (h:RightP o):zFH fu o=some (putP o,0):=by rw [zRf,if_pos (right_iff.2 h)]
theorem zJD {o:Op} (h:RightP o):(putP o).length<=1000:=by
 obtain ⟨a1,a2⟩:=zDu h.a
 obtain ⟨b1,b2⟩:=zDu h.b
 obtain ⟨c1,c2⟩:=zDu h.c
 have l1:=zFV (f:=fc o.Kind 0) a1 a2
 have l2:=zFV (f:=fc o.Kind 1) b1 b2
 have l3:=zFV (f:=fc o.Kind 2) c1 c2
 have hs:=(zFP h.s).1
 have hT:=(zFP h.t).1
 have l4:=zJP (fc o.Kind 3) o.S
 have l5:=zJP (fc o.Kind 4) o.T
 have hw:=zQq o.Kind
 have hb:(bang o.Must).length<=1:=by cases o.Must<;>simp [bang]
 unfold putP zC3 zGf
 simp only [zKP,List.length_append]
 omega
end Go.Proofs.YtoboimmgglnjfaaGreatDoor
/- What op.Read comes to: at any text, and at an operation's own. -/
namespace Go.Proofs.YtoboimmgglnjfaaGreatDoor
open Go Go.Pw
set_option linter.unusedVariables false
theorem ratoi {fu:Nat} {w:Bs} (hw:w.length<=1000000000):∃n e,zHN fu w=some (n,e)/\(e=false->inI n):=by
 unfold zHN
 rw [if_pos (by omega)]
 generalize h:Lib.atoiAll w=q
 rcases q with v | _ | _
 ·exact ⟨_,_,rfl,fun _=>zMO h⟩
 ·exact ⟨_,_,rfl,fun e=>by cases e⟩
 ·exact ⟨_,_,rfl,fun e=>by cases e⟩
theorem zOh {fu:Nat} {f:Int} {w:Bs} (hw:w.length<=1000000000):∃n b,zBb fu f w ()=some (n,b):=by
 unfold zBb
 obtain ⟨n,e,h,hr⟩:=ratoi (fu:=fu) hw
 rw [h,bnd_some]
 cases e with
 | true=>exact ⟨_,_,rfl⟩
 | false =>
  show ∃n' b,cnd (!false) _ _=some (n',b)
  rw [Bool.not_false,cnd_true,zKp (hr rfl),bnd_some]
  cases Lib.itoa (n,false).1==w with
  | false=>exact ⟨_,_,rfl⟩
  | true=>rw [cnd_true];cases f==105<;>exact ⟨_,_,rfl⟩
theorem zP0 {fu:Nat} {f:Int} {w:Bs} (hw:w.length<=1000000000):∃n b,zBA fu f w=some (n,b):=by
 unfold zBA
 cases f != 105 with
 | false=>exact zOh hw
 | true =>
  rw [cnd_true,zBf,zBf,zBf]
  split
  ·exact ⟨_,_,rfl⟩
  ·split
   ·exact ⟨_,_,rfl⟩
   ·split
    ·exact ⟨_,_,rfl⟩
    ·exact zOh hw
theorem zO7 {fu:Nat} {n:Int} (h:inI n):zHN fu (Lib.itoa n)=some (n,false):=by
 have:=zPS h.1 h.2
 unfold zHN
 rw [if_pos (by omega),zMy h.1 h.2]
theorem zHs {fu:Nat} {f:UInt8} {n:Int} (h:inI n) (hn:f=105\/0<=n):zBb fu (f.toNat:Int) (Lib.itoa n) ()=some (n,true):=by
 unfold zBb
 rw [zO7 h,bnd_some]
 show cnd (!false) _ _=_
 rw [Bool.not_false,cnd_true,zKp h,bnd_some]
 rw [show (Lib.itoa (n,false).1==Lib.itoa n)=true from by simp,cnd_true]
 rcases hn with rfl | hn
 ·rfl
 ·cases (f.toNat:Int)==105 with
  | true=>rfl
  | false=>rw [cnd_false];congr 2;simpa using hn
theorem zLn {n:Int} {w:Bs} {c:UInt8} (hc:c∈w) (h:c.toNat<45\/c.toNat=46\/c.toNat=47\/57<c.toNat):Lib.itoa n≠w:=fun e=>zNp (n:=n) h (by rw [e];exact hc)
theorem zPU {n:Int} (hn:0<=n):Lib.itoa n≠[45]:=fun e=>by
 unfold Lib.itoa at e
 rw [if_neg (by omega)] at e
 have:=zFO n.toNat 45 (by rw [e];simp)
 simp at this
theorem zP1 {fu:Nat} {f:UInt8} {n:Int} (hf:f=110\/f=111\/f=105) (h:fit f n=true):zBA fu (f.toNat:Int) (numW f n)=some (n,true):=by
 obtain ⟨h1,h2⟩:=zDu h
 have hi:inI n:=⟨by omega,by omega⟩
 have hs:∀w:Bs,zOn=w\/zNt=w->∃c∈w,57<c.toNat:=fun w hw=>by
  rcases hw with rfl | rfl
  ·exact ⟨115,by decide,by decide⟩
  ·exact ⟨108,by decide,by decide⟩
 unfold zBA
 by_cases hf5:f=105
 ·subst hf5
  show cnd false _ _=_
  rw [cnd_false,numW,if_pos (.inl rfl)]
  exact zHs hi (.inl rfl)
 ·have hf5':((f.toNat:Int) != 105)=true:=by rcases hf with rfl | rfl | rfl<;>first | rfl | exact absurd rfl hf5
  rw [hf5',cnd_true,zBf,zBf,zBf]
  by_cases hn:0<=n
  ·have e:numW f n=Lib.itoa n:=if_pos (.inr hn)
   rw [e,if_neg (zPU hn),if_neg (zLn (c:=115) (by decide) (by decide)),if_neg (zLn (c:=108) (by decide) (by decide))]
   exact zHs hi (.inr hn)
  ·have e:numW f n=if n = -1 then [45] else if n = -2 then zOn else zNt:=if_neg (fun h=>by rcases h with h | h;exact hf5 h;exact hn h)
   have hfit:n = -2\/n = -3\/f=111/\n = -1:=by
    unfold fit at h
    rw [if_neg hf5,if_pos (by rcases hf with h | h | h;exact .inl h;exact .inr h;exact absurd h hf5)] at h
    rcases of_decide_eq_true h with h | h | h | h
    ·exact .inl h
    ·exact .inr (.inl h)
    ·exact absurd h.1 hn
    ·exact .inr (.inr h)
   rcases hfit with rfl | rfl | ⟨rfl,rfl⟩
   ·rw [show numW f (-2)=zOn from e.trans (by decide),if_neg (by decide),if_pos (by decide)]
   ·rw [show numW f (-3)=zNt from e.trans (by decide),if_neg (by decide),if_neg (by decide),if_pos (by decide)]
   ·rw [show numW 111 (-1)=[45] from e.trans (by decide),if_pos rfl];rfl
def unqR (out:Bs):Option (Bs×Bs)->Option (Bs×Bs×Bool)
 | some x=>some (out++x.1,x.2,true)
 | none=>some ([],[],false)
theorem zRt {fu:Nat} {s:Bs} (hs:s.length<=1000000):∀(n i k:Nat) (out:Bs),s.length - i<=n->i<=s.length->out.length<=i->n<k->zBS fu s k ((i:Int),zAO out)=unqR out (unq (s.drop i)):=by
 intro n
 induction n with
 | zero =>
  intro i k out h1 h2 h3 h4
  obtain ⟨k,rfl⟩:∃k',k=k'+1:=⟨k - 1,by omega⟩
  rw [zBS,show decide ((i:Int)<((s.length:Nat):Int))=false from by simp;omega,cnd_false,List.drop_of_length_le (by omega)]
  rfl
 | succ n ih =>
  intro i k out h1 h2 h3 h4
  obtain ⟨k,rfl⟩:∃k',k=k'+1:=⟨k - 1,by omega⟩
  by_cases hi:i<s.length
  ·obtain ⟨b,r,hd⟩:=zNW hi
   have hb:=zLW hd
   obtain ⟨_,hd1⟩:=zJh hd
   rw [zBS,show decide ((i:Int)<((s.length:Nat):Int))=true from by simpa using hi,cnd_true,hb]
   simp only [bnd_some]
   rw [show (((b.toNat:Nat):Int)==34)=(b==34) from zFm b 34,show (((b.toNat:Nat):Int) != 92)=(b != 92) from congrArg (!·) (zFm b 92)]
   rw [zBf]
   by_cases h34:b=34
   ·rw [if_pos h34,bstr,bnd_some,zCV (by omega),bnd_some,zC5 (by omega) (Nat.le_refl _),bnd_some,hd,h34,zLI]
    have:(s.drop (i+1)).take (s.length - (i+1))=r:=by rw [hd1];exact List.take_of_length_le (by rw [<- hd1];simp)
    rw [this]
    simp [unqR]
   ·rw [if_neg h34,zQT]
    by_cases h92:b=92
    ·rw [if_pos h92,zCV (by omega),bnd_some]
     subst h92
     by_cases hi1:i+1<s.length
     ·obtain ⟨c,r',hr⟩:=zNW hi1
      have hc:=zLW hr
      obtain ⟨_,hd2⟩:=zJh hr
      obtain rfl:r=c::r':=hd1.symm.trans hr
      rw [show decide (((i+1:Nat):Int)<((s.length:Nat):Int))=true from by rw [decide_eq_true_eq];omega,cnd_true,bnd_some,hc,bnd_some]
      rw [show (((c.toNat:Nat):Int)==34)=(c==34) from zFm c 34,zBf]
      have hrec:∀(hcc:c=34\/c=92),unqR out (unq (s.drop i))=unqR (out++[c]) (unq (s.drop (i+1+1))):=fun hcc=>by
       rw [hd,zLJ hcc,hd2]
       cases unq r'<;>simp [unqR]
      by_cases hc34:c=34
      ·rw [if_pos hc34,bnd_some,hc,bnd_some,zR6 (by omega),bnd_some,zCV (by omega),bnd_some,hrec (.inl hc34)]
       exact ih (i+1+1) k (out++[c]) (by omega) (by omega) (by simp;omega) (by omega)
      ·rw [if_neg hc34,bnd_some,hc,bnd_some]
       rw [show (((c.toNat:Nat):Int)==92)=(c==92) from zFm c 92,zBf]
       by_cases hc92:c=92
       ·rw [if_pos hc92,bnd_some,hc,bnd_some,zR6 (by omega),bnd_some,zCV (by omega),bnd_some,hrec (.inr hc92)]
        exact ih (i+1+1) k (out++[c]) (by omega) (by omega) (by simp;omega) (by omega)
       ·rw [if_neg hc92,hd,zIZ (by simp [hc34,hc92])];rfl
     ·rw [show decide (((i+1:Nat):Int)<((s.length:Nat):Int))=false from by rw [decide_eq_false_iff_not];omega,cnd_false]
      have:r=[]:=by rw [<- hd1];exact List.drop_of_length_le (by omega)
      rw [hd,this,zHu];rfl
    ·rw [if_neg h92,zR6 (by omega),bnd_some,zCV (by omega),bnd_some]
     have e:unqR out (unq (s.drop i))=unqR (out++[b]) (unq (s.drop (i+1))):=by
      rw [hd,zLK h34 h92,hd1]
      cases unq r<;>simp [unqR]
     rw [e]
     exact ih (i+1) k (out++[b]) (by omega) (by omega) (by simp;omega) (by omega)
  ·rw [zBS,show decide ((i:Int)<((s.length:Nat):Int))=false from by simp;omega,cnd_false,List.drop_of_length_le (by omega)]
   rfl
theorem zOj {fu:Nat} {s:Bs} (hs:s.length<=1000000) (hf:s.length<fu):zAz fu s=match s with
  | []=>some ([],[],false)
  | b::r=>if b=34 then unqR [] (unq r) else some ([],[],false):=by
 unfold zAz
 cases s with
 | nil=>rw [zPQ,bnd_some];rfl
 | cons b r =>
  rw [zNk,bnd_some]
  by_cases h:b=34
  ·simp only [h,decide_true,Bool.not_true,cnd_false,if_true]
   have:=zRt (fu:=fu) (s:=34::r) (by rw [<- h];exact hs) r.length 1 fu [] (by simp) (by simp) (by simp) (by simp at hf;omega)
   exact this
  ·simp only [h,decide_false,Bool.not_false,cnd_true,if_false]
theorem zR4:∀(t s r:Bs),unq t=some (s,r)->s.length<=t.length/\r.length<=t.length:=fun t s r h=>by
 have:=zLA t.length t s r (Nat.le_refl _) h
 have h2:=zQn s
 rw [this];simp;omega
theorem zKF {fu:Nat} {s:Bs} (hs:s.length<=1000000) (hf:s.length<fu):∃t r b,zAz fu s=some (t,r,b)/\r.length<=s.length:=by
 rw [zOj hs hf]
 cases s with
 | nil=>exact ⟨_,_,_,rfl,by simp⟩
 | cons b r =>
  by_cases h:b=34
  ·simp only [h,if_true]
   cases hu:unq r with
   | none=>exact ⟨_,_,_,rfl,by simp⟩
   | some x=>exact ⟨_,_,_,rfl,by have:=(zR4 _ _ _ hu).2;simp;omega⟩
  ·simp only [h,if_false];exact ⟨_,_,_,rfl,by simp⟩
theorem zKG {fu:Nat} {s r:Bs} (hs:(qS s++r).length<=1000000) (hf:(qS s++r).length<fu):zAz fu (qS s++r)=some (s,r,true):=by
 rw [zOj hs hf]
 show (if (34:UInt8)=34 then unqR [] (unq (quoL s++[34]++r)) else _)=_
 rw [if_pos rfl,List.append_assoc]
 show unqR [] (unq (quoL s++34::r))=_
 rw [zOw];rfl
def nst (fu:Nat) (f:UInt8) (x:Bs×Bool):Option (Bs×Bool×Int) :=
 if x.2=true/\f≠46 then bnd (zAg fu x.1 [32]) fun r=>bnd (zBA fu (f.toNat:Int) r.1) fun r'=>some (r.2.1,r'.2,r'.1) else some (x.1,x.2,0)
def tst1 (fu:Nat) (f:UInt8) (x:Bs×Bool):Option (Bs×Bool×Bs) :=
 if x.2=true/\f=115 then bnd (zAz fu x.1) fun r=>bnd (zAM fu r.2.1 [32]) fun p=>cnd p.2 (some (p.1,r.2.2,r.1)) (some (r.2.1,r.2.2,r.1)) else some (x.1,x.2,[])
def tst2 (fu:Nat) (f:UInt8) (x:Bs×Bool):Option (Bs×Bool×Bs) :=
 if x.2=true/\f=115 then bnd (zAz fu x.1) fun r=>bnd (zAM fu r.2.1 [32]) fun p=>some (r.2.1,r.2.2,r.1) else some (x.1,x.2,[])
theorem zKX {α β γ : Type} (o:Option α) (f : α -> Option β) (g : β -> Option γ):bnd (bnd o f) g=bnd o fun a=>bnd (f a) g:=by cases o<;>rfl
theorem zQ0 (b c:UInt8):(((b.toNat:Nat):Int) != ((c.toNat:Nat):Int))=(b != c):=congrArg (!·) (zFm b c)
theorem zCP {α β : Type} {o:Option α} {f g : α -> Option β} (h:∀a,f a=g a):bnd o f=bnd o g:=by rw [show f=g from funext h]
theorem zN6 {β : Type} {fu:Nat} {k:Int} {i:Nat} (hi:i<5) (rest:Bs) (ok:Bool) (J:Bs×Bool×Int->Option β) :
  cnd ok (bnd (chr (fd k) (i:Int)) fun b=>cnd (b != 46) (bnd (zAg fu rest [32]) fun r=>bnd (chr (fd k) (i:Int)) fun b'=>bnd (zBA fu b' r.1) fun r'=>J (r.2.1,r'.2,r'.1)) (J (rest,ok,0))) (J (rest,ok,0))=bnd (nst fu (fc k i) (rest,ok)) J:=by
 unfold nst
 cases ok with
 | false=>rfl
 | true =>
  rw [cnd_true,zEU hi]
  simp only [bnd_some]
  rw [show (((fc k i).toNat:Int) != 46)=(fc k i != 46) from zQ0 _ 46,zQT]
  by_cases h:fc k i=46
  ·rw [if_pos h,if_neg (by simp [h])];rfl
  ·rw [if_neg h,if_pos ⟨trivial,h⟩]
   simp only [zKX,bnd_some]
theorem zR1 {β : Type} {fu:Nat} {k:Int} {i:Nat} (hi:i<5) (rest:Bs) (ok:Bool) (J:Bs×Bool×Bs->Option β) :
  cnd ok (bnd (chr (fd k) (i:Int)) fun b=>cnd (b==115) (bnd (zAz fu rest) fun r=>bnd (zAM fu r.2.1 [32]) fun p=>cnd p.2 (J (p.1,r.2.2,r.1)) (J (r.2.1,r.2.2,r.1))) (J (rest,ok,[]))) (J (rest,ok,[]))=bnd (tst1 fu (fc k i) (rest,ok)) J:=by
 unfold tst1
 cases ok with
 | false=>rfl
 | true =>
  rw [cnd_true,zEU hi]
  simp only [bnd_some]
  rw [show (((fc k i).toNat:Int)==115)=(fc k i==115) from zFm _ 115,zBf]
  by_cases h:fc k i=115
  ·rw [if_pos h,if_pos ⟨trivial,h⟩]
   simp only [zKX]
   refine zCP fun a=>zCP fun p=>?_
   cases p.2<;>rfl
  ·rw [if_neg h,if_neg (by simp [h])];rfl
theorem zR2 {β : Type} {fu:Nat} {k:Int} {i:Nat} (hi:i<5) (rest:Bs) (ok:Bool) (J:Bs×Bool×Bs->Option β) :
  cnd ok (bnd (chr (fd k) (i:Int)) fun b=>cnd (b==115) (bnd (zAz fu rest) fun r=>bnd (zAM fu r.2.1 [32]) fun p=>cnd p.2 (J (r.2.1,r.2.2,r.1)) (J (r.2.1,r.2.2,r.1))) (J (rest,ok,[]))) (J (rest,ok,[]))=bnd (tst2 fu (fc k i) (rest,ok)) J:=by
 unfold tst2
 cases ok with
 | false=>rfl
 | true =>
  rw [cnd_true,zEU hi]
  simp only [bnd_some]
  rw [show (((fc k i).toNat:Int)==115)=(fc k i==115) from zFm _ 115,zBf]
  by_cases h:fc k i=115
  ·rw [if_pos h,if_pos ⟨trivial,h⟩]
   simp only [zKX,bnd_some]
   refine zCP fun a=>zCP fun p=>?_
   cases p.2<;>rfl
  ·rw [if_neg h,if_neg (by simp [h])];rfl
theorem zOe (fu:Nat) (s:Bs):zBp fu s=bnd (zAM fu s [33]) fun r2=>bnd (zAg fu r2.1 [32]) fun r3=>bnd (zAf fu wordsL r3.1) fun k =>
  bnd (nst fu (fc k 0) (r3.2.1,decide (Knd k))) fun x1=>bnd (nst fu (fc k 1) (x1.1,x1.2.1)) fun x2=>bnd (nst fu (fc k 2) (x2.1,x2.2.1)) fun x3 =>
  bnd (tst1 fu (fc k 3) (x3.1,x3.2.1)) fun y1=>bnd (tst2 fu (fc k 4) (y1.1,y1.2.1)) fun y2=>zCW fu s r2 k x1.2.2 x2.2.2 x3.2.2 (y2.1,y2.2.1,y1.2.2,y2.2.2):=by
 unfold zBp
 refine zCP fun r2=>zCP fun r3=>?_
 rw [zOz,bnd_some]
 refine zCP fun k=>?_
 rw [zNi,bnd_some]
 simp only [zCL,bnd_some]
 refine (zN6 (i:=0) (by omega) r3.2.1 (decide (Knd k)) _).trans (zCP fun x1=>?_)
 obtain ⟨a1,b1,c1⟩:=x1
 unfold zEI
 refine (zN6 (i:=1) (by omega) a1 b1 _).trans (zCP fun x2=>?_)
 obtain ⟨a2,b2,c2⟩:=x2
 unfold zEJ
 refine (zN6 (i:=2) (by omega) a2 b2 fun x=>zDl fu s r2 k (⟨wd k,fd k⟩,decide (Knd k)) (x.1,x.2.1,c1,c2,x.2.2)).trans (zCP fun x3=>?_)
 obtain ⟨a3,b3,c3⟩:=x3
 unfold zDl
 simp only [zCX,bnd_some]
 refine (zR1 (i:=3) (by omega) a3 b3 fun x=>zB4 fu s r2 k (⟨wd k,fd k⟩,decide (Knd k)) c1 c2 c3 x).trans (zCP fun y1=>?_)
 obtain ⟨a4,b4,c4⟩:=y1
 unfold zB4
 exact zR2 (i:=4) (by omega) a4 b4 fun x=>zCW fu s r2 k c1 c2 c3 (x.1,x.2.1,c4,x.2.2)
theorem zKw {fu:Nat} {f:UInt8} {x:Bs×Bool} (h:x.1.length<=1000000):∃y,nst fu f x=some y/\y.1.length<=x.1.length:=by
 unfold nst
 split
 ·obtain ⟨w,r,b,h1,h2,h3⟩:=zNL (fu:=fu) (s:=x.1) 32 (by omega)
  rw [h1,bnd_some]
  obtain ⟨n,b',h4⟩:=zP0 (fu:=fu) (f:=(f.toNat:Int)) (w:=w) (by omega)
  rw [h4,bnd_some]
  exact ⟨_,rfl,h3⟩
 ·exact ⟨_,rfl,Nat.le_refl _⟩
theorem zP7 {fu:Nat} {f:UInt8} {x:Bs×Bool} (h:x.1.length<=1000000) (hf:x.1.length<fu):∃y,tst1 fu f x=some y/\y.1.length<=x.1.length:=by
 unfold tst1
 split
 ·obtain ⟨t,r,b,h1,h2⟩:=zKF (fu:=fu) h hf
  rw [h1,bnd_some]
  obtain ⟨p,b',h3,h4⟩:=zK2 (fu:=fu) (s:=r) (c:=32) (by omega)
  rw [h3,bnd_some]
  cases b' with
  | true=>exact ⟨_,rfl,by show p.length<=_;omega⟩
  | false=>exact ⟨_,rfl,h2⟩
 ·exact ⟨_,rfl,Nat.le_refl _⟩
theorem zP9 {fu:Nat} {f:UInt8} {x:Bs×Bool} (h:x.1.length<=1000000) (hf:x.1.length<fu):∃y,tst2 fu f x=some y:=by
 unfold tst2
 split
 ·obtain ⟨t,r,b,h1,h2⟩:=zKF (fu:=fu) h hf
  rw [h1,bnd_some]
  obtain ⟨p,b',h3,h4⟩:=zK2 (fu:=fu) (s:=r) (c:=32) (by omega)
  rw [h3,bnd_some]
  exact ⟨_,rfl⟩
 ·exact ⟨_,rfl⟩
def op0:Op:=⟨0,0,0,0,[],[],false⟩
theorem zPv {fu:Nat} {s:Bs} (hs:s.length<=1000000) (hf:s.length+30<fu):zBp fu s=some (op0,2)\/∃o,zBp fu s=some (o,0)/\RightP o/\putP o=s:=by
 rw [zOe]
 obtain ⟨r,must,h1,h2⟩:=zK2 (fu:=fu) (s:=s) (c:=33) (by omega)
 rw [h1,bnd_some]
 obtain ⟨w,r3,b3,h3,_,h4⟩:=zNL (fu:=fu) (s:=r) 32 (by omega)
 rw [h3,bnd_some]
 obtain ⟨k,hk⟩:∃k,zAf fu wordsL w=some k:=by
  rw [zKo (by simp [wordsL];omega) (by simp [wordsL])]
  split<;>exact ⟨_,rfl⟩
 rw [hk,bnd_some]
 obtain ⟨x1,e1,l1⟩:=zKw (fu:=fu) (f:=fc k 0) (x:=(r3,decide (Knd k))) (by show r3.length<=_;omega)
 simp only at l1
 rw [e1,bnd_some]
 obtain ⟨x2,e2,l2⟩:=zKw (fu:=fu) (f:=fc k 1) (x:=(x1.1,x1.2.1)) (by show x1.1.length<=_;omega)
 simp only at l2
 rw [e2,bnd_some]
 obtain ⟨x3,e3,l3⟩:=zKw (fu:=fu) (f:=fc k 2) (x:=(x2.1,x2.2.1)) (by show x2.1.length<=_;omega)
 simp only at l3
 rw [e3,bnd_some]
 obtain ⟨y1,e4,l4⟩:=zP7 (fu:=fu) (f:=fc k 3) (x:=(x3.1,x3.2.1)) (by show x3.1.length<=_;omega) (by show x3.1.length<_;omega)
 simp only at l4
 rw [e4,bnd_some]
 obtain ⟨y2,e5⟩:=zP9 (fu:=fu) (f:=fc k 4) (x:=(y1.1,y1.2.1)) (by show y1.1.length<=_;omega) (by show y1.1.length<_;omega)
 rw [e5,bnd_some]
 unfold zCW
 simp only [zRf,bnd_some]
 generalize (⟨k,x1.2.2,x2.2.2,x3.2.2,y1.2.2,y2.2.2,must⟩:Op)=o
 cases y2.2.1 with
 | false=>exact .inl rfl
 | true =>
  simp only [Bool.not_true,cnd_false]
  cases y2.1==([]:Bs) with
  | false=>exact .inl rfl
  | true =>
   simp only [Bool.not_true,cnd_false]
   cases hr:zFE o with
   | false=>exact .inl rfl
   | true =>
    rw [if_pos rfl]
    show cnd ((0:Int) != 0) _ _=_\/∃o',cnd ((0:Int) != 0) _ _=_/\_
    rw [show ((0:Int) != 0)=false from rfl,cnd_false]
    by_cases hp:putP o=s
    ·refine .inr ⟨o,?_,right_iff.1 hr,hp⟩
     rw [show (putP o==s)=true from by simpa using hp];rfl
    ·left
     rw [show (putP o==s)=false from by simpa using hp];rfl
end Go.Proofs.YtoboimmgglnjfaaGreatDoor
/- What op.Read comes to at an operation's own text. -/
namespace Go.Proofs.YtoboimmgglnjfaaGreatDoor
open Go Go.Pw
set_option linter.unusedVariables false
def nxt:List Bs->Bs
 | []=>[]
 | f::l=>f++tl l
theorem zNN {fu:Nat} {f:Bs} {l:List Bs} (hf:(32:UInt8)∉f) (hl:(f++tl l).length<=1000000):∃b,zAg fu (f++tl l) [32]=some (f,nxt l,b):=by
 cases l with
 | nil=>rw [zDe,List.append_nil];exact ⟨false,zNM hf⟩
 | cons g l=>rw [zDI] at hl ⊢;exact ⟨true,zKf hf (by omega)⟩
theorem zN7 {f:UInt8} {n:Int} {c:UInt8} (h:c=32\/c=10):c∉numW f n:=by
 have hi:c∉Lib.itoa n:=zNp (by rcases h with rfl | rfl<;>decide)
 unfold numW
 split
 ·exact hi
 ·split
  ·rcases h with rfl | rfl<;>decide
  ·split <;> · rcases h with rfl | rfl<;>decide
theorem zKx {fu:Nat} {f:UInt8} {n:Int} {L:List Bs} (hf:f=110\/f=111\/f=105\/f=46) (h:fit f n=true) (hl:(nxt (numL f n++L)).length<=1000000):nst fu f (nxt (numL f n++L),true)=some (nxt L,true,n):=by
 unfold nst
 by_cases h46:f=46
 ·subst h46
  rw [if_neg (by simp)]
  have hn:n=0:=by unfold fit at h;rw [if_neg (by decide),if_neg (by decide)] at h;simpa using h
  rw [hn];rfl
 ·rw [if_pos ⟨rfl,h46⟩]
  have e:numL f n=[numW f n]:=if_neg h46
  rw [e] at hl ⊢
  obtain ⟨b,hb⟩:=zNN (fu:=fu) (f:=numW f n) (l:=L) (zN7 (.inl rfl)) hl
  show bnd (zAg fu (numW f n++tl L) [32]) _=_
  rw [hb,bnd_some,zP1 (by rcases hf with h | h | h | h;exact .inl h;exact .inr (.inl h);exact .inr (.inr h);exact absurd h h46) h,bnd_some]
theorem zP8 {fu:Nat} {f:UInt8} {s:Bs} {L:List Bs} (hf:f=115\/f=46) (h:fitT f s=true) (hl:(nxt (txtL f s++L)).length<=1000000) (hfu:(nxt (txtL f s++L)).length<fu):tst1 fu f (nxt (txtL f s++L),true)=some (nxt L,true,s):=by
 unfold tst1
 rcases hf with rfl | rfl
 ·rw [if_pos ⟨rfl,rfl⟩]
  have e:txtL 115 s=[qS s]:=rfl
  rw [e] at hl hfu ⊢
  have hl':(qS s++tl L).length<=1000000:=hl
  have hfu':(qS s++tl L).length<fu:=hfu
  show bnd (zAz fu (qS s++tl L)) _=_
  rw [zKG hl' hfu',bnd_some]
  cases L with
  | nil =>
   show bnd (zAM fu [] [32]) _=_
   rw [zK4];rfl
  | cons g L =>
   simp [zDI] at hl'
   show bnd (zAM fu (32::(g++tl L)) [32]) _=_
   rw [zHB (by simp;omega),if_pos rfl];rfl
 ·rw [if_neg (fun e=>absurd e.2 (by decide))]
  have:s=[]:=by simpa [fitT] using h
  subst this;rfl
theorem zQA {fu:Nat} {f:UInt8} {s:Bs} (hf:f=115\/f=46) (h:fitT f s=true) (hl:(nxt (txtL f s)).length<=1000000) (hfu:(nxt (txtL f s)).length<fu):tst2 fu f (nxt (txtL f s),true)=some ([],true,s):=by
 unfold tst2
 rcases hf with rfl | rfl
 ·rw [if_pos ⟨rfl,rfl⟩]
  have e:txtL 115 s=[qS s]:=rfl
  rw [e] at hl hfu ⊢
  show bnd (zAz fu (qS s++[])) _=_
  rw [zKG (r:=[]) hl hfu,bnd_some]
  show bnd (zAM fu [] [32]) _=_
  rw [zK4];rfl
 ·rw [if_neg (fun e=>absurd e.2 (by decide))]
  have:s=[]:=by simpa [fitT] using h
  subst this;rfl
theorem zR8 {k:Int} {c:UInt8} (h:c.toNat<97\/122<c.toNat):c∉wd k\/¬Knd k:=by
 have key:∀j:Fin 29,0<j.1->∀b∈wordsL.getD j.1 [],97<=b.toNat/\b.toNat<=122:=by decide
 by_cases hk:Knd k
 ·left
  rw [wd,if_pos hk]
  intro hm
  have:=key ⟨k.toNat,by unfold Knd at hk;omega⟩ (by unfold Knd at hk;simp;omega) c hm
  omega
 ·exact .inr hk
theorem zLN {k:Int} (hk:Knd k):∃b w,wd k=b::w/\97<=b.toNat/\b.toNat<=122:=by
 have key:∀j:Fin 29,0<j.1->wordsL.getD j.1 []≠[]:=by decide
 have h0:=key ⟨k.toNat,by unfold Knd at hk;omega⟩ (by unfold Knd at hk;simp;omega)
 have e:wd k=wordsL.getD k.toNat []:=if_pos hk
 rw [<- e] at h0
 cases hw:wd k with
 | nil=>exact absurd hw h0
 | cons b w =>
  refine ⟨b,w,rfl,?_⟩
  have:97<=b.toNat/\b.toNat<=122\/¬(97<=b.toNat/\b.toNat<=122):=Decidable.em _
  rcases this with h | h
  ·exact h
  ·rcases zR8 (k:=k) (c:=b) (by omega) with h2 | h2
   ·exact absurd (by rw [hw];simp) h2
   ·exact absurd hk h2
theorem zPR {fu:Nat} (hf:30<fu) {k:Int} (hk:Knd k):zAf fu wordsL (wd k)=some k:=by
 rw [zKo (by simp [wordsL];omega) (by simp [wordsL])]
 have key:∀j:Fin 29,((List.range 29).find? fun i=>wordsL.getD j.1 []==wordsL.getD i [])=some j.1:=by decide
 have e:wd k=wordsL.getD k.toNat []:=if_pos hk
 have hj:=key ⟨k.toNat,by unfold Knd at hk;omega⟩
 rw [e]
 show (match (List.range 29).find? fun i=>wordsL.getD k.toNat []==wordsL.getD i [] with | some i=>some (i:Int) | none=>some (-1))=_
 rw [hj]
 show some ((k.toNat:Nat):Int)=some k
 congr 1
 unfold Knd at hk
 omega
theorem zJ2:∀(l:List Bs),(nxt l).length<=(tl l).length
 | []=>Nat.le_refl _
 | f::l=>by simp [nxt,zDI]
theorem zJO (l m:List Bs):(tl m).length<=(tl (l++m)).length:=by rw [zKP];simp
theorem zHE {fu:Nat} {o:Op} (h:RightP o) (hf:2000<fu):zBp fu (putP o)=some (o,0):=by
 have hlen:=zJD h
 obtain ⟨b0,w0,hw,hb1,hb2⟩:=zLN h.kind
 have hl0:(wd o.Kind++tl (zC3 o)).length<=1000:=by
  have:putP o=bang o.Must++(wd o.Kind++tl (zC3 o)):=rfl
  rw [this,List.length_append] at hlen;omega
 have hlt:(tl (zC3 o)).length<=1000:=by simp at hl0;omega
 have m1:(nxt (zC3 o)).length<=1000:=Nat.le_trans (zJ2 _) hlt
 have m2:(tl (numL (fc o.Kind 1) o.B++(numL (fc o.Kind 2) o.C++zGf o))).length<=1000:=Nat.le_trans (zJO _ _) hlt
 have m3:(tl (numL (fc o.Kind 2) o.C++zGf o)).length<=1000:=Nat.le_trans (zJO _ _) m2
 have m4:(tl (zGf o)).length<=1000:=Nat.le_trans (zJO _ _) m3
 have m5:(tl (txtL (fc o.Kind 4) o.T)).length<=1000:=Nat.le_trans (zJO (txtL (fc o.Kind 3) o.S) _) m4
 have k2:=zJ2 (numL (fc o.Kind 1) o.B++(numL (fc o.Kind 2) o.C++zGf o))
 have k3:=zJ2 (numL (fc o.Kind 2) o.C++zGf o)
 have k4:=zJ2 (zGf o)
 have k5:=zJ2 (txtL (fc o.Kind 4) o.T)
 rw [zOe]
 have h1:zAM fu (putP o) [33]=some (wd o.Kind++tl (zC3 o),o.Must):=by
  unfold putP bang
  cases o.Must with
  | true =>
   show zAM fu (33::(wd o.Kind++tl (zC3 o))) [33]=_
   rw [zHB (by omega),if_pos rfl]
  | false =>
   rw [if_neg (by decide),List.nil_append]
   rw [hw] at hl0 ⊢
   have hl1:(w0++tl (zC3 o)).length<=1000:=by simp at hl0 ⊢;omega
   show zAM fu (b0::(w0++tl (zC3 o))) [33]=_
   rw [zHB (by omega),if_neg (fun e=>by rw [e] at hb1;simp at hb1)]
   rfl
 rw [h1,bnd_some]
 have hno:(32:UInt8)∉wd o.Kind:=by
  rcases zR8 (k:=o.Kind) (c:=32) (.inl (by decide)) with h2 | h2
  ·exact h2
  ·exact absurd h.kind h2
 obtain ⟨b,h2⟩:=zNN (fu:=fu) (l:=zC3 o) hno (by omega)
 rw [h2,bnd_some,zPR (by omega) h.kind,bnd_some,show decide (Knd o.Kind)=true from by simpa using h.kind]
 simp only
 rw [show nxt (zC3 o)=nxt (numL (fc o.Kind 0) o.A++(numL (fc o.Kind 1) o.B++(numL (fc o.Kind 2) o.C++zGf o))) from rfl] at m1 ⊢
 rw [zKx (zF6 _ (by omega)) h.a (by omega),bnd_some]
 simp only
 rw [zKx (zF6 _ (by omega)) h.b (by omega),bnd_some]
 simp only
 rw [zKx (zF6 _ (by omega)) h.c (by omega),bnd_some]
 simp only
 rw [show nxt (zGf o)=nxt (txtL (fc o.Kind 3) o.S++txtL (fc o.Kind 4) o.T) from rfl] at k4 ⊢
 rw [zP8 (zH7 _ (by omega) (by omega)) h.s (by omega) (by omega),bnd_some]
 simp only
 rw [zQA (zH7 _ (by omega) (by omega)) h.t (by omega) (by omega),bnd_some]
 unfold zCW
 simp only
 have ho:(⟨o.Kind,o.A,o.B,o.C,o.S,o.T,o.Must⟩:Op)=o:=rfl
 rw [ho,zOU h,bnd_some]
 simp
theorem zPp {o p:Op} (ho:RightP o) (hp:RightP p) (h:putP o=putP p):o=p:=by
 have h1:=zHE (fu:=2001) ho (by omega)
 rw [h,zHE hp (by omega)] at h1
 cases h1;rfl
theorem zMC {fu:Nat} {s:Bs} (hs:s.length<=1000000) (hf:s.length+3000<fu) :
  (∃o,RightP o/\putP o=s/\zBp fu s=some (o,0))\/(∀o,RightP o->putP o≠s)/\zBp fu s=some (op0,2):=by
 rcases zPv hs (by omega:s.length+30<fu) with h | ⟨o,h1,h2,h3⟩
 ·refine .inr ⟨fun o ho e=>?_,h⟩
  rw [<- e,zHE ho (by omega)] at h
  cases h
 ·exact .inl ⟨o,h2,h3,h1⟩
theorem zKD {fu:Nat} {s:Bs} (hs:s.length<=1000000) (hf:s.length+3000<fu) (h:∀o,RightP o->putP o≠s):zBp fu s=some (op0,2):=by
 rcases zMC hs hf with ⟨o,h1,h2,_⟩ | ⟨_,h1⟩
 ·exact absurd h2 (h o h1)
 ·exact h1
theorem zOT {o:Op} (h:RightP o):(10:UInt8)∉putP o:=by
 have hn:∀(x:UInt8) (n:Int),(10:UInt8)∉tl (numL x n):=fun x n=>by
  unfold numL
  split
  ·simp [zDe]
  ·have:=zN7 (f:=x) (n:=n) (c:=10) (.inr rfl)
   simp [zDI,zDe,this]
 have ht:∀(x:UInt8) (s:Bs),(10:UInt8)∉s->(10:UInt8)∉tl (txtL x s):=fun x s hs=>by
  unfold txtL
  split
  ·simp only [zDI,zDe,qS,List.append_nil,List.mem_cons,List.mem_append,List.cons_append]
   rintro (h | h | h | h | h)
   ·cases h
   ·cases h
   ·rcases zOc h with h | h
    ·cases h
    ·exact hs h
   ·cases h
   ·cases h
  ·simp [zDe]
 have hw:(10:UInt8)∉wd o.Kind:=by
  rcases zR8 (k:=o.Kind) (c:=10) (.inl (by decide)) with h2 | h2
  ·exact h2
  ·exact absurd h.kind h2
 have hb:(10:UInt8)∉bang o.Must:=by cases o.Must<;>simp [bang]
 unfold putP zC3 zGf
 simp only [zKP,List.mem_append]
 rintro (h1 | h1 | h1 | h1 | h1 | h1 | h1)
 ·exact hb h1
 ·exact hw h1
 ·exact hn _ _ h1
 ·exact hn _ _ h1
 ·exact hn _ _ h1
 ·exact ht _ _ (zFP h.s).2 h1
 ·exact ht _ _ (zFP h.t).2 h1
theorem zRe {o:Op} (h:RightP o):putP o≠[]:=by
 obtain ⟨b0,w0,hw,_⟩:=zLN h.kind
 unfold putP
 rw [hw]
 cases o.Must<;>simp [bang]
end Go.Proofs.YtoboimmgglnjfaaGreatDoor
/- The reader of scripts: what a line that is a head's does. -/
namespace Go.Proofs.YtoboimmgglnjfaaGreatDoor
open Go Go.Pw
set_option linter.unusedVariables false
def cutS:Bs->Bs×Bs×Bool
 | []=>([],[],false)
 | b::s=>if b=32 then ([],s,true) else (b::(cutS s).1,(cutS s).2.1,(cutS s).2.2)
theorem zD5:∀{w:Bs} (r:Bs),(32:UInt8)∉w->cutS (w++32::r)=(w,r,true)
 | [],r,_=>rfl
 | b::w,r,h=>by
  simp only [List.mem_cons,not_or] at h
  rw [List.cons_append,cutS,if_neg (fun e=>h.1 e.symm),zD5 r h.2]
theorem zKe:∀{s:Bs},(32:UInt8)∉s->cutS s=(s,[],false)
 | [],_=>rfl
 | b::s,h=>by
  simp only [List.mem_cons,not_or] at h
  rw [cutS,if_neg (fun e=>h.1 e.symm),zKe h.2]
theorem cut_s {fu:Nat} {s:Bs} (hl:s.length<=1000000000):zAg fu s [32]=some (cutS s):=by
 by_cases h:(32:UInt8)∈s
 ·obtain ⟨w,r,rfl,hw⟩:=zMI h
  rw [zKf hw hl,zD5 r hw]
 ·rw [zNM h,zKe h]
def kindsL:List Bs:=[[45],[99,97,109,101],[119,101,110,116],[109,111,118,101,100],[99,104,97,110,103,101,100],[111,119,110,101,100],[98,97,114,114,101,100],[99,108,101,97,114,101,100],[114,101,115,116,111,114,101,100]]
theorem zNs {fu:Nat}:zCe fu=some kindsL:=by kernel_rfl
def zIx (v:Bs):Int:=match (List.range 9).find? fun i=>v==kindsL.getD i [] with
 | some i=>(i:Int)
 | none => -1
theorem kind_m {fu:Nat} {v:Bs} (hf:10<fu):zAf fu kindsL v=some (zIx v):=by
 rw [zKo (by simp [kindsL];omega) (by simp [kindsL])]
 unfold zIx
 rw [show kindsL.length=9 from rfl]
 cases (List.range 9).find? fun i=>v==kindsL.getD i []<;>rfl
structure Rs where
 k:Nat
 most:Int
 pre:List Class
 act:Bool
 form:Bool
 hpre:List Hook
 hact:Bool
 kind:Int
 wat:List Bs
 pk:List Op
 mak:List Op
 dos:List Op
def Rs.hooks (x:Rs):List Hook:=x.hpre++if x.hact then [(⟨x.kind,x.dos⟩:Hook)] else []
def Rs.cls (x:Rs):List Class:=x.pre++if x.act then [(⟨x.form,x.wat,x.pk,x.mak,x.hooks⟩:Class)] else []
abbrev HOut:=Bool×Nat×Int×(List Class×Bool)×Bool×(List Hook×Bool)×Int×List Bs×List Op×List Op×List Op
def Rs.out (b:Bool) (x:Rs):HOut:=(b,x.k,x.most,(x.pre,x.act),x.form,(x.hpre,x.hact),x.kind,x.wat,x.pk,x.mak,x.dos)
structure Rs.Ok (x:Rs):Prop where
 pre0:x.act=false->x.pre=[]
 hpre0:x.hact=false->x.hpre=[]
 k0:x.act=false->x.k=0
 k3:x.k=3->x.hact=true
 kle:x.k<=3
 most_:x.most=if x.k=0 then 300 else 60
 cls12:x.cls.length<=12
 hooks12:x.hooks.length<=12
 wat12:x.wat.length<=12
 pk60:x.pk.length<=60
 mak60:x.mak.length<=60
 dos60:x.dos.length<=60
theorem zF8 (x:Rs):x.hooks.length=x.hpre.length+(if x.hact then 1 else 0):=by unfold Rs.hooks;cases x.hact<;>simp
theorem zEd (x:Rs):x.cls.length=x.pre.length+(if x.act then 1 else 0):=by unfold Rs.cls;cases x.act<;>simp
def zEt (x:Rs) (s:Bs):Option Rs :=
 if s=[109,97,105,110] then some { x with k:=0,most:=300 }
 else if s=[99,108,97,115,115]\/s=[99,108,97,115,115,32,102,111,114,109] then
  (if x.cls.length=12 then none else some ⟨2,60,x.cls,true,(cutS s).2.2,[],false,0,[],[],[],[]⟩)
 else if x.act=false then none
 else if s=[112,101,101,107] then some { x with k:=1,most:=60 }
 else if s=[109,97,107,101] then some { x with k:=2,most:=60 }
 else if (cutS s).1=[119,97,116,99,104] then
  (if (cutS s).2.2=true then (if fitB (cutS s).2.1=true then (if x.wat.length=12 then none else some { x with wat:=x.wat++[(cutS s).2.1] }) else none) else none)
 else if (cutS s).1=[111,110] then
  (if (cutS s).2.2=true then (if zIx (cutS s).2.1<1 then none else if x.hooks.length=12 then none else some { x with k:=3,most:=60,hpre:=x.hooks,hact:=true,kind:=zIx (cutS s).2.1,dos:=[] }) else none)
 else none
def outR (x:Rs):Option Rs->HOut
 | some y=>y.out true
 | none=>x.out false
theorem zQZ {fu:Nat} {n:Int}:zBL fu n=some (true,n):=rfl
theorem zIu {fu:Nat} {n:Int}:zAS fu n=some (true,n):=rfl
theorem zGg {l:Nat}:zHv l (((l+1:Nat):Int) - 1)=some ():=by
 unfold zHv
 rw [if_pos (by omega)]
theorem zLF {l:Nat} (h:l<=1000):rng .i64 (((l+1:Nat):Int) - 1)=some (((l+1:Nat):Int) - 1):=zJI (by omega) (by omega)
theorem zNn {fu:Nat} {s:Bs} {x:Rs} (hx:x.Ok):zBV fu x.k x.most (x.pre,x.act) x.form (x.hpre,x.hact) x.kind x.wat x.pk x.mak x.dos (cutS s) ()=some (outR x (if x.cls.length=12 then none else some ⟨2,60,x.cls,true,(cutS s).2.2,[],false,0,[],[],[],[]⟩)):=by
 have hc:=hx.cls12
 have hcl:=zEd x
 unfold zBV
 dsimp only
 simp only [if_true]
 rw [show (x.pre++if x.act then [(⟨x.form,x.wat,x.pk,x.mak,(x.hpre++if x.hact then [(⟨x.kind,x.dos⟩:Hook)] else [])⟩:Class)] else [])=x.cls from rfl,<- hcl,zBf]
 by_cases h:x.cls.length=12
 ·rw [if_pos h,if_pos (by omega)];rfl
 ·rw [if_neg h,if_neg (by omega),zDL (by omega),bnd_some,zLF (by omega),bnd_some,zGg,bnd_some,zIu,bnd_some]
  rfl
theorem head_m {fu:Nat} {s:Bs} {x:Rs} (hx:x.Ok) (hf:300<fu) (hs:s.length<=1000000) :
  zB3 fu s x.k x.most (x.pre,x.act) x.form (x.hpre,x.hact) x.kind x.wat x.pk x.mak x.dos=some (outR x (zEt x s)):=by
 have hc:=hx.cls12
 have hcl:=zEd x
 have hhl:=zF8 x
 have hh:=hx.hooks12
 have hw:=hx.wat12
 unfold zB3 zEt
 rw [cut_s (by omega),bnd_some,zBf]
 by_cases h1:s=[109,97,105,110]
 ·rw [if_pos h1,if_pos h1,zQZ,bnd_some];rfl
 rw [if_neg h1,if_neg h1,zBf]
 by_cases h2:s=[99,108,97,115,115]
 ·rw [if_pos h2,if_pos (.inl h2),zNn hx]
 rw [if_neg h2,zBf]
 by_cases h3:s=[99,108,97,115,115,32,102,111,114,109]
 ·rw [if_pos h3,if_pos (.inr h3),zNn hx]
 have h23:¬(s=[99,108,97,115,115]\/s=[99,108,97,115,115,32,102,111,114,109]):=fun h=>h.elim h2 h3
 rw [if_neg h3,if_neg h23,zBf]
 dsimp only
 simp only [if_true]
 rw [<- hcl]
 cases ha:x.act with
 | false =>
  have h0:x.cls.length=0:=by rw [hcl,ha,hx.pre0 ha];rfl
  rw [if_pos (show ((x.cls.length:Nat):Int)=0 by omega),if_pos rfl,hx.pre0 ha]
  show some (false,x.k,x.most,(([]:List Class),false),x.form,(x.hpre,x.hact),x.kind,x.wat,x.pk,x.mak,x.dos)=some (x.out false)
  unfold Rs.out
  rw [ha,hx.pre0 ha]
 | true =>
  have e0:x.out false=(false,x.k,x.most,(x.pre,true),x.form,(x.hpre,x.hact),x.kind,x.wat,x.pk,x.mak,x.dos):=by unfold Rs.out;rw [ha]
  rw [ha] at hcl
  simp only [if_true] at hcl
  rw [if_neg (show ¬(((x.cls.length:Nat):Int)=0) by omega),if_neg (show ¬(true=false) by simp)]
  rw [show zGy true=some () from rfl,bnd_some,zLF (by omega),bnd_some,zGg,bnd_some,zBf]
  have e1:∀y,y.act=true->outR x (some y)=(true,y.k,y.most,(y.pre,true),y.form,(y.hpre,y.hact),y.kind,y.wat,y.pk,y.mak,y.dos):=fun y hy=>by show y.out true=_;unfold Rs.out;rw [hy]
  have e2:outR x none=(false,x.k,x.most,(x.pre,true),x.form,(x.hpre,x.hact),x.kind,x.wat,x.pk,x.mak,x.dos):=e0
  by_cases h4:s=[112,101,101,107]
  ·rw [if_pos h4,if_pos h4,zIu,bnd_some,e1 _ rfl]
  rw [if_neg h4,if_neg h4,zBf]
  by_cases h5:s=[109,97,107,101]
  ·rw [if_pos h5,if_pos h5,zIu,bnd_some,e1 _ rfl]
  rw [if_neg h5,if_neg h5,zBf]
  have hj2:zBW fu x.k x.most (x.pre,true) x.form (x.hpre,x.hact) x.kind x.wat x.pk x.mak x.dos (cutS s) ()=some (outR x (if (cutS s).1=[111,110] then
    (if (cutS s).2.2=true then (if zIx (cutS s).2.1<1 then none else if x.hooks.length=12 then none else some { x with k:=3,most:=60,act:=true,hpre:=x.hooks,hact:=true,kind:=zIx (cutS s).2.1,dos:=[] }) else none) else none)):=by
   unfold zBW
   dsimp only
   simp only [if_true]
   rw [zBf]
   by_cases h7:(cutS s).1=[111,110]
   ·rw [if_pos h7,if_pos h7]
    cases h8:(cutS s).2.2 with
    | false=>rw [cnd_false,if_neg (by simp),e2]
    | true =>
     rw [cnd_true,if_pos rfl,zNs,bnd_some,kind_m (by omega),bnd_some,zDX]
     by_cases h9:zIx (cutS s).2.1<1
     ·rw [if_pos h9,if_pos h9,e2]
     ·rw [if_neg h9,if_neg h9,zBf]
      rw [show (x.hpre++if x.hact then [(⟨x.kind,x.dos⟩:Hook)] else [])=x.hooks from rfl]
      rw [<- hhl]
      by_cases h10:x.hooks.length=12
      ·rw [if_pos (by omega),if_pos h10,e2]
      ·rw [if_neg (by omega),if_neg h10,zDL (by omega),bnd_some,zLF (by omega),bnd_some,zGg,bnd_some,zIu,bnd_some,e1 _ rfl]
   ·rw [if_neg h7,if_neg h7,e2]
  by_cases h6:(cutS s).1=[119,97,116,99,104]
  ·rw [if_pos h6,if_pos h6]
   cases h8:(cutS s).2.2 with
   | false =>
    rw [cnd_false,if_neg (by simp),hj2,if_neg (by rw [h6];decide)]
   | true =>
    rw [cnd_true,if_pos rfl,zQX (by omega),bnd_some]
    unfold fitB
    cases hr:zFh (cutS s).2.1 with
    | false =>
     rw [if_neg (by simp),if_neg (by simp),e2]
     rfl
    | true =>
     rw [if_pos rfl]
     dsimp only
     rw [show ((0:Int) != 0)=false from rfl,cnd_false,zHT,Bool.true_and]
     cases hlw:((cutS s).2.1.map zJz==(cutS s).2.1) with
     | false=>rw [cnd_false,if_neg (by simp),e2]
     | true =>
      rw [cnd_true,if_pos rfl,zBf]
      by_cases h9:x.wat.length=12
      ·rw [if_pos (by omega),if_pos h9,e2]
      ·rw [if_neg (by omega),if_neg h9,zDL (by simp;omega),bnd_some,e1 _ rfl]
  ·rw [if_neg h6,if_neg h6,hj2]
end Go.Proofs.YtoboimmgglnjfaaGreatDoor
/- The reader of scripts: line by line. -/
namespace Go.Proofs.YtoboimmgglnjfaaGreatDoor
open Go Go.Pw
set_option linter.unusedVariables false
def opR (s:Bs):Op:=match zBp 3000000 s with
 | some r=>r.1
 | none=>op0
theorem opR_m {fu:Nat} {s:Bs} (hs:s.length<=1000000) (hf:s.length+3000<fu):∃e,zBp fu s=some (opR s,e):=by
 unfold opR
 rcases zMC (fu:=3000000) hs (by omega) with ⟨o,h1,h2,h3⟩ | ⟨h1,h2⟩
 ·rw [h3]
  rcases zMC (fu:=fu) hs hf with ⟨p,g1,g2,g3⟩ | ⟨g1,g2⟩
  ·rw [zPp h1 g1 (h2.trans g2.symm)];exact ⟨0,g3⟩
  ·exact absurd h2 (g1 o h1)
 ·rw [h2]
  rcases zMC (fu:=fu) hs hf with ⟨p,g1,g2,g3⟩ | ⟨g1,g2⟩
  ·exact absurd g2 (h1 p g1)
  ·exact ⟨2,g2⟩
theorem zRT {o:Op} (h:RightP o) (hl:(putP o).length<=1000000):opR (putP o)=o:=by
 unfold opR
 rw [zHE h (by omega)]
def zFy (l:Bs):Bs:=l.filter fun b=>b != 10
theorem zHX {t:Bs} (h:(10:UInt8)∉t):zFy t=t:=List.filter_eq_self.2 fun b hb=>by
 have:b≠10:=fun e=>h (e▸hb)
 simpa using this
theorem zP6 {fu:Nat} {t:Bs} (hl:t.length<=1000000):zA7 fu (t++[10]) [10]=some t:=by
 unfold zA7 zAy zA2
 have e:(((t++[10]:Bs).length:Nat):Int) - ((([10]:Bs).length:Nat):Int)=((t.length:Nat):Int):=by simp
 rw [e,zJI (by omega) (by omega),zCR (by simp;omega),bnd_some,zC5 (by simp) (Nat.le_refl _),bnd_some,bnd_some]
 rw [show ((((t++[10]:Bs).drop t.length).take ((t++[10]:Bs).length - t.length))==([10]:Bs))=true from by simp,cnd_true,bnd_some]
 have:=zC5 (s:=(t++[10]:Bs)) (i:=0) (j:=t.length) (Nat.zero_le _) (by simp)
 rw [show ((0:Nat):Int)=0 from rfl] at this
 rw [this,bnd_some,bnd_some]
 simp
theorem zR0 {fu:Nat} {t:Bs} (hl:t.length<=1000000) (h:(10:UInt8)∉t):zA7 fu t [10]=some t:=by
 unfold zA7 zAy zA2
 cases t with
 | nil=>rfl
 | cons b s =>
  have e:(((b::s:Bs).length:Nat):Int) - ((([10]:Bs).length:Nat):Int)=((s.length:Nat):Int):=by simp
  simp only [List.length_cons] at hl
  rw [e,zJI (by omega) (by omega),zCR (by simp;omega),bnd_some,zC5 (by simp) (Nat.le_refl _),bnd_some,bnd_some]
  have hne:((((b::s:Bs).drop s.length).take ((b::s:Bs).length - s.length))==([10]:Bs))=false:=by
   rw [beq_eq_false_iff_ne]
   intro he
   have:(10:UInt8)∈((b::s:Bs).drop s.length).take ((b::s:Bs).length - s.length):=by rw [he];simp
   exact h (List.mem_of_mem_drop (List.mem_of_mem_take this))
  rw [hne,cnd_false,bnd_some]
def Line (l:Bs):Prop:=(∃t,l=t++[10]/\(10:UInt8)∉t)\/(l≠[]/\(10:UInt8)∉l)
theorem trim_m {fu:Nat} {l:Bs} (hl:l.length<=1000000) (h:Line l):zA7 fu l [10]=some (zFy l):=by
 rcases h with ⟨t,rfl,ht⟩ | ⟨_,ht⟩
 ·rw [zP6 (by simp at hl;omega)]
  have:zFy (t++[10])=t:=by
   unfold zFy
   rw [List.filter_append,show t.filter (fun b=>b != 10)=t from zHX ht]
   simp
  rw [this]
 ·rw [zR0 hl ht,zHX ht]
theorem zOv (l:Bs):(zFy l).length<=l.length:=List.length_filter_le _ _
theorem zLi {x y:Rs} {s:Bs} (hx:x.Ok) (h:zEt x s=some y):y.Ok:=by
 have hc:=zEd x
 have hh:=zF8 x
 have h12:=hx.cls12
 have hh12:=hx.hooks12
 unfold zEt at h
 split at h
 ·cases h
  exact ⟨hx.pre0,hx.hpre0,fun _=>rfl,fun h=>(by cases h),by simp,rfl,h12,hh12,hx.wat12,hx.pk60,hx.mak60,hx.dos60⟩
 split at h
 ·split at h
  ·cases h
  ·rename_i hne
   cases h
   refine ⟨fun h=>(by cases h),fun _=>rfl,fun h=>(by cases h),fun h=>(by cases h),by simp,rfl,?_,by simp [Rs.hooks],by simp,by simp,by simp,by simp⟩
   rw [zEd]
   simp only [if_true]
   omega
 split at h
 ·cases h
 rename_i hact
 have ha:x.act=true:=by cases e:x.act<;>simp_all
 split at h
 ·cases h
  exact ⟨hx.pre0,hx.hpre0,fun h=>absurd (ha.symm.trans h) (by simp),fun h=>(by cases h),by simp,rfl,h12,hh12,hx.wat12,hx.pk60,hx.mak60,hx.dos60⟩
 split at h
 ·cases h
  exact ⟨hx.pre0,hx.hpre0,fun h=>absurd (ha.symm.trans h) (by simp),fun h=>(by cases h),by simp,rfl,h12,hh12,hx.wat12,hx.pk60,hx.mak60,hx.dos60⟩
 split at h
 ·split at h
  ·split at h
   ·split at h
    ·cases h
    ·rename_i hw
     cases h
     refine ⟨hx.pre0,hx.hpre0,hx.k0,hx.k3,hx.kle,hx.most_,?_,hh12,?_,hx.pk60,hx.mak60,hx.dos60⟩
     ·rw [zEd] at h12 ⊢;exact h12
     ·have:=hx.wat12
      simp only [List.length_append,List.length_cons,List.length_nil]
      omega
   ·cases h
  ·cases h
 split at h
 ·split at h
  ·split at h
   ·cases h
   ·split at h
    ·cases h
    ·rename_i hne
     cases h
     refine ⟨hx.pre0,fun h=>(by cases h),fun h=>absurd (ha.symm.trans h) (by simp),fun _=>rfl,by simp,rfl,?_,?_,hx.wat12,hx.pk60,hx.mak60,by simp⟩
     ·rw [zEd] at h12 ⊢;exact h12
     ·rw [zF8]
      simp only [if_true]
      omega
  ·cases h
 ·cases h
def zDT (x:Rs×List Op) (s:Bs):Option (Rs×List Op) :=
 if s=[] then some x else match zEt x.1 s with
 | some y=>some (y,x.2)
 | none=>match x.1.k with
  | 0=>if x.2.length=300 then none else some (x.1,x.2++[opR s])
  | 1=>if x.1.pk.length=60 then none else some ({ x.1 with pk:=x.1.pk++[opR s] },x.2)
  | 2=>if x.1.mak.length=60 then none else some ({ x.1 with mak:=x.1.mak++[opR s] },x.2)
  | _=>if x.1.dos.length=60 then none else some ({ x.1 with dos:=x.1.dos++[opR s] },x.2)
def zMW:List Bs->Rs×List Op->Option (Rs×List Op)
 | [],x=>some x
 | l::ls,x=>match zDT x (zFy l) with
  | some y=>zMW ls y
  | none=>none
def finR:Option (Rs×List Op)->Script×Int
 | some x=>(⟨x.1.cls,x.2⟩,0)
 | none=>(⟨[],[]⟩,3)
theorem zP3 {x y:Rs×List Op} {s:Bs} (hx:x.1.Ok) (hm:x.2.length<=300) (h:zDT x s=some y):y.1.Ok/\y.2.length<=300:=by
 unfold zDT at h
 split at h
 ·cases h;exact ⟨hx,hm⟩
 split at h
 ·rename_i z hz
  cases h;exact ⟨zLi hx hz,hm⟩
 ·split at h
  ·split at h
   ·cases h
   ·cases h
    exact ⟨hx,by simp only [List.length_append,List.length_cons,List.length_nil];omega⟩
  ·split at h
   ·cases h
   ·rename_i hk hne
    cases h
    refine ⟨⟨hx.pre0,hx.hpre0,hx.k0,hx.k3,hx.kle,hx.most_,?_,hx.hooks12,hx.wat12,?_,hx.mak60,hx.dos60⟩,hm⟩
    ·have:=hx.cls12
     rw [zEd] at this ⊢;exact this
    ·have:=hx.pk60
     simp only [List.length_append,List.length_cons,List.length_nil];omega
  ·split at h
   ·cases h
   ·rename_i hk hne
    cases h
    refine ⟨⟨hx.pre0,hx.hpre0,hx.k0,hx.k3,hx.kle,hx.most_,?_,hx.hooks12,hx.wat12,hx.pk60,?_,hx.dos60⟩,hm⟩
    ·have:=hx.cls12
     rw [zEd] at this ⊢;exact this
    ·have:=hx.mak60
     simp only [List.length_append,List.length_cons,List.length_nil];omega
  ·split at h
   ·cases h
   ·rename_i hk hne
    cases h
    refine ⟨⟨hx.pre0,hx.hpre0,hx.k0,hx.k3,hx.kle,hx.most_,?_,?_,hx.wat12,hx.pk60,hx.mak60,?_⟩,hm⟩
    ·have:=hx.cls12
     rw [zEd] at this ⊢;exact this
    ·have:=hx.hooks12
     rw [zF8] at this ⊢;exact this
    ·have:=hx.dos60
     simp only [List.length_append,List.length_cons,List.length_nil];omega
theorem zOf {fu:Nat} (hf:30000<fu):∀(ls:List Bs) (x:Rs) (m:List Op),x.Ok->m.length<=300->(∀l∈ls,Line l/\l.length<=20000) ->
  zBB fu ls (x.k,x.most,(x.pre,x.act),x.form,x.wat,x.pk,x.mak,(x.hpre,x.hact),x.kind,x.dos,m)=some (finR (zMW ls (x,m)))
 | [],x,m,hx,hm,hl=>rfl
 | l::ls,x,m,hx,hm,hl=>by
  obtain ⟨h1,h2⟩:=hl l (by simp)
  have hls:∀l∈ls,Line l/\l.length<=20000:=fun l hl'=>hl l (by simp [hl'])
  have ht:=zOv l
  have ih:=fun (y:Rs) (m':List Op) (hy:y.Ok) (hm':m'.length<=300)=>zOf hf ls y m' hy hm' hls
  rw [zBB,trim_m (by omega) h1,bnd_some,zBf,zMW]
  have hso:=fun y=>zP3 (y:=y) (s:=zFy l) (x:=(x,m)) hx hm
  unfold zDT at hso ⊢
  by_cases h0:zFy l=[]
  ·rw [if_pos h0,if_pos h0]
   exact ih x m hx hm
  rw [if_neg h0] at hso
  rw [if_neg h0,if_neg h0,head_m hx (by omega) (by omega),bnd_some]
  dsimp only at hso ⊢
  cases hh:zEt x (zFy l) with
  | some y =>
   show cnd true (zBB fu ls (y.k,y.most,(y.pre,y.act),y.form,y.wat,y.pk,y.mak,(y.hpre,y.hact),y.kind,y.dos,m)) _=_
   rw [cnd_true]
   exact ih y m (zLi hx hh) hm
  | none =>
   rw [hh] at hso
   obtain ⟨e,he⟩:=opR_m (fu:=fu) (s:=zFy l) (by omega) (by omega)
   rw [show outR x none=(false,x.k,x.most,(x.pre,x.act),x.form,(x.hpre,x.hact),x.kind,x.wat,x.pk,x.mak,x.dos) from rfl]
   dsimp only
   rw [cnd_false]
   have hmo:=hx.most_
   dsimp only at hso ⊢
   match hk:x.k,hx.kle with
   | 0,_ =>
    rw [hk] at hmo hso
    simp only [if_true] at hmo
    try dsimp only at hso
    show cnd (((m.length:Nat):Int)==x.most) _ _=_
    rw [hmo,zBf]
    by_cases h3:m.length=300
    ·rw [if_pos (by omega),if_pos h3];rfl
    ·rw [if_neg (by omega),if_neg h3,he,bnd_some,zDL (by simp;omega),bnd_some]
     have:=ih x (m++[opR (zFy l)]) hx (by simp;omega)
     rw [hk,hmo] at this
     exact this
   | 1,_ =>
    rw [hk] at hmo hso
    simp only [show ¬(1=0) by decide,if_false] at hmo
    try dsimp only at hso
    have hact:x.act=true:=by
     cases ha:x.act with
     | true=>rfl
     | false=>have:=hx.k0 ha;omega
    show bnd (zGy x.act) (fun _=>cnd (((x.pk.length:Nat):Int)==x.most) _ _)=_
    rw [hact,show zGy true=some () from rfl,bnd_some,hmo,zBf]
    by_cases h3:x.pk.length=60
    ·rw [if_pos (by omega),if_pos h3];rfl
    ·have hp:=hx.pk60
     rw [if_neg (by omega),if_neg h3,he,bnd_some,zDL (by simp;omega),bnd_some]
     have hy:=(hso _ (if_neg h3)).1
     have:=ih _ m hy hm
     dsimp only at this
     rw [hmo,hact] at this
     exact this
   | 2,_ =>
    rw [hk] at hmo hso
    simp only [show ¬(2=0) by decide,if_false] at hmo
    try dsimp only at hso
    have hact:x.act=true:=by
     cases ha:x.act with
     | true=>rfl
     | false=>have:=hx.k0 ha;omega
    show bnd (zGy x.act) (fun _=>cnd (((x.mak.length:Nat):Int)==x.most) _ _)=_
    rw [hact,show zGy true=some () from rfl,bnd_some,hmo,zBf]
    by_cases h3:x.mak.length=60
    ·rw [if_pos (by omega),if_pos h3];rfl
    ·have hp:=hx.mak60
     rw [if_neg (by omega),if_neg h3,he,bnd_some,zDL (by simp;omega),bnd_some]
     have hy:=(hso _ (if_neg h3)).1
     have:=ih _ m hy hm
     dsimp only at this
     rw [hmo,hact] at this
     exact this
   | 3,_ =>
    rw [hk] at hmo hso
    simp only [show ¬(3=0) by decide,if_false] at hmo
    try dsimp only at hso
    have hact:x.hact=true:=hx.k3 hk
    show bnd (zGy x.hact) (fun _=>cnd (((x.dos.length:Nat):Int)==x.most) _ _)=_
    rw [hact,show zGy true=some () from rfl,bnd_some,hmo,zBf]
    by_cases h3:x.dos.length=60
    ·rw [if_pos (by omega),if_pos h3];rfl
    ·have hp:=hx.dos60
     rw [if_neg (by omega),if_neg h3,he,bnd_some,zDL (by simp;omega),bnd_some]
     have hy:=(hso _ (if_neg h3)).1
     have:=ih _ m hy hm
     dsimp only at this
     rw [hmo,hact] at this
     exact this
def rs0:Rs:=⟨0,300,[],false,false,[],false,0,[],[],[],[]⟩
theorem rs0_ok:rs0.Ok:=⟨fun _=>rfl,fun _=>rfl,fun _=>rfl,fun h=>(by cases h),by decide,rfl,by decide,by decide,by decide,by decide,by decide,by decide⟩
def zLC (s:Bs):Script×Int:=if s.length>16384 then (⟨[],[]⟩,3) else finR (zMW (zBX s) (rs0,[]))
theorem zLG {fu:Nat} (hf:30000<fu) (s:Bs):zCB fu s=some (zLC s):=by
 unfold zCB zLC
 rw [zDX]
 by_cases h:s.length>16384
 ·rw [if_pos (by omega),if_pos h]
 ·rw [if_neg (by omega),if_neg h,zQZ,bnd_some,show fits s=some () from if_pos (by omega),bnd_some]
  exact zOf hf (zBX s) rs0 [] rs0_ok (by simp) fun l hl=>⟨zE7 s l hl,by have:=zHh hl;omega⟩
end Go.Proofs.YtoboimmgglnjfaaGreatDoor
/- Scripts: who is allowed, and the text that is put. -/
namespace Go.Proofs.YtoboimmgglnjfaaGreatDoor
open Go Go.Pw
set_option linter.unusedVariables false
theorem eqO (x y:Op):eqOp x y=decide (x=y):=by
 rw [Bool.eq_iff_iff,decide_eq_true_eq]
 obtain ⟨a1,a2,a3,a4,a5,a6,a7⟩:=x
 obtain ⟨b1,b2,b3,b4,b5,b6,b7⟩:=y
 simp [eqOp]
def okOp (o:Op):Bool:=decide (o=op0)||zFE o
theorem odd_m (fu:Nat) (o:Op):zCM fu o=some (!okOp o):=by
 unfold zCM okOp
 rw [eqO,zHT,zDX]
 show (if o=op0 then some false else bnd (zDm fu o) fun r2=>some (!r2))=_
 by_cases h:o=op0
 ·rw [if_pos h,decide_eq_true h];rfl
 ·rw [if_neg h,decide_eq_false h,zOg,bnd_some,Bool.false_or]
theorem hasOp {fu:Nat} {t:Op->Option Bool} {p:Op->Bool} {l:List Op} (ht:∀x∈l,t x=some (p x)) (hf:l.length<fu) (hb:l.length<=1000000):zBI fu t l=some (l.any p):=by
 unfold zBI zB6
 obtain ⟨r,h1,h2⟩:=zHF (L:=zAv t l) l p (fun i hi k=>by
  simp only [zAv]
  rw [zCR (by simpa using hi),zEq hi,bnd_some,ht _ (List.getElem_mem hi),bnd_some,zCV (by omega),bnd_some]
  cases p l[i]<;>rfl) (fun k=>by simp only [zAv];rw [zBc (by simp)]) hf
 rw [h1,bnd_some,h2]
theorem zRH {fu:Nat} {t:Hook->Option Bool} {p:Hook->Bool} {l:List Hook} (ht:∀x∈l,t x=some (p x)) (hf:l.length<fu) (hb:l.length<=1000000):zBD fu t l=some (l.any p):=by
 unfold zBD zBu
 obtain ⟨r,h1,h2⟩:=zHF (L:=zAm t l) l p (fun i hi k=>by
  simp only [zAm]
  rw [zCR (by simpa using hi),zEq hi,bnd_some,ht _ (List.getElem_mem hi),bnd_some,zCV (by omega),bnd_some]
  cases p l[i]<;>rfl) (fun k=>by simp only [zAm];rw [zBc (by simp)]) hf
 rw [h1,bnd_some,h2]
theorem zPP {fu:Nat} {t:Class->Option Bool} {p:Class->Bool} {l:List Class} (ht:∀x∈l,t x=some (p x)) (hf:l.length<fu) (hb:l.length<=1000000):zA8 fu t l=some (l.any p):=by
 unfold zA8 zBq
 obtain ⟨r,h1,h2⟩:=zHF (L:=zAj t l) l p (fun i hi k=>by
  simp only [zAj]
  rw [zCR (by simpa using hi),zEq hi,bnd_some,ht _ (List.getElem_mem hi),bnd_some,zCV (by omega),bnd_some]
  cases p l[i]<;>rfl) (fun k=>by simp only [zAj];rw [zBc (by simp)]) hf
 rw [h1,bnd_some,h2]
theorem hasStr {fu:Nat} {t:Bs->Option Bool} {p:Bs->Bool} {l:List Bs} (ht:∀x∈l,t x=some (p x)) (hf:l.length<fu) (hb:l.length<=1000000):zBG fu t l=some (l.any p):=by
 unfold zBG zB2
 obtain ⟨r,h1,h2⟩:=zHF (L:=zAr t l) l p (fun i hi k=>by
  simp only [zAr]
  rw [zCR (by simpa using hi),zEq hi,bnd_some,ht _ (List.getElem_mem hi),bnd_some,zCV (by omega),bnd_some]
  cases p l[i]<;>rfl) (fun k=>by simp only [zAr];rw [zBc (by simp)]) hf
 rw [h1,bnd_some,h2]
theorem zIh {α : Type} (l:List α) (p : α -> Bool):(!(l.any fun x => !p x))=l.all p:=by induction l<;>simp_all
theorem zO5 {α : Type} (l:List α) (p : α -> Bool):(l.any fun x => !p x) = !(l.all p):=by rw [<- zIh,Bool.not_not]
def hokB (h:Hook):Bool:=decide (1<=h.Kind)&&(decide (h.Kind<=8)&&decide (h.Do.length<=60))
def clsB (c:Class):Bool:=decide (c.Watch.length<=12)&&(c.Watch.all fitB&&(decide (c.Hooks.length<=12)&&(c.Hooks.all hokB&&(decide (c.Peek.length<=60)&&decide (c.Make.length<=60)))))
theorem gt_le (n:Nat) (m:Nat):decide (((n:Nat):Int)>(m:Int)) = !decide (n<=m):=by
 by_cases h:n<=m
 ·rw [decide_eq_true h,decide_eq_false (by omega)];rfl
 ·rw [decide_eq_false h,decide_eq_true (by omega)];rfl
theorem zRM (n:Nat) (m:Nat):decide (((n:Nat):Int)<=(m:Int))=decide (n<=m):=by
 rw [Bool.eq_iff_iff,decide_eq_true_eq,decide_eq_true_eq];omega
theorem zNz (fu:Nat) (l:List Op):zDQ fu l=some (!decide (l.length<=60)):=congrArg some (gt_le l.length 60)
theorem zSA {fu:Nat} (hf:300<fu) (s:Bs):zBO fu s=some (!fitB s):=by
 unfold zBO fitB
 rw [zQX (by omega),bnd_some]
 cases zFh s with
 | false=>rfl
 | true =>
  rw [if_pos rfl,Bool.true_and]
  rfl
theorem zR9 (fu:Nat) (h:Hook):zBP fu h=some (!hokB h):=by
 unfold zBP hokB
 rw [zNz,bnd_some,zDX,zDX]
 by_cases h1:h.Kind<1
 ·rw [if_pos h1,decide_eq_false (by omega)];rfl
 ·rw [if_neg h1,decide_eq_true (show 1<=h.Kind by omega),Bool.true_and]
  by_cases h2:h.Kind>8
  ·rw [if_pos h2,decide_eq_false (by omega)];rfl
  ·rw [if_neg h2,decide_eq_true (show h.Kind<=8 by omega),Bool.true_and]
theorem zO0 {fu:Nat} (hf:300<fu) (c:Class):zBr fu c=some (clsB c):=by
 unfold zBr clsB
 rw [show decide (((c.Watch.length:Nat):Int)<=12)=decide (c.Watch.length<=12) from zRM _ 12,show decide (((c.Hooks.length:Nat):Int)<=12)=decide (c.Hooks.length<=12) from zRM _ 12]
 by_cases h1:c.Watch.length<=12
 ·rw [decide_eq_true h1,cnd_true,hasStr (p:=fun s => !fitB s) (fun s _=>zSA hf s) (by omega) (by omega),bnd_some,zIh,Bool.true_and]
  cases c.Watch.all fitB with
  | false=>rfl
  | true =>
   rw [cnd_true,Bool.true_and]
   by_cases h2:c.Hooks.length<=12
   ·rw [decide_eq_true h2,cnd_true,zRH (p:=fun h => !hokB h) (fun h _=>zR9 fu h) (by omega) (by omega),bnd_some,zIh,Bool.true_and]
    cases c.Hooks.all hokB with
    | false=>rfl
    | true =>
     rw [cnd_true,zNz,bnd_some,Bool.not_not,Bool.true_and,zNz,bnd_some]
     cases decide (c.Peek.length<=60)<;>simp
   ·rw [decide_eq_false h2];rfl
 ·rw [decide_eq_false h1];rfl
def okPr (y:zMM):Bool:=decide ((y.1.length:Int)<=y.2)&&y.1.all okOp
def zEp (s:Script):Bool:=(zAt s).all okPr&&(decide (s.Classes.length<=12)&&s.Classes.all clsB)
theorem zMl (s:Script):∀y∈zAt s,y.2<=300:=by
 intro y hy
 simp only [zAt,List.mem_append,List.mem_flatMap,zHp,List.mem_cons,List.mem_map,List.not_mem_nil,or_false] at hy
 rcases hy with ⟨c,_,rfl | rfl | ⟨h,_,rfl⟩⟩ | rfl<;>simp
theorem zJV {fu:Nat} (hf:1000<fu) (s:Script):∀ys:List zMM,(∀y∈ys,y.2<=300)->zBn fu s ys ()=some (ys.all okPr&&(decide (s.Classes.length<=12)&&s.Classes.all clsB))
 | [],_=>by
  rw [zBn,show decide (((s.Classes.length:Nat):Int)<=12)=decide (s.Classes.length<=12) from zRM _ 12,List.all_nil,Bool.true_and]
  by_cases h:s.Classes.length<=12
  ·rw [decide_eq_true h,cnd_true,zPP (p:=fun c => !clsB c) (fun c _=>?_) (by omega) (by omega),bnd_some,zIh,Bool.true_and]
   unfold zBa
   rw [zO0 (by omega),bnd_some]
  ·rw [decide_eq_false h];rfl
 | y::ys,hy=>by
  have h3:=hy y (by simp)
  rw [zBn,List.all_cons,zDX]
  unfold okPr
  by_cases h:((y.1.length:Nat):Int)>y.2
  ·rw [if_pos h,decide_eq_false (by omega)];rfl
  ·rw [if_neg h,decide_eq_true (show (y.1.length:Int)<=y.2 by omega),hasOp (p:=fun o => !okOp o) (fun o _=>odd_m fu o) (by omega) (by omega),bnd_some,zO5,Bool.true_and]
   cases y.1.all okOp with
   | false=>rfl
   | true =>
    show cnd false _ _=_
    rw [cnd_false,zJV hf s ys fun z hz=>hy z (by simp [hz]),Bool.true_and]
    rfl
theorem zJW {fu:Nat} (hf:1000<fu) (s:Script):zCC fu s=some (zEp s):=zJV hf s _ (zMl s)
end Go.Proofs.YtoboimmgglnjfaaGreatDoor
/- Scripts: the text that is put. -/
namespace Go.Proofs.YtoboimmgglnjfaaGreatDoor
open Go Go.Pw
set_option linter.unusedVariables false
set_option maxRecDepth 4000
def zEE (o:Op):Bs:=if zFE o=true then putP o else [63]
def opL (o:Op):Bs:=zEE o++[10]
def opsT (h:Bs) (l:List Op):Bs:=(if l=[]\/h=[] then [] else h++[10])++l.flatMap opL
def zIc (w:Bs):Bs:=([119,97,116,99,104]:Bs)++32::w++[10]
def zIv (h:Hook):Bs:=([111,110]:Bs)++32::kindsL.getD h.Kind.toNat []++[10]++opsT [] h.Do
def clsH (c:Class):Bs:=(if c.Form then ([99,108,97,115,115]:Bs)++32::([102,111,114,109]:Bs) else ([99,108,97,115,115]:Bs))++[10]
def clsT (c:Class):Bs:=clsH c++(c.Watch.flatMap zIc++(opsT ([112,101,101,107]:Bs) c.Peek++(opsT ([109,97,107,101]:Bs) c.Make++c.Hooks.flatMap zIv)))
def putR (s:Script):Bs:=s.Classes.flatMap clsT++opsT ([109,97,105,110]:Bs) s.Main
theorem zKB (o:Op):(zEE o).length<=1000:=by
 unfold zEE
 split
 ·rename_i h;exact zJD (right_iff.1 h)
 ·simp
theorem zEf {α : Type} (f : α -> Bs) (n:Nat):∀(l:List α),(∀x∈l,(f x).length<=n)->(l.flatMap f).length<=l.length*n
 | [],_=>by simp
 | x::l,h=>by
  have:=zEf f n l fun y hy=>h y (by simp [hy])
  have h1:=h x (by simp)
  simp only [List.flatMap_cons,List.length_append,List.length_cons,Nat.succ_mul]
  omega
theorem zEj (h:Bs) (l:List Op):(opsT h l).length<=h.length+1+l.length*1001:=by
 have:=zEf opL 1001 l fun o _=>by unfold opL;have:=zKB o;simp;omega
 unfold opsT
 rw [List.length_append]
 split<;>simp only [List.length_nil,List.length_append,List.length_cons]<;>omega
theorem zPV (a b s:Bs):Lib.join [a,b] s=a++(s++b):=by simp [Lib.join,List.intercalate]
theorem zQa {fu:Nat} {ws:List Bs} {t:Bs} (h0:ws≠[]) (hn:ws.length<=100) (hj:(Lib.join ws [32]).length<=100000) (ht:t.length<=900000000):zAQ fu ws (zAO t)=some (zAO (t++(Lib.join ws [32]++[10]))):=by
 unfold zAQ zJu
 rw [if_pos ⟨h0,by omega,by omega⟩,bnd_some,wstr (by omega),bnd_some,wstr (by simp;omega),bnd_some,List.append_assoc]
theorem zKq {fu:Nat} {w t:Bs} (hj:w.length<=100000) (ht:t.length<=900000000):zAQ fu [w] (zAO t)=some (zAO (t++(w++[10]))):=by
 have h:Lib.join [w] [32]=w:=Lib.join_one _ _
 rw [zQa (by simp) (by simp) (by rw [h];exact hj) ht,h]
theorem zKr {fu:Nat} {v w t:Bs} (hv:v.length<=100) (hj:w.length<=1000) (ht:t.length<=900000000):zAQ fu [v,w] (zAO t)=some (zAO (t++(v++32::w++[10]))):=by
 have h:Lib.join [v,w] [32]=v++32::w:=zPV _ _ _
 rw [zQa (by simp) (by simp) (by rw [h];simp;omega) ht,h]
theorem zQg {fu:Nat} {l:List Op}:∀(j i k:Nat) (t:Bs),i+j=l.length->j<k->l.length<=100000->t.length+j*2000<=800000000->zAe fu l k ((i:Int),zAO t)=some (zAO (t++(l.drop i).flatMap opL))
 | 0,i,k+1,t,hi,hk,hl,ht=>by
  rw [zAe,zBc (by simp;omega),List.drop_of_length_le (by omega)]
  simp
 | j+1,i,k+1,t,hi,hk,hl,ht=>by
  have hlt:i<l.length:=by omega
  rw [zAe,zCR (by simpa using hlt),zEq hlt,bnd_some,zRf,bnd_some]
  have hp:=zKB l[i]
  have e:∀w:Bs,w=zEE l[i]->bnd (zAQ fu [w] (zAO t)) (fun r10=>bnd (rng .i64 ((i:Int)+1)) fun i12=>zAe fu l k (i12,r10))=some (zAO (t++(l.drop i).flatMap opL)):=fun w hw=>by
   subst hw
   rw [zKq (by omega) (by omega),bnd_some,zCV (by omega),bnd_some,zQg j (i+1) k _ (by omega) (by omega) hl (by simp;omega),List.drop_eq_getElem_cons hlt,List.flatMap_cons]
   simp [opL]
  unfold zEE at e
  by_cases hr:zFE l[i]=true
  ·rw [if_pos hr] at e ⊢
   show cnd ((0:Int) != 0) _ _=_
   rw [show ((0:Int) != 0)=false from rfl,cnd_false]
   exact e _ rfl
  ·rw [if_neg hr] at e ⊢
   show cnd ((1:Int) != 0) _ _=_
   rw [show ((1:Int) != 0)=true from rfl,cnd_true]
   exact e _ rfl
theorem zL3 {fu:Nat} {h:Bs} {l:List Op} {t:Bs} (hf:l.length<fu) (hh:h.length<=1000) (hl:l.length<=1000) (ht:t.length<=700000000):zA6 fu h l (zAO t)=some (zAO (t++opsT h l)):=by
 unfold zA6 zBU opsT
 have key:∀t:Bs,t.length<=750000000->zAe fu l fu (0,zAO t)=some (zAO (t++l.flatMap opL)):=fun t ht=>zQg l.length 0 fu t (by omega) hf (by omega) (by omega)
 cases l with
 | nil =>
  rw [zBc (by simp),key t (by omega)]
  simp
 | cons o l =>
  rw [zCR (by simp),zHT,zBf]
  by_cases h0:h=[]
  ·rw [if_pos h0,key t (by omega),if_pos (.inr h0)];rfl
  ·rw [if_neg h0,zKq (by omega) (by omega),bnd_some,key _ (by simp;omega),if_neg (by simp [h0])]
   simp
theorem zE6 (i:Nat):(kindsL.getD i []).length<=8:=by
 rcases Nat.lt_or_ge i 9 with h | h
 ·have:∀j:Fin 9,(kindsL.getD j []).length<=8:=by decide
  exact this ⟨i,h⟩
 ·rw [List.getD_eq_getElem?_getD,List.getElem?_eq_none (by simpa [kindsL] using h)];simp
theorem zPZ {k:Int} (h1:1<=k) (h2:k<=8):idx kindsL k=some (kindsL.getD k.toNat []):=by
 have e:k=((k.toNat:Nat):Int):=by omega
 rw [e,zEq (by simp [kindsL];omega)]
 simp only [Int.toNat_natCast]
 rw [List.getD_eq_getElem?_getD,List.getElem?_eq_getElem (by simp [kindsL];omega)]
 rfl
theorem zQl {fu:Nat} {t3:Int} {c:Class} {rc:Int×List Int->Option (Bs×Int)} (hf:1000<fu) (hc:clsB c=true) (hp:100<fu):∀(j i k:Nat) (t:Bs),i+j=c.Hooks.length->j<k->t.length+j*70000<=600000000 ->
  zCZ fu t3 c rc k ((i:Int),zAO t)=bnd (rng .i64 (t3+1)) fun i24=>rc (i24,zAO (t++(c.Hooks.drop i).flatMap zIv))
 | 0,i,k+1,t,hi,hk,ht=>by
  rw [zCZ,zBc (by simp;omega),List.drop_of_length_le (by omega)]
  simp
 | j+1,i,k+1,t,hi,hk,ht=>by
  have hlt:i<c.Hooks.length:=by omega
  simp only [clsB,Bool.and_eq_true,decide_eq_true_eq] at hc
  have hh:=List.all_eq_true.1 hc.2.2.2.1 c.Hooks[i] (List.getElem_mem hlt)
  simp only [hokB,Bool.and_eq_true,decide_eq_true_eq] at hh
  rw [zCZ,zCR (by simpa using hlt),zEq hlt,bnd_some,zNs,bnd_some,zPZ hh.1 hh.2.1,bnd_some]
  have hk8:=zE6 c.Hooks[i].Kind.toNat
  have hol:=zEj [] c.Hooks[i].Do
  simp only [List.length_nil] at hol
  rw [zKr (by simp) (by omega) (by omega),bnd_some,zL3 (by omega) (by simp) (by omega) (by simp only [List.length_append,List.length_cons,List.length_nil];omega),bnd_some,zCV (by omega),bnd_some,
   zQl hf (by simp only [clsB,Bool.and_eq_true,decide_eq_true_eq];exact hc) hp j (i+1) k _ (by omega) (by omega) (by simp only [List.length_append,List.length_cons,List.length_nil];omega),List.drop_eq_getElem_cons hlt,List.flatMap_cons]
  simp [zIv]
theorem zQk {fu:Nat} {t3:Int} {c:Class} {rc:Int×List Int->Option (Bs×Int)} (hf:1000<fu) (hc:clsB c=true):∀(j i k:Nat) (t:Bs),i+j=c.Watch.length->j<k->t.length+j*70000<=500000000 ->
  zCY fu t3 c rc k ((i:Int),zAO t)=bnd (rng .i64 (t3+1)) fun i24=>rc (i24,zAO (t++((c.Watch.drop i).flatMap zIc++(opsT ([112,101,101,107]:Bs) c.Peek++(opsT ([109,97,107,101]:Bs) c.Make++c.Hooks.flatMap zIv)))))
 | 0,i,k+1,t,hi,hk,ht=>by
  have hc':=hc
  simp only [clsB,Bool.and_eq_true,decide_eq_true_eq] at hc'
  have h1:=zEj ([112,101,101,107]:Bs) c.Peek
  have h2:=zEj ([109,97,107,101]:Bs) c.Make
  simp only [List.length_cons,List.length_nil] at h1 h2
  have hp1:=hc'.2.2.2.2.1
  have hp2:=hc'.2.2.2.2.2
  have hw:=hc'.2.2.1
  clear hc'
  have l1:(t++opsT ([112,101,101,107]:Bs) c.Peek).length=t.length+(opsT ([112,101,101,107]:Bs) c.Peek).length:=List.length_append
  have l2:((t++opsT ([112,101,101,107]:Bs) c.Peek)++opsT ([109,97,107,101]:Bs) c.Make).length=(t++opsT ([112,101,101,107]:Bs) c.Peek).length+(opsT ([109,97,107,101]:Bs) c.Make).length:=List.length_append
  have hb:(t++opsT ([112,101,101,107]:Bs) c.Peek).length<=700000000:=by omega
  have hb2:((t++opsT ([112,101,101,107]:Bs) c.Peek)++opsT ([109,97,107,101]:Bs) c.Make).length+c.Hooks.length*70000<=600000000:=by omega
  have q1:c.Peek.length<fu/\c.Peek.length<=1000/\t.length<=700000000:=by omega
  have q2:c.Make.length<fu/\c.Make.length<=1000:=by omega
  have e1:=zL3 (fu:=fu) (h:=([112,101,101,107]:Bs)) (t:=t) q1.1 (by decide) q1.2.1 q1.2.2
  have e2:=zL3 (fu:=fu) (h:=([109,97,107,101]:Bs)) q2.1 (by decide) q2.2 hb
  rw [zCY,zBc (by simp;omega),e1,bnd_some,e2,bnd_some]
  have:=zQl (fu:=fu) (t3:=t3) (rc:=rc) hf hc (by omega) c.Hooks.length 0 fu ((t++opsT ([112,101,101,107]:Bs) c.Peek)++opsT ([109,97,107,101]:Bs) c.Make) (by omega) (by omega) hb2
  rw [show ((0:Nat):Int)=0 from rfl] at this
  rw [this,List.drop_of_length_le (by omega:c.Watch.length<=i)]
  simp
 | j+1,i,k+1,t,hi,hk,ht=>by
  have hlt:i<c.Watch.length:=by omega
  have hc':=hc
  simp only [clsB,Bool.and_eq_true,decide_eq_true_eq] at hc'
  have hw:=List.all_eq_true.1 hc'.2.1 c.Watch[i] (List.getElem_mem hlt)
  unfold fitB at hw
  simp only [Bool.and_eq_true] at hw
  have hwl:=(zGe hw.1).2
  rw [zCY,zCR (by simpa using hlt),zEq hlt,bnd_some,zKr (by simp) (by omega) (by omega),bnd_some,zCV (by omega),bnd_some,
   zQk hf hc j (i+1) k _ (by omega) (by omega) (by simp only [List.length_append,List.length_cons,List.length_nil];omega),List.drop_eq_getElem_cons hlt,List.flatMap_cons]
  simp [zIc]
theorem zMr {c:Class} (hc:clsB c=true):(c.Watch.flatMap zIc).length<=12*50:=by
 simp only [clsB,Bool.and_eq_true,decide_eq_true_eq] at hc
 have:=zEf zIc 50 c.Watch fun w hw=>by
  have hw:=List.all_eq_true.1 hc.2.1 w hw
  unfold fitB at hw
  simp only [Bool.and_eq_true] at hw
  have hwl:=(zGe hw.1).2
  simp [zIc];omega
 have h1:=hc.1
 have:c.Watch.length*50<=12*50:=Nat.mul_le_mul_right _ h1
 omega
theorem zPE {c:Class} (hc:clsB c=true):(clsT c).length<=1000000:=by
 have hw:=zMr hc
 simp only [clsB,Bool.and_eq_true,decide_eq_true_eq] at hc
 have h1:=zEj ([112,101,101,107]:Bs) c.Peek
 have h2:=zEj ([109,97,107,101]:Bs) c.Make
 simp only [List.length_cons,List.length_nil] at h1 h2
 have h3:=zEf zIv 62000 c.Hooks fun h hh=>by
  have hh:=List.all_eq_true.1 hc.2.2.2.1 h hh
  simp only [hokB,Bool.and_eq_true,decide_eq_true_eq] at hh
  have hol:=zEj [] h.Do
  simp only [List.length_nil] at hol
  have:=zE6 h.Kind.toNat
  simp only [zIv,List.length_append,List.length_cons,List.length_nil]
  omega
 have h4:(clsH c).length<=20:=by unfold clsH;split<;>simp
 unfold clsT
 simp only [List.length_append]
 omega
def finP (t:Bs):Bs×Int:=if t.length>16384 then ([],3) else (t,0)
theorem zQj {fu:Nat} {s:Script} (hf:1000<fu) (hs:s.Classes.length<=12) (hc:∀c∈s.Classes,clsB c=true) (hm:s.Main.length<=300):∀(j i k:Nat) (t:Bs),i+j=s.Classes.length->j<k->t.length+j*1000000<=300000000 ->
  zA3 fu s k ((i:Int),zAO t)=some (finP (t++((s.Classes.drop i).flatMap clsT++opsT ([109,97,105,110]:Bs) s.Main)))
 | 0,i,k+1,t,hi,hk,ht=>by
  have h1:=zEj ([109,97,105,110]:Bs) s.Main
  simp only [List.length_cons,List.length_nil] at h1
  rw [zA3,zBc (by simp;omega),zL3 (by omega) (by simp) (by omega) (by omega),bnd_some,List.drop_of_length_le (by omega)]
  unfold zCN
  rw [bnd_some,zHQ,zDX,bstr,bnd_some,List.flatMap_nil,List.nil_append]
  unfold finP
  by_cases h:(t++opsT ([109,97,105,110]:Bs) s.Main).length>16384
  ·rw [if_pos h,if_pos (by omega)]
  ·rw [if_neg h,if_neg (by omega)]
 | j+1,i,k+1,t,hi,hk,ht=>by
  have hlt:i<s.Classes.length:=by omega
  have hci:=hc _ (List.getElem_mem hlt)
  have hcl:=zPE hci
  have hci':=hci
  simp only [clsB,Bool.and_eq_true,decide_eq_true_eq] at hci'
  have e:∀h:Bs,h=clsH s.Classes[i]->zCy fu (i:Int) s.Classes[i] (zA3 fu s k) (zAO (t++h))=some (finP (t++((s.Classes.drop i).flatMap clsT++opsT ([109,97,105,110]:Bs) s.Main))):=fun h hh=>by
   subst hh
   have h4:(clsH s.Classes[i]).length<=20:=by unfold clsH;split<;>simp
   unfold zCy
   have:=zQk (fu:=fu) (t3:=(i:Int)) (rc:=zA3 fu s k) hf hci s.Classes[i].Watch.length 0 fu (t++clsH s.Classes[i]) (by omega) (by omega) (by simp only [List.length_append];omega)
   rw [show ((0:Nat):Int)=0 from rfl] at this
   rw [this,zCV (by omega),bnd_some,List.drop_zero,List.append_assoc]
   show zA3 fu s k (((i+1:Nat):Int),zAO (t++clsT s.Classes[i]))=_
   rw [zQj hf hs hc hm j (i+1) k _ (by omega) (by omega) (by simp only [List.length_append];omega),List.drop_eq_getElem_cons hlt,List.flatMap_cons]
   simp
  rw [zA3,zCR (by simpa using hlt),zEq hlt,bnd_some]
  unfold clsH at e
  cases hF:s.Classes[i].Form with
  | true =>
   rw [hF] at e
   rw [cnd_true,zKr (by simp) (by simp) (by omega),bnd_some]
   exact e _ rfl
  | false =>
   rw [hF] at e
   rw [cnd_false,zKq (by simp) (by omega),bnd_some]
   exact e _ rfl
theorem zEb {s:Script} (h:zEp s=true):s.Classes.length<=12/\(∀c∈s.Classes,clsB c=true)/\s.Main.length<=300:=by
 unfold zEp at h
 simp only [Bool.and_eq_true,decide_eq_true_eq] at h
 refine ⟨h.2.1,fun c hc=>List.all_eq_true.1 h.2.2 c hc,?_⟩
 have:=List.all_eq_true.1 h.1 (s.Main,300) (by simp [zAt])
 simp only [okPr,Bool.and_eq_true,decide_eq_true_eq] at this
 omega
def putA (s:Script):Bs×Int:=if zEp s=true then finP (putR s) else ([],1)
theorem sput_m {fu:Nat} (hf:1000<fu) (s:Script):zDN fu s=some (putA s):=by
 unfold zDN putA
 rw [zJW (by omega),bnd_some]
 cases h:zEp s with
 | false=>rfl
 | true =>
  obtain ⟨h1,h2,h3⟩:=zEb h
  rw [if_pos rfl]
  show cnd false _ _=_
  rw [cnd_false]
  have:=zQj (fu:=fu) hf h1 h2 h3 s.Classes.length 0 fu [] (by omega) (by omega) (by simp;omega)
  exact this
end Go.Proofs.YtoboimmgglnjfaaGreatDoor
/- Scripts: what is put is read as it was. -/
namespace Go.Proofs.YtoboimmgglnjfaaGreatDoor
open Go Go.Pw
set_option linter.unusedVariables false
def zDa (s:Bs):List Bs:=(zBX s).map zFy
def zBH:List Bs->Rs×List Op->Option (Rs×List Op)
 | [],x=>some x
 | t::ts,x=>match zDT x t with
  | some y=>zBH ts y
  | none=>none
theorem zNd:∀(ls:List Bs) (x:Rs×List Op),zMW ls x=zBH (ls.map zFy) x
 | [],x=>rfl
 | l::ls,x=>by
  rw [zMW,List.map_cons,zBH]
  cases zDT x (zFy l) with
  | none=>rfl
  | some y=>exact zNd ls y
theorem zLD (s:Bs):zLC s=if s.length>16384 then (⟨[],[]⟩,3) else finR (zBH (zDa s) (rs0,[])):=by
 unfold zLC zDa
 rw [zNd]
theorem zDv:∀(l m:List Bs) (x:Rs×List Op),zBH (l++m) x=match zBH l x with
  | some y=>zBH m y
  | none=>none
 | [],m,x=>rfl
 | t::l,m,x=>by
  rw [List.cons_append,zBH,zBH]
  cases zDT x t with
  | none=>rfl
  | some y=>exact zDv l m y
theorem zB8 {t:Bs} (r:Bs) (h:(10:UInt8)∉t):zDa (t++10::r)=t::zDa r:=by
 unfold zDa
 rw [zGl h,List.map_cons]
 congr 1
 unfold zFy
 rw [List.filter_append,show t.filter (fun b=>b != 10)=t from zHX h]
 simp
theorem zIY:∀(ts:List Bs) (r:Bs),(∀t∈ts,(10:UInt8)∉t)->zDa (ts.flatMap (fun t=>t++[10])++r)=ts++zDa r
 | [],r,_=>rfl
 | t::ts,r,h=>by
  rw [List.flatMap_cons,List.append_assoc,List.append_assoc,List.singleton_append,zB8 _ (h t (by simp)),zIY ts r fun u hu=>h u (by simp [hu])]
  rfl
def opsL (h:Bs) (l:List Op):List Bs:=(if l=[]\/h=[] then [] else [h])++l.map zEE
def zKm (h:Hook):List Bs:=(([111,110]:Bs)++32::kindsL.getD h.Kind.toNat [])::opsL [] h.Do
def clsF (c:Class):Bs:=if c.Form then ([99,108,97,115,115]:Bs)++32::([102,111,114,109]:Bs) else ([99,108,97,115,115]:Bs)
def clsL (c:Class):List Bs:=clsF c::(c.Watch.map (fun w=>([119,97,116,99,104]:Bs)++32::w)++(opsL ([112,101,101,107]:Bs) c.Peek++(opsL ([109,97,107,101]:Bs) c.Make++c.Hooks.flatMap zKm)))
def putL (s:Script):List Bs:=s.Classes.flatMap clsL++opsL ([109,97,105,110]:Bs) s.Main
abbrev nl (t:Bs):Bs:=t++[10]
theorem zLx (h:Bs) (l:List Op):opsT h l=(opsL h l).flatMap nl:=by
 unfold opsT opsL
 rw [List.flatMap_append]
 congr 1
 ·split<;>simp
 ·rw [List.flatMap_map];rfl
theorem zRJ (h:Hook):zIv h=(zKm h).flatMap nl:=by
 unfold zIv zKm
 rw [zLx,List.flatMap_cons]
theorem flat2 {α : Type} (l:List α) (f : α -> Bs) (g : α -> List Bs) (h:∀x∈l,f x=(g x).flatMap nl):l.flatMap f=(l.flatMap g).flatMap nl:=by
 induction l with
 | nil=>rfl
 | cons a l ih =>
  rw [List.flatMap_cons,List.flatMap_cons,List.flatMap_append,h a (by simp),ih fun x hx=>h x (by simp [hx])]
theorem clsT_L (c:Class):clsT c=(clsL c).flatMap nl:=by
 unfold clsT clsL
 rw [List.flatMap_cons,List.flatMap_append,List.flatMap_append,List.flatMap_append,zLx,zLx,flat2 c.Hooks zIv zKm fun h _=>zRJ h,List.flatMap_map]
 rfl
theorem putR_L (s:Script):putR s=(putL s).flatMap nl:=by
 unfold putR putL
 rw [List.flatMap_append,zLx,flat2 s.Classes clsT clsL fun c _=>clsT_L c]
theorem zPo (o:Op):(10:UInt8)∉zEE o:=by
 unfold zEE
 split
 ·rename_i h;exact zOT (right_iff.1 h)
 ·decide
theorem zPn (o:Op):zEE o≠[]:=by
 unfold zEE
 split
 ·rename_i h;exact zRe (right_iff.1 h)
 ·decide
theorem zI6 {h:Bs} {l:List Op} (hh:(10:UInt8)∉h):∀t∈opsL h l,(10:UInt8)∉t:=by
 intro t ht
 unfold opsL at ht
 rcases List.mem_append.1 ht with ht | ht
 ·split at ht
  ·cases ht
  ·rw [List.mem_singleton.1 ht];exact hh
 ·obtain ⟨o,_,rfl⟩:=List.mem_map.1 ht
  exact zPo o
theorem zIy (i:Nat):(10:UInt8)∉kindsL.getD i []:=by
 rcases Nat.lt_or_ge i 9 with h | h
 ·have:∀j:Fin 9,(10:UInt8)∉kindsL.getD j []:=by decide
  exact this ⟨i,h⟩
 ·rw [List.getD_eq_getElem?_getD,List.getElem?_eq_none (by simpa [kindsL] using h)];simp
theorem fit_no {w:Bs} (h:fitB w=true):(10:UInt8)∉w:=fun hm=>by
 simp only [fitB,zFh,Bool.and_eq_true] at h
 have:=List.all_eq_true.1 h.1.1.2 10 hm
 revert this
 decide
theorem zRA {c:Class} (hc:clsB c=true):∀t∈clsL c,(10:UInt8)∉t:=by
 intro t ht
 simp only [clsB,Bool.and_eq_true,decide_eq_true_eq] at hc
 unfold clsL at ht
 rcases List.mem_cons.1 ht with rfl | ht
 ·unfold clsF;split<;>decide
 rcases List.mem_append.1 ht with ht | ht
 ·obtain ⟨w,hw,rfl⟩:=List.mem_map.1 ht
  have:=fit_no (List.all_eq_true.1 hc.2.1 w hw)
  simp [this]
 rcases List.mem_append.1 ht with ht | ht
 ·exact zI6 (by decide) t ht
 rcases List.mem_append.1 ht with ht | ht
 ·exact zI6 (by decide) t ht
 ·obtain ⟨h,hh,ht⟩:=List.mem_flatMap.1 ht
  rcases List.mem_cons.1 ht with rfl | ht
  ·have:=zIy h.Kind.toNat
   simp only [List.mem_append,List.mem_cons,not_or]
   exact ⟨by decide,by decide,this⟩
  ·exact zI6 (by simp) t ht
theorem zRd {s:Script} (h:zEp s=true):∀t∈putL s,(10:UInt8)∉t:=by
 intro t ht
 obtain ⟨_,h2,_⟩:=zEb h
 rcases List.mem_append.1 ht with ht | ht
 ·obtain ⟨c,hc,ht⟩:=List.mem_flatMap.1 ht
  exact zRA (h2 c hc) t ht
 ·exact zI6 (by decide) t ht
theorem zOu {s:Script} (h:zEp s=true) (r:Bs):zDa (putR s++r)=putL s++zDa r:=by
 rw [putR_L]
 exact zIY (putL s) r (zRd h)
def zGv (w:Bs):Prop:=w=([109,97,105,110]:Bs)\/w=([99,108,97,115,115]:Bs)\/w=([112,101,101,107]:Bs)\/w=([109,97,107,101]:Bs)\/w=([119,97,116,99,104]:Bs)\/w=([111,110]:Bs)
theorem zMY {x:Rs} {s:Bs} (h:¬zGv (cutS s).1):zEt x s=none:=by
 unfold zEt
 have h1:s≠([109,97,105,110]:Bs):=fun e=>h (by subst e;exact .inl rfl)
 have h2:¬(s=([99,108,97,115,115]:Bs)\/s=[99,108,97,115,115,32,102,111,114,109]):=fun e=>h (by rcases e with rfl | rfl<;>exact .inr (.inl rfl))
 have h3:s≠([112,101,101,107]:Bs):=fun e=>h (by subst e;exact .inr (.inr (.inl rfl)))
 have h4:s≠([109,97,107,101]:Bs):=fun e=>h (by subst e;exact .inr (.inr (.inr (.inl rfl))))
 have h5:(cutS s).1≠([119,97,116,99,104]:Bs):=fun e=>h (.inr (.inr (.inr (.inr (.inl e)))))
 have h6:(cutS s).1≠([111,110]:Bs):=fun e=>h (.inr (.inr (.inr (.inr (.inr e)))))
 rw [if_neg h1,if_neg h2,if_neg h3,if_neg h4,if_neg h5,if_neg h6]
 split<;>rfl
theorem zNK {w:Bs} (l:List Bs) (h:(32:UInt8)∉w):(cutS (w++tl l)).1=w:=by
 cases l with
 | nil=>rw [zDe,List.append_nil,zKe h]
 | cons f l=>rw [zDI,zD5 _ h]
theorem zR7 {k:Int} (hk:Knd k):(32:UInt8)∉wd k/\(33:UInt8)∉wd k/\¬zGv (wd k):=by
 unfold zGv
 rcases zHc hk with rfl | rfl | rfl | rfl | rfl | rfl | rfl | rfl | rfl | rfl | rfl | rfl | rfl | rfl | rfl | rfl | rfl | rfl | rfl | rfl | rfl | rfl | rfl | rfl | rfl | rfl | rfl | rfl<;>decide
theorem zIR (o:Op):¬zGv (cutS (zEE o)).1:=by
 unfold zEE
 split
 ·rename_i h
  have hr:=right_iff.1 h
  obtain ⟨h1,h2,h3⟩:=zR7 hr.kind
  unfold putP bang
  cases o.Must with
  | false =>
   rw [if_neg (by simp),List.nil_append,zNK _ h1]
   exact h3
  | true =>
   have e:(cutS ((if true=true then [33] else [])++(wd o.Kind++tl (zC3 o)))).1=33::wd o.Kind:=by
    rw [if_pos rfl,<- List.append_assoc,zNK _ (by simp [h1])]
    rfl
   rw [e]
   unfold zGv
   simp
 ·unfold zGv;decide
theorem putP_q {o:Op} (h:RightP o) (r:Bs):putP o≠63::r:=fun e=>by
 obtain ⟨b,w,hw,h1,h2⟩:=zLN h.kind
 unfold putP bang at e
 rw [hw] at e
 cases hm:o.Must with
 | true=>rw [hm] at e;simp at e
 | false =>
  rw [hm] at e
  simp only [Bool.false_eq_true,if_false,List.nil_append,List.cons_append,List.cons.injEq] at e
  rw [e.1] at h1
  revert h1
  decide
theorem opR_q:opR [63]=op0:=by
 unfold opR
 rw [zKD (by simp) (by simp) fun o ho=>putP_q ho []]
theorem opR_op {o:Op} (h:okOp o=true):opR (zEE o)=o:=by
 unfold zEE
 by_cases hr:zFE o=true
 ·rw [if_pos hr]
  exact zRT (right_iff.1 hr) (by have:=zJD (right_iff.1 hr);omega)
 ·rw [if_neg hr]
  unfold okOp at h
  have:o=op0:=by
   simp only [Bool.or_eq_true,decide_eq_true_eq] at h
   exact h.resolve_right hr
  rw [this]
  exact opR_q
end Go.Proofs.YtoboimmgglnjfaaGreatDoor
/- Scripts: the reader over the lines that were put. -/
namespace Go.Proofs.YtoboimmgglnjfaaGreatDoor
open Go Go.Pw
set_option linter.unusedVariables false
abbrev RS:=Rs×List Op
def cur (p:RS):List Op:=match p.1.k with
 | 0=>p.2
 | 1=>p.1.pk
 | 2=>p.1.mak
 | _=>p.1.dos
def lim (p:RS):Nat:=match p.1.k with
 | 0=>300
 | _=>60
def addk (p:RS) (l:List Op):RS:=match p.1.k with
 | 0=>(p.1,p.2++l)
 | 1=>({ p.1 with pk:=p.1.pk++l },p.2)
 | 2=>({ p.1 with mak:=p.1.mak++l },p.2)
 | _=>({ p.1 with dos:=p.1.dos++l },p.2)
theorem zHt {p:RS} {s:Bs} (h0:s≠[]) (hh:zEt p.1 s=none):zDT p s=if (cur p).length=lim p then none else some (addk p [opR s]):=by
 unfold zDT
 rw [if_neg h0,hh]
 rcases p with ⟨⟨k,most,pre,act,form,hpre,hact,kind,wat,pk,mak,dos⟩,m⟩
 match k with
 | 0=>rfl
 | 1=>rfl
 | 2=>rfl
 | k+3=>rfl
theorem zO3 (p:RS):addk p []=p:=by
 rcases p with ⟨⟨k,most,pre,act,form,hpre,hact,kind,wat,pk,mak,dos⟩,m⟩
 match k with
 | 0=>simp [addk]
 | 1=>simp [addk]
 | 2=>simp [addk]
 | k+3=>simp [addk]
theorem zO1 (p:RS) (l r:List Op):addk (addk p l) r=addk p (l++r):=by
 rcases p with ⟨⟨k,most,pre,act,form,hpre,hact,kind,wat,pk,mak,dos⟩,m⟩
 match k with
 | 0=>simp [addk]
 | 1=>simp [addk]
 | 2=>simp [addk]
 | k+3=>simp [addk]
theorem zO2 (p:RS) (l:List Op):cur (addk p l)=cur p++l/\lim (addk p l)=lim p:=by
 rcases p with ⟨⟨k,most,pre,act,form,hpre,hact,kind,wat,pk,mak,dos⟩,m⟩
 match k with
 | 0=>simp [addk,cur,lim]
 | 1=>simp [addk,cur,lim]
 | 2=>simp [addk,cur,lim]
 | k+3=>simp [addk,cur,lim]
theorem zH9:∀(ts:List Bs) (p:RS),(∀t∈ts,t≠[]/\¬zGv (cutS t).1)->(cur p).length<=lim p->zBH ts p=if (cur p).length+ts.length<=lim p then some (addk p (ts.map opR)) else none
 | [],p,_,h=>by rw [if_pos (by simpa using h),List.map_nil,zO3];rfl
 | t::ts,p,ht,h=>by
  obtain ⟨h1,h2⟩:=ht t (by simp)
  obtain ⟨c1,c2⟩:=zO2 p [opR t]
  rw [zBH,zHt h1 (zMY h2)]
  by_cases he:(cur p).length=lim p
  ·rw [if_pos he,if_neg (by simp;omega)]
  ·rw [if_neg he]
   show zBH ts (addk p [opR t])=_
   rw [zH9 ts _ (fun u hu=>ht u (by simp [hu])) (by rw [c1,c2,List.length_append,List.length_singleton];omega),c1,c2,zO1,List.length_append,List.length_singleton,List.length_cons,List.map_cons,List.singleton_append]
   by_cases hl:(cur p).length+1+ts.length<=lim p
   ·rw [if_pos hl,if_pos (by omega)]
   ·rw [if_neg hl,if_neg (by omega)]
theorem zRQ {l:List Op} (h:∀o∈l,okOp o=true):(l.map zEE).map opR=l:=by
 rw [List.map_map]
 exact (List.map_congr_left (g:=id) fun o ho=>opR_op (h o ho)).trans (List.map_id l)
theorem zFQ {l:List Op} {p:RS} (h:∀o∈l,okOp o=true) (hc:(cur p).length<=lim p):zBH (l.map zEE) p=if (cur p).length+l.length<=lim p then some (addk p l) else none:=by
 rw [zH9 _ _ (fun t ht=>?_) hc,zRQ h,List.length_map]
 obtain ⟨o,_,rfl⟩:=List.mem_map.1 ht
 exact ⟨zPn o,zIR o⟩
theorem zOq (p:RS):zDT p ([109,97,105,110]:Bs)=some ({ p.1 with k:=0,most:=300 },p.2):=rfl
theorem zIV {p:RS} {c:Class} (h:p.1.cls.length<12):zDT p (clsF c)=some (⟨2,60,p.1.cls,true,c.Form,[],false,0,[],[],[],[]⟩,p.2):=by
 have key:∀s:Bs,s=([99,108,97,115,115]:Bs)\/s=[99,108,97,115,115,32,102,111,114,109]->zDT p s=some (⟨2,60,p.1.cls,true,(cutS s).2.2,[],false,0,[],[],[],[]⟩,p.2):=fun s hs=>by
  unfold zDT zEt
  have h0:s≠[]:=by rcases hs with rfl | rfl<;>simp
  have h1:s≠[109,97,105,110]:=by rcases hs with rfl | rfl<;>simp
  rw [if_neg h0,if_neg h1,if_pos hs,if_neg (by omega)]
 unfold clsF
 cases c.Form with
 | true=>rw [if_pos rfl];exact key _ (.inr rfl)
 | false=>rw [if_neg (by simp)];exact key _ (.inl rfl)
theorem zKO {p:RS} (ha:p.1.act=true):zDT p ([112,101,101,107]:Bs)=some ({ p.1 with k:=1,most:=60 },p.2):=by
 unfold zDT zEt
 rw [if_neg (by simp),if_neg (by simp),if_neg (by simp),if_neg (by rw [ha];simp),if_pos rfl]
theorem zOr {p:RS} (ha:p.1.act=true):zDT p ([109,97,107,101]:Bs)=some ({ p.1 with k:=2,most:=60 },p.2):=by
 unfold zDT zEt
 rw [if_neg (by simp),if_neg (by simp),if_neg (by simp),if_neg (by rw [ha];simp),if_neg (by simp),if_pos rfl]
theorem zIW {p:RS} {w:Bs} (ha:p.1.act=true) (hw:fitB w=true) (hl:p.1.wat.length<12):zDT p (([119,97,116,99,104]:Bs)++32::w)=some ({ p.1 with wat:=p.1.wat++[w] },p.2):=by
 have hcut:cutS (([119,97,116,99,104]:Bs)++32::w)=(([119,97,116,99,104]:Bs),w,true):=zD5 w (by decide)
 unfold zDT zEt
 rw [if_neg (by simp),if_neg (by simp),if_neg (by simp),if_neg (by rw [ha];simp),if_neg (by simp),if_neg (by simp),hcut]
 dsimp only
 rw [if_pos rfl,if_pos rfl,if_pos hw,if_neg (by omega)]
theorem zPY {k:Int} (h1:1<=k) (h2:k<=8):zIx (kindsL.getD k.toNat [])=k:=by
 have:∀j:Fin 9,zIx (kindsL.getD j [])=(j:Nat):=by decide
 have:=this ⟨k.toNat,by omega⟩
 rw [this]
 simp only
 omega
theorem zOs {p:RS} {k:Int} (ha:p.1.act=true) (h1:1<=k) (h2:k<=8) (hl:p.1.hooks.length<12):zDT p (([111,110]:Bs)++32::kindsL.getD k.toNat [])=some ({ p.1 with k:=3,most:=60,hpre:=p.1.hooks,hact:=true,kind:=k,dos:=[] },p.2):=by
 have hcut:cutS (([111,110]:Bs)++32::kindsL.getD k.toNat [])=(([111,110]:Bs),kindsL.getD k.toNat [],true):=zD5 _ (by decide)
 unfold zDT zEt
 rw [if_neg (by simp),if_neg (by simp),if_neg (by simp),if_neg (by rw [ha];simp),if_neg (by simp),if_neg (by simp),hcut]
 dsimp only
 rw [if_neg (by simp),if_pos rfl,if_pos rfl,zPY h1 h2,if_neg (by omega),if_neg (by omega)]
theorem zIA:∀(ws:List Bs) (x:Rs) (m:List Op),x.act=true->(∀w∈ws,fitB w=true)->x.wat.length+ws.length<=12->zBH (ws.map fun w=>([119,97,116,99,104]:Bs)++32::w) (x,m)=some ({ x with wat:=x.wat++ws },m)
 | [],x,m,_,_,_=>by simp [zBH]
 | w::ws,x,m,ha,hw,hl=>by
  simp only [List.length_cons] at hl
  rw [List.map_cons,zBH,zIW ha (hw w (by simp)) (show x.wat.length<12 by omega)]
  show zBH _ ({ x with wat:=x.wat++[w] },m)=_
  rw [zIA ws { x with wat:=x.wat++[w] } m ha (fun v hv=>hw v (by simp [hv])) (by simp;omega)]
  simp
theorem zNh {x:Rs} {m l:List Op} (ha:x.act=true) (h0:x.pk=[]) (hl:l.length<=60) (ho:∀o∈l,okOp o=true):∃k most,zBH (opsL ([112,101,101,107]:Bs) l) (x,m)=some ({ x with k:=k,most:=most,pk:=l },m):=by
 unfold opsL
 by_cases h:l=[]
 ·subst h
  refine ⟨x.k,x.most,?_⟩
  rw [if_pos (.inl rfl)]
  cases x
  simp only at h0
  subst h0
  rfl
 ·refine ⟨1,60,?_⟩
  rw [if_neg (by simp [h]),List.singleton_append,zBH,zKO ha]
  show zBH _ ({ x with k:=1,most:=60 },m)=_
  refine (zFQ (p:=({ x with k:=1,most:=60 },m)) ho (show (x.pk).length<=60 by rw [h0];simp)).trans ((if_pos (show x.pk.length+l.length<=60 by rw [h0];simpa using hl)).trans ?_)
  show some ({ x with k:=1,most:=60,pk:=x.pk++l },m)=_
  rw [h0];rfl
theorem zNg {x:Rs} {m l:List Op} (ha:x.act=true) (h0:x.mak=[]) (hl:l.length<=60) (ho:∀o∈l,okOp o=true):∃k most,zBH (opsL ([109,97,107,101]:Bs) l) (x,m)=some ({ x with k:=k,most:=most,mak:=l },m):=by
 unfold opsL
 by_cases h:l=[]
 ·subst h
  refine ⟨x.k,x.most,?_⟩
  rw [if_pos (.inl rfl)]
  cases x
  simp only at h0
  subst h0
  rfl
 ·refine ⟨2,60,?_⟩
  rw [if_neg (by simp [h]),List.singleton_append,zBH,zOr ha]
  show zBH _ ({ x with k:=2,most:=60 },m)=_
  refine (zFQ (p:=({ x with k:=2,most:=60 },m)) ho (show (x.mak).length<=60 by rw [h0];simp)).trans ((if_pos (show x.mak.length+l.length<=60 by rw [h0];simpa using hl)).trans ?_)
  show some ({ x with k:=2,most:=60,mak:=x.mak++l },m)=_
  rw [h0];rfl
theorem zNe {x:Rs} {m:List Op} {h:Hook} (ha:x.act=true) (hb:hokB h=true) (hl:x.hooks.length<12) (ho:∀o∈h.Do,okOp o=true) :
  zBH (zKm h) (x,m)=some ({ x with k:=3,most:=60,hpre:=x.hooks,hact:=true,kind:=h.Kind,dos:=h.Do },m):=by
 simp only [hokB,Bool.and_eq_true,decide_eq_true_eq] at hb
 unfold zKm opsL
 rw [if_pos (.inr rfl),zBH,zOs ha hb.1 hb.2.1 hl]
 show zBH (h.Do.map zEE) ({ x with k:=3,most:=60,hpre:=x.hooks,hact:=true,kind:=h.Kind,dos:=[] },m)=_
 refine (zFQ (p:=({ x with k:=3,most:=60,hpre:=x.hooks,hact:=true,kind:=h.Kind,dos:=[] },m)) ho (show (0:Nat)<=60 by omega)).trans ((if_pos (show 0+h.Do.length<=60 by omega)).trans ?_)
 rfl
theorem zH8:∀(hs:List Hook) (x:Rs) (m:List Op),x.act=true->(∀h∈hs,hokB h=true)->x.hooks.length+hs.length<=12->(∀h∈hs,∀o∈h.Do,okOp o=true) ->
  ∃y,zBH (hs.flatMap zKm) (x,m)=some (y,m)/\y.act=true/\y.pre=x.pre/\y.form=x.form/\y.wat=x.wat/\y.pk=x.pk/\y.mak=x.mak/\y.hooks=x.hooks++hs
 | [],x,m,ha,_,_,_=>⟨x,rfl,ha,rfl,rfl,rfl,rfl,rfl,by simp⟩
 | h::hs,x,m,ha,hb,hl,ho=>by
  simp only [List.length_cons] at hl
  have h1:=zNe (m:=m) ha (hb h (by simp)) (by omega) (ho h (by simp))
  have hh:Rs.hooks { x with k:=3,most:=60,hpre:=x.hooks,hact:=true,kind:=h.Kind,dos:=h.Do }=x.hooks++[h]:=rfl
  obtain ⟨y,g1,g2,g3,g4,g5,g6,g7,g8⟩:=zH8 hs { x with k:=3,most:=60,hpre:=x.hooks,hact:=true,kind:=h.Kind,dos:=h.Do } m ha (fun z hz=>hb z (by simp [hz])) (by rw [hh];simp;omega) (fun z hz=>ho z (by simp [hz]))
  refine ⟨y,?_,g2,g3,g4,g5,g6,g7,by rw [g8,hh];simp⟩
  rw [List.flatMap_cons,zDv,h1]
  exact g1
def zNI (c:Class):Prop:=(∀o∈c.Peek,okOp o=true)/\(∀o∈c.Make,okOp o=true)/\∀h∈c.Hooks,∀o∈h.Do,okOp o=true
theorem zMX {x:Rs} {m:List Op} {c:Class} (hl:x.cls.length<12) (hc:clsB c=true) (ho:zNI c):∃y,zBH (clsL c) (x,m)=some (y,m)/\y.cls=x.cls++[c]:=by
 simp only [clsB,Bool.and_eq_true,decide_eq_true_eq] at hc
 obtain ⟨c1,c2,c3,c4,c5,c6⟩:=hc
 unfold clsL
 obtain ⟨k1,m1,e1⟩:=zNh (x:=⟨2,60,x.cls,true,c.Form,[],false,0,c.Watch,[],[],[]⟩) (m:=m) rfl rfl c5 ho.1
 obtain ⟨k2,m2,e2⟩:=zNg (x:=⟨k1,m1,x.cls,true,c.Form,[],false,0,c.Watch,c.Peek,[],[]⟩) (m:=m) rfl rfl c6 ho.2.1
 obtain ⟨y,g1,g2,g3,g4,g5,g6,g7,g8⟩:=zH8 c.Hooks ⟨k2,m2,x.cls,true,c.Form,[],false,0,c.Watch,c.Peek,c.Make,[]⟩ m rfl (fun h hh=>List.all_eq_true.1 c4 h hh) (by simpa [Rs.hooks] using c3) ho.2.2
 have hw:=zIA c.Watch ⟨2,60,x.cls,true,c.Form,[],false,0,[],[],[],[]⟩ m rfl (fun w hw=>List.all_eq_true.1 c2 w hw) (by simpa using c1)
 refine ⟨y,?_,?_⟩
 ·rw [zBH,zIV hl]
  show zBH _ (⟨2,60,x.cls,true,c.Form,[],false,0,[],[],[],[]⟩,m)=_
  rw [zDv,hw]
  show zBH _ (⟨2,60,x.cls,true,c.Form,[],false,0,[]++c.Watch,[],[],[]⟩,m)=_
  rw [List.nil_append,zDv,e1]
  show zBH _ (⟨k1,m1,x.cls,true,c.Form,[],false,0,c.Watch,c.Peek,[],[]⟩,m)=_
  rw [zDv,e2]
  exact g1
 ·unfold Rs.cls
  rw [g2,if_pos rfl,g3,g4,g5,g6,g7,g8]
  rfl
theorem zGi:∀(cs:List Class) (x:Rs) (m:List Op),x.cls.length+cs.length<=12->(∀c∈cs,clsB c=true/\zNI c)->∃y,zBH (cs.flatMap clsL) (x,m)=some (y,m)/\y.cls=x.cls++cs
 | [],x,m,_,_=>⟨x,rfl,by simp⟩
 | c::cs,x,m,hl,h=>by
  simp only [List.length_cons] at hl
  obtain ⟨h1,h2⟩:=h c (by simp)
  obtain ⟨y,g1,g2⟩:=zMX (m:=m) (x:=x) (by omega) h1 h2
  obtain ⟨z,f1,f2⟩:=zGi cs y m (by rw [g2];simp;omega) (fun d hd=>h d (by simp [hd]))
  refine ⟨z,?_,by rw [f2,g2];simp⟩
  rw [List.flatMap_cons,zDv,g1]
  exact f1
theorem zNf {x:Rs} {m l:List Op} (hm:m.length<=300) (ho:∀o∈l,okOp o=true):if m.length+l.length<=300 then ∃y,zBH (opsL ([109,97,105,110]:Bs) l) (x,m)=some (y,m++l)/\y.cls=x.cls else zBH (opsL ([109,97,105,110]:Bs) l) (x,m)=none:=by
 unfold opsL
 by_cases h:l=[]
 ·subst h
  rw [if_pos (by simpa using hm)]
  refine ⟨x,?_,rfl⟩
  rw [if_pos (.inl rfl),List.append_nil];rfl
 ·have e:zBH ((if l=[]\/([109,97,105,110]:Bs)=[] then [] else [([109,97,105,110]:Bs)])++l.map zEE) (x,m)=if m.length+l.length<=300 then some ({ x with k:=0,most:=300 },m++l) else none:=by
   rw [if_neg (by simp [h]),List.singleton_append,zBH,zOq]
   show zBH _ ({ x with k:=0,most:=300 },m)=_
   exact zFQ (p:=({ x with k:=0,most:=300 },m)) ho (show m.length<=300 from hm)
  by_cases hl:m.length+l.length<=300
  ·rw [if_pos hl]
   rw [if_pos hl] at e
   exact ⟨_,e,rfl⟩
  ·rw [if_neg hl]
   rw [if_neg hl] at e
   exact e
theorem zMu {s:Script} (h:zEp s=true):(∀c∈s.Classes,clsB c=true/\zNI c)/\∀o∈s.Main,okOp o=true:=by
 obtain ⟨_,h2,_⟩:=zEb h
 unfold zEp at h
 simp only [Bool.and_eq_true] at h
 have key:∀y∈zAt s,∀o∈y.1,okOp o=true:=fun y hy o ho=>by
  have:=List.all_eq_true.1 h.1 y hy
  simp only [okPr,Bool.and_eq_true] at this
  exact List.all_eq_true.1 this.2 o ho
 refine ⟨fun c hc=>⟨h2 c hc,?_,?_,?_⟩,?_⟩
 ·exact key (c.Peek,60) (by simp only [zAt,List.mem_append,List.mem_flatMap];exact .inl ⟨c,hc,by simp [zHp]⟩)
 ·exact key (c.Make,60) (by simp only [zAt,List.mem_append,List.mem_flatMap];exact .inl ⟨c,hc,by simp [zHp]⟩)
 ·intro k hk
  exact key (k.Do,60) (by simp only [zAt,List.mem_append,List.mem_flatMap];exact .inl ⟨c,hc,by simp only [zHp,List.mem_cons,List.mem_map];exact .inr (.inr ⟨k,hk,rfl⟩)⟩)
 ·exact key (s.Main,300) (by simp [zAt])
theorem zPN {s:Script} (h:zEp s=true) {x:Rs} {m:List Op} (hc:x.cls.length+s.Classes.length<=12) (hm:m.length+s.Main.length<=300):∃y,zBH (putL s) (x,m)=some (y,m++s.Main)/\y.cls=x.cls++s.Classes:=by
 obtain ⟨h1,h2⟩:=zMu h
 obtain ⟨y,g1,g2⟩:=zGi s.Classes x m hc h1
 have:=zNf (x:=y) (m:=m) (by omega) h2
 rw [if_pos hm] at this
 obtain ⟨z,f1,f2⟩:=this
 refine ⟨z,?_,f2.trans g2⟩
 unfold putL
 rw [zDv,g1]
 exact f1
theorem zPw {s:Script} (h:zEp s=true) (hl:(putR s).length<=16384):zLC (putR s)=(s,0):=by
 obtain ⟨h1,h2,h3⟩:=zEb h
 rw [zLD,if_neg (by omega)]
 have ht:=zOu h []
 rw [List.append_nil] at ht
 obtain ⟨y,g1,g2⟩:=zPN h (x:=rs0) (m:=[]) (by simpa [rs0,Rs.cls] using h1) (by simpa using h3)
 rw [ht,show zDa []=[] from rfl,List.append_nil,g1]
 show ((⟨y.cls,[]++s.Main⟩:Script),(0:Int))=_
 rw [g2]
 rfl
end Go.Proofs.YtoboimmgglnjfaaGreatDoor
/- Scripts: what the laws share: a fixed answer, what is not too much, what is the same. -/
namespace Go.Proofs.YtoboimmgglnjfaaGreatDoor
open Go Go.Pw
set_option linter.unusedVariables false
def scr0:Script:=⟨[⟨true,[[97]],[],[⟨20,0,0,0,[],[],false⟩],[⟨1,[⟨22,0,0,0,[],[],true⟩]⟩]⟩],[⟨16,0,0,0,[120,45,97],[],false⟩,op0]⟩
def txt0:Bs:=[99,108,97,115,115,32,102,111,114,109,10,119,97,116,99,104,32,97,10,109,97,107,101,10,115,117,112,101,114,10,111,110,32,99,97,109,101,10,33,116,104,114,111,119,10,109,97,105,110,10,100,101,102,105,110,101,32,48,32,34,120,45,97,34,32,34,34,10,63,10]
theorem put0:putR scr0=txt0:=by kernel_rfl
theorem zMt:zEp scr0=true:=by kernel_rfl
theorem zQy {fu:Nat} (hf:30000<fu):zB9 fu=some true:=by
 have hl:(putR scr0).length<=16384:=by rw [put0];decide
 have h1:=zPw zMt hl
 rw [put0] at h1
 have h2:putA scr0=(txt0,0):=by
  unfold putA finP
  rw [if_pos zMt,if_neg (by omega),put0]
 unfold zB9
 show bnd (zCB fu txt0) _=_
 rw [zLG hf,bnd_some,h1]
 show bnd (zDN fu scr0) _=_
 rw [sput_m (by omega),bnd_some,h2]
 show bnd (zCC fu scr0) (fun r7=>some r7)=_
 rw [zJW (by omega),bnd_some,zMt]
theorem zHA {fu:Nat} {l:List Op} (hf:l.length<fu) (hb:l.length<=1000000):zAd fu l l=some true:=by
 unfold zAd
 rw [zBc (by simp)]
 have:=up_all (L:=zBZ l l) l (fun _=>true) (some true) (fun i hi k=>by
  simp only [zBZ]
  rw [zCR (by simpa using hi),zEq hi,bnd_some,bnd_some,eqO,decide_eq_true rfl,zCV (by omega)]
  rfl) (fun k=>by simp only [zBZ];rw [zBc (by simp)]) hf
 rw [this,List.all_eq_true.2 fun _ _=>rfl]
 rfl
end Go.Proofs.YtoboimmgglnjfaaGreatDoor
/- ScriptClass: each head's line does what it says to the last class. -/
namespace Go.Proofs.YtoboimmgglnjfaaGreatDoor
open Go Go.Pw
set_option linter.unusedVariables false
theorem zLw {s:Bs} (h:zGv (cutS s).1) (hl:s.length<=900000):opR s=op0:=by
 unfold opR
 rw [zKD (by omega) (by omega) fun o ho e=>?_]
 have:=zIR o
 unfold zEE at this
 rw [if_pos (right_iff.2 ho),e] at this
 exact this h
theorem zMp {p:RS} {w:Bs} (ha:p.1.act=true) (hw:fitB w=false):zEt p.1 (([119,97,116,99,104]:Bs)++32::w)=none:=by
 have hcut:cutS (([119,97,116,99,104]:Bs)++32::w)=(([119,97,116,99,104]:Bs),w,true):=zD5 w (by decide)
 unfold zEt
 rw [if_neg (by simp),if_neg (by simp),if_neg (by rw [ha];simp),if_neg (by simp),if_neg (by simp),hcut]
 dsimp only
 rw [if_pos rfl,if_pos rfl,if_neg (by rw [hw];simp)]
theorem zNl {x:Rs} {s:Bs} (ha:x.act=false) (h1:s≠[109,97,105,110]) (h2:¬(s=[99,108,97,115,115]\/s=[99,108,97,115,115,32,102,111,114,109])):zEt x s=none:=by
 unfold zEt
 rw [if_neg h1,if_neg h2,if_pos ha]
def zFD:Op:=⟨25,0,0,0,[],[],false⟩
def zFG:Op:=⟨22,0,0,0,[],[],false⟩
theorem rest1_ok:zEE zFD=[114,101,115,116]/\okOp zFD=true:=⟨by kernel_rfl,by kernel_rfl⟩
theorem throw1_ok:zEE zFG=[116,104,114,111,119]/\okOp zFG=true:=⟨by kernel_rfl,by kernel_rfl⟩
def mak1 (w:Bs):Class->Class:=fun c=>if fitB w=true then { c with Watch:=[w] } else { c with Make:=[op0] }
theorem zKd {F w:Bs} {form:Bool} {k:Nat} (hF:F=clsF ⟨form,[],[],[],[]⟩) (hk:k<8) (hw:w.length<=300) :
  ∃y,zBH [F,([119,97,116,99,104]:Bs)++32::w,([111,110]:Bs)++32::kindsL.getD (k+1) [],[114,101,115,116],[112,101,101,107],[116,104,114,111,119]] (rs0,[])=some (y,[])/\y.cls=[mak1 w ⟨form,[],[zFG],[],[⟨(k:Int)+1,[zFD]⟩]⟩]:=by
 subst hF
 rw [zBH,zIV (by decide)]
 show ∃y,zBH _ (⟨2,60,[],true,form,[],false,0,[],[],[],[]⟩,[])=some (y,[])/\_
 have hcutw:(cutS (([119,97,116,99,104]:Bs)++32::w)).1=[119,97,116,99,104]:=by rw [zD5 w (by decide)]
 have hkk:kindsL.getD (((k:Int)+1)).toNat []=kindsL.getD (k+1) []:=by
  have:(((k:Int)+1)).toNat=k+1:=by omega
  rw [this]
 have hrest:∀x:Rs,x.k=3->x.dos=[]->zDT (x,[]) [114,101,115,116]=some ({ x with dos:=[zFD] },[]):=fun x hx hd=>by
  have h1:=zFQ (l:=[zFD]) (p:=(x,[])) (fun o ho=>by rw [List.mem_singleton.1 ho];exact rest1_ok.2) (by unfold cur lim;rw [show (x,([]:List Op)).1.k=3 from hx];show x.dos.length<=60;rw [hd];simp)
  rw [if_pos (by unfold cur lim;rw [show (x,([]:List Op)).1.k=3 from hx];show x.dos.length+1<=60;rw [hd];simp)] at h1
  rw [List.map_singleton,rest1_ok.1,zBH] at h1
  cases hs:zDT (x,[]) [114,101,115,116] with
  | none=>rw [hs] at h1;cases h1
  | some y =>
   rw [hs] at h1
   have:some y=some (addk (x,[]) [zFD]):=h1
   rw [this]
   unfold addk
   rw [show (x,([]:List Op)).1.k=3 from hx]
   show some ({ x with dos:=x.dos++[zFD] },[])=_
   rw [hd,hx];rfl
 have hthrow:∀x:Rs,x.k=1->x.pk=[]->zDT (x,[]) [116,104,114,111,119]=some ({ x with pk:=[zFG] },[]):=fun x hx hd=>by
  have h1:=zFQ (l:=[zFG]) (p:=(x,[])) (fun o ho=>by rw [List.mem_singleton.1 ho];exact throw1_ok.2) (by unfold cur lim;rw [show (x,([]:List Op)).1.k=1 from hx];show x.pk.length<=60;rw [hd];simp)
  rw [if_pos (by unfold cur lim;rw [show (x,([]:List Op)).1.k=1 from hx];show x.pk.length+1<=60;rw [hd];simp)] at h1
  rw [List.map_singleton,throw1_ok.1,zBH] at h1
  cases hs:zDT (x,[]) [116,104,114,111,119] with
  | none=>rw [hs] at h1;cases h1
  | some y =>
   rw [hs] at h1
   have:some y=some (addk (x,[]) [zFG]):=h1
   rw [this]
   unfold addk
   rw [show (x,([]:List Op)).1.k=1 from hx]
   show some ({ x with pk:=x.pk++[zFG] },[])=_
   rw [hd,hx];rfl
 -- from the third line on
 have tail:∀(wat:List Bs) (mak:List Op),∃y,zBH [([111,110]:Bs)++32::kindsL.getD (k+1) [],[114,101,115,116],[112,101,101,107],[116,104,114,111,119]] (⟨2,60,[],true,form,[],false,0,wat,[],mak,[]⟩,[])=some (y,[]) /\
   y.cls=[⟨form,wat,[zFG],mak,[⟨(k:Int)+1,[zFD]⟩]⟩]:=fun wat mak=>by
  rw [<- hkk,zBH,zOs (p:=(⟨2,60,[],true,form,[],false,0,wat,[],mak,[]⟩,[])) (k:=(k:Int)+1) rfl (by omega) (by omega) (show (0:Nat)<12 by omega)]
  show ∃y,zBH _ (⟨3,60,[],true,form,[],true,(k:Int)+1,wat,[],mak,[]⟩,[])=some (y,[])/\_
  rw [zBH,hrest _ rfl rfl]
  show ∃y,zBH _ (⟨3,60,[],true,form,[],true,(k:Int)+1,wat,[],mak,[zFD]⟩,[])=some (y,[])/\_
  rw [zBH,zKO rfl]
  show ∃y,zBH _ (⟨1,60,[],true,form,[],true,(k:Int)+1,wat,[],mak,[zFD]⟩,[])=some (y,[])/\_
  rw [zBH,hthrow _ rfl rfl]
  exact ⟨_,rfl,rfl⟩
 unfold mak1
 cases hf:fitB w with
 | true =>
  rw [zBH,zIW (p:=(⟨2,60,[],true,form,[],false,0,[],[],[],[]⟩,[])) rfl hf (show (0:Nat)<12 by omega),if_pos rfl]
  exact tail [w] []
 | false =>
  rw [zBH,zHt (p:=(⟨2,60,[],true,form,[],false,0,[],[],[],[]⟩,[])) (by simp) (zMp (p:=(⟨2,60,[],true,form,[],false,0,[],[],[],[]⟩,[])) rfl hf),if_neg (show ¬((cur ((⟨2,60,[],true,form,[],false,0,[],[],[],[]⟩,[]):RS)).length=lim ((⟨2,60,[],true,form,[],false,0,[],[],[],[]⟩,[]):RS)) from (by decide:¬((0:Nat)=60))),zLw (by rw [hcutw];exact .inr (.inr (.inr (.inr (.inl rfl))))) (by simp;omega),if_neg (by simp)]
  exact tail [] [op0]
theorem zPD {fu:Nat} {k:Nat} (hf:30000<fu) (hk:k<8):zAb fu (([111,110]:Bs)++32::kindsL.getD (k+1) []) ()=some true:=by
 unfold zAb
 have hkl:=zE6 (k+1)
 have hkn:=zIy (k+1)
 rw [zFe (by simp only [List.length_append,List.length_cons,List.length_nil];omega),bnd_some,zLG hf,bnd_some]
 have hr:zLC ((([111,110]:Bs)++32::kindsL.getD (k+1) [])++[10,119,97,116,99,104,32,97,10,112,101,101,107,10,109,97,107,101,10])=(⟨[],[op0,op0,op0,op0]⟩,0):=by
  have hsx:(((([111,110]:Bs)++32::kindsL.getD (k+1) [])++[10,119,97,116,99,104,32,97,10,112,101,101,107,10,109,97,107,101,10])).length<=16384:=by simp only [List.length_append,List.length_cons,List.length_nil];omega
  rw [zLD,if_neg (by omega)]
  have e:([10,119,97,116,99,104,32,97,10,112,101,101,107,10,109,97,107,101,10]:Bs)=10::(([119,97,116,99,104,32,97]:Bs)++10::(([112,101,101,107]:Bs)++10::(([109,97,107,101]:Bs)++10::[]))):=rfl
  rw [e,zB8 _ (by simp only [List.mem_append,List.mem_cons,not_or];exact ⟨by decide,by decide,hkn⟩),zB8 _ (by decide),zB8 _ (by decide),zB8 _ (by decide),show zDa []=[] from rfl]
  have hc1:(cutS (([111,110]:Bs)++32::kindsL.getD (k+1) [])).1=[111,110]:=by rw [zD5 _ (by decide)]
  have one:∀(s:Bs) (m:List Op),s≠[]->s≠[109,97,105,110]->¬(s=[99,108,97,115,115]\/s=[99,108,97,115,115,32,102,111,114,109])->zGv (cutS s).1->s.length<=1000->m.length<300->zDT (rs0,m) s=some (rs0,m++[op0]):=fun s m h0 h1 h2 h3 h4 h5=>by
   rw [zHt h0 (zNl rfl h1 h2),zLw h3 (by omega),if_neg (show ¬((cur (rs0,m)).length=lim (rs0,m)) from (by omega:¬(m.length=300)))]
   rfl
  rw [zBH,one _ [] (by simp) (by simp) (by simp) (by rw [hc1];exact .inr (.inr (.inr (.inr (.inr rfl))))) (by simp only [List.length_append,List.length_cons,List.length_nil];omega) (by simp)]
  show finR (zBH _ (rs0,[op0]))=_
  rw [zBH,one _ [op0] (by simp) (by simp) (by simp) (by unfold zGv;decide) (by simp) (by simp)]
  show finR (zBH _ (rs0,[op0,op0]))=_
  rw [zBH,one _ [op0,op0] (by simp) (by simp) (by simp) (by unfold zGv;decide) (by simp) (by simp)]
  show finR (zBH _ (rs0,[op0,op0,op0]))=_
  rw [zBH,one _ [op0,op0,op0] (by simp) (by simp) (by simp) (by unfold zGv;decide) (by simp) (by simp)]
  rfl
 rw [hr]
 show bnd (zAd fu [op0,op0,op0,op0] [op0,op0,op0,op0]) _=_
 rw [zHA (by simp;omega) (by simp),bnd_some]
theorem zLX {fu:Nat} {form:Bool} {F w:Bs} {kind:Int} {k:Nat} (hf:30000<fu) (hF:F=clsF ⟨form,[],[],[],[]⟩) (hk:kind.tmod 8=(k:Nat)) (hk8:k<8) (hw:w.length<=300) (hw10:(10:UInt8)∉w) :
  zA5 fu form w kind (([111,110]:Bs)++32::kindsL.getD (k+1) []) F=some true:=by
 have hkl:=zE6 (k+1)
 have hkn:=zIy (k+1)
 have hFl:F.length<=10:=by rw [hF];unfold clsF;cases form<;>decide
 have hF10:(10:UInt8)∉F:=by rw [hF];unfold clsF;cases form<;>decide
 have hol:(([111,110]:Bs)++32::kindsL.getD (k+1) []).length<=11:=by simp only [List.length_append,List.length_cons,List.length_nil];omega
 have hrm:remI kind 8=some (k:Int):=by
  unfold remI
  rw [if_neg (by decide),hk]
 have hj2:=zPD (fu:=fu) hf hk8
 generalize hon:(([111,110]:Bs)++32::kindsL.getD (k+1) [])=on at hj2 hol ⊢
 have hon10:(10:UInt8)∉on:=by rw [<- hon];simp only [List.mem_append,List.mem_cons,not_or];exact ⟨by decide,by decide,hkn⟩
 unfold zA5
 have ht:((((F++[10,119,97,116,99,104,32])++w)++[10])++on)++[10,114,101,115,116,10,112,101,101,107,10,116,104,114,111,119,10]=F++10::((([119,97,116,99,104]:Bs)++32::w)++10::(on++10::(([114,101,115,116]:Bs)++10::(([112,101,101,107]:Bs)++10::(([116,104,114,111,119]:Bs)++10::[]))))):=by simp
 have hlen:(((((F++[10,119,97,116,99,104,32])++w)++[10])++on)++[10,114,101,115,116,10,112,101,101,107,10,116,104,114,111,119,10]).length<=16384:=by simp;omega
 have hr:∃y:Rs,y.cls=[mak1 w ⟨form,[],[zFG],[],[⟨(k:Int)+1,[zFD]⟩]⟩]/\zLC (((((F++[10,119,97,116,99,104,32])++w)++[10])++on)++[10,114,101,115,116,10,112,101,101,107,10,116,104,114,111,119,10])=(⟨y.cls,[]⟩,0):=by
  obtain ⟨y,h1,h2⟩:=zKd (w:=w) hF hk8 hw
  refine ⟨y,h2,?_⟩
  rw [zLD,if_neg (by omega),ht,zB8 _ hF10,zB8 _ (by simp only [List.mem_append,List.mem_cons,not_or];exact ⟨by decide,by decide,hw10⟩),zB8 _ hon10,zB8 _ (by decide),zB8 _ (by decide),zB8 _ (by decide),show zDa []=[] from rfl,<- hon,h1]
  rfl
 obtain ⟨y,hy,hr⟩:=hr
 rw [hy] at hr
 rw [zFe (by simp;omega),bnd_some,zFe (by simp;omega),bnd_some,zFe (by simp;omega),bnd_some,zFe (by simp;omega),bnd_some,zFe (by simp;omega),bnd_some,zLG hf,bnd_some,hr]
 have hwl:zBr fu (⟨false,[w],[],[],[]⟩:Class)=some (fitB w):=by
  rw [zO0 (by omega)]
  unfold clsB
  simp
 show bnd (zBr fu _) _=_
 rw [hwl,bnd_some,hj2]
 have ho1:zAd fu [zFD] [(⟨25,0,0,0,[],[],false⟩:Op)]=some true:=zHA (l:=[zFD]) (by simp;omega) (by simp)
 have ho2:zAd fu [zFG] [(⟨22,0,0,0,[],[],false⟩:Op)]=some true:=zHA (l:=[zFG]) (by simp;omega) (by simp)
 have ho3:zAd fu [op0] [(⟨0,0,0,0,[],[],false⟩:Op)]=some true:=zHA (l:=[op0]) (by simp;omega) (by simp)
 unfold mak1
 cases hfit:fitB w with
 | true =>
  rw [if_pos rfl]
  dsimp only
  rw [zBc (by simp),zBc (by simp),show idx [(⟨(k:Int)+1,[zFD]⟩:Hook)] 0=some ⟨(k:Int)+1,[zFD]⟩ from rfl,bnd_some,hrm,bnd_some,zJI (by omega) (by omega),bnd_some,zJI (by omega) (by omega),bnd_some,zBc (by simp),bnd_some,ho1,bnd_some,Bool.not_true,cnd_false,ho2,bnd_some,Bool.not_true,cnd_false,cnd_true,zBc (by simp),show idx [w] 0=some w from rfl,bnd_some,zBc (by simp),zBc (by simp),cnd_false]
 | false =>
  rw [if_neg (by simp)]
  dsimp only
  rw [zBc (by simp),zBc (by simp),show idx [(⟨(k:Int)+1,[zFD]⟩:Hook)] 0=some ⟨(k:Int)+1,[zFD]⟩ from rfl,bnd_some,hrm,bnd_some,zJI (by omega) (by omega),bnd_some,zJI (by omega) (by omega),bnd_some,zBc (by simp),bnd_some,ho1,bnd_some,Bool.not_true,cnd_false,ho2,bnd_some,Bool.not_true,cnd_false,cnd_false,Bool.not_false,cnd_true,zBc (by simp),ho3,bnd_some,Bool.not_true,cnd_false]
theorem zLY {fu:Nat} {form:Bool} {w:Bs} {kind:Int} {k:Nat} (hf:30000<fu) (hk:kind.tmod 8=(k:Nat)) (hk8:k<8) (hw:w.length<=300):∀(j n q:Nat),n+j=w.length->j<q->(10:UInt8)∉w.take n->zAq fu form w kind q (n:Int)=some true
 | 0,n,q+1,hn,hq,h10=>by
  have hrm:remI kind 8=some (k:Int):=by
   unfold remI
   rw [if_neg (by decide),hk]
  rw [List.take_of_length_le (by omega)] at h10
  have hkl:=zE6 (k+1)
  have hi:idx ([[99,97,109,101],[119,101,110,116],[109,111,118,101,100],[99,104,97,110,103,101,100],[111,119,110,101,100],[98,97,114,114,101,100],[99,108,101,97,114,101,100],[114,101,115,116,111,114,101,100]]:List Bs) (k:Int)=some (kindsL.getD (k+1) []):=by
   have:∀j:Fin 8,idx ([[99,97,109,101],[119,101,110,116],[109,111,118,101,100],[99,104,97,110,103,101,100],[111,119,110,101,100],[98,97,114,114,101,100],[99,108,101,97,114,101,100],[114,101,115,116,111,114,101,100]]:List Bs) ((j:Nat):Int)=some (kindsL.getD (j+1) []):=by decide
   exact this ⟨k,hk8⟩
  rw [zAq,zBc (by simp;omega),hrm,bnd_some,hi,bnd_some,zFe (by simp only [List.length_cons,List.length_nil];omega),bnd_some]
  have e:([111,110,32]:Bs)++kindsL.getD (k+1) []=([111,110]:Bs)++32::kindsL.getD (k+1) []:=rfl
  rw [e]
  cases form with
  | true=>rw [cnd_true];exact zLX hf rfl hk hk8 hw h10
  | false=>rw [cnd_false];exact zLX hf rfl hk hk8 hw h10
 | j+1,n,q+1,hn,hq,h10=>by
  have hlt:n<w.length:=by omega
  rw [zAq,zCR (by simpa using hlt),zQS hlt,bnd_some,show (((w[n].toNat:Nat):Int)==10)=(w[n]==10) from zQz _ 10 (by omega)]
  cases hb:w[n]==10 with
  | true=>rfl
  | false =>
   rw [cnd_false,zCV (by omega),bnd_some]
   refine zLY hf hk hk8 hw j (n+1) q (by omega) (by omega) fun hm=>?_
   rw [List.take_succ_eq_append_getElem hlt] at hm
   rcases List.mem_append.1 hm with h | h
   ·exact h10 h
   ·rw [List.mem_singleton] at h
    rw [<- h] at hb
    simp at hb
theorem scriptClass {form:Bool} {w:Bs} {kind:Int} (h0:0<=kind):∃fu,zAu fu form w kind=some true:=by
 refine ⟨40000,?_⟩
 unfold zAu
 rw [zQy (by omega),bnd_some,Bool.not_true,cnd_false,show decide (((w.length:Nat):Int)>300) = !decide (w.length<=300) from gt_le _ 300]
 by_cases h:w.length<=300
 ·rw [decide_eq_true h,Bool.not_true,cnd_false]
  have hm:kind.tmod 8=((kind.toNat % 8:Nat):Int):=by
   rw [Int.tmod_eq_emod_of_nonneg h0];omega
  exact zLY (fu:=40000) (by omega) hm (by omega) h w.length 0 40000 (by omega) (by omega) (by simp)
 ·rw [decide_eq_false h];rfl
end Go.Proofs.YtoboimmgglnjfaaGreatDoor
