/- Small laws on what models are made of: binds, tests, elements, loops with fuel. No program is named here. -/
import Derived.Test.YtoboimmgglnjfaaGreatDoorIter
import Derived.Lib.Bytealg
namespace Go.Pw
open Go
@[simp] theorem bnd_some {α β : Type} (a : α) (f : α -> Option β):bnd (some a) f=f a:=rfl
@[simp] theorem bnd_none {α β : Type} (f : α -> Option β):bnd none f=none:=rfl
@[simp] theorem cnd_true {α : Type} (x y : α):cnd true x y=x:=rfl
@[simp] theorem cnd_false {α : Type} (x y : α):cnd false x y=y:=rfl
theorem cnd_if {α : Type} (b:Bool) (x y : α):cnd b x y=if b then x else y:=by cases b<;>rfl
theorem zCu {α : Type} (p:Prop) [Decidable p] (x y : α):cnd (decide p) x y=if p then x else y:=by by_cases h:p<;>simp [h]
theorem zAo {α : Type} {b:Bool} (h:b=true) (x y : α):cnd b x y=x:=by rw [h];rfl
theorem zAi {α : Type} {b:Bool} (h:b=false) (x y : α):cnd b x y=y:=by rw [h];rfl
theorem zKg {k:IntKind} {n:Int} (h:lo k<=n/\n<=hi k):rng k n=some n:=if_pos h
theorem zGF {n:Int} (h1 : -9223372036854775808<=n) (h2:n<=9223372036854775807):rng .i64 n=some n:=zKg ⟨h1,h2⟩
theorem zAw {n:Nat} (h:n<=9223372036854775806):rng .i64 ((n:Int)+1)=some ((n+1:Nat):Int):=by
 rw [zGF (by omega) (by omega)];rfl
theorem zBv {b k:Nat} (h:k*b<=140737488355328):zBr b k=some ():=if_pos h
theorem zNw {α : Type} (l:List α) (i:Nat):idx l (i:Int)=l[i]? := by
 unfold idx;rw [if_pos (by omega)];simp
theorem zCm {α : Type} {l:List α} {i:Nat} (h:i<l.length):idx l (i:Int)=some l[i]:=by rw [zNw,List.getElem?_eq_getElem h]
theorem zNi (s:List UInt8) (i:Nat):chr s (i:Int)=(s[i]?).map fun b=>(b.toNat:Int):=by
 unfold chr;rw [if_pos (by omega)];simp
theorem zOg (s:List UInt8):chr s 0=(s[0]?).map fun b=>(b.toNat:Int):=zNi s 0
theorem zKy {s:List UInt8} {i:Nat} (h:i<s.length):chr s (i:Int)=some (s[i].toNat:Int):=by rw [zNi,List.getElem?_eq_getElem h];rfl
theorem zCM {s t:List UInt8} (h:s.length+t.length<=9223372036854775807):cat s t=some (s++t):=if_pos h
theorem zCc {α : Type} {s:List α} {i j:Nat} (h1:i<=j) (h2:j<=s.length):zC3 s (i:Int) (j:Int)=some ((s.drop i).take (j - i)):=by
 unfold zC3;rw [if_pos (by omega)];simp
theorem up {X R:Type} {L:Nat->X->Option R} (Inv:Nat->X->Prop) (Fin:Option R->Prop) (n:Nat)
  (step:∀i x,i<n->Inv i x->(∃v,Fin v/\∀k,L (k+1) x=v)\/∃x',Inv (i+1) x'/\∀k,L (k+1) x=L k x')
  (stop:∀x,Inv n x->∃v,Fin v/\∀k,L (k+1) x=v):∀{i:Nat} {x:X} {k:Nat},Inv i x->i<=n->n<k+i->Fin (L k x):=by
 intro i x k
 induction k generalizing i x with
 | zero=>intro _ h1 h2;omega
 | succ k ih =>
  intro hx h1 h2
  by_cases hi:i=n
  ·subst hi
   obtain ⟨v,hv,e⟩:=stop x hx
   rw [e k];exact hv
  ·rcases step i x (by omega) hx with ⟨v,hv,e⟩ | ⟨x',hx',e⟩
   ·rw [e k];exact hv
   ·rw [e k];exact ih hx' (by omega) (by omega)
theorem upf {X R:Type} {L:Nat->X->Option R} (f:Nat->X) (v:Option R) (n:Nat) (step:∀i,i<n->∀k,L (k+1) (f i)=L k (f (i+1))) (stop:∀k,L (k+1) (f n)=v) {k:Nat} (hk:n<k):L k (f 0)=v :=
 up (Inv:=fun i x=>x=f i) (Fin:=fun r=>r=v) n (fun i x hi hx=>.inr ⟨f (i+1),rfl,by subst hx;exact step i hi⟩) (fun x hx=>⟨v,rfl,by subst hx;exact stop⟩) rfl (Nat.zero_le _) (by omega)
theorem zWR {R:Type} {L:Nat->Int->Option R} (p:Nat->Bool) (yes:Nat->Option R) (no:Option R) (n:Nat) (h1:∀i,i<n->p i=true->∀k,L (k+1) (i:Int)=yes i) (h0:∀i,i<n->p i=false->∀k,L (k+1) (i:Int)=L k ((i+1:Nat):Int)) (stop:∀k,L (k+1) (n:Int)=no) {k:Nat} (hk:n<k) :
  L k 0=match (List.range n).find? p with | some i=>yes i | none=>no:=by
 refine up (L:=L) (Inv:=fun i x=>x=(i:Int)/\∀j,j<i->p j=false) (Fin:=fun r=>r=match (List.range n).find? p with | some i=>yes i | none=>no) n (fun i x hi ⟨hx,hj⟩=>?_) (fun x ⟨hx,hj⟩=>?_) (i:=0) ⟨rfl,fun j hj=>by omega⟩ (Nat.zero_le _) (by omega)
 ·subst hx
  cases hp:p i with
  | true =>
   refine .inl ⟨yes i,?_,h1 i hi hp⟩
   have:(List.range n).find? p=some i:=by
    rw [List.find?_range_eq_some]
    exact ⟨by simpa using hp,by simpa using hi,fun j hj'=>by simpa using hj j hj'⟩
   rw [this]
  | false=>exact .inr ⟨_,⟨rfl,fun j hj'=>by rcases Nat.lt_succ_iff_lt_or_eq.1 hj' with h | h;exact hj j h;subst h;exact hp⟩,h0 i hi hp⟩
 ·subst hx
  refine ⟨no,?_,stop⟩
  have:(List.range n).find? p=none:=by
   rw [List.find?_eq_none]
   intro j hj'
   simpa using hj j (by simpa using hj')
  rw [this]
theorem zGP {α : Type} {L:Nat->Int->Option Bool} (l:List α) (p : α -> Bool) (fin:Option Bool) (hstep:∀(i:Nat) (h:i<l.length) (k:Nat),L (k+1) (i:Int)=bif p l[i] then L k ((i+1:Nat):Int) else some false) (stop:∀k,L (k+1) (l.length:Int)=fin) {k:Nat} (hk:l.length<k) :
  L k 0=bif l.all p then fin else some false:=by
 have key:∀(j i k:Nat),i+j=l.length->j<k->L k (i:Int)=bif (l.drop i).all p then fin else some false:=by
  intro j
  induction j with
  | zero =>
   intro i k hi hk
   obtain ⟨k,rfl⟩:∃k',k=k'+1:=⟨k - 1,by omega⟩
   obtain rfl:i=l.length:=by omega
   rw [stop];simp
  | succ j ih =>
   intro i k hi hk
   obtain ⟨k,rfl⟩:∃k',k=k'+1:=⟨k - 1,by omega⟩
   have h:i<l.length:=by omega
   rw [hstep i h,List.drop_eq_getElem_cons h,List.all_cons]
   cases p l[i]
   ·rfl
   ·simpa using ih (i+1) k (by omega) (by omega)
 simpa using key l.length 0 k (by omega) hk
end Go.Pw
namespace Go.Pw
def mix {α : Type} (g : α -> α) (l:List α) (i:Nat):List α := (l.map g).take i++l.drop i
theorem zTd {α : Type} (g : α -> α) (l:List α):mix g l 0=l:=by simp [mix]
theorem zVd {α : Type} (g : α -> α) (l:List α):mix g l l.length=l.map g:=by rw [mix,List.take_of_length_le (by simp),List.drop_length,List.append_nil]
theorem zUq {α : Type} (g : α -> α) {l:List α} {i:Nat} (h:i<l.length):idx (mix g l i) (i:Int)=some l[i]:=by
 rw [zNw,mix,List.getElem?_append_right (by simp;omega)]
 simp [Nat.min_eq_left (Nat.le_of_lt h),h]
theorem zN4 {α : Type} (g : α -> α) {l:List α} {i:Nat} (h:i<l.length):(mix g l i).set ((i:Int)).toNat (g l[i])=mix g l (i+1):=by
 have hlen:((l.map g).take i).length=i:=by simp;omega
 rw [mix,mix,List.drop_eq_getElem_cons h,List.set_append_right _ _ (by rw [hlen];simp),hlen]
 simp only [Int.toNat_natCast,Nat.sub_self,List.set_cons_zero]
 rw [List.take_succ_eq_append_getElem (by simpa using h)]
 simp
theorem zML {α β : Type} (g : α -> β) {l:List α} {i:Nat} (h:i<l.length):(l.take (i+1)).map g=(l.take i).map g++[g l[i]]:=by
 rw [List.take_succ_eq_append_getElem h,List.map_append];rfl
end Go.Pw
namespace Go.Pw
theorem zBC {α β : Type} [BEq α] [LawfulBEq α] [DecidableEq α] (a b : α) (x y : β):cnd (a==b) x y=if a=b then x else y:=by
 by_cases h:a=b
 ·simp [h]
 ·simp [h,beq_eq_false_iff_ne.2 h]
theorem zMf {α β : Type} [BEq α] [LawfulBEq α] [DecidableEq α] (a b : α) (x y : β):cnd (a != b) x y=if a=b then y else x:=by
 by_cases h:a=b
 ·simp [h]
 ·simp [h,bne_iff_ne.2 h]
theorem zHL {β : Type} (b:Bool) (x y : β):cnd (!b) x y=cnd b y x:=by cases b<;>rfl
end Go.Pw
namespace Go.Pw
theorem zJ0 {α : Type} {L:Nat->Int->Option Int} (l:List α) (p : α -> Bool) (step:∀(i:Nat) (h:i<l.length) (k:Nat),L (k+1) (i:Int)=bif p l[i] then some (i:Int) else L k ((i+1:Nat):Int)) (stop:∀k,L (k+1) (l.length:Int)=some (-1)) {k:Nat} (hk:l.length<k) :
  ∃r,L k 0=some r/\decide (r>=0)=l.any p:=by
 have key:∀(j i k:Nat),i+j=l.length->j<k->∃r,L k (i:Int)=some r/\decide (r>=0)=(l.drop i).any p:=by
  intro j
  induction j with
  | zero =>
   intro i k hi hk
   obtain ⟨k,rfl⟩:∃k',k=k'+1:=⟨k - 1,by omega⟩
   obtain rfl:i=l.length:=by omega
   exact ⟨-1,stop k,by simp⟩
  | succ j ih =>
   intro i k hi hk
   obtain ⟨k,rfl⟩:∃k',k=k'+1:=⟨k - 1,by omega⟩
   have h:i<l.length:=by omega
   rw [step i h,List.drop_eq_getElem_cons h,List.any_cons]
   cases p l[i]
   ·simpa using ih (i+1) k (by omega) (by omega)
   ·exact ⟨_,rfl,by simp⟩
 simpa using key l.length 0 k (by omega) hk
theorem zWQ {L:Nat->Int->Option Bool} (n:Nat) (p:Nat->Bool) (fin:Option Bool) (step:∀(i:Nat) (_:i<n) (k:Nat),L (k+1) (i:Int)=bif p i then L k ((i+1:Nat):Int) else some false) (stop:∀k,L (k+1) (n:Int)=fin) {k:Nat} (hk:n<k) :
  L k 0=bif (List.range n).all p then fin else some false:=by
 have:=zGP (L:=L) (List.range n) p fin (fun i hi k=>by simpa using step i (by simpa using hi) k) (fun k=>by simpa using stop k) (k:=k) (by simpa using hk)
 simpa using this
theorem zMc (s:List UInt8) (i:Nat):(ByteArray.get! ⟨⟨s⟩⟩ i)=s[i]! := by simp [ByteArray.get!]
theorem zQ4 {s:List UInt8} {p:Nat} (h:p<s.length) (hb:s[p].toNat<128):zGw s p=(s[p].toNat:Int)/\zIC s p=1:=by
 have e:Utf8.decode ⟨⟨s⟩⟩ p=(s[p].toNat,1):=by
  unfold Utf8.decode
  simp only [zMc,Nat.add_zero,getElem!_pos s p h]
  rw [if_pos hb]
 unfold zGw zIC
 rw [e]
 exact ⟨rfl,rfl⟩
theorem dec_hi {s:List UInt8} {p:Nat} (h:p<s.length) (hb:128<=s[p].toNat):128<=zGw s p:=by
 have e:128<=(Utf8.decode ⟨⟨s⟩⟩ p).1:=by
  unfold Utf8.decode
  simp only [zMc,Nat.add_zero,getElem!_pos s p h]
  rw [if_neg (by omega)]
  split
  ·split
   ·assumption
   ·decide
  ·split
   ·split
    ·rename_i h2;simp only [Bool.and_eq_true,decide_eq_true_eq] at h2;exact Nat.le_trans (by decide) h2.1
    ·decide
   ·split
    ·split
     ·rename_i h2;simp only [Bool.and_eq_true,decide_eq_true_eq] at h2;exact Nat.le_trans (by decide) h2.1
     ·decide
    ·decide
 unfold zGw
 omega
end Go.Pw
namespace Go.Pw
theorem zTc {α : Type} (g : α -> α) {l:List α} {i:Nat} (h:i<l.length) (hg:g l[i]=l[i]):mix g l i=mix g l (i+1):=by
 rw [<- zN4 g h,hg,Int.toNat_natCast]
 have h1:=zUq g h
 rw [zNw] at h1
 obtain ⟨h2,h3⟩:=List.getElem?_eq_some_iff.1 h1
 exact (by rw [<- h3];exact (List.set_getElem_self h2).symm)
theorem zH2 (b:UInt8) (l:List UInt8) (c:UInt8):Lib.indexByte (b::l) c=if b=c then 0 else if Lib.indexByte l c = -1 then -1 else Lib.indexByte l c+1:=by
 simp only [Lib.indexByte]
 by_cases h:b=c<;>by_cases h':Lib.indexByte l c = -1<;>simp [h,h']
theorem zGU:∀(s:List UInt8) (c:UInt8),(0<=Lib.indexByte s c↔c∈s) /\ -1<=Lib.indexByte s c
 | [],c=>by simp [Lib.indexByte]
 | b::l,c=>by
  have ih:=zGU l c
  rw [zH2]
  by_cases h:b=c
  ·subst h;simp
  ·rw [if_neg h]
   by_cases e:Lib.indexByte l c = -1
   ·rw [if_pos e]
    rw [e] at ih
    have:c∉l:=fun hc=>by have:=ih.1.2 hc;omega
    simp [Ne.symm h,this]
   ·rw [if_neg e]
    refine ⟨?_,by omega⟩
    rw [List.mem_cons,<- ih.1]
    constructor
    ·intro h';right;omega
    ·rintro (h' | h')
     ·exact absurd h'.symm h
     ·omega
end Go.Pw
namespace Go.Pw
end Go.Pw
