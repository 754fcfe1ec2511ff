/- Plain laws on the models, one behind the other. -/
import Derived.Test.YtoboimmgglnjfaaGreatDoorLw1
/- ScriptRight: the document's answer: who is allowed, and the text that is put. -/
namespace Go.Proofs.YtoboimmgglnjfaaGreatDoor
open Go Go.Pw
set_option linter.unusedVariables false
set_option maxRecDepth 4000
def shP (o:Op):Prop:=o.S.length<=300/\o.T.length<=300
def shL (l:List Op):Prop:=∀o∈l,shP o
theorem zMH {fu:Nat} {l:List Op} (hf:l.length<fu) (hb:l.length<=9223372036854775807):∃b,zB3 fu l=some b/\(b=true->shL l):=by
 have:=zGP (L:=zCE l) l (fun o=>decide (o.S.length<=300)&&decide (o.T.length<=300)) (some true) (fun i hi k=>by
  simp only [zCE]
  rw [zAo (by simpa using hi),zCm hi,bnd_some,bnd_some,show decide (((l[i].S.length:Nat):Int)>300) = !decide (l[i].S.length<=300) from zGT _ 300,show decide (((l[i].T.length:Nat):Int)>300) = !decide (l[i].T.length<=300) from zGT _ 300,zAw (by omega),bnd_some]
  cases decide (l[i].S.length<=300)<;>cases decide (l[i].T.length<=300)<;>rfl) (fun k=>by simp only [zCE];rw [zAi (by simp)]) hf
 unfold zB3
 rw [this]
 cases h:l.all fun o=>decide (o.S.length<=300)&&decide (o.T.length<=300)
 ·exact ⟨false,rfl,fun h=>by cases h⟩
 ·refine ⟨true,rfl,fun _ o ho=>?_⟩
  have:=List.all_eq_true.1 h o ho
  simp only [Bool.and_eq_true,decide_eq_true_eq] at this
  exact this
def FC (c:Class):Prop:=shL c.Peek/\shL c.Make/\(∀h∈c.Hooks,shL h.Do)/\∀w∈c.Watch,w.length<=300
def Few (s:Script):Prop:=s.Classes.length<=14/\(∀c∈s.Classes,shB c=true/\FC c)/\s.Main.length<=320/\shL s.Main
theorem zRG {fu:Nat} {i:Nat} {c:Class} {rc:Int->Option Bool} {Q:Prop} (hf:1000<fu) (hi:i<=100) (hc:shB c=true) (hr:∃b,rc ((i+1:Nat):Int)=some b/\(b=true->Q)):∀(j n k:Nat),n+j=c.Hooks.length->j<k ->
  ∃b,zCf fu (i:Int) c rc k (n:Int)=some b/\(b=true->Q/\shL c.Peek/\shL c.Make/\∀h∈c.Hooks.drop n,shL h.Do)
 | 0,n,k+1,hn,hk=>by
  simp only [shB,Bool.and_eq_true,decide_eq_true_eq] at hc
  rw [zCf,zAi (by simp;omega)]
  obtain ⟨b1,e1,g1⟩:=zMH (fu:=fu) (l:=c.Peek) (by omega) (by omega)
  obtain ⟨b2,e2,g2⟩:=zMH (fu:=fu) (l:=c.Make) (by omega) (by omega)
  rw [e1,bnd_some,e2]
  cases b1 with
  | false=>exact ⟨false,rfl,fun h=>by cases h⟩
  | true =>
  cases b2 with
  | false=>exact ⟨false,rfl,fun h=>by cases h⟩
  | true =>
   rw [Bool.not_true,cnd_false,bnd_some,Bool.not_true,cnd_false,zAw (by omega),bnd_some]
   obtain ⟨b,e,g⟩:=hr
   refine ⟨b,e,fun hb=>⟨g hb,g1 rfl,g2 rfl,?_⟩⟩
   rw [List.drop_of_length_le (by omega)]
   simp
 | j+1,n,k+1,hn,hk=>by
  have hc':=hc
  simp only [shB,Bool.and_eq_true,decide_eq_true_eq] at hc'
  have hlt:n<c.Hooks.length:=by omega
  have hd:=List.all_eq_true.1 hc'.2.2.2.2 c.Hooks[n] (List.getElem_mem hlt)
  simp only [decide_eq_true_eq] at hd
  obtain ⟨b1,e1,g1⟩:=zMH (fu:=fu) (l:=c.Hooks[n].Do) (by omega) (by omega)
  rw [zCf,zAo (by simpa using hlt),zCm hlt,bnd_some,e1,bnd_some]
  cases b1 with
  | false=>exact ⟨false,rfl,fun h=>by cases h⟩
  | true =>
   rw [Bool.not_true,cnd_false,zAw (by omega),bnd_some]
   obtain ⟨b,e,g⟩:=zRG hf hi hc hr j (n+1) k (by omega) (by omega)
   refine ⟨b,e,fun hb=>?_⟩
   obtain ⟨q1,q2,q3,q4⟩:=g hb
   refine ⟨q1,q2,q3,fun h hh=>?_⟩
   rw [List.drop_eq_getElem_cons hlt] at hh
   rcases List.mem_cons.1 hh with rfl | hh
   ·exact g1 rfl
   ·exact q4 h hh
theorem zRF {fu:Nat} {i:Nat} {c:Class} {rc:Int->Option Bool} {Q:Prop} (hf:1000<fu) (hi:i<=100) (hc:shB c=true) (hr:∃b,rc ((i+1:Nat):Int)=some b/\(b=true->Q)):∀(j n k:Nat),n+j=c.Watch.length->j<k ->
  ∃b,zCe fu (i:Int) c rc k (n:Int)=some b/\(b=true->Q/\shL c.Peek/\shL c.Make/\(∀h∈c.Hooks,shL h.Do)/\∀w∈c.Watch.drop n,w.length<=300)
 | 0,n,k+1,hn,hk=>by
  have hc':=hc
  simp only [shB,Bool.and_eq_true,decide_eq_true_eq] at hc'
  rw [zCe,zAi (by simp;omega)]
  obtain ⟨b,e,g⟩:=zRG hf hi hc hr c.Hooks.length 0 fu (by omega) (by omega)
  refine ⟨b,e,fun hb=>?_⟩
  obtain ⟨q1,q2,q3,q4⟩:=g hb
  refine ⟨q1,q2,q3,q4,?_⟩
  rw [List.drop_of_length_le (by omega)]
  simp
 | j+1,n,k+1,hn,hk=>by
  have hc':=hc
  simp only [shB,Bool.and_eq_true,decide_eq_true_eq] at hc'
  have hlt:n<c.Watch.length:=by omega
  rw [zCe,zAo (by simpa using hlt),zCm hlt,bnd_some,show decide (((c.Watch[n].length:Nat):Int)>300) = !decide (c.Watch[n].length<=300) from zGT _ 300]
  by_cases h3:c.Watch[n].length<=300
  rotate_left
  ·rw [decide_eq_false h3]
   exact ⟨false,rfl,fun h=>by cases h⟩
  rw [decide_eq_true h3,Bool.not_true,cnd_false,zAw (by omega),bnd_some]
  obtain ⟨b,e,g⟩:=zRF hf hi hc hr j (n+1) k (by omega) (by omega)
  refine ⟨b,e,fun hb=>?_⟩
  obtain ⟨q1,q2,q3,q4,q5⟩:=g hb
  refine ⟨q1,q2,q3,q4,fun w hw=>?_⟩
  rw [List.drop_eq_getElem_cons hlt] at hw
  rcases List.mem_cons.1 hw with rfl | hw
  ·exact h3
  ·exact q5 w hw
theorem zRE {fu:Nat} {s:Script} (hf:1000<fu) (hs:s.Classes.length<=14) (hc:∀c∈s.Classes,shB c=true):∀(j n k:Nat),n+j=s.Classes.length->j<k ->
  ∃b,zBs fu s k (n:Int)=some b/\(b=true->∀c∈s.Classes.drop n,FC c)
 | 0,n,k+1,hn,hk=>by
  rw [zBs,zAi (by simp;omega)]
  refine ⟨true,rfl,fun _=>?_⟩
  rw [List.drop_of_length_le (by omega)]
  simp
 | j+1,n,k+1,hn,hk=>by
  have hlt:n<s.Classes.length:=by omega
  have hcn:=hc _ (List.getElem_mem hlt)
  have hc':=hcn
  simp only [shB,Bool.and_eq_true,decide_eq_true_eq] at hc'
  rw [zBs,zAo (by simpa using hlt),zCm hlt,bnd_some]
  obtain ⟨b,e,g⟩:=zRF (i:=n) hf (by omega) hcn (zRE hf hs hc j (n+1) k (by omega) (by omega)) s.Classes[n].Watch.length 0 fu (by omega) (by omega)
  refine ⟨b,e,fun hb=>?_⟩
  obtain ⟨q1,q2,q3,q4,q5⟩:=g hb
  intro c hm
  rw [List.drop_eq_getElem_cons hlt] at hm
  rcases List.mem_cons.1 hm with rfl | hm
  ·exact ⟨q2,q3,q4,q5⟩
  ·exact q1 c hm
theorem few_s {fu:Nat} (hf:1000<fu) (s:Script):∃b,zEM fu s=some b/\(b=true->Few s):=by
 unfold zEM
 rw [zUA hf,bnd_some]
 cases h:decide (s.Classes.length<=14)&&s.Classes.all shB with
 | false=>exact ⟨false,rfl,fun h=>by cases h⟩
 | true =>
  simp only [Bool.and_eq_true,decide_eq_true_eq] at h
  rw [Bool.not_true,cnd_false,show decide (((s.Main.length:Nat):Int)>320) = !decide (s.Main.length<=320) from zGT _ 320]
  by_cases hm:s.Main.length<=320
  ·obtain ⟨b1,e1,g1⟩:=zMH (fu:=fu) (l:=s.Main) (by omega) (by omega)
   rw [decide_eq_true hm,Bool.not_true,cnd_false,e1,bnd_some]
   cases b1 with
   | false=>exact ⟨false,rfl,fun h=>by cases h⟩
   | true =>
    rw [Bool.not_true,cnd_false]
    obtain ⟨b,e,g⟩:=zRE hf h.1 (fun c hc=>List.all_eq_true.1 h.2 c hc) s.Classes.length 0 fu (by omega) (by omega)
    exact ⟨b,e,fun hb=>⟨h.1,fun c hc=>⟨List.all_eq_true.1 h.2 c hc,g hb c hc⟩,hm,g1 rfl⟩⟩
  ·rw [decide_eq_false hm]
   exact ⟨false,rfl,fun h=>by cases h⟩
theorem zPW {fu:Nat} {l:List Op} (hf:1000<fu) (hl:l.length<=900) (hs:shL l):zCR fu l=some (l.all okOp):=by
 have:=zGP (L:=zB8 fu l) l okOp (some true) (fun i hi k=>by
  simp only [zB8]
  obtain ⟨s1,s2⟩:=hs _ (List.getElem_mem hi)
  rw [zAo (by simpa using hi),zCm hi,bnd_some,eqO,zHL,zCu]
  show (if l[i]=op0 then _ else _)=_
  unfold okOp
  by_cases h:l[i]=op0
  ·rw [if_pos h,zAw (by omega),bnd_some,decide_eq_true h,Bool.true_or]
   rfl
  ·rw [if_neg h,decide_eq_false h,Bool.false_or,bnd_some,zPa (by omega) (by omega) (by omega) (by omega),bnd_some,zAw (by omega),bnd_some]
   cases zE7 l[i]<;>rfl) (fun k=>by simp only [zB8];rw [zAi (by simp)]) (show l.length<fu by omega)
 unfold zCR
 rw [this]
 cases l.all okOp<;>rfl
theorem rcls_m {fu:Nat} {c:Class} (hf:1000<fu) (hs:shB c=true) (hw:∀w∈c.Watch,w.length<=300):zDP fu c=some (clsB c):=by
 simp only [shB,Bool.and_eq_true,decide_eq_true_eq] at hs
 have h2:zBV c fu 0=some (c.Hooks.all hokB):=by
  have:=zGP (L:=zBV c) c.Hooks hokB (some true) (fun i hi k=>by
   simp only [zBV]
   rw [zAo (by simpa using hi),zCm hi,bnd_some,bnd_some,bnd_some,zAw (by omega),bnd_some,zCu,zCu,show decide (((c.Hooks[i].Do.length:Nat):Int)>60) = !decide (c.Hooks[i].Do.length<=60) from zGT _ 60]
   generalize c.Hooks[i]=h
   unfold hokB
   by_cases h1:h.Kind<1
   ·rw [if_pos h1,decide_eq_false (by omega)];rfl
   ·rw [if_neg h1,decide_eq_true (show 1<=h.Kind by omega),Bool.true_and]
    by_cases h2:h.Kind>8
    ·rw [if_pos h2,decide_eq_false (by omega)];rfl
    ·rw [if_neg h2,decide_eq_true (show h.Kind<=8 by omega),Bool.true_and]
     cases decide (h.Do.length<=60)<;>rfl) (fun k=>by simp only [zBV];rw [zAi (by simp)]) (show c.Hooks.length<fu by omega)
  rw [this]
  cases c.Hooks.all hokB<;>rfl
 have h1:zBU fu c fu 0=some (c.Watch.all fitB&&c.Hooks.all hokB):=by
  have:=zGP (L:=zBU fu c) c.Watch fitB (some (c.Hooks.all hokB)) (fun i hi k=>by
   simp only [zBU]
   have hwl:=hw _ (List.getElem_mem hi)
   rw [zAo (by simpa using hi),zCm hi,bnd_some,zNF (by omega),bnd_some,bnd_some,zNG (by omega) (by omega),bnd_some,bnd_some,zAw (by omega),bnd_some]
   generalize c.Watch[i]=w
   unfold fitB
   cases zGO w<;>cases (w.map zHB==w)<;>rfl) (fun k=>by simp only [zBU];rw [zAi (by simp),h2]) (show c.Watch.length<fu by omega)
  rw [this]
  cases c.Watch.all fitB<;>rfl
 unfold zDP clsB
 rw [h1,show decide (((c.Watch.length:Nat):Int)>12) = !decide (c.Watch.length<=12) from zGT _ 12,show decide (((c.Hooks.length:Nat):Int)>12) = !decide (c.Hooks.length<=12) from zGT _ 12,show decide (((c.Peek.length:Nat):Int)>60) = !decide (c.Peek.length<=60) from zGT _ 60,show decide (((c.Make.length:Nat):Int)>60) = !decide (c.Make.length<=60) from zGT _ 60]
 cases decide (c.Watch.length<=12)<;>cases decide (c.Hooks.length<=12)<;>cases decide (c.Peek.length<=60)<;>cases decide (c.Make.length<=60)<;>cases c.Watch.all fitB<;>cases c.Hooks.all hokB<;>rfl
def clsR (c:Class):Bool:=clsB c&&(c.Peek.all okOp&&(c.Make.all okOp&&c.Hooks.all fun h=>h.Do.all okOp))
def zQS (s:Script):Bool:=decide (s.Classes.length<=12)&&(decide (s.Main.length<=300)&&(s.Main.all okOp&&s.Classes.all clsR))
theorem zQT (s:Script):zQS s=zEa s:=by
 rw [Bool.eq_iff_iff]
 unfold zQS clsR
 simp only [Bool.and_eq_true,decide_eq_true_eq,List.all_eq_true]
 constructor
 ·rintro ⟨h1,h2,h3,h4⟩
  exact zJ8 h1 (fun c hc=>⟨(h4 c hc).1,(h4 c hc).2.1,(h4 c hc).2.2.1,(h4 c hc).2.2.2⟩) h2 h3
 ·intro h
  obtain ⟨h1,h2,h3⟩:=zEh h
  obtain ⟨h4,h5⟩:=zJ9 h
  exact ⟨h1,h3,h5,fun c hc=>⟨h2 c hc,(h4 c hc).2.1,(h4 c hc).2.2.1,(h4 c hc).2.2.2⟩⟩
theorem zTs {fu:Nat} {s:Script} (hf:1000<fu) (h:Few s):zDR fu s=some (zEa s):=by
 obtain ⟨f1,f2,f3,f4⟩:=h
 rw [<- zQT]
 unfold zDR zQS
 have h1:zAq fu s fu 0=some (s.Classes.all clsR):=by
  have:=zGP (L:=zAq fu s) s.Classes clsR (some true) (fun i hi k=>by
   simp only [zAq]
   obtain ⟨c1,c2,c3,c4,c5⟩:=f2 _ (List.getElem_mem hi)
   rw [zAo (by simpa using hi),zCm hi,bnd_some,rcls_m hf c1 c5,bnd_some]
   generalize s.Classes[i]=c at c1 c2 c3 c4 c5 ⊢
   simp only [shB,Bool.and_eq_true,decide_eq_true_eq] at c1
   obtain ⟨s1,s2,s3,s4,s5⟩:=c1
   rw [zPW hf (by omega) c2,bnd_some,zPW hf (by omega) c3,bnd_some]
   have h2:=zGP (L:=zBy fu (i:Int) c (zAq fu s k)) c.Hooks (fun h=>h.Do.all okOp) (zAq fu s k ((i+1:Nat):Int)) (fun j hj k2=>by
    simp only [zBy]
    have hd:=List.all_eq_true.1 s5 _ (List.getElem_mem hj)
    simp only [decide_eq_true_eq] at hd
    rw [zAo (by simpa using hj),zCm hj,bnd_some,zPW hf (by omega) (c4 _ (List.getElem_mem hj)),bnd_some,zAw (by omega),bnd_some]
    cases c.Hooks[j].Do.all okOp<;>rfl) (fun k2=>by simp only [zBy];rw [zAi (by simp),zAw (by omega),bnd_some]) (show c.Hooks.length<fu by omega)
   rw [h2]
   unfold clsR
   cases clsB c<;>cases c.Peek.all okOp<;>cases c.Make.all okOp<;>cases (c.Hooks.all fun h=>h.Do.all okOp)<;>rfl) (fun k=>by simp only [zAq];rw [zAi (by simp)]) (show s.Classes.length<fu by omega)
  rw [this]
  cases s.Classes.all clsR<;>rfl
 rw [h1,zPW hf (by omega) f4,show decide (((s.Classes.length:Nat):Int)>12) = !decide (s.Classes.length<=12) from zGT _ 12,show decide (((s.Main.length:Nat):Int)>300) = !decide (s.Main.length<=300) from zGT _ 300]
 cases decide (s.Classes.length<=12)<;>cases decide (s.Main.length<=300)<;>cases s.Main.all okOp<;>cases s.Classes.all clsR<;>rfl
theorem zPT {fu:Nat} {l:List Op} (hf:2000<fu) (ho:∀o∈l,okOp o=true) (hl:l.length<=1000):∀(j i k:Nat) (t:Bs),i+j=l.length->j<k->t.length+j*1001<=2000000->zBo fu l k (t,(i:Int))=some (t++(l.drop i).flatMap opL)
 | 0,i,k+1,t,hi,hk,ht=>by
  rw [zBo,zAi (by simp;omega),List.drop_of_length_le (by omega)]
  simp
 | j+1,i,k+1,t,hi,hk,ht=>by
  have hlt:i<l.length:=by omega
  have hp:=zIq l[i]
  have hoi:=ho _ (List.getElem_mem hlt)
  rw [zBo,zAo (by simpa using hlt),zCm hlt,bnd_some,eqO,zCu,bnd_some,List.drop_eq_getElem_cons hlt,List.flatMap_cons]
  generalize l[i]=o at hp hoi ⊢
  have ih:=zPT hf ho hl j (i+1) k (t++opL o) (by omega) (by omega) (by unfold opL;simp only [List.length_append,List.length_cons,List.length_nil];omega)
  rw [List.append_assoc] at ih
  show (if o=op0 then _ else _)=_
  by_cases h:o=op0
  ·have e:opL o=[63,10]:=by rw [h];unfold opL;rw [zR8];rfl
   rw [e] at ih ⊢
   rw [if_pos h,zCM (by simp only [List.length_cons,List.length_nil];omega),bnd_some,zAw (by omega),bnd_some,ih]
  ·have hr:zE7 o=true:=by
    unfold okOp at hoi
    rw [decide_eq_false h,Bool.false_or] at hoi
    exact hoi
   have e:zGX o=putP o:=if_pos hr
   rw [e] at hp
   rw [if_neg h,rput_m (right_iff.1 hr) hf,bnd_some,zCM (by simp only [List.length_cons,List.length_nil];omega),bnd_some,zCM (by simp only [List.length_append,List.length_cons,List.length_nil];omega),bnd_some,zAw (by omega),bnd_some]
   unfold opL at ih ⊢
   rw [e] at ih ⊢
   exact ih
theorem zPU {fu:Nat} {l:List Op} (hf:2000<fu) (ho:∀o∈l,okOp o=true) (hl:l.length<=1000):zB5 fu l=some (l.flatMap opL):=by
 have:=zPT hf ho hl l.length 0 fu [] (by omega) (by omega) (by simp;omega)
 rw [show ((0:Nat):Int)=0 from rfl,List.nil_append,List.drop_zero] at this
 exact this
theorem zRo (l:List Op):(l.flatMap opL).length<=l.length*1001:=zF9 opL 1001 l fun o _=>by unfold opL;have:=zIq o;simp;omega
theorem zNM {fu:Nat} {k:Int} (h1:1<=k) (h2:k<=8):zCk fu k=some (kindsL.getD k.toNat []):=by
 have:∀j:Fin 9,1<=(j:Nat)->zCk 0 ((j:Nat):Int)=some (kindsL.getD j []):=by decide
 have:=this ⟨k.toNat,by omega⟩ (by simp only;omega)
 simp only [Int.toNat_of_nonneg (show 0<=k by omega)] at this
 exact this
theorem zKj {fu:Nat} {h:Bs} {l:List Op} {t:Bs} {β : Type} {J:Bs->Option β} (hf:2000<fu) (ho:∀o∈l,okOp o=true) (hl:l.length<=1000) (hh:h.length<=100) (h0:h≠[]) (ht:t.length<=900000000) :
  cnd (decide (((l.length:Nat):Int)>0)) (bnd (zB5 fu l) fun r=>bnd (cat (h++[10]) r) fun s=>bnd (cat t s) fun s2=>J s2) (J t)=J (t++opsT h l):=by
 have hol:=zRo l
 unfold opsT
 cases l with
 | nil=>rw [zAi (by simp),if_pos (.inl rfl)];simp
 | cons o l =>
  rw [zAo (by simp),zPU hf ho hl,bnd_some,if_neg (by simp [h0]),zCM (by simp only [List.length_append,List.length_cons,List.length_nil];simp only [List.length_cons] at hl hol;omega),bnd_some,zCM (by simp only [List.length_append,List.length_cons,List.length_nil];simp only [List.length_cons] at hl hol;omega),bnd_some]
theorem zSW {fu:Nat} {i:Nat} {c:Class} {rc:Bs×Int->Option Bs} (hf:2000<fu) (hi:i<=100) (hc:clsB c=true) (ho:∀h∈c.Hooks,∀o∈h.Do,okOp o=true):∀(j n k:Nat) (t:Bs),n+j=c.Hooks.length->j<k->t.length+j*70000<=600000000 ->
  zCj fu (i:Int) c rc k (t,(n:Int))=rc (t++(c.Hooks.drop n).flatMap zFJ,((i+1:Nat):Int))
 | 0,n,k+1,t,hn,hk,ht=>by
  rw [zCj,zAi (by simp;omega),zAw (by omega),bnd_some,List.drop_of_length_le (by omega)]
  simp
 | j+1,n,k+1,t,hn,hk,ht=>by
  have hlt:n<c.Hooks.length:=by omega
  have hc':=hc
  simp only [clsB,Bool.and_eq_true,decide_eq_true_eq] at hc'
  have hh:=List.all_eq_true.1 hc'.2.2.2.1 c.Hooks[n] (List.getElem_mem hlt)
  simp only [hokB,Bool.and_eq_true,decide_eq_true_eq] at hh
  have hd:=ho _ (List.getElem_mem hlt)
  rw [zCj,zAo (by simpa using hlt),zCm hlt,bnd_some,List.drop_eq_getElem_cons hlt,List.flatMap_cons]
  generalize c.Hooks[n]=h at hh hd ⊢
  have hkl:=zIg h.Kind.toNat
  have hol:=zRo h.Do
  have hlen:(zFJ h).length<=70000:=by
   obtain ⟨k,d⟩:=h
   rw [zJl]
   simp only at hkl hol hh
   omega
  have ih:=zSW (rc:=rc) hf hi hc ho j (n+1) k (t++zFJ h) (by omega) (by omega) (by rw [List.length_append];omega)
  rw [zNM hh.1 hh.2.1,bnd_some,zCM (by simp only [List.length_cons,List.length_nil];omega),bnd_some,zCM (by simp only [List.length_append,List.length_cons,List.length_nil];omega),bnd_some,bnd_some,zPU hf hd (by omega),bnd_some,zCM (by simp only [List.length_append,List.length_cons,List.length_nil];omega),bnd_some,zCM (by simp only [List.length_append,List.length_cons,List.length_nil];omega),bnd_some,zAw (by omega),bnd_some]
  have e:(([111,110,32]:Bs)++kindsL.getD h.Kind.toNat []++[10])++h.Do.flatMap opL=zFJ h:=by
   unfold zFJ opsT
   rw [if_pos (.inr rfl)]
   rfl
  rw [e,ih,List.append_assoc]
theorem zSV {fu:Nat} {i:Nat} {c:Class} {rc:Bs×Int->Option Bs} (hf:2000<fu) (hi:i<=100) (hc:clsB c=true) (ho:zKz c):∀(j n k:Nat) (t:Bs),n+j=c.Watch.length->j<k->t.length+j*70000<=500000000 ->
  zCi fu (i:Int) c rc k (t,(n:Int))=rc (t++((c.Watch.drop n).flatMap zE8++(opsT ([112,101,101,107]:Bs) c.Peek++(opsT ([109,97,107,101]:Bs) c.Make++c.Hooks.flatMap zFJ))),((i+1:Nat):Int))
 | 0,n,k+1,t,hn,hk,ht=>by
  have hc':=hc
  simp only [clsB,Bool.and_eq_true,decide_eq_true_eq] at hc'
  obtain ⟨c1,c2,c3,c4,c5,c6⟩:=hc'
  have h1:=zFu ([112,101,101,107]:Bs) c.Peek
  have h2:=zFu ([109,97,107,101]:Bs) c.Make
  simp only [List.length_cons,List.length_nil] at h1 h2
  rw [zCi,zAi (by simp;omega),List.drop_of_length_le (by omega)]
  have e1:=zKj (fu:=fu) (h:=[112,101,101,107]) (l:=c.Peek) (t:=t) (J:=zDT fu (i:Int) c rc) hf ho.1 (by omega) (by simp) (by simp) (by omega)
  refine e1.trans ?_
  unfold zDT
  have l1:(t++opsT ([112,101,101,107]:Bs) c.Peek).length=t.length+(opsT ([112,101,101,107]:Bs) c.Peek).length:=List.length_append
  have l2:((t++opsT ([112,101,101,107]:Bs) c.Peek)++opsT ([109,97,107,101]:Bs) c.Make).length=(t++opsT ([112,101,101,107]:Bs) c.Peek).length+(opsT ([109,97,107,101]:Bs) c.Make).length:=List.length_append
  have e2:=zKj (fu:=fu) (h:=[109,97,107,101]) (l:=c.Make) (t:=t++opsT [112,101,101,107] c.Peek) (J:=zDU fu (i:Int) c rc) hf ho.2.1 (by omega) (by simp) (by simp) (by omega)
  refine e2.trans ?_
  unfold zDU
  have e3:=zSW (rc:=rc) hf hi hc ho.2.2 c.Hooks.length 0 fu ((t++opsT [112,101,101,107] c.Peek)++opsT [109,97,107,101] c.Make) (by omega) (by omega) (by omega)
  rw [show ((0:Nat):Int)=0 from rfl,List.drop_zero] at e3
  rw [e3]
  simp
 | j+1,n,k+1,t,hn,hk,ht=>by
  have hlt:n<c.Watch.length:=by omega
  have hc':=hc
  simp only [clsB,Bool.and_eq_true,decide_eq_true_eq] at hc'
  have hw:=List.all_eq_true.1 hc'.2.1 c.Watch[n] (List.getElem_mem hlt)
  unfold fitB at hw
  simp only [Bool.and_eq_true] at hw
  have hwl:=(zHp hw.1).2
  rw [zCi,zAo (by simpa using hlt),zCm hlt,bnd_some,List.drop_eq_getElem_cons hlt,List.flatMap_cons]
  generalize c.Watch[n]=w at hwl ⊢
  have hlen:(zE8 w).length=w.length+7:=by unfold zE8;simp only [List.length_append,List.length_cons,List.length_nil];omega
  have ih:=zSV (rc:=rc) hf hi hc ho j (n+1) k (t++zE8 w) (by omega) (by omega) (by rw [List.length_append];omega)
  rw [zCM (by simp only [List.length_cons,List.length_nil];omega),bnd_some,zCM (by simp only [List.length_append,List.length_cons,List.length_nil];omega),bnd_some,zCM (by simp only [List.length_append,List.length_cons,List.length_nil];omega),bnd_some,zAw (by omega),bnd_some]
  have e:([119,97,116,99,104,32]:Bs)++w++[10]=zE8 w:=rfl
  rw [e,ih,List.append_assoc,List.append_assoc]
theorem zSU {fu:Nat} {s:Script} (hf:2000<fu) (hs:s.Classes.length<=12) (hc:∀c∈s.Classes,clsB c=true/\zKz c) (hm:s.Main.length<=300) (ho:∀o∈s.Main,okOp o=true):∀(j i k:Nat) (t:Bs),i+j=s.Classes.length->j<k->t.length+j*1000000<=300000000 ->
  zAg fu s k (t,(i:Int))=some (t++((s.Classes.drop i).flatMap clsT++opsT ([109,97,105,110]:Bs) s.Main))
 | 0,i,k+1,t,hi,hk,ht=>by
  rw [zAg,zAi (by simp;omega),List.drop_of_length_le (by omega)]
  exact zKj (fu:=fu) (h:=[109,97,105,110]) (l:=s.Main) (t:=t) (J:=fun x=>some x) hf ho (by omega) (by simp) (by simp) (by omega)
 | j+1,i,k+1,t,hi,hk,ht=>by
  have hlt:i<s.Classes.length:=by omega
  obtain ⟨hci,hco⟩:=hc _ (List.getElem_mem hlt)
  rw [zAg,zAo (by simpa using hlt),zCm hlt,bnd_some,List.drop_eq_getElem_cons hlt,List.flatMap_cons]
  generalize s.Classes[i]=c at hci hco ⊢
  have hcl:=zOh hci
  have hci':=hci
  simp only [clsB,Bool.and_eq_true,decide_eq_true_eq] at hci'
  have e:∀h:Bs,h++[10]=clsH c->zDS fu (i:Int) c (zAg fu s k) (t++h)=some (t++(clsT c++((s.Classes.drop (i+1)).flatMap clsT)++opsT ([109,97,105,110]:Bs) s.Main)):=fun h hh=>by
   have h4:(clsH c).length<=20:=by unfold clsH;split<;>simp
   have h5:h.length+1=(clsH c).length:=by rw [<- hh];simp
   unfold zDS
   have:=zSV (fu:=fu) (i:=i) (rc:=zAg fu s k) hf (by omega) hci hco c.Watch.length 0 fu (t++clsH c) (by omega) (by omega) (by simp only [List.length_append];omega)
   rw [show ((0:Nat):Int)=0 from rfl] at this
   rw [zCM (by simp only [List.length_append,List.length_cons,List.length_nil];omega),bnd_some,List.append_assoc,hh,this,List.drop_zero,List.append_assoc]
   show zAg fu s k (t++clsT c,((i+1:Nat):Int))=_
   rw [zSU hf hs hc hm ho j (i+1) k _ (by omega) (by omega) (by simp only [List.length_append];omega)]
   simp
  rw [zCM (by simp only [List.length_cons,List.length_nil];omega),bnd_some]
  unfold clsH at e
  cases hF:c.Form with
  | true =>
   rw [hF] at e
   rw [cnd_true,zCM (by simp only [List.length_append,List.length_cons,List.length_nil];omega),bnd_some,List.append_assoc]
   exact e _ rfl
  | false =>
   rw [hF] at e
   rw [cnd_false]
   exact e _ rfl
theorem zT7 {fu:Nat} {s:Script} (hf:2000<fu) (h:zEa s=true):zE9 fu s=some (putR s):=by
 obtain ⟨h1,h2,h3⟩:=zEh h
 obtain ⟨h4,h5⟩:=zJ9 h
 have:=zSU hf h1 h4 h3 h5 s.Classes.length 0 fu [] (by omega) (by omega) (by simp;omega)
 rw [show ((0:Nat):Int)=0 from rfl,List.nil_append,List.drop_zero] at this
 exact this
end Go.Proofs.YtoboimmgglnjfaaGreatDoor
/- ScriptRight: the document's reader. -/
namespace Go.Proofs.YtoboimmgglnjfaaGreatDoor
open Go Go.Pw
set_option linter.unusedVariables false
set_option maxRecDepth 4000
theorem zT8 {fu:Nat} {s:Bs} (hs:s.length<=1000000) (hf:s.length+3000<fu):∃e,zCh fu s=some (opR s,e):=by
 obtain ⟨h1,h2⟩:=zV9 (fu:=fu) hs hf
 unfold opR
 rcases zLM (fu:=3000000) hs (by omega) with ⟨o,g1,g2,g3⟩ | ⟨g1,g2⟩
 ·rw [g3];exact ⟨true,h1 o g1 g2⟩
 ·rw [g2];exact ⟨false,h2 g1⟩
def tx (p:RS):Instarref22_Text:=⟨⟨p.1.cls,p.2⟩,(p.1.k:Int),false⟩
theorem zO3 {α : Type} (l:List α) (a b : α):(l++[a]).set l.length b=l++[b]:=by
 induction l with
 | nil=>rfl
 | cons c l ih=>rw [List.cons_append,List.length_cons,List.set_cons_succ,ih,List.cons_append]
theorem zNX {fu:Nat} {pre:List Class} {c d:Class} {m:List Op} {k:Int} {b:Bool} (hl:pre.length<=1000):zA7 fu (⟨⟨pre++[c],m⟩,k,b⟩:Instarref22_Text) d=some ⟨⟨pre++[d],m⟩,k,b⟩:=by
 unfold zA7
 dsimp only
 have hlen:(pre++[c]).length=pre.length+1:=by simp
 have hi:idx (pre++[c]) ((pre.length:Nat):Int)=some c:=by
  rw [zCm (by omega)]
  simp
 rw [List.nil_append,zBv (by simp only [List.length_nil];omega),bnd_some,hlen,zIK hl,bnd_some,show ((((pre.length+1:Nat):Int)) - 1)=((pre.length:Nat):Int) by omega,hi,bnd_some,Int.toNat_natCast,zO3]
theorem zFa {x:Rs} (ha:x.act=true):x.cls=x.pre++[(⟨x.form,x.wat,x.pk,x.mak,x.hooks⟩:Class)]:=by
 unfold Rs.cls
 rw [ha,if_pos rfl]
def onS (n:Nat):Bs:=([111,110]:Bs)++32::kindsL.getD n []
theorem zKX (n:Nat):cutS (onS n)=([111,110],kindsL.getD n [],true):=zGv (w:=[111,110]) _ (by decide)
theorem zL0 {n:Nat} (h1:1<=n) (h2:n<=8):zGB (kindsL.getD n [])=(n:Int):=by
 have:=zO1 (k:=(n:Int)) (by omega) (by omega)
 rwa [Int.toNat_natCast] at this
theorem zVf {a b:Nat} (a1:1<=a) (a8:a<=8) (b1:1<=b) (b8:b<=8) (h:onS a=onS b):a=b:=by
 have h1:=congrArg cutS h
 rw [zKX,zKX] at h1
 have h2:kindsL.getD a []=kindsL.getD b []:=congrArg (fun x:Bs×Bs×Bool=>x.2.1) h1
 have h3:=zL0 a1 a8
 rw [h2,zL0 b1 b8] at h3
 omega
def zTN (x:Rs) (n:Nat):Rs:={ x with k:=3,most:=60,hpre:=x.hooks,hact:=true,kind:=(n:Int),dos:=[] }
theorem zMD {fu:Nat} {x:Rs} {m:List Op} {s:Bs} {n k:Nat} (hx:x.Ok) (ha:x.act=true) (h1:1<=n) (h8:n<=8) :
  zA0 fu (tx (x,m)) s ⟨x.form,x.wat,x.pk,x.mak,x.hooks⟩ (k+1) (n:Int)=if s=onS n/\x.hooks.length<12 then some (tx (zTN x n,m),true) else zA0 fu (tx (x,m)) s ⟨x.form,x.wat,x.pk,x.mak,x.hooks⟩ k ((n+1:Nat):Int):=by
 have hk8:=zIg n
 have hh12:=hx.hooks12
 have hw:zCk fu (n:Int)=some (kindsL.getD n []):=zNM (k:=(n:Int)) (by omega) (by omega)
 rw [zA0,zAo (by simp;omega),hw,bnd_some,zCM (by simp only [List.length_cons,List.length_nil];omega),bnd_some,zBC]
 rw [show ([111,110,32]:Bs)++kindsL.getD n []=onS n from rfl]
 by_cases he:s=onS n
 ·rw [if_pos he]
  by_cases h12:x.hooks.length<12
  ·have hcl:=hx.cls12
   rw [zFb,ha] at hcl
   simp only [if_true] at hcl
   rw [zAo (by simp;omega),if_pos ⟨he,h12⟩,zBv (by simp only [List.length_nil];omega),bnd_some,zBv (by simp only [List.length_nil,List.length_append,List.length_cons];omega),bnd_some]
   unfold tx
   dsimp only
   rw [zFa ha,zNX (by omega),bnd_some]
   have e:(zTN x n).cls=x.pre++[(⟨x.form,x.wat,x.pk,x.mak,x.hooks++[(⟨(n:Int),[]⟩:Hook)]⟩:Class)]:=zFa (x:=zTN x n) ha
   rw [e]
   rfl
  ·rw [zAi (by simp;omega),if_neg (fun h=>h12 h.2),zAw (by omega),bnd_some]
 ·rw [if_neg he,if_neg (fun h=>he h.1),zAw (by omega),bnd_some]
theorem zLO {fu:Nat} {x:Rs} {m:List Op} {s:Bs} (hx:x.Ok) (ha:x.act=true) (h:∀n,1<=n->n<=8->¬(s=onS n/\x.hooks.length<12)):∀(j n k:Nat),n+j=9->1<=n->j<k ->
  zA0 fu (tx (x,m)) s ⟨x.form,x.wat,x.pk,x.mak,x.hooks⟩ k (n:Int)=some (tx (x,m),false)
 | 0,n,k+1,hn,h1,hk=>by rw [zA0,zAi (by simp;omega)]
 | j+1,n,k+1,hn,h1,hk=>by rw [zMD hx ha h1 (by omega),if_neg (h n h1 (by omega)),zLO hx ha h j (n+1) k (by omega) (by omega) (by omega)]
theorem zNE {fu:Nat} {x:Rs} {m:List Op} {s:Bs} {q:Nat} (hx:x.Ok) (ha:x.act=true) (hs:s=onS q) (q1:1<=q) (q8:q<=8) (h12:x.hooks.length<12):∀(j n k:Nat),n+j=q->1<=n->j<k ->
  zA0 fu (tx (x,m)) s ⟨x.form,x.wat,x.pk,x.mak,x.hooks⟩ k (n:Int)=some (tx (zTN x q,m),true)
 | 0,n,k+1,hn,h1,hk=>by
  obtain rfl:n=q:=by omega
  rw [zMD hx ha h1 (by omega),if_pos ⟨hs,h12⟩]
 | j+1,n,k+1,hn,h1,hk=>by
  rw [zMD hx ha h1 (by omega),if_neg (fun h=>?_),zNE hx ha hs q1 q8 h12 j (n+1) k (by omega) (by omega) (by omega)]
  have:=zVf h1 (by omega) q1 q8 (h.1.symm.trans hs)
  omega
def outX (x:Rs) (m:List Op):Option Rs->Instarref22_Text×Bool
 | some y=>(tx (y,m),true)
 | none=>(tx (x,m),false)
def onR (x:Rs) (s:Bs):Option Rs :=
 if (cutS s).1=[111,110] then
  (if (cutS s).2.2=true then (if zGB (cutS s).2.1<1 then none else if x.hooks.length=12 then none else some { x with k:=3,most:=60,hpre:=x.hooks,hact:=true,kind:=zGB (cutS s).2.1,dos:=[] }) else none)
 else none
theorem zT0 {fu:Nat} {x:Rs} {m:List Op} {s:Bs} (hx:x.Ok) (ha:x.act=true) (hf:20<fu):zBd fu (tx (x,m)) s ⟨x.form,x.wat,x.pk,x.mak,x.hooks⟩ ()=some (outX x m (onR x s)):=by
 unfold zBd onR
 have h12:=hx.hooks12
 obtain ⟨k8,kd⟩:=zO2 (cutS s).2.1
 have none_:(∀n,1<=n->n<=8->¬(s=onS n/\x.hooks.length<12))->zA0 fu (tx (x,m)) s ⟨x.form,x.wat,x.pk,x.mak,x.hooks⟩ fu 1=some (outX x m none):=fun h=>zLO hx ha h 8 1 fu (by omega) (by omega) (by omega)
 by_cases h1:(cutS s).1=[111,110]
 ·rw [if_pos h1]
  by_cases h2:(cutS s).2.2=true
  ·rw [if_pos h2]
   by_cases h3:zGB (cutS s).2.1<1
   ·rw [if_pos h3]
    refine none_ fun n n1 n8 h=>?_
    rw [h.1,zKX] at h3
    simp only [zL0 n1 n8] at h3
    omega
   ·rw [if_neg h3]
    by_cases h4:x.hooks.length=12
    ·rw [if_pos h4]
     exact none_ fun n _ _ h=>by omega
    ·rw [if_neg h4]
     obtain ⟨q,hq⟩:∃q:Nat,zGB (cutS s).2.1=(q:Int):=⟨(zGB (cutS s).2.1).toNat,by omega⟩
     have hd:=kd (by omega)
     have hs:=zI0 h2
     rw [h1,<- hd,hq,Int.toNat_natCast] at hs
     rw [hq] at h3 k8 ⊢
     exact zNE hx ha hs (by omega) (by omega) (by omega) (q - 1) 1 fu (by omega) (by omega) (by omega)
  ·rw [if_neg h2]
   refine none_ fun n _ _ h=>h2 ?_
   rw [h.1,zKX]
 ·rw [if_neg h1]
  refine none_ fun n _ _ h=>h1 ?_
  rw [h.1,zKX]
theorem cut_w {s:Bs}:((cutS s).1=[119,97,116,99,104]/\(cutS s).2.2=true)↔(5<s.length/\s.take 6=[119,97,116,99,104,32]):=by
 constructor
 ·rintro ⟨h1,h2⟩
  have:=zI0 h2
  rw [h1] at this
  rw [this]
  exact ⟨by simp only [List.length_append,List.length_cons,List.length_nil];omega,rfl⟩
 ·rintro ⟨h1,h2⟩
  have h3:s=([119,97,116,99,104]:Bs)++32::s.drop 6:=by
   have:=List.take_append_drop 6 s
   rw [h2] at this
   exact this.symm
  have h4:cutS (([119,97,116,99,104]:Bs)++32::s.drop 6)=([119,97,116,99,104],s.drop 6,true):=zGv _ (by decide)
  rw [<- h3] at h4
  rw [h4]
  exact ⟨rfl,rfl⟩
theorem zOk {s:Bs} (h1:(cutS s).1=[119,97,116,99,104]) (h2:(cutS s).2.2=true):s.drop 6=(cutS s).2.1:=by
 have:=zI0 h2
 rw [h1] at this
 have h3:=congrArg (List.drop 6) this
 exact h3
theorem zPS {fu:Nat} {x:Rs} {m:List Op} {s:Bs} (hx:x.Ok) (hf:2000<fu) (hs:s.length<fu) (hs2:s.length<=1000000) (h1:s≠[109,97,105,110]) (h2:¬(s=[99,108,97,115,115]\/s=[99,108,97,115,115,32,102,111,114,109])\/x.cls.length=12) :
  zB4 fu (tx (x,m)) s ()=some (outX x m (zFI x s)):=by
 have hcl12:=hx.cls12
 have hcl:=zFb x
 unfold zB4
 have eC:(tx (x,m)).S.Classes=x.cls:=rfl
 have eM:(tx (x,m)).S.Main=m:=rfl
 rw [eC,eM,zBC]
 cases ha:x.act with
 | false =>
  have h0:x.cls.length=0:=by rw [hcl,ha,hx.pre0 ha];rfl
  rw [if_pos (by omega)]
  have hn:zFI x s=none:=by
   unfold zFI
   rcases h2 with h2 | h2
   ·rw [if_neg h1,if_neg h2,if_pos ha]
   ·omega
  rw [hn]
  rfl
 | true =>
  rw [ha] at hcl
  simp only [if_true] at hcl
  rw [if_neg (by omega),hcl,zIK (by omega),bnd_some]
  have hi:idx x.cls (((x.pre.length+1:Nat):Int) - 1)=some ⟨x.form,x.wat,x.pk,x.mak,x.hooks⟩:=by
   rw [show (((x.pre.length+1:Nat):Int) - 1)=((x.pre.length:Nat):Int) by omega,zFa ha,zCm (by simp)]
   simp
  rw [hi,bnd_some,zBC]
  have hR:zFI x s=if (s=[99,108,97,115,115]\/s=[99,108,97,115,115,32,102,111,114,109]) then none else if s=[112,101,101,107] then some { x with k:=1,most:=60 }
    else if s=[109,97,107,101] then some { x with k:=2,most:=60 }
    else if (cutS s).1=[119,97,116,99,104] then
     (if (cutS s).2.2=true then (if fitB (cutS s).2.1=true then (if x.wat.length=12 then none else some { x with wat:=x.wat++[(cutS s).2.1] }) else none) else none)
    else onR x s:=by
   unfold zFI onR
   rw [if_neg h1,if_neg (show ¬(x.act=false) by rw [ha];simp)]
   by_cases hc:s=[99,108,97,115,115]\/s=[99,108,97,115,115,32,102,111,114,109]
   ·rw [if_pos hc,if_pos hc,if_pos (h2.resolve_left (fun h=>h hc))]
   ·rw [if_neg hc,if_neg hc]
  have hj2:=zT0 (fu:=fu) (m:=m) (s:=s) hx ha (by omega)
  by_cases h4:s=[112,101,101,107]
  ·rw [if_pos h4,hR,if_neg (by rw [h4];simp),if_pos h4,zAo (by rw [h4];rfl)]
   rfl
  rw [if_neg h4,zBC]
  by_cases h5:s=[109,97,107,101]
  ·rw [if_pos h5,hR,if_neg (by rw [h5];simp),if_neg h4,if_pos h5,zAi (by rw [h5];rfl)]
   rfl
  rw [if_neg h5,hR,if_neg h4,if_neg h5,hj2]
  -- "class" with twelve classes
  by_cases hc:s=[99,108,97,115,115]\/s=[99,108,97,115,115,32,102,111,114,109]
  ·rw [if_pos hc]
   have hon:onR x s=none:=by
    unfold onR
    rw [if_neg (by rcases hc with rfl | rfl<;>decide)]
   rw [hon]
   rcases hc with rfl | rfl
   ·rfl
   ·rfl
  rw [if_neg hc]
  by_cases hlong:s.length>6
  ·have hp:=zCc (s:=s) (i:=0) (j:=6) (Nat.zero_le _) (by omega)
   rw [show ((0:Nat):Int)=0 from rfl,show ((6:Nat):Int)=6 from rfl,List.drop_zero,Nat.sub_zero] at hp
   have hp6:=zCc (s:=s) (i:=6) (j:=s.length) (by omega) (Nat.le_refl _)
   rw [show ((6:Nat):Int)=6 from rfl,List.take_of_length_le (by rw [List.length_drop];omega)] at hp6
   rw [zAo (by simp;omega),hp,bnd_some,hp6]
   simp only [bnd_some]
   by_cases hw:(cutS s).1=[119,97,116,99,104]/\(cutS s).2.2=true
   ·have hd:=zOk hw.1 hw.2
    have h6:=(cut_w.1 hw).2
    have hon:onR x s=none:=by
     unfold onR
     rw [if_neg (by rw [hw.1];decide)]
    have hdl:(cutS s).2.1.length<=s.length:=by rw [<- hd,List.length_drop];omega
    rw [zAo (by rw [h6];rfl),if_pos hw.1,if_pos hw.2,hd,hon,zNF (by omega),zNG (by omega) (by omega)]
    simp only [bnd_some]
    have hwl:=hx.wat12
    by_cases h12:x.wat.length=12
    ·rw [zAi (by simp;omega)]
     simp only [h12,if_true]
     split<;>rfl
    ·rw [zAo (by simp;omega),if_neg h12]
     unfold fitB
     cases zGO (cutS s).2.1 with
     | false=>rfl
     | true =>
      cases hlow:(cutS s).2.1.map zHB==(cutS s).2.1 with
      | false=>rw [cnd_true,cnd_false];rfl
      | true =>
       rw [cnd_true,cnd_true,zBv (by simp only [List.length_nil];omega),bnd_some,zBv (by simp only [List.length_nil,List.length_append,List.length_cons];omega),bnd_some]
       have e:tx (x,m)=⟨⟨x.pre++[(⟨x.form,x.wat,x.pk,x.mak,x.hooks⟩:Class)],m⟩,(x.k:Int),false⟩:=by
        unfold tx
        dsimp only
        rw [zFa ha]
       rw [e,zNX (by omega),bnd_some]
       have e2:Rs.cls { x with wat:=x.wat++[(cutS s).2.1] }=x.pre++[(⟨x.form,x.wat++[(cutS s).2.1],x.pk,x.mak,x.hooks⟩:Class)]:=zFa (x:={ x with wat:=x.wat++[(cutS s).2.1] }) ha
       show _=some (tx ({ x with wat:=x.wat++[(cutS s).2.1] },m),true)
       unfold tx
       dsimp only
       rw [e2]
       rfl
   ·have h6:s.take 6≠[119,97,116,99,104,32]:=fun h=>hw (cut_w.2 ⟨by omega,h⟩)
    rw [zAi (by simpa using h6)]
    by_cases hw1:(cutS s).1=[119,97,116,99,104]
    ·rw [if_pos hw1,if_neg (fun h=>hw ⟨hw1,h⟩)]
     unfold onR
     rw [if_neg (by rw [hw1];decide)]
    ·rw [if_neg hw1]
  ·rw [zAi (by simp;omega)]
   by_cases hw1:(cutS s).1=[119,97,116,99,104]
   ·have hon:onR x s=none:=by
     unfold onR
     rw [if_neg (by rw [hw1];decide)]
    rw [hon,if_pos hw1]
    by_cases hw2:(cutS s).2.2=true
    ·have hd:=zOk hw1 hw2
     rw [List.drop_of_length_le (by omega)] at hd
     rw [if_pos hw2,<- hd]
     rfl
    ·rw [if_neg hw2]
   ·rw [if_neg hw1]
theorem zV7 {fu:Nat} {x:Rs} {m:List Op} {s:Bs} (hx:x.Ok) (hf:2000<fu) (hs:s.length<fu) (hs2:s.length<=1000000):zDx fu (tx (x,m)) s=some (outX x m (zFI x s)):=by
 have hcl12:=hx.cls12
 unfold zDx
 have eC:(tx (x,m)).S.Classes=x.cls:=rfl
 have eM:(tx (x,m)).S.Main=m:=rfl
 rw [eC,eM,zBC]
 by_cases h1:s=[109,97,105,110]
 ·rw [if_pos h1]
  unfold zFI
  rw [if_pos h1]
  rfl
 rw [if_neg h1,zBC]
 have key:(s=[99,108,97,115,115]\/s=[99,108,97,115,115,32,102,111,114,109])->(cutS s).2.2=(s==[99,108,97,115,115,32,102,111,114,109])->x.cls.length<12->some ((⟨⟨([]++x.cls)++[(⟨s==[99,108,97,115,115,32,102,111,114,109],[],[],[],[]⟩:Class)],m⟩,2,(tx (x,m)).Bad⟩:Instarref22_Text),true)=some (outX x m (zFI x s)):=fun hc hcut hl=>by
  unfold zFI
  rw [if_neg h1,if_pos hc,if_neg (by omega),hcut]
  rfl
 have both:(s=[99,108,97,115,115]\/s=[99,108,97,115,115,32,102,111,114,109])->cnd (decide (((x.cls.length:Nat):Int)<12)) (bnd (zBr 104 (([]:List Class).length+x.cls.length)) fun _=>bnd (zBr 104 ((([]:List Class)++x.cls).length+([(⟨(s==([99,108,97,115,115,32,102,111,114,109]:Bs)),[],[],[],[]⟩:Class)]:List Class).length)) fun _=>some ((⟨(⟨((([]:List Class)++x.cls)++[(⟨(s==([99,108,97,115,115,32,102,111,114,109]:Bs)),[],[],[],[]⟩:Class)]),m⟩:Script),2,(tx (x,m)).Bad⟩:Instarref22_Text),true)) (zB4 fu (tx (x,m)) s ())=some (outX x m (zFI x s)):=fun hc=>by
  by_cases hl:x.cls.length<12
  ·rw [zAo (by simp;omega),zBv (by simp only [List.length_nil];omega),bnd_some,zBv (by simp only [List.length_nil,List.length_append,List.length_cons];omega),bnd_some]
   exact key hc (by rcases hc with rfl | rfl<;>rfl) hl
  ·rw [zAi (by simp;omega)]
   exact zPS hx hf hs hs2 h1 (.inr (by omega))
 by_cases h2:s=[99,108,97,115,115]
 ·rw [if_pos h2]
  exact both (.inl h2)
 rw [if_neg h2,zBC]
 by_cases h3:s=[99,108,97,115,115,32,102,111,114,109]
 ·rw [if_pos h3]
  exact both (.inr h3)
 rw [if_neg h3]
 exact zPS hx hf hs hs2 h1 (.inl fun h=>h.elim h2 h3)
theorem addk_1 {x:Rs} {m l:List Op} (h:x.k=1):addk (x,m) l=({ x with pk:=x.pk++l },m):=by
 obtain ⟨k,most,pre,act,form,hpre,hact,kind,wat,pk,mak,dos⟩:=x
 simp only at h
 subst h
 rfl
theorem addk_2 {x:Rs} {m l:List Op} (h:x.k=2):addk (x,m) l=({ x with mak:=x.mak++l },m):=by
 obtain ⟨k,most,pre,act,form,hpre,hact,kind,wat,pk,mak,dos⟩:=x
 simp only at h
 subst h
 rfl
theorem addk_3 {x:Rs} {m l:List Op} (h:x.k=3):addk (x,m) l=({ x with dos:=x.dos++l },m):=by
 obtain ⟨k,most,pre,act,form,hpre,hact,kind,wat,pk,mak,dos⟩:=x
 simp only at h
 subst h
 rfl
theorem radd_m {fu:Nat} {x:Rs} {m:List Op} {o:Op} (hx:x.Ok) (hm:m.length<=300):∃t,zDg fu (tx (x,m)) o=some t/\if (cur (x,m)).length=lim (x,m) then t.Bad=true else t=tx (addk (x,m) [o]):=by
 obtain ⟨x1,x2,x3,x4,x5,x6,x7,x8,x9,xa,xb,xc⟩:=hx
 have hcl:=zFb x
 have hhl:=zHP x
 have eC:(tx (x,m)).S.Classes=x.cls:=rfl
 have eM:(tx (x,m)).S.Main=m:=rfl
 have eT:(tx (x,m)).To=(x.k:Int):=rfl
 have eB:(tx (x,m)).Bad=false:=rfl
 unfold zDg
 rw [eC,eM,eT,eB]
 simp only [cnd_false]
 by_cases k0:x.k=0
 ·rw [k0,zAo (by rfl),zBv (by simp only [List.length_nil];omega),bnd_some,zBv (by simp only [List.length_nil,List.length_append,List.length_cons];omega),bnd_some]
  refine ⟨_,rfl,?_⟩
  have e1:cur (x,m)=m:=by unfold cur;rw [show (x,m).1.k=0 from k0];rfl
  have e2:lim (x,m)=300:=by unfold lim;rw [show (x,m).1.k=0 from k0];rfl
  have e3:addk (x,m) [o]=(x,m++[o]):=by unfold addk;rw [show (x,m).1.k=0 from k0];rfl
  rw [e1,e2,e3]
  by_cases h:m.length=300
  ·rw [if_pos h]
   show decide (((m.length:Nat):Int)>=300)=true
   rw [decide_eq_true (by omega)]
  ·rw [if_neg h,decide_eq_false (by omega)]
   unfold tx
   dsimp only
   rw [k0]
   rfl
 ·have ha:x.act=true:=by
   cases h:x.act with
   | true=>rfl
   | false=>exact absurd (x3 h) k0
  rw [ha] at hcl
  simp only [if_true] at hcl
  have hi:idx x.cls (((x.pre.length+1:Nat):Int) - 1)=some ⟨x.form,x.wat,x.pk,x.mak,x.hooks⟩:=by
   rw [show (((x.pre.length+1:Nat):Int) - 1)=((x.pre.length:Nat):Int) by omega,zFa ha,zCm (by simp)]
   simp
  rw [zAi (by simpa using k0),hcl,zIK (by omega),bnd_some,hi,bnd_some]
  by_cases k1:x.k=1
  ·rw [k1,zAo (by rfl),zBv (by simp only [List.length_nil];omega),bnd_some,zBv (by simp only [List.length_nil,List.length_append,List.length_cons];omega),bnd_some,zFa ha,zNX (by omega),bnd_some]
   refine ⟨_,rfl,?_⟩
   have e1:cur (x,m)=x.pk:=by unfold cur;rw [show (x,m).1.k=1 from k1];rfl
   have e2:lim (x,m)=60:=by unfold lim;rw [show (x,m).1.k=1 from k1];rfl
   have e3:addk (x,m) [o]=({ x with pk:=x.pk++[o] },m):=addk_1 k1
   rw [e1,e2,e3]
   by_cases h:x.pk.length=60
   ·rw [if_pos h]
    show decide (((x.pk.length:Nat):Int)>=60)=true
    rw [decide_eq_true (by omega)]
   ·rw [if_neg h]
    have e4:Rs.cls { x with pk:=x.pk++[o] }=x.pre++[(⟨x.form,x.wat,x.pk++[o],x.mak,x.hooks⟩:Class)]:=zFa (x:={ x with pk:=x.pk++[o] }) ha
    unfold tx
    dsimp only
    rw [e4,decide_eq_false (by omega),k1]
    rfl
  ·rw [zAi (by simp;omega)]
   by_cases k2:x.k=2
   ·rw [k2,zAo (by rfl),zBv (by simp only [List.length_nil];omega),bnd_some,zBv (by simp only [List.length_nil,List.length_append,List.length_cons];omega),bnd_some,zFa ha,zNX (by omega),bnd_some]
    refine ⟨_,rfl,?_⟩
    have e1:cur (x,m)=x.mak:=by unfold cur;rw [show (x,m).1.k=2 from k2];rfl
    have e2:lim (x,m)=60:=by unfold lim;rw [show (x,m).1.k=2 from k2];rfl
    have e3:addk (x,m) [o]=({ x with mak:=x.mak++[o] },m):=addk_2 k2
    rw [e1,e2,e3]
    by_cases h:x.mak.length=60
    ·rw [if_pos h]
     show decide (((x.mak.length:Nat):Int)>=60)=true
     rw [decide_eq_true (by omega)]
    ·rw [if_neg h]
     have e4:Rs.cls { x with mak:=x.mak++[o] }=x.pre++[(⟨x.form,x.wat,x.pk,x.mak++[o],x.hooks⟩:Class)]:=zFa (x:={ x with mak:=x.mak++[o] }) ha
     unfold tx
     dsimp only
     rw [e4,decide_eq_false (by omega),k2]
     rfl
   ·have k3:x.k=3:=by omega
    have hh:=x4 k3
    rw [hh] at hhl
    simp only [if_true] at hhl
    have hhe:x.hooks=x.hpre++[(⟨x.kind,x.dos⟩:Hook)]:=by unfold Rs.hooks;rw [hh,if_pos rfl]
    have hi2:idx x.hooks (((x.hpre.length+1:Nat):Int) - 1)=some ⟨x.kind,x.dos⟩:=by
     rw [show (((x.hpre.length+1:Nat):Int) - 1)=((x.hpre.length:Nat):Int) by omega,hhe,zCm (by simp)]
     simp
    rw [k3,zAi (by rfl),List.nil_append,zBv (by simp only [List.length_nil];omega),bnd_some,hhl,zIK (by omega),bnd_some,hi2,bnd_some,bnd_some,zBv (by simp only [List.length_nil];omega),bnd_some,zBv (by simp only [List.length_nil,List.length_append,List.length_cons];omega),bnd_some,bnd_some,zFa ha,zNX (by omega),bnd_some]
    refine ⟨_,rfl,?_⟩
    have e1:cur (x,m)=x.dos:=by unfold cur;rw [show (x,m).1.k=3 from k3];rfl
    have e2:lim (x,m)=60:=by unfold lim;rw [show (x,m).1.k=3 from k3];rfl
    have e3:addk (x,m) [o]=({ x with dos:=x.dos++[o] },m):=addk_3 k3
    rw [e1,e2,e3]
    by_cases h:x.dos.length=60
    ·rw [if_pos h]
     show decide (((x.dos.length:Nat):Int)>=60)=true
     rw [decide_eq_true (by omega)]
    ·rw [if_neg h]
     have e5:Rs.hooks { x with dos:=x.dos++[o] }=x.hpre++[(⟨x.kind,x.dos++[o]⟩:Hook)]:=by unfold Rs.hooks;rw [show (Rs.hact { x with dos:=x.dos++[o] })=true from hh,if_pos rfl]
     have e4:Rs.cls { x with dos:=x.dos++[o] }=x.pre++[(⟨x.form,x.wat,x.pk,x.mak,x.hpre++[(⟨x.kind,x.dos++[o]⟩:Hook)]⟩:Class)]:=by rw [zFa (x:={ x with dos:=x.dos++[o] }) ha,e5]
     have e6:x.hooks.set ((((x.hpre.length+1:Nat):Int) - 1)).toNat (⟨x.kind,x.dos++[o]⟩:Hook)=x.hpre++[(⟨x.kind,x.dos++[o]⟩:Hook)]:=by
      rw [show ((((x.hpre.length+1:Nat):Int) - 1)).toNat=x.hpre.length by omega,hhe,zO3]
     unfold tx
     dsimp only
     rw [e4,decide_eq_false (by omega),k3,List.nil_append,e6]
end Go.Proofs.YtoboimmgglnjfaaGreatDoor
/- ScriptRight: the document's reader, line by line; the law. -/
namespace Go.Proofs.YtoboimmgglnjfaaGreatDoor
open Go Go.Pw
set_option linter.unusedVariables false
set_option maxRecDepth 4000
def stOf (i a:Nat) (p:RS):Int×Int×List Class×List Op×Int×Bool:=((i:Int),(a:Int),p.1.cls,p.2,(p.1.k:Int),false)
theorem zSQ {fu:Nat} {s l:Bs} {e a:Nat} {p:RS} {rc:Int×Int×List Class×List Op×Int×Bool->Option (Script×Bool)} (hx:p.1.Ok) (hm:p.2.length<=300) (hf:30000<fu) (he:e<=20000) (hl:l.length<=20000) (hp:zC3 s (a:Int) (e:Int)=some l) :
  (∃y,zE5 p l=some y/\zCQ fu s (e:Int) (a:Int) p.1.cls p.2 (p.1.k:Int) false rc ()=rc (stOf (e+1) (e+1) y))\/(zE5 p l=none/\∃c d f,zCQ fu s (e:Int) (a:Int) p.1.cls p.2 (p.1.k:Int) false rc ()=rc (((e+1:Nat):Int),((e+1:Nat):Int),c,d,f,true)):=by
 obtain ⟨x,m⟩:=p
 unfold zCQ
 dsimp only at hx hm ⊢
 rw [hp,bnd_some,zAw (by omega),bnd_some,zBC]
 by_cases h0:l=[]
 ·rw [if_pos h0,bnd_some]
  exact .inl ⟨(x,m),by rw [h0];rfl,rfl⟩
 ·rw [if_neg h0,show (⟨⟨x.cls,m⟩,(x.k:Int),false⟩:Instarref22_Text)=tx (x,m) from rfl,zV7 hx (by omega) (by omega) (by omega),bnd_some]
  cases hh:zFI x l with
  | some y =>
   refine .inl ⟨(y,m),?_,?_⟩
   ·unfold zE5
    rw [if_neg h0]
    dsimp only
    rw [hh]
   ·show cnd (!true) _ _=_
    rw [Bool.not_true,cnd_false,bnd_some]
    rfl
  | none =>
   have hstep:=zNR (p:=(x,m)) h0 hh
   obtain ⟨b,hb⟩:=zT8 (fu:=fu) (s:=l) (by omega) (by omega)
   obtain ⟨t,ht,hif⟩:=radd_m (fu:=fu) (o:=opR l) hx hm
   show _\/_
   have hJ:∀F:Instarref22_Text->Option (Script×Bool),bnd (zCh fu l) (fun r12=>bnd (zDg fu (tx (x,m)) r12.1) F)=F t:=fun F=>by
    rw [hb,bnd_some,ht,bnd_some]
   by_cases hc:(cur (x,m)).length=lim (x,m)
   ·rw [if_pos hc] at hif hstep
    refine .inr ⟨hstep,t.S.Classes,t.S.Main,t.To,?_⟩
    show cnd (!false) _ _=_
    rw [Bool.not_false,cnd_true]
    refine (hJ _).trans ?_
    rw [bnd_some,hif]
   ·rw [if_neg hc] at hif hstep
    refine .inl ⟨_,hstep,?_⟩
    show cnd (!false) _ _=_
    rw [Bool.not_false,cnd_true]
    refine (hJ _).trans ?_
    rw [bnd_some,hif]
    rfl
theorem rbad {fu:Nat} {s:Bs} {k:Nat} {i a f:Int} {c:List Class} {d:List Op}:zAX fu s (k+1) (i,a,c,d,f,true)=some (⟨[],[]⟩,false):=by
 rw [zAX,Bool.not_true,cnd_false]
 cases decide (i<=((s.length:Nat):Int))<;>rfl
theorem zWA {fu:Nat} {s:Bs} {a:Nat} {p:RS} (hs:s.length<=20000):∀(w r:Bs) (i k:Nat),s.drop i=w++r->(10:UInt8)∉w->zAX fu s (w.length+k) (stOf i a p)=zAX fu s k (stOf (i+w.length) a p)
 | [],r,i,k,h,_=>by rw [List.length_nil,Nat.zero_add,Nat.add_zero]
 | b::w,r,i,k,h,h10=>by
  simp only [List.mem_cons,not_or] at h10
  obtain ⟨hl,hd⟩:=zED h
  rw [show (b::w).length+k=(w.length+k)+1 by rw [List.length_cons];omega]
  unfold stOf
  have hb:(((b.toNat:Nat):Int) != 10)=true:=by
   rw [show (((b.toNat:Nat):Int) != 10)=(b != 10) from zLf b 10]
   simpa using fun e=>h10.1 e.symm
  rw [zAX,zAo (by simp;omega),Bool.not_false,cnd_true,zAo (by simpa using hl),zFr h,bnd_some,hb,cnd_true,zAw (by omega),bnd_some]
  have:=zWA (fu:=fu) (a:=a) (p:=p) hs w r (i+1) k hd h10.2
  rw [show i+(b::w).length=i+1+w.length by rw [List.length_cons];omega]
  exact this
def finB:Option RS->Script×Bool
 | some y=>(⟨y.1.cls,y.2⟩,true)
 | none=>(⟨[],[]⟩,false)
theorem zPZ {fu:Nat} {s:Bs} (hf:30000<fu) (hs:s.length<=20000):∀(n a k:Nat) (p:RS),s.length - a<=n->a<=s.length->p.1.Ok->p.2.length<=300->s.length+3<=a+k ->
  zAX fu s k (stOf a a p)=some (finB (zDE (zEL (s.drop a)) p))
 | n,a,k,p,hn,ha,hx,hm,hk=>by
  by_cases h:(10:UInt8)∈s.drop a
  ·obtain ⟨w,r,hd,hw⟩:=zMI h
   have hlen:=congrArg List.length hd
   rw [List.length_drop,List.length_append,List.length_cons] at hlen
   obtain ⟨k2,rfl⟩:∃k2,k=w.length+(k2+1):=⟨k - w.length - 1,by omega⟩
   have hde:s.drop (a+w.length)=10::r:=by
    rw [<- List.drop_drop,hd,List.drop_left]
   obtain ⟨hl,hde1⟩:=zED hde
   rw [zWA hs w (10::r) a (k2+1) hd hw]
   unfold stOf
   have hp:zC3 s (a:Int) ((a+w.length:Nat):Int)=some w:=by
    rw [zCc (by omega) (by omega),hd,show a+w.length - a=w.length by omega,List.take_left]
   rw [zAX,zAo (by simp;omega),Bool.not_false,cnd_true,zAo (by simp;omega),zFr hde,bnd_some,show ((((10:UInt8).toNat:Nat):Int) != 10)=false from rfl,cnd_false,hd,zLT r hw,zDE]
   rcases zSQ (fu:=fu) (rc:=zAX fu s k2) hx hm hf (show a+w.length<=20000 by omega) (show w.length<=20000 by omega) hp with ⟨y,h1,h2⟩ | ⟨h1,c,d,f,h2⟩
   ·rw [h1,h2]
    obtain ⟨y1,y2⟩:=zMJ hx hm h1
    match n,hn with
    | n+1,hn =>
     rw [zPZ hf hs n (a+w.length+1) k2 y (by omega) (by omega) y1 y2 (by omega),hde1]
    | 0,hn=>omega
   ·rw [h1,h2]
    obtain ⟨k3,rfl⟩:∃k3,k2=k3+1:=⟨k2 - 1,by omega⟩
    rw [rbad]
    rfl
  ·have hlen:(s.drop a).length=s.length - a:=List.length_drop
   obtain ⟨k2,rfl⟩:∃k2,k=(s.drop a).length+(k2+1+1):=⟨k - (s.drop a).length - 2,by omega⟩
   rw [zWA hs (s.drop a) [] a (k2+1+1) (by rw [List.append_nil]) h]
   unfold stOf
   have hp:zC3 s (a:Int) ((a+(s.drop a).length:Nat):Int)=some (s.drop a):=by
    rw [zCc (by omega) (by omega),List.take_of_length_le (by omega)]
   rw [zAX,zAo (by simp;omega),Bool.not_false,cnd_true,zAi (by simp;omega)]
   have hT:zDE (zEL (s.drop a)) p=zE5 p (s.drop a):=by
    by_cases h0:s.drop a=[]
    ·rw [h0];rfl
    ·rw [zSo h0 h,zDE]
     cases zE5 p (s.drop a)<;>rfl
   rw [hT]
   rcases zSQ (fu:=fu) (rc:=zAX fu s (k2+1)) hx hm hf (show a+(s.drop a).length<=20000 by omega) (show (s.drop a).length<=20000 by omega) hp with ⟨y,h1,h2⟩ | ⟨h1,c,d,f,h2⟩
   ·rw [h1,h2]
    unfold stOf
    rw [zAX,zAi (by simp;omega),cnd_false]
    rfl
   ·rw [h1,h2,rbad]
    rfl
def zV4 (s:Bs):Script×Bool:=if s.length>16384 then (⟨[],[]⟩,false) else finB (zDE (zEL s) (rs0,[]))
theorem zSX {fu:Nat} {s:Bs} (hf:30000<fu) (hs:s.length<=20000):zDw fu s=some (zV4 s):=by
 unfold zDw zV4
 rw [show decide (((s.length:Nat):Int)>16384) = !decide (s.length<=16384) from zGT _ 16384]
 by_cases h:s.length<=16384
 ·rw [decide_eq_true h,Bool.not_true,cnd_false,if_neg (by omega)]
  have:=zPZ hf hs s.length 0 fu (rs0,[]) (by omega) (by omega) zSb (by simp) (by omega)
  rw [List.drop_zero] at this
  exact this
 ·rw [decide_eq_false h,Bool.not_false,cnd_true,if_pos (by omega)]
theorem zT2 {fu:Nat} {s:Bs} (hf:30000<fu) (hs:s.length<=20000):zAr fu s ()=some true:=by
 unfold zAr
 rw [zSj hf,bnd_some,zSX hf hs,bnd_some]
 have none_:bnd (zB7 fu (⟨[],[]⟩:Script) (⟨[],[]⟩:Script)) (fun r11=>cnd r11 (cnd (((3:Int)==0)==false) (cnd false (some true) (some ((3:Int)==3))) (some false)) (some false))=some true:=by
  rw [zU0 (s:=⟨[],[]⟩) (by omega) (by simp) (by simp) (by simp),bnd_some]
  rfl
 rw [zSI]
 unfold zV4
 by_cases h:s.length>16384
 ·rw [if_pos h,if_pos h]
  exact none_
 ·rw [if_neg h,if_neg h]
  cases hT:zDE (zEL s) (rs0,[]) with
  | none=>exact none_
  | some y =>
   have hl:∀t∈zEL s,t.length<=1000000:=fun t ht=>by
    obtain ⟨l,h1,rfl⟩:=List.mem_map.1 ht
    have:=zNS l
    have:=zHU h1
    omega
   obtain ⟨a,_⟩:=zOs _ _ _ inv0 hl hT
   have hgood:=zOi a.ok a.pre a.lst
   show bnd (zB7 fu (⟨y.1.cls,y.2⟩:Script) (⟨y.1.cls,y.2⟩:Script)) (fun r11=>cnd r11 (cnd (((0:Int)==0)==true) (cnd true (some true) (some ((0:Int)==3))) (some false)) (some false))=some true
   rw [zQL (by omega) (zJ8 a.ok.cls12 hgood a.m300 a.ops),bnd_some]
   rfl
theorem zT1 {fu:Nat} {x:Script} {s:Bs} (hf:30000<fu) (hs:s.length<=20000):zBj fu x s (zEa x) (putA x) ()=some true:=by
 unfold zBj
 rw [zT2 hf hs]
 cases ha:zEa x with
 | false=>rfl
 | true =>
  rw [cnd_true,zT7 (by omega) ha,bnd_some,show decide (((putR x).length:Int)>16384) = !decide ((putR x).length<=16384) from zGT _ 16384,show decide (((putR x).length:Int)<=16384)=decide ((putR x).length<=16384) from zTa _ 16384]
  unfold putA
  rw [if_pos ha]
  by_cases hl:(putR x).length<=16384
  ·rw [zVS (by omega),decide_eq_true hl]
   show cnd false _ (cnd true (cnd ((0:Int) != 0) _ (cnd (!((putR x)==(putR x))) _ _)) _)=_
   rw [cnd_false,cnd_true,zAi (by decide),zAi (by simp)]
  ·rw [zRJ (by omega),decide_eq_false hl]
   show cnd true (cnd ((3:Int) != 3) _ (cnd (!(([]:Bs)==([]:Bs))) _ (cnd false _ _))) _=_
   rw [cnd_true,zAi (by decide),zAi (by decide),cnd_false]
theorem scriptRight (x:Script) (s:Bs):∃fu,zBQ fu x s=some true:=by
 refine ⟨40000,?_⟩
 generalize hfu:40000=fu
 have hf:30000<fu:=by omega
 unfold zBQ
 rw [zVB hf,bnd_some,Bool.not_true,cnd_false]
 obtain ⟨b,hb,hq⟩:=few_s (fu:=fu) (by omega) x
 rw [hb,bnd_some]
 cases b with
 | false=>rfl
 | true =>
  have hfew:=hq rfl
  rw [Bool.not_true,cnd_false,show decide (((s.length:Nat):Int)>20000) = !decide (s.length<=20000) from zGT _ 20000]
  by_cases h2:s.length<=20000
  rotate_left
  ·rw [decide_eq_false h2];rfl
  rw [decide_eq_true h2,Bool.not_true,cnd_false,zTs (by omega) hfew,bnd_some,zU1 (by omega),bnd_some,zKA (by omega),bnd_some,beq_self_eq_true,Bool.not_true,cnd_false,zT1 hf h2]
  cases ha:zEa x with
  | true=>rfl
  | false =>
   have hp:putA x=([],1):=by
    unfold putA
    rw [ha,if_neg (by simp)]
   rw [hp]
   rfl
end Go.Proofs.YtoboimmgglnjfaaGreatDoor
