/- A region that draws its order, and whose operations leave the call's own blocks alone: one walk in the text's order serves every order. No program is named here. -/
import Derived.Test.YtoboimmgglnjfaaGreatDoorEff4
namespace Go.Pw
open Go
section
variable {ρ : Type} {G:Ctx ρ} {S:Store} {all:Array Oper}
def zDn (l:List Nat):Env->Env
 | []=>[]
 | (t,p)::E=>bif l.any (Nat.beq t) then (t,p)::zDn l E else zDn l E
theorem any_beq {l:List Nat} {t:Nat}:l.any (Nat.beq t)=true↔t∈l:=by
 rw [List.any_eq_true]
 exact ⟨fun ⟨x,h1,h2⟩=>by rw [Nat.eq_of_beq_eq_true h2];exact h1,fun h=>⟨t,h,by simp⟩⟩
theorem zMC {l:List Nat} {E:Env} {t:Nat} {p:PV} (h:lk (zDn l E) t=some p):t∈l/\lk E t=some p:=by
 induction E with
 | nil=>simp [zDn,lk] at h
 | cons x E ih =>
  obtain ⟨k,q⟩:=x
  simp only [zDn] at h
  cases hb:l.any (Nat.beq k)<;>simp only [hb,cond_true,cond_false] at h
  ·obtain ⟨h1,h2⟩:=ih h
   refine ⟨h1,?_⟩
   have hne:¬k=t:=fun e=>by subst e;rw [any_beq.2 h1] at hb;cases hb
   simp only [lk,zA5 hne,cond_false];exact h2
  ·simp only [lk] at h ⊢
   by_cases e:k=t
   ·subst e;simp at h ⊢;exact ⟨any_beq.1 hb,h⟩
   ·simp only [zA5 e,cond_false] at h ⊢;exact ih h
def zB9 (G:Ctx ρ) (S:Store) (o:Oper) (σ : Nat->Value) (φ : Nat->Nat->Prop) (a:Act) (w:World) (p:PV):Prop :=
 match (execOp a.eval o).run G.P w with
 | .ok (.value u) w'=>w'=w/\R σ w (Dof G.X φ w S) p u
 | .ok (.enter f args) w'=>w'=w/\Calls G.P f args w fun e w''=>∃u,e=.returned u/\(∀E a,Pre' G E S a w σ φ -> Pre' G E S a w'' σ φ)/\R σ w'' (Dof G.X φ w'' S) p u
 | _=>False
def zU7 (G:Ctx ρ) (S:Store) (all:Array Oper) (o:Oper) (E:Env) (p:PV):Prop :=
 ∀σ φ w a,Pre' G E S a w σ φ -> if Region.wanted o (yielded all a.tmps) then zB9 G S o σ φ a w p else p=.tup []
def Lex (G:Ctx ρ) (S:Store) (all:Array Oper):List Oper->Env->(Env->Prop)->Prop
 | [],E,Kf=>Kf E
 | o::rest,E,Kf=>∃d p,o.dst=some d/\d<G.fn.ntmps/\zU7 G S all o (zDn (o.looksAt all) E) p/\Lex G S all rest ((d,p)::E) Kf
def zJO (o:Oper) (acc:List Nat):Nat:=o.after.toList.foldl (fun s e=>if Region.binds .any e then s ||| 2 ^ e.on ||| acc.getD e.on 0 else s) 0
def zGV:List Oper->List Nat->List Nat
 | [],acc=>acc
 | o::l,acc=>zGV l (acc++[zJO o acc])
theorem zP7 {o:Oper} {acc:List Nat} {i:Nat} (h:(zJO o acc).testBit i=true):∃e∈o.after,Region.binds .any e=true/\(i=e.on\/(acc.getD e.on 0).testBit i=true):=by
 have key:∀(l:List Edge) (s:Nat),(l.foldl (fun s e=>if Region.binds .any e then s ||| 2 ^ e.on ||| acc.getD e.on 0 else s) s).testBit i=true->s.testBit i=true\/∃e∈l,Region.binds .any e=true/\(i=e.on\/(acc.getD e.on 0).testBit i=true):=by
  intro l
  induction l with
  | nil=>intro s h;exact .inl h
  | cons e l ih =>
   intro s h
   rcases ih _ h with h | ⟨e',he',h⟩
   ·simp only at h
    split at h
    ·rename_i hb
     simp only [Nat.testBit_or,Bool.or_eq_true,Nat.testBit_two_pow] at h
     rcases h with (h | h) | h
     ·exact .inl h
     ·exact .inr ⟨e,List.mem_cons_self ..,hb,.inl (by simp at h;exact h.symm)⟩
     ·exact .inr ⟨e,List.mem_cons_self ..,hb,.inr h⟩
    ·exact .inl h
   ·exact .inr ⟨e',List.mem_cons_of_mem _ he',h⟩
 rcases key _ _ h with h | ⟨e,he,h⟩
 ·simp at h
 ·exact ⟨e,by simpa using he,h⟩
theorem zM2 {l:List Oper} {acc:List Nat} {i:Nat} (h:i<acc.length):(zGV l acc).getD i 0=acc.getD i 0:=by
 induction l generalizing acc with
 | nil=>rfl
 | cons o l ih =>
  simp only [zGV]
  rw [ih (by simp;omega)]
  simp [List.getD,List.getElem?_append_left h]
theorem zO6 {l:List Oper} {acc:List Nat} {j:Nat} {o:Oper} (hj:l[j]? = some o) (ho:∀(k:Nat) (x:Oper),l[k]? = some x->∀e∈x.after,Region.binds .any e=true->e.on<acc.length+k) {i:Nat} (h:((zGV l acc).getD (acc.length+j) 0).testBit i=true) :
  ∃e∈o.after,Region.binds .any e=true/\(i=e.on\/((zGV l acc).getD e.on 0).testBit i=true):=by
 induction l generalizing acc j with
 | nil=>simp at hj
 | cons x l ih =>
  simp only [zGV] at h ⊢
  cases j with
  | zero =>
   simp at hj;subst hj
   rw [zM2 (by simp)] at h
   have:(acc++[zJO x acc]).getD (acc.length+0) 0=zJO x acc:=by simp [List.getD]
   rw [this] at h
   obtain ⟨e,he,hb,h'⟩:=zP7 h
   refine ⟨e,he,hb,h'.imp id fun h'=>?_⟩
   have hlt:=ho 0 x rfl e he hb
   rw [zM2 (by simp;omega)]
   simpa [List.getD,List.getElem?_append_left (show e.on<acc.length by omega)] using h'
  | succ j =>
   have e1:acc.length+(j+1)=(acc++[zJO x acc]).length+j:=by simp;omega
   rw [e1] at h
   exact ih (by simpa using hj) (fun k y hk e he hb=>by have:=ho (k+1) y (by simpa using hk) e he hb;simp;omega) h
def zLu (all:Array Oper) (o:Oper):List Nat:=o.dst.toList++o.looksAt all
def zRr (all:Array Oper) (ms:List Nat) (i:Nat) (x:Oper) (j:Nat) (y:Oper):Bool :=
 (match x.dst with
  | some d => !(zLu all y).any (Nat.beq d)
  | none=>true) &&
 (match y.dst with
  | some d => !(zLu all x).any (Nat.beq d)
  | none=>true)||(ms.getD j 0).testBit i
def zQG (all:Array Oper) (ms:List Nat) (j:Nat) (y:Oper):Nat->List Oper->Bool
 | _,[]=>true
 | i,x::l=>(bif Nat.blt i j then zRr all ms i x j y else true)&&zQG all ms j y (i+1) l
def zLl (all:Array Oper) (ms:List Nat):Nat->List Oper->Bool
 | _,[]=>true
 | j,y::l=>y.after.toList.all (fun e => !Region.binds .any e||Nat.blt e.on j)&&zQG all ms j y 0 all.toList&&zLl all ms (j+1) l
def zQ7 (all:Array Oper):Bool:=zLl all (zGV all.toList []) 0 all.toList
theorem zT6 {ms:List Nat} {j:Nat} {y:Oper} {l:List Oper} {k:Nat} (h:zQG all ms j y k l=true) {i:Nat} {x:Oper} (hi:l[i]? = some x) (hlt:k+i<j):zRr all ms (k+i) x j y=true:=by
 induction l generalizing k i with
 | nil=>simp at hi
 | cons z l ih =>
  simp only [zQG,Bool.and_eq_true] at h
  cases i with
  | zero =>
   simp at hi;subst hi
   have:Nat.blt k j=true:=by simpa [Nat.blt_eq] using hlt
   simpa [this] using h.1
  | succ i =>
   have:=ih (k:=k+1) h.2 (by simpa using hi) (by omega)
   rw [show k+(i+1)=k+1+i by omega];exact this
theorem zQ8 {ms:List Nat} {l:List Oper} {k:Nat} (h:zLl all ms k l=true) {j:Nat} {y:Oper} (hj:l[j]? = some y) :
  (∀e∈y.after,Region.binds .any e=true->e.on<k+j)/\zQG all ms (k+j) y 0 all.toList=true:=by
 induction l generalizing k j with
 | nil=>simp at hj
 | cons z l ih =>
  simp only [zLl,Bool.and_eq_true] at h
  cases j with
  | zero =>
   simp at hj;subst hj
   refine ⟨fun e he hb=>?_,h.1.2⟩
   have:=List.all_eq_true.1 h.1.1 e (by simpa using he)
   simpa [hb,Nat.blt_eq] using this
  | succ j =>
   have:=ih (k:=k+1) h.2 (by simpa using hj)
   rw [show k+(j+1)=k+1+j by omega];exact this
def sel:List (Nat×PV)->(Nat->Bool)->Nat->Env->Env
 | [],_,_,E=>E
 | x::l,f,k,E=>sel l f (k+1) (bif f k then x::E else E)
theorem zMz {t:Nat}:∀{l:List (Nat×PV)} {f g:Nat->Bool} {k:Nat} {E E':Env},(∀(j:Nat) (x:Nat×PV),l[j]? = some x->x.1=t->f (k+j)=g (k+j))->lk E t=lk E' t->lk (sel l f k E) t=lk (sel l g k E') t
 | [],_,_,_,_,_,_,h=>h
 | x::l,f,g,k,E,E',hfg,h=>by
  simp only [sel]
  refine zMz (fun j y hj hy=>by have:=hfg (j+1) y (by simpa using hj) hy;rw [show k+1+j=k+(j+1) by omega];exact this) ?_
  by_cases e:x.1=t
  ·have:=hfg 0 x rfl e
   simp only [Nat.add_zero] at this
   rw [this]
   cases g k
   ·exact h
   ·simp [lk,e]
  ·have one:∀(b:Bool) (E:Env),lk (bif b then x::E else E) t=lk E t:=by
    intro b E
    cases b
    ·rfl
    ·obtain ⟨x1,x2⟩:=x
     simp only [cond_true,lk]
     rw [zA5 e];rfl
   rw [one,one];exact h
theorem zIt:∀{l:List (Nat×PV)} {k:Nat} {E:Env},sel l (fun _=>false) k E=E
 | [],_,_=>rfl
 | x::l,k,E=>by simp only [sel,cond_false];exact zIt
theorem zPf {d:Nat} {p:PV}:∀{l:List (Nat×PV)} {f:Nat->Bool} {k i:Nat} {E:Env},l[i]? = some (d,p)->f (k+i)=true->(∀(j:Nat) (x:Nat×PV),i<j->l[j]? = some x->x.1=d->f (k+j)=false)->lk (sel l f k E) d=some p
 | [],_,_,_,_,h,_,_=>by simp at h
 | x::l,f,k,i,E,h,hf,hl=>by
  simp only [sel]
  cases i with
  | zero =>
   simp at h;subst h
   simp only [Nat.add_zero] at hf
   rw [hf,cond_true]
   rw [zMz (g:=fun _=>false) (E':=(d,p)::E) (fun j y hj hy=>by have:=hl (j+1) y (by omega) (by simpa using hj) hy;rw [show k+1+j=k+(j+1) by omega];exact this) rfl,zIt]
   simp [lk]
  | succ i =>
   exact zPf (i:=i) (by simpa using h) (by rw [show k+1+i=k+(i+1) by omega];exact hf) fun j y hij hj hy=>by
    have:=hl (j+1) y (by omega) (by simpa using hj) hy;rw [show k+1+j=k+(j+1) by omega];exact this
theorem Oper.wp_of_does {o:Oper} {σ : Nat->Value} {φ : Nat->Nat->Prop} {a:Act} {w:World} {p:PV} {E:Env} {K:Act->World->Prop} {Q:Exit->Act->World->Prop} {d:Nat} (hp:Pre' G E S a w σ φ) (h:zB9 G S o σ φ a w p) (hd:o.dst=some d) (hlt:d<G.fn.ntmps)
  (hK:∀a' w',Pre' G ((d,p)::E) S a' w' σ φ -> K a' w'):o.wp G.P a w K Q:=by
 unfold zB9 at h
 unfold Oper.wp
 split at h
 ·rename_i u w' hr
  obtain ⟨rfl,h2⟩:=h
  rw [hr,Oper.upon_value,hd]
  exact hK _ _ (hp.put hlt h2)
 ·rename_i f args w' hr
  obtain ⟨rfl,h2⟩:=h
  rw [hr,Oper.upon_enter]
  refine h2.mono ?_
  rintro e w'' ⟨u,rfl,h3,h4⟩
  rw [hd]
  exact hK _ _ ((h3 _ _ hp).put hlt h4)
 ·exact h.elim
theorem zPq {Q:Exit->Act->World->Prop} {E:Env} (hok:zQ7 all=true) (ents:List (Nat×PV)) (hlen:ents.length=all.size)
  (hd:∀(i:Nat) (o:Oper),all[i]? = some o->∃d p,ents[i]? = some (d,p)/\o.dst=some d/\d<G.fn.ntmps/\zU7 G S all o (zDn (o.looksAt all) (sel ents (fun j=>decide (j<i)) 0 E)) p)
  (hQ:∀a w,Pre G (sel ents (fun _=>true) 0 E) S a w->Q .normal a w):∀(fuel:Nat) (listed:Array Bool) (a:Act) (w:World),listed.size=all.size ->
   (∀(j:Nat) (y:Oper),all[j]? = some y->listed.getD j false=true->∀e∈y.after,Region.binds .any e=true->listed.getD e.on false=true) ->
   (List.range all.size).countP (fun j => !listed.getD j false)=fuel->Pre G (sel ents (fun j=>listed.getD j false) 0 E) S a w->wpAny G.P .any all Q fuel listed a w:=by
 have same:∀{E1 E2:Env},(∀t,lk E1 t=lk E2 t)->Sub E1 E2:=fun h t p hp=>(h t).symm.trans hp
 have inl:∀{i:Nat} {x:Nat×PV},ents[i]? = some x->i<all.size:=fun h=>by rw [<- hlen];exact (List.getElem?_eq_some_iff.1 h).1
 have ahead:∀{j:Nat} {y:Oper},all[j]? = some y->(∀e∈y.after,Region.binds .any e=true->e.on<j)/\zQG all (zGV all.toList []) j y 0 all.toList=true:=fun {j y} hj=>by
  have:=zQ8 (k:=0) (j:=j) (y:=y) hok (by simpa using hj)
  simpa using this
 intro fuel
 have done_:∀(listed:Array Bool) (a:Act) (w:World),(∀j,j<all.size->listed.getD j false=true)->Pre G (sel ents (fun j=>listed.getD j false) 0 E) S a w->Q .normal a w:=fun listed a w hall hp =>
  hQ a w (hp.sub (same fun t=>zMz (fun j x hj _=>by simp only [Nat.zero_add];exact (hall j (inl hj)).symm) rfl))
 have allDone:∀(listed:Array Bool),listed.size=all.size->Region.ready .any all listed=[]->∀j,j<all.size->listed.getD j false=true:=by
  intro listed hsz hr j
  induction j using Nat.strongRecOn with
  | _ j ih =>
   intro hj
   cases hl:listed.getD j false with
   | true=>rfl
   | false =>
    have:j∈Region.ready .any all listed:=by
     rw [mem_ready]
     refine ⟨?_,_,Array.getElem?_eq_getElem hj,fun e he hb=>?_⟩
     ·simp only [Array.getD_eq_getD_getElem?] at hl ⊢
      have:j<listed.size:=by omega
      simpa [this] using hl
     ·have hlt:=(ahead (Array.getElem?_eq_getElem hj)).1 e he hb
      exact ih e.on hlt (by omega)
    rw [hr] at this;cases this
 induction fuel with
 | zero =>
  intro listed a w hsz hcl hc hp
  have hall:∀j,j<all.size->listed.getD j false=true:=fun j hj=>by
   rw [List.countP_eq_zero] at hc
   simpa using hc j (by simpa using hj)
  refine ⟨?_,done_ listed a w hall hp⟩
  refine List.eq_nil_iff_forall_not_mem.2 fun j hj=>?_
  obtain ⟨h1,o,h2,_⟩:=mem_ready.1 hj
  have hlt:=(Array.getElem?_eq_some_iff.1 h2).1
  have:=hall j hlt
  simp only [Array.getD_eq_getD_getElem?] at this h1
  have hj':j<listed.size:=by omega
  simp [hj'] at this h1
  rw [this] at h1;cases h1
 | succ fuel ih =>
  intro listed a w hsz hcl hc hp
  refine ⟨fun hr=>done_ listed a w (allDone listed hsz hr) hp,fun i hi=>?_⟩
  obtain ⟨hun,o,ho,haft⟩:=mem_ready.1 hi
  have hilt:=(Array.getElem?_eq_some_iff.1 ho).1
  have hun':listed.getD i false=false:=by
   have hi':i<listed.size:=by omega
   simp only [Array.getD_eq_getD_getElem?] at hun ⊢
   simpa [hi'] using hun
  obtain ⟨d,p,he,hdst,hdn,hsem⟩:=hd i o ho
  -- whoever is ahead of i by the zGV has come up
  have came:∀(j:Nat) (y:Oper),all[j]? = some y->(∀e∈y.after,Region.binds .any e=true->listed.getD e.on false=true)->∀k,((zGV all.toList []).getD j 0).testBit k=true->listed.getD k false=true:=by
   intro j
   induction j using Nat.strongRecOn with
   | _ j ihj =>
    intro y hy hya k hk
    obtain ⟨e,he,hb,h⟩:=zO6 (acc:=[]) (l:=all.toList) (j:=j) (o:=y) (by simpa using hy) (fun k x hx e he hb=>by
     have:=(ahead (j:=k) (y:=x) (by simpa using hx)).1 e he hb
     simpa using this) (by simpa using hk)
    have h1:=hya e he hb
    rcases h with rfl | h
    ·exact h1
    ·have hlt:=(ahead hy).1 e he hb
     have hjl:=(Array.getElem?_eq_some_iff.1 hy).1
     have hy2:all[e.on]? = some (all[e.on]'(by omega)):=Array.getElem?_eq_getElem (by omega)
     exact ihj e.on hlt _ hy2 (fun e' he' hb'=>hcl _ _ hy2 h1 e' he' hb') k h
  -- two that have to do with one temporary
  have pair:∀(j1 j2:Nat) (x y:Oper),all[j1]? = some x->all[j2]? = some y->j1<j2->((∃d,x.dst=some d/\d∈zLu all y)\/(∃d,y.dst=some d/\d∈zLu all x))->((zGV all.toList []).getD j2 0).testBit j1=true:=by
   intro j1 j2 x y hx hy hlt hc
   have:=zT6 (k:=0) (i:=j1) (x:=x) (ahead hy).2 (by simpa using hx) (by omega)
   simp only [Nat.zero_add,zRr,Bool.or_eq_true,Bool.and_eq_true] at this
   rcases this with ⟨h1,h2⟩ | h
   ·rcases hc with ⟨d,h3,h4⟩ | ⟨d,h3,h4⟩
    ·rw [h3] at h1;simp only [Bool.not_eq_true'] at h1;rw [any_beq.2 h4] at h1;cases h1
    ·rw [h3] at h2;simp only [Bool.not_eq_true'] at h2;rw [any_beq.2 h4] at h2;cases h2
   ·exact h
  have entd:∀(j:Nat) (x:Nat×PV),ents[j]? = some x->∃y,all[j]? = some y/\y.dst=some x.1:=by
   intro j x hx
   have hlt:=inl hx
   obtain ⟨d',p',h1,h2,_⟩:=hd j _ (Array.getElem?_eq_getElem hlt)
   rw [hx] at h1;cases h1
   exact ⟨_,Array.getElem?_eq_getElem hlt,h2⟩
  -- what it sees is what it sees in the text's order
  have sees:∀t∈o.looksAt all,lk (sel ents (fun j=>decide (j<i)) 0 E) t=lk (sel ents (fun j=>listed.getD j false) 0 E) t:=by
   intro t ht
   refine zMz (fun j x hj hx=>?_) rfl
   simp only [Nat.zero_add]
   obtain ⟨y,hy,hyd⟩:=entd j x hj
   rcases Nat.lt_trichotomy j i with h | h | h
   ·have:=pair j i y o hy ho h (.inl ⟨x.1,hyd,by rw [hx];exact List.mem_append_right _ ht⟩)
    rw [came i o ho haft j this];simpa using h
   ·subst h;rw [hun'];simp
   ·have hb:=pair i j o y ho hy h (.inr ⟨x.1,hyd,by rw [hx];exact List.mem_append_right _ ht⟩)
    cases hl:listed.getD j false with
    | false=>simpa using Nat.le_of_lt h
    | true =>
     have:=came j y hy (fun e he hb'=>hcl j y hy hl e he hb') i hb
     rw [hun'] at this;cases this
  obtain ⟨σ,φ,hp'⟩:=hp
  have hpr:Pre' G (zDn (o.looksAt all) (sel ents (fun j=>decide (j<i)) 0 E)) S a w σ φ := { hp' with env:=fun t q hq=>hp'.env t q ((sees t (zMC hq).1).symm.trans (zMC hq).2) }
  have hs:=hsem σ φ w a hpr
  have next:∀a' w',Pre' G ((d,p)::sel ents (fun j=>listed.getD j false) 0 E) S a' w' σ φ -> wpAny G.P .any all Q fuel (listed.setIfInBounds i true) a' w':=by
   intro a' w' hq
   have gset:∀j,(listed.setIfInBounds i true).getD j false=if j=i then true else listed.getD j false:=by
    intro j
    simp only [Array.getD_eq_getD_getElem?,Array.getElem?_setIfInBounds]
    by_cases e:i=j
    ·subst e;simp [show i<listed.size by omega]
    ·rw [if_neg e,if_neg (Ne.symm e)]
   refine ih _ a' w' (by simpa using hsz) (fun j y hy hl e he hb=>?_) ?_ ⟨σ,φ,?_⟩
   ·rw [gset] at hl ⊢
    by_cases e1:e.on=i
    ·rw [if_pos e1]
    ·rw [if_neg e1]
     by_cases e2:j=i
     ·subst e2;rw [ho] at hy;cases hy;exact haft e he hb
     ·rw [if_neg e2] at hl;exact hcl j y hy hl e he hb
   ·have h1:(List.range all.size).countP (fun j => !(listed.setIfInBounds i true).getD j false)+1=(List.range all.size).countP (fun j => !listed.getD j false):=by
     have gen:∀(l:List Nat),l.Nodup->i∈l->l.countP (fun j => !(listed.setIfInBounds i true).getD j false)+1=l.countP (fun j => !listed.getD j false):=by
      intro l
      induction l with
      | nil=>intro _ h;cases h
      | cons x l ihl =>
       intro hnd hm
       rw [List.nodup_cons] at hnd
       by_cases e:x=i
       ·subst e
        have h0:l.countP (fun j => !(listed.setIfInBounds x true).getD j false)=l.countP (fun j => !listed.getD j false):=List.countP_congr fun j hj=>by
         rw [gset,if_neg (fun (e:j=x)=>hnd.1 (by rw [<- e];exact hj))]
        rw [List.countP_cons,List.countP_cons,h0,gset,if_pos rfl,hun']
        simp
       ·have:=ihl hnd.2 (by rcases List.mem_cons.1 hm with h | h;exact absurd h.symm e;exact h)
        rw [List.countP_cons,List.countP_cons,gset,if_neg e]
        omega
     exact gen _ List.nodup_range (by simpa using hilt)
    omega
   ·refine { hq with env:=fun t q hq'=>hq.env t q ?_ }
    rw [<- hq']
    by_cases e:d=t
    ·subst e
     have hlast:=zPf (l:=ents) (f:=fun j=>(listed.setIfInBounds i true).getD j false) (k:=0) (E:=E) he (by simp only [Nat.zero_add];rw [gset,if_pos rfl]) (fun j x hij hj hx=>by
      simp only [Nat.zero_add]
      rw [gset,if_neg (by omega)]
      obtain ⟨y,hy,hyd⟩:=entd j x hj
      have hb:=pair i j o y ho hy hij (.inr ⟨x.1,hyd,by rw [hx];exact List.mem_append_left _ (by simp [hdst])⟩)
      cases hl:listed.getD j false with
      | false=>rfl
      | true =>
       have:=came j y hy (fun e he hb'=>hcl j y hy hl e he hb') i hb
       rw [hun'] at this;cases this)
     rw [hlast];simp [lk]
    ·simp only [lk,zA5 e,cond_false]
     refine (zMz (fun j x hj hx=>?_) rfl)
     simp only [Nat.zero_add]
     rw [gset]
     by_cases e2:j=i
     ·subst e2;rw [he] at hj;cases hj;exact absurd hx e
     ·rw [if_neg e2]
  unfold wpOp
  simp only [ho]
  by_cases hw:Region.wanted o (yielded all a.tmps)=true
  ·rw [if_pos hw] at hs ⊢
   exact .inl (Oper.wp_of_does hp' hs hdst hdn next)
  ·rw [if_neg hw] at hs ⊢
   subst hs
   rw [hdst]
   exact next _ _ (hp'.put hdn (.d (.tup rfl fun i c u h=>by simp at h)))
theorem zO4:∀{l:List Oper} {E:Env} {Kf:Env->Prop},Lex G S all l E Kf->∃ents:List (Nat×PV),ents.length=l.length/\Kf (sel ents (fun _=>true) 0 E) /\
  ∀(i:Nat) (o:Oper),l[i]? = some o->∃d p,ents[i]? = some (d,p)/\o.dst=some d/\d<G.fn.ntmps/\zU7 G S all o (zDn (o.looksAt all) (sel ents (fun j=>decide (j<i)) 0 E)) p
 | [],E,Kf,h=>⟨[],rfl,h,fun i o h=>by simp at h⟩
 | o::l,E,Kf,⟨d,p,h1,h2,h3,h4⟩=>by
  obtain ⟨ents,g1,g2,g3⟩:=zO4 h4
  have shift:∀(l:List (Nat×PV)) (f:Nat->Bool) (k:Nat) (E:Env),sel l (fun j=>f (j+1)) k E=sel l f (k+1) E:=by
   intro l
   induction l with
   | nil=>intro f k E;rfl
   | cons x l ih=>intro f k E;simp only [sel];exact ih f (k+1) _
  refine ⟨(d,p)::ents,by simp [g1],?_,fun i x hx=>?_⟩
  ·simp only [sel,cond_true]
   have:=shift ents (fun _=>true) 0 ((d,p)::E)
   rw [<- this];exact g2
  ·cases i with
   | zero =>
    simp at hx;subst hx
    refine ⟨d,p,rfl,h1,h2,?_⟩
    have:sel ((d,p)::ents) (fun j=>decide (j<0)) 0 E=E:=by
     have:(fun j:Nat=>decide (j<0))=fun _=>false:=by funext j;simp
     rw [this];exact zIt
    rw [this];exact h3
   | succ i =>
    obtain ⟨d',p',e1,e2,e3,e4⟩:=g3 i x (by simpa using hx)
    refine ⟨d',p',by simpa using e1,e2,e3,?_⟩
    have:sel ((d,p)::ents) (fun j=>decide (j<i+1)) 0 E=sel ents (fun j=>decide (j<i)) 0 ((d,p)::E):=by
     simp only [sel]
     rw [<- shift ents (fun j=>decide (j<i+1)) 0]
     simp
    rw [this];exact e4
theorem zWZ {id:Nat} {Q:Exit->Act->World->Prop} {E:Env} (hm:G.P.follows .mixedOrders=true) (hok:zQ7 all=true) (hqp:∀c a w,¬Q (.panic c) a w) (hqo:∀a w,¬Q .outgrown a w) (hnd:all.toList.all (fun o=>zE4 o.op)=true) (h:Lex G S all all.toList E fun E'=>∀a w,Pre G E' S a w->Q .normal a w)
  {a:Act} {w:World} (hp:Pre G E S a w):(Code.region id all true).wpIn (FR G.ro) 0 G.P Q a w:=by
 obtain ⟨ents,h1,h2,h3⟩:=zO4 h
 refine wpIn_region_any hm (zMX hqp hqo hnd<|zPq hok ents (by simpa using h1) (fun i o ho=>h3 i o (by simpa using ho)) h2 _ _ _ _ (by simp) (fun j y hy hl=>?_) ?_ ?_)
 ·simp only [Array.getD_eq_getD_getElem?,Array.getElem?_replicate] at hl
  split at hl<;>simp at hl
 ·rw [List.countP_eq_length.2]
  ·simp
  ·intro j hj
   simp only [Array.getD_eq_getD_getElem?,Array.getElem?_replicate]
   split<;>simp
 ·obtain ⟨σ,φ,hp⟩:=hp
  refine ⟨σ,φ,{ hp with
   env:=fun t p ht=>?_
   inv:=⟨hp.inv.nodup,hp.inv.xlt,hp.inv.lt,hp.inv.disj,fun n k hm=>BlkOk.next (w:=w) (D:=Dof G.X φ w S) (fun b hb=>⟨hb,rfl⟩) (fun _ _=>rfl) (hp.inv.ok n k hm) fun _ _ _ _ _ _ _ _=>rfl⟩
   fr:=hp.fr.drew }⟩
  have:(fun j=>(Array.replicate all.size false).getD j false)=fun _=>false:=by
   funext j
   simp only [Array.getD_eq_getD_getElem?,Array.getElem?_replicate]
   split<;>simp
  rw [this,zIt] at ht
  obtain ⟨u,hu,hr⟩:=hp.env t p ht
  exact ⟨u,hu,R.mono (w:=w) (w':=w.drew) (D:=Dof G.X φ w S) (D':=Dof G.X φ w.drew S) (fun b hb=>⟨hb,rfl⟩) hr⟩
end
end Go.Pw
