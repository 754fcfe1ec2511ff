/- The rules within a region that draws its order. No program is named here. -/
import Derived.Test.YtoboimmgglnjfaaGreatDoorDraw
namespace Go.Pw
open Go
section
variable {ρ : Type} {G:Ctx ρ} {m:Option ρ} {K:List (Kont ρ)} {E:Env} {S:Store} {all:Array Oper}
def PD (G:Ctx ρ) (m:Option ρ) (all:Array Oper) (ops:List Oper) (K:List (Kont ρ)) (E:Env) (S:Store):Prop :=
 ∀r,m=some r->Lex G S all ops E fun E'=>∀a w,Pre G E' S a w->kwp G r K .normal a w
theorem zEK {id:Nat} {ops:List Oper} (hm:G.P.follows .mixedOrders=true) (hok:zQ7 ops.toArray=true) (h:PD G m ops.toArray ops K E S) (hd:ops.all (fun o=>zE4 o.op)=true:=by rfl):PW G m (.region id ops.toArray true) K E S :=
 fun r hr _ _ hp=>zWZ hm hok (fun _ _ _=>zEG) (fun _ _=>zCw) (by simpa using hd) (h r hr) hp
theorem zCq (h:PN G m K E S):PD G m all [] K E S:=fun r hr a w hp=>h r hr a w hp
theorem zLG {α : Type} {o:Option α} {f : α -> Option ρ} {ops:List Oper} (h:∀x,o=some x->PD G (f x) all ops K E S):PD G (bnd o f) all ops K E S:=by
 intro r hr
 cases o with
 | none=>simp [bnd] at hr
 | some x=>exact h x rfl r hr
theorem Lex.congr:∀{ops:List Oper} {E E':Env} {Kf Kf':Env->Prop},(∀t,lk E t=lk E' t)->(∀E1 E2,(∀t,lk E1 t=lk E2 t)->Kf' E2->Kf E1)->Lex G S all ops E' Kf'->Lex G S all ops E Kf
 | [],E,E',Kf,Kf',h,hK,hl=>hK E E' h hl
 | o::ops,E,E',Kf,Kf',h,hK,⟨d,p,h1,h2,h3,h4⟩=>by
  have hc:∀t,lk ((d,p)::E) t=lk ((d,p)::E') t:=fun t=>by simp only [lk];rw [h t]
  refine ⟨d,p,h1,h2,fun σ φ w a hp=>h3 σ φ w a { hp with env:=fun t q hq=>?_ },Lex.congr hc hK h4⟩
  obtain ⟨g1,g2⟩:=zMC hq
  have:lk (zDn (o.looksAt all) E) t=some q:=by
   have key:∀(l:List Nat) (E:Env),t∈l->lk (zDn l E) t=lk E t:=by
    intro l E hl
    induction E with
    | nil=>rfl
    | cons x E ih =>
     obtain ⟨k,y⟩:=x
     simp only [zDn,lk]
     by_cases e:k=t
     ·subst e
      rw [any_beq.2 hl];simp [lk]
     ·rw [zA5 e]
      cases l.any (Nat.beq k)
      ·exact ih
      ·simp only [cond_true,lk];rw [zA5 e];exact ih
   rw [key _ _ g1,h t];exact g2
  exact hp.env t q this
theorem zDf {ops:List Oper} {j:Nat} {b:Bool} {m1 m2:Option ρ} (hl:lk E j=some (.v (.bool b))) (h1:PD G m1 all ops K ((j,.v (.bool true))::E) S) (h2:PD G m2 all ops K ((j,.v (.bool false))::E) S):PD G (cnd b m1 m2) all ops K E S:=by
 have key:∀(c:Bool) (m0:Option ρ),b=c->PD G m0 all ops K ((j,.v (.bool c))::E) S->PD G m0 all ops K E S:=by
  rintro c m0 rfl h r hr
  have hc:∀t,lk E t=lk ((j,.v (.bool b))::E) t:=fun t=>by
   simp only [lk]
   by_cases e:j=t
   ·subst e;simp [hl]
   ·rw [zA5 e];rfl
  exact Lex.congr hc (fun E1 E2 h12 hk a w hp=>hk a w (hp.sub fun t p hp=>(h12 t).trans hp)) (h r hr)
 cases hb:b with
 | true=>exact key true m1 hb h1
 | false=>exact key false m2 hb h2
theorem zAF {ops:List Oper} {j:Nat} {b:Bool} {m1 m2:Option ρ} (hl:lk E j=some (.v (.bool b))) (h1:PO G m1 all ops K ((j,.v (.bool true))::E) S) (h2:PO G m2 all ops K ((j,.v (.bool false))::E) S):PO G (cnd b m1 m2) all ops K E S:=by
 have key:∀(c:Bool) (m0:Option ρ),b=c->PO G m0 all ops K ((j,.v (.bool c))::E) S->PO G m0 all ops K E S:=by
  rintro c m0 rfl h r hr a w hp
  refine h r hr a w (hp.sub fun t p ht=>?_)
  rw [<- ht]
  simp only [lk]
  by_cases e:j=t
  ·subst e;simp [hl]
  ·rw [zA5 e];rfl
 cases hb:b with
 | true=>exact key true m1 hb h1
 | false=>exact key false m2 hb h2
theorem zNo {T:Tab G.P} {o:Oper} {p:PV} (h:ev1 T E S o.op=some p) {σ : Nat->Value} {φ : Nat->Nat->Prop} {w:World} {a:Act} (hp:Pre' G E S a w σ φ):zB9 G S o σ φ a w p:=by
 obtain ⟨u,hu,hru⟩:=zRB (T:=T) hp.inv hp.env h
 unfold zB9
 rw [hu]
 exact ⟨rfl,hru⟩
theorem zTD {T:Tab G.P} {α : Type} {o:Oper} (enc : α -> List PV) (xs:List α) {args:Array Operand} {tys:Array TypeId} {t:TypeId} {x:Operand} {size:Nat} {z:Nat×Nat×Nat} {full:Bool}
  (ho:o.op=.call ⟨.builtin .len,args,tys⟩) (h1:args.toList=[x]) (h2:tys.toList=[t]) (hx:ev E x=some (.sl size full (xs.map enc))) (ht:lku T.els t=some z)
  {σ : Nat->Value} {φ : Nat->Nat->Prop} {w:World} {a:Act} (hp:Pre' G E S a w σ φ):zB9 G S o σ φ a w (.v (.int .i64 (xs.length:Nat))) :=
 zNo (T:=T) (by simp only [ho,ev1,h1,h2,hx,ht,lenE,List.length_map]) hp
theorem zTC {T:Tab G.P} {α : Type} {o:Oper} (enc : α -> List PV) (xs:List α) {t:TypeId} {x ix:Operand} {size e by_:Nat} {full:Bool} {kk:IntKind} {i:Int} {y : α}
  (ho:o.op=.indexAddr t x ix) (hx:ev E x=some (.sl size full (xs.map enc))) (hi:ev E ix=some (.v (.int kk i))) (ht:lku T.els t=some (e,size,by_)) (hy:idx xs i=some y)
  {σ : Nat->Value} {φ : Nat->Nat->Prop} {w:World} {a:Act} (hp:Pre' G E S a w σ φ):zB9 G S o σ φ a w (.el (enc y) 0):=by
 have hrow:=zRV enc hy
 unfold idx at hrow
 split at hrow
 case isFalse=>simp at hrow
 rename_i h0
 obtain ⟨hel,inf,hinf,hsz,_⟩:=zC2 (T.hels _ (zA6 ht))
 obtain ⟨hiv,_⟩:=(zBI hp.env hi).flat_inv
 have hxr:=zBI hp.env hx
 generalize hu:a.eval x=u at hxr
 have hlen:i.toNat<(xs.map enc).length:=(List.getElem?_eq_some_iff.1 hrow).1
 cases hxr with
 | d hdd =>
  generalize hrows:xs.map enc=rows at *
  cases hdd with
  | nil=>simp at hrow
  | sl g h1 h2 h3 h4 h5 h6 h7 =>
   rename_i ad cap
   have hil:i<(rows.length:Int):=by omega
   have hrun:(execOp a.eval o).run G.P w=.ok (.value (.pointer (some (ad.add (i.toNat*size))))) w:=by
    simp [execOp,ho,hu,hiv,Instr.indexAt,asIntOf,run_underlying hel,h0,hil,sizeOf,typeInfo,hinf,hsz]
   unfold zB9
   rw [hrun]
   refine ⟨rfl,.d ?_⟩
   have:=RD.el (w:=w) (D:=Dof G.X φ w S) (row:=enc y) (off:=0) (a:=ad.add (i.toNat*size)) (fun j=>g (i.toNat*size+j)) (by rw [zIb];exact h4)
    (fun j c hc=>by rw [zIw];exact h6 _ _ _ _ hrow hc) (fun j c hc=>h7 _ _ _ _ hrow hc)
   simpa [Addr.add] using this
theorem zI1 {T:Tab G.P} {o:Oper} {kk:IntKind} {n y:Int} (h:zKs T E o.op=some (kk,n)) (hy:rng kk n=some y) {σ : Nat->Value} {φ : Nat->Nat->Prop} {w:World} {a:Act} (hp:Pre' G E S a w σ φ) :
  zB9 G S o σ φ a w (.v (.int kk n)):=by
 obtain ⟨rfl,hb⟩:=zPV hy
 have hrun:=zQV (P:=G.P) (w:=w) hp.env h
 rw [zSv hb] at hrun
 unfold zB9
 rw [hrun]
 exact ⟨rfl,.d (.v rfl)⟩
theorem Pre'.after {w w':World} {σ : Nat->Value} {φ : Nat->Nat->Prop} (hfr:Fr w (foot φ []) w') {E:Env} {a:Act} (hp:Pre' G E S a w σ φ):Pre' G E S a w' σ φ := by
 have hb:∀b,b<w.heap.size->w'.heap[b]? = w.heap[b]? := fun b hb=>hfr.block b hb fun ⟨n,k,h,_⟩=>by simp at h
 have hD2:∀b,Dof G.X φ w S b->Dof G.X φ w' S b/\w'.heap[b]? = w.heap[b]? := fun b ⟨h1,h2,h3⟩=>⟨⟨by have:=hfr.size;omega,h2,h3⟩,hb b h1⟩
 refine ⟨hp.dk fun b h1 _=>hb b h1,hp.size,fun t q ht=>let ⟨v,hv,hrv⟩:=hp.env t q ht;⟨v,hv,hrv.mono hD2⟩,?_,?_,hp.agree,fun b hf hlt'=>hp.new b hf hlt'⟩
 ·refine ⟨hp.inv.nodup,fun b hb'=>by have:=hp.inv.xlt b hb';have:=hfr.size;omega,fun b hf=>⟨by have:=(hp.inv.lt b hf).1;have:=hfr.size;omega,(hp.inv.lt b hf).2⟩,hp.inv.disj,fun n k hm=>?_⟩
  exact BlkOk.next hD2 (fun b hf=>hb b (hp.inv.lt b ⟨n,k,hm,hf⟩).1) (hp.inv.ok n k hm) fun _ _ _ _ _ _ _ _=>rfl
 ·exact ⟨hfr.os.trans hp.fr.os,hfr.tape.trans hp.fr.tape,hfr.output.trans hp.fr.output,by have:=hfr.size;have:=hp.fr.size;omega,fun b hb' hx=>by
   have:=hp.fr.size
   rw [hb b (by omega)];exact hp.fr.block b hb' hx⟩
theorem zQ5 {o:Oper} {f:FuncId} {args:Array Operand} {tys:Array TypeId} {qs:List PV} {p:PV} (hc:DC G.L G.P f qs p) (ho:o.op=.call ⟨.value (.func f),args,tys⟩) (ha:zH4 E args.toList qs) (he:noN p=true) (hf:zAJ G.P f=true)
  {σ : Nat->Value} {φ : Nat->Nat->Prop} {w:World} {a:Act} (hp:Pre' G E S a w σ φ):zB9 G S o σ φ a w p:=by
 have hrun:(execOp a.eval o).run G.P w=.ok (.enter f ⟨args.toList.map a.eval⟩) w:=by
  have e1:(#[]:Array Value)++args.map a.eval ++ #[]=⟨args.toList.map a.eval⟩:=Array.toList_inj.1 (by simp)
  simp only [execOp,ho,resolve,Act.eval,Deferred.ofValue,invoke,Sem.run_bind,Sem.run_pure,Result.andThen_ok]
  rw [zEs hf]
  exact congrArg (fun x=>Result.ok (Next.enter f x) w) e1
 unfold zB9
 rw [hrun]
 refine ⟨rfl,?_⟩
 have hargs:=zHf hp.env ha
 let X':Nat->Prop:=fun b=>G.X b\/foot φ S b
 have hi':Inv X' σ φ w []:=⟨by simp,fun b hb=>by
  rcases hb with hb | hb
  ·exact hp.inv.xlt b hb
  ·exact (hp.inv.lt b hb).1,fun b ⟨n,k,h,_⟩=>by simp at h,fun n m k l h=>by simp at h,fun n k h=>by simp at h⟩
 have hDD:∀b,Dof G.X φ w S b->Dof X' φ w [] b:=fun b ⟨h1,h2,h3⟩=>⟨h1,fun h=>by
  rcases h with h | ⟨n,k,h,hf⟩
  ·exact h2 h
  ·exact h3 n k h hf,fun n k h=>by simp at h⟩
 have hargs':RL σ w (Dof X' φ w []) qs (args.toList.map a.eval):=⟨hargs.1,fun i c u hc hu=>(hargs.2 i c u hc hu).mono fun b hb=>⟨hDD b hb,rfl⟩⟩
 refine (hc X' σ φ w _ (hp.laid fun _ _ ⟨n,k,h,_⟩=>by simp at h) hi' hargs').mono ?_
 rintro e w' ⟨p',S',σ',φ',u,rfl,⟨rfl,rfl⟩,hi2,hru,hfr,_,_⟩
 refine ⟨u,rfl,fun E1 a1 h1=>Pre'.after hfr h1,?_⟩
 have hnn:=he
 unfold Pw.noN at hnn
 rw [List.isEmpty_iff] at hnn
 refine (hru.agree (σ' := σ) fun n hn=>by rw [hnn] at hn;cases hn).mono fun b hb'=>⟨?_,rfl⟩
 obtain ⟨h1,h2,_⟩:=hb'
 exact ⟨h1,fun h=>h2 (.inl h),fun n k h hf=>h2 (.inr ⟨n,k,h,hf⟩)⟩
theorem zEi {o:Oper} {rest:List Oper} {p:PV} {d:Nat} (hg:gE all E o=some true) (h:∀σ φ w a,Pre' G E S a w σ φ -> zB9 G S o σ φ a w p) (hd:o.dst=some d) (hlt:Nat.blt d G.fn.ntmps=true)
  (k:PO G m all rest K ((d,p)::E) S):PO G m all (o::rest) K E S :=
 zFV hg fun r hr a w ⟨σ,φ,hp⟩=>Oper.wp_of_does hp (h σ φ w a hp) hd (zCB hlt) fun a' w' hp'=>k r hr a' w' ⟨σ,φ,hp'⟩
theorem zG1 {o:Oper} {rest:List Oper} {p:PV} {d:Nat} (hg:gE all (zDn (o.looksAt all) E) o=some true) (h:∀σ φ w a,Pre' G (zDn (o.looksAt all) E) S a w σ φ -> zB9 G S o σ φ a w p) (hd:o.dst=some d) (hlt:Nat.blt d G.fn.ntmps=true)
  (k:PD G m all rest K ((d,p)::E) S):PD G m all (o::rest) K E S:=by
 intro r hr
 refine ⟨d,p,hd,zCB hlt,fun σ φ w a hp=>?_,k r hr⟩
 rw [if_pos (zNt hp.env hg)]
 exact h σ φ w a hp
theorem zVk {o:Oper} {rest:List Oper} {d:Nat} (hg:gE all (zDn (o.looksAt all) E) o=some false) (hd:o.dst=some d) (hlt:Nat.blt d G.fn.ntmps=true) (k:PD G m all rest K ((d,.tup [])::E) S):PD G m all (o::rest) K E S:=by
 intro r hr
 refine ⟨d,.tup [],hd,zCB hlt,fun σ φ w a hp=>?_,k r hr⟩
 rw [if_neg (by rw [zNt hp.env hg];simp)]
def evsD {P:Program} (T:Tab P) (N:Nat) (all:Array Oper) (S:Store):Nat->List Oper->Env->Option (List Oper×Env)
 | 0,ops,E=>some (ops,E)
 | _+1,[],_=>none
 | k+1,o::ops,E=>match o.dst with
  | some d=>bif Nat.blt d N then (match gE all (zDn (o.looksAt all) E) o with
   | some true=>(match ev1 T (zDn (o.looksAt all) E) S o.op with
    | some p=>evsD T N all S k ops ((d,p)::E)
    | none=>none)
   | some false=>evsD T N all S k ops ((d,.tup [])::E)
   | none=>none) else none
  | none=>none
theorem zAV {T:Tab G.P} (k:Nat) {N:Nat} {ops rest:List Oper} {E':Env} (hN:N=G.fn.ntmps) (h:evsD T N all S k ops E=some (rest,E')) (hk:PD G m all rest K E' S):PD G m all ops K E S:=by
 subst hN
 induction k generalizing ops E with
 | zero=>simp [evsD] at h;obtain ⟨rfl,rfl⟩:=h;exact hk
 | succ k ih =>
  cases ops with
  | nil=>simp [evsD] at h
  | cons o ops =>
   simp only [evsD] at h
   split at h<;>try simp at h
   rename_i d hd
   cases hb:Nat.blt d G.fn.ntmps<;>simp only [hb,cond_true,cond_false] at h
   ·simp at h
   split at h<;>try simp at h
   ·split at h<;>try simp at h
    rename_i hg _ p hp
    exact zG1 hg (fun _ _ _ _=>zNo (T:=T) hp) hd hb (ih h)
   ·rename_i hg
    exact zVk hg hd hb (ih h)
theorem zGC {T:Tab G.P} {α : Type} {o:Oper} {rest:List Oper} (enc : α -> List PV) (xs:List α) {f : α -> Option ρ} {t:TypeId} {x ix:Operand} {size e by_:Nat} {full:Bool} {kk:IntKind} {i:Int} {d:Nat}
  (ho:o.op=.indexAddr t x ix) (hg:gE all (zDn (o.looksAt all) E) o=some true) (hx:ev (zDn (o.looksAt all) E) x=some (.sl size full (xs.map enc))) (hi:ev (zDn (o.looksAt all) E) ix=some (.v (.int kk i))) (ht:lku T.els t=some (e,size,by_))
  (hd:o.dst=some d) (hlt:Nat.blt d G.fn.ntmps=true) (k:∀y,idx xs i=some y->PD G (f y) all rest K ((d,.el (enc y) 0)::E) S):PD G (bnd (idx xs i) f) all (o::rest) K E S :=
 zLG fun y hy=>zG1 hg (fun _ _ _ _=>zTC (T:=T) enc xs ho hx hi ht hy) hd hlt (k y hy)
theorem zL3 {T:Tab G.P} {o:Oper} {rest:List Oper} {f:Int->Option ρ} {kk:IntKind} {n:Int} {d:Nat} (hg:gE all (zDn (o.looksAt all) E) o=some true) (h:zKs T (zDn (o.looksAt all) E) o.op=some (kk,n)) (hd:o.dst=some d)
  (hlt:Nat.blt d G.fn.ntmps=true) (k:∀y,rng kk n=some y->PD G (f y) all rest K ((d,.v (.int kk y))::E) S):PD G (bnd (rng kk n) f) all (o::rest) K E S :=
 zLG fun y hy=>zG1 hg (fun _ _ _ _=>zI1 (T:=T) h hy) hd hlt (by have e:=(zPV hy).1;subst e;exact k _ hy)
theorem zAI {T:Tab G.P} {o:Oper} {rest:List Oper} {f:Int->Option ρ} {kk:IntKind} {n:Int} {d:Nat} (hg:gE all E o=some true) (h:zKs T E o.op=some (kk,n)) (hd:o.dst=some d)
  (hlt:Nat.blt d G.fn.ntmps=true) (k:∀y,rng kk n=some y->PO G (f y) all rest K ((d,.v (.int kk y))::E) S):PO G (bnd (rng kk n) f) all (o::rest) K E S :=
 zGD fun y hy=>zEi hg (fun _ _ _ _=>zI1 (T:=T) h hy) hd hlt (by have e:=(zPV hy).1;subst e;exact k _ hy)
theorem pd_len {T:Tab G.P} {α : Type} {o:Oper} {rest:List Oper} (enc : α -> List PV) (xs:List α) {args:Array Operand} {tys:Array TypeId} {t:TypeId} {x:Operand} {size:Nat} {z:Nat×Nat×Nat} {full:Bool} {d:Nat}
  (ho:o.op=.call ⟨.builtin .len,args,tys⟩) (h1:args.toList=[x]) (h2:tys.toList=[t]) (hg:gE all (zDn (o.looksAt all) E) o=some true) (hx:ev (zDn (o.looksAt all) E) x=some (.sl size full (xs.map enc))) (ht:lku T.els t=some z)
  (hd:o.dst=some d) (hlt:Nat.blt d G.fn.ntmps=true) (k:PD G m all rest K ((d,.v (.int .i64 (xs.length:Nat)))::E) S):PD G m all (o::rest) K E S :=
 zG1 hg (fun _ _ _ _=>zTD (T:=T) enc xs ho h1 h2 hx ht) hd hlt k
theorem zVj {α : Type} {o:Oper} {rest:List Oper} {f:FuncId} {args:Array Operand} {tys:Array TypeId} {qs:List PV} {d:Nat} {M:Option α} {enc : α -> PV} {g : α -> Option ρ}
  (hc:∀y,M=some y->DC G.L G.P f qs (enc y)) (ho:o.op=.call ⟨.value (.func f),args,tys⟩) (hg:gE all (zDn (o.looksAt all) E) o=some true) (ha:zH4 (zDn (o.looksAt all) E) args.toList qs) (he:∀y,noN (enc y)=true) (hf:zAJ G.P f=true)
  (hd:o.dst=some d) (hlt:Nat.blt d G.fn.ntmps=true) (k:∀y,M=some y->PD G (g y) all rest K ((d,enc y)::E) S):PD G (bnd M g) all (o::rest) K E S :=
 zLG fun y hy=>zG1 hg (fun _ _ _ _=>zQ5 (hc y hy) ho ha (he y) hf) hd hlt (k y hy)
theorem zMg {T:Tab G.P} {α : Type} {o:Oper} (enc : α -> List PV) (xs:List α) {args:Array Operand} {tys:Array TypeId} {t:TypeId} {x:Operand} {n e size:Nat} {z:Nat×Nat×Nat}
  (ho:o.op=.call ⟨.builtin .len,args,tys⟩) (h1:args.toList=[x]) (h2:tys.toList=[t]) (hx:ev E x=some (.own n)) (hb:lkS S n=some (.arr e size (xs.map enc))) (ht:lku T.els t=some z)
  {σ : Nat->Value} {φ : Nat->Nat->Prop} {w:World} {a:Act} (hp:Pre' G E S a w σ φ):zB9 G S o σ φ a w (.v (.int .i64 (xs.length:Nat))) :=
 zNo (T:=T) (by simp only [ho,ev1,h1,h2,hx,ht,lenE,hb,List.length_map]) hp
theorem zDK {T:Tab G.P} {α : Type} {o:Oper} {rest:List Oper} (enc : α -> List PV) (xs:List α) {args:Array Operand} {tys:Array TypeId} {t:TypeId} {x:Operand} {n e size:Nat} {z:Nat×Nat×Nat} {d:Nat}
  (ho:o.op=.call ⟨.builtin .len,args,tys⟩) (h1:args.toList=[x]) (h2:tys.toList=[t]) (hg:gE all E o=some true) (hx:ev E x=some (.own n)) (hb:lkS S n=some (.arr e size (xs.map enc))) (ht:lku T.els t=some z)
  (hd:o.dst=some d) (hlt:Nat.blt d G.fn.ntmps=true) (k:PO G m all rest K ((d,.v (.int .i64 (xs.length:Nat)))::E) S):PO G m all (o::rest) K E S :=
 zEi hg (fun _ _ _ _=>zMg (T:=T) enc xs ho h1 h2 hx hb ht) hd hlt k
def chr (s:List UInt8) (i:Int):Option Int:=if 0<=i then (s[i.toNat]?).map fun b=>(b.toNat:Int) else none
theorem zOm {T:Tab G.P} {o:Oper} {t:TypeId} {x ix:Operand} {s:List UInt8} {kk:IntKind} {i y:Int} (ho:o.op=.index t x ix) (hx:ev E x=some (.v (.string ⟨⟨s⟩⟩))) (hi:ev E ix=some (.v (.int kk i))) (ht:lku T.bases t=some .string)
  (hy:chr s i=some y) {σ : Nat->Value} {φ : Nat->Nat->Prop} {w:World} {a:Act} (hp:Pre' G E S a w σ φ):zB9 G S o σ φ a w (.v (.int .u8 y)):=by
 obtain ⟨hxv,_⟩:=(zBI hp.env hx).flat_inv
 obtain ⟨hiv,_⟩:=(zBI hp.env hi).flat_inv
 unfold chr at hy
 split at hy
 case isFalse=>simp at hy
 rename_i h0
 simp only [Option.map_eq_some_iff] at hy
 obtain ⟨b,hb,rfl⟩:=hy
 have hs:(⟨⟨s⟩⟩:ByteArray)[i.toNat]? = some b:=by
  have hlt:=(List.getElem?_eq_some_iff.1 hb).1
  have hlt':i.toNat<(⟨⟨s⟩⟩:ByteArray).size:=hlt
  rw [getElem?_pos (⟨⟨s⟩⟩:ByteArray) i.toNat hlt']
  rw [List.getElem?_eq_getElem hlt] at hb
  simp only [Option.some.injEq] at hb
  rw [<- hb];rfl
 have hrun:(execOp a.eval o).run G.P w=.ok (.value (.int .u8 b.toNat)) w:=by
  simp [execOp,ho,hxv,hiv,Instr.index,asIntOf,run_underlying (zEB (T.hbases _ (zA6 ht))),h0,hs]
 unfold zB9
 rw [hrun]
 exact ⟨rfl,.d (.v rfl)⟩
theorem zBZ {T:Tab G.P} {o:Oper} {rest:List Oper} {t:TypeId} {x ix:Operand} {s:List UInt8} {kk:IntKind} {i:Int} {f:Int->Option ρ} {d:Nat} (ho:o.op=.index t x ix) (hg:gE all E o=some true) (hx:ev E x=some (.v (.string ⟨⟨s⟩⟩)))
  (hi:ev E ix=some (.v (.int kk i))) (ht:lku T.bases t=some .string) (hd:o.dst=some d) (hlt:Nat.blt d G.fn.ntmps=true) (k:∀y,chr s i=some y->PO G (f y) all rest K ((d,.v (.int .u8 y))::E) S):PO G (bnd (chr s i) f) all (o::rest) K E S :=
 zGD fun y hy=>zEi hg (fun _ _ _ _=>zOm (T:=T) ho hx hi ht hy) hd hlt (k y hy)
theorem zGo {T:Tab G.P} {o:Oper} {rest:List Oper} {t:TypeId} {x ix:Operand} {s:List UInt8} {kk:IntKind} {i:Int} {f:Int->Option ρ} {d:Nat} (ho:o.op=.index t x ix) (hg:gE all (zDn (o.looksAt all) E) o=some true) (hx:ev (zDn (o.looksAt all) E) x=some (.v (.string ⟨⟨s⟩⟩)))
  (hi:ev (zDn (o.looksAt all) E) ix=some (.v (.int kk i))) (ht:lku T.bases t=some .string) (hd:o.dst=some d) (hlt:Nat.blt d G.fn.ntmps=true) (k:∀y,chr s i=some y->PD G (f y) all rest K ((d,.v (.int .u8 y))::E) S):PD G (bnd (chr s i) f) all (o::rest) K E S :=
 zLG fun y hy=>zG1 hg (fun _ _ _ _=>zOm (T:=T) ho hx hi ht hy) hd hlt (k y hy)
theorem zBi {α : Type} {c:Code} (J : α -> Option ρ) (Ej : α -> Env) (Sj : α -> Store) (hj:∀x,PN G (J x) K (Ej x) (Sj x)) (h:(∀x,PN G (J x) K (Ej x) (Sj x))->PW G m c K E S):PW G m c K E S:=h hj
theorem zL5 {α : Type} {ops:List Oper} (J : α -> Option ρ) (Ej : α -> Env) (Sj : α -> Store) (hj:∀x,PN G (J x) K (Ej x) (Sj x)) (h:(∀x,PN G (J x) K (Ej x) (Sj x))->PO G m all ops K E S):PO G m all ops K E S:=h hj
theorem zD2 {α : Type} {ops:List Oper} {t:Operand} {x y:Code} (J : α -> Option ρ) (Ej : α -> Env) (Sj : α -> Store) (hj:∀z,PN G (J z) K (Ej z) (Sj z)) (h:(∀z,PN G (J z) K (Ej z) (Sj z))->PO G m all ops (.seq (.cond t x y)::K) E S):PO G m all ops (.seq (.cond t x y)::K) E S:=h hj
theorem zTh {α : Type} {ops:List Oper} {t:Operand} {x y:Code} (J : α -> Option ρ) (Ej : α -> Env) (Sj : α -> Store) (hj:∀z,PN G (J z) K (Ej z) (Sj z)) (h:(∀z,PN G (J z) K (Ej z) (Sj z))->PD G m all ops (.seq (.cond t x y)::K) E S):PD G m all ops (.seq (.cond t x y)::K) E S:=h hj
theorem zTl {α : Type} {ops:List Oper} {t:Operand} {x y:Code} (J : α -> Option ρ) (Ej : α -> Env) (Sj : α -> Store) (hj:∀z,PW G (J z) x K (Ej z) (Sj z)) (h:(∀z,PW G (J z) x K (Ej z) (Sj z))->PO G m all ops (.seq (.cond t x y)::K) E S):PO G m all ops (.seq (.cond t x y)::K) E S:=h hj
theorem zTm {α : Type} {ops:List Oper} {t:Operand} {x y:Code} (J : α -> Option ρ) (Ej : α -> Env) (Sj : α -> Store) (hj:∀z,PW G (J z) y K (Ej z) (Sj z)) (h:(∀z,PW G (J z) y K (Ej z) (Sj z))->PO G m all ops (.seq (.cond t x y)::K) E S):PO G m all ops (.seq (.cond t x y)::K) E S:=h hj
theorem zAQ {t:Operand} {x y:Code} (hl:ev E t=some (.v (.bool true))) (h:PW G m x K E S):PW G m (.cond t x y) K E S:=zOH hl (fun _=>h) fun e=>by cases e
theorem zAZ {t:Operand} {x y:Code} (hl:ev E t=some (.v (.bool false))) (h:PW G m y K E S):PW G m (.cond t x y) K E S:=zOH hl (fun e=>by cases e) fun _=>h
def zFR:Store->Store->Prop
 | [],_=>True
 | (n,k)::S',S=>lkS S n=some k/\zFR S' S
def zCV:List Nat->Bool
 | []=>true
 | n::l => !l.any (Nat.beq n)&&zCV l
theorem zIi {l:List Nat} (h:zCV l=true):l.Nodup:=by
 induction l with
 | nil=>simp
 | cons n l ih =>
  simp only [zCV,Bool.and_eq_true,Bool.not_eq_true'] at h
  rw [List.nodup_cons]
  exact ⟨fun hm=>by rw [any_beq.2 hm] at h;exact absurd h.1 (by simp),ih h.2⟩
theorem zCd {S' S:Store} (h:zFR S' S) (hn:zCV (S'.map (·.1))=true):SubS S' S:=by
 refine ⟨?_,zIi hn⟩
 clear hn
 induction S' with
 | nil=>intro x hx;cases hx
 | cons y S' ih =>
  obtain ⟨n,k⟩:=y
  intro x hx
  rcases List.mem_cons.1 hx with e | hx
  ·subst e;exact zBN h.1
  ·exact ih h.2 x hx
theorem zKd {E':Env} {S':Store} {c:Code} (h:PW G m c K E' S') (hE:SubL E' E) (hS:zFR S' S) (hn:zCV (S'.map (·.1))=true):PW G m c K E S:=pw_sub hE (zSC (zCd hS hn) h)
theorem zRv {E':Env} {S':Store} (h:PN G m K E' S') (hE:SubL E' E) (hS:zFR S' S) (hn:zCV (S'.map (·.1))=true):PN G m K E S:=pn_sub hE (zRw (zCd hS hn) h)
theorem zTr {α : Type} (M:Nat -> α -> Option ρ) (Ef : α -> Env) (Sf : α -> Store) (n:Nat) (x : α) {body:Code} (h0:∀x,M 0 x=none) (hE:SubL (Ef x) E) (hS:zFR (Sf x) S) (hn:zCV ((Sf x).map (·.1))=true)
  (hb:∀n x,PW G (M (n+1) x) body (.iter (Head G (M n) Ef Sf)::K) (Ef x) (Sf x)):PW G (M n x) (.loop body) K E S:=zSC (zCd hS hn) (zVx M Ef Sf h0 hb n x hE)
theorem zAW {α : Type} {M : α -> Option ρ} {Ef : α -> Env} {Sf : α -> Store} (x : α) (hE:SubL (Ef x) E) (hS:zFR (Sf x) S) (hn:zCV ((Sf x).map (·.1))=true):PN G (M x) (.iter (Head G M Ef Sf)::K) E S:=zRw (zCd hS hn) (zVl x hE)
def resP {P:Program} (T:Tab P) (E:Env) (S:Store):ResultVar->Option PV
 | .tmp t=>lk E t
 | .cell x t=>match lku T.tys t,lk E x with
  | some (g,n),some p=>(match zF8 S p with
   | some cs=>zIG g n cs
   | none=>none)
  | _,_=>none
def resL {P:Program} (T:Tab P) (E:Env) (S:Store):List ResultVar->Option (List PV)
 | []=>some []
 | r::l=>match resP T E S r with
  | some p=>(match resL T E S l with
   | some ps=>some (p::ps)
   | none=>none)
  | none=>none
def oneP:List PV->PV
 | [p]=>p
 | ps=>.tup ps
def resV (tmps:Array Value):ResultVar->Sem Value
 | .tmp t=>Pure.pure (tmps.getD t undef)
 | .cell a t=>do loadVar t (<- asAddr (tmps.getD a undef))
theorem zLN (fn:Func) (tmps:Array Value):results fn tmps=(do
  let vs <- fn.results.mapM (resV tmps)
  pure (if h:vs.size=1 then vs[0] else .tuple vs)):=by
 unfold results
 have:(fun (x:ResultVar)=>match x with
  | .tmp t=>(Pure.pure (tmps.getD t undef):Sem Value)
  | .cell a t=>do loadVar t (<- asAddr (tmps.getD a undef)))=resV tmps:=by
  funext r;cases r<;>rfl
 rw [<- this]
 rfl
theorem zOL {P:Program} {T:Tab P} {X:Nat->Prop} {σ : Nat->Value} {φ : Nat->Nat->Prop} {w:World} {tmps:Array Value} (hi:Inv X σ φ w S) (hE:InvE σ w (Dof X φ w S) E tmps):∀{l:List ResultVar} {ps:List PV},resL T E S l=some ps ->
  ∃us:List Value,(l.mapM (resV tmps)).run P w=Result.ok us w/\RL σ w (Dof X φ w S) ps us
 | [],ps,h=>by simp [resL] at h;subst h;exact ⟨[],rfl,rfl,fun i c u hc=>by simp at hc⟩
 | r::l,ps,h=>by
  simp only [resL] at h
  split at h<;>try simp at h
  rename_i p hp
  split at h<;>simp at h
  rename_i qs hqs
  subst h
  obtain ⟨us,h1,h2,h3⟩:=zOL hi hE hqs
  have key:∀u,(resV tmps r).run P w=Result.ok u w->R σ w (Dof X φ w S) p u->∃us:List Value,((r::l).mapM (resV tmps)).run P w=Result.ok us w/\RL σ w (Dof X φ w S) (p::qs) us:=by
   intro u hu hr
   refine ⟨u::us,?_,by simp [h2],fun i c x hc hx=>?_⟩
   ·rw [List.mapM_cons,Sem.run_bind,hu,Result.andThen_ok,Sem.run_bind,h1];rfl
   ·cases i with
    | zero=>simp at hc hx;subst hc hx;exact hr
    | succ i=>exact h3 i c x (by simpa using hc) (by simpa using hx)
  cases r with
  | tmp t =>
   obtain ⟨u,hu,hr⟩:=hE t p hp
   have e:tmps.getD t undef=u:=by simp only [Array.getD_eq_getD_getElem?,hu,Option.getD_some]
   exact key u (by simp [resV,e]) hr
  | cell x t =>
   simp only [resP] at hp
   split at hp<;>try simp at hp
   rename_i g n q ht hq
   split at hp<;>try simp at hp
   rename_i cs hcs
   obtain ⟨v,hv,hrv⟩:=hE x q hq
   have e:tmps.getD x undef=v:=by simp only [Array.getD_eq_getD_getElem?,hv,Option.getD_some]
   obtain ⟨u,hu,hr⟩:=zN3 hi (T.htys _ (zA6 ht)) hrv hcs hp
   refine key u ?_ hr
   obtain ⟨ad,had,_⟩:=zKx hi hcs hrv
   subst had
   simp only [resV,e,asAddr]
   simpa [Instr.loadAt,Instr.sureAddr] using hu
theorem zOI {T:Tab G.P} {r : ρ} {S':Store} {rs:List ResultVar} {ps:List PV} {p:PV} (hres:G.fn.results.toList=rs) (h:resL T E S rs=some ps) (hp1:oneP ps=p) (hpost:G.post r p S') (hS:zFR S' S) (hn:zCV (S'.map (·.1))=true) (hz:G.dz=G.w0.heap.size+1:=by rfl) (hK:noL K=true:=by rfl):PW G (some r) .ret K E S:=by
 intro r' hr a w0 ⟨σ,φ,hp0⟩
 cases hr
 refine wpIn_ret (zKP hK ?_)
 obtain ⟨w,hlv,hp⟩:=hp0.shut hz
 obtain ⟨us,h1,h2,h3⟩:=zOL hp.inv hp.env h
 obtain ⟨i1,i2,i3⟩:=hp.inv.sub (zCd hS hn)
 have hm:(G.fn.results.mapM (resV a.tmps)).run G.P w=.ok ⟨us⟩ w:=by
  rw [Array.mapM_eq_mapM_toList,hres,Sem.run_map,h1];rfl
 have fin:∃u,(results G.fn a.tmps).run G.P w=.ok u w/\R σ w (Dof G.X φ w S) p u:=by
  rw [zLN,Sem.run_bind,hm]
  match ps,us,h2,h3,hp1 with
  | [q],[u],_,h3,hp1=>exact ⟨u,rfl,by rw [<- hp1];exact h3 0 q u rfl rfl⟩
  | [],[],h2,h3,hp1=>exact ⟨.tuple ⟨[]⟩,rfl,by rw [<- hp1];exact .tup rfl fun i c u hc=>by simp at hc⟩
  | q1::q2::qs,u1::u2::us,h2,h3,hp1=>exact ⟨.tuple ⟨u1::u2::us⟩,by simp,by rw [<- hp1];exact .tup h2 h3⟩
 obtain ⟨u,hu,hr⟩:=fin
 exact hlv _ ⟨u,hu,p,S',σ,φ,u,rfl,hpost,i1,hr.mono fun b hb=>⟨i2 b hb,rfl⟩,hp.fr,hp.agree,fun b hb=>hp.new b (i3 b hb)⟩
theorem zFc {T:Tab G.P} {r : ρ} {S':Store} {rs:List ResultVar} {ps:List PV} {p:PV} (hres:G.fn.results.toList=rs) (h:resL T E S rs=some ps) (hp1:oneP ps=p) (hpost:G.post r p S') (hS:zFR S' S) (hn:zCV (S'.map (·.1))=true) (hz:G.dz=G.w0.heap.size+1:=by rfl):PN G (some r) [] E S:=by
 intro r' hr a w0 ⟨σ,φ,hp0⟩
 cases hr
 show kwp G r [] .ret a w0
 obtain ⟨w,hlv,hp⟩:=hp0.shut hz
 obtain ⟨us,h1,h2,h3⟩:=zOL hp.inv hp.env h
 obtain ⟨i1,i2,i3⟩:=hp.inv.sub (zCd hS hn)
 have hm:(G.fn.results.mapM (resV a.tmps)).run G.P w=.ok ⟨us⟩ w:=by
  rw [Array.mapM_eq_mapM_toList,hres,Sem.run_map,h1];rfl
 have fin:∃u,(results G.fn a.tmps).run G.P w=.ok u w/\R σ w (Dof G.X φ w S) p u:=by
  rw [zLN,Sem.run_bind,hm]
  match ps,us,h2,h3,hp1 with
  | [q],[u],_,h3,hp1=>exact ⟨u,rfl,by rw [<- hp1];exact h3 0 q u rfl rfl⟩
  | [],[],h2,h3,hp1=>exact ⟨.tuple ⟨[]⟩,rfl,by rw [<- hp1];exact .tup rfl fun i c u hc=>by simp at hc⟩
  | q1::q2::qs,u1::u2::us,h2,h3,hp1=>exact ⟨.tuple ⟨u1::u2::us⟩,by simp,by rw [<- hp1];exact .tup h2 h3⟩
 obtain ⟨u,hu,hr⟩:=fin
 exact hlv _ ⟨u,hu,p,S',σ,φ,u,rfl,hpost,i1,hr.mono fun b hb=>⟨i2 b hb,rfl⟩,hp.fr,hp.agree,fun b hb=>hp.new b (i3 b hb)⟩
theorem zR2 {t:Nat} {p q:PV} (hl:lk E t=some p) (hc:Coe p q) {a:Act} {w:World}:Pre G E S a w->Pre G ((t,q)::E) S a w:=by
 rintro ⟨σ,φ,h⟩
 refine ⟨σ,φ,{ h with env:=fun t' p' ht=>?_ }⟩
 simp only [lk] at ht
 by_cases e:t=t'
 ·subst e
  simp at ht;subst ht
  obtain ⟨u,hu,hr⟩:=h.env t p hl
  exact ⟨u,hu,hr.coe hc⟩
 ·simp only [zA5 e,cond_false] at ht
  exact h.env t' p' ht
theorem zJR {ops:List Oper} (t:Nat) {p q:PV} (hl:lk E t=some p) (hc:Coe p q) (k:PO G m all ops K ((t,q)::E) S):PO G m all ops K E S:=fun r hr a w hp=>k r hr a w (zR2 hl hc hp)
theorem zSA {c:Code} (t:Nat) {p q:PV} (hl:lk E t=some p) (hc:Coe p q) (k:PW G m c K ((t,q)::E) S):PW G m c K E S:=fun r hr a w hp=>k r hr a w (zR2 hl hc hp)
theorem zL6 {n ty:Nat} {cs ds:List PV} {S':Store} (hb:lkS S n=some (.box ty cs)) (hc:CoeL cs ds) (hS:setS n (.box ty ds) S=some S') {a:Act} {w:World}:Pre G E S a w->Pre G E S' a w:=by
 intro ⟨σ,φ,hp⟩
 have hm:=zBN hb
 refine ⟨σ,φ,hp.turn hm hS rfl (fun _ _=>rfl) rfl rfl rfl fun D' hD=>?_⟩
 rcases hp.inv.ok n _ hm with hbk | hw
 rotate_left
 ·refine .inr (hw.map (zJg hc).symm (fun s r x h=>?_) (fun i c c' u h1 h2 hr=>?_) (fun p u hr=>hr.mono hD) fun _ _=>rfl)
  ·exact zS9 hc h
  ·obtain ⟨c0,g1,g2⟩:=zLi hc i c' h2
   rw [h1] at g1;cases g1
   exact (hr.coe1 g2).mono hD
 obtain ⟨b,us,h1,h2,h3,h4,h5⟩:=hbk
 refine .inl ⟨b,us,h1,h2,by rw [h3,zJg hc],h4,fun i c u hi hu=>?_⟩
 obtain ⟨c0,g1,g2⟩:=zLi hc i c hi
 exact ((h5 i c0 u g1 hu).coe1 g2).mono hD
theorem zOA {ops:List Oper} (n:Nat) {ty:Nat} {cs:List PV} (ds:List PV) {S':Store} (hb:lkS S n=some (.box ty cs)) (hc:CoeL cs ds) (hS:setS n (.box ty ds) S=some S') (k:PO G m all ops K E S'):PO G m all ops K E S:=fun r hr a w hp=>k r hr a w (zL6 hb hc hS hp)
theorem zGW (n:Nat) {ty:Nat} {cs:List PV} (ds:List PV) {S':Store} (hb:lkS S n=some (.box ty cs)) (hc:CoeL cs ds) (hS:setS n (.box ty ds) S=some S') (k:PN G m K E S'):PN G m K E S:=fun r hr a w hp=>k r hr a w (zL6 hb hc hS hp)
theorem zEk {c:Code} (n:Nat) {ty:Nat} {cs:List PV} (ds:List PV) {S':Store} (hb:lkS S n=some (.box ty cs)) (hc:CoeL cs ds) (hS:setS n (.box ty ds) S=some S') (k:PW G m c K E S'):PW G m c K E S:=fun r hr a w hp=>k r hr a w (zL6 hb hc hS hp)
theorem zLk {T:Tab G.P} {α : Type} {o:Oper} (enc : α -> List PV) (xs:List α) (x0 : α) {t:TypeId} {x:Operand} {n size i off e sz:Nat} {g:Bool} {q:PV} (h0:xs[i]? = some x0) (ho:o.op=.load t x) (hx:ev E x=some (.ela n size i off))
  (hb:lkS S n=some (.arr e size (xs.map enc))) (ht:lku T.tys t=some (g,sz)) (hq:zIG g sz ((enc x0).drop off)=some q) {σ : Nat->Value} {φ : Nat->Nat->Prop} {w:World} {a:Act} (hp:Pre' G E S a w σ φ):zB9 G S o σ φ a w q:=by
 have hcs:zF8 S (.ela n size i off)=some ((enc x0).drop off):=by
  simp only [zF8,hb,Nat.beq_refl,cond_true]
  rw [show (xs.map enc)[i]? = some (enc x0) by simp [h0]]
 obtain ⟨z,h1,h2⟩:=zN3 hp.inv (T.htys _ (zA6 ht)) (zBI hp.env hx) hcs hq
 unfold zB9
 rw [show (execOp a.eval o).run G.P w=.ok (.value z) w by simp [execOp,ho,h1]]
 exact ⟨rfl,h2⟩
theorem zG3 {T:Tab G.P} {α : Type} {o:Oper} {rest:List Oper} (enc : α -> List PV) (xs:List α) (x0 : α) {t:TypeId} {x:Operand} {n size i off e sz:Nat} {g:Bool} {q:PV} {d:Nat} (h0:xs[i]? = some x0) (ho:o.op=.load t x) (hg:gE all E o=some true) (hx:ev E x=some (.ela n size i off))
  (hb:lkS S n=some (.arr e size (xs.map enc))) (ht:lku T.tys t=some (g,sz)) (hq:zIG g sz ((enc x0).drop off)=some q) (hd:o.dst=some d) (hlt:Nat.blt d G.fn.ntmps=true) (k:PO G m all rest K ((d,q)::E) S):PO G m all (o::rest) K E S :=
 zEi hg (fun _ _ _ _ hp=>zLk (T:=T) enc xs x0 h0 ho hx hb ht hq hp) hd hlt k
theorem zJK {α : Type} {l:List α} {i:Int} {x : α} (h:idx l i=some x):l[i.toNat]? = some x:=by unfold idx at h;split at h;exact h;cases h
end
end Go.Pw
