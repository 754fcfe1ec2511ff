/- Ranges over a program's own iterators. No program is named here. -/
import Derived.Test.YtoboimmgglnjfaaGreatDoorLine
namespace Go.Pw
open Go
structure SideOk {A:Type} (L:World->Prop) (P:Program) (l:Nat) (args:A->List PV) (J:Option (List A)->(Nat->Prop)->(Nat->Prop)->World->Prop):Prop where
 xlt:∀{st X B W},J st X B W->∀b,X b->b<W.heap.size
 lay:∀{st X B W},J st X B W->Lay L (fun b=>¬B b) W
 own:∀{st X B B1 W W1},J st X B W->Fr W B W1->(∀b,B1 b->(B b\/W.heap.size<=b)/\b<W1.heap.size)->J st X B1 W1
 yield:∀{y ys X B W us},J (some (y::ys)) X B W->RL (fun _=>undef) W (fun b=>b<W.heap.size/\¬X b/\¬B b) (args y) us ->
  YieldAt Fence.wide 0 P l ⟨us⟩ W fun e W'=>(e=.returned (.bool true)/\∃X',J (some ys) X' B W'/\W.heap.size<=W'.heap.size/\∀b,b<W.heap.size->¬X b->¬X' b/\W'.heap[b]? = W.heap[b]?) \/
   (e=.returned (.bool false)/\∃X',J none X' (fun _=>False) W')
def PreY {A:Type} (fn:Func) (J:Option (List A)->(Nat->Prop)->(Nat->Prop)->World->Prop) (st:Option (List A)) (E:Env) (S:Store) (a:Act) (w:World):Prop :=
 ∃X σ φ,J st X (foot φ S) w/\Inv X σ φ w S/\InvE σ w (Dof X φ w S) E a.tmps/\a.tmps.size=fn.ntmps/\a.defers=[]
abbrev CtY (ρ : Type) (P:Program) (fn:Func) (L:World->Prop) (w0:World) (X X0:Nat->Prop) (σ0:Nat->Value) (hl:Lay L (fun b=>¬X0 b) w0):Ctx ρ := ⟨P,fn,w0,X,X0,σ0,[],fun _ _ _=>True,0,L,hl,none⟩
abbrev KY {ρ : Type} (G:Ctx ρ) (E1 : ρ -> Env) (S1 : ρ -> Store):List (Kont ρ):=[.loopK (fun r a w=>Pre G (E1 r) (S1 r) a w) (fun _ _ _=>False)]
theorem zHC {ρ : Type} {G:Ctx ρ} {r : ρ} {E1 : ρ -> Env} {S1 : ρ -> Store} {E':Env} {S':Store} (hE:SubL (E1 r) E') (hS:zFR (S1 r) S') (hn:zCV ((S1 r).map (·.1))=true):PN G (some r) (KY G E1 S1) E' S':=by
 intro r hr a w hp
 cases hr
 obtain ⟨σ,φ,hp⟩:=zFv (zCd hS hn) hp
 exact ⟨σ,φ,{ hp with env:=fun t p ht=>hp.env t p (zG6 hE t p ht) }⟩
section yrules
variable {A:Type} {P:Program} {L:World->Prop} {l:Nat} {args:A->List PV} {J:Option (List A)->(Nat->Prop)->(Nat->Prop)->World->Prop} {fn:Func} {st:Option (List A)}
 {E:Env} {S:Store} {a:Act} {w:World}
theorem PreY.pre {ρ : Type} (hY:SideOk L P l args J) (h:PreY fn J st E S a w):∃X X0 σ hl,Pre (CtY ρ P fn L w X X0 σ hl) E S a w /\
  ∀{E1 S1 a1 w1},Pre (CtY ρ P fn L w X X0 σ hl) E1 S1 a1 w1->PreY fn J st E1 S1 a1 w1:=by
 obtain ⟨X,σ,φ,hJ,hi,he,hs,hd⟩:=h
 refine ⟨X,foot φ S,σ,hY.lay hJ,⟨σ,φ,by rw [hd];exact DOk.nil _ _,hs,he,hi,Fr.refl _ _,fun _ _=>rfl,fun b h _=>h⟩,?_⟩
 rintro E1 S1 a1 w1 ⟨σ1,φ1,hp⟩
 exact ⟨X,σ1,φ1,hY.own hJ hp.fr fun b hb=>⟨Classical.byContradiction fun hn=>hn (by
  by_cases hl:b<w.heap.size
  ·exact .inl (hp.new b hb hl)
  ·exact .inr (by omega)),(hp.inv.lt b hb).1⟩,hp.inv,hp.env,hp.size,hp.defers.none⟩
theorem zJW {ρ : Type} {m:Option ρ} {r : ρ} {c:Code} {E1 : ρ -> Env} {S1 : ρ -> Store} {Q:Exit->Act->World->Prop} (hY:SideOk L P l args J)
  (h:∀w0 X X0 σ0 hl,PW (CtY ρ P fn L w0 X X0 σ0 hl) m c (KY (CtY ρ P fn L w0 X X0 σ0 hl) E1 S1) E S) (hm:m=some r) (hp:PreY fn J st E S a w)
  (k:∀a w,PreY fn J st (E1 r) (S1 r) a w->Q .normal a w):c.wpIn (FR none) 0 P Q a w:=by
 obtain ⟨X,X0,σ,hl,hpre,hback⟩:=hp.pre (ρ := ρ) hY
 refine wpIn_mono (h w X X0 σ hl r hm a w hpre) fun e a1 w1 hq=>?_
 cases e with
 | normal=>exact k a1 w1 (hback hq)
 | _=>exact False.elim hq
theorem zMS {ρ : Type} {m:Option ρ} {r : ρ} {all:Array Oper} {l1 l2:List Oper} {E1 : ρ -> Env} {S1 : ρ -> Store} {Q:Exit->Act->World->Prop} (hY:SideOk L P l args J)
  (h:∀w0 X X0 σ0 hl,PO (CtY ρ P fn L w0 X X0 σ0 hl) m all l1 (KY (CtY ρ P fn L w0 X X0 σ0 hl) E1 S1) E S) (hm:m=some r) (hd:l1.all (fun o=>zE4 o.op)=true) (hp:PreY fn J st E S a w)
  (k:∀a w,PreY fn J st (E1 r) (S1 r) a w->wpListIn (FR none) 0 P all Q l2 a w):wpListIn (FR none) 0 P all Q (l1++l2) a w:=by
 obtain ⟨X,X0,σ,hl,hpre,hback⟩:=hp.pre (ρ := ρ) hY
 exact zLr (ro:=none) (n:=0) (Q:=kwp (CtY ρ P fn L w X X0 σ hl) r (KY (CtY ρ P fn L w X X0 σ hl) E1 S1)) (fun _ _ _=>zEG) (fun _ _=>zCw) (fun a1 w1 hq=>k a1 w1 (hback hq)) hd (h w X X0 σ hl r hm a w hpre)
theorem PreY.sub {E1:Env} (hE:SubL E1 E):PreY fn J st E S a w->PreY fn J st E1 S a w :=
 fun ⟨X,σ,φ,hJ,hi,he,hs,hd⟩=>⟨X,σ,φ,hJ,hi,fun t p h=>he t p (zG6 hE t p h),hs,hd⟩
theorem PreY.eval {t:Nat} {u:Value} (h:PreY fn J st E S a w) (ht:lk E t=some (.v u)):a.eval (.tmp t)=u:=by
 obtain ⟨X,σ,φ,hJ,hi,he,hs,hd⟩:=h
 obtain ⟨v,hv,hr⟩:=he t _ ht
 rw [hr.flat_inv.1] at hv
 simp only [Act.eval,Array.getD_eq_getD_getElem?,hv,Option.getD_some]
theorem PreY.len {t size:Nat} {full:Bool} {rows:List (List PV)} (h:PreY fn J st E S a w) (ht:lk E t=some (.sl size full rows)):rows.length<=9223372036854775807:=by
 obtain ⟨X,σ,φ,hJ,hi,he,hs,hd⟩:=h
 obtain ⟨v,hv,hr⟩:=he t _ ht
 exact sl_len (hr.toRD rfl)
def zRK:Env->Bool
 | []=>true
 | (_,.v (.bool _))::E | (_,.v (.int _ _))::E=>zRK E
 | _::_=>false
theorem zOq:∀{E:Env} {t:Nat} {p:PV},zRK E=true->lk E t=some p->∃u,p=.v u/\∀(w:World) (D:Nat->Prop),RD w D (.v u) u
 | [],t,p,_,h=>by simp [lk] at h
 | (t0,q)::E,t,p,hf,h=>by
  simp only [lk] at h
  by_cases e:t0=t
  ·subst e
   simp at h
   subst h
   unfold zRK at hf
   split at hf
   ·rename_i he;cases he
   ·rename_i he;cases he;exact ⟨_,rfl,fun w D=>.v rfl⟩
   ·rename_i he;cases he;exact ⟨_,rfl,fun w D=>.v rfl⟩
   ·cases hf
  ·have:=zA5 e
   simp only [this,cond_false] at h
   refine zOq ?_ h
   unfold zRK at hf
   split at hf
   ·rename_i he;cases he
   ·rename_i he;cases he;exact hf
   ·rename_i he;cases he;exact hf
   ·cases hf
theorem zMT {all:Array Oper} {o:Oper} {rest:List Oper} {Q:Exit->Act->World->Prop} {x:Operand} {xs:Array Operand} {tys:Array TypeId} {d:Nat} {y:A} {ys:List A} {E0:Env} (hY:SideOk L P l args J)
  (hp:PreY fn J (some (y::ys)) E S a w) (ho:o.op=.call ⟨.value x,xs,tys⟩) (hx:ev E x=some (.fn (.yield l) [] [])) (ha:zH4 E xs.toList (args y)) (hnm:∀p∈args y,names p=[]) (hg:gE all E o=some true) (hd:o.dst=some d) (hlt:Nat.blt d fn.ntmps=true)
  (hE0:SubL E0 E) (hfl:zRK E0=true)
  (k1:∀a w,PreY fn J (some ys) ((d,.v (.bool true))::E) S a w->wpListIn (FR none) 0 P all Q rest a w)
  (k2:∀a w,PreY fn J none ((d,.v (.bool false))::E0) [] a w->wpListIn (FR none) 0 P all Q rest a w):wpListIn (FR none) 0 P all Q (o::rest) a w:=by
 obtain ⟨X,σ,φ,hJ,hi,he,hs,hdf⟩:=hp
 have hD:∀b,Dof X φ w S b->b<w.heap.size/\¬X b/\¬foot φ S b:=fun b hb=>⟨hb.1,hb.2.1,fun ⟨n,k,h1,h2⟩=>hb.2.2 n k h1 h2⟩
 have hargs:=zHf he ha
 have hrl:RL (fun _=>undef) w (fun b=>b<w.heap.size/\¬X b/\¬foot φ S b) (args y) (xs.toList.map a.eval) :=
  ⟨hargs.1,fun i c u hc hu=>((hargs.2 i c u hc hu).mono fun b hb=>⟨hD b hb,rfl⟩).agree fun n hn=>by rw [hnm c (List.mem_of_getElem? hc)] at hn;cases hn⟩
 obtain ⟨us,vs,hxv,h1,h2⟩:=(zBI he hx).fn_inv
 have e1:=List.eq_nil_of_length_eq_zero h1.1.symm
 have e2:=List.eq_nil_of_length_eq_zero h2.1.symm
 subst us vs
 obtain ⟨fn',tm',as',bd',hyr,hround⟩:=hY.yield hJ hrl
 have hcall:(execOp a.eval o).run P w=.ok (.round l fn' tm' as' bd') w:=by
  have ea:xs.map a.eval=⟨xs.toList.map a.eval⟩:=Array.toList_inj.1 (by simp)
  simp only [execOp,ho,resolve,hxv,Deferred.ofValue,invoke,Sem.run_bind,Sem.run_pure,Result.andThen_ok]
  simp only [ea,Array.empty_append,hyr]<;>simp
 have hw:Region.wanted o (yielded all a.tmps)=true:=zNt he hg
 refine wpListIn_step fun K hK=>?_
 rw [if_pos hw]
 refine ⟨fun _ _=>trivial,?_⟩
 rw [Oper.semAt_eq _ _ _ (zHm (by rw [ho];rfl)),hcall,Oper.uponIn_round]
 refine ⟨fun h=>(by cases h),RoundIn.mono hround fun e W' hq=>?_⟩
 rw [hd]
 have hput:∀{b:Bool} {E':Env} {D:Nat->Prop} {σ':Nat->Value},InvE σ' W' D E' a.tmps->InvE σ' W' D ((d,.v (.bool b))::E') (a.put (some d) (.bool b)).tmps:=fun {b E' D σ'} h t p ht=>by
  simp only [lk] at ht
  by_cases e:d=t
  ·subst e
   simp at ht;subst ht
   exact ⟨.bool b,by simp [Act.put,hs,zCB hlt],.d (.v rfl)⟩
  ·simp only [zA5 e,cond_false] at ht
   obtain ⟨u,hu,hr⟩:=h t p ht
   exact ⟨u,by simp only [Act.put];rw [Array.getElem?_setIfInBounds_ne e];exact hu,hr⟩
 rcases hq with ⟨rfl,X',hJ',hsz,hkeep⟩ | ⟨rfl,X',hJ'⟩
 ·refine hK _ _ (k1 _ _ ?_)
  have hD':∀b,Dof X φ w S b->Dof X' φ W' S b/\W'.heap[b]? = w.heap[b]? := fun b hb=>⟨⟨by have:=hb.1;omega,(hkeep b hb.1 hb.2.1).1,hb.2.2⟩,(hkeep b hb.1 hb.2.1).2⟩
  have hF:∀b,foot φ S b->W'.heap[b]? = w.heap[b]? /\ ¬X' b/\b<W'.heap.size:=fun b h=>⟨(hkeep b (hi.lt b h).1 (hi.lt b h).2).2,(hkeep b (hi.lt b h).1 (hi.lt b h).2).1,by have:=(hi.lt b h).1;omega⟩
  refine ⟨X',σ,φ,hJ',⟨hi.nodup,hY.xlt hJ',fun b h=>⟨(hF b h).2.2,(hF b h).2.1⟩,hi.disj,fun n k hm=>(hi.ok n k hm).next hD' (fun b hb=>(hF b ⟨n,k,hm,hb⟩).1) fun _ _ _ _ _ _ _ _=>rfl⟩,?_,by simp [Act.put,hs],hdf⟩
  exact hput fun t p h=>let ⟨u,hu,hr⟩:=he t p h;⟨u,hu,hr.mono hD'⟩
 ·refine hK _ _ (k2 _ _ ?_)
  have hfe:foot φ ([]:Store)=fun _=>False:=funext fun b=>propext ⟨fun ⟨_,_,h,_⟩=>by simp at h,fun h=>h.elim⟩
  refine ⟨X',σ,φ,by rw [hfe];exact hJ',⟨by simp,hY.xlt hJ',fun b ⟨_,_,h,_⟩=>by simp at h,fun _ _ _ _ h=>by simp at h,fun _ _ h=>by simp at h⟩,?_,by simp [Act.put,hs],hdf⟩
  refine hput fun t p h=>?_
  obtain ⟨u,rfl,hu⟩:=zOq hfl h
  obtain ⟨v,hv,hr⟩:=he t _ (zG6 hE0 t _ h)
  rw [hr.flat_inv.1] at hv
  exact ⟨u,hv,.d (hu _ _)⟩
theorem zU6 {n:Nat} {c:Code} {Q:Exit->Act->World->Prop} (I:Nat->Act->World->Prop) (hb:∀k a w,I k a w->c.wpIn (FR none) 0 P (Exit.then (fun a w=>∃k',k=k'+1/\I k' a w) Q) a w) (h0:I n a w):(Code.loop c).wpIn (FR none) 0 P Q a w:=by
 refine wpIn_loop_rounds (n+1) ?_
 have key:∀k a w,I k a w->Code.roundsIn (FR none) 0 P c Q (k+1) a w:=fun k=>by
  induction k with
  | zero =>
   intro a w h
   rw [roundsIn_succ]
   refine wpIn_mono (hb 0 a w h) fun e a' w' q=>?_
   cases e with
   | normal=>obtain ⟨k',hk,_⟩:=q;cases hk
   | _=>exact q
  | succ k ih =>
   intro a w h
   rw [roundsIn_succ]
   refine wpIn_mono (hb (k+1) a w h) fun e a' w' q=>?_
   cases e with
   | normal=>obtain ⟨k',hk,hi⟩:=q;cases hk;exact ih _ _ hi
   | _=>exact q
 exact key n a w h0
end yrules
def zQQ {A:Type} (L:World->Prop) (P:Program) (g:FuncId) (ty:TypeId) (row:List PV) (args:A->List PV) (ys:List A):Prop :=
 ∀(l:Nat) (J:Option (List A)->(Nat->Prop)->(Nat->Prop)->World->Prop),SideOk L P l args J->∀(X:Nat->Prop) (σ : Nat->Value) (φ : Nat->Nat->Prop) (w:World) (bB:Nat),
  J (some ys) X (foot φ [(0,.box ty row)]) w->Inv X σ φ w [(0,.box ty row)]->hdrP (σ 0)=some bB ->
  CallsIn Fence.wide 1 P g #[.func (.yield l) #[] #[],.pointer (some ⟨bB,0,none⟩)] w fun e W'=>(∃v,e=.returned v)/\∃X' B',J (some []) X' B' W'\/J none X' B' W'
def YEnd {A:Type} (fn:Func) (J:Option (List A)->(Nat->Prop)->(Nat->Prop)->World->Prop):Exit->Act->World->Prop
 | .normal,a,w | .ret,a,w=>(∃E S,PreY fn J (some []) E S a w)\/∃E S,PreY fn J none E S a w
 | _,_,_=>False
theorem zP3 {A:Type} {L:World->Prop} {P:Program} {g:FuncId} {fn:Func} {c:Code} {ty:TypeId} {row:List PV} {args:A->List PV} {ys:List A} (hf:P.funcs[g]? = some fn) (hb:fn.body=some c) (hn:Nat.ble 2 fn.ntmps=true) (hres:fn.results = #[])
  (h:∀(l:Nat) (J:Option (List A)->(Nat->Prop)->(Nat->Prop)->World->Prop),SideOk L P l args J->∀a w,PreY fn J (some ys) [(0,.fn (.yield l) [] []),(1,.loc 0 0)] [(0,.box ty row)] a w->c.wpIn (FR none) 0 P (YEnd fn J) a w):zQQ L P g ty row args ys:=by
 intro l J hY X σ φ w bB hJ hi hs
 refine callsIn_of_wp (F:=FR none) hf hb trivial ?_
 refine zKn (n:=0) (wpIn_mono (h l J hY _ w ⟨X,σ,φ,hJ,hi,fun t p ht=>?_,?_,rfl⟩) fun e a w hq=>?_)
 ·simp only [lk] at ht
  by_cases e0:(0:Nat)=t
  ·subst e0
   simp at ht;subst ht
   exact ⟨_,by rw [Array.getElem?_append_left (by simp)];rfl,.fn rfl rfl (fun i c u h=>by simp at h) (fun i c u h=>by simp at h)⟩
  ·simp only [zA5 e0,cond_false] at ht
   by_cases e1:(1:Nat)=t
   ·subst e1
    simp at ht;subst ht
    exact ⟨_,by rw [Array.getElem?_append_left (by simp)];rfl,.loc hs⟩
   ·simp [zA5 e1] at ht
 ·have:2<=fn.ntmps:=by rw [Nat.ble_eq] at hn;exact hn
  simp;omega
 ·have key:(∃E S,PreY fn J (some []) E S a w)\/(∃E S,PreY fn J none E S a w)->a.defers=[]/\∃X' B',J (some []) X' B' w\/J none X' B' w:=fun h=>by
   rcases h with ⟨E,S,X,σ,φ,hJ,_,_,_,hd⟩ | ⟨E,S,X,σ,φ,hJ,_,_,_,hd⟩
   ·exact ⟨hd,_,_,.inl hJ⟩
   ·exact ⟨hd,_,_,.inr hJ⟩
  cases e with
  | normal=>obtain ⟨h1,h2⟩:=key hq;exact ⟨h1,_,results_none hres _ _ _,⟨_,rfl⟩,h2⟩
  | ret=>obtain ⟨h1,h2⟩:=key hq;exact ⟨h1,_,results_none hres _ _ _,⟨_,rfl⟩,h2⟩
  | _=>exact False.elim hq
section stmt
variable {ρ : Type} {G:Ctx ρ}
theorem Pre'.barY {X0 B B1:Nat->Prop} {E:Env} {S:Store} {a:Act} {w W1:World} {σ : Nat->Value} {φ : Nat->Nat->Prop} (hp:Pre' { G with X:=fun b=>X0 b\/B b } E S a w σ φ) (hX0:∀b,B b->b<G.w0.heap.size->G.X0 b)
  (hm:∀b,B b->mark b∉a.defers) (hX:∀b,X0 b->b<w.heap.size) (hf:Fr w B W1) (hB1:∀b,B1 b->(B b\/w.heap.size<=b)/\b<W1.heap.size) :
  Pre' { G with X:=fun b=>X0 b\/B1 b } E S a W1 σ φ := by
 have hs:=hf.size
 have hD:∀b,Dof (fun b=>X0 b\/B b) φ w S b->Dof (fun b=>X0 b\/B1 b) φ W1 S b/\W1.heap[b]? = w.heap[b]? := fun b ⟨h1,h2,h3⟩ =>
  ⟨⟨by omega,fun h=>h.elim (fun h=>h2 (.inl h)) fun h=>(hB1 b h).1.elim (fun h=>h2 (.inr h)) fun h=>by omega,h3⟩,hf.block b h1 fun e=>h2 (.inr e)⟩
 have hF:∀b,foot φ S b->W1.heap[b]? = w.heap[b]? := fun b h=>hf.block b (hp.inv.lt b h).1 fun e=>(hp.inv.lt b h).2 (.inr e)
 refine ⟨?_,hp.size,fun t p ht=>let ⟨u,hu,hr⟩:=hp.env t p ht;⟨u,hu,hr.mono hD⟩,?_,?_,hp.agree,hp.new⟩
 ·obtain ⟨bs,h1,h2,h3⟩:=hp.defers
  refine ⟨bs,h1,h2,fun b hb=>⟨(h3 b hb).1,?_⟩⟩
  rw [hf.block b (Array.getElem?_eq_some_iff.1 (h3 b hb).2).1 fun e=>hm b e (by rw [h1];exact List.mem_map.2 ⟨b,hb,rfl⟩)]
  exact (h3 b hb).2
 ·refine ⟨hp.inv.nodup,fun b hb=>hb.elim (fun h=>by have:=hX b h;show b<W1.heap.size;omega) fun h=>(hB1 b h).2,fun b h=>⟨by have:=(hp.inv.lt b h).1;omega,fun e=>e.elim (fun e=>(hp.inv.lt b h).2 (.inl e)) fun e=>(hB1 b e).1.elim (fun e=>(hp.inv.lt b h).2 (.inr e)) fun e=>by have:=(hp.inv.lt b h).1;omega⟩,hp.inv.disj,fun n k hm=>?_⟩
  exact (hp.inv.ok n k hm).next hD (fun b hb=>hF b ⟨n,k,hm,hb⟩) fun _ _ _ _ _ _ _ _=>rfl
 ·refine ⟨hf.os.trans hp.fr.os,hf.tape.trans hp.fr.tape,hf.output.trans hp.fr.output,by have:=hp.fr.size;exact Nat.le_trans this hs,fun b hb hx=>?_⟩
  have:=hp.fr.size
  rw [hf.block b (Nat.lt_of_lt_of_le hb this) fun e=>hx (hX0 b e hb)]
  exact hp.fr.block b hb hx
theorem zVv {A β : Type} {g:FuncId} {cb:Code} {ty:TypeId} {row:List PV} {p1 p2:A->PV} {E E0:Env} {S:Store} {K:List (Kont ρ)} {ys0:List A}
  (M:List A -> β -> Option ρ) (Sf : β -> Store) (SR : ρ -> Store) (N1:List Nat) (E1:A->Env) {gop:Operand} {t1 t2:Tmp} {n:Nat} {ca:Code} {x0 : β}
  (hit:zQQ G.L G.P g ty row (fun y=>[p1 y,p2 y]) ys0) (hcl:zAJ G.P g=true) (hd1:∀y,datQ (p1 y)=true) (hd2:∀y,datQ (p2 y)=true)
  (hg:ev E gop=some (.fn (.func g) [] [.loc n 0])) (hbx:lkS S n=some (.box ty row)) (hrow:row.all (fun c=>(names c).isEmpty)=true)
  (hE0:SubL E0 E) (hN:zN5 N1 E0=true) (hN0:subN G.N0 N1=true) (hS0:zFR (Sf x0) S) (hSn:zCV ((Sf x0).map (·.1))=true) (hnS:(Sf x0).any (fun x=>Nat.beq n x.1)=false)
  (hlt1:Nat.blt t1 G.fn.ntmps=true) (hlt2:Nat.blt t2 G.fn.ntmps=true)
  (hA:∀(y:A) (x : β),∀w0 X X0 σ0 hl ro,PW (⟨G.P,G.fn,w0,X,X0,σ0,N1,fun _ _ _=>True,G.dz,G.L,hl,ro⟩:Ctx Unit) (some ()) ca (KY (⟨G.P,G.fn,w0,X,X0,σ0,N1,fun _ _ _=>True,G.dz,G.L,hl,ro⟩:Ctx Unit) (fun _=>E1 y) (fun _=>Sf x))
   ((t2,p2 y)::(t1,p1 y)::E0) (Sf x))
  (hB:∀(y:A) (ys:List A) (x : β),∀w0 X X0 σ0 hl ro,PW (⟨G.P,G.fn,w0,X,X0,σ0,N1,fun _ _ _=>True,G.dz,G.L,hl,ro⟩:Ctx ρ) (M (y::ys) x) cb [.loopK (Head (⟨G.P,G.fn,w0,X,X0,σ0,N1,fun _ _ _=>True,G.dz,G.L,hl,ro⟩:Ctx ρ) (M ys) (fun _=>[]) Sf) (fun r a w=>Pre (⟨G.P,G.fn,w0,X,X0,σ0,N1,fun _ _ _=>True,G.dz,G.L,hl,ro⟩:Ctx ρ) [] (SR r) a w)] (E1 y) (Sf x))
  (hend:∀x,PN G (M [] x) K E0 (Sf x)) (hret:∀r,PW G (some r) .ret K E0 (SR r)) (hz:G.dz=G.w0.heap.size+1:=by rfl) (hro:G.ro=none:=by rfl) :
  PW G (M ys0 x0) (.rangeFunc gop #[t1,t2] ca cb) K E S:=by
 intro r hr a w ⟨σ,φ,hp⟩
 obtain ⟨bB,hbB,hgv⟩:=zUn (zBI hp.env hg)
 have hSS:SubS (Sf x0) S:=zCd hS0 hSn
 rcases hp.inv.ok n _ (zBN hbx) with hbk | hw
 rotate_left
 ·rw [hw.noP] at hbB;cases hbB
 obtain ⟨b',us,hσn,hφn,hul,⟨fr0,hcell,hfr0⟩,hcr⟩:=hbk
 have:b'=bB:=by rw [zIe hσn] at hbB;simpa using hbB
 subst this
 let X':Nat->Prop:=fun b=>G.X b\/(foot φ S b/\¬foot φ (Sf x0) b/\b≠b')
 let Gb:(Nat->Prop)->Ctx ρ := fun B=>{ G with X:=fun b=>X' b\/B b }
 have hfB:foot φ S b':=⟨n,_,zBN hbx,(hφn b').2 rfl⟩
 have hnB:¬foot φ (Sf x0) b':=fun ⟨m,k,hm,hf⟩=>by
  have hne:n≠m:=fun e=>by
   have:(Sf x0).any (fun x=>Nat.beq n x.1)=true:=List.any_eq_true.2 ⟨(m,k),hm,by simp [e]⟩
   rw [hnS] at this;cases this
  exact hp.inv.disj n m _ k (zBN hbx) (hSS.1 _ hm) hne b' ((hφn b').2 rfl) hf
 have hD0:∀b,Dof G.X φ w S b->Dof (fun b=>X' b\/b=b') φ w (Sf x0) b:=fun b ⟨h1,h2,h3⟩=>⟨h1,fun h=>by
  rcases h with (h | ⟨⟨m,k,hm,hf⟩,_⟩) | h
  ·exact h2 h
  ·exact h3 m k hm hf
  ·subst h;exact h3 n _ (zBN hbx) ((hφn b).2 rfl),fun m k h=>h3 m k (hSS.1 _ h)⟩
 have hXlt:∀b,X' b->b<w.heap.size:=fun b hb=>by
  rcases hb with hb | ⟨h,_⟩
  ·exact hp.inv.xlt b hb
  ·exact (hp.inv.lt b h).1
 have hpx:Pre' (Gb fun b=>b=b') E0 (Sf x0) a w σ φ := by
  refine ⟨hp.defers,hp.size,fun t p h=>let ⟨u,hu,hr⟩:=hp.env t p (zG6 hE0 t p h);⟨u,hu,hr.mono fun b hb=>⟨hD0 b hb,rfl⟩⟩,?_,hp.fr,hp.agree,fun b hf=>hp.new b (let ⟨m,k,h1,h2⟩:=hf;⟨m,k,hSS.1 _ h1,h2⟩)⟩
  refine ⟨hSS.2,fun b hb=>?_,fun b hf=>?_,fun m1 m2 k l h1 h2=>hp.inv.disj m1 m2 k l (hSS.1 _ h1) (hSS.1 _ h2),fun m k hm=>(hp.inv.ok m k (hSS.1 _ hm)).mono hD0⟩
  ·rcases hb with hb | rfl
   ·exact hXlt b hb
   ·exact (hp.inv.lt _ hfB).1
  ·have hf':foot φ S b:=let ⟨m,k,h1,h2⟩:=hf;⟨m,k,hSS.1 _ h1,h2⟩
   exact ⟨(hp.inv.lt b hf').1,fun h=>by
    rcases h with (h | ⟨_,h,_⟩) | h
    ·exact (hp.inv.lt b hf').2 h
    ·exact h hf
    ·subst h;exact hnB hf⟩
 have hX0B:b'<G.w0.heap.size->G.X0 b':=hp.new b' hfB
 have hsz:G.w0.heap.size<=w.heap.size:=hp.fr.size
 rw [hro]
 refine zKn (n:=1) (wpIn_rangeFunc ?_)
 intro fnn _
 obtain ⟨rec,hrec⟩:∃rec:LoopState->Option Code->Loop,rec=fun st pe=>{ state:=st,pending:=pe,fn:=fnn,tmps:=a.tmps,params := #[t1,t2],assign:=ca,body:=cb,defers:=w.heap.size }:=⟨_,rfl⟩
 obtain ⟨w1,hw1⟩:∃w1,(w.alloc (.deferred (some []))).alloc (.loop (rec .ready none))=w1:=⟨_,rfl⟩
 have hL1:w1.heap[w.heap.size+1]? = some (.loop (rec .ready none)):=by
  rw [<- hw1];have:=World.alloc_heap_new (w.alloc (.deferred (some []))) (.loop (rec .ready none));rwa [World.size_alloc] at this
 have hold1:∀b,b<w.heap.size->w1.heap[b]? = w.heap[b]? := fun b hb=>by
  rw [<- hw1]
  exact (zGj (by simp;omega)).trans (zGj hb)
 have hK1:w1.heap[w.heap.size]? = some (.deferred (some [])):=by
  rw [<- hw1];exact (zGj (by simp)).trans (World.alloc_heap_new w _)
 have hsz1:w1.heap.size=w.heap.size+2:=by rw [<- hw1];simp
 have turn1:Turn G.w0.heap.size [] w w1:=⟨by rw [<- hw1];rfl,by rw [<- hw1];rfl,by rw [<- hw1];rfl,by omega,fun b hb _=>hold1 b hb,fun b hb=>by simp at hb⟩
 have hlt':b'<w.heap.size:=(Array.getElem?_eq_some_iff.1 hcell).1
 have hmk:∀b,mark b∈a.defers->b<w.heap.size/\w.heap[b]? = some (.deferred (some [])):=fun b hb=>by
  obtain ⟨bs,h1,_,h3⟩:=hp.defers
  rw [h1] at hb
  obtain ⟨b0,hb0,e0⟩:=List.mem_map.1 hb
  have:b0=b:=by simp only [mark,Deferred.mk.injEq,Target.collected.injEq] at e0;exact e0.1
  subst this
  exact ⟨(Array.getElem?_eq_some_iff.1 (h3 _ hb0).2).1,(h3 _ hb0).2⟩
 -- what is one's own,and nobody else's
 let Out:(Nat->Prop)->(Nat->Prop)->World->(Nat->Prop)->Prop:=fun X B W F =>
  (∀b,X b↔(X' b\/F b\/b=w.heap.size+1\/b=w.heap.size))/\(∀b,B b->b<W.heap.size/\¬X b/\mark b∉a.defers)/\(∀b,B b->b<G.w0.heap.size->G.X0 b)/\w.heap.size+2<=W.heap.size
 let J:Option (List A)->(Nat->Prop)->(Nat->Prop)->World->Prop:=fun st X B W=>match st with
  | some zs=>∃x σ' φ',M zs x=some r/\Pre' (Gb B) E0 (Sf x) a W σ' φ'/\W.heap[w.heap.size+1]? = some (.loop (rec .ready none))/\W.heap[w.heap.size]? = some (.deferred (some []))/\Out X B W (foot φ' (Sf x))
  | none=>∃σ' φ',Pre' (Gb B) E0 (SR r) a W σ' φ'/\W.heap[w.heap.size+1]? = some (.loop (rec .done (some .ret)))/\W.heap[w.heap.size]? = some (.deferred (some []))/\Out X B W (foot φ' (SR r))
 have hplain:∀{X:Nat->Prop} {W:World} {σ' φ' S'} {b:Nat},Inv X σ' φ' W S'->zIl W.heap[b]? = false->¬foot φ' S' b:=fun hi hpl hf=>by
  have:=hi.plain hf;unfold zIl at hpl;rw [hpl] at this;cases this
 have hNN:∀m∈G.N0,m∈N1:=fun m hm=>zHZ hN0 m hm
 have hEN:∀t p,lk E0 t=some p->∀m∈names p,m∈N1:=fun t p h=>zLC hN h
 have outX:∀{X B W} {S':Store} {σ' φ'},Out X B W (foot φ' S')->Inv (fun b=>X' b\/B b) σ' φ' W S'->∀b,X b->b<W.heap.size:=fun {X B W S' σ' φ'} ho hi b hb=>by
  rcases (ho.1 b).1 hb with h | h | h | h
  ·have:=hXlt b h;have:=ho.2.2.2;omega
  ·exact (hi.lt b h).1
  ·have:=ho.2.2.2;omega
  ·have:=ho.2.2.2;omega
 have outOwn:∀{X B B1 W W1 F},Out X B W F->(∀b,X b->b<W.heap.size)->Fr W B W1->(∀b,B1 b->(B b\/W.heap.size<=b)/\b<W1.heap.size)->Out X B1 W1 F:=fun {X B B1 W W1 F} ho hx hf h1=>by
  have hs:=hf.size
  refine ⟨ho.1,fun b hb=>⟨(h1 b hb).2,fun hX=>?_,fun hd=>?_⟩,fun b hb hlt=>?_,by have:=ho.2.2.2;omega⟩
  ·rcases (h1 b hb).1 with h | h
   ·exact (ho.2.1 b h).2.1 hX
   ·have:=hx b hX;omega
  ·rcases (h1 b hb).1 with h | h
   ·exact (ho.2.1 b h).2.2 hd
   ·have:=(hmk b hd).1;have:=ho.2.2.2;omega
  ·rcases (h1 b hb).1 with h | h
   ·exact ho.2.2.1 b h hlt
   ·have:=ho.2.2.2;omega
 have outM:∀{X B W F},Out X B W F->∀b,B b->mark b∉a.defers/\b≠w.heap.size+1/\b≠w.heap.size:=fun {X B W F} ho b hb =>
  ⟨(ho.2.1 b hb).2.2,fun h=>(ho.2.1 b hb).2.1 ((ho.1 b).2 (.inr (.inr (.inl h)))),fun h=>(ho.2.1 b hb).2.1 ((ho.1 b).2 (.inr (.inr (.inr h))))⟩
 have hside:SideOk G.L G.P (w.heap.size+1) (fun y=>[p1 y,p2 y]) J:=by
  refine ⟨?_,?_,?_,?_⟩
  ·intro st X B W hJ
   cases st with
   | some zs=>obtain ⟨x,σ',φ',_,hpW,_,_,ho⟩:=hJ;exact outX ho hpW.inv
   | none=>obtain ⟨σ',φ',hpW,_,_,ho⟩:=hJ;exact outX ho hpW.inv
  ·intro st X B W hJ
   have key:∀{S' σ' φ' F},Pre' (Gb B) E0 S' a W σ' φ'->Out X B W F->Lay G.L (fun b=>¬B b) W:=fun {S' σ' φ' F} hpW ho w' hw=>G.lay w' fun b hb hl =>
    (hw b (fun h=>hb (ho.2.2.1 b h hl)) (Nat.lt_of_lt_of_le hl hpW.fr.size)).trans (hpW.fr.block b hl hb)
   cases st with
   | some zs=>obtain ⟨x,σ',φ',_,hpW,_,_,ho⟩:=hJ;exact key hpW ho
   | none=>obtain ⟨σ',φ',hpW,_,_,ho⟩:=hJ;exact key hpW ho
  ·intro st X B B1 W W1 hJ hf h1
   cases st with
   | some zs =>
    obtain ⟨x,σ',φ',hM,hpW,hLW,hKW,ho⟩:=hJ
    have hm:=outM ho
    exact ⟨x,σ',φ',hM,Pre'.barY hpW ho.2.2.1 (fun b hb=>(hm b hb).1) (fun b hb=>by have:=hXlt b hb;have:=ho.2.2.2;omega) hf h1,
     (hf.block _ (Array.getElem?_eq_some_iff.1 hLW).1 fun h=>(hm _ h).2.1 rfl).trans hLW,(hf.block _ (Array.getElem?_eq_some_iff.1 hKW).1 fun h=>(hm _ h).2.2 rfl).trans hKW,outOwn ho (outX ho hpW.inv) hf h1⟩
   | none =>
    obtain ⟨σ',φ',hpW,hLW,hKW,ho⟩:=hJ
    have hm:=outM ho
    exact ⟨σ',φ',Pre'.barY hpW ho.2.2.1 (fun b hb=>(hm b hb).1) (fun b hb=>by have:=hXlt b hb;have:=ho.2.2.2;omega) hf h1,
     (hf.block _ (Array.getElem?_eq_some_iff.1 hLW).1 fun h=>(hm _ h).2.1 rfl).trans hLW,(hf.block _ (Array.getElem?_eq_some_iff.1 hKW).1 fun h=>(hm _ h).2.2 rfl).trans hKW,outOwn ho (outX ho hpW.inv) hf h1⟩
  ·rintro y rest X B W vs ⟨x,σ',φ',hM,hpW,hLW,hKW,ho⟩ hargs
   have hm:=outM ho
   obtain ⟨v1,v2,rfl⟩:∃v1 v2,vs=[v1,v2]:=by
    match vs,hargs.1 with
    | [v1,v2],_=>exact ⟨v1,v2,rfl⟩
   have hDc:∀b,(b<W.heap.size/\¬X b/\¬B b)->Dof (fun b=>X' b\/B b) φ' W (Sf x) b:=fun b hb=>⟨hb.1,fun h=>h.elim (fun h=>hb.2.1 ((ho.1 b).2 (.inl h))) hb.2.2,fun m k h1 h2=>hb.2.1 ((ho.1 b).2 (.inr (.inl ⟨m,k,h1,h2⟩)))⟩
   have hv1:RD W (Dof (fun b=>X' b\/B b) φ' W (Sf x)) (p1 y) v1:=(hargs.2 0 _ _ rfl rfl |>.mono fun b hb=>⟨hDc b hb,rfl⟩).toRDQ (hd1 y)
   have hv2:RD W (Dof (fun b=>X' b\/B b) φ' W (Sf x)) (p2 y) v2:=(hargs.2 1 _ _ rfl rfl |>.mono fun b hb=>⟨hDc b hb,rfl⟩).toRDQ (hd2 y)
   have hyr:=run_yield (P:=G.P) (args := #[v1,v2]) hLW (by rw [hrec];rfl)
   rw [hrec] at hyr
   refine ⟨fnn,_,_,_,hyr,roundIn_of_wpIn trivial ?_⟩
   obtain ⟨ar,har⟩:∃ar:Act,ar=((({ tmps:=a.tmps,defers:=[] }:Act).put (some t1) v1).put (some t2) v2):=⟨_,rfl⟩
   have hpr:Pre' (Gb B) ((t2,p2 y)::(t1,p1 y)::E0) (Sf x) ar W σ' φ':=by
    have p0:Pre' (Gb B) E0 (Sf x) { tmps:=a.tmps,defers:=[] } W σ' φ':={ hpW with defers:=DOk.nil _ _,size:=hpW.size,env:=hpW.env }
    rw [har]
    exact (p0.put (zCB hlt1) (.d hv1)).put (zCB hlt2) (.d hv2)
   have har':({ tmps:=(Array.zip #[t1,t2] #[v1,v2]).foldl (fun tmps (t,a)=>tmps.setIfInBounds t a) a.tmps,defers:=[] }:Act)=ar:=by rw [har];simp [Act.put]
   rw [har']
   have hlW:Lay G.L (fun b=>¬foot φ' (Sf x) b) W:=hpW.laid (G:=Gb B) fun b h=>h
   have hopA:=hA y x W (fun b=>X' b\/B b) (foot φ' (Sf x)) σ' hlW (some (w.heap.size+1)) () rfl ar W ⟨σ',φ',hpr.defers,hpr.size,hpr.env,hpr.inv,Fr.refl _ _,fun _ _=>rfl,fun b hb _=>hb⟩
   refine wpIn_mono hopA fun eA a1 w1' hq1=>?_
   cases eA with
   | normal=>?_
   | _=>exact False.elim hq1
   obtain ⟨σ1,φ1,hp1⟩:=hq1
   obtain ⟨o1,d1⟩:=Pre'.over (N1:=N1) hpW hp1.inv hp1.fr hp1.agree hp1.new hEN hNN
   have hLlt:=(Array.getElem?_eq_some_iff.1 hLW).1
   have hKlt:=(Array.getElem?_eq_some_iff.1 hKW).1
   have hL1':=(hp1.fr.block _ hLlt (hplain hpW.inv (by rw [hLW];rfl))).trans hLW
   have hK1':=(hp1.fr.block _ hKlt (hplain hpW.inv (by rw [hKW];rfl))).trans hKW
   have tb:Turn G.w0.heap.size [w.heap.size+1] w1' (w1'.putObj (w.heap.size+1) (.loop { rec .ready none with state:=.busy })):=zFP hL1' (by omega)
   refine ⟨_,run_beginRound hL1' (by rw [hrec]),?_⟩
   generalize hw2:w1'.putObj (w.heap.size+1) (.loop { rec .ready none with state:=.busy })=w2 at *
   have hL2:w2.heap[w.heap.size+1]? = some (.loop { rec .ready none with state:=.busy }):=by rw [<- hw2];exact World.putObj_heap_same (Array.getElem?_eq_some_iff.1 hL1').1
   have hK2:=(tb.old _ (Array.getElem?_eq_some_iff.1 hK1').1 (by simp)).trans hK1'
   obtain ⟨i2,r2,rd2⟩:=tb.keeps hp1.inv
   have o2:=Pre'.tick (G:=Gb B) tb o1
   have hl2:Lay G.L (fun b=>¬foot φ1 (Sf x) b) w2:=o2.laid (G:=Gb B) fun b h=>h
   have hopB:=hB y rest x w2 (fun b=>X' b\/B b) (foot φ1 (Sf x)) σ1 hl2 (some (w.heap.size+1)) r hM a1 w2 ⟨σ1,φ1,tb.marks hp1.defers,hp1.size,fun t p h=>let ⟨u,hu,hr⟩:=hp1.env t p h;⟨u,hu,r2 _ _ hr⟩,i2,Fr.refl _ _,fun _ _=>rfl,fun b hb _=>hb⟩
   -- what isn't one's own is as it was
   have hold:∀b,b<W.heap.size->¬X b->w2.heap[b]? = W.heap[b]? /\ b<w2.heap.size/\¬foot φ1 (Sf x) b:=fun b hb hx=>by
    have hnf:¬foot φ' (Sf x) b:=fun h=>hx ((ho.1 b).2 (.inr (.inl h)))
    have hnl:b≠w.heap.size+1:=fun h=>hx ((ho.1 b).2 (.inr (.inr (.inl h))))
    have e1:=hp1.fr.block b hb hnf
    have hlt1':b<w1'.heap.size:=Nat.lt_of_lt_of_le hb hp1.fr.size
    exact ⟨(tb.old b hlt1' (by simpa using hnl)).trans e1,Nat.lt_of_lt_of_le hlt1' tb.size,fun h=>hnf (hp1.new b h hb)⟩
   have hszW2:W.heap.size<=w2.heap.size:=Nat.le_trans hp1.fr.size tb.size
   refine wpIn_mono hopB fun e a3 w3 hq=>?_
   have keep3:∀{S3:Store} {σ3:Nat->Value} {φ3:Nat->Nat->Prop} {E3:Env} {H:Ctx ρ},Pre' H E3 S3 a3 w3 σ3 φ3->H.w0=w2->H.X0=foot φ1 (Sf x) ->
     w3.heap[w.heap.size+1]? = some (.loop { rec .ready none with state:=.busy })/\w3.heap[w.heap.size]? = some (.deferred (some [])):=fun {S3 σ3 φ3 E3 H} hp3 e1 e2=>by
    have hfr:=hp3.fr
    rw [e1,e2] at hfr
    exact ⟨(hfr.block _ (Array.getElem?_eq_some_iff.1 hL2).1 (hplain i2 (by rw [hL2];rfl))).trans hL2,(hfr.block _ (Array.getElem?_eq_some_iff.1 hK2).1 (hplain i2 (by rw [hK2];rfl))).trans hK2⟩
   have out3:∀{S3:Store} {σ3:Nat->Value} {φ3:Nat->Nat->Prop} {E3:Env} {H:Ctx ρ} {w4:World},Pre' H E3 S3 a3 w3 σ3 φ3->H.w0=w2->H.X0=foot φ1 (Sf x)->w3.heap.size<=w4.heap.size->(∀b,b<w3.heap.size->b≠w.heap.size+1->w4.heap[b]? = w3.heap[b]?) ->
     ∀b,b<W.heap.size->¬X b->¬foot φ3 S3 b/\w4.heap[b]? = W.heap[b]? /\ b<w4.heap.size:=fun {S3 σ3 φ3 E3 H w4} hp3 e1 e2 hs4 h4 b hb hx=>by
    obtain ⟨g1,g2,g3⟩:=hold b hb hx
    have hfr:=hp3.fr
    have hnew:=hp3.new
    rw [e1,e2] at hfr hnew
    have hb3:b<w3.heap.size:=Nat.lt_of_lt_of_le g2 hfr.size
    have hnl:b≠w.heap.size+1:=fun h=>hx ((ho.1 b).2 (.inr (.inr (.inl h))))
    exact ⟨fun h=>g3 (hnew b h g2),(h4 b hb3 hnl).trans ((hfr.block b g2 g3).trans g1),Nat.lt_of_lt_of_le hb3 hs4⟩
   cases e with
   | normal =>
    obtain ⟨x',hM',σ3,φ3,hp3⟩:=hq
    obtain ⟨hL3,hK3⟩:=keep3 hp3 rfl rfl
    obtain ⟨o3,_⟩:=Pre'.over (N1:=N1) o2 hp3.inv hp3.fr hp3.agree hp3.new hEN hNN
    have tr:=run_endRound (P:=G.P) none hL3
    have er:({ ({ rec .ready none with state:=.busy }:Loop) with state:=if (none:Option Code).isNone then .ready else .done,pending:=none }:Loop)=rec .ready none:=by rw [hrec];rfl
    rw [er] at tr
    have tc:Turn G.w0.heap.size [w.heap.size+1] w3 (w3.putObj (w.heap.size+1) (.loop (rec .ready none))):=zFP hL3 (by omega)
    have h4:=out3 hp3 rfl rfl tc.size fun b hb hne=>tc.old b hb (by simpa using hne)
    have hw3:w2.heap.size<=w3.heap.size:=hp3.fr.size
    have hw4:=tc.size
    refine ⟨_,_,tr,.inl ⟨rfl,fun b=>X' b\/foot φ3 (Sf x') b\/b=w.heap.size+1\/b=w.heap.size,⟨x',σ3,φ3,hM',Pre'.tick (G:=Gb B) tc o3,World.putObj_heap_same (Array.getElem?_eq_some_iff.1 hL3).1,(tc.old _ (Array.getElem?_eq_some_iff.1 hK3).1 (by simp)).trans hK3,fun b=>Iff.rfl,fun b hb=>?_,ho.2.2.1,by have:=ho.2.2.2;omega⟩,by omega,fun b hb hx=>?_⟩⟩
    ·obtain ⟨g1,g2,g3⟩:=ho.2.1 b hb
     obtain ⟨f1,_,f3⟩:=h4 b g1 g2
     exact ⟨f3,fun h=>by
      rcases h with h | h | h | h
      ·exact g2 ((ho.1 b).2 (.inl h))
      ·exact f1 h
      ·exact (hm b hb).2.1 h
      ·exact (hm b hb).2.2 h,g3⟩
    ·obtain ⟨f1,f2,_⟩:=h4 b hb hx
     exact ⟨fun h=>by
      rcases h with h | h | h | h
      ·exact hx ((ho.1 b).2 (.inl h))
      ·exact f1 h
      ·exact hx ((ho.1 b).2 (.inr (.inr (.inl h))))
      ·exact hx ((ho.1 b).2 (.inr (.inr (.inr h)))),f2⟩
   | ret =>
    obtain ⟨σ3,φ3,hp3⟩:=hq
    obtain ⟨hL3,hK3⟩:=keep3 hp3 rfl rfl
    obtain ⟨o3,_⟩:=Pre'.over (N1:=N1) o2 hp3.inv hp3.fr hp3.agree hp3.new hEN hNN
    have tr:=run_endRound (P:=G.P) (some .ret) hL3
    have er:({ ({ rec .ready none with state:=.busy }:Loop) with state:=if (some Code.ret).isNone then .ready else .done,pending:=some .ret }:Loop)=rec .done (some .ret):=by rw [hrec];rfl
    rw [er] at tr
    have tc:Turn G.w0.heap.size [w.heap.size+1] w3 (w3.putObj (w.heap.size+1) (.loop (rec .done (some .ret)))):=zFP hL3 (by omega)
    have hw3:w2.heap.size<=w3.heap.size:=hp3.fr.size
    have hw4:=tc.size
    have ofin:=Pre'.unbar (G:=Gb fun _=>False) (X':=fun b=>X' b\/B b) (fun b hb=>hb.elim .inl fun h=>h.elim) (Pre'.tick (G:=Gb B) tc o3)
    exact ⟨_,_,tr,.inr ⟨rfl,fun b=>X' b\/foot φ3 (SR r) b\/b=w.heap.size+1\/b=w.heap.size,σ3,φ3,ofin,World.putObj_heap_same (Array.getElem?_eq_some_iff.1 hL3).1,(tc.old _ (Array.getElem?_eq_some_iff.1 hK3).1 (by simp)).trans hK3,fun b=>Iff.rfl,fun b hb=>hb.elim,fun b hb=>hb.elim,by have:=ho.2.2.2;omega⟩⟩
   | _=>exact False.elim hq
 -- the whole
 have hb1:w1.heap[b']? = some (.cells ⟨us⟩ ty fr0):=(hold1 b' hlt').trans hcell
 let φI:Nat->Nat->Prop:=fun _ b=>b=b'
 have hfI:foot φI [(0,.box ty row)]=fun b=>b=b':=funext fun b=>propext ⟨fun ⟨_,_,_,h⟩=>h,fun h=>⟨0,_,List.mem_singleton.2 rfl,h⟩⟩
 let XI:Nat->Prop:=fun b=>X' b\/foot φ (Sf x0) b\/b=w.heap.size+1\/b=w.heap.size
 have hpl':mark b'∉a.defers:=fun h=>by have:=(hmk b' h).2;rw [hcell] at this;cases this
 have hXb':¬XI b':=fun h=>by
  rcases h with (h | ⟨_,_,h⟩) | h | h | h
  ·exact (hp.inv.lt b' hfB).2 h
  ·exact h rfl
  ·exact hnB h
  ·omega
  ·omega
 have hJ0:J (some ys0) XI (foot φI [(0,.box ty row)]) w1:=by
  rw [hfI]
  refine ⟨x0,σ,φ,hr,Pre'.tick (G:=Gb fun b=>b=b') turn1 hpx,hL1,hK1,fun b=>Iff.rfl,fun b hb=>?_,fun b hb hlt=>?_,by omega⟩
  ·subst hb;exact ⟨by omega,hXb',hpl'⟩
  ·subst hb;exact hX0B hlt
 have hXlt1:∀b,XI b->b<w1.heap.size:=hside.xlt (st:=some ys0) (B:=foot φI [(0,.box ty row)]) hJ0
 have hInv:Inv XI (fun _ => σ n) φI w1 [(0,.box ty row)]:=by
  refine ⟨by simp,hXlt1,fun b hb=>?_,fun m1 m2 k1 k2 h1 h2 hne=>?_,fun m k hm=>?_⟩
  ·rw [hfI] at hb;subst hb;exact ⟨by omega,hXb'⟩
  ·simp at h1 h2;exact absurd (h1.1.trans h2.1.symm) hne
  ·simp at hm
   obtain ⟨rfl,rfl⟩:=hm
   refine .inl ⟨b',us,hσn,fun x=>Iff.rfl,hul,⟨fr0,hb1,hfr0⟩,fun i c u hc hu=>?_⟩
   have hn0:names c=[]:=by have:=List.all_eq_true.1 hrow c (List.mem_of_getElem? hc);simpa using this
   have h0:=hcr i c u hc hu
   refine (h0.mono fun b hb=>⟨?_,hold1 b hb.1⟩).agree fun m hm=>by rw [hn0] at hm;cases hm
   refine ⟨by have:=hb.1;omega,fun hx=>?_,fun m k hm hf=>?_⟩
   ·rcases hx with (h | ⟨⟨m,k,h1,h2⟩,_⟩) | ⟨m,k,h1,h2⟩ | h | h
    ·exact hb.2.1 h
    ·exact hb.2.2 m k h1 h2
    ·exact hb.2.2 m k (hSS.1 _ h1) h2
    ·have:=hb.1;omega
    ·have:=hb.1;omega
   ·have:b=b':=hf
    subst this
    exact hb.2.2 n _ (zBN hbx) ((hφn b).2 rfl)
 have hcalls:=hit (w.heap.size+1) J hside XI (fun _ => σ n) φI w1 b' hJ0 hInv hbB
 refine ⟨w.heap.size+1,[{ target:=.collected w.heap.size,args := #[] }],w1,{ target:=.fn (.func g) #[.pointer (some ⟨b',0,none⟩)],args := #[.func (.yield (w.heap.size+1)) #[] #[]] },w1,g,
  #[.func (.yield (w.heap.size+1)) #[] #[]] ++ #[.pointer (some ⟨b',0,none⟩)],w1,?_,?_,fun _ _=>trivial,?_,fun h=>(by cases h),?_⟩
 ·rw [<- hw1,hrec];exact run_enterLoop_outer _ _ _ _ _
 ·simp only [resolve,hgv]
  simp [Deferred.ofValue,Act.eval]
 ·simp [invoke,zEs hcl]
 refine callsIn_wide.2 ((callsIn_wide (n:=1)).1 (CallsIn.mono hcalls ?_))
 have hmarks:∀{W:World} {ds:List Deferred} (hd:DOk G.dz ds W) (hds:ds=a.defers) (hKW:W.heap[w.heap.size]? = some (.deferred (some []))),DOk G.dz (mark w.heap.size::a.defers) W:=fun {W ds} hd hds hKW=>by
  obtain ⟨bs,h1,h2,h3⟩:=hd
  refine ⟨w.heap.size::bs,by rw [<- hds,h1];rfl,List.nodup_cons.2 ⟨fun hm=>?_,h2⟩,fun b hb=>?_⟩
  ·have:=(hmk w.heap.size (by rw [<- hds,h1];exact List.mem_map.2 ⟨_,hm,rfl⟩)).1
   omega
  ·rcases List.mem_cons.1 hb with rfl | hb
   ·exact ⟨by omega,hKW⟩
   ·exact h3 b hb
 rintro e W ⟨⟨v,rfl⟩,XE,BE,hJJ⟩
 rcases hJJ with ⟨x,σ',φ',hM,hpW,hLW,hKW,_⟩ | ⟨σ',φ',hpW,hLW,hKW,_⟩
 ·refine ⟨none,_,by have:=run_endLoop (P:=G.P) hLW (by rw [hrec];simp);rw [hrec] at this;exact this,?_⟩
  have te:Turn G.w0.heap.size [w.heap.size+1] W (W.putObj (w.heap.size+1) (.loop { rec .ready none with state:=.exhausted })):=zFP hLW (by omega)
  rw [hrec] at te
  have hfin:Pre' G E0 (Sf x) a _ σ' φ':=Pre'.unbar (G:=G) (X':=fun b=>X' b\/BE b) (fun b hb=>.inl (.inl hb)) (Pre'.tick (G:=Gb BE) te hpW)
  exact hend x r hM _ _ ⟨σ',φ',{ hfin with defers:=hmarks hfin.defers rfl ((te.old _ (Array.getElem?_eq_some_iff.1 hKW).1 (by simp)).trans hKW),size:=hfin.size,env:=hfin.env }⟩
 ·refine ⟨some .ret,_,by have:=run_endLoop (P:=G.P) hLW (by rw [hrec];simp);rw [hrec] at this;exact this,?_⟩
  have te:Turn G.w0.heap.size [w.heap.size+1] W (W.putObj (w.heap.size+1) (.loop { rec .done (some .ret) with state:=.exhausted })):=zFP hLW (by omega)
  rw [hrec] at te
  have hfin:Pre' G E0 (SR r) a _ σ' φ':=Pre'.unbar (G:=G) (X':=fun b=>X' b\/BE b) (fun b hb=>.inl (.inl hb)) (Pre'.tick (G:=Gb BE) te hpW)
  have:=hret r r rfl { a with defers:=mark w.heap.size::a.defers } _ ⟨σ',φ',{ hfin with defers:=hmarks hfin.defers rfl ((te.old _ (Array.getElem?_eq_some_iff.1 hKW).1 (by simp)).trans hKW),size:=hfin.size,env:=hfin.env }⟩
  rw [hro] at this
  exact zKn this
end stmt
theorem po_mk {ρ : Type} {G:Ctx ρ} {m:Option ρ} {K:List (Kont ρ)} {E:Env} {S:Store} {all:Array Oper} {o:Oper} {rest:List Oper} {x:Operand} {f g n d:Nat} {args:Array Operand} {tys:Array TypeId} {tS:TypeId} {q:PV} {cs:List PV} {E':Env} {S1 S2:Store}
  (hfc:FC G.L G.P f [q] [] [] fun p S'=>p=.fn (.func g) [] [.loc n 0]/\S'=[(n,.box tS cs)]) (hdr:zLm [] S=some S1) (hkS:zHR [n] S1=some S2) (hkE:zGM [n] E=some E') (h2:zCV ([n]++S2.map (·.1))=true) (h4:[n].all (zEX G)=true)
  (hcl:zE1 [n] [.fn (.func g) [] [.loc n 0]]=true) (hcl2:zEC ([]++[n]) [(n,.box tS cs)]=true) (hsub:subN [n] ([]++[n])=true)
  (ho:o.op=.call ⟨.value x,args,tys⟩) (hx:ev E x=some (.fn (.func f) [] [])) (hg:gE all E o=some true) (ha:zH4 E args.toList [q]) (hcf:zAJ G.P f=true) (hd:o.dst=some d) (hlt:Nat.blt d G.fn.ntmps=true)
  (k:PO G m all rest K ((d,.fn (.func g) [] [.loc n 0])::E') ((n,.box tS cs)::S2)):PO G m all (o::rest) K E S :=
 zOB (M:=some ()) (g:=fun _=>m) (enc:=fun _=>.fn (.func g) [] [.loc n 0]) (Sr:=fun _=>[(n,.box tS cs)]) (first:=[]) (cap:=[]) (qs:=[q]) (Sc:=[]) (N0:=[]) (NR:=[n]) [n] (fun _ _=>hfc) trivial (fun _=>rfl) hdr hkS hkE rfl h2 hsub h4 (fun _=>hcl2) (fun _=>hcl) ho hx hg ha hcf hd hlt fun _ _=>k
end Go.Pw
