/- Calls over blocks that the callee reads or turns, calls of function values. No program is named here. -/
import Derived.Test.YtoboimmgglnjfaaGreatDoorRen
namespace Go.Pw
open Go
section
variable {ρ : Type} {G:Ctx ρ} {m:Option ρ} {K:List (Kont ρ)} {E:Env} {S:Store} {all:Array Oper}
def zGM:List Nat->Env->Option Env
 | [],E=>some E
 | n::l,E=>match zE3 n E with
  | some E'=>zGM l E'
  | none=>none
theorem zLs {n:Nat} {k k':Blk}:∀{S:Store},(S.map (·.1)).Nodup->(n,k)∈S->(n,k')∈S->k=k'
 | [],_,h,_=>by cases h
 | x::S,hnd,ha,hb=>by
  rw [List.map_cons,List.nodup_cons] at hnd
  rcases List.mem_cons.1 ha with e1 | ha<;>rcases List.mem_cons.1 hb with e2 | hb
  ·rw [<- e1] at e2;cases e2;rfl
  ·rw [<- e1] at hnd;exact absurd (List.mem_map.2 ⟨_,hb,rfl⟩) hnd.1
  ·rw [<- e2] at hnd;exact absurd (List.mem_map.2 ⟨_,ha,rfl⟩) hnd.1
  ·exact zLs hnd.2 ha hb
theorem zI5:∀{ks:List Nat} {E E':Env},zGM ks E=some E'->∀t p,lk E' t=some p->∃q,lk E t=some q
 | [],E,E',h,t,p,hl=>by simp [zGM] at h;subst h;exact ⟨p,hl⟩
 | n::ks,E,E',h,t,p,hl=>by
  simp only [zGM] at h
  split at h<;>try simp at h
  rename_i E1 h1
  obtain ⟨q,h2⟩:=zI5 h t p hl
  rw [zIf h1] at h2
  obtain ⟨q0,h4,_⟩:=Option.map_eq_some_iff.1 h2
  exact ⟨q0,h4⟩
theorem fp_det {σ σ':Nat->Value} {w w':World} {D D':Nat->Prop} {hdr:Value} {fp fp':Nat->Prop} {k:Blk} (hk:∀(e s kc ke:Nat) (rows:List (List PV×Bool)),k≠.tre e s kc ke rows) (h:BlkOk σ w D hdr fp k) (h':BlkOk σ' w' D' hdr fp' k) (b:Nat):fp b↔fp' b:=by
 cases k with
 | box ty cells =>
  rcases h with h | h<;>rcases h' with h' | h'
  ·obtain ⟨b1,_,h1,h2,_⟩:=h
   obtain ⟨b2,_,h3,h4,_⟩:=h'
   rw [h1] at h3;cases h3
   rw [h2,h4]
  ·obtain ⟨b1,_,h1,_⟩:=h
   have:=h'.noP
   rw [h1] at this;cases this
  ·obtain ⟨b1,_,h1,_⟩:=h'
   have:=h.noP
   rw [h1] at this;cases this
  ·obtain ⟨_,_,_,_,_,_,_,h⟩:=h
   obtain ⟨_,_,_,_,_,_,_,h'⟩:=h'
   rcases h with ⟨_,_,⟨_,h1⟩,h2⟩ | ⟨b1,_,c1,h1,h2,_,⟨_,hc1⟩,_⟩<;>rcases h' with ⟨_,_,⟨_,h3⟩,h4⟩ | ⟨b2,_,c2,h3,h4,_,⟨_,hc2⟩,_⟩
   ·exact ⟨fun h=>absurd h (h2 b),fun h=>absurd h (h4 b)⟩
   ·rw [h1] at h3;simp only [Value.slice.injEq] at h3;omega
   ·rw [h1] at h3;simp only [Value.slice.injEq] at h3;omega
   ·rw [h1] at h3
    simp only [Value.slice.injEq,Option.some.injEq,Addr.mk.injEq] at h3
    rw [h2,h4,h3.1.1]
 | arr e size rows =>
  obtain ⟨_,h⟩:=h
  obtain ⟨_,h'⟩:=h'
  rcases h with ⟨_,⟨_,h1⟩,h2⟩ | ⟨b1,_,c1,h1,h2,_,⟨_,hc1⟩,_⟩<;>rcases h' with ⟨_,⟨_,h3⟩,h4⟩ | ⟨b2,_,c2,h3,h4,_,⟨_,hc2⟩,_⟩
  ·exact ⟨fun h=>absurd h (h2 b),fun h=>absurd h (h4 b)⟩
  ·rw [h1] at h3;simp only [Value.slice.injEq] at h3;omega
  ·rw [h1] at h3;simp only [Value.slice.injEq] at h3;omega
  ·rw [h1] at h3;cases h3;rw [h2,h4]
 | tre e s kc ke rows=>exact absurd rfl (hk e s kc ke rows)
 | siter s pos =>
  obtain ⟨b1,h1,h2,_⟩:=h
  obtain ⟨b2,h3,h4,_⟩:=h'
  rw [h1] at h3;cases h3
  rw [h2,h4]
 | mp kvs =>
  obtain ⟨b1,_,_,h1,h2,_⟩:=h
  obtain ⟨b2,_,_,h3,h4,_⟩:=h'
  rw [h1] at h3;cases h3
  rw [h2,h4]
theorem zPv {f:FuncId} {qs:List PV} {p:PV} {Sc:Store} (hc:FC G.L G.P f qs Sc (Sc.map (·.1)) fun r S'=>r=p/\S'=Sc) (hS:SubS Sc S) (hcl0:zHK (Sc.map (·.1)) Sc=true) (hpn:noN p=true) {σ : Nat->Value} {φ : Nat->Nat->Prop} {w:World} {a:Act} {us:List Value}
  (hp:Pre' G E S a w σ φ) (hargs:RL σ w (Dof G.X φ w S) qs us) :
  Calls G.P f ⟨us⟩ w fun e w''=>∃u,e=.returned u/\(∀E a,Pre' G E S a w σ φ -> Pre' G E S a w'' σ φ)/\R σ w'' (Dof G.X φ w'' S) p u:=by
 obtain ⟨hcl,hnt⟩:=zIy hcl0
 let X':Nat->Prop:=fun b=>G.X b\/∃n k,(n,k)∈S/\n∉Sc.map (·.1) /\ φ n b
 have inSc:∀n k,(n,k)∈S->n∈Sc.map (·.1)->(n,k)∈Sc:=by
  intro n k hm hn
  obtain ⟨⟨n',k'⟩,h1,h2⟩:=List.mem_map.1 hn
  simp only at h2;subst h2
  have h3:=hS.1 _ h1
  have nd:=hp.inv.nodup
  have:k=k':=by
   have key:∀(S:Store),(S.map (·.1)).Nodup->(n',k)∈S->(n',k')∈S->k=k':=by
    intro S
    induction S with
    | nil=>intro _ h;cases h
    | cons x S ih =>
     intro hnd ha hb
     rw [List.map_cons,List.nodup_cons] at hnd
     rcases List.mem_cons.1 ha with e1 | ha<;>rcases List.mem_cons.1 hb with e2 | hb
     ·rw [<- e1] at e2;cases e2;rfl
     ·rw [<- e1] at hnd;exact absurd (List.mem_map.2 ⟨_,hb,rfl⟩) hnd.1
     ·rw [<- e2] at hnd;exact absurd (List.mem_map.2 ⟨_,ha,rfl⟩) hnd.1
     ·exact ih hnd.2 ha hb
   exact key S nd hm h3
  rw [this];exact h1
 have hDD:∀w b,Dof G.X φ w S b->Dof X' φ w Sc b:=fun w b ⟨h1,h2,h3⟩=>⟨h1,fun h=>by
  rcases h with h | ⟨n,k,h,_,hf⟩
  ·exact h2 h
  ·exact h3 n k h hf,fun n k h=>h3 n k (hS.1 _ h)⟩
 have hDD':∀w b,Dof X' φ w Sc b->Dof G.X φ w S b:=fun w b ⟨h1,h2,h3⟩=>⟨h1,fun h=>h2 (.inl h),fun n k h hf=>by
  by_cases hn:n∈Sc.map (·.1)
  ·exact h3 n k (inSc n k h hn) hf
  ·exact h2 (.inr ⟨n,k,h,hn,hf⟩)⟩
 have hi':Inv X' σ φ w Sc:=by
  refine ⟨hS.2,fun b hb=>?_,fun b ⟨n,k,hm,hf⟩=>⟨(hp.inv.lt b ⟨n,k,hS.1 _ hm,hf⟩).1,fun h=>?_⟩,fun n m k l h1 h2=>hp.inv.disj n m k l (hS.1 _ h1) (hS.1 _ h2),fun n k hm=>(hp.inv.ok n k (hS.1 _ hm)).mono (hDD w)⟩
  ·rcases hb with hb | ⟨n,k,h,_,hf⟩
   ·exact hp.inv.xlt b hb
   ·exact (hp.inv.lt b ⟨n,k,h,hf⟩).1
  ·rcases h with h | ⟨n',k',h,hn',hf'⟩
   ·exact (hp.inv.lt b ⟨n,k,hS.1 _ hm,hf⟩).2 h
   ·have hne:n≠n':=fun e=>hn' (by rw [<- e];exact List.mem_map.2 ⟨_,hm,rfl⟩)
    exact hp.inv.disj n n' k k' (hS.1 _ hm) h hne b hf hf'
 refine (hc X' σ φ w us (hp.laid fun _ hf ⟨n,k,h,hb⟩=>hf ⟨n,k,hS.1 _ h,hb⟩) hi' ⟨hargs.1,fun i c u h1 h2=>(hargs.2 i c u h1 h2).mono fun b hb=>⟨hDD w b hb,rfl⟩⟩).mono ?_
 rintro e w' ⟨p',S',σ',φ',u,rfl,⟨rfl,rfl⟩,hi2,hru,hfr,hag,_⟩
 have hφ : ∀n k,(n,k)∈S'->∀b,φ n b ↔ φ' n b:=fun n k hm b=>by
  have h1:=hi'.ok n k hm
  have h2:=hi2.ok n k hm
  rw [hag n (List.mem_map.2 ⟨_,hm,rfl⟩)] at h2
  exact fp_det (fun e s kc ke rows e'=>hnt n e s kc ke rows (e'▸hm)) h1 h2 b
 have hD2:∀b,Dof X' φ' w' S' b->Dof G.X φ w' S b:=fun b ⟨h1,h2,h3⟩=>hDD' w' b ⟨h1,h2,fun n k hm hf=>h3 n k hm ((hφ n k hm b).1 hf)⟩
 have hold:∀b,b<w.heap.size->¬foot φ S' b->w'.heap[b]? = w.heap[b]? := hfr.block
 have hD3:∀b,Dof G.X φ w S b->Dof G.X φ w' S b/\w'.heap[b]? = w.heap[b]? := fun b ⟨h1,h2,h3⟩=>⟨⟨by have:=hfr.size;omega,h2,h3⟩,hold b h1 fun ⟨n,k,hm,hf⟩=>h3 n k (hS.1 _ hm) hf⟩
 refine ⟨u,rfl,fun E a hp=>?_,?_⟩
 ·refine ⟨hp.dk fun b h1 h2=>hold b h1 fun ⟨n,k,hm,hf⟩=>h2 ⟨n,k,hS.1 _ hm,hf⟩,hp.size,fun t q ht=>let ⟨v,hv,hrv⟩:=hp.env t q ht;⟨v,hv,hrv.mono hD3⟩,?_,?_,hp.agree,fun b hf hlt'=>hp.new b hf hlt'⟩
  ·refine ⟨hp.inv.nodup,fun b hb'=>by have:=hp.inv.xlt b hb';have:=hfr.size;omega,fun b hf=>⟨by have:=(hp.inv.lt b hf).1;have:=hfr.size;omega,(hp.inv.lt b hf).2⟩,hp.inv.disj,fun n k hm=>?_⟩
   by_cases hn:n∈S'.map (·.1)
   ·have hm':=inSc n k hm hn
    have h2:=hi2.ok n k hm'
    rw [hag n hn] at h2
    have hfp : φ' n = φ n:=funext fun b=>propext (hφ n k hm' b).symm
    rw [hfp] at h2
    exact BlkOk.next (fun b hb=>⟨hD2 b hb,rfl⟩) (fun _ _=>rfl) h2 fun _ cells e i c hc m hmn=>by
     subst e;exact (hag m (zHg hcl n cells hm' i c hc m hmn)).symm
   ·refine BlkOk.next hD3 (fun b hf=>hold b (hp.inv.lt b ⟨n,k,hm,hf⟩).1 fun ⟨n',k',hm',hf'⟩=>?_) (hp.inv.ok n k hm) fun _ _ _ _ _ _ _ _=>rfl
    have hne:n≠n':=fun e=>hn (by rw [e];exact List.mem_map.2 ⟨_,hm',rfl⟩)
    exact hp.inv.disj n n' k k' hm (hS.1 _ hm') hne b hf hf'
  ·refine ⟨hfr.os.trans hp.fr.os,hfr.tape.trans hp.fr.tape,hfr.output.trans hp.fr.output,by have:=hfr.size;have:=hp.fr.size;omega,fun b hb' hx=>?_⟩
   have:=hp.fr.size
   rw [hold b (by omega) fun ⟨n,k,hm,hf⟩=>hx (hp.new b ⟨n,k,hS.1 _ hm,hf⟩ hb')]
   exact hp.fr.block b hb' hx
 ·have hnn:=hpn
  unfold Pw.noN at hnn
  rw [List.isEmpty_iff] at hnn
  exact (hru.agree (σ' := σ) fun n hn=>by rw [hnn] at hn;cases hn).mono fun b hb'=>⟨hD2 b hb',rfl⟩
theorem R.fn_inv {σ : Nat->Value} {w:World} {D:Nat->Prop} {f:Fn} {first cap:List PV} {u:Value} (h:R σ w D (.fn f first cap) u):∃us vs:List Value,u=.func f ⟨us⟩ ⟨vs⟩/\RL σ w D first us/\RL σ w D cap vs:=by
 cases h with
 | fn h1 h2 h3 h4=>exact ⟨_,_,rfl,⟨h1,h3⟩,⟨h2,h4⟩⟩
 | d hd=>cases hd
theorem RL.append {σ : Nat->Value} {w:World} {D:Nat->Prop} {ps qs:List PV} {us vs:List Value} (h1:RL σ w D ps us) (h2:RL σ w D qs vs):RL σ w D (ps++qs) (us++vs):=by
 obtain ⟨l1,r1⟩:=h1
 obtain ⟨l2,r2⟩:=h2
 refine ⟨by simp [l1,l2],fun i c u hc hu=>?_⟩
 rcases Nat.lt_or_ge i ps.length with h | h
 ·rw [List.getElem?_append_left h] at hc
  rw [List.getElem?_append_left (by omega)] at hu
  exact r1 i c u hc hu
 ·rw [List.getElem?_append_right h] at hc
  rw [List.getElem?_append_right (by omega)] at hu
  rw [l1] at hc
  exact r2 _ c u hc hu
theorem zPx {o:Oper} {x:Operand} {f:FuncId} {first cap:List PV} {args:Array Operand} {tys:Array TypeId} {qs:List PV} {p:PV} {Sc:Store} (hc:FC G.L G.P f (first++qs++cap) Sc (Sc.map (·.1)) fun r S'=>r=p/\S'=Sc) (hS:SubS Sc S) (hcl:zHK (Sc.map (·.1)) Sc=true) (hpn:noN p=true)
  (ho:o.op=.call ⟨.value x,args,tys⟩) (hx:ev E x=some (.fn (.func f) first cap)) (ha:zH4 E args.toList qs) (hf:zAJ G.P f=true) {σ : Nat->Value} {φ : Nat->Nat->Prop} {w:World} {a:Act} (hp:Pre' G E S a w σ φ):zB9 G S o σ φ a w p:=by
 obtain ⟨us,vs,hxv,h1,h2⟩:=(zBI hp.env hx).fn_inv
 have hrun:(execOp a.eval o).run G.P w=.ok (.enter f ⟨us++args.toList.map a.eval++vs⟩) w:=by
  have e1:(⟨us⟩:Array Value)++args.map a.eval++⟨vs⟩=⟨us++args.toList.map a.eval++vs⟩:=Array.toList_inj.1 (by simp)
  simp only [execOp,ho,resolve,hxv,Deferred.ofValue,invoke,Sem.run_bind,Sem.run_pure,Result.andThen_ok]
  rw [zEs hf]
  exact congrArg (fun x=>Result.ok (Next.enter f x) w) e1
 unfold zB9
 rw [hrun]
 exact ⟨rfl,zPv hc hS hcl hpn hp ((h1.append (zHf hp.env ha)).append h2)⟩
def FnOk (L:World->Prop) (P:Program) (S:Store) (f:FuncId) (first cap:List PV) (qs:List PV) (p:PV):Prop:=FC L P f (first++qs++cap) S (S.map (·.1)) fun r S'=>r=p/\S'=S
theorem zFO {α : Type} {o:Oper} {rest:List Oper} {x:Operand} {f:FuncId} {first cap:List PV} {args:Array Operand} {tys:Array TypeId} {qs:List PV} {d:Nat} {M:Option α} {enc : α -> PV} {g : α -> Option ρ} {Sc:Store}
  (hc:∀y,M=some y->FnOk G.L G.P Sc f first cap qs (enc y)) (hS:SubS Sc S) (hcl:zHK (Sc.map (·.1)) Sc=true) (ho:o.op=.call ⟨.value x,args,tys⟩) (hx:ev E x=some (.fn (.func f) first cap)) (hg:gE all E o=some true) (ha:zH4 E args.toList qs) (he:∀y,noN (enc y)=true) (hf:zAJ G.P f=true)
  (hd:o.dst=some d) (hlt:Nat.blt d G.fn.ntmps=true) (k:∀y,M=some y->PO G (g y) all rest K ((d,enc y)::E) S):PO G (bnd M g) all (o::rest) K E S :=
 zGD fun y hy=>zEi hg (fun _ _ _ _=>zPx (hc y hy) hS hcl (he y) ho hx ha hf) hd hlt (k y hy)
def zHR:List Nat->Store->Option Store
 | [],S=>some S
 | n::l,S=>match zEc n S with
  | some S'=>zHR l S'
  | none=>none
def zLm (l:List Nat):Store->Option Store
 | []=>some []
 | (n,b)::S=>match zLm l S with
  | some S'=>(match l.any (Nat.beq n) with
   | true=>some S'
   | false=>some ((n,b)::S'))
  | none=>none
theorem zMh {l:List Nat}:∀{S S':Store},zLm l S=some S'->∀n k,(n,k)∈S'->(n,k)∈S/\n∉l
 | [],S',h,n,k,hm=>by simp [zLm] at h;subst h;cases hm
 | (n0,b0)::S,S',h,n,k,hm=>by
  simp only [zLm] at h
  split at h<;>try simp at h
  rename_i S1 h1
  have ih:=zMh h1 n k
  split at h<;>simp at h<;>subst h<;>rename_i ha
  ·exact ⟨List.mem_cons_of_mem _ (ih hm).1,(ih hm).2⟩
  ·rcases List.mem_cons.1 hm with e | hm
   ·cases e;exact ⟨List.mem_cons_self ..,fun h=>by rw [any_beq.2 h] at ha;cases ha⟩
   ·exact ⟨List.mem_cons_of_mem _ (ih hm).1,(ih hm).2⟩
theorem zKN:∀{ks:List Nat} {E E':Env},zGM ks E=some E'->∀t p,lk E' t=some p->p=.junk\/(lk E t=some p/\∀n∈ks,hasN n p=false)
 | [],E,E',h,t,p,hl=>by simp [zGM] at h;subst h;exact .inr ⟨hl,by simp⟩
 | n::ks,E,E',h,t,p,hl=>by
  simp only [zGM] at h
  split at h<;>try simp at h
  rename_i E1 h1
  rcases zKN h t p hl with e | ⟨h2,h3⟩
  ·exact .inl e
  ·rw [zIf h1] at h2
   obtain ⟨q,h4,h5⟩:=Option.map_eq_some_iff.1 h2
   cases hq:hasN n q<;>simp [hq] at h5
   ·subst h5;exact .inr ⟨h4,List.forall_mem_cons.2 ⟨hq,h3⟩⟩
   ·exact .inl h5.symm
theorem zO0 {n:Nat}:∀{cs cs':List PV},zGz n cs=some cs'->cs'.length=cs.length/\∀(i:Nat) (c:PV),cs'[i]? = some c->(c=.junk/\∀c0,cs[i]? = some c0->names c0≠[])\/(cs[i]? = some c/\hasN n c=false)
 | [],cs',h=>by simp [zGz] at h;subst h;exact ⟨rfl,fun i c hc=>by simp at hc⟩
 | p::cs,cs',h=>by
  simp only [zGz] at h
  split at h<;>try simp at h
  rename_i l hl
  obtain ⟨h1,h2⟩:=zO0 hl
  split at h<;>simp at h<;>subst h<;>rename_i hp<;>refine ⟨by simp [h1],fun i c hc=>?_⟩<;>cases i with
  | zero=>simp at hc;subst hc;first | exact .inl ⟨rfl,fun c0 h0 e=>by simp at h0;subst h0;simp [hasN,e] at hp⟩ | exact .inr ⟨rfl,hp⟩
  | succ i=>exact (h2 i c (by simpa using hc)).imp id fun h=>by simpa using h
def Went (ks:List Nat) (k0 k:Blk):Prop:=(k=k0/\∀ty cells,k≠.box ty cells)\/∃ty cells cells',k0=.box ty cells/\k=.box ty cells'/\cells'.length=cells.length /\
 ∀(i:Nat) (c:PV),cells'[i]? = some c->(c=.junk/\∀c0,cells[i]? = some c0->names c0≠[])\/(cells[i]? = some c/\∀n∈ks,hasN n c=false)
theorem zI6:∀{ks:List Nat} {S S':Store},zHR ks S=some S'->∀m k,(m,k)∈S'->m∉ks/\∃k0,(m,k0)∈S/\Went ks k0 k
 | [],S,S',h,m,k,hm=>by
  simp [zHR] at h;subst h
  refine ⟨by simp,k,hm,?_⟩
  cases k with
  | box ty cells=>exact .inr ⟨ty,cells,cells,rfl,rfl,rfl,fun i c hc=>.inr ⟨hc,by simp⟩⟩
  | _=>exact .inl ⟨rfl,by simp⟩
 | n::ks,S,S',h,m,k,hm=>by
  simp only [zHR] at h
  split at h<;>try simp at h
  rename_i S1 h1
  obtain ⟨g1,k1,g2,g3⟩:=zI6 h m k hm
  obtain ⟨e1,k0,e2,e3⟩:=zHQ h1 m k1 g2
  refine ⟨fun hh=>(List.mem_cons.1 hh).elim e1 g1,k0,e2,?_⟩
  rcases g3 with ⟨rfl,g4⟩ | ⟨ty,cells,cells',rfl,rfl,g5,g6⟩
  ·rcases e3 with ⟨rfl,e4⟩ | ⟨t1,c1,c2,_,e5,_⟩
   ·exact .inl ⟨rfl,e4⟩
   ·exact absurd e5 (g4 _ _)
  ·rcases e3 with ⟨_,e4⟩ | ⟨t1,c1,c2,rfl,e5,e6⟩
   ·exact absurd rfl (e4 _ _)
   ·cases e5
    obtain ⟨l1,l2⟩:=zO0 e6
    refine .inr ⟨ty,c1,cells',rfl,rfl,g5.trans l1,fun i c hc=>?_⟩
    rcases g6 i c hc with ⟨h,h0⟩ | ⟨h,hn⟩
    ·refine .inl ⟨h,fun c0 hc0 e=>?_⟩
     have hlt:=(List.getElem?_eq_some_iff.1 hc0).1
     have hc2:=List.getElem?_eq_getElem (show i<cells.length by omega)
     rcases l2 i _ hc2 with ⟨_,h2⟩ | ⟨h2,_⟩
     ·exact h2 c0 hc0 e
     ·rw [hc0] at h2;cases h2;exact h0 _ hc2 e
    ·rcases l2 i c h with h | ⟨h,hn'⟩
     ·exact .inl h
     ·exact .inr ⟨h,List.forall_mem_cons.2 ⟨hn',hn⟩⟩
theorem BlkOk.went {σ σ':Nat->Value} {w w':World} {D D':Nat->Prop} {hdr:Value} {fp:Nat->Prop} {ks:List Nat} {k0 k:Blk} (hD:∀b,D b->D' b/\w'.heap[b]? = w.heap[b]?) (hb:∀b,fp b->w'.heap[b]? = w.heap[b]?)
  (h:BlkOk σ w D hdr fp k0) (hw:Went ks k0 k) (hσ : ∀n,n∉ks -> σ' n = σ n):BlkOk σ' w' D' hdr fp k:=by
 rcases hw with ⟨rfl,h1⟩ | ⟨ty,cells,cells',rfl,rfl,h1,h2⟩
 ·exact h.next hD hb fun ty cells e=>absurd e (h1 ty cells)
 ·rcases h with h | hw
  rotate_left
  ·refine .inr (hw.map h1 (fun s r x h=>?_) (fun i c c' u h3 h4 hr=>?_) (fun p u hr=>hr.mono hD) hb)
   ·have hlt:=(List.getElem?_eq_some_iff.1 h).1
    have hc:=List.getElem?_eq_getElem (show 0<cells'.length by omega)
    rcases h2 0 _ hc with ⟨_,h5⟩ | ⟨h5,_⟩
    ·exact absurd rfl (h5 _ h)
    ·rw [hc,<- h5];exact h
   ·rcases h2 i c' h4 with ⟨rfl,_⟩ | ⟨h5,h6⟩
    ·exact .junk
    ·rw [h3] at h5;cases h5
     exact (hr.mono hD).agree fun n hn=>hσ n fun hk=>zIE (h6 n hk) n hn rfl
  obtain ⟨b,us,g1,g2,g3,⟨⟨fr,g4,g5⟩,g6⟩⟩:=h
  refine .inl ⟨b,us,g1,g2,by rw [g3,h1],⟨fr,(hb b ((g2 b).2 rfl)).trans g4,g5⟩,fun i c u hc hu=>?_⟩
  rcases h2 i c hc with ⟨rfl,_⟩ | ⟨h3,h4⟩
  ·exact .junk
  ·exact ((g6 i c u h3 hu).mono hD).agree fun n hn=>hσ n fun hk=>zIE (h4 n hk) n hn rfl
theorem zPw {f:FuncId} {qs:List PV} {p:PV} {Sc Sr S1 S2:Store} {N0 NR:List Nat} (ks:List Nat) (hc:FC G.L G.P f qs Sc N0 fun r S'=>r=p/\S'=Sr) (hS:zFR Sc S) (hNR:Sr.map (·.1)=NR)
  (hdr:zLm (Sc.map (·.1)) S=some S1) (hkS:zHR ks S1=some S2) {E':Env} (hkE:zGM ks E=some E')
  (h1:zCV (Sc.map (·.1))=true) (h2:zCV (NR++S2.map (·.1))=true) (h3:subN NR (N0++ks)=true) (h4:ks.all (zEX G)=true) (h5:zEC (N0++ks) Sr=true) (h6:zE1 (N0++ks) [p]=true)
  {σ : Nat->Value} {φ : Nat->Nat->Prop} {w:World} {a:Act} {us:List Value} (hp:Pre' G E S a w σ φ) (hargs:RL σ w (Dof G.X φ w S) qs us) :
  Calls G.P f ⟨us⟩ w fun e w''=>∃u,e=.returned u/\∃σ2 φ2,Pre' G E' (Sr++S2) a w'' σ2 φ2/\R σ2 w'' (Dof G.X φ2 w'' (Sr++S2)) p u:=by
 have hSub:=zCd hS h1
 let X':Nat->Prop:=fun b=>G.X b\/∃n k,(n,k)∈S/\n∉Sc.map (·.1) /\ φ n b
 have inSc:∀n k,(n,k)∈S->n∈Sc.map (·.1)->(n,k)∈Sc:=by
  intro n k hm hn
  obtain ⟨⟨n',k'⟩,h1,h2⟩:=List.mem_map.1 hn
  simp only at h2;subst h2
  have h3:=hSub.1 _ h1
  have:k=k':=zLs hp.inv.nodup hm h3
  rw [this];exact h1
 have hDD:∀w b,Dof G.X φ w S b->Dof X' φ w Sc b:=fun w b ⟨h1,h2,h3⟩=>⟨h1,fun h=>by
  rcases h with h | ⟨n,k,h,_,hf⟩
  ·exact h2 h
  ·exact h3 n k h hf,fun n k h=>h3 n k (hSub.1 _ h)⟩
 have hi':Inv X' σ φ w Sc:=by
  refine ⟨hSub.2,fun b hb=>?_,fun b ⟨n,k,hm,hf⟩=>⟨(hp.inv.lt b ⟨n,k,hSub.1 _ hm,hf⟩).1,fun h=>?_⟩,fun n m k l h1 h2=>hp.inv.disj n m k l (hSub.1 _ h1) (hSub.1 _ h2),fun n k hm=>(hp.inv.ok n k (hSub.1 _ hm)).mono (hDD w)⟩
  ·rcases hb with hb | ⟨n,k,h,_,hf⟩
   ·exact hp.inv.xlt b hb
   ·exact (hp.inv.lt b ⟨n,k,h,hf⟩).1
  ·rcases h with h | ⟨n',k',h,hn',hf'⟩
   ·exact (hp.inv.lt b ⟨n,k,hSub.1 _ hm,hf⟩).2 h
   ·have hne:n≠n':=fun e=>hn' (by rw [<- e];exact List.mem_map.2 ⟨_,hm,rfl⟩)
    exact hp.inv.disj n n' k k' (hSub.1 _ hm) h hne b hf hf'
 refine (hc X' σ φ w us (hp.laid fun _ hf ⟨n,k,h,hb⟩=>hf ⟨n,k,hSub.1 _ h,hb⟩) hi' ⟨hargs.1,fun i c u h1 h2=>(hargs.2 i c u h1 h2).mono fun b hb=>⟨hDD w b hb,rfl⟩⟩).mono ?_
 rintro e w' ⟨p',S',σ',φ',u,rfl,⟨rfl,rfl⟩,hi2,hru,hfr,hag,hnew⟩
 refine ⟨u,rfl,?_⟩
 have hin:∀{n:Nat},n∈N0++ks↔(N0++ks).any (Nat.beq n)=true:=any_beq.symm
 let σ2:Nat->Value:=fun m=>if (N0++ks).any (Nat.beq m) then σ' m else σ m
 let φ2:Nat->Nat->Prop:=fun m=>if (S'.map (·.1)).any (Nat.beq m) then φ' m else φ m
 have hσi:∀n∈N0++ks,σ2 n = σ' n:=fun n hn=>if_pos (hin.1 hn)
 have hσk:∀n,n∉ks -> σ2 n = σ n:=fun n hn=>by
  by_cases h:n∈N0++ks
  ·rw [hσi n h]
   exact hag n ((List.mem_append.1 h).resolve_right hn)
  ·exact if_neg fun h'=>h (hin.2 h')
 have hφi:∀n k,(n,k)∈S' -> φ2 n = φ' n:=fun n k hm=>if_pos (any_beq.2 (List.mem_map.2 ⟨_,hm,rfl⟩))
 have hnd:=zIi h2
 rw [<- hNR] at hnd
 have hd12:=(List.nodup_append.1 hnd).2.2
 have hφo:∀n k,(n,k)∈S2 -> φ2 n = φ n:=fun n k hm=>if_neg fun h=>hd12 n (any_beq.1 h) n (List.mem_map.2 ⟨_,hm,rfl⟩) rfl
 have hS2:∀n k,(n,k)∈S2->n∉ks/\n∉Sc.map (·.1)/\∃k0,(n,k0)∈S/\Went ks k0 k:=fun n k hm=>by
  obtain ⟨g1,k0,g2,g3⟩:=zI6 hkS n k hm
  obtain ⟨g4,g5⟩:=zMh hdr n k0 g2
  exact ⟨g1,g5,k0,g4,g3⟩
 have hSr:∀n k,(n,k)∈S'->n∈N0++ks:=fun n k hm=>zHZ h3 n (by rw [<- hNR];exact List.mem_map.2 ⟨_,hm,rfl⟩)
 have hfoot:∀b,foot φ2 (S'++S2) b->foot φ' S' b\/∃n k0,(n,k0)∈S/\n∉Sc.map (·.1) /\ φ n b:=fun b ⟨n,k,hm,hf⟩=>by
  rcases List.mem_append.1 hm with hm | hm
  ·rw [hφi n k hm] at hf;exact .inl ⟨n,k,hm,hf⟩
  ·rw [hφo n k hm] at hf
   obtain ⟨_,g2,k0,g3,_⟩:=hS2 n k hm
   exact .inr ⟨n,k0,g3,g2,hf⟩
 have hold:∀b,b<w.heap.size->¬foot φ Sc b->w'.heap[b]? = w.heap[b]? := hfr.block
 have hsz:=hfr.size
 have hD3:∀b,Dof G.X φ w S b->Dof G.X φ2 w' (S'++S2) b/\w'.heap[b]? = w.heap[b]? := fun b ⟨a1,a2,a3⟩=>by
  have hnf:¬foot φ Sc b:=fun ⟨n,k,hm,hf⟩=>a3 n k (hSub.1 _ hm) hf
  refine ⟨⟨by omega,a2,fun n k hm hf=>?_⟩,hold b a1 hnf⟩
  rcases hfoot b ⟨n,k,hm,hf⟩ with g | ⟨n',k0,g1,_,g3⟩
  ·exact hnf (hnew b g a1)
  ·exact a3 n' k0 g1 g3
 have hDr:∀b,Dof X' φ' w' S' b->Dof G.X φ2 w' (S'++S2) b:=fun b ⟨a1,a2,a3⟩=>⟨a1,fun h=>a2 (.inl h),fun n k hm hf=>by
  rcases hfoot b ⟨n,k,hm,hf⟩ with ⟨n',k',g1,g2⟩ | ⟨n',k0,g1,g2,g3⟩
  ·exact a3 n' k' g1 g2
  ·exact a2 (.inr ⟨n',k0,g1,g2,g3⟩)⟩
 refine ⟨σ2,φ2,⟨hp.dk fun b h1 h2=>hold b h1 fun ⟨n,k,hm,hf⟩=>h2 ⟨n,k,hSub.1 _ hm,hf⟩,hp.size,fun t q ht=>?_,?_,?_,fun n hn=>?_,fun b hf hlt=>?_⟩,?_⟩
 ·rcases zKN hkE t q ht with rfl | ⟨g1,g2⟩
  ·obtain ⟨v,hv⟩:∃v,a.tmps[t]? = some v:=by
    have:=zI5 hkE t _ ht
    obtain ⟨q0,hq0⟩:=this
    obtain ⟨v,hv,_⟩:=hp.env t q0 hq0
    exact ⟨v,hv⟩
   exact ⟨v,hv,.junk⟩
  ·obtain ⟨v,hv,hrv⟩:=hp.env t q g1
   exact ⟨v,hv,(hrv.mono hD3).agree fun n hn=>hσk n fun hk=>zIE (g2 n hk) n hn rfl⟩
 ·refine ⟨by rw [List.map_append];exact hnd,fun b hb=>by have:=hp.inv.xlt b hb;omega,fun b hf=>?_,fun n m k l hn hm hne b hf hf'=>?_,fun n k hm=>?_⟩
  ·rcases hfoot b hf with g | ⟨n,k0,g1,g2,g3⟩
   ·obtain ⟨g1,g2⟩:=hi2.lt b g;exact ⟨g1,fun h=>g2 (.inl h)⟩
   ·obtain ⟨g4,g5⟩:=hp.inv.lt b ⟨n,k0,g1,g3⟩;exact ⟨by omega,g5⟩
  ·rcases List.mem_append.1 hn with hn | hn<;>rcases List.mem_append.1 hm with hm | hm
   ·rw [hφi _ _ hn] at hf;rw [hφi _ _ hm] at hf';exact hi2.disj n m k l hn hm hne b hf hf'
   ·rw [hφi _ _ hn] at hf;rw [hφo _ _ hm] at hf'
    obtain ⟨_,g2,k0,g3,_⟩:=hS2 m l hm
    exact (hi2.lt b ⟨n,k,hn,hf⟩).2 (.inr ⟨m,k0,g3,g2,hf'⟩)
   ·rw [hφo _ _ hn] at hf;rw [hφi _ _ hm] at hf'
    obtain ⟨_,g2,k0,g3,_⟩:=hS2 n k hn
    exact (hi2.lt b ⟨m,l,hm,hf'⟩).2 (.inr ⟨n,k0,g3,g2,hf⟩)
   ·rw [hφo _ _ hn] at hf;rw [hφo _ _ hm] at hf'
    obtain ⟨_,_,k0,g3,_⟩:=hS2 n k hn
    obtain ⟨_,_,l0,g4,_⟩:=hS2 m l hm
    exact hp.inv.disj n m k0 l0 g3 g4 hne b hf hf'
  ·rcases List.mem_append.1 hm with hm | hm
   ·rw [hφi n k hm,hσi n (hSr n k hm)]
    refine BlkOk.next (fun b hb=>⟨hDr b hb,rfl⟩) (fun _ _=>rfl) (hi2.ok n k hm) fun _ cells e i c hc' m hmn=>hσi m ?_
    subst e
    exact zHg h5 n cells hm i c hc' m hmn
   ·obtain ⟨g1,g2,k0,g3,g4⟩:=hS2 n k hm
    rw [hφo n k hm,hσk n g1]
    refine BlkOk.went hD3 (fun b hf=>hold b (hp.inv.lt b ⟨n,k0,g3,hf⟩).1 fun ⟨n',k',hm',hf'⟩=>?_) (hp.inv.ok n k0 g3) g4 hσk
    have hne:n≠n':=fun e=>g2 (by rw [e];exact List.mem_map.2 ⟨_,hm',rfl⟩)
    exact hp.inv.disj n n' k0 k' g3 (hSub.1 _ hm') hne b hf hf'
 ·refine ⟨hfr.os.trans hp.fr.os,hfr.tape.trans hp.fr.tape,hfr.output.trans hp.fr.output,by have:=hp.fr.size;omega,fun b hb' hx=>?_⟩
  have:=hp.fr.size
  rw [hold b (by omega) fun ⟨n,k,hm,hf⟩=>hx (hp.new b ⟨n,k,hSub.1 _ hm,hf⟩ hb')]
  exact hp.fr.block b hb' hx
 ·rw [<- hp.agree n hn]
  refine hσk n fun hk=>?_
  have:=List.all_eq_true.1 h4 n hk
  unfold zEX at this
  rw [any_beq.2 hn] at this
  cases this
 ·have hsz0:=hp.fr.size
  rcases hfoot b hf with g | ⟨n,k0,g1,g2,g3⟩
  ·obtain ⟨n,k,hm,hf⟩:=hnew b g (by omega)
   exact hp.new b ⟨n,k,hSub.1 _ hm,hf⟩ hlt
  ·exact hp.new b ⟨n,k0,g1,g3⟩ hlt
 ·exact (hru.mono fun b hb=>⟨hDr b hb,rfl⟩).agree fun n hn=>hσi n (zHh (i:=0) h6 rfl n hn)
def putE (od:Option Nat) (p:PV) (E:Env):Env:=match od with
 | some d=>(d,p)::E
 | none=>E
def dstB (od:Option Nat) (n:Nat):Bool:=match od with
 | some d=>Nat.blt d n
 | none=>true
theorem zSd {o:Oper} {x:Operand} {f:FuncId} {first cap:List PV} {args:Array Operand} {tys:Array TypeId} {σ : Nat->Value} {φ : Nat->Nat->Prop} {w:World} {a:Act} (hp:Pre' G E S a w σ φ) (ho:o.op=.call ⟨.value x,args,tys⟩) (hx:ev E x=some (.fn (.func f) first cap)) {qs:List PV} (ha:zH4 E args.toList qs) (hf:zAJ G.P f=true) :
  ∃us,(execOp a.eval o).run G.P w=.ok (.enter f ⟨us⟩) w/\RL σ w (Dof G.X φ w S) (first++qs++cap) us:=by
 obtain ⟨us,vs,hxv,h1,h2⟩:=(zBI hp.env hx).fn_inv
 refine ⟨us++args.toList.map a.eval++vs,?_,(h1.append (zHf hp.env ha)).append h2⟩
 have e1:(⟨us⟩:Array Value)++args.map a.eval++⟨vs⟩=⟨us++args.toList.map a.eval++vs⟩:=Array.toList_inj.1 (by simp)
 simp only [execOp,ho,resolve,hxv,Deferred.ofValue,invoke,Sem.run_bind,Sem.run_pure,Result.andThen_ok]
 rw [zEs hf]
 exact congrArg (fun x=>Result.ok (Next.enter f x) w) e1
theorem zOB {α : Type} {o:Oper} {rest:List Oper} {x:Operand} {f:FuncId} {first cap:List PV} {args:Array Operand} {tys:Array TypeId} {qs:List PV} {M:Option α} {enc : α -> PV} {Sr : α -> Store} {g : α -> Option ρ} {Sc S1 S2:Store} {N0 NR:List Nat} (ks:List Nat) {E':Env} {od:Option Nat}
  (hc:∀y,M=some y->FC G.L G.P f (first++qs++cap) Sc N0 fun r S'=>r=enc y/\S'=Sr y) (hS:zFR Sc S) (hNR:∀y,(Sr y).map (·.1)=NR) (hdr:zLm (Sc.map (·.1)) S=some S1) (hkS:zHR ks S1=some S2) (hkE:zGM ks E=some E')
  (h1:zCV (Sc.map (·.1))=true) (h2:zCV (NR++S2.map (·.1))=true) (h3:subN NR (N0++ks)=true) (h4:ks.all (zEX G)=true) (h5:∀y,zEC (N0++ks) (Sr y)=true) (h6:∀y,zE1 (N0++ks) [enc y]=true)
  (ho:o.op=.call ⟨.value x,args,tys⟩) (hx:ev E x=some (.fn (.func f) first cap)) (hg:gE all E o=some true) (ha:zH4 E args.toList qs) (hf:zAJ G.P f=true) (hd:o.dst=od) (hlt:dstB od G.fn.ntmps=true)
  (k:∀y,M=some y->PO G (g y) all rest K (putE od (enc y) E') (Sr y++S2)):PO G (bnd M g) all (o::rest) K E S:=by
 refine zGD fun y hy=>zFV hg fun r hr a w ⟨σ,φ,hp⟩=>?_
 obtain ⟨us,hrun,hargs⟩:=zSd hp ho hx ha hf
 unfold Oper.wp
 rw [hrun,Oper.upon_enter]
 refine (zPw ks (hc y hy) hS (hNR y) hdr hkS hkE h1 h2 h3 h4 (h5 y) (h6 y) hp hargs).mono ?_
 rintro e w'' ⟨u,rfl,σ2,φ2,hp2,hru⟩
 rw [hd]
 cases od with
 | none=>exact k y hy r hr _ _ ⟨σ2,φ2,hp2⟩
 | some d=>exact k y hy r hr _ _ ⟨σ2,φ2,hp2.put (zCB hlt) hru⟩
end
end Go.Pw
