/- More rules for slices, and for texts. No program is named here. -/
import Derived.Test.YtoboimmgglnjfaaGreatDoorEff3
namespace Go.Pw
open Go
section
variable {P:Program} {ρ : Type} {G:Ctx ρ} {m:Option ρ} {K:List (Kont ρ)} {E:Env} {S:Store} {σ : Nat->Value} {w:World} {D X:Nat->Prop} {φ : Nat->Nat->Prop}
def zST (size:Nat) (E:Env):Nat->List (Nat×Operand)->Option (List (List PV))
 | _,[]=>some []
 | k,(i,x)::l=>bif Nat.beq i k then (match ev E x with
  | some p=>(match zJI p with
   | some qs=>bif Nat.beq qs.length size&&qs.all datP&&qs.all zGS then (match zST size E (k+1) l with
    | some r=>some (qs::r)
    | none=>none) else none
   | none=>none)
  | none=>none) else none
theorem zMx (off:Nat):∀(vs:List Value) (j:Nat) (us:Array Value),off+j+vs.length<=us.size->∃ws:List Value,(vs.zipIdx j).foldl (fun cs (x:Value×Nat)=>cs.setIfInBounds (off+x.2) x.1) us=⟨ws⟩/\ws.length=us.size /\
  ∀t:Nat,ws[t]? = if off+j<=t/\t<off+j+vs.length then vs[t - (off+j)]? else us[t]?
 | [],j,us,_=>⟨us.toList,rfl,by simp,fun t=>by simp;intro h1 h2;omega⟩
 | v::vs,j,us,hsz=>by
  simp only [List.length_cons] at hsz
  obtain ⟨ws,h1,h2,h3⟩:=zMx off vs (j+1) (us.setIfInBounds (off+j) v) (by simp;omega)
  refine ⟨ws,by simpa [List.zipIdx_cons] using h1,by simpa using h2,fun t=>?_⟩
  rw [h3 t]
  by_cases ht:off+j=t
  ·subst ht
   rw [if_neg (by omega),if_pos (by simp),Nat.sub_self]
   simp [Array.getElem?_setIfInBounds]
   omega
  ·by_cases hin:off+(j+1)<=t/\t<off+(j+1)+vs.length
   ·rw [if_pos hin,if_pos (by simp;omega),show t - (off+j)=(t - (off+(j+1)))+1 by omega,List.getElem?_cons_succ]
   ·rw [if_neg hin,if_neg (by simp;omega)]
    simp [Array.getElem?_setIfInBounds_ne ht]
theorem zMl {a:Act} (hE:InvE σ w D E a.tmps) {size:Nat}:∀{l:List (Nat×Operand)} {k:Nat} {rows done:List (List PV)} {us:List Value},zST size E k l=some rows->done.length=k->(∀r∈done,r.length=size) ->
  us.length=(k+rows.length)*size->(∀(i:Nat) (c:PV) (x:Value),done.flatten[i]? = some c->us[i]? = some x->RD w D c x) ->
  ∃us':List Value,Instr.fill (fun i=>some (i*size,size)) ⟨us⟩ (l.map fun (i,x)=>(i,a.eval x))=some ⟨us'⟩/\us'.length=us.length/\(∀r∈rows,r.length=size/\r.all zGS=true) /\
   ∀(i:Nat) (c:PV) (x:Value),(done++rows).flatten[i]? = some c->us'[i]? = some x->RD w D c x
 | [],k,rows,done,us,h,hk,hd,hl,hr=>by
  simp [zST] at h;subst h
  exact ⟨us,rfl,rfl,by simp,by simpa using hr⟩
 | (i,x)::l,k,rows,done,us,h,hk,hd,hl,hr=>by
  simp only [zST] at h
  cases hik:Nat.beq i k<;>simp only [hik,cond_true,cond_false] at h
  ·simp at h
  have hik:=Nat.eq_of_beq_eq_true hik
  subst hik
  split at h<;>try simp at h
  rename_i p hp
  split at h<;>try simp at h
  rename_i qs hqs
  cases hc:Nat.beq qs.length size&&qs.all datP&&qs.all zGS<;>simp only [hc,cond_true,cond_false] at h
  ·simp at h
  simp only [Bool.and_eq_true] at hc
  obtain ⟨⟨hc1,hc2⟩,hc3⟩:=hc
  have hc1:=Nat.eq_of_beq_eq_true hc1
  split at h<;>simp at h
  rename_i rest hrest
  subst h
  obtain ⟨vs,g1,g2,g3⟩:=zGl hqs (zBI hE hp)
  simp only [List.length_cons] at hl
  have hdl:=zFN hd
  rw [hk] at hdl
  have hfit:i*size+0+vs.length<=us.length:=by rw [hl,g2,hc1,Nat.add_mul,Nat.add_mul];omega
  obtain ⟨ws,h1,h2,h3⟩:=zMx (i*size) vs 0 ⟨us⟩ (by simpa using hfit)
  have h2':ws.length=us.length:=h2
  have hd':∀r∈done++[qs],r.length=size:=fun r hr'=>by
   rcases List.mem_append.1 hr' with h | h
   ·exact hd r h
   ·simp at h;subst h;exact hc1
  have hr1:∀(t:Nat) (c:PV) (x:Value),(done++[qs]).flatten[t]? = some c->ws[t]? = some x->RD w D c x:=by
   intro t c x hc hx
   rw [h3 t] at hx
   rw [flatten_append] at hc
   simp only [Nat.add_zero,g2,hc1] at hx
   rcases Nat.lt_or_ge t (i*size) with hlt | hge
   ·rw [List.getElem?_append_left (by omega)] at hc
    rw [if_neg (by omega)] at hx
    exact hr t c x hc (by simpa using hx)
   ·rw [List.getElem?_append_right (by omega),hdl] at hc
    simp only [List.flatten_cons,List.flatten_nil,List.append_nil] at hc
    have hlt:t - i*size<size:=by have:=(List.getElem?_eq_some_iff.1 hc).1;omega
    rw [if_pos ⟨hge,by omega⟩] at hx
    exact (g3 _ c x hc hx).toRD (List.all_eq_true.1 hc2 c (List.mem_of_getElem? hc))
  obtain ⟨us',e1,e2,e3,e4⟩:=zMl hE (k:=i+1) (done:=done++[qs]) (us:=ws) hrest (by simp [hk]) hd' (by rw [h2',hl];congr 1;omega) hr1
  refine ⟨us',?_,by rw [e2,h2'],fun r hr'=>?_,by simpa using e4⟩
  ·simp only [List.map_cons,Instr.fill,g1]
   rw [if_neg (by simp;omega)]
   have hz:((⟨vs⟩:Array Value).zipIdx).foldl (fun cs (x:Value×Nat)=>cs.setIfInBounds (i*size+x.2) x.1) (⟨us⟩:Array Value)=⟨ws⟩:=by
    rw [<- Array.foldl_toList,Array.toList_zipIdx]
    exact h1
   rw [hz]
   exact e1
  ·rcases List.mem_cons.1 hr' with h | h
   ·subst h;exact ⟨hc1,hc3⟩
   ·exact e3 r h
theorem zBu {T:Tab G.P} {all:Array Oper} {o:Oper} {rest:List Oper} (n:Nat) {t e size by_ len:Nat} {parts:Array (Nat×Operand)} {rows:List (List PV)} {z:Value} {d:Nat} {E':Env} {S':Store} (ho:o.op=.buildSlice t len parts) (hg:gE all E o=some true)
  (he:Nat.blt e fixE=true) (ht:lku T.els t=some (e,size,by_)) (hz:lku T.zeros e=some z) (hr:zST size E 0 parts.toList=some rows) (hlen:len=rows.length) (hln:Nat.ble len 10000=true) (hsm:Nat.ble (len*size) 10000=true) (hd:o.dst=some d) (hlt:Nat.blt d G.fn.ntmps=true) (hn:zEX G n=true)
  (hE:zE3 n E=some E') (hS:zEc n S=some S') (k:PO G m all rest K ((d,.own n)::E') ((n,.arr e size rows)::S')):PO G m all (o::rest) K E S:=by
 refine zFV hg fun r hrm a w ⟨σ,φ,hp⟩=>?_
 obtain ⟨hel,inf,hinf,hsz,hby⟩:=zC2 (T.hels _ (zA6 ht))
 have hz':=T.hzeros _ (zA6 hz)
 simp only [hinf,Option.bind_some] at hz'
 obtain ⟨zero,hzero⟩:∃zero:Array Value,zero=if len*size=0 then #[] else z.cells:=⟨_,rfl⟩
 obtain ⟨us',f1,f2,f3,f4⟩:=zMl hp.env (done:=[]) (k:=0) (us:=((Array.range (len*size)).map (zero[· % zero.size]!)).toList) hr rfl (by simp) (by simp [hlen]) (fun i c x hc=>by simp at hc)
 have hsm':¬(len*size>2 ^ 24):=by have:=Nat.le_of_ble_eq_true hsm;omega
 have hlen':us'.length=rows.length*size:=by rw [f2];simp [hlen]
 have hrun:(execOp a.eval o).run G.P w=.ok (.value (.slice (some ⟨w.heap.size,0,none⟩) len len)) (w.alloc (.cells ⟨us'⟩ e)):=by
  have hf:Instr.fill (fun i=>some (i*size,size)) ((Array.range (len*size)).map (zero[· % zero.size]!)) (parts.map fun (i,x)=>(i,a.eval x)).toList=some ⟨us'⟩:=by
   have e1:(parts.map fun (i,x)=>(i,a.eval x)).toList=parts.toList.map fun (i,x)=>(i,a.eval x):=by simp
   rw [e1];exact f1
  have hsz0:(sizeOf e).run G.P w=.ok size w:=by simp [sizeOf,typeInfo,hinf,hsz]
  simp only [execOp,ho,Instr.buildSlice,Sem.run_bind,run_underlying hel,Result.andThen_ok,hsz0]
  rw [if_neg hsm']
  have hfin:∀zs:Array Value,zero=zs->(match Instr.fill (fun i=>some (i*size,size)) ((Array.range (len*size)).map (zs[· % zs.size]!)) (parts.map fun (x:Nat×Operand)=>(x.1,a.eval x.2)).toList with
    | some cells=>(do
     let __do_lift <- newRow e cells
     pure (Value.slice (some __do_lift) len len):Sem Value)
    | _ => stuck "buildSlice: a part of the wrong size").run G.P w = .ok (.slice (some ⟨w.heap.size, 0, none⟩) len len) (w.alloc (.cells ⟨us'⟩ e)) := by
   rintro zs rfl
   rw [hf]
   simp [newRow]
  by_cases h0:len*size=0
  ·rw [if_pos h0] at hzero ⊢
   simp only [Sem.run_bind,Sem.run_pure,Result.andThen_ok]
   exact (congrArg (fun x=>Result.andThen x fun a w'=>Result.ok (Next.value a) w') (hfin _ hzero)).trans rfl
  ·rw [if_neg h0] at hzero ⊢
   have hzv:(zeroValue e).run G.P w=.ok z w:=by simp [zeroValue,typeInfo,hinf,hz']
   simp only [Sem.run_bind,Sem.run_pure,hzv,Result.andThen_ok]
   exact (congrArg (fun x=>Result.andThen x fun a w'=>Result.ok (Next.value a) w') (hfin _ hzero)).trans rfl
 unfold Oper.wp
 rw [hrun,Oper.upon_value,hd]
 have hnew:=hp.lay (hdr:=.slice (some ⟨w.heap.size,0,none⟩) len len) (w':=w.alloc (.cells ⟨us'⟩ e)) (fp:=fun b=>b=w.heap.size/\0<len) (k:=.arr e size rows) hn hE hS (by simp) (fun b hb=>⟨by simp [hb.1],.inl (by omega)⟩) (fun b hb _=>zGy w _ hb) rfl rfl rfl fun D' hD=>by
  refine ⟨fun row hrow=>(f3 row hrow).1,?_⟩
  rcases Nat.eq_zero_or_pos len with h0 | h0
  ·exact .inl ⟨List.eq_nil_of_length_eq_zero (by omega),⟨_,by rw [h0]⟩,fun x hx=>by omega⟩
  ·refine .inr ⟨w.heap.size,us',len,by rw [hlen],fun x=>⟨fun h=>h.1,fun h=>⟨h,h0⟩⟩,by rw [hlen',hlen],⟨by omega,h0⟩,?_,⟨(0,0),by rw [zLt he];exact zE2 w _,by simp,fun _=>rfl⟩,fun i c u hc hu=>(f4 i c u (by simpa using hc) hu).mono hD⟩
   have h1:=Nat.le_of_ble_eq_true hln
   simp only [maxLen]
   omega
 refine k r hrm _ _ ⟨_,_,hnew.put (zCB hlt) ?_⟩
 have:R (upd σ n (.slice (some ⟨w.heap.size,0,none⟩) len len)) (w.alloc (.cells ⟨us'⟩ e)) (Dof G.X (upd φ n fun b=>b=w.heap.size/\0<len) (w.alloc (.cells ⟨us'⟩ e)) ((n,.arr e size rows)::S')) (.own n) (upd σ n (.slice (some ⟨w.heap.size,0,none⟩) len len) n):=.own (by rw [zBw];rfl)
 rw [zBw] at this
 exact this
def frz0 (n:Nat) (q p:PV):PV:=match hasN n p with
 | true=>(match p with
  | .own _=>q
  | _=>.junk)
 | false=>p
def frz1 (n:Nat) (q p:PV):PV:=match hasN n p with
 | true=>(match p with
  | .own _=>q
  | .agg cs=>.agg (cs.map (frz0 n q))
  | _=>.junk)
 | false=>p
def frzA (n:Nat) (q:PV):List PV->Option (List PV)
 | []=>some []
 | p::l=>match frzA n q l with
  | some l'=>(match hasN n p with
   | true=>(match p with
    | .own _=>some (q::l')
    | _=>some (.junk::l'))
   | false=>some (p::l'))
  | none=>none
def frzE (n:Nat) (q:PV):Env->Option Env
 | []=>some []
 | (t,p)::E=>match frzE n q E with
  | some E'=>(match hasN n p with
   | true=>(match p with
    | .own _=>some ((t,q)::E')
    | .agg cs=>(match frzA n q cs with
     | some cs'=>some ((t,.agg cs')::E')
     | none=>none)
    | _=>some ((t,.junk)::E'))
   | false=>some ((t,p)::E'))
  | none=>none
def frzL (n:Nat) (q:PV):List PV->Option (List PV)
 | []=>some []
 | p::l=>match frzL n q l with
  | some l'=>(match hasN n p with
   | true=>(match p with
    | .own _=>some (q::l')
    | .agg cs=>(match frzA n q cs with
     | some cs'=>some (.agg cs'::l')
     | none=>none)
    | _=>some (.junk::l'))
   | false=>some (p::l'))
  | none=>none
def frzS (n:Nat) (q:PV):Store->Option Store
 | []=>some []
 | (k,b)::S=>match frzS n q S with
  | some S'=>(match Nat.beq k n with
   | true=>some S'
   | false=>match b with
    | .box ty cells=>(match frzL n q cells with
     | some cells'=>some ((k,.box ty cells')::S')
     | none=>none)
    | b=>some ((k,b)::S'))
  | none=>none
theorem zOu {k n:Nat} (h:hasN n (.own k)=true):k=n:=by
 simp [hasN,names] at h
 exact h.symm
theorem zTK {n:Nat} {q p:PV} {u:Value} {D':Nat->Prop} (hD:∀b,D b->D' b) (hq:RD w D' q (σ n)) (hr:R σ w D p u):R σ w D' (frz0 n q p) u:=by
 have hm:=hr.mono (w':=w) (D':=D') fun b hb=>⟨hD b hb,rfl⟩
 unfold frz0
 cases hn:hasN n p
 ·exact hm
 ·simp only
  split
  ·have:=zOu hn
   subst this
   cases hr with
   | own=>exact .d hq
   | d hd=>cases hd
  ·exact .junk
theorem zI4 {n:Nat} {q p p':PV} {u:Value} {D':Nat->Prop} (hD:∀b,D b->D' b) (hq:RD w D' q (σ n)) (hr:R σ w D p u) (h:frz1 n q p=p'):R σ w D' p' u:=by
 have hm:=hr.mono (w':=w) (D':=D') fun b hb=>⟨hD b hb,rfl⟩
 unfold frz1 at h
 cases hn:hasN n p
 ·rw [hn] at h;simp only at h;subst h;exact hm
 ·rw [hn] at h
  simp only at h
  split at h
  ·subst h
   have:=zOu hn
   subst this
   cases hr with
   | own=>exact .d hq
   | d hd=>cases hd
  ·subst h
   obtain ⟨us,rfl,h1,h2⟩:=hr.agg_inv
   refine .agg (by simpa using h1) fun i c u hc hu=>?_
   rw [List.getElem?_map] at hc
   obtain ⟨c0,g1,rfl⟩:=Option.map_eq_some_iff.1 hc
   exact zTK hD hq (h2 i c0 u g1 hu)
  ·subst h;exact .junk
theorem zNr {n:Nat} {q:PV}:∀{l l':List PV},frzA n q l=some l'->l'=l.map (frz0 n q)
 | [],l',h=>by simp [frzA] at h;subst h;simp
 | p::l,l',h=>by
  simp only [frzA] at h
  split at h<;>try simp at h
  rename_i l1 h1
  have ih:=zNr h1
  split at h
  ·rename_i hn
   split at h<;>simp at h<;>subst h<;>simp [ih,hn,frz0]
  ·rename_i hn
   simp at h;subst h;simp [ih,hn,frz0]
theorem zNs {n:Nat} {q:PV}:∀{E E':Env},frzE n q E=some E'->∀t,lk E' t=(lk E t).map (frz1 n q)
 | [],E',h,t=>by simp [frzE] at h;subst h;rfl
 | (k,p)::E,E',h,t=>by
  simp only [frzE] at h
  split at h<;>try simp at h
  rename_i E1 h1
  have ih:=zNs h1 t
  split at h
  ·rename_i hn
   split at h
   ·simp at h;subst h;simp only [lk];cases Nat.beq k t<;>simp [ih,hn,frz1]
   ·split at h<;>simp at h
    rename_i cs' hc
    subst h;simp only [lk];cases Nat.beq k t<;>simp [ih,hn,frz1,zNr hc]
   ·simp at h;subst h;simp only [lk];cases Nat.beq k t<;>simp [ih,hn,frz1]
  ·rename_i hn
   simp at h;subst h;simp only [lk];cases Nat.beq k t<;>simp [ih,hn,frz1]
theorem zKL {n:Nat} {q:PV}:∀{l l':List PV},frzL n q l=some l'->l'.length=l.length/\∀i:Nat,l'[i]? = (l[i]?).map (frz1 n q)
 | [],l',h=>by simp [frzL] at h;subst h;simp
 | p::l,l',h=>by
  simp only [frzL] at h
  split at h<;>try simp at h
  rename_i l1 h1
  obtain ⟨g1,g2⟩:=zKL h1
  split at h
  ·rename_i hn
   split at h
   ·simp at h;subst h;refine ⟨by simp [g1],fun i=>?_⟩;cases i<;>simp [g2,hn,frz1]
   ·split at h<;>simp at h
    rename_i cs' hc
    subst h;refine ⟨by simp [g1],fun i=>?_⟩;cases i<;>simp [g2,hn,frz1,zNr hc]
   ·simp at h;subst h;refine ⟨by simp [g1],fun i=>?_⟩;cases i<;>simp [g2,hn,frz1]
  ·rename_i hn
   simp at h;subst h
   refine ⟨by simp [g1],fun i=>?_⟩
   cases i<;>simp [g2,hn,frz1]
theorem zLo {n:Nat} {q:PV}:∀{S S':Store},frzS n q S=some S'->∀m k,(m,k)∈S'->m≠n/\∃k0,(m,k0)∈S/\((k=k0/\∀ty cells,k≠.box ty cells)\/∃ty cells cells',k0=.box ty cells/\k=.box ty cells'/\frzL n q cells=some cells')
 | [],S',h,m,k,hm=>by simp [frzS] at h;subst h;simp at hm
 | (m0,b0)::S,S',h,m,k,hm=>by
  simp only [frzS] at h
  split at h<;>try simp at h
  rename_i S1 h1
  have ih:=zLo h1 m k
  split at h
  ·simp at h;subst h
   obtain ⟨e,k0,h2,h3⟩:=ih hm
   exact ⟨e,k0,List.mem_cons_of_mem _ h2,h3⟩
  ·rename_i hne
   have hne':m0≠n:=fun e=>by subst e;simp at hne
   split at h
   ·rename_i cells
    split at h<;>simp at h
    rename_i cells' hc
    subst h
    rcases List.mem_cons.1 hm with e | hm
    ·cases e;exact ⟨hne',_,List.mem_cons_self ..,.inr ⟨_,_,_,rfl,rfl,hc⟩⟩
    ·obtain ⟨e,k0,h2,h3⟩:=ih hm
     exact ⟨e,k0,List.mem_cons_of_mem _ h2,h3⟩
   ·rename_i hb
    simp at h;subst h
    rcases List.mem_cons.1 hm with e | hm
    ·cases e;exact ⟨hne',_,List.mem_cons_self ..,.inl ⟨rfl,hb⟩⟩
    ·obtain ⟨e,k0,h2,h3⟩:=ih hm
     exact ⟨e,k0,List.mem_cons_of_mem _ h2,h3⟩
theorem zI3 {n:Nat} {q:PV}:∀{S S':Store},frzS n q S=some S'->(S'.map (·.1)).Sublist (S.map (·.1))
 | [],S',h=>by simp [frzS] at h;subst h;simp
 | (m0,b0)::S,S',h=>by
  simp only [frzS] at h
  split at h<;>try simp at h
  rename_i S1 h1
  have ih:=zI3 h1
  split at h
  ·simp at h;subst h;exact List.Sublist.cons _ ih
  ·split at h
   ·split at h<;>simp at h
    subst h;simpa using ih
   ·simp at h;subst h;simpa using ih
theorem zOV {v:Value} {fp:Nat->Prop} {e size:Nat} {rows:List (List PV)} {D':Nat->Prop} (hD:∀b,D b->D' b) (hf:∀b,fp b->D' b) (h:BlkOk σ w D v fp (.arr e size rows)):RD w D' (.sl size false rows) v:=by
 obtain ⟨h0,h⟩:=h
 rcases h with ⟨rfl,⟨ao,rfl⟩,_⟩ | ⟨b,us,cap,rfl,h2,h3,⟨h4,h4'⟩,h5,⟨fr,h6,_⟩,h7⟩
 ·exact .nil (Nat.zero_le _) (by simp)
 ·have at_:∀i row k c,rows[i]? = some row->row[k]? = some c->i*size+k<us.length/\rows.flatten[i*size+k]? = some c:=by
   intro i row k c hi hk
   have hro:=h0 row (List.mem_of_getElem? hi)
   have hk':k<size:=by rw [<- hro];exact (List.getElem?_eq_some_iff.1 hk).1
   have hi':=(List.getElem?_eq_some_iff.1 hi).1
   refine ⟨?_,(zFH h0 hi hk').trans hk⟩
   rw [h3]
   have:(i+1)*size<=cap*size:=Nat.mul_le_mul_right _ (by omega)
   rw [Nat.succ_mul] at this
   omega
  refine .sl (fun j=>us.getD j undef) h4 h5 (by simp) (hf b ((h2 b).2 rfl)) h0 (fun i row k c hi hk=>?_) fun i row k c hi hk=>?_
  ·obtain ⟨h8,_⟩:=at_ i row k c hi hk
   rw [zD1,zCY h6]
   simp [List.getD,List.getElem?_eq_getElem h8]
  ·obtain ⟨h8,h9⟩:=at_ i row k c hi hk
   have:=h7 _ c _ h9 (List.getElem?_eq_getElem h8)
   simp only [List.getD,List.getElem?_eq_getElem h8,Option.getD_some]
   exact this.mono fun b hb=>⟨hD b hb,rfl⟩
theorem zLJ {n e size:Nat} {rows:List (List PV)} {E':Env} {S':Store} (hb:lkS S n=some (.arr e size rows)) (hE:frzE n (.sl size false rows) E=some E') (hS:frzS n (.sl size false rows) S=some S') {a:Act} {w:World} :
  Pre G E S a w->Pre G E' S' a w:=by
 rintro ⟨σ,φ,h⟩
 have hmem:=zBN hb
 have hsm:=zLo hS
 have hF:∀b,foot φ S' b->foot φ S b:=by
  rintro b ⟨m,k,h1,h2⟩
  obtain ⟨_,k0,h3,_⟩:=hsm m k h1
  exact ⟨m,k0,h3,h2⟩
 have hD:∀b,Dof G.X φ w S b->Dof G.X φ w S' b:=fun b ⟨h1,h2,h3⟩=>⟨h1,h2,fun m k hm hf=>by
  obtain ⟨m',k',h4,h5⟩:=hF b ⟨m,k,hm,hf⟩
  exact h3 m' k' h4 h5⟩
 have hn:∀b,φ n b->Dof G.X φ w S' b:=fun b hb=>by
  obtain ⟨h1,h2⟩:=h.inv.lt b ⟨n,_,hmem,hb⟩
  refine ⟨h1,h2,fun m k hm hf=>?_⟩
  obtain ⟨hne,k0,h3,_⟩:=hsm m k hm
  exact h.inv.disj m n k0 _ h3 hmem hne b hf hb
 have hq:RD w (Dof G.X φ w S') (.sl size false rows) (σ n):=zOV hD hn (h.inv.ok n _ hmem)
 refine ⟨σ,φ,h.defers,h.size,fun t p ht=>?_,⟨(zI3 hS).nodup h.inv.nodup,h.inv.xlt,fun b hb=>h.inv.lt b (hF b hb),fun m1 m2 k1 k2 h1 h2=>?_,fun m k hm=>?_⟩,h.fr,h.agree,fun b hb=>h.new b (hF b hb)⟩
 ·rw [zNs hE] at ht
  cases hl:lk E t with
  | none=>simp [hl] at ht
  | some p0 =>
   obtain ⟨u,hu,hr⟩:=h.env t p0 hl
   simp only [hl,Option.map_some,Option.some.injEq] at ht
   exact ⟨u,hu,zI4 hD hq hr ht⟩
 ·obtain ⟨_,k01,h3,_⟩:=hsm m1 k1 h1
  obtain ⟨_,k02,h4,_⟩:=hsm m2 k2 h2
  exact h.inv.disj m1 m2 k01 k02 h3 h4
 ·obtain ⟨hne,k0,h3,hkk⟩:=hsm m k hm
  rcases hkk with ⟨rfl,_⟩ | ⟨ty,cells,cells',rfl,rfl,hc⟩
  ·exact (h.inv.ok m _ h3).mono hD
  ·rcases h.inv.ok m _ h3 with hbk | hw
   rotate_left
   ·obtain ⟨l1,l2⟩:=zKL hc
    refine .inr (hw.map l1 (fun s r x h0=>by rw [l2 0,h0];rfl) (fun i c c' u g1 g2 hr=>?_) (fun p u hr=>hr.mono fun b hb=>⟨hD b hb,rfl⟩) fun _ _=>rfl)
    rw [l2 i,g1] at g2
    simp only [Option.map_some,Option.some.injEq] at g2
    exact zI4 hD hq hr g2
   obtain ⟨b,us,g1,g2,g3,g4,g5⟩:=hbk
   obtain ⟨l1,l2⟩:=zKL hc
   refine .inl ⟨b,us,g1,g2,by rw [g3,l1],g4,fun i c u hci hu=>?_⟩
   rw [l2 i] at hci
   cases hl:cells[i]? with
   | none=>simp [hl] at hci
   | some p0 =>
    simp only [hl,Option.map_some,Option.some.injEq] at hci
    exact zI4 hD hq (g5 i p0 u hl hu) hci
theorem zCr (n:Nat) {e size:Nat} {rows:List (List PV)} {all:Array Oper} {ops:List Oper} {E':Env} {S':Store} (hb:lkS S n=some (.arr e size rows)) (hE:frzE n (.sl size false rows) E=some E') (hS:frzS n (.sl size false rows) S=some S')
  (k:PO G m all ops K E' S'):PO G m all ops K E S:=fun r hr a w hp=>k r hr a w (zLJ hb hE hS hp)
theorem zDt (n:Nat) {e size:Nat} {rows:List (List PV)} {c:Code} {E':Env} {S':Store} (hb:lkS S n=some (.arr e size rows)) (hE:frzE n (.sl size false rows) E=some E') (hS:frzS n (.sl size false rows) S=some S')
  (k:PW G m c K E' S'):PW G m c K E S:=fun r hr a w hp=>k r hr a w (zLJ hb hE hS hp)
theorem zEr {T:Tab G.P} {α : Type} {all:Array Oper} {o:Oper} {rest:List Oper} (enc : α -> List PV) (xs:List α) {f : α -> Option ρ} {t:TypeId} {x ix:Operand} {n size e e' by_:Nat} {kk:IntKind} {i:Int} {d:Nat}
  (ho:o.op=.indexAddr t x ix) (hg:gE all E o=some true) (hx:ev E x=some (.own n)) (hb:lkS S n=some (.arr e' size (xs.map enc))) (hi:ev E ix=some (.v (.int kk i))) (ht:lku T.els t=some (e,size,by_))
  (hd:o.dst=some d) (hlt:Nat.blt d G.fn.ntmps=true) (k:∀y,idx xs i=some y->PO G (f y) all rest K ((d,.ela n size i.toNat 0)::E) S):PO G (bnd (idx xs i) f) all (o::rest) K E S:=by
 refine zGD fun y hy=>zFV hg fun r hr a w ⟨σ,φ,hp⟩=>?_
 have hy':=hy
 unfold idx at hy'
 split at hy'
 case isFalse=>simp at hy'
 rename_i h0
 obtain ⟨hel,inf,hinf,hsz,_⟩:=zC2 (T.hels _ (zA6 ht))
 obtain ⟨hiv,_⟩:=(zBI hp.env hi).flat_inv
 have hxv:a.eval x = σ n:=by
  have:=zBI hp.env hx
  generalize a.eval x=v at this
  cases this with
  | own=>rfl
  | d hd=>cases hd
 have hlen:i.toNat<xs.length:=(List.getElem?_eq_some_iff.1 hy').1
 obtain ⟨h1,h2⟩:=hp.inv.ok n _ (zBN hb)
 rcases h2 with ⟨h3,_⟩ | ⟨b,us,cap,h3,_,h4,h5,h6,h7,h8⟩
 ·simp at h3;subst h3;simp at hlen
 have hil:i<(xs.length:Int):=by omega
 have hrun:(execOp a.eval o).run G.P w=.ok (.value (.pointer (some ⟨b,i.toNat*size,none⟩))) w:=by
  simp [execOp,ho,hxv,h3,hiv,Instr.indexAt,asIntOf,run_underlying hel,h0,hil,sizeOf,typeInfo,hinf,hsz,zD1]
 unfold Oper.wp
 rw [hrun,Oper.upon_value,hd]
 exact k y hy r hr _ _ ⟨σ,φ,hp.put (zCB hlt) (.ela (off:=0) (zHj h3))⟩
theorem zGN {T:Tab G.P} {α : Type} {all:Array Oper} {o:Oper} {rest:List Oper} (enc : α -> List PV) (xs:List α) (x0 x1 : α) {t:TypeId} {x y:Operand} {n size i off e sz:Nat} {g:Bool} {p:PV} {cs:List PV} {S':Store}
  (h0:xs[i]? = some x0) (ho:o.op=.store t x y) (hg:gE all E o=some true) (hx:ev E x=some (.ela n size i off)) (hb:lkS S n=some (.arr e size (xs.map enc))) (hy:ev E y=some p) (hcs:zJI p=some cs) (hone:cs.all zGS=true) (hdat:cs.all datP=true)
  (ht:lku T.tys t=some (g,sz)) (hsz:Nat.beq cs.length sz=true) (hov:ovr (enc x0) off cs=some (enc x1)) (hd:o.dst=none) (hS:setS n (.arr e size ((xs.set i x1).map enc)) S=some S') (k:PO G m all rest K E S'):PO G m all (o::rest) K E S:=by
 refine zFV hg fun r hr a w ⟨σ,φ,hp⟩=>?_
 have hmem:=zBN hb
 have hsz:=Nat.eq_of_beq_eq_true hsz
 obtain ⟨h1,h2⟩:=hp.inv.ok n _ hmem
 have hlt:i<xs.length:=(List.getElem?_eq_some_iff.1 h0).1
 have hrow:(xs.map enc)[i]? = some (enc x0):=by simp [h0]
 have hro:(enc x0).length=size:=h1 _ (List.mem_of_getElem? hrow)
 rcases h2 with ⟨h3,_⟩ | ⟨b,us0,cap,h3,h3',h4,h5,h6,⟨fr,h7,h7',h7''⟩,h8⟩
 ·simp at h3;subst h3;simp at hlt
 obtain ⟨us,g1,g2,g3⟩:=zGl hcs (zBI hp.env hy)
 obtain ⟨o1,o2,o3⟩:=zLF hov
 have hbx:a.eval x=.pointer (some ⟨b,i*size+off,none⟩):=by
  have:=zBI hp.env hx
  generalize a.eval x=u at this
  cases this with
  | ela hs=>rw [zHj h3] at hs;simp at hs;subst hs;rfl
  | d hd=>cases hd
 rw [List.length_map] at h5
 have hcap:(i+1)*size<=cap*size:=Nat.mul_le_mul_right _ (by omega)
 rw [Nat.succ_mul] at hcap
 obtain ⟨w',cur',s1,s2,s3,s4,s5,s6,s7,s8,s9⟩:=zHq (P:=G.P) b (i*size+off) (e % fixE) fr us 0 us0 w h7 h7' (by rw [h4];omega) (zNb g2 g3 hone)
 have hrun:(execOp a.eval o).run G.P w=.ok .skip w':=by
  simp only [execOp,ho,hbx,Sem.run_bind,zIL (T.htys _ (zA6 ht)) g1 (g2.trans hsz),s1,Result.andThen_ok,Sem.run_pure]
 unfold Oper.wp
 rw [hrun,Oper.upon_skip,hd]
 refine k r hr _ _ ⟨σ,φ,hp.turn hmem hS s5 (fun c hc=>s6 c fun e=>hc ((h3' c).2 e)) s7 s8 s9 fun D' hD=>?_⟩
 have hx1:(enc x1).length=size:=by rw [o1,hro]
 have hall:∀row:List PV,row∈(xs.set i x1).map enc->row.length=size:=by
  intro row hrow'
  rw [List.map_set] at hrow'
  rcases List.mem_or_eq_of_mem_set hrow' with h | h
  ·exact h1 row h
  ·subst h;exact hx1
 refine ⟨hall,.inr ⟨b,cur',cap,by simpa using h3,h3',by rw [s3,h4],by simpa using h5,h6,⟨fr,s2,by rw [s3];exact h7',h7''⟩,fun j c u hc hu=>?_⟩⟩
 have hjl:j<((xs.set i x1).map enc).flatten.length:=(List.getElem?_eq_some_iff.1 hc).1
 rw [zFN hall] at hjl
 simp only [List.length_map,List.length_set] at hjl
 have hs0:0<size:=by rcases Nat.eq_zero_or_pos size with h | h;subst h;simp at hjl;exact h
 have hi':j / size<xs.length:=Nat.div_lt_of_lt_mul (by rw [Nat.mul_comm];exact hjl)
 have hm:j % size<size:=Nat.mod_lt _ hs0
 have ej:j / size*size+j % size=j:=by rw [Nat.mul_comm];exact Nat.div_add_mod j size
 rw [s4 j] at hu
 simp only [Nat.add_zero,g2] at hu
 by_cases hij:i=j / size
 ·have hrow1:((xs.set i x1).map enc)[j / size]? = some (enc x1):=by rw [<- hij,List.getElem?_map,List.getElem?_set_self hlt];rfl
  have hf:=zFH hall hrow1 hm
  rw [ej,hc] at hf
  have hc':=hf.symm
  rw [o3] at hc'
  have hjj:i*size+j % size=j:=by rw [hij];exact ej
  split at hc'
  ·rename_i hin
   rw [if_pos (by omega),show j - (i*size+off)=j % size - off by omega] at hu
   exact ((g3 _ c u hc' hu).toRD (List.all_eq_true.1 hdat c (List.mem_of_getElem? hc'))).mono hD
  ·rename_i hin
   rw [if_neg (by omega)] at hu
   have hf0:=zFH h1 hrow (show j % size<size from hm)
   rw [hjj] at hf0
   exact (h8 j c u (hf0.trans hc') hu).mono hD
 ·have hrow0:((xs.set i x1).map enc)[j / size]? = (xs.map enc)[j / size]? := by rw [List.getElem?_map,List.getElem?_map,List.getElem?_set_ne hij]
  have hrow1:=List.getElem?_eq_getElem (show j / size<(xs.map enc).length by simpa using hi')
  have hf:=zFH hall (hrow0.trans hrow1) hm
  have hf0:=zFH h1 hrow1 hm
  rw [ej] at hf hf0
  rw [if_neg (by
   intro ⟨ha,hb'⟩
   rcases Nat.lt_or_ge (j / size) i with h | h
   ·have:(j / size+1)*size<=i*size:=Nat.mul_le_mul_right _ (by omega)
    rw [Nat.succ_mul] at this;omega
   ·have:(i+1)*size<=j / size*size:=Nat.mul_le_mul_right _ (by omega)
    rw [Nat.succ_mul] at this;omega)] at hu
  exact (h8 j c u (hf0.trans (hf.symm.trans hc)) hu).mono hD
end
end Go.Pw
