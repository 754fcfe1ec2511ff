/- More of the rules: zero values, stores, elements, arithmetic, calls. No program is named here. -/
import Derived.Test.YtoboimmgglnjfaaGreatDoorEff
namespace Go.Pw
open Go
section
variable {P:Program} {ρ : Type} {G:Ctx ρ} {m:Option ρ} {K:List (Kont ρ)} {E:Env} {S:Store} {σ : Nat->Value} {w:World} {D X:Nat->Prop} {φ : Nat->Nat->Prop}
theorem zPm {T:Tab P} {t:TypeId} {cs:List PV} (h:zeroE T t=some cs):∃z,(zeroValue t).run P w=.ok z w/\z.cells.toList.length=cs.length /\
  ∀(i:Nat) (c:PV) (x:Value),cs[i]? = some c->z.cells.toList[i]? = some x->R σ w D c x:=by
 unfold zeroE at h
 split at h<;>try simp at h
 rename_i z hz
 have hz':=T.hzeros _ (zA6 hz)
 simp only [Option.bind_eq_some_iff] at hz'
 obtain ⟨i,hi,hzi⟩:=hz'
 refine ⟨z,by simp [zeroValue,typeInfo,hi,hzi],?_⟩
 have key:∀(l:List Value) (cs:List PV),zeroE.go l=some cs->l.length=cs.length/\∀(i:Nat) (c:PV) (x:Value),cs[i]? = some c->l[i]? = some x->R σ w D c x:=by
  intro l
  induction l with
  | nil=>intro cs h;simp [zeroE.go] at h;subst h;exact ⟨rfl,fun i c x hc=>by simp at hc⟩
  | cons y l ih =>
   intro cs h
   simp only [zeroE.go] at h
   split at h<;>simp at h
   rename_i ps hf hg
   subst h
   obtain ⟨h1,h2⟩:=ih ps hg
   refine ⟨by simp [h1],fun i c x hc hx=>?_⟩
   cases i with
   | zero=>simp at hc hx;subst hc hx;exact .d (.v hf)
   | succ i=>exact h2 i c x (by simpa using hc) (by simpa using hx)
 exact key _ _ h
theorem zAs {T:Tab G.P} {all:Array Oper} {o:Oper} {rest:List Oper} (n:Nat) {elem:TypeId} {cs cs':List PV} {d:Nat} {E':Env} {S':Store} (ho:o.op=.alloc elem) (hg:gE all E o=some true)
  (hcs:zeroE T elem=some cs) (hd:o.dst=some d) (hlt:Nat.blt d G.fn.ntmps=true) (hn:zEX G n=true) (hE:zE3 n E=some E') (hS:zEc n S=some S') (hc:zGz n cs=some cs')
  (k:PO G m all rest K ((d,.loc n 0)::E') ((n,.box elem cs')::S')):PO G m all (o::rest) K E S:=by
 refine zFV hg fun r hr a w ⟨σ,φ,hp⟩=>?_
 obtain ⟨z,h1,h2,h3⟩:=zPm (σ := σ) (w:=w) (D:=Dof G.X φ w S) hcs
 have hrun:(execOp a.eval o).run G.P w=.ok (.value (.pointer (some ⟨w.heap.size,0,none⟩))) (w.alloc (.cells ⟨z.cells.toList⟩ elem)):=by
  simp [execOp,ho,Instr.alloc,newVar,newRow,h1]
 unfold Oper.wp
 rw [hrun,Oper.upon_value,hd]
 exact k r hr _ _ (zQd hp hn hE hS hc h2 h3 (zCB hlt))
def ovr:List PV->Nat->List PV->Option (List PV)
 | cs,0,[]=>some cs
 | _::cs,0,x::xs=>match ovr cs 0 xs with
  | some l=>some (x::l)
  | none=>none
 | c::cs,n+1,xs=>match ovr cs n xs with
  | some l=>some (c::l)
  | none=>none
 | [],_,_=>none
theorem zLF:∀{cs:List PV} {n:Nat} {xs l:List PV},ovr cs n xs=some l->l.length=cs.length/\n+xs.length<=cs.length /\
  ∀i,l[i]? = if n<=i/\i<n+xs.length then xs[i - n]? else cs[i]?
 | [],0,[],l,h=>by simp [ovr] at h;subst h;simp
 | c::cs,0,[],l,h=>by simp [ovr] at h;subst h;simp
 | c::cs,0,x::xs,l,h=>by
  simp only [ovr] at h
  split at h<;>simp at h
  rename_i l' hl
  obtain ⟨h1,h2,h3⟩:=zLF hl
  subst h
  refine ⟨by simp [h1],by simp;omega,fun i=>?_⟩
  cases i with
  | zero=>simp
  | succ i =>
   rw [List.getElem?_cons_succ,h3 i]
   simp
 | c::cs,n+1,xs,l,h=>by
  simp only [ovr] at h
  split at h<;>simp at h
  rename_i l' hl
  obtain ⟨h1,h2,h3⟩:=zLF hl
  subst h
  refine ⟨by simp [h1],by simp;omega,fun i=>?_⟩
  cases i with
  | zero=>simp
  | succ i =>
   rw [List.getElem?_cons_succ,h3 i]
   have:(n+1<=i+1/\i+1<n+1+xs.length)↔(n<=i/\i<n+xs.length):=by omega
   simp only [this,List.getElem?_cons_succ,Nat.add_sub_add_right]
 | [],0,x::xs,l,h=>by simp [ovr] at h
 | [],n+1,xs,l,h=>by simp [ovr] at h
theorem zRh (a:Array Obj) (i:Nat) (f:Obj->Obj) (o:Obj) (h:a[i]? = some o):(a.modify i f)[i]? = some (f o):=by
 simp [Array.getElem?_modify,h]
theorem zHq (b o:Nat) (e:TypeId) (fr:Nat×Nat):∀(vs:List Value) (i:Nat) (cur:List Value) (w:World),w.heap[b]? = some (.cells ⟨cur⟩ e fr)->(fr.1<fr.2->cur.length<=fr.1)->o+i+vs.length<=cur.length ->
  (∀v∈vs,v.oneCell'=true)->∃w' cur',(storeCells ⟨b,o,none⟩ vs i).run P w=.ok () w'/\w'.heap[b]? = some (.cells ⟨cur'⟩ e fr)/\cur'.length=cur.length /\
   (∀j,cur'[j]? = if o+i<=j/\j<o+i+vs.length then vs[j - (o+i)]? else cur[j]?)/\w'.heap.size=w.heap.size/\(∀k,k≠b->w'.heap[k]? = w.heap[k]?)/\w'.os=w.os/\w'.tape=w.tape/\w'.output=w.output
 | [],i,cur,w,h,hf,hl,h1=>⟨w,cur,by simp [storeCells],h,rfl,fun j=>by simp;intro h1 h2;omega,rfl,fun _ _=>rfl,rfl,rfl,rfl⟩
 | v::vs,i,cur,w,h,hf,hl,h1=>by
  simp only [List.length_cons] at hl
  have hc:w.cell? ((⟨b,o,none⟩:Addr).add i)=some (cur[o+i]'(by omega)):=by
   rw [zD1,zCY h,List.getElem?_eq_getElem]
  have hz:w.frozen? ((⟨b,o,none⟩:Addr).add i)=false:=by
   rw [zD1]
   simp only [World.frozen?,h]
   cases e1:(decide (fr.1<=o+i)&&decide (o+i<fr.2))
   ·rfl
   ·simp at e1;have:=hf (by omega);omega
  have hs:(store ((⟨b,o,none⟩:Addr).add i) v).run P w=.ok () (w.setCell ((⟨b,o,none⟩:Addr).add i) v):=by
   rw [run_store _ _ _ _ _ (h1 v (List.mem_cons_self ..)),hc,hz];rfl
  rw [zD1] at hs
  have hb':(w.setCell ⟨b,o+i,none⟩ v).heap[b]? = some (.cells ⟨cur.set (o+i) v⟩ e fr):=by
   simp only [World.setCell]
   rw [zRh _ _ _ _ h]
   simp
  obtain ⟨w',cur',g1,g2,g3,g4,g5,g6,g7,g8,g9⟩:=zHq b o e fr vs (i+1) (cur.set (o+i) v) (w.setCell ⟨b,o+i,none⟩ v) hb' (by simpa using hf) (by simp;omega) (fun u hu=>h1 u (List.mem_cons_of_mem _ hu))
  refine ⟨w',cur',?_,g2,by simpa using g3,fun j=>?_,by rw [g5];simp,fun k hk=>?_,g7.trans rfl,g8.trans rfl,g9.trans rfl⟩
  ·rw [storeCells,Sem.run_bind,zD1,hs];exact g1
  ·rw [g4 j]
   by_cases hj:o+i=j
   ·subst hj
    rw [if_neg (by omega),if_pos (by simp),Nat.sub_self,List.getElem?_set_self (by omega)]
    rfl
   ·by_cases hin:o+(i+1)<=j/\j<o+(i+1)+vs.length
    ·rw [if_pos hin,if_pos (by simp;omega)]
     rw [show j - (o+i)=(j - (o+(i+1)))+1 by omega,List.getElem?_cons_succ]
    ·rw [if_neg hin,if_neg (by simp;omega),List.getElem?_set_ne hj]
  ·rw [g6 k hk];exact Go.RowKit.Below.heap_setCell w _ _ k (by simpa using hk)
def zGS:PV->Bool
 | .agg _ | .tup _ | .junk | .sel _ _=>false
 | _=>true
theorem zMe {p:PV} {u:Value} (hr:R σ w D p u) (h:zGS p=true):u.oneCell'=true:=by
 cases hr with
 | d hd=>cases hd with
  | v hx=>exact (zOr hx).2
  | agg=>simp [zGS] at h
  | tup=>simp [zGS] at h
  | _=>rfl
 | own h1=>rename_i n;revert h1;cases σ n<;>simp [zLE,Value.oneCell']
 | ownb h1=>rename_i n;revert h1;cases σ n<;>simp [zFj,Value.oneCell']
 | agg=>simp [zGS] at h
 | tup=>simp [zGS] at h
 | junk=>simp [zGS] at h
 | sel=>simp [zGS] at h
 | _=>rfl
theorem zNb {cs:List PV} {us:List Value} (hl:us.length=cs.length) (h:∀(i:Nat) (c:PV) (x:Value),cs[i]? = some c->us[i]? = some x->R σ w D c x) (hc:cs.all zGS=true):∀v∈us,v.oneCell'=true:=by
 intro v hv
 obtain ⟨i,hi,rfl⟩:=List.mem_iff_getElem.1 hv
 have hi':i<cs.length:=by omega
 exact zMe (h i _ _ (List.getElem?_eq_getElem hi') (List.getElem?_eq_getElem hi)) (List.all_eq_true.1 hc _ (List.getElem_mem hi'))
theorem zIL {t:TypeId} {n:Nat} {g:Bool} (ht:tyOf P t=some (g,n)) {ad:Addr} {v:Value} {us:List Value} (hv:v.cells=⟨us⟩) (hl:us.length=n) :
  (Instr.storeAt t (.pointer (some ad)) v).run P w=(storeCells ad us 0).run P w:=by
 obtain ⟨_,h2⟩:=zGr (w:=w) ht
 simp [Instr.storeAt,Instr.sureAddr,storeVar,h2,hv,hl]
def setS (n:Nat) (k:Blk):Store->Option Store
 | []=>none
 | (a,b)::S=>match Nat.beq a n with
  | true=>some ((a,k)::S)
  | false=>match setS n k S with
   | some S'=>some ((a,b)::S')
   | none=>none
theorem zLQ {n:Nat} {k:Blk}:∀{S S':Store},setS n k S=some S'->S'.map (·.1)=S.map (·.1)
 | [],S',h=>by simp [setS] at h
 | (a,b)::S,S',h=>by
  simp only [setS] at h
  split at h
  ·simp at h;subst h;rfl
  ·split at h<;>simp at h
   rename_i S1 h1
   subst h
   simp [zLQ h1]
theorem zPg {n:Nat} {k:Blk}:∀{S S':Store},(S.map (·.1)).Nodup->setS n k S=some S'->∀m k',(m,k')∈S'->(m=n/\k'=k)\/((m,k')∈S/\m≠n)
 | [],S',_,h,m,k',hm=>by simp [setS] at h
 | (a,b)::S,S',hnd,h,m,k',hm=>by
  simp only [List.map_cons,List.nodup_cons] at hnd
  simp only [setS] at h
  split at h
  ·rename_i e
   have e:=Nat.eq_of_beq_eq_true e
   subst e
   simp at h;subst h
   rcases List.mem_cons.1 hm with h1 | h1
   ·cases h1;exact .inl ⟨rfl,rfl⟩
   ·exact .inr ⟨List.mem_cons_of_mem _ h1,fun e=>hnd.1 (by rw [<- e];exact List.mem_map.2 ⟨_,h1,rfl⟩)⟩
  ·rename_i e
   have e':a≠n:=fun h=>by subst h;simp at e
   split at h<;>simp at h
   rename_i S1 h1
   subst h
   rcases List.mem_cons.1 hm with h2 | h2
   ·cases h2;exact .inr ⟨List.mem_cons_self ..,e'⟩
   ·rcases zPg hnd.2 h1 m k' h2 with h3 | ⟨h3,h4⟩
    ·exact .inl h3
    ·exact .inr ⟨List.mem_cons_of_mem _ h3,h4⟩
theorem Inv.turn (hi:Inv X σ φ w S) {n:Nat} {k0 k:Blk} {S':Store} (h0:(n,k0)∈S) (hS:setS n k S=some S') {w':World} (hsz:w'.heap.size=w.heap.size) (hkeep:∀b,¬φ n b->w'.heap[b]? = w.heap[b]?)
  (hk:∀D',(∀b,Dof X φ w S b->D' b/\w'.heap[b]? = w.heap[b]?)->BlkOk σ w' D' (σ n) (φ n) k):Inv X σ φ w' S'/\(∀b,Dof X φ w S b->Dof X φ w' S' b/\w'.heap[b]? = w.heap[b]?)/\∀b,foot φ S' b->foot φ S b:=by
 have hmem:=zPg hi.nodup hS
 have hF:∀b,foot φ S' b->foot φ S b:=by
  rintro b ⟨m,k',h1,h2⟩
  rcases hmem m k' h1 with ⟨rfl,_⟩ | ⟨h3,_⟩
  ·exact ⟨m,k0,h0,h2⟩
  ·exact ⟨m,k',h3,h2⟩
 have hD:∀b,Dof X φ w S b->Dof X φ w' S' b/\w'.heap[b]? = w.heap[b]? := by
  rintro b ⟨h1,h2,h3⟩
  refine ⟨⟨by omega,h2,fun m k' hm hf=>?_⟩,hkeep b (h3 n k0 h0)⟩
  obtain ⟨m',k'',h4,h5⟩:=hF b ⟨m,k',hm,hf⟩
  exact h3 m' k'' h4 h5
 refine ⟨⟨by rw [zLQ hS];exact hi.nodup,fun b hb=>by have:=hi.xlt b hb;omega,fun b hb=>⟨by have:=(hi.lt b (hF b hb)).1;omega,(hi.lt b (hF b hb)).2⟩,?_,?_⟩,hD,hF⟩
 ·intro m1 m2 k1 k2 h1 h2 hne b hb1 hb2
  have g1:∃k,(m1,k)∈S:=by
   rcases hmem m1 k1 h1 with ⟨rfl,_⟩ | ⟨h3,_⟩
   ·exact ⟨k0,h0⟩
   ·exact ⟨_,h3⟩
  have g2:∃k,(m2,k)∈S:=by
   rcases hmem m2 k2 h2 with ⟨rfl,_⟩ | ⟨h3,_⟩
   ·exact ⟨k0,h0⟩
   ·exact ⟨_,h3⟩
  obtain ⟨q1,g1⟩:=g1
  obtain ⟨q2,g2⟩:=g2
  exact hi.disj m1 m2 q1 q2 g1 g2 hne b hb1 hb2
 ·intro m k' hm
  rcases hmem m k' hm with ⟨rfl,rfl⟩ | ⟨h3,hne⟩
  ·exact hk _ hD
  ·exact BlkOk.next hD (fun b hb=>hkeep b fun hn=>hi.disj m n k' k0 h3 h0 hne b hb hn) (hi.ok m k' h3) fun _ _ _ _ _ _ _ _=>rfl
theorem Pre'.turn {a:Act} {w:World} (h:Pre' G E S a w σ φ) {n:Nat} {k0 k:Blk} {S':Store} (h0:(n,k0)∈S) (hS:setS n k S=some S') {w':World} (hsz:w'.heap.size=w.heap.size) (hkeep:∀b,¬φ n b->w'.heap[b]? = w.heap[b]?)
  (hos:w'.os=w.os) (htape:w'.tape=w.tape) (hout:w'.output=w.output)
  (hk:∀D',(∀b,Dof G.X φ w S b->D' b/\w'.heap[b]? = w.heap[b]?)->BlkOk σ w' D' (σ n) (φ n) k):Pre' G E S' a w' σ φ := by
 obtain ⟨h1,h2,h3⟩:=h.inv.turn h0 hS hsz hkeep hk
 refine ⟨h.dk fun b hb hf=>hkeep b fun hx=>hf ⟨n,k0,h0,hx⟩,h.size,fun t p ht=>let ⟨u,hu,hr⟩:=h.env t p ht;⟨u,hu,hr.mono h2⟩,h1,?_,h.agree,fun b hb=>h.new b (h3 b hb)⟩
 refine ⟨hos.trans h.fr.os,htape.trans h.fr.tape,hout.trans h.fr.output,by have:=h.fr.size;omega,fun b hb hx=>?_⟩
 rw [<- h.fr.block b hb hx]
 exact hkeep b fun hf=>hx (h.new b ⟨n,k0,h0,hf⟩ hb)
theorem zAG {T:Tab G.P} {all:Array Oper} {o:Oper} {rest:List Oper} {t:TypeId} {x y:Operand} {n off sz:Nat} {g:Bool} {p:PV} {ty:Nat} {cells cs cells':List PV} {S':Store}
  (ho:o.op=.store t x y) (hg:gE all E o=some true) (hx:ev E x=some (.loc n off)) (hb:lkS S n=some (.box ty cells)) (hy:ev E y=some p) (hcs:zJI p=some cs) (hone:cs.all zGS=true)
  (ht:lku T.tys t=some (g,sz)) (hsz:cs.length=sz) (hov:ovr cells off cs=some cells') (hd:o.dst=none) (hS:setS n (.box ty cells') S=some S') (k:PO G m all rest K E S'):PO G m all (o::rest) K E S:=by
 refine zFV hg fun r hr a w ⟨σ,φ,hp⟩=>?_
 have hmem:=zBN hb
 rcases hp.inv.ok n _ hmem with hbk | hw
 rotate_left
 ·have:=zBI hp.env hx
  generalize a.eval x=u at this
  cases this with
  | loc hs=>rw [hw.noP] at hs;cases hs
  | d hd=>cases hd
 obtain ⟨b,us0,h1,h2,h3,⟨⟨fr,h4,h5⟩,h6⟩⟩:=hbk
 obtain ⟨us,g1,g2,g3⟩:=zGl hcs (zBI hp.env hy)
 obtain ⟨o1,o2,o3⟩:=zLF hov
 have hbx:a.eval x=.pointer (some ⟨b,off,none⟩):=by
  have:=zBI hp.env hx
  generalize a.eval x=u at this
  cases this with
  | loc hs=>rw [zIe h1] at hs;simp at hs;subst hs;rfl
  | d hd=>cases hd
 obtain ⟨w',cur',s1,s2,s3,s4,s5,s6,s7,s8,s9⟩:=zHq (P:=G.P) b off ty fr us 0 us0 w h4 h5 (by omega) (zNb g2 g3 hone)
 have hrun:(execOp a.eval o).run G.P w=.ok .skip w':=by
  simp only [execOp,ho,hbx,Sem.run_bind,zIL (T.htys _ (zA6 ht)) g1 (g2.trans hsz),s1,Result.andThen_ok,Sem.run_pure]
 unfold Oper.wp
 rw [hrun,Oper.upon_skip,hd]
 refine k r hr _ _ ⟨σ,φ,hp.turn hmem hS s5 (fun c hc=>s6 c fun e=>hc ((h2 c).2 e)) s7 s8 s9 fun D' hD=>?_⟩
 refine .inl ⟨b,cur',h1,h2,by rw [s3,h3,o1],⟨fr,s2,fun h=>by rw [s3];exact h5 h⟩,fun i c u hc hu=>?_⟩
 rw [o3 i] at hc
 rw [s4 i] at hu
 simp only [Nat.add_zero,g2] at hu
 split at hc
 ·rename_i hin
  rw [if_pos hin] at hu
  exact (g3 _ c u hc hu).mono hD
 ·rename_i hin
  rw [if_neg hin] at hu
  exact (h6 i c u hc hu).mono hD
theorem zCN {T:Tab G.P} {α : Type} {all:Array Oper} {o:Oper} {rest:List Oper} (enc : α -> List PV) (xs:List α) {f : α -> Option ρ} {t:TypeId} {x ix:Operand} {size e by_:Nat} {full:Bool} {kk:IntKind} {i:Int} {d:Nat}
  (ho:o.op=.indexAddr t x ix) (hg:gE all E o=some true) (hx:ev E x=some (.sl size full (xs.map enc))) (hi:ev E ix=some (.v (.int kk i))) (ht:lku T.els t=some (e,size,by_))
  (hd:o.dst=some d) (hlt:Nat.blt d G.fn.ntmps=true) (k:∀y,idx xs i=some y->PO G (f y) all rest K ((d,.el (enc y) 0)::E) S):PO G (bnd (idx xs i) f) all (o::rest) K E S:=by
 refine zGD fun y hy=>zFV hg fun r hr a w ⟨σ,φ,hp⟩=>?_
 have hrow:=zRV enc hy
 unfold idx at hrow
 split at hrow
 case isFalse=>simp at hrow
 rename_i h0
 obtain ⟨hel,inf,hinf,hsz,_⟩:=zC2 (T.hels _ (zA6 ht))
 obtain ⟨hiv,_⟩:=(zBI hp.env hi).flat_inv
 have hxr:=zBI hp.env hx
 generalize hu:a.eval x=u at hxr
 have hlen:i.toNat<(xs.map enc).length:=(List.getElem?_eq_some_iff.1 hrow).1
 cases hxr with
 | d hdd =>
  generalize hrows:xs.map enc=rows at *
  cases hdd with
  | nil=>simp at hrow
  | sl g h1 h2 h3 h4 h5 h6 h7 =>
   rename_i ad cap
   have hil:i<(rows.length:Int):=by omega
   have hrun:(execOp a.eval o).run G.P w=.ok (.value (.pointer (some (ad.add (i.toNat*size))))) w:=by
    simp [execOp,ho,hu,hiv,Instr.indexAt,asIntOf,run_underlying hel,h0,hil,sizeOf,typeInfo,hinf,hsz]
   unfold Oper.wp
   rw [hrun,Oper.upon_value,hd]
   refine k y hy r hr _ _ ⟨σ,φ,hp.put (zCB hlt) (.d ?_)⟩
   have:=RD.el (w:=w) (D:=Dof G.X φ w S) (row:=enc y) (off:=0) (a:=ad.add (i.toNat*size)) (fun j=>g (i.toNat*size+j)) (by rw [zIb];exact h4)
    (fun j c hc=>by rw [zIw];exact h6 _ _ _ _ hrow hc) (fun j c hc=>h7 _ _ _ _ hrow hc)
   simpa [Addr.add] using this
theorem zAm {T:Tab G.P} {α : Type} {all:Array Oper} {o:Oper} {rest:List Oper} (enc : α -> List PV) (xs:List α) {args:Array Operand} {tys:Array TypeId} {t:TypeId} {x:Operand} {size:Nat} {z:Nat×Nat×Nat} {full:Bool} {d:Nat}
  (ho:o.op=.call ⟨.builtin .len,args,tys⟩) (h1:args.toList=[x]) (h2:tys.toList=[t]) (hg:gE all E o=some true) (hx:ev E x=some (.sl size full (xs.map enc))) (ht:lku T.els t=some z)
  (hd:o.dst=some d) (hlt:Nat.blt d G.fn.ntmps=true) (k:PO G m all rest K ((d,.v (.int .i64 (xs.length:Nat)))::E) S):PO G m all (o::rest) K E S:=by
 refine po_ev (T:=T) hg (p:=.v (.int .i64 (xs.length:Nat))) ?_ hd (zCB hlt) k
 simp only [ho,ev1,h1,h2,hx,ht,lenE,List.length_map]
def zKs (T:Tab P) (E:Env):Op->Option (IntKind×Int)
 | .binOp op _ x y _=>match ev E x,ev E y with
  | some (.v (.int k a)),some (.v (.int k' b))=>bif decide (k=k') then (match op with
   | .add=>some (k,a+b)
   | .sub=>some (k,a - b)
   | .mul=>some (k,a*b)
   | _=>none) else none
  | _,_=>none
 | .unOp .neg _ x=>match ev E x with
  | some (.v (.int k a))=>some (k,0 - a)
  | _=>none
 | .convert s t x=>match lku T.bases s,lku T.bases t,ev E x with
  | some (.int _),some (.int k),some (.v (.int _ a))=>some (k,a)
  | _,_,_=>none
 | _=>none
theorem zQV {T:Tab P} {a:Act} (hE:InvE σ w D E a.tmps) {o:Oper} {k:IntKind} {n:Int} (h:zKs T E o.op=some (k,n)):(execOp a.eval o).run P w=.ok (.value (.int k (k.wrap n))) w:=by
 unfold zKs at h
 split at h
 ·rename_i op t x y t' ho
  split at h<;>try simp at h
  rename_i k1 a1 k2 a2 h1 h2
  obtain ⟨e1,_⟩:=(zBI hE h1).flat_inv
  obtain ⟨e2,_⟩:=(zBI hE h2).flat_inv
  by_cases hk:k1=k2
  ·subst hk
   simp only [decide_true,cond_true] at h
   split at h<;>simp at h<;>obtain ⟨rfl,rfl⟩:=h <;>
    simp [execOp,ho,e1,e2,zEE,binOp,Op.intArith]
  ·simp [hk] at h
 ·rename_i t x ho
  split at h<;>simp at h
  rename_i k1 a1 h1
  obtain ⟨rfl,rfl⟩:=h
  obtain ⟨e1,_⟩:=(zBI hE h1).flat_inv
  simp [execOp,ho,e1,Op.unary,Op.intArith]
 ·rename_i s t x ho
  split at h<;>simp at h
  rename_i k0 k1 k2 a1 hs ht h1
  obtain ⟨rfl,rfl⟩:=h
  obtain ⟨e1,_⟩:=(zBI hE h1).flat_inv
  simp [execOp,ho,e1,convert,run_underlying (zIa (T.hbases _ (zA6 hs))),run_underlying (zIa (T.hbases _ (zA6 ht))),Conv.intToInt]
 ·simp at h
def zAJ (P:Program) (f:FuncId):Bool:=match P.funcs[f]? with
 | some fn => !(fn.name == "runtime.NumGoroutine") && fn.body.isSome
 | none=>false
theorem zEs {f:FuncId} (h:zAJ P f=true) (args:Array Value):(callFunc f args).run P w=.ok (.enter f args) w:=by
 unfold zAJ at h
 split at h<;>simp at h
 rename_i fn hf
 obtain ⟨h1,h2⟩:=h
 simp [callFunc,hf,h1]
 intro hn
 rw [hn] at h2
 simp at h2
def notT:PV->Bool
 | .tup _=>false
 | _=>true
inductive Coe1:PV->PV->Prop
 | rfl {p:PV}:Coe1 p p
 | nloc0 {n off:Nat}:Coe1 (.v (.pointer none)) (.nloc n off)
 | nloc1 {n off:Nat}:Coe1 (.loc n off) (.nloc n off)
 | ownb {n:Nat}:Coe1 (.ownb n) (.own n)
 | err0:Coe1 (.v .nilIface) (.err false)
 | nil {s:Nat} {f:Bool}:Coe1 (.v (.slice none 0 0)) (.sl s f [])
 | less {s:Nat} {rows:List (List PV)}:Coe1 (.sl s true rows) (.sl s false rows)
 | sel {k:Nat} {alts:List PV} {p:PV}:alts[k]? = some p->notT p=true->Coe1 p (.sel k alts)
def CoeL:List PV->List PV->Prop
 | [],[]=>True
 | a::l,b::m=>Coe1 a b/\CoeL l m
 | _,_=>False
inductive Coe:PV->PV->Prop
 | rfl {p:PV}:Coe p p
 | nloc0 {n off:Nat}:Coe (.v (.pointer none)) (.nloc n off)
 | nloc1 {n off:Nat}:Coe (.loc n off) (.nloc n off)
 | ownb {n:Nat}:Coe (.ownb n) (.own n)
 | err0:Coe (.v .nilIface) (.err false)
 | nil {s:Nat} {f:Bool}:Coe (.v (.slice none 0 0)) (.sl s f [])
 | less {s:Nat} {rows:List (List PV)}:Coe (.sl s true rows) (.sl s false rows)
 | sel {k:Nat} {alts:List PV} {p:PV}:alts[k]? = some p->notT p=true->Coe p (.sel k alts)
 | agg {cs ds:List PV}:CoeL cs ds->Coe (.agg cs) (.agg ds)
theorem zPt {v:Value} (h:zFj v=true):zLE v=true:=by
 unfold zFj at h
 split at h<;>first | rfl | cases h
theorem R.coe1 {p q:PV} {u:Value} (r:R σ w D p u) (h:Coe1 p q):R σ w D q u:=by
 cases h with
 | rfl=>exact r
 | nloc0=>obtain ⟨rfl,_⟩:=r.flat_inv;exact .nloc0
 | nloc1=>cases r with
  | loc hs=>exact .nloc1 hs
  | d hd=>cases hd
 | ownb=>cases r with
  | ownb hs=>exact .own (zPt hs)
  | d hd=>cases hd
 | err0=>obtain ⟨rfl,_⟩:=r.flat_inv;exact .d .err0
 | nil=>obtain ⟨rfl,_⟩:=r.flat_inv;exact .d (.nil (Nat.zero_le _) fun _=>rfl)
 | sel h _=>exact .sel h r
 | less=>cases r with
  | d hd=>cases hd with
   | nil h1 _=>exact .d (.nil h1 (by simp))
   | sl f h1 h2 _ h4 h5 h6 h7=>exact .d (.sl f h1 h2 (by simp) h4 h5 h6 h7)
theorem zJg:∀{cs ds:List PV},CoeL cs ds->cs.length=ds.length
 | [],[],_=>rfl
 | _::_,_::_,⟨_,h⟩=>by simp [zJg h]
 | [],_::_,h=>h.elim
 | _::_,[],h=>h.elim
theorem zLi:∀{cs ds:List PV},CoeL cs ds->∀(i:Nat) (d:PV),ds[i]? = some d->∃c,cs[i]? = some c/\Coe1 c d
 | [],[],_,i,d,h=>by simp at h
 | a::_,b::_,⟨h1,h2⟩,i,d,h=>by
  cases i with
  | zero=>simp at h;subst h;exact ⟨a,rfl,h1⟩
  | succ i=>exact zLi h2 i d (by simpa using h)
 | [],_::_,h,_,_,_=>h.elim
 | _::_,[],h,_,_,_=>h.elim
theorem zS9 {cs ds:List PV} (h:CoeL cs ds) {s:Nat} {r:List (List PV)} {x:Bool} (h0:cs[0]? = some (pfx s r x)):ds[0]? = some (pfx s r x):=by
 match cs,ds,h with
 | a::_,b::_,⟨h1,_⟩ =>
  simp at h0;subst h0
  cases h1 with
  | rfl=>rfl
  | sel _ h=>cases h
theorem R.coe {p q:PV} {u:Value} (r:R σ w D p u) (h:Coe p q):R σ w D q u:=by
 cases h with
 | rfl=>exact r
 | nloc0=>exact r.coe1 .nloc0
 | nloc1=>exact r.coe1 .nloc1
 | ownb=>exact r.coe1 .ownb
 | sel h _=>exact .sel h r
 | err0=>exact r.coe1 .err0
 | nil=>exact r.coe1 .nil
 | less=>exact r.coe1 .less
 | agg h =>
  obtain ⟨us,rfl,h1,h2⟩:=r.agg_inv
  refine .agg (by rw [<- zJg h,h1]) fun i c u hc hu=>?_
  obtain ⟨c0,g1,g2⟩:=zLi h i c hc
  exact (h2 i c0 u g1 hu).coe1 g2
def zH4 (E:Env):List Operand->List PV->Prop
 | [],[]=>True
 | x::l,q::qs=>(∃p,ev E x=some p/\Coe p q)/\zH4 E l qs
 | _,_=>False
theorem zHf {a:Act} (hE:InvE σ w D E a.tmps):∀{l:List Operand} {qs:List PV},zH4 E l qs->RL σ w D qs (l.map a.eval)
 | [],[],_=>⟨rfl,fun i c u hc=>by simp at hc⟩
 | x::l,q::qs,⟨⟨p,h1,h2⟩,h3⟩=>by
  obtain ⟨l1,l2⟩:=zHf hE h3
  refine ⟨by simp [l1],fun i c u hc hu=>?_⟩
  cases i with
  | zero=>simp at hc hu;subst hc hu;exact (zBI hE h1).coe h2
  | succ i=>exact l2 i c u (by simpa using hc) (by simpa using hu)
 | [],_::_,h=>h.elim
 | _::_,[],h=>h.elim
def noN (p:PV):Bool:=(names p).isEmpty
theorem RL.noN {σ':Nat->Value} {ps:List PV} {us:List Value} (h:RL σ w D ps us) (hn:ps.all noN=true):RL σ' w D ps us:=by
 refine ⟨h.1,fun i c u hc hu=>(h.2 i c u hc hu).agree fun n hm=>?_⟩
 have:=List.all_eq_true.1 hn c (List.mem_of_getElem? hc)
 unfold Pw.noN at this
 rw [List.isEmpty_iff] at this
 rw [this] at hm;cases hm
theorem zI8 {α : Type} {all:Array Oper} {o:Oper} {rest:List Oper} {f:FuncId} {args:Array Operand} {tys:Array TypeId} {qs:List PV} {d:Nat} {M:Option α} {enc : α -> PV} {g : α -> Option ρ}
  (hc:∀y,M=some y->DC G.L G.P f qs (enc y)) (ho:o.op=.call ⟨.value (.func f),args,tys⟩) (hg:gE all E o=some true) (ha:zH4 E args.toList qs) (he:∀y,noN (enc y)=true) (hf:zAJ G.P f=true)
  (hd:o.dst=some d) (hlt:Nat.blt d G.fn.ntmps=true) (k:∀y,M=some y->PO G (g y) all rest K ((d,enc y)::E) S):PO G (bnd M g) all (o::rest) K E S:=by
 refine zGD fun y hy=>zFV hg fun r hr a w ⟨σ,φ,hp⟩=>?_
 have hrun:(execOp a.eval o).run G.P w=.ok (.enter f ⟨args.toList.map a.eval⟩) w:=by
  have e1:(#[]:Array Value)++args.map a.eval ++ #[]=⟨args.toList.map a.eval⟩:=Array.toList_inj.1 (by simp)
  simp only [execOp,ho,resolve,Act.eval,Deferred.ofValue,invoke,Sem.run_bind,Sem.run_pure,Result.andThen_ok]
  rw [zEs hf]
  exact congrArg (fun x=>Result.ok (Next.enter f x) w) e1
 unfold Oper.wp
 rw [hrun,Oper.upon_enter]
 have hargs:=zHf hp.env ha
 let X':Nat->Prop:=fun b=>G.X b\/foot φ S b
 have hD':∀w' b,Dof X' φ w' [] b->b<w'.heap.size/\¬G.X b/\¬foot φ S b:=fun w' b ⟨h1,h2,_⟩=>⟨h1,fun h=>h2 (.inl h),fun h=>h2 (.inr h)⟩
 have hi':Inv X' σ φ w []:=⟨by simp,fun b hb=>by
  rcases hb with hb | hb
  ·exact hp.inv.xlt b hb
  ·exact (hp.inv.lt b hb).1,fun b ⟨n,k,h,_⟩=>by simp at h,fun n m k l h=>by simp at h,fun n k h=>by simp at h⟩
 have hDD:∀b,Dof G.X φ w S b->Dof X' φ w [] b:=fun b ⟨h1,h2,h3⟩=>⟨h1,fun h=>by
  rcases h with h | ⟨n,k,h,hf⟩
  ·exact h2 h
  ·exact h3 n k h hf,fun n k h=>by simp at h⟩
 have hargs':RL σ w (Dof X' φ w []) qs (args.toList.map a.eval):=⟨hargs.1,fun i c u hc hu=>(hargs.2 i c u hc hu).mono fun b hb=>⟨hDD b hb,rfl⟩⟩
 refine (hc y hy X' σ φ w _ (hp.laid fun _ _ ⟨n,k,h,_⟩=>by simp at h) hi' hargs').mono ?_
 rintro e w' ⟨p,S',σ',φ',u,rfl,⟨rfl,rfl⟩,hi2,hru,hfr,_,_⟩
 have hb:∀b,b<w.heap.size->w'.heap[b]? = w.heap[b]? := fun b hb=>hfr.block b hb fun ⟨n,k,h,_⟩=>by simp at h
 have hD2:∀b,Dof G.X φ w S b->Dof G.X φ w' S b/\w'.heap[b]? = w.heap[b]? := fun b ⟨h1,h2,h3⟩=>⟨⟨by have:=hfr.size;omega,h2,h3⟩,hb b h1⟩
 have hpre:Pre' G E S a w' σ φ := by
  refine ⟨hp.dk fun b h1 _=>hb b h1,hp.size,fun t q ht=>let ⟨v,hv,hrv⟩:=hp.env t q ht;⟨v,hv,hrv.mono hD2⟩,?_,?_,hp.agree,fun b hf hlt'=>hp.new b hf hlt'⟩
  ·refine ⟨hp.inv.nodup,fun b hb'=>by have:=hp.inv.xlt b hb';have:=hfr.size;omega,fun b hf=>⟨by have:=(hp.inv.lt b hf).1;have:=hfr.size;omega,(hp.inv.lt b hf).2⟩,hp.inv.disj,fun n k hm=>?_⟩
   exact BlkOk.next hD2 (fun b hf=>hb b (hp.inv.lt b ⟨n,k,hm,hf⟩).1) (hp.inv.ok n k hm) fun _ _ _ _ _ _ _ _=>rfl
  ·exact ⟨hfr.os.trans hp.fr.os,hfr.tape.trans hp.fr.tape,hfr.output.trans hp.fr.output,by have:=hfr.size;have:=hp.fr.size;omega,fun b hb' hx=>by
    have:=hp.fr.size
    rw [hb b (by omega)];exact hp.fr.block b hb' hx⟩
 rw [hd]
 refine k y hy r hr _ _ ⟨σ,φ,hpre.put (zCB hlt) ?_⟩
 have hnn:=he y
 unfold Pw.noN at hnn
 rw [List.isEmpty_iff] at hnn
 refine (hru.agree (σ' := σ) fun n hn=>by rw [hnn] at hn;cases hn).mono fun b hb'=>⟨?_,rfl⟩
 obtain ⟨h1,h2,h3⟩:=hD' w' b ⟨hb'.1,hb'.2.1,fun n k h=>by simp at h⟩
 exact ⟨h1,h2,fun n k h hf=>h3 ⟨n,k,h,hf⟩⟩
theorem zGi {α β : Type} {f g : α -> β} {l:List α} (h:l.map f=l.map g):∀x∈l,f x=g x:=List.map_inj_left.1 h
end
end Go.Pw
