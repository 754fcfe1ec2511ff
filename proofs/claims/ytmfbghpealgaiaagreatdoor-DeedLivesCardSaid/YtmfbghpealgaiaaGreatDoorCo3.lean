/- The logic: rules by which code is walked. No program is named here. -/
import Derived.Laws.IdiomCopy
import Derived.Lib.SmallJoins
import Derived.Lib.Bytealg
import Derived.Below
import Derived.Lib.LaidTab
import Derived.Stop.LaidErr
import Derived.ProofKit
import Derived.OpenShut
import Derived.Test.YtmfbghpealgaiaaGreatDoorCo2
namespace Go.Pw
open Go Go.MapKept
open List renaming getElem?_eq_getElem->lC,getElem?_map->lK,getElem?_eq_some_iff->lF,mem_map->lE,getElem?_append_left->lN,getElem?_append_right->cC,range->cW,length_map->lL,append_nil->gI,length_nil->eK,length_cons->cP,getElem?_drop->cD,eq_nil_of_length_eq_zero->lZ,length_append->eR,append_assoc->eS,drop_eq_getElem_cons->eT,getElem?_take->lV,getElem?_cons_zero->eU,getElem?_eq_none->cX,mem_iff_getElem?->eV
open Nat renaming blt->lB,zero_add->dA,mul_one->dI,add_zero->cH,lt_of_lt_of_le->eJ,le_trans->eM,beq_refl->dR,zero_le->cG
open Int renaming toNat_natCast->eO
open Option renaming map_eq_some_iff->lI,bind_eq_some_iff->dX
open _root_.Array renaming getElem?_eq_some_iff->gZ,toList_inj->cF
open Bool renaming and_eq_true->lM,eq_iff_iff->eW
open Go.Lib renaming indexByte->eI
section
set_option linter.unusedVariables false
variable {o:Oper} {rest:List Oper} {ms:Array (String×TypeId)} {e:Option (List UInt8×Int)}
section
variable {ρ : Type} {G:Ctx ρ} {m:Option ρ} {K:List (Kont ρ)} {E:Env} {S:zAC} {all:Array Oper}
theorem zds {σ : Nat->Value} {w:World} {D D':Nat->Prop} {v:Value} {fp:Nat->Prop} {a:List (Value×PV)} (u:∀b,D b->D' b) (x:∀b,fp b->D' b) (h:zCT σ w D v fp (.mp a)):RD w D' (.mpd a) v:=by
 obtain ⟨b,z,cl,rfl,p,q,r,n⟩:=h
 exact .mp1 (x b ((p b).2 rfl)) q r (fun i e k d j=>(n i e k d j).1) fun i e k d j=>(n i e k d j).2.mono fun b y=>⟨u b y,rfl⟩
theorem zZd {h:List Oper} (n:Nat) {d:List (Value×PV)} {i:Env} {S':zAC} (x:lkS S n=some (.mp d)) (u:zX2 n (.mpd d) E=some i) (v:zVT n (.mpd d) S=some S') (k:PO G m all h K i S'):PO G m all h K E S :=
 fun r hr a w ⟨σ,z,y⟩=>k r hr a w ⟨σ,z,zR7 x (fun _ _ _ _ _ _ j p q=>zds j p q) u v y⟩
theorem zXG {κ ν : Type} [DecidableEq κ] {T:Tab G.P} {o:Oper} {rest:List Oper} {dd:TypeDesc} {key : κ -> Value} (Q:KeyEnc dd key) (q : ν -> PV) (l:List (κ × ν)) (k : κ) (z : ν) {t kt et:TypeId} {x ix:Operand} {d:Nat} {zv:Value} (hm:G.P.underlying t=some (.map kt et)) (hk:G.P.underlying kt=some dd) (ho:o.op=.lookup t x ix true)
  (hg:gE all E o=some true) (hx:ev E x=some (.mpd (l.map fun p=>(key p.1,q p.2)))) (hi:ev E ix=some (.v (key k))) (hz:lku T.zeros et=some zv) (hzv:asV (q z)=some zv) (hd:o.dst=some d) (hlt:lB d G.fn.ntmps=true)
  (kk:PO G m all rest K ((d,.tup [q (zLJ l k z),.v (.bool (zK5 l k))])::E) S):PO G m all (o::rest) K E S:=by
 refine zDu hg (fun σ φ w a hp=>?_) hd hlt kk
 obtain ⟨F,_⟩:=(zAm hp.env hi).flat_inv
 have hz':=T.hzeros _ (zAc hz)
 have hzr:(zeroValue et).run G.P w=.ok zv w:=by
  obtain ⟨inf,hinf,hzi⟩:=dX.1 hz'
  simp [zeroValue,typeInfo,hinf,hzi]
 have hrun:∃u,(execOp a.eval o).run G.P w=.ok (.value (.tuple #[u,.bool (zK5 l k)])) w/\RD w (Dof G.X φ w S) (q (zLJ l k z)) u:=by
  have M:=(zAm hp.env hx).toRD rfl
  generalize N:a.eval x=xv at M
  generalize hkv:(l.map fun p=>(key p.1,q p.2))=kvs at M
  cases M with
  | mp0 =>
   have hl:l=[]:=by simpa using hkv
   subst hl
   have r:=run_checkKey (P:=G.P) (w:=w) hk (Q.isKey k) true 9999
   have C:=zGC Q k ([]:List (κ × ν)) [] 0 rfl fun j e x h=>by simp at h
   have n:=run_findKey (w:=w) hk C
   have V:(Instr.findKey kt (key k) []).run G.P w=.ok none w:=by simpa [zH2] using n
   refine ⟨zv,?_,by exact zaH hzv⟩
   simp [execOp,ho,N,F,Instr.lookup,run_underlying hm,r,V,hzr,Result.andThen,zK5,zH2]
  | mp1 hD g3 g4 g5 g6 =>
   rename_i b y cl
   subst hkv
   have C:=zGC Q k l y.toList 0 (by simpa using g4) fun j e x' h1 h2=>(g5 j e _ (by simpa using h1) (by rw [lK,h2];rfl))
   have r:=run_checkKey (P:=G.P) (w:=w) hk (Q.isKey k) y.isEmpty 9999
   unfold zLJ zK5
   cases hj:zH2 l k with
   | none =>
    rw [hj] at C
    have n:=run_findKey (w:=w) hk C
    refine ⟨zv,?_,by simp only;exact zaH hzv⟩
    simp [execOp,ho,N,F,Instr.lookup,run_underlying hm,MapKept.run_getObj_map g3,r,n,hzr,Result.andThen]
   | some j =>
    rw [hj] at C
    obtain ⟨v,hv⟩:=zJB hj
    have hjl:j<y.size:=by rw [g4,lL];exact (lF.1 hv).1
    have he:y[j]? = some y[j]:=Array.getElem?_eq_getElem hjl
    simp only [show y.toList[j]? = some y[j] by simp,Option.map_some,dA] at C
    have n:=run_findKey (w:=w) hk C
    refine ⟨y[j].val,?_,?_⟩
    ·simp [execOp,ho,N,F,Instr.lookup,run_underlying hm,MapKept.run_getObj_map g3,r,n,Result.andThen]
    ·simp only [hv,Option.elim_some]
     exact g6 j _ _ he (by rw [lK,hv];rfl)
 obtain ⟨u,h1,h2⟩:=hrun
 unfold zCG
 rw [h1]
 refine ⟨rfl,.tup rfl fun i c u' B I=>?_⟩
 match i,B,I with
 | 0,B,I=>simp at B I;subst B I;exact .d h2
 | 1,B,I=>simp at B I;subst B I;exact .d (.v rfl)
def zRa (tS a:TypeId):Option (List UInt8×Int)->Value
 | none=>.nilIface
 | some x=>.iface tS (.agg ⟨[.string ⟨⟨x.1⟩⟩,.iface a (.agg ⟨[.int .i64 x.2]⟩)]⟩)
theorem zas (tS a:TypeId):∀x,zSy (zRa tS a x)=true
 | none=>rfl
 | some _=>rfl
def noIf:Option TypeDesc->Bool
 | some (.interface _) | none=>false
 | some _=>true
theorem zby (j:List Value) {t:TypeId} {x:Operand} {d:Nat} (n:noIf (G.P.underlying t)=true) (N:o.op=.makeInterface t x) (M:gE all E o=some true) (hx:ev E x=some (.agg (j.map .v))) (I:zSy (.iface t (.agg ⟨j⟩))=true) (F:o.dst=some d) (p:lB d G.fn.ntmps=true)
  (k:PO G m all rest K ((d,.v (.iface t (.agg ⟨j⟩)))::E) S):PO G m all (o::rest) K E S:=by
 refine zDu M (fun σ V w a Q=>?_) F p k
 obtain ⟨us,u,B,C⟩:=(zAm Q.env hx).agg_inv
 have r:us=j:=by
  refine List.ext_getElem (by simpa using B.symm) fun i y z=>?_
  exact (C i (.v j[i]) us[i] (by rw [lK,lC z];rfl) (lC y)).flat_inv.1
 subst r
 have h:(execOp a.eval o).run G.P w=.ok (.value (.iface t (.agg ⟨us⟩))) w:=by
  cases q:G.P.underlying t with
  | none=>rw [q] at n;cases n
  | some td =>
   rw [q] at n
   cases td<;>first | (cases n;done) | simp [execOp,N,u,Instr.makeInterface,run_underlying q]
 unfold zCG
 rw [h]
 exact ⟨rfl,.d (.v I)⟩
def errB:BinOp->Option (List UInt8×Int)->Option Bool
 | .eql,x=>some x.isNone
 | .neq,x=>some x.isSome
 | _,_=>none
theorem zal {n:BinOp} {t z tS r:TypeId} {x:Operand} {c:Bool} (y:G.P.underlying t=some (.interface ms)) (q:o.op=.binOp n t x (.const .nilIface) z) (hx:ev E x=some (.v (zRa tS r e))) (i:errB n e=some c)
  {σ : Nat->Value} {φ : Nat->Nat->Prop} {w:World} {a:Act} (u:Pre' G E S a w σ φ):zCG G S o σ φ a w (.v (.bool c)):=by
 obtain ⟨k,_⟩:=(zAm u.env hx).flat_inv
 have j:=zZi (b:=e.isSome) (v:=zRa tS r e) w y (by cases e with
  | none=>exact .inl ⟨rfl,rfl⟩
  | some x=>exact .inr ⟨rfl,_,_,rfl⟩)
 have p:a.eval (.const .nilIface)=.nilIface:=rfl
 have h:(execOp a.eval o).run G.P w=.ok (.value (.bool c)) w:=by
  cases n<;>simp only [errB,Option.some.injEq] at i<;>first | (cases i;done) | skip
  ·subst i
   cases e<;>simp [zRa] at j k<;>simp [execOp,q,k,p,eqGuard,binOp,j]
  ·subst i
   cases e<;>simp [zRa] at j k<;>simp [execOp,q,k,p,eqGuard,binOp,j]
 unfold zCG
 rw [h]
 exact ⟨rfl,.d (.v rfl)⟩
theorem zFQ {h:BinOp} {t y tS u:TypeId} {x:Operand} {c:Bool} {d:Nat} (r:G.P.underlying t=some (.interface ms)) (p:o.op=.binOp h t x (.const .nilIface) y) (n:gE all E o=some true) (hx:ev E x=some (.v (zRa tS u e))) (i:errB h e=some c)
  (j:o.dst=some d) (a:lB d G.fn.ntmps=true) (k:PO G m all rest K ((d,.v (.bool c))::E) S):PO G m all (o::rest) K E S:=zDu n (fun _ _ _ _ q=>zal r p hx i q) j a k
end
end
section
open Go
set_option linter.unusedVariables false
variable {w:World} {b e:Nat} {fr:Nat×Nat} {enc:Int->List PV} {us:List Value} {σ:Nat->Value} {D:Nat->Prop}
theorem zGE {b e:Nat} {fr:Nat×Nat}:∀(n:List Value) (o:Nat) (a:List Value) (w:World),w.heap[b]? = some (.cells ⟨a⟩ e fr)->o+n.length<=a.length ->
  ∃d,(w.setCells b o n).heap[b]? = some (.cells ⟨d⟩ e fr)/\d.length=a.length/\(∀j,d[j]? = if o<=j/\j<o+n.length then n[j - o]? else a[j]?)/\(w.setCells b o n).heap.size=w.heap.size/\(∀k,k≠b->(w.setCells b o n).heap[k]? = w.heap[k]?) /\
   (w.setCells b o n).os=w.os/\(w.setCells b o n).tape=w.tape/\(w.setCells b o n).output=w.output
 | [],o,a,w,h,hl=>⟨a,h,rfl,fun j=>by rw [iN (by simp only [eK];omega)],rfl,fun _ _=>rfl,rfl,rfl,rfl⟩
 | v::n,o,a,w,h,hl=>by
  simp only [cP] at hl
  have q:=Joins.block_setCell h v (i:=o)
  have p:(⟨a⟩:Array Value).setIfInBounds o v=⟨a.set o v⟩:=by simp
  rw [p] at q
  obtain ⟨d,y,z,B,C,F,I,M,N⟩:=zGE n (o+1) (a.set o v) (w.setCell ⟨b,o,none⟩ v) q (by simp;omega)
  refine ⟨d,y,by simpa using z,fun j=>?_,C.trans (World.size_setCell _ _ _),fun k x=>(F k x).trans (heap_setCell_other w _ k v x),I,M,N⟩
  rw [B j]
  by_cases u:j=o
  ·subst u
   rw [iN (by omega),iP (by simp),List.getElem?_set_self (by omega)]
   simp
  ·by_cases r:o+1<=j/\j<o+1+n.length
   ·rw [iP r,iP (by simp;omega)]
    rw [show j - o=(j - (o+1))+1 by omega];rfl
   ·rw [iN r,iN (by simp;omega),List.getElem?_set_ne (Ne.symm u)]
theorem zRe {j:Nat} (h:w.heap[b]? = some (.cells ⟨us⟩ e fr)) (i:fr.1<fr.2->us.length<=fr.1) (d:j<us.length\/fr=(0,0)):w.frozen? ⟨b,j,none⟩=false:=by
 simp only [World.frozen?,h]
 cases a:(decide (fr.1<=j)&&decide (j<fr.2))
 ·rfl
 ·simp only [lM,decide_eq_true_eq] at a
  rcases d with d | rfl
  ·have:=i (by omega);omega
  ·simp at a
theorem zYj (h:w.heap[b]? = some (.cells ⟨us⟩ e fr)):w.shape? b=some (e,us.length):=by simp [World.shape?,h]
def zWL (xs:List Int) (i:Nat) (ys:List Int):List Int:=xs.take i++ys++xs.drop i
def zMy (_fu:Nat) (xs:List Int) (i:Int) (ys:List Int):Option (List Int):=if 0<=i/\i<=(xs.length:Int)/\ys≠[]/\(xs.length+ys.length)*8<=140737488355328 then some (zWL xs i.toNat ys) else none
theorem zdi (xs:List Int) (i:Nat) (ys:List Int) (hi:i<=xs.length):(zWL xs i ys).length=xs.length+ys.length:=by simp [zWL];omega
theorem zgN (xs:List Int) (i:Nat) (ys:List Int) (hi:i<=xs.length) (j:Nat):(zWL xs i ys)[j]? = if j<i then xs[j]? else if j<i+ys.length then ys[j - i]? else xs[j - ys.length]? := by
 unfold zWL
 by_cases a:j<i
 ·rw [iP a,lN (by simp;omega),lN (by simp;omega),lV,iP a]
 ·rw [iN a]
  by_cases d:j<i+ys.length
  ·rw [iP d,lN (by simp;omega),cC (by simp;omega)]
   congr 1;simp;omega
  ·rw [iN d,cC (by simp;omega),cD]
   congr 1;simp;omega
section
variable {P:Program} {f:FuncId} {t3:TypeId}
def zc7 (P:Program) (f:FuncId):Prop:=∀(b a n c i h d m x:Nat) (k p:List Value) (w:World),i<n->0<m->n+m<=c->c<=9223372036854775807->h≠b->k.length=n->p.length=m ->
 (∀j v,k[j]? = some v->w.cell? ⟨b,a+j,none⟩=some v)->(∀j,j<n+m->(w.cell? ⟨b,a+j,none⟩).isSome=true)->(∀j,j<n+m->w.frozen? ⟨b,a+j,none⟩=false) ->
 (∀j v,p[j]? = some v->w.cell? ⟨h,d+j,none⟩=some v)->(∀v∈k,v.oneCell'=true)->(∀v∈p,v.oneCell'=true) ->
 ∀(u tB:TypeId) (q r:Nat),w.shape? h=some (u,q)->w.shape? b=some (tB,r)->r≠0->w.frozen? ⟨h,d,none⟩=false->w.frozen? ⟨h,q,none⟩=false ->
 Calls P f #[.slice (some ⟨b,a,none⟩) n c,.int .i64 i,.slice (some ⟨h,d,none⟩) m x] w fun e w'=>e=.returned (.slice (some ⟨b,a,none⟩) (n+m) c)/\w'=(w.drew.setCells b (a+(i+m)) (k.drop i)).setCells b (a+i) p
def zY0 (P:Program) (f:FuncId):Prop:=∀(b a n c i d m k:Nat) (h:List Value) (w:World),0<m->n+m<=c->c<=9223372036854775807->h.length=m ->
 (∀j,j<m->(w.cell? ⟨b,a+n+j,none⟩).isSome=true)->(∀j,j<m->w.frozen? ⟨b,a+n+j,none⟩=false)->(∀j v,h[j]? = some v->w.cell? ⟨i,d+j,none⟩=some v)->(∀v∈h,v.oneCell'=true) ->
 Calls P f #[.slice (some ⟨b,a,none⟩) n c,.int .i64 n,.slice (some ⟨i,d,none⟩) m k] w fun e w'=>e=.returned (.slice (some ⟨b,a,none⟩) (n+m) c)/\w'=w.setCells b (a+n) h
def zYz (P:Program) (f:FuncId) (t3:TypeId):Prop:=∀(base:Option Addr) (n c k d m p:Nat) (i h:List Value) (w:World),0<m->n<=c->c<n+m->(n+m)*8<=140737488355328->i.length=n->h.length=m->(base=none->n=0) ->
 (∀a,base=some a->∀j v,i[j]? = some v->w.cell? (a.add j)=some v)->(∀j v,h[j]? = some v->w.cell? ⟨k,d+j,none⟩=some v)->(∀v∈h,v.oneCell'=true) ->
 Calls P f #[.slice base n c,.int .i64 n,.slice (some ⟨k,d,none⟩) m p] w fun e w'=>e=.returned (.slice (some ⟨w.heap.size,0,none⟩) (n+m) (grownCap w (n+m) c t3)) /\
  w'=w.drew.alloc (.cells ((i++h).toArray++Builtin.zeroCells (Value.int .i64 0).cells (grownCap w (n+m) c t3 - (n+m))) t3)
def zfZ (P:Program) (f:FuncId) (t3:TypeId):Prop:=∀(b h n c i p a m q:Nat) (d k:List Value) (w:World),i<n->0<m->n<=c->c<n+m->(n+m)*8<=140737488355328->d.length=n->k.length=m ->
 (∀j v,d[j]? = some v->w.cell? ⟨b,h+j,none⟩=some v)->(∀j v,k[j]? = some v->w.cell? ⟨p,a+j,none⟩=some v)->(∀v∈d,v.oneCell'=true)->(∀v∈k,v.oneCell'=true) ->
 Calls P f #[.slice (some ⟨b,h,none⟩) n c,.int .i64 i,.slice (some ⟨p,a,none⟩) m q] w fun e w'=>e=.returned (.slice (some ⟨w.heap.size,0,none⟩) (n+m) (grownCap w (n+m) c t3)) /\
  w'=(((w.alloc (.cells ((d.take i).toArray++Builtin.zeroCells (Value.int .i64 0).cells (n+m - i)++Builtin.zeroCells (Value.int .i64 0).cells (grownCap w (n+m) c t3 - (n+m))) t3)).drew.setCells w.heap.size i k).drew).setCells w.heap.size (i+m) (d.drop i)
theorem zX7 {X:Nat->Prop} {φ : Nat->Nat->Prop} {n q i r:Nat} {a:List (List PV)} {k0 F:Blk} (v:n≠q) (hi:Inv X σ φ w [(n,k0),(q,.arr i r a)]) {hdr:Value} {fp:Nat->Prop} {w':World} (B:w.heap.size<=w'.heap.size)
  (u:∀b,fp b->b<w'.heap.size/\(w.heap.size<=b \/ φ n b)) (d:∀b,b<w.heap.size->¬φ n b->w'.heap[b]? = w.heap[b]?) (Q:w'.os=w.os) (V:w'.tape=w.tape) (h3:w'.output=w.output) (z:zKK hdr=true)
  (hk:∀I,(∀b,Dof X φ w [(n,k0),(q,.arr i r a)] b->I b/\w'.heap[b]? = w.heap[b]?)->zCT (upd σ n hdr) w' I hdr fp F) :
  Ends w X (zCQ φ [(n,k0),(q,.arr i r a)]) σ [q] (fun p M=>p=.own n/\M=[(n,F),(q,.arr i r a)]) (.returned hdr) w':=by
 have C:zEx n [(n,k0),(q,.arr i r a)]=some [(q,.arr i r a)]:=by
  simp [zEx,dR,zBa (Ne.symm v)]
 obtain ⟨N,g2⟩:=hi.lay C B (fun b x=>⟨(u b x).1,(u b x).2.imp id fun h=>⟨⟨k0,by simp⟩,h⟩⟩) (fun b x j=>d b x (j ⟨k0,by simp⟩)) hk
 refine ⟨.own n,_,_,_,hdr,rfl,⟨rfl,rfl⟩,N,?_,⟨Q,V,h3,B,fun b x hx=>d b x fun j=>hx ⟨n,k0,by simp,j⟩⟩,fun m y=>?_,fun b ⟨m,k,y,j⟩ hlt=>?_⟩
 ·have:R (upd σ n hdr) w' (Dof X (upd φ n fp) w' [(n,F),(q,.arr i r a)]) (.own n) (upd σ n hdr n):=.own (by rw [zAw];exact z)
  rw [zAw] at this
  exact this
 ·simp at y;subst y
  exact zHk _ _ (Ne.symm v)
 ·simp at y
  rcases y with ⟨rfl,_⟩ | ⟨rfl,rfl⟩
  ·rw [zAw] at j
   rcases (u b j).2 with h | h
   ·omega
   ·exact ⟨m,k0,by simp,h⟩
  ·rw [zHk _ _ (Ne.symm v)] at j
   exact ⟨m,.arr i r a,by simp,j⟩
theorem zbE (d:∀i,enc i=[.v (.int .i64 i)]) {fp:Nat->Prop} {b e cap:Nat} {us:List Value} {fr:Nat×Nat} {zs:List Int} (B:∀x,fp x↔x=b) (F:us.length=cap) (k:zs.length<=cap/\0<cap) (Q:cap<=maxLen)
  (h:w.heap[b]? = some (.cells ⟨us⟩ (e % zLI) fr)) (N:fr.1<fr.2->us.length<=fr.1) (p:lB e zLI=true->fr=(0,0)) (I:∀(j:Nat) (z:Int),zs[j]? = some z->us[j]? = some (Value.int .i64 z)) :
  zCT σ w D (.slice (some ⟨b,0,none⟩) zs.length cap) fp (.arr e 1 (zs.map enc)):=by
 have a:∀n∈zs.map enc,n.length=1:=fun n hr=>by obtain ⟨z,_,rfl⟩:=lE.1 hr;rw [d];rfl
 refine ⟨a,.inr ⟨b,us,cap,by simp,B,by rw [dI,F],by simpa using k,Q,⟨fr,h,N,p⟩,zUc a fun r q y c u hy V h M=>?_⟩⟩
 have C:q=0:=by omega
 subst C
 rw [d] at h
 simp only [eU,Option.some.injEq] at h
 subst h
 rw [dI,cH,I r y hy] at M
 cases M
 exact .v rfl
theorem zSz (a:∀i,enc i=[.v (.int .i64 i)]) {xs:List Int} {us:List Value} (n:∀h∈xs.map enc,h.length=1) (p:∀(i:Nat) (c:PV) (u:Value),(xs.map enc).flatten[i]? = some c->us[i]? = some u->RD w D c u) (r:xs.length<=us.length) :
  ∀(j:Nat) (x:Int),xs[j]? = some x->us[j]? = some (Value.int .i64 x):=fun j x hx=>by
 have q:=(lF.1 hx).1
 have k:us[j]? = some us[j]:=lC (by omega)
 have:=zLE n p hx (show 0<1 by omega) (by rw [a];rfl) (by rw [dI,cH];exact k)
 rw [k,(R.d (σ := fun _=>Value.nilIface) this).flat_inv.1]
theorem zbC {L:World->Prop} (henc:∀i,enc i=[.v (.int .i64 i)]) (hA:zc7 P f) (hB:zY0 P f) (hC:zYz P f t3) (hD:zfZ P f t3) (ht3:lB t3 zLI=true) (fu n q:Nat) (hnq:Nat.beq n q=false) (xs:List Int) (i:Int) (ys:List Int) :
  ∀r,zMy fu xs i ys=some r->FC L P f [.own n,.v (.int .i64 i),.own q] [(n,.arr t3 1 (xs.map enc)),(q,.arr t3 1 (ys.map enc))] [q] fun p S'=>p=.own n/\S'=[(n,.arr t3 1 (r.map enc)),(q,.arr t3 1 (ys.map enc))]:=by
 intro r hr X σ φ w us _ hi ha
 have hne:n≠q:=fun e=>by rw [e,dR] at hnq;cases hnq
 unfold zMy at hr
 split at hr
 case isFalse=>cases hr
 rename_i hc
 cases hr
 obtain ⟨i0,i1,y0,big⟩:=hc
 obtain ⟨k,rfl⟩:∃k:Nat,i=(k:Int):=⟨i.toNat,by omega⟩
 rw [eO]
 have hk:k<=xs.length:=by omega
 have hrl:=zdi xs k ys hk
 have hra:=zgN xs k ys hk
 have hm0:0<ys.length:=List.length_pos_iff.2 y0
 -- the arguments
 obtain ⟨l1,l2⟩:=ha
 obtain ⟨u1,u2,u3,rfl⟩:∃u1 u2 u3,us=[u1,u2,u3]:=by
  match us,l1 with
  | [a,b,c],_=>exact ⟨a,b,c,rfl⟩
 have e1:u1 = σ n:=zUO (l2 0 _ _ rfl rfl)
 have e2:u2=.int .i64 (k:Int):=(l2 1 _ _ rfl rfl).flat_inv.1
 have e3:u3 = σ q:=zUO (l2 2 _ _ rfl rfl)
 subst e1 e2 e3
 have hokn:=hi.ok n (.arr t3 1 (xs.map enc)) (by simp)
 have hokq:=hi.ok q (.arr t3 1 (ys.map enc)) (by simp)
 -- what is put in
 obtain ⟨r0,hq⟩:=hokq
 rcases hq with ⟨g,_⟩ | ⟨vb,us2,vc,g1,g2,g3,g4,g5,⟨fr2,g6,g7,g8⟩,g9⟩
 ·exact absurd (by simpa using g) y0
 obtain rfl:=g8 ht3
 rw [lL] at g1 g4
 rw [dI] at g3
 rw [zIu ht3] at g6
 have hvc:=zSz henc r0 g9 (by omega)
 obtain ⟨N,hvs⟩:∃N:List Value,N=ys.map (.int .i64):=⟨_,rfl⟩
 have M:N.length=ys.length:=by rw [hvs];simp
 have F:∀v∈N,v.oneCell'=true:=fun v hv=>by rw [hvs] at hv;obtain ⟨x,_,rfl⟩:=lE.1 hv;rfl
 have u:∀(j:Nat) (v:Value),N[j]? = some v->w.cell? ⟨vb,0+j,none⟩=some v:=fun j v hj=>by
  rw [hvs,lK] at hj
  obtain ⟨x,hx,rfl⟩:=lI.1 hj
  rw [zBN g6,dA];exact hvc j x hx
 obtain ⟨I,hcs⟩:∃I:List Value,I=xs.map (.int .i64):=⟨_,rfl⟩
 have V:I.length=xs.length:=by rw [hcs];simp
 have hcone:∀v∈I,v.oneCell'=true:=fun v hv=>by rw [hcs] at hv;obtain ⟨x,_,rfl⟩:=lE.1 hv;rfl
 have hcat:∀(j:Nat) (x:Int),xs[j]? = some x->I[j]? = some (Value.int .i64 x):=fun j x hx=>by rw [hcs,lK,hx];rfl
 have hvat:∀(j:Nat) (x:Int),ys[j]? = some x->N[j]? = some (Value.int .i64 x):=fun j x hx=>by rw [hvs,lK,hx];rfl
 have hgc:xs.length+ys.length<=140737488355328:=by omega
 rw [g1]
 -- a block that is new
 have y:∀(c:Nat) (d:List Value) (w':World),w'.heap[w.heap.size]? = some (.cells ⟨d⟩ t3 (0,0))->w'.heap.size=w.heap.size+1->(∀b,b<w.heap.size->w'.heap[b]? = w.heap[b]?)->w'.os=w.os->w'.tape=w.tape->w'.output=w.output ->
   d.length=grownCap w (xs.length+ys.length) c t3->(∀(j:Nat) (z:Int),(zWL xs k ys)[j]? = some z->d[j]? = some (Value.int .i64 z)) ->
   Ends w X (zCQ φ [(n,.arr t3 1 (xs.map enc)),(q,.arr t3 1 (ys.map enc))]) σ [q] (fun p S'=>p=.own n/\S'=[(n,.arr t3 1 ((zWL xs k ys).map enc)),(q,.arr t3 1 (ys.map enc))]) (.returned (.slice (some ⟨w.heap.size,0,none⟩) (xs.length+ys.length) (grownCap w (xs.length+ys.length) c t3))) w':=by
  intro c d w' p1 p2 p3 p4 p5 p6 p7 p8
  have hge:=grownCap_ge w (xs.length+ys.length) c t3
  refine zX7 hne hi (fp:=fun b=>b=w.heap.size) (by omega) (fun b hb=>⟨by subst hb;omega,.inl (by subst hb;omega)⟩) (fun b hb _=>p3 b hb) p4 p5 p6 rfl fun D' _=>?_
  have hb:=zbE (σ := upd σ n (.slice (some ⟨w.heap.size,0,none⟩) (xs.length+ys.length) (grownCap w (xs.length+ys.length) c t3))) (D:=D') (zs:=zWL xs k ys) henc (fp:=fun b=>b=w.heap.size) (fun _=>Iff.rfl) p7 ⟨by rw [hrl];exact hge,by omega⟩ (grownCap_le_maxLen _ _ _ _ (by simp only [maxLen];omega)) (by rw [zIu ht3];exact p1) (fun h=>by simp at h) (fun _=>rfl) p8
  rw [hrl] at hb
  exact hb
 obtain ⟨x0,hx⟩:=hokn
 rcases hx with ⟨h3,⟨ao,h4⟩,h5⟩ | ⟨b,us1,C,h3,h3',h4,h5,h6,⟨fr,h7,h7',h7''⟩,h8⟩
 ·-- nothing is there
  have hx0:xs=[]:=by simpa using h3
  subst hx0
  have hk0:k=0:=by simpa using hk
  subst hk0
  rw [h4]
  refine (hC ao 0 0 vb 0 ys.length vc I N w hm0 (Nat.le_refl _) (by omega) (by simpa using big) (by simpa using V) M (fun _=>rfl) (fun a _ j v hj=>by rw [hcs] at hj;simp at hj) u F).mono ?_
  rintro e w' ⟨rfl,rfl⟩
  obtain ⟨d,B⟩:∃d:List Value,(I++N).toArray++Builtin.zeroCells (Value.int .i64 0).cells (grownCap w (0+ys.length) 0 t3 - (0+ys.length))=⟨d⟩:=⟨_,rfl⟩
  have hz:=zJD [Value.int .i64 0] (grownCap w (0+ys.length) 0 t3 - (0+ys.length))
  have hrt:d=I++N++(Builtin.zeroCells ⟨[Value.int .i64 0]⟩ (grownCap w (0+ys.length) 0 t3 - (0+ys.length))).toList:=by
   have:d=((I++N).toArray++Builtin.zeroCells (Value.int .i64 0).cells (grownCap w (0+ys.length) 0 t3 - (0+ys.length))).toList:=by rw [B]
   rw [this];simp [Value.cells]
  have hge:=grownCap_ge w (0+ys.length) 0 t3
  rw [B]
  refine y 0 d _ (zDP w.drew _) (by simp) (fun b hb=>zGD w.drew _ hb) rfl rfl rfl (by rw [hrt];simp only [eR,hz,V,M,cP,eK];simp only [dA] at hge ⊢;omega) fun j z hz=>?_
  simp [zWL] at hz
  have hj:=(lF.1 hz).1
  rw [hrt,eS,cC (by rw [V];simp),lN (by rw [V,M];simp;omega),V]
  exact hvat j z hz
 ·rw [lL] at h3 h5
  rw [dI] at h4
  obtain rfl:=h7'' ht3
  rw [zIu ht3] at h7
  have hxc:=zSz henc x0 h8 (by omega)
  have Q:∀(j:Nat) (v:Value),I[j]? = some v->w.cell? ⟨b,0+j,none⟩=some v:=fun j v hj=>by
   rw [hcs,lK] at hj
   obtain ⟨x,hx,rfl⟩:=lI.1 hj
   rw [zBN h7,dA];exact hxc j x hx
  have hbv:vb≠b:=fun e=>hi.disj n q (.arr t3 1 (xs.map enc)) (.arr t3 1 (ys.map enc)) (by simp) (by simp) hne b ((h3' b).2 rfl) ((g2 b).2 e.symm)
  have hbl:b<w.heap.size:=(hi.lt b ⟨n,.arr t3 1 (xs.map enc),by simp,(h3' b).2 rfl⟩).1
  rw [h3]
  -- where it stands
  have stays:∀(d:List Value) (w':World),w'.heap[b]? = some (.cells ⟨d⟩ t3 (0,0))->w'.heap.size=w.heap.size->(∀c,c≠b->w'.heap[c]? = w.heap[c]?)->w'.os=w.os->w'.tape=w.tape->w'.output=w.output->d.length=C->xs.length+ys.length<=C->(∀(j:Nat) (z:Int),(zWL xs k ys)[j]? = some z->d[j]? = some (Value.int .i64 z)) ->
    Ends w X (zCQ φ [(n,.arr t3 1 (xs.map enc)),(q,.arr t3 1 (ys.map enc))]) σ [q] (fun p S'=>p=.own n/\S'=[(n,.arr t3 1 ((zWL xs k ys).map enc)),(q,.arr t3 1 (ys.map enc))]) (.returned (.slice (some ⟨b,0,none⟩) (xs.length+ys.length) C)) w':=by
   intro d w' p1 p2 p3 p4 p5 p6 p7 p8 p9
   refine zX7 hne hi (fp := φ n) (by omega) (fun c hc=>⟨by rw [(h3' c).1 hc];omega,.inr hc⟩) (fun c _ hc=>p3 c fun e=>hc ((h3' c).2 e)) p4 p5 p6 rfl fun D' _=>?_
   have hb:=zbE (σ := upd σ n (.slice (some ⟨b,0,none⟩) (xs.length+ys.length) C)) (D:=D') (zs:=zWL xs k ys) henc h3' p7 ⟨by rw [hrl];exact p8,h5.2⟩ h6 (by rw [zIu ht3];exact p1) (fun h=>by simp at h) (fun _=>rfl) p9
   rw [hrl] at hb
   exact hb
  by_cases hroom:xs.length+ys.length<=C
  ·have hsp:∀j,j<xs.length+ys.length->(w.cell? ⟨b,0+j,none⟩).isSome=true:=fun j hj=>by
    rw [zBN h7,dA,lC (by omega)];rfl
   have hfz:∀j,j<xs.length+ys.length->w.frozen? ⟨b,0+j,none⟩=false:=fun j hj=>zRe h7 (fun h=>by simp at h) (.inr rfl)
   by_cases hlt:k<xs.length
   ·refine (hA b 0 xs.length C k vb 0 ys.length vc I N w hlt hm0 hroom (by simp only [maxLen] at h6;omega) hbv V M Q hsp hfz u hcone F _ _ _ _ (zYj g6) (zYj h7) (by omega) (zRe g6 (fun h=>by simp at h) (.inr rfl)) (zRe g6 (fun h=>by simp at h) (.inr rfl))).mono ?_
    rintro e w' ⟨rfl,rfl⟩
    obtain ⟨c1,s1,s2,s3,s4,s5,s6,s7,s8⟩:=zGE (I.drop k) (0+(k+ys.length)) us1 w.drew h7 (by simp;omega)
    obtain ⟨c2,t1,t2,t3',t4,t5,t6,t7,t8⟩:=zGE N (0+k) c1 _ s1 (by rw [s2,M];omega)
    refine stays c2 _ t1 (t4.trans s4) (fun c hc=>(t5 c hc).trans (s5 c hc)) (t6.trans s6) (t7.trans s7) (t8.trans s8) (by omega) hroom fun j z hz=>?_
    rw [hra j] at hz
    rw [t3' j,s3 j]
    by_cases j1:j<k
    ·rw [iP j1] at hz
     rw [iN (by omega),iN (by omega)]
     exact hxc j z hz
    ·rw [iN j1] at hz
     by_cases j2:j<k+ys.length
     ·rw [iP j2] at hz
      rw [iP (by omega),dA]
      exact hvat _ z hz
     ·rw [iN j2] at hz
      have hj:=(lF.1 hz).1
      rw [iN (by omega),iP (by simp;omega),cD,show k+(j - (0+(k+ys.length)))=j - ys.length by omega]
      exact hcat _ z hz
   ·have hkl:k=xs.length:=by omega
    rw [show ((k:Nat):Int)=((xs.length:Nat):Int) by rw [hkl]]
    refine (hB b 0 xs.length C vb 0 ys.length vc N w hm0 hroom (by simp only [maxLen] at h6;omega) M (fun j hj=>by rw [show 0+xs.length+j=0+(xs.length+j) by omega];exact hsp _ (by omega)) (fun j hj=>by rw [show 0+xs.length+j=0+(xs.length+j) by omega];exact hfz _ (by omega)) u F).mono ?_
    rintro e w' ⟨rfl,rfl⟩
    obtain ⟨c2,t1,t2,t3',t4,t5,t6,t7,t8⟩:=zGE N (0+xs.length) us1 w h7 (by rw [M];omega)
    refine stays c2 _ t1 t4 t5 t6 t7 t8 (by omega) hroom fun j z hz=>?_
    rw [hra j] at hz
    rw [t3' j]
    by_cases j1:j<k
    ·rw [iP j1] at hz
     rw [iN (by omega)]
     exact hxc j z hz
    ·rw [iN j1] at hz
     by_cases j2:j<k+ys.length
     ·rw [iP j2] at hz
      rw [iP (by omega),dA,<- hkl]
      exact hvat _ z hz
     ·rw [iN j2] at hz
      have hj:=(lF.1 hz).1
      omega
  ·have hge:=grownCap_ge w (xs.length+ys.length) C t3
   obtain ⟨Cg,hCg⟩:∃Cg,grownCap w (xs.length+ys.length) C t3=Cg:=⟨_,rfl⟩
   have y:=y C
   rw [hCg] at hge y
   by_cases hlt:k<xs.length
   ·refine (hD b 0 xs.length C k vb 0 ys.length vc I N w hlt hm0 h5.1 (by omega) big V M Q u hcone F).mono ?_
    rintro e w' ⟨rfl,rfl⟩
    rw [hCg]
    obtain ⟨d,B⟩:∃d:List Value,(I.take k).toArray++Builtin.zeroCells (Value.int .i64 0).cells (xs.length+ys.length - k)++Builtin.zeroCells (Value.int .i64 0).cells (Cg - (xs.length+ys.length))=⟨d⟩:=⟨_,rfl⟩
    have hrt:d=I.take k++(Builtin.zeroCells ⟨[Value.int .i64 0]⟩ (xs.length+ys.length - k)).toList++(Builtin.zeroCells ⟨[Value.int .i64 0]⟩ (Cg - (xs.length+ys.length))).toList:=by
     have:d=((I.take k).toArray++Builtin.zeroCells (Value.int .i64 0).cells (xs.length+ys.length - k)++Builtin.zeroCells (Value.int .i64 0).cells (Cg - (xs.length+ys.length))).toList:=by rw [B]
     rw [this];simp [Value.cells]
    have hrowl:d.length=Cg:=by
     rw [hrt];simp only [eR,zJD,List.length_take,cP,eK];omega
    rw [B]
    obtain ⟨c1,s1,s2,s3,s4,s5,s6,s7,s8⟩:=zGE N k d (w.alloc (.cells ⟨d⟩ t3)).drew (zDP w _) (by rw [M,hrowl];omega)
    obtain ⟨c2,t1,t2,t3',t4,t5,t6,t7,t8⟩:=zGE (I.drop k) (k+ys.length) c1 ((w.alloc (.cells ⟨d⟩ t3)).drew.setCells w.heap.size k N).drew s1 (by rw [s2,hrowl];simp;omega)
    refine y c2 _ t1 (t4.trans (s4.trans (by simp))) (fun c hc=>(t5 c (by omega)).trans ((s5 c (by omega)).trans (zGD w _ hc))) (t6.trans s6) (t7.trans s7) (t8.trans s8) (by omega) fun j z hz=>?_
    rw [hra j] at hz
    rw [t3' j,s3 j]
    by_cases j1:j<k
    ·rw [iP j1] at hz
     rw [iN (by omega),iN (by omega),hrt,eS,lN (by simp;omega),lV,iP j1]
     exact hcat j z hz
    ·rw [iN j1] at hz
     by_cases j2:j<k+ys.length
     ·rw [iP j2] at hz
      rw [iN (by omega),iP (by omega)]
      exact hvat _ z hz
     ·rw [iN j2] at hz
      have hj:=(lF.1 hz).1
      rw [iP (by simp;omega),cD,show k+(j - (k+ys.length))=j - ys.length by omega]
      exact hcat _ z hz
   ·have hkl:k=xs.length:=by omega
    rw [show ((k:Nat):Int)=((xs.length:Nat):Int) by rw [hkl]]
    refine (hC (some ⟨b,0,none⟩) xs.length C vb 0 ys.length vc I N w hm0 h5.1 (by omega) big V M (fun h=>by cases h) (fun a ha j v hj=>by cases ha;rw [zCZ];exact Q j v hj) u F).mono ?_
    rintro e w' ⟨rfl,rfl⟩
    rw [hCg]
    obtain ⟨d,B⟩:∃d:List Value,(I++N).toArray++Builtin.zeroCells (Value.int .i64 0).cells (Cg - (xs.length+ys.length))=⟨d⟩:=⟨_,rfl⟩
    have hrt:d=I++N++(Builtin.zeroCells ⟨[Value.int .i64 0]⟩ (Cg - (xs.length+ys.length))).toList:=by
     have:d=((I++N).toArray++Builtin.zeroCells (Value.int .i64 0).cells (Cg - (xs.length+ys.length))).toList:=by rw [B]
     rw [this];simp [Value.cells]
    rw [B]
    refine y d _ (zDP w.drew _) (by simp) (fun c hc=>zGD w.drew _ hc) rfl rfl rfl (by rw [hrt];simp only [eR,zJD,cP,eK];omega) fun j z hz=>?_
    rw [hra j] at hz
    rw [hrt,eS]
    by_cases j1:j<k
    ·rw [iP j1] at hz
     rw [lN (by omega)]
     exact hcat j z hz
    ·rw [iN j1] at hz
     by_cases j2:j<k+ys.length
     ·rw [iP j2] at hz
      rw [cC (by omega),lN (by omega),V,<- hkl]
      exact hvat _ z hz
     ·rw [iN j2] at hz
      have hj:=(lF.1 hz).1
      omega
end
end
section
open Go
section lines
variable {P:Program} {T:Tab P} {L:World->Prop} {g:FuncId} {fn:Func} {r1 mid:Code} {tS tI tB tF:TypeId}
theorem two {E:List (Nat×Value)} {t:Nat} {v x y:Value} (h:lku [(0,x),(1,y)] t=some v) (i:lku E 0=some x:=by rfl) (j:lku E 1=some y:=by rfl):lku E t=some v:=by
 by_cases a:t=0
 ·subst a;exact i.trans h
 by_cases d:t=1
 ·subst d;exact j.trans h
 simp only [lku,zBa (Ne.symm a),zBa (Ne.symm d),cond_false] at h
 cases h
end lines
section stmt
variable {ρ : Type} {G:Ctx ρ}
def fits (s:List UInt8):Option Unit:=if s.length<=9223372036854775807 then some () else none
theorem zYS {α : Type} {H:Ctx ρ} {M : α -> Option ρ} {Sf : α -> zAC} {h : ρ -> Act->World->Prop} {K:List (Kont ρ)} {E:Env} {S:zAC} (x : α) (i:zGN (Sf x) S) (j:zA2 ((Sf x).map (·.1))=true):PN H (M x) (.loopK (zXg H M (fun _=>[]) Sf) h::K) E S:=by
 intro r hr a w d
 obtain ⟨σ,n,d⟩:=zLr (zF0 i j) d
 exact ⟨x,hr,σ,n,{ d with env:=fun t p k=>by simp [lk] at k }⟩
end stmt
section
variable {ρ : Type} {G:Ctx ρ} {m:Option ρ} {K:List (Kont ρ)} {E:Env} {S:zAC} {all:Array Oper}
end
end
section
open Go
variable {c:Code} {E:Env} {S:zAC} {all:Array Oper} {cp:List PV}
structure SideOk {A:Type} (L:World->Prop) (P:Program) (l:Nat) (args:A->List PV) (J:Option (List A)->(Nat->Prop)->(Nat->Prop)->World->Prop):Prop where
 xlt:∀{st X B W},J st X B W->∀b,X b->b<W.heap.size
 lay:∀{st X B W},J st X B W->Lay L (fun b=>¬B b) W
 own:∀{st X B B1 W W1},J st X B W->Fr W B W1->(∀b,B1 b->(B b\/W.heap.size<=b)/\b<W1.heap.size)->J st X B1 W1
 yield:∀{y ys X B W us},J (some (y::ys)) X B W->RL (fun _=>undef) W (fun b=>b<W.heap.size/\¬X b/\¬B b) (args y) us ->
  YieldAt Fence.wide 0 P l ⟨us⟩ W fun e W'=>(e=.returned (.bool true)/\∃X',J (some ys) X' B W'/\W.heap.size<=W'.heap.size/\∀b,b<W.heap.size->¬X b->¬X' b/\W'.heap[b]? = W.heap[b]?) \/
   (e=.returned (.bool false)/\∃X',J none X' (fun _=>False) W')
def zRA {A:Type} (fn:Func) (J:Option (List A)->(Nat->Prop)->(Nat->Prop)->World->Prop) (st:Option (List A)) (E:Env) (S:zAC) (a:Act) (w:World):Prop :=
 ∃X σ d,J st X (zCQ d S) w/\Inv X σ d w S/\zQV σ w (Dof X d w S) E a.tmps/\a.tmps.size=fn.ntmps/\a.defers=[]
abbrev CtY (ρ : Type) (P:Program) (fn:Func) (L:World->Prop) (w0:World) (X X0:Nat->Prop) (σ0:Nat->Value) (a:Lay L (fun b=>¬X0 b) w0):Ctx ρ := ⟨P,fn,w0,X,X0,σ0,[],fun _ _ _=>True,0,L,a,none⟩
abbrev KY {ρ : Type} (G:Ctx ρ) (E1 : ρ -> Env) (S1 : ρ -> zAC):List (Kont ρ):=[.loopK (fun r a w=>Pre G (E1 r) (S1 r) a w) (fun _ _ _=>False)]
theorem zQR {ρ : Type} {G:Ctx ρ} {r : ρ} {E1 : ρ -> Env} {S1 : ρ -> zAC} {h:Env} {S':zAC} (i:zOO (E1 r) h) (j:zGN (S1 r) S') (k:zA2 ((S1 r).map (·.1))=true):PN G (some r) (KY G E1 S1) h S':=by
 intro r hr a w d
 cases hr
 obtain ⟨σ,q,d⟩:=zLr (zF0 j k) d
 exact ⟨σ,q,{ d with env:=fun t p n=>d.env t p (zMm i t p n) }⟩
section yrules
variable {A:Type} {P:Program} {L:World->Prop} {l:Nat} {args:A->List PV} {J:Option (List A)->(Nat->Prop)->(Nat->Prop)->World->Prop} {fn:Func} {st:Option (List A)}
 {E:Env} {S:zAC} {a:Act} {w:World}
theorem zRA.pre {ρ : Type} (r:SideOk L P l args J) (h:zRA fn J st E S a w):∃X X0 σ i,Pre (CtY ρ P fn L w X X0 σ i) E S a w /\
  ∀{E1 S1 j k},Pre (CtY ρ P fn L w X X0 σ i) E1 S1 j k->zRA fn J st E1 S1 j k:=by
 obtain ⟨X,σ,v,q,hi,y,B,x⟩:=h
 refine ⟨X,zCQ v S,σ,r.lay q,⟨σ,v,by rw [x];exact DOk.nil _ _,B,y,hi,Fr.refl _ _,fun _ _=>rfl,fun b h _=>h⟩,?_⟩
 rintro E1 S1 j k ⟨n,p,d⟩
 exact ⟨X,n,p,r.own q d.fr fun b u=>⟨Classical.byContradiction fun z=>z (by
  by_cases i:b<w.heap.size
  ·exact .inl (d.new b u i)
  ·exact .inr (by omega)),(d.inv.lt b u).1⟩,d.inv,d.env,d.size,d.defers.none⟩
theorem zTW {ρ : Type} {m:Option ρ} {r : ρ} {E1 : ρ -> Env} {S1 : ρ -> zAC} {Q:Exit->Act->World->Prop} (q:SideOk L P l args J)
  (h:∀w0 X X0 σ0 j,PW (CtY ρ P fn L w0 X X0 σ0 j) m c (KY (CtY ρ P fn L w0 X X0 σ0 j) E1 S1) E S) (u:m=some r) (v:zRA fn J st E S a w)
  (k:∀a w,zRA fn J st (E1 r) (S1 r) a w->Q .normal a w):c.wpIn (FR none) 0 P Q a w:=by
 obtain ⟨X,X0,σ,j,i,d⟩:=v.pre (ρ := ρ) q
 refine wpIn_mono (h w X X0 σ j r u a w i) fun e p x n=>?_
 cases e with
 | normal=>exact k p x (d n)
 | _=>exact False.elim n
theorem zct {ρ : Type} {m:Option ρ} {r : ρ} {l1 l2:List Oper} {E1 : ρ -> Env} {S1 : ρ -> zAC} {Q:Exit->Act->World->Prop} (q:SideOk L P l args J)
  (h:∀w0 X X0 σ0 i,PO (CtY ρ P fn L w0 X X0 σ0 i) m all l1 (KY (CtY ρ P fn L w0 X X0 σ0 i) E1 S1) E S) (v:m=some r) (u:l1.all (fun o=>zGR o.op)=true) (x:zRA fn J st E S a w)
  (k:∀a w,zRA fn J st (E1 r) (S1 r) a w->wpListIn (FR none) 0 P all Q l2 a w):wpListIn (FR none) 0 P all Q (l1++l2) a w:=by
 obtain ⟨X,X0,σ,i,j,d⟩:=x.pre (ρ := ρ) q
 exact zRn (ro:=none) (n:=0) (Q:=kwp (CtY ρ P fn L w X X0 σ i) r (KY (CtY ρ P fn L w X X0 σ i) E1 S1)) (fun _ _ _=>zGe) (fun _ _=>zDW) (fun p z y=>k p z (d y)) u (h w X X0 σ i r v a w j)
theorem zRA.sub {E1:Env} (d:zOO E1 E):zRA fn J st E S a w->zRA fn J st E1 S a w :=
 fun ⟨X,σ,q,i,hi,k,n,j⟩=>⟨X,σ,q,i,hi,fun t p h=>k t p (zMm d t p h),n,j⟩
theorem zRA.eval {t:Nat} {u:Value} (h:zRA fn J st E S a w) (j:lk E t=some (.v u)):a.eval (.tmp t)=u:=by
 obtain ⟨X,σ,q,k,hi,i,p,n⟩:=h
 obtain ⟨v,d,hr⟩:=i t _ j
 rw [hr.flat_inv.1] at d
 simp only [Act.eval,Array.getD_eq_getD_getElem?,d,Option.getD_some]
theorem zRA.len {t size:Nat} {full:Bool} {rows:List (List PV)} (h:zRA fn J st E S a w) (i:lk E t=some (.sl size full rows)):rows.length<=9223372036854775807:=by
 obtain ⟨X,σ,q,j,hi,d,n,k⟩:=h
 obtain ⟨v,p,hr⟩:=d t _ i
 exact zcI (hr.toRD rfl)
def za5:Env->Bool
 | []=>true
 | (_,.v (.bool _))::E | (_,.v (.int _ _))::E=>za5 E
 | _::_=>false
theorem zX0:∀{E:Env} {t:Nat} {p:PV},za5 E=true->lk E t=some p->∃u,p=.v u/\∀(w:World) (D:Nat->Prop),RD w D (.v u) u
 | [],t,p,_,h=>by simp [lk] at h
 | (t0,q)::E,t,p,hf,h=>by
  simp only [lk] at h
  by_cases e:t0=t
  ·subst e
   simp at h
   subst h
   unfold za5 at hf
   split at hf
   ·rename_i a;cases a
   ·rename_i a;cases a;exact ⟨_,rfl,fun w D=>.v rfl⟩
   ·rename_i a;cases a;exact ⟨_,rfl,fun w D=>.v rfl⟩
   ·cases hf
  ·have:=zBa e
   simp only [this,cond_false] at h
   refine zX0 ?_ h
   unfold za5 at hf
   split at hf
   ·rename_i a;cases a
   ·rename_i a;cases a;exact hf
   ·rename_i a;cases a;exact hf
   ·cases hf
theorem zhV {o:Oper} {rest:List Oper} {Q:Exit->Act->World->Prop} {x:Operand} {xs:Array Operand} {tys:Array TypeId} {d:Nat} {y:A} {ys:List A} {E0:Env} (hY:SideOk L P l args J)
  (hp:zRA fn J (some (y::ys)) E S a w) (ho:o.op=.call ⟨.value x,xs,tys⟩) (hx:ev E x=some (.fn (.yield l) [] [])) (ha:zMG E xs.toList (args y)) (hnm:∀p∈args y,names p=[]) (hg:gE all E o=some true) (hd:o.dst=some d) (hlt:lB d fn.ntmps=true)
  (hE0:zOO E0 E) (hfl:za5 E0=true)
  (k1:∀a w,zRA fn J (some ys) ((d,.v (.bool true))::E) S a w->wpListIn (FR none) 0 P all Q rest a w)
  (k2:∀a w,zRA fn J none ((d,.v (.bool false))::E0) [] a w->wpListIn (FR none) 0 P all Q rest a w):wpListIn (FR none) 0 P all Q (o::rest) a w:=by
 obtain ⟨X,σ,C,hJ,hi,he,hs,hdf⟩:=hp
 have hD:∀b,Dof X C w S b->b<w.heap.size/\¬X b/\¬zCQ C S b:=fun b q=>⟨q.1,q.2.1,fun ⟨n,k,h1,h2⟩=>q.2.2 n k h1 h2⟩
 have z:=zOV he ha
 have hrl:RL (fun _=>undef) w (fun b=>b<w.heap.size/\¬X b/\¬zCQ C S b) (args y) (xs.toList.map a.eval) :=
  ⟨z.1,fun i c u hc M=>((z.2 i c u hc M).mono fun b q=>⟨hD b q,rfl⟩).agree fun n hn=>by rw [hnm c (List.mem_of_getElem? hc)] at hn;cases hn⟩
 obtain ⟨us,vs,hxv,h1,h2⟩:=(zAm he hx).fn_inv
 have e1:=lZ h1.1.symm
 have e2:=lZ h2.1.symm
 subst us vs
 obtain ⟨fn',tm',as',bd',hyr,B⟩:=hY.yield hJ hrl
 have I:(execOp a.eval o).run P w=.ok (.round l fn' tm' as' bd') w:=by
  have ea:xs.map a.eval=⟨xs.toList.map a.eval⟩:=cF.1 (by simp)
  simp only [execOp,ho,resolve,hxv,Deferred.ofValue,invoke,Sem.run_bind,Sem.run_pure,Result.andThen_ok]
  simp only [ea,Array.empty_append,hyr]<;>simp
 have hw:Region.wanted o (yielded all a.tmps)=true:=zdg he hg
 refine wpListIn_step fun K hK=>?_
 rw [iP hw]
 refine ⟨fun _ _=>trivial,?_⟩
 rw [Oper.semAt_eq _ _ _ (zM3 (by rw [ho];rfl)),I,Oper.uponIn_round]
 refine ⟨fun h=>(by cases h),RoundIn.mono B fun e V hq=>?_⟩
 rw [hd]
 have F:∀{b:Bool} {E':Env} {D:Nat->Prop} {N:Nat->Value},zQV N V D E' a.tmps->zQV N V D ((d,.v (.bool b))::E') (a.put (some d) (.bool b)).tmps:=fun {b E' D N} h t p ht=>by
  simp only [lk] at ht
  by_cases e:d=t
  ·subst e
   simp at ht;subst ht
   exact ⟨.bool b,by simp [Act.put,hs,zCS hlt],.d (.v rfl)⟩
  ·simp only [zBa e,cond_false] at ht
   obtain ⟨u,M,hr⟩:=h t p ht
   exact ⟨u,by simp only [Act.put];rw [Array.getElem?_setIfInBounds_ne e];exact M,hr⟩
 rcases hq with ⟨rfl,X',r,hsz,j⟩ | ⟨rfl,X',r⟩
 ·refine hK _ _ (k1 _ _ ?_)
  have hD':∀b,Dof X C w S b->Dof X' C V S b/\V.heap[b]? = w.heap[b]? := fun b q=>⟨⟨by have:=q.1;omega,(j b q.1 q.2.1).1,q.2.2⟩,(j b q.1 q.2.1).2⟩
  have hF:∀b,zCQ C S b->V.heap[b]? = w.heap[b]? /\ ¬X' b/\b<V.heap.size:=fun b h=>⟨(j b (hi.lt b h).1 (hi.lt b h).2).2,(j b (hi.lt b h).1 (hi.lt b h).2).1,by have:=(hi.lt b h).1;omega⟩
  refine ⟨X',σ,C,r,⟨hi.nodup,hY.xlt r,fun b h=>⟨(hF b h).2.2,(hF b h).2.1⟩,hi.disj,fun n k hm=>(hi.ok n k hm).next hD' (fun b q=>(hF b ⟨n,k,hm,q⟩).1) fun _ _ _ _ _ _ _ _=>rfl⟩,?_,by simp [Act.put,hs],hdf⟩
  exact F fun t p h=>let ⟨u,M,hr⟩:=he t p h;⟨u,M,hr.mono hD'⟩
 ·refine hK _ _ (k2 _ _ ?_)
  have hfe:zCQ C ([]:zAC)=fun _=>False:=funext fun b=>propext ⟨fun ⟨_,_,h,_⟩=>by simp at h,fun h=>h.elim⟩
  refine ⟨X',σ,C,by rw [hfe];exact r,⟨by simp,hY.xlt r,fun b ⟨_,_,h,_⟩=>by simp at h,fun _ _ _ _ h=>by simp at h,fun _ _ h=>by simp at h⟩,?_,by simp [Act.put,hs],hdf⟩
  refine F fun t p h=>?_
  obtain ⟨u,rfl,M⟩:=zX0 hfl h
  obtain ⟨v,hv,hr⟩:=he t _ (zMm hE0 t _ h)
  rw [hr.flat_inv.1] at hv
  exact ⟨u,hv,.d (M _ _)⟩
theorem y_loop {n:Nat} {Q:Exit->Act->World->Prop} (I:Nat->Act->World->Prop) (p:∀k a w,I k a w->c.wpIn (FR none) 0 P (Exit.then (fun a w=>∃d,k=d+1/\I d a w) Q) a w) (u:I n a w):(Code.loop c).wpIn (FR none) 0 P Q a w:=by
 refine wpIn_loop_rounds (n+1) ?_
 have j:∀k a w,I k a w->Code.roundsIn (FR none) 0 P c Q (k+1) a w:=fun k=>by
  induction k with
  | zero =>
   intro a w h
   rw [roundsIn_succ]
   refine wpIn_mono (p 0 a w h) fun e r w' q=>?_
   cases e with
   | normal=>obtain ⟨d,i,_⟩:=q;cases i
   | _=>exact q
  | succ k v =>
   intro a w h
   rw [roundsIn_succ]
   refine wpIn_mono (p (k+1) a w h) fun e r w' q=>?_
   cases e with
   | normal=>obtain ⟨d,i,hi⟩:=q;cases i;exact v _ _ hi
   | _=>exact q
 exact j n a w u
end yrules
def zZ4 {A:Type} (L:World->Prop) (P:Program) (g:FuncId) (Sc:zAC) (cp:List PV) (args:A->List PV) (ys:List A):Prop :=
 ∀(l:Nat) (J:Option (List A)->(Nat->Prop)->(Nat->Prop)->World->Prop),SideOk L P l args J->∀(X:Nat->Prop) (σ : Nat->Value) (a : Nat->Nat->Prop) (w:World) (j:List Value),
  J (some ys) X (zCQ a Sc) w->Inv X σ a w Sc->RL σ w (Dof X a w Sc) cp j ->
  CallsIn Fence.wide 1 P g (#[.func (.yield l) #[] #[]]++⟨j⟩) w fun e h=>(∃v,e=.returned v)/\∃i d,J (some []) i d h\/J none i d h
def YEnd {A:Type} (fn:Func) (J:Option (List A)->(Nat->Prop)->(Nat->Prop)->World->Prop):Exit->Act->World->Prop
 | .normal,a,w | .ret,a,w=>(∃E S,zRA fn J (some []) E S a w)\/∃E S,zRA fn J none E S a w
 | _,_,_=>False
theorem zZO {A:Type} {L:World->Prop} {P:Program} {g:FuncId} {fn:Func} {Sc:zAC} {args:A->List PV} {ys:List A} (hf:P.funcs[g]? = some fn) (hb:fn.body=some c) (hn:Nat.ble (cp.length+1) fn.ntmps=true) (d:fn.results = #[])
  (h:∀(l:Nat) (J:Option (List A)->(Nat->Prop)->(Nat->Prop)->World->Prop),SideOk L P l args J->∀a w,zRA fn J (some ys) (zfe 0 (.fn (.yield l) [] []::cp)) Sc a w->c.wpIn (FR none) 0 P (YEnd fn J) a w):zZ4 L P g Sc cp args ys:=by
 intro l J hY X σ y w j r hi z
 have hn:=Nat.le_of_ble_eq_true hn
 have B:RL σ w (Dof X y w Sc) (.fn (.yield l) [] []::cp) (.func (.yield l) #[] #[]::j):=by
  refine ⟨by simp [z.1],fun i c u C Q=>?_⟩
  cases i with
  | zero=>simp at C Q;subst C Q;exact .fn rfl rfl (fun i c u h=>by simp at h) (fun i c u h=>by simp at h)
  | succ i=>exact z.2 i c u (by simpa using C) (by simpa using Q)
 have N:(#[.func (.yield l) #[] #[]]++⟨j⟩:Array Value)=⟨.func (.yield l) #[] #[]::j⟩:=cF.1 (by simp)
 rw [N]
 refine callsIn_of_wp (F:=FR none) hf hb trivial ?_
 refine zWJ (n:=0) (wpIn_mono (h l J hY _ w ⟨X,σ,y,r,hi,fun t p ht=>?_,?_,rfl⟩) fun e a w M=>?_)
 ·obtain ⟨_,q⟩:=zaG ht
  obtain ⟨h3,h4⟩:=B
  have k:t<(Value.func (.yield l) #[] #[]::j).length:=by rw [<- h3];have:=(lF.1 q).1;omega
  refine ⟨(Value.func (.yield l) #[] #[]::j)[t],?_,h4 t p _ (by simpa using q) (lC k)⟩
  show ((⟨Value.func (.yield l) #[] #[]::j⟩:Array Value)++_)[t]? = _
  rw [Array.getElem?_append_left (by simpa using k)]
  simp [lC k]
 ·have x:=z.1
  simp only [Array.size_append,Array.size_replicate]
  show (j.length+1)+(fn.ntmps - (j.length+1))=fn.ntmps
  omega
 ·have v:(∃E S,zRA fn J (some []) E S a w)\/(∃E S,zRA fn J none E S a w)->a.defers=[]/\∃X' V,J (some []) X' V w\/J none X' V w:=fun h=>by
   rcases h with ⟨E,S,X,σ,y,r,_,_,_,I⟩ | ⟨E,S,X,σ,y,r,_,_,_,I⟩
   ·exact ⟨I,_,_,.inl r⟩
   ·exact ⟨I,_,_,.inr r⟩
  cases e with
  | normal=>obtain ⟨x,q⟩:=v M;exact ⟨x,_,results_none d _ _ _,⟨_,rfl⟩,q⟩
  | ret=>obtain ⟨x,q⟩:=v M;exact ⟨x,_,results_none d _ _ _,⟨_,rfl⟩,q⟩
  | _=>exact False.elim M
section stmt
variable {ρ : Type} {G:Ctx ρ}
theorem Pre'.barY {X0 B C:Nat->Prop} {a:Act} {w q:World} {σ : Nat->Value} {φ : Nat->Nat->Prop} (d:Pre' { G with X:=fun b=>X0 b\/B b } E S a w σ φ) (F:∀b,B b->b<G.w0.heap.size->G.X0 b)
  (z:∀b,B b->zXB b∉a.defers) (Q:∀b,X0 b->b<w.heap.size) (j:Fr w B q) (r:∀b,C b->(B b\/w.heap.size<=b)/\b<q.heap.size) :
  Pre' { G with X:=fun b=>X0 b\/C b } E S a q σ φ := by
 have V:=j.size
 have I:∀b,Dof (fun b=>X0 b\/B b) φ w S b->Dof (fun b=>X0 b\/C b) φ q S b/\q.heap[b]? = w.heap[b]? := fun b ⟨y,v,x⟩ =>
  ⟨⟨by omega,fun h=>h.elim (fun h=>v (.inl h)) fun h=>(r b h).1.elim (fun h=>v (.inr h)) fun h=>by omega,x⟩,j.block b y fun e=>v (.inr e)⟩
 have N:∀b,zCQ φ S b->q.heap[b]? = w.heap[b]? := fun b h=>j.block b (d.inv.lt b h).1 fun e=>(d.inv.lt b h).2 (.inr e)
 refine ⟨?_,d.size,fun t p ht=>let ⟨u,hu,hr⟩:=d.env t p ht;⟨u,hu,hr.mono I⟩,?_,?_,d.agree,d.new⟩
 ·obtain ⟨M,y,v,x⟩:=d.defers
  refine ⟨M,y,v,fun b i=>⟨(x b i).1,?_⟩⟩
  rw [j.block b (gZ.1 (x b i).2).1 fun e=>z b e (by rw [y];exact lE.2 ⟨b,i,rfl⟩)]
  exact (x b i).2
 ·refine ⟨d.inv.nodup,fun b i=>i.elim (fun h=>by have:=Q b h;show b<q.heap.size;omega) fun h=>(r b h).2,fun b h=>⟨by have:=(d.inv.lt b h).1;omega,fun e=>e.elim (fun e=>(d.inv.lt b h).2 (.inl e)) fun e=>(r b e).1.elim (fun e=>(d.inv.lt b h).2 (.inr e)) fun e=>by have:=(d.inv.lt b h).1;omega⟩,d.inv.disj,fun n k z=>?_⟩
  exact (d.inv.ok n k z).next I (fun b i=>N b ⟨n,k,z,i⟩) fun _ _ _ _ _ _ _ _=>rfl
 ·refine ⟨j.os.trans d.fr.os,j.tape.trans d.fr.tape,j.output.trans d.fr.output,by have:=d.fr.size;exact eM this V,fun b i hx=>?_⟩
  have:=d.fr.size
  rw [j.block b (eJ i this) fun e=>hx (F b e i)]
  exact d.fr.block b i hx
theorem zgo {A β : Type} {g:FuncId} {cb:Code} {Sc:zAC} {p1 p2:A->PV} {E0:Env} {K:List (Kont ρ)} {ys0:List A} 
  (M:List A -> β -> Option ρ) (Sf : β -> zAC) (S1:A -> β -> zAC) (SR : ρ -> zAC) (N1:List Nat) (E1:A->Env) {gop:Operand} {t1 t2:Tmp} {ca:Code} {x0 : β}
  (hit:zZ4 G.L G.P g Sc cp (fun y=>[p1 y,p2 y]) ys0) (hcl:zAo G.P g=true) (hd1:∀y,datQ (p1 y)=true) (hd2:∀y,datQ (p2 y)=true)
  (hg:ev E gop=some (.fn (.func g) [] cp)) (hSc:zGN Sc S) (hScn:zA2 (Sc.map (·.1))=true)
  (hE0:zOO E0 E) (hN:zUH N1 E0=true) (hN0:zOG G.N0 N1=true) (hS0:zGN (Sf x0) S) (hSn:zA2 ((Sf x0).map (·.1))=true) (hnS:((Sf x0).all fun x => !(Sc.map (·.1)).any (Nat.beq x.1))=true)
  (hlt1:lB t1 G.fn.ntmps=true) (hlt2:lB t2 G.fn.ntmps=true)
  (hA:∀(y:A) (x : β),∀w0 X X0 σ0 hl ro,PW (⟨G.P,G.fn,w0,X,X0,σ0,N1,fun _ _ _=>True,G.dz,G.L,hl,ro⟩:Ctx Unit) (some ()) ca (KY (⟨G.P,G.fn,w0,X,X0,σ0,N1,fun _ _ _=>True,G.dz,G.L,hl,ro⟩:Ctx Unit) (fun _=>E1 y) (fun _=>S1 y x))
   ((t2,p2 y)::(t1,p1 y)::E0) (Sf x))
  (hB:∀(y:A) (ys:List A) (x : β),∀w0 X X0 σ0 hl ro,PW (⟨G.P,G.fn,w0,X,X0,σ0,N1,fun _ _ _=>True,G.dz,G.L,hl,ro⟩:Ctx ρ) (M (y::ys) x) cb [.loopK (zXg (⟨G.P,G.fn,w0,X,X0,σ0,N1,fun _ _ _=>True,G.dz,G.L,hl,ro⟩:Ctx ρ) (M ys) (fun _=>[]) Sf) (fun r a w=>Pre (⟨G.P,G.fn,w0,X,X0,σ0,N1,fun _ _ _=>True,G.dz,G.L,hl,ro⟩:Ctx ρ) [] (SR r) a w)] (E1 y) (S1 y x))
  (hend:∀x,PN G (M [] x) K E0 (Sf x)) (hret:∀r,PW G (some r) .ret K E0 (SR r)) (hz:G.dz=G.w0.heap.size+1:=by rfl) (hro:G.ro=none:=by rfl) :
  PW G (M ys0 x0) (.rangeFunc gop #[t1,t2] ca cb) K E S:=by
 intro r hr a w ⟨σ,φ,hp⟩
 obtain ⟨us0,vs,hgv,hus,hvs⟩:=(zAm hp.env hg).fn_inv
 have eu:=lZ hus.1.symm
 subst us0
 have hSS:zWU (Sf x0) S:=zF0 hS0 hSn
 have hCC:zWU Sc S:=zF0 hSc hScn
 let X':Nat->Prop:=fun b=>G.X b\/(zCQ φ S b/\¬zCQ φ (Sf x0) b/\¬zCQ φ Sc b)
 let Gb:(Nat->Prop)->Ctx ρ := fun B=>{ G with X:=fun b=>X' b\/B b }
 have hfB:∀b,zCQ φ Sc b->zCQ φ S b:=fun b ⟨n,k,V,h2⟩=>⟨n,k,hCC.1 _ V,h2⟩
 have hnB:∀b,zCQ φ Sc b->¬zCQ φ (Sf x0) b:=fun b ⟨n,k,V,h2⟩ ⟨m,k',h3,h4⟩=>by
  have hne:n≠m:=fun e=>by
   have hx:=List.all_eq_true.1 hnS _ h3
   have:(Sc.map (·.1)).any (Nat.beq m)=true:=List.any_eq_true.2 ⟨n,lE.2 ⟨_,V,rfl⟩,by rw [e];exact dR m⟩
   simp [this] at hx
  exact hp.inv.disj n m k k' (hCC.1 _ V) (hSS.1 _ h3) hne b h2 h4
 have hD0:∀b,Dof G.X φ w S b->Dof (fun b=>X' b\/zCQ φ Sc b) φ w (Sf x0) b:=fun b ⟨V,h2,h3⟩=>⟨V,fun h=>by
  rcases h with (h | ⟨⟨m,k,hm,hf⟩,_⟩) | ⟨m,k,hm,hf⟩
  ·exact h2 h
  ·exact h3 m k hm hf
  ·exact h3 m k (hCC.1 _ hm) hf,fun m k h=>h3 m k (hSS.1 _ h)⟩
 have hXlt:∀b,X' b->b<w.heap.size:=fun b j=>by
  rcases j with j | ⟨h,_⟩
  ·exact hp.inv.xlt b j
  ·exact (hp.inv.lt b h).1
 have hpx:Pre' (Gb (zCQ φ Sc)) E0 (Sf x0) a w σ φ := by
  refine ⟨hp.defers,hp.size,fun t p h=>let ⟨u,hu,hr⟩:=hp.env t p (zMm hE0 t p h);⟨u,hu,hr.mono fun b j=>⟨hD0 b j,rfl⟩⟩,?_,hp.fr,hp.agree,fun b hf=>hp.new b (let ⟨m,k,V,h2⟩:=hf;⟨m,k,hSS.1 _ V,h2⟩)⟩
  refine ⟨hSS.2,fun b j=>?_,fun b hf=>?_,fun m1 m2 k l V h2=>hp.inv.disj m1 m2 k l (hSS.1 _ V) (hSS.1 _ h2),fun m k hm=>(hp.inv.ok m k (hSS.1 _ hm)).mono hD0⟩
  ·rcases j with j | j
   ·exact hXlt b j
   ·exact (hp.inv.lt _ (hfB b j)).1
  ·have hf':zCQ φ S b:=let ⟨m,k,V,h2⟩:=hf;⟨m,k,hSS.1 _ V,h2⟩
   exact ⟨(hp.inv.lt b hf').1,fun h=>by
    rcases h with (h | ⟨_,h,_⟩) | h
    ·exact (hp.inv.lt b hf').2 h
    ·exact h hf
    ·exact hnB b h hf⟩
 have hX0B:∀b,zCQ φ Sc b->b<G.w0.heap.size->G.X0 b:=fun b j=>hp.new b (hfB b j)
 have hsz:G.w0.heap.size<=w.heap.size:=hp.fr.size
 rw [hro]
 refine zWJ (n:=1) (wpIn_rangeFunc ?_)
 intro fnn _
 obtain ⟨Q,hrec⟩:∃Q:LoopState->Option Code->Loop,Q=fun st pe=>{ state:=st,pending:=pe,fn:=fnn,tmps:=a.tmps,params := #[t1,t2],assign:=ca,body:=cb,defers:=w.heap.size }:=⟨_,rfl⟩
 obtain ⟨w1,hw1⟩:∃w1,(w.alloc (.deferred (some []))).alloc (.loop (Q .ready none))=w1:=⟨_,rfl⟩
 have hL1:w1.heap[w.heap.size+1]? = some (.loop (Q .ready none)):=by
  rw [<- hw1];have:=World.alloc_heap_new (w.alloc (.deferred (some []))) (.loop (Q .ready none));rwa [World.size_alloc] at this
 have hold1:∀b,b<w.heap.size->w1.heap[b]? = w.heap[b]? := fun b j=>by
  rw [<- hw1]
  exact (zKs (by simp;omega)).trans (zKs j)
 have hK1:w1.heap[w.heap.size]? = some (.deferred (some [])):=by
  rw [<- hw1];exact (zKs (by simp)).trans (World.alloc_heap_new w _)
 have hsz1:w1.heap.size=w.heap.size+2:=by rw [<- hw1];simp
 have turn1:Turn G.w0.heap.size [] w w1:=⟨by rw [<- hw1];rfl,by rw [<- hw1];rfl,by rw [<- hw1];rfl,by omega,fun b j _=>hold1 b j,fun b j=>by simp at j⟩
 have hlt':∀b,zCQ φ Sc b->b<w.heap.size:=fun b j=>(hp.inv.lt b (hfB b j)).1
 have hmk:∀b,zXB b∈a.defers->b<w.heap.size/\w.heap[b]? = some (.deferred (some [])):=fun b j=>by
  obtain ⟨bs,V,_,h3⟩:=hp.defers
  rw [V] at j
  obtain ⟨b0,hb0,e0⟩:=lE.1 j
  have:b0=b:=by simp only [zXB,Deferred.mk.injEq,Target.collected.injEq] at e0;exact e0.1
  subst this
  exact ⟨(gZ.1 (h3 _ hb0).2).1,(h3 _ hb0).2⟩
 -- what is one's own,and nobody else's
 let Out:(Nat->Prop)->(Nat->Prop)->World->(Nat->Prop)->Prop:=fun X B W F =>
  (∀b,X b↔(X' b\/F b\/b=w.heap.size+1\/b=w.heap.size))/\(∀b,B b->b<W.heap.size/\¬X b/\zXB b∉a.defers)/\(∀b,B b->b<G.w0.heap.size->G.X0 b)/\w.heap.size+2<=W.heap.size
 let J:Option (List A)->(Nat->Prop)->(Nat->Prop)->World->Prop:=fun st X B W=>match st with
  | some zs=>∃x z q,M zs x=some r/\Pre' (Gb B) E0 (Sf x) a W z q/\W.heap[w.heap.size+1]? = some (.loop (Q .ready none))/\W.heap[w.heap.size]? = some (.deferred (some []))/\Out X B W (zCQ q (Sf x))
  | none=>∃z q,Pre' (Gb B) E0 (SR r) a W z q/\W.heap[w.heap.size+1]? = some (.loop (Q .done (some .ret)))/\W.heap[w.heap.size]? = some (.deferred (some []))/\Out X B W (zCQ q (SR r))
 have hplain:∀{X:Nat->Prop} {W:World} {z q S'} {b:Nat},Inv X z q W S'->zP7 W.heap[b]? = false->¬zCQ q S' b:=fun hi hpl hf=>by
  have:=hi.plain hf;unfold zP7 at hpl;rw [hpl] at this;cases this
 have hNN:∀m∈G.N0,m∈N1:=fun m hm=>zLu hN0 m hm
 have hEN:∀t p,lk E0 t=some p->∀m∈names p,m∈N1:=fun t p h=>zS4 hN h
 have outX:∀{X B W} {S':zAC} {z q},Out X B W (zCQ q S')->Inv (fun b=>X' b\/B b) z q W S'->∀b,X b->b<W.heap.size:=fun {X B W S' z q} I hi b j=>by
  rcases (I.1 b).1 j with h | h | h | h
  ·have:=hXlt b h;have:=I.2.2.2;omega
  ·exact (hi.lt b h).1
  ·have:=I.2.2.2;omega
  ·have:=I.2.2.2;omega
 have outOwn:∀{X B B1 W W1 F},Out X B W F->(∀b,X b->b<W.heap.size)->Fr W B W1->(∀b,B1 b->(B b\/W.heap.size<=b)/\b<W1.heap.size)->Out X B1 W1 F:=fun {X B B1 W W1 F} I hx hf V=>by
  have hs:=hf.size
  refine ⟨I.1,fun b j=>⟨(V b j).2,fun hX=>?_,fun hd=>?_⟩,fun b j hlt=>?_,by have:=I.2.2.2;omega⟩
  ·rcases (V b j).1 with h | h
   ·exact (I.2.1 b h).2.1 hX
   ·have:=hx b hX;omega
  ·rcases (V b j).1 with h | h
   ·exact (I.2.1 b h).2.2 hd
   ·have:=(hmk b hd).1;have:=I.2.2.2;omega
  ·rcases (V b j).1 with h | h
   ·exact I.2.2.1 b h hlt
   ·have:=I.2.2.2;omega
 have outM:∀{X B W F},Out X B W F->∀b,B b->zXB b∉a.defers/\b≠w.heap.size+1/\b≠w.heap.size:=fun {X B W F} I b j =>
  ⟨(I.2.1 b j).2.2,fun h=>(I.2.1 b j).2.1 ((I.1 b).2 (.inr (.inr (.inl h)))),fun h=>(I.2.1 b j).2.1 ((I.1 b).2 (.inr (.inr (.inr h))))⟩
 have hside:SideOk G.L G.P (w.heap.size+1) (fun y=>[p1 y,p2 y]) J:=by
  refine ⟨?_,?_,?_,?_⟩
  ·intro st X B W hJ
   cases st with
   | some zs=>obtain ⟨x,z,q,_,C,_,_,I⟩:=hJ;exact outX I C.inv
   | none=>obtain ⟨z,q,C,_,_,I⟩:=hJ;exact outX I C.inv
  ·intro st X B W hJ
   have key:∀{S' z q F},Pre' (Gb B) E0 S' a W z q->Out X B W F->Lay G.L (fun b=>¬B b) W:=fun {S' z q F} C I w' hw=>G.lay w' fun b j hl =>
    (hw b (fun h=>j (I.2.2.1 b h hl)) (eJ hl C.fr.size)).trans (C.fr.block b hl j)
   cases st with
   | some zs=>obtain ⟨x,z,q,_,C,_,_,I⟩:=hJ;exact key C I
   | none=>obtain ⟨z,q,C,_,_,I⟩:=hJ;exact key C I
  ·intro st X B B1 W W1 hJ hf V
   cases st with
   | some zs =>
    obtain ⟨x,z,q,hM,C,hLW,hKW,I⟩:=hJ
    have hm:=outM I
    exact ⟨x,z,q,hM,Pre'.barY C I.2.2.1 (fun b j=>(hm b j).1) (fun b j=>by have:=hXlt b j;have:=I.2.2.2;omega) hf V,
     (hf.block _ (gZ.1 hLW).1 fun h=>(hm _ h).2.1 rfl).trans hLW,(hf.block _ (gZ.1 hKW).1 fun h=>(hm _ h).2.2 rfl).trans hKW,outOwn I (outX I C.inv) hf V⟩
   | none =>
    obtain ⟨z,q,C,hLW,hKW,I⟩:=hJ
    have hm:=outM I
    exact ⟨z,q,Pre'.barY C I.2.2.1 (fun b j=>(hm b j).1) (fun b j=>by have:=hXlt b j;have:=I.2.2.2;omega) hf V,
     (hf.block _ (gZ.1 hLW).1 fun h=>(hm _ h).2.1 rfl).trans hLW,(hf.block _ (gZ.1 hKW).1 fun h=>(hm _ h).2.2 rfl).trans hKW,outOwn I (outX I C.inv) hf V⟩
  ·rintro y rest X B W vs ⟨x,z,q,hM,C,hLW,hKW,I⟩ hargs
   have hm:=outM I
   obtain ⟨v1,v2,rfl⟩:∃v1 v2,vs=[v1,v2]:=by
    match vs,hargs.1 with
    | [v1,v2],_=>exact ⟨v1,v2,rfl⟩
   have hDc:∀b,(b<W.heap.size/\¬X b/\¬B b)->Dof (fun b=>X' b\/B b) q W (Sf x) b:=fun b j=>⟨j.1,fun h=>h.elim (fun h=>j.2.1 ((I.1 b).2 (.inl h))) j.2.2,fun m k V h2=>j.2.1 ((I.1 b).2 (.inr (.inl ⟨m,k,V,h2⟩)))⟩
   have hv1:RD W (Dof (fun b=>X' b\/B b) q W (Sf x)) (p1 y) v1:=(hargs.2 0 _ _ rfl rfl |>.mono fun b j=>⟨hDc b j,rfl⟩).toRDQ (hd1 y)
   have hv2:RD W (Dof (fun b=>X' b\/B b) q W (Sf x)) (p2 y) v2:=(hargs.2 1 _ _ rfl rfl |>.mono fun b j=>⟨hDc b j,rfl⟩).toRDQ (hd2 y)
   have hyr:=run_yield (P:=G.P) (args := #[v1,v2]) hLW (by rw [hrec];rfl)
   rw [hrec] at hyr
   refine ⟨fnn,_,_,_,hyr,roundIn_of_wpIn trivial ?_⟩
   obtain ⟨ar,har⟩:∃ar:Act,ar=((({ tmps:=a.tmps,defers:=[] }:Act).put (some t1) v1).put (some t2) v2):=⟨_,rfl⟩
   have hpr:Pre' (Gb B) ((t2,p2 y)::(t1,p1 y)::E0) (Sf x) ar W z q:=by
    have p0:Pre' (Gb B) E0 (Sf x) { tmps:=a.tmps,defers:=[] } W z q:={ C with defers:=DOk.nil _ _,size:=C.size,env:=C.env }
    rw [har]
    exact (p0.put (zCS hlt1) (.d hv1)).put (zCS hlt2) (.d hv2)
   have har':({ tmps:=(Array.zip #[t1,t2] #[v1,v2]).foldl (fun tmps (t,a)=>tmps.setIfInBounds t a) a.tmps,defers:=[] }:Act)=ar:=by rw [har];simp [Act.put]
   rw [har']
   have hlW:Lay G.L (fun b=>¬zCQ q (Sf x) b) W:=C.laid (G:=Gb B) fun b h=>h
   have hopA:=hA y x W (fun b=>X' b\/B b) (zCQ q (Sf x)) z hlW (some (w.heap.size+1)) () rfl ar W ⟨z,q,hpr.defers,hpr.size,hpr.env,hpr.inv,Fr.refl _ _,fun _ _=>rfl,fun b j _=>j⟩
   refine wpIn_mono hopA fun eA a1 w1' hq1=>?_
   cases eA with
   | normal=>?_
   | _=>exact False.elim hq1
   obtain ⟨σ1,φ1,hp1⟩:=hq1
   obtain ⟨o1,d1⟩:=Pre'.over (N1:=N1) C hp1.inv hp1.fr hp1.agree hp1.new hEN hNN
   have hLlt:=(gZ.1 hLW).1
   have hKlt:=(gZ.1 hKW).1
   have hL1':=(hp1.fr.block _ hLlt (hplain C.inv (by rw [hLW];rfl))).trans hLW
   have hK1':=(hp1.fr.block _ hKlt (hplain C.inv (by rw [hKW];rfl))).trans hKW
   have tb:Turn G.w0.heap.size [w.heap.size+1] w1' (w1'.putObj (w.heap.size+1) (.loop { Q .ready none with state:=.busy })):=zKN hL1' (by omega)
   refine ⟨_,run_beginRound hL1' (by rw [hrec]),?_⟩
   generalize hw2:w1'.putObj (w.heap.size+1) (.loop { Q .ready none with state:=.busy })=w2 at *
   have hL2:w2.heap[w.heap.size+1]? = some (.loop { Q .ready none with state:=.busy }):=by rw [<- hw2];exact World.putObj_heap_same (gZ.1 hL1').1
   have hK2:=(tb.old _ (gZ.1 hK1').1 (by simp)).trans hK1'
   obtain ⟨i2,r2,rd2⟩:=tb.keeps hp1.inv
   have o2:=Pre'.tick (G:=Gb B) tb o1
   have hl2:Lay G.L (fun b=>¬zCQ φ1 (S1 y x) b) w2:=o2.laid (G:=Gb B) fun b h=>h
   have hopB:=hB y rest x w2 (fun b=>X' b\/B b) (zCQ φ1 (S1 y x)) σ1 hl2 (some (w.heap.size+1)) r hM a1 w2 ⟨σ1,φ1,tb.marks hp1.defers,hp1.size,fun t p h=>let ⟨u,hu,hr⟩:=hp1.env t p h;⟨u,hu,r2 _ _ hr⟩,i2,Fr.refl _ _,fun _ _=>rfl,fun b j _=>j⟩
   -- what isn't one's own is as it was
   have hold:∀b,b<W.heap.size->¬X b->w2.heap[b]? = W.heap[b]? /\ b<w2.heap.size/\¬zCQ φ1 (S1 y x) b:=fun b j hx=>by
    have hnf:¬zCQ q (Sf x) b:=fun h=>hx ((I.1 b).2 (.inr (.inl h)))
    have hnl:b≠w.heap.size+1:=fun h=>hx ((I.1 b).2 (.inr (.inr (.inl h))))
    have e1:=hp1.fr.block b j hnf
    have hlt1':b<w1'.heap.size:=eJ j hp1.fr.size
    exact ⟨(tb.old b hlt1' (by simpa using hnl)).trans e1,eJ hlt1' tb.size,fun h=>hnf (hp1.new b h j)⟩
   have hszW2:W.heap.size<=w2.heap.size:=eM hp1.fr.size tb.size
   refine wpIn_mono hopB fun e a3 w3 hq=>?_
   have keep3:∀{S3:zAC} {σ3:Nat->Value} {φ3:Nat->Nat->Prop} {E3:Env} {H:Ctx ρ},Pre' H E3 S3 a3 w3 σ3 φ3->H.w0=w2->H.X0=zCQ φ1 (S1 y x) ->
     w3.heap[w.heap.size+1]? = some (.loop { Q .ready none with state:=.busy })/\w3.heap[w.heap.size]? = some (.deferred (some [])):=fun {S3 σ3 φ3 E3 H} N e1 e2=>by
    have hfr:=N.fr
    rw [e1,e2] at hfr
    exact ⟨(hfr.block _ (gZ.1 hL2).1 (hplain i2 (by rw [hL2];rfl))).trans hL2,(hfr.block _ (gZ.1 hK2).1 (hplain i2 (by rw [hK2];rfl))).trans hK2⟩
   have out3:∀{S3:zAC} {σ3:Nat->Value} {φ3:Nat->Nat->Prop} {E3:Env} {H:Ctx ρ} {w4:World},Pre' H E3 S3 a3 w3 σ3 φ3->H.w0=w2->H.X0=zCQ φ1 (S1 y x)->w3.heap.size<=w4.heap.size->(∀b,b<w3.heap.size->b≠w.heap.size+1->w4.heap[b]? = w3.heap[b]?) ->
     ∀b,b<W.heap.size->¬X b->¬zCQ φ3 S3 b/\w4.heap[b]? = W.heap[b]? /\ b<w4.heap.size:=fun {S3 σ3 φ3 E3 H w4} N e1 e2 hs4 h4 b j hx=>by
    obtain ⟨g1,g2,g3⟩:=hold b j hx
    have hfr:=N.fr
    have hnew:=N.new
    rw [e1,e2] at hfr hnew
    have hb3:b<w3.heap.size:=eJ g2 hfr.size
    have hnl:b≠w.heap.size+1:=fun h=>hx ((I.1 b).2 (.inr (.inr (.inl h))))
    exact ⟨fun h=>g3 (hnew b h g2),(h4 b hb3 hnl).trans ((hfr.block b g2 g3).trans g1),eJ hb3 hs4⟩
   cases e with
   | normal =>
    obtain ⟨x',hM',σ3,φ3,N⟩:=hq
    obtain ⟨hL3,hK3⟩:=keep3 N rfl rfl
    obtain ⟨o3,_⟩:=Pre'.over (N1:=N1) o2 N.inv N.fr N.agree N.new hEN hNN
    have tr:=run_endRound (P:=G.P) none hL3
    have er:({ ({ Q .ready none with state:=.busy }:Loop) with state:=if (none:Option Code).isNone then .ready else .done,pending:=none }:Loop)=Q .ready none:=by rw [hrec];rfl
    rw [er] at tr
    have tc:Turn G.w0.heap.size [w.heap.size+1] w3 (w3.putObj (w.heap.size+1) (.loop (Q .ready none))):=zKN hL3 (by omega)
    have h4:=out3 N rfl rfl tc.size fun b j hne=>tc.old b j (by simpa using hne)
    have hw3:w2.heap.size<=w3.heap.size:=N.fr.size
    have hw4:=tc.size
    refine ⟨_,_,tr,.inl ⟨rfl,fun b=>X' b\/zCQ φ3 (Sf x') b\/b=w.heap.size+1\/b=w.heap.size,⟨x',σ3,φ3,hM',Pre'.tick (G:=Gb B) tc o3,World.putObj_heap_same (gZ.1 hL3).1,(tc.old _ (gZ.1 hK3).1 (by simp)).trans hK3,fun b=>Iff.rfl,fun b j=>?_,I.2.2.1,by have:=I.2.2.2;omega⟩,by omega,fun b j hx=>?_⟩⟩
    ·obtain ⟨g1,g2,g3⟩:=I.2.1 b j
     obtain ⟨f1,_,f3⟩:=h4 b g1 g2
     exact ⟨f3,fun h=>by
      rcases h with h | h | h | h
      ·exact g2 ((I.1 b).2 (.inl h))
      ·exact f1 h
      ·exact (hm b j).2.1 h
      ·exact (hm b j).2.2 h,g3⟩
    ·obtain ⟨f1,f2,_⟩:=h4 b j hx
     exact ⟨fun h=>by
      rcases h with h | h | h | h
      ·exact hx ((I.1 b).2 (.inl h))
      ·exact f1 h
      ·exact hx ((I.1 b).2 (.inr (.inr (.inl h))))
      ·exact hx ((I.1 b).2 (.inr (.inr (.inr h)))),f2⟩
   | ret =>
    obtain ⟨σ3,φ3,N⟩:=hq
    obtain ⟨hL3,hK3⟩:=keep3 N rfl rfl
    obtain ⟨o3,_⟩:=Pre'.over (N1:=N1) o2 N.inv N.fr N.agree N.new hEN hNN
    have tr:=run_endRound (P:=G.P) (some .ret) hL3
    have er:({ ({ Q .ready none with state:=.busy }:Loop) with state:=if (some Code.ret).isNone then .ready else .done,pending:=some .ret }:Loop)=Q .done (some .ret):=by rw [hrec];rfl
    rw [er] at tr
    have tc:Turn G.w0.heap.size [w.heap.size+1] w3 (w3.putObj (w.heap.size+1) (.loop (Q .done (some .ret)))):=zKN hL3 (by omega)
    have hw3:w2.heap.size<=w3.heap.size:=N.fr.size
    have hw4:=tc.size
    have ofin:=Pre'.unbar (G:=Gb fun _=>False) (X':=fun b=>X' b\/B b) (fun b j=>j.elim .inl fun h=>h.elim) (Pre'.tick (G:=Gb B) tc o3)
    exact ⟨_,_,tr,.inr ⟨rfl,fun b=>X' b\/zCQ φ3 (SR r) b\/b=w.heap.size+1\/b=w.heap.size,σ3,φ3,ofin,World.putObj_heap_same (gZ.1 hL3).1,(tc.old _ (gZ.1 hK3).1 (by simp)).trans hK3,fun b=>Iff.rfl,fun b j=>j.elim,fun b j=>j.elim,by have:=I.2.2.2;omega⟩⟩
   | _=>exact False.elim hq
 -- the whole
 let XI:Nat->Prop:=fun b=>X' b\/zCQ φ (Sf x0) b\/b=w.heap.size+1\/b=w.heap.size
 have hpl':∀b,zCQ φ Sc b->zXB b∉a.defers:=fun b j h=>by
  have V:=hp.inv.plain (hfB b j)
  rw [(hmk b h).2] at V
  cases V
 have hXb':∀b,zCQ φ Sc b->¬XI b:=fun b j h=>by
  have hl:=hlt' b j
  rcases h with (h | ⟨_,_,h⟩) | h | h | h
  ·exact (hp.inv.lt b (hfB b j)).2 h
  ·exact h j
  ·exact hnB b j h
  ·omega
  ·omega
 have hJ0:J (some ys0) XI (zCQ φ Sc) w1 :=
  ⟨x0,σ,φ,hr,Pre'.tick (G:=Gb (zCQ φ Sc)) turn1 hpx,hL1,hK1,fun b=>Iff.rfl,fun b j=>⟨by have:=hlt' b j;omega,hXb' b j,hpl' b j⟩,hX0B,by omega⟩
 have hXlt1:∀b,XI b->b<w1.heap.size:=hside.xlt (st:=some ys0) (B:=zCQ φ Sc) hJ0
 have hDI:∀b,Dof G.X φ w S b->Dof XI φ w1 Sc b/\w1.heap[b]? = w.heap[b]? := fun b j=>by
  refine ⟨⟨by have:=j.1;omega,fun hx=>?_,fun m k hm hf=>j.2.2 m k (hCC.1 _ hm) hf⟩,hold1 b j.1⟩
  rcases hx with (h | ⟨⟨m,k,V,h2⟩,_⟩) | ⟨m,k,V,h2⟩ | h | h
  ·exact j.2.1 h
  ·exact j.2.2 m k V h2
  ·exact j.2.2 m k (hSS.1 _ V) h2
  ·have:=j.1;omega
  ·have:=j.1;omega
 have hInv:Inv XI σ φ w1 Sc:=⟨hCC.2,hXlt1,fun b j=>⟨by have:=hlt' b j;omega,hXb' b j⟩,fun m1 m2 k1 k2 V h2=>hp.inv.disj m1 m2 k1 k2 (hCC.1 _ V) (hCC.1 _ h2),
  fun m k hm=>(hp.inv.ok m k (hCC.1 _ hm)).next hDI (fun b j=>hold1 b (hlt' b ⟨m,k,hm,j⟩)) fun _ _ _ _ _ _ _ _=>rfl⟩
 have hcalls:=hit (w.heap.size+1) J hside XI σ φ w1 vs hJ0 hInv ⟨hvs.1,fun i c u hc hu=>(hvs.2 i c u hc hu).mono hDI⟩
 refine ⟨w.heap.size+1,[{ target:=.collected w.heap.size,args := #[] }],w1,{ target:=.fn (.func g) ⟨vs⟩,args := #[.func (.yield (w.heap.size+1)) #[] #[]] },w1,g,
  #[.func (.yield (w.heap.size+1)) #[] #[]]++⟨vs⟩,w1,?_,?_,fun _ _=>trivial,?_,fun h=>(by cases h),?_⟩
 ·rw [<- hw1,hrec];exact run_enterLoop_outer _ _ _ _ _
 ·simp only [resolve,hgv]
  simp [Deferred.ofValue,Act.eval]
 ·simp [invoke,zIh hcl]
 refine callsIn_wide.2 ((callsIn_wide (n:=1)).1 (CallsIn.mono hcalls ?_))
 have hmarks:∀{W:World} {ds:List Deferred} (hd:DOk G.dz ds W) (hds:ds=a.defers) (hKW:W.heap[w.heap.size]? = some (.deferred (some []))),DOk G.dz (zXB w.heap.size::a.defers) W:=fun {W ds} hd hds hKW=>by
  obtain ⟨bs,V,h2,h3⟩:=hd
  refine ⟨w.heap.size::bs,by rw [<- hds,V];rfl,List.nodup_cons.2 ⟨fun hm=>?_,h2⟩,fun b j=>?_⟩
  ·have:=(hmk w.heap.size (by rw [<- hds,V];exact lE.2 ⟨_,hm,rfl⟩)).1
   omega
  ·rcases List.mem_cons.1 j with rfl | j
   ·exact ⟨by omega,hKW⟩
   ·exact h3 b j
 rintro e W ⟨⟨v,rfl⟩,XE,BE,hJJ⟩
 rcases hJJ with ⟨x,z,q,hM,C,hLW,hKW,_⟩ | ⟨z,q,C,hLW,hKW,_⟩
 ·refine ⟨none,_,by have:=run_endLoop (P:=G.P) hLW (by rw [hrec];simp);rw [hrec] at this;exact this,?_⟩
  have te:Turn G.w0.heap.size [w.heap.size+1] W (W.putObj (w.heap.size+1) (.loop { Q .ready none with state:=.exhausted })):=zKN hLW (by omega)
  rw [hrec] at te
  have hfin:Pre' G E0 (Sf x) a _ z q:=Pre'.unbar (G:=G) (X':=fun b=>X' b\/BE b) (fun b j=>.inl (.inl j)) (Pre'.tick (G:=Gb BE) te C)
  exact hend x r hM _ _ ⟨z,q,{ hfin with defers:=hmarks hfin.defers rfl ((te.old _ (gZ.1 hKW).1 (by simp)).trans hKW),size:=hfin.size,env:=hfin.env }⟩
 ·refine ⟨some .ret,_,by have:=run_endLoop (P:=G.P) hLW (by rw [hrec];simp);rw [hrec] at this;exact this,?_⟩
  have te:Turn G.w0.heap.size [w.heap.size+1] W (W.putObj (w.heap.size+1) (.loop { Q .done (some .ret) with state:=.exhausted })):=zKN hLW (by omega)
  rw [hrec] at te
  have hfin:Pre' G E0 (SR r) a _ z q:=Pre'.unbar (G:=G) (X':=fun b=>X' b\/BE b) (fun b j=>.inl (.inl j)) (Pre'.tick (G:=Gb BE) te C)
  have:=hret r r rfl { a with defers:=zXB w.heap.size::a.defers } _ ⟨z,q,{ hfin with defers:=hmarks hfin.defers rfl ((te.old _ (gZ.1 hKW).1 (by simp)).trans hKW),size:=hfin.size,env:=hfin.env }⟩
  rw [hro] at this
  exact zWJ this
end stmt
theorem pw_bnd {ρ α : Type} {G:Ctx ρ} {K:List (Kont ρ)} {o:Option α} {f : α -> Option ρ} (h:∀x,o=some x->PW G (f x) c K E S):PW G (bnd o f) c K E S:=by
 intro r hr
 cases o with
 | none=>simp [bnd] at hr
 | some x=>exact h x rfl r hr
theorem zeN {ρ : Type} {G:Ctx ρ} {m:Option ρ} {K:List (Kont ρ)}:PW G m c K E [(0,.arr 0 0 [[.junk]])]:=by
 rintro r hr a w ⟨σ,h,d⟩
 have:=(d.inv.ok 0 (.arr 0 0 [[.junk]]) (by simp)).1 [.junk] (by simp)
 simp at this
end
section
open Go
section
variable {ρ : Type} {G:Ctx ρ} {m:Option ρ} {K:List (Kont ρ)} {E:Env} {S:zAC} {all:Array Oper}
end
end
section
open Go
section
variable {ρ : Type} {G:Ctx ρ} {m:Option ρ} {K:List (Kont ρ)} {E:Env} {S:zAC} {all:Array Oper}
def zZo:PV->PV
 | .sl _ _ []=>.v (.slice none 0 0)
 | p=>p
theorem zel {w:World} {D:Nat->Prop} {p:PV} {u:Value} (h:RD w D (zZo p) u):RD w D p u:=by
 unfold zZo at h
 split at h
 ·obtain rfl:u=.slice none 0 0:=by cases h;rfl
  exact .nil (by simp [maxLen]) fun _=>rfl
 ·exact h
theorem zgh {p:List Oper} (n:Nat) {e size:Nat} {rows:List (List PV)} (d:List (List PV)) {S':zAC} (hb:lkS S n=some (.arr e size rows)) (B:d.map (fun r=>r.map zZo)=rows) (hS:zOD n (.arr e size d) S=some S') (k:PO G m all p K E S'):PO G m all p K E S:=by
 intro r hr a w ⟨σ,φ,F⟩
 have C:=zAl hb
 refine k r hr a w ⟨σ,φ,F.turn C hS rfl (fun _ _=>rfl) rfl rfl rfl fun D' hD=>?_⟩
 obtain ⟨X,h2⟩:=F.inv.ok n _ C
 have h:rows.length=d.length:=by rw [<- B,lL]
 refine ⟨fun q j=>?_,?_⟩
 ·have:=X (q.map zZo) (by rw [<- B];exact lE.2 ⟨q,j,rfl⟩)
  simpa using this
 ·rcases h2 with ⟨x,y,z⟩ | ⟨b,us,v,x,y,z,M,N,Q,V⟩
  ·exact .inl ⟨List.length_eq_zero_iff.1 (by rw [<- h,x];rfl),y,z⟩
  ·refine .inr ⟨b,us,v,by rw [<- h];exact x,y,z,by rw [<- h];exact M,N,Q,fun i c u hi hu=>?_⟩
   have I:rows.flatten=d.flatten.map zZo:=by rw [<- B,List.map_flatten]
   exact (zel (V i (zZo c) u (by rw [I,lK,hi];rfl) hu)).mono hD
end
end
section
open Go
variable {w':World} {P:Program}
theorem zdd {w:World} (h:RowKit.Below w.heap.size w w'):Fr w (fun _=>False) w':=⟨h.os,h.tape,h.output,h.size,fun b a _=>h.block b a⟩
theorem zXr {L:World->Prop} {f:FuncId} {ps:List PV} {us:List Value} {r:PV} (B:ps=us.map PV.v) (Q:us.all zSy=true)
  (h:∀w,L w->Calls P f ⟨us⟩ w fun e w'=>∃u,e=.returned u/\RowKit.Below w.heap.size w w'/\RD w' (fun b=>w.heap.size<=b/\b<w'.heap.size) r u):DC L P f ps r:=by
 subst B
 intro X σ φ w C V hi N
 have:C=us:=by
  apply List.ext_getElem?
  intro i
  obtain ⟨l1,l2⟩:=N
  rw [lL] at l1
  rcases Nat.lt_or_ge i us.length with p | z
  ·have F:i<C.length:=by omega
   have:=l2 i (.v us[i]) C[i] (by rw [lK,lC p];rfl) (lC F)
   rw [lC p,lC F,this.flat_inv.1]
  ·rw [cX (by omega),cX z]
 subst this
 refine (h w V.here).mono ?_
 rintro e w' ⟨u,rfl,j,hr⟩
 have hsz:=j.size
 have a:=zdd j
 have hx:∀b,X b->b<w.heap.size:=hi.xlt
 have x:∀b,¬zCQ (fun _ _=>False) ([]:zAC) b:=fun b ⟨n,k,q,_⟩=>by cases q
 have hn2:∀b,¬zCQ φ ([]:zAC) b:=fun b ⟨n,k,q,_⟩=>by cases q
 have M:RD w' (Dof X (fun _ _=>False) w' []) r u:=hr.mono fun b j=>⟨⟨j.2,fun h=>by have:=hx b h;omega,fun n k q=>by cases q⟩,rfl⟩
 have I:Inv X σ (fun _ _=>False) w' []:=⟨by simp,fun b j=>by have:=hx b j;omega,fun b y=>absurd y (x b),fun _ _ _ _ h=>(by cases h),fun _ _ h=>(by cases h)⟩
 exact ⟨r,[],σ,fun _ _=>False,u,rfl,⟨rfl,rfl⟩,I,.d M,⟨a.os,a.tape,a.output,a.size,fun b j _=>a.block b j fun h=>h⟩,fun n x=>(by cases x),fun b y=>absurd y (x b)⟩
theorem zY8 (w:World):RowKit.Below w.heap.size w w:=RowKit.Below.refl _ w
theorem zeP {w:World} {b:Nat} {e:TypeId} {fr:Nat×Nat} {l:List (List UInt8)} (u:w.heap[b]? = some (.cells (l.map fun x=>Value.string ⟨⟨x⟩⟩).toArray e fr)) (B:l.length<=maxLen) {D:Nat->Prop} (z:D b) :
  RD w D (.sl 1 false (l.map fun x=>[PV.v (.string ⟨⟨x⟩⟩)])) (.slice (some ⟨b,0,none⟩) l.length l.length):=by
 by_cases y:l=[]
 ·subst y;exact .nil (by simp [maxLen]) (by simp)
 have n:(l.map fun x=>[PV.v (.string ⟨⟨x⟩⟩)]).length=l.length:=by simp
 have p:∀(i:Nat) (r:List PV) (k:Nat) (c:PV),(l.map fun x=>[PV.v (.string ⟨⟨x⟩⟩)])[i]? = some r->r[k]? = some c->∃x,l[i]? = some x/\k=0/\c=.v (.string ⟨⟨x⟩⟩):=fun i r k c hr h=>by
  rw [lK] at hr
  obtain ⟨x,d,rfl⟩:=lI.1 hr
  cases k with
  | zero=>simp at h;exact ⟨x,d,rfl,h.symm⟩
  | succ k=>simp at h
 have h:∀(i:Nat) (x:List UInt8),l[i]? = some x->w.cell? (Addr.add ⟨b,0,none⟩ i)=some (.string ⟨⟨x⟩⟩):=fun i x hx=>by
  have:(l.map fun x=>Value.string ⟨⟨x⟩⟩).toArray[i]? = some (.string ⟨⟨x⟩⟩):=by simp [hx]
  unfold Addr.add
  by_cases hi:i=0
  ·subst hi;simp [World.cell?,u,hx]
  ·simp [hi,World.cell?,u,hx]
 have:=RD.sl (w:=w) (D:=D) (size:=1) (full:=false) (rows:=l.map fun x=>[PV.v (.string ⟨⟨x⟩⟩)]) (a:=⟨b,0,none⟩) (cap:=l.length) (fun j=>match l[j]? with | some x=>.string ⟨⟨x⟩⟩ | none=>undef)
  (by omega) B (by simp) z (fun r hr=>by obtain ⟨x,_,rfl⟩:=lE.1 hr;rfl)
  (fun i r k c hr q=>by
   obtain ⟨x,d,rfl,rfl⟩:=p i r k c hr q
   simp only [dI,cH,d]
   exact h i x d)
  (fun i r k c hr q=>by
   obtain ⟨x,d,rfl,rfl⟩:=p i r k c hr q
   simp only [dI,cH,d]
   exact .v rfl)
 rwa [n] at this
theorem zem {n:String} {cs:Array Value} {W:World} (j:∀b,b<W.heap.size->w'.heap[b]? = W.heap[b]?) (h:W.var? P n=some cs):w'.var? P n=some cs:=by
 unfold World.var? at h ⊢
 cases i:P.globalNamed n with
 | none=>simp [i] at h
 | some g =>
  simp only [i,Option.bind_some] at h ⊢
  have d:g<W.heap.size:=by
   rcases Nat.lt_or_ge g W.heap.size with a | a
   ·exact a
   ·simp [Array.getElem?_eq_none a] at h
  rw [j g d];exact h
theorem zee {n:String} {k:IntKind} {zs:List Int} {W:World} (a:∀b,b<W.heap.size->w'.heap[b]? = W.heap[b]?) (h:Lib.TabIs P W n k zs):Lib.TabIs P w' n k zs:=zem a h
end
section
open Go Go.ChangeShapes Go.WideShapes Go.RowKit
variable {t:TypeId} {α:Type} {fs:Array Field}
section
variable {H:Type} {enc:TypeId×Value->H} {P:Program} {W:World}
mutual
def bulk:DataW H->Nat
 | .lit (.string s)=>s.length+1
 | .lit _=>1
 | .nil=>1
 | .ptr d=>bulk d+1
 | .slice elems spare=>zTr elems+zTr spare+1
 | .agg parts=>zTr parts+1
 | .iface _ d=>bulk d+1
 | .map _=>1
 | .held _=>1
def zTr:List (DataW H)->Nat
 | []=>0
 | d::r=>bulk d+zTr r
end
def Rds (enc:TypeId×Value->H) (P:Program) (W:World) (t:TypeId) {α : Type} (cells : α -> List PV) (j : α -> Prop) (bk : α -> Nat):Prop :=
 ∀d h x,DataW.trod enc P W 0 (fun _=>true) true d t h=some x->∃a : α,j a/\bk a<=bulk x.1/\(cells a).length=h.length /\
  ∀(i:Nat) (c:PV) (u:Value),(cells a)[i]? = some c->h[i]? = some u->RD W (fun b=>b<W.heap.size) c u
def wfI (k:IntKind) (a:Int):Prop:=(Lit.int k a).wf=true
def wfB (_:Bool):Prop:=True
def wfS (s:List UInt8):Prop:=s.length<=maxLen
def wfL {α : Type} (d : α -> Prop) (l:List α):Prop:=l.length<=maxLen/\∀a∈l,d a
def bkI (_:Int):Nat:=1
def bkB (_:Bool):Nat:=1
def bkS (s:List UInt8):Nat:=s.length+1
def bkL {α : Type} (bk : α -> Nat) (l:List α):Nat:=(l.map bk).sum+1
theorem zVr {D:Nat->Prop} {p:PV} {v:Value} (h:RD W D p v):∀(i:Nat) (c:PV) (u:Value),[p][i]? = some c->[v][i]? = some u->RD W D c u:=by
 intro i c u a d
 cases i with
 | zero=>simp at a d;subst a;subst d;exact h
 | succ i=>simp at a
theorem zgv {k:IntKind} (i:P.underlying t=some (.int k)):Rds enc P W t (fun a:Int=>[.v (.int k a)]) (wfI k) bkI:=by
 intro d p x h
 obtain ⟨n,rfl,rfl,j⟩:=DataW.trod_int i h
 exact ⟨n,j,by simp [bkI,bulk],rfl,zVr (.v rfl)⟩
theorem zeQ (i:P.underlying t=some .bool):Rds enc P W t (fun a:Bool=>[.v (.bool a)]) wfB bkB:=by
 intro d j x h
 obtain ⟨n,rfl,rfl⟩:=DataW.trod_bool i h
 exact ⟨n,trivial,by simp [bkB,bulk],rfl,zVr (.v rfl)⟩
theorem zgw (j:P.underlying t=some .string):Rds enc P W t (fun a:List UInt8=>[.v (.string ⟨⟨a⟩⟩)]) wfS bkS:=by
 intro d k x h
 obtain ⟨s,rfl,rfl,i⟩:=DataW.trod_string j h
 exact ⟨s.data.toList,i,by simp [bkS,bulk],rfl,zVr (.v rfl)⟩
theorem zVA {α : Type} {bk : α -> Nat}:∀{l:List α} {ds:List (DataW H)},l.length=ds.length->(∀(i:Nat) (a : α) (d:DataW H),l[i]? = some a->ds[i]? = some d->bk a<=bulk d)->(l.map bk).sum<=zTr ds
 | [],[],_,_=>by simp [zTr]
 | a::l,d::ds,hl,h=>by
  have n:=h 0 a d rfl rfl
  have p:=zVA (l:=l) (ds:=ds) (by simpa using hl) fun i a d j k=>h (i+1) a d (by simpa using j) (by simpa using k)
  simp only [List.map_cons,List.sum_cons,zTr]
  omega
 | [],_::_,hl,_=>by simp at hl
 | _::_,[],hl,_=>by simp at hl
theorem ze1 {α : Type} {Q:Nat -> α -> Prop}:∀(n:Nat),(∀i,i<n->∃a,Q i a)->∃l:List α,l.length=n/\∀(i:Nat) (a : α),l[i]? = some a->Q i a
 | 0,_=>⟨[],rfl,fun i a h=>by simp at h⟩
 | n+1,h=>by
  obtain ⟨l,j,k⟩:=ze1 n fun i hi=>h i (by omega)
  obtain ⟨a,p⟩:=h n (by omega)
  refine ⟨l++[a],by simp [j],fun i b d=>?_⟩
  by_cases hi:i<n
  ·rw [lN (by omega)] at d;exact k i b d
  ·have:i=n:=by
    have:=(lF.1 d).1
    simp [j] at this;omega
   subst this
   rw [cC (by omega)] at d
   simp [j] at d;subst d;exact p
theorem zDv {e:TypeId} {size:Nat} {cells : α -> List PV} {wf : α -> Prop} {bk : α -> Nat} (ht:P.underlying t=some (.slice e)) (hs:P.cellsOf e=size) (M:0<size) (h:Rds enc P W e cells wf bk) :
  Rds enc P W t (fun l:List α => [.sl size false (l.map cells)]) (wfL wf) (bkL bk):=by
 intro fuel V x hx
 rcases DataW.trod_slice ht hx with ⟨rfl,rfl⟩ | ⟨a,len,F,p,rest,n,rfl,rfl,rfl,_,hlen,v,hel,hat,_,_⟩
 ·exact ⟨[],⟨by simp,by simp⟩,by simp [bkL,bulk],rfl,zVr (.nil (by simp) (by simp))⟩
 ·obtain ⟨l,h1,B⟩:=ze1 (Q:=fun i (y : α)=>wf y/\(∀d,(p.map (·.1))[i]? = some d->bk y<=bulk d)/\a.block<W.heap.size/\(cells y).length=size/\∀(k:Nat) (c:PV),(cells y)[k]? = some c->∃u,W.cell? (a.add (i*size+k))=some u/\RD W (fun b=>b<W.heap.size) c u) len fun i hi=>by
   have g:=hat i hi
   rw [lC (by omega)] at g
   obtain ⟨V,q,z⟩:=dX.1 g
   obtain ⟨y,k1,k2,k3,k4⟩:=h n V _ z
   rw [hs] at q
   have X:=World.cells?_block q M
   rw [zMZ] at X
   obtain ⟨_,g4⟩:=World.cells?_some q
   refine ⟨y,k1,fun d I=>?_,X,by rw [k3];simpa using g4.1,fun k c C=>?_⟩
   ·rw [lK,lC (by omega)] at I
    simp at I;subst I;exact k2
   ·have hk:k<V.length:=by rw [<- k3];exact (lF.1 C).1
    refine ⟨V[k],?_,k4 k c _ C (lC hk)⟩
    have:=g4.2 k (by rw [g4.1] at hk;exact hk)
    rw [zPF] at this
    rw [this];exact lC hk
  refine ⟨l,⟨by omega,fun y hy=>?_⟩,?_,rfl,?_⟩
  ·obtain ⟨i,hi⟩:=eV.1 hy
   exact (B i y hi).1
  ·simp only [bkL,bulk]
   have:=zVA (bk:=bk) (l:=l) (ds:=p.map (·.1)) (by simp [h1,hel]) fun i y d hy I=>(B i y hy).2.1 d I
   omega
  ·refine zVr ?_
   by_cases h0:len=0
   ·subst h0
    have:l=[]:=lZ h1
    subst this
    exact .nil v (by simp)
   ·have hl:(l.map cells).length=len:=by simp [h1]
    have X:=(B 0 _ (lC (by omega))).2.2.1
    let f:Nat->Value:=fun j=>(W.cell? (a.add j)).getD (.bool false)
    have N:∀(i:Nat) (r:List PV),(l.map cells)[i]? = some r->∃y,l[i]? = some y/\r=cells y:=fun i r hr=>by
     rw [lK] at hr
     obtain ⟨y,q,z⟩:=lI.1 hr
     exact ⟨y,q,z.symm⟩
    have:=RD.sl (w:=W) (D:=fun b=>b<W.heap.size) (size:=size) (full:=false) (rows:=l.map cells) (a:=a) (cap:=F) f (by omega) v (by simp) X
     (fun r hr=>by obtain ⟨y,hy,rfl⟩:=lE.1 hr;obtain ⟨i,hi⟩:=eV.1 hy;exact (B i y hi).2.2.2.1)
     (fun i r k c hr C=>by
      obtain ⟨y,q,rfl⟩:=N i r hr
      obtain ⟨u,z,_⟩:=(B i y q).2.2.2.2 k c C
      show W.cell? _=some ((W.cell? _).getD _)
      rw [z];rfl)
     (fun i r k c hr C=>by
      obtain ⟨y,q,rfl⟩:=N i r hr
      obtain ⟨u,z,g3⟩:=(B i y q).2.2.2.2 k c C
      show RD _ _ c ((W.cell? _).getD _)
      rw [z];exact g3)
    rw [hl] at this
    exact this
def RdsF (enc:TypeId×Value->H) (P:Program) (W:World) (fs:List Field) (o:Nat) {α : Type} (cells : α -> List PV) (j : α -> Prop) (bk : α -> Nat):Prop :=
 ∀(n:Nat) (h:List Value) (d:List (DataW H×List MemPlace)),d.length=fs.length->(∀(i:Nat) (f:Field),fs[i]? = some f->DataW.trod enc P W 0 (fun _=>true) true n f.type ((h.drop f.offset).take (P.cellsOf f.type))=d[i]?) ->
  ∃a : α,j a/\bk a<=zTr (d.map (·.1))/\∀(i:Nat) (c:PV) (u:Value),(cells a)[i]? = some c->h[o+i]? = some u->RD W (fun b=>b<W.heap.size) c u
theorem zFR {o:Nat}:RdsF enc P W [] o (fun _:Unit=>[]) (fun _=>True) (fun _=>0):=fun n a d _ _=>⟨(),trivial,cG _,fun i c u h=>by simp at h⟩
theorem zb9 {f:Field} {fs:List Field} {o k:Nat} {β:Type} {j : α -> List PV} {z : β -> List PV} {C : α -> Prop} {F : β -> Prop} {v : α -> Nat} {y : β -> Nat} 
  (ho:f.offset=o) (hk:P.cellsOf f.type=k) (q:∀a,(j a).length=k) (h1:Rds enc P W f.type j C v) (h2:RdsF enc P W fs (o+k) z F y) :
  RdsF enc P W (f::fs) o (fun p : α × β => j p.1++z p.2) (fun p=>C p.1/\F p.2) (fun p=>v p.1+y p.2):=by
 intro n N r hx h
 cases r with
 | nil=>simp at hx
 | cons x r =>
  have g:=h 0 f rfl
  simp only [eU] at g
  obtain ⟨a,I,a2,a3,M⟩:=h1 n _ x g
  obtain ⟨b,Q,e2,V⟩:=h2 n N r (by simpa using hx) fun i X hf=>by have:=h (i+1) X (by simpa using hf);simpa using this
  refine ⟨(a,b),⟨I,Q⟩,by simp only [List.map_cons,zTr];omega,fun i c u d B=>?_⟩
  by_cases hi:i<k
  ·rw [lN (by rw [q];exact hi)] at d
   refine M i c u d ?_
   rw [ho,hk,List.getElem?_take_of_lt hi,cD]
   exact B
  ·rw [cC (by rw [q];omega),q] at d
   exact V (i - k) c u d (by rw [show o+k+(i - k)=o+i by omega];exact B)
theorem zCu {n:Nat} {β:Type} {cells : α -> List PV} {r : α -> Prop} {bk : α -> Nat} {d : β -> List PV} {k : β -> Prop} {j : β -> Nat} (X:P.underlying t=some (.struct fs)) (V:P.cellsOf t=n)
  (h:RdsF enc P W fs.toList 0 cells r bk) (g : α -> β) (N:∀a,d (g a)=cells a) (Q:∀b,(d b).length=n) (hw:∀a,r a->k (g a)) (I:∀a,j (g a)=bk a+1):Rds enc P W t d k j:=by
 intro p z x hx
 obtain ⟨xs,m,rfl,rfl,B,C,F⟩:=DataW.trod_struct X hx
 obtain ⟨a,v,a2,y⟩:=h m z xs (by simpa using C) fun i f M=>F i f (by simpa using M)
 refine ⟨g a,hw a v,by rw [I];simp only [bulk];omega,by rw [Q,B,V],fun i c u q hu=>?_⟩
 rw [N] at q
 exact y i c u q (by rw [dA];exact hu)
def RdA (enc:TypeId×Value->H) (P:Program) (W:World) (t:TypeId) {α : Type} (p : α -> PV) (h : α -> Prop) (bk : α -> Nat):Prop :=
 ∀base v d ps,Value.okWide P W .any base t v->DataW.Trod enc P W 0 (fun _=>true) true t v d ps->∃a,h a/\bk a<=bulk d/\RD W (fun b=>b<W.heap.size) (p a) v
theorem zTG {cells : α -> List PV} {n : α -> Prop} {bk : α -> Nat} (C:P.underlying t=some (.struct fs)) (h:Rds enc P W t cells n bk):RdA enc P W t (fun a=>.agg (cells a)) n bk:=by
 intro base v d ps k ⟨j,B⟩
 obtain ⟨a,q,r,x,y⟩:=h j _ _ B
 simp only [Value.okWide,C] at k
 obtain ⟨p,rfl,_⟩:=k
 exact ⟨a,q,r,.agg (us:=p.toList) (by simpa [Value.cells] using x) fun i c u z F=>y i c u z (by simpa [Value.cells] using F)⟩
def RDL (W:World) (ps:List PV) (a:List Value):Prop:=ps.length=a.length/\∀(i:Nat) (c:PV) (u:Value),ps[i]? = some c->a[i]? = some u->RD W (fun b=>b<W.heap.size) c u
theorem zgu:RDL W [] []:=⟨rfl,fun i c u h=>by simp at h⟩
theorem zYd {p:PV} {v:Value} {ps:List PV} {k:List Value} (h:RD W (fun b=>b<W.heap.size) p v) (j:RDL W ps k):RDL W (p::ps) (v::k) :=
 ⟨by simp [j.1],fun i c u a d=>by
  cases i with
  | zero=>simp at a d;subst a;subst d;exact h
  | succ i=>exact j.2 i c u (by simpa using a) (by simpa using d)⟩
theorem zO5 (n:laidOutB P=true) {j:World} (k:Below W.heap.size W j):∀{ts:List TypeId} {i:List Value} {ds:List (DataW H)} {ps:List MemPlace},(ts.all fun t=>P.readableRec t&&decide (t<P.types.size))=true->DataW.TrodAll enc P W 0 (fun _=>true) true ts i ds ps->(∀x∈ps,x.block<W.heap.size) ->
  ∀a:Nat->Bool,(∀p∈ps,a p.block=true)->DataW.TrodAll enc P j 0 a true ts i ds ps
 | [],[],[],ps,_,h,_,_,_=>h
 | t::ts,v::i,d::ds,ps,ht,⟨p,q,h1,h2,e⟩,hlt,a,hsp=>by
  simp only [List.all_cons,lM,decide_eq_true_eq] at ht
  subst e
  refine ⟨p,q,?_,zO5 n k (by simpa using ht.2) h2 (fun x hx=>hlt x (by simp [hx])) a (fun x hx=>hsp x (by simp [hx])),rfl⟩
  exact WideElems.Trod_stays n ht.1.1 ht.1.2 h1 (fun x hx=>k.same (hlt x (by simp [hx]))) fun x hx=>hsp x (by simp [hx])
 | [],_::_,_,_,_,h,_,_,_=>h.elim
 | [],[],_::_,_,_,h,_,_,_=>h.elim
 | _::_,[],_,_,_,h,_,_,_=>h.elim
 | _::_,_::_,[],_,_,h,_,_,_=>h.elim
theorem zdo {f:FuncId} {fn:Func} {s:ChangeSpec} {N a:Bool} (hl:laidOutB P=true) {t:TypeId} (hr:fn.resultTypes = #[t]) (ht:P.underlying t=some .bool) (hts:(fn.params.toList.all fun t=>P.readableRec t&&decide (t<P.types.size))=true) (Q:s.vars=[])
  {args:List Value} {ds gs:List (DataW H)} {B:List MemPlace} {ps:List PV} {L:World->Prop} (hc:DC L P f ps (.v (.bool true))) (hL:∀w',(∀b,b<W.heap.size->w'.heap[b]? = W.heap[b]?)->L w')
  (ha:RDL W ps args) (hW:DataW.Whole enc P fn.params.toList s.vars false W args ds gs B) (hs1:(s.fn H (ds++gs)).results=[.lit (.bool true)]) (hs2:(s.fn H (ds++gs)).args=ds) (hs3:(s.fn H (ds++gs)).vars=[]) :
  Calls P f ⟨args⟩ W fun e M=>∃v,e=.returned v/\s.post enc P fn false true a N W ⟨args⟩ v M:=by
 have hi:Inv (fun _=>False) (fun _=>Value.bool false) (fun _ _=>False) W []:=⟨by simp,fun _ h=>h.elim,fun b ⟨n,k,hm,_⟩=>by simp at hm,fun _ _ _ _ h=>by simp at h,fun _ _ h=>by simp at h⟩
 have hD:∀b,b<W.heap.size->Dof (fun _=>False) (fun _ _=>False) W [] b:=fun b C=>⟨C,fun h=>h,fun _ _ h=>by simp at h⟩
 refine (hc (fun _=>False) (fun _=>Value.bool false) (fun _ _=>False) W args (fun w' hw=>hL w' fun b C=>hw b (fun ⟨n,k,h,_⟩=>by simp at h) C) hi ⟨ha.1,fun i c u X hu=>.d ((ha.2 i c u X hu).mono fun b C=>⟨hD b C,rfl⟩)⟩).mono ?_
 rintro e M ⟨p,S,σ,φ,u,rfl,⟨rfl,rfl⟩,hi',hru,z,_,_⟩
 obtain ⟨rfl,_⟩:=hru.flat_inv
 refine ⟨_,rfl,?_⟩
 have C:Below W.heap.size W M:=⟨z.os,z.tape,z.output,z.size,fun k hk=>z.block k hk fun ⟨n,b,hm,_⟩=>by simp at hm⟩
 have F:=hW.lt
 obtain ⟨p,q,hA,hV,rfl,hz,hn⟩:=id hW
 rw [Q] at hV
 obtain ⟨rfl,rfl⟩:=trodVars_none hV
 simp only [gI] at hW F hz hs1 hs2 hs3
 have y:∀sp:Nat->Bool,(∀x∈p,sp x.block=true)->DataW.TrodAll enc P M 0 sp true fn.params.toList args ds p:=zO5 hl C hts hA fun x hx=>F x hx
 have V:∀x∈p,(fun b=>decide (b<W.heap.size)) x.block=true:=fun x hx=>by simpa using F x hx
 have hok:∀(j:Nat) (t':TypeId) (r:Value),fn.resultTypes[j]? = some t'->((Value.bool true).resultList fn.resultTypes.size)[j]? = some r->Value.okWide P M .any 0 t' r:=ok_one hr rfl (okWide_bool_mk ht _)
 have I:∀(b:Nat) (sp:Nat->Bool) (hd:Bool),DataW.TrodAll enc P M b sp hd fn.resultTypes.toList ((Value.bool true).resultList fn.resultTypes.size) (s.fn H ds).results []:=fun b sp hd=>by
  rw [hs1,hr];exact trodAll_cons_mk (shut_bool ht _) trodAll_mk0
 refine ⟨ds,[],p,[],p,[],hW,by simpa using I _ _ _,by rw [gI,hs2];exact y _ V,by rw [gI,hs3,Q];exact rfl,C.frame _,fun _=>⟨hok,_,_,([]++p)++[],⟨[]++p,[],trodAll_append (y _ fun _ _=>rfl) (I _ _ _),(show DataW.TrodVars enc P M (fun _=>true) s.vars [] [] by rw [Q];rfl),rfl,?_,?_⟩,?_⟩⟩
 ·intro b off X
  simp only [List.nil_append,gI] at X
  rw [C.frozen (p:=⟨b,off,none⟩) (F _ X)]
  exact hz b off X
 ·intro h;cases h
 ·intro x hx _;simpa using hx
end
end
section
open Go
variable {α R β:Type} {L:Nat->Int->Option Bool} {s:List UInt8}
section
@[simp] theorem zAA {α β : Type} (a : α) (f : α -> Option β):bnd (some a) f=f a:=rfl
@[simp] theorem zdJ {α β : Type} (f : α -> Option β):bnd none f=none:=rfl
@[simp] theorem zAO {α : Type} (x y : α):cnd true x y=x:=rfl
@[simp] theorem zAG {α : Type} (x y : α):cnd false x y=y:=rfl
theorem ze9 (b:Bool) (x y : α):cnd b x y=if b then x else y:=by cases b<;>rfl
theorem zAQ (p:Prop) [Decidable p] (x y : α):cnd (decide p) x y=if p then x else y:=by by_cases h:p<;>simp [h]
theorem zAT {b:Bool} (h:b=true) (x y : α):cnd b x y=x:=by rw [h];rfl
theorem zAS {b:Bool} (h:b=false) (x y : α):cnd b x y=y:=by rw [h];rfl
theorem zJn {k:IntKind} {n:Int} (h:lo k<=n/\n<=hi k):rng k n=some n:=iP h
theorem zcC {n:Int} (a : -9223372036854775808<=n) (d:n<=9223372036854775807):rng .i64 n=some n:=zJn ⟨a,d⟩
theorem zBO {n:Nat} (h:n<=9223372036854775806):rng .i64 ((n:Int)+1)=some ((n+1:Nat):Int):=by
 rw [zcC (by omega) (by omega)];rfl
theorem zAg {b k:Nat} (h:k*b<=140737488355328):zDI b k=some ():=iP h
theorem zHX (l:List α) (i:Nat):idx l (i:Int)=l[i]? := by
 unfold idx;rw [iP (by omega)];simp
theorem zAW {l:List α} {i:Nat} (h:i<l.length):idx l (i:Int)=some l[i]:=by rw [zHX,lC h]
theorem zf0 (s:List UInt8) (i:Nat):chr s (i:Int)=(s[i]?).map fun b=>(b.toNat:Int):=by
 unfold chr;rw [iP (by omega)];simp
theorem zXn (s:List UInt8):chr s 0=(s[0]?).map fun b=>(b.toNat:Int):=zf0 s 0
theorem zR2 {s:List α} {i j:Nat} (a:i<=j) (d:j<=s.length):zGF s (i:Int) (j:Int)=some ((s.drop i).take (j - i)):=by
 unfold zGF;rw [iP (by omega)];simp
theorem up {X:Type} {L:Nat->X->Option R} (Inv:Nat->X->Prop) (Fin:Option R->Prop) (n:Nat)
  (step:∀i x,i<n->Inv i x->(∃v,Fin v/\∀k,L (k+1) x=v)\/∃j,Inv (i+1) j/\∀k,L (k+1) x=L k j)
  (a:∀x,Inv n x->∃v,Fin v/\∀k,L (k+1) x=v):∀{i:Nat} {x:X} {k:Nat},Inv i x->i<=n->n<k+i->Fin (L k x):=by
 intro i x k
 induction k generalizing i x with
 | zero=>intro _ p q;omega
 | succ k r =>
  intro hx p q
  by_cases hi:i=n
  ·subst hi
   obtain ⟨v,d,e⟩:=a x hx
   rw [e k];exact d
  ·rcases step i x (by omega) hx with ⟨v,d,e⟩ | ⟨j,h,e⟩
   ·rw [e k];exact d
   ·rw [e k];exact r h (by omega) (by omega)
theorem upf {X:Type} {L:Nat->X->Option R} (f:Nat->X) (v:Option R) (n:Nat) (step:∀i,i<n->∀k,L (k+1) (f i)=L k (f (i+1))) (a:∀k,L (k+1) (f n)=v) {k:Nat} (d:n<k):L k (f 0)=v :=
 up (Inv:=fun i x=>x=f i) (Fin:=fun r=>r=v) n (fun i x hi hx=>.inr ⟨f (i+1),rfl,by subst hx;exact step i hi⟩) (fun x hx=>⟨v,rfl,by subst hx;exact a⟩) rfl (cG _) (by omega)
theorem zhK {L:Nat->Int->Option R} (p:Nat->Bool) (yes:Nat->Option R) (no:Option R) (n:Nat) (y:∀i,i<n->p i=true->∀k,L (k+1) (i:Int)=yes i) (v:∀i,i<n->p i=false->∀k,L (k+1) (i:Int)=L k ((i+1:Nat):Int)) (q:∀k,L (k+1) (n:Int)=no) {k:Nat} (z:n<k) :
  L k 0=match (cW n).find? p with | some i=>yes i | none=>no:=by
 refine up (L:=L) (Inv:=fun i x=>x=(i:Int)/\∀j,j<i->p j=false) (Fin:=fun r=>r=match (cW n).find? p with | some i=>yes i | none=>no) n (fun i x hi ⟨hx,d⟩=>?_) (fun x ⟨hx,d⟩=>?_) (i:=0) ⟨rfl,fun j d=>by omega⟩ (cG _) (by omega)
 ·subst hx
  cases u:p i with
  | true =>
   refine .inl ⟨yes i,?_,y i hi u⟩
   have:(cW n).find? p=some i:=by
    rw [List.find?_range_eq_some]
    exact ⟨by simpa using u,by simpa using hi,fun j a=>by simpa using d j a⟩
   rw [this]
  | false=>exact .inr ⟨_,⟨rfl,fun j a=>by rcases Nat.lt_succ_iff_lt_or_eq.1 a with h | h;exact d j h;subst h;exact u⟩,v i hi u⟩
 ·subst hx
  refine ⟨no,?_,q⟩
  have:(cW n).find? p=none:=by
   rw [List.find?_eq_none]
   intro j a
   simpa using d j (by simpa using a)
  rw [this]
theorem zLH (l:List α) (p : α -> Bool) (fin:Option Bool) (a:∀(i:Nat) (h:i<l.length) (k:Nat),L (k+1) (i:Int)=bif p l[i] then L k ((i+1:Nat):Int) else some false) (d:∀k,L (k+1) (l.length:Int)=fin) {k:Nat} (n:l.length<k) :
  L k 0=bif l.all p then fin else some false:=by
 have r:∀(j i k:Nat),i+j=l.length->j<k->L k (i:Int)=bif (l.drop i).all p then fin else some false:=by
  intro j
  induction j with
  | zero =>
   intro i k hi n
   obtain ⟨k,rfl⟩:∃q,k=q+1:=⟨k - 1,by omega⟩
   obtain rfl:i=l.length:=by omega
   rw [d];simp
  | succ j u =>
   intro i k hi n
   obtain ⟨k,rfl⟩:∃q,k=q+1:=⟨k - 1,by omega⟩
   have h:i<l.length:=by omega
   rw [a i h,eT h,List.all_cons]
   cases p l[i]
   ·rfl
   ·simpa using u (i+1) k (by omega) (by omega)
 simpa using r l.length 0 k (by omega) n
end
section
def mix {α : Type} (g : α -> α) (l:List α) (i:Nat):List α := (l.map g).take i++l.drop i
theorem zYG (g : α -> α) (l:List α):mix g l 0=l:=by simp [mix]
theorem zba (g : α -> α) (l:List α):mix g l l.length=l.map g:=by rw [mix,List.take_of_length_le (by simp),List.drop_length,gI]
theorem zbZ (g : α -> α) {l:List α} {i:Nat} (h:i<l.length):idx (mix g l i) (i:Int)=some l[i]:=by
 rw [zHX,mix,cC (by simp;omega)]
 simp [Nat.min_eq_left (Nat.le_of_lt h),h]
theorem zUG (g : α -> α) {l:List α} {i:Nat} (h:i<l.length):(mix g l i).set ((i:Int)).toNat (g l[i])=mix g l (i+1):=by
 have a:((l.map g).take i).length=i:=by simp;omega
 rw [mix,mix,eT h,List.set_append_right _ _ (by rw [a];simp),a]
 simp only [eO,Nat.sub_self,List.set_cons_zero]
 rw [List.take_succ_eq_append_getElem (by simpa using h)]
 simp
end
section
theorem zAj [BEq α] [LawfulBEq α] [DecidableEq α] (a b : α) (x y : β):cnd (a==b) x y=if a=b then x else y:=by
 by_cases h:a=b
 ·simp [h]
 ·simp [h,beq_eq_false_iff_ne.2 h]
theorem zAi [BEq α] [LawfulBEq α] [DecidableEq α] (a b : α) (x y : β):cnd (a != b) x y=if a=b then y else x:=by
 by_cases h:a=b
 ·simp [h]
 ·simp [h,bne_iff_ne.2 h]
theorem zPK (b:Bool) (x y : β):cnd (!b) x y=cnd b y x:=by cases b<;>rfl
end
section
theorem zGl {L:Nat->Int->Option Int} (l:List α) (p : α -> Bool) (step:∀(i:Nat) (h:i<l.length) (k:Nat),L (k+1) (i:Int)=bif p l[i] then some (i:Int) else L k ((i+1:Nat):Int)) (a:∀k,L (k+1) (l.length:Int)=some (-1)) {k:Nat} (d:l.length<k) :
  ∃r,L k 0=some r/\decide (r>=0)=l.any p:=by
 have q:∀(j i k:Nat),i+j=l.length->j<k->∃r,L k (i:Int)=some r/\decide (r>=0)=(l.drop i).any p:=by
  intro j
  induction j with
  | zero =>
   intro i k hi d
   obtain ⟨k,rfl⟩:∃n,k=n+1:=⟨k - 1,by omega⟩
   obtain rfl:i=l.length:=by omega
   exact ⟨-1,a k,by simp⟩
  | succ j u =>
   intro i k hi d
   obtain ⟨k,rfl⟩:∃n,k=n+1:=⟨k - 1,by omega⟩
   have h:i<l.length:=by omega
   rw [step i h,eT h,List.any_cons]
   cases p l[i]
   ·simpa using u (i+1) k (by omega) (by omega)
   ·exact ⟨_,rfl,by simp⟩
 simpa using q l.length 0 k (by omega) d
theorem zUl (n:Nat) (p:Nat->Bool) (fin:Option Bool) (step:∀(i:Nat) (_:i<n) (k:Nat),L (k+1) (i:Int)=bif p i then L k ((i+1:Nat):Int) else some false) (a:∀k,L (k+1) (n:Int)=fin) {k:Nat} (d:n<k) :
  L k 0=bif (cW n).all p then fin else some false:=by
 have:=zLH (L:=L) (cW n) p fin (fun i hi k=>by simpa using step i (by simpa using hi) k) (fun k=>by simpa using a k) (k:=k) (by simpa using d)
 simpa using this
theorem zVB (s:List UInt8) (i:Nat):(ByteArray.get! ⟨⟨s⟩⟩ i)=s[i]! := by simp [ByteArray.get!]
theorem zah {p:Nat} (h:p<s.length) (a:s[p].toNat<128):zNy s p=(s[p].toNat:Int)/\zMb s p=1:=by
 have e:Utf8.decode ⟨⟨s⟩⟩ p=(s[p].toNat,1):=by
  unfold Utf8.decode
  simp only [zVB,cH,getElem!_pos s p h]
  rw [iP a]
 unfold zNy zMb
 rw [e]
 exact ⟨rfl,rfl⟩
theorem dec_hi {p:Nat} (h:p<s.length) (d:128<=s[p].toNat):128<=zNy s p:=by
 have e:128<=(Utf8.decode ⟨⟨s⟩⟩ p).1:=by
  unfold Utf8.decode
  simp only [zVB,cH,getElem!_pos s p h]
  rw [iN (by omega)]
  split
  ·split
   ·assumption
   ·decide
  ·split
   ·split
    ·rename_i a;simp only [lM,decide_eq_true_eq] at a;exact eM (by decide) a.1
    ·decide
   ·split
    ·split
     ·rename_i a;simp only [lM,decide_eq_true_eq] at a;exact eM (by decide) a.1
     ·decide
    ·decide
 unfold zNy
 omega
end
section
theorem zdw (g : α -> α) {l:List α} {i:Nat} (h:i<l.length) (k:g l[i]=l[i]):mix g l i=mix g l (i+1):=by
 rw [<- zUG g h,k,eO]
 have a:=zbZ g h
 rw [zHX] at a
 obtain ⟨d,j⟩:=lF.1 a
 exact (by rw [<- j];exact (List.set_getElem_self d).symm)
theorem zSa (b:UInt8) (l:List UInt8) (c:UInt8):eI (b::l) c=if b=c then 0 else if eI l c = -1 then -1 else eI l c+1:=by
 simp only [eI]
 by_cases h:b=c<;>by_cases a:eI l c = -1<;>simp [h,a]
theorem zNi:∀(s:List UInt8) (c:UInt8),(0<=eI s c↔c∈s) /\ -1<=eI s c
 | [],c=>by simp [eI]
 | b::l,c=>by
  have d:=zNi l c
  rw [zSa]
  by_cases h:b=c
  ·subst h;simp
  ·rw [iN h]
   by_cases e:eI l c = -1
   ·rw [iP e]
    rw [e] at d
    have:c∉l:=fun i=>by have:=d.1.2 i;omega
    simp [Ne.symm h,this]
   ·rw [iN e]
    refine ⟨?_,by omega⟩
    rw [List.mem_cons,<- d.1]
    constructor
    ·intro a;right;omega
    ·rintro (a | a)
     ·exact absurd a.symm h
     ·omega
theorem zUA (s:List UInt8) (c:UInt8):decide (0<=eI s c)=s.contains c:=by
 rw [eW,decide_eq_true_eq,(zNi s c).1,List.contains_iff_mem]
end
section
theorem zNv (b:UInt8) (n:Nat) (h:n<256):((b.toNat:Int)==(n:Int))=(b==UInt8.ofNat n):=by
 rw [eW,beq_iff_eq,beq_iff_eq,<- UInt8.toNat_inj]
 have:(UInt8.ofNat n).toNat=n:=by simp;omega
 omega
end
end
end Go.Pw
