/- The rules for what turns memory: new blocks, stores, appends, calls. No program is named here. -/
import Derived.Test.YtoboimmgglnjfaaGreatDoorRules
namespace Go.Pw
open Go
def hasN (n:Nat) (p:PV):Bool:=(names p).any (Nat.beq n)
theorem zIE {n:Nat} {p:PV} (h:hasN n p=false):∀m∈names p,m≠n:=by
 intro m hm e
 subst e
 unfold hasN at h
 rw [List.any_eq_false] at h
 exact h m hm (by simp)
def zE3 (n:Nat):Env->Option Env
 | []=>some []
 | (t,p)::E=>match zE3 n E with
  | some E'=>(match hasN n p with
   | true=>some ((t,.junk)::E')
   | false=>some ((t,p)::E'))
  | none=>none
def zGz (n:Nat):List PV->Option (List PV)
 | []=>some []
 | p::l=>match zGz n l with
  | some l'=>(match hasN n p with
   | true=>some (.junk::l')
   | false=>some (p::l'))
  | none=>none
def zEc (n:Nat):Store->Option Store
 | []=>some []
 | (k,b)::S=>match zEc n S with
  | some S'=>(match Nat.beq k n with
   | true=>some S'
   | false=>match b with
    | .box ty cells=>(match zGz n cells with
     | some cells'=>some ((k,.box ty cells')::S')
     | none=>none)
    | b=>some ((k,b)::S'))
  | none=>none
section
variable {P:Program} {σ : Nat->Value} {w:World} {D X:Nat->Prop} {φ : Nat->Nat->Prop} {S:Store} {E:Env}
def upd {α : Type} (f:Nat -> α) (n:Nat) (x : α) (m:Nat) : α := if m=n then x else f m
theorem zBw {α : Type} (f:Nat -> α) (n:Nat) (x : α):upd f n x n=x:=by simp [upd]
theorem zFX {α : Type} (f:Nat -> α) {n m:Nat} (x : α) (h:m≠n):upd f n x m=f m:=by simp [upd,h]
theorem R.upd {p:PV} {u:Value} {n:Nat} {x:Value} (r:R σ w D p u) (h:hasN n p=false):R (Pw.upd σ n x) w D p u :=
 r.agree fun m hm=>zFX σ x (zIE h m hm)
theorem zIf {n:Nat}:∀{E E':Env},zE3 n E=some E'->∀t,lk E' t=(lk E t).map fun p=>bif hasN n p then .junk else p
 | [],E',h,t=>by simp [zE3] at h;subst h;rfl
 | (k,p)::E,E',h,t=>by
  simp only [zE3] at h
  split at h<;>try simp at h
  rename_i E1 h1
  have ih:=zIf h1 t
  split at h<;>simp at h<;>subst h<;>rename_i hn<;>simp only [lk]<;>cases Nat.beq k t<;>simp [ih,hn]
theorem zTV {n:Nat} {x:Value} {tmps:Array Value} {E E':Env} (h:zE3 n E=some E') (hE:InvE σ w D E tmps):InvE (upd σ n x) w D E' tmps:=by
 intro t p ht
 rw [zIf h] at ht
 cases hl:lk E t with
 | none=>simp [hl] at ht
 | some q =>
  obtain ⟨u,hu,hr⟩:=hE t q hl
  simp only [hl,Option.map_some,Option.some.injEq] at ht
  cases hn:hasN n q
  ·simp [hn] at ht;subst ht;exact ⟨u,hu,hr.upd hn⟩
  ·simp [hn] at ht;subst ht;exact ⟨u,hu,.junk⟩
theorem zJm {n:Nat} {x:Value}:∀{cs cs':List PV},zGz n cs=some cs'->cs'.length=cs.length/\∀{us:List Value},(∀(i:Nat) (c:PV) (u:Value),cs[i]? = some c->us[i]? = some u->R σ w D c u) ->
  ∀(i:Nat) (c:PV) (u:Value),cs'[i]? = some c->us[i]? = some u->R (upd σ n x) w D c u
 | [],cs',h=>by simp [zGz] at h;subst h;exact ⟨rfl,fun _ i c u hc=>by simp at hc⟩
 | p::cs,cs',h=>by
  simp only [zGz] at h
  split at h<;>try simp at h
  rename_i l hl
  obtain ⟨h1,h2⟩:=zJm (x:=x) hl
  have key:∀q,cs'=q::l->(∀u,R σ w D p u->R (upd σ n x) w D q u)->cs'.length=(p::cs).length/\∀{us:List Value},(∀(i:Nat) (c:PV) (u:Value),(p::cs)[i]? = some c->us[i]? = some u->R σ w D c u) ->
    ∀(i:Nat) (c:PV) (u:Value),cs'[i]? = some c->us[i]? = some u->R (upd σ n x) w D c u:=by
   rintro q rfl hq
   refine ⟨by simp [h1],fun {us} hus i c u hc hu=>?_⟩
   cases i with
   | zero=>simp at hc;subst hc;exact hq _ (hus 0 p u rfl hu)
   | succ i =>
    cases us with
    | nil=>simp at hu
    | cons u0 us=>exact h2 (us:=us) (fun j c' u' hj hu'=>hus (j+1) c' u' (by simpa using hj) (by simpa using hu')) i c u (by simpa using hc) (by simpa using hu)
  split at h<;>simp at h<;>rename_i hn
  ·exact key _ h.symm fun _ _=>.junk
  ·exact key _ h.symm fun _ hr=>hr.upd hn
theorem zKO {n:Nat}:∀{cs cs':List PV},zGz n cs=some cs'->cs'.length=cs.length/\∀(i:Nat),cs'[i]? = cs[i]?.map fun p=>bif hasN n p then .junk else p
 | [],cs',h=>by simp [zGz] at h;subst h;simp
 | p::cs,cs',h=>by
  simp only [zGz] at h
  split at h<;>try simp at h
  rename_i l hl
  obtain ⟨h1,h2⟩:=zKO hl
  split at h<;>simp at h<;>subst h<;>rename_i hn<;>refine ⟨by simp [h1],fun i=>?_⟩<;>cases i with
  | zero=>simp [hn]
  | succ i=>simp [h2]
theorem WinOk.kill {w':World} {D':Nat->Prop} {hdr:Value} {fp:Nat->Prop} {e n:Nat} {cells cells':List PV} (x:Value) (hw:WinOk σ w D hdr fp e cells) (hc:zGz n cells=some cells') (hR:∀p u,R (upd σ n x) w D p u->R (upd σ n x) w' D' p u) (hD:∀p u,RD w D p u->RD w' D' p u)
  (hb:∀b,fp b->w'.heap[b]? = w.heap[b]?):WinOk (upd σ n x) w' D' hdr fp e cells':=by
 obtain ⟨h1,h2⟩:=zKO hc
 refine hw.map h1 (fun s r a h=>by rw [h2,h];rfl) (fun i c c' u h3 h4 hr=>?_) hD hb
 rw [h2,h3] at h4
 simp only [Option.map_some,Option.some.injEq] at h4
 cases hn:hasN n c
 ·rw [hn] at h4;simp at h4;subst h4;exact hR _ _ (hr.upd hn)
 ·rw [hn] at h4;simp at h4;subst h4;exact .junk
theorem BlkOk.next {σ':Nat->Value} {w':World} {D':Nat->Prop} {hdr:Value} {fp:Nat->Prop} {k:Blk} (hD:∀b,D b->D' b/\w'.heap[b]? = w.heap[b]?) (hb:∀b,fp b->w'.heap[b]? = w.heap[b]?)
  (h:BlkOk σ w D hdr fp k) (hbox:∀ty cells,k=.box ty cells->∀(i:Nat) (c:PV),cells[i]? = some c->∀n∈names c,σ' n = σ n):BlkOk σ' w' D' hdr fp k:=by
 cases k with
 | box ty cells =>
  rcases h with h | hw
  rotate_left
  ·exact .inr (hw.same (fun i c u hc hr=>(hr.mono hD).agree (hbox _ _ rfl i c hc)) (fun p u hr=>hr.mono hD) hb)
  obtain ⟨b,us,h1,h2,h3,⟨⟨fr,h4,h5⟩,h6⟩⟩:=h
  exact .inl ⟨b,us,h1,h2,h3,⟨fr,(hb b ((h2 b).2 rfl)).trans h4,h5⟩,fun i c u hc hu=>((h6 i c u hc hu).mono hD).agree (hbox _ _ rfl i c hc)⟩
 | arr elem size rows =>
  obtain ⟨h0,h⟩:=h
  refine ⟨h0,?_⟩
  rcases h with h | ⟨b,us,cap,h1,h2,h3,h4,h5,⟨fr,h6⟩,h7⟩
  ·exact .inl h
  ·exact .inr ⟨b,us,cap,h1,h2,h3,h4,h5,⟨fr,(hb b ((h2 b).2 rfl)).trans h6.1,h6.2⟩,fun i c u hc hu=>(h7 i c u hc hu).mono hD⟩
 | tre e s kc ke rows=>exact TreOk.next hD hb h
 | siter s pos=>obtain ⟨b,h1,h2,h3⟩:=h;exact ⟨b,h1,h2,(hb b ((h2 b).2 rfl)).trans h3⟩
 | mp kvs=>obtain ⟨b,es,cl,h1,h2,h3,h4,h5⟩:=h;exact ⟨b,es,cl,h1,h2,(hb b ((h2 b).2 rfl)).trans h3,h4,fun i e kv he hk=>⟨(h5 i e kv he hk).1,(h5 i e kv he hk).2.mono hD⟩⟩
theorem zHQ {n:Nat}:∀{S S':Store},zEc n S=some S'->∀m k,(m,k)∈S'->m≠n/\∃k0,(m,k0)∈S/\((k=k0/\∀ty cells,k≠.box ty cells)\/∃ty cells cells',k0=.box ty cells/\k=.box ty cells'/\zGz n cells=some cells')
 | [],S',h,m,k,hm=>by simp [zEc] at h;subst h;simp at hm
 | (m0,b0)::S,S',h,m,k,hm=>by
  simp only [zEc] at h
  split at h<;>try simp at h
  rename_i S1 h1
  have ih:=zHQ h1 m k
  split at h
  ·simp at h;subst h
   obtain ⟨e,k0,h2,h3⟩:=ih hm
   exact ⟨e,k0,List.mem_cons_of_mem _ h2,h3⟩
  ·rename_i hne
   have hne':m0≠n:=fun e=>by subst e;simp at hne
   split at h
   ·rename_i cells
    split at h<;>simp at h
    rename_i cells' hc
    subst h
    rcases List.mem_cons.1 hm with e | hm
    ·cases e;exact ⟨hne',_,List.mem_cons_self ..,.inr ⟨_,_,_,rfl,rfl,hc⟩⟩
    ·obtain ⟨e,k0,h2,h3⟩:=ih hm
     exact ⟨e,k0,List.mem_cons_of_mem _ h2,h3⟩
   ·rename_i hb
    simp at h;subst h
    rcases List.mem_cons.1 hm with e | hm
    ·cases e;exact ⟨hne',_,List.mem_cons_self ..,.inl ⟨rfl,hb⟩⟩
    ·obtain ⟨e,k0,h2,h3⟩:=ih hm
     exact ⟨e,k0,List.mem_cons_of_mem _ h2,h3⟩
theorem zIF {n:Nat}:∀{S S':Store},zEc n S=some S'->(S'.map (·.1)).Sublist (S.map (·.1))
 | [],S',h=>by simp [zEc] at h;subst h;simp
 | (m0,b0)::S,S',h=>by
  simp only [zEc] at h
  split at h<;>try simp at h
  rename_i S1 h1
  have ih:=zIF h1
  split at h
  ·simp at h;subst h;exact List.Sublist.cons _ ih
  ·split at h
   ·split at h<;>simp at h
    subst h;simpa using ih
   ·simp at h;subst h;simpa using ih
theorem Inv.lay (hi:Inv X σ φ w S) {n:Nat} {S':Store} (hS:zEc n S=some S') {hdr:Value} {fp:Nat->Prop} {w':World} {k:Blk} (hsz:w.heap.size<=w'.heap.size)
  (hfp:∀b,fp b->b<w'.heap.size/\(w.heap.size<=b\/((∃k0,(n,k0)∈S) /\ φ n b)))
  (hkeep:∀b,b<w.heap.size->((∃k0,(n,k0)∈S)->¬φ n b)->w'.heap[b]? = w.heap[b]?)
  (hk:∀D',(∀b,Dof X φ w S b->D' b/\w'.heap[b]? = w.heap[b]?)->BlkOk (upd σ n hdr) w' D' hdr fp k) :
  Inv X (upd σ n hdr) (upd φ n fp) w' ((n,k)::S')/\∀b,Dof X φ w S b->Dof X (upd φ n fp) w' ((n,k)::S') b/\w'.heap[b]? = w.heap[b]? := by
 have hmem:=zHQ hS
 have hfree:∀b,b<w.heap.size->((∃k0,(n,k0)∈S)->¬φ n b)->¬fp b:=fun b hb h hf=>by
  rcases (hfp b hf).2 with h1 | ⟨h1,h2⟩
  ·omega
  ·exact h h1 h2
 have hD:∀b,Dof X φ w S b->Dof X (upd φ n fp) w' ((n,k)::S') b/\w'.heap[b]? = w.heap[b]? := by
  rintro b ⟨h1,h2,h3⟩
  have hn:(∃k0,(n,k0)∈S)->¬φ n b:=fun ⟨k0,hk0⟩=>h3 n k0 hk0
  refine ⟨⟨by omega,h2,fun m k' hm=>?_⟩,hkeep b h1 hn⟩
  rcases List.mem_cons.1 hm with e | hm
  ·cases e;rw [zBw];exact hfree b h1 hn
  ·obtain ⟨hne,k0,hk0,_⟩:=hmem m k' hm
   rw [zFX _ _ hne];exact h3 m k0 hk0
 refine ⟨⟨?_,fun b hb=>by have:=hi.xlt b hb;omega,?_,?_,?_⟩,hD⟩
 ·rw [List.map_cons,List.nodup_cons]
  refine ⟨fun h=>?_,(zIF hS).nodup hi.nodup⟩
  obtain ⟨x,hx,he⟩:=List.mem_map.1 h
  exact (hmem x.1 x.2 hx).1 he
 ·rintro b ⟨m,k',hm,hf⟩
  rcases List.mem_cons.1 hm with e | hm
  ·cases e
   rw [zBw] at hf
   refine ⟨(hfp b hf).1,fun hX=>?_⟩
   rcases (hfp b hf).2 with h1 | ⟨⟨k0,h1⟩,h2⟩
   ·have:=hi.xlt b hX;omega
   ·exact (hi.lt b ⟨n,k0,h1,h2⟩).2 hX
  ·obtain ⟨hne,k0,hk0,_⟩:=hmem m k' hm
   rw [zFX _ _ hne] at hf
   have:=hi.lt b ⟨m,k0,hk0,hf⟩
   exact ⟨by omega,this.2⟩
 ·have one:∀m k',(m,k')∈S'->∀b,fp b->¬φ m b:=by
   intro m k' hm b hf hm2
   obtain ⟨hne,k0,hk0,_⟩:=hmem m k' hm
   rcases (hfp b hf).2 with h1 | ⟨⟨k1,h1⟩,h2⟩
   ·have:=(hi.lt b ⟨m,k0,hk0,hm2⟩).1;omega
   ·exact hi.disj n m k1 k0 h1 hk0 (Ne.symm hne) b h2 hm2
  intro m1 m2 k1 k2 h1 h2 hne b hb1 hb2
  rcases List.mem_cons.1 h1 with e1 | h1<;>rcases List.mem_cons.1 h2 with e2 | h2
  ·cases e1;cases e2;exact hne rfl
  ·cases e1
   rw [zBw] at hb1
   rw [zFX _ _ (Ne.symm hne)] at hb2
   exact one m2 k2 h2 b hb1 hb2
  ·cases e2
   rw [zBw] at hb2
   rw [zFX _ _ hne] at hb1
   exact one m1 k1 h1 b hb2 hb1
  ·obtain ⟨hn1,k01,hk1,_⟩:=hmem m1 k1 h1
   obtain ⟨hn2,k02,hk2,_⟩:=hmem m2 k2 h2
   rw [zFX _ _ hn1] at hb1
   rw [zFX _ _ hn2] at hb2
   exact hi.disj m1 m2 k01 k02 hk1 hk2 hne b hb1 hb2
 ·intro m k' hm
  rcases List.mem_cons.1 hm with e | hm
  ·cases e;rw [zBw,zBw];exact hk _ hD
  ·obtain ⟨hne,k0,hk0,hkk⟩:=hmem m k' hm
   rw [zFX _ _ hne,zFX _ _ hne]
   have hb:∀b,φ m b->w'.heap[b]? = w.heap[b]? := fun b hb=>hkeep b (hi.lt b ⟨m,k0,hk0,hb⟩).1 fun ⟨k1,hk1⟩ hn=>hi.disj m n k0 k1 hk0 hk1 hne b hb hn
   rcases hkk with ⟨rfl,hnb⟩ | ⟨ty,cells,cells',rfl,rfl,hc⟩
   ·exact BlkOk.next hD hb (hi.ok m k' hk0) fun ty cells e=>absurd e (hnb ty cells)
   ·obtain ⟨l1,l2⟩:=zJm (σ := σ) (w:=w) (D:=Dof X φ w S) (x:=hdr) hc
    rcases hi.ok m _ hk0 with hbk | hw
    rotate_left
    ·exact .inr (hw.kill hdr hc (fun p u hr=>hr.mono hD) (fun p u hr=>hr.mono hD) hb)
    obtain ⟨b,us,g1,g2,g3,⟨⟨fr,g4,g5⟩,g6⟩⟩:=hbk
    exact .inl ⟨b,us,g1,g2,by rw [g3,l1],⟨fr,(hb b ((g2 b).2 rfl)).trans g4,g5⟩,fun i c u hc hu=>(l2 (us:=us) g6 i c u hc hu).mono hD⟩
def zJI:PV->Option (List PV)
 | .agg cs=>some cs
 | .tup _=>none
 | .v x=>some [.v x]
 | .sl s f rows=>some [.sl s f rows]
 | .el r o=>some [.el r o]
 | .loc n o=>some [.loc n o]
 | .nloc n o=>some [.nloc n o]
 | .ela n s i o=>some [.ela n s i o]
 | .own n=>some [.own n]
 | .ownb n=>some [.ownb n]
 | .dat _=>none
 | .bsl _ _=>none
 | .sel _ _=>none
 | .err _=>none
 | .fn f a b=>some [.fn f a b]
 | .junk=>none
theorem zOr {x:Value} (h:flat x=true):x.cells = #[x]/\x.oneCell'=true:=by
 cases x<;>simp_all [flat,Value.cells,Value.oneCell']
theorem zGl {p:PV} {cs:List PV} {u:Value} (h:zJI p=some cs) (hr:R σ w D p u):∃us:List Value,u.cells=⟨us⟩/\us.length=cs.length/\∀(i:Nat) (c:PV) (x:Value),cs[i]? = some c->us[i]? = some x->R σ w D c x:=by
 have one:∀p0:PV,cs=[p0]->R σ w D p0 u->u.cells = #[u]->∃us:List Value,u.cells=⟨us⟩/\us.length=cs.length/\∀(i:Nat) (c:PV) (x:Value),cs[i]? = some c->us[i]? = some x->R σ w D c x:=by
  rintro p0 rfl hr0 hc
  refine ⟨[u],hc,rfl,fun i c x h1 h2=>?_⟩
  cases i with
  | zero=>simp at h1 h2;subst h1 h2;exact hr0
  | succ i=>simp at h1
 cases p<;>simp [zJI] at h
 case agg cs' =>
  subst h
  obtain ⟨us,rfl,h1,h2⟩:=hr.agg_inv
  exact ⟨us,rfl,h1.symm,h2⟩
 case v x=>obtain ⟨rfl,hf⟩:=hr.flat_inv;exact one _ h.symm hr (zOr hf).1
 case sl=>exact one _ h.symm hr (by cases hr with | d hd=>cases hd<;>rfl)
 case el=>exact one _ h.symm hr (by cases hr with | d hd=>cases hd<;>rfl)
 case nloc=>exact one _ h.symm hr (by cases hr with
  | nloc0=>rfl
  | nloc1 _=>rfl
  | d hd=>cases hd)
 case loc=>exact one _ h.symm hr (by cases hr with
  | loc=>rfl
  | d hd=>cases hd)
 case ela=>exact one _ h.symm hr (by cases hr with
  | ela=>rfl
  | d hd=>cases hd)
 case own n=>exact one _ h.symm hr (by
  have key:∀x:Value,zLE x=true->x.cells = #[x]:=fun x hx=>by cases x<;>simp_all [zLE,Value.cells]
  cases hr with
  | own h1=>exact key _ h1
  | d hd=>cases hd)
 case ownb n=>exact one _ h.symm hr (by
  have key:∀x:Value,zFj x=true->x.cells = #[x]:=fun x hx=>by cases x<;>simp_all [zFj,Value.cells]
  cases hr with
  | ownb h1=>exact key _ h1
  | d hd=>cases hd)
 case fn=>exact one _ h.symm hr (by cases hr with
  | fn=>rfl
  | d hd=>cases hd)
theorem Fr.alloc {w0:World} {X0:Nat->Prop} (h:Fr w0 X0 w) (o:Obj):Fr w0 X0 (w.alloc o) :=
 ⟨h.os,h.tape,h.output,by have:=h.size;simp;omega,fun b hb hx=>(by
  have hs:=h.size
  rw [<- h.block b hb hx]
  show (w.heap.push o)[b]? = _
  rw [Array.getElem?_push,if_neg (by omega)])⟩
theorem Fr.drew {w0:World} {X0:Nat->Prop} (h:Fr w0 X0 w):Fr w0 X0 w.drew:=⟨h.os,h.tape,h.output,h.size,h.block⟩
theorem zGy (w:World) (o:Obj) {b:Nat} (h:b<w.heap.size):(w.alloc o).heap[b]? = w.heap[b]? := by
 show (w.heap.push o)[b]? = _
 rw [Array.getElem?_push,if_neg (by omega)]
theorem zE2 (w:World) (o:Obj):(w.alloc o).heap[w.heap.size]? = some o:=by
 show (w.heap.push o)[w.heap.size]? = _
 simp
section
variable {ρ : Type} {G:Ctx ρ} {m:Option ρ} {K:List (Kont ρ)}
def zEX (G:Ctx ρ) (n:Nat):Bool := !(G.N0.any (Nat.beq n))
theorem Pre'.lay {a:Act} {w:World} (h:Pre' G E S a w σ φ) {n:Nat} {E':Env} {S':Store} (hn:zEX G n=true) (hE:zE3 n E=some E') (hS:zEc n S=some S') {hdr:Value} {fp:Nat->Prop} {w':World} {k:Blk}
  (hsz:w.heap.size<=w'.heap.size) (hfp:∀b,fp b->b<w'.heap.size/\(w.heap.size<=b\/((∃k0,(n,k0)∈S) /\ φ n b)))
  (hkeep:∀b,b<w.heap.size->((∃k0,(n,k0)∈S)->¬φ n b)->w'.heap[b]? = w.heap[b]?) (hos:w'.os=w.os) (htape:w'.tape=w.tape) (hout:w'.output=w.output)
  (hk:∀D',(∀b,Dof G.X φ w S b->D' b/\w'.heap[b]? = w.heap[b]?)->BlkOk (upd σ n hdr) w' D' hdr fp k):Pre' G E' ((n,k)::S') a w' (upd σ n hdr) (upd φ n fp):=by
 obtain ⟨h1,h2⟩:=h.inv.lay hS hsz hfp hkeep hk
 refine ⟨h.dk fun b hb hf=>hkeep b hb fun ⟨k0,hk0⟩ hx=>hf ⟨n,k0,hk0,hx⟩,h.size,fun t p ht=>?_,h1,?_,fun m hm=>?_,fun b hb hlt=>?_⟩
 ·obtain ⟨u,hu,hr⟩:=zTV (x:=hdr) hE h.env t p ht
  exact ⟨u,hu,hr.mono h2⟩
 ·refine ⟨hos.trans h.fr.os,htape.trans h.fr.tape,hout.trans h.fr.output,by have:=h.fr.size;omega,fun b hb hx=>?_⟩
  have hs:=h.fr.size
  rw [<- h.fr.block b hb hx]
  exact hkeep b (by omega) fun ⟨k0,hk0⟩ hf=>hx (h.new b ⟨n,k0,hk0,hf⟩ hb)
 ·have hne:m≠n:=fun e=>by
   subst e
   unfold zEX at hn
   rw [Bool.not_eq_true'] at hn
   rw [List.any_eq_false] at hn
   exact hn m hm (by simp)
  rw [zFX _ _ hne];exact h.agree m hm
 ·obtain ⟨m,k',hm,hf⟩:=hb
  have hs:=h.fr.size
  rcases List.mem_cons.1 hm with e | hm
  ·cases e
   rw [zBw] at hf
   rcases (hfp b hf).2 with h3 | ⟨⟨k0,h3⟩,h4⟩
   ·omega
   ·exact h.new b ⟨n,k0,h3,h4⟩ hlt
  ·obtain ⟨hne,k0,hk0,_⟩:=zHQ hS m k' hm
   rw [zFX _ _ hne] at hf
   exact h.new b ⟨m,k0,hk0,hf⟩ hlt
theorem Pre'.new_ {a:Act} {w:World} (h:Pre' G E S a w σ φ) {n:Nat} {E':Env} {S':Store} (hn:zEX G n=true) (hE:zE3 n E=some E') (hS:zEc n S=some S') {hdr:Value} {o:Obj} {k:Blk}
  (hk:∀D',(∀b,Dof G.X φ w S b->D' b/\(w.alloc o).heap[b]? = w.heap[b]?)->BlkOk (upd σ n hdr) (w.alloc o) D' hdr (fun b=>b=w.heap.size) k) :
  Pre' G E' ((n,k)::S') a (w.alloc o) (upd σ n hdr) (upd φ n fun b=>b=w.heap.size) :=
 h.lay hn hE hS (by simp) (fun b hb=>⟨by simp [hb],.inl (by omega)⟩) (fun b hb _=>zGy w o hb) rfl rfl rfl hk
theorem zQd {n:Nat} {E':Env} {S':Store} {cs cs':List PV} {a:Act} {w:World} (h:Pre' G E S a w σ φ) (hn:zEX G n=true) (hE:zE3 n E=some E') (hS:zEc n S=some S') (hc:zGz n cs=some cs')
  {us:List Value} {elem:TypeId} (hl:us.length=cs.length) (hr:∀(i:Nat) (c:PV) (x:Value),cs[i]? = some c->us[i]? = some x->R σ w (Dof G.X φ w S) c x) {d:Nat} (hd:d<G.fn.ntmps) :
  Pre G ((d,.loc n 0)::E') ((n,.box elem cs')::S') (a.put (some d) (.pointer (some ⟨w.heap.size,0,none⟩))) (w.alloc (.cells ⟨us⟩ elem)):=by
 refine ⟨_,_,(h.new_ (hdr:=.pointer (some ⟨w.heap.size,0,none⟩)) (o:=.cells ⟨us⟩ elem) (k:=.box elem cs') hn hE hS fun D' hD=>?_).put hd (.loc (by rw [zBw];rfl))⟩
 obtain ⟨l1,l2⟩:=zJm (σ := σ) (w:=w) (D:=Dof G.X φ w S) (x:=.pointer (some ⟨w.heap.size,0,none⟩)) hc
 exact .inl ⟨w.heap.size,us,rfl,fun x=>Iff.rfl,by rw [hl,l1],⟨(0,0),zE2 w _,fun h=>absurd h (by simp)⟩,fun i c u hc hu=>(l2 hr i c u hc hu).mono hD⟩
theorem zDl {all:Array Oper} {o:Oper} {rest:List Oper} (n:Nat) {elem:TypeId} {x:Operand} {p:PV} {cs cs':List PV} {d:Nat} {E':Env} {S':Store} (ho:o.op=.box elem x) (hg:gE all E o=some true) (hx:ev E x=some p)
  (hcs:zJI p=some cs) (hd:o.dst=some d) (hlt:Nat.blt d G.fn.ntmps=true) (hn:zEX G n=true) (hE:zE3 n E=some E') (hS:zEc n S=some S') (hc:zGz n cs=some cs')
  (k:PO G m all rest K ((d,.loc n 0)::E') ((n,.box elem cs')::S')):PO G m all (o::rest) K E S:=by
 refine zFV hg fun r hr a w ⟨σ,φ,hp⟩=>?_
 obtain ⟨us,h1,h2,h3⟩:=zGl hcs (zBI hp.env hx)
 have hrun:(execOp a.eval o).run G.P w=.ok (.value (.pointer (some ⟨w.heap.size,0,none⟩))) (w.alloc (.cells ⟨us⟩ elem)):=by
  simp [execOp,ho,Instr.box,newVar,newRow,h1]
 unfold Oper.wp
 rw [hrun,Oper.upon_value,hd]
 exact k r hr _ _ (zQd hp hn hE hS hc h2 h3 (zCB hlt))
def zeroE (T:Tab P) (t:TypeId):Option (List PV) :=
 match lku T.zeros t with
 | some z=>go z.cells.toList
 | none=>none
where go:List Value->Option (List PV)
 | []=>some []
 | x::l=>match flat x,go l with
  | true,some ps=>some (.v x::ps)
  | _,_=>none
end
end
end Go.Pw
