/- The rules by which a function's text is walked. No program is named here. -/
import Derived.Test.YtoboimmgglnjfaaGreatDoorOps
namespace Go.Pw
open Go
def cnd {α : Type} (b:Bool) (x y : α) : α := match b with
 | true=>x
 | false=>y
def bnd {α β : Type} (o:Option α) (f : α -> Option β):Option β := match o with
 | some x=>f x
 | none=>none
def lo:IntKind->Int
 | .i8 => -128 | .i16 => -32768 | .i32 => -2147483648 | .i64 => -9223372036854775808 | _=>0
def hi:IntKind->Int
 | .i8=>127 | .i16=>32767 | .i32=>2147483647 | .i64=>9223372036854775807
 | .u8=>255 | .u16=>65535 | .u32=>4294967295 | .u64=>18446744073709551615
def rng (k:IntKind) (n:Int):Option Int:=if lo k<=n/\n<=hi k then some n else none
theorem zPV {k:IntKind} {n x:Int} (h:rng k n=some x):x=n/\lo k<=n/\n<=hi k:=by
 unfold rng at h;split at h<;>simp at h;exact ⟨h.symm,by assumption⟩
theorem zSv {k:IntKind} {n:Int} (h:lo k<=n/\n<=hi k):k.wrap n=n:=by
 cases k<;>simp only [lo,hi] at h
 ·exact IntWalk.i8_in n h
 ·exact IntWalk.i16_in n h
 ·exact IntWalk.i32_in n h
 ·exact IntWalk.i64_in n h
 ·exact IntWalk.u8_in n h
 ·exact IntWalk.u16_in n h
 ·exact IntWalk.u32_in n h
 ·exact IntWalk.u64_in n h
def idx {α : Type} (l:List α) (i:Int):Option α := if 0<=i then l[i.toNat]? else none
theorem zRV {α β : Type} {l:List α} {i:Int} {x : α} (f : α -> β) (h:idx l i=some x):idx (l.map f) i=some (f x):=by
 unfold idx at *;split at h<;>simp_all
section
variable {ρ : Type} {G:Ctx ρ} {m:Option ρ} {K:List (Kont ρ)} {E:Env} {S:Store}
theorem zGD {α : Type} {o:Option α} {f : α -> Option ρ} {all:Array Oper} {ops:List Oper} (h:∀x,o=some x->PO G (f x) all ops K E S):PO G (bnd o f) all ops K E S:=by
 intro r hr
 cases o with
 | none=>simp [bnd] at hr
 | some x=>exact h x rfl r hr
def argE:Nat->List PV->Env
 | _,[]=>[]
 | n,p::l=>(n,p)::argE (n+1) l
theorem zU9 {l:List PV} {n t:Nat} {p:PV} (h:lk (argE n l) t=some p):n<=t/\l[t - n]? = some p:=by
 induction l generalizing n with
 | nil=>simp [argE,lk] at h
 | cons q l ih =>
  simp only [argE,lk] at h
  by_cases e:n=t
  ·subst e;simp at h;subst h;simp
  ·simp only [zA5 e,cond_false] at h
   obtain ⟨h1,h2⟩:=ih h
   refine ⟨by omega,?_⟩
   rw [show t - n=(t - (n+1))+1 by omega]
   simpa using h2
theorem zJi {L:World->Prop} {P:Program} {f:FuncId} {fn:Func} {c:Code} {args:List PV} {S:Store} {N0:List Nat} {post : ρ -> PV->Store->Prop} {m:Option ρ} {r : ρ} (hf:P.funcs[f]? = some fn) (hb:fn.body=some c)
  (hn:Nat.ble args.length fn.ntmps=true) (hr:m=some r) (h:∀w0 X X0 σ0 hl,PW ⟨P,fn,w0,X,X0,σ0,N0,post,w0.heap.size+1,L,hl,none⟩ m c [] (argE 0 args) S):FC L P f args S N0 (post r):=by
 intro X σ φ w us hlay hi ha
 have hn:=Nat.le_of_ble_eq_true hn
 refine (callsIn_wide (n:=1)).1 (callsIn_of_wp_marks hf hb trivial (zKn (n:=0) (wpIn_mono (Q:=kwp (⟨P,fn,w,X,foot φ S,σ,N0,post,w.heap.size+1,L,hlay,none⟩:Ctx ρ) r []) ?_ fun _ _ _ h=>zWK h)))
 refine h w X (foot φ S) σ hlay r hr _ w ⟨σ,φ,DOk.nil _ _,?_,fun t p ht=>?_,hi,Fr.refl _ _,fun n _=>rfl,fun b hb _=>hb⟩
 ·obtain ⟨h1,_⟩:=ha
  simp only [Array.size_append,Array.size_replicate]
  show us.length+(fn.ntmps - us.length)=fn.ntmps
  omega
 ·obtain ⟨_,h2⟩:=zU9 ht
  obtain ⟨h3,h4⟩:=ha
  have hlt:t<us.length:=by rw [<- h3];have:=(List.getElem?_eq_some_iff.1 h2).1;omega
  refine ⟨us[t],?_,h4 t p _ (by simpa using h2) (List.getElem?_eq_getElem hlt)⟩
  show ((⟨us⟩:Array Value)++_)[t]? = _
  rw [Array.getElem?_append_left (by simpa using hlt)]
  simp [List.getElem?_eq_getElem hlt]
def SubS (S' S:Store):Prop:=(∀x∈S',x∈S)/\(S'.map (·.1)).Nodup
theorem BlkOk.mono {σ : Nat->Value} {w:World} {D D':Nat->Prop} (h:∀b,D b->D' b) {hdr:Value} {fp:Nat->Prop} {k:Blk} (hk:BlkOk σ w D hdr fp k):BlkOk σ w D' hdr fp k:=by
 have hr:∀{p u},R σ w D p u->R σ w D' p u:=fun r=>r.mono fun b hb=>⟨h b hb,rfl⟩
 have hc:∀{b elem us cells},zNZ σ w D b elem us cells->zNZ σ w D' b elem us cells:=fun ⟨h1,h2⟩=>⟨h1,fun i c u hc hu=>hr (h2 i c u hc hu)⟩
 cases k with
 | box ty cells =>
  rcases hk with ⟨b,us,h1,h2,h3,h4⟩ | hw
  ·exact .inl ⟨b,us,h1,h2,h3,hc h4⟩
  ·exact .inr (hw.same (fun _ _ _ _ r=>hr r) (fun p u r=>r.mono fun b hb=>⟨h b hb,rfl⟩) fun _ _=>rfl)
 | arr elem size rows =>
  obtain ⟨h0,h⟩:=hk
  refine ⟨h0,?_⟩
  rcases h with h | ⟨b,us,cap,h1,h2,h3,h4,h5,h6⟩
  ·exact .inl h
  ·obtain ⟨h7,h8⟩:=h6
   exact .inr ⟨b,us,cap,h1,h2,h3,h4,h5,h7,fun i c u hc hu=>(h8 i c u hc hu).mono fun b hb=>⟨h b hb,rfl⟩⟩
 | siter s pos=>exact hk
 | tre e s kc ke rows=>exact TreOk.next (fun b hb=>⟨h b hb,rfl⟩) (fun _ _=>rfl) hk
 | mp kvs =>
  obtain ⟨b,es,cl,h1,h2,h3,h4,h5⟩:=hk
  exact ⟨b,es,cl,h1,h2,h3,h4,fun i e kv he hk=>⟨(h5 i e kv he hk).1,(h5 i e kv he hk).2.mono fun b hb=>⟨h b hb,rfl⟩⟩⟩
theorem Inv.sub {X:Nat->Prop} {σ : Nat->Value} {φ : Nat->Nat->Prop} {w:World} {S':Store} (hs:SubS S' S) (hi:Inv X σ φ w S):Inv X σ φ w S'/\(∀b,Dof X φ w S b->Dof X φ w S' b)/\∀b,foot φ S' b->foot φ S b:=by
 have hD:∀b,Dof X φ w S b->Dof X φ w S' b:=fun b ⟨h1,h2,h3⟩=>⟨h1,h2,fun n k h=>h3 n k (hs.1 _ h)⟩
 have hF:∀b,foot φ S' b->foot φ S b:=fun b ⟨n,k,h1,h2⟩=>⟨n,k,hs.1 _ h1,h2⟩
 exact ⟨⟨hs.2,hi.xlt,fun b hb=>hi.lt b (hF b hb),fun n m k l h1 h2=>hi.disj n m k l (hs.1 _ h1) (hs.1 _ h2),fun n k h=>(hi.ok n k (hs.1 _ h)).mono hD⟩,hD,hF⟩
theorem zFv {S':Store} {a:Act} {w:World} (hs:SubS S' S):Pre G E S a w->Pre G E S' a w:=by
 rintro ⟨σ,φ,h⟩
 obtain ⟨h1,h2,h3⟩:=h.inv.sub hs
 exact ⟨σ,φ,{ h with env:=fun t p ht=>let ⟨u,hu,hr⟩:=h.env t p ht;⟨u,hu,hr.mono fun b hb=>⟨h2 b hb,rfl⟩⟩,inv:=h1,new:=fun b hb=>h.new b (h3 b hb) }⟩
theorem zSC {S':Store} {c:Code} (hs:SubS S' S) (h:PW G m c K E S'):PW G m c K E S:=fun r hr a w hp=>h r hr a w (zFv hs hp)
theorem zRw {S':Store} (hs:SubS S' S) (h:PN G m K E S'):PN G m K E S:=fun r hr a w hp=>h r hr a w (zFv hs hp)
theorem RD.cells {w w':World} {D D':Nat->Prop} (hD:∀b,D b->D' b) (hc:∀a v,w.cell? a=some v->w'.cell? a=some v) {p:PV} {u:Value} (r:RD w D p u):RD w' D' p u:=by
 induction r with
 | v hx=>exact .v hx
 | err0=>exact .err0
 | err1=>exact .err1
 | agg hl _ ih=>exact .agg hl ih
 | tup hl _ ih=>exact .tup hl ih
 | nil h1 h2=>exact .nil h1 h2
 | sl f h1 h2 h3 hB h4 h5 _ ih=>exact .sl f h1 h2 h3 (hD _ hB) h4 (fun i row k c hr hk=>hc _ _ (h5 i row k c hr hk)) ih
 | el f hB h5 _ ih=>exact .el f (hD _ hB) (fun k c hk=>hc _ _ (h5 k c hk)) ih
theorem R.cells {σ : Nat->Value} {w w':World} {D D':Nat->Prop} (hD:∀b,D b->D' b) (hc:∀a v,w.cell? a=some v->w'.cell? a=some v) {p:PV} {u:Value} (r:R σ w D p u):R σ w' D' p u:=by
 induction r with
 | d hd=>exact .d (hd.cells hD hc)
 | loc hs=>exact .loc hs
 | nloc0=>exact .nloc0
 | nloc1 hs=>exact .nloc1 hs
 | ela hs=>exact .ela hs
 | own h1=>exact .own h1
 | ownb h1=>exact .ownb h1
 | dat h1=>exact .dat h1
 | bsl h1=>exact .bsl h1
 | sel h1 _ ih=>exact .sel h1 ih
 | junk=>exact .junk
 | fn h1 h2 _ _ i1 i2=>exact .fn h1 h2 i1 i2
 | agg hl _ ih=>exact .agg hl ih
 | tup hl _ ih=>exact .tup hl ih
theorem ArrOk.cells {w w':World} {D D':Nat->Prop} (hD:∀b,D b->D' b) (hc:∀a v,w.cell? a=some v->w'.cell? a=some v) {hdr:Value} {fp:Nat->Prop} {e size:Nat} {rows:List (List PV)} (hb:∀b,fp b->w'.heap[b]? = w.heap[b]?)
  (h:ArrOk w D hdr fp e size rows):ArrOk w' D' hdr fp e size rows:=by
 obtain ⟨h0,h⟩:=h
 refine ⟨h0,?_⟩
 rcases h with h | ⟨b,us,cap,h1,h2,h3,h4,h5,⟨fr,h6⟩,h7⟩
 ·exact .inl h
 ·exact .inr ⟨b,us,cap,h1,h2,h3,h4,h5,⟨fr,(hb b ((h2 b).2 rfl)).trans h6.1,h6.2⟩,fun i c u hc' hu=>(h7 i c u hc' hu).cells hD hc⟩
theorem TreOk.cells {w w':World} {D D':Nat->Prop} (hD:∀b,D b->D' b) (hc:∀a v,w.cell? a=some v->w'.cell? a=some v) {hdr:Value} {fp:Nat->Prop} {e size kc ke:Nat} {rows:List (List PV×Bool)} (hb:∀b,fp b->w'.heap[b]? = w.heap[b]?)
  (h:TreOk w D hdr fp e size kc ke rows):TreOk w' D' hdr fp e size kc ke rows:=by
 obtain ⟨h0,hkc,h⟩:=h
 refine ⟨h0,hkc,?_⟩
 rcases h with h | ⟨b,us,cap,Fs,h1,h2,h3,h4,h5,h6,h7,h8,h9⟩
 ·exact .inl h
 ·refine .inr ⟨b,us,cap,Fs,h1,h2,h3,h4,h5,h6,h7,(hb b ((h2 b).2 (.inl rfl))).trans h8,fun i r hr=>⟨(h9 i r hr).1,fun k c u hc' hu=>?_⟩⟩
  have hi:=(List.getElem?_eq_some_iff.1 hr).1
  obtain ⟨g1,g2⟩:=(h9 i r hr).2 k c u hc' hu
  refine ⟨fun ho=>?_,fun ho=>(g2 ho).imp id fun hd=>hd.cells hD hc⟩
  obtain ⟨ks,rws,e,ha⟩:=g1 ho
  exact ⟨ks,rws,e,ha.cells hD hc fun x hx=>hb x ((h2 x).2 (.inr ⟨i,hi,hx⟩))⟩
theorem BlkOk.cells {σ : Nat->Value} {w w':World} {D D':Nat->Prop} (hD:∀b,D b->D' b) (hc:∀a v,w.cell? a=some v->w'.cell? a=some v) {hdr:Value} {fp:Nat->Prop} (hb:∀b,fp b->w'.heap[b]? = w.heap[b]?) {k:Blk} (h:BlkOk σ w D hdr fp k):BlkOk σ w' D' hdr fp k:=by
 cases k with
 | box ty cells =>
  rcases h with h | hw
  rotate_left
  ·exact .inr (hw.same (fun _ _ _ _ r=>r.cells hD hc) (fun p u r=>r.cells hD hc) hb)
  obtain ⟨b,us,h1,h2,h3,⟨⟨fr,h4,h5⟩,h6⟩⟩:=h
  exact .inl ⟨b,us,h1,h2,h3,⟨fr,(hb b ((h2 b).2 rfl)).trans h4,h5⟩,fun i c u hc' hu=>(h6 i c u hc' hu).cells hD hc⟩
 | arr elem size rows =>
  obtain ⟨h0,h⟩:=h
  refine ⟨h0,?_⟩
  rcases h with h | ⟨b,us,cap,h1,h2,h3,h4,h5,⟨fr,h6⟩,h7⟩
  ·exact .inl h
  ·exact .inr ⟨b,us,cap,h1,h2,h3,h4,h5,⟨fr,(hb b ((h2 b).2 rfl)).trans h6.1,h6.2⟩,fun i c u hc' hu=>(h7 i c u hc' hu).cells hD hc⟩
 | siter s pos=>obtain ⟨b,h1,h2,h3⟩:=h;exact ⟨b,h1,h2,(hb b ((h2 b).2 rfl)).trans h3⟩
 | mp kvs=>obtain ⟨b,es,cl,h1,h2,h3,h4,h5⟩:=h;exact ⟨b,es,cl,h1,h2,(hb b ((h2 b).2 rfl)).trans h3,h4,fun i e kv he hk=>⟨(h5 i e kv he hk).1,(h5 i e kv he hk).2.cells hD hc⟩⟩
 | tre e s kc ke rows=>exact TreOk.cells hD hc hb h
theorem zJL {F:Fence} {n:Nat} {P:Program} {fn:Func} {tmps:Array Value}:∀(bs:List Nat) (w:World),bs.Nodup->(∀b∈bs,w.heap[b]? = some (.deferred (some []))) ->
  ∃w':World,(∀Q,LeavesIn F n P fn tmps Q [] .returning w'->LeavesInM F n P fn tmps Q (bs.map mark) .returning w)/\w'.heap.size=w.heap.size/\w'.os=w.os/\w'.tape=w.tape/\w'.output=w.output/\∀b,b∉bs->w'.heap[b]? = w.heap[b]?
 | [],w,_,_=>⟨w,fun _ h=>h,rfl,rfl,rfl,rfl,fun _ _=>rfl⟩
 | b::bs,w,hnd,h=>by
  obtain ⟨hb,hnd⟩:=List.nodup_cons.1 hnd
  have h0:=h b (by simp)
  have hot:∀c,c≠b->(w.putObj b (.deferred none)).heap[c]? = w.heap[c]? := fun c hc=>World.putObj_heap_other hc
  obtain ⟨w',g1,g2,g3,g4,g5,g6⟩:=zJL bs (w.putObj b (.deferred none)) hnd fun c hc=>by rw [hot c (fun e=>hb (e▸hc))];exact h c (by simp [hc])
  refine ⟨w',fun Q hl=>⟨by simp,.inl ⟨b,_,rfl,run_takeDeferred h0,g1 Q hl⟩⟩,g2.trans (by simp [World.putObj]),g3,g4,g5,fun c hc=>?_⟩
  simp only [List.mem_cons,not_or] at hc
  rw [g6 c hc.2,hot c hc.1]
theorem Pre'.shut {a:Act} {w:World} {σ : Nat->Value} {φ : Nat->Nat->Prop} (hp:Pre' G E S a w σ φ) (hz:G.dz=G.w0.heap.size+1):∃w',(∀Q,LeavesIn Fence.wide 1 G.P G.fn a.tmps Q [] .returning w'->LeavesInM Fence.wide 1 G.P G.fn a.tmps Q a.defers .returning w)/\Pre' G E S { a with defers:=[] } w' σ φ := by
 obtain ⟨bs,h1,h2,h3⟩:=hp.defers
 obtain ⟨w',g1,g2,g3,g4,g5,g6⟩:=zJL (F:=Fence.wide) (n:=1) (P:=G.P) (fn:=G.fn) (tmps:=a.tmps) bs w h2 fun b hb=>(h3 b hb).2
 have hc:∀ad v,w.cell? ad=some v->w'.cell? ad=some v:=fun ad v hv=>by
  have:ad.block∉bs:=fun hb=>by
   simp only [World.cell?,(h3 _ hb).2] at hv
   cases hv
  simp only [World.cell?,g6 _ this] at hv ⊢
  exact hv
 have hD:∀b,Dof G.X φ w S b->Dof G.X φ w' S b:=fun b ⟨a1,a2,a3⟩=>⟨by omega,a2,a3⟩
 have hfb:∀b,foot φ S b->b∉bs:=fun b hf hb=>by
  have:=hp.inv.plain hf
  rw [(h3 b hb).2] at this
  cases this
 refine ⟨w',fun Q hl=>by rw [h1];exact g1 Q hl,{ defers:=DOk.nil _ _,size:=hp.size,env:=fun t p ht=>let ⟨u,hu,hr⟩:=hp.env t p ht;⟨u,hu,hr.cells hD hc⟩,inv:=?_,fr:=?_,agree:=hp.agree,new:=hp.new }⟩
 ·exact ⟨hp.inv.nodup,fun b hb=>by have:=hp.inv.xlt b hb;omega,fun b hf=>⟨by have:=(hp.inv.lt b hf).1;omega,(hp.inv.lt b hf).2⟩,hp.inv.disj,fun n k hm=>(hp.inv.ok n k hm).cells hD hc fun b hf=>g6 b (hfb b ⟨n,k,hm,hf⟩)⟩
 ·refine ⟨g3.trans hp.fr.os,g4.trans hp.fr.tape,g5.trans hp.fr.output,by have:=hp.fr.size;omega,fun b hb hx=>?_⟩
  rw [g6 b fun hm=>by have:=(h3 b hm).1;omega]
  exact hp.fr.block b hb hx
theorem zV6 {r : ρ} {a:Act} {w:World} {p:PV} (hp:Pre G E S a w) (hpost:G.post r p S)
  (hz:G.dz=G.w0.heap.size+1) (hK:noL K=true) (hv:∀w σ D,InvE σ w D E a.tmps->∃u,(results G.fn a.tmps).run G.P w=.ok u w/\R σ w D p u):kwp G r K .ret a w:=by
 refine zKP hK ?_
 obtain ⟨σ,φ,h0⟩:=hp
 obtain ⟨w',hl,h⟩:=h0.shut hz
 obtain ⟨u,hu,hr⟩:=hv w' σ _ h.env
 exact hl _ ⟨u,hu,p,S,σ,φ,u,rfl,hpost,h.inv,hr,h.fr,h.agree,h.new⟩
theorem zSB {r : ρ} {t:Nat} {p:PV} {S':Store} (hs:SubS S' S) (hres:G.fn.results = #[.tmp t]) (hl:lk E t=some p) (hpost:G.post r p S') (hz:G.dz=G.w0.heap.size+1:=by rfl) (hK:noL K=true:=by rfl):PW G (some r) .ret K E S:=by
 intro r' hr a w hp
 cases hr
 refine wpIn_ret (zV6 (zFv hs hp) hpost hz hK fun _ σ D hE=>?_)
 obtain ⟨u,hu,hr⟩:=hE t p hl
 exact ⟨u,by rw [results_tmp hres,Array.getD_eq_getD_getElem?,hu];rfl,hr⟩
theorem zOH {t:Operand} {x y:Code} {b:Bool} (hl:ev E t=some (.v (.bool b))) (hx:b=true->PW G m x K E S) (hy:b=false->PW G m y K E S):PW G m (.cond t x y) K E S:=by
 intro r hr a w hp
 have hp':=hp
 obtain ⟨σ,φ,h⟩:=hp
 obtain ⟨h1,_⟩:=(zBI h.env hl).flat_inv
 exact wpIn_cond_split h1 (fun e=>hx e r hr a w hp') (fun e=>hy e r hr a w hp')
theorem zAH {t:Operand} {x y:Code} {b:Bool} {m1 m2:Option ρ} (hl:ev E t=some (.v (.bool b))) (hx:PW G m1 x K E S) (hy:PW G m2 y K E S):PW G (cnd b m1 m2) (.cond t x y) K E S :=
 zOH hl (fun e=>by subst e;exact hx) (fun e=>by subst e;exact hy)
def gE (all:Array Oper) (E:Env) (o:Oper):Option Bool :=
 match o.guard with
 | none=>some true
 | some (j,want)=>match nthE all.toList j with
  | some g=>(match g.dst with
   | some d=>(match lk E d with
    | some (.v (.bool true))=>some want
    | some (.v (.bool false))=>some !want
    | some (.tup [])=>some false
    | _=>none)
   | none=>none)
  | none=>none
theorem zNt {all:Array Oper} {o:Oper} {b:Bool} {σ : Nat->Value} {w:World} {D:Nat->Prop} {a:Act} (hE:InvE σ w D E a.tmps) (h:gE all E o=some b):Region.wanted o (yielded all a.tmps)=b:=by
 unfold gE at h
 unfold Region.wanted
 split at h
 ·rename_i hg;simp at h;subst h;simp [hg]
 ·rename_i j want hg
  simp only [hg]
  split at h<;>try simp at h
  rename_i g hj
  split at h<;>try simp at h
  rename_i d hd
  rw [zG0] at hj
  have hj':all[j]? = some g:=by simpa using hj
  have hy:∀u,a.tmps[d]? = some u->yielded all a.tmps j=(match u with | .bool b=>some b | _=>none):=by
   intro u hu
   simp only [yielded,hj',Option.bind_some,hd,hu]
   cases u<;>rfl
  split at h
  ·rename_i hl
   obtain ⟨u,hu,hr⟩:=hE d _ hl
   obtain ⟨rfl,_⟩:=hr.flat_inv
   rw [hy _ hu];simp at h;cases want<;>simp_all
  ·rename_i hl
   obtain ⟨u,hu,hr⟩:=hE d _ hl
   obtain ⟨rfl,_⟩:=hr.flat_inv
   rw [hy _ hu];simp at h;cases want<;>simp_all
  ·rename_i hl
   obtain ⟨u,hu,hr⟩:=hE d _ hl
   obtain ⟨us,rfl,_⟩:=hr.tup_inv
   rw [hy _ hu];simp at h;subst h;rfl
  ·simp at h
theorem InvE.put {σ : Nat->Value} {w:World} {D:Nat->Prop} {a:Act} (hE:InvE σ w D E a.tmps) {d:Nat} {p:PV} {u:Value} (hd:d<a.tmps.size) (hr:R σ w D p u):InvE σ w D ((d,p)::E) (a.put (some d) u).tmps:=by
 intro t q ht
 simp only [lk] at ht
 by_cases e:d=t
 ·subst e
  simp at ht;subst ht
  exact ⟨u,by simp [Act.put,hd],hr⟩
 ·simp only [zA5 e,cond_false] at ht
  obtain ⟨v,hv,hrv⟩:=hE t q ht
  exact ⟨v,by simp [Act.put,Array.getElem?_setIfInBounds_ne e,hv],hrv⟩
theorem Pre'.put {σ : Nat->Value} {φ : Nat->Nat->Prop} {w:World} {a:Act} (h:Pre' G E S a w σ φ) {d:Nat} {p:PV} {u:Value} (hd:d<G.fn.ntmps) (hr:R σ w (Dof G.X φ w S) p u):Pre' G ((d,p)::E) S (a.put (some d) u) w σ φ :=
 { h with
  defers:=h.defers
  size:=by simp [Act.put,h.size]
  env:=h.env.put (by rw [h.size];exact hd) hr }
theorem zFV {all:Array Oper} {o:Oper} {rest:List Oper} (hg:gE all E o=some true)
  (h:∀r,m=some r->∀a w,Pre G E S a w->o.wp G.P a w (wpList G.P all (kwp G r K) rest) (kwp G r K)):PO G m all (o::rest) K E S:=by
 intro r hr a w hp
 have hw:Region.wanted o (yielded all a.tmps)=true:=let ⟨σ,φ,hh⟩:=hp;zNt hh.env hg
 unfold wpList
 rw [if_pos hw]
 exact .inl (h r hr a w hp)
theorem zCB {a b:Nat} (h:Nat.blt a b=true):a<b:=by simpa [Nat.blt_eq] using h
theorem po_ev {T:Tab G.P} {all:Array Oper} {o:Oper} {rest:List Oper} {p:PV} {d:Nat} (hg:gE all E o=some true) (h:ev1 T E S o.op=some p) (hd:o.dst=some d) (hn:d<G.fn.ntmps)
  (k:PO G m all rest K ((d,p)::E) S):PO G m all (o::rest) K E S:=by
 refine zFV hg fun r hr a w ⟨σ,φ,hp⟩=>?_
 obtain ⟨u,hu,hru⟩:=zRB (T:=T) hp.inv hp.env h
 unfold Oper.wp
 rw [hu,Oper.upon_value,hd]
 exact k r hr _ _ ⟨σ,φ,hp.put hn hru⟩
theorem zVn {all:Array Oper} {o:Oper} {rest:List Oper} {d:Nat} (hg:gE all E o=some false) (hd:o.dst=some d) (hn:d<G.fn.ntmps)
  (k:PO G m all rest K ((d,.tup [])::E) S):PO G m all (o::rest) K E S:=by
 intro r hr a w ⟨σ,φ,hp⟩
 unfold wpList
 rw [if_neg (by rw [zNt hp.env hg];simp),hd]
 exact k r hr _ _ ⟨σ,φ,hp.put hn (.d (.tup rfl fun i c u h=>by simp at h))⟩
def evsK {P:Program} (T:Tab P) (N:Nat) (all:Array Oper) (S:Store):Nat->List Oper->Env->Option (List Oper×Env)
 | 0,ops,E=>some (ops,E)
 | _+1,[],_=>none
 | k+1,o::ops,E=>match o.dst with
  | some d=>bif Nat.blt d N then (match gE all E o with
   | some true=>(match ev1 T E S o.op with
    | some p=>evsK T N all S k ops ((d,p)::E)
    | none=>none)
   | some false=>evsK T N all S k ops ((d,.tup [])::E)
   | none=>none) else none
  | none=>none
theorem zDm {T:Tab G.P} {all:Array Oper} (k:Nat) {N:Nat} {ops rest:List Oper} {E':Env} (hN:N=G.fn.ntmps) (h:evsK T N all S k ops E=some (rest,E')) (hk:PO G m all rest K E' S):PO G m all ops K E S:=by
 subst hN
 induction k generalizing ops E with
 | zero=>simp [evsK] at h;obtain ⟨rfl,rfl⟩:=h;exact hk
 | succ k ih =>
  cases ops with
  | nil=>simp [evsK] at h
  | cons o ops =>
   simp only [evsK] at h
   split at h<;>try simp at h
   rename_i d hd
   cases hb:Nat.blt d G.fn.ntmps<;>simp only [hb,cond_true,cond_false] at h
   ·simp at h
   have hlt:d<G.fn.ntmps:=by simpa [Nat.blt_eq] using hb
   split at h<;>try simp at h
   ·split at h<;>try simp at h
    rename_i hg _ p hp
    exact po_ev hg hp hd hlt (ih h)
   ·rename_i hg
    exact zVn hg hd hlt (ih h)
end
end Go.Pw
