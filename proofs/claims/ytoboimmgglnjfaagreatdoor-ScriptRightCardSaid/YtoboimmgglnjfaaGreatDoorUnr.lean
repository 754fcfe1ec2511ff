/- Loops of few rounds, walked round by round; slices of pointers to cells of a block of ours. No program is named here. -/
import Derived.Test.YtoboimmgglnjfaaGreatDoorBld
namespace Go.Pw
open Go
section
variable {ρ : Type} {G:Ctx ρ} {m:Option ρ} {K:List (Kont ρ)} {E:Env} {S:Store} {all:Array Oper}
def Rnd (G:Ctx ρ) (body:Code) (K:List (Kont ρ)) (k:Nat) (r : ρ) (a:Act) (w:World):Prop:=Code.roundsIn (FR G.ro) 0 G.P body (kwp G r K) k a w
theorem zGq {body:Code} (k:Nat) (h:PW G m body (.iter (Rnd G body K k)::K) E S):PW G m (.loop body) K E S:=by
 intro r hr a w hp
 refine wpIn_loop_rounds (k+1) ?_
 refine wpIn_mono (h r hr a w hp) fun e a' w' q=>?_
 cases e with
 | normal=>exact q
 | _=>exact q
theorem zBM {body:Code} (k:Nat) (h:PW G m body (.iter (Rnd G body K k)::K) E S):PN G m (.iter (Rnd G body K (k+1))::K) E S:=by
 intro r hr a w hp
 refine wpIn_mono (h r hr a w hp) fun e a' w' q=>?_
 cases e with
 | normal=>exact q
 | _=>exact q
theorem zRs {m':Option ρ} (h:m=m') (k:PN G m' K E S):PN G m K E S:=by rw [h];exact k
theorem zA2 {T:Tab G.P} {o:Oper} {rest:List Oper} {kk:IntKind} {n:Int} {d:Nat} (y:Int) (hg:gE all E o=some true) (h:zKs T E o.op=some (kk,n)) (hd:o.dst=some d)
  (hlt:Nat.blt d G.fn.ntmps=true) (hy:rng kk n=some y) (k:PO G m all rest K ((d,.v (.int kk y))::E) S):PO G m all (o::rest) K E S :=
 zEi hg (fun _ _ _ _=>zI1 (T:=T) h hy) hd hlt (by have e:=(zPV hy).1;subst e;exact k)
def zRe (E:Env):Nat->List (Nat×Operand)->Option (List PV)
 | _,[]=>some []
 | k,(i,x)::l=>bif Nat.beq i k then (match ev E x with
  | some (.loc n off)=>(match zRe E (k+1) l with
   | some ps=>some (.loc n off::ps)
   | none=>none)
  | _=>none) else none
theorem zMk {σ : Nat->Value} {w:World} {D:Nat->Prop} {a:Act} (hE:InvE σ w D E a.tmps):∀{l:List (Nat×Operand)} {k:Nat} {cs:List PV} {us:List Value},zRe E k l=some cs->us.length=k+cs.length ->
  ∃us':List Value,Instr.fill (fun i=>some (i*1,1)) ⟨us⟩ (l.map fun (i,x)=>(i,a.eval x))=some ⟨us'⟩/\us'.length=us.length/\(∀i,i<k->us'[i]? = us[i]?) /\
   ∀(i:Nat) (c:PV) (x:Value),cs[i]? = some c->us'[k+i]? = some x->R σ w D c x
 | [],k,cs,us,h,_=>by
  simp [zRe] at h;subst h
  exact ⟨us,rfl,rfl,fun _ _=>rfl,by simp⟩
 | (i,x)::l,k,cs,us,h,hl=>by
  simp only [zRe] at h
  cases hik:Nat.beq i k<;>simp only [hik,cond_true,cond_false] at h
  ·simp at h
  have hik:=Nat.eq_of_beq_eq_true hik
  subst hik
  split at h<;>try simp at h
  rename_i n off hp
  split at h<;>simp at h
  rename_i ps hps
  subst h
  simp only [List.length_cons] at hl
  have hr:=zBI hE hp
  obtain ⟨v,hv⟩:∃v,v=a.eval x:=⟨_,rfl⟩
  rw [<- hv] at hr
  have hcell:v.cells = #[v]:=by
   cases hr with
   | loc hs=>rfl
   | d hd=>cases hd
  obtain ⟨us',e1,e2,e3,e4⟩:=zMk hE (k:=i+1) (us:=us.set i v) hps (by simp;omega)
  refine ⟨us',?_,by rw [e2];simp,fun j hj=>?_,fun j c u hc hu=>?_⟩
  ·simp only [List.map_cons,Instr.fill,<- hv,hcell]
   rw [if_neg (by simp;omega)]
   have hz:((#[v]:Array Value).zipIdx).foldl (fun cs (x:Value×Nat)=>cs.setIfInBounds (i*1+x.2) x.1) (⟨us⟩:Array Value)=⟨us.set i v⟩:=by
    rw [<- Array.foldl_toList,Array.toList_zipIdx]
    simp
   rw [hz]
   exact e1
  ·rw [e3 j (by omega),List.getElem?_set_ne (by omega)]
  ·cases j with
   | zero =>
    simp at hc;subst hc
    rw [Nat.add_zero,e3 i (by omega),List.getElem?_set_self (by omega)] at hu
    cases hu
    exact hr
   | succ j=>exact e4 j c u (by simpa using hc) (by rw [<- hu];congr 1;omega)
theorem zS4 {n:Nat} {E':Env} {S':Store} {cs cs':List PV} {a:Act} {w:World} {σ : Nat->Value} {φ : Nat->Nat->Prop} (h:Pre' G E S a w σ φ) (hn:zEX G n=true) (hE:zE3 n E=some E') (hS:zEc n S=some S') (hc:zGz n cs=some cs')
  {us:List Value} {elem:TypeId} (hl:us.length=cs.length) (hr:∀(i:Nat) (c:PV) (x:Value),cs[i]? = some c->us[i]? = some x->R σ w (Dof G.X φ w S) c x) {d len:Nat} (hd:d<G.fn.ntmps) :
  Pre G ((d,.bsl n len)::E') ((n,.box elem cs')::S') (a.put (some d) (.slice (some ⟨w.heap.size,0,none⟩) len len)) (w.alloc (.cells ⟨us⟩ elem)):=by
 refine ⟨_,_,(h.new_ (hdr:=.pointer (some ⟨w.heap.size,0,none⟩)) (o:=.cells ⟨us⟩ elem) (k:=.box elem cs') hn hE hS fun D' hD=>?_).put hd (.bsl (by rw [zBw];rfl))⟩
 obtain ⟨l1,l2⟩:=zJm (σ := σ) (w:=w) (D:=Dof G.X φ w S) (x:=.pointer (some ⟨w.heap.size,0,none⟩)) hc
 exact .inl ⟨w.heap.size,us,rfl,fun x=>Iff.rfl,by rw [hl,l1],⟨(0,0),zE2 w _,by simp⟩,fun i c u h1 h2=>(l2 hr i c u h1 h2).mono hD⟩
theorem zRy {T:Tab G.P} {o:Oper} {rest:List Oper} (n:Nat) {t e by_ len:Nat} {parts:Array (Nat×Operand)} {cs cs':List PV} {z:Value} {d:Nat} {E':Env} {S':Store} (ho:o.op=.buildSlice t len parts) (hg:gE all E o=some true)
  (ht:lku T.els t=some (e,1,by_)) (hz:lku T.zeros e=some z) (hr:zRe E 0 parts.toList=some cs) (hlen:len=cs.length) (hpos:Nat.ble 1 len=true) (hln:Nat.ble len 10000=true) (hd:o.dst=some d) (hlt:Nat.blt d G.fn.ntmps=true) (hn:zEX G n=true)
  (hE:zE3 n E=some E') (hS:zEc n S=some S') (hc:zGz n cs=some cs') (k:PO G m all rest K ((d,.bsl n len)::E') ((n,.box e cs')::S')):PO G m all (o::rest) K E S:=by
 refine zFV hg fun r hrm a w ⟨σ,φ,hp⟩=>?_
 obtain ⟨hel,inf,hinf,hsz,hby⟩:=zC2 (T.hels _ (zA6 ht))
 have hz':=T.hzeros _ (zA6 hz)
 simp only [hinf,Option.bind_some] at hz'
 have h1:=Nat.le_of_ble_eq_true hpos
 obtain ⟨zero,hzero⟩:∃zero:Array Value,zero=z.cells:=⟨_,rfl⟩
 obtain ⟨us',f1,f2,_,f4⟩:=zMk hp.env (k:=0) (us:=((Array.range (len*1)).map (zero[· % zero.size]!)).toList) hr (by simp [hlen])
 have hsm':¬(len*1>2 ^ 24):=by have:=Nat.le_of_ble_eq_true hln;omega
 have hlen':us'.length=cs.length:=by rw [f2];simp [hlen]
 have hrun:(execOp a.eval o).run G.P w=.ok (.value (.slice (some ⟨w.heap.size,0,none⟩) len len)) (w.alloc (.cells ⟨us'⟩ e)):=by
  have hf:Instr.fill (fun i=>some (i*1,1)) ((Array.range (len*1)).map (zero[· % zero.size]!)) (parts.map fun (i,x)=>(i,a.eval x)).toList=some ⟨us'⟩:=by
   have e1:(parts.map fun (i,x)=>(i,a.eval x)).toList=parts.toList.map fun (i,x)=>(i,a.eval x):=by simp
   rw [e1];exact f1
  have hsz0:(sizeOf e).run G.P w=.ok 1 w:=by simp [sizeOf,typeInfo,hinf,hsz]
  simp only [execOp,ho,Instr.buildSlice,Sem.run_bind,run_underlying hel,Result.andThen_ok,hsz0]
  rw [if_neg hsm']
  have hfin:∀zs:Array Value,zero=zs->(match Instr.fill (fun i=>some (i*1,1)) ((Array.range (len*1)).map (zs[· % zs.size]!)) (parts.map fun (x:Nat×Operand)=>(x.1,a.eval x.2)).toList with
    | some cells=>(do
     let __do_lift <- newRow e cells
     pure (Value.slice (some __do_lift) len len):Sem Value)
    | _ => stuck "buildSlice: a part of the wrong size").run G.P w = .ok (.slice (some ⟨w.heap.size, 0, none⟩) len len) (w.alloc (.cells ⟨us'⟩ e)) := by
   rintro zs rfl
   rw [hf]
   simp [newRow]
  rw [if_neg (by omega)]
  have hzv:(zeroValue e).run G.P w=.ok z w:=by simp [zeroValue,typeInfo,hinf,hz']
  simp only [Sem.run_bind,Sem.run_pure,hzv,Result.andThen_ok]
  exact (congrArg (fun x=>Result.andThen x fun a w'=>Result.ok (Next.value a) w') (hfin _ hzero)).trans rfl
 unfold Oper.wp
 rw [hrun,Oper.upon_value,hd]
 exact k r hrm _ _ (zS4 hp hn hE hS hc hlen' (fun i c x h1 h2=>f4 i c x h1 (by rw [Nat.zero_add];exact h2)) (zCB hlt))
theorem zEJ {T:Tab G.P} {o:Oper} {rest:List Oper} {t:TypeId} {x ix:Operand} {n e by_ len i:Nat} {kk:IntKind} {d:Nat}
  (ho:o.op=.indexAddr t x ix) (hg:gE all E o=some true) (hx:ev E x=some (.bsl n len)) (hi:ev E ix=some (.v (.int kk (i:Nat)))) (ht:lku T.els t=some (e,1,by_)) (hlen:Nat.blt i len=true)
  (hd:o.dst=some d) (hlt:Nat.blt d G.fn.ntmps=true) (k:PO G m all rest K ((d,.loc n i)::E) S):PO G m all (o::rest) K E S:=by
 refine zFV hg fun r hr a w ⟨σ,φ,hp⟩=>?_
 obtain ⟨hel,inf,hinf,hsz,_⟩:=zC2 (T.hels _ (zA6 ht))
 obtain ⟨hiv,_⟩:=(zBI hp.env hi).flat_inv
 have hxr:=zBI hp.env hx
 generalize hu:a.eval x=u at hxr
 have hl:=zCB hlen
 cases hxr with
 | d hd=>cases hd
 | @bsl _ _ b hs =>
  have h0:(0:Int)<=(i:Int):=by omega
  have hrun:(execOp a.eval o).run G.P w=.ok (.value (.pointer (some ⟨b,i,none⟩))) w:=by
   simp [execOp,ho,hu,hiv,Instr.indexAt,asIntOf,run_underlying hel,h0,sizeOf,typeInfo,hinf,hsz,Addr.add,hl]
   intro h;exact h.symm
  unfold Oper.wp
  rw [hrun,Oper.upon_value,hd]
  exact k r hr _ _ ⟨σ,φ,hp.put (zCB hlt) (.loc hs)⟩
end
end Go.Pw
