/- Ranges over slices.Backward. No program is named here. -/
import Derived.Test.YtoboimmgglnjfaaGreatDoorMapp
namespace Go.Pw
open Go
def opB (d:Nat) (op:Op) (t:TypeId) (pos:String) (after:Array Edge):Oper:={ dst:=some d,op,type:=t,pos,after,guard:=none }
def ed (n:Nat):Edge:={ on:=n,ground:=.data }
def ep (n:Nat):Edge:={ on:=n,ground:=.phase }
structure Has (N:Nat) (E:List (Nat×Value)) (a:Act):Prop where
 size:a.tmps.size=N
 defers:a.defers=[]
 has:∀t v,lku E t=some v->a.tmps[t]? = some v
theorem Has.eval {N:Nat} {E:List (Nat×Value)} {a:Act} (h:Has N E a) {t:Nat} {v:Value} (ht:lku E t=some v):a.eval (.tmp t)=v:=by
 have:=h.has t v ht
 simp only [Act.eval,Array.getD_eq_getD_getElem?,this,Option.getD_some]
theorem Has.put {N:Nat} {E:List (Nat×Value)} {a:Act} (h:Has N E a) {d:Nat} {v:Value} (hd:d<N):Has N ((d,v)::E) (a.put (some d) v):=by
 refine ⟨by simp [Act.put,h.size],h.defers,fun t u ht=>?_⟩
 simp only [lku] at ht
 simp only [Act.put]
 by_cases e:d=t
 ·subst e;simp at ht;subst ht;simp [h.size,hd]
 ·simp only [zA5 e,cond_false] at ht
  rw [Array.getElem?_setIfInBounds_ne e];exact h.has t u ht
theorem Has.inv {N:Nat} {E:List (Nat×Value)} {a:Act} (h:Has N E a) {σ : Nat->Value} {w:World} {D:Nat->Prop} {t:Nat} {v:Value} {p:PV} (ht:lku E t=some v) (hr:R σ w D p v):InvE σ w D [(t,p)] a.tmps:=by
 intro t' p' h'
 simp only [lk] at h'
 by_cases e:t=t'
 ·subst e;simp at h';subst h';exact ⟨v,h.has t v ht,hr⟩
 ·simp [zA5 e] at h'
theorem zKY {ro:Option Nat} {n N d:Nat} {P:Program} {all:Array Oper} {Q:Exit->Act->World->Prop} {op:Op} {t:TypeId} {ps:String} {af:Array Edge} {rest:List Oper} {a:Act} {w:World} {E:List (Nat×Value)} (v:Value)
  (h:Has N E a) (hrun:(execOp a.eval (opB d op t ps af)).run P w=.ok (.value v) w) (hlt:d<N) (hnd:zE4 op=true) (k:∀a',Has N ((d,v)::E) a'->wpListIn (FR ro) n P all Q rest a' w):wpListIn (FR ro) n P all Q (opB d op t ps af::rest) a w:=by
 refine wpListIn_plain rfl fun K hK=>⟨fun _ _=>trivial,?_⟩
 rw [Oper.semAt_eq _ _ _ (zHm hnd),hrun,Oper.uponIn_value]
 exact hK _ _ (k _ (h.put hlt))
theorem zTI {P:Program} {T:Tab P} {w:World} {σ : Nat->Value} {D:Nat->Prop} {o:Oper} {a:Act} {E:Env} {p:PV} (hD:∀b,D b->b<w.heap.size) (hE:InvE σ w D E a.tmps) (h:ev1 T E [] o.op=some p) :
  ∃u,(execOp a.eval o).run P w=.ok (.value u) w/\R σ w D p u:=by
 have hi:Inv (fun b=>b<w.heap.size/\¬D b) σ (fun _ _=>False) w [] :=
  ⟨by simp,fun _ h=>h.1,fun _ ⟨_,_,h,_⟩=>by simp at h,fun _ _ _ _ h=>by simp at h,fun _ _ h=>by simp at h⟩
 obtain ⟨u,h1,h2⟩:=zRB (T:=T) hi (fun t q hq=>let ⟨u,hu,hr⟩:=hE t q hq;⟨u,hu,hr.mono fun b hb=>⟨⟨hD b hb,fun h=>h.2 hb,fun _ _ h=>by simp at h⟩,rfl⟩⟩) h
 exact ⟨u,h1,h2.mono fun b hb=>⟨Classical.byContradiction fun hn=>hb.2.1 ⟨hb.1,hn⟩,rfl⟩⟩
section back
variable {P:Program} {T:Tab P} {g:FuncId} {fn:Func} {tS tE tI tB tF:TypeId} {α : Type} {enc : α -> List PV} {enc' : α -> PV} {e size by_:Nat} {full:Bool}
theorem run_load {tS:TypeId} {a:Act} {w:World} {u v:Value} {d:Nat} {x:Operand} {t:TypeId} {ps:String} {af:Array Edge} (hx:a.eval x=v) (h:(Instr.loadAt tS v).run P w=.ok u w):(execOp a.eval (opB d (.load tS x) t ps af)).run P w=.ok (.value u) w:=by
 simp [execOp,opB,hx,h]
theorem zPe {a:Act} {w:World} {v:Value} {d:Nat} {x:Operand} {t:TypeId} {ps:String} {af:Array Edge} (hx:a.eval x=v):(execOp a.eval (opB d (.move x) t ps af)).run P w=.ok (.value v) w:=by
 simp [execOp,opB,hx]
theorem zSf {a:Act} {w:World} {b:Bool} {d:Nat} {x:Operand} {tI t:TypeId} {ps:String} {af:Array Edge} (hx:a.eval x=.bool b):(execOp a.eval (opB d (.unOp .not tI x) t ps af)).run P w=.ok (.value (.bool !b)) w:=by
 simp [execOp,opB,hx,Op.unary]
theorem sl_len {w:World} {D:Nat->Prop} {u:Value} {rows:List (List PV)} (hr:RD w D (.sl size full rows) u):rows.length<=maxLen:=by
 cases hr with
 | nil=>exact Nat.zero_le _
 | sl f h1 h2=>exact Nat.le_trans h1 h2
theorem three {E:List (Nat×Value)} {t:Nat} {v x y z:Value} (h:lku [(0,x),(1,y),(3,z)] t=some v) (h0:lku E 0=some x:=by rfl) (h1:lku E 1=some y:=by rfl) (h3:lku E 3=some z:=by rfl):lku E t=some v:=by
 by_cases e0:t=0
 ·subst e0;exact h0.trans h
 by_cases e1:t=1
 ·subst e1;exact h1.trans h
 by_cases e3:t=3
 ·subst e3;exact h3.trans h
 simp only [lku,zA5 (Ne.symm e0),zA5 (Ne.symm e1),zA5 (Ne.symm e3),cond_false] at h
 cases h
end back
section stmt
variable {ρ : Type} {G:Ctx ρ}
theorem Pre'.over {N1:List Nat} {E:Env} {S S2:Store} {a:Act} {w w2:World} {σ σ2:Nat->Value} {φ φ2:Nat->Nat->Prop} (hp:Pre' G E S a w σ φ) (hi:Inv G.X σ2 φ2 w2 S2) (hfr:Fr w (foot φ S) w2)
  (hag:∀n∈N1,σ2 n = σ n) (hnew:∀b,foot φ2 S2 b->b<w.heap.size->foot φ S b) (hE:∀t p,lk E t=some p->∀n∈names p,n∈N1) (hN:∀n∈G.N0,n∈N1) :
  Pre' G E S2 a w2 σ2 φ2/\(∀b,Dof G.X φ w S b->Dof G.X φ2 w2 S2 b/\w2.heap[b]? = w.heap[b]?):=by
 have hD:∀b,Dof G.X φ w S b->Dof G.X φ2 w2 S2 b/\w2.heap[b]? = w.heap[b]? := fun b ⟨h1,h2,h3⟩=>by
  have hnf:¬foot φ S b:=fun ⟨n,k,hm,hf⟩=>h3 n k hm hf
  have:=hfr.size
  exact ⟨⟨by omega,h2,fun n k hm hf=>hnf (hnew b ⟨n,k,hm,hf⟩ h1)⟩,hfr.block b h1 hnf⟩
 refine ⟨⟨hp.dk fun b h1 h2=>hfr.block b h1 h2,hp.size,fun t p ht=>?_,hi,?_,fun n hn=>(hag n (hN n hn)).trans (hp.agree n hn),fun b hf hlt=>?_⟩,hD⟩
 ·obtain ⟨u,hu,hr⟩:=hp.env t p ht
  exact ⟨u,hu,(hr.mono hD).agree fun n hn=>hag n (hE t p ht n hn)⟩
 ·have:=hp.fr.size
  have:=hfr.size
  refine ⟨hfr.os.trans hp.fr.os,hfr.tape.trans hp.fr.tape,hfr.output.trans hp.fr.output,by omega,fun b hb hx=>?_⟩
  exact (hfr.block b (by omega) fun hf=>hx (hp.new b hf hb)).trans (hp.fr.block b hb hx)
 ·have:=hp.fr.size
  exact hp.new b (hnew b hf (by omega)) hlt
structure Turn (z:Nat) (ks:List Nat) (w w':World):Prop where
 os:w'.os=w.os
 tape:w'.tape=w.tape
 output:w'.output=w.output
 size:w.heap.size<=w'.heap.size
 old:∀b,b<w.heap.size->b∉ks->w'.heap[b]? = w.heap[b]?
 ks:∀b∈ks,z<=b/\b<w.heap.size/\∃r:Loop,w.heap[b]? = some (.loop r)
theorem Turn.keeps {z:Nat} {ks:List Nat} {w w':World} (ht:Turn z ks w w') {X:Nat->Prop} {σ : Nat->Value} {φ : Nat->Nat->Prop} {S:Store} (hi:Inv X σ φ w S) :
  Inv X σ φ w' S/\(∀p u,R σ w (Dof X φ w S) p u->R σ w' (Dof X φ w' S) p u)/\∀p u,RD w (Dof X φ w S) p u->RD w' (Dof X φ w' S) p u:=by
 have nc:∀b∈ks,zIl w.heap[b]? = false:=fun b hb=>by obtain ⟨_,_,r,h⟩:=ht.ks b hb;rw [h];rfl
 have hc:∀ad v,w.cell? ad=some v->w'.cell? ad=some v:=fun ad v hv=>by
  have hk:ad.block∉ks:=fun hk=>by obtain ⟨_,_,r,h⟩:=ht.ks _ hk;simp only [World.cell?,h] at hv;cases hv
  have hl:ad.block<w.heap.size:=Classical.byContradiction fun h=>by
   simp only [World.cell?,Array.getElem?_eq_none (Nat.le_of_not_lt h)] at hv;cases hv
  simp only [World.cell?,ht.old _ hl hk] at hv ⊢
  exact hv
 have hs:=ht.size
 have hD:∀b,Dof X φ w S b->Dof X φ w' S b:=fun b ⟨a1,a2,a3⟩=>⟨by omega,a2,a3⟩
 have hf:∀b,foot φ S b->w'.heap[b]? = w.heap[b]? := fun b hf=>by
  have h1:=hi.plain hf
  exact ht.old b (hi.lt b hf).1 fun hk=>by have:=nc b hk;unfold zIl at this;rw [this] at h1;cases h1
 exact ⟨⟨hi.nodup,fun b hb=>by have:=hi.xlt b hb;omega,fun b h=>⟨by have:=(hi.lt b h).1;omega,(hi.lt b h).2⟩,hi.disj,
   fun n k hm=>(hi.ok n k hm).cells hD hc fun b hb=>hf b ⟨n,k,hm,hb⟩⟩,fun p u hr=>hr.cells hD hc,fun p u hr=>hr.cells hD hc⟩
theorem Turn.marks {z y:Nat} {ks:List Nat} {w w':World} (ht:Turn z ks w w') {ds:List Deferred} (h:DOk y ds w):DOk y ds w':=by
 obtain ⟨bs,h1,h2,h3⟩:=h
 refine ⟨bs,h1,h2,fun b hb=>⟨(h3 b hb).1,?_⟩⟩
 rw [ht.old b (Array.getElem?_eq_some_iff.1 (h3 b hb).2).1 fun hk=>by obtain ⟨_,_,r,h⟩:=ht.ks b hk;rw [(h3 b hb).2] at h;cases h]
 exact (h3 b hb).2
theorem Pre'.tick {E:Env} {S:Store} {a:Act} {w w':World} {σ : Nat->Value} {φ : Nat->Nat->Prop} {ks:List Nat} (ht:Turn G.w0.heap.size ks w w') (hp:Pre' G E S a w σ φ) :
  Pre' G E S a w' σ φ := by
 obtain ⟨h1,h2,_⟩:=ht.keeps hp.inv
 refine ⟨ht.marks hp.defers,hp.size,fun t p h=>let ⟨u,hu,hr⟩:=hp.env t p h;⟨u,hu,h2 _ _ hr⟩,h1,?_,hp.agree,hp.new⟩
 have hs:=ht.size
 refine ⟨ht.os.trans hp.fr.os,ht.tape.trans hp.fr.tape,ht.output.trans hp.fr.output,by have:=hp.fr.size;omega,fun b hb hx=>?_⟩
 have:=hp.fr.size
 rw [ht.old b (by omega) fun hk=>by have:=(ht.ks b hk).1;omega]
 exact hp.fr.block b hb hx
theorem zFP {z l:Nat} {w:World} {r:Loop} {o:Obj} (hl:w.heap[l]? = some (.loop r)) (hz:z<=l):Turn z [l] w (w.putObj l o) :=
 ⟨rfl,rfl,rfl,by simp,fun b _ hb=>World.putObj_heap_other fun e=>hb (by simp [e]),fun b hb=>by
  simp only [List.mem_singleton] at hb;subst hb;exact ⟨hz,(Array.getElem?_eq_some_iff.1 hl).1,r,hl⟩⟩
theorem Pre'.unbar {X':Nat->Prop} {E:Env} {S:Store} {a:Act} {w:World} {σ : Nat->Value} {φ : Nat->Nat->Prop} (hX:∀b,G.X b->X' b) (hp:Pre' { G with X:=X' } E S a w σ φ):Pre' G E S a w σ φ := by
 have hD:∀b,Dof X' φ w S b->Dof G.X φ w S b:=fun b ⟨h1,h2,h3⟩=>⟨h1,fun h=>h2 (hX b h),h3⟩
 exact ⟨hp.defers,hp.size,fun t p h=>let ⟨u,hu,hr⟩:=hp.env t p h;⟨u,hu,hr.mono fun b hb=>⟨hD b hb,rfl⟩⟩,
  ⟨hp.inv.nodup,fun b hb=>hp.inv.xlt b (hX b hb),fun b hf=>⟨(hp.inv.lt b hf).1,fun h=>(hp.inv.lt b hf).2 (hX b h)⟩,hp.inv.disj,fun n k hm=>(hp.inv.ok n k hm).mono hD⟩,hp.fr,hp.agree,hp.new⟩
theorem zUn {σ : Nat->Value} {w:World} {D:Nat->Prop} {g n:Nat} {u:Value} (h:R σ w D (.fn (.func g) [] [.loc n 0]) u):∃b,hdrP (σ n)=some b/\u=.func (.func g) #[] #[.pointer (some ⟨b,0,none⟩)]:=by
 cases h with
 | d h=>cases h
 | fn h1 h2 h3 h4 =>
  rename_i us vs
  match us,vs,h1,h2,h4 with
  | [],[v],_,_,h4 =>
   have:=h4 0 _ _ rfl rfl
   cases this with
   | d h=>cases h
   | loc hs=>exact ⟨_,hs,rfl⟩
def zN5 (N1:List Nat) (E:Env):Bool:=E.all fun x=>(names x.2).all fun n=>N1.any (Nat.beq n)
theorem zLC {N1:List Nat} {E:Env} (h:zN5 N1 E=true) {t:Nat} {p:PV} (ht:lk E t=some p):∀n∈names p,n∈N1:=by
 have hm:(t,p)∈E:=by
  clear h
  induction E with
  | nil=>simp [lk] at ht
  | cons x E ih =>
   obtain ⟨k,q⟩:=x
   simp only [lk] at ht
   by_cases e:k=t
   ·subst e;simp at ht;subst ht;simp
   ·simp only [zA5 e,cond_false] at ht;exact List.mem_cons_of_mem _ (ih ht)
 have:=List.all_eq_true.1 h _ hm
 intro n hn
 exact any_beq.1 (List.all_eq_true.1 this n hn)
theorem zGj {w:World} {o:Obj} {b:Nat} (h:b<w.heap.size):(w.alloc o).heap[b]? = w.heap[b]? := by
 show (w.heap.push o)[b]? = _
 rw [Array.getElem?_push_lt h];simp [h]
end stmt
section
variable {ρ : Type} {G:Ctx ρ} {m:Option ρ} {K:List (Kont ρ)} {E:Env} {S:Store} {all:Array Oper}
end
end Go.Pw
