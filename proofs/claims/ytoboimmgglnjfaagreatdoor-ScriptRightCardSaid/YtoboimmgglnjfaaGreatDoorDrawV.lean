/- A region that draws its order, and whose operations may turn the call's own blocks: one walk in the text's order serves every order. No program is named here. -/
import Derived.Test.YtoboimmgglnjfaaGreatDoorMore
namespace Go.Pw
open Go
section
variable {ρ : Type} {G:Ctx ρ} {E:Env} {S:Store} {all:Array Oper}
theorem zQO {Sc Sr S2:Store} {N0 ks:List Nat} {σ : Nat->Value} {φ : Nat->Nat->Prop} {w w':World} {a:Act} (hp:Pre' G E S a w σ φ) (hSub:SubS Sc S) {X':Nat->Prop} (hX:∀b,X' b↔G.X b\/∃n k,(n,k)∈S/\n∉Sc.map (·.1) /\ φ n b)
  {σ':Nat->Value} {φ':Nat->Nat->Prop} (hi2:Inv X' σ' φ' w' Sr) (hfr:Fr w (foot φ Sc) w') (hag:∀n∈N0,σ' n = σ n) (hnew:∀b,foot φ' Sr b->b<w.heap.size->foot φ Sc b) (hSr:∀n k,(n,k)∈Sr->n∈N0++ks)
  (hSrc:∀(n:Nat) {ty:Nat} (cells:List PV),(n,Blk.box ty cells)∈Sr->∀(i:Nat) (c:PV),cells[i]? = some c->∀m∈names c,m∈N0++ks) (hS2:∀n k,(n,k)∈S2->n∉ks/\n∉Sc.map (·.1)/\∃k0,(n,k0)∈S/\Went ks k0 k) (hnd:((Sr++S2).map (·.1)).Nodup) (hfree:∀n∈ks,n∉G.N0) :
  ∃σ2 φ2,(∀n∈N0++ks,σ2 n = σ' n)/\(∀n,n∉ks -> σ2 n = σ n)/\(∀b,Dof G.X φ w S b->Dof G.X φ2 w' (Sr++S2) b/\w'.heap[b]? = w.heap[b]?)/\(∀b,Dof X' φ' w' Sr b->Dof G.X φ2 w' (Sr++S2) b) /\
   Inv G.X σ2 φ2 w' (Sr++S2)/\Fr G.w0 G.X0 w'/\(∀n∈G.N0,σ2 n=G.σ0 n)/\∀b,foot φ2 (Sr++S2) b->b<G.w0.heap.size->G.X0 b:=by
 have hin:∀{n:Nat},n∈N0++ks↔(N0++ks).any (Nat.beq n)=true:=any_beq.symm
 let σ2:Nat->Value:=fun m=>if (N0++ks).any (Nat.beq m) then σ' m else σ m
 let φ2:Nat->Nat->Prop:=fun m=>if (Sr.map (·.1)).any (Nat.beq m) then φ' m else φ m
 have hσi:∀n∈N0++ks,σ2 n = σ' n:=fun n hn=>if_pos (hin.1 hn)
 have hσk:∀n,n∉ks -> σ2 n = σ n:=fun n hn=>by
  by_cases h:n∈N0++ks
  ·rw [hσi n h]
   exact hag n ((List.mem_append.1 h).resolve_right hn)
  ·exact if_neg fun h'=>h (hin.2 h')
 have hφi:∀n k,(n,k)∈Sr -> φ2 n = φ' n:=fun n k hm=>if_pos (any_beq.2 (List.mem_map.2 ⟨_,hm,rfl⟩))
 have hnd':=hnd
 rw [List.map_append] at hnd'
 have hd12:=(List.nodup_append.1 hnd').2.2
 have hφo:∀n k,(n,k)∈S2 -> φ2 n = φ n:=fun n k hm=>if_neg fun h=>hd12 n (any_beq.1 h) n (List.mem_map.2 ⟨_,hm,rfl⟩) rfl
 have hfoot:∀b,foot φ2 (Sr++S2) b->foot φ' Sr b\/∃n k0,(n,k0)∈S/\n∉Sc.map (·.1) /\ φ n b:=fun b ⟨n,k,hm,hf⟩=>by
  rcases List.mem_append.1 hm with hm | hm
  ·rw [hφi n k hm] at hf;exact .inl ⟨n,k,hm,hf⟩
  ·rw [hφo n k hm] at hf
   obtain ⟨_,g2,k0,g3,_⟩:=hS2 n k hm
   exact .inr ⟨n,k0,g3,g2,hf⟩
 have hold:∀b,b<w.heap.size->¬foot φ Sc b->w'.heap[b]? = w.heap[b]? := hfr.block
 have hsz:=hfr.size
 have hD3:∀b,Dof G.X φ w S b->Dof G.X φ2 w' (Sr++S2) b/\w'.heap[b]? = w.heap[b]? := fun b ⟨a1,a2,a3⟩=>by
  have hnf:¬foot φ Sc b:=fun ⟨n,k,hm,hf⟩=>a3 n k (hSub.1 _ hm) hf
  refine ⟨⟨by omega,a2,fun n k hm hf=>?_⟩,hold b a1 hnf⟩
  rcases hfoot b ⟨n,k,hm,hf⟩ with g | ⟨n',k0,g1,_,g3⟩
  ·exact hnf (hnew b g a1)
  ·exact a3 n' k0 g1 g3
 have hDr:∀b,Dof X' φ' w' Sr b->Dof G.X φ2 w' (Sr++S2) b:=fun b ⟨a1,a2,a3⟩=>⟨a1,fun h=>a2 ((hX b).2 (.inl h)),fun n k hm hf=>by
  rcases hfoot b ⟨n,k,hm,hf⟩ with ⟨n',k',g1,g2⟩ | ⟨n',k0,g1,g2,g3⟩
  ·exact a3 n' k' g1 g2
  ·exact a2 ((hX b).2 (.inr ⟨n',k0,g1,g2,g3⟩))⟩
 refine ⟨σ2,φ2,hσi,hσk,hD3,hDr,?_,?_,fun n hn=>?_,fun b hf hlt=>?_⟩
 ·refine ⟨hnd,fun b hb=>by have:=hp.inv.xlt b hb;omega,fun b hf=>?_,fun n m k l hn hm hne b hf hf'=>?_,fun n k hm=>?_⟩
  ·rcases hfoot b hf with g | ⟨n,k0,g1,g2,g3⟩
   ·obtain ⟨g1,g2⟩:=hi2.lt b g;exact ⟨g1,fun h=>g2 ((hX b).2 (.inl h))⟩
   ·obtain ⟨g4,g5⟩:=hp.inv.lt b ⟨n,k0,g1,g3⟩;exact ⟨by omega,g5⟩
  ·rcases List.mem_append.1 hn with hn | hn<;>rcases List.mem_append.1 hm with hm | hm
   ·rw [hφi _ _ hn] at hf;rw [hφi _ _ hm] at hf';exact hi2.disj n m k l hn hm hne b hf hf'
   ·rw [hφi _ _ hn] at hf;rw [hφo _ _ hm] at hf'
    obtain ⟨_,g2,k0,g3,_⟩:=hS2 m l hm
    exact (hi2.lt b ⟨n,k,hn,hf⟩).2 ((hX b).2 (.inr ⟨m,k0,g3,g2,hf'⟩))
   ·rw [hφo _ _ hn] at hf;rw [hφi _ _ hm] at hf'
    obtain ⟨_,g2,k0,g3,_⟩:=hS2 n k hn
    exact (hi2.lt b ⟨m,l,hm,hf'⟩).2 ((hX b).2 (.inr ⟨n,k0,g3,g2,hf⟩))
   ·rw [hφo _ _ hn] at hf;rw [hφo _ _ hm] at hf'
    obtain ⟨_,_,k0,g3,_⟩:=hS2 n k hn
    obtain ⟨_,_,l0,g4,_⟩:=hS2 m l hm
    exact hp.inv.disj n m k0 l0 g3 g4 hne b hf hf'
  ·rcases List.mem_append.1 hm with hm | hm
   ·rw [hφi n k hm,hσi n (hSr n k hm)]
    refine BlkOk.next (fun b hb=>⟨hDr b hb,rfl⟩) (fun _ _=>rfl) (hi2.ok n k hm) fun _ cells e i c hc' m hmn=>hσi m ?_
    subst e
    exact hSrc n cells hm i c hc' m hmn
   ·obtain ⟨g1,g2,k0,g3,g4⟩:=hS2 n k hm
    rw [hφo n k hm,hσk n g1]
    refine BlkOk.went hD3 (fun b hf=>hold b (hp.inv.lt b ⟨n,k0,g3,hf⟩).1 fun ⟨n',k',hm',hf'⟩=>?_) (hp.inv.ok n k0 g3) g4 hσk
    have hne:n≠n':=fun e=>g2 (by rw [e];exact List.mem_map.2 ⟨_,hm',rfl⟩)
    exact hp.inv.disj n n' k0 k' g3 (hSub.1 _ hm') hne b hf hf'
 ·refine ⟨hfr.os.trans hp.fr.os,hfr.tape.trans hp.fr.tape,hfr.output.trans hp.fr.output,by have:=hp.fr.size;omega,fun b hb' hx=>?_⟩
  have:=hp.fr.size
  rw [hold b (by omega) fun ⟨n,k,hm,hf⟩=>hx (hp.new b ⟨n,k,hSub.1 _ hm,hf⟩ hb')]
  exact hp.fr.block b hb' hx
 ·rw [<- hp.agree n hn]
  exact hσk n fun hk=>hfree n hk hn
 ·have hsz0:=hp.fr.size
  rcases hfoot b hf with g | ⟨n,k0,g1,g2,g3⟩
  ·obtain ⟨n,k,hm,hf⟩:=hnew b g (by omega)
   exact hp.new b ⟨n,k,hSub.1 _ hm,hf⟩ hlt
  ·exact hp.new b ⟨n,k0,g1,g3⟩ hlt
theorem zTf {o:Oper} {J : ρ -> Act->World->Prop} {M:Option ρ} {y : ρ} (h:PO G M all [o] [.iter J] E S) (hy:M=some y) {a:Act} {w:World} (hp:Pre G E S a w) :
  if Region.wanted o (yielded all a.tmps) then ∀(Kn:Act->World->Prop) (Q:Exit->Act->World->Prop),(∀a' w',J y a' w'->Kn a' w')->o.wp G.P a w Kn Q else J y (a.put o.dst undef) w:=by
 have hh:=h y hy a w hp
 unfold wpList at hh
 by_cases hw:Region.wanted o (yielded all a.tmps)=true
 ·rw [if_pos hw] at hh ⊢
  intro Kn Q hK
  rcases hh with hh | ⟨_,a',w',hh⟩
  ·have h1:=Oper.wp_mono (K':=Kn) (fun a w hj=>hK a w hj) hh
   unfold Oper.wp Oper.upon at h1 ⊢
   split at h1<;>try exact h1
   ·refine h1.mono fun e w'' he=>?_
    split at he<;>try exact he
    ·exact absurd he zEG
    ·obtain ⟨a2,w2,h2⟩:=he;exact absurd h2 zCw
   ·exact absurd h1 zEG
  ·exact absurd hh zCw
 ·rw [if_neg hw] at hh ⊢
  exact hh
inductive Info where
 | pv (p:PV)
 | blk (b:Blk)
 | gone
abbrev Vw:=List (Nat×Info)
def PreV (G:Ctx ρ) (V:Vw) (a:Act) (w:World):Prop :=
 ∃σ φ S E,(∀n b,lku V (2*n+1)=some (.blk b)↔lkS S n=some b)/\(∀t p,lku V (2*t)=some (.pv p)↔lk E t=some p)/\Pre' G E S a w σ φ
theorem PreV.congr {V V':Vw} (h:∀key,lku V' key=lku V key) {a:Act} {w:World}:PreV G V a w->PreV G V' a w:=by
 rintro ⟨σ,φ,S,E,h1,h2,h3⟩
 exact ⟨σ,φ,S,E,fun n b=>by rw [h];exact h1 n b,fun t p=>by rw [h];exact h2 t p,h3⟩
def zLB:Info->List Nat
 | .pv p=>names p
 | .blk (.box _ cells)=>names.nameL cells
 | _=>[]
def zM3 (ks:List Nat) (i:Info):Bool:=(zLB i).any fun m=>ks.any (Nat.beq m)
def zFk (W:Vw):List (Nat×List Nat):=W.map fun x=>(x.1,zLB x.2)
structure Summ where
 reads:List Nat
 writes:List Nat
 ks:List Nat
 ment:List (Nat×List Nat)
def OpV (G:Ctx ρ) (all:Array Oper) (o:Oper) (sm:Summ) (W V:Vw):Prop :=
 ∀V':Vw,(∀key∈sm.reads,lku V' key=lku V key)->(∀key i,lku V' key=some i->zM3 sm.ks i=true->key∈sm.writes)->∀a w,PreV G V' a w ->
  if Region.wanted o (yielded all a.tmps) then ∀(Kn:Act->World->Prop) (Q:Exit->Act->World->Prop),(∀a' w',PreV G (W++V') a' w'->Kn a' w')->o.wp G.P a w Kn Q else PreV G (W++V') (a.put o.dst undef) w
def disj (l m:List Nat):Bool:=l.all fun x => !(m.any (Nat.beq x))
theorem zKI {l m:List Nat} (h:disj l m=true) {x:Nat} (h1:x∈l) (h2:x∈m):False:=by
 have:=List.all_eq_true.1 h x h1
 rw [any_beq.2 h2] at this;cases this
def zLj (ks:List Nat) (ment:List (Nat×List Nat)) (wr:List Nat):Bool:=ment.all fun x=>disj x.2 ks||wr.any (Nat.beq x.1)
def zRj (ks:List Nat) (ment:List (Nat×List Nat)):Bool:=ment.all fun x=>disj x.2 ks
theorem zO7 {ks:List Nat} {i:Info} (h:zM3 ks i=true):∃m,m∈zLB i/\m∈ks:=by
 obtain ⟨m,h1,h2⟩:=List.any_eq_true.1 h
 exact ⟨m,h1,any_beq.1 h2⟩
theorem zOj {ks wr:List Nat} {W:Vw} (h:zLj ks (zFk W) wr=true) {key:Nat} {i:Info} (hm:(key,i)∈W) (hi:zM3 ks i=true):key∈wr:=by
 have:=List.all_eq_true.1 h (key,zLB i) (List.mem_map.2 ⟨_,hm,rfl⟩)
 obtain ⟨m,h1,h2⟩:=zO7 hi
 simp only [Bool.or_eq_true] at this
 rcases this with h | h
 ·exact (zKI h h1 h2).elim
 ·exact any_beq.1 h
theorem zP9 {ks:List Nat} {W:Vw} (h:zRj ks (zFk W)=true) {key:Nat} {i:Info} (hm:(key,i)∈W) (hi:zM3 ks i=true):False:=by
 have:=List.all_eq_true.1 h (key,zLB i) (List.mem_map.2 ⟨_,hm,rfl⟩)
 obtain ⟨m,h1,h2⟩:=zO7 hi
 exact zKI this h1 h2
def zL2 (sm s:Summ):Bool:=disj s.writes sm.reads&&disj s.writes sm.writes&&disj sm.writes s.reads&&zRj s.ks sm.ment
def zLz (m:Nat) (sm:Summ):Nat->List Summ->Bool
 | _,[]=>true
 | i,s::l=>(zL2 sm s||m.testBit i)&&zLj sm.ks s.ment sm.writes&&zLz m sm (i+1) l
theorem zO9 {m:Nat} {sm:Summ}:∀{l:List Summ} {k i:Nat} {s:Summ},zLz m sm k l=true->l[i]? = some s->(zL2 sm s=true\/m.testBit (k+i)=true)/\zLj sm.ks s.ment sm.writes=true
 | [],_,_,_,_,h=>by simp at h
 | x::l,k,i,s,h,hi=>by
  simp only [zLz,Bool.and_eq_true,Bool.or_eq_true] at h
  cases i with
  | zero=>simp at hi;subst hi;exact ⟨h.1.1,h.1.2⟩
  | succ i=>have:=zO9 h.2 (i:=i) (by simpa using hi);rw [show k+(i+1)=k+1+i by omega];exact this
def zKW (ms:List Nat) (ment0:List (Nat×List Nat)) (j:Nat) (sm:Summ) (acc:List Summ):Bool:=zLz (ms.getD j 0) sm 0 acc&&zLj sm.ks ment0 sm.writes
def Lx (G:Ctx ρ) (all:Array Oper) (ms:List Nat) (ment0:List (Nat×List Nat)):List Oper->Nat->List Summ->Vw->(Vw->Prop)->Prop
 | [],_,_,V,Kf=>Kf V
 | o::rest,j,acc,V,Kf=>∃sm W,zKW ms ment0 j sm acc=true/\W.map (·.1)=sm.writes/\zFk W=sm.ment/\OpV G all o sm W V/\Lx G all ms ment0 rest (j+1) (acc++[sm]) (W++V) Kf
theorem zFK {α : Type} {V:List (Nat × α)} {key:Nat}:∀{W:List (Nat × α)},lku (W++V) key=match lku W key with
  | some i=>some i
  | none=>lku V key
 | []=>rfl
 | (k,x)::W=>by
  simp only [List.cons_append,lku]
  cases Nat.beq k key
  ·exact zFK
  ·rfl
theorem zIh {α : Type} {key:Nat}:∀{W:List (Nat × α)},key∉W.map (·.1)->lku W key=none
 | [],_=>rfl
 | (k,x)::W,h=>by
  simp only [List.map_cons,List.mem_cons,not_or] at h
  simp only [lku,zA5 (Ne.symm h.1),cond_false]
  exact zIh h.2
theorem zJq {α : Type} {key:Nat}:∀{W:List (Nat × α)},key∈W.map (·.1)->∃i,lku W key=some i
 | [],h=>by simp at h
 | (k,x)::W,h=>by
  simp only [lku]
  by_cases e:k=key
  ·subst e;exact ⟨x,by simp⟩
  ·simp only [zA5 e,cond_false]
   simp only [List.map_cons,List.mem_cons] at h
   exact zJq (h.resolve_left (Ne.symm e))
def selV:List (Summ×Vw)->(Nat->Bool)->Nat->Vw->Vw
 | [],_,_,V=>V
 | x::l,f,k,V=>selV l f (k+1) (bif f k then x.2++V else V)
theorem zKU {key:Nat}:∀{l:List (Summ×Vw)} {f g:Nat->Bool} {k:Nat} {V V':Vw},(∀(j:Nat) (x:Summ×Vw),l[j]? = some x->key∈x.2.map (·.1)->f (k+j)=g (k+j))->lku V key=lku V' key->lku (selV l f k V) key=lku (selV l g k V') key
 | [],_,_,_,_,_,_,h=>h
 | x::l,f,g,k,V,V',hfg,h=>by
  simp only [selV]
  refine zKU (l:=l) (k:=k+1) (fun j y hj hy=>by have:=hfg (j+1) y (by simpa using hj) hy;rw [show k+1+j=k+(j+1) by omega];exact this) ?_
  by_cases e:key∈x.2.map (·.1)
  ·have:=hfg 0 x rfl e
   simp only [Nat.add_zero] at this
   rw [this]
   cases g k
   ·exact h
   ·obtain ⟨i,hi⟩:=zJq e
    simp [zFK,hi]
  ·have one:∀(b:Bool) (V:Vw),lku (bif b then x.2++V else V) key=lku V key:=by
    intro b V
    cases b
    ·rfl
    ·simp [zFK,zIh e]
   rw [one,one,h]
theorem zHr:∀{l:List (Summ×Vw)} {k:Nat} {V:Vw},selV l (fun _=>false) k V=V
 | [],_,_=>rfl
 | x::l,k,V=>by simp only [selV,cond_false];exact zHr
theorem zNO {key:Nat} {y:Summ×Vw}:∀{l:List (Summ×Vw)} {f:Nat->Bool} {k i:Nat} {V:Vw},l[i]? = some y->key∈y.2.map (·.1)->f (k+i)=true->(∀(j:Nat) (x:Summ×Vw),i<j->l[j]? = some x->key∈x.2.map (·.1)->f (k+j)=false)->lku (selV l f k V) key=lku y.2 key
 | [],_,_,_,_,h,_,_,_=>by simp at h
 | x::l,f,k,i,V,h,hk,hf,hl=>by
  cases i with
  | zero =>
   simp at h;subst h
   simp only [Nat.add_zero] at hf
   simp only [selV,hf,cond_true]
   have:=zKU (key:=key) (l:=l) (f:=f) (g:=fun _=>false) (k:=k+1) (V:=x.2++V) (V':=x.2++V) (fun j z hj hz=>by
    have:=hl (j+1) z (by omega) (by simpa using hj) hz;rw [show k+1+j=k+(j+1) by omega];exact this) rfl
   rw [this,zHr,zFK]
   obtain ⟨i,hi⟩:=zJq hk
   rw [hi]
  | succ i =>
   simp only [selV]
   exact zNO (l:=l) (k:=k+1) (i:=i) (by simpa using h) hk (by rw [show k+1+i=k+(i+1) by omega];exact hf) fun j z hij hj hz=>by
    have:=hl (j+1) z (by omega) (by simpa using hj) hz;rw [show k+1+j=k+(j+1) by omega];exact this
theorem zNN {key:Nat} {i:Info}:∀{l:List (Summ×Vw)} {f:Nat->Bool} {k:Nat} {V:Vw},lku (selV l f k V) key=some i->(∃(j:Nat) (x:Summ×Vw),l[j]? = some x/\f (k+j)=true/\(key,i)∈x.2)\/lku V key=some i
 | [],_,_,_,h=>.inr h
 | x::l,f,k,V,h=>by
  simp only [selV] at h
  rcases zNN h with ⟨j,y,h1,h2,h3⟩ | h
  ·exact .inl ⟨j+1,y,by simpa using h1,by rw [show k+(j+1)=k+1+j by omega];exact h2,h3⟩
  ·cases hf:f k
   ·rw [hf] at h;exact .inr h
   ·rw [hf,cond_true,zFK] at h
    cases hx:lku x.2 key with
    | none=>rw [hx] at h;exact .inr h
    | some i' =>
     rw [hx] at h;cases h
     exact .inl ⟨0,x,rfl,hf,zA6 hx⟩
def zHO:Nat->List Oper->Bool
 | _,[]=>true
 | j,y::l=>y.after.toList.all (fun e => !Region.binds .any e||Nat.blt e.on j)&&zHO (j+1) l
theorem zI2:∀{l:List Oper} {k j:Nat} {y:Oper},zHO k l=true->l[j]? = some y->∀e∈y.after,Region.binds .any e=true->e.on<k+j
 | [],_,_,_,_,h=>by simp at h
 | z::l,k,j,y,h,hj=>by
  simp only [zHO,Bool.and_eq_true] at h
  intro e he hb
  cases j with
  | zero =>
   simp at hj;subst hj
   have:=List.all_eq_true.1 h.1 e (by simpa using he)
   rw [hb] at this
   simpa [Nat.blt_eq] using this
  | succ j=>have:=zI2 h.2 (j:=j) (by simpa using hj) e he hb;omega
theorem zQU {Q:Exit->Act->World->Prop} {V:Vw} (hok:zHO 0 all.toList=true) (ents:List (Summ×Vw)) (hlen:ents.length=all.size)
  (hd:∀(i:Nat) (o:Oper),all[i]? = some o->∃sm W,ents[i]? = some (sm,W)/\W.map (·.1)=sm.writes/\zFk W=sm.ment/\zKW (zGV all.toList []) (zFk V) i sm ((ents.take i).map (·.1))=true/\OpV G all o sm W (selV ents (fun j=>decide (j<i)) 0 V))
  (hQ:∀a w,PreV G (selV ents (fun _=>true) 0 V) a w->Q .normal a w):∀(fuel:Nat) (listed:Array Bool) (a:Act) (w:World),listed.size=all.size ->
   (∀(j:Nat) (y:Oper),all[j]? = some y->listed.getD j false=true->∀e∈y.after,Region.binds .any e=true->listed.getD e.on false=true) ->
   (List.range all.size).countP (fun j => !listed.getD j false)=fuel->PreV G (selV ents (fun j=>listed.getD j false) 0 V) a w->wpAny G.P .any all Q fuel listed a w:=by
 have inl:∀{i:Nat} {x:Summ×Vw},ents[i]? = some x->i<all.size:=fun h=>by rw [<- hlen];exact (List.getElem?_eq_some_iff.1 h).1
 have ahead:∀{j:Nat} {y:Oper},all[j]? = some y->∀e∈y.after,Region.binds .any e=true->e.on<j:=fun {j y} hj=>by
  have:=zI2 (k:=0) (j:=j) (y:=y) hok (by simpa using hj)
  simpa using this
 intro fuel
 have done_:∀(listed:Array Bool) (a:Act) (w:World),(∀j,j<all.size->listed.getD j false=true)->PreV G (selV ents (fun j=>listed.getD j false) 0 V) a w->Q .normal a w:=fun listed a w hall hp =>
  hQ a w (hp.congr fun key=>zKU (fun j x hj _=>by simp only [Nat.zero_add];exact (hall j (inl hj)).symm) rfl)
 have allDone:∀(listed:Array Bool),listed.size=all.size->Region.ready .any all listed=[]->∀j,j<all.size->listed.getD j false=true:=by
  intro listed hsz hr j
  induction j using Nat.strongRecOn with
  | _ j ih =>
   intro hj
   cases hl:listed.getD j false with
   | true=>rfl
   | false =>
    have:j∈Region.ready .any all listed:=by
     rw [mem_ready]
     refine ⟨?_,_,Array.getElem?_eq_getElem hj,fun e he hb=>?_⟩
     ·simp only [Array.getD_eq_getD_getElem?] at hl ⊢
      have:j<listed.size:=by omega
      simpa [this] using hl
     ·have hlt:=ahead (Array.getElem?_eq_getElem hj) e he hb
      exact ih e.on hlt (by omega)
    rw [hr] at this;cases this
 induction fuel with
 | zero =>
  intro listed a w hsz hcl hc hp
  have hall:∀j,j<all.size->listed.getD j false=true:=fun j hj=>by
   rw [List.countP_eq_zero] at hc
   simpa using hc j (by simpa using hj)
  refine ⟨?_,done_ listed a w hall hp⟩
  refine List.eq_nil_iff_forall_not_mem.2 fun j hj=>?_
  obtain ⟨h1,o,h2,_⟩:=mem_ready.1 hj
  have hlt:=(Array.getElem?_eq_some_iff.1 h2).1
  have:=hall j hlt
  simp only [Array.getD_eq_getD_getElem?] at this h1
  have hj':j<listed.size:=by omega
  simp [hj'] at this h1
  rw [this] at h1;cases h1
 | succ fuel ih =>
  intro listed a w hsz hcl hc hp
  refine ⟨fun hr=>done_ listed a w (allDone listed hsz hr) hp,fun i hi=>?_⟩
  obtain ⟨hun,o,ho,haft⟩:=mem_ready.1 hi
  have hilt:=(Array.getElem?_eq_some_iff.1 ho).1
  have hun':listed.getD i false=false:=by
   have hi':i<listed.size:=by omega
   simp only [Array.getD_eq_getD_getElem?] at hun ⊢
   simpa [hi'] using hun
  obtain ⟨sm,W,he,hw1,hw2,hst,hsem⟩:=hd i o ho
  have came:∀(j:Nat) (y:Oper),all[j]? = some y->(∀e∈y.after,Region.binds .any e=true->listed.getD e.on false=true)->∀k,((zGV all.toList []).getD j 0).testBit k=true->listed.getD k false=true:=by
   intro j
   induction j using Nat.strongRecOn with
   | _ j ihj =>
    intro y hy hya k hk
    obtain ⟨e,he,hb,h⟩:=zO6 (acc:=[]) (l:=all.toList) (j:=j) (o:=y) (by simpa using hy) (fun k x hx e he hb=>by
     have:=ahead (j:=k) (y:=x) (by simpa using hx) e he hb
     simpa using this) (by simpa using hk)
    have h1:=hya e he hb
    rcases h with rfl | h
    ·exact h1
    ·have hlt:=ahead hy e he hb
     have hjl:=(Array.getElem?_eq_some_iff.1 hy).1
     have hy2:all[e.on]? = some (all[e.on]'(by omega)):=Array.getElem?_eq_getElem (by omega)
     exact ihj e.on hlt _ hy2 (fun e' he' hb'=>hcl _ _ hy2 h1 e' he' hb') k h
  -- what the step of a later one says of an earlier one
  have two:∀(j1 j2:Nat) (x y:Summ×Vw),ents[j1]? = some x->ents[j2]? = some y->j1<j2->(zL2 y.1 x.1=true\/((zGV all.toList []).getD j2 0).testBit j1=true)/\zLj y.1.ks x.1.ment y.1.writes=true:=by
   intro j1 j2 x y hx hy hlt
   have hl2:=inl hy
   obtain ⟨sm2,W2,e2,_,_,s2,_⟩:=hd j2 _ (Array.getElem?_eq_getElem hl2)
   rw [hy] at e2;cases e2
   simp only [zKW,Bool.and_eq_true] at s2
   have:=zO9 (i:=j1) (s:=x.1) s2.1 (by rw [List.getElem?_map,List.getElem?_take,if_pos hlt,hx];rfl)
   simpa using this
  have cross0:zLj sm.ks (zFk V) sm.writes=true:=by
   simp only [zKW,Bool.and_eq_true] at hst;exact hst.2
  have entw:∀{j:Nat} {x:Summ×Vw},ents[j]? = some x->x.2.map (·.1)=x.1.writes/\zFk x.2=x.1.ment:=fun {j x} hx=>by
   obtain ⟨sm2,W2,e2,g1,g2,_⟩:=hd j _ (Array.getElem?_eq_getElem (inl hx))
   rw [hx] at e2;cases e2;exact ⟨g1,g2⟩
  -- one that is listed has all ahead of it by the zGV
  have listedAhead:∀{j:Nat},j<all.size->listed.getD j false=true->((zGV all.toList []).getD j 0).testBit i=true->False:=fun {j} hj hl hb=>by
   have hy:all[j]? = some (all[j]'hj):=Array.getElem?_eq_getElem hj
   have:=came j _ hy (fun e he hb'=>hcl j _ hy hl e he hb') i hb
   rw [hun'] at this;cases this
  have sees:∀key∈sm.reads,lku (selV ents (fun j=>listed.getD j false) 0 V) key=lku (selV ents (fun j=>decide (j<i)) 0 V) key:=by
   intro key hk
   refine zKU (fun j x hj hx=>?_) rfl
   simp only [Nat.zero_add]
   rw [(entw hj).1] at hx
   rcases Nat.lt_trichotomy j i with h | h | h
   ·rcases (two j i x _ hj he h).1 with hp | hb
    ·simp only [zL2,Bool.and_eq_true] at hp
     exact (zKI hp.1.1.1 hx hk).elim
    ·rw [came i o ho haft j hb];simpa using h
   ·subst h;rw [hun'];simp
   ·cases hl:listed.getD j false with
    | false=>simpa using Nat.le_of_lt h
    | true =>
     rcases (two i j _ x he hj h).1 with hp | hb
     ·simp only [zL2,Bool.and_eq_true] at hp
      exact (zKI hp.1.2 hx hk).elim
     ·exact (listedAhead (inl hj) hl hb).elim
  have clean:∀key inf,lku (selV ents (fun j=>listed.getD j false) 0 V) key=some inf->zM3 sm.ks inf=true->key∈sm.writes:=by
   intro key inf hk hm
   rcases zNN hk with ⟨j,x,hj,hl,hx⟩ | hk
   ·simp only [Nat.zero_add] at hl
    rcases Nat.lt_trichotomy j i with h | h | h
    ·have:=(two j i x _ hj he h).2
     rw [<- (entw hj).2] at this
     exact zOj this hx hm
    ·subst h;rw [hun'] at hl;cases hl
    ·rcases (two i j _ x he hj h).1 with hp | hb
     ·simp only [zL2,Bool.and_eq_true] at hp
      rw [<- (entw hj).2] at hp
      exact (zP9 hp.2 hx hm).elim
     ·exact (listedAhead (inl hj) hl hb).elim
   ·exact zOj cross0 (zA6 hk) hm
  have hs:=hsem _ sees clean a w hp
  have next:∀a' w',PreV G (W++selV ents (fun j=>listed.getD j false) 0 V) a' w'->wpAny G.P .any all Q fuel (listed.setIfInBounds i true) a' w':=by
   intro a' w' hq
   have gset:∀j,(listed.setIfInBounds i true).getD j false=if j=i then true else listed.getD j false:=by
    intro j
    simp only [Array.getD_eq_getD_getElem?,Array.getElem?_setIfInBounds]
    by_cases e:i=j
    ·subst e;simp [show i<listed.size by omega]
    ·rw [if_neg e,if_neg (Ne.symm e)]
   refine ih _ a' w' (by simpa using hsz) (fun j y hy hl e he hb=>?_) ?_ (hq.congr fun key=>?_)
   ·rw [gset] at hl ⊢
    by_cases e1:e.on=i
    ·rw [if_pos e1]
    ·rw [if_neg e1]
     by_cases e2:j=i
     ·subst e2;rw [ho] at hy;cases hy;exact haft e he hb
     ·rw [if_neg e2] at hl;exact hcl j y hy hl e he hb
   ·have h1:(List.range all.size).countP (fun j => !(listed.setIfInBounds i true).getD j false)+1=(List.range all.size).countP (fun j => !listed.getD j false):=by
     have gen:∀(l:List Nat),l.Nodup->i∈l->l.countP (fun j => !(listed.setIfInBounds i true).getD j false)+1=l.countP (fun j => !listed.getD j false):=by
      intro l
      induction l with
      | nil=>intro _ h;cases h
      | cons x l ihl =>
       intro hnd hm
       rw [List.nodup_cons] at hnd
       by_cases e:x=i
       ·subst e
        have h0:l.countP (fun j => !(listed.setIfInBounds x true).getD j false)=l.countP (fun j => !listed.getD j false):=List.countP_congr fun j hj=>by
         rw [gset,if_neg (fun (e:j=x)=>hnd.1 (by rw [<- e];exact hj))]
        rw [List.countP_cons,List.countP_cons,h0,gset,if_pos rfl,hun']
        simp
       ·have:=ihl hnd.2 (by rcases List.mem_cons.1 hm with h | h;exact absurd h.symm e;exact h)
        rw [List.countP_cons,List.countP_cons,gset,if_neg e]
        omega
     exact gen _ List.nodup_range (by simpa using hilt)
    omega
   ·by_cases hk:key∈W.map (·.1)
    ·rw [zNO (y:=(sm,W)) (f:=fun j=>(listed.setIfInBounds i true).getD j false) (k:=0) he hk (by simp only [Nat.zero_add];rw [gset,if_pos rfl]) fun j x hij hj hx=>by
      simp only [Nat.zero_add]
      rw [gset,if_neg (by omega)]
      cases hl:listed.getD j false with
      | false=>rfl
      | true =>
       rw [(entw hj).1] at hx
       rw [hw1] at hk
       rcases (two i j _ x he hj hij).1 with hp | hb
       ·simp only [zL2,Bool.and_eq_true] at hp
        exact (zKI hp.1.1.2 hk hx).elim
       ·exact (listedAhead (inl hj) hl hb).elim]
     obtain ⟨inf,hi⟩:=zJq hk
     rw [zFK,hi]
    ·rw [zFK,zIh hk]
     refine zKU (fun j x hj hx=>?_) rfl
     simp only [Nat.zero_add]
     rw [gset]
     by_cases e2:j=i
     ·subst e2;rw [he] at hj;cases hj;exact absurd hx hk
     ·rw [if_neg e2]
  unfold wpOp
  simp only [ho]
  by_cases hw:Region.wanted o (yielded all a.tmps)=true
  ·rw [if_pos hw] at hs ⊢
   exact .inl (hs _ _ next)
  ·rw [if_neg hw] at hs ⊢
   exact next _ _ hs
theorem zRg {ms:List Nat} {ment0:List (Nat×List Nat)}:∀{l:List Oper} {j:Nat} {acc:List Summ} {V:Vw} {Kf:Vw->Prop},Lx G all ms ment0 l j acc V Kf->∃ents:List (Summ×Vw),ents.length=l.length/\Kf (selV ents (fun _=>true) 0 V) /\
  ∀(i:Nat) (o:Oper),l[i]? = some o->∃sm W,ents[i]? = some (sm,W)/\W.map (·.1)=sm.writes/\zFk W=sm.ment/\zKW ms ment0 (j+i) sm (acc++(ents.take i).map (·.1))=true/\OpV G all o sm W (selV ents (fun k=>decide (k<i)) 0 V)
 | [],j,acc,V,Kf,h=>⟨[],rfl,h,fun i o h=>by simp at h⟩
 | o::l,j,acc,V,Kf,⟨sm,W,h1,h2,h3,h4,h5⟩=>by
  obtain ⟨ents,g1,g2,g3⟩:=zRg h5
  have shift:∀(l:List (Summ×Vw)) (f:Nat->Bool) (k:Nat) (V:Vw),selV l (fun j=>f (j+1)) k V=selV l f (k+1) V:=by
   intro l
   induction l with
   | nil=>intro f k V;rfl
   | cons x l ih=>intro f k V;simp only [selV];exact ih f (k+1) _
  refine ⟨(sm,W)::ents,by simp [g1],?_,fun i x hx=>?_⟩
  ·simp only [selV,cond_true]
   have:=shift ents (fun _=>true) 0 (W++V)
   rw [<- this];exact g2
  ·cases i with
   | zero =>
    simp at hx;subst hx
    refine ⟨sm,W,rfl,h2,h3,by simpa using h1,?_⟩
    have:selV ((sm,W)::ents) (fun j=>decide (j<0)) 0 V=V:=by
     have:(fun j:Nat=>decide (j<0))=fun _=>false:=by funext j;simp
     rw [this];exact zHr
    rw [this];exact h4
   | succ i =>
    obtain ⟨sm',W',e1,e2,e3,e4,e5⟩:=g3 i x (by simpa using hx)
    refine ⟨sm',W',by simpa using e1,e2,e3,?_,?_⟩
    ·rw [show j+(i+1)=j+1+i by omega]
     simpa [List.append_assoc] using e4
    ·have:selV ((sm,W)::ents) (fun j=>decide (j<i+1)) 0 V=selV ents (fun j=>decide (j<i)) 0 (W++V):=by
      simp only [selV]
      rw [<- shift ents (fun j=>decide (j<i+1)) 0]
      simp
     rw [this];exact e5
theorem zUO {id:Nat} {Q:Exit->Act->World->Prop} {V:Vw} (hm:G.P.follows .mixedOrders=true) (hok:zHO 0 all.toList=true) (hqp:∀c a w,¬Q (.panic c) a w) (hqo:∀a w,¬Q .outgrown a w) (hnd:all.toList.all (fun o=>zE4 o.op)=true) (h:Lx G all (zGV all.toList []) (zFk V) all.toList 0 [] V fun V'=>∀a w,PreV G V' a w->Q .normal a w)
  {a:Act} {w:World} (hp:PreV G V a w):(Code.region id all true).wpIn (FR G.ro) 0 G.P Q a w:=by
 obtain ⟨ents,h1,h2,h3⟩:=zRg h
 refine wpIn_region_any hm (zMX hqp hqo hnd<|zQU hok ents (by simpa using h1) (fun i o ho=>by simpa using h3 i o (by simpa using ho)) h2 _ _ _ _ (by simp) (fun j y hy hl=>?_) ?_ ?_)
 ·simp only [Array.getD_eq_getD_getElem?,Array.getElem?_replicate] at hl
  split at hl<;>simp at hl
 ·rw [List.countP_eq_length.2]
  ·simp
  ·intro j hj
   simp only [Array.getD_eq_getD_getElem?,Array.getElem?_replicate]
   split<;>simp
 ·obtain ⟨σ,φ,S,E,g1,g2,hp⟩:=hp
  have:(fun j=>(Array.replicate all.size false).getD j false)=fun _=>false:=by
   funext j
   simp only [Array.getD_eq_getD_getElem?,Array.getElem?_replicate]
   split<;>simp
  rw [this,zHr]
  exact ⟨σ,φ,S,E,g1,g2,{ hp with
   env:=fun t p ht=>let ⟨u,hu,hr⟩:=hp.env t p ht;⟨u,hu,R.mono (w:=w) (w':=w.drew) (D:=Dof G.X φ w S) (D':=Dof G.X φ w.drew S) (fun b hb=>⟨hb,rfl⟩) hr⟩
   inv:=⟨hp.inv.nodup,hp.inv.xlt,hp.inv.lt,hp.inv.disj,fun n k hm=>BlkOk.next (w:=w) (D:=Dof G.X φ w S) (fun b hb=>⟨hb,rfl⟩) (fun _ _=>rfl) (hp.inv.ok n k hm) fun _ _ _ _ _ _ _ _=>rfl⟩
   fr:=hp.fr.drew }⟩
end
end Go.Pw
