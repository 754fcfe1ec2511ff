/- The rules within a region that draws its order and turns blocks. No program is named here. -/
import Derived.Test.YtoboimmgglnjfaaGreatDoorDrawV
namespace Go.Pw
open Go
section
variable {ρ : Type} {G:Ctx ρ} {m:Option ρ} {K:List (Kont ρ)} {E:Env} {S:Store} {all:Array Oper}
theorem Oper.wp_rest {P:Program} {o:Oper} {a:Act} {w:World} {Kn:Act->World->Prop} {Q:Exit->Act->World->Prop} (h:o.wp P a w Kn Q):o.wp P a w (fun a' w'=>Kn a' w'/\∀t,o.dst≠some t->a'.tmps[t]? = a.tmps[t]?) Q:=by
 have hput:∀(v:Value) (t:Nat) (ds:List Deferred),o.dst≠some t->(({ tmps:=a.tmps,defers:=ds }:Act).put o.dst v).tmps[t]? = a.tmps[t]? := by
  intro v t ds ht
  cases hd:o.dst with
  | none=>rfl
  | some d=>simp [Act.put,Array.getElem?_setIfInBounds_ne (show d≠t from fun e=>ht (by rw [hd,e]))]
 unfold Oper.wp Oper.upon at h ⊢
 split at h<;>try exact h
 ·exact ⟨h,fun t ht=>hput _ t a.defers ht⟩
 ·exact ⟨h,fun t ht=>hput _ t a.defers ht⟩
 ·exact ⟨h,fun t ht=>hput _ t _ ht⟩
 ·refine h.mono fun e w'' he=>?_
  split at he<;>try exact he
  exact ⟨he,fun t ht=>hput _ t a.defers ht⟩
 ·refine h.mono fun v w'' he=>?_
  exact ⟨he,fun t ht=>hput _ t a.defers ht⟩
def zOQ:Env->Vw
 | []=>[]
 | (t,p)::E=>(2*t,.pv p)::zOQ E
def zOR:Store->Vw
 | []=>[]
 | (n,b)::S=>(2*n+1,.blk b)::zOR S
def zMp {α : Type}:List α -> Option (List α)
 | []=>some []
 | x::l=>match zMp l with
  | some l'=>some (x::l')
  | none=>none
theorem zMq {α : Type}:∀{l l':List α},zMp l=some l'->l'=l
 | [],l',h=>by simp [zMp] at h;exact h
 | x::l,l',h=>by
  simp only [zMp] at h
  split at h<;>simp at h
  rename_i l1 h1
  rw [<- h,zMq h1]
theorem zLW {t:Nat}:∀{E:Env},lku (zOQ E) (2*t)=(lk E t).map Info.pv
 | []=>rfl
 | (k,p)::E=>by
  simp only [zOQ,lku,lk]
  by_cases e:k=t
  ·subst e;simp
  ·rw [zA5 e,zA5 (show ¬2*k=2*t by omega)]
   exact zLW
theorem zNU {n:Nat}:∀{E:Env},lku (zOQ E) (2*n+1)=none
 | []=>rfl
 | (k,p)::E=>by
  simp only [zOQ,lku]
  rw [zA5 (show ¬2*k=2*n+1 by omega)]
  exact zNU
theorem zNV {n:Nat}:∀{S:Store},lku (zOR S) (2*n+1)=(lkS S n).map Info.blk
 | []=>rfl
 | (k,b)::S=>by
  simp only [zOR,lku,lkS]
  by_cases e:k=n
  ·subst e;simp
  ·rw [zA5 e,zA5 (show ¬2*k+1=2*n+1 by omega)]
   exact zNV
theorem zLX {t:Nat}:∀{S:Store},lku (zOR S) (2*t)=none
 | []=>rfl
 | (k,b)::S=>by
  simp only [zOR,lku]
  rw [zA5 (show ¬2*k+1=2*t by omega)]
  exact zLX
theorem zVo {a:Act} {w:World} (hp:Pre G E S a w):PreV G (zOQ E++zOR S) a w:=by
 obtain ⟨σ,φ,hp⟩:=hp
 refine ⟨σ,φ,S,E,fun n b=>?_,fun t p=>?_,hp⟩
 ·rw [zFK,zNU,zNV]
  cases lkS S n<;>simp
 ·rw [zFK,zLW]
  cases lk E t<;>simp [zLX]
def zNP:Vw->Option Env
 | []=>some []
 | (k,i)::V=>match zNP V with
  | some E=>(match k % 2,i with
   | 0,.pv p=>some ((k / 2,p)::E)
   | 1,_=>some E
   | _,_=>none)
  | none=>none
theorem zNQ:∀{V:Vw} {E:Env},zNP V=some E->∀t p,lk E t=some p->lku V (2*t)=some (.pv p)
 | [],E,h,t,p,hl=>by simp [zNP] at h;subst h;simp [lk] at hl
 | (k,i)::V,E,h,t,p,hl=>by
  simp only [zNP] at h
  split at h<;>try simp at h
  rename_i E1 h1
  have ih:=zNQ h1 t p
  simp only [lku]
  split at h
  ·rename_i hk
   simp at h;subst h
   simp only [lk] at hl
   by_cases e:k / 2=t
   ·rw [e] at hl;simp at hl;subst hl
    have:k=2*t:=by omega
    subst this;simp
   ·rw [zA5 e] at hl
    rw [zA5 (show ¬k=2*t by omega)]
    exact ih hl
  ·rename_i hk
   simp at h;subst h
   rw [zA5 (show ¬k=2*t by omega)]
   exact ih hl
  ·simp at h
def zPs:List Nat->Vw->Option Store
 | _,[]=>some []
 | seen,(k,i)::V=>match seen.any (Nat.beq k) with
  | true=>zPs seen V
  | false=>match zPs (k::seen) V with
   | some S=>(match k % 2,i with
    | 1,.blk b=>some ((k / 2,b)::S)
    | _,_=>some S)
   | none=>none
theorem zKC:∀{V:Vw} {seen:List Nat} {S:Store},zPs seen V=some S->(S.map (·.1)).Nodup/\∀n b,(n,b)∈S->(2*n+1)∉seen/\lku V (2*n+1)=some (.blk b)
 | [],seen,S,h=>by simp [zPs] at h;subst h;exact ⟨by simp,fun n b h=>by cases h⟩
 | (k,i)::V,seen,S,h=>by
  simp only [zPs] at h
  split at h
  ·rename_i hk
   obtain ⟨h1,h2⟩:=zKC h
   refine ⟨h1,fun n b hm=>?_⟩
   obtain ⟨h3,h4⟩:=h2 n b hm
   refine ⟨h3,?_⟩
   simp only [lku]
   rw [zA5 fun e=>h3 (by rw [<- e];exact any_beq.1 hk)]
   exact h4
  ·rename_i hk
   split at h<;>try simp at h
   rename_i S1 hs
   obtain ⟨h1,h2⟩:=zKC hs
   have old:∀n b,(n,b)∈S1->(2*n+1)∉seen/\lku ((k,i)::V) (2*n+1)=some (.blk b):=fun n b hm=>by
    obtain ⟨h3,h4⟩:=h2 n b hm
    simp only [List.mem_cons,not_or] at h3
    refine ⟨h3.2,?_⟩
    simp only [lku]
    rw [zA5 fun e=>h3.1 e.symm]
    exact h4
   split at h
   ·rename_i hk2
    simp at h;subst h
    refine ⟨?_,fun n b hm=>?_⟩
    ·simp only [List.map_cons,List.nodup_cons]
     refine ⟨fun hm=>?_,h1⟩
     obtain ⟨⟨n,b⟩,h3,h4⟩:=List.mem_map.1 hm
     simp only at h4
     have:=(h2 n b h3).1
     simp only [List.mem_cons,not_or] at this
     exact this.1 (by omega)
    ·rcases List.mem_cons.1 hm with e | hm
     ·cases e
      have:2*(k / 2)+1=k:=by omega
      rw [this]
      exact ⟨fun hs=>(by rw [any_beq.2 hs] at hk;cases hk),by simp [lku]⟩
     ·exact old n b hm
   ·simp at h;subst h
    exact ⟨h1,old⟩
def zI7 (ms:List Nat):List Oper->List Nat->Bool
 | [],[]=>true
 | o::l,m::r=>Nat.beq (zJO o ms) m&&zI7 ms l r
 | _,_=>false
theorem zP8 {ms pre r:List Nat} (e:ms=pre++r) {o:Oper} (h:∀e∈o.after,Region.binds .any e=true->e.on<pre.length):zJO o ms=zJO o pre:=by
 have key:∀(l:List Edge) (s:Nat),(∀e∈l,Region.binds .any e=true->e.on<pre.length)->l.foldl (fun s e=>if Region.binds .any e then s ||| 2 ^ e.on ||| ms.getD e.on 0 else s) s=l.foldl (fun s e=>if Region.binds .any e then s ||| 2 ^ e.on ||| pre.getD e.on 0 else s) s:=by
  intro l
  induction l with
  | nil=>intro s _;rfl
  | cons x l ih =>
   intro s hl
   simp only [List.foldl_cons]
   rw [ih _ fun e he=>hl e (List.mem_cons_of_mem _ he)]
   congr 1
   by_cases hb:Region.binds .any x=true
   ·have:=hl x (by simp) hb
    simp only [hb,if_true,List.getD_eq_getElem?_getD]
    rw [e,List.getElem?_append_left this]
   ·simp only [if_neg hb]
 exact key _ _ fun e he=>h e (by simpa using he)
theorem zLA {ms:List Nat}:∀{l:List Oper} {pre r:List Nat},ms=pre++r->zHO pre.length l=true->zI7 ms l r=true->zGV l pre=ms
 | [],pre,[],e,_,_=>by simp [zGV,e]
 | o::l,pre,m::r,e,hk,h=>by
  simp only [zI7,Bool.and_eq_true] at h
  have hm:=Nat.eq_of_beq_eq_true h.1
  rw [zP8 e fun x hx hb=>by simpa using zI2 (j:=0) hk rfl x hx hb] at hm
  simp only [zGV]
  rw [hm]
  exact zLA (pre:=pre++[m]) (by simp [e]) (by simp only [zHO,Bool.and_eq_true] at hk;simpa using hk.2) h.2
 | [],_,_::_,_,_,h=>by simp [zI7] at h
 | _::_,_,[],_,_,h=>by simp [zI7] at h
def zO8 (m:Nat) (sm:Summ):Nat->List Summ->Bool
 | _,[]=>true
 | 0,_::_=>false
 | i+1,s::l=>(m.testBit i||zL2 sm s)&&zLj sm.ks s.ment sm.writes&&zO8 m sm i l
theorem zLD {m:Nat} {sm s:Summ}:∀{l:List Summ} {k:Nat},zLz m sm k (l++[s])=(zLz m sm k l&&((zL2 sm s||m.testBit (k+l.length))&&zLj sm.ks s.ment sm.writes))
 | [],k=>by simp [zLz]
 | x::l,k=>by
  simp only [List.cons_append,zLz]
  rw [zLD (l:=l)]
  simp only [List.length_cons,Bool.and_assoc]
  rw [show k+1+l.length=k+(l.length+1) by omega]
theorem zM5 {m:Nat} {sm:Summ}:∀{l:List Summ},zO8 m sm l.length l=true->zLz m sm 0 l.reverse=true
 | [],_=>rfl
 | s::l,h=>by
  simp only [List.length_cons,zO8,Bool.and_eq_true] at h
  rw [List.reverse_cons,zLD,zM5 h.2]
  simp only [List.length_reverse,Nat.zero_add,Bool.true_and,Bool.and_eq_true,Bool.or_comm]
  exact ⟨by simpa [Bool.or_comm] using h.1.1,h.1.2⟩
def zIH (m:Nat) (ment0:List (Nat×List Nat)) (j:Nat) (sm:Summ) (acc:List Summ):Bool:=zO8 m sm j acc&&zLj sm.ks ment0 sm.writes
def PDV (G:Ctx ρ) (m:Option ρ) (all:Array Oper) (ms:List Nat) (ment0:List (Nat×List Nat)) (ops:List Oper) (j:Nat) (acc:List Summ) (V:Vw) (K:List (Kont ρ)):Prop :=
 acc.length=j->∀r,m=some r->Lx G all ms ment0 ops j acc.reverse V fun V'=>∀a w,PreV G V' a w->kwp G r K .normal a w
theorem zBB {id:Nat} {ops:List Oper} {V:Vw} {ment0:List (Nat×List Nat)} (ms:List Nat) (hm:G.P.follows .mixedOrders=true) (hok:zHO 0 ops=true) (hms:zI7 ms ops ms=true) (hV:zMp (zOQ E++zOR S)=some V) (h0:zFk V=ment0) (h:PDV G m ops.toArray ms ment0 ops 0 [] V K) (hd:ops.all (fun o=>zE4 o.op)=true:=by rfl):PW G m (.region id ops.toArray true) K E S:=by
 intro r hr a w hp
 have:=zMq hV
 subst this
 subst h0
 have e:zGV ops []=ms:=zLA (pre:=[]) (r:=ms) rfl hok hms
 have h':=h rfl r hr
 simp only [List.reverse_nil] at h'
 rw [<- e] at h'
 exact zUO hm (by simpa using hok) (fun _ _ _=>zEG) (fun _ _=>zCw) (by simpa using hd) (by simpa using h') (zVo hp)
theorem zBf {ms:List Nat} {ment0:List (Nat×List Nat)} {j:Nat} {acc:List Summ} {V:Vw} {E':Env} {S':Store} (hE:zNP V=some E') (hS:zPs [] V=some S') (h:PN G m K E' S'):PDV G m all ms ment0 [] j acc V K:=by
 intro _ r hr a w ⟨σ,φ,S,E,h1,h2,hp⟩
 obtain ⟨g1,g2⟩:=zKC hS
 have hsub:SubS S' S:=⟨fun x hx=>by
  obtain ⟨n,b⟩:=x
  exact zBN ((h1 n b).1 (g2 n b hx).2),g1⟩
 have:Pre G E S' a w:=zFv hsub ⟨σ,φ,hp⟩
 obtain ⟨σ,φ,hp⟩:=this
 exact h r hr a w ⟨σ,φ,{ hp with env:=fun t p ht=>hp.env t p ((h2 t p).1 (zNQ hE t p ht)) }⟩
def zKq (V:Vw):List Nat->Option Env
 | []=>some []
 | k::l=>match zKq V l with
  | some E=>(match k % 2,lku V k with
   | 0,some (.pv p)=>some ((k / 2,p)::E)
   | _,_=>some E)
  | none=>none
def zKr (V:Vw):List Nat->Option Store
 | []=>some []
 | k::l=>match zKr V l with
  | some S=>(match k % 2,lku V k with
   | 1,some (.blk b)=>some ((k / 2,b)::S)
   | _,_=>some S)
  | none=>none
theorem zPD {V:Vw}:∀{l:List Nat} {E:Env},zKq V l=some E->∀t p,lk E t=some p->2*t∈l/\lku V (2*t)=some (.pv p)
 | [],E,h,t,p,hl=>by simp [zKq] at h;subst h;simp [lk] at hl
 | k::l,E,h,t,p,hl=>by
  simp only [zKq] at h
  split at h<;>try simp at h
  rename_i E1 h1
  have ih:=zPD h1 t p
  split at h
  ·rename_i hk hv
   simp at h;subst h
   simp only [lk] at hl
   by_cases e:k / 2=t
   ·rw [e] at hl;simp at hl;subst hl
    have:k=2*t:=by omega
    subst this
    exact ⟨List.mem_cons_self ..,hv⟩
   ·rw [zA5 e] at hl
    exact ⟨List.mem_cons_of_mem _ (ih hl).1,(ih hl).2⟩
  ·simp at h;subst h
   exact ⟨List.mem_cons_of_mem _ (ih hl).1,(ih hl).2⟩
theorem zM8 {V:Vw}:∀{l:List Nat} {S:Store},zKr V l=some S->∀n b,(n,b)∈S->2*n+1∈l/\lku V (2*n+1)=some (.blk b)
 | [],S,h,n,b,hm=>by simp [zKr] at h;subst h;cases hm
 | k::l,S,h,n,b,hm=>by
  simp only [zKr] at h
  split at h<;>try simp at h
  rename_i S1 h1
  have ih:=zM8 h1 n b
  split at h
  ·rename_i hk hv
   simp at h;subst h
   rcases List.mem_cons.1 hm with e | hm
   ·cases e
    have:2*(k / 2)+1=k:=by omega
    rw [this]
    exact ⟨List.mem_cons_self ..,hv⟩
   ·exact ⟨List.mem_cons_of_mem _ (ih hm).1,(ih hm).2⟩
  ·simp at h;subst h
   exact ⟨List.mem_cons_of_mem _ (ih hm).1,(ih hm).2⟩
def zOy (E1:Env) (S1:Store) (k:Nat):Info:=match k % 2 with
 | 0=>(match lk E1 (k / 2) with
  | some p=>.pv p
  | none=>.pv .junk)
 | _=>(match lkS S1 (k / 2) with
  | some b=>.blk b
  | none=>.gone)
def wOf (E1:Env) (S1:Store):List Nat->Option Vw
 | []=>some []
 | k::l=>match wOf E1 S1 l with
  | some W=>(match zOy E1 S1 k with
   | .pv p=>some ((k,.pv p)::W)
   | .blk b=>some ((k,.blk b)::W)
   | .gone=>some ((k,.gone)::W))
  | none=>none
theorem zU3 {E1:Env} {S1:Store}:∀{l:List Nat} {W:Vw},wOf E1 S1 l=some W->W=l.map fun k=>(k,zOy E1 S1 k)
 | [],W,h=>by simp [wOf] at h;subst h;rfl
 | k::l,W,h=>by
  simp only [wOf] at h
  split at h<;>try simp at h
  rename_i W1 h1
  have ih:=zU3 h1
  subst ih
  rw [List.map_cons]
  split at h<;>simp at h<;>subst h<;>rename_i hi<;>rw [hi]
theorem zN2 {α : Type} {f:Nat -> α} {key:Nat}:∀{l:List Nat},key∈l->lku (l.map fun k=>(k,f k)) key=some (f key)
 | [],h=>by cases h
 | k::l,h=>by
  simp only [List.map_cons,lku]
  by_cases e:k=key
  ·subst e;simp
  ·rw [zA5 e]
   exact zN2 ((List.mem_cons.1 h).resolve_left (Ne.symm e))
theorem zRb {n:Nat} {B:Store}:∀{A:Store},lkS (A++B) n=match lkS A n with
  | some b=>some b
  | none=>lkS B n
 | []=>rfl
 | (k,b)::A=>by
  simp only [List.cons_append,lkS]
  cases Nat.beq k n
  ·exact zRb
  ·rfl
theorem zJp {n:Nat}:∀{A:Store},n∈A.map (·.1)->∃b,lkS A n=some b
 | [],h=>by simp at h
 | (k,b)::A,h=>by
  simp only [lkS]
  by_cases e:k=n
  ·subst e;exact ⟨b,by simp⟩
  ·rw [zA5 e]
   simp only [List.map_cons,List.mem_cons] at h
   exact zJp (h.resolve_left (Ne.symm e))
theorem zGn {n:Nat} {f:Nat->Bool}:∀{A:Store},lkS (A.filter fun x=>f x.1) n=if f n then lkS A n else none
 | []=>by simp [lkS]
 | (k,b)::A=>by
  simp only [List.filter_cons]
  by_cases e:k=n
  ·subst e
   cases hf:f k
   ·simp [zGn,hf]
   ·simp [lkS]
  ·cases hf:f k
   ·simp only [Bool.false_eq_true,if_false,lkS,zA5 e,cond_false];exact zGn
   ·simp only [if_true,lkS,zA5 e,cond_false];exact zGn
def wE (E1:Env):List Nat->Env
 | []=>[]
 | k::l=>bif Nat.beq (k % 2) 0 then (k / 2,(lk E1 (k / 2)).getD .junk)::wE E1 l else wE E1 l
theorem zUL {E1:Env} {E:Env} {t:Nat}:∀{l:List Nat},2*t∈l->lk (wE E1 l++E) t=some ((lk E1 t).getD .junk)
 | [],h=>by cases h
 | k::l,h=>by
  simp only [wE]
  by_cases hk:k % 2=0
  ·rw [hk]
   simp only [Nat.beq_refl,cond_true,List.cons_append,lk]
   by_cases e:k / 2=t
   ·rw [e];simp
   ·rw [zA5 e]
    exact zUL ((List.mem_cons.1 h).resolve_left (by omega))
  ·rw [zA5 hk]
   exact zUL ((List.mem_cons.1 h).resolve_left (by omega))
theorem zPl {E1:Env} {E:Env} {t:Nat}:∀{l:List Nat},2*t∉l->lk (wE E1 l++E) t=lk E t
 | [],_=>rfl
 | k::l,h=>by
  simp only [List.mem_cons,not_or] at h
  simp only [wE]
  by_cases hk:k % 2=0
  ·rw [hk]
   simp only [Nat.beq_refl,cond_true,List.cons_append,lk]
   rw [zA5 (show ¬k / 2=t by omega)]
   exact zPl h.2
  ·rw [zA5 hk]
   exact zPl h.2
def zJ2:List Nat->Store->Store->Prop
 | [],_,_=>True
 | n::l,S1,S0=>lkS S1 n=lkS S0 n/\zJ2 l S1 S0
theorem zLq {S1 S0:Store}:∀{l:List Nat},zJ2 l S1 S0->∀n∈l,lkS S1 n=lkS S0 n
 | [],_,n,h=>by cases h
 | a::l,hk,n,h=>by
  rcases List.mem_cons.1 h with e | h
  ·subst e;exact hk.1
  ·exact zLq hk.2 n h
def inW (writes:List Nat) (n:Nat):Bool:=writes.any (Nat.beq (2*n+1))
def zIM (G:Ctx ρ) (ks writes keep:List Nat) (S0:Store) (o:Oper):Bool :=
 zCV (S0.map (·.1))&&(S0.map (·.1)).all (fun n=>keep.any (Nat.beq n)||inW writes n)&&ks.all (fun n=>zEX G n&&inW writes n)&&writes.all (fun k=>Nat.beq (k % 2) 1||Nat.blt (k / 2) G.fn.ntmps) &&
 (match o.dst with
  | some d=>writes.any (Nat.beq (2*d))
  | none=>true)
def zG5 (N0 ks writes keep:List Nat) (E1:Env) (S1:Store):Bool :=
 (S1.map (·.1)).all (fun n=>keep.any (Nat.beq n)||inW writes n)&&subN (S1.map (·.1)) (N0++ks)&&zEC (N0++ks) S1&&zE1 (N0++ks) (E1.map (·.2))
theorem zRd {t:Nat} {p:PV}:∀{E:Env},lk E t=some p->p∈E.map (·.2)
 | [],h=>by simp [lk] at h
 | (k,q)::E,h=>by
  simp only [lk] at h
  cases hb:Nat.beq k t
  ·rw [hb] at h;simp only [List.map_cons];exact List.mem_cons_of_mem _ (zRd h)
  ·rw [hb] at h;simp at h;subst h;simp
theorem noMent {ks:List Nat} {l:List PV} (h:(names.nameL l).any (fun m=>ks.any (Nat.beq m))=false) {i:Nat} {c:PV} (hc:l[i]? = some c) {n:Nat} (hn:n∈ks):hasN n c=false:=by
 cases hh:hasN n c with
 | false=>rfl
 | true =>
  unfold hasN at hh
  obtain ⟨x,h1,h2⟩:=List.any_eq_true.1 hh
  have:=Nat.eq_of_beq_eq_true h2
  subst this
  rw [List.any_eq_false] at h
  exact absurd (any_beq.2 hn) (h n (zEH hc h1))
theorem zPE {α : Type} {M:Option α} {g : α -> Option ρ} {ms:List Nat} {ment0:List (Nat×List Nat)} {o:Oper} {rest:List Oper} {j:Nat} {acc:List Summ} {V:Vw} (reads writes ks N0 keep:List Nat) (E1 : α -> Env) (S1 : α -> Store) {E0:Env} {S0:Store} {W : α -> Vw} {ment:List (Nat×List Nat)}
  (hE0:zKq V reads=some E0) (hS0:zKr V reads=some S0) (hW:∀y,wOf (E1 y) (S1 y) writes=some (W y)) (hm:∀y,zFk (W y)=ment) (hok:zIH (ms.getD j 0) ment0 j ⟨reads,writes,ks,ment⟩ acc=true)
  (hc:zIM G ks writes keep S0 o=true) (hc2:∀y,zG5 N0 ks writes keep (E1 y) (S1 y)=true) (hkeep:∀y,zJ2 keep (S1 y) S0)
  (h:∀w0 X X0 σ0 hl,PO (⟨G.P,G.fn,w0,X,X0,σ0,N0,fun _ _ _=>True,G.dz,G.L,hl,G.ro⟩:Ctx α) (bnd M some) all [o] [.iter fun y a w=>Pre (⟨G.P,G.fn,w0,X,X0,σ0,N0,fun _ _ _=>True,G.dz,G.L,hl,G.ro⟩:Ctx α) (E1 y) (S1 y) a w] E0 S0)
  (k:∀y,M=some y->PDV G (g y) all ms ment0 rest (j+1) (⟨reads,writes,ks,ment⟩::acc) (W y++V) K):PDV G (bnd M g) all ms ment0 (o::rest) j acc V K:=by
 intro hlen r hr
 cases hM:M with
 | none=>rw [hM] at hr;simp [bnd] at hr
 | some y =>
 rw [hM] at hr h
 have hr':g y=some r:=hr
 have hWy:=zU3 (hW y)
 have hok':zKW ms ment0 j ⟨reads,writes,ks,ment⟩ acc.reverse=true:=by
  unfold zIH at hok
  unfold zKW
  simp only [Bool.and_eq_true] at hok ⊢
  exact ⟨zM5 (by rw [hlen];exact hok.1),hok.2⟩
 have hk0:=k y hM (by simp [hlen]) r hr'
 rw [List.reverse_cons] at hk0
 refine ⟨⟨reads,writes,ks,ment⟩,W y,hok',by rw [hWy,List.map_map];exact List.map_id writes,hm y,?_,hk0⟩
 intro V' hread hclean a w ⟨σ,φ,S,E,h1,h2,hp⟩
 simp only at hread hclean
 unfold zIM at hc
 simp only [Bool.and_eq_true] at hc
 obtain ⟨⟨⟨⟨c1,c2⟩,c3⟩,c4⟩,c5⟩:=hc
 have c2':∀n∈S0.map (·.1),n∈keep\/2*n+1∈writes:=fun n hn=>by
  have:=List.all_eq_true.1 c2 n hn
  simp only [Bool.or_eq_true,inW] at this
  exact this.imp any_beq.1 any_beq.1
 have c3':∀n∈ks,zEX G n=true/\2*n+1∈writes:=fun n hn=>by
  have:=List.all_eq_true.1 c3 n hn
  simp only [Bool.and_eq_true,inW] at this
  exact ⟨this.1,any_beq.1 this.2⟩
 have d1:=hc2 y
 unfold zG5 at d1
 simp only [Bool.and_eq_true] at d1
 obtain ⟨⟨⟨d1,d2⟩,d3⟩,d4⟩:=d1
 have d1':∀n∈(S1 y).map (·.1),n∈keep\/2*n+1∈writes:=fun n hn=>by
  have:=List.all_eq_true.1 d1 n hn
  simp only [Bool.or_eq_true,inW] at this
  exact this.imp any_beq.1 any_beq.1
 have hS0S:∀n b,(n,b)∈S0->lkS S n=some b:=fun n b hm=>by
  obtain ⟨g1,g2⟩:=zM8 hS0 n b hm
  exact (h1 n b).1 ((hread _ g1).trans g2)
 have hSub:SubS S0 S:=⟨fun x hx=>zBN (hS0S x.1 x.2 hx),zIi c1⟩
 let X':Nat->Prop:=fun b=>G.X b\/∃n k,(n,k)∈S/\n∉S0.map (·.1) /\ φ n b
 have hDD:∀b,Dof G.X φ w S b->Dof X' φ w S0 b:=fun b ⟨h1,h2,h3⟩=>⟨h1,fun h=>by
  rcases h with h | ⟨n,k,h,_,hf⟩
  ·exact h2 h
  ·exact h3 n k h hf,fun n k h=>h3 n k (hSub.1 _ h)⟩
 have hi':Inv X' σ φ w S0:=by
  refine ⟨hSub.2,fun b hb=>?_,fun b ⟨n,k,hm,hf⟩=>⟨(hp.inv.lt b ⟨n,k,hSub.1 _ hm,hf⟩).1,fun h=>?_⟩,fun n m k l h1 h2=>hp.inv.disj n m k l (hSub.1 _ h1) (hSub.1 _ h2),fun n k hm=>(hp.inv.ok n k (hSub.1 _ hm)).mono hDD⟩
  ·rcases hb with hb | ⟨n,k,h,_,hf⟩
   ·exact hp.inv.xlt b hb
   ·exact (hp.inv.lt b ⟨n,k,h,hf⟩).1
  ·rcases h with h | ⟨n',k',h,hn',hf'⟩
   ·exact (hp.inv.lt b ⟨n,k,hSub.1 _ hm,hf⟩).2 h
   ·have hne:n≠n':=fun e=>hn' (by rw [<- e];exact List.mem_map.2 ⟨_,hm,rfl⟩)
    exact hp.inv.disj n n' k k' (hSub.1 _ hm) h hne b hf hf'
 have hl:Lay G.L (fun b=>¬foot φ S0 b) w:=hp.laid fun b hf ⟨n,k,h,hb⟩=>hf ⟨n,k,hSub.1 _ h,hb⟩
 have hp1:Pre' (⟨G.P,G.fn,w,X',foot φ S0,σ,N0,fun _ _ _=>True,G.dz,G.L,hl,G.ro⟩:Ctx α) E0 S0 a w σ φ :=
  ⟨hp.defers,hp.size,fun t p ht=>by
   obtain ⟨g1,g2⟩:=zPD hE0 t p ht
   obtain ⟨u,hu,hru⟩:=hp.env t p ((h2 t p).1 ((hread _ g1).trans g2))
   exact ⟨u,hu,hru.mono fun b hb=>⟨hDD b hb,rfl⟩⟩,hi',Fr.refl _ _,fun _ _=>rfl,fun b hb _=>hb⟩
 have hop:=zTf (h w X' (foot φ S0) σ hl) rfl ⟨σ,φ,hp1⟩
 have clean:∀{key:Nat} {i:Info},lku V' key=some i->key∉writes->zM3 ks i=false:=fun {key i} hk hn=>by
  cases hmi:zM3 ks i with
  | false=>rfl
  | true=>exact absurd (hclean key i hk hmi) hn
 have fin:∀a' w',Pre (⟨G.P,G.fn,w,X',foot φ S0,σ,N0,fun _ _ _=>True,G.dz,G.L,hl,G.ro⟩:Ctx α) (E1 y) (S1 y) a' w'->(∀t,o.dst≠some t->a'.tmps[t]? = a.tmps[t]?)->PreV G (W y++V') a' w':=by
  rintro a' w' ⟨σ',φ',hp'⟩ hrest
  let S2:Store:=S.filter fun x => !((S0.map (·.1)).any (Nat.beq x.1)) && !(inW writes x.1)
  have hS2m:∀n k,(n,k)∈S2->(n,k)∈S/\n∉S0.map (·.1)/\2*n+1∉writes:=fun n k hm=>by
   obtain ⟨g1,g2⟩:=List.mem_filter.1 hm
   simp only [Bool.and_eq_true,Bool.not_eq_true'] at g2
   exact ⟨g1,fun h=>(by rw [any_beq.2 h] at g2;cases g2.1),fun h=>(by have:=g2.2;unfold inW at this;rw [any_beq.2 h] at this;cases this)⟩
  have hlkS:∀n b,(n,b)∈S->lkS S n=some b:=fun n b hm=>by
   obtain ⟨b',hb'⟩:=zJp (A:=S) (List.mem_map.2 ⟨_,hm,rfl⟩)
   rw [hb',zLs hp.inv.nodup (zBN hb') hm]
  obtain ⟨σ2,φ2,t1,t2,t3,t4,t5,t6,t7,t8⟩:=zQO (S2:=S2) (ks:=ks) hp hSub (X':=X') (fun b=>Iff.rfl) hp'.inv hp'.fr hp'.agree (fun b hb hlt=>hp'.new b hb hlt)
   (fun n k hm=>zHZ d2 n (List.mem_map.2 ⟨_,hm,rfl⟩)) (fun n _ cells hm i c hc m hmn=>zHg d3 n cells hm i c hc m hmn)
   (fun n k hm=>by
    obtain ⟨g1,g2,g3⟩:=hS2m n k hm
    refine ⟨fun hk=>g3 (c3' n hk).2,g2,k,g1,?_⟩
    cases k with
    | box ty cells =>
     have:=clean ((h1 n (.box ty cells)).2 (hlkS n _ g1)) g3
     exact .inr ⟨ty,cells,cells,rfl,rfl,rfl,fun i c hc=>.inr ⟨hc,fun m hm=>noMent this hc hm⟩⟩
    | _=>exact .inl ⟨rfl,by simp⟩)
   (by
    rw [List.map_append]
    refine List.nodup_append.2 ⟨hp'.inv.nodup,(List.filter_sublist.map _).nodup hp.inv.nodup,fun n hn n' hn' e=>?_⟩
    subst e
    obtain ⟨⟨n0,k0⟩,hm0,e0⟩:=List.mem_map.1 hn'
    simp only at e0;subst e0
    obtain ⟨g1,g2,g3⟩:=hS2m n0 k0 hm0
    have hk:=(d1' n0 hn).resolve_right g3
    obtain ⟨b,hb⟩:=zJp hn
    rw [zLq (hkeep y) n0 hk] at hb
    exact g2 (List.mem_map.2 ⟨_,zBN hb,rfl⟩))
   (fun n hk hn=>by
    have:=(c3' n hk).1
    unfold zEX at this
    rw [any_beq.2 hn] at this;cases this)
  have hlkS2:∀n,n∉S0.map (·.1)->2*n+1∉writes->lkS S2 n=lkS S n:=fun n g1 g2=>by
   have:lkS S2 n=if (!((S0.map (·.1)).any (Nat.beq n)) && !(inW writes n)) then lkS S n else none:=zGn (f:=fun n => !((S0.map (·.1)).any (Nat.beq n)) && !(inW writes n))
   rw [this,if_pos]
   have e1:(S0.map (·.1)).any (Nat.beq n)=false:=by
    cases hh:(S0.map (·.1)).any (Nat.beq n) with
    | false=>rfl
    | true=>exact absurd (any_beq.1 hh) g1
   have e2:inW writes n=false:=by
    cases hh:inW writes n with
    | false=>rfl
    | true=>exact absurd (any_beq.1 hh) g2
   rw [e1,e2];rfl
  have hlkS2w:∀n,2*n+1∈writes->lkS S2 n=none:=fun n g=>by
   have:lkS S2 n=if (!((S0.map (·.1)).any (Nat.beq n)) && !(inW writes n)) then lkS S n else none:=zGn (f:=fun n => !((S0.map (·.1)).any (Nat.beq n)) && !(inW writes n))
   rw [this,if_neg]
   have e2:inW writes n=true:=any_beq.2 g
   rw [e2];simp
  refine ⟨σ2,φ2,S1 y++S2,wE (E1 y) writes++E,fun n b=>?_,fun t p=>?_,hp'.defers,hp'.size,fun t p ht=>?_,t5,t6,t7,t8⟩
  ·rw [zFK,zRb]
   by_cases hw:2*n+1∈writes
   ·rw [hWy,zN2 hw,hlkS2w n hw]
    have e1:(2*n+1) % 2=1:=by omega
    have e2:(2*n+1) / 2=n:=by omega
    simp only [zOy,e1,e2]
    cases lkS (S1 y) n<;>simp
   ·rw [hWy,zIh (by simpa using hw)]
    cases hs:lkS (S1 y) n with
    | some b' =>
     have hk:=(d1' n (List.mem_map.2 ⟨_,zBN hs,rfl⟩)).resolve_right hw
     rw [zLq (hkeep y) n hk] at hs
     have:=(h1 n b').2 (hS0S n b' (zBN hs))
     simp [this]
    | none =>
     have hn:n∉S0.map (·.1):=fun hn=>by
      have hk:=(c2' n hn).resolve_right hw
      obtain ⟨b,hb⟩:=zJp hn
      rw [<- zLq (hkeep y) n hk,hs] at hb;cases hb
     simp only
     rw [hlkS2 n hn hw]
     exact h1 n b
  ·rw [zFK]
   by_cases hw:2*t∈writes
   ·rw [hWy,zN2 hw,zUL hw]
    have e1:(2*t) % 2=0:=by omega
    have e2:(2*t) / 2=t:=by omega
    simp only [zOy,e1,e2]
    cases lk (E1 y) t<;>simp
   ·rw [hWy,zIh (by simpa using hw),zPl hw]
    exact h2 t p
  ·by_cases hw:2*t∈writes
   ·rw [zUL hw] at ht
    have hlt:t<G.fn.ntmps:=by
     have:=List.all_eq_true.1 c4 _ hw
     have e1:(2*t) % 2=0:=by omega
     have e2:(2*t) / 2=t:=by omega
     rw [e1,e2] at this
     simpa [Nat.blt_eq] using this
    cases hl:lk (E1 y) t with
    | some q =>
     rw [hl] at ht;simp at ht;subst ht
     obtain ⟨u,hu,hru⟩:=hp'.env t q hl
     have hnn:∀n∈names q,n∈N0++ks:=by
      obtain ⟨i,hi⟩:=List.mem_iff_getElem?.1 (zRd hl)
      exact zHh d4 hi
     exact ⟨u,hu,(hru.mono fun b hb=>⟨t4 b hb,rfl⟩).agree fun n hn=>t1 n (hnn n hn)⟩
    | none =>
     rw [hl] at ht;simp at ht;subst ht
     have hsz:a'.tmps.size=G.fn.ntmps:=hp'.size
     exact ⟨a'.tmps[t]'(by omega),Array.getElem?_eq_getElem _,.junk⟩
   ·rw [zPl hw] at ht
    obtain ⟨u,hu,hru⟩:=hp.env t p ht
    have hd:o.dst≠some t:=fun e=>by rw [e] at c5;exact hw (any_beq.1 c5)
    refine ⟨u,(hrest t hd).trans hu,(hru.mono t3).agree fun n hn=>t2 n fun hk=>?_⟩
    have:=clean ((h2 t p).2 ht) hw
    unfold zM3 zLB at this
    rw [List.any_eq_false] at this
    exact this n hn (any_beq.2 hk)
 by_cases hw:Region.wanted o (yielded all a.tmps)=true
 ·rw [if_pos hw] at hop ⊢
  intro Kn Q hK
  exact Oper.wp_mono (fun a' w' ⟨g1,g2⟩=>hK _ _ (fin a' w' g1 g2)) (Oper.wp_rest (hop (fun a' w'=>Pre _ (E1 y) (S1 y) a' w') Q fun _ _ g=>g))
 ·rw [if_neg hw] at hop ⊢
  refine fin _ _ hop fun t ht=>?_
  cases hd:o.dst with
  | none=>rfl
  | some d=>simp [Act.put,Array.getElem?_setIfInBounds_ne (show d≠t from fun e=>ht (by rw [hd,e]))]
theorem zUr {α : Type} {H:Ctx α} {y : α} {E1 : α -> Env} {S1 : α -> Store} {E':Env} {S':Store} (hE:SubL (E1 y) E') (hS:zFR (S1 y) S') (hn:zCV ((S1 y).map (·.1))=true):PN H (some y) [.iter fun y a w=>Pre H (E1 y) (S1 y) a w] E' S':=by
 intro r hr a w hp
 cases hr
 obtain ⟨σ,φ,hp⟩:=zFv (zCd hS hn) hp
 exact ⟨σ,φ,{ hp with env:=fun t p ht=>hp.env t p (zG6 hE t p ht) }⟩
theorem zKa {ms:List Nat} {ment0:List (Nat×List Nat)} {o:Oper} {rest:List Oper} {j:Nat} {acc:List Summ} {V:Vw} (reads writes ks N0 keep:List Nat) (E1:Env) (S1:Store) {E0:Env} {S0:Store} {W:Vw} {ment:List (Nat×List Nat)}
  (hE0:zKq V reads=some E0) (hS0:zKr V reads=some S0) (hW:wOf E1 S1 writes=some W) (hm:zFk W=ment) (hok:zIH (ms.getD j 0) ment0 j ⟨reads,writes,ks,ment⟩ acc=true)
  (hc:zIM G ks writes keep S0 o=true) (hc2:zG5 N0 ks writes keep E1 S1=true) (hkeep:zJ2 keep S1 S0)
  (h:∀w0 X X0 σ0 hl,PO (⟨G.P,G.fn,w0,X,X0,σ0,N0,fun _ _ _=>True,G.dz,G.L,hl,G.ro⟩:Ctx Unit) (some ()) all [o] [.iter fun _ a w=>Pre (⟨G.P,G.fn,w0,X,X0,σ0,N0,fun _ _ _=>True,G.dz,G.L,hl,G.ro⟩:Ctx Unit) E1 S1 a w] E0 S0)
  (k:PDV G m all ms ment0 rest (j+1) (⟨reads,writes,ks,ment⟩::acc) (W++V) K):PDV G m all ms ment0 (o::rest) j acc V K :=
 zPE (M:=some ()) (g:=fun _=>m) reads writes ks N0 keep (fun _=>E1) (fun _=>S1) hE0 hS0 (fun _=>hW) (fun _=>hm) hok hc (fun _=>hc2) (fun _=>hkeep) h fun _ _=>k
theorem zL4 {H:Ctx Unit} {E1:Env} {S1:Store} {E':Env} {S':Store} (hE:SubL E1 E') (hS:zFR S1 S') (hn:zCV (S1.map (·.1))=true):PN H (some ()) [.iter fun _ a w=>Pre H E1 S1 a w] E' S':=zUr (E1:=fun _=>E1) (S1:=fun _=>S1) hE hS hn
theorem Lx.congr {ms:List Nat} {ment0:List (Nat×List Nat)}:∀{ops:List Oper} {j:Nat} {acc:List Summ} {V V':Vw} {Kf Kf':Vw->Prop},(∀key,lku V key=lku V' key)->(∀V1 V2,(∀key,lku V1 key=lku V2 key)->Kf' V2->Kf V1)->Lx G all ms ment0 ops j acc V' Kf'->Lx G all ms ment0 ops j acc V Kf
 | [],_,_,_,_,_,_,h,hk,hl=>hk _ _ h hl
 | o::ops,j,acc,V,V',Kf,Kf',h,hk,⟨sm,W,h1,h2,h3,h4,h5⟩ =>
  ⟨sm,W,h1,h2,h3,fun V2 g1 g2=>h4 V2 (fun key hkey=>(g1 key hkey).trans (h key)) g2,Lx.congr (fun key=>by rw [zFK,zFK,h]) hk h5⟩
end
end Go.Pw
