/- The rules of the logic, operation by operation. No program is named here. -/
import Derived.Test.YtoboimmgglnjfaaGreatDoorCore
namespace Go.Pw
open Go
def zLn (P:Program) (f:Field):Option (Nat×Bool×Nat) :=
 match P.info? f.type,P.underlying f.type with
 | some i,some d=>some (f.offset,(match d with | .struct _ | .array _ _=>true | _=>false),i.size)
 | _,_=>none
def mapO {α β : Type} (f : α -> Option β):List α -> Option (List β)
 | []=>some []
 | x::l=>match f x with
  | some y=>(match mapO f l with
   | some m=>some (y::m)
   | none=>none)
  | none=>none
theorem zVb {α β : Type} {f : α -> Option β} {l:List α} {m:List β} (h:mapO f l=some m) {i:Nat} {y : β} (hi:m[i]? = some y):∃x,l[i]? = some x/\f x=some y:=by
 induction l generalizing m i with
 | nil=>simp [mapO] at h;subst h;simp at hi
 | cons x l ih =>
  simp only [mapO] at h
  split at h<;>try simp at h
  rename_i z hz
  split at h<;>simp at h
  rename_i q hq
  subst h
  cases i with
  | zero=>simp at hi;subst hi;exact ⟨x,rfl,hz⟩
  | succ i=>exact ih hq hi
def zIc (P:Program) (s:TypeId):Option (List (Nat×Bool×Nat)) :=
 match P.underlying s with
 | some (.struct fs)=>mapO (zLn P) fs.toList
 | _=>none
def tyOf (P:Program) (t:TypeId):Option (Bool×Nat) :=
 match P.info? t,P.underlying t with
 | some i,some d=>some ((match d with | .struct _ | .array _ _=>true | _=>false),i.size)
 | _,_=>none
def elOf (P:Program) (t:TypeId):Option (Nat×Nat×Nat) :=
 match P.underlying t with
 | some (.slice e)=>(P.info? e).map fun i=>(e,i.size,i.bytes)
 | _=>none
inductive Base where
 | bool | string | int (k:IntKind)
 deriving DecidableEq
def zGL (P:Program) (t:TypeId):Option Base :=
 match P.underlying t with
 | some .bool=>some .bool
 | some .string=>some .string
 | some (.int k)=>some (.int k)
 | _=>none
def lku {α : Type}:List (Nat × α)->Nat->Option α
 | [],_=>none
 | (k,x)::l,t=>bif Nat.beq k t then some x else lku l t
theorem zA6 {α : Type} {l:List (Nat × α)} {t:Nat} {x : α} (h:lku l t=some x):(t,x)∈l:=by
 induction l with
 | nil=>simp [lku] at h
 | cons y l ih =>
  obtain ⟨k,z⟩:=y
  simp only [lku] at h
  cases e:Nat.beq k t
  ·simp only [e,cond_false] at h;exact List.mem_cons_of_mem _ (ih h)
  ·simp only [e,cond_true,Option.some.injEq] at h
   have:=Nat.eq_of_beq_eq_true e
   subst this;subst h;exact List.mem_cons_self ..
structure Tab (P:Program) where
 flds:List (Nat×List (Nat×Bool×Nat))
 tys:List (Nat×Bool×Nat)
 els:List (Nat×Nat×Nat×Nat)
 bases:List (Nat×Base)
 zeros:List (Nat×Value)
 hflds:∀x∈flds,zIc P x.1=some x.2
 htys:∀x∈tys,tyOf P x.1=some x.2
 hels:∀x∈els,elOf P x.1=some x.2
 hbases:∀x∈bases,zGL P x.1=some x.2
 hzeros:∀x∈zeros,(P.info? x.1).bind (·.zero)=some x.2
def zON {α : Type}:Nat->List α -> Option (List α)
 | 0,_=>some []
 | _+1,[]=>none
 | n+1,c::cs=>match zON n cs with
  | some l=>some (c::l)
  | none=>none
theorem zMK {α : Type} {n:Nat} {l m:List α} (h:zON n l=some m):m=l.take n/\m.length=n:=by
 induction n generalizing l m with
 | zero=>simp [zON] at h;subst h;simp
 | succ n ih =>
  cases l with
  | nil=>simp [zON] at h
  | cons c l =>
   simp only [zON] at h
   cases e:zON n l with
   | none=>simp [e] at h
   | some q =>
    obtain ⟨h1,h2⟩:=ih e
    simp only [e,Option.some.injEq] at h
    subst h
    exact ⟨by simp [h1],by simp [h2]⟩
def nthE {α : Type}:List α -> Nat->Option α
 | [],_=>none
 | c::_,0=>some c
 | _::cs,n+1=>nthE cs n
theorem zG0 {α : Type} {l:List α} {n:Nat}:nthE l n=l[n]? := by
 induction l generalizing n with
 | nil=>simp [nthE]
 | cons c l ih=>cases n<;>simp [nthE,ih]
def ev (E:Env):Operand->Option PV
 | .tmp t=>lk E t
 | .const x=>bif flat x then some (.v x) else none
 | .func f=>some (.fn (.func f) [] [])
 | .global _=>none
section
variable {P:Program} {T:Tab P} {E:Env} {S:Store} {σ : Nat->Value} {w:World} {X:Nat->Prop} {φ : Nat->Nat->Prop} {a:Act}
theorem zBI {D:Nat->Prop} (hE:InvE σ w D E a.tmps) {x:Operand} {p:PV} (h:ev E x=some p):R σ w D p (a.eval x):=by
 cases x with
 | tmp t =>
  obtain ⟨u,hu,hr⟩:=hE t p h
  have:a.eval (.tmp t)=u:=by simp only [Act.eval,Array.getD_eq_getD_getElem?,hu,Option.getD_some]
  rw [this];exact hr
 | const v =>
  simp only [ev] at h
  cases e:flat v
  ·simp [e] at h
  ·simp [e] at h;subst h;exact .d (.v e)
 | global g=>simp [ev] at h
 | func f =>
  simp only [ev,Option.some.injEq] at h
  subst h
  exact .fn rfl rfl (fun i c u hc=>by simp at hc) (fun i c u hc=>by simp at hc)
def lkS:Store->Nat->Option Blk
 | [],_=>none
 | (k,b)::S,n=>bif Nat.beq k n then some b else lkS S n
theorem zBN {S:Store} {n:Nat} {b:Blk} (h:lkS S n=some b):(n,b)∈S:=zA6 (l:=S) (by
 have:∀S:Store,lkS S n=lku S n:=by
  intro S;induction S with
  | nil=>rfl
  | cons x S ih=>obtain ⟨k,c⟩:=x;simp [lkS,lku,ih]
 rw [<- this];exact h)
def zF8 (S:Store):PV->Option (List PV)
 | .loc n off=>match lkS S n with
  | some (.box _ cs)=>some (cs.drop off)
  | _=>none
 | .el row off=>some (row.drop off)
 | .ela n size i off=>match lkS S n with
  | some (.arr _ sz rows)=>bif Nat.beq size sz then (match rows[i]? with
   | some row=>some (row.drop off)
   | none=>none) else none
  | _=>none
 | _=>none
theorem zFH {rows:List (List PV)} {size i off:Nat} {row:List PV} (hs:∀r∈rows,r.length=size) (hi:rows[i]? = some row) (ho:off<size):rows.flatten[i*size+off]? = row[off]? := by
 induction rows generalizing i with
 | nil=>simp at hi
 | cons r rows ih =>
  have hr:r.length=size:=hs r (List.mem_cons_self ..)
  cases i with
  | zero =>
   simp at hi;subst hi
   simp [List.getElem?_append_left (show off<r.length by omega)]
  | succ i =>
   simp only [List.getElem?_cons_succ] at hi
   have:=ih (fun q hq=>hs q (List.mem_cons_of_mem _ hq)) hi
   rw [List.flatten_cons,List.getElem?_append_right (by rw [hr,Nat.succ_mul];omega),<- this]
   congr 1
   rw [hr,Nat.succ_mul];omega
theorem zIe {u:Value} {b:Nat} (h:u=.pointer (some ⟨b,0,none⟩)):hdrP u=some b:=by subst h;rfl
theorem zHj {u:Value} {b n c:Nat} (h:u=.slice (some ⟨b,0,none⟩) n c):hdrB u=some b:=by subst h;rfl
theorem zD1 (b off k:Nat):(⟨b,off,none⟩:Addr).add k=⟨b,off+k,none⟩:=by unfold Addr.add;split<;>simp_all
theorem zCY {b i:Nat} {elem:TypeId} {us:List Value} {fr:Nat×Nat} (h:w.heap[b]? = some (.cells ⟨us⟩ elem fr)):w.cell? ⟨b,i,none⟩=us[i]? := by
 simp [World.cell?,h]
theorem zKx (hi:Inv X σ φ w S) {p:PV} {u:Value} {cs:List PV} (h:zF8 S p=some cs) (hr:R σ w (Dof X φ w S) p u) :
  ∃ad,u=.pointer (some ad)/\∀(k:Nat) (c:PV),cs[k]? = some c->∃x,w.cell? (ad.add k)=some x/\R σ w (Dof X φ w S) c x:=by
 cases hr with
 | loc hs =>
  rename_i n off b
  simp only [zF8] at h
  split at h<;>simp at h
  subst h
  rename_i cs' hl
  rcases hi.ok n _ (zBN hl) with hbk | hw
  rotate_left
  ·rw [hw.noP] at hs;cases hs
  obtain ⟨b',us,hh,_,hlen,⟨⟨fr,hc,_⟩,hcr⟩⟩:=hbk
  have:b'=b:=by rw [zIe hh] at hs;simpa using hs
  subst this
  refine ⟨_,rfl,fun k c hk=>?_⟩
  rw [List.getElem?_drop] at hk
  have hlt:off+k<us.length:=by rw [hlen];exact (List.getElem?_eq_some_iff.1 hk).1
  rw [zD1,zCY hc]
  exact ⟨_,List.getElem?_eq_getElem hlt,hcr _ _ _ hk (List.getElem?_eq_getElem hlt)⟩
 | ela hs =>
  rename_i n size i off b
  simp only [zF8] at h
  split at h<;>try simp at h
  rename_i elem sz rows hl
  cases hz:Nat.beq size sz<;>simp only [hz,cond_true,cond_false] at h
  ·simp at h
  have hz':=Nat.eq_of_beq_eq_true hz
  subst hz'
  split at h<;>simp at h
  rename_i row hrow
  subst h
  obtain ⟨hrs,hb⟩:=hi.ok n _ (zBN hl)
  rcases hb with ⟨h0,_⟩ | ⟨b',us,cap,hh,_,hlen,⟨hcap,_⟩,_,⟨fr,hc,_⟩,hcr⟩
  ·subst h0;simp at hrow
  have:b'=b:=by rw [zHj hh] at hs;simpa using hs
  subst this
  refine ⟨_,rfl,fun k c hk=>?_⟩
  rw [List.getElem?_drop] at hk
  have hro:row.length=size:=hrs row (List.mem_of_getElem? hrow)
  have hlt':off+k<size:=by rw [<- hro];exact (List.getElem?_eq_some_iff.1 hk).1
  have hil:i<rows.length:=(List.getElem?_eq_some_iff.1 hrow).1
  have hfl:=zFH hrs hrow hlt'
  have hlt:i*size+(off+k)<us.length:=by
   rw [hlen]
   have:(i+1)*size<=cap*size:=Nat.mul_le_mul_right _ (by omega)
   rw [Nat.succ_mul] at this
   omega
  rw [zD1,zCY hc,Nat.add_assoc]
  exact ⟨_,List.getElem?_eq_getElem hlt,.d (hcr _ _ _ (hfl.trans hk) (List.getElem?_eq_getElem hlt))⟩
 | d hd =>
  cases hd with
  | el f hD hc hcr =>
   rename_i row off ad
   simp only [zF8,Option.some.injEq] at h
   subst h
   refine ⟨_,rfl,fun k c hk=>?_⟩
   rw [List.getElem?_drop] at hk
   rw [zIw]
   exact ⟨_,hc _ _ hk,.d (hcr _ _ hk)⟩
  | _=>simp [zF8] at h
 | _=>simp [zF8] at h
def zIG (g:Bool) (n:Nat) (cs:List PV):Option PV :=
 match g with
 | true=>(match zON n cs with
  | some l=>some (.agg l)
  | none=>none)
 | false=>nthE cs 0
theorem zGr {t:TypeId} {g:Bool} {n:Nat} (h:tyOf P t=some (g,n)):(isAgg t).run P w=.ok g w/\(sizeOf t).run P w=.ok n w:=by
 unfold tyOf at h
 split at h<;>simp at h
 rename_i i d hi hd
 obtain ⟨h1,h2⟩:=h
 refine ⟨?_,by simp [sizeOf,typeInfo,hi,h2]⟩
 simp only [isAgg,Sem.run_bind,run_underlying hd,Result.andThen_ok]
 cases d<;>simp_all [Pure.pure]
theorem zLI {D:Nat->Prop} {cs:List PV} {ad:Addr} (hc:∀(k:Nat) (c:PV),cs[k]? = some c->∃x,w.cell? (ad.add k)=some x/\R σ w D c x) :
  ∃us:List Value,us.length=cs.length/\∀(k:Nat) (x:Value),us[k]? = some x->w.cell? (ad.add k)=some x/\∀c,cs[k]? = some c->R σ w D c x:=by
 refine ⟨(List.range cs.length).map fun k=>(w.cell? (ad.add k)).getD undef,by simp,fun k x hk=>?_⟩
 simp only [List.getElem?_map] at hk
 have hlt:k<cs.length:=by
  rcases Nat.lt_or_ge k cs.length with h | h
  ·exact h
  ·simp [List.getElem?_eq_none (show (List.range cs.length).length<=k by simpa using h)] at hk
 obtain ⟨y,hy,hr⟩:=hc k _ (List.getElem?_eq_getElem hlt)
 rw [List.getElem?_range hlt] at hk
 simp [hy] at hk
 subst hk
 exact ⟨hy,fun c hc'=>by rw [List.getElem?_eq_getElem hlt] at hc';cases hc';exact hr⟩
theorem zN3 (hi:Inv X σ φ w S) {t:TypeId} {g:Bool} {n:Nat} (ht:tyOf P t=some (g,n)) {p q:PV} {u:Value} {cs:List PV} (hr:R σ w (Dof X φ w S) p u)
  (hcs:zF8 S p=some cs) (hq:zIG g n cs=some q):∃x,(Instr.loadAt t u).run P w=.ok x w/\R σ w (Dof X φ w S) q x:=by
 obtain ⟨ad,rfl,hc⟩:=zKx hi hcs hr
 obtain ⟨h1,h2⟩:=zGr (w:=w) ht
 cases g with
 | false =>
  simp only [zIG] at hq
  rw [zG0] at hq
  obtain ⟨x,hx,hrx⟩:=hc 0 _ hq
  simp only [Addr.add,if_true] at hx
  exact ⟨x,by simp [Instr.loadAt,Instr.sureAddr,loadVar,h1,hx],hrx⟩
 | true =>
  simp only [zIG] at hq
  split at hq<;>simp at hq
  rename_i l hl
  subst hq
  obtain ⟨hl1,hl2⟩:=zMK hl
  obtain ⟨us,hlen,hus⟩:=zLI (cs:=l) (ad:=ad) (fun k c hk=>hc k c (by
   rw [hl1,List.getElem?_take] at hk
   split at hk
   ·exact hk
   ·simp at hk))
  refine ⟨.agg ⟨us⟩,?_,.agg hlen.symm fun i c x hc' hx=>(hus i x hx).2 c hc'⟩
  have:=run_loadCells_list (P:=P) w ad us (fun j v hj=>(hus j v hj).1)
  rw [hlen,hl2] at this
  simp [Instr.loadAt,Instr.sureAddr,loadVar,h1,h2,this]
def cmpE:BinOp->Int->Int->Option Bool
 | .eql,x,y=>some (x==y)
 | .neq,x,y=>some (x != y)
 | .lss,x,y=>some (decide (x<y))
 | .leq,x,y=>some (decide (x<=y))
 | .gtr,x,y=>some (decide (x>y))
 | .geq,x,y=>some (decide (x>=y))
 | _,_,_=>none
def binE (op:BinOp) (b:Option Base):PV->PV->Option PV
 | .v (.int k x),.v (.int k' y)=>bif decide (k=k') then (match cmpE op x y with
  | some r=>some (.v (.bool r))
  | none=>none) else none
 | .v (.string x),.v (.string y)=>match op with
  | .eql=>some (.v (.bool (x.data.toList==y.data.toList)))
  | .neq=>some (.v (.bool !(x.data.toList==y.data.toList)))
  | _=>none
 | .v (.bool x),.v (.bool y)=>match b with
  | some .bool=>(match op with
   | .eql=>some (.v (.bool (x==y)))
   | .neq=>some (.v (.bool !(x==y)))
   | _=>none)
  | _=>none
 | _,_=>none
def unE:UnOp->PV->Option PV
 | .not,.v (.bool b)=>some (.v (.bool !b))
 | _,_=>none
def lenE (S:Store):PV->Option Int
 | .v (.slice none 0 0)=>some 0
 | .sl _ _ rows=>some (rows.length:Nat)
 | .own n=>match lkS S n with
  | some (.arr _ _ rows)=>some (rows.length:Nat)
  | _=>none
 | .bsl _ l=>some (l:Nat)
 | _=>none
def evL (E:Env):List Operand->Option (List PV)
 | []=>some []
 | x::l=>match ev E x with
  | some p=>(match evL E l with
   | some ps=>some (p::ps)
   | none=>none)
  | none=>none
def zKc:PV->Nat->Option PV
 | .loc n off,k=>some (.loc n (off+k))
 | .el row off,k=>some (.el row (off+k))
 | .ela n size i off,k=>some (.ela n size i (off+k))
 | _,_=>none
def zUk (fs:List (Nat×Bool×Nat)) (f:Nat) (cs:List PV):Option PV :=
 match nthE fs f with
 | some (off,g,n)=>zIG g n (cs.drop off)
 | none=>none
def ev1 (T:Tab P) (E:Env) (S:Store):Op->Option PV
 | .move x | .assign x=>ev E x
 | .pick c x y=>match ev E c with
  | some (.v (.bool true))=>ev E x
  | some (.v (.bool false))=>ev E y
  | _=>none
 | .fieldAddr s x f=>match lku T.flds s,ev E x with
  | some fs,some p=>(match nthE fs f with
   | some (off,_,_+1)=>zKc p off
   | _=>none)
  | _,_=>none
 | .load t x=>match lku T.tys t,ev E x with
  | some (g,n),some p=>(match zF8 S p with
   | some cs=>zIG g n cs
   | none=>none)
  | _,_=>none
 | .field s x f=>match lku T.flds s,ev E x with
  | some fs,some (.agg cs)=>zUk fs f cs
  | _,_=>none
 | .binOp op t x y _=>match ev E x,ev E y with
  | some p,some q=>binE op (lku T.bases t) p q
  | _,_=>none
 | .unOp op _ x=>match ev E x with
  | some p=>unE op p
  | none=>none
 | .makeFunc f first cap=>match evL E first.toList,evL E cap.toList with
  | some ps,some qs=>some (.fn f ps qs)
  | _,_=>none
 | .extract x i=>match ev E x with
  | some (.tup cs)=>nthE cs i
  | _=>none
 | .nilCheck x=>match ev E x with
  | some (.loc n off)=>some (.loc n off)
  | some (.el row off)=>some (.el row off)
  | some (.ela n size i off)=>some (.ela n size i off)
  | _=>none
 | .call c=>match c.callee,c.args.toList,c.argTypes.toList with
  | .builtin .len,[x],[t]=>(match ev E x with
   | some (.v (.string s))=>(match lku T.bases t with
    | some .string=>some (.v (.int .i64 (s.size:Nat)))
    | _=>none)
   | some p=>(match lku T.els t,lenE S p with
    | some _,some n=>some (.v (.int .i64 n))
    | _,_=>none)
   | none=>none)
  | _,_,_=>none
 | _=>none
theorem R.flat_inv {D:Nat->Prop} {x u:Value} (h:R σ w D (.v x) u):u=x/\flat x=true:=by
 cases h with
 | d hd=>cases hd with
  | v hx=>exact ⟨rfl,hx⟩
theorem R.agg_inv {D:Nat->Prop} {cs:List PV} {u:Value} (h:R σ w D (.agg cs) u) :
  ∃us:List Value,u=.agg ⟨us⟩/\cs.length=us.length/\∀(i:Nat) (c:PV) (x:Value),cs[i]? = some c->us[i]? = some x->R σ w D c x:=by
 cases h with
 | d hd=>cases hd with
  | agg hl hc=>exact ⟨_,rfl,hl,fun i c x h1 h2=>.d (hc i c x h1 h2)⟩
 | agg hl hc=>exact ⟨_,rfl,hl,hc⟩
theorem R.tup_inv {D:Nat->Prop} {cs:List PV} {u:Value} (h:R σ w D (.tup cs) u) :
  ∃us:List Value,u=.tuple ⟨us⟩/\cs.length=us.length/\∀(i:Nat) (c:PV) (x:Value),cs[i]? = some c->us[i]? = some x->R σ w D c x:=by
 cases h with
 | d hd=>cases hd with
  | tup hl hc=>exact ⟨_,rfl,hl,fun i c x h1 h2=>.d (hc i c x h1 h2)⟩
 | tup hl hc=>exact ⟨_,rfl,hl,hc⟩
theorem zRC {D:Nat->Prop} (hE:InvE σ w D E a.tmps):∀{l:List Operand} {ps:List PV},evL E l=some ps->RL σ w D ps (l.map a.eval)
 | [],ps,h=>by simp [evL] at h;subst h;exact ⟨rfl,fun i c u hc=>by simp at hc⟩
 | x::l,ps,h=>by
  simp only [evL] at h
  split at h<;>try simp at h
  rename_i p hp
  split at h<;>simp at h
  rename_i qs hqs
  subst h
  obtain ⟨h1,h2⟩:=zRC hE hqs
  refine ⟨by simp [h1],fun i c u hc hu=>?_⟩
  cases i with
  | zero=>simp at hc hu;subst hc hu;exact zBI hE hp
  | succ i=>exact h2 i c u (by simpa using hc) (by simpa using hu)
theorem zIp {D:Nat->Prop} {p q:PV} {u:Value} {k:Nat} (hr:R σ w D p u) (h:zKc p k=some q):∃ad,u=.pointer (some ad)/\R σ w D q (.pointer (some (ad.add k))):=by
 cases hr with
 | loc hs=>simp [zKc] at h;subst h;refine ⟨_,rfl,?_⟩;rw [zD1];exact .loc hs
 | ela hs=>simp [zKc] at h;subst h;refine ⟨_,rfl,?_⟩;rw [zD1,Nat.add_assoc];exact .ela hs
 | d hd=>cases hd with
  | el f h1 h2 h3=>simp [zKc] at h;subst h;refine ⟨_,rfl,?_⟩;rw [zIw];exact .d (.el f h1 h2 h3)
  | _=>simp [zKc] at h
 | _=>simp [zKc] at h
theorem zVi {D:Nat->Prop} {t:TypeId} {g:Bool} {n off:Nat} (ht:tyOf P t=some (g,n)) {cs:List PV} {us:List Value} (hl:cs.length=us.length)
  (hc:∀(i:Nat) (c:PV) (x:Value),cs[i]? = some c->us[i]? = some x->R σ w D c x) {q:PV} (hq:zIG g n (cs.drop off)=some q):∃x,(part t ⟨us⟩ off).run P w=.ok x w/\R σ w D q x:=by
 obtain ⟨h1,h2⟩:=zGr (w:=w) ht
 cases g with
 | false =>
  simp only [zIG,zG0,List.getElem?_drop,Nat.add_zero] at hq
  have hlt:off<us.length:=by rw [<- hl];exact (List.getElem?_eq_some_iff.1 hq).1
  refine ⟨us[off],?_,hc off _ _ hq (List.getElem?_eq_getElem hlt)⟩
  simp [part,h1,List.getElem?_eq_getElem hlt]
 | true =>
  simp only [zIG] at hq
  split at hq<;>simp at hq
  rename_i l hl'
  subst hq
  obtain ⟨hl1,hl2⟩:=zMK hl'
  refine ⟨.agg ⟨(us.drop off).take n⟩,?_,.agg (by rw [hl1];simp [hl]) fun i c x hc' hx=>?_⟩
  ·simp only [part,h1,h2,Sem.run_bind,Result.andThen_ok,if_true,Sem.run_pure]
   congr 2
   apply Array.toList_inj.1
   simp [List.extract_eq_take_drop,Nat.add_sub_cancel_left]
  ·rw [hl1,List.getElem?_take] at hc'
   rw [List.getElem?_take] at hx
   split at hc'
   ·rename_i hlt
    rw [if_pos hlt] at hx
    rw [List.getElem?_drop] at hc' hx
    exact hc _ _ _ hc' hx
   ·simp at hc'
theorem zKK {s:TypeId} {fs:List (Nat×Bool×Nat)} (h:zIc P s=some fs) {f:Nat} {off n:Nat} {g:Bool} (hf:nthE fs f=some (off,g,n)) :
  ∃(l:Array Field) (x:Field),P.underlying s=some (.struct l)/\l[f]? = some x/\x.offset=off/\tyOf P x.type=some (g,n):=by
 unfold zIc at h
 split at h<;>try simp at h
 rename_i l hl
 rw [zG0] at hf
 obtain ⟨x,hx,hy⟩:=zVb h hf
 unfold zLn at hy
 split at hy<;>simp at hy
 rename_i i d hi hd
 obtain ⟨h1,h2,h3⟩:=hy
 refine ⟨l,x,hl,by simpa using hx,h1,?_⟩
 simp [tyOf,hi,hd,h3]
 exact h2
theorem zVN {op:BinOp} {x y:Int} {r:Bool} (h:cmpE op x y=some r):(Op.intCmp op x y).run P w=.ok (.bool r) w/\(op≠.add/\op≠.sub/\op≠.mul/\op≠.quo/\op≠.rem/\op≠.and/\op≠.or/\op≠.xor/\op≠.andNot/\op≠.shl/\op≠.shr):=by
 cases op<;>simp [cmpE] at h<;>subst h<;>exact ⟨rfl,by simp⟩
theorem zEE {op:BinOp} {t:TypeId} {x y:Operand} {u v:Value} (h:∀k l,¬(u=.agg k/\v=.agg l)) (h':¬(u=.nilIface/\v=.nilIface)):(eqGuard op t x y u v).run P w=.ok () w:=by
 cases op<;>first
  | rfl
  | (cases u<;>cases v<;>first | rfl | (exact absurd ⟨rfl,rfl⟩ h') | (exact absurd ⟨rfl,rfl⟩ (h _ _)))
theorem bin_ok {D:Nat->Prop} {op:BinOp} {t:TypeId} {x y:Operand} {p q r:PV} {u v:Value} (hu:R σ w D p u) (hv:R σ w D q v) {b:Option Base} (hb:∀z,b=some z->zGL P t=some z)
  (h:binE op b p q=some r):∃z,(do eqGuard op t x y u v;binOp op t u v:Sem Value).run P w=.ok z w/\R σ w D r z:=by
 unfold binE at h
 split at h
 ·rename_i k x' k' y'
  obtain ⟨rfl,_⟩:=hu.flat_inv
  obtain ⟨rfl,_⟩:=hv.flat_inv
  by_cases hk:k=k'
  ·subst hk
   simp only [decide_true,cond_true] at h
   split at h<;>simp at h
   rename_i c hc
   subst h
   obtain ⟨hr,hn⟩:=zVN (P:=P) (w:=w) hc
   refine ⟨.bool c,?_,.d (.v rfl)⟩
   rw [Sem.run_bind,zEE (by simp) (by simp),Result.andThen_ok]
   rw [<- hr]
   cases op<;>simp_all [binOp]
  ·simp [hk] at h
 ·obtain ⟨rfl,_⟩:=hu.flat_inv
  obtain ⟨rfl,_⟩:=hv.flat_inv
  split at h<;>simp at h<;>subst h<;>refine ⟨_,?_,.d (.v rfl)⟩ <;>
   (rw [Sem.run_bind,zEE (by simp) (by simp),Result.andThen_ok];simp [binOp,Op.stringOp,ByteArray.toList_eq])
 ·obtain ⟨rfl,_⟩:=hu.flat_inv
  obtain ⟨rfl,_⟩:=hv.flat_inv
  split at h<;>try simp at h
  have hbt:=hb _ rfl
  have hbt':P.underlying t=some .bool:=by
   unfold zGL at hbt
   split at hbt<;>simp_all
  split at h<;>simp at h<;>subst h<;>refine ⟨_,?_,.d (.v rfl)⟩<;>rw [Sem.run_bind,zEE (by simp) (by simp),Result.andThen_ok]
  ·exact run_eql_bool w t _ _ hbt'
  ·exact run_neq_bool w t _ _ hbt'
 ·simp at h
theorem zC2 {t:TypeId} {e n b:Nat} (h:elOf P t=some (e,n,b)):P.underlying t=some (.slice e)/\∃i,P.info? e=some i/\i.size=n/\i.bytes=b:=by
 unfold elOf at h
 split at h<;>simp at h
 rename_i e' he
 obtain ⟨i,h1,h2,h3,h4⟩:=h
 subst h2
 exact ⟨he,i,h1,h3,h4⟩
theorem zEB {t:TypeId} (h:zGL P t=some .string):P.underlying t=some .string:=by
 unfold zGL at h
 split at h<;>simp_all
theorem zIa {t:TypeId} {k:IntKind} (h:zGL P t=some (.int k)):P.underlying t=some (.int k):=by
 unfold zGL at h
 split at h<;>simp_all
theorem len_ok (hi:Inv X σ φ w S) {t ty:TypeId} {x:Nat×Nat×Nat} (ht:elOf P t=some x) {p:PV} {u:Value} (hu:R σ w (Dof X φ w S) p u) {n:Int} (h:lenE S p=some n) :
  (Builtin.len_ #[t] ty #[u]).run P w=.ok (.int .i64 n) w:=by
 have key:∀a m c,u=.slice a m c->(m:Int)=n->(Builtin.len_ #[t] ty #[u]).run P w=.ok (.int .i64 n) w:=by
  rintro a m c rfl rfl
  simp [Builtin.len_,run_underlying (zC2 ht).1,goInt]
 unfold lenE at h
 split at h
 ·simp at h;subst h
  obtain ⟨rfl,_⟩:=hu.flat_inv
  exact key _ _ _ rfl rfl
 ·simp at h;subst h
  cases hu with
  | d hd=>cases hd with
   | nil=>exact key _ _ _ rfl (by simp)
   | sl=>exact key _ _ _ rfl (by simp)
 ·split at h<;>simp at h
  rename_i hl
  subst h
  obtain ⟨_,hb⟩:=hi.ok _ _ (zBN hl)
  cases hu with
  | own =>
   rcases hb with ⟨rfl,⟨_,h1⟩,_⟩ | ⟨b,us,cap,h1,_⟩
   ·exact key _ _ _ h1 (by simp)
   ·exact key _ _ _ h1 (by simp)
  | d hd=>cases hd
 ·simp at h
  subst h
  cases hu with
  | bsl=>exact key _ _ _ rfl rfl
  | d hd=>cases hd
 ·simp at h
theorem zRB (hi:Inv X σ φ w S) (hE:InvE σ w (Dof X φ w S) E a.tmps) {o:Oper} {p:PV} (h:ev1 T E S o.op=some p):∃u,(execOp a.eval o).run P w=.ok (.value u) w/\R σ w (Dof X φ w S) p u:=by
 have val:∀(s:Sem Value) (q:PV),(∃u,s.run P w=.ok u w/\R σ w (Dof X φ w S) q u)->∃u,(do pure (Next.value (<- s)):Sem Next).run P w=.ok (.value u) w/\R σ w (Dof X φ w S) q u:=by
  rintro s q ⟨u,h1,h2⟩
  exact ⟨u,by simp [h1],h2⟩
 unfold ev1 at h
 split at h
 case h_1 x ho=>exact ⟨_,by simp [execOp,ho],zBI hE h⟩
 case h_2 x ho=>exact ⟨_,by simp [execOp,ho],zBI hE h⟩
 case h_3 c x y ho =>
  split at h
  ·rename_i hc
   obtain ⟨h1,_⟩:=(zBI hE hc).flat_inv
   exact ⟨_,by simp [execOp,ho,h1,asBool],zBI hE h⟩
  ·rename_i hc
   obtain ⟨h1,_⟩:=(zBI hE hc).flat_inv
   exact ⟨_,by simp [execOp,ho,h1,asBool],zBI hE h⟩
  ·simp at h
 case h_4 s x f ho =>
  split at h<;>try simp at h
  rename_i fs q hfs hq
  split at h<;>try simp at h
  rename_i off g n hn
  obtain ⟨l,fl,h1,h2,h3,h4⟩:=zKK (T.hflds _ (zA6 hfs)) hn
  obtain ⟨ad,h5,h6⟩:=zIp (zBI hE hq) h
  obtain ⟨_,h7⟩:=zGr (w:=w) h4
  refine ⟨_,?_,h6⟩
  simp [execOp,ho,Instr.fieldAt,run_underlying h1,h2,h5,Instr.sureAddr,fieldPlace,h7,h3]
 case h_5 t x ho =>
  split at h<;>try simp at h
  rename_i g n q ht hq
  split at h<;>try simp at h
  rename_i cs hcs
  simp only [execOp,ho]
  exact val _ _ (zN3 hi (T.htys _ (zA6 ht)) (zBI hE hq) hcs h)
 case h_6 s x f ho =>
  split at h<;>try simp at h
  rename_i fs cs hfs hq
  unfold zUk at h
  split at h<;>try simp at h
  rename_i off g n hn
  obtain ⟨l,fl,h1,h2,h3,h4⟩:=zKK (T.hflds _ (zA6 hfs)) hn
  obtain ⟨us,h5,h6,h7⟩:=(zBI hE hq).agg_inv
  obtain ⟨z,hz,hr⟩:=zVi (w:=w) h4 h6 h7 h
  refine ⟨z,?_,hr⟩
  simp [execOp,ho,Instr.field,run_underlying h1,h2,h5,asAgg,h3,hz]
 case h_7 op t x y yt ho =>
  split at h<;>try simp at h
  rename_i q1 q2 h1 h2
  simp only [execOp,ho]
  exact val _ _ (bin_ok (zBI hE h1) (zBI hE h2) (fun z hz=>T.hbases _ (zA6 hz)) h)
 case h_8 op t x ho =>
  split at h<;>try simp at h
  rename_i q hq
  unfold unE at h
  split at h<;>simp at h
  subst h
  obtain ⟨h1,_⟩:=(zBI hE hq).flat_inv
  exact ⟨_,by simp [execOp,ho,h1,Op.unary],.d (.v rfl)⟩
 case h_9 f first cap ho =>
  split at h<;>simp at h
  rename_i ps qs hp hq
  subst h
  obtain ⟨l1,r1⟩:=zRC hE hp
  obtain ⟨l2,r2⟩:=zRC hE hq
  refine ⟨.func f ⟨first.toList.map a.eval⟩ ⟨cap.toList.map a.eval⟩,?_,.fn l1 l2 r1 r2⟩
  have e1:first.map a.eval=⟨first.toList.map a.eval⟩:=Array.toList_inj.1 (by simp)
  have e2:cap.map a.eval=⟨cap.toList.map a.eval⟩:=Array.toList_inj.1 (by simp)
  simp only [execOp,ho,Instr.makeFunc,<- e1,<- e2]
  rfl
 case h_10 x i ho =>
  split at h<;>try simp at h
  rename_i cs hq
  rw [zG0] at h
  obtain ⟨us,h1,h2,h3⟩:=(zBI hE hq).tup_inv
  have hlt:i<us.length:=by rw [<- h2];exact (List.getElem?_eq_some_iff.1 h).1
  refine ⟨us[i],?_,h3 i _ _ h (List.getElem?_eq_getElem hlt)⟩
  simp [execOp,ho,Instr.extract,h1,List.getElem?_eq_getElem hlt]
 case h_11 x ho =>
  have:∀q:PV,ev E x=some q->(∃ad,a.eval x=.pointer (some ad))->∃u,(execOp a.eval o).run P w=.ok (.value u) w/\R σ w (Dof X φ w S) q u:=by
   rintro q hq ⟨ad,had⟩
   exact ⟨a.eval x,by simp [execOp,ho,had],zBI hE hq⟩
  split at h<;>simp at h<;>subst h<;>rename_i hq<;>refine this _ hq ?_
  ·obtain ⟨ad,h1,_⟩:=zIp (k:=0) (zBI hE hq) rfl;exact ⟨ad,h1⟩
  ·obtain ⟨ad,h1,_⟩:=zIp (k:=0) (zBI hE hq) rfl;exact ⟨ad,h1⟩
  ·obtain ⟨ad,h1,_⟩:=zIp (k:=0) (zBI hE hq) rfl;exact ⟨ad,h1⟩
 case h_12 c ho =>
  split at h<;>try simp at h
  rename_i x t hc ha hat
  obtain ⟨callee,args,argTypes⟩:=c
  simp only at hc ha hat
  subst hc
  obtain ⟨args⟩:=args
  obtain ⟨argTypes⟩:=argTypes
  simp only at ha hat
  subst ha hat
  have run:∀n:Int,(Builtin.len_ #[t] o.type #[a.eval x]).run P w=.ok (.int .i64 n) w->∃u,(execOp a.eval o).run P w=.ok (.value u) w/\R σ w (Dof X φ w S) (.v (.int .i64 n)) u:=fun n hn =>
   ⟨.int .i64 n,by simp [execOp,ho,resolve,invoke,builtin,hn],.d (.v rfl)⟩
  split at h
  ·rename_i s hs
   split at h<;>simp at h
   rename_i hb
   subst h
   obtain ⟨h1,_⟩:=(zBI hE hs).flat_inv
   refine run _ ?_
   simp [h1,Builtin.len_,run_underlying (zEB (T.hbases _ (zA6 hb))),goInt]
  ·rename_i q _ hq
   split at h<;>simp at h
   rename_i z n hz hn
   subst h
   exact run _ (len_ok hi (T.hels _ (zA6 hz)) (zBI hE hq) hn)
  ·simp at h
 case h_13=>simp at h
end
end Go.Pw
