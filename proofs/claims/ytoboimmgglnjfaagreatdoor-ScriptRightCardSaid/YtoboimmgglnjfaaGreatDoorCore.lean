/- A small logic over the kit's wp: pure values for what a Go value reads as, local blocks by names, and rules by which code is walked without a heap in sight. No program is named here. -/
import Derived.WalkKit
import Derived.LoopN
import Derived.RangeFuncFrom
import Derived.RangeFuncLeaves
import Derived.OrdersIn
import Derived.LoopNIn
namespace Go.Pw
open Go
inductive PV where
 | v (x:Value)
 | agg (cs:List PV)
 | tup (vs:List PV)
 | sl (size:Nat) (full:Bool) (rows:List (List PV))
 | el (row:List PV) (off:Nat)
 | loc (n off:Nat)
 | nloc (n off:Nat)
 | ela (n size i off:Nat)
 | own (n:Nat)
 | ownb (n:Nat)
 | dat (n:Nat)
 | bsl (n len:Nat)
 | fn (f:Fn) (first cap:List PV)
 | err (b:Bool)
 | sel (k:Nat) (alts:List PV)
 | junk
def flat:Value->Bool
 | .bool _ | .int _ _ | .string _ | .nilFunc | .nilIface | .pointer none | .slice none 0 0 | .map none=>true
 | _=>false
inductive RD (w:World) (D:Nat->Prop):PV->Value->Prop
 | v {x:Value}:flat x=true->RD w D (.v x) x
 | err0:RD w D (.err false) .nilIface
 | err1 {t:TypeId} {u:Value}:RD w D (.err true) (.iface t u)
 | agg {cs:List PV} {us:List Value}:cs.length=us.length->(∀(i:Nat) (c:PV) (u:Value),cs[i]? = some c->us[i]? = some u->RD w D c u)->RD w D (.agg cs) (.agg ⟨us⟩)
 | tup {cs:List PV} {us:List Value}:cs.length=us.length->(∀(i:Nat) (c:PV) (u:Value),cs[i]? = some c->us[i]? = some u->RD w D c u)->RD w D (.tup cs) (.tuple ⟨us⟩)
 | nil {size:Nat} {full:Bool} {a:Option Addr} {cap:Nat}:cap<=maxLen->(full=true->cap=0)->RD w D (.sl size full []) (.slice a 0 cap)
 | sl {size:Nat} {full:Bool} {rows:List (List PV)} {a:Addr} {cap:Nat} (f:Nat->Value):rows.length<=cap->cap<=maxLen->(full=true->cap=rows.length)->D a.block ->
   (∀row:List PV,row∈rows->row.length=size)->(∀(i:Nat) (row:List PV) (k:Nat) (c:PV),rows[i]? = some row->row[k]? = some c->w.cell? (a.add (i*size+k))=some (f (i*size+k))) ->
   (∀(i:Nat) (row:List PV) (k:Nat) (c:PV),rows[i]? = some row->row[k]? = some c->RD w D c (f (i*size+k)))->RD w D (.sl size full rows) (.slice (some a) rows.length cap)
 | el {row:List PV} {off:Nat} {a:Addr} (f:Nat->Value):D a.block->(∀(k:Nat) (c:PV),row[k]? = some c->w.cell? (a.add k)=some (f k)) ->
   (∀(k:Nat) (c:PV),row[k]? = some c->RD w D c (f k))->RD w D (.el row off) (.pointer (some (a.add off)))
theorem zIw (a:Addr) (i j:Nat):(a.add i).add j=a.add (i+j):=by
 unfold Addr.add
 by_cases hi:i=0<;>by_cases hj:j=0<;>simp [hi,hj,Nat.add_assoc]
theorem zIb (a:Addr) (n:Nat):(a.add n).block=a.block:=by unfold Addr.add;split<;>rfl
theorem RD.mono {w w':World} {D D':Nat->Prop} (h:∀b,D b->D' b/\w'.heap[b]? = w.heap[b]?) {p:PV} {u:Value} (r:RD w D p u):RD w' D' p u:=by
 have hc:∀a:Addr,D a.block->∀n,w'.cell? (a.add n)=w.cell? (a.add n):=fun a ha n=>by
  have:=(h _ ha).2
  simp only [World.cell?,zIb,this]
 induction r with
 | v hx=>exact .v hx
 | err0=>exact .err0
 | err1=>exact .err1
 | agg hl _ ih=>exact .agg hl ih
 | tup hl _ ih=>exact .tup hl ih
 | nil h1 h2=>exact .nil h1 h2
 | sl f h1 h2 h3 hD h4 h5 _ ih=>exact .sl f h1 h2 h3 (h _ hD).1 h4 (fun i row k c hr hk=>(hc _ hD _).trans (h5 i row k c hr hk)) ih
 | el f hD h5 _ ih=>exact .el f (h _ hD).1 (fun k c hk=>(hc _ hD _).trans (h5 k c hk)) ih
def hdrB:Value->Option Nat
 | .pointer (some ⟨b,0,none⟩)=>some b
 | .slice (some ⟨b,0,none⟩) _ _=>some b
 | _=>none
def hdrP:Value->Option Nat
 | .pointer (some ⟨b,0,none⟩)=>some b
 | _=>none
def zLE:Value->Bool
 | .slice _ _ _ | .pointer _ | .map (some _)=>true
 | _=>false
def zFj:Value->Bool
 | .slice none _ _=>true
 | .slice (some _) _ (_+1)=>true
 | _=>false
def zVP (hdr:Value) (p:Option Addr):Prop:=∀a l c,hdr=.slice a l c->p=a
inductive R (σ : Nat->Value) (w:World) (D:Nat->Prop):PV->Value->Prop
 | d {p:PV} {u:Value}:RD w D p u->R σ w D p u
 | loc {n off b:Nat}:hdrP (σ n)=some b->R σ w D (.loc n off) (.pointer (some ⟨b,off,none⟩))
 | nloc0 {n off:Nat}:R σ w D (.nloc n off) (.pointer none)
 | nloc1 {n off b:Nat}:hdrP (σ n)=some b->R σ w D (.nloc n off) (.pointer (some ⟨b,off,none⟩))
 | ela {n size i off b:Nat}:hdrB (σ n)=some b->R σ w D (.ela n size i off) (.pointer (some ⟨b,i*size+off,none⟩))
 | own {n:Nat}:zLE (σ n)=true->R σ w D (.own n) (σ n)
 | ownb {n:Nat}:zFj (σ n)=true->R σ w D (.ownb n) (σ n)
 | dat {n:Nat} {p:Option Addr}:zVP (σ n) p->R σ w D (.dat n) (.pointer p)
 | bsl {n len b:Nat}:hdrP (σ n)=some b->R σ w D (.bsl n len) (.slice (some ⟨b,0,none⟩) len len)
 | fn {f:Fn} {first cap:List PV} {us vs:List Value}:first.length=us.length->cap.length=vs.length ->
   (∀(i:Nat) (c:PV) (u:Value),first[i]? = some c->us[i]? = some u->R σ w D c u)->(∀(i:Nat) (c:PV) (u:Value),cap[i]? = some c->vs[i]? = some u->R σ w D c u)->R σ w D (.fn f first cap) (.func f ⟨us⟩ ⟨vs⟩)
 | sel {k:Nat} {alts:List PV} {p:PV} {u:Value}:alts[k]? = some p->R σ w D p u->R σ w D (.sel k alts) u
 | junk {u:Value}:R σ w D .junk u
 | agg {cs:List PV} {us:List Value}:cs.length=us.length->(∀(i:Nat) (c:PV) (u:Value),cs[i]? = some c->us[i]? = some u->R σ w D c u)->R σ w D (.agg cs) (.agg ⟨us⟩)
 | tup {cs:List PV} {us:List Value}:cs.length=us.length->(∀(i:Nat) (c:PV) (u:Value),cs[i]? = some c->us[i]? = some u->R σ w D c u)->R σ w D (.tup cs) (.tuple ⟨us⟩)
theorem R.mono {σ : Nat->Value} {w w':World} {D D':Nat->Prop} (h:∀b,D b->D' b/\w'.heap[b]? = w.heap[b]?) {p:PV} {u:Value} (r:R σ w D p u):R σ w' D' p u:=by
 induction r with
 | d hd=>exact .d (hd.mono h)
 | loc hs=>exact .loc hs
 | nloc0=>exact .nloc0
 | nloc1 hs=>exact .nloc1 hs
 | ela hs=>exact .ela hs
 | own h1=>exact .own h1
 | ownb h1=>exact .ownb h1
 | dat h1=>exact .dat h1
 | bsl h1=>exact .bsl h1
 | sel h1 _ ih=>exact .sel h1 ih
 | junk=>exact .junk
 | fn h1 h2 _ _ i1 i2=>exact .fn h1 h2 i1 i2
 | agg hl _ ih=>exact .agg hl ih
 | tup hl _ ih=>exact .tup hl ih
def names:PV->List Nat
 | .loc n _ | .nloc n _ | .ela n _ _ _ | .own n | .ownb n | .dat n | .bsl n _=>[n]
 | .fn _ f c=>nameL f++nameL c
 | .agg cs | .tup cs | .sel _ cs=>nameL cs
 | _=>[]
where nameL:List PV->List Nat
 | []=>[]
 | p::l=>names p++nameL l
theorem zEH {l:List PV} {i:Nat} {c:PV} (h:l[i]? = some c) {n:Nat} (hn:n∈names c):n∈names.nameL l:=by
 induction l generalizing i with
 | nil=>simp at h
 | cons p l ih =>
  cases i with
  | zero=>simp at h;subst h;simp [names.nameL,hn]
  | succ i=>simp at h;simp [names.nameL,ih h]
theorem R.agree {σ σ':Nat->Value} {w:World} {D:Nat->Prop} {p:PV} {u:Value} (r:R σ w D p u) (h:∀n∈names p,σ' n = σ n):R σ' w D p u:=by
 induction r with
 | d hd=>exact .d hd
 | loc hs=>exact .loc (by rw [h _ (by simp [names])];exact hs)
 | nloc0=>exact .nloc0
 | nloc1 hs=>exact .nloc1 (by rw [h _ (by simp [names])];exact hs)
 | ela hs=>exact .ela (by rw [h _ (by simp [names])];exact hs)
 | junk=>exact .junk
 | @own n h1=>have:=h n (by simp [names]);rw [<- this] at h1 ⊢;exact .own h1
 | @ownb n h1=>have:=h n (by simp [names]);rw [<- this] at h1 ⊢;exact .ownb h1
 | @dat n p h1=>have:=h n (by simp [names]);rw [<- this] at h1;exact .dat h1
 | bsl hs=>exact .bsl (by rw [h _ (by simp [names])];exact hs)
 | sel h1 _ ih=>exact .sel h1 (ih fun n hn=>h n (by simp [names,zEH h1 hn]))
 | fn h1 h2 _ _ i1 i2 =>
  exact .fn h1 h2 (fun i c u hc hu=>i1 i c u hc hu fun n hn=>h n (by simp [names,zEH hc hn])) (fun i c u hc hu=>i2 i c u hc hu fun n hn=>h n (by simp [names,zEH hc hn]))
 | agg hl _ ih=>exact .agg hl fun i c u hc hu=>ih i c u hc hu fun n hn=>h n (by simp [names,zEH hc hn])
 | tup hl _ ih=>exact .tup hl fun i c u hc hu=>ih i c u hc hu fun n hn=>h n (by simp [names,zEH hc hn])
inductive Blk where
 | box (ty:Nat) (cells:List PV)
 | arr (elem size:Nat) (rows:List (List PV))
 | siter (s:ByteArray) (pos:Nat)
 | mp (kvs:List (Value×PV))
 | tre (elem size kc ke:Nat) (rows:List (List PV×Bool))
abbrev Store:=List (Nat×Blk)
def zNZ (σ : Nat->Value) (w:World) (D:Nat->Prop) (b:Nat) (elem:TypeId) (us:List Value) (cells:List PV):Prop :=
 (∃fr:Nat×Nat,w.heap[b]? = some (.cells ⟨us⟩ elem fr)/\(fr.1<fr.2->us.length<=fr.1))/\∀(i:Nat) (c:PV) (u:Value),cells[i]? = some c->us[i]? = some u->R σ w D c u
def fixE:Nat:=1000000
def ArrOk (w:World) (D:Nat->Prop) (hdr:Value) (fp:Nat->Prop) (elem size:Nat) (rows:List (List PV)):Prop :=
 (∀row:List PV,row∈rows->row.length=size) /\
   ((rows=[]/\(∃ao,hdr=.slice ao 0 0)/\∀x,¬fp x) \/
    ∃b us cap,hdr=.slice (some ⟨b,0,none⟩) rows.length cap/\(∀x,fp x↔x=b)/\us.length=cap*size/\(rows.length<=cap/\0<cap)/\cap<=maxLen/\(∃fr:Nat×Nat,w.heap[b]? = some (.cells ⟨us⟩ (elem % fixE) fr)/\(fr.1<fr.2->us.length<=fr.1)/\(Nat.blt elem fixE=true->fr=(0,0)))/\∀(i:Nat) (c:PV) (u:Value),rows.flatten[i]? = some c->us[i]? = some u->RD w D c u)
def zU8 (w:World) (D:Nat->Prop) (F:Nat->Prop) (ke:Nat) (own:Prop) (c:PV) (u:Value):Prop :=
 (own->∃ks rws,c=.sl ks false rws/\ArrOk w D u F ke ks rws)/\(¬own->c=.junk\/RD w D c u)
def TreOk (w:World) (D:Nat->Prop) (hdr:Value) (fp:Nat->Prop) (elem size kc ke:Nat) (rows:List (List PV×Bool)):Prop :=
 (∀r∈rows,r.1.length=size)/\kc<size /\
   ((rows=[]/\(∃ao,hdr=.slice ao 0 0)/\∀x,¬fp x) \/
    ∃(b:Nat) (us:List Value) (cap:Nat) (Fs:Nat->Nat->Prop),hdr=.slice (some ⟨b,0,none⟩) rows.length cap/\(∀x,fp x↔x=b\/∃i,i<rows.length/\Fs i x)/\(∀i,i<rows.length->¬Fs i b) /\
     (∀i j,i<rows.length->j<rows.length->i≠j->∀x,Fs i x->¬Fs j x)/\us.length=cap*size/\(rows.length<=cap/\0<cap)/\cap<=maxLen/\w.heap[b]? = some (.cells ⟨us⟩ (elem % fixE) (0,0)) /\
     ∀(i:Nat) (r:List PV×Bool),rows[i]? = some r->(r.2=false->∀x,¬Fs i x)/\∀(k:Nat) (c:PV) (u:Value),r.1[k]? = some c->us[i*size+k]? = some u->zU8 w D (Fs i) ke (r.2=true/\k=kc) c u)
theorem ArrOk.next {w w':World} {D D':Nat->Prop} {hdr:Value} {fp:Nat->Prop} {e size:Nat} {rows:List (List PV)} (hD:∀b,D b->D' b/\w'.heap[b]? = w.heap[b]?) (hb:∀b,fp b->w'.heap[b]? = w.heap[b]?)
  (h:ArrOk w D hdr fp e size rows):ArrOk w' D' hdr fp e size rows:=by
 obtain ⟨h0,h⟩:=h
 refine ⟨h0,?_⟩
 rcases h with h | ⟨b,us,cap,h1,h2,h3,h4,h5,⟨fr,h6⟩,h7⟩
 ·exact .inl h
 ·exact .inr ⟨b,us,cap,h1,h2,h3,h4,h5,⟨fr,(hb b ((h2 b).2 rfl)).trans h6.1,h6.2⟩,fun i c u hc hu=>(h7 i c u hc hu).mono hD⟩
theorem ArrOk.plain {w:World} {D:Nat->Prop} {hdr:Value} {fp:Nat->Prop} {e size:Nat} {rows:List (List PV)} (h:ArrOk w D hdr fp e size rows) {b:Nat} (hb:fp b):∃us t fr,w.heap[b]? = some (.cells us t fr):=by
 obtain ⟨_,⟨_,_,h2⟩ | ⟨b',us,cap,_,h2,_,_,_,⟨fr,h4,_⟩,_⟩⟩:=h
 ·exact absurd hb (h2 b)
 ·rw [(h2 b).1 hb];exact ⟨_,_,_,h4⟩
theorem TreOk.next {w w':World} {D D':Nat->Prop} {hdr:Value} {fp:Nat->Prop} {e size kc ke:Nat} {rows:List (List PV×Bool)} (hD:∀b,D b->D' b/\w'.heap[b]? = w.heap[b]?) (hb:∀b,fp b->w'.heap[b]? = w.heap[b]?)
  (h:TreOk w D hdr fp e size kc ke rows):TreOk w' D' hdr fp e size kc ke rows:=by
 obtain ⟨h0,hkc,h⟩:=h
 refine ⟨h0,hkc,?_⟩
 rcases h with h | ⟨b,us,cap,Fs,h1,h2,h3,h4,h5,h6,h7,h8,h9⟩
 ·exact .inl h
 ·refine .inr ⟨b,us,cap,Fs,h1,h2,h3,h4,h5,h6,h7,(hb b ((h2 b).2 (.inl rfl))).trans h8,fun i r hr=>⟨(h9 i r hr).1,fun k c u hc hu=>?_⟩⟩
  have hi:=(List.getElem?_eq_some_iff.1 hr).1
  obtain ⟨g1,g2⟩:=(h9 i r hr).2 k c u hc hu
  refine ⟨fun ho=>?_,fun ho=>(g2 ho).imp id fun hd=>hd.mono hD⟩
  obtain ⟨ks,rws,e,ha⟩:=g1 ho
  exact ⟨ks,rws,e,ha.next hD fun x hx=>hb x ((h2 x).2 (.inr ⟨i,hi,hx⟩))⟩
theorem TreOk.plain {w:World} {D:Nat->Prop} {hdr:Value} {fp:Nat->Prop} {e size kc ke:Nat} {rows:List (List PV×Bool)} (h:TreOk w D hdr fp e size kc ke rows) {b:Nat} (hb:fp b):∃us t fr,w.heap[b]? = some (.cells us t fr):=by
 obtain ⟨h0,hkc,⟨_,_,h2⟩ | ⟨b',us,cap,Fs,h1,h2,h3,h4,h5,h6,h7,h8,h9⟩⟩:=h
 ·exact absurd hb (h2 b)
 ·rcases (h2 b).1 hb with rfl | ⟨i,hi,hx⟩
  ·exact ⟨_,_,_,h8⟩
  ·have hr:=List.getElem?_eq_getElem hi
   have hl:=h0 _ (List.mem_of_getElem? hr)
   obtain ⟨g1,g2⟩:=h9 i _ hr
   cases ho:rows[i].2 with
   | false=>exact absurd hx (g1 ho b)
   | true =>
    have hc:=List.getElem?_eq_getElem (show kc<rows[i].1.length by omega)
    have hlt:i*size+kc<us.length:=by
     have:(i+1)*size<=cap*size:=Nat.mul_le_mul_right _ (by omega)
     rw [Nat.succ_mul] at this
     omega
    obtain ⟨g3,_⟩:=g2 kc _ _ hc (List.getElem?_eq_getElem hlt)
    obtain ⟨ks,rws,_,ha⟩:=g3 ⟨ho,rfl⟩
    exact ha.plain hx
abbrev pfx (size:Nat) (rows:List (List PV)) (act:Bool):PV:=.tup [.sel 0 [],.sl size false rows,.v (.bool act)]
def WinOk (σ : Nat->Value) (w:World) (D:Nat->Prop) (hdr:Value) (fp:Nat->Prop) (elem:Nat) (cells:List PV):Prop :=
 ∃(size:Nat) (act:Bool) (rows:List (List PV)) (last:List PV),cells=pfx size rows act::last/\last.length=size/\(∀row:List PV,row∈rows->row.length=size) /\
  ((rows=[]/\act=false/\(∃ao,hdr=.slice ao 0 0)/\∀x,¬fp x) \/
   ∃(b:Nat) (us:List Value) (cap:Nat),hdr=.slice (some ⟨b,0,none⟩) (rows.length+(if act then 1 else 0)) cap/\(∀x,fp x↔x=b)/\us.length=cap*size/\(rows.length+(if act then 1 else 0)<=cap/\0<cap)/\cap<=maxLen /\
    w.heap[b]? = some (.cells ⟨us⟩ (elem % fixE) (0,0))/\(∀(i:Nat) (c:PV) (u:Value),rows.flatten[i]? = some c->us[i]? = some u->RD w D c u) /\
    (act=true->∀(k:Nat) (c:PV) (u:Value),last[k]? = some c->us[rows.length*size+k]? = some u->R σ w D c u))
theorem WinOk.map {σ σ':Nat->Value} {w w':World} {D D':Nat->Prop} {hdr:Value} {fp:Nat->Prop} {e:Nat} {cells cells':List PV} (h:WinOk σ w D hdr fp e cells) (hl:cells'.length=cells.length)
  (h0:∀s r a,cells[0]? = some (pfx s r a)->cells'[0]? = some (pfx s r a)) (hR:∀(i:Nat) (c c':PV) (u:Value),cells[i]? = some c->cells'[i]? = some c'->R σ w D c u->R σ' w' D' c' u) (hD:∀p u,RD w D p u->RD w' D' p u)
  (hb:∀b,fp b->w'.heap[b]? = w.heap[b]?):WinOk σ' w' D' hdr fp e cells':=by
 obtain ⟨size,act,rows,last,rfl,h2,h3,h4⟩:=h
 have e0:=h0 size rows act rfl
 obtain ⟨last',rfl⟩:∃last',cells'=pfx size rows act::last':=by
  cases cells' with
  | nil=>simp at e0
  | cons c l=>simp at e0;exact ⟨l,by rw [e0]⟩
 refine ⟨size,act,rows,last',rfl,by rw [<- h2];simpa using hl,h3,?_⟩
 rcases h4 with h4 | ⟨b,us,cap,g1,g2,g3,g4,g5,g6,g7,g8⟩
 ·exact .inl h4
 ·refine .inr ⟨b,us,cap,g1,g2,g3,g4,g5,(hb b ((g2 b).2 rfl)).trans g6,fun i c u hc hu=>hD _ _ (g7 i c u hc hu),fun ha k c' u hc' hu=>?_⟩
  have hlt:=(List.getElem?_eq_some_iff.1 hc').1
  have hc:=List.getElem?_eq_getElem (show k<last.length by simp at hl;omega)
  exact hR (k+1) _ c' u (by simp) (by simpa using hc') (g8 ha k _ u hc hu)
theorem WinOk.same {σ σ':Nat->Value} {w w':World} {D D':Nat->Prop} {hdr:Value} {fp:Nat->Prop} {e:Nat} {cells:List PV} (h:WinOk σ w D hdr fp e cells) (hR:∀(i:Nat) (c:PV) (u:Value),cells[i]? = some c->R σ w D c u->R σ' w' D' c u) (hD:∀p u,RD w D p u->RD w' D' p u)
  (hb:∀b,fp b->w'.heap[b]? = w.heap[b]?):WinOk σ' w' D' hdr fp e cells :=
 h.map rfl (fun _ _ _ h=>h) (fun i c c' u h1 h2 hr=>by rw [h1] at h2;cases h2;exact hR i c u h1 hr) hD hb
theorem WinOk.plain {σ : Nat->Value} {w:World} {D:Nat->Prop} {hdr:Value} {fp:Nat->Prop} {e:Nat} {cells:List PV} (h:WinOk σ w D hdr fp e cells) {b:Nat} (hb:fp b):∃us t fr,w.heap[b]? = some (.cells us t fr):=by
 obtain ⟨_,_,_,_,_,_,_,⟨_,_,_,h4⟩ | ⟨b',us,cap,g1,g2,g3,g4,g5,g6,_⟩⟩:=h
 ·exact absurd hb (h4 b)
 ·rw [(g2 b).1 hb];exact ⟨_,_,_,g6⟩
theorem zU4 {σ : Nat->Value} {w:World} {D:Nat->Prop} {hdr:Value} {fp:Nat->Prop} {e size:Nat} {rows:List (List PV)} {act:Bool} {last:List PV} {X:Prop}
  (h:(∃(b:Nat) (us:List Value),X/\us.length=(pfx size rows act::last).length/\zNZ σ w D b e us (pfx size rows act::last))\/WinOk σ w D hdr fp e (pfx size rows act::last)):WinOk σ w D hdr fp e (pfx size rows act::last):=by
 rcases h with ⟨b,us,_,h1,_,h2⟩ | h
 ·exfalso
  obtain ⟨u0,us,rfl⟩:∃u0 us',us=u0::us':=by
   cases us with
   | nil=>simp at h1
   | cons u us=>exact ⟨u,us,rfl⟩
  have h3:=h2 0 _ u0 rfl rfl
  cases h3 with
  | d hd=>cases hd with
   | tup hl hc =>
    have h4:=hc 0 _ _ rfl (List.getElem?_eq_getElem (by rw [<- hl];simp))
    cases h4
  | tup hl hc =>
   have h4:=hc 0 _ _ rfl (List.getElem?_eq_getElem (by rw [<- hl];simp))
   cases h4 with
   | d hd=>cases hd
   | sel h5 _=>simp at h5
 ·exact h
theorem WinOk.noP {σ : Nat->Value} {w:World} {D:Nat->Prop} {hdr:Value} {fp:Nat->Prop} {e:Nat} {cells:List PV} (h:WinOk σ w D hdr fp e cells):hdrP hdr=none:=by
 obtain ⟨_,_,_,_,_,_,_,⟨_,_,⟨ao,rfl⟩,_⟩ | ⟨b',us,cap,rfl,_⟩⟩:=h<;>rfl
def BlkOk (σ : Nat->Value) (w:World) (D:Nat->Prop) (hdr:Value) (fp:Nat->Prop):Blk->Prop
 | .box ty cells=>(∃b us,hdr=.pointer (some ⟨b,0,none⟩)/\(∀x,fp x↔x=b)/\us.length=cells.length/\zNZ σ w D b ty us cells)\/WinOk σ w D hdr fp ty cells
 | .arr elem size rows=>(∀row:List PV,row∈rows->row.length=size) /\
   ((rows=[]/\(∃ao,hdr=.slice ao 0 0)/\∀x,¬fp x) \/
    ∃b us cap,hdr=.slice (some ⟨b,0,none⟩) rows.length cap/\(∀x,fp x↔x=b)/\us.length=cap*size/\(rows.length<=cap/\0<cap)/\cap<=maxLen/\(∃fr:Nat×Nat,w.heap[b]? = some (.cells ⟨us⟩ (elem % fixE) fr)/\(fr.1<fr.2->us.length<=fr.1)/\(Nat.blt elem fixE=true->fr=(0,0)))/\∀(i:Nat) (c:PV) (u:Value),rows.flatten[i]? = some c->us[i]? = some u->RD w D c u)
 | .siter s pos=>∃b,hdr=.pointer (some ⟨b,0,none⟩)/\(∀x,fp x↔x=b)/\w.heap[b]? = some (.stringIter s pos)
 | .tre elem size kc ke rows=>TreOk w D hdr fp elem size kc ke rows
 | .mp kvs=>∃b es clock,hdr=.map (some b)/\(∀x,fp x↔x=b)/\w.heap[b]? = some (.map es clock)/\es.size=kvs.length/\∀(i:Nat) (e:MapEntry) (kv:Value×PV),es[i]? = some e->kvs[i]? = some kv->e.key=kv.1/\RD w D kv.2 e.val
def Dof (X:Nat->Prop) (φ : Nat->Nat->Prop) (w:World) (S:Store) (b:Nat):Prop:=b<w.heap.size/\¬X b/\∀n k,(n,k)∈S->¬φ n b
def foot (φ : Nat->Nat->Prop) (S:Store) (b:Nat):Prop:=∃n k,(n,k)∈S /\ φ n b
structure Inv (X:Nat->Prop) (σ : Nat->Value) (φ : Nat->Nat->Prop) (w:World) (S:Store):Prop where
 nodup:(S.map (·.1)).Nodup
 xlt:∀b,X b->b<w.heap.size
 lt:∀b,foot φ S b->b<w.heap.size/\¬X b
 disj:∀n m k l,(n,k)∈S->(m,l)∈S->n≠m->∀b,φ n b->¬φ m b
 ok:∀n k,(n,k)∈S->BlkOk σ w (Dof X φ w S) (σ n) (φ n) k
theorem Inv.plain {X:Nat->Prop} {σ : Nat->Value} {φ : Nat->Nat->Prop} {w:World} {S:Store} (h:Inv X σ φ w S) {b:Nat} (hf:foot φ S b):(match w.heap[b]? with | some (.cells _ _ _) | some (.map _ _) | some (.stringIter _ _)=>true | _=>false)=true:=by
 obtain ⟨n,k,hm,hb⟩:=hf
 have:=h.ok n k hm
 cases k with
 | box ty cells =>
  rcases this with ⟨b',us,_,h2,_,⟨⟨fr,h4,_⟩,_⟩⟩ | hw
  ·rw [(h2 b).1 hb,h4]
  ·obtain ⟨us,t,fr,h⟩:=hw.plain hb;rw [h]
 | arr e s rows =>
  obtain ⟨_,h⟩:=this
  rcases h with ⟨_,_,h2⟩ | ⟨b',us,cap,_,h2,_,_,_,⟨fr,h4,_⟩,_⟩
  ·exact absurd hb (h2 b)
  ·rw [(h2 b).1 hb,h4]
 | siter s pos=>obtain ⟨b',_,h2,h3⟩:=this;rw [(h2 b).1 hb,h3]
 | mp kvs=>obtain ⟨b',es,cl,_,h2,h3,_⟩:=this;rw [(h2 b).1 hb,h3]
 | tre e s kc ke rows=>obtain ⟨us,t,fr,h⟩:=TreOk.plain this hb;rw [h]
structure Fr (w0:World) (X0:Nat->Prop) (w:World):Prop where
 os:w.os=w0.os
 tape:w.tape=w0.tape
 output:w.output=w0.output
 size:w0.heap.size<=w.heap.size
 block:∀b,b<w0.heap.size->¬X0 b->w.heap[b]? = w0.heap[b]?
theorem Fr.refl (w:World) (X0:Nat->Prop):Fr w X0 w:=⟨rfl,rfl,rfl,Nat.le_refl _,fun _ _ _=>rfl⟩
theorem zA5 {i j:Nat} (h:¬i=j):Nat.beq i j=false:=by
 cases e:Nat.beq i j
 ·rfl
 ·exact absurd (Nat.eq_of_beq_eq_true e) h
abbrev Env:=List (Nat×PV)
def lk:Env->Nat->Option PV
 | [],_=>none
 | (k,p)::E,t=>bif Nat.beq k t then some p else lk E t
def InvE (σ : Nat->Value) (w:World) (D:Nat->Prop) (E:Env) (tmps:Array Value):Prop :=
 ∀t p,lk E t=some p->∃u,tmps[t]? = some u/\R σ w D p u
def Lay (L:World->Prop) (X:Nat->Prop) (w:World):Prop:=∀w':World,(∀b,X b->b<w.heap.size->w'.heap[b]? = w.heap[b]?)->L w'
theorem Lay.here {L:World->Prop} {X:Nat->Prop} {w:World} (h:Lay L X w):L w:=h w fun _ _ _=>rfl
theorem Lay.mono {L:World->Prop} {X X':Nat->Prop} {w:World} (h:Lay L X w) (hX:∀b,X b->b<w.heap.size->X' b):Lay L X' w:=fun w' hw=>h w' fun b hb hl=>hw b (hX b hb hl) hl
def Ends (w0:World) (X X0:Nat->Prop) (σ0:Nat->Value) (N0:List Nat) (post:PV->Store->Prop) (e:Ending) (w:World):Prop :=
 ∃p S σ φ u,e=.returned u/\post p S/\Inv X σ φ w S/\R σ w (Dof X φ w S) p u/\Fr w0 X0 w/\(∀n∈N0,σ n = σ0 n)/\∀b,foot φ S b->b<w0.heap.size->X0 b
def RL (σ : Nat->Value) (w:World) (D:Nat->Prop) (ps:List PV) (us:List Value):Prop :=
 ps.length=us.length/\∀(i:Nat) (c:PV) (u:Value),ps[i]? = some c->us[i]? = some u->R σ w D c u
def FC (L:World->Prop) (P:Program) (f:FuncId) (args:List PV) (S:Store) (N0:List Nat) (post:PV->Store->Prop):Prop :=
 ∀(X:Nat->Prop) (σ : Nat->Value) (φ : Nat->Nat->Prop) (w:World) (us:List Value),Lay L (fun b=>¬foot φ S b) w->Inv X σ φ w S->RL σ w (Dof X φ w S) args us ->
  Calls P f ⟨us⟩ w (Ends w X (foot φ S) σ N0 post)
def DC (L:World->Prop) (P:Program) (f:FuncId) (args:List PV) (r:PV):Prop:=FC L P f args [] [] fun p S=>p=r/\S=[]
abbrev FR (ro:Option Nat):Fence:={ Fence.wide with round:=ro }
theorem zVK {ro:Option Nat} {n:Nat} {P:Program} {f:FuncId} {args:Array Value} {w:World} {R:Ending->World->Prop} (h:Calls P f args w R):CallsIn (FR ro) n P f args w R :=
 (callsIn_wide (n:=n)).2 h
theorem rowsFR {ro:Option Nat} {n:Nat} {P:Program} {row:String} {args:Array Value} {w:World} {R:Value->World->Prop} (h:Rows P row args w R):RowsIn (FR ro) n P row args w R :=
 fun c cs _=>let ⟨v,w',r,s⟩:=h c cs;⟨v,w',r,stepsIn_wide.2 s⟩
theorem zKn {ro:Option Nat} {n n':Nat} {P:Program} {c:Code} {Q:Exit->Act->World->Prop} {a:Act} {w:World} (h:c.wpIn (FR ro) n P Q a w):c.wpIn (FR ro) n' P Q a w :=
 fun b k cs hro hb _=>h b k cs hro hb fun d hd=>by cases hd
def zE4:Op->Bool
 | .defer _=>false
 | _=>true
theorem zHm {o:Op} (h:zE4 o=true):∀c,o≠.defer c:=fun c e=>by subst e;cases h
theorem zRn {P:Program} {ro:Option Nat} {n:Nat} {o:Oper} {Q Q':Exit->Act->World->Prop} (hp:∀c a w,¬Q (.panic c) a w) (nl:¬LetsOut Q) (hd:zE4 o.op=true) {K:Act->World->Prop} {a:Act} {w:World} (h:o.wp P a w K Q):o.wpIn (FR ro) n P a w K Q':=by
 refine ⟨fun _ _=>trivial,?_⟩
 unfold Oper.wp at h
 rw [Oper.semAt_eq _ _ _ (zHm hd)]
 generalize (execOp a.eval o).run P w=r at h
 cases r with
 | ok x w' =>
  cases x with
  | enter f args =>
   refine ⟨fun h=>(by cases h),zVK (Calls.mono h fun e w'' he=>?_)⟩
   cases e with
   | returned v=>exact he
   | panicked c=>exact absurd he (hp _ _ _)
   | outgrown=>exact absurd he nl
  | row row args=>exact ⟨fun h=>(by cases h),rowsFR h⟩
  | value v=>exact h
  | skip=>exact h
  | defer d=>exact h
  | _=>exact h.elim
 | halt x w'=>cases x<;>first | exact absurd h (hp _ _ _) | exact h.elim
theorem zLr {P:Program} {ro:Option Nat} {n:Nat} {all:Array Oper} {Q Q':Exit->Act->World->Prop} (hp:∀c a w,¬Q (.panic c) a w) (ho:∀a w,¬Q .outgrown a w) {l2:List Oper} (hQ:∀a w,Q .normal a w->wpListIn (FR ro) n P all Q' l2 a w) :
  ∀{l1:List Oper} {a:Act} {w:World},l1.all (fun o=>zE4 o.op)=true->wpList P all Q l1 a w->wpListIn (FR ro) n P all Q' (l1++l2) a w
 | [],a,w,_,h=>hQ a w h
 | o::l1,a,w,hd,h=>by
  simp only [List.all_cons,Bool.and_eq_true] at hd
  have ih:∀a w,wpList P all Q l1 a w->wpListIn (FR ro) n P all Q' (l1++l2) a w:=fun a w h=>zLr hp ho hQ hd.2 h
  have nl:¬LetsOut Q:=fun ⟨a,w,h⟩=>ho a w h
  unfold wpList at h
  show (if Region.wanted o (yielded all a.tmps) then o.wpIn (FR ro) n P a w (wpListIn (FR ro) n P all Q' (l1++l2)) Q' else _/\_)
  by_cases hw:Region.wanted o (yielded all a.tmps)=true
  ·rw [if_pos hw] at h ⊢
   rcases h with h | ⟨_,h⟩
   ·exact Oper.wpIn_mono ih (zRn hp nl hd.1 h)
   ·exact absurd h nl
  ·rw [if_neg hw] at h ⊢
   exact ⟨fun _ _=>trivial,ih _ _ h⟩
theorem zMX {P:Program} {ro:Option Nat} {n:Nat} {md:Region.Mode} {ops:Array Oper} {Q:Exit->Act->World->Prop} (hp:∀c a w,¬Q (.panic c) a w) (ho:∀a w,¬Q .outgrown a w) (hd:ops.toList.all (fun o=>zE4 o.op)=true) :
  ∀{fuel:Nat} {listed:Array Bool} {a:Act} {w:World},wpAny P md ops Q fuel listed a w->wpAnyIn (FR ro) n P md ops Q fuel listed a w
 | 0,_,_,_,h=>h
 | fuel+1,listed,a,w,h=>by
  refine ⟨h.1,fun i hi=>?_⟩
  have hh:=h.2 i hi
  unfold wpOp at hh
  unfold wpOpIn
  split
  ·rename_i he
   rw [he] at hh
   exact zMX hp ho hd hh
  ·rename_i o he
   rw [he] at hh
   simp only at hh
   have hm:zE4 o.op=true:=List.all_eq_true.1 hd o (by have:=Array.mem_of_getElem? he;simpa using this)
   by_cases hw:Region.wanted o (yielded ops a.tmps)=true
   ·rw [if_pos hw] at hh ⊢
    rcases hh with hh | ⟨_,hh⟩
    ·exact Oper.wpIn_mono (fun _ _ h=>zMX hp ho hd h) (zRn hp (fun ⟨a,w,h⟩=>ho a w h) hm hh)
    ·exact absurd hh fun ⟨a,w,h⟩=>ho a w h
   ·rw [if_neg hw] at hh ⊢
    exact ⟨fun _ _=>trivial,zMX hp ho hd hh⟩
structure Ctx (ρ : Type) where
 P:Program
 fn:Func
 w0:World
 X:Nat->Prop
 X0:Nat->Prop
 σ0:Nat->Value
 N0:List Nat
 post : ρ -> PV->Store->Prop
 dz:Nat
 L:World->Prop
 lay:Lay L (fun b=>¬X0 b) w0
 ro:Option Nat
def mark (b:Nat):Deferred:={ target:=.collected b,args := #[] }
def DOk (z:Nat) (ds:List Deferred) (w:World):Prop:=∃bs:List Nat,ds=bs.map mark/\bs.Nodup/\∀b∈bs,(0<z/\z<=b+1)/\w.heap[b]? = some (.deferred (some []))
theorem DOk.nil (z:Nat) (w:World):DOk z [] w:=⟨[],rfl,by simp,by simp⟩
def zIl:Option Obj->Bool
 | some (.cells _ _ _) | some (.map _ _) | some (.stringIter _ _)=>true
 | _=>false
theorem DOk.none {ds:List Deferred} {w:World} (h:DOk 0 ds w):ds=[]:=by
 obtain ⟨bs,h1,_,h3⟩:=h
 cases bs with
 | nil=>exact h1
 | cons b bs=>exact absurd (h3 b (List.mem_cons_self ..)).1.1 (Nat.lt_irrefl 0)
theorem DOk.keep {z:Nat} {w w':World} {ds:List Deferred} (h:DOk z ds w) (hk:∀b,b<w.heap.size->zIl w.heap[b]? = false->w'.heap[b]? = w.heap[b]?):DOk z ds w':=by
 obtain ⟨bs,h1,h2,h3⟩:=h
 refine ⟨bs,h1,h2,fun b hb=>⟨(h3 b hb).1,?_⟩⟩
 rw [hk b (Array.getElem?_eq_some_iff.1 (h3 b hb).2).1 (by rw [(h3 b hb).2];rfl)]
 exact (h3 b hb).2
structure Pre' {ρ : Type} (G:Ctx ρ) (E:Env) (S:Store) (a:Act) (w:World) (σ : Nat->Value) (φ : Nat->Nat->Prop):Prop where
 defers:DOk G.dz a.defers w
 size:a.tmps.size=G.fn.ntmps
 env:InvE σ w (Dof G.X φ w S) E a.tmps
 inv:Inv G.X σ φ w S
 fr:Fr G.w0 G.X0 w
 agree:∀n∈G.N0,σ n=G.σ0 n
 new:∀b,foot φ S b->b<G.w0.heap.size->G.X0 b
theorem Pre'.laid {ρ : Type} {G:Ctx ρ} {E:Env} {S:Store} {a:Act} {w:World} {σ : Nat->Value} {φ : Nat->Nat->Prop} (hp:Pre' G E S a w σ φ) {Y:Nat->Prop} (hY:∀b,¬foot φ S b->Y b):Lay G.L Y w :=
 fun w' hw=>G.lay w' fun b hb hl=>(hw b (hY b fun hf=>hb (hp.new b hf hl)) (Nat.lt_of_lt_of_le hl hp.fr.size)).trans (hp.fr.block b hl hb)
def Pre {ρ : Type} (G:Ctx ρ) (E:Env) (S:Store) (a:Act) (w:World):Prop:=∃σ φ,Pre' G E S a w σ φ
inductive Kont (ρ : Type) where
 | seq (c:Code)
 | block (id:Nat)
 | iter (J : ρ -> Act->World->Prop)
 | loopK (J JR : ρ -> Act->World->Prop)
def topP {ρ : Type} (G:Ctx ρ) (r : ρ):Exit->Act->World->Prop
 | .normal,a,w | .ret,a,w=>LeavesInM Fence.wide 1 G.P G.fn a.tmps (Ends G.w0 G.X G.X0 G.σ0 G.N0 (G.post r)) a.defers .returning w
 | _,_,_=>False
theorem zWK {ρ : Type} {G:Ctx ρ} {r : ρ} {e:Exit} {a:Act} {w:World} (h:topP G r e a w):bodyPostM Fence.wide 1 G.P G.fn (Ends G.w0 G.X G.X0 G.σ0 G.N0 (G.post r)) e a w:=by
 cases e<;>first | exact h | exact h.elim
def kwp {ρ : Type} (G:Ctx ρ) (r : ρ):List (Kont ρ)->Exit->Act->World->Prop
 | []=>topP G r
 | .seq c::K=>Exit.then (c.wpIn (FR G.ro) 0 G.P (kwp G r K)) (kwp G r K)
 | .block id::K=>Exit.inBlock id (kwp G r K)
 | .iter J::K=>Exit.then (J r) (kwp G r K)
 | .loopK J JR::_=>fun e a w=>match e with
  | .normal=>J r a w
  | .ret=>JR r a w
  | _=>False
theorem zCw {ρ : Type} {G:Ctx ρ} {r : ρ} {a:Act} {w:World}:∀{K:List (Kont ρ)},¬kwp G r K .outgrown a w
 | [],h=>h
 | .seq _::K,h=>zCw (K:=K) h
 | .block _::K,h=>zCw (K:=K) h
 | .iter _::K,h=>zCw (K:=K) h
 | .loopK _ _::_,h=>h
theorem zEG {ρ : Type} {G:Ctx ρ} {r : ρ} {a:Act} {w:World} {c:List PanicEntry}:∀{K:List (Kont ρ)},¬kwp G r K (.panic c) a w
 | [],h=>h
 | .seq _::K,h=>zEG (K:=K) h
 | .block _::K,h=>zEG (K:=K) h
 | .iter _::K,h=>zEG (K:=K) h
 | .loopK _ _::_,h=>h
def PW {ρ : Type} (G:Ctx ρ) (m:Option ρ) (c:Code) (K:List (Kont ρ)) (E:Env) (S:Store):Prop :=
 ∀r,m=some r->∀a w,Pre G E S a w->c.wpIn (FR G.ro) 0 G.P (kwp G r K) a w
def PN {ρ : Type} (G:Ctx ρ) (m:Option ρ) (K:List (Kont ρ)) (E:Env) (S:Store):Prop :=
 ∀r,m=some r->∀a w,Pre G E S a w->kwp G r K .normal a w
def PO {ρ : Type} (G:Ctx ρ) (m:Option ρ) (all:Array Oper) (ops:List Oper) (K:List (Kont ρ)) (E:Env) (S:Store):Prop :=
 ∀r,m=some r->∀a w,Pre G E S a w->wpList G.P all (kwp G r K) ops a w
section rules
variable {ρ : Type} {G:Ctx ρ} {m:Option ρ} {K:List (Kont ρ)} {E:Env} {S:Store}
theorem Pre'.dk {E:Env} {S:Store} {a:Act} {w w':World} {σ : Nat->Value} {φ : Nat->Nat->Prop} (h:Pre' G E S a w σ φ) (hk:∀b,b<w.heap.size->¬foot φ S b->w'.heap[b]? = w.heap[b]?):DOk G.dz a.defers w' :=
 h.defers.keep fun b hb hp=>hk b hb fun hf=>by have:=h.inv.plain hf;unfold zIl at hp;rw [hp] at this;cases this
theorem zAD {x y:Code} (h:PW G m x (.seq y::K) E S):PW G m (.seq x y) K E S:=fun r hr a w hp=>wpIn_seq (h r hr a w hp)
theorem zAB (h:PN G m K E S):PW G m .skip K E S:=fun r hr a w hp=>wpIn_skip (h r hr a w hp)
theorem zAL {id:Nat} {c:Code} (h:PW G m c (.block id::K) E S):PW G m (.block id c) K E S:=fun r hr a w hp=>wpIn_block (h r hr a w hp)
theorem zAA {c:Code} (h:PW G m c K E S):PN G m (.seq c::K) E S:=h
theorem zAK {id:Nat} (h:PN G m K E S):PN G m (.block id::K) E S:=h
theorem zAC {id:Nat} {ops:List Oper} (h:PO G m ops.toArray ops K E S) (hd:ops.all (fun o=>zE4 o.op)=true:=by rfl):PW G m (.region id ops.toArray false) K E S :=
 fun r hr a w hp=>wpIn_region_lit (by
  have:=zLr (ro:=G.ro) (n:=0) (l2:=[]) (Q':=kwp G r K) (fun _ _ _=>zEG) (fun _ _=>zCw) (fun _ _ h=>wpListIn_nil h) hd (h r hr a w hp)
  rwa [List.append_nil] at this)
theorem zAE {all:Array Oper} (h:PN G m K E S):PO G m all [] K E S:=fun r hr a w hp=>wpList_nil (h r hr a w hp)
def popX {ρ : Type} (id:Nat):List (Kont ρ)->Option (List (Kont ρ))
 | []=>none
 | .block j::K=>bif Nat.beq id j then some K else popX id K
 | .seq _::K=>popX id K
 | .iter _::K=>popX id K
 | .loopK _ _::_=>none
theorem zJn {id:Nat} {r : ρ} {a:Act} {w:World}:∀{K K':List (Kont ρ)},popX id K=some K'->kwp G r K' .normal a w->kwp G r K (.exit id) a w
 | [],_,h,_=>by simp [popX] at h
 | .block j::K,K',h,hk=>by
  simp only [kwp,Exit.inBlock]
  by_cases e:id=j
  ·subst e;simp [popX] at h;subst h;simpa using hk
  ·rw [if_neg e]
   have:=zA5 e
   simp only [popX,this,cond_false] at h
   exact zJn h hk
 | .seq _::K,K',h,hk=>zJn (K:=K) h hk
 | .iter _::K,K',h,hk=>zJn (K:=K) h hk
 | .loopK _ _::_,_,h,_=>by simp [popX] at h
theorem zAY {id:Nat} {K':List (Kont ρ)} (hK:popX id K=some K') (h:PN G m K' E S):PW G m (.exit id) K E S :=
 fun r hr a w hp=>wpIn_exit (zJn hK (h r hr a w hp))
def noL {ρ : Type}:List (Kont ρ)->Bool
 | []=>true
 | .loopK _ _::_=>false
 | .seq _::K=>noL K
 | .block _::K=>noL K
 | .iter _::K=>noL K
theorem zKP {r : ρ} {a:Act} {w:World}:∀{K:List (Kont ρ)},noL K=true->kwp G r [] .ret a w->kwp G r K .ret a w
 | [],_,h=>h
 | .block _::K,hK,h=>zKP (K:=K) hK h
 | .seq _::K,hK,h=>zKP (K:=K) hK h
 | .iter _::K,hK,h=>zKP (K:=K) hK h
 | .loopK _ _::_,hK,_=>by cases hK
def popR {ρ : Type}:List (Kont ρ)->Option (ρ -> Act->World->Prop)
 | []=>none
 | .loopK _ JR::_=>some JR
 | .seq _::K=>popR K
 | .block _::K=>popR K
 | .iter _::K=>popR K
theorem zJo {r : ρ} {a:Act} {w:World} {JR : ρ -> Act->World->Prop}:∀{K:List (Kont ρ)},popR K=some JR->JR r a w->kwp G r K .ret a w
 | .block _::K,hK,h=>zJo (K:=K) hK h
 | .seq _::K,hK,h=>zJo (K:=K) hK h
 | .iter _::K,hK,h=>zJo (K:=K) hK h
 | .loopK _ _::_,hK,h=>by simp [popR] at hK;subst hK;exact h
def Sub (E' E:Env):Prop:=∀t p,lk E' t=some p->lk E t=some p
def SubL:Env->Env->Prop
 | [],_=>True
 | (t,p)::E',E=>lk E t=some p/\SubL E' E
theorem zG6 {E:Env}:∀{E':Env},SubL E' E->Sub E' E
 | [],_=>fun t p h=>by simp [lk] at h
 | (t,p)::E',h=>fun t' p' h'=>by
  simp only [lk] at h'
  by_cases e:t=t'
  ·subst e;simp at h';subst h';exact h.1
  ·have:=zA5 e
   simp only [this,cond_false] at h'
   exact zG6 h.2 t' p' h'
theorem Pre.sub {E':Env} {a:Act} {w:World} (hs:Sub E' E):Pre G E S a w->Pre G E' S a w :=
 fun ⟨σ,φ,h⟩=>⟨σ,φ,{ h with env:=fun t p hp=>h.env t p (hs t p hp) }⟩
theorem pw_sub {E':Env} {c:Code} (hs:SubL E' E) (h:PW G m c K E' S):PW G m c K E S:=fun r hr a w hp=>h r hr a w (hp.sub (zG6 hs))
theorem pn_sub {E':Env} (hs:SubL E' E) (h:PN G m K E' S):PN G m K E S:=fun r hr a w hp=>h r hr a w (hp.sub (zG6 hs))
def Head {α : Type} (G:Ctx ρ) (M : α -> Option ρ) (Ef : α -> Env) (Sf : α -> Store) (r : ρ) (a:Act) (w:World):Prop:=∃x,M x=some r/\Pre G (Ef x) (Sf x) a w
theorem zVx {α : Type} (M:Nat -> α -> Option ρ) (Ef : α -> Env) (Sf : α -> Store) {body:Code} (h0:∀x,M 0 x=none)
  (hb:∀n x,PW G (M (n+1) x) body (.iter (Head G (M n) Ef Sf)::K) (Ef x) (Sf x)) (n:Nat) (x : α) (hE:SubL (Ef x) E) :
  PW G (M n x) (.loop body) K E (Sf x):=by
 intro r hr a w hp
 refine wpIn_loop_rounds n ?_
 have key:∀n x a w,M n x=some r->Pre G (Ef x) (Sf x) a w->Code.roundsIn (FR G.ro) 0 G.P body (kwp G r K) n a w:=by
  intro n
  induction n with
  | zero=>intro x a w h;rw [h0] at h;cases h
  | succ n ih =>
   intro x a w h hp
   refine wpIn_mono (hb n x r h a w hp) fun e a' w' q=>?_
   cases e with
   | normal=>obtain ⟨x',hx',hp'⟩:=q;exact ih x' a' w' hx' hp'
   | _=>exact q
 exact key n x a w hr (hp.sub (zG6 hE))
theorem zVl {α : Type} {M : α -> Option ρ} {Ef : α -> Env} {Sf : α -> Store} (x : α) (hE:SubL (Ef x) E):PN G (M x) (.iter (Head G M Ef Sf)::K) E (Sf x) :=
 fun _ hr _ _ hp=>⟨x,hr,hp.sub (zG6 hE)⟩
end rules
end Go.Pw
