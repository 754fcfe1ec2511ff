/- The logic: rules by which code is walked. No program is named here. -/
import Derived.WalkKit
import Derived.LoopN
import Derived.RangeFuncFrom
import Derived.RangeFuncLeaves
import Derived.OrdersIn
import Derived.LoopNIn
import Derived.Laws.IdiomStrings
import Derived.Laws.RangeAny
namespace Go.Pw
open Go
open List renaming getElem?_eq_getElem->lC,mem_cons->lD,mem_map->lE,getElem?_eq_some_iff->lF,mem_cons_of_mem->lG,mem_cons_self->lH,getElem?_map->lK,length_map->lL,getElem?_append_left->lN,all_eq_true->lR,nodup_cons->lS,map_cons->lT,mem_of_getElem?->lU,getElem?_take->lV,getElem?_cons_succ->lX,eq_nil_of_length_eq_zero->lZ,mem_append->cA,getElem?_append_right->cC,getElem?_drop->cD,getD->cJ,all_cons->cK,length_cons->cP,length_take->cR,range->cW,getElem?_eq_none->cX,getElem?_range->cY,getElem?_set_self->gB,getElem_mem->gC,isEmpty_iff->gD,map_append->gG,append_nil->gI,flatten_cons->gJ,any_eq_false->gK,getElem?_set_ne->gN,mem_iff_getElem->gO,zipIdx_cons->gP,mapM_cons->gT,forall_mem_cons->gX,mem_of_mem_take->gY
open Nat renaming beq->lA,blt->lB,mul_le_mul_right->lO,succ_mul->lP,eq_of_beq_eq_true->lQ,lt_or_ge->lY,le_refl->cB,zero_le->cG,add_zero->cH,add_mul->cI,blt_eq->cO,sub_self->cQ,eq_zero_or_pos->cT,mul_comm->cU,add_assoc->cV,le_of_ble_eq_true->cZ,min_eq_left->gU,div_lt_of_lt_mul->gV,div_add_mod->gW
open Option renaming map_eq_some_iff->lI,some->lJ,map_some->lW,getD_some->cM,bind_some->gA
open _root_.Array renaming toList_inj->cF,getD_eq_getD_getElem?->cL,getElem?_setIfInBounds_ne->cN,mapM_eq_mapM_toList->gF,range->gH,getElem?_push->gL,getElem?_setIfInBounds->gQ,foldl_toList->gR,toList_zipIdx->gS
open Bool renaming and_eq_true->lM,not_eq_true'->gM
theorem iN {c : Prop} {h : Decidable c} (g : ¬c) {α : Sort _} {t e : α} : ite c t e = e := if_neg g
theorem iP {c : Prop} {h : Decidable c} (g : c) {α : Sort _} {t e : α} : ite c t e = t := if_pos g
section
variable {w w':World} {D fp D' X:Nat->Prop} {e size n id kc ke i:Nat} {σ σ':Nat->Value} {hdr:Value} {a:Act} {ro:Option Nat} {P:Program} {c:Code} {φ:Nat->Nat->Prop} {L:World->Prop} {args:Array Value} {all:Array Oper} {ds:List Deferred}
inductive PV where
 | v (x:Value)
 | agg (cs:List PV)
 | tup (vs:List PV)
 | sl (size:Nat) (full:Bool) (rows:List (List PV))
 | el (row:List PV) (off:Nat)
 | loc (n off:Nat)
 | nloc (n off:Nat)
 | ela (n size i off:Nat)
 | own (n:Nat)
 | ownb (n:Nat)
 | dat (n:Nat)
 | bsl (n len:Nat)
 | fn (f:Fn) (first cap:List PV)
 | err (b:Bool)
 | sel (k:Nat) (alts:List PV)
 | vw (n i j size:Nat)
 | mpd (kvs:List (Value×PV))
 | junk
def zSy:Value->Bool
 | .bool _ | .int _ _ | .string _ | .nilFunc | .nilIface | .pointer none | .slice none 0 0 | .map none=>true
 | .iface _ (.agg ⟨[.int _ _]⟩)=>true
 | .iface _ (.agg ⟨[.string _,.iface _ (.agg ⟨[.int _ _]⟩)]⟩)=>true
 | _=>false
inductive RD (w:World) (D:Nat->Prop):PV->Value->Prop
 | v {x:Value}:zSy x=true->RD w D (.v x) x
 | err0:RD w D (.err false) .nilIface
 | err1 {t:TypeId} {u:Value}:RD w D (.err true) (.iface t u)
 | agg {cs:List PV} {us:List Value}:cs.length=us.length->(∀(i:Nat) (c:PV) (u:Value),cs[i]? = some c->us[i]? = some u->RD w D c u)->RD w D (.agg cs) (.agg ⟨us⟩)
 | tup {cs:List PV} {us:List Value}:cs.length=us.length->(∀(i:Nat) (c:PV) (u:Value),cs[i]? = some c->us[i]? = some u->RD w D c u)->RD w D (.tup cs) (.tuple ⟨us⟩)
 | nil {size:Nat} {full:Bool} {a:Option Addr} {cap:Nat}:cap<=maxLen->(full=true->cap=0)->RD w D (.sl size full []) (.slice a 0 cap)
 | sl {size:Nat} {full:Bool} {rows:List (List PV)} {a:Addr} {cap:Nat} (f:Nat->Value):rows.length<=cap->cap<=maxLen->(full=true->cap=rows.length)->D a.block ->
   (∀row:List PV,row∈rows->row.length=size)->(∀(i:Nat) (row:List PV) (k:Nat) (c:PV),rows[i]? = some row->row[k]? = some c->w.cell? (a.add (i*size+k))=some (f (i*size+k))) ->
   (∀(i:Nat) (row:List PV) (k:Nat) (c:PV),rows[i]? = some row->row[k]? = some c->RD w D c (f (i*size+k)))->RD w D (.sl size full rows) (.slice (some a) rows.length cap)
 | el {row:List PV} {off:Nat} {a:Addr} (f:Nat->Value):D a.block->(∀(k:Nat) (c:PV),row[k]? = some c->w.cell? (a.add k)=some (f k)) ->
   (∀(k:Nat) (c:PV),row[k]? = some c->RD w D c (f k))->RD w D (.el row off) (.pointer (some (a.add off)))
 | mp0:RD w D (.mpd []) (.map none)
 | mp1 {kvs:List (Value×PV)} {b:Nat} {es:Array MapEntry} {cl:Nat}:D b->w.heap[b]? = some (.map es cl)->es.size=kvs.length->(∀(i:Nat) (e:MapEntry) (kv:Value×PV),es[i]? = some e->kvs[i]? = some kv->e.key=kv.1) ->
   (∀(i:Nat) (e:MapEntry) (kv:Value×PV),es[i]? = some e->kvs[i]? = some kv->RD w D kv.2 e.val)->RD w D (.mpd kvs) (.map (some b))
theorem zPF (a:Addr) (i j:Nat):(a.add i).add j=a.add (i+j):=by
 unfold Addr.add
 by_cases hi:i=0<;>by_cases g:j=0<;>simp [hi,g,cV]
theorem zMZ (a:Addr) (n:Nat):(a.add n).block=a.block:=by unfold Addr.add;split<;>rfl
theorem RD.mono (h:∀b,D b->D' b/\w'.heap[b]? = w.heap[b]?) {p:PV} {u:Value} (r:RD w D p u):RD w' D' p u:=by
 have M:∀a:Addr,D a.block->∀n,w'.cell? (a.add n)=w.cell? (a.add n):=fun a Q n=>by
  have:=(h _ Q).2
  simp only [World.cell?,zMZ,this]
 induction r with
 | v hx=>exact .v hx
 | err0=>exact .err0
 | err1=>exact .err1
 | agg I _ g=>exact .agg I g
 | tup I _ g=>exact .tup I g
 | nil z B=>exact .nil z B
 | sl f z B C j N F _ g=>exact .sl f z B C (h _ j).1 N (fun i J k c hr H=>(M _ j _).trans (F i J k c hr H)) g
 | el f j F _ g=>exact .el f (h _ j).1 (fun k c H=>(M _ j _).trans (F k c H)) g
 | mp0=>exact .mp0
 | mp1 j z B C _ g=>exact .mp1 (h _ j).1 ((h _ j).2.trans z) B C g
def hdrB:Value->Option Nat
 | .pointer (some ⟨b,0,none⟩)=>some b
 | .slice (some ⟨b,0,none⟩) _ _=>some b
 | _=>none
def zfF:Value->Option Nat
 | .pointer (some ⟨b,0,none⟩)=>some b
 | _=>none
def zKK:Value->Bool
 | .slice _ _ _ | .pointer _ | .map (some _)=>true
 | _=>false
def zSk:Value->Bool
 | .slice none _ _=>true
 | .slice (some _) _ (_+1)=>true
 | _=>false
def datOf (hdr:Value) (p:Option Addr):Prop:=∀a l c,hdr=.slice a l c->p=a
def zSM (v:Value) (i j size:Nat):Value:=match v with
 | .slice a _ c=>.slice (if c=i then a else a.map fun x=>x.add (i*size)) (j - i) (c - i)
 | v=>v
inductive R (σ : Nat->Value) (w:World) (D:Nat->Prop):PV->Value->Prop
 | d {p:PV} {u:Value}:RD w D p u->R σ w D p u
 | loc {n off b:Nat}:zfF (σ n)=some b->R σ w D (.loc n off) (.pointer (some ⟨b,off,none⟩))
 | nloc0 {n off:Nat}:R σ w D (.nloc n off) (.pointer none)
 | nloc1 {n off b:Nat}:zfF (σ n)=some b->R σ w D (.nloc n off) (.pointer (some ⟨b,off,none⟩))
 | ela {n size i off b:Nat}:hdrB (σ n)=some b->R σ w D (.ela n size i off) (.pointer (some ⟨b,i*size+off,none⟩))
 | own {n:Nat}:zKK (σ n)=true->R σ w D (.own n) (σ n)
 | ownb {n:Nat}:zSk (σ n)=true->R σ w D (.ownb n) (σ n)
 | dat {n:Nat} {p:Option Addr}:datOf (σ n) p->R σ w D (.dat n) (.pointer p)
 | bsl {n len b:Nat}:zfF (σ n)=some b->R σ w D (.bsl n len) (.slice (some ⟨b,0,none⟩) len len)
 | fn {f:Fn} {first cap:List PV} {us vs:List Value}:first.length=us.length->cap.length=vs.length ->
   (∀(i:Nat) (c:PV) (u:Value),first[i]? = some c->us[i]? = some u->R σ w D c u)->(∀(i:Nat) (c:PV) (u:Value),cap[i]? = some c->vs[i]? = some u->R σ w D c u)->R σ w D (.fn f first cap) (.func f ⟨us⟩ ⟨vs⟩)
 | sel {k:Nat} {alts:List PV} {p:PV} {u:Value}:alts[k]? = some p->R σ w D p u->R σ w D (.sel k alts) u
 | vw {n i j size:Nat}:zKK (σ n)=true->R σ w D (.vw n i j size) (zSM (σ n) i j size)
 | junk {u:Value}:R σ w D .junk u
 | agg {cs:List PV} {us:List Value}:cs.length=us.length->(∀(i:Nat) (c:PV) (u:Value),cs[i]? = some c->us[i]? = some u->R σ w D c u)->R σ w D (.agg cs) (.agg ⟨us⟩)
 | tup {cs:List PV} {us:List Value}:cs.length=us.length->(∀(i:Nat) (c:PV) (u:Value),cs[i]? = some c->us[i]? = some u->R σ w D c u)->R σ w D (.tup cs) (.tuple ⟨us⟩)
theorem R.mono (h:∀b,D b->D' b/\w'.heap[b]? = w.heap[b]?) {p:PV} {u:Value} (r:R σ w D p u):R σ w' D' p u:=by
 induction r with
 | d F=>exact .d (F.mono h)
 | loc j=>exact .loc j
 | nloc0=>exact .nloc0
 | nloc1 j=>exact .nloc1 j
 | ela j=>exact .ela j
 | own g=>exact .own g
 | ownb g=>exact .ownb g
 | dat g=>exact .dat g
 | bsl g=>exact .bsl g
 | sel g _ z=>exact .sel g z
 | vw g=>exact .vw g
 | junk=>exact .junk
 | fn g C _ _ H I=>exact .fn g C H I
 | agg B _ z=>exact .agg B z
 | tup B _ z=>exact .tup B z
def names:PV->List Nat
 | .loc n _ | .nloc n _ | .ela n _ _ _ | .own n | .ownb n | .dat n | .bsl n _ | .vw n _ _ _=>[n]
 | .fn _ f c=>nameL f++nameL c
 | .agg cs | .tup cs | .sel _ cs=>nameL cs
 | _=>[]
where nameL:List PV->List Nat
 | []=>[]
 | p::l=>names p++nameL l
theorem zFw {l:List PV} {c:PV} (h:l[i]? = some c) {n:Nat} (g:n∈names c):n∈names.nameL l:=by
 induction l generalizing i with
 | nil=>simp at h
 | cons p l j =>
  cases i with
  | zero=>simp at h;subst h;simp [names.nameL,g]
  | succ i=>simp at h;simp [names.nameL,j h]
theorem R.agree {p:PV} {u:Value} (r:R σ w D p u) (h:∀n∈names p,σ' n = σ n):R σ' w D p u:=by
 induction r with
 | d M=>exact .d M
 | loc C=>exact .loc (by rw [h _ (by simp [names])];exact C)
 | nloc0=>exact .nloc0
 | nloc1 C=>exact .nloc1 (by rw [h _ (by simp [names])];exact C)
 | ela C=>exact .ela (by rw [h _ (by simp [names])];exact C)
 | junk=>exact .junk
 | @own n g=>have:=h n (by simp [names]);rw [<- this] at g ⊢;exact .own g
 | @ownb n g=>have:=h n (by simp [names]);rw [<- this] at g ⊢;exact .ownb g
 | @dat n p g=>have:=h n (by simp [names]);rw [<- this] at g;exact .dat g
 | @vw n i j size g=>have:=h n (by simp [names]);rw [<- this] at g ⊢;exact .vw g
 | bsl C=>exact .bsl (by rw [h _ (by simp [names])];exact C)
 | sel g _ H=>exact .sel g (H fun n B=>h n (by simp [names,zFw g B]))
 | fn g J _ _ N Q =>
  exact .fn g J (fun i c u z F=>N i c u z F fun n B=>h n (by simp [names,zFw z B])) (fun i c u z F=>Q i c u z F fun n B=>h n (by simp [names,zFw z B]))
 | agg I _ H=>exact .agg I fun i c u z F=>H i c u z F fun n B=>h n (by simp [names,zFw z B])
 | tup I _ H=>exact .tup I fun i c u z F=>H i c u z F fun n B=>h n (by simp [names,zFw z B])
inductive Blk where
 | box (ty:Nat) (cells:List PV)
 | arr (elem size:Nat) (rows:List (List PV))
 | siter (s:ByteArray) (pos:Nat)
 | mp (kvs:List (Value×PV))
 | tre (elem size kc ke:Nat) (rows:List (List PV×Bool))
abbrev zAC:=List (Nat×Blk)
def zTZ (σ : Nat->Value) (w:World) (D:Nat->Prop) (b:Nat) (g:TypeId) (us:List Value) (cells:List PV):Prop :=
 (∃fr:Nat×Nat,w.heap[b]? = some (.cells ⟨us⟩ g fr)/\(fr.1<fr.2->us.length<=fr.1))/\∀(i:Nat) (c:PV) (u:Value),cells[i]? = some c->us[i]? = some u->R σ w D c u
def zLI:Nat:=1000000
def zO7 (w:World) (D:Nat->Prop) (hdr:Value) (fp:Nat->Prop) (g size:Nat) (rows:List (List PV)):Prop :=
 (∀h:List PV,h∈rows->h.length=size) /\
   ((rows=[]/\(∃j,hdr=.slice j 0 0)/\∀x,¬fp x) \/
    ∃b us cap,hdr=.slice (some ⟨b,0,none⟩) rows.length cap/\(∀x,fp x↔x=b)/\us.length=cap*size/\(rows.length<=cap/\0<cap)/\cap<=maxLen/\(∃fr:Nat×Nat,w.heap[b]? = some (.cells ⟨us⟩ (g % zLI) fr)/\(fr.1<fr.2->us.length<=fr.1)/\(lB g zLI=true->fr=(0,0)))/\∀(i:Nat) (c:PV) (u:Value),rows.flatten[i]? = some c->us[i]? = some u->RD w D c u)
def zPD (w:World) (D:Nat->Prop) (F:Nat->Prop) (ke:Nat) (own:Prop) (c:PV) (u:Value):Prop :=
 (own->∃ks g,c=.sl ks false g/\zO7 w D u F ke ks g)/\(¬own->c=.junk\/RD w D c u)
def zHQ (w:World) (D:Nat->Prop) (hdr:Value) (fp:Nat->Prop) (h size kc ke:Nat) (rows:List (List PV×Bool)):Prop :=
 (∀r∈rows,r.1.length=size)/\kc<size /\
   ((rows=[]/\(∃z,hdr=.slice z 0 0)/\∀x,¬fp x) \/
    ∃(b:Nat) (us:List Value) (cap:Nat) (g:Nat->Nat->Prop),hdr=.slice (some ⟨b,0,none⟩) rows.length cap/\(∀x,fp x↔x=b\/∃i,i<rows.length/\g i x)/\(∀i,i<rows.length->¬g i b) /\
     (∀i j,i<rows.length->j<rows.length->i≠j->∀x,g i x->¬g j x)/\us.length=cap*size/\(rows.length<=cap/\0<cap)/\cap<=maxLen/\w.heap[b]? = some (.cells ⟨us⟩ (h % zLI) (0,0)) /\
     ∀(i:Nat) (r:List PV×Bool),rows[i]? = some r->(r.2=false->∀x,¬g i x)/\∀(k:Nat) (c:PV) (u:Value),r.1[k]? = some c->us[i*size+k]? = some u->zPD w D (g i) ke (r.2=true/\k=kc) c u)
theorem zO7.next {rows:List (List PV)} (I:∀b,D b->D' b/\w'.heap[b]? = w.heap[b]?) (J:∀b,fp b->w'.heap[b]? = w.heap[b]?)
  (h:zO7 w D hdr fp e size rows):zO7 w' D' hdr fp e size rows:=by
 obtain ⟨r,h⟩:=h
 refine ⟨r,?_⟩
 rcases h with h | ⟨b,us,cap,z,g,B,C,F,⟨fr,j⟩,H⟩
 ·exact .inl h
 ·exact .inr ⟨b,us,cap,z,g,B,C,F,⟨fr,(J b ((g b).2 rfl)).trans j.1,j.2⟩,fun i c u M N=>(H i c u M N).mono I⟩
theorem zO7.plain {rows:List (List PV)} (h:zO7 w D hdr fp e size rows) {b:Nat} (j:fp b):∃us t fr,w.heap[b]? = some (.cells us t fr):=by
 obtain ⟨_,⟨_,_,g⟩ | ⟨z,us,cap,_,g,_,_,_,⟨fr,r,_⟩,_⟩⟩:=h
 ·exact absurd j (g b)
 ·rw [(g b).1 j];exact ⟨_,_,_,r⟩
theorem zHQ.next {rows:List (List PV×Bool)} (F:∀b,D b->D' b/\w'.heap[b]? = w.heap[b]?) (H:∀b,fp b->w'.heap[b]? = w.heap[b]?)
  (h:zHQ w D hdr fp e size kc ke rows):zHQ w' D' hdr fp e size kc ke rows:=by
 obtain ⟨N,j,h⟩:=h
 refine ⟨N,j,?_⟩
 rcases h with h | ⟨b,us,cap,I,Q,g,V,W,h5,h6,h7,h8,C⟩
 ·exact .inl h
 ·refine .inr ⟨b,us,cap,I,Q,g,V,W,h5,h6,h7,(H b ((g b).2 (.inl rfl))).trans h8,fun i r hr=>⟨(C i r hr).1,fun k c u hc hu=>?_⟩⟩
  have hi:=(lF.1 hr).1
  obtain ⟨J,M⟩:=(C i r hr).2 k c u hc hu
  refine ⟨fun z=>?_,fun z=>(M z).imp id fun hd=>hd.mono F⟩
  obtain ⟨ks,B,e,ha⟩:=J z
  exact ⟨ks,B,e,ha.next F fun x hx=>H x ((g x).2 (.inr ⟨i,hi,hx⟩))⟩
theorem zHQ.plain {rows:List (List PV×Bool)} (h:zHQ w D hdr fp e size kc ke rows) {b:Nat} (r:fp b):∃us t fr,w.heap[b]? = some (.cells us t fr):=by
 obtain ⟨H,Q,⟨_,_,g⟩ | ⟨b',us,cap,W,h1,g,h3,h4,h5,h6,h7,I,J⟩⟩:=h
 ·exact absurd r (g b)
 ·rcases (g b).1 r with rfl | ⟨i,hi,hx⟩
  ·exact ⟨_,_,_,I⟩
  ·have hr:=lC hi
   have hl:=H _ (lU hr)
   obtain ⟨B,C⟩:=J i _ hr
   cases z:rows[i].2 with
   | false=>exact absurd hx (B z b)
   | true =>
    have N:=lC (show kc<rows[i].1.length by omega)
    have j:i*size+kc<us.length:=by
     have:(i+1)*size<=cap*size:=lO _ (by omega)
     rw [lP] at this
     omega
    obtain ⟨F,_⟩:=C kc _ _ N (lC j)
    obtain ⟨ks,V,_,M⟩:=F ⟨z,rfl⟩
    exact M.plain hx
def datV:PV->Bool
 | .v _ | .sl _ _ _=>true
 | _=>false
def zSb (p:PV):Prop:=∃l,p=.tup (.sel 0 []::l)/\l.all datV=true
theorem zSq:∀{l:List PV},l.all datV=true->names.nameL l=[]
 | [],_=>rfl
 | p::l,h=>by
  rw [cK,lM] at h
  have:=zSq h.2
  cases p<;>first | (cases h.1;done) | simp [names.nameL,names,this]
theorem zSb.none {p:PV} (h:zSb p):names p=[]:=by
 obtain ⟨l,rfl,h⟩:=h
 simp [names,names.nameL,zSq h]
abbrev pfx (size:Nat) (rows:List (List PV)) (g:Bool):PV:=.tup [.sel 0 [],.sl size false rows,.v (.bool g)]
def zaC (σ : Nat->Value) (w:World) (D:Nat->Prop) (hdr:Value) (fp:Nat->Prop) (j:Nat) (cells:List PV):Prop :=
 ∃(size:Nat) (g:Bool) (rows:List (List PV)) (h:List PV),cells=pfx size rows g::h/\h.length=size/\(∀r:List PV,r∈rows->r.length=size) /\
  ((rows=[]/\g=false/\(∃z,hdr=.slice z 0 0)/\∀x,¬fp x) \/
   ∃(b:Nat) (us:List Value) (cap:Nat),hdr=.slice (some ⟨b,0,none⟩) (rows.length+(if g then 1 else 0)) cap/\(∀x,fp x↔x=b)/\us.length=cap*size/\(rows.length+(if g then 1 else 0)<=cap/\0<cap)/\cap<=maxLen /\
    w.heap[b]? = some (.cells ⟨us⟩ (j % zLI) (0,0))/\(∀(i:Nat) (c:PV) (u:Value),rows.flatten[i]? = some c->us[i]? = some u->RD w D c u) /\
    (g=true->∀(k:Nat) (c:PV) (u:Value),h[k]? = some c->us[rows.length*size+k]? = some u->R σ w D c u))
theorem zaC.map {cells g:List PV} (h:zaC σ w D hdr fp e cells) (N:g.length=cells.length)
  (h0:∀p,zSb p->cells[0]? = some p->g[0]? = some p) (hR:∀(i:Nat) (c C:PV) (u:Value),cells[i]? = some c->g[i]? = some C->R σ w D c u->R σ' w' D' C u) (hD:∀p u,RD w D p u->RD w' D' p u)
  (hb:∀b,fp b->w'.heap[b]? = w.heap[b]?):zaC σ' w' D' hdr fp e g:=by
 obtain ⟨size,r,rows,B,rfl,h2,h3,H⟩:=h
 have F:=h0 (pfx size rows r) ⟨_,rfl,rfl⟩ rfl
 obtain ⟨j,rfl⟩:∃j,g=pfx size rows r::j:=by
  cases g with
  | nil=>simp at F
  | cons c l=>simp at F;exact ⟨l,by rw [F]⟩
 refine ⟨size,r,rows,j,rfl,by rw [<- h2];simpa using N,h3,?_⟩
 rcases H with H | ⟨b,us,cap,Q,M,V,W,g5,g6,g7,g8⟩
 ·exact .inl H
 ·refine .inr ⟨b,us,cap,Q,M,V,W,g5,(hb b ((M b).2 rfl)).trans g6,fun i c u I J=>hD _ _ (g7 i c u I J),fun ha k C u z J=>?_⟩
  have hlt:=(lF.1 z).1
  have I:=lC (show k<B.length by simp at N;omega)
  exact hR (k+1) _ C u (by simp) (by simpa using z) (g8 ha k _ u I J)
theorem zaC.same {cells:List PV} (h:zaC σ w D hdr fp e cells) (z:∀(i:Nat) (c:PV) (u:Value),cells[i]? = some c->R σ w D c u->R σ' w' D' c u) (r:∀p u,RD w D p u->RD w' D' p u)
  (B:∀b,fp b->w'.heap[b]? = w.heap[b]?):zaC σ' w' D' hdr fp e cells :=
 h.map rfl (fun _ _ h=>h) (fun i c C u g j hr=>by rw [g] at j;cases j;exact z i c u g hr) r B
theorem zaC.plain {cells:List PV} (h:zaC σ w D hdr fp e cells) {b:Nat} (g:fp b):∃us t fr,w.heap[b]? = some (.cells us t fr):=by
 obtain ⟨_,_,_,_,_,_,_,⟨_,_,_,z⟩ | ⟨B,us,cap,C,j,F,H,I,r,_⟩⟩:=h
 ·exact absurd g (z b)
 ·rw [(j b).1 g];exact ⟨_,_,_,r⟩
theorem zaC.noP {cells:List PV} (h:zaC σ w D hdr fp e cells):zfF hdr=none:=by
 obtain ⟨_,_,_,_,_,_,_,⟨_,_,⟨g,rfl⟩,_⟩ | ⟨j,us,cap,rfl,_⟩⟩:=h<;>rfl
theorem zO7.mapD {rows:List (List PV)} (I:∀p u,RD w D p u->RD w' D' p u) (J:∀b,fp b->w'.heap[b]? = w.heap[b]?)
  (h:zO7 w D hdr fp e size rows):zO7 w' D' hdr fp e size rows:=by
 obtain ⟨r,h⟩:=h
 refine ⟨r,?_⟩
 rcases h with h | ⟨b,us,cap,z,g,B,C,F,⟨fr,j⟩,H⟩
 ·exact .inl h
 ·exact .inr ⟨b,us,cap,z,g,B,C,F,⟨fr,(J b ((g b).2 rfl)).trans j.1,j.2⟩,fun i c u M N=>I _ _ (H i c u M N)⟩
theorem zHQ.mapD {rows:List (List PV×Bool)} (F:∀p u,RD w D p u->RD w' D' p u) (H:∀b,fp b->w'.heap[b]? = w.heap[b]?)
  (h:zHQ w D hdr fp e size kc ke rows):zHQ w' D' hdr fp e size kc ke rows:=by
 obtain ⟨N,j,h⟩:=h
 refine ⟨N,j,?_⟩
 rcases h with h | ⟨b,us,cap,I,Q,g,V,W,h5,h6,h7,h8,C⟩
 ·exact .inl h
 ·refine .inr ⟨b,us,cap,I,Q,g,V,W,h5,h6,h7,(H b ((g b).2 (.inl rfl))).trans h8,fun i r hr=>⟨(C i r hr).1,fun k c u hc hu=>?_⟩⟩
  have hi:=(lF.1 hr).1
  obtain ⟨J,M⟩:=(C i r hr).2 k c u hc hu
  refine ⟨fun z=>?_,fun z=>(M z).imp id fun hd=>F _ _ hd⟩
  obtain ⟨ks,B,e,ha⟩:=J z
  exact ⟨ks,B,e,ha.mapD F fun x hx=>H x ((g x).2 (.inr ⟨i,hi,hx⟩))⟩
abbrev hpx (size kc ke i:Nat) (rows:List (List PV×Bool)):PV:=.tup [.sel 0 [],.v (.int .i64 size),.v (.int .i64 kc),.v (.int .i64 ke),.v (.int .i64 i),.sl 0 false (rows.map fun r=>r.1++[.v (.bool r.2)])]
def zQP (w:World) (hdr:Value) (k:Nat):Option Value:=match hdr with
 | .slice (some ⟨b,0,none⟩) _ _=>(match w.heap[b]? with
  | some (.cells us _ _)=>us[k]?
  | _=>none)
 | _=>none
def zTe (σ : Nat->Value) (w:World) (D:Nat->Prop) (hdr:Value) (fp:Nat->Prop) (g:Nat) (cells:List PV):Prop :=
 ∃(size kc ke i:Nat) (rows:List (List PV×Bool)) (c:PV) (u:Value),cells=[hpx size kc ke i rows,c]/\i<rows.length/\zHQ w D hdr fp g size kc ke rows/\zQP w hdr (i*size+kc)=some u/\R σ w D c u
theorem zTe.map {cells g:List PV} (h:zTe σ w D hdr fp e cells) (N:g.length=cells.length)
  (C:∀p,zSb p->cells[0]? = some p->g[0]? = some p) (J:∀(i:Nat) (c j:PV) (u:Value),cells[i]? = some c->g[i]? = some j->R σ w D c u->R σ' w' D' j u) (I:∀p u,RD w D p u->RD w' D' p u)
  (z:∀b,fp b->w'.heap[b]? = w.heap[b]?):zTe σ' w' D' hdr fp e g:=by
 obtain ⟨size,kc,ke,i,rows,c,u,rfl,hi,B,M,hr⟩:=h
 have r:=C (hpx size kc ke i rows) ⟨_,rfl,rfl⟩ rfl
 obtain ⟨j,rfl⟩:∃j,g=[hpx size kc ke i rows,j]:=by
  match g,N with
  | [x,y],_=>simp at r;exact ⟨y,by rw [r]⟩
 refine ⟨size,kc,ke,i,rows,j,u,rfl,hi,B.mapD I z,?_,J 1 c j u rfl rfl hr⟩
 rw [<- M]
 obtain ⟨_,_,⟨F,_⟩ | ⟨b,us,cap,Q,rfl,H,_,_,_,_,_,V,_⟩⟩:=B
 ·rw [F] at hi;simp at hi
 ·have:=z b ((H b).2 (.inl rfl))
  simp only [zQP,this]
theorem zTe.plain {cells:List PV} (h:zTe σ w D hdr fp e cells) {b:Nat} (g:fp b):∃us t fr,w.heap[b]? = some (.cells us t fr):=by
 obtain ⟨_,_,_,_,_,_,_,_,_,j,_⟩:=h
 exact j.plain g
theorem zTe.noP {cells:List PV} (h:zTe σ w D hdr fp e cells):zfF hdr=none:=by
 obtain ⟨_,_,_,_,_,_,_,_,_,⟨_,_,⟨_,⟨j,rfl⟩,_⟩ | ⟨b,us,cap,g,rfl,_⟩⟩,_⟩:=h<;>rfl
def zNS (σ : Nat->Value) (w:World) (D:Nat->Prop) (hdr:Value) (fp:Nat->Prop) (g:Nat) (cells:List PV):Prop:=zaC σ w D hdr fp g cells\/zTe σ w D hdr fp g cells
theorem zNS.map {cells g:List PV} (h:zNS σ w D hdr fp e cells) (F:g.length=cells.length)
  (r:∀p,zSb p->cells[0]? = some p->g[0]? = some p) (B:∀(i:Nat) (c j:PV) (u:Value),cells[i]? = some c->g[i]? = some j->R σ w D c u->R σ' w' D' j u) (z:∀p u,RD w D p u->RD w' D' p u)
  (C:∀b,fp b->w'.heap[b]? = w.heap[b]?):zNS σ' w' D' hdr fp e g:=h.imp (fun h=>h.map F r B z C) fun h=>h.map F r B z C
theorem zNS.same {cells:List PV} (h:zNS σ w D hdr fp e cells) (z:∀(i:Nat) (c:PV) (u:Value),cells[i]? = some c->R σ w D c u->R σ' w' D' c u) (r:∀p u,RD w D p u->RD w' D' p u)
  (B:∀b,fp b->w'.heap[b]? = w.heap[b]?):zNS σ' w' D' hdr fp e cells :=
 h.map rfl (fun _ _ h=>h) (fun i c C u g j hr=>by rw [g] at j;cases j;exact z i c u g hr) r B
theorem zNS.plain {cells:List PV} (h:zNS σ w D hdr fp e cells) {b:Nat} (g:fp b):∃us t fr,w.heap[b]? = some (.cells us t fr):=h.elim (fun h=>h.plain g) fun h=>h.plain g
theorem zNS.noP {cells:List PV} (h:zNS σ w D hdr fp e cells):zfF hdr=none:=h.elim (fun h=>h.noP) fun h=>h.noP
theorem zgT {b:Nat} {us:List Value} {p:PV} {g:List PV} (M:zSb p) (H:us.length=(p::g).length) (h:zTZ σ w D b e us (p::g)):False:=by
 obtain ⟨l,rfl,_⟩:=M
 obtain ⟨_,h⟩:=h
 obtain ⟨C,us,rfl⟩:∃C F,us=C::F:=by
  cases us with
  | nil=>simp at H
  | cons u us=>exact ⟨u,us,rfl⟩
 have I:=h 0 _ C rfl rfl
 cases I with
 | d z=>cases z with
  | tup B r =>
   have j:=r 0 _ _ rfl (lC (by rw [<- B];simp))
   cases j
 | tup B r =>
  have j:=r 0 _ _ rfl (lC (by rw [<- B];simp))
  cases j with
  | d z=>cases z
  | sel J _=>simp at J
theorem hol_of {rows:List (List PV×Bool)} {g:List PV} {X:Prop} 
  (h:(∃(b:Nat) (us:List Value),X/\us.length=(hpx size kc ke i rows::g).length/\zTZ σ w D b e us (hpx size kc ke i rows::g))\/zNS σ w D hdr fp e (hpx size kc ke i rows::g)):zTe σ w D hdr fp e (hpx size kc ke i rows::g):=by
 rcases h with ⟨b,us,_,j,r⟩ | ⟨_,_,_,_,h,_⟩ | h
 ·exact (zgT ⟨_,rfl,rfl⟩ j r).elim
 ·simp at h
 ·exact h
def zCT (σ : Nat->Value) (w:World) (D:Nat->Prop) (hdr:Value) (fp:Nat->Prop):Blk->Prop
 | .box ty cells=>(∃b us,hdr=.pointer (some ⟨b,0,none⟩)/\(∀x,fp x↔x=b)/\us.length=cells.length/\zTZ σ w D b ty us cells)\/zNS σ w D hdr fp ty cells
 | .arr elem size rows=>(∀row:List PV,row∈rows->row.length=size) /\
   ((rows=[]/\(∃r,hdr=.slice r 0 0)/\∀x,¬fp x) \/
    ∃b us cap,hdr=.slice (some ⟨b,0,none⟩) rows.length cap/\(∀x,fp x↔x=b)/\us.length=cap*size/\(rows.length<=cap/\0<cap)/\cap<=maxLen/\(∃fr:Nat×Nat,w.heap[b]? = some (.cells ⟨us⟩ (elem % zLI) fr)/\(fr.1<fr.2->us.length<=fr.1)/\(lB elem zLI=true->fr=(0,0)))/\∀(i:Nat) (c:PV) (u:Value),rows.flatten[i]? = some c->us[i]? = some u->RD w D c u)
 | .siter s pos=>∃b,hdr=.pointer (some ⟨b,0,none⟩)/\(∀x,fp x↔x=b)/\w.heap[b]? = some (.stringIter s pos)
 | .tre elem size kc ke rows=>zHQ w D hdr fp elem size kc ke rows
 | .mp kvs=>∃b h g,hdr=.map (some b)/\(∀x,fp x↔x=b)/\w.heap[b]? = some (.map h g)/\h.size=kvs.length/\∀(i:Nat) (e:MapEntry) (j:Value×PV),h[i]? = some e->kvs[i]? = some j->e.key=j.1/\RD w D j.2 e.val
def Dof (X:Nat->Prop) (φ : Nat->Nat->Prop) (w:World) (S:zAC) (b:Nat):Prop:=b<w.heap.size/\¬X b/\∀n k,(n,k)∈S->¬φ n b
def zCQ (φ : Nat->Nat->Prop) (S:zAC) (b:Nat):Prop:=∃n k,(n,k)∈S /\ φ n b
structure Inv (X:Nat->Prop) (σ : Nat->Value) (φ : Nat->Nat->Prop) (w:World) (S:zAC):Prop where
 nodup:(S.map (·.1)).Nodup
 xlt:∀b,X b->b<w.heap.size
 lt:∀b,zCQ φ S b->b<w.heap.size/\¬X b
 disj:∀n m k l,(n,k)∈S->(m,l)∈S->n≠m->∀b,φ n b->¬φ m b
 ok:∀n k,(n,k)∈S->zCT σ w (Dof X φ w S) (σ n) (φ n) k
theorem Inv.plain {S:zAC} (h:Inv X σ φ w S) {b:Nat} (C:zCQ φ S b):(match w.heap[b]? with | some (.cells _ _ _) | some (.map _ _) | some (.stringIter _ _)=>true | _=>false)=true:=by
 obtain ⟨n,k,F,j⟩:=C
 have:=h.ok n k F
 cases k with
 | box M cells =>
  rcases this with ⟨r,us,_,g,_,⟨⟨fr,B,_⟩,_⟩⟩ | H
  ·rw [(g b).1 j,B]
  ·obtain ⟨us,t,fr,h⟩:=H.plain j;rw [h]
 | arr e s rows =>
  obtain ⟨_,h⟩:=this
  rcases h with ⟨_,_,g⟩ | ⟨r,us,cap,_,g,_,_,_,⟨fr,B,_⟩,_⟩
  ·exact absurd j (g b)
  ·rw [(g b).1 j,B]
 | siter s pos=>obtain ⟨r,_,g,z⟩:=this;rw [(g b).1 j,z]
 | mp I=>obtain ⟨r,J,cl,_,g,z,_⟩:=this;rw [(g b).1 j,z]
 | tre e s kc ke rows=>obtain ⟨us,t,fr,h⟩:=zHQ.plain this j;rw [h]
structure Fr (w0:World) (X0:Nat->Prop) (w:World):Prop where
 os:w.os=w0.os
 tape:w.tape=w0.tape
 output:w.output=w0.output
 size:w0.heap.size<=w.heap.size
 block:∀b,b<w0.heap.size->¬X0 b->w.heap[b]? = w0.heap[b]?
theorem Fr.refl (w:World) (X0:Nat->Prop):Fr w X0 w:=⟨rfl,rfl,rfl,cB _,fun _ _ _=>rfl⟩
theorem zBa {j:Nat} (h:¬i=j):lA i j=false:=by
 cases e:lA i j
 ·rfl
 ·exact absurd (lQ e) h
abbrev Env:=List (Nat×PV)
def lk:Env->Nat->Option PV
 | [],_=>none
 | (k,p)::E,t=>bif lA k t then some p else lk E t
def zQV (σ : Nat->Value) (w:World) (D:Nat->Prop) (E:Env) (tmps:Array Value):Prop :=
 ∀t p,lk E t=some p->∃u,tmps[t]? = some u/\R σ w D p u
def Lay (L:World->Prop) (X:Nat->Prop) (w:World):Prop:=∀w':World,(∀b,X b->b<w.heap.size->w'.heap[b]? = w.heap[b]?)->L w'
theorem Lay.here (h:Lay L X w):L w:=h w fun _ _ _=>rfl
theorem Lay.mono {X':Nat->Prop} (h:Lay L X w) (j:∀b,X b->b<w.heap.size->X' b):Lay L X' w:=fun w' z=>h w' fun b r g=>z b (j b r g) g
def Ends (w0:World) (X X0:Nat->Prop) (σ0:Nat->Value) (N0:List Nat) (post:PV->zAC->Prop) (e:Ending) (w:World):Prop :=
 ∃p S σ φ u,e=.returned u/\post p S/\Inv X σ φ w S/\R σ w (Dof X φ w S) p u/\Fr w0 X0 w/\(∀n∈N0,σ n = σ0 n)/\∀b,zCQ φ S b->b<w0.heap.size->X0 b
def RL (σ : Nat->Value) (w:World) (D:Nat->Prop) (ps:List PV) (us:List Value):Prop :=
 ps.length=us.length/\∀(i:Nat) (c:PV) (u:Value),ps[i]? = some c->us[i]? = some u->R σ w D c u
def FC (L:World->Prop) (P:Program) (f:FuncId) (args:List PV) (S:zAC) (N0:List Nat) (post:PV->zAC->Prop):Prop :=
 ∀(X:Nat->Prop) (σ : Nat->Value) (φ : Nat->Nat->Prop) (w:World) (us:List Value),Lay L (fun b=>¬zCQ φ S b) w->Inv X σ φ w S->RL σ w (Dof X φ w S) args us ->
  Calls P f ⟨us⟩ w (Ends w X (zCQ φ S) σ N0 post)
def DC (L:World->Prop) (P:Program) (f:FuncId) (args:List PV) (r:PV):Prop:=FC L P f args [] [] fun p S=>p=r/\S=[]
abbrev FR (ro:Option Nat):Fence:={ Fence.wide with round:=ro }
theorem zfz {f:FuncId} {R:Ending->World->Prop} (h:Calls P f args w R):CallsIn (FR ro) n P f args w R :=
 (callsIn_wide (n:=n)).2 h
theorem rowsFR {row:String} {R:Value->World->Prop} (h:Rows P row args w R):RowsIn (FR ro) n P row args w R :=
 fun c cs _=>let ⟨v,w',r,s⟩:=h c cs;⟨v,w',r,stepsIn_wide.2 s⟩
theorem zWJ {z:Nat} {Q:Exit->Act->World->Prop} (h:c.wpIn (FR ro) n P Q a w):c.wpIn (FR ro) z P Q a w :=
 fun b k cs g j _=>h b k cs g j fun d r=>by cases r
def zGR:Op->Bool
 | .defer _=>false
 | _=>true
theorem zM3 {o:Op} (h:zGR o=true):∀c,o≠.defer c:=fun c e=>by subst e;cases h
theorem zbj {o:Oper} {Q Q':Exit->Act->World->Prop} (j:∀c a w,¬Q (.panic c) a w) (B:¬LetsOut Q) (z:zGR o.op=true) {K:Act->World->Prop} {a:Act} {w:World} (h:o.wp P a w K Q):o.wpIn (FR ro) n P a w K Q':=by
 refine ⟨fun _ _=>trivial,?_⟩
 unfold Oper.wp at h
 rw [Oper.semAt_eq _ _ _ (zM3 z)]
 generalize (execOp a.eval o).run P w=r at h
 cases r with
 | ok x w' =>
  cases x with
  | enter f args =>
   refine ⟨fun h=>(by cases h),zfz (Calls.mono h fun e C g=>?_)⟩
   cases e with
   | returned v=>exact g
   | panicked c=>exact absurd g (j _ _ _)
   | outgrown=>exact absurd g B
  | row row args=>exact ⟨fun h=>(by cases h),rowsFR h⟩
  | value v=>exact h
  | skip=>exact h
  | defer d=>exact h
  | _=>exact h.elim
 | halt x w'=>cases x<;>first | exact absurd h (j _ _ _) | exact h.elim
theorem zRn {P:Program} {ro:Option Nat} {n:Nat} {all:Array Oper} {Q Q':Exit->Act->World->Prop} (r:∀c a w,¬Q (.panic c) a w) (j:∀a w,¬Q .outgrown a w) {l2:List Oper} (g:∀a w,Q .normal a w->wpListIn (FR ro) n P all Q' l2 a w) :
  ∀{l1:List Oper} {a:Act} {w:World},l1.all (fun o=>zGR o.op)=true->wpList P all Q l1 a w->wpListIn (FR ro) n P all Q' (l1++l2) a w
 | [],a,w,_,h=>g a w h
 | o::l1,a,w,hd,h=>by
  simp only [cK,lM] at hd
  have B:∀a w,wpList P all Q l1 a w->wpListIn (FR ro) n P all Q' (l1++l2) a w:=fun a w h=>zRn r j g hd.2 h
  have C:¬LetsOut Q:=fun ⟨a,w,h⟩=>j a w h
  unfold wpList at h
  show (if Region.wanted o (yielded all a.tmps) then o.wpIn (FR ro) n P a w (wpListIn (FR ro) n P all Q' (l1++l2)) Q' else _/\_)
  by_cases z:Region.wanted o (yielded all a.tmps)=true
  ·rw [iP z] at h ⊢
   rcases h with h | ⟨_,h⟩
   ·exact Oper.wpIn_mono B (zbj r C hd.1 h)
   ·exact absurd h C
  ·rw [iN z] at h ⊢
   exact ⟨fun _ _=>trivial,B _ _ h⟩
theorem zXj {P:Program} {ro:Option Nat} {n:Nat} {H:Region.Mode} {ops:Array Oper} {Q:Exit->Act->World->Prop} (C:∀c a w,¬Q (.panic c) a w) (r:∀a w,¬Q .outgrown a w) (z:ops.toList.all (fun o=>zGR o.op)=true) :
  ∀{fuel:Nat} {g:Array Bool} {a:Act} {w:World},wpAny P H ops Q fuel g a w->wpAnyIn (FR ro) n P H ops Q fuel g a w
 | 0,_,_,_,h=>h
 | fuel+1,g,a,w,h=>by
  refine ⟨h.1,fun i hi=>?_⟩
  have j:=h.2 i hi
  unfold wpOp at j
  unfold wpOpIn
  split
  ·rename_i B
   rw [B] at j
   exact zXj C r z j
  ·rename_i o B
   rw [B] at j
   simp only at j
   have I:zGR o.op=true:=lR.1 z o (by have:=Array.mem_of_getElem? B;simpa using this)
   by_cases F:Region.wanted o (yielded ops a.tmps)=true
   ·rw [iP F] at j ⊢
    rcases j with j | ⟨_,j⟩
    ·exact Oper.wpIn_mono (fun _ _ h=>zXj C r z h) (zbj C (fun ⟨a,w,h⟩=>r a w h) I j)
    ·exact absurd j fun ⟨a,w,h⟩=>r a w h
   ·rw [iN F] at j ⊢
    exact ⟨fun _ _=>trivial,zXj C r z j⟩
structure Ctx (ρ : Type) where
 P:Program
 fn:Func
 w0:World
 X:Nat->Prop
 X0:Nat->Prop
 σ0:Nat->Value
 N0:List Nat
 post : ρ -> PV->zAC->Prop
 dz:Nat
 L:World->Prop
 lay:Lay L (fun b=>¬X0 b) w0
 ro:Option Nat
def zXB (b:Nat):Deferred:={ target:=.collected b,args := #[] }
def DOk (z:Nat) (ds:List Deferred) (w:World):Prop:=∃g:List Nat,ds=g.map zXB/\g.Nodup/\∀b∈g,(0<z/\z<=b+1)/\w.heap[b]? = some (.deferred (some []))
theorem DOk.nil (z:Nat) (w:World):DOk z [] w:=⟨[],rfl,by simp,by simp⟩
def zP7:Option Obj->Bool
 | some (.cells _ _ _) | some (.map _ _) | some (.stringIter _ _)=>true
 | _=>false
theorem DOk.none (h:DOk 0 ds w):ds=[]:=by
 obtain ⟨g,j,_,r⟩:=h
 cases g with
 | nil=>exact j
 | cons b g=>exact absurd (r b (lH ..)).1.1 (Nat.lt_irrefl 0)
theorem DOk.keep {z:Nat} (h:DOk z ds w) (F:∀b,b<w.heap.size->zP7 w.heap[b]? = false->w'.heap[b]? = w.heap[b]?):DOk z ds w':=by
 obtain ⟨r,B,C,g⟩:=h
 refine ⟨r,B,C,fun b j=>⟨(g b j).1,?_⟩⟩
 rw [F b (Array.getElem?_eq_some_iff.1 (g b j).2).1 (by rw [(g b j).2];rfl)]
 exact (g b j).2
structure Pre' {ρ : Type} (G:Ctx ρ) (E:Env) (S:zAC) (a:Act) (w:World) (σ : Nat->Value) (φ : Nat->Nat->Prop):Prop where
 defers:DOk G.dz a.defers w
 size:a.tmps.size=G.fn.ntmps
 env:zQV σ w (Dof G.X φ w S) E a.tmps
 inv:Inv G.X σ φ w S
 fr:Fr G.w0 G.X0 w
 agree:∀n∈G.N0,σ n=G.σ0 n
 new:∀b,zCQ φ S b->b<G.w0.heap.size->G.X0 b
theorem Pre'.laid {ρ : Type} {G:Ctx ρ} {E:Env} {S:zAC} (h:Pre' G E S a w σ φ) {Y:Nat->Prop} (r:∀b,¬zCQ φ S b->Y b):Lay G.L Y w :=
 fun w' B=>G.lay w' fun b j g=>(B b (r b fun z=>j (h.new b z g)) (Nat.lt_of_lt_of_le g h.fr.size)).trans (h.fr.block b g j)
def Pre {ρ : Type} (G:Ctx ρ) (E:Env) (S:zAC) (a:Act) (w:World):Prop:=∃σ φ,Pre' G E S a w σ φ
inductive Kont (ρ : Type) where
 | seq (c:Code)
 | block (id:Nat)
 | iter (J : ρ -> Act->World->Prop)
 | loopK (J JR : ρ -> Act->World->Prop)
def topP {ρ : Type} (G:Ctx ρ) (r : ρ):Exit->Act->World->Prop
 | .normal,a,w | .ret,a,w=>LeavesInM Fence.wide 1 G.P G.fn a.tmps (Ends G.w0 G.X G.X0 G.σ0 G.N0 (G.post r)) a.defers .returning w
 | _,_,_=>False
theorem zhH {ρ : Type} {G:Ctx ρ} {r : ρ} {e:Exit} (h:topP G r e a w):bodyPostM Fence.wide 1 G.P G.fn (Ends G.w0 G.X G.X0 G.σ0 G.N0 (G.post r)) e a w:=by
 cases e<;>first | exact h | exact h.elim
def kwp {ρ : Type} (G:Ctx ρ) (r : ρ):List (Kont ρ)->Exit->Act->World->Prop
 | []=>topP G r
 | .seq c::K=>Exit.then (c.wpIn (FR G.ro) 0 G.P (kwp G r K)) (kwp G r K)
 | .block id::K=>Exit.inBlock id (kwp G r K)
 | .iter J::K=>Exit.then (J r) (kwp G r K)
 | .loopK J JR::_=>fun e a w=>match e with
  | .normal=>J r a w
  | .ret=>JR r a w
  | _=>False
theorem zDW {ρ : Type} {G:Ctx ρ} {r : ρ} {a:Act} {w:World}:∀{K:List (Kont ρ)},¬kwp G r K .outgrown a w
 | [],h=>h
 | .seq _::K,h=>zDW (K:=K) h
 | .block _::K,h=>zDW (K:=K) h
 | .iter _::K,h=>zDW (K:=K) h
 | .loopK _ _::_,h=>h
theorem zGe {ρ : Type} {G:Ctx ρ} {r : ρ} {a:Act} {w:World} {c:List PanicEntry}:∀{K:List (Kont ρ)},¬kwp G r K (.panic c) a w
 | [],h=>h
 | .seq _::K,h=>zGe (K:=K) h
 | .block _::K,h=>zGe (K:=K) h
 | .iter _::K,h=>zGe (K:=K) h
 | .loopK _ _::_,h=>h
def PW {ρ : Type} (G:Ctx ρ) (m:Option ρ) (c:Code) (K:List (Kont ρ)) (E:Env) (S:zAC):Prop :=
 ∀r,m=some r->∀a w,Pre G E S a w->c.wpIn (FR G.ro) 0 G.P (kwp G r K) a w
def PN {ρ : Type} (G:Ctx ρ) (m:Option ρ) (K:List (Kont ρ)) (E:Env) (S:zAC):Prop :=
 ∀r,m=some r->∀a w,Pre G E S a w->kwp G r K .normal a w
def PO {ρ : Type} (G:Ctx ρ) (m:Option ρ) (all:Array Oper) (ops:List Oper) (K:List (Kont ρ)) (E:Env) (S:zAC):Prop :=
 ∀r,m=some r->∀a w,Pre G E S a w->wpList G.P all (kwp G r K) ops a w
section rules
variable {ρ : Type} {G:Ctx ρ} {m:Option ρ} {K:List (Kont ρ)} {E:Env} {S:zAC}
theorem Pre'.dk {E:Env} {S:zAC} (h:Pre' G E S a w σ φ) (z:∀b,b<w.heap.size->¬zCQ φ S b->w'.heap[b]? = w.heap[b]?):DOk G.dz a.defers w' :=
 h.defers.keep fun b j g=>z b j fun r=>by have:=h.inv.plain r;unfold zP7 at g;rw [g] at this;cases this
theorem zTF {x y:Code} (h:PW G m x (.seq y::K) E S):PW G m (.seq x y) K E S:=fun r hr a w g=>wpIn_seq (h r hr a w g)
theorem zXL (h:PN G m K E S):PW G m .skip K E S:=fun r hr a w g=>wpIn_skip (h r hr a w g)
theorem zYZ (h:PW G m c (.block id::K) E S):PW G m (.block id c) K E S:=fun r hr a w g=>wpIn_block (h r hr a w g)
theorem zIz (h:PW G m c K E S):PN G m (.seq c::K) E S:=h
theorem zd9 (h:PN G m K E S):PN G m (.block id::K) E S:=h
theorem zFU {ops:List Oper} (h:PO G m ops.toArray ops K E S) (g:ops.all (fun o=>zGR o.op)=true:=by rfl):PW G m (.region id ops.toArray false) K E S :=
 fun r hr a w j=>wpIn_region_lit (by
  have:=zRn (ro:=G.ro) (n:=0) (l2:=[]) (Q':=kwp G r K) (fun _ _ _=>zGe) (fun _ _=>zDW) (fun _ _ h=>wpListIn_nil h) g (h r hr a w j)
  rwa [gI] at this)
theorem zGK (h:PN G m K E S):PO G m all [] K E S:=fun r hr a w g=>wpList_nil (h r hr a w g)
def zeG {ρ : Type} (id:Nat):List (Kont ρ)->Option (List (Kont ρ))
 | []=>none
 | .block j::K=>bif lA id j then some K else zeG id K
 | .seq _::K=>zeG id K
 | .iter _::K=>zeG id K
 | .loopK _ _::_=>none
theorem zQl {id:Nat} {r : ρ} {a:Act} {w:World}:∀{K K':List (Kont ρ)},zeG id K=some K'->kwp G r K' .normal a w->kwp G r K (.exit id) a w
 | [],_,h,_=>by simp [zeG] at h
 | .block j::K,K',h,hk=>by
  simp only [kwp,Exit.inBlock]
  by_cases e:id=j
  ·subst e;simp [zeG] at h;subst h;simpa using hk
  ·rw [iN e]
   have:=zBa e
   simp only [zeG,this,cond_false] at h
   exact zQl h hk
 | .seq _::K,K',h,hk=>zQl (K:=K) h hk
 | .iter _::K,K',h,hk=>zQl (K:=K) h hk
 | .loopK _ _::_,_,h,_=>by simp [zeG] at h
theorem zUY {K':List (Kont ρ)} (g:zeG id K=some K') (h:PN G m K' E S):PW G m (.exit id) K E S :=
 fun r hr a w j=>wpIn_exit (zQl g (h r hr a w j))
def noL {ρ : Type}:List (Kont ρ)->Bool
 | []=>true
 | .loopK _ _::_=>false
 | .seq _::K=>noL K
 | .block _::K=>noL K
 | .iter _::K=>noL K
theorem zRl {r : ρ} {a:Act} {w:World}:∀{K:List (Kont ρ)},noL K=true->kwp G r [] .ret a w->kwp G r K .ret a w
 | [],_,h=>h
 | .block _::K,hK,h=>zRl (K:=K) hK h
 | .seq _::K,hK,h=>zRl (K:=K) hK h
 | .iter _::K,hK,h=>zRl (K:=K) hK h
 | .loopK _ _::_,hK,_=>by cases hK
def Sub (g E:Env):Prop:=∀t p,lk g t=some p->lk E t=some p
def zOO:Env->Env->Prop
 | [],_=>True
 | (t,p)::E',E=>lk E t=some p/\zOO E' E
theorem zMm {E:Env}:∀{j:Env},zOO j E->Sub j E
 | [],_=>fun t p h=>by simp [lk] at h
 | (t,p)::j,h=>fun r z g=>by
  simp only [lk] at g
  by_cases e:t=r
  ·subst e;simp at g;subst g;exact h.1
  ·have:=zBa e
   simp only [this,cond_false] at g
   exact zMm h.2 r z g
theorem Pre.sub {g:Env} (r:Sub g E):Pre G E S a w->Pre G g S a w :=
 fun ⟨σ,φ,h⟩=>⟨σ,φ,{ h with env:=fun t p j=>h.env t p (r t p j) }⟩
theorem pw_sub {g:Env} (z:zOO g E) (h:PW G m c K g S):PW G m c K E S:=fun r hr a w j=>h r hr a w (j.sub (zMm z))
theorem pn_sub {g:Env} (z:zOO g E) (h:PN G m K g S):PN G m K E S:=fun r hr a w j=>h r hr a w (j.sub (zMm z))
def zXg {α : Type} (G:Ctx ρ) (M : α -> Option ρ) (g : α -> Env) (Sf : α -> zAC) (r : ρ) (a:Act) (w:World):Prop:=∃x,M x=some r/\Pre G (g x) (Sf x) a w
theorem zgp {α : Type} (M:Nat -> α -> Option ρ) (g : α -> Env) (Sf : α -> zAC) {body:Code} (H:∀x,M 0 x=none)
  (J:∀n x,PW G (M (n+1) x) body (.iter (zXg G (M n) g Sf)::K) (g x) (Sf x)) (n:Nat) (x : α) (I:zOO (g x) E) :
  PW G (M n x) (.loop body) K E (Sf x):=by
 intro r hr a w j
 refine wpIn_loop_rounds n ?_
 have C:∀n x a w,M n x=some r->Pre G (g x) (Sf x) a w->Code.roundsIn (FR G.ro) 0 G.P body (kwp G r K) n a w:=by
  intro n
  induction n with
  | zero=>intro x a w h;rw [H] at h;cases h
  | succ n N =>
   intro x a w h j
   refine wpIn_mono (J n x r h a w j) fun e F w' q=>?_
   cases e with
   | normal=>obtain ⟨Q,B,z⟩:=q;exact N Q F w' B z
   | _=>exact q
 exact C n x a w hr (j.sub (zMm I))
theorem zgf {α : Type} {M : α -> Option ρ} {g : α -> Env} {Sf : α -> zAC} (x : α) (h:zOO (g x) E):PN G (M x) (.iter (zXg G M g Sf)::K) E (Sf x) :=
 fun _ hr _ _ j=>⟨x,hr,j.sub (zMm h)⟩
end rules
end
section
variable {D:Nat->Prop} {u:Value} {n b:Nat} {t:TypeId} {α:Type} {cs:List PV}
def zT4 (P:Program) (f:Field):Option (Nat×Bool×Nat) :=
 match P.info? f.type,P.underlying f.type with
 | some i,some d=>some (f.offset,(match d with | .struct _ | .array _ _=>true | _=>false),i.size)
 | _,_=>none
def zZy {α g : Type} (f : α -> Option g):List α -> Option (List g)
 | []=>some []
 | x::l=>match f x with
  | some y=>(match zZy f l with
   | some m=>some (y::m)
   | none=>none)
  | none=>none
theorem zgS {g:Type} {f : α -> Option g} {l:List α} {m:List g} (h:zZy f l=some m) {i:Nat} {y : g} (hi:m[i]? = some y):∃x,l[i]? = some x/\f x=some y:=by
 induction l generalizing m i with
 | nil=>simp [zZy] at h;subst h;simp at hi
 | cons x l r =>
  simp only [zZy] at h
  split at h<;>try simp at h
  rename_i z hz
  split at h<;>simp at h
  rename_i q j
  subst h
  cases i with
  | zero=>simp at hi;subst hi;exact ⟨x,rfl,hz⟩
  | succ i=>exact r j hi
def zOi (P:Program) (s:TypeId):Option (List (Nat×Bool×Nat)) :=
 match P.underlying s with
 | some (.struct fs)=>zZy (zT4 P) fs.toList
 | _=>none
def zc2 (P:Program) (t:TypeId):Option (Bool×Nat) :=
 match P.info? t,P.underlying t with
 | some i,some d=>some ((match d with | .struct _ | .array _ _=>true | _=>false),i.size)
 | _,_=>none
def elOf (P:Program) (t:TypeId):Option (Nat×Nat×Nat) :=
 match P.underlying t with
 | some (.slice e)=>(P.info? e).map fun i=>(e,i.size,i.bytes)
 | _=>none
inductive Base where
 | bool | string | int (k:IntKind)
 deriving DecidableEq
def zKH (P:Program) (t:TypeId):Option Base :=
 match P.underlying t with
 | some .bool=>some .bool
 | some .string=>some .string
 | some (.int k)=>some (.int k)
 | _=>none
def lku {α : Type}:List (Nat × α)->Nat->Option α
 | [],_=>none
 | (k,x)::l,t=>bif lA k t then some x else lku l t
theorem zAc {l:List (Nat × α)} {t:Nat} {x : α} (h:lku l t=some x):(t,x)∈l:=by
 induction l with
 | nil=>simp [lku] at h
 | cons y l g =>
  obtain ⟨k,z⟩:=y
  simp only [lku] at h
  cases e:lA k t
  ·simp only [e,cond_false] at h;exact lG _ (g h)
  ·simp only [e,cond_true,lJ.injEq] at h
   have:=lQ e
   subst this;subst h;exact lH ..
structure Tab (P:Program) where
 flds:List (Nat×List (Nat×Bool×Nat))
 tys:List (Nat×Bool×Nat)
 els:List (Nat×Nat×Nat×Nat)
 bases:List (Nat×Base)
 zeros:List (Nat×Value)
 hflds:∀x∈flds,zOi P x.1=some x.2
 htys:∀x∈tys,zc2 P x.1=some x.2
 hels:∀x∈els,elOf P x.1=some x.2
 hbases:∀x∈bases,zKH P x.1=some x.2
 hzeros:∀x∈zeros,(P.info? x.1).bind (·.zero)=some x.2
def zXS {α : Type}:Nat->List α -> Option (List α)
 | 0,_=>some []
 | _+1,[]=>none
 | n+1,c::cs=>match zXS n cs with
  | some l=>some (c::l)
  | none=>none
theorem zUh {l m:List α} (h:zXS n l=some m):m=l.take n/\m.length=n:=by
 induction n generalizing l m with
 | zero=>simp [zXS] at h;subst h;simp
 | succ n r =>
  cases l with
  | nil=>simp [zXS] at h
  | cons c l =>
   simp only [zXS] at h
   cases e:zXS n l with
   | none=>simp [e] at h
   | some q =>
    obtain ⟨g,j⟩:=r e
    simp only [e,lJ.injEq] at h
    subst h
    exact ⟨by simp [g],by simp [j]⟩
def zVf {α : Type}:List α -> Nat->Option α
 | [],_=>none
 | c::_,0=>some c
 | _::cs,n+1=>zVf cs n
theorem zKX {l:List α}:zVf l n=l[n]? := by
 induction l generalizing n with
 | nil=>simp [zVf]
 | cons c l g=>cases n<;>simp [zVf,g]
def ev (E:Env):Operand->Option PV
 | .tmp t=>lk E t
 | .const x=>bif zSy x then some (.v x) else none
 | .func f=>some (.fn (.func f) [] [])
 | .global _=>none
section
variable {P:Program} {T:Tab P} {E:Env} {S:zAC} {σ : Nat->Value} {w:World} {X:Nat->Prop} {φ : Nat->Nat->Prop} {a:Act}
theorem zAm (r:zQV σ w D E a.tmps) {x:Operand} {p:PV} (h:ev E x=some p):R σ w D p (a.eval x):=by
 cases x with
 | tmp t =>
  obtain ⟨u,z,hr⟩:=r t p h
  have:a.eval (.tmp t)=u:=by simp only [Act.eval,cL,z,cM]
  rw [this];exact hr
 | const v =>
  simp only [ev] at h
  cases e:zSy v
  ·simp [e] at h
  ·simp [e] at h;subst h;exact .d (.v e)
 | global g=>simp [ev] at h
 | func f =>
  simp only [ev,lJ.injEq] at h
  subst h
  exact .fn rfl rfl (fun i c u j=>by simp at j) (fun i c u j=>by simp at j)
def lkS:zAC->Nat->Option Blk
 | [],_=>none
 | (k,b)::S,n=>bif lA k n then some b else lkS S n
theorem zAl {S:zAC} {b:Blk} (h:lkS S n=some b):(n,b)∈S:=zAc (l:=S) (by
 have:∀S:zAC,lkS S n=lku S n:=by
  intro S;induction S with
  | nil=>rfl
  | cons x S g=>obtain ⟨k,c⟩:=x;simp [lkS,lku,g]
 rw [<- this];exact h)
def zJf (S:zAC):PV->Option (List PV)
 | .loc n off=>match lkS S n with
  | some (.box _ cs)=>some (cs.drop off)
  | _=>none
 | .el g off=>some (g.drop off)
 | .ela n size i off=>match lkS S n with
  | some (.arr _ sz rows)=>bif lA size sz then (match rows[i]? with
   | some g=>some (g.drop off)
   | none=>none) else none
  | _=>none
 | _=>none
theorem zEC {rows:List (List PV)} {size i off:Nat} {row:List PV} (g:∀r∈rows,r.length=size) (hi:rows[i]? = some row) (z:off<size):rows.flatten[i*size+off]? = row[off]? := by
 induction rows generalizing i with
 | nil=>simp at hi
 | cons r rows j =>
  have hr:r.length=size:=g r (lH ..)
  cases i with
  | zero =>
   simp at hi;subst hi
   simp [lN (show off<r.length by omega)]
  | succ i =>
   simp only [lX] at hi
   have:=j (fun q h=>g q (lG _ h)) hi
   rw [gJ,cC (by rw [hr,lP];omega),<- this]
   congr 1
   rw [hr,lP];omega
theorem zQh (h:u=.pointer (some ⟨b,0,none⟩)):zfF u=some b:=by subst h;rfl
theorem zHV {c:Nat} (h:u=.slice (some ⟨b,0,none⟩) n c):hdrB u=some b:=by subst h;rfl
theorem zCZ (b off k:Nat):(⟨b,off,none⟩:Addr).add k=⟨b,off+k,none⟩:=by unfold Addr.add;split<;>simp_all
theorem zBN {i:Nat} {g:TypeId} {us:List Value} {fr:Nat×Nat} (h:w.heap[b]? = some (.cells ⟨us⟩ g fr)):w.cell? ⟨b,i,none⟩=us[i]? := by
 simp [World.cell?,h]
theorem zSm (hi:Inv X σ φ w S) {p:PV} {u:Value} {cs:List PV} (h:zJf S p=some cs) (hr:R σ w (Dof X φ w S) p u) :
  ∃N,u=.pointer (some N)/\∀(k:Nat) (c:PV),cs[k]? = some c->∃x,w.cell? (N.add k)=some x/\R σ w (Dof X φ w S) c x:=by
 cases hr with
 | loc F =>
  rename_i n C b
  simp only [zJf] at h
  split at h<;>simp at h
  subst h
  rename_i cs' hl
  rcases hi.ok n _ (zAl hl) with V | hw
  rotate_left
  ·rw [hw.noP] at F;cases F
  obtain ⟨Q,us,hh,_,z,⟨⟨fr,I,_⟩,j⟩⟩:=V
  have:Q=b:=by rw [zQh hh] at F;simpa using F
  subst this
  refine ⟨_,rfl,fun k c r=>?_⟩
  rw [cD] at r
  have B:C+k<us.length:=by rw [z];exact (lF.1 r).1
  rw [zCZ,zBN I]
  exact ⟨_,lC B,j _ _ _ r (lC B)⟩
 | ela F =>
  rename_i n size i C b
  simp only [zJf] at h
  split at h<;>try simp at h
  rename_i elem sz rows hl
  cases hz:lA size sz<;>simp only [hz,cond_true,cond_false] at h
  ·simp at h
  have hz':=lQ hz
  subst hz'
  split at h<;>simp at h
  rename_i H g
  subst h
  obtain ⟨M,hb⟩:=hi.ok n _ (zAl hl)
  rcases hb with ⟨h0,_⟩ | ⟨Q,us,cap,hh,_,z,⟨hcap,_⟩,_,⟨fr,I,_⟩,j⟩
  ·subst h0;simp at g
  have:Q=b:=by rw [zHV hh] at F;simpa using F
  subst this
  refine ⟨_,rfl,fun k c r=>?_⟩
  rw [cD] at r
  have hro:H.length=size:=M H (lU g)
  have J:C+k<size:=by rw [<- hro];exact (lF.1 r).1
  have hil:i<rows.length:=(lF.1 g).1
  have W:=zEC M g J
  have B:i*size+(C+k)<us.length:=by
   rw [z]
   have:(i+1)*size<=cap*size:=lO _ (by omega)
   rw [lP] at this
   omega
  rw [zCZ,zBN I,cV]
  exact ⟨_,lC B,.d (j _ _ _ (W.trans r) (lC B))⟩
 | d hd =>
  cases hd with
  | el f hD I j =>
   rename_i H C N
   simp only [zJf,lJ.injEq] at h
   subst h
   refine ⟨_,rfl,fun k c r=>?_⟩
   rw [cD] at r
   rw [zPF]
   exact ⟨_,I _ _ r,.d (j _ _ r)⟩
  | _=>simp [zJf] at h
 | _=>simp [zJf] at h
def zNW (g:Bool) (n:Nat) (cs:List PV):Option PV :=
 match g with
 | true=>(match zXS n cs with
  | some l=>some (.agg l)
  | none=>none)
 | false=>zVf cs 0
theorem zIi {g:Bool} (h:zc2 P t=some (g,n)):(isAgg t).run P w=.ok g w/\(sizeOf t).run P w=.ok n w:=by
 unfold zc2 at h
 split at h<;>simp at h
 rename_i i d hi r
 obtain ⟨z,j⟩:=h
 refine ⟨?_,by simp [sizeOf,typeInfo,hi,j]⟩
 simp only [isAgg,Sem.run_bind,run_underlying r,Result.andThen_ok]
 cases d<;>simp_all [Pure.pure]
theorem zTC {ad:Addr} (z:∀(k:Nat) (c:PV),cs[k]? = some c->∃x,w.cell? (ad.add k)=some x/\R σ w D c x) :
  ∃us:List Value,us.length=cs.length/\∀(k:Nat) (x:Value),us[k]? = some x->w.cell? (ad.add k)=some x/\∀c,cs[k]? = some c->R σ w D c x:=by
 refine ⟨(cW cs.length).map fun k=>(w.cell? (ad.add k)).getD undef,by simp,fun k x r=>?_⟩
 simp only [lK] at r
 have g:k<cs.length:=by
  rcases lY k cs.length with h | h
  ·exact h
  ·simp [cX (show (cW cs.length).length<=k by simpa using h)] at r
 obtain ⟨y,hy,hr⟩:=z k _ (lC g)
 rw [cY g] at r
 simp [hy] at r
 subst r
 exact ⟨hy,fun c j=>by rw [lC g] at j;cases j;exact hr⟩
theorem zW6 (hi:Inv X σ φ w S) {t:TypeId} {g:Bool} {n:Nat} (ht:zc2 P t=some (g,n)) {p q:PV} {u:Value} {cs:List PV} (hr:R σ w (Dof X φ w S) p u)
  (H:zJf S p=some cs) (r:zNW g n cs=some q):∃x,(Instr.loadAt t u).run P w=.ok x w/\R σ w (Dof X φ w S) q x:=by
 obtain ⟨C,rfl,Q⟩:=zSm hi H hr
 obtain ⟨N,V⟩:=zIi (w:=w) ht
 cases g with
 | false =>
  simp only [zNW] at r
  rw [zKX] at r
  obtain ⟨x,hx,M⟩:=Q 0 _ r
  simp only [Addr.add,if_true] at hx
  exact ⟨x,by simp [Instr.loadAt,Instr.sureAddr,loadVar,N,hx],M⟩
 | true =>
  simp only [zNW] at r
  split at r<;>simp at r
  rename_i l hl
  subst r
  obtain ⟨I,J⟩:=zUh hl
  obtain ⟨us,h,z⟩:=zTC (cs:=l) (ad:=C) (fun k c B=>Q k c (by
   rw [I,lV] at B
   split at B
   ·exact B
   ·simp at B))
  refine ⟨.agg ⟨us⟩,?_,.agg h.symm fun i c x F hx=>(z i x hx).2 c F⟩
  have:=run_loadCells_list (P:=P) w C us (fun j v W=>(z j v W).1)
  rw [h,J] at this
  simp [Instr.loadAt,Instr.sureAddr,loadVar,N,V,this]
def cmpE:BinOp->Int->Int->Option Bool
 | .eql,x,y=>some (x==y)
 | .neq,x,y=>some (x != y)
 | .lss,x,y=>some (decide (x<y))
 | .leq,x,y=>some (decide (x<=y))
 | .gtr,x,y=>some (decide (x>y))
 | .geq,x,y=>some (decide (x>=y))
 | _,_,_=>none
def binE (g:BinOp) (b:Option Base):PV->PV->Option PV
 | .v (.int k x),.v (.int k' y)=>bif decide (k=k') then (match cmpE g x y with
  | some r=>some (.v (.bool r))
  | none=>none) else none
 | .v (.string x),.v (.string y)=>match g with
  | .eql=>some (.v (.bool (x.data.toList==y.data.toList)))
  | .neq=>some (.v (.bool !(x.data.toList==y.data.toList)))
  | _=>none
 | .v (.bool x),.v (.bool y)=>match b with
  | some .bool=>(match g with
   | .eql=>some (.v (.bool (x==y)))
   | .neq=>some (.v (.bool !(x==y)))
   | _=>none)
  | _=>none
 | _,_=>none
def unE:UnOp->PV->Option PV
 | .not,.v (.bool b)=>some (.v (.bool !b))
 | _,_=>none
def lenE (S:zAC):PV->Option Int
 | .v (.slice none 0 0)=>some 0
 | .sl _ _ rows=>some (rows.length:Nat)
 | .own n=>match lkS S n with
  | some (.arr _ _ rows)=>some (rows.length:Nat)
  | _=>none
 | .bsl _ l=>some (l:Nat)
 | _=>none
def evL (E:Env):List Operand->Option (List PV)
 | []=>some []
 | x::l=>match ev E x with
  | some p=>(match evL E l with
   | some ps=>some (p::ps)
   | none=>none)
  | none=>none
def zR9:PV->Nat->Option PV
 | .loc n off,k=>some (.loc n (off+k))
 | .el row off,k=>some (.el row (off+k))
 | .ela n size i off,k=>some (.ela n size i (off+k))
 | _,_=>none
def zfC (h:List (Nat×Bool×Nat)) (f:Nat) (cs:List PV):Option PV :=
 match zVf h f with
 | some (off,g,n)=>zNW g n (cs.drop off)
 | none=>none
def ev1 (T:Tab P) (E:Env) (S:zAC):Op->Option PV
 | .move x | .assign x=>ev E x
 | .pick c x y=>match ev E c with
  | some (.v (.bool true))=>ev E x
  | some (.v (.bool false))=>ev E y
  | _=>none
 | .fieldAddr s x f=>match lku T.flds s,ev E x with
  | some fs,some p=>(match zVf fs f with
   | some (off,_,_+1)=>zR9 p off
   | _=>none)
  | _,_=>none
 | .load t x=>match lku T.tys t,ev E x with
  | some (g,n),some p=>(match zJf S p with
   | some cs=>zNW g n cs
   | none=>none)
  | _,_=>none
 | .field s x f=>match lku T.flds s,ev E x with
  | some fs,some (.agg cs)=>zfC fs f cs
  | _,_=>none
 | .binOp op t x y _=>match ev E x,ev E y with
  | some p,some q=>binE op (lku T.bases t) p q
  | _,_=>none
 | .unOp op _ x=>match ev E x with
  | some p=>unE op p
  | none=>none
 | .makeFunc f first cap=>match evL E first.toList,evL E cap.toList with
  | some ps,some qs=>some (.fn f ps qs)
  | _,_=>none
 | .extract x i=>match ev E x with
  | some (.tup cs)=>zVf cs i
  | _=>none
 | .nilCheck x=>match ev E x with
  | some (.loc n off)=>some (.loc n off)
  | some (.el row off)=>some (.el row off)
  | some (.ela n size i off)=>some (.ela n size i off)
  | _=>none
 | .call c=>match c.callee,c.args.toList,c.argTypes.toList with
  | .builtin .len,[x],[t]=>(match ev E x with
   | some (.v (.string s))=>(match lku T.bases t with
    | some .string=>some (.v (.int .i64 (s.size:Nat)))
    | _=>none)
   | some p=>(match lku T.els t,lenE S p with
    | some _,some n=>some (.v (.int .i64 n))
    | _,_=>none)
   | none=>none)
  | _,_,_=>none
 | _=>none
theorem R.flat_inv {x:Value} (h:R σ w D (.v x) u):u=x/\zSy x=true:=by
 cases h with
 | d g=>cases g with
  | v hx=>exact ⟨rfl,hx⟩
theorem R.agg_inv (h:R σ w D (.agg cs) u) :
  ∃us:List Value,u=.agg ⟨us⟩/\cs.length=us.length/\∀(i:Nat) (c:PV) (x:Value),cs[i]? = some c->us[i]? = some x->R σ w D c x:=by
 cases h with
 | d B=>cases B with
  | agg j g=>exact ⟨_,rfl,j,fun i c x r z=>.d (g i c x r z)⟩
 | agg j g=>exact ⟨_,rfl,j,g⟩
theorem R.tup_inv (h:R σ w D (.tup cs) u) :
  ∃us:List Value,u=.tuple ⟨us⟩/\cs.length=us.length/\∀(i:Nat) (c:PV) (x:Value),cs[i]? = some c->us[i]? = some x->R σ w D c x:=by
 cases h with
 | d B=>cases B with
  | tup j g=>exact ⟨_,rfl,j,fun i c x r z=>.d (g i c x r z)⟩
 | tup j g=>exact ⟨_,rfl,j,g⟩
theorem zau {D:Nat->Prop} (z:zQV σ w D E a.tmps):∀{l:List Operand} {ps:List PV},evL E l=some ps->RL σ w D ps (l.map a.eval)
 | [],ps,h=>by simp [evL] at h;subst h;exact ⟨rfl,fun i c u g=>by simp at g⟩
 | x::l,ps,h=>by
  simp only [evL] at h
  split at h<;>try simp at h
  rename_i p F
  split at h<;>simp at h
  rename_i qs j
  subst h
  obtain ⟨B,C⟩:=zau z j
  refine ⟨by simp [B],fun i c u g r=>?_⟩
  cases i with
  | zero=>simp at g r;subst g r;exact zAm z F
  | succ i=>exact C i c u (by simpa using g) (by simpa using r)
theorem zOz {p q:PV} {k:Nat} (hr:R σ w D p u) (h:zR9 p k=some q):∃j,u=.pointer (some j)/\R σ w D q (.pointer (some (j.add k))):=by
 cases hr with
 | loc g=>simp [zR9] at h;subst h;refine ⟨_,rfl,?_⟩;rw [zCZ];exact .loc g
 | ela g=>simp [zR9] at h;subst h;refine ⟨_,rfl,?_⟩;rw [zCZ,cV];exact .ela g
 | d C=>cases C with
  | el f r z B=>simp [zR9] at h;subst h;refine ⟨_,rfl,?_⟩;rw [zPF];exact .d (.el f r z B)
  | _=>simp [zR9] at h
 | _=>simp [zR9] at h
theorem zgc {g:Bool} {off:Nat} (M:zc2 P t=some (g,n)) {cs:List PV} {us:List Value} (H:cs.length=us.length)
  (F:∀(i:Nat) (c:PV) (x:Value),cs[i]? = some c->us[i]? = some x->R σ w D c x) {q:PV} (r:zNW g n (cs.drop off)=some q):∃x,(part t ⟨us⟩ off).run P w=.ok x w/\R σ w D q x:=by
 obtain ⟨C,I⟩:=zIi (w:=w) M
 cases g with
 | false =>
  simp only [zNW,zKX,cD,cH] at r
  have j:off<us.length:=by rw [<- H];exact (lF.1 r).1
  refine ⟨us[off],?_,F off _ _ r (lC j)⟩
  simp [part,C,lC j]
 | true =>
  simp only [zNW] at r
  split at r<;>simp at r
  rename_i l B
  subst r
  obtain ⟨z,J⟩:=zUh B
  refine ⟨.agg ⟨(us.drop off).take n⟩,?_,.agg (by rw [z];simp [H]) fun i c x h hx=>?_⟩
  ·simp only [part,C,I,Sem.run_bind,Result.andThen_ok,if_true,Sem.run_pure]
   congr 2
   apply cF.1
   simp [List.extract_eq_take_drop,Nat.add_sub_cancel_left]
  ·rw [z,lV] at h
   rw [lV] at hx
   split at h
   ·rename_i j
    rw [iP j] at hx
    rw [cD] at h hx
    exact F _ _ _ h hx
   ·simp at h
theorem zRb {s:TypeId} {j:List (Nat×Bool×Nat)} (h:zOi P s=some j) {f:Nat} {off n:Nat} {g:Bool} (r:zVf j f=some (off,g,n)) :
  ∃(l:Array Field) (x:Field),P.underlying s=some (.struct l)/\l[f]? = some x/\x.offset=off/\zc2 P x.type=some (g,n):=by
 unfold zOi at h
 split at h<;>try simp at h
 rename_i l H
 rw [zKX] at r
 obtain ⟨x,hx,hy⟩:=zgS h r
 unfold zT4 at hy
 split at hy<;>simp at hy
 rename_i i d hi F
 obtain ⟨z,B,C⟩:=hy
 refine ⟨l,x,H,by simpa using hx,z,?_⟩
 simp [zc2,hi,F,C]
 exact B
theorem zf3 {g:BinOp} {x y:Int} {r:Bool} (h:cmpE g x y=some r):(Op.intCmp g x y).run P w=.ok (.bool r) w/\(g≠.add/\g≠.sub/\g≠.mul/\g≠.quo/\g≠.rem/\g≠.and/\g≠.or/\g≠.xor/\g≠.andNot/\g≠.shl/\g≠.shr):=by
 cases g<;>simp [cmpE] at h<;>subst h<;>exact ⟨rfl,by simp⟩
theorem zG8 {g:BinOp} {x y:Operand} {v:Value} (h:∀k l,¬(u=.agg k/\v=.agg l)) (j:¬(u=.nilIface/\v=.nilIface)):(eqGuard g t x y u v).run P w=.ok () w:=by
 cases g<;>first
  | rfl
  | (cases u<;>cases v<;>first | rfl | (exact absurd ⟨rfl,rfl⟩ j) | (exact absurd ⟨rfl,rfl⟩ (h _ _)))
theorem bin_ok {B:BinOp} {x y:Operand} {p q r:PV} {v:Value} (C:R σ w D p u) (F:R σ w D q v) {b:Option Base} (I:∀z,b=some z->zKH P t=some z)
  (h:binE B b p q=some r):∃z,(do eqGuard B t x y u v;binOp B t u v:Sem Value).run P w=.ok z w/\R σ w D r z:=by
 unfold binE at h
 split at h
 ·rename_i k Q M V
  obtain ⟨rfl,_⟩:=C.flat_inv
  obtain ⟨rfl,_⟩:=F.flat_inv
  by_cases H:k=M
  ·subst H
   simp only [decide_true,cond_true] at h
   split at h<;>simp at h
   rename_i c J
   subst h
   obtain ⟨hr,N⟩:=zf3 (P:=P) (w:=w) J
   refine ⟨.bool c,?_,.d (.v rfl)⟩
   rw [Sem.run_bind,zG8 (by simp) (by simp),Result.andThen_ok]
   rw [<- hr]
   cases B<;>simp_all [binOp]
  ·simp [H] at h
 ·obtain ⟨rfl,_⟩:=C.flat_inv
  obtain ⟨rfl,_⟩:=F.flat_inv
  split at h<;>simp at h<;>subst h<;>refine ⟨_,?_,.d (.v rfl)⟩ <;>
   (rw [Sem.run_bind,zG8 (by simp) (by simp),Result.andThen_ok];simp [binOp,Op.stringOp,ByteArray.toList_eq])
 ·obtain ⟨rfl,_⟩:=C.flat_inv
  obtain ⟨rfl,_⟩:=F.flat_inv
  split at h<;>try simp at h
  have j:=I _ rfl
  have g:P.underlying t=some .bool:=by
   unfold zKH at j
   split at j<;>simp_all
  split at h<;>simp at h<;>subst h<;>refine ⟨_,?_,.d (.v rfl)⟩<;>rw [Sem.run_bind,zG8 (by simp) (by simp),Result.andThen_ok]
  ·exact run_eql_bool w t _ _ g
  ·exact run_neq_bool w t _ _ g
 ·simp at h
theorem zBF {e:Nat} (h:elOf P t=some (e,n,b)):P.underlying t=some (.slice e)/\∃i,P.info? e=some i/\i.size=n/\i.bytes=b:=by
 unfold elOf at h
 split at h<;>simp at h
 rename_i C B
 obtain ⟨i,g,j,r,z⟩:=h
 subst j
 exact ⟨B,i,g,r,z⟩
theorem zH0 (h:zKH P t=some .string):P.underlying t=some .string:=by
 unfold zKH at h
 split at h<;>simp_all
theorem zOX {k:IntKind} (h:zKH P t=some (.int k)):P.underlying t=some (.int k):=by
 unfold zKH at h
 split at h<;>simp_all
theorem len_ok (hi:Inv X σ φ w S) {t ty:TypeId} {x:Nat×Nat×Nat} (F:elOf P t=some x) {p:PV} {u:Value} (r:R σ w (Dof X φ w S) p u) {n:Int} (h:lenE S p=some n) :
  (Builtin.len_ #[t] ty #[u]).run P w=.ok (.int .i64 n) w:=by
 have g:∀a m c,u=.slice a m c->(m:Int)=n->(Builtin.len_ #[t] ty #[u]).run P w=.ok (.int .i64 n) w:=by
  rintro a m c rfl rfl
  simp [Builtin.len_,run_underlying (zBF F).1,goInt]
 unfold lenE at h
 split at h
 ·simp at h;subst h
  obtain ⟨rfl,_⟩:=r.flat_inv
  exact g _ _ _ rfl rfl
 ·simp at h;subst h
  cases r with
  | d j=>cases j with
   | nil=>exact g _ _ _ rfl (by simp)
   | sl=>exact g _ _ _ rfl (by simp)
 ·split at h<;>simp at h
  rename_i C
  subst h
  obtain ⟨_,B⟩:=hi.ok _ _ (zAl C)
  cases r with
  | own =>
   rcases B with ⟨rfl,⟨_,z⟩,_⟩ | ⟨b,us,cap,z,_⟩
   ·exact g _ _ _ z (by simp)
   ·exact g _ _ _ z (by simp)
  | d j=>cases j
 ·simp at h
  subst h
  cases r with
  | bsl=>exact g _ _ _ rfl rfl
  | d j=>cases j
 ·simp at h
theorem zat (hi:Inv X σ φ w S) (r:zQV σ w (Dof X φ w S) E a.tmps) {o:Oper} {p:PV} (h:ev1 T E S o.op=some p):∃u,(execOp a.eval o).run P w=.ok (.value u) w/\R σ w (Dof X φ w S) p u:=by
 have val:∀(s:Sem Value) (q:PV),(∃u,s.run P w=.ok u w/\R σ w (Dof X φ w S) q u)->∃u,(do pure (Next.value (<- s)):Sem Next).run P w=.ok (.value u) w/\R σ w (Dof X φ w S) q u:=by
  rintro s q ⟨u,j,H⟩
  exact ⟨u,by simp [j],H⟩
 unfold ev1 at h
 split at h
 case h_1 x ho=>exact ⟨_,by simp [execOp,ho],zAm r h⟩
 case h_2 x ho=>exact ⟨_,by simp [execOp,ho],zAm r h⟩
 case h_3 c x y ho =>
  split at h
  ·rename_i N
   obtain ⟨j,_⟩:=(zAm r N).flat_inv
   exact ⟨_,by simp [execOp,ho,j,asBool],zAm r h⟩
  ·rename_i N
   obtain ⟨j,_⟩:=(zAm r N).flat_inv
   exact ⟨_,by simp [execOp,ho,j,asBool],zAm r h⟩
  ·simp at h
 case h_4 s x f ho =>
  split at h<;>try simp at h
  rename_i fs q J C
  split at h<;>try simp at h
  rename_i off g n M
  obtain ⟨l,fl,j,H,Q,h4⟩:=zRb (T.hflds _ (zAc J)) M
  obtain ⟨F,h5,h6⟩:=zOz (zAm r C) h
  obtain ⟨_,h7⟩:=zIi (w:=w) h4
  refine ⟨_,?_,h6⟩
  simp [execOp,ho,Instr.fieldAt,run_underlying j,H,h5,Instr.sureAddr,fieldPlace,h7,Q]
 case h_5 t x ho =>
  split at h<;>try simp at h
  rename_i g n q ht C
  split at h<;>try simp at h
  rename_i cs hcs
  simp only [execOp,ho]
  exact val _ _ (zW6 hi (T.htys _ (zAc ht)) (zAm r C) hcs h)
 case h_6 s x f ho =>
  split at h<;>try simp at h
  rename_i fs cs J C
  unfold zfC at h
  split at h<;>try simp at h
  rename_i off g n M
  obtain ⟨l,fl,j,H,Q,h4⟩:=zRb (T.hflds _ (zAc J)) M
  obtain ⟨us,h5,h6,h7⟩:=(zAm r C).agg_inv
  obtain ⟨z,hz,hr⟩:=zgc (w:=w) h4 h6 h7 h
  refine ⟨z,?_,hr⟩
  simp [execOp,ho,Instr.field,run_underlying j,H,h5,asAgg,Q,hz]
 case h_7 op t x y yt ho =>
  split at h<;>try simp at h
  rename_i q1 q2 j H
  simp only [execOp,ho]
  exact val _ _ (bin_ok (zAm r j) (zAm r H) (fun z hz=>T.hbases _ (zAc hz)) h)
 case h_8 op t x ho =>
  split at h<;>try simp at h
  rename_i q C
  unfold unE at h
  split at h<;>simp at h
  subst h
  obtain ⟨j,_⟩:=(zAm r C).flat_inv
  exact ⟨_,by simp [execOp,ho,j,Op.unary],.d (.v rfl)⟩
 case h_9 f first cap ho =>
  split at h<;>simp at h
  rename_i ps qs hp C
  subst h
  obtain ⟨l1,r1⟩:=zau r hp
  obtain ⟨l2,r2⟩:=zau r C
  refine ⟨.func f ⟨first.toList.map a.eval⟩ ⟨cap.toList.map a.eval⟩,?_,.fn l1 l2 r1 r2⟩
  have e1:first.map a.eval=⟨first.toList.map a.eval⟩:=cF.1 (by simp)
  have e2:cap.map a.eval=⟨cap.toList.map a.eval⟩:=cF.1 (by simp)
  simp only [execOp,ho,Instr.makeFunc,<- e1,<- e2]
  rfl
 case h_10 x i ho =>
  split at h<;>try simp at h
  rename_i cs C
  rw [zKX] at h
  obtain ⟨us,j,H,Q⟩:=(zAm r C).tup_inv
  have V:i<us.length:=by rw [<- H];exact (lF.1 h).1
  refine ⟨us[i],?_,Q i _ _ h (lC V)⟩
  simp [execOp,ho,Instr.extract,j,lC V]
 case h_11 x ho =>
  have:∀q:PV,ev E x=some q->(∃F,a.eval x=.pointer (some F))->∃u,(execOp a.eval o).run P w=.ok (.value u) w/\R σ w (Dof X φ w S) q u:=by
   rintro q C ⟨F,had⟩
   exact ⟨a.eval x,by simp [execOp,ho,had],zAm r C⟩
  split at h<;>simp at h<;>subst h<;>rename_i C<;>refine this _ C ?_
  ·obtain ⟨F,j,_⟩:=zOz (k:=0) (zAm r C) rfl;exact ⟨F,j⟩
  ·obtain ⟨F,j,_⟩:=zOz (k:=0) (zAm r C) rfl;exact ⟨F,j⟩
  ·obtain ⟨F,j,_⟩:=zOz (k:=0) (zAm r C) rfl;exact ⟨F,j⟩
 case h_12 c ho =>
  split at h<;>try simp at h
  rename_i x t N ha I
  obtain ⟨callee,args,B⟩:=c
  simp only at N ha I
  subst N
  obtain ⟨args⟩:=args
  obtain ⟨B⟩:=B
  simp only at ha I
  subst ha I
  have W:∀n:Int,(Builtin.len_ #[t] o.type #[a.eval x]).run P w=.ok (.int .i64 n) w->∃u,(execOp a.eval o).run P w=.ok (.value u) w/\R σ w (Dof X φ w S) (.v (.int .i64 n)) u:=fun n M =>
   ⟨.int .i64 n,by simp [execOp,ho,resolve,invoke,builtin,M],.d (.v rfl)⟩
  split at h
  ·rename_i s hs
   split at h<;>simp at h
   rename_i hb
   subst h
   obtain ⟨j,_⟩:=(zAm r hs).flat_inv
   refine W _ ?_
   simp [j,Builtin.len_,run_underlying (zH0 (T.hbases _ (zAc hb))),goInt]
  ·rename_i q _ C
   split at h<;>simp at h
   rename_i z n hz M
   subst h
   exact W _ (len_ok hi (T.hels _ (zAc hz)) (zAm r C) M)
  ·simp at h
 case h_13=>simp at h
end
end
section
variable {w w':World} {σ:Nat->Value} {D D':Nat->Prop} {all:Array Oper} {a:Act} {S':zAC} {p:PV} {o:Oper} {φ:Nat->Nat->Prop} {b:Bool} {rest:List Oper}
def cnd {α : Type} (b:Bool) (x y : α) : α := match b with
 | true=>x
 | false=>y
def bnd {α g : Type} (o:Option α) (f : α -> Option g):Option g := match o with
 | some x=>f x
 | none=>none
def lo:IntKind->Int
 | .i8 => -128 | .i16 => -32768 | .i32 => -2147483648 | .i64 => -9223372036854775808 | _=>0
def hi:IntKind->Int
 | .i8=>127 | .i16=>32767 | .i32=>2147483647 | .i64=>9223372036854775807
 | .u8=>255 | .u16=>65535 | .u32=>4294967295 | .u64=>18446744073709551615
def rng (k:IntKind) (n:Int):Option Int:=if lo k<=n/\n<=hi k then some n else none
theorem zcD {k:IntKind} {n x:Int} (h:rng k n=some x):x=n/\lo k<=n/\n<=hi k:=by
 unfold rng at h;split at h<;>simp at h;exact ⟨h.symm,by assumption⟩
theorem zcr {k:IntKind} {n:Int} (h:lo k<=n/\n<=hi k):k.wrap n=n:=by
 cases k<;>simp only [lo,hi] at h
 ·exact IntWalk.i8_in n h
 ·exact IntWalk.i16_in n h
 ·exact IntWalk.i32_in n h
 ·exact IntWalk.i64_in n h
 ·exact IntWalk.u8_in n h
 ·exact IntWalk.u16_in n h
 ·exact IntWalk.u32_in n h
 ·exact IntWalk.u64_in n h
def idx {α : Type} (l:List α) (i:Int):Option α := if 0<=i then l[i.toNat]? else none
theorem zKW {α g : Type} {l:List α} {i:Int} {x : α} (f : α -> g) (h:idx l i=some x):idx (l.map f) i=some (f x):=by
 unfold idx at *;split at h<;>simp_all
section
variable {ρ : Type} {G:Ctx ρ} {m:Option ρ} {K:List (Kont ρ)} {E:Env} {S:zAC}
theorem zGJ {α : Type} {o:Option α} {f : α -> Option ρ} {ops:List Oper} (h:∀x,o=some x->PO G (f x) all ops K E S):PO G (bnd o f) all ops K E S:=by
 intro r hr
 cases o with
 | none=>simp [bnd] at hr
 | some x=>exact h x rfl r hr
def zfe:Nat->List PV->Env
 | _,[]=>[]
 | n,p::l=>(n,p)::zfe (n+1) l
theorem zaG {l:List PV} {n t:Nat} (h:lk (zfe n l) t=some p):n<=t/\l[t - n]? = some p:=by
 induction l generalizing n with
 | nil=>simp [zfe,lk] at h
 | cons q l j =>
  simp only [zfe,lk] at h
  by_cases e:n=t
  ·subst e;simp at h;subst h;simp
  ·simp only [zBa e,cond_false] at h
   obtain ⟨r,g⟩:=j h
   refine ⟨by omega,?_⟩
   rw [show t - n=(t - (n+1))+1 by omega]
   simpa using g
theorem zT3 {L:World->Prop} {P:Program} {f:FuncId} {fn:Func} {c:Code} {args:List PV} {S:zAC} {N0:List Nat} {post : ρ -> PV->zAC->Prop} {m:Option ρ} {r : ρ} (J:P.funcs[f]? = some fn) (z:fn.body=some c)
  (F:Nat.ble args.length fn.ntmps=true) (hr:m=some r) (h:∀w0 X X0 σ0 M,PW ⟨P,fn,w0,X,X0,σ0,N0,post,w0.heap.size+1,L,M,none⟩ m c [] (zfe 0 args) S):FC L P f args S N0 (post r):=by
 intro X σ φ w us g hi C
 have F:=cZ F
 refine (callsIn_wide (n:=1)).1 (callsIn_of_wp_marks J z trivial (zWJ (n:=0) (wpIn_mono (Q:=kwp (⟨P,fn,w,X,zCQ φ S,σ,N0,post,w.heap.size+1,L,g,none⟩:Ctx ρ) r []) ?_ fun _ _ _ h=>zhH h)))
 refine h w X (zCQ φ S) σ g r hr _ w ⟨σ,φ,DOk.nil _ _,?_,fun t p N=>?_,hi,Fr.refl _ _,fun n _=>rfl,fun b z _=>z⟩
 ·obtain ⟨V,_⟩:=C
  simp only [Array.size_append,Array.size_replicate]
  show us.length+(fn.ntmps - us.length)=fn.ntmps
  omega
 ·obtain ⟨_,B⟩:=zaG N
  obtain ⟨H,I⟩:=C
  have j:t<us.length:=by rw [<- H];have:=(lF.1 B).1;omega
  refine ⟨us[t],?_,I t p _ (by simpa using B) (lC j)⟩
  show ((⟨us⟩:Array Value)++_)[t]? = _
  rw [Array.getElem?_append_left (by simpa using j)]
  simp [lC j]
def zWU (S' S:zAC):Prop:=(∀x∈S',x∈S)/\(S'.map (·.1)).Nodup
theorem zCT.mono (h:∀b,D b->D' b) {hdr:Value} {fp:Nat->Prop} {k:Blk} (z:zCT σ w D hdr fp k):zCT σ w D' hdr fp k:=by
 have hr:∀{p u},R σ w D p u->R σ w D' p u:=fun r=>r.mono fun b j=>⟨h b j,rfl⟩
 have I:∀{b g us cells},zTZ σ w D b g us cells->zTZ σ w D' b g us cells:=fun ⟨B,C⟩=>⟨B,fun i c u I M=>hr (C i c u I M)⟩
 cases k with
 | box ty cells =>
  rcases z with ⟨b,us,B,C,F,H⟩ | hw
  ·exact .inl ⟨b,us,B,C,F,I H⟩
  ·exact .inr (hw.same (fun _ _ _ _ r=>hr r) (fun p u r=>r.mono fun b j=>⟨h b j,rfl⟩) fun _ _=>rfl)
 | arr g size rows =>
  obtain ⟨W,h⟩:=z
  refine ⟨W,?_⟩
  rcases h with h | ⟨b,us,cap,B,C,F,H,J,h6⟩
  ·exact .inl h
  ·obtain ⟨h7,h8⟩:=h6
   exact .inr ⟨b,us,cap,B,C,F,H,J,h7,fun i c u I M=>(h8 i c u I M).mono fun b j=>⟨h b j,rfl⟩⟩
 | siter s pos=>exact z
 | tre e s kc ke rows=>exact zHQ.next (fun b j=>⟨h b j,rfl⟩) (fun _ _=>rfl) z
 | mp kvs =>
  obtain ⟨b,V,cl,B,C,F,H,J⟩:=z
  exact ⟨b,V,cl,B,C,F,H,fun i e Q N z=>⟨(J i e Q N z).1,(J i e Q N z).2.mono fun b j=>⟨h b j,rfl⟩⟩⟩
theorem Inv.sub {X:Nat->Prop} (g:zWU S' S) (hi:Inv X σ φ w S):Inv X σ φ w S'/\(∀b,Dof X φ w S b->Dof X φ w S' b)/\∀b,zCQ φ S' b->zCQ φ S b:=by
 have z:∀b,Dof X φ w S b->Dof X φ w S' b:=fun b ⟨j,r,C⟩=>⟨j,r,fun n k h=>C n k (g.1 _ h)⟩
 have B:∀b,zCQ φ S' b->zCQ φ S b:=fun b ⟨n,k,j,r⟩=>⟨n,k,g.1 _ j,r⟩
 exact ⟨⟨g.2,hi.xlt,fun b F=>hi.lt b (B b F),fun n m k l j r=>hi.disj n m k l (g.1 _ j) (g.1 _ r),fun n k h=>(hi.ok n k (g.1 _ h)).mono z⟩,z,B⟩
theorem zLr (B:zWU S' S):Pre G E S a w->Pre G E S' a w:=by
 rintro ⟨σ,φ,h⟩
 obtain ⟨j,r,z⟩:=h.inv.sub B
 exact ⟨σ,φ,{ h with env:=fun t p C=>let ⟨u,hu,hr⟩:=h.env t p C;⟨u,hu,hr.mono fun b g=>⟨r b g,rfl⟩⟩,inv:=j,new:=fun b g=>h.new b (z b g) }⟩
theorem zb7 {c:Code} (j:zWU S' S) (h:PW G m c K E S'):PW G m c K E S:=fun r hr a w g=>h r hr a w (zLr j g)
theorem zbt (j:zWU S' S) (h:PN G m K E S'):PN G m K E S:=fun r hr a w g=>h r hr a w (zLr j g)
def zWN (w w':World):Prop:=(∀a v,w.cell? a=some v->w'.cell? a=some v)/\∀(b:Nat) g cl,w.heap[b]? = some (.map g cl)->w'.heap[b]? = some (.map g cl)
theorem RD.cells (F:∀b,D b->D' b) (H:zWN w w') {p:PV} {u:Value} (r:RD w D p u):RD w' D' p u:=by
 induction r with
 | v hx=>exact .v hx
 | err0=>exact .err0
 | err1=>exact .err1
 | agg J _ g=>exact .agg J g
 | tup J _ g=>exact .tup J g
 | nil h j=>exact .nil h j
 | sl f h j B z N C _ g=>exact .sl f h j B (F _ z) N (fun i M k c hr I=>H.1 _ _ (C i M k c hr I)) g
 | el f z C _ g=>exact .el f (F _ z) (fun k c I=>H.1 _ _ (C k c I)) g
 | mp0=>exact .mp0
 | mp1 z h j B _ g=>exact .mp1 (F _ z) (H.2 _ _ _ h) j B g
theorem R.cells (C:∀b,D b->D' b) (F:zWN w w') {p:PV} {u:Value} (r:R σ w D p u):R σ w' D' p u:=by
 induction r with
 | d H=>exact .d (H.cells C F)
 | loc h=>exact .loc h
 | nloc0=>exact .nloc0
 | nloc1 h=>exact .nloc1 h
 | ela h=>exact .ela h
 | own g=>exact .own g
 | ownb g=>exact .ownb g
 | dat g=>exact .dat g
 | bsl g=>exact .bsl g
 | sel g _ j=>exact .sel g j
 | vw g=>exact .vw g
 | junk=>exact .junk
 | fn g B _ _ I J=>exact .fn g B I J
 | agg z _ j=>exact .agg z j
 | tup z _ j=>exact .tup z j
theorem zO7.cells (J:∀b,D b->D' b) (N:zWN w w') {hdr:Value} {fp:Nat->Prop} {e size:Nat} {rows:List (List PV)} (M:∀b,fp b->w'.heap[b]? = w.heap[b]?)
  (h:zO7 w D hdr fp e size rows):zO7 w' D' hdr fp e size rows:=by
 obtain ⟨z,h⟩:=h
 refine ⟨z,?_⟩
 rcases h with h | ⟨b,us,cap,B,j,C,F,H,⟨fr,r⟩,I⟩
 ·exact .inl h
 ·exact .inr ⟨b,us,cap,B,j,C,F,H,⟨fr,(M b ((j b).2 rfl)).trans r.1,r.2⟩,fun i c u g Q=>(I i c u g Q).cells J N⟩
theorem zHQ.cells (H:∀b,D b->D' b) (J:zWN w w') {hdr:Value} {fp:Nat->Prop} {e size kc ke:Nat} {rows:List (List PV×Bool)} (I:∀b,fp b->w'.heap[b]? = w.heap[b]?)
  (h:zHQ w D hdr fp e size kc ke rows):zHQ w' D' hdr fp e size kc ke rows:=by
 obtain ⟨V,z,h⟩:=h
 refine ⟨V,z,?_⟩
 rcases h with h | ⟨b,us,cap,M,W,g,h3,h4,h5,h6,h7,h8,F⟩
 ·exact .inl h
 ·refine .inr ⟨b,us,cap,M,W,g,h3,h4,h5,h6,h7,(I b ((g b).2 (.inl rfl))).trans h8,fun i r hr=>⟨(F i r hr).1,fun k c u j hu=>?_⟩⟩
  have hi:=(lF.1 hr).1
  obtain ⟨N,Q⟩:=(F i r hr).2 k c u j hu
  refine ⟨fun B=>?_,fun B=>(Q B).imp id fun hd=>hd.cells H J⟩
  obtain ⟨ks,C,e,ha⟩:=N B
  exact ⟨ks,C,e,ha.cells H J fun x hx=>I x ((g x).2 (.inr ⟨i,hi,hx⟩))⟩
theorem zCT.cells (F:∀b,D b->D' b) (I:zWN w w') {hdr:Value} {fp:Nat->Prop} (H:∀b,fp b->w'.heap[b]? = w.heap[b]?) {k:Blk} (h:zCT σ w D hdr fp k):zCT σ w' D' hdr fp k:=by
 cases k with
 | box ty cells =>
  rcases h with h | hw
  rotate_left
  ·exact .inr (hw.same (fun _ _ _ _ r=>r.cells F I) (fun p u r=>r.cells F I) H)
  obtain ⟨b,us,j,g,z,⟨⟨fr,J,C⟩,M⟩⟩:=h
  exact .inl ⟨b,us,j,g,z,⟨fr,(H b ((g b).2 rfl)).trans J,C⟩,fun i c u B N=>(M i c u B N).cells F I⟩
 | arr Q size rows =>
  obtain ⟨h0,h⟩:=h
  refine ⟨h0,?_⟩
  rcases h with h | ⟨b,us,cap,j,g,z,J,C,⟨fr,M⟩,h7⟩
  ·exact .inl h
  ·exact .inr ⟨b,us,cap,j,g,z,J,C,⟨fr,(H b ((g b).2 rfl)).trans M.1,M.2⟩,fun i c u B N=>(h7 i c u B N).cells F I⟩
 | siter s pos=>obtain ⟨b,j,g,z⟩:=h;exact ⟨b,j,g,(H b ((g b).2 rfl)).trans z⟩
 | mp kvs=>obtain ⟨b,es,cl,j,g,z,J,C⟩:=h;exact ⟨b,es,cl,j,g,(H b ((g b).2 rfl)).trans z,J,fun i e kv V W=>⟨(C i e kv V W).1,(C i e kv V W).2.cells F I⟩⟩
 | tre e s kc ke rows=>exact zHQ.cells F I H h
theorem zP3 {F:Fence} {n:Nat} {P:Program} {fn:Func} {tmps:Array Value}:∀(bs:List Nat) (w:World),bs.Nodup->(∀b∈bs,w.heap[b]? = some (.deferred (some []))) ->
  ∃w':World,(∀Q,LeavesIn F n P fn tmps Q [] .returning w'->LeavesInM F n P fn tmps Q (bs.map zXB) .returning w)/\w'.heap.size=w.heap.size/\w'.os=w.os/\w'.tape=w.tape/\w'.output=w.output/\∀b,b∉bs->w'.heap[b]? = w.heap[b]?
 | [],w,_,_=>⟨w,fun _ h=>h,rfl,rfl,rfl,rfl,fun _ _=>rfl⟩
 | b::bs,w,j,h=>by
  obtain ⟨N,j⟩:=lS.1 j
  have M:=h b (by simp)
  have r:∀c,c≠b->(w.putObj b (.deferred none)).heap[c]? = w.heap[c]? := fun c g=>World.putObj_heap_other g
  obtain ⟨w',z,B,C,H,I,J⟩:=zP3 bs (w.putObj b (.deferred none)) j fun c g=>by rw [r c (fun e=>N (e▸g))];exact h c (by simp [g])
  refine ⟨w',fun Q V=>⟨by simp,.inl ⟨b,_,rfl,run_takeDeferred M,z Q V⟩⟩,B.trans (by simp [World.putObj]),C,H,I,fun c g=>?_⟩
  simp only [lD,not_or] at g
  rw [J c g.2,r c g.1]
theorem Pre'.shut (g:Pre' G E S a w σ φ) (hz:G.dz=G.w0.heap.size+1):∃w',(∀Q,LeavesIn Fence.wide 1 G.P G.fn a.tmps Q [] .returning w'->LeavesInM Fence.wide 1 G.P G.fn a.tmps Q a.defers .returning w)/\Pre' G E S { a with defers:=[] } w' σ φ := by
 obtain ⟨C,h1,h2,z⟩:=g.defers
 obtain ⟨w',g1,g2,g3,g4,g5,H⟩:=zP3 (F:=Fence.wide) (n:=1) (P:=G.P) (fn:=G.fn) (tmps:=a.tmps) C w h2 fun b h=>(z b h).2
 have J:∀B v,w.cell? B=some v->w'.cell? B=some v:=fun B v j=>by
  have:B.block∉C:=fun h=>by
   simp only [World.cell?,(z _ h).2] at j
   cases j
  simp only [World.cell?,H _ this] at j ⊢
  exact j
 have V:zWN w w':=⟨J,fun b es cl j=>by
  have:b∉C:=fun h=>by rw [(z _ h).2] at j;cases j
  rw [H _ this];exact j⟩
 have N:∀b,Dof G.X φ w S b->Dof G.X φ w' S b:=fun b ⟨a1,W,a3⟩=>⟨by omega,W,a3⟩
 have M:∀b,zCQ φ S b->b∉C:=fun b r h=>by
  have:=g.inv.plain r
  rw [(z b h).2] at this
  cases this
 refine ⟨w',fun Q hl=>by rw [h1];exact g1 Q hl,{ defers:=DOk.nil _ _,size:=g.size,env:=fun t p ht=>let ⟨u,hu,hr⟩:=g.env t p ht;⟨u,hu,hr.cells N V⟩,inv:=?_,fr:=?_,agree:=g.agree,new:=g.new }⟩
 ·exact ⟨g.inv.nodup,fun b h=>by have:=g.inv.xlt b h;omega,fun b r=>⟨by have:=(g.inv.lt b r).1;omega,(g.inv.lt b r).2⟩,g.inv.disj,fun n k I=>(g.inv.ok n k I).cells N V fun b r=>H b (M b ⟨n,k,I,r⟩)⟩
 ·refine ⟨g3.trans g.fr.os,g4.trans g.fr.tape,g5.trans g.fr.output,by have:=g.fr.size;omega,fun b h hx=>?_⟩
  rw [H b fun I=>by have:=(z b I).1;omega]
  exact g.fr.block b h hx
theorem zg0 {r : ρ} (C:Pre G E S a w) (g:G.post r p S)
  (hz:G.dz=G.w0.heap.size+1) (z:noL K=true) (H:∀w σ D,zQV σ w D E a.tmps->∃u,(results G.fn a.tmps).run G.P w=.ok u w/\R σ w D p u):kwp G r K .ret a w:=by
 refine zRl z ?_
 obtain ⟨σ,φ,j⟩:=C
 obtain ⟨w',B,h⟩:=j.shut hz
 obtain ⟨u,F,hr⟩:=H w' σ _ h.env
 exact B _ ⟨u,F,p,S,σ,φ,u,rfl,g,h.inv,hr,h.fr,h.agree,h.new⟩
theorem zb6 {r : ρ} {t:Nat} (F:zWU S' S) (h:G.fn.results = #[.tmp t]) (B:lk E t=some p) (g:G.post r p S') (hz:G.dz=G.w0.heap.size+1:=by rfl) (z:noL K=true:=by rfl):PW G (some r) .ret K E S:=by
 intro I hr a w C
 cases hr
 refine wpIn_ret (zg0 (zLr F C) g hz z fun _ σ D j=>?_)
 obtain ⟨u,H,hr⟩:=j t p B
 exact ⟨u,by rw [results_tmp h,cL,H];rfl,hr⟩
theorem zXK {t:Operand} {x y:Code} (B:ev E t=some (.v (.bool b))) (hx:b=true->PW G m x K E S) (hy:b=false->PW G m y K E S):PW G m (.cond t x y) K E S:=by
 intro r hr a w j
 have g:=j
 obtain ⟨σ,φ,h⟩:=j
 obtain ⟨z,_⟩:=(zAm h.env B).flat_inv
 exact wpIn_cond_split z (fun e=>hx e r hr a w g) (fun e=>hy e r hr a w g)
theorem zAD {t:Operand} {x y:Code} {g h:Option ρ} (j:ev E t=some (.v (.bool b))) (hx:PW G g x K E S) (hy:PW G h y K E S):PW G (cnd b g h) (.cond t x y) K E S :=
 zXK j (fun e=>by subst e;exact hx) (fun e=>by subst e;exact hy)
def gE (all:Array Oper) (E:Env) (o:Oper):Option Bool :=
 match o.guard with
 | none=>some true
 | some (j,want)=>match zVf all.toList j with
  | some g=>(match g.dst with
   | some d=>(match lk E d with
    | some (.v (.bool true))=>some want
    | some (.v (.bool false))=>some !want
    | some (.tup [])=>some false
    | _=>none)
   | none=>none)
  | none=>none
theorem zdg (C:zQV σ w D E a.tmps) (h:gE all E o=some b):Region.wanted o (yielded all a.tmps)=b:=by
 unfold gE at h
 unfold Region.wanted
 split at h
 ·rename_i F;simp at h;subst h;simp [F]
 ·rename_i j r F
  simp only [F]
  split at h<;>try simp at h
  rename_i g I
  split at h<;>try simp at h
  rename_i d J
  rw [zKX] at I
  have H:all[j]? = some g:=by simpa using I
  have hy:∀u,a.tmps[d]? = some u->yielded all a.tmps j=(match u with | .bool b=>some b | _=>none):=by
   intro u z
   simp only [yielded,H,gA,J,z]
   cases u<;>rfl
  split at h
  ·rename_i B
   obtain ⟨u,z,hr⟩:=C d _ B
   obtain ⟨rfl,_⟩:=hr.flat_inv
   rw [hy _ z];simp at h;cases r<;>simp_all
  ·rename_i B
   obtain ⟨u,z,hr⟩:=C d _ B
   obtain ⟨rfl,_⟩:=hr.flat_inv
   rw [hy _ z];simp at h;cases r<;>simp_all
  ·rename_i B
   obtain ⟨u,z,hr⟩:=C d _ B
   obtain ⟨us,rfl,_⟩:=hr.tup_inv
   rw [hy _ z];simp at h;subst h;rfl
  ·simp at h
theorem zQV.put (j:zQV σ w D E a.tmps) {d:Nat} {p:PV} {u:Value} (r:d<a.tmps.size) (hr:R σ w D p u):zQV σ w D ((d,p)::E) (a.put (some d) u).tmps:=by
 intro t q g
 simp only [lk] at g
 by_cases e:d=t
 ·subst e
  simp at g;subst g
  exact ⟨u,by simp [Act.put,r],hr⟩
 ·simp only [zBa e,cond_false] at g
  obtain ⟨v,z,h⟩:=j t q g
  exact ⟨v,by simp [Act.put,cN e,z],h⟩
theorem Pre'.put (h:Pre' G E S a w σ φ) {d:Nat} {p:PV} {u:Value} (g:d<G.fn.ntmps) (hr:R σ w (Dof G.X φ w S) p u):Pre' G ((d,p)::E) S (a.put (some d) u) w σ φ :=
 { h with
  defers:=h.defers
  size:=by simp [Act.put,h.size]
  env:=h.env.put (by rw [h.size];exact g) hr }
theorem zGT (j:gE all E o=some true)
  (h:∀r,m=some r->∀a w,Pre G E S a w->o.wp G.P a w (wpList G.P all (kwp G r K) rest) (kwp G r K)):PO G m all (o::rest) K E S:=by
 intro r hr a w g
 have B:Region.wanted o (yielded all a.tmps)=true:=let ⟨σ,φ,z⟩:=g;zdg z.env j
 unfold wpList
 rw [iP B]
 exact .inl (h r hr a w g)
theorem zCS {a b:Nat} (h:lB a b=true):a<b:=by simpa [cO] using h
theorem po_ev {T:Tab G.P} {d:Nat} (B:gE all E o=some true) (h:ev1 T E S o.op=some p) (z:o.dst=some d) (C:d<G.fn.ntmps)
  (k:PO G m all rest K ((d,p)::E) S):PO G m all (o::rest) K E S:=by
 refine zGT B fun r hr a w ⟨σ,φ,g⟩=>?_
 obtain ⟨u,F,j⟩:=zat (T:=T) g.inv g.env h
 unfold Oper.wp
 rw [F,Oper.upon_value,z]
 exact k r hr _ _ ⟨σ,φ,g.put C j⟩
theorem zgj {d:Nat} (z:gE all E o=some false) (j:o.dst=some d) (B:d<G.fn.ntmps)
  (k:PO G m all rest K ((d,.tup [])::E) S):PO G m all (o::rest) K E S:=by
 intro r hr a w ⟨σ,φ,g⟩
 unfold wpList
 rw [iN (by rw [zdg g.env z];simp),j]
 exact k r hr _ _ ⟨σ,φ,g.put B (.d (.tup rfl fun i c u h=>by simp at h))⟩
def zav {P:Program} (T:Tab P) (N:Nat) (all:Array Oper) (S:zAC):Nat->List Oper->Env->Option (List Oper×Env)
 | 0,ops,E=>some (ops,E)
 | _+1,[],_=>none
 | k+1,o::ops,E=>match o.dst with
  | some d=>bif lB d N then (match gE all E o with
   | some true=>(match ev1 T E S o.op with
    | some p=>zav T N all S k ops ((d,p)::E)
    | none=>none)
   | some false=>zav T N all S k ops ((d,.tup [])::E)
   | none=>none) else none
  | none=>none
theorem zHb {T:Tab G.P} (k:Nat) {N:Nat} {ops rest:List Oper} {r:Env} (F:N=G.fn.ntmps) (h:zav T N all S k ops E=some (rest,r)) (H:PO G m all rest K r S):PO G m all ops K E S:=by
 subst F
 induction k generalizing ops E with
 | zero=>simp [zav] at h;obtain ⟨rfl,rfl⟩:=h;exact H
 | succ k C =>
  cases ops with
  | nil=>simp [zav] at h
  | cons o ops =>
   simp only [zav] at h
   split at h<;>try simp at h
   rename_i d B
   cases z:lB d G.fn.ntmps<;>simp only [z,cond_true,cond_false] at h
   ·simp at h
   have g:d<G.fn.ntmps:=by simpa [cO] using z
   split at h<;>try simp at h
   ·split at h<;>try simp at h
    rename_i j _ p I
    exact po_ev j I B g (C h)
   ·rename_i j
    exact zgj j B g (C h)
end
end
section
variable {n:Nat} {x:Value} {p:PV} {a:Act} {D' fp X0:Nat->Prop} {cs:List PV}
def zOm (n:Nat) (p:PV):Bool:=(names p).any (lA n)
theorem zPV (h:zOm n p=false):∀m∈names p,m≠n:=by
 intro m g e
 subst e
 unfold zOm at h
 rw [gK] at h
 exact h m g (by simp)
def zFh (n:Nat):Env->Option Env
 | []=>some []
 | (t,p)::E=>match zFh n E with
  | some g=>(match zOm n p with
   | true=>some ((t,.junk)::g)
   | false=>some ((t,p)::g))
  | none=>none
def zK3 (n:Nat):List PV->Option (List PV)
 | []=>some []
 | p::l=>match zK3 n l with
  | some g=>(match zOm n p with
   | true=>some (.junk::g)
   | false=>some (p::g))
  | none=>none
def zEx (n:Nat):zAC->Option zAC
 | []=>some []
 | (k,b)::S=>match zEx n S with
  | some S'=>(match lA k n with
   | true=>some S'
   | false=>match b with
    | .box ty cells=>(match zK3 n cells with
     | some g=>some ((k,.box ty g)::S')
     | none=>none)
    | b=>some ((k,b)::S'))
  | none=>none
section
variable {P:Program} {σ : Nat->Value} {w:World} {D X:Nat->Prop} {φ : Nat->Nat->Prop} {S:zAC} {E:Env}
def upd {α : Type} (f:Nat -> α) (n:Nat) (x : α) (m:Nat) : α := if m=n then x else f m
theorem zAw {α : Type} (f:Nat -> α) (n:Nat) (x : α):upd f n x n=x:=by simp [upd]
theorem zHk {α : Type} (f:Nat -> α) {n m:Nat} (x : α) (h:m≠n):upd f n x m=f m:=by simp [upd,h]
theorem R.upd {u:Value} (r:R σ w D p u) (h:zOm n p=false):R (Pw.upd σ n x) w D p u :=
 r.agree fun m g=>zHk σ x (zPV h m g)
theorem zQj {n:Nat}:∀{E g:Env},zFh n E=some g->∀t,lk g t=(lk E t).map fun p=>bif zOm n p then .junk else p
 | [],g,h,t=>by simp [zFh] at h;subst h;rfl
 | (k,p)::E,g,h,t=>by
  simp only [zFh] at h
  split at h<;>try simp at h
  rename_i B j
  have z:=zQj j t
  split at h<;>simp at h<;>subst h<;>rename_i r<;>simp only [lk]<;>cases lA k t<;>simp [z,r]
theorem zdm {tmps:Array Value} {E z:Env} (h:zFh n E=some z) (C:zQV σ w D E tmps):zQV (upd σ n x) w D z tmps:=by
 intro t p g
 rw [zQj h] at g
 cases j:lk E t with
 | none=>simp [j] at g
 | some q =>
  obtain ⟨u,B,hr⟩:=C t q j
  simp only [j,lW,lJ.injEq] at g
  cases r:zOm n q
  ·simp [r] at g;subst g;exact ⟨u,B,hr.upd r⟩
  ·simp [r] at g;subst g;exact ⟨u,B,.junk⟩
theorem zQk {n:Nat} {x:Value}:∀{cs g:List PV},zK3 n cs=some g->g.length=cs.length/\∀{us:List Value},(∀(i:Nat) (c:PV) (u:Value),cs[i]? = some c->us[i]? = some u->R σ w D c u) ->
  ∀(i:Nat) (c:PV) (u:Value),g[i]? = some c->us[i]? = some u->R (upd σ n x) w D c u
 | [],g,h=>by simp [zK3] at h;subst h;exact ⟨rfl,fun _ i c u r=>by simp at r⟩
 | p::cs,g,h=>by
  simp only [zK3] at h
  split at h<;>try simp at h
  rename_i l N
  obtain ⟨I,J⟩:=zQk (x:=x) N
  have B:∀q,g=q::l->(∀u,R σ w D p u->R (upd σ n x) w D q u)->g.length=(p::cs).length/\∀{us:List Value},(∀(i:Nat) (c:PV) (u:Value),(p::cs)[i]? = some c->us[i]? = some u->R σ w D c u) ->
    ∀(i:Nat) (c:PV) (u:Value),g[i]? = some c->us[i]? = some u->R (upd σ n x) w D c u:=by
   rintro q rfl V
   refine ⟨by simp [I],fun {us} z i c u r C=>?_⟩
   cases i with
   | zero=>simp at r;subst r;exact V _ (z 0 p u rfl C)
   | succ i =>
    cases us with
    | nil=>simp at C
    | cons u0 us=>exact J (us:=us) (fun j H W M F=>z (j+1) H W (by simpa using M) (by simpa using F)) i c u (by simpa using r) (by simpa using C)
  split at h<;>simp at h<;>rename_i Q
  ·exact B _ h.symm fun _ _=>.junk
  ·exact B _ h.symm fun _ hr=>hr.upd Q
theorem zVX {n:Nat}:∀{cs g:List PV},zK3 n cs=some g->g.length=cs.length/\∀(i:Nat),g[i]? = cs[i]?.map fun p=>bif zOm n p then .junk else p
 | [],g,h=>by simp [zK3] at h;subst h;simp
 | p::cs,g,h=>by
  simp only [zK3] at h
  split at h<;>try simp at h
  rename_i l z
  obtain ⟨j,r⟩:=zVX z
  split at h<;>simp at h<;>subst h<;>rename_i B<;>refine ⟨by simp [j],fun i=>?_⟩<;>cases i with
  | zero=>simp [B]
  | succ i=>simp [r]
theorem zNS.kill {w':World} {hdr:Value} {e:Nat} {cells g:List PV} (x:Value) (N:zNS σ w D hdr fp e cells) (J:zK3 n cells=some g) (H:∀p u,R (upd σ n x) w D p u->R (upd σ n x) w' D' p u) (F:∀p u,RD w D p u->RD w' D' p u)
  (I:∀b,fp b->w'.heap[b]? = w.heap[b]?):zNS (upd σ n x) w' D' hdr fp e g:=by
 obtain ⟨B,z⟩:=zVX J
 refine N.map B (fun p M h=>by rw [z,h];simp [zOm,M.none]) (fun i c Q u C j hr=>?_) F I
 rw [z,C] at j
 simp only [lW,lJ.injEq] at j
 cases r:zOm n c
 ·rw [r] at j;simp at j;subst j;exact H _ _ (hr.upd r)
 ·rw [r] at j;simp at j;subst j;exact .junk
theorem zCT.next {σ':Nat->Value} {w':World} {hdr:Value} {k:Blk} (C:∀b,D b->D' b/\w'.heap[b]? = w.heap[b]?) (F:∀b,fp b->w'.heap[b]? = w.heap[b]?)
  (h:zCT σ w D hdr fp k) (j:∀ty cells,k=.box ty cells->∀(i:Nat) (c:PV),cells[i]? = some c->∀n∈names c,σ' n = σ n):zCT σ' w' D' hdr fp k:=by
 cases k with
 | box ty cells =>
  rcases h with h | hw
  rotate_left
  ·exact .inr (hw.same (fun i c u H hr=>(hr.mono C).agree (j _ _ rfl i c H)) (fun p u hr=>hr.mono C) F)
  obtain ⟨b,us,r,g,z,⟨⟨fr,I,B⟩,J⟩⟩:=h
  exact .inl ⟨b,us,r,g,z,⟨fr,(F b ((g b).2 rfl)).trans I,B⟩,fun i c u H M=>((J i c u H M).mono C).agree (j _ _ rfl i c H)⟩
 | arr N size rows =>
  obtain ⟨h0,h⟩:=h
  refine ⟨h0,?_⟩
  rcases h with h | ⟨b,us,cap,r,g,z,I,B,⟨fr,J⟩,h7⟩
  ·exact .inl h
  ·exact .inr ⟨b,us,cap,r,g,z,I,B,⟨fr,(F b ((g b).2 rfl)).trans J.1,J.2⟩,fun i c u H M=>(h7 i c u H M).mono C⟩
 | tre e s kc ke rows=>exact zHQ.next C F h
 | siter s pos=>obtain ⟨b,r,g,z⟩:=h;exact ⟨b,r,g,(F b ((g b).2 rfl)).trans z⟩
 | mp kvs=>obtain ⟨b,es,cl,r,g,z,I,B⟩:=h;exact ⟨b,es,cl,r,g,(F b ((g b).2 rfl)).trans z,I,fun i e W Q V=>⟨(B i e W Q V).1,(B i e W Q V).2.mono C⟩⟩
theorem zOq {n:Nat}:∀{S S':zAC},zEx n S=some S'->∀m k,(m,k)∈S'->m≠n/\∃k0,(m,k0)∈S/\((k=k0/\∀ty cells,k≠.box ty cells)\/∃ty cells g,k0=.box ty cells/\k=.box ty g/\zK3 n cells=some g)
 | [],S',h,m,k,j=>by simp [zEx] at h;subst h;simp at j
 | (m0,b0)::S,S',h,m,k,j=>by
  simp only [zEx] at h
  split at h<;>try simp at h
  rename_i M H
  have F:=zOq H m k
  split at h
  ·simp at h;subst h
   obtain ⟨e,k0,z,B⟩:=F j
   exact ⟨e,k0,lG _ z,B⟩
  ·rename_i C
   have r:m0≠n:=fun e=>by subst e;simp at C
   split at h
   ·rename_i cells
    split at h<;>simp at h
    rename_i g J
    subst h
    rcases lD.1 j with e | j
    ·cases e;exact ⟨r,_,lH ..,.inr ⟨_,_,_,rfl,rfl,J⟩⟩
    ·obtain ⟨e,k0,z,B⟩:=F j
     exact ⟨e,k0,lG _ z,B⟩
   ·rename_i I
    simp at h;subst h
    rcases lD.1 j with e | j
    ·cases e;exact ⟨r,_,lH ..,.inl ⟨rfl,I⟩⟩
    ·obtain ⟨e,k0,z,B⟩:=F j
     exact ⟨e,k0,lG _ z,B⟩
theorem zLl {n:Nat}:∀{S S':zAC},zEx n S=some S'->(S'.map (·.1)).Sublist (S.map (·.1))
 | [],S',h=>by simp [zEx] at h;subst h;simp
 | (m0,b0)::S,S',h=>by
  simp only [zEx] at h
  split at h<;>try simp at h
  rename_i r j
  have g:=zLl j
  split at h
  ·simp at h;subst h;exact List.Sublist.cons _ g
  ·split at h
   ·split at h<;>simp at h
    subst h;simpa using g
   ·simp at h;subst h;simpa using g
theorem Inv.lay (hi:Inv X σ φ w S) {n:Nat} {S':zAC} (hS:zEx n S=some S') {hdr:Value} {fp:Nat->Prop} {w':World} {k:Blk} (hsz:w.heap.size<=w'.heap.size)
  (Q:∀b,fp b->b<w'.heap.size/\(w.heap.size<=b\/((∃k0,(n,k0)∈S) /\ φ n b)))
  (I:∀b,b<w.heap.size->((∃k0,(n,k0)∈S)->¬φ n b)->w'.heap[b]? = w.heap[b]?)
  (hk:∀D',(∀b,Dof X φ w S b->D' b/\w'.heap[b]? = w.heap[b]?)->zCT (upd σ n hdr) w' D' hdr fp k) :
  Inv X (upd σ n hdr) (upd φ n fp) w' ((n,k)::S')/\∀b,Dof X φ w S b->Dof X (upd φ n fp) w' ((n,k)::S') b/\w'.heap[b]? = w.heap[b]? := by
 have r:=zOq hS
 have V:∀b,b<w.heap.size->((∃k0,(n,k0)∈S)->¬φ n b)->¬fp b:=fun b M h N=>by
  rcases (Q b N).2 with z | ⟨z,H⟩
  ·omega
  ·exact h z H
 have hD:∀b,Dof X φ w S b->Dof X (upd φ n fp) w' ((n,k)::S') b/\w'.heap[b]? = w.heap[b]? := by
  rintro b ⟨z,H,h3⟩
  have hn:(∃k0,(n,k0)∈S)->¬φ n b:=fun ⟨k0,j⟩=>h3 n k0 j
  refine ⟨⟨by omega,H,fun m J F=>?_⟩,I b z hn⟩
  rcases lD.1 F with e | F
  ·cases e;rw [zAw];exact V b z hn
  ·obtain ⟨g,k0,j,_⟩:=r m J F
   rw [zHk _ _ g];exact h3 m k0 j
 refine ⟨⟨?_,fun b M=>by have:=hi.xlt b M;omega,?_,?_,?_⟩,hD⟩
 ·rw [lT,lS]
  refine ⟨fun h=>?_,(zLl hS).nodup hi.nodup⟩
  obtain ⟨x,hx,he⟩:=lE.1 h
  exact (r x.1 x.2 hx).1 he
 ·rintro b ⟨m,J,F,N⟩
  rcases lD.1 F with e | F
  ·cases e
   rw [zAw] at N
   refine ⟨(Q b N).1,fun hX=>?_⟩
   rcases (Q b N).2 with z | ⟨⟨k0,z⟩,H⟩
   ·have:=hi.xlt b hX;omega
   ·exact (hi.lt b ⟨n,k0,z,H⟩).2 hX
  ·obtain ⟨g,k0,j,_⟩:=r m J F
   rw [zHk _ _ g] at N
   have:=hi.lt b ⟨m,k0,j,N⟩
   exact ⟨by omega,this.2⟩
 ·have one:∀m J,(m,J)∈S'->∀b,fp b->¬φ m b:=by
   intro m J F b N hm2
   obtain ⟨g,k0,j,_⟩:=r m J F
   rcases (Q b N).2 with z | ⟨⟨k1,z⟩,H⟩
   ·have:=(hi.lt b ⟨m,k0,j,hm2⟩).1;omega
   ·exact hi.disj n m k1 k0 z j (Ne.symm g) b H hm2
  intro m1 m2 k1 k2 z H g b B C
  rcases lD.1 z with e1 | z<;>rcases lD.1 H with e2 | H
  ·cases e1;cases e2;exact g rfl
  ·cases e1
   rw [zAw] at B
   rw [zHk _ _ (Ne.symm g)] at C
   exact one m2 k2 H b B C
  ·cases e2
   rw [zAw] at C
   rw [zHk _ _ g] at B
   exact one m1 k1 z b C B
  ·obtain ⟨hn1,k01,W,_⟩:=r m1 k1 z
   obtain ⟨hn2,k02,hk2,_⟩:=r m2 k2 H
   rw [zHk _ _ hn1] at B
   rw [zHk _ _ hn2] at C
   exact hi.disj m1 m2 k01 k02 W hk2 g b B C
 ·intro m J F
  rcases lD.1 F with e | F
  ·cases e;rw [zAw,zAw];exact hk _ hD
  ·obtain ⟨g,k0,j,hkk⟩:=r m J F
   rw [zHk _ _ g,zHk _ _ g]
   have M:∀b,φ m b->w'.heap[b]? = w.heap[b]? := fun b M=>I b (hi.lt b ⟨m,k0,j,M⟩).1 fun ⟨k1,W⟩ hn=>hi.disj m n k0 k1 j W g b M hn
   rcases hkk with ⟨rfl,hnb⟩ | ⟨ty,cells,cells',rfl,rfl,hc⟩
   ·exact zCT.next hD M (hi.ok m J j) fun ty cells e=>absurd e (hnb ty cells)
   ·obtain ⟨l1,l2⟩:=zQk (σ := σ) (w:=w) (D:=Dof X φ w S) (x:=hdr) hc
    rcases hi.ok m _ j with hbk | hw
    rotate_left
    ·exact .inr (hw.kill hdr hc (fun p u hr=>hr.mono hD) (fun p u hr=>hr.mono hD) M)
    obtain ⟨b,us,g1,g2,g3,⟨⟨fr,g4,g5⟩,g6⟩⟩:=hbk
    exact .inl ⟨b,us,g1,g2,by rw [g3,l1],⟨fr,(M b ((g2 b).2 rfl)).trans g4,g5⟩,fun i c u hc hu=>(l2 (us:=us) g6 i c u hc hu).mono hD⟩
def zOb:PV->Option (List PV)
 | .agg cs=>some cs
 | .tup _=>none
 | .v x=>some [.v x]
 | .sl s f rows=>some [.sl s f rows]
 | .el r o=>some [.el r o]
 | .loc n o=>some [.loc n o]
 | .nloc n o=>some [.nloc n o]
 | .ela n s i o=>some [.ela n s i o]
 | .own n=>some [.own n]
 | .ownb n=>some [.ownb n]
 | .dat _=>none
 | .bsl _ _=>none
 | .sel _ _=>none
 | .vw _ _ _ _=>none
 | .mpd _=>none
 | .err _=>none
 | .fn f a b=>some [.fn f a b]
 | .junk=>none
theorem zX1 (h:zSy x=true):x.cells = #[x]/\x.oneCell'=true:=by
 cases x<;>simp_all [zSy,Value.cells,Value.oneCell']
theorem zKu {u:Value} (h:zOb p=some cs) (hr:R σ w D p u):∃us:List Value,u.cells=⟨us⟩/\us.length=cs.length/\∀(i:Nat) (c:PV) (x:Value),cs[i]? = some c->us[i]? = some x->R σ w D c x:=by
 have g:∀F:PV,cs=[F]->R σ w D F u->u.cells = #[u]->∃us:List Value,u.cells=⟨us⟩/\us.length=cs.length/\∀(i:Nat) (c:PV) (x:Value),cs[i]? = some c->us[i]? = some x->R σ w D c x:=by
  rintro F rfl C H
  refine ⟨[u],H,rfl,fun i c x r B=>?_⟩
  cases i with
  | zero=>simp at r B;subst r B;exact C
  | succ i=>simp at r
 cases p<;>simp [zOb] at h
 case agg cs' =>
  subst h
  obtain ⟨us,rfl,r,B⟩:=hr.agg_inv
  exact ⟨us,rfl,r.symm,B⟩
 case v x=>obtain ⟨rfl,I⟩:=hr.flat_inv;exact g _ h.symm hr (zX1 I).1
 case sl=>exact g _ h.symm hr (by cases hr with | d j=>cases j<;>rfl)
 case el=>exact g _ h.symm hr (by cases hr with | d j=>cases j<;>rfl)
 case nloc=>exact g _ h.symm hr (by cases hr with
  | nloc0=>rfl
  | nloc1 _=>rfl
  | d j=>cases j)
 case loc=>exact g _ h.symm hr (by cases hr with
  | loc=>rfl
  | d j=>cases j)
 case ela=>exact g _ h.symm hr (by cases hr with
  | ela=>rfl
  | d j=>cases j)
 case own n=>exact g _ h.symm hr (by
  have z:∀x:Value,zKK x=true->x.cells = #[x]:=fun x hx=>by cases x<;>simp_all [zKK,Value.cells]
  cases hr with
  | own r=>exact z _ r
  | d j=>cases j)
 case ownb n=>exact g _ h.symm hr (by
  have z:∀x:Value,zSk x=true->x.cells = #[x]:=fun x hx=>by cases x<;>simp_all [zSk,Value.cells]
  cases hr with
  | ownb r=>exact z _ r
  | d j=>cases j)
 case fn=>exact g _ h.symm hr (by cases hr with
  | fn=>rfl
  | d j=>cases j)
theorem Fr.alloc {w0:World} (h:Fr w0 X0 w) (o:Obj):Fr w0 X0 (w.alloc o) :=
 ⟨h.os,h.tape,h.output,by have:=h.size;simp;omega,fun b g hx=>(by
  have j:=h.size
  rw [<- h.block b g hx]
  show (w.heap.push o)[b]? = _
  rw [gL,iN (by omega)])⟩
theorem Fr.drew {w0:World} (h:Fr w0 X0 w):Fr w0 X0 w.drew:=⟨h.os,h.tape,h.output,h.size,h.block⟩
theorem zGD (w:World) (o:Obj) {b:Nat} (h:b<w.heap.size):(w.alloc o).heap[b]? = w.heap[b]? := by
 show (w.heap.push o)[b]? = _
 rw [gL,iN (by omega)]
theorem zDP (w:World) (o:Obj):(w.alloc o).heap[w.heap.size]? = some o:=by
 show (w.heap.push o)[w.heap.size]? = _
 simp
section
variable {ρ : Type} {G:Ctx ρ} {m:Option ρ} {K:List (Kont ρ)}
def zEY (G:Ctx ρ) (n:Nat):Bool := !(G.N0.any (lA n))
theorem Pre'.lay {w:World} (h:Pre' G E S a w σ φ) {n:Nat} {V:Env} {S':zAC} (M:zEY G n=true) (hE:zFh n E=some V) (hS:zEx n S=some S') {hdr:Value} {fp:Nat->Prop} {w':World} {k:Blk}
  (Q:w.heap.size<=w'.heap.size) (H:∀b,fp b->b<w'.heap.size/\(w.heap.size<=b\/((∃k0,(n,k0)∈S) /\ φ n b)))
  (g:∀b,b<w.heap.size->((∃k0,(n,k0)∈S)->¬φ n b)->w'.heap[b]? = w.heap[b]?) (N:w'.os=w.os) (B:w'.tape=w.tape) (J:w'.output=w.output)
  (hk:∀D',(∀b,Dof G.X φ w S b->D' b/\w'.heap[b]? = w.heap[b]?)->zCT (upd σ n hdr) w' D' hdr fp k):Pre' G V ((n,k)::S') a w' (upd σ n hdr) (upd φ n fp):=by
 obtain ⟨h1,h2⟩:=h.inv.lay hS Q H g hk
 refine ⟨h.dk fun b C r=>g b C fun ⟨k0,j⟩ hx=>r ⟨n,k0,j,hx⟩,h.size,fun t p ht=>?_,h1,?_,fun m F=>?_,fun b C I=>?_⟩
 ·obtain ⟨u,hu,hr⟩:=zdm (x:=hdr) hE h.env t p ht
  exact ⟨u,hu,hr.mono h2⟩
 ·refine ⟨N.trans h.fr.os,B.trans h.fr.tape,J.trans h.fr.output,by have:=h.fr.size;omega,fun b C hx=>?_⟩
  have hs:=h.fr.size
  rw [<- h.fr.block b C hx]
  exact g b (by omega) fun ⟨k0,j⟩ r=>hx (h.new b ⟨n,k0,j,r⟩ C)
 ·have z:m≠n:=fun e=>by
   subst e
   unfold zEY at M
   rw [gM] at M
   rw [gK] at M
   exact M m F (by simp)
  rw [zHk _ _ z];exact h.agree m F
 ·obtain ⟨m,k',F,r⟩:=C
  have hs:=h.fr.size
  rcases lD.1 F with e | F
  ·cases e
   rw [zAw] at r
   rcases (H b r).2 with W | ⟨⟨k0,W⟩,h4⟩
   ·omega
   ·exact h.new b ⟨n,k0,W,h4⟩ I
  ·obtain ⟨z,k0,j,_⟩:=zOq hS m k' F
   rw [zHk _ _ z] at r
   exact h.new b ⟨m,k0,j,r⟩ I
theorem Pre'.new_ {w:World} (h:Pre' G E S a w σ φ) {n:Nat} {j:Env} {S':zAC} (C:zEY G n=true) (r:zFh n E=some j) (z:zEx n S=some S') {hdr:Value} {o:Obj} {k:Blk}
  (B:∀D',(∀b,Dof G.X φ w S b->D' b/\(w.alloc o).heap[b]? = w.heap[b]?)->zCT (upd σ n hdr) (w.alloc o) D' hdr (fun b=>b=w.heap.size) k) :
  Pre' G j ((n,k)::S') a (w.alloc o) (upd σ n hdr) (upd φ n fun b=>b=w.heap.size) :=
 h.lay C r z (by simp) (fun b g=>⟨by simp [g],.inl (by omega)⟩) (fun b g _=>zGD w o g) rfl rfl rfl B
theorem zaW {z:Env} {S':zAC} {j:List PV} {w:World} (h:Pre' G E S a w σ φ) (J:zEY G n=true) (C:zFh n E=some z) (F:zEx n S=some S') (r:zK3 n cs=some j)
  {us:List Value} {g:TypeId} (I:us.length=cs.length) (hr:∀(i:Nat) (c:PV) (x:Value),cs[i]? = some c->us[i]? = some x->R σ w (Dof G.X φ w S) c x) {d:Nat} (H:d<G.fn.ntmps) :
  Pre G ((d,.loc n 0)::z) ((n,.box g j)::S') (a.put (some d) (.pointer (some ⟨w.heap.size,0,none⟩))) (w.alloc (.cells ⟨us⟩ g)):=by
 refine ⟨_,_,(h.new_ (hdr:=.pointer (some ⟨w.heap.size,0,none⟩)) (o:=.cells ⟨us⟩ g) (k:=.box g j) J C F fun D' B=>?_).put H (.loc (by rw [zAw];rfl))⟩
 obtain ⟨N,Q⟩:=zQk (σ := σ) (w:=w) (D:=Dof G.X φ w S) (x:=.pointer (some ⟨w.heap.size,0,none⟩)) r
 exact .inl ⟨w.heap.size,us,rfl,fun x=>Iff.rfl,by rw [I,N],⟨(0,0),zDP w _,fun h=>absurd h (by simp)⟩,fun i c u r M=>(Q hr i c u r M).mono B⟩
theorem zR5 {all:Array Oper} {o:Oper} {rest:List Oper} (n:Nat) {g:TypeId} {x:Operand} {p:PV} {cs h:List PV} {d:Nat} {C:Env} {S':zAC} (ho:o.op=.box g x) (W:gE all E o=some true) (hx:ev E x=some p)
  (z:zOb p=some cs) (V:o.dst=some d) (B:lB d G.fn.ntmps=true) (hn:zEY G n=true) (M:zFh n E=some C) (N:zEx n S=some S') (Q:zK3 n cs=some h)
  (k:PO G m all rest K ((d,.loc n 0)::C) ((n,.box g h)::S')):PO G m all (o::rest) K E S:=by
 refine zGT W fun r hr a w ⟨σ,φ,F⟩=>?_
 obtain ⟨us,H,I,J⟩:=zKu z (zAm F.env hx)
 have j:(execOp a.eval o).run G.P w=.ok (.value (.pointer (some ⟨w.heap.size,0,none⟩))) (w.alloc (.cells ⟨us⟩ g)):=by
  simp [execOp,ho,Instr.box,newVar,newRow,H]
 unfold Oper.wp
 rw [j,Oper.upon_value,V]
 exact k r hr _ _ (zaW F hn M N Q I J (zCS B))
def zWK (T:Tab P) (t:TypeId):Option (List PV) :=
 match lku T.zeros t with
 | some z=>go z.cells.toList
 | none=>none
where go:List Value->Option (List PV)
 | []=>some []
 | x::l=>match zSy x,go l with
  | true,some ps=>some (.v x::ps)
  | _,_=>none
end
end
end
section
variable {all:Array Oper} {o:Oper} {rest:List Oper} {cs:List PV} {p:PV} {n:Nat} {α:Type} {t:TypeId} {u:Value} {a:Act} {us:List Value}
section
variable {P:Program} {ρ : Type} {G:Ctx ρ} {m:Option ρ} {K:List (Kont ρ)} {E:Env} {S:zAC} {σ : Nat->Value} {w:World} {D X:Nat->Prop} {φ : Nat->Nat->Prop}
theorem zYy {T:Tab P} (h:zWK T t=some cs):∃z,(zeroValue t).run P w=.ok z w/\z.cells.toList.length=cs.length /\
  ∀(i:Nat) (c:PV) (x:Value),cs[i]? = some c->z.cells.toList[i]? = some x->R σ w D c x:=by
 unfold zWK at h
 split at h<;>try simp at h
 rename_i z hz
 have j:=T.hzeros _ (zAc hz)
 simp only [Option.bind_eq_some_iff] at j
 obtain ⟨i,hi,r⟩:=j
 refine ⟨z,by simp [zeroValue,typeInfo,hi,r],?_⟩
 have B:∀(l:List Value) (cs:List PV),zWK.go l=some cs->l.length=cs.length/\∀(i:Nat) (c:PV) (x:Value),cs[i]? = some c->l[i]? = some x->R σ w D c x:=by
  intro l
  induction l with
  | nil=>intro cs h;simp [zWK.go] at h;subst h;exact ⟨rfl,fun i c x g=>by simp at g⟩
  | cons y l J =>
   intro cs h
   simp only [zWK.go] at h
   split at h<;>simp at h
   rename_i ps H I
   subst h
   obtain ⟨C,F⟩:=J ps I
   refine ⟨by simp [C],fun i c x g hx=>?_⟩
   cases i with
   | zero=>simp at g hx;subst g hx;exact .d (.v H)
   | succ i=>exact F i c x (by simpa using g) (by simpa using hx)
 exact B _ _ h
theorem zFf {T:Tab G.P} (n:Nat) {g:TypeId} {cs h:List PV} {d:Nat} {F:Env} {S':zAC} (ho:o.op=.alloc g) (W:gE all E o=some true)
  (B:zWK T g=some cs) (V:o.dst=some d) (C:lB d G.fn.ntmps=true) (hn:zEY G n=true) (M:zFh n E=some F) (N:zEx n S=some S') (Q:zK3 n cs=some h)
  (k:PO G m all rest K ((d,.loc n 0)::F) ((n,.box g h)::S')):PO G m all (o::rest) K E S:=by
 refine zGT W fun r hr a w ⟨σ,φ,hp⟩=>?_
 obtain ⟨z,H,I,J⟩:=zYy (σ := σ) (w:=w) (D:=Dof G.X φ w S) B
 have j:(execOp a.eval o).run G.P w=.ok (.value (.pointer (some ⟨w.heap.size,0,none⟩))) (w.alloc (.cells ⟨z.cells.toList⟩ g)):=by
  simp [execOp,ho,Instr.alloc,newVar,newRow,H]
 unfold Oper.wp
 rw [j,Oper.upon_value,V]
 exact k r hr _ _ (zaW hp hn M N Q I J (zCS C))
def ovr:List PV->Nat->List PV->Option (List PV)
 | cs,0,[]=>some cs
 | _::cs,0,x::xs=>match ovr cs 0 xs with
  | some l=>some (x::l)
  | none=>none
 | c::cs,n+1,xs=>match ovr cs n xs with
  | some l=>some (c::l)
  | none=>none
 | [],_,_=>none
theorem zS9:∀{cs:List PV} {n:Nat} {xs l:List PV},ovr cs n xs=some l->l.length=cs.length/\n+xs.length<=cs.length /\
  ∀i,l[i]? = if n<=i/\i<n+xs.length then xs[i - n]? else cs[i]?
 | [],0,[],l,h=>by simp [ovr] at h;subst h;simp
 | c::cs,0,[],l,h=>by simp [ovr] at h;subst h;simp
 | c::cs,0,x::xs,l,h=>by
  simp only [ovr] at h
  split at h<;>simp at h
  rename_i B r
  obtain ⟨g,z,j⟩:=zS9 r
  subst h
  refine ⟨by simp [g],by simp;omega,fun i=>?_⟩
  cases i with
  | zero=>simp
  | succ i =>
   rw [lX,j i]
   simp
 | c::cs,n+1,xs,l,h=>by
  simp only [ovr] at h
  split at h<;>simp at h
  rename_i B r
  obtain ⟨g,z,j⟩:=zS9 r
  subst h
  refine ⟨by simp [g],by simp;omega,fun i=>?_⟩
  cases i with
  | zero=>simp
  | succ i =>
   rw [lX,j i]
   have:(n+1<=i+1/\i+1<n+1+xs.length)↔(n<=i/\i<n+xs.length):=by omega
   simp only [this,lX,Nat.add_sub_add_right]
 | [],0,x::xs,l,h=>by simp [ovr] at h
 | [],n+1,xs,l,h=>by simp [ovr] at h
theorem zbb (a:Array Obj) (i:Nat) (f:Obj->Obj) (o:Obj) (h:a[i]? = some o):(a.modify i f)[i]? = some (f o):=by
 simp [Array.getElem?_modify,h]
theorem zH7 (b o:Nat) (e:TypeId) (fr:Nat×Nat):∀(z:List Value) (i:Nat) (g:List Value) (w:World),w.heap[b]? = some (.cells ⟨g⟩ e fr)->(fr.1<fr.2->g.length<=fr.1)->o+i+z.length<=g.length ->
  (∀v∈z,v.oneCell'=true)->∃w' r,(storeCells ⟨b,o,none⟩ z i).run P w=.ok () w'/\w'.heap[b]? = some (.cells ⟨r⟩ e fr)/\r.length=g.length /\
   (∀j,r[j]? = if o+i<=j/\j<o+i+z.length then z[j - (o+i)]? else g[j]?)/\w'.heap.size=w.heap.size/\(∀k,k≠b->w'.heap[k]? = w.heap[k]?)/\w'.os=w.os/\w'.tape=w.tape/\w'.output=w.output
 | [],i,g,w,h,hf,hl,C=>⟨w,g,by simp [storeCells],h,rfl,fun j=>by simp;intro C h2;omega,rfl,fun _ _=>rfl,rfl,rfl,rfl⟩
 | v::z,i,g,w,h,hf,hl,C=>by
  simp only [cP] at hl
  have hc:w.cell? ((⟨b,o,none⟩:Addr).add i)=some (g[o+i]'(by omega)):=by
   rw [zCZ,zBN h,lC]
  have hz:w.frozen? ((⟨b,o,none⟩:Addr).add i)=false:=by
   rw [zCZ]
   simp only [World.frozen?,h]
   cases M:(decide (fr.1<=o+i)&&decide (o+i<fr.2))
   ·rfl
   ·simp at M;have:=hf (by omega);omega
  have J:(store ((⟨b,o,none⟩:Addr).add i) v).run P w=.ok () (w.setCell ((⟨b,o,none⟩:Addr).add i) v):=by
   rw [run_store _ _ _ _ _ (C v (lH ..)),hc,hz];rfl
  rw [zCZ] at J
  have F:(w.setCell ⟨b,o+i,none⟩ v).heap[b]? = some (.cells ⟨g.set (o+i) v⟩ e fr):=by
   simp only [World.setCell]
   rw [zbb _ _ _ _ h]
   simp
  obtain ⟨w',r,N,Q,V,W,g5,g6,g7,g8,g9⟩:=zH7 b o e fr z (i+1) (g.set (o+i) v) (w.setCell ⟨b,o+i,none⟩ v) F (by simpa using hf) (by simp;omega) (fun u hu=>C u (lG _ hu))
  refine ⟨w',r,?_,Q,by simpa using V,fun j=>?_,by rw [g5];simp,fun k I=>?_,g7.trans rfl,g8.trans rfl,g9.trans rfl⟩
  ·rw [storeCells,Sem.run_bind,zCZ,J];exact N
  ·rw [W j]
   by_cases H:o+i=j
   ·subst H
    rw [iN (by omega),iP (by simp),cQ,gB (by omega)]
    rfl
   ·by_cases B:o+(i+1)<=j/\j<o+(i+1)+z.length
    ·rw [iP B,iP (by simp;omega)]
     rw [show j - (o+i)=(j - (o+(i+1)))+1 by omega,lX]
    ·rw [iN B,iN (by simp;omega),gN H]
  ·rw [g6 k I];exact Go.RowKit.Below.heap_setCell w _ _ k (by simpa using I)
def zGd:PV->Bool
 | .agg _ | .tup _ | .junk | .sel _ _ | .vw _ _ _ _=>false
 | _=>true
theorem zOa (hr:R σ w D p u) (h:zGd p=true):u.oneCell'=true:=by
 cases hr with
 | d j=>cases j with
  | v hx=>exact (zX1 hx).2
  | agg=>simp [zGd] at h
  | tup=>simp [zGd] at h
  | _=>rfl
 | own g=>rename_i n;revert g;cases σ n<;>simp [zKK,Value.oneCell']
 | ownb g=>rename_i n;revert g;cases σ n<;>simp [zSk,Value.oneCell']
 | agg=>simp [zGd] at h
 | tup=>simp [zGd] at h
 | junk=>simp [zGd] at h
 | sel=>simp [zGd] at h
 | vw=>simp [zGd] at h
 | _=>rfl
theorem zWW (z:us.length=cs.length) (h:∀(i:Nat) (c:PV) (x:Value),cs[i]? = some c->us[i]? = some x->R σ w D c x) (j:cs.all zGd=true):∀v∈us,v.oneCell'=true:=by
 intro v r
 obtain ⟨i,hi,rfl⟩:=gO.1 r
 have g:i<cs.length:=by omega
 exact zOa (h i _ _ (lC g) (lC hi)) (lR.1 j _ (gC g))
theorem zLt {g:Bool} (r:zc2 P t=some (g,n)) {ad:Addr} {v:Value} {us:List Value} (z:v.cells=⟨us⟩) (j:us.length=n) :
  (Instr.storeAt t (.pointer (some ad)) v).run P w=(storeCells ad us 0).run P w:=by
 obtain ⟨_,h⟩:=zIi (w:=w) r
 simp [Instr.storeAt,Instr.sureAddr,storeVar,h,z,j]
def zOD (n:Nat) (k:Blk):zAC->Option zAC
 | []=>none
 | (a,b)::S=>match lA a n with
  | true=>some ((a,k)::S)
  | false=>match zOD n k S with
   | some S'=>some ((a,b)::S')
   | none=>none
theorem zNC {n:Nat} {k:Blk}:∀{S S':zAC},zOD n k S=some S'->S'.map (·.1)=S.map (·.1)
 | [],S',h=>by simp [zOD] at h
 | (a,b)::S,S',h=>by
  simp only [zOD] at h
  split at h
  ·simp at h;subst h;rfl
  ·split at h<;>simp at h
   rename_i j g
   subst h
   simp [zNC g]
theorem zQr {n:Nat} {k:Blk}:∀{S S':zAC},(S.map (·.1)).Nodup->zOD n k S=some S'->∀m j,(m,j)∈S'->(m=n/\j=k)\/((m,j)∈S/\m≠n)
 | [],S',_,h,m,j,hm=>by simp [zOD] at h
 | (a,b)::S,S',hnd,h,m,j,hm=>by
  simp only [lT,lS] at hnd
  simp only [zOD] at h
  split at h
  ·rename_i e
   have e:=lQ e
   subst e
   simp at h;subst h
   rcases lD.1 hm with g | g
   ·cases g;exact .inl ⟨rfl,rfl⟩
   ·exact .inr ⟨lG _ g,fun e=>hnd.1 (by rw [<- e];exact lE.2 ⟨_,g,rfl⟩)⟩
  ·rename_i e
   have B:a≠n:=fun h=>by subst h;simp at e
   split at h<;>simp at h
   rename_i F g
   subst h
   rcases lD.1 hm with r | r
   ·cases r;exact .inr ⟨lH ..,B⟩
   ·rcases zQr hnd.2 g m j r with z | ⟨z,C⟩
    ·exact .inl z
    ·exact .inr ⟨lG _ z,C⟩
theorem Inv.turn (hi:Inv X σ φ w S) {n:Nat} {k0 k:Blk} {S':zAC} (F:(n,k0)∈S) (hS:zOD n k S=some S') {w':World} (hsz:w'.heap.size=w.heap.size) (j:∀b,¬φ n b->w'.heap[b]? = w.heap[b]?)
  (hk:∀D',(∀b,Dof X φ w S b->D' b/\w'.heap[b]? = w.heap[b]?)->zCT σ w' D' (σ n) (φ n) k):Inv X σ φ w' S'/\(∀b,Dof X φ w S b->Dof X φ w' S' b/\w'.heap[b]? = w.heap[b]?)/\∀b,zCQ φ S' b->zCQ φ S b:=by
 have g:=zQr hi.nodup hS
 have I:∀b,zCQ φ S' b->zCQ φ S b:=by
  rintro b ⟨m,r,H,B⟩
  rcases g m r H with ⟨rfl,_⟩ | ⟨h,_⟩
  ·exact ⟨m,k0,F,B⟩
  ·exact ⟨m,r,h,B⟩
 have N:∀b,Dof X φ w S b->Dof X φ w' S' b/\w'.heap[b]? = w.heap[b]? := by
  rintro b ⟨H,B,h⟩
  refine ⟨⟨by omega,B,fun m r W hf=>?_⟩,j b (h n k0 F)⟩
  obtain ⟨m',k'',h4,h5⟩:=I b ⟨m,r,W,hf⟩
  exact h m' k'' h4 h5
 refine ⟨⟨by rw [zNC hS];exact hi.nodup,fun b C=>by have:=hi.xlt b C;omega,fun b C=>⟨by have:=(hi.lt b (I b C)).1;omega,(hi.lt b (I b C)).2⟩,?_,?_⟩,N,I⟩
 ·intro m1 m2 k1 k2 H B z b Q V
  have J:∃k,(m1,k)∈S:=by
   rcases g m1 k1 H with ⟨rfl,_⟩ | ⟨h,_⟩
   ·exact ⟨k0,F⟩
   ·exact ⟨_,h⟩
  have M:∃k,(m2,k)∈S:=by
   rcases g m2 k2 B with ⟨rfl,_⟩ | ⟨h,_⟩
   ·exact ⟨k0,F⟩
   ·exact ⟨_,h⟩
  obtain ⟨q1,J⟩:=J
  obtain ⟨q2,M⟩:=M
  exact hi.disj m1 m2 q1 q2 J M z b Q V
 ·intro m r W
  rcases g m r W with ⟨rfl,rfl⟩ | ⟨h,z⟩
  ·exact hk _ N
  ·exact zCT.next N (fun b C=>j b fun hn=>hi.disj m n r k0 h F z b C hn) (hi.ok m r h) fun _ _ _ _ _ _ _ _=>rfl
theorem Pre'.turn {w:World} (h:Pre' G E S a w σ φ) {n:Nat} {k0 k:Blk} {S':zAC} (B:(n,k0)∈S) (N:zOD n k S=some S') {w':World} (H:w'.heap.size=w.heap.size) (g:∀b,¬φ n b->w'.heap[b]? = w.heap[b]?)
  (F:w'.os=w.os) (j:w'.tape=w.tape) (z:w'.output=w.output)
  (Q:∀D',(∀b,Dof G.X φ w S b->D' b/\w'.heap[b]? = w.heap[b]?)->zCT σ w' D' (σ n) (φ n) k):Pre' G E S' a w' σ φ := by
 obtain ⟨I,J,M⟩:=h.inv.turn B N H g Q
 refine ⟨h.dk fun b r C=>g b fun hx=>C ⟨n,k0,B,hx⟩,h.size,fun t p V=>let ⟨u,W,hr⟩:=h.env t p V;⟨u,W,hr.mono J⟩,I,?_,h.agree,fun b r=>h.new b (M b r)⟩
 refine ⟨F.trans h.fr.os,j.trans h.fr.tape,z.trans h.fr.output,by have:=h.fr.size;omega,fun b r hx=>?_⟩
 rw [<- h.fr.block b r hx]
 exact g b fun C=>hx (h.new b ⟨n,k0,B,C⟩ r)
theorem zUU {T:Tab G.P} {x y:Operand} {off sz:Nat} {g:Bool} {ty:Nat} {cells j:List PV} {S':zAC} 
  (ho:o.op=.store t x y) (hg:gE all E o=some true) (hx:ev E x=some (.loc n off)) (hb:lkS S n=some (.box ty cells)) (hy:ev E y=some p) (hcs:zOb p=some cs) (M:cs.all zGd=true)
  (ht:lku T.tys t=some (g,sz)) (hsz:cs.length=sz) (hov:ovr cells off cs=some j) (J:o.dst=none) (hS:zOD n (.box ty j) S=some S') (k:PO G m all rest K E S'):PO G m all (o::rest) K E S:=by
 refine zGT hg fun r hr a w ⟨σ,φ,N⟩=>?_
 have z:=zAl hb
 rcases N.inv.ok n _ z with W | hw
 rotate_left
 ·have:=zAm N.env hx
  generalize a.eval x=u at this
  cases this with
  | loc F=>rw [hw.noP] at F;cases F
  | d J=>cases J
 obtain ⟨b,us0,h1,h2,h3,⟨⟨fr,h4,h5⟩,h6⟩⟩:=W
 obtain ⟨us,g1,V,g3⟩:=zKu hcs (zAm N.env hy)
 obtain ⟨o1,o2,o3⟩:=zS9 hov
 have hbx:a.eval x=.pointer (some ⟨b,off,none⟩):=by
  have:=zAm N.env hx
  generalize a.eval x=u at this
  cases this with
  | loc F=>rw [zQh h1] at F;simp at F;subst F;rfl
  | d J=>cases J
 obtain ⟨w',I,s1,s2,s3,s4,s5,s6,s7,s8,s9⟩:=zH7 (P:=G.P) b off ty fr us 0 us0 w h4 h5 (by omega) (zWW V g3 M)
 have Q:(execOp a.eval o).run G.P w=.ok .skip w':=by
  simp only [execOp,ho,hbx,Sem.run_bind,zLt (T.htys _ (zAc ht)) g1 (V.trans hsz),s1,Result.andThen_ok,Sem.run_pure]
 unfold Oper.wp
 rw [Q,Oper.upon_skip,J]
 refine k r hr _ _ ⟨σ,φ,N.turn z hS s5 (fun c C=>s6 c fun e=>C ((h2 c).2 e)) s7 s8 s9 fun D' hD=>?_⟩
 refine .inl ⟨b,I,h1,h2,by rw [s3,h3,o1],⟨fr,s2,fun h=>by rw [s3];exact h5 h⟩,fun i c u C H=>?_⟩
 rw [o3 i] at C
 rw [s4 i] at H
 simp only [cH,V] at H
 split at C
 ·rename_i B
  rw [iP B] at H
  exact (g3 _ c u C H).mono hD
 ·rename_i B
  rw [iN B] at H
  exact (h6 i c u C H).mono hD
theorem zE1 {T:Tab G.P} (enc : α -> List PV) (xs:List α) {f : α -> Option ρ} {t:TypeId} {x ix:Operand} {size e F:Nat} {full:Bool} {kk:IntKind} {i:Int} {d:Nat}
  (ho:o.op=.indexAddr t x ix) (hg:gE all E o=some true) (hx:ev E x=some (.sl size full (xs.map enc))) (hi:ev E ix=some (.v (.int kk i))) (ht:lku T.els t=some (e,size,F))
  (hd:o.dst=some d) (Q:lB d G.fn.ntmps=true) (k:∀y,idx xs i=some y->PO G (f y) all rest K ((d,.el (enc y) 0)::E) S):PO G (bnd (idx xs i) f) all (o::rest) K E S:=by
 refine zGJ fun y hy=>zGT hg fun r hr a w ⟨σ,φ,V⟩=>?_
 have h:=zKW enc hy
 unfold idx at h
 split at h
 case isFalse=>simp at h
 rename_i h0
 obtain ⟨J,inf,z,hsz,_⟩:=zBF (T.hels _ (zAc ht))
 obtain ⟨N,_⟩:=(zAm V.env hi).flat_inv
 have C:=zAm V.env hx
 generalize hu:a.eval x=u at C
 have hlen:i.toNat<(xs.map enc).length:=(lF.1 h).1
 cases C with
 | d I =>
  generalize W:xs.map enc=rows at *
  cases I with
  | nil=>simp at h
  | sl g h1 h2 h3 h4 h5 h6 h7 =>
   rename_i ad cap
   have M:i<(rows.length:Int):=by omega
   have B:(execOp a.eval o).run G.P w=.ok (.value (.pointer (some (ad.add (i.toNat*size))))) w:=by
    simp [execOp,ho,hu,N,Instr.indexAt,asIntOf,run_underlying J,h0,M,sizeOf,typeInfo,z,hsz]
   unfold Oper.wp
   rw [B,Oper.upon_value,hd]
   refine k y hy r hr _ _ ⟨σ,φ,V.put (zCS Q) (.d ?_)⟩
   have:=RD.el (w:=w) (D:=Dof G.X φ w S) (row:=enc y) (off:=0) (a:=ad.add (i.toNat*size)) (fun j=>g (i.toNat*size+j)) (by rw [zMZ];exact h4)
    (fun j c H=>by rw [zPF];exact h6 _ _ _ _ h H) (fun j c H=>h7 _ _ _ _ h H)
   simpa [Addr.add] using this
theorem zR6 {T:Tab G.P} (enc : α -> List PV) (xs:List α) {args:Array Operand} {tys:Array TypeId} {t:TypeId} {x:Operand} {size:Nat} {z:Nat×Nat×Nat} {full:Bool} {d:Nat}
  (C:o.op=.call ⟨.builtin .len,args,tys⟩) (h:args.toList=[x]) (j:tys.toList=[t]) (B:gE all E o=some true) (hx:ev E x=some (.sl size full (xs.map enc))) (F:lku T.els t=some z)
  (r:o.dst=some d) (g:lB d G.fn.ntmps=true) (k:PO G m all rest K ((d,.v (.int .i64 (xs.length:Nat)))::E) S):PO G m all (o::rest) K E S:=by
 refine po_ev (T:=T) B (p:=.v (.int .i64 (xs.length:Nat))) ?_ r (zCS g) k
 simp only [C,ev1,h,j,hx,F,lenE,lL]
def zRH (T:Tab P) (E:Env):Op->Option (IntKind×Int)
 | .binOp op _ x y _=>match ev E x,ev E y with
  | some (.v (.int k a)),some (.v (.int k' b))=>bif decide (k=k') then (match op with
   | .add=>some (k,a+b)
   | .sub=>some (k,a - b)
   | .mul=>some (k,a*b)
   | _=>none) else none
  | _,_=>none
 | .unOp .neg _ x=>match ev E x with
  | some (.v (.int k a))=>some (k,0 - a)
  | _=>none
 | .convert s t x=>match lku T.bases s,lku T.bases t,ev E x with
  | some (.int _),some (.int k),some (.v (.int _ a))=>some (k,a)
  | _,_,_=>none
 | _=>none
theorem zU7 {T:Tab P} (z:zQV σ w D E a.tmps) {o:Oper} {k:IntKind} {n:Int} (h:zRH T E o.op=some (k,n)):(execOp a.eval o).run P w=.ok (.value (.int k (k.wrap n))) w:=by
 unfold zRH at h
 split at h
 ·rename_i V t x y W r
  split at h<;>try simp at h
  rename_i B C H Q j J
  obtain ⟨g,_⟩:=(zAm z j).flat_inv
  obtain ⟨I,_⟩:=(zAm z J).flat_inv
  by_cases F:B=H
  ·subst F
   simp only [decide_true,cond_true] at h
   split at h<;>simp at h<;>obtain ⟨rfl,rfl⟩:=h <;>
    simp [execOp,r,g,I,zG8,binOp,Op.intArith]
  ·simp [F] at h
 ·rename_i t x r
  split at h<;>simp at h
  rename_i B C j
  obtain ⟨rfl,rfl⟩:=h
  obtain ⟨g,_⟩:=(zAm z j).flat_inv
  simp [execOp,r,g,Op.unary,Op.intArith]
 ·rename_i s t x r
  split at h<;>simp at h
  rename_i k0 B H C M N j
  obtain ⟨rfl,rfl⟩:=h
  obtain ⟨g,_⟩:=(zAm z j).flat_inv
  simp [execOp,r,g,convert,run_underlying (zOX (T.hbases _ (zAc M))),run_underlying (zOX (T.hbases _ (zAc N))),Conv.intToInt]
 ·simp at h
def zAo (P:Program) (f:FuncId):Bool:=match P.funcs[f]? with
 | some fn => !(fn.name == "runtime.NumGoroutine") && fn.body.isSome
 | none=>false
theorem zIh {f:FuncId} (h:zAo P f=true) (args:Array Value):(callFunc f args).run P w=.ok (.enter f args) w:=by
 unfold zAo at h
 split at h<;>simp at h
 rename_i fn r
 obtain ⟨j,g⟩:=h
 simp [callFunc,r,j]
 intro z
 rw [z] at g
 simp at g
def notT:PV->Bool
 | .tup _=>false
 | _=>true
inductive Coe1:PV->PV->Prop
 | rfl {p:PV}:Coe1 p p
 | nloc0 {n off:Nat}:Coe1 (.v (.pointer none)) (.nloc n off)
 | nloc1 {n off:Nat}:Coe1 (.loc n off) (.nloc n off)
 | ownb {n:Nat}:Coe1 (.ownb n) (.own n)
 | err0:Coe1 (.v .nilIface) (.err false)
 | nil {s:Nat} {f:Bool}:Coe1 (.v (.slice none 0 0)) (.sl s f [])
 | less {s:Nat} {rows:List (List PV)}:Coe1 (.sl s true rows) (.sl s false rows)
 | sel {k:Nat} {alts:List PV} {p:PV}:alts[k]? = some p->notT p=true->Coe1 p (.sel k alts)
def zfW:List PV->List PV->Prop
 | [],[]=>True
 | a::l,b::m=>Coe1 a b/\zfW l m
 | _,_=>False
inductive Coe:PV->PV->Prop
 | rfl {p:PV}:Coe p p
 | nloc0 {n off:Nat}:Coe (.v (.pointer none)) (.nloc n off)
 | nloc1 {n off:Nat}:Coe (.loc n off) (.nloc n off)
 | ownb {n:Nat}:Coe (.ownb n) (.own n)
 | err0:Coe (.v .nilIface) (.err false)
 | nil {s:Nat} {f:Bool}:Coe (.v (.slice none 0 0)) (.sl s f [])
 | less {s:Nat} {rows:List (List PV)}:Coe (.sl s true rows) (.sl s false rows)
 | sel {k:Nat} {alts:List PV} {p:PV}:alts[k]? = some p->notT p=true->Coe p (.sel k alts)
 | agg {cs ds:List PV}:zfW cs ds->Coe (.agg cs) (.agg ds)
theorem zZA {v:Value} (h:zSk v=true):zKK v=true:=by
 unfold zSk at h
 split at h<;>first | rfl | cases h
theorem R.coe1 {q:PV} (r:R σ w D p u) (h:Coe1 p q):R σ w D q u:=by
 cases h with
 | rfl=>exact r
 | nloc0=>obtain ⟨rfl,_⟩:=r.flat_inv;exact .nloc0
 | nloc1=>cases r with
  | loc z=>exact .nloc1 z
  | d g=>cases g
 | ownb=>cases r with
  | ownb z=>exact .own (zZA z)
  | d g=>cases g
 | err0=>obtain ⟨rfl,_⟩:=r.flat_inv;exact .d .err0
 | nil=>obtain ⟨rfl,_⟩:=r.flat_inv;exact .d (.nil (cG _) fun _=>rfl)
 | sel h _=>exact .sel h r
 | less=>cases r with
  | d g=>cases g with
   | nil j _=>exact .d (.nil j (by simp))
   | sl f j B _ C F H I=>exact .d (.sl f j B (by simp) C F H I)
theorem zQe:∀{cs ds:List PV},zfW cs ds->cs.length=ds.length
 | [],[],_=>rfl
 | _::_,_::_,⟨_,h⟩=>by simp [zQe h]
 | [],_::_,h=>h.elim
 | _::_,[],h=>h.elim
theorem zTv:∀{cs ds:List PV},zfW cs ds->∀(i:Nat) (d:PV),ds[i]? = some d->∃c,cs[i]? = some c/\Coe1 c d
 | [],[],_,i,d,h=>by simp at h
 | a::_,b::_,⟨h1,h2⟩,i,d,h=>by
  cases i with
  | zero=>simp at h;subst h;exact ⟨a,rfl,h1⟩
  | succ i=>exact zTv h2 i d (by simpa using h)
 | [],_::_,h,_,_,_=>h.elim
 | _::_,[],h,_,_,_=>h.elim
theorem zdM {ds:List PV} (h:zfW cs ds) {p:PV} (j:zSb p) (g:cs[0]? = some p):ds[0]? = some p:=by
 obtain ⟨l,rfl,_⟩:=j
 match cs,ds,h with
 | a::_,b::_,⟨h1,_⟩ =>
  simp at g;subst g
  cases h1 with
  | rfl=>rfl
  | sel _ h=>cases h
theorem R.coe {q:PV} (r:R σ w D p u) (h:Coe p q):R σ w D q u:=by
 cases h with
 | rfl=>exact r
 | nloc0=>exact r.coe1 .nloc0
 | nloc1=>exact r.coe1 .nloc1
 | ownb=>exact r.coe1 .ownb
 | sel h _=>exact .sel h r
 | err0=>exact r.coe1 .err0
 | nil=>exact r.coe1 .nil
 | less=>exact r.coe1 .less
 | agg h =>
  obtain ⟨us,rfl,B,C⟩:=r.agg_inv
  refine .agg (by rw [<- zQe h,B]) fun i c u F H=>?_
  obtain ⟨g,j,z⟩:=zTv h i c F
  exact (C i g u j H).coe1 z
def zMG (E:Env):List Operand->List PV->Prop
 | [],[]=>True
 | x::l,q::qs=>(∃p,ev E x=some p/\Coe p q)/\zMG E l qs
 | _,_=>False
theorem zOV {a:Act} (r:zQV σ w D E a.tmps):∀{l:List Operand} {qs:List PV},zMG E l qs->RL σ w D qs (l.map a.eval)
 | [],[],_=>⟨rfl,fun i c u g=>by simp at g⟩
 | x::l,q::qs,⟨⟨p,h1,h2⟩,h3⟩=>by
  obtain ⟨z,B⟩:=zOV r h3
  refine ⟨by simp [z],fun i c u g j=>?_⟩
  cases i with
  | zero=>simp at g j;subst g j;exact (zAm r h1).coe h2
  | succ i=>exact B i c u (by simpa using g) (by simpa using j)
 | [],_::_,h=>h.elim
 | _::_,[],h=>h.elim
def noN (p:PV):Bool:=(names p).isEmpty
theorem RL.noN {σ':Nat->Value} {ps:List PV} (h:RL σ w D ps us) (r:ps.all noN=true):RL σ' w D ps us:=by
 refine ⟨h.1,fun i c u g z=>(h.2 i c u g z).agree fun n j=>?_⟩
 have:=lR.1 r c (lU g)
 unfold Pw.noN at this
 rw [gD] at this
 rw [this] at j;cases j
theorem zKa {f:FuncId} {args:Array Operand} {tys:Array TypeId} {qs:List PV} {d:Nat} {M:Option α} {enc : α -> PV} {g : α -> Option ρ} 
  (hc:∀y,M=some y->DC G.L G.P f qs (enc y)) (ho:o.op=.call ⟨.value (.func f),args,tys⟩) (hg:gE all E o=some true) (ha:zMG E args.toList qs) (he:∀y,noN (enc y)=true) (F:zAo G.P f=true)
  (hd:o.dst=some d) (hlt:lB d G.fn.ntmps=true) (k:∀y,M=some y->PO G (g y) all rest K ((d,enc y)::E) S):PO G (bnd M g) all (o::rest) K E S:=by
 refine zGJ fun y hy=>zGT hg fun r hr a w ⟨σ,φ,j⟩=>?_
 have hrun:(execOp a.eval o).run G.P w=.ok (.enter f ⟨args.toList.map a.eval⟩) w:=by
  have e1:(#[]:Array Value)++args.map a.eval ++ #[]=⟨args.toList.map a.eval⟩:=cF.1 (by simp)
  simp only [execOp,ho,resolve,Act.eval,Deferred.ofValue,invoke,Sem.run_bind,Sem.run_pure,Result.andThen_ok]
  rw [zIh F]
  exact congrArg (fun x=>Result.ok (Next.enter f x) w) e1
 unfold Oper.wp
 rw [hrun,Oper.upon_enter]
 have H:=zOV j.env ha
 let V:Nat->Prop:=fun b=>G.X b\/zCQ φ S b
 have hD':∀w' b,Dof V φ w' [] b->b<w'.heap.size/\¬G.X b/\¬zCQ φ S b:=fun w' b ⟨I,N,_⟩=>⟨I,fun h=>N (.inl h),fun h=>N (.inr h)⟩
 have hi':Inv V σ φ w []:=⟨by simp,fun b B=>by
  rcases B with B | B
  ·exact j.inv.xlt b B
  ·exact (j.inv.lt b B).1,fun b ⟨n,k,h,_⟩=>by simp at h,fun n m k l h=>by simp at h,fun n k h=>by simp at h⟩
 have hDD:∀b,Dof G.X φ w S b->Dof V φ w [] b:=fun b ⟨I,N,W⟩=>⟨I,fun h=>by
  rcases h with h | ⟨n,k,h,F⟩
  ·exact N h
  ·exact W n k h F,fun n k h=>by simp at h⟩
 have J:RL σ w (Dof V φ w []) qs (args.toList.map a.eval):=⟨H.1,fun i c u hc hu=>(H.2 i c u hc hu).mono fun b B=>⟨hDD b B,rfl⟩⟩
 refine (hc y hy V σ φ w _ (j.laid fun _ _ ⟨n,k,h,_⟩=>by simp at h) hi' J).mono ?_
 rintro e w' ⟨p,S',σ',φ',u,rfl,⟨rfl,rfl⟩,hi2,hru,z,_,_⟩
 have B:∀b,b<w.heap.size->w'.heap[b]? = w.heap[b]? := fun b B=>z.block b B fun ⟨n,k,h,_⟩=>by simp at h
 have hD2:∀b,Dof G.X φ w S b->Dof G.X φ w' S b/\w'.heap[b]? = w.heap[b]? := fun b ⟨I,N,W⟩=>⟨⟨by have:=z.size;omega,N,W⟩,B b I⟩
 have hpre:Pre' G E S a w' σ φ := by
  refine ⟨j.dk fun b I _=>B b I,j.size,fun t q ht=>let ⟨v,hv,hrv⟩:=j.env t q ht;⟨v,hv,hrv.mono hD2⟩,?_,?_,j.agree,fun b F hlt'=>j.new b F hlt'⟩
  ·refine ⟨j.inv.nodup,fun b C=>by have:=j.inv.xlt b C;have:=z.size;omega,fun b F=>⟨by have:=(j.inv.lt b F).1;have:=z.size;omega,(j.inv.lt b F).2⟩,j.inv.disj,fun n k hm=>?_⟩
   exact zCT.next hD2 (fun b F=>B b (j.inv.lt b ⟨n,k,hm,F⟩).1) (j.inv.ok n k hm) fun _ _ _ _ _ _ _ _=>rfl
  ·exact ⟨z.os.trans j.fr.os,z.tape.trans j.fr.tape,z.output.trans j.fr.output,by have:=z.size;have:=j.fr.size;omega,fun b C hx=>by
    have:=j.fr.size
    rw [B b (by omega)];exact j.fr.block b C hx⟩
 rw [hd]
 refine k y hy r hr _ _ ⟨σ,φ,hpre.put (zCS hlt) ?_⟩
 have Q:=he y
 unfold Pw.noN at Q
 rw [gD] at Q
 refine (hru.agree (σ' := σ) fun n hn=>by rw [Q] at hn;cases hn).mono fun b C=>⟨?_,rfl⟩
 obtain ⟨I,N,W⟩:=hD' w' b ⟨C.1,C.2.1,fun n k h=>by simp at h⟩
 exact ⟨I,N,fun n k h F=>W ⟨n,k,h,F⟩⟩
theorem zKr {j:Type} {f g : α -> j} {l:List α} (h:l.map f=l.map g):∀x∈l,f x=g x:=List.map_inj_left.1 h
end
end
section
variable {size e k:Nat} {v:Value} {rows:List (List PV)} {xs:List Value} {all:Array Oper} {rest:List Oper}
section
variable {P:Program} {ρ : Type} {G:Ctx ρ} {m:Option ρ} {K:List (Kont ρ)} {E:Env} {S:zAC} {σ : Nat->Value} {w:World} {D X:Nat->Prop} {φ : Nat->Nat->Prop}
def zU9 (h:List (Nat×Bool×Nat)) (E:Env):List (Nat×Operand)->List PV->Option (List PV)
 | [],cs=>some cs
 | (i,x)::l,cs=>match zVf h i,ev E x with
  | some (off,_,n),some p=>(match zOb p with
   | some qs=>bif lA qs.length n then (match ovr cs off qs with
    | some g=>zU9 h E l g
    | none=>none) else none
   | none=>none)
  | _,_=>none
theorem zay {a:Act} (hE:zQV σ w D E a.tmps) {fs:List (Nat×Bool×Nat)} {place:Nat->Option (Nat×Nat)} (hp:∀i r g n,zVf fs i=some (r,g,n)->place i=some (r,n)) :
  ∀{l:List (Nat×Operand)} {cs B:List PV} {us:List Value},zU9 fs E l cs=some B->us.length=cs.length->(∀(i:Nat) (c:PV) (x:Value),cs[i]? = some c->us[i]? = some x->R σ w D c x) ->
   ∃C:List Value,Instr.fill place ⟨us⟩ (l.map fun (i,x)=>(i,a.eval x))=some ⟨C⟩/\C.length=B.length/\∀(i:Nat) (c:PV) (x:Value),B[i]? = some c->C[i]? = some x->R σ w D c x
 | [],cs,B,us,h,hl,hr=>by simp [zU9] at h;subst h;exact ⟨us,rfl,hl,hr⟩
 | (i,x)::l,cs,B,us,h,hl,hr=>by
  simp only [zU9] at h
  split at h<;>try simp at h
  rename_i r g n p hn W
  split at h<;>try simp at h
  rename_i qs hqs
  cases hb:lA qs.length n<;>simp only [hb,cond_true,cond_false] at h
  ·simp at h
  have hbn:=lQ hb
  split at h<;>try simp at h
  rename_i N V
  obtain ⟨F,g1,g2,g3⟩:=zKu hqs (zAm hE W)
  obtain ⟨o1,o2,o3⟩:=zS9 V
  have lay:∀(F:List Value) (j:Nat) (us:Array Value),r+j+F.length<=us.size->∃H:List Value,(F.zipIdx j).foldl (fun cs (c,k)=>cs.setIfInBounds (r+k) c) us=⟨H⟩/\H.length=us.size /\
    ∀t:Nat,H[t]? = if r+j<=t/\t<r+j+F.length then F[t - (r+j)]? else us[t]? := by
   intro F
   induction F with
   | nil=>intro j us _;exact ⟨us.toList,rfl,by simp,fun t=>by simp;intro I J;omega⟩
   | cons v F ih =>
    intro j us hsz
    simp only [cP] at hsz
    obtain ⟨H,I,J,Q⟩:=ih (j+1) (us.setIfInBounds (r+j) v) (by simp;omega)
    refine ⟨H,by simpa [gP] using I,by simpa using J,fun t=>?_⟩
    rw [Q t]
    by_cases ht:r+j=t
    ·subst ht
     rw [iN (by omega),iP (by simp),cQ]
     simp [gQ]
     omega
    ·by_cases z:r+(j+1)<=t/\t<r+(j+1)+F.length
     ·rw [iP z,iP (by simp;omega),show t - (r+j)=(t - (r+(j+1)))+1 by omega,lX]
     ·rw [iN z,iN (by simp;omega)]
      simp [cN ht]
  obtain ⟨H,I,J,Q⟩:=lay F 0 ⟨us⟩ (by simp;omega)
  have hr1:∀(i:Nat) (c:PV) (x:Value),N[i]? = some c->H[i]? = some x->R σ w D c x:=by
   intro t c x M hx
   rw [o3 t] at M
   rw [Q t] at hx
   simp only [cH,g2] at hx
   split at M
   ·rename_i z;rw [iP z] at hx;exact g3 _ _ _ M hx
   ·rename_i z;rw [iN z] at hx;exact hr _ _ _ M (by simpa using hx)
  obtain ⟨C,e1,e2,e3⟩:=zay hE hp (us:=H) h (by rw [J,o1];simpa using hl) hr1
  refine ⟨C,?_,e2,e3⟩
  simp only [lT,Instr.fill,hp i r g n hn,g1]
  rw [iN (by simp;omega)]
  have hz:((⟨F⟩:Array Value).zipIdx).foldl (fun cs (x:Value×Nat)=>cs.setIfInBounds (r+x.2) x.1) (⟨us⟩:Array Value)=⟨H⟩:=by
   rw [<- gR,gS]
   exact I
  rw [hz]
  exact e1
theorem zVm:∀{l:List Field} {g:List (Nat×Bool×Nat)},zZy (zT4 P) l=some g->l.mapM (fun f=>(P.info? f.type).map fun i=>(f.offset,i.size))=some (g.map fun x=>(x.1,x.2.2))
 | [],g,h=>by simp [zZy] at h;subst h;rfl
 | f::l,g,h=>by
  simp only [zZy] at h
  split at h<;>try simp at h
  rename_i y hy
  split at h<;>simp at h
  rename_i q j
  subst h
  unfold zT4 at hy
  split at hy<;>simp at hy
  rename_i i d hi r
  subst hy
  simp [gT,hi,zVm j]
theorem zOy {T:Tab G.P} {o:Oper} {t:TypeId} {parts:Array (Nat×Operand)} {C:List (Nat×Bool×Nat)} {zs cs:List PV} {d:Nat} (ho:o.op=.build t parts) (V:gE all E o=some true)
  (Q:lku T.flds t=some C) (hz:zWK T t=some zs) (M:zU9 C E parts.toList zs=some cs) (N:o.dst=some d) (I:lB d G.fn.ntmps=true) (k:PO G m all rest K ((d,.agg cs)::E) S):PO G m all (o::rest) K E S:=by
 refine zGT V fun r hr a w ⟨σ,φ,J⟩=>?_
 have B:=T.hflds _ (zAc Q)
 unfold zOi at B
 split at B<;>try simp at B
 rename_i l W
 obtain ⟨z,z1,z2,z3⟩:=zYy (σ := σ) (w:=w) (D:=Dof G.X φ w S) hz
 obtain ⟨us,u1,u2,u3⟩:=zay J.env (place:=fun i=>(C.map fun x=>(x.1,x.2.2))[i]?) (fun i off g n h=>by rw [zKX] at h;simp [h]) (us:=z.cells.toList) M z2 z3
 have H:(execOp a.eval o).run G.P w=.ok (.value (.agg ⟨us⟩)) w:=by
  have F:=run_places (P:=G.P) w _ _ (zVm B)
  have e:((parts.map fun (x:Nat×Operand)=>(x.1,a.eval x.2)).toList)=parts.toList.map fun x=>(x.1,a.eval x.2):=by simp
  have j:Instr.fill (fun i=>(C.map fun x=>(x.1,x.2.2))[i]?) z.cells (parts.toList.map fun x=>(x.1,a.eval x.2))=some ⟨us⟩:=u1
  generalize (C.map fun x=>(x.1,x.2.2))=places at F j
  simp [execOp,ho,Instr.build,z1,run_underlying W,gF,F,j]
 unfold Oper.wp
 rw [H,Oper.upon_value,N]
 exact k r hr _ _ ⟨σ,φ,J.put (zCS I) (.agg u2.symm u3)⟩
def zf6:PV->Bool
 | .v _ | .sl _ _ _ | .el _ _ | .mpd _=>true
 | _=>false
def zXq:PV->Bool
 | .v _ | .sl _ _ _ | .el _ _ | .mpd _=>true
 | .agg cs=>cs.all zf6
 | _=>false
theorem R.toRD1 {p:PV} {u:Value} (r:R σ w D p u) (h:zf6 p=true):RD w D p u:=by
 cases r with
 | d g=>exact g
 | _=>simp [zf6] at h
theorem R.toRD {p:PV} {u:Value} (r:R σ w D p u) (h:zXq p=true):RD w D p u:=by
 cases r with
 | d B=>exact B
 | agg j z=>exact .agg j fun i c u g C=>(z i c u g C).toRD1 (lR.1 h c (lU g))
 | _=>simp [zXq] at h
theorem zI9 (h:∀r∈rows,r.length=size):rows.flatten.length=rows.length*size:=by
 induction rows with
 | nil=>simp
 | cons r rows j=>simp [h r (lH ..),j fun q g=>h q (lG _ g),lP];omega
def zNY:Value->Option Nat
 | .slice _ _ 0=>none
 | v=>v.ownBlock
theorem zM5 {b:Nat} (h:zNY v=some b):v.ownBlock=some b:=by
 unfold zNY at h
 split at h
 ·cases h
 ·exact h
theorem zPX {a:Option Addr} {n cap:Nat} (h:0<cap):zNY (.slice a n cap)=(Value.slice a n cap).ownBlock:=by
 cases cap with
 | zero=>omega
 | succ c=>rfl
def zcu (w:World) (e size:Nat) (v:Value) (k:Nat) (xs:List Value):Prop :=
 (w.ownsRow 0 e size v k xs/\zNY v=v.ownBlock)\/(k=0/\xs=[]/\∃a,v=.slice (some a) 0 0)
theorem zcu.len (h:zcu w e size v k xs):xs.length=k*size:=by
 rcases h with h | ⟨rfl,rfl,_⟩
 ·exact h.1.1
 ·simp
theorem zIu (h:lB e zLI=true):e % zLI=e:=Nat.mod_eq_of_lt (by simpa [cO] using h)
theorem zff {fp:Nat->Prop} (H:lB e zLI=true) (h:zCT σ w D v fp (.arr e size rows)):∃xs:List Value,zcu w e size v rows.length xs /\
  (∀(i:Nat) (c:PV) (u:Value),rows.flatten[i]? = some c->xs[i]? = some u->RD w D c u)/\∀b,fp b↔zNY v=some b:=by
 obtain ⟨Q,h⟩:=h
 rcases h with ⟨rfl,⟨I,rfl⟩,j⟩ | ⟨b,us,cap,rfl,J,j,⟨C,g⟩,M,⟨fr,F,_,z⟩,N⟩
 ·refine ⟨[],?_,fun i c u B=>by simp at B,fun b=>by simp [zNY,j b]⟩
  cases I with
  | none=>exact .inl ⟨⟨by simp,.inl ⟨rfl,rfl⟩⟩,rfl⟩
  | some a=>exact .inr ⟨rfl,rfl,a,rfl⟩
 ·rw [z H,zIu H] at F
  refine ⟨us.take (rows.length*size),.inl ⟨⟨?_,.inr ⟨b,cap,⟨us⟩,rfl,cG _,F,C,M,j,rfl⟩⟩,zPX g⟩,fun i c u B r=>?_,fun x=>by rw [zPX g];simp [Value.ownBlock,J x,eq_comm]⟩
  ·rw [cR,j];exact gU (lO _ C)
  ·rw [lV] at r
   split at r
   ·exact N i c u B r
   ·simp at r
theorem zYP (Q:lB e zLI=true) (F:∀r:List PV,r∈rows->r.length=size) (h:w.ownsRow 0 e size v rows.length xs)
  (hr:∀(i:Nat) (c:PV) (u:Value),rows.flatten[i]? = some c->xs[i]? = some u->RD w D c u):zCT σ w D v (fun b=>zNY v=some b) (.arr e size rows):=by
 refine ⟨F,?_⟩
 obtain ⟨hl,h⟩:=h
 rcases h with ⟨rfl,V⟩ | ⟨g,cap,B,rfl,_,H,I,J,M,N⟩
 ·exact Or.inl ⟨lZ V,⟨_,rfl⟩,fun x=>by simp [zNY]⟩
 ·by_cases z:cap=0
  ·subst z
   have j:rows.length=0:=by omega
   exact .inl ⟨lZ j,⟨some ⟨g,0,none⟩,by rw [j]⟩,fun x=>by simp [zNY]⟩
  ·refine .inr ⟨g,B.toList,cap,rfl,fun x=>by rw [zPX (by omega)];simp [Value.ownBlock,eq_comm],by simpa using M,⟨I,by omega⟩,J,⟨(0,0),by rw [zIu Q];exact H,by simp,fun _=>rfl⟩,fun i c u z W=>hr i c u z ?_⟩
   have C:i<rows.length*size:=by rw [<- zI9 F];exact (lF.1 z).1
   rw [<- N,lV,iP C];exact W
theorem zga (r:lB e zLI=true) (j:∀g:List PV,g∈rows->g.length=size) (h:zcu w e size v rows.length xs\/w.ownsRow 0 e size v rows.length xs)
  (hr:∀(i:Nat) (c:PV) (u:Value),rows.flatten[i]? = some c->xs[i]? = some u->RD w D c u):zCT σ w D v (fun b=>zNY v=some b) (.arr e size rows):=by
 rcases h with (⟨h,_⟩ | ⟨z,B,a,rfl⟩) | h
 ·exact zYP r j h hr
 ·exact ⟨j,.inl ⟨lZ z,⟨_,rfl⟩,fun x=>by simp [zNY]⟩⟩
 ·exact zYP r j h hr
theorem zS7 (h:zcu w e size v k xs\/w.ownsRow 0 e size v k xs):zKK v=true:=by
 rcases h with (⟨h,_⟩ | ⟨_,_,_,rfl⟩) | h
 ·rcases h.2 with ⟨rfl,_⟩ | ⟨_,_,_,rfl,_⟩<;>rfl
 ·rfl
 ·rcases h.2 with ⟨rfl,_⟩ | ⟨_,_,_,rfl,_⟩<;>rfl
theorem zR8 (n e size t:Nat) {r:Env} {S':zAC} (M:lk E t=some (.v (.slice none 0 0))) (N:zEY G n=true) (H:zFh n E=some r) (I:zEx n S=some S')
  {a:Act} {w:World}:Pre G E S a w->Pre G ((t,.own n)::r) ((n,.arr e size [])::S') a w:=by
 intro ⟨σ,φ,C⟩
 obtain ⟨u,Q,j⟩:=C.env t _ M
 obtain ⟨rfl,_⟩:=j.flat_inv
 have B:=C.lay (w':=w) (k:=.arr e size []) (hdr:=.slice none 0 0) (fp:=fun _=>False) N H I (cB _) (fun b J=>J.elim) (fun _ _ _=>rfl) rfl rfl rfl fun D' W=>⟨by simp,.inl ⟨rfl,⟨_,rfl⟩,fun x h=>h⟩⟩
 refine ⟨_,_,{ B with env:=fun F V g=>?_ }⟩
 simp only [lk] at g
 by_cases z:t=F
 ·subst z
  simp at g;subst g
  refine ⟨_,Q,?_⟩
  have:R (upd σ n (.slice none 0 0)) w (Dof G.X (upd φ n fun _=>False) w ((n,.arr e size [])::S')) (.own n) (upd σ n (.slice none 0 0) n):=.own (by rw [zAw];rfl)
  rw [zAw] at this
  exact this
 ·simp only [zBa z,cond_false] at g
  exact B.env F V g
theorem zZf {c:Code} (n e size t:Nat) {g:Env} {S':zAC} (z:lk E t=some (.v (.slice none 0 0))) (B:zEY G n=true) (h:zFh n E=some g) (j:zEx n S=some S')
  (k:PW G m c K ((t,.own n)::g) ((n,.arr e size [])::S')):PW G m c K E S:=fun r hr a w C=>k r hr a w (zR8 n e size t z B h j C)
theorem zZc (n e size t:Nat) {g:Env} {S':zAC} (z:lk E t=some (.v (.slice none 0 0))) (B:zEY G n=true) (h:zFh n E=some g) (j:zEx n S=some S')
  (k:PN G m K ((t,.own n)::g) ((n,.arr e size [])::S')):PN G m K E S:=fun r hr a w C=>k r hr a w (zR8 n e size t z B h j C)
def zg9 (S:zAC):PV->Option (Nat×List (List PV))
 | .sl size _ rows=>some (size,rows)
 | .own n=>match lkS S n with
  | some (.arr _ size rows)=>some (size,rows)
  | _=>none
 | _=>none
theorem zcK (hi:Inv X σ φ w S) {q:PV} {u:Value} {size:Nat} {rows:List (List PV)} (h:zg9 S q=some (size,rows)) (hr:R σ w (Dof X φ w S) q u) :
  (∀r∈rows,r.length=size)/\((rows=[]/\∃c,u=.slice none 0 c)\/∃(J:Addr) (c:Nat) (C:List Value),u=.slice (some J) rows.length c/\C.length=rows.length*size/\(∀j x,C[j]? = some x->w.cell? (J.add j)=some x) /\
   ∀(i:Nat) (c:PV) (x:Value),rows.flatten[i]? = some c->C[i]? = some x->RD w (Dof X φ w S) c x):=by
 cases q<;>simp only [zg9] at h<;>try (simp at h;done)
 case sl s f z =>
  simp at h
  obtain ⟨rfl,rfl⟩:=h
  cases hr with
  | d hd=>cases hd with
   | nil W h2 =>
    rename_i a cap
    cases a with
    | none=>exact ⟨by simp,.inl ⟨rfl,_,rfl⟩⟩
    | some J=>exact ⟨by simp,.inr ⟨J,_,[],rfl,by simp,by simp,fun i c x H=>by simp at H⟩⟩
   | sl g W h2 V Q N h6 h7 =>
    rename_i J cap
    have hlen:=zI9 N
    have F:∀j,j<z.length*s->∃c,z.flatten[j]? = some c/\w.cell? (J.add j)=some (g j)/\RD w (Dof X φ w S) c (g j):=by
     intro j I
     have hs:0<s:=by rcases cT s with h | h;subst h;simp at I;exact h
     have hi:j / s<z.length:=gV (by rw [cU];exact I)
     have B:=lC hi
     have hro:=N _ (gC hi)
     have hm:j % s<s:=Nat.mod_lt _ hs
     have hk:=lC (show j % s<(z[j / s]).length by omega)
     have e:j / s*s+j % s=j:=by rw [cU];exact gW j s
     have hf:=zEC N B hm
     rw [e,hk] at hf
     have g6:=h6 _ _ _ _ B hk
     have g7:=h7 _ _ _ _ B hk
     rw [e] at g6 g7
     exact ⟨_,hf,g6,g7⟩
    refine ⟨N,.inr ⟨J,cap,(cW (z.length*s)).map g,rfl,by simp,fun j x hx=>?_,fun i c x H hx=>?_⟩⟩
    ·have I:j<z.length*s:=by simpa using (lF.1 hx).1
     obtain ⟨c,_,h8,_⟩:=F j I
     rw [lK,cY I] at hx
     simp at hx;subst hx;exact h8
    ·have I:i<z.length*s:=by simpa using (lF.1 hx).1
     obtain ⟨c',h8,_,h9⟩:=F i I
     rw [lK,cY I] at hx
     simp at hx;subst hx
     rw [h8] at H;cases H;exact h9
 case own n =>
  split at h<;>simp at h
  obtain ⟨W,h2⟩:=h
  rename_i e M z hl
  subst W h2
  have hb:=hi.ok n _ (zAl hl)
  have hu:u = σ n:=by
   cases hr with
   | own=>rfl
   | d hd=>cases hd
  refine ⟨hb.1,?_⟩
  obtain ⟨g0,gb⟩:=hb
  rcases gb with ⟨V,⟨ao,Q⟩,_⟩ | ⟨b,us,cap,V,_,Q,N,_,⟨fr,h6,_⟩,h7⟩
  ·subst V
   cases ao with
   | none=>exact .inl ⟨rfl,0,by rw [hu,Q]⟩
   | some a=>exact .inr ⟨a,0,[],by rw [hu,Q];rfl,by simp,by simp,fun i c x H=>by simp at H⟩
  ·refine .inr ⟨⟨b,0,none⟩,cap,us.take (z.length*M),by rw [hu,V],?_,fun j x hx=>?_,fun i c x H hx=>?_⟩
   ·rw [cR,Q];exact gU (lO _ N.1)
   ·rw [lV] at hx
    split at hx
    ·rw [zCZ,zBN h6,Nat.zero_add];exact hx
    ·simp at hx
   ·rw [lV] at hx
    split at hx
    ·exact h7 i c x H hx
    ·simp at hx
def zDI (g k:Nat):Option Unit:=if k*g<=140737488355328 then some () else none
theorem zUa {b:Nat} {x:Unit} (h:zDI b k=some x):k*b<=140737488355328:=by
 unfold zDI at h;split at h
 ·assumption
 ·simp at h
theorem flatten_append (a b:List (List PV)):(a++b).flatten=a.flatten++b.flatten:=by simp
theorem zQS (t ty e:TypeId) (i:TypeInfo) (size c:Nat) (r:P.underlying t=some (.slice e)) (hi:P.info? e=some i) {v:Value} {n:Nat} {xs:List Value} (h:zcu w e size v n xs) :
  (Builtin.append_ #[t,t] ty #[v,.slice none 0 c]).run P w=.ok v w:=by
 rcases h with ⟨h,_⟩ | ⟨rfl,rfl,a,rfl⟩
 rotate_left
 ·simp [Builtin.append_,run_underlying r,sizeOf,typeInfo,hi,Builtin.lenOf,Builtin.firstCells,storeCells]
 rcases h.2 with ⟨rfl,rfl⟩ | ⟨g,cap,z,rfl,_,_,j,_⟩
 ·simp [Builtin.append_,run_underlying r,sizeOf,typeInfo,hi,Builtin.lenOf,Builtin.firstCells]
 ·simp [Builtin.append_,run_underlying r,sizeOf,typeInfo,hi,Builtin.lenOf,Builtin.firstCells,j,storeCells]
theorem zPq {t ty e:TypeId} {i:TypeInfo} {z:Value} {M:Nat} (W:P.underlying t=some (.slice e)) (hi:P.info? e=some i) (hz:i.zero=some z) (I:i.size=size) (hby:i.bytes=M)
  {v:Value} {n:Nat} {xs:List Value} (C:w.ownsRow 0 e size v n xs) {a:Addr} {m c:Nat} {h:List Value} (V:h.length=m*size) (r:∀j u,h[j]? = some u->w.cell? (a.add j)=some u) (h1:∀u∈h,u.oneCell'=true)
  (h63:n+m<=maxLen) (B:(n+m)*M<=140737488355328) {v':Value} {w':World} (hr:(Builtin.append_ #[t,t] ty #[v,.slice (some a) m c]).run P w=.ok v' w') {b:Nat} (J:v'.ownBlock=some b):v.ownBlock=some b\/w.heap.size<=b:=by
 subst I
 subst hby
 have h63':n+m<=9223372036854775807:=by simp only [maxLen] at h63;omega
 rcases C.2 with ⟨rfl,rfl⟩ | ⟨g,cap,N,rfl,_,hg,hnc,hcm,hcs,htake⟩
 ·by_cases hm:m=0
  ·subst hm
   have hn:h=[]:=lZ (by simpa using V)
   subst hn
   have:(Builtin.append_ #[t,t] ty #[.slice none 0 0,.slice (some a) 0 c]).run P w=.ok (.slice none 0 0) w:=by
    simp [Builtin.append_,run_underlying W,sizeOf,typeInfo,hi,Builtin.lenOf,Builtin.firstCells,loadCells,loadCellsFrom]
   rw [this] at hr;cases hr;simp [Value.ownBlock] at J
  ·have:=run_append_nil (P:=P) w t ty e i z W hi hz a m c h V r (by omega) (by omega) (by have J:=B;simp only [Nat.zero_add] at J;omega)
   rw [this] at hr;cases hr
   simp [Value.ownBlock] at J;exact .inr (by omega)
 ·by_cases F:n+m<=cap
  ·have Q:n*i.size+h.length<=N.size:=by rw [V,hcs,<- cI];exact lO _ F
   have:=run_append_room (P:=P) w t ty e i W hi g n cap N hg a m c h V r h1 F Q
   rw [this] at hr;cases hr
   exact .inl J
  ·have H:∀j u,xs[j]? = some u->w.cell? ((⟨g,0,none⟩:Addr).add j)=some u:=C.cells (g:=g) rfl
   have:=run_append_grow (P:=P) w t ty e i z W hi hz ⟨g,0,none⟩ n cap xs C.1 H a m c h V r (by omega) (by omega) (growslice_fits (by omega) B)
   rw [this] at hr;cases hr
   simp [Value.ownBlock] at J;exact .inr (by omega)
theorem zbu {T:Tab G.P} {α : Type} {o:Oper} {f:Unit->Option ρ} (enc : α -> List PV) (xs ys:List α) {args:Array Operand} {tys:Array TypeId} {t n e size N:Nat} {x y:Operand} {q:PV} {z:Value} {d:Nat}
  {E':Env} {S':zAC} (he:lB e zLI=true) (ho:o.op=.call ⟨.builtin .append,args,tys⟩) (h1:args.toList=[x,y]) (h2:tys.toList=[t,t]) (hg:gE all E o=some true) (hx:ev E x=some (.own n)) (I:lkS S n=some (.arr e size (xs.map enc)))
  (hy:ev E y=some q) (hs:zg9 S q=some (size,ys.map enc)) (ht:lku T.els t=some (e,size,N)) (hz:lku T.zeros e=some z) (hzs:z.cells.size=size) (hs0:lB 0 size=true) (hb0:lB 0 N=true)
  (hone:∀r∈ys.map enc,r.all zGd=true) (hd:o.dst=some d) (hlt:lB d G.fn.ntmps=true) (hn:zEY G n=true) (hE:zFh n E=some E') (hS:zEx n S=some S')
  (k:PO G (f ()) all rest K ((d,.own n)::E') ((n,.arr e size ((xs++ys).map enc))::S')):PO G (bnd (zDI N (xs.length+ys.length)) f) all (o::rest) K E S:=by
 refine zGJ fun u hu=>zGT hg fun r hr a w ⟨σ,φ,hp⟩=>?_
 have C:=zUa hu
 have J:=zAl I
 have Q:=hp.inv.ok n _ J
 obtain ⟨M,own,hxs,hfp⟩:=zff he Q
 have hxv:a.eval x = σ n:=by
  have:=zAm hp.env hx
  generalize a.eval x=v at this
  cases this with
  | own=>rfl
  | d hd=>cases hd
 obtain ⟨hys,hsrc⟩:=zcK hp.inv hs (zAm hp.env hy)
 obtain ⟨V,inf,F,hsz,hby⟩:=zBF (T.hels _ (zAc ht))
 have hz':=T.hzeros _ (zAc hz)
 simp only [F,gA] at hz'
 have hby0:=zCS hb0
 have hs0':=zCS hs0
 rw [lL] at own
 have hrun:∃H w' B,(execOp a.eval o).run G.P w=.ok (.value H) w'/\(zcu w' e size H (xs.length+ys.length) (M++B)\/w'.ownsRow 0 e size H (xs.length+ys.length) (M++B))/\w.grownBy w' (zNY (σ n)) /\
   (∀(i:Nat) (c:PV) (x:Value),(ys.map enc).flatten[i]? = some c->B[i]? = some x->RD w (Dof G.X φ w S) c x)/\∀b,zNY H=some b->(zNY (σ n)=some b\/w.heap.size<=b)/\b<w'.heap.size:=by
  obtain ⟨args⟩:=args
  obtain ⟨tys⟩:=tys
  simp only at h1 h2
  subst h1 h2
  have hex:∀H w',(Builtin.append_ #[t,t] o.type #[σ n,a.eval y]).run G.P w=.ok H w'->(execOp a.eval o).run G.P w=.ok (.value H) w':=fun H w' h=>by
   simp [execOp,ho,resolve,invoke,builtin,hxv,h]
  rcases hsrc with ⟨h3,c,h4⟩ | ⟨ad,c,B,h3,h4,h5,h6⟩
  ·have hy0:ys=[]:=by simpa using h3
   subst hy0
   exact ⟨σ n,w,[],hex _ _ (by rw [h4];exact zQS t _ e inf size c V F own),.inl (by simpa using own),⟨rfl,rfl,rfl,cB _,fun _ _ _=>rfl⟩,fun i c x W=>by simp at W,fun b I=>⟨.inl I,(hp.inv.lt b ⟨n,_,J,(hfp b).2 I⟩).1⟩⟩
  ·rw [lL] at h3 h4
   have hlen:xs.length+ys.length<=140737488355328:=Nat.le_trans (Nat.le_mul_of_pos_right _ hby0) C
   have hn1:∀u∈B,u.oneCell'=true:=by
    intro u hu
    obtain ⟨i,hi,rfl⟩:=gO.1 hu
    have hfl:=zI9 hys
    rw [lL] at hfl
    have hi':i<(ys.map enc).flatten.length:=by omega
    have W:=gC hi'
    obtain ⟨r',hr',hcr⟩:=List.mem_flatten.1 W
    exact zOa (σ := σ) (.d (h6 i _ _ (lC hi') (lC hi))) (lR.1 (hone r' hr') _ hcr)
   rcases own with ⟨own,hob⟩ | ⟨k0,x0,a0,hv⟩
   rotate_left
   ·subst x0
    by_cases hm:ys.length=0
    ·have hn0:B=[]:=lZ (by rw [h4,hm];simp)
     subst hn0
     refine ⟨σ n,w,[],hex _ _ ?_,.inl (.inr ⟨by omega,rfl,a0,hv⟩),⟨rfl,rfl,rfl,cB _,fun _ _ _=>rfl⟩,h6,fun b I=>by rw [hv] at I;simp [zNY] at I⟩
     rw [h3,hm,hv]
     simp [Builtin.append_,run_underlying V,sizeOf,typeInfo,F,Builtin.lenOf,Builtin.firstCells,loadCells,loadCellsFrom,storeCells]
    ·obtain ⟨H,w',g1,g2,g3⟩:=run_append_arg_grows (P:=G.P) w t o.type e inf z size N V F hz' hsz hby hzs hs0' a0 0 0 [] (by simp) (fun j u h=>by simp at h) ad ys.length c B h4 h5 (by omega) (by simp only [maxLen];omega) (by rw [k0] at C;exact C)
     refine ⟨H,w',B,hex _ _ (by rw [h3,hv];exact g1),.inr ?_,?_,h6,fun b I=>?_⟩
     ·rw [k0];exact ⟨g2.1,g2.2.imp id fun ⟨g,cap,cur,e1,e2,e3⟩=>⟨g,cap,cur,e1,cG _,e3⟩⟩
     ·rw [hv];exact g3
     ·have:=g2.lt b (zM5 I);exact ⟨.inr this.1,this.2⟩
   obtain ⟨H,w',g1,g2,g3,_⟩:=run_append_own (P:=G.P) w 0 t o.type e inf z size N V F hz' hsz hby hzs hs0' (σ n) xs.length M own ad ys.length c B h4 h5 hn1 (by simp only [maxLen];omega) C (cG _)
   exact ⟨H,w',B,hex _ _ (by rw [h3];exact g1),.inr g2,by rw [hob];exact g3,h6,fun b I=>⟨by rw [hob];exact zPq V F hz' hsz hby own h4 h5 hn1 (by simp only [maxLen];omega) C g1 (zM5 I),(g2.lt b (zM5 I)).2⟩⟩
 obtain ⟨H,w',B,r1,r2,r3,r4,r5⟩:=hrun
 unfold Oper.wp
 rw [r1,Oper.upon_value,hd]
 have hkeep:∀b,b<w.heap.size->((∃k0,(n,k0)∈S)->¬φ n b)->w'.heap[b]? = w.heap[b]? := fun b I hf=>r3.block b I fun e=>hf ⟨_,J⟩ ((hfp b).2 e.symm)
 have hlay:=hp.lay (hdr:=H) (w':=w') (fp:=fun b=>zNY H=some b) (k:=.arr e size ((xs++ys).map enc)) hn hE hS r3.size (fun b I=>?_) hkeep r3.os r3.tape r3.output fun D' hD=>?_
 ·refine k r hr _ _ ⟨_,_,hlay.put (zCS hlt) ?_⟩
  have:R (upd σ n H) w' (Dof G.X (upd φ n fun b=>zNY H=some b) w' ((n,.arr e size ((xs++ys).map enc))::S')) (.own n) (upd σ n H n):=.own (by rw [zAw];exact zS7 r2)
  rw [zAw] at this
  exact this
 ·have hlt':=(r5 b I).2
  refine ⟨hlt',?_⟩
  rcases lY b w.heap.size with h | h
  ·right
   exact ⟨⟨_,J⟩,(hfp b).2 ((r5 b I).1.resolve_right (by omega))⟩
  ·exact .inl h
 ·refine zga (xs:=M++B) he ?_ ?_ ?_
  ·intro row hrow
   rw [gG] at hrow
   rcases cA.1 hrow with h | h
   ·exact Q.1 row h
   ·exact hys row h
  ·simpa using r2
  ·intro i c u W hu
   rw [gG,flatten_append] at W
   have hl1:M.length=(xs.map enc).flatten.length:=by rw [own.len,zI9 Q.1];simp
   rcases lY i M.length with h | h
   ·rw [lN (by omega)] at W
    rw [lN h] at hu
    exact (hxs i c u W hu).mono hD
   ·rw [cC (by omega)] at W
    rw [cC h] at hu
    rw [<- hl1] at W
    exact (r4 _ c u W hu).mono hD
end
end
section
variable {n:Nat} {q:PV} {all:Array Oper} {o:Oper} {rest:List Oper} {D':Nat->Prop} {rows:List (List PV)}
section
variable {P:Program} {ρ : Type} {G:Ctx ρ} {m:Option ρ} {K:List (Kont ρ)} {E:Env} {S:zAC} {σ : Nat->Value} {w:World} {D X:Nat->Prop} {φ : Nat->Nat->Prop}
def zZh (size:Nat) (E:Env):Nat->List (Nat×Operand)->Option (List (List PV))
 | _,[]=>some []
 | k,(i,x)::l=>bif lA i k then (match ev E x with
  | some p=>(match zOb p with
   | some qs=>bif lA qs.length size&&qs.all zXq&&qs.all zGd then (match zZh size E (k+1) l with
    | some r=>some (qs::r)
    | none=>none) else none
   | none=>none)
  | none=>none) else none
theorem zVZ (off:Nat):∀(g:List Value) (j:Nat) (us:Array Value),off+j+g.length<=us.size->∃r:List Value,(g.zipIdx j).foldl (fun cs (x:Value×Nat)=>cs.setIfInBounds (off+x.2) x.1) us=⟨r⟩/\r.length=us.size /\
  ∀t:Nat,r[t]? = if off+j<=t/\t<off+j+g.length then g[t - (off+j)]? else us[t]?
 | [],j,us,_=>⟨us.toList,rfl,by simp,fun t=>by simp;intro z B;omega⟩
 | v::g,j,us,hsz=>by
  simp only [cP] at hsz
  obtain ⟨r,z,B,F⟩:=zVZ off g (j+1) (us.setIfInBounds (off+j) v) (by simp;omega)
  refine ⟨r,by simpa [gP] using z,by simpa using B,fun t=>?_⟩
  rw [F t]
  by_cases C:off+j=t
  ·subst C
   rw [iN (by omega),iP (by simp),cQ]
   simp [gQ]
   omega
  ·by_cases h:off+(j+1)<=t/\t<off+(j+1)+g.length
   ·rw [iP h,iP (by simp;omega),show t - (off+j)=(t - (off+(j+1)))+1 by omega,lX]
   ·rw [iN h,iN (by simp;omega)]
    simp [cN C]
theorem zVS {a:Act} (hE:zQV σ w D E a.tmps) {size:Nat}:∀{l:List (Nat×Operand)} {k:Nat} {rows done:List (List PV)} {us:List Value},zZh size E k l=some rows->done.length=k->(∀r∈done,r.length=size) ->
  us.length=(k+rows.length)*size->(∀(i:Nat) (c:PV) (x:Value),done.flatten[i]? = some c->us[i]? = some x->RD w D c x) ->
  ∃z:List Value,Instr.fill (fun i=>some (i*size,size)) ⟨us⟩ (l.map fun (i,x)=>(i,a.eval x))=some ⟨z⟩/\z.length=us.length/\(∀r∈rows,r.length=size/\r.all zGd=true) /\
   ∀(i:Nat) (c:PV) (x:Value),(done++rows).flatten[i]? = some c->z[i]? = some x->RD w D c x
 | [],k,rows,done,us,h,hk,hd,hl,hr=>by
  simp [zZh] at h;subst h
  exact ⟨us,rfl,rfl,by simp,by simpa using hr⟩
 | (i,x)::l,k,rows,done,us,h,hk,hd,hl,hr=>by
  simp only [zZh] at h
  cases B:lA i k<;>simp only [B,cond_true,cond_false] at h
  ·simp at h
  have B:=lQ B
  subst B
  split at h<;>try simp at h
  rename_i p hp
  split at h<;>try simp at h
  rename_i qs hqs
  cases j:lA qs.length size&&qs.all zXq&&qs.all zGd<;>simp only [j,cond_true,cond_false] at h
  ·simp at h
  simp only [lM] at j
  obtain ⟨⟨g,N⟩,Q⟩:=j
  have g:=lQ g
  split at h<;>simp at h
  rename_i rest F
  subst h
  obtain ⟨vs,g1,g2,g3⟩:=zKu hqs (zAm hE hp)
  simp only [cP] at hl
  have I:=zI9 hd
  rw [hk] at I
  have J:i*size+0+vs.length<=us.length:=by rw [hl,g2,g,cI,cI];omega
  obtain ⟨M,h1,h2,h3⟩:=zVZ (i*size) vs 0 ⟨us⟩ (by simpa using J)
  have H:M.length=us.length:=h2
  have V:∀r∈done++[qs],r.length=size:=fun r C=>by
   rcases cA.1 C with h | h
   ·exact hd r h
   ·simp at h;subst h;exact g
  have hr1:∀(t:Nat) (c:PV) (x:Value),(done++[qs]).flatten[t]? = some c->M[t]? = some x->RD w D c x:=by
   intro t c x j hx
   rw [h3 t] at hx
   rw [flatten_append] at j
   simp only [cH,g2,g] at hx
   rcases lY t (i*size) with hlt | W
   ·rw [lN (by omega)] at j
    rw [iN (by omega)] at hx
    exact hr t c x j (by simpa using hx)
   ·rw [cC (by omega),I] at j
    simp only [gJ,List.flatten_nil,gI] at j
    have hlt:t - i*size<size:=by have:=(lF.1 j).1;omega
    rw [iP ⟨W,by omega⟩] at hx
    exact (g3 _ c x j hx).toRD (lR.1 N c (lU j))
  obtain ⟨z,e1,e2,e3,e4⟩:=zVS hE (k:=i+1) (done:=done++[qs]) (us:=M) F (by simp [hk]) V (by rw [H,hl];congr 1;omega) hr1
  refine ⟨z,?_,by rw [e2,H],fun r C=>?_,by simpa using e4⟩
  ·simp only [lT,Instr.fill,g1]
   rw [iN (by simp;omega)]
   have hz:((⟨vs⟩:Array Value).zipIdx).foldl (fun cs (x:Value×Nat)=>cs.setIfInBounds (i*size+x.2) x.1) (⟨us⟩:Array Value)=⟨M⟩:=by
    rw [<- gR,gS]
    exact h1
   rw [hz]
   exact e1
  ·rcases lD.1 C with h | h
   ·subst h;exact ⟨g,Q⟩
   ·exact e3 r h
theorem po_lit {T:Tab G.P} (n:Nat) {t e size by_ len:Nat} {parts:Array (Nat×Operand)} {rows:List (List PV)} {z:Value} {d:Nat} {E':Env} {S':zAC} (ho:o.op=.buildSlice t len parts) (hg:gE all E o=some true)
  (he:lB e zLI=true) (ht:lku T.els t=some (e,size,by_)) (hz:lku T.zeros e=some z) (hr:zZh size E 0 parts.toList=some rows) (B:len=rows.length) (hln:Nat.ble len 10000=true) (hsm:Nat.ble (len*size) 10000=true) (hd:o.dst=some d) (hlt:lB d G.fn.ntmps=true) (hn:zEY G n=true)
  (hE:zFh n E=some E') (hS:zEx n S=some S') (k:PO G m all rest K ((d,.own n)::E') ((n,.arr e size rows)::S')):PO G m all (o::rest) K E S:=by
 refine zGT hg fun r hrm a w ⟨σ,φ,hp⟩=>?_
 obtain ⟨hel,inf,C,hsz,hby⟩:=zBF (T.hels _ (zAc ht))
 have W:=T.hzeros _ (zAc hz)
 simp only [C,gA] at W
 obtain ⟨zero,g⟩:∃zero:Array Value,zero=if len*size=0 then #[] else z.cells:=⟨_,rfl⟩
 obtain ⟨j,f1,f2,f3,f4⟩:=zVS hp.env (done:=[]) (k:=0) (us:=((gH (len*size)).map (zero[· % zero.size]!)).toList) hr rfl (by simp) (by simp [B]) (fun i c x hc=>by simp at hc)
 have Q:¬(len*size>2 ^ 24):=by have:=cZ hsm;omega
 have I:j.length=rows.length*size:=by rw [f2];simp [B]
 have N:(execOp a.eval o).run G.P w=.ok (.value (.slice (some ⟨w.heap.size,0,none⟩) len len)) (w.alloc (.cells ⟨j⟩ e)):=by
  have hf:Instr.fill (fun i=>some (i*size,size)) ((gH (len*size)).map (zero[· % zero.size]!)) (parts.map fun (i,x)=>(i,a.eval x)).toList=some ⟨j⟩:=by
   have e1:(parts.map fun (i,x)=>(i,a.eval x)).toList=parts.toList.map fun (i,x)=>(i,a.eval x):=by simp
   rw [e1];exact f1
  have V:(sizeOf e).run G.P w=.ok size w:=by simp [sizeOf,typeInfo,C,hsz]
  simp only [execOp,ho,Instr.buildSlice,Sem.run_bind,run_underlying hel,Result.andThen_ok,V]
  rw [iN Q]
  have F:∀zs:Array Value,zero=zs->(match Instr.fill (fun i=>some (i*size,size)) ((gH (len*size)).map (zs[· % zs.size]!)) (parts.map fun (x:Nat×Operand)=>(x.1,a.eval x.2)).toList with
    | some cells=>(do
     let __do_lift <- newRow e cells
     pure (Value.slice (some __do_lift) len len):Sem Value)
    | _ => stuck "buildSlice: a part of the wrong size").run G.P w = .ok (.slice (some ⟨w.heap.size, 0, none⟩) len len) (w.alloc (.cells ⟨j⟩ e)) := by
   rintro zs rfl
   rw [hf]
   simp [newRow]
  by_cases H:len*size=0
  ·rw [iP H] at g ⊢
   simp only [Sem.run_bind,Sem.run_pure,Result.andThen_ok]
   exact (congrArg (fun x=>Result.andThen x fun a w'=>Result.ok (Next.value a) w') (F _ g)).trans rfl
  ·rw [iN H] at g ⊢
   have hzv:(zeroValue e).run G.P w=.ok z w:=by simp [zeroValue,typeInfo,C,W]
   simp only [Sem.run_bind,Sem.run_pure,hzv,Result.andThen_ok]
   exact (congrArg (fun x=>Result.andThen x fun a w'=>Result.ok (Next.value a) w') (F _ g)).trans rfl
 unfold Oper.wp
 rw [N,Oper.upon_value,hd]
 have J:=hp.lay (hdr:=.slice (some ⟨w.heap.size,0,none⟩) len len) (w':=w.alloc (.cells ⟨j⟩ e)) (fp:=fun b=>b=w.heap.size/\0<len) (k:=.arr e size rows) hn hE hS (by simp) (fun b hb=>⟨by simp [hb.1],.inl (by omega)⟩) (fun b hb _=>zGD w _ hb) rfl rfl rfl fun D' hD=>by
  refine ⟨fun row M=>(f3 row M).1,?_⟩
  rcases cT len with H | H
  ·exact .inl ⟨lZ (by omega),⟨_,by rw [H]⟩,fun x hx=>by omega⟩
  ·refine .inr ⟨w.heap.size,j,len,by rw [B],fun x=>⟨fun h=>h.1,fun h=>⟨h,H⟩⟩,by rw [I,B],⟨by omega,H⟩,?_,⟨(0,0),by rw [zIu he];exact zDP w _,by simp,fun _=>rfl⟩,fun i c u hc hu=>(f4 i c u (by simpa using hc) hu).mono hD⟩
   have h1:=cZ hln
   simp only [maxLen]
   omega
 refine k r hrm _ _ ⟨_,_,J.put (zCS hlt) ?_⟩
 have:R (upd σ n (.slice (some ⟨w.heap.size,0,none⟩) len len)) (w.alloc (.cells ⟨j⟩ e)) (Dof G.X (upd φ n fun b=>b=w.heap.size/\0<len) (w.alloc (.cells ⟨j⟩ e)) ((n,.arr e size rows)::S')) (.own n) (upd σ n (.slice (some ⟨w.heap.size,0,none⟩) len len) n):=.own (by rw [zAw];rfl)
 rw [zAw] at this
 exact this
def zgH (n:Nat) (q p:PV):PV:=match zOm n p with
 | true=>(match p with
  | .own _=>q
  | _=>.junk)
 | false=>p
def zT5 (n:Nat) (q p:PV):PV:=match zOm n p with
 | true=>(match p with
  | .own _=>q
  | .agg cs=>.agg (cs.map (zgH n q))
  | .tup cs=>.tup (cs.map (zgH n q))
  | _=>.junk)
 | false=>p
def zfE (n:Nat) (q:PV):List PV->Option (List PV)
 | []=>some []
 | p::l=>match zfE n q l with
  | some g=>(match zOm n p with
   | true=>(match p with
    | .own _=>some (q::g)
    | _=>some (.junk::g))
   | false=>some (p::g))
  | none=>none
def zX2 (n:Nat) (q:PV):Env->Option Env
 | []=>some []
 | (t,p)::E=>match zX2 n q E with
  | some h=>(match zOm n p with
   | true=>(match p with
    | .own _=>some ((t,q)::h)
    | .agg cs=>(match zfE n q cs with
     | some g=>some ((t,.agg g)::h)
     | none=>none)
    | .tup cs=>(match zfE n q cs with
     | some g=>some ((t,.tup g)::h)
     | none=>none)
    | _=>some ((t,.junk)::h))
   | false=>some ((t,p)::h))
  | none=>none
def frzL (n:Nat) (q:PV):List PV->Option (List PV)
 | []=>some []
 | p::l=>match frzL n q l with
  | some h=>(match zOm n p with
   | true=>(match p with
    | .own _=>some (q::h)
    | .agg cs=>(match zfE n q cs with
     | some g=>some (.agg g::h)
     | none=>none)
    | .tup cs=>(match zfE n q cs with
     | some g=>some (.tup g::h)
     | none=>none)
    | _=>some (.junk::h))
   | false=>some (p::h))
  | none=>none
def zVT (n:Nat) (q:PV):zAC->Option zAC
 | []=>some []
 | (k,b)::S=>match zVT n q S with
  | some S'=>(match lA k n with
   | true=>some S'
   | false=>match b with
    | .box ty cells=>(match frzL n q cells with
     | some g=>some ((k,.box ty g)::S')
     | none=>none)
    | b=>some ((k,b)::S'))
  | none=>none
theorem zX5 {k:Nat} (h:zOm n (.own k)=true):k=n:=by
 simp [zOm,names] at h
 exact h.symm
theorem zX3 {p:PV} {u:Value} (g:∀b,D b->D' b) (B:RD w D' q (σ n)) (hr:R σ w D p u):R σ w D' (zgH n q p) u:=by
 have r:=hr.mono (w':=w) (D':=D') fun b h=>⟨g b h,rfl⟩
 unfold zgH
 cases z:zOm n p
 ·exact r
 ·simp only
  split
  ·have:=zX5 z
   subst this
   cases hr with
   | own=>exact .d B
   | d j=>cases j
  ·exact .junk
theorem zN1 {p p':PV} {u:Value} (C:∀b,D b->D' b) (H:RD w D' q (σ n)) (hr:R σ w D p u) (h:zT5 n q p=p'):R σ w D' p' u:=by
 have N:=hr.mono (w':=w) (D':=D') fun b J=>⟨C b J,rfl⟩
 unfold zT5 at h
 cases F:zOm n p
 ·rw [F] at h;simp only at h;subst h;exact N
 ·rw [F] at h
  simp only at h
  split at h
  ·subst h
   have:=zX5 F
   subst this
   cases hr with
   | own=>exact .d H
   | d M=>cases M
  ·subst h
   obtain ⟨us,rfl,z,B⟩:=hr.agg_inv
   refine .agg (by simpa using z) fun i c u g I=>?_
   rw [lK] at g
   obtain ⟨j,r,rfl⟩:=lI.1 g
   exact zX3 C H (B i j u r I)
  ·subst h
   obtain ⟨us,rfl,z,B⟩:=hr.tup_inv
   refine .tup (by simpa using z) fun i c u g I=>?_
   rw [lK] at g
   obtain ⟨j,r,rfl⟩:=lI.1 g
   exact zX3 C H (B i j u r I)
  ·subst h;exact .junk
theorem zRf {n:Nat} {q:PV}:∀{l g:List PV},zfE n q l=some g->g=l.map (zgH n q)
 | [],g,h=>by simp [zfE] at h;subst h;simp
 | p::l,g,h=>by
  simp only [zfE] at h
  split at h<;>try simp at h
  rename_i B z
  have r:=zRf z
  split at h
  ·rename_i j
   split at h<;>simp at h<;>subst h<;>simp [r,j,zgH]
  ·rename_i j
   simp at h;subst h;simp [r,j,zgH]
theorem zWz {n:Nat} {q:PV}:∀{E r:Env},zX2 n q E=some r->∀t,lk r t=(lk E t).map (zT5 n q)
 | [],r,h,t=>by simp [zX2] at h;subst h;rfl
 | (k,p)::E,r,h,t=>by
  simp only [zX2] at h
  split at h<;>try simp at h
  rename_i F C
  have j:=zWz C t
  split at h
  ·rename_i g
   split at h
   ·simp at h;subst h;simp only [lk];cases lA k t<;>simp [j,g,zT5]
   ·split at h<;>simp at h
    rename_i z B
    subst h;simp only [lk];cases lA k t<;>simp [j,g,zT5,zRf B]
   ·split at h<;>simp at h
    rename_i z B
    subst h;simp only [lk];cases lA k t<;>simp [j,g,zT5,zRf B]
   ·simp at h;subst h;simp only [lk];cases lA k t<;>simp [j,g,zT5]
  ·rename_i g
   simp at h;subst h;simp only [lk];cases lA k t<;>simp [j,g,zT5]
theorem zRg {n:Nat} {q:PV}:∀{l z:List PV},frzL n q l=some z->z.length=l.length/\∀i:Nat,z[i]? = (l[i]?).map (zT5 n q)
 | [],z,h=>by simp [frzL] at h;subst h;simp
 | p::l,z,h=>by
  simp only [frzL] at h
  split at h<;>try simp at h
  rename_i H F
  obtain ⟨j,r⟩:=zRg F
  split at h
  ·rename_i g
   split at h
   ·simp at h;subst h;refine ⟨by simp [j],fun i=>?_⟩;cases i<;>simp [r,g,zT5]
   ·split at h<;>simp at h
    rename_i B C
    subst h;refine ⟨by simp [j],fun i=>?_⟩;cases i<;>simp [r,g,zT5,zRf C]
   ·split at h<;>simp at h
    rename_i B C
    subst h;refine ⟨by simp [j],fun i=>?_⟩;cases i<;>simp [r,g,zT5,zRf C]
   ·simp at h;subst h;refine ⟨by simp [j],fun i=>?_⟩;cases i<;>simp [r,g,zT5]
  ·rename_i g
   simp at h;subst h
   refine ⟨by simp [j],fun i=>?_⟩
   cases i<;>simp [r,g,zT5]
theorem zT6 {n:Nat} {q:PV}:∀{S S':zAC},zVT n q S=some S'->∀m k,(m,k)∈S'->m≠n/\∃k0,(m,k0)∈S/\((k=k0/\∀ty cells,k≠.box ty cells)\/∃ty cells g,k0=.box ty cells/\k=.box ty g/\frzL n q cells=some g)
 | [],S',h,m,k,j=>by simp [zVT] at h;subst h;simp at j
 | (m0,b0)::S,S',h,m,k,j=>by
  simp only [zVT] at h
  split at h<;>try simp at h
  rename_i M H
  have F:=zT6 H m k
  split at h
  ·simp at h;subst h
   obtain ⟨e,k0,z,B⟩:=F j
   exact ⟨e,k0,lG _ z,B⟩
  ·rename_i C
   have r:m0≠n:=fun e=>by subst e;simp at C
   split at h
   ·rename_i cells
    split at h<;>simp at h
    rename_i g J
    subst h
    rcases lD.1 j with e | j
    ·cases e;exact ⟨r,_,lH ..,.inr ⟨_,_,_,rfl,rfl,J⟩⟩
    ·obtain ⟨e,k0,z,B⟩:=F j
     exact ⟨e,k0,lG _ z,B⟩
   ·rename_i I
    simp at h;subst h
    rcases lD.1 j with e | j
    ·cases e;exact ⟨r,_,lH ..,.inl ⟨rfl,I⟩⟩
    ·obtain ⟨e,k0,z,B⟩:=F j
     exact ⟨e,k0,lG _ z,B⟩
theorem zPU {n:Nat} {q:PV}:∀{S S':zAC},zVT n q S=some S'->(S'.map (·.1)).Sublist (S.map (·.1))
 | [],S',h=>by simp [zVT] at h;subst h;simp
 | (m0,b0)::S,S',h=>by
  simp only [zVT] at h
  split at h<;>try simp at h
  rename_i r j
  have g:=zPU j
  split at h
  ·simp at h;subst h;exact List.Sublist.cons _ g
  ·split at h
   ·split at h<;>simp at h
    subst h;simpa using g
   ·simp at h;subst h;simpa using g
theorem zTp {v:Value} {fp:Nat->Prop} {e size:Nat} (hD:∀b,D b->D' b) (hf:∀b,fp b->D' b) (h:zCT σ w D v fp (.arr e size rows)):RD w D' (.sl size false rows) v:=by
 obtain ⟨B,h⟩:=h
 rcases h with ⟨rfl,⟨ao,rfl⟩,_⟩ | ⟨b,us,cap,rfl,H,I,⟨J,M⟩,N,⟨fr,Q,_⟩,V⟩
 ·exact .nil (cG _) (by simp)
 ·have at_:∀i g k c,rows[i]? = some g->g[k]? = some c->i*size+k<us.length/\rows.flatten[i*size+k]? = some c:=by
   intro i g k c hi r
   have F:=B g (lU hi)
   have C:k<size:=by rw [<- F];exact (lF.1 r).1
   have hi':=(lF.1 hi).1
   refine ⟨?_,(zEC B hi C).trans r⟩
   rw [I]
   have:(i+1)*size<=cap*size:=lO _ (by omega)
   rw [lP] at this
   omega
  refine .sl (fun j=>us.getD j undef) J N (by simp) (hf b ((H b).2 rfl)) B (fun i g k c hi r=>?_) fun i g k c hi r=>?_
  ·obtain ⟨z,_⟩:=at_ i g k c hi r
   rw [zCZ,zBN Q]
   simp [cJ,lC z]
  ·obtain ⟨z,W⟩:=at_ i g k c hi r
   have:=V _ c _ W (lC z)
   simp only [cJ,lC z,cM]
   exact this.mono fun b hb=>⟨hD b hb,rfl⟩
theorem zPb {e size:Nat} {E':Env} {S':zAC} (z:lkS S n=some (.arr e size rows)) (hE:zX2 n (.sl size false rows) E=some E') (hS:zVT n (.sl size false rows) S=some S') {a:Act} {w:World} :
  Pre G E S a w->Pre G E' S' a w:=by
 rintro ⟨σ,φ,h⟩
 have g:=zAl z
 have j:=zT6 hS
 have hF:∀b,zCQ φ S' b->zCQ φ S b:=by
  rintro b ⟨m,k,C,F⟩
  obtain ⟨_,k0,r,_⟩:=j m k C
  exact ⟨m,k0,r,F⟩
 have I:∀b,Dof G.X φ w S b->Dof G.X φ w S' b:=fun b ⟨C,F,r⟩=>⟨C,F,fun m k M hf=>by
  obtain ⟨m',k',h4,h5⟩:=hF b ⟨m,k,M,hf⟩
  exact r m' k' h4 h5⟩
 have hn:∀b,φ n b->Dof G.X φ w S' b:=fun b z=>by
  obtain ⟨C,F⟩:=h.inv.lt b ⟨n,_,g,z⟩
  refine ⟨C,F,fun m k M hf=>?_⟩
  obtain ⟨N,k0,r,_⟩:=j m k M
  exact h.inv.disj m n k0 _ r g N b hf z
 have hq:RD w (Dof G.X φ w S') (.sl size false rows) (σ n):=zTp I hn (h.inv.ok n _ g)
 refine ⟨σ,φ,h.defers,h.size,fun t p V=>?_,⟨(zPU hS).nodup h.inv.nodup,h.inv.xlt,fun b z=>h.inv.lt b (hF b z),fun m1 m2 k1 k2 C F=>?_,fun m k M=>?_⟩,h.fr,h.agree,fun b z=>h.new b (hF b z)⟩
 ·rw [zWz hE] at V
  cases H:lk E t with
  | none=>simp [H] at V
  | some p0 =>
   obtain ⟨u,hu,hr⟩:=h.env t p0 H
   simp only [H,lW,lJ.injEq] at V
   exact ⟨u,hu,zN1 I hq hr V⟩
 ·obtain ⟨_,k01,r,_⟩:=j m1 k1 C
  obtain ⟨_,k02,h4,_⟩:=j m2 k2 F
  exact h.inv.disj m1 m2 k01 k02 r h4
 ·obtain ⟨N,k0,r,hkk⟩:=j m k M
  rcases hkk with ⟨rfl,_⟩ | ⟨ty,cells,Q,rfl,rfl,hc⟩
  ·exact (h.inv.ok m _ r).mono I
  ·rcases h.inv.ok m _ r with hbk | hw
   rotate_left
   ·obtain ⟨l1,W⟩:=zRg hc
    refine .inr (hw.map l1 (fun p hp h0=>by rw [W 0,h0];simp [zT5,zOm,hp.none]) (fun i c c' u g1 J hr=>?_) (fun p u hr=>hr.mono fun b z=>⟨I b z,rfl⟩) fun _ _=>rfl)
    rw [W i,g1] at J
    simp only [lW,lJ.injEq] at J
    exact zN1 I hq hr J
   obtain ⟨b,us,g1,J,g3,g4,g5⟩:=hbk
   obtain ⟨l1,W⟩:=zRg hc
   refine .inl ⟨b,us,g1,J,by rw [g3,l1],g4,fun i c u B hu=>?_⟩
   rw [W i] at B
   cases H:cells[i]? with
   | none=>simp [H] at B
   | some p0 =>
    simp only [H,lW,lJ.injEq] at B
    exact zN1 I hq (g5 i p0 u H hu) B
theorem zGf (n:Nat) {e size:Nat} {rows:List (List PV)} {all:Array Oper} {ops:List Oper} {g:Env} {S':zAC} (z:lkS S n=some (.arr e size rows)) (h:zX2 n (.sl size false rows) E=some g) (j:zVT n (.sl size false rows) S=some S')
  (k:PO G m all ops K g S'):PO G m all ops K E S:=fun r hr a w B=>k r hr a w (zPb z h j B)
theorem zbs (n:Nat) {e size:Nat} {rows:List (List PV)} {g:Env} {S':zAC} (z:lkS S n=some (.arr e size rows)) (h:zX2 n (.sl size false rows) E=some g) (j:zVT n (.sl size false rows) S=some S')
  (k:PN G m K g S'):PN G m K E S:=fun r hr a w B=>k r hr a w (zPb z h j B)
theorem zb5 (n:Nat) {e size:Nat} {rows:List (List PV)} {c:Code} {g:Env} {S':zAC} (z:lkS S n=some (.arr e size rows)) (h:zX2 n (.sl size false rows) E=some g) (j:zVT n (.sl size false rows) S=some S')
  (k:PW G m c K g S'):PW G m c K E S:=fun r hr a w B=>k r hr a w (zPb z h j B)
theorem zLD {T:Tab G.P} {α : Type} (enc : α -> List PV) (xs:List α) {f : α -> Option ρ} {t:TypeId} {x ix:Operand} {n size e W F:Nat} {kk:IntKind} {i:Int} {d:Nat}
  (ho:o.op=.indexAddr t x ix) (hg:gE all E o=some true) (hx:ev E x=some (.own n)) (hb:lkS S n=some (.arr W size (xs.map enc))) (hi:ev E ix=some (.v (.int kk i))) (ht:lku T.els t=some (e,size,F))
  (H:o.dst=some d) (N:lB d G.fn.ntmps=true) (k:∀y,idx xs i=some y->PO G (f y) all rest K ((d,.ela n size i.toNat 0)::E) S):PO G (bnd (idx xs i) f) all (o::rest) K E S:=by
 refine zGJ fun y hy=>zGT hg fun r hr a w ⟨σ,φ,C⟩=>?_
 have g:=hy
 unfold idx at g
 split at g
 case isFalse=>simp at g
 rename_i h0
 obtain ⟨I,inf,j,Q,_⟩:=zBF (T.hels _ (zAc ht))
 obtain ⟨M,_⟩:=(zAm C.env hi).flat_inv
 have V:a.eval x = σ n:=by
  have:=zAm C.env hx
  generalize a.eval x=v at this
  cases this with
  | own=>rfl
  | d H=>cases H
 have z:i.toNat<xs.length:=(lF.1 g).1
 obtain ⟨h1,h2⟩:=C.inv.ok n _ (zAl hb)
 rcases h2 with ⟨h,_⟩ | ⟨b,us,cap,h,_,h4,h5,h6,h7,h8⟩
 ·simp at h;subst h;simp at z
 have J:i<(xs.length:Int):=by omega
 have B:(execOp a.eval o).run G.P w=.ok (.value (.pointer (some ⟨b,i.toNat*size,none⟩))) w:=by
  simp [execOp,ho,V,h,M,Instr.indexAt,asIntOf,run_underlying I,h0,J,sizeOf,typeInfo,j,Q,zCZ]
 unfold Oper.wp
 rw [B,Oper.upon_value,H]
 exact k y hy r hr _ _ ⟨σ,φ,C.put (zCS N) (.ela (off:=0) (zHV h))⟩
theorem zCk {T:Tab G.P} {α : Type} (enc : α -> List PV) (xs:List α) (x0 V : α) {t:TypeId} {x y:Operand} {n size i off e sz:Nat} {g:Bool} {p:PV} {cs:List PV} {S':zAC}
  (h0:xs[i]? = some x0) (ho:o.op=.store t x y) (hg:gE all E o=some true) (hx:ev E x=some (.ela n size i off)) (hb:lkS S n=some (.arr e size (xs.map enc))) (hy:ev E y=some p) (hcs:zOb p=some cs) (hone:cs.all zGd=true) (hdat:cs.all zXq=true)
  (ht:lku T.tys t=some (g,sz)) (hsz:lA cs.length sz=true) (hov:ovr (enc x0) off cs=some (enc V)) (hd:o.dst=none) (hS:zOD n (.arr e size ((xs.set i V).map enc)) S=some S') (k:PO G m all rest K E S'):PO G m all (o::rest) K E S:=by
 refine zGT hg fun r hr a w ⟨σ,φ,hp⟩=>?_
 have M:=zAl hb
 have hsz:=lQ hsz
 obtain ⟨h1,h2⟩:=hp.inv.ok n _ M
 have hlt:i<xs.length:=(lF.1 h0).1
 have N:(xs.map enc)[i]? = some (enc x0):=by simp [h0]
 have hro:(enc x0).length=size:=h1 _ (lU N)
 rcases h2 with ⟨h3,_⟩ | ⟨b,us0,cap,h3,h3',h4,h5,h6,⟨fr,h7,h7',h7''⟩,h8⟩
 ·simp at h3;subst h3;simp at hlt
 obtain ⟨us,g1,g2,g3⟩:=zKu hcs (zAm hp.env hy)
 obtain ⟨o1,o2,o3⟩:=zS9 hov
 have hbx:a.eval x=.pointer (some ⟨b,i*size+off,none⟩):=by
  have:=zAm hp.env hx
  generalize a.eval x=u at this
  cases this with
  | ela hs=>rw [zHV h3] at hs;simp at hs;subst hs;rfl
  | d hd=>cases hd
 rw [lL] at h5
 have hcap:(i+1)*size<=cap*size:=lO _ (by omega)
 rw [lP] at hcap
 obtain ⟨w',cur',s1,s2,s3,s4,s5,s6,s7,s8,s9⟩:=zH7 (P:=G.P) b (i*size+off) (e % zLI) fr us 0 us0 w h7 h7' (by rw [h4];omega) (zWW g2 g3 hone)
 have hrun:(execOp a.eval o).run G.P w=.ok .skip w':=by
  simp only [execOp,ho,hbx,Sem.run_bind,zLt (T.htys _ (zAc ht)) g1 (g2.trans hsz),s1,Result.andThen_ok,Sem.run_pure]
 unfold Oper.wp
 rw [hrun,Oper.upon_skip,hd]
 refine k r hr _ _ ⟨σ,φ,hp.turn M hS s5 (fun c hc=>s6 c fun e=>hc ((h3' c).2 e)) s7 s8 s9 fun D' hD=>?_⟩
 have hx1:(enc V).length=size:=by rw [o1,hro]
 have B:∀J:List PV,J∈(xs.set i V).map enc->J.length=size:=by
  intro J H
  rw [List.map_set] at H
  rcases List.mem_or_eq_of_mem_set H with h | h
  ·exact h1 J h
  ·subst h;exact hx1
 refine ⟨B,.inr ⟨b,cur',cap,by simpa using h3,h3',by rw [s3,h4],by simpa using h5,h6,⟨fr,s2,by rw [s3];exact h7',h7''⟩,fun j c u hc Q=>?_⟩⟩
 have I:j<((xs.set i V).map enc).flatten.length:=(lF.1 hc).1
 rw [zI9 B] at I
 simp only [lL,List.length_set] at I
 have hs0:0<size:=by rcases cT size with h | h;subst h;simp at I;exact h
 have hi':j / size<xs.length:=gV (by rw [cU];exact I)
 have hm:j % size<size:=Nat.mod_lt _ hs0
 have ej:j / size*size+j % size=j:=by rw [cU];exact gW j size
 rw [s4 j] at Q
 simp only [cH,g2] at Q
 by_cases W:i=j / size
 ·have z:((xs.set i V).map enc)[j / size]? = some (enc V):=by rw [<- W,lK,gB hlt];rfl
  have hf:=zEC B z hm
  rw [ej,hc] at hf
  have C:=hf.symm
  rw [o3] at C
  have hjj:i*size+j % size=j:=by rw [W];exact ej
  split at C
  ·rename_i hin
   rw [iP (by omega),show j - (i*size+off)=j % size - off by omega] at Q
   exact ((g3 _ c u C Q).toRD (lR.1 hdat c (lU C))).mono hD
  ·rename_i hin
   rw [iN (by omega)] at Q
   have F:=zEC h1 N (show j % size<size from hm)
   rw [hjj] at F
   exact (h8 j c u (F.trans C) Q).mono hD
 ·have hrow0:((xs.set i V).map enc)[j / size]? = (xs.map enc)[j / size]? := by rw [lK,lK,gN W]
  have z:=lC (show j / size<(xs.map enc).length by simpa using hi')
  have hf:=zEC B (hrow0.trans z) hm
  have F:=zEC h1 z hm
  rw [ej] at hf F
  rw [iN (by
   intro ⟨ha,hb'⟩
   rcases lY (j / size) i with h | h
   ·have:(j / size+1)*size<=i*size:=lO _ (by omega)
    rw [lP] at this;omega
   ·have:(i+1)*size<=j / size*size:=lO _ (by omega)
    rw [lP] at this;omega)] at Q
  exact (h8 j c u (F.trans (hf.symm.trans hc)) Q).mono hD
end
end
section
variable {o:Oper} {acc l:List Nat}
section
variable {ρ : Type} {G:Ctx ρ} {S:zAC} {all:Array Oper}
def zUZ (l:List Nat):Env->Env
 | []=>[]
 | (t,p)::E=>bif l.any (lA t) then (t,p)::zUZ l E else zUZ l E
theorem zBE {t:Nat}:l.any (lA t)=true↔t∈l:=by
 rw [List.any_eq_true]
 exact ⟨fun ⟨x,g,j⟩=>by rw [lQ j];exact g,fun h=>⟨t,h,by simp⟩⟩
theorem zeU {E:Env} {t:Nat} {p:PV} (h:lk (zUZ l E) t=some p):t∈l/\lk E t=some p:=by
 induction E with
 | nil=>simp [zUZ,lk] at h
 | cons x E z =>
  obtain ⟨k,q⟩:=x
  simp only [zUZ] at h
  cases g:l.any (lA k)<;>simp only [g,cond_true,cond_false] at h
  ·obtain ⟨r,B⟩:=z h
   refine ⟨r,?_⟩
   have j:¬k=t:=fun e=>by subst e;rw [zBE.2 r] at g;cases g
   simp only [lk,zBa j,cond_false];exact B
  ·simp only [lk] at h ⊢
   by_cases e:k=t
   ·subst e;simp at h ⊢;exact ⟨zBE.1 g,h⟩
   ·simp only [zBa e,cond_false] at h ⊢;exact z h
def zCG (G:Ctx ρ) (S:zAC) (o:Oper) (σ : Nat->Value) (φ : Nat->Nat->Prop) (a:Act) (w:World) (p:PV):Prop :=
 match (execOp a.eval o).run G.P w with
 | .ok (.value u) w'=>w'=w/\R σ w (Dof G.X φ w S) p u
 | .ok (.enter f args) w'=>w'=w/\Calls G.P f args w fun e g=>∃u,e=.returned u/\(∀E a,Pre' G E S a w σ φ -> Pre' G E S a g σ φ)/\R σ g (Dof G.X φ g S) p u
 | _=>False
def OpSem (G:Ctx ρ) (S:zAC) (all:Array Oper) (o:Oper) (E:Env) (p:PV):Prop :=
 ∀σ φ w a,Pre' G E S a w σ φ -> if Region.wanted o (yielded all a.tmps) then zCG G S o σ φ a w p else p=.tup []
def Lex (G:Ctx ρ) (S:zAC) (all:Array Oper):List Oper->Env->(Env->Prop)->Prop
 | [],E,Kf=>Kf E
 | o::rest,E,Kf=>∃d p,o.dst=some d/\d<G.fn.ntmps/\OpSem G S all o (zUZ (o.looksAt all) E) p/\Lex G S all rest ((d,p)::E) Kf
def zP5 (o:Oper) (acc:List Nat):Nat:=o.after.toList.foldl (fun s e=>if Region.binds .any e then s ||| 2 ^ e.on ||| acc.getD e.on 0 else s) 0
def zNX:List Oper->List Nat->List Nat
 | [],acc=>acc
 | o::l,acc=>zNX l (acc++[zP5 o acc])
theorem zZT {i:Nat} (h:(zP5 o acc).testBit i=true):∃e∈o.after,Region.binds .any e=true/\(i=e.on\/(acc.getD e.on 0).testBit i=true):=by
 have j:∀(l:List Edge) (s:Nat),(l.foldl (fun s e=>if Region.binds .any e then s ||| 2 ^ e.on ||| acc.getD e.on 0 else s) s).testBit i=true->s.testBit i=true\/∃e∈l,Region.binds .any e=true/\(i=e.on\/(acc.getD e.on 0).testBit i=true):=by
  intro l
  induction l with
  | nil=>intro s h;exact .inl h
  | cons e l C =>
   intro s h
   rcases C _ h with h | ⟨z,g,h⟩
   ·simp only at h
    split at h
    ·rename_i r
     simp only [Nat.testBit_or,Bool.or_eq_true,Nat.testBit_two_pow] at h
     rcases h with (h | h) | h
     ·exact .inl h
     ·exact .inr ⟨e,lH ..,r,.inl (by simp at h;exact h.symm)⟩
     ·exact .inr ⟨e,lH ..,r,.inr h⟩
    ·exact .inl h
   ·exact .inr ⟨z,lG _ g,h⟩
 rcases j _ _ h with h | ⟨e,B,h⟩
 ·simp at h
 ·exact ⟨e,by simpa using B,h⟩
theorem zVc {l:List Oper} {i:Nat} (h:i<acc.length):(zNX l acc).getD i 0=acc.getD i 0:=by
 induction l generalizing acc with
 | nil=>rfl
 | cons o l g =>
  simp only [zNX]
  rw [g (by simp;omega)]
  simp [cJ,lN h]
theorem zdt {l:List Oper} {j:Nat} (z:l[j]? = some o) (C:∀(k:Nat) (x:Oper),l[k]? = some x->∀e∈x.after,Region.binds .any e=true->e.on<acc.length+k) {i:Nat} (h:((zNX l acc).getD (acc.length+j) 0).testBit i=true) :
  ∃e∈o.after,Region.binds .any e=true/\(i=e.on\/((zNX l acc).getD e.on 0).testBit i=true):=by
 induction l generalizing acc j with
 | nil=>simp at z
 | cons x l J =>
  simp only [zNX] at h ⊢
  cases j with
  | zero =>
   simp at z;subst z
   rw [zVc (by simp)] at h
   have:(acc++[zP5 x acc]).getD (acc.length+0) 0=zP5 x acc:=by simp [cJ]
   rw [this] at h
   obtain ⟨e,r,g,B⟩:=zZT h
   refine ⟨e,r,g,B.imp id fun B=>?_⟩
   have I:=C 0 x rfl e r g
   rw [zVc (by simp;omega)]
   simpa [cJ,lN (show e.on<acc.length by omega)] using B
  | succ j =>
   have F:acc.length+(j+1)=(acc++[zP5 x acc]).length+j:=by simp;omega
   rw [F] at h
   exact J (by simpa using z) (fun k y H e r g=>by have:=C (k+1) y (by simpa using H) e r g;simp;omega) h
def sel:List (Nat×PV)->(Nat->Bool)->Nat->Env->Env
 | [],_,_,E=>E
 | x::l,f,k,E=>sel l f (k+1) (bif f k then x::E else E)
theorem Oper.wp_of_does {σ : Nat->Value} {φ : Nat->Nat->Prop} {a:Act} {w:World} {p:PV} {E:Env} {K:Act->World->Prop} {Q:Exit->Act->World->Prop} {d:Nat} (C:Pre' G E S a w σ φ) (h:zCG G S o σ φ a w p) (B:o.dst=some d) (g:d<G.fn.ntmps)
  (z:∀r w',Pre' G ((d,p)::E) S r w' σ φ -> K r w'):o.wp G.P a w K Q:=by
 unfold zCG at h
 unfold Oper.wp
 split at h
 ·rename_i u w' hr
  obtain ⟨rfl,j⟩:=h
  rw [hr,Oper.upon_value,B]
  exact z _ _ (C.put g j)
 ·rename_i f args w' hr
  obtain ⟨rfl,j⟩:=h
  rw [hr,Oper.upon_enter]
  refine j.mono ?_
  rintro e I ⟨u,rfl,F,H⟩
  rw [B]
  exact z _ _ ((F _ _ C).put g H)
 ·exact h.elim
end
end
section
variable {o:Oper} {α:Type} {S':zAC} {p:PV} {rest ops:List Oper} {kk:IntKind} {d:Nat} {i:Int} {t ix:Operand} {x y c:Code} {σ:Nat->Value} {φ:Nat->Nat->Prop} {s:List UInt8} {ps:List PV}
section
variable {ρ : Type} {G:Ctx ρ} {m:Option ρ} {K:List (Kont ρ)} {E:Env} {S:zAC} {all:Array Oper}
theorem Lex.congr:∀{ops:List Oper} {E j:Env} {r g:Env->Prop},(∀t,lk E t=lk j t)->(∀E1 C,(∀t,lk E1 t=lk C t)->g C->r E1)->Lex G S all ops j g->Lex G S all ops E r
 | [],E,j,r,g,h,hK,z=>hK E j h z
 | o::ops,E,j,r,g,h,hK,⟨d,p,h1,h2,h3,h4⟩=>by
  have M:∀t,lk ((d,p)::E) t=lk ((d,p)::j) t:=fun t=>by simp only [lk];rw [h t]
  refine ⟨d,p,h1,h2,fun σ φ w a F=>h3 σ φ w a { F with env:=fun t q N=>?_ },Lex.congr M hK h4⟩
  obtain ⟨I,J⟩:=zeU N
  have:lk (zUZ (o.looksAt all) E) t=some q:=by
   have B:∀(l:List Nat) (E:Env),t∈l->lk (zUZ l E) t=lk E t:=by
    intro l E z
    induction E with
    | nil=>rfl
    | cons x E H =>
     obtain ⟨k,y⟩:=x
     simp only [zUZ,lk]
     by_cases e:k=t
     ·subst e
      rw [zBE.2 z];simp [lk]
     ·rw [zBa e]
      cases l.any (lA k)
      ·exact H
      ·simp only [cond_true,lk];rw [zBa e];exact H
   rw [B _ _ I,h t];exact J
  exact F.env t q this
theorem zAV {j:Nat} {b:Bool} {B C:Option ρ} (J:lk E j=some (.v (.bool b))) (H:PO G B all ops K ((j,.v (.bool true))::E) S) (I:PO G C all ops K ((j,.v (.bool false))::E) S):PO G (cnd b B C) all ops K E S:=by
 have g:∀(c:Bool) (z:Option ρ),b=c->PO G z all ops K ((j,.v (.bool c))::E) S->PO G z all ops K E S:=by
  rintro c z rfl h r hr a w M
  refine h r hr a w (M.sub fun t p N=>?_)
  rw [<- N]
  simp only [lk]
  by_cases e:j=t
  ·subst e;simp [J]
  ·rw [zBa e];rfl
 cases F:b with
 | true=>exact g true B F H
 | false=>exact g false C F I
theorem zgB {T:Tab G.P} (h:ev1 T E S o.op=some p) {σ : Nat->Value} {φ : Nat->Nat->Prop} {w:World} {a:Act} (j:Pre' G E S a w σ φ):zCG G S o σ φ a w p:=by
 obtain ⟨u,r,g⟩:=zat (T:=T) j.inv j.env h
 unfold zCG
 rw [r]
 exact ⟨rfl,g⟩
theorem zSs {T:Tab G.P} {n y:Int} (h:zRH T E o.op=some (kk,n)) (hy:rng kk n=some y) {σ : Nat->Value} {φ : Nat->Nat->Prop} {w:World} {a:Act} (r:Pre' G E S a w σ φ) :
  zCG G S o σ φ a w (.v (.int kk n)):=by
 obtain ⟨rfl,j⟩:=zcD hy
 have g:=zU7 (P:=G.P) (w:=w) r.env h
 rw [zcr j] at g
 unfold zCG
 rw [g]
 exact ⟨rfl,.d (.v rfl)⟩
theorem Pre'.after {w w':World} (j:Fr w (zCQ φ []) w') {E:Env} {a:Act} (g:Pre' G E S a w σ φ):Pre' G E S a w' σ φ := by
 have z:∀b,b<w.heap.size->w'.heap[b]? = w.heap[b]? := fun b z=>j.block b z fun ⟨n,k,h,_⟩=>by simp at h
 have C:∀b,Dof G.X φ w S b->Dof G.X φ w' S b/\w'.heap[b]? = w.heap[b]? := fun b ⟨H,M,N⟩=>⟨⟨by have:=j.size;omega,M,N⟩,z b H⟩
 refine ⟨g.dk fun b H _=>z b H,g.size,fun t q Q=>let ⟨v,V,I⟩:=g.env t q Q;⟨v,V,I.mono C⟩,?_,?_,g.agree,fun b B F=>g.new b B F⟩
 ·refine ⟨g.inv.nodup,fun b r=>by have:=g.inv.xlt b r;have:=j.size;omega,fun b B=>⟨by have:=(g.inv.lt b B).1;have:=j.size;omega,(g.inv.lt b B).2⟩,g.inv.disj,fun n k J=>?_⟩
  exact zCT.next C (fun b B=>z b (g.inv.lt b ⟨n,k,J,B⟩).1) (g.inv.ok n k J) fun _ _ _ _ _ _ _ _=>rfl
 ·exact ⟨j.os.trans g.fr.os,j.tape.trans g.fr.tape,j.output.trans g.fr.output,by have:=j.size;have:=g.fr.size;omega,fun b r hx=>by
   have:=g.fr.size
   rw [z b (by omega)];exact g.fr.block b r hx⟩
theorem zDu (F:gE all E o=some true) (h:∀σ φ w a,Pre' G E S a w σ φ -> zCG G S o σ φ a w p) (C:o.dst=some d) (g:lB d G.fn.ntmps=true)
  (k:PO G m all rest K ((d,p)::E) S):PO G m all (o::rest) K E S :=
 zGT F fun r hr a w ⟨σ,φ,z⟩=>Oper.wp_of_does z (h σ φ w a z) C (zCS g) fun B w' j=>k r hr B w' ⟨σ,φ,j⟩
theorem zMj {T:Tab G.P} {f:Int->Option ρ} {n:Int} (r:gE all E o=some true) (h:zRH T E o.op=some (kk,n)) (j:o.dst=some d)
  (g:lB d G.fn.ntmps=true) (k:∀y,rng kk n=some y->PO G (f y) all rest K ((d,.v (.int kk y))::E) S):PO G (bnd (rng kk n) f) all (o::rest) K E S :=
 zGJ fun y hy=>zDu r (fun _ _ _ _=>zSs (T:=T) h hy) j g (by have e:=(zcD hy).1;subst e;exact k _ hy)
theorem zVL {T:Tab G.P} (enc : α -> List PV) (xs:List α) {args:Array Operand} {tys:Array TypeId} {t:TypeId} {x:Operand} {n e size:Nat} {z:Nat×Nat×Nat}
  (r:o.op=.call ⟨.builtin .len,args,tys⟩) (g:args.toList=[x]) (h:tys.toList=[t]) (hx:ev E x=some (.own n)) (j:lkS S n=some (.arr e size (xs.map enc))) (C:lku T.els t=some z)
  {σ : Nat->Value} {φ : Nat->Nat->Prop} {w:World} {a:Act} (B:Pre' G E S a w σ φ):zCG G S o σ φ a w (.v (.int .i64 (xs.length:Nat))) :=
 zgB (T:=T) (by simp only [r,ev1,g,h,hx,C,lenE,j,lL]) B
theorem zTE {T:Tab G.P} (enc : α -> List PV) (xs:List α) {args:Array Operand} {tys:Array TypeId} {t:TypeId} {x:Operand} {n e size:Nat} {z:Nat×Nat×Nat} {d:Nat}
  (F:o.op=.call ⟨.builtin .len,args,tys⟩) (h:args.toList=[x]) (j:tys.toList=[t]) (C:gE all E o=some true) (hx:ev E x=some (.own n)) (r:lkS S n=some (.arr e size (xs.map enc))) (H:lku T.els t=some z)
  (B:o.dst=some d) (g:lB d G.fn.ntmps=true) (k:PO G m all rest K ((d,.v (.int .i64 (xs.length:Nat)))::E) S):PO G m all (o::rest) K E S :=
 zDu C (fun _ _ _ _=>zVL (T:=T) enc xs F h j hx r H) B g k
def chr (s:List UInt8) (i:Int):Option Int:=if 0<=i then (s[i.toNat]?).map fun b=>(b.toNat:Int) else none
theorem zdR {T:Tab G.P} {t:TypeId} {x:Operand} {y:Int} (H:o.op=.index t x ix) (hx:ev E x=some (.v (.string ⟨⟨s⟩⟩))) (hi:ev E ix=some (.v (.int kk i))) (J:lku T.bases t=some .string)
  (hy:chr s i=some y) {σ : Nat->Value} {φ : Nat->Nat->Prop} {w:World} {a:Act} (C:Pre' G E S a w σ φ):zCG G S o σ φ a w (.v (.int .u8 y)):=by
 obtain ⟨B,_⟩:=(zAm C.env hx).flat_inv
 obtain ⟨z,_⟩:=(zAm C.env hi).flat_inv
 unfold chr at hy
 split at hy
 case isFalse=>simp at hy
 rename_i F
 simp only [lI] at hy
 obtain ⟨b,r,rfl⟩:=hy
 have I:(⟨⟨s⟩⟩:ByteArray)[i.toNat]? = some b:=by
  have g:=(lF.1 r).1
  have h:i.toNat<(⟨⟨s⟩⟩:ByteArray).size:=g
  rw [getElem?_pos (⟨⟨s⟩⟩:ByteArray) i.toNat h]
  rw [lC g] at r
  simp only [lJ.injEq] at r
  rw [<- r];rfl
 have j:(execOp a.eval o).run G.P w=.ok (.value (.int .u8 b.toNat)) w:=by
  simp [execOp,H,B,z,Instr.index,asIntOf,run_underlying (zH0 (T.hbases _ (zAc J))),F,I]
 unfold zCG
 rw [j]
 exact ⟨rfl,.d (.v rfl)⟩
theorem zNj {T:Tab G.P} {t:TypeId} {x:Operand} {f:Int->Option ρ} (r:o.op=.index t x ix) (j:gE all E o=some true) (hx:ev E x=some (.v (.string ⟨⟨s⟩⟩)))
  (hi:ev E ix=some (.v (.int kk i))) (z:lku T.bases t=some .string) (h:o.dst=some d) (g:lB d G.fn.ntmps=true) (k:∀y,chr s i=some y->PO G (f y) all rest K ((d,.v (.int .u8 y))::E) S):PO G (bnd (chr s i) f) all (o::rest) K E S :=
 zGJ fun y hy=>zDu j (fun _ _ _ _=>zdR (T:=T) r hx hi z hy) h g (k y hy)
theorem zM8 (J : α -> Option ρ) (g : α -> Env) (j : α -> zAC) (r:∀x,PN G (J x) K (g x) (j x)) (h:(∀x,PN G (J x) K (g x) (j x))->PO G m all ops K E S):PO G m all ops K E S:=h r
theorem zM7 (J : α -> Option ρ) (g : α -> Env) (j : α -> zAC) (r:∀z,PN G (J z) K (g z) (j z)) (h:(∀z,PN G (J z) K (g z) (j z))->PO G m all ops (.seq (.cond t x y)::K) E S):PO G m all ops (.seq (.cond t x y)::K) E S:=h r
theorem zb8 (g:ev E t=some (.v (.bool true))) (h:PW G m x K E S):PW G m (.cond t x y) K E S:=zXK g (fun _=>h) fun e=>by cases e
theorem zb4 (g:ev E t=some (.v (.bool false))) (h:PW G m y K E S):PW G m (.cond t x y) K E S:=zXK g (fun e=>by cases e) fun _=>h
def zGN:zAC->zAC->Prop
 | [],_=>True
 | (n,k)::S',S=>lkS S n=some k/\zGN S' S
def zA2:List Nat->Bool
 | []=>true
 | n::l => !l.any (lA n)&&zA2 l
theorem zK7 {l:List Nat} (h:zA2 l=true):l.Nodup:=by
 induction l with
 | nil=>simp
 | cons n l j =>
  simp only [zA2,lM,gM] at h
  rw [lS]
  exact ⟨fun g=>by rw [zBE.2 g] at h;exact absurd h.1 (by simp),j h.2⟩
theorem zF0 {S:zAC} (h:zGN S' S) (g:zA2 (S'.map (·.1))=true):zWU S' S:=by
 refine ⟨?_,zK7 g⟩
 clear g
 induction S' with
 | nil=>intro x hx;cases hx
 | cons y S' j =>
  obtain ⟨n,k⟩:=y
  intro x hx
  rcases lD.1 hx with e | hx
  ·subst e;exact zAl h.1
  ·exact j h.2 x hx
theorem zXM {g:Env} (h:PW G m c K g S') (j:zOO g E) (r:zGN S' S) (z:zA2 (S'.map (·.1))=true):PW G m c K E S:=pw_sub j (zb7 (zF0 r z) h)
theorem zgg {g:Env} (h:PN G m K g S') (j:zOO g E) (r:zGN S' S) (z:zA2 (S'.map (·.1))=true):PN G m K E S:=pn_sub j (zbt (zF0 r z) h)
theorem zYa (M:Nat -> α -> Option ρ) (g : α -> Env) (Sf : α -> zAC) (n:Nat) (x : α) {body:Code} (h:∀x,M 0 x=none) (j:zOO (g x) E) (r:zGN (Sf x) S) (B:zA2 ((Sf x).map (·.1))=true)
  (z:∀n x,PW G (M (n+1) x) body (.iter (zXg G (M n) g Sf)::K) (g x) (Sf x)):PW G (M n x) (.loop body) K E S:=zb7 (zF0 r B) (zgp M g Sf h z n x j)
theorem zeA {M : α -> Option ρ} {g : α -> Env} {Sf : α -> zAC} (x : α) (h:zOO (g x) E) (j:zGN (Sf x) S) (r:zA2 ((Sf x).map (·.1))=true):PN G (M x) (.iter (zXg G M g Sf)::K) E S:=zbt (zF0 j r) (zgf x h)
def resP {P:Program} (T:Tab P) (E:Env) (S:zAC):ResultVar->Option PV
 | .tmp t=>lk E t
 | .cell x t=>match lku T.tys t,lk E x with
  | some (g,n),some p=>(match zJf S p with
   | some cs=>zNW g n cs
   | none=>none)
  | _,_=>none
def zgz {P:Program} (T:Tab P) (E:Env) (S:zAC):List ResultVar->Option (List PV)
 | []=>some []
 | r::l=>match resP T E S r with
  | some p=>(match zgz T E S l with
   | some ps=>some (p::ps)
   | none=>none)
  | none=>none
def oneP:List PV->PV
 | [p]=>p
 | ps=>.tup ps
def zeS (tmps:Array Value):ResultVar->Sem Value
 | .tmp t=>Pure.pure (tmps.getD t undef)
 | .cell a t=>do loadVar t (<- asAddr (tmps.getD a undef))
theorem zTH (fn:Func) (tmps:Array Value):results fn tmps=(do
  let vs <- fn.results.mapM (zeS tmps)
  pure (if h:vs.size=1 then vs[0] else .tuple vs)):=by
 unfold results
 have:(fun (x:ResultVar)=>match x with
  | .tmp t=>(Pure.pure (tmps.getD t undef):Sem Value)
  | .cell a t=>do loadVar t (<- asAddr (tmps.getD a undef)))=zeS tmps:=by
  funext r;cases r<;>rfl
 rw [<- this]
 rfl
theorem zXN {P:Program} {T:Tab P} {X:Nat->Prop} {σ : Nat->Value} {φ : Nat->Nat->Prop} {w:World} {tmps:Array Value} (hi:Inv X σ φ w S) (I:zQV σ w (Dof X φ w S) E tmps):∀{l:List ResultVar} {ps:List PV},zgz T E S l=some ps ->
  ∃us:List Value,(l.mapM (zeS tmps)).run P w=Result.ok us w/\RL σ w (Dof X φ w S) ps us
 | [],ps,h=>by simp [zgz] at h;subst h;exact ⟨[],rfl,rfl,fun i c u z=>by simp at z⟩
 | r::l,ps,h=>by
  simp only [zgz] at h
  split at h<;>try simp at h
  rename_i p j
  split at h<;>simp at h
  rename_i qs M
  subst h
  obtain ⟨us,N,Q,V⟩:=zXN hi I M
  have H:∀u,(zeS tmps r).run P w=Result.ok u w->R σ w (Dof X φ w S) p u->∃us:List Value,((r::l).mapM (zeS tmps)).run P w=Result.ok us w/\RL σ w (Dof X φ w S) (p::qs) us:=by
   intro u F hr
   refine ⟨u::us,?_,by simp [Q],fun i c x z hx=>?_⟩
   ·rw [gT,Sem.run_bind,F,Result.andThen_ok,Sem.run_bind,N];rfl
   ·cases i with
    | zero=>simp at z hx;subst z hx;exact hr
    | succ i=>exact V i c x (by simpa using z) (by simpa using hx)
  cases r with
  | tmp t =>
   obtain ⟨u,F,hr⟩:=I t p j
   have e:tmps.getD t undef=u:=by simp only [cL,F,cM]
   exact H u (by simp [zeS,e]) hr
  | cell x t =>
   simp only [resP] at j
   split at j<;>try simp at j
   rename_i g n q ht W
   split at j<;>try simp at j
   rename_i cs B
   obtain ⟨v,hv,C⟩:=I x q W
   have e:tmps.getD x undef=v:=by simp only [cL,hv,cM]
   obtain ⟨u,F,hr⟩:=zW6 hi (T.htys _ (zAc ht)) C B j
   refine H u ?_ hr
   obtain ⟨ad,J,_⟩:=zSm hi B C
   subst J
   simp only [zeS,e,asAddr]
   simpa [Instr.loadAt,Instr.sureAddr] using F
theorem zgq {T:Tab G.P} {r : ρ} {M:List ResultVar} (C:G.fn.results.toList=M) (h:zgz T E S M=some ps) (g:oneP ps=p) (j:G.post r p S') (V:zGN S' S) (hn:zA2 (S'.map (·.1))=true) (hz:G.dz=G.w0.heap.size+1:=by rfl) (Q:noL K=true:=by rfl):PW G (some r) .ret K E S:=by
 intro r' hr a w0 ⟨σ,φ,J⟩
 cases hr
 refine wpIn_ret (zRl Q ?_)
 obtain ⟨w,I,B⟩:=J.shut hz
 obtain ⟨us,N,F,z⟩:=zXN B.inv B.env h
 obtain ⟨i1,i2,i3⟩:=B.inv.sub (zF0 V hn)
 have hm:(G.fn.results.mapM (zeS a.tmps)).run G.P w=.ok ⟨us⟩ w:=by
  rw [gF,C,Sem.run_map,N];rfl
 have fin:∃u,(results G.fn a.tmps).run G.P w=.ok u w/\R σ w (Dof G.X φ w S) p u:=by
  rw [zTH,Sem.run_bind,hm]
  match ps,us,F,z,g with
  | [q],[u],_,z,g=>exact ⟨u,rfl,by rw [<- g];exact z 0 q u rfl rfl⟩
  | [],[],F,z,g=>exact ⟨.tuple ⟨[]⟩,rfl,by rw [<- g];exact .tup rfl fun i c u W=>by simp at W⟩
  | q1::q2::qs,u1::u2::us,F,z,g=>exact ⟨.tuple ⟨u1::u2::us⟩,by simp,by rw [<- g];exact .tup F z⟩
 obtain ⟨u,hu,hr⟩:=fin
 exact I _ ⟨u,hu,p,S',σ,φ,u,rfl,j,i1,hr.mono fun b H=>⟨i2 b H,rfl⟩,B.fr,B.agree,fun b H=>B.new b (i3 b H)⟩
theorem zKZ {T:Tab G.P} {r : ρ} {M:List ResultVar} (C:G.fn.results.toList=M) (h:zgz T E S M=some ps) (g:oneP ps=p) (j:G.post r p S') (Q:zGN S' S) (hn:zA2 (S'.map (·.1))=true) (hz:G.dz=G.w0.heap.size+1:=by rfl):PN G (some r) [] E S:=by
 intro r' hr a w0 ⟨σ,φ,J⟩
 cases hr
 show kwp G r [] .ret a w0
 obtain ⟨w,I,B⟩:=J.shut hz
 obtain ⟨us,N,F,z⟩:=zXN B.inv B.env h
 obtain ⟨i1,i2,i3⟩:=B.inv.sub (zF0 Q hn)
 have W:(G.fn.results.mapM (zeS a.tmps)).run G.P w=.ok ⟨us⟩ w:=by
  rw [gF,C,Sem.run_map,N];rfl
 have fin:∃u,(results G.fn a.tmps).run G.P w=.ok u w/\R σ w (Dof G.X φ w S) p u:=by
  rw [zTH,Sem.run_bind,W]
  match ps,us,F,z,g with
  | [q],[u],_,z,g=>exact ⟨u,rfl,by rw [<- g];exact z 0 q u rfl rfl⟩
  | [],[],F,z,g=>exact ⟨.tuple ⟨[]⟩,rfl,by rw [<- g];exact .tup rfl fun i c u V=>by simp at V⟩
  | q1::q2::qs,u1::u2::us,F,z,g=>exact ⟨.tuple ⟨u1::u2::us⟩,by simp,by rw [<- g];exact .tup F z⟩
 obtain ⟨u,hu,hr⟩:=fin
 exact I _ ⟨u,hu,p,S',σ,φ,u,rfl,j,i1,hr.mono fun b H=>⟨i2 b H,rfl⟩,B.fr,B.agree,fun b H=>B.new b (i3 b H)⟩
theorem zb1 {t:Nat} {q:PV} (z:lk E t=some p) (r:Coe p q) {a:Act} {w:World}:Pre G E S a w->Pre G ((t,q)::E) S a w:=by
 rintro ⟨σ,φ,h⟩
 refine ⟨σ,φ,{ h with env:=fun j C g=>?_ }⟩
 simp only [lk] at g
 by_cases e:t=j
 ·subst e
  simp at g;subst g
  obtain ⟨u,B,hr⟩:=h.env t p z
  exact ⟨u,B,hr.coe r⟩
 ·simp only [zBa e,cond_false] at g
  exact h.env j C g
theorem zbv (t:Nat) {p q:PV} (h:lk E t=some p) (g:Coe p q) (k:PO G m all ops K ((t,q)::E) S):PO G m all ops K E S:=fun r hr a w j=>k r hr a w (zb1 h g j)
theorem zHc (t:Nat) {p q:PV} (h:lk E t=some p) (g:Coe p q) (k:PW G m c K ((t,q)::E) S):PW G m c K E S:=fun r hr a w j=>k r hr a w (zb1 h g j)
theorem zeH {n ty:Nat} {cs ds:List PV} (hb:lkS S n=some (.box ty cs)) (g:zfW cs ds) (W:zOD n (.box ty ds) S=some S') {a:Act} {w:World}:Pre G E S a w->Pre G E S' a w:=by
 intro ⟨σ,φ,r⟩
 have J:=zAl hb
 refine ⟨σ,φ,r.turn J W rfl (fun _ _=>rfl) rfl rfl rfl fun D' F=>?_⟩
 rcases r.inv.ok n _ J with H | hw
 rotate_left
 ·refine .inr (hw.map (zQe g).symm (fun p r h=>?_) (fun i c M u B C hr=>?_) (fun p u hr=>hr.mono F) fun _ _=>rfl)
  ·exact zdM g r h
  ·obtain ⟨I,j,z⟩:=zTv g i M C
   rw [B] at j;cases j
   exact (hr.coe1 z).mono F
 obtain ⟨b,us,B,C,N,Q,V⟩:=H
 refine .inl ⟨b,us,B,C,by rw [N,zQe g],Q,fun i c u hi hu=>?_⟩
 obtain ⟨I,j,z⟩:=zTv g i c hi
 exact ((V i I u j hu).coe1 z).mono F
theorem zFz (n:Nat) {ty:Nat} {cs:List PV} (ds:List PV) {S':zAC} (h:lkS S n=some (.box ty cs)) (j:zfW cs ds) (g:zOD n (.box ty ds) S=some S') (k:PW G m c K E S'):PW G m c K E S:=fun r hr a w z=>k r hr a w (zeH h j g z)
theorem zTx {T:Tab G.P} (enc : α -> List PV) (xs:List α) (x0 : α) {t:TypeId} {x:Operand} {n size i off e r:Nat} {g:Bool} {q:PV} (B:xs[i]? = some x0) (I:o.op=.load t x) (hx:ev E x=some (.ela n size i off))
  (H:lkS S n=some (.arr e size (xs.map enc))) (M:lku T.tys t=some (g,r)) (J:zNW g r ((enc x0).drop off)=some q) {σ : Nat->Value} {φ : Nat->Nat->Prop} {w:World} {a:Act} (j:Pre' G E S a w σ φ):zCG G S o σ φ a w q:=by
 have h:zJf S (.ela n size i off)=some ((enc x0).drop off):=by
  simp only [zJf,H,Nat.beq_refl,cond_true]
  rw [show (xs.map enc)[i]? = some (enc x0) by simp [B]]
 obtain ⟨z,C,F⟩:=zW6 j.inv (T.htys _ (zAc M)) (zAm j.env hx) h J
 unfold zCG
 rw [show (execOp a.eval o).run G.P w=.ok (.value z) w by simp [execOp,I,C]]
 exact ⟨rfl,F⟩
theorem zAv {T:Tab G.P} (enc : α -> List PV) (xs:List α) (x0 : α) {t:TypeId} {x:Operand} {n size i off e j:Nat} {g:Bool} {q:PV} {d:Nat} (r:xs[i]? = some x0) (F:o.op=.load t x) (C:gE all E o=some true) (hx:ev E x=some (.ela n size i off))
  (z:lkS S n=some (.arr e size (xs.map enc))) (J:lku T.tys t=some (g,j)) (I:zNW g j ((enc x0).drop off)=some q) (B:o.dst=some d) (h:lB d G.fn.ntmps=true) (k:PO G m all rest K ((d,q)::E) S):PO G m all (o::rest) K E S :=
 zDu C (fun _ _ _ _ H=>zTx (T:=T) enc xs x0 r F hx z J I H) B h k
theorem zfP {l:List α} {i:Nat} {x y : α} (h:l[i]? = some x):(l.set i y)[i]? = some y:=gB (lF.1 h).1
theorem zAx {l:List α} {x : α} (h:idx l i=some x):l[i.toNat]? = some x:=by unfold idx at h;split at h;exact h;cases h
end
end
section
variable {p:PV} {u:Value} {l:List Nat} {fp:Nat->Prop} {f:Nat->Nat}
def rho (rn:List (Nat×Nat)) (n:Nat):Nat:=match lku rn n with
 | some m=>m
 | none=>n
mutual
def ren (rn:List (Nat×Nat)):PV->PV
 | .loc n off=>.loc (rho rn n) off
 | .nloc n off=>.nloc (rho rn n) off
 | .ela n size i off=>.ela (rho rn n) size i off
 | .own n=>.own (rho rn n)
 | .ownb n=>.ownb (rho rn n)
 | .dat n=>.dat (rho rn n)
 | .bsl n l=>.bsl (rho rn n) l
 | .vw n i j s=>.vw (rho rn n) i j s
 | .mpd kvs=>.mpd kvs
 | .sel k alts=>.sel k (zNk rn alts)
 | .fn f a b=>.fn f (zNk rn a) (zNk rn b)
 | .agg cs=>.agg (zNk rn cs)
 | .tup cs=>.tup (zNk rn cs)
 | .v x=>.v x
 | .sl size full rows=>.sl size full rows
 | .el row off=>.el row off
 | .err b=>.err b
 | .junk=>.junk
def zNk (rn:List (Nat×Nat)):List PV->List PV
 | []=>[]
 | p::l=>ren rn p::zNk rn l
end
def renB (rn:List (Nat×Nat)):Blk->Blk
 | .box ty cells=>.box ty (zNk rn cells)
 | b=>b
def zJp (rn:List (Nat×Nat)):zAC->zAC
 | []=>[]
 | (n,b)::S=>(rho rn n,renB rn b)::zJp rn S
section
variable {P:Program} {σ σ':Nat->Value} {w:World} {D X:Nat->Prop} {φ : Nat->Nat->Prop} {S:zAC} {rn:List (Nat×Nat)}
theorem zD6:∀{l:List PV} {i:Nat},(zNk rn l)[i]? = (l[i]?).map (ren rn)
 | [],i=>by simp [zNk]
 | p::l,0=>by simp [zNk]
 | p::l,i+1=>by simp [zNk,zD6]
theorem zDy:∀{l:List PV},(zNk rn l).length=l.length
 | []=>rfl
 | p::l=>by simp [zNk,zDy]
theorem zLs:∀{S:zAC} {n:Nat} {k:Blk},(n,k)∈S->(rho rn n,renB rn k)∈zJp rn S
 | (n0,k0)::S,n,k,h=>by
  rcases lD.1 h with h | h
  ·cases h;exact lH ..
  ·exact lG _ (zLs h)
theorem zMk:∀{S:zAC} {n:Nat} {k:Blk},(n,k)∈zJp rn S->∃g k0,(g,k0)∈S/\n=rho rn g/\k=renB rn k0
 | [],n,k,h=>by cases h
 | (g,k0)::S,n,k,h=>by
  rcases lD.1 h with h | h
  ·cases h;exact ⟨g,k0,lH ..,rfl,rfl⟩
  ·obtain ⟨a,b,j,r⟩:=zMk h;exact ⟨a,b,lG _ j,r⟩
theorem zPd:∀{S:zAC},(zJp rn S).map (·.1)=(S.map (·.1)).map (rho rn)
 | []=>rfl
 | (n,k)::S=>by simp [zJp,zPd]
theorem RD.ren {q:PV} (h:RD w D q u):∀p,q=ren rn p->RD w D p u:=by
 induction h with
 | v hx=>intro p e;cases p<;>simp [Pw.ren] at e;subst e;exact .v hx
 | err0=>intro p e;cases p<;>simp [Pw.ren] at e;subst e;exact .err0
 | err1=>intro p e;cases p<;>simp [Pw.ren] at e;subst e;exact .err1
 | agg F _ I =>
  intro p e
  cases p<;>simp [Pw.ren] at e
  subst e
  exact .agg (by rw [<- F,zDy]) fun i c u C H=>I i _ u (by rw [zD6,C];rfl) H c rfl
 | tup F _ I =>
  intro p e
  cases p<;>simp [Pw.ren] at e
  subst e
  exact .tup (by rw [<- F,zDy]) fun i c u C H=>I i _ u (by rw [zD6,C];rfl) H c rfl
 | nil g j=>intro p e;cases p<;>simp [Pw.ren] at e;obtain ⟨rfl,rfl,rfl⟩:=e;exact .nil g j
 | sl f g j r z B J M _=>intro p e;cases p<;>simp [Pw.ren] at e;obtain ⟨rfl,rfl,rfl⟩:=e;exact .sl f g j r z B J M
 | el f g j r _=>intro p e;cases p<;>simp [Pw.ren] at e;obtain ⟨rfl,rfl⟩:=e;exact .el f g j r
 | mp0=>intro p e;cases p<;>simp [Pw.ren] at e;subst e;exact .mp0
 | mp1 g j r z B _=>intro p e;cases p<;>simp [Pw.ren] at e;subst e;exact .mp1 g j r z B
theorem R.ren {q:PV} (h:R σ w D q u):∀p,q=ren rn p->R (fun n => σ (rho rn n)) w D p u:=by
 induction h with
 | d H=>exact fun p e=>.d (H.ren p e)
 | loc r=>intro p e;cases p<;>simp [Pw.ren] at e;obtain ⟨rfl,rfl⟩:=e;exact .loc r
 | nloc0=>intro p e;cases p<;>simp [Pw.ren] at e;exact .nloc0
 | nloc1 r=>intro p e;cases p<;>simp [Pw.ren] at e;obtain ⟨rfl,rfl⟩:=e;exact .nloc1 r
 | ela r=>intro p e;cases p<;>simp [Pw.ren] at e;obtain ⟨rfl,rfl,rfl,rfl⟩:=e;exact .ela r
 | own g=>intro p e;cases p<;>simp [Pw.ren] at e;subst e;exact R.own (σ := fun n => σ (rho rn n)) g
 | ownb g=>intro p e;cases p<;>simp [Pw.ren] at e;subst e;exact R.ownb (σ := fun n => σ (rho rn n)) g
 | dat g=>intro p e;cases p<;>simp [Pw.ren] at e;subst e;exact R.dat (σ := fun n => σ (rho rn n)) g
 | bsl r=>intro p e;cases p<;>simp [Pw.ren] at e;obtain ⟨rfl,rfl⟩:=e;exact .bsl r
 | vw g=>intro p e;cases p<;>simp [Pw.ren] at e;obtain ⟨rfl,rfl,rfl,rfl⟩:=e;exact R.vw (σ := fun n => σ (rho rn n)) g
 | sel g _ B =>
  intro p e
  cases p<;>simp [Pw.ren] at e
  obtain ⟨rfl,rfl⟩:=e
  rw [zD6] at g
  obtain ⟨c,C,rfl⟩:=lI.1 g
  exact .sel C (B c rfl)
 | junk=>intro p e;cases p<;>simp [Pw.ren] at e;exact .junk
 | fn g C _ _ I J =>
  intro p e
  cases p<;>simp [Pw.ren] at e
  obtain ⟨rfl,rfl,rfl⟩:=e
  exact .fn (by rw [<- g,zDy]) (by rw [<- C,zDy]) (fun i c u j z=>I i _ u (by rw [zD6,j];rfl) z c rfl) (fun i c u j z=>J i _ u (by rw [zD6,j];rfl) z c rfl)
 | agg F _ B =>
  intro p e
  cases p<;>simp [Pw.ren] at e
  subst e
  exact .agg (by rw [<- F,zDy]) fun i c u j z=>B i _ u (by rw [zD6,j];rfl) z c rfl
 | tup F _ B =>
  intro p e
  cases p<;>simp [Pw.ren] at e
  subst e
  exact .tup (by rw [<- F,zDy]) fun i c u j z=>B i _ u (by rw [zD6,j];rfl) z c rfl
theorem RD.unren (h:RD w D p u):RD w D (Pw.ren rn p) u:=by
 induction h with
 | v hx=>exact .v hx
 | err0=>exact .err0
 | err1=>exact .err1
 | agg H _ J =>
  refine .agg (by rw [zDy];exact H) fun i c u z I=>?_
  rw [zD6] at z
  obtain ⟨B,g,rfl⟩:=lI.1 z
  exact J i B u g I
 | tup H _ J =>
  refine .tup (by rw [zDy];exact H) fun i c u z I=>?_
  rw [zD6] at z
  obtain ⟨B,g,rfl⟩:=lI.1 z
  exact J i B u g I
 | nil g j=>exact .nil g j
 | sl f g j r C F M N _=>exact .sl f g j r C F M N
 | el f g j r _=>exact .el f g j r
 | mp0=>exact .mp0
 | mp1 g j r C F _=>exact .mp1 g j r C F
theorem R.unren (h:R σ w D p u):(∀n∈names p,σ' (rho rn n) = σ n)->R σ' w D (Pw.ren rn p) u:=by
 induction h with
 | d N=>exact fun _=>.d N.unren
 | loc F=>intro r;exact .loc (by rw [r _ (by simp [names])];exact F)
 | nloc0=>intro _;exact .nloc0
 | nloc1 F=>intro r;exact .nloc1 (by rw [r _ (by simp [names])];exact F)
 | ela F=>intro r;exact .ela (by rw [r _ (by simp [names])];exact F)
 | @own n g=>intro r;have:=r n (by simp [names]);rw [<- this] at g ⊢;exact .own g
 | @ownb n g=>intro r;have:=r n (by simp [names]);rw [<- this] at g ⊢;exact .ownb g
 | @dat n p g=>intro r;have:=r n (by simp [names]);rw [<- this] at g;exact .dat g
 | bsl F=>intro r;exact .bsl (by rw [r _ (by simp [names])];exact F)
 | @vw n i j s g=>intro r;have:=r n (by simp [names]);rw [<- this] at g ⊢;exact .vw g
 | sel g _ I=>intro r;exact .sel (by rw [zD6,g];rfl) (I fun n B=>r n (by simp [names,zFw g B]))
 | junk=>intro _;exact .junk
 | fn g M _ _ Q V =>
  intro r
  refine .fn (by rw [zDy];exact g) (by rw [zDy];exact M) (fun i c u z H=>?_) (fun i c u z H=>?_)
  ·rw [zD6] at z
   obtain ⟨C,g,rfl⟩:=lI.1 z
   exact Q i C u g H fun n B=>r n (by simp [names,zFw g B])
  ·rw [zD6] at z
   obtain ⟨C,g,rfl⟩:=lI.1 z
   exact V i C u g H fun n B=>r n (by simp [names,zFw g B])
 | agg J _ I =>
  intro r
  refine .agg (by rw [zDy];exact J) fun i c u z H=>?_
  rw [zD6] at z
  obtain ⟨C,g,rfl⟩:=lI.1 z
  exact I i C u g H fun n B=>r n (by simp [names,zFw g B])
 | tup J _ I =>
  intro r
  refine .tup (by rw [zDy];exact J) fun i c u z H=>?_
  rw [zD6] at z
  obtain ⟨C,g,rfl⟩:=lI.1 z
  exact I i C u g H fun n B=>r n (by simp [names,zFw g B])
def zD5 (l:List Nat):List PV->Bool
 | []=>true
 | c::cs=>(names c).all (fun m=>l.any (lA m))&&zD5 l cs
def zDE (l:List Nat):zAC->Bool
 | []=>true
 | (_,.box _ cells)::S=>zD5 l cells&&zDE l S
 | _::S=>zDE l S
def zfI:List PV->Bool
 | .tup [_,_,_,_,_,_]::_=>false
 | _=>true
def detB:Blk->Bool
 | .tre _ _ _ _ _=>false
 | .box _ cells=>zfI cells
 | _=>true
def zKU (l:List Nat):zAC->Bool
 | []=>true
 | (_,.box _ cells)::S=>zfI cells&&(zD5 l cells&&zKU l S)
 | (_,.tre _ _ _ _ _)::_=>false
 | _::S=>zKU l S
theorem zPJ {l:List Nat}:∀{S:zAC},zKU l S=true->zDE l S=true/\∀(n:Nat) (k:Blk),(n,k)∈S->detB k=true
 | [],_=>⟨rfl,fun n k h=>by cases h⟩
 | (m,b)::S,h=>by
  cases b with
  | box B cells =>
   simp only [zKU,lM] at h
   obtain ⟨r,z⟩:=zPJ h.2.2
   refine ⟨by simp only [zDE,lM];exact ⟨h.2.1,r⟩,fun n k g=>?_⟩
   rcases lD.1 g with j | g
   ·cases j;exact h.1
   ·exact z n k g
  | tre e s kc ke rows=>cases h
  | _ =>
   simp only [zKU] at h
   obtain ⟨r,z⟩:=zPJ h
   refine ⟨by simp only [zDE];exact r,fun n k g=>?_⟩
   rcases lD.1 g with j | g
   ·cases j;rfl
   ·exact z n k g
theorem zKw {cs:List PV} (h:zD5 l cs=true) {i:Nat} {c:PV} (hi:cs[i]? = some c):∀m∈names c,m∈l:=by
 induction cs generalizing i with
 | nil=>simp at hi
 | cons x cs j =>
  simp only [zD5,lM] at h
  cases i with
  | zero=>simp at hi;subst hi;intro m g;exact zBE.1 (lR.1 h.1 m g)
  | succ i=>exact j h.2 (by simpa using hi)
theorem zKv {S:zAC} (h:zDE l S=true):∀(n:Nat) {ty:Nat} (cells:List PV),(n,Blk.box ty cells)∈S->∀(i:Nat) (c:PV),cells[i]? = some c->∀m∈names c,m∈l:=by
 induction S with
 | nil=>intro n ty cells g;cases g
 | cons x S j =>
  intro n ty cells g
  obtain ⟨k,b⟩:=x
  cases b with
  | box r cs =>
   simp only [zDE,lM] at h
   rcases lD.1 g with e | g
   ·cases e;exact fun i c hi=>zKw h.1 hi
   ·exact j h.2 n cells g
  | _ =>
   simp only [zDE] at h
   rcases lD.1 g with e | g
   ·cases e
   ·exact j h n cells g
theorem zYe {rn:List (Nat×Nat)} {l:List PV} (h:zNk rn l=[]):l=[]:=by
 cases l with
 | nil=>rfl
 | cons c l=>simp [zNk] at h
theorem zYf {rn:List (Nat×Nat)}:∀{l:List PV},l.all datV=true->zNk rn l=l
 | [],_=>rfl
 | p::l,h=>by
  rw [cK,lM] at h
  rw [zNk,zYf h.2]
  cases p<;>first | (cases h.1;done) | rfl
theorem zeR {rn:List (Nat×Nat)} (h:zSb p):Pw.ren rn p=p:=by
 obtain ⟨l,rfl,h⟩:=h
 simp [Pw.ren,zNk,zYf h]
theorem zVt {rn:List (Nat×Nat)}:∀{l g:List PV},l.all datV=true->zNk rn g=l->g=l
 | [],g,_,h=>zYe h
 | p::l,g,h,e=>by
  rw [cK,lM] at h
  cases g with
  | nil=>simp [zNk] at e
  | cons c g =>
   rw [zNk,List.cons.injEq] at e
   rw [zVt h.2 e.2]
   congr 1
   have j:=h.1
   rw [<- e.1] at j
   cases c<;>first | (simp [Pw.ren,datV] at j;done) | exact e.1
theorem zgy {rn:List (Nat×Nat)} {c:PV} (r:zSb p) (h:Pw.ren rn c=p):c=p:=by
 obtain ⟨l,rfl,j⟩:=r
 cases c<;>simp [Pw.ren] at h
 rename_i m
 cases m with
 | nil=>simp [zNk] at h
 | cons z m =>
  simp only [zNk,List.cons.injEq] at h
  rw [zVt j h.2]
  congr 2
  have g:=h.1
  cases z<;>simp [Pw.ren] at g
  obtain ⟨rfl,g⟩:=g
  rw [zYe g]
theorem zCT.ren {hdr:Value} {k:Blk} (h:zCT σ w D hdr fp (renB rn k)):zCT (fun n => σ (rho rn n)) w D hdr fp k:=by
 cases k with
 | box N cells =>
  rcases h with h | hw
  rotate_left
  ·refine .inr (hw.map zDy.symm (fun p I h=>?_) (fun i c B u g j hr=>?_) (fun _ _ r=>r) fun _ _=>rfl)
   ·rw [zD6] at h
    obtain ⟨c,g,j⟩:=lI.1 h
    rw [g,zgy I j]
   ·rw [zD6,j] at g
    simp only [lW,lJ.injEq] at g
    subst g
    exact hr.ren B rfl
  obtain ⟨b,us,g,j,z,C,F⟩:=h
  rw [zDy] at z
  exact .inl ⟨b,us,g,j,z,C,fun i c u H J=>(F i _ u (by rw [zD6,H];rfl) J).ren c rfl⟩
 | arr e s rows=>exact h
 | tre e s kc ke rows=>exact h
 | siter s p=>exact h
 | mp M=>exact h
theorem zCT.unren {hdr:Value} {k:Blk} (h:zCT σ w D hdr fp k) (F:∀{H:Nat} (cells:List PV),k=.box H cells->∀(i:Nat) (c:PV),cells[i]? = some c->∀n∈names c,σ' (rho rn n) = σ n):zCT σ' w D hdr fp (renB rn k):=by
 cases k with
 | box H cells =>
  rcases h with h | hw
  rotate_left
  ·refine .inr (hw.map zDy (fun p N h=>by rw [zD6,h];simp [zeR N]) (fun i c z u j g hr=>?_) (fun _ _ r=>r) fun _ _=>rfl)
   rw [zD6,j] at g
   simp only [lW,lJ.injEq] at g
   subst g
   exact hr.unren (F cells rfl i c j)
  obtain ⟨b,us,j,g,I,J,M⟩:=h
  refine .inl ⟨b,us,j,g,by rw [zDy];exact I,J,fun i c u C Q=>?_⟩
  rw [zD6] at C
  obtain ⟨z,B,rfl⟩:=lI.1 C
  exact (M i z u B Q).unren (F cells rfl i z B)
 | arr e s rows=>exact h
 | tre e s kc ke rows=>exact h
 | siter s p=>exact h
 | mp V=>exact h
def back (rn:List (Nat×Nat)):List Nat->Nat->Option Nat
 | [],_=>none
 | n::l,m=>if rho rn n=m then some n else back rn l m
theorem zOW:∀{l:List Nat},(l.map (rho rn)).Nodup->∀{n:Nat},n∈l->back rn l (rho rn n)=some n
 | [],_,n,h=>by cases h
 | a::l,hd,n,h=>by
  simp only [lT,lS] at hd
  simp only [back]
  rcases lD.1 h with e | h
  ·subst e;rw [iP rfl]
  ·rw [iN fun e=>hd.1 (by rw [e];exact lE.2 ⟨n,h,rfl⟩)]
   exact zOW hd.2 h
def zOG:List Nat->List Nat->Bool
 | [],_=>true
 | n::l,L=>L.any (lA n)&&zOG l L
theorem zLu:∀{l L:List Nat},zOG l L=true->∀n∈l,n∈L
 | [],_,_,n,h=>by cases h
 | a::l,L,h,n,g=>by
  simp only [zOG,lM] at h
  rcases lD.1 g with e | g
  ·subst e;exact zBE.1 h.1
  ·exact zLu h.2 n g
theorem zP6 {f:Nat->Nat}:∀{l:List Nat},(l.map f).Nodup->l.Nodup
 | [],_=>by simp
 | a::l,h=>by
  simp only [lT,lS] at h ⊢
  exact ⟨fun g=>h.1 (lE.2 ⟨a,g,rfl⟩),zP6 h.2⟩
theorem zOu {f:Nat->Nat}:∀{l:List Nat},l.Nodup->(∀a∈l,∀b∈l,f a=f b->a=b)->(l.map f).Nodup
 | [],_,_=>by simp
 | a::l,h,hf=>by
  simp only [lT,lS] at h ⊢
  refine ⟨fun j=>?_,zOu h.2 fun x hx y hy=>hf x (lG _ hx) y (lG _ hy)⟩
  obtain ⟨b,g,e⟩:=lE.1 j
  have:=hf b (lG _ g) a (lH ..) e
  subst this
  exact h.1 g
theorem zP0 {L:World->Prop} {f:FuncId} {qs:List PV} {Sc Sr:zAC} {N0:List Nat} (rn:List (Nat×Nat)) (U:List Nat) (h:FC L P f qs Sc N0 fun r S'=>r=p/\S'=Sr)
  (hU:zA2 (U.map (rho rn))=true) (h1:zOG (Sc.map (·.1)) U=true) (h2:zOG (Sr.map (·.1)) U=true) (h3:zOG N0 U=true) (h4:zDE U Sr=true) (h5:zD5 U [p]=true) :
  FC L P f (zNk rn qs) (zJp rn Sc) (N0.map (rho rn)) fun r S'=>r=Pw.ren rn p/\S'=zJp rn Sr:=by
 have hd:=zK7 hU
 have W:∀{a b:Nat},a∈U->b∈U->rho rn a=rho rn b->a=b:=fun ha B e=>by
  have:=zOW hd ha
  rw [e,zOW hd B] at this
  exact (lJ.inj this).symm
 have hSc:=zLu h1
 have z:=zLu h2
 intro X σ φ w us hlay hi ha
 have hD:∀b,Dof X φ w (zJp rn Sc) b↔Dof X (fun n => φ (rho rn n)) w Sc b:=fun b =>
  ⟨fun ⟨F,H,a3⟩=>⟨F,H,fun n k j=>a3 _ _ (zLs j)⟩,fun ⟨F,H,a3⟩=>⟨F,H,fun n k j=>by obtain ⟨Q,k0,g,rfl,rfl⟩:=zMk j;exact a3 _ _ g⟩⟩
 have hF:∀b,zCQ φ (zJp rn Sc) b↔zCQ (fun n => φ (rho rn n)) Sc b:=fun b =>
  ⟨fun ⟨n,k,j,M⟩=>by obtain ⟨Q,k0,g,rfl,rfl⟩:=zMk j;exact ⟨Q,k0,g,M⟩,fun ⟨n,k,j,M⟩=>⟨_,_,zLs j,M⟩⟩
 have hFe:zCQ φ (zJp rn Sc)=zCQ (fun n => φ (rho rn n)) Sc:=funext fun b=>propext (hF b)
 have hi':Inv X (fun n => σ (rho rn n)) (fun n => φ (rho rn n)) w Sc:=by
  refine ⟨?_,hi.xlt,fun b B=>hi.lt b ((hF b).2 B),fun n m k l F H hne=>hi.disj _ _ _ _ (zLs F) (zLs H) fun e=>hne (W (hSc _ (lE.2 ⟨_,F,rfl⟩)) (hSc _ (lE.2 ⟨_,H,rfl⟩)) e),fun n k j=>?_⟩
  ·have:=hi.nodup
   rw [zPd] at this
   exact zP6 this
  ·exact ((hi.ok _ _ (zLs j)).mono fun b B=>(hD b).1 B).ren
 rw [hFe]
 refine (h X _ _ w us (hFe▸hlay) hi' ⟨by rw [<- ha.1,zDy],fun i c u hc hu=>((ha.2 i _ u (by rw [zD6,hc];rfl) hu).mono fun b B=>⟨(hD b).1 B,rfl⟩).ren c rfl⟩).mono ?_
 rintro e w' ⟨p',S',σ',V,u,rfl,⟨rfl,rfl⟩,I,hru,hfr,hag,hnew⟩
 let σ2:Nat->Value:=fun m=>match back rn U m with
  | some n => σ' n
  | none => σ m
 let J:Nat->Nat->Prop:=fun m=>match back rn U m with
  | some n => V n
  | none => φ m
 have N : ∀n∈U,σ2 (rho rn n) = σ' n:=fun n hn=>by simp only [σ2,zOW hd hn]
 have C : ∀n∈U,J (rho rn n) = V n:=fun n hn=>by simp only [J,zOW hd hn]
 have hD2:∀b,Dof X V w' S' b↔Dof X J w' (zJp rn S') b:=fun b =>
  ⟨fun ⟨F,H,a3⟩=>⟨F,H,fun n k j=>by
   obtain ⟨Q,k0,g,rfl,rfl⟩:=zMk j;rw [C _ (z _ (lE.2 ⟨_,g,rfl⟩))];exact a3 _ _ g⟩,fun ⟨F,H,a3⟩=>⟨F,H,fun n k j=>by
   have:=a3 _ _ (zLs j);rw [C _ (z _ (lE.2 ⟨_,j,rfl⟩))] at this;exact this⟩⟩
 have hF2:∀b,zCQ J (zJp rn S') b->zCQ V S' b:=fun b ⟨n,k,j,M⟩=>by
  obtain ⟨Q,k0,g,rfl,rfl⟩:=zMk j;rw [C _ (z _ (lE.2 ⟨_,g,rfl⟩))] at M;exact ⟨_,_,g,M⟩
 refine ⟨_,_,σ2,J,u,rfl,⟨rfl,rfl⟩,?_,?_,hfr,fun n hn=>?_,fun b B hlt=>hnew b (hF2 b B) hlt⟩
 ·refine ⟨?_,I.xlt,fun b B=>I.lt b (hF2 b B),fun n m k l F H hne b M hf'=>?_,fun n k j=>?_⟩
  ·rw [zPd]
   exact zOu I.nodup fun a ha b B e=>W (z _ ha) (z _ B) e
  ·obtain ⟨Q,k0,g,rfl,rfl⟩:=zMk F
   obtain ⟨m0,l0,b2,rfl,rfl⟩:=zMk H
   rw [C _ (z _ (lE.2 ⟨_,g,rfl⟩))] at M
   rw [C _ (z _ (lE.2 ⟨_,b2,rfl⟩))] at hf'
   exact I.disj _ _ _ _ g b2 (fun e=>hne (by rw [e])) b M hf'
  ·obtain ⟨Q,k0,g,rfl,rfl⟩:=zMk j
   have hm0:=z _ (lE.2 ⟨_,g,rfl⟩)
   rw [N _ hm0,C _ hm0]
   refine ((I.ok _ _ g).mono fun b B=>(hD2 b).1 B).unren fun cells e i c hc m hmn=>N _ ?_
   subst e
   exact zKv h4 Q cells g i c hc m hmn
 ·exact (hru.mono fun b B=>⟨(hD2 b).1 B,rfl⟩).unren fun n hn=>N _ (zKw (i:=0) h5 rfl n hn)
 ·obtain ⟨Q,g,rfl⟩:=lE.1 hn
  rw [N _ (zLu h3 _ g)]
  exact hag Q g
end
end
section
variable {f:FuncId} {qs first cap:List PV} {σ σ':Nat->Value} {w:World} {Sc:zAC} {D D' fp:Nat->Prop} {o:Oper} {x:Operand} {args:Array Operand} {tys:Array TypeId} {k:Blk} {p:PV} {rest:List Oper} {N0 NR:List Nat}
section
variable {ρ : Type} {G:Ctx ρ} {m:Option ρ} {K:List (Kont ρ)} {E:Env} {S:zAC} {all:Array Oper}
def zHj:List Nat->Env->Option Env
 | [],E=>some E
 | n::l,E=>match zFh n E with
  | some g=>zHj l g
  | none=>none
theorem zOt {n:Nat} {k r:Blk}:∀{S:zAC},(S.map (·.1)).Nodup->(n,k)∈S->(n,r)∈S->k=r
 | [],_,h,_=>by cases h
 | x::S,hnd,g,hb=>by
  rw [lT,lS] at hnd
  rcases lD.1 g with j | g<;>rcases lD.1 hb with e2 | hb
  ·rw [<- j] at e2;cases e2;rfl
  ·rw [<- j] at hnd;exact absurd (lE.2 ⟨_,hb,rfl⟩) hnd.1
  ·rw [<- e2] at hnd;exact absurd (lE.2 ⟨_,g,rfl⟩) hnd.1
  ·exact zOt hnd.2 g hb
theorem zMz:∀{ks:List Nat} {E g:Env},zHj ks E=some g->∀t p,lk g t=some p->∃q,lk E t=some q
 | [],E,g,h,t,p,hl=>by simp [zHj] at h;subst h;exact ⟨p,hl⟩
 | n::ks,E,g,h,t,p,hl=>by
  simp only [zHj] at h
  split at h<;>try simp at h
  rename_i C r
  obtain ⟨q,j⟩:=zMz h t p hl
  rw [zQj r] at j
  obtain ⟨B,z,_⟩:=lI.1 j
  exact ⟨B,z⟩
theorem fp_det {w':World} {hdr:Value} {F:Nat->Prop} (J:detB k=true) (h:zCT σ w D hdr fp k) (r:zCT σ' w' D' hdr F k) (b:Nat):fp b↔F b:=by
 cases k with
 | box Q cells =>
  rcases h with h | h<;>rcases r with r | r
  ·obtain ⟨C,_,j,z,_⟩:=h
   obtain ⟨H,_,g,B,_⟩:=r
   rw [j] at g;cases g
   rw [z,B]
  ·obtain ⟨C,_,j,_⟩:=h
   have:=r.noP
   rw [j] at this;cases this
  ·obtain ⟨C,_,j,_⟩:=r
   have:=h.noP
   rw [j] at this;cases this
  ·rcases h with h | ⟨_,_,_,_,_,_,_,rfl,_⟩
   rotate_left
   ·cases J
   rcases r with r | ⟨_,_,_,_,_,_,_,rfl,_⟩
   rotate_left
   ·cases J
   obtain ⟨_,_,_,_,_,_,_,h⟩:=h
   obtain ⟨_,_,_,_,_,_,_,r⟩:=r
   rcases h with ⟨_,_,⟨_,j⟩,z⟩ | ⟨C,_,M,j,z,_,⟨_,I⟩,_⟩<;>rcases r with ⟨_,_,⟨_,g⟩,B⟩ | ⟨H,_,c2,g,B,_,⟨_,hc2⟩,_⟩
   ·exact ⟨fun h=>absurd h (z b),fun h=>absurd h (B b)⟩
   ·rw [j] at g;simp only [Value.slice.injEq] at g;omega
   ·rw [j] at g;simp only [Value.slice.injEq] at g;omega
   ·rw [j] at g
    simp only [Value.slice.injEq,lJ.injEq,Addr.mk.injEq] at g
    rw [z,B,g.1.1]
 | arr e size rows =>
  obtain ⟨_,h⟩:=h
  obtain ⟨_,r⟩:=r
  rcases h with ⟨_,⟨_,j⟩,z⟩ | ⟨C,_,M,j,z,_,⟨_,I⟩,_⟩<;>rcases r with ⟨_,⟨_,g⟩,B⟩ | ⟨H,_,c2,g,B,_,⟨_,hc2⟩,_⟩
  ·exact ⟨fun h=>absurd h (z b),fun h=>absurd h (B b)⟩
  ·rw [j] at g;simp only [Value.slice.injEq] at g;omega
  ·rw [j] at g;simp only [Value.slice.injEq] at g;omega
  ·rw [j] at g;cases g;rw [z,B]
 | tre e s kc ke rows=>cases J
 | siter s pos =>
  obtain ⟨C,j,z,_⟩:=h
  obtain ⟨H,g,B,_⟩:=r
  rw [j] at g;cases g
  rw [z,B]
 | mp N =>
  obtain ⟨C,_,_,j,z,_⟩:=h
  obtain ⟨H,_,_,g,B,_⟩:=r
  rw [j] at g;cases g
  rw [z,B]
theorem zZD (hc:FC G.L G.P f qs Sc (Sc.map (·.1)) fun r S'=>r=p/\S'=Sc) (H:zWU Sc S) (hcl0:zKU (Sc.map (·.1)) Sc=true) (hpn:noN p=true) {σ : Nat->Value} {φ : Nat->Nat->Prop} {w:World} {a:Act} {us:List Value}
  (g:Pre' G E S a w σ φ) (W:RL σ w (Dof G.X φ w S) qs us) :
  Calls G.P f ⟨us⟩ w fun e w''=>∃u,e=.returned u/\(∀E a,Pre' G E S a w σ φ -> Pre' G E S a w'' σ φ)/\R σ w'' (Dof G.X φ w'' S) p u:=by
 obtain ⟨hcl,hnt⟩:=zPJ hcl0
 let X':Nat->Prop:=fun b=>G.X b\/∃n k,(n,k)∈S/\n∉Sc.map (·.1) /\ φ n b
 have inSc:∀n k,(n,k)∈S->n∈Sc.map (·.1)->(n,k)∈Sc:=by
  intro n k z hn
  obtain ⟨⟨n',k'⟩,C,B⟩:=lE.1 hn
  simp only at B;subst B
  have V:=H.1 _ C
  have nd:=g.inv.nodup
  have:k=k':=by
   have key:∀(S:zAC),(S.map (·.1)).Nodup->(n',k)∈S->(n',k')∈S->k=k':=by
    intro S
    induction S with
    | nil=>intro _ h;cases h
    | cons x S ih =>
     intro Q ha I
     rw [lT,lS] at Q
     rcases lD.1 ha with e1 | ha<;>rcases lD.1 I with e2 | I
     ·rw [<- e1] at e2;cases e2;rfl
     ·rw [<- e1] at Q;exact absurd (lE.2 ⟨_,I,rfl⟩) Q.1
     ·rw [<- e2] at Q;exact absurd (lE.2 ⟨_,ha,rfl⟩) Q.1
     ·exact ih Q.2 ha I
   exact key S nd z V
  rw [this];exact C
 have hDD:∀w b,Dof G.X φ w S b->Dof X' φ w Sc b:=fun w b ⟨C,B,V⟩=>⟨C,fun h=>by
  rcases h with h | ⟨n,k,h,_,j⟩
  ·exact B h
  ·exact V n k h j,fun n k h=>V n k (H.1 _ h)⟩
 have hDD':∀w b,Dof X' φ w Sc b->Dof G.X φ w S b:=fun w b ⟨C,B,V⟩=>⟨C,fun h=>B (.inl h),fun n k h j=>by
  by_cases hn:n∈Sc.map (·.1)
  ·exact V n k (inSc n k h hn) j
  ·exact B (.inr ⟨n,k,h,hn,j⟩)⟩
 have hi':Inv X' σ φ w Sc:=by
  refine ⟨H.2,fun b I=>?_,fun b ⟨n,k,z,j⟩=>⟨(g.inv.lt b ⟨n,k,H.1 _ z,j⟩).1,fun h=>?_⟩,fun n m k l C B=>g.inv.disj n m k l (H.1 _ C) (H.1 _ B),fun n k z=>(g.inv.ok n k (H.1 _ z)).mono (hDD w)⟩
  ·rcases I with I | ⟨n,k,h,_,j⟩
   ·exact g.inv.xlt b I
   ·exact (g.inv.lt b ⟨n,k,h,j⟩).1
  ·rcases h with h | ⟨n',k',h,hn',hf'⟩
   ·exact (g.inv.lt b ⟨n,k,H.1 _ z,j⟩).2 h
   ·have hne:n≠n':=fun e=>hn' (by rw [<- e];exact lE.2 ⟨_,z,rfl⟩)
    exact g.inv.disj n n' k k' (H.1 _ z) h hne b j hf'
 refine (hc X' σ φ w us (g.laid fun _ j ⟨n,k,h,I⟩=>j ⟨n,k,H.1 _ h,I⟩) hi' ⟨W.1,fun i c u C B=>(W.2 i c u C B).mono fun b I=>⟨hDD w b I,rfl⟩⟩).mono ?_
 rintro e w' ⟨p',S',σ',φ',u,rfl,⟨rfl,rfl⟩,hi2,hru,F,hag,_⟩
 have hφ : ∀n k,(n,k)∈S'->∀b,φ n b ↔ φ' n b:=fun n k z b=>by
  have C:=hi'.ok n k z
  have B:=hi2.ok n k z
  rw [hag n (lE.2 ⟨_,z,rfl⟩)] at B
  exact fp_det (hnt n _ z) C B b
 have hD2:∀b,Dof X' φ' w' S' b->Dof G.X φ w' S b:=fun b ⟨C,B,V⟩=>hDD' w' b ⟨C,B,fun n k z j=>V n k z ((hφ n k z b).1 j)⟩
 have J:∀b,b<w.heap.size->¬zCQ φ S' b->w'.heap[b]? = w.heap[b]? := F.block
 have hD3:∀b,Dof G.X φ w S b->Dof G.X φ w' S b/\w'.heap[b]? = w.heap[b]? := fun b ⟨C,B,V⟩=>⟨⟨by have:=F.size;omega,B,V⟩,J b C fun ⟨n,k,z,j⟩=>V n k (H.1 _ z) j⟩
 refine ⟨u,rfl,fun E a g=>?_,?_⟩
 ·refine ⟨g.dk fun b C B=>J b C fun ⟨n,k,z,j⟩=>B ⟨n,k,H.1 _ z,j⟩,g.size,fun t q ht=>let ⟨v,hv,hrv⟩:=g.env t q ht;⟨v,hv,hrv.mono hD3⟩,?_,?_,g.agree,fun b j hlt'=>g.new b j hlt'⟩
  ·refine ⟨g.inv.nodup,fun b M=>by have:=g.inv.xlt b M;have:=F.size;omega,fun b j=>⟨by have:=(g.inv.lt b j).1;have:=F.size;omega,(g.inv.lt b j).2⟩,g.inv.disj,fun n k z=>?_⟩
   by_cases hn:n∈S'.map (·.1)
   ·have N:=inSc n k z hn
    have B:=hi2.ok n k N
    rw [hag n hn] at B
    have hfp : φ' n = φ n:=funext fun b=>propext (hφ n k N b).symm
    rw [hfp] at B
    exact zCT.next (fun b I=>⟨hD2 b I,rfl⟩) (fun _ _=>rfl) B fun _ cells e i c hc m hmn=>by
     subst e;exact (hag m (zKv hcl n cells N i c hc m hmn)).symm
   ·refine zCT.next hD3 (fun b j=>J b (g.inv.lt b ⟨n,k,z,j⟩).1 fun ⟨n',k',N,hf'⟩=>?_) (g.inv.ok n k z) fun _ _ _ _ _ _ _ _=>rfl
    have hne:n≠n':=fun e=>hn (by rw [e];exact lE.2 ⟨_,N,rfl⟩)
    exact g.inv.disj n n' k k' z (H.1 _ N) hne b j hf'
  ·refine ⟨F.os.trans g.fr.os,F.tape.trans g.fr.tape,F.output.trans g.fr.output,by have:=F.size;have:=g.fr.size;omega,fun b M hx=>?_⟩
   have:=g.fr.size
   rw [J b (by omega) fun ⟨n,k,z,j⟩=>hx (g.new b ⟨n,k,H.1 _ z,j⟩ M)]
   exact g.fr.block b M hx
 ·have hnn:=hpn
  unfold Pw.noN at hnn
  rw [gD] at hnn
  exact (hru.agree (σ' := σ) fun n hn=>by rw [hnn] at hn;cases hn).mono fun b M=>⟨hD2 b M,rfl⟩
theorem R.fn_inv {f:Fn} {u:Value} (h:R σ w D (.fn f first cap) u):∃us g:List Value,u=.func f ⟨us⟩ ⟨g⟩/\RL σ w D first us/\RL σ w D cap g:=by
 cases h with
 | fn j r z B=>exact ⟨_,_,rfl,⟨j,z⟩,⟨r,B⟩⟩
 | d C=>cases C
theorem RL.append {ps:List PV} {us z:List Value} (B:RL σ w D ps us) (C:RL σ w D qs z):RL σ w D (ps++qs) (us++z):=by
 obtain ⟨r,H⟩:=B
 obtain ⟨F,I⟩:=C
 refine ⟨by simp [r,F],fun i c u g j=>?_⟩
 rcases lY i ps.length with h | h
 ·rw [lN h] at g
  rw [lN (by omega)] at j
  exact H i c u g j
 ·rw [cC h] at g
  rw [cC (by omega)] at j
  rw [r] at g
  exact I _ c u g j
theorem zZI (M:FC G.L G.P f (first++qs++cap) Sc (Sc.map (·.1)) fun r S'=>r=p/\S'=Sc) (J:zWU Sc S) (h:zKU (Sc.map (·.1)) Sc=true) (z:noN p=true)
  (Q:o.op=.call ⟨.value x,args,tys⟩) (hx:ev E x=some (.fn (.func f) first cap)) (ha:zMG E args.toList qs) (N:zAo G.P f=true) {σ : Nat->Value} {φ : Nat->Nat->Prop} {w:World} {a:Act} (j:Pre' G E S a w σ φ):zCG G S o σ φ a w p:=by
 obtain ⟨us,C,B,H,I⟩:=(zAm j.env hx).fn_inv
 have g:(execOp a.eval o).run G.P w=.ok (.enter f ⟨us++args.toList.map a.eval++C⟩) w:=by
  have F:(⟨us⟩:Array Value)++args.map a.eval++⟨C⟩=⟨us++args.toList.map a.eval++C⟩:=cF.1 (by simp)
  simp only [execOp,Q,resolve,B,Deferred.ofValue,invoke,Sem.run_bind,Sem.run_pure,Result.andThen_ok]
  rw [zIh N]
  exact congrArg (fun x=>Result.ok (Next.enter f x) w) F
 unfold zCG
 rw [g]
 exact ⟨rfl,zZD M J h z j ((H.append (zOV j.env ha)).append I)⟩
def FnOk (L:World->Prop) (P:Program) (S:zAC) (f:FuncId) (first cap:List PV) (qs:List PV) (p:PV):Prop:=FC L P f (first++qs++cap) S (S.map (·.1)) fun r S'=>r=p/\S'=S
theorem zeD {α : Type} {d:Nat} {M:Option α} {enc : α -> PV} {g : α -> Option ρ} 
  (z:∀y,M=some y->FnOk G.L G.P Sc f first cap qs (enc y)) (r:zWU Sc S) (h:zKU (Sc.map (·.1)) Sc=true) (I:o.op=.call ⟨.value x,args,tys⟩) (hx:ev E x=some (.fn (.func f) first cap)) (H:gE all E o=some true) (ha:zMG E args.toList qs) (C:∀y,noN (enc y)=true) (F:zAo G.P f=true)
  (B:o.dst=some d) (j:lB d G.fn.ntmps=true) (k:∀y,M=some y->PO G (g y) all rest K ((d,enc y)::E) S):PO G (bnd M g) all (o::rest) K E S :=
 zGJ fun y hy=>zDu H (fun _ _ _ _=>zZI (z y hy) r h (C y) I hx ha F) B j (k y hy)
def zJi:List Nat->zAC->Option zAC
 | [],S=>some S
 | n::l,S=>match zEx n S with
  | some S'=>zJi l S'
  | none=>none
def zPP (l:List Nat):zAC->Option zAC
 | []=>some []
 | (n,b)::S=>match zPP l S with
  | some S'=>(match l.any (lA n) with
   | true=>some S'
   | false=>some ((n,b)::S'))
  | none=>none
theorem zRW {l:List Nat}:∀{S S':zAC},zPP l S=some S'->∀n k,(n,k)∈S'->(n,k)∈S/\n∉l
 | [],S',h,n,k,hm=>by simp [zPP] at h;subst h;cases hm
 | (n0,b0)::S,S',h,n,k,hm=>by
  simp only [zPP] at h
  split at h<;>try simp at h
  rename_i z r
  have g:=zRW r n k
  split at h<;>simp at h<;>subst h<;>rename_i j
  ·exact ⟨lG _ (g hm).1,(g hm).2⟩
  ·rcases lD.1 hm with e | hm
   ·cases e;exact ⟨lH ..,fun h=>by rw [zBE.2 h] at j;cases j⟩
   ·exact ⟨lG _ (g hm).1,(g hm).2⟩
theorem zOp:∀{ks:List Nat} {E g:Env},zHj ks E=some g->∀t p,lk g t=some p->p=.junk\/(lk E t=some p/\∀n∈ks,zOm n p=false)
 | [],E,g,h,t,p,hl=>by simp [zHj] at h;subst h;exact .inr ⟨hl,by simp⟩
 | n::ks,E,g,h,t,p,hl=>by
  simp only [zHj] at h
  split at h<;>try simp at h
  rename_i H B
  rcases zOp h t p hl with e | ⟨r,C⟩
  ·exact .inl e
  ·rw [zQj B] at r
   obtain ⟨q,F,j⟩:=lI.1 r
   cases z:zOm n q<;>simp [z] at j
   ·subst j;exact .inr ⟨F,gX.2 ⟨z,C⟩⟩
   ·exact .inl j.symm
theorem zX9 {n:Nat}:∀{cs g:List PV},zK3 n cs=some g->g.length=cs.length/\∀(i:Nat) (c:PV),g[i]? = some c->(c=.junk/\∀r,cs[i]? = some r->names r≠[])\/(cs[i]? = some c/\zOm n c=false)
 | [],g,h=>by simp [zK3] at h;subst h;exact ⟨rfl,fun i c j=>by simp at j⟩
 | p::cs,g,h=>by
  simp only [zK3] at h
  split at h<;>try simp at h
  rename_i l H
  obtain ⟨C,F⟩:=zX9 H
  split at h<;>simp at h<;>subst h<;>rename_i B<;>refine ⟨by simp [C],fun i c j=>?_⟩<;>cases i with
  | zero=>simp at j;subst j;first | exact .inl ⟨rfl,fun r z e=>by simp at z;subst z;simp [zOm,e] at B⟩ | exact .inr ⟨rfl,B⟩
  | succ i=>exact (F i c (by simpa using j)).imp id fun h=>by simpa using h
def ze0 (ks:List Nat) (k0 k:Blk):Prop:=(k=k0/\∀h cells,k≠.box h cells)\/∃h cells g,k0=.box h cells/\k=.box h g/\g.length=cells.length /\
 ∀(i:Nat) (c:PV),g[i]? = some c->(c=.junk/\∀j,cells[i]? = some j->names j≠[])\/(cells[i]? = some c/\∀n∈ks,zOm n c=false)
theorem zM0:∀{ks:List Nat} {S S':zAC},zJi ks S=some S'->∀m k,(m,k)∈S'->m∉ks/\∃k0,(m,k0)∈S/\ze0 ks k0 k
 | [],S,S',h,m,k,hm=>by
  simp [zJi] at h;subst h
  refine ⟨by simp,k,hm,?_⟩
  cases k with
  | box I cells=>exact .inr ⟨I,cells,cells,rfl,rfl,rfl,fun i c F=>.inr ⟨F,by simp⟩⟩
  | _=>exact .inl ⟨rfl,by simp⟩
 | n::ks,S,S',h,m,k,hm=>by
  simp only [zJi] at h
  split at h<;>try simp at h
  rename_i S1 h1
  obtain ⟨g1,k1,g2,g3⟩:=zM0 h m k hm
  obtain ⟨W,k0,e2,M⟩:=zOq h1 m k1 g2
  refine ⟨fun hh=>(lD.1 hh).elim W g1,k0,e2,?_⟩
  rcases g3 with ⟨rfl,g4⟩ | ⟨I,cells,g,rfl,rfl,g5,g6⟩
  ·rcases M with ⟨rfl,B⟩ | ⟨t1,J,V,_,C,_⟩
   ·exact .inl ⟨rfl,B⟩
   ·exact absurd C (g4 _ _)
  ·rcases M with ⟨_,B⟩ | ⟨t1,J,V,rfl,C,e6⟩
   ·exact absurd rfl (B _ _)
   ·cases C
    obtain ⟨l1,N⟩:=zX9 e6
    refine .inr ⟨I,J,g,rfl,rfl,g5.trans l1,fun i c F=>?_⟩
    rcases g6 i c F with ⟨h,h0⟩ | ⟨h,hn⟩
    ·refine .inl ⟨h,fun Q j e=>?_⟩
     have hlt:=(lF.1 j).1
     have r:=lC (show i<cells.length by omega)
     rcases N i _ r with ⟨_,z⟩ | ⟨z,_⟩
     ·exact z Q j e
     ·rw [j] at z;cases z;exact h0 _ r e
    ·rcases N i c h with h | ⟨h,H⟩
     ·exact .inl h
     ·exact .inr ⟨h,gX.2 ⟨H,hn⟩⟩
theorem zCT.went {w':World} {hdr:Value} {ks:List Nat} {k0:Blk} (B:∀b,D b->D' b/\w'.heap[b]? = w.heap[b]?) (J:∀b,fp b->w'.heap[b]? = w.heap[b]?)
  (h:zCT σ w D hdr fp k0) (Q:ze0 ks k0 k) (r : ∀n,n∉ks -> σ' n = σ n):zCT σ' w' D' hdr fp k:=by
 rcases Q with ⟨rfl,z⟩ | ⟨W,cells,g,rfl,rfl,z,F⟩
 ·exact h.next B J fun W cells e=>absurd e (z W cells)
 ·rcases h with h | Q
  rotate_left
  ·refine .inr (Q.map z (fun p hp h=>?_) (fun i c c' u H I hr=>?_) (fun p u hr=>hr.mono B) J)
   ·have hlt:=(lF.1 h).1
    have C:=lC (show 0<g.length by omega)
    rcases F 0 _ C with ⟨_,j⟩ | ⟨j,_⟩
    ·exact absurd hp.none (j _ h)
    ·rw [C,<- j];exact h
   ·rcases F i c' I with ⟨rfl,_⟩ | ⟨j,h6⟩
    ·exact .junk
    ·rw [H] at j;cases j
     exact (hr.mono B).agree fun n N=>r n fun M=>zPV (h6 n M) n N rfl
  obtain ⟨b,us,g1,V,g3,⟨⟨fr,g4,g5⟩,g6⟩⟩:=h
  refine .inl ⟨b,us,g1,V,by rw [g3,z],⟨fr,(J b ((V b).2 rfl)).trans g4,g5⟩,fun i c u C hu=>?_⟩
  rcases F i c C with ⟨rfl,_⟩ | ⟨H,I⟩
  ·exact .junk
  ·exact ((g6 i c u H hu).mono B).agree fun n N=>r n fun M=>zPV (I n M) n N rfl
theorem zZE {Sr S1 S2:zAC} (ks:List Nat) (hc:FC G.L G.P f qs Sc N0 fun r S'=>r=p/\S'=Sr) (hS:zGN Sc S) (hNR:Sr.map (·.1)=NR)
  (hdr:zPP (Sc.map (·.1)) S=some S1) (hkS:zJi ks S1=some S2) {E':Env} (hkE:zHj ks E=some E')
  (h1:zA2 (Sc.map (·.1))=true) (h2:zA2 (NR++S2.map (·.1))=true) (h3:zOG NR (N0++ks)=true) (h4:ks.all (zEY G)=true) (h5:zDE (N0++ks) Sr=true) (h6:zD5 (N0++ks) [p]=true)
  {σ : Nat->Value} {φ : Nat->Nat->Prop} {w:World} {a:Act} {us:List Value} (C:Pre' G E S a w σ φ) (hargs:RL σ w (Dof G.X φ w S) qs us) :
  Calls G.P f ⟨us⟩ w fun e w''=>∃u,e=.returned u/\∃σ2 V,Pre' G E' (Sr++S2) a w'' σ2 V/\R σ2 w'' (Dof G.X V w'' (Sr++S2)) p u:=by
 have z:=zF0 hS h1
 let X':Nat->Prop:=fun b=>G.X b\/∃n k,(n,k)∈S/\n∉Sc.map (·.1) /\ φ n b
 have inSc:∀n k,(n,k)∈S->n∈Sc.map (·.1)->(n,k)∈Sc:=by
  intro n k j H
  obtain ⟨⟨n',k'⟩,h1,h2⟩:=lE.1 H
  simp only at h2;subst h2
  have h3:=z.1 _ h1
  have:k=k':=zOt C.inv.nodup j h3
  rw [this];exact h1
 have hDD:∀w b,Dof G.X φ w S b->Dof X' φ w Sc b:=fun w b ⟨h1,h2,h3⟩=>⟨h1,fun h=>by
  rcases h with h | ⟨n,k,h,_,B⟩
  ·exact h2 h
  ·exact h3 n k h B,fun n k h=>h3 n k (z.1 _ h)⟩
 have hi':Inv X' σ φ w Sc:=by
  refine ⟨z.2,fun b hb=>?_,fun b ⟨n,k,j,B⟩=>⟨(C.inv.lt b ⟨n,k,z.1 _ j,B⟩).1,fun h=>?_⟩,fun n m k l h1 h2=>C.inv.disj n m k l (z.1 _ h1) (z.1 _ h2),fun n k j=>(C.inv.ok n k (z.1 _ j)).mono (hDD w)⟩
  ·rcases hb with hb | ⟨n,k,h,_,B⟩
   ·exact C.inv.xlt b hb
   ·exact (C.inv.lt b ⟨n,k,h,B⟩).1
  ·rcases h with h | ⟨n',k',h,hn',F⟩
   ·exact (C.inv.lt b ⟨n,k,z.1 _ j,B⟩).2 h
   ·have hne:n≠n':=fun e=>hn' (by rw [<- e];exact lE.2 ⟨_,j,rfl⟩)
    exact C.inv.disj n n' k k' (z.1 _ j) h hne b B F
 refine (hc X' σ φ w us (C.laid fun _ B ⟨n,k,h,hb⟩=>B ⟨n,k,z.1 _ h,hb⟩) hi' ⟨hargs.1,fun i c u h1 h2=>(hargs.2 i c u h1 h2).mono fun b hb=>⟨hDD w b hb,rfl⟩⟩).mono ?_
 rintro e w' ⟨p',S',σ',φ',u,rfl,⟨rfl,rfl⟩,hi2,hru,hfr,hag,hnew⟩
 refine ⟨u,rfl,?_⟩
 have hin:∀{n:Nat},n∈N0++ks↔(N0++ks).any (lA n)=true:=zBE.symm
 let σ2:Nat->Value:=fun m=>if (N0++ks).any (lA m) then σ' m else σ m
 let V:Nat->Nat->Prop:=fun m=>if (S'.map (·.1)).any (lA m) then φ' m else φ m
 have hσi:∀n∈N0++ks,σ2 n = σ' n:=fun n H=>iP (hin.1 H)
 have hσk:∀n,n∉ks -> σ2 n = σ n:=fun n H=>by
  by_cases h:n∈N0++ks
  ·rw [hσi n h]
   exact hag n ((cA.1 h).resolve_right H)
  ·exact iN fun h'=>h (hin.2 h')
 have J:∀n k,(n,k)∈S' -> V n = φ' n:=fun n k j=>iP (zBE.2 (lE.2 ⟨_,j,rfl⟩))
 have hnd:=zK7 h2
 rw [<- hNR] at hnd
 have hd12:=(List.nodup_append.1 hnd).2.2
 have M:∀n k,(n,k)∈S2 -> V n = φ n:=fun n k j=>iN fun h=>hd12 n (zBE.1 h) n (lE.2 ⟨_,j,rfl⟩) rfl
 have hS2:∀n k,(n,k)∈S2->n∉ks/\n∉Sc.map (·.1)/\∃k0,(n,k0)∈S/\ze0 ks k0 k:=fun n k j=>by
  obtain ⟨W,k0,N,I⟩:=zM0 hkS n k j
  obtain ⟨g4,g5⟩:=zRW hdr n k0 N
  exact ⟨W,g5,k0,g4,I⟩
 have hSr:∀n k,(n,k)∈S'->n∈N0++ks:=fun n k j=>zLu h3 n (by rw [<- hNR];exact lE.2 ⟨_,j,rfl⟩)
 have Q:∀b,zCQ V (S'++S2) b->zCQ φ' S' b\/∃n k0,(n,k0)∈S/\n∉Sc.map (·.1) /\ φ n b:=fun b ⟨n,k,j,B⟩=>by
  rcases cA.1 j with j | j
  ·rw [J n k j] at B;exact .inl ⟨n,k,j,B⟩
  ·rw [M n k j] at B
   obtain ⟨_,N,k0,I,_⟩:=hS2 n k j
   exact .inr ⟨n,k0,I,N,B⟩
 have hold:∀b,b<w.heap.size->¬zCQ φ Sc b->w'.heap[b]? = w.heap[b]? := hfr.block
 have hsz:=hfr.size
 have hD3:∀b,Dof G.X φ w S b->Dof G.X V w' (S'++S2) b/\w'.heap[b]? = w.heap[b]? := fun b ⟨a1,a2,a3⟩=>by
  have hnf:¬zCQ φ Sc b:=fun ⟨n,k,j,B⟩=>a3 n k (z.1 _ j) B
  refine ⟨⟨by omega,a2,fun n k j B=>?_⟩,hold b a1 hnf⟩
  rcases Q b ⟨n,k,j,B⟩ with g | ⟨n',k0,W,_,I⟩
  ·exact hnf (hnew b g a1)
  ·exact a3 n' k0 W I
 have hDr:∀b,Dof X' φ' w' S' b->Dof G.X V w' (S'++S2) b:=fun b ⟨a1,a2,a3⟩=>⟨a1,fun h=>a2 (.inl h),fun n k j B=>by
  rcases Q b ⟨n,k,j,B⟩ with ⟨n',k',W,N⟩ | ⟨n',k0,W,N,I⟩
  ·exact a3 n' k' W N
  ·exact a2 (.inr ⟨n',k0,W,N,I⟩)⟩
 refine ⟨σ2,V,⟨C.dk fun b h1 h2=>hold b h1 fun ⟨n,k,j,B⟩=>h2 ⟨n,k,z.1 _ j,B⟩,C.size,fun t q ht=>?_,?_,?_,fun n H=>?_,fun b B hlt=>?_⟩,?_⟩
 ·rcases zOp hkE t q ht with rfl | ⟨W,N⟩
  ·obtain ⟨v,hv⟩:∃v,a.tmps[t]? = some v:=by
    have:=zMz hkE t _ ht
    obtain ⟨q0,hq0⟩:=this
    obtain ⟨v,hv,_⟩:=C.env t q0 hq0
    exact ⟨v,hv⟩
   exact ⟨v,hv,.junk⟩
  ·obtain ⟨v,hv,hrv⟩:=C.env t q W
   exact ⟨v,hv,(hrv.mono hD3).agree fun n H=>hσk n fun hk=>zPV (N n hk) n H rfl⟩
 ·refine ⟨by rw [gG];exact hnd,fun b hb=>by have:=C.inv.xlt b hb;omega,fun b B=>?_,fun n m k l H j hne b B F=>?_,fun n k j=>?_⟩
  ·rcases Q b B with g | ⟨n,k0,W,N,I⟩
   ·obtain ⟨W,N⟩:=hi2.lt b g;exact ⟨W,fun h=>N (.inl h)⟩
   ·obtain ⟨g4,g5⟩:=C.inv.lt b ⟨n,k0,W,I⟩;exact ⟨by omega,g5⟩
  ·rcases cA.1 H with H | H<;>rcases cA.1 j with j | j
   ·rw [J _ _ H] at B;rw [J _ _ j] at F;exact hi2.disj n m k l H j hne b B F
   ·rw [J _ _ H] at B;rw [M _ _ j] at F
    obtain ⟨_,N,k0,I,_⟩:=hS2 m l j
    exact (hi2.lt b ⟨n,k,H,B⟩).2 (.inr ⟨m,k0,I,N,F⟩)
   ·rw [M _ _ H] at B;rw [J _ _ j] at F
    obtain ⟨_,N,k0,I,_⟩:=hS2 n k H
    exact (hi2.lt b ⟨m,l,j,F⟩).2 (.inr ⟨n,k0,I,N,B⟩)
   ·rw [M _ _ H] at B;rw [M _ _ j] at F
    obtain ⟨_,_,k0,I,_⟩:=hS2 n k H
    obtain ⟨_,_,l0,g4,_⟩:=hS2 m l j
    exact C.inv.disj n m k0 l0 I g4 hne b B F
  ·rcases cA.1 j with j | j
   ·rw [J n k j,hσi n (hSr n k j)]
    refine zCT.next (fun b hb=>⟨hDr b hb,rfl⟩) (fun _ _=>rfl) (hi2.ok n k j) fun _ cells e i c hc' m hmn=>hσi m ?_
    subst e
    exact zKv h5 n cells j i c hc' m hmn
   ·obtain ⟨W,N,k0,I,g4⟩:=hS2 n k j
    rw [M n k j,hσk n W]
    refine zCT.went hD3 (fun b B=>hold b (C.inv.lt b ⟨n,k0,I,B⟩).1 fun ⟨n',k',hm',F⟩=>?_) (C.inv.ok n k0 I) g4 hσk
    have hne:n≠n':=fun e=>N (by rw [e];exact lE.2 ⟨_,hm',rfl⟩)
    exact C.inv.disj n n' k0 k' I (z.1 _ hm') hne b B F
 ·refine ⟨hfr.os.trans C.fr.os,hfr.tape.trans C.fr.tape,hfr.output.trans C.fr.output,by have:=C.fr.size;omega,fun b hb' hx=>?_⟩
  have:=C.fr.size
  rw [hold b (by omega) fun ⟨n,k,j,B⟩=>hx (C.new b ⟨n,k,z.1 _ j,B⟩ hb')]
  exact C.fr.block b hb' hx
 ·rw [<- C.agree n H]
  refine hσk n fun hk=>?_
  have:=lR.1 h4 n hk
  unfold zEY at this
  rw [zBE.2 H] at this
  cases this
 ·have hsz0:=C.fr.size
  rcases Q b B with g | ⟨n,k0,W,N,I⟩
  ·obtain ⟨n,k,j,B⟩:=hnew b g (by omega)
   exact C.new b ⟨n,k,z.1 _ j,B⟩ hlt
  ·exact C.new b ⟨n,k0,W,I⟩ hlt
 ·exact (hru.mono fun b hb=>⟨hDr b hb,rfl⟩).agree fun n H=>hσi n (zKw (i:=0) h6 rfl n H)
def putE (g:Option Nat) (p:PV) (E:Env):Env:=match g with
 | some d=>(d,p)::E
 | none=>E
def dstB (g:Option Nat) (n:Nat):Bool:=match g with
 | some d=>lB d n
 | none=>true
theorem zVw {φ : Nat->Nat->Prop} {a:Act} (j:Pre' G E S a w σ φ) (F:o.op=.call ⟨.value x,args,tys⟩) (hx:ev E x=some (.fn (.func f) first cap)) {qs:List PV} (ha:zMG E args.toList qs) (C:zAo G.P f=true) :
  ∃us,(execOp a.eval o).run G.P w=.ok (.enter f ⟨us⟩) w/\RL σ w (Dof G.X φ w S) (first++qs++cap) us:=by
 obtain ⟨us,h,g,z,B⟩:=(zAm j.env hx).fn_inv
 refine ⟨us++args.toList.map a.eval++h,?_,(z.append (zOV j.env ha)).append B⟩
 have r:(⟨us⟩:Array Value)++args.map a.eval++⟨h⟩=⟨us++args.toList.map a.eval++h⟩:=cF.1 (by simp)
 simp only [execOp,F,resolve,g,Deferred.ofValue,invoke,Sem.run_bind,Sem.run_pure,Result.andThen_ok]
 rw [zIh C]
 exact congrArg (fun x=>Result.ok (Next.enter f x) w) r
theorem zUW {α : Type} {M:Option α} {enc : α -> PV} {Sr : α -> zAC} {g : α -> Option ρ} {S1 S2:zAC} (ks:List Nat) {V:Env} {F:Option Nat}
  (hc:∀y,M=some y->FC G.L G.P f (first++qs++cap) Sc N0 fun r S'=>r=enc y/\S'=Sr y) (hS:zGN Sc S) (H:∀y,(Sr y).map (·.1)=NR) (hdr:zPP (Sc.map (·.1)) S=some S1) (J:zJi ks S1=some S2) (I:zHj ks E=some V)
  (h1:zA2 (Sc.map (·.1))=true) (h2:zA2 (NR++S2.map (·.1))=true) (h3:zOG NR (N0++ks)=true) (h4:ks.all (zEY G)=true) (h5:∀y,zDE (N0++ks) (Sr y)=true) (h6:∀y,zD5 (N0++ks) [enc y]=true)
  (ho:o.op=.call ⟨.value x,args,tys⟩) (hx:ev E x=some (.fn (.func f) first cap)) (hg:gE all E o=some true) (ha:zMG E args.toList qs) (hf:zAo G.P f=true) (hd:o.dst=F) (N:dstB F G.fn.ntmps=true)
  (k:∀y,M=some y->PO G (g y) all rest K (putE F (enc y) V) (Sr y++S2)):PO G (bnd M g) all (o::rest) K E S:=by
 refine zGJ fun y hy=>zGT hg fun r hr a w ⟨σ,φ,W⟩=>?_
 obtain ⟨us,z,h⟩:=zVw W ho hx ha hf
 unfold Oper.wp
 rw [z,Oper.upon_enter]
 refine (zZE ks (hc y hy) hS (H y) hdr J I h1 h2 h3 h4 (h5 y) (h6 y) W h).mono ?_
 rintro e w'' ⟨u,rfl,B,C,j,Q⟩
 rw [hd]
 cases F with
 | none=>exact k y hy r hr _ _ ⟨B,C,j⟩
 | some d=>exact k y hy r hr _ _ ⟨B,C,j.put (zCS N) Q⟩
end
end
section
variable {o:Oper} {α:Type} {rest:List Oper} {w:World} {D:Nat->Prop} {rows:List (List PV)}
section
variable {ρ : Type} {G:Ctx ρ} {m:Option ρ} {K:List (Kont ρ)} {E:Env} {S:zAC} {all:Array Oper}
def zGF {α : Type} (s:List α) (lo hi:Int):Option (List α):=if 0<=lo/\lo<=hi/\hi<=(s.length:Int) then some ((s.drop lo.toNat).take (hi.toNat - lo.toNat)) else none
theorem zYR {s r:List α} {lo hi:Int} (h:zGF s lo hi=some r):0<=lo/\lo<=hi/\hi<=(s.length:Int)/\r=(s.drop lo.toNat).take (hi.toNat - lo.toNat):=by
 unfold zGF at h
 split at h<;>cases h
 rename_i h
 exact ⟨h.1,h.2.1,h.2.2,rfl⟩
def zcy (E:Env) (g:Int):Option Operand->Option Int
 | none=>some g
 | some x=>match ev E x with
  | some (.v (.int _ i))=>some i
  | _=>none
theorem zJK {P:Program} {b:Bool} {len cap:Nat} {lo hi:Option Value} {l h:Int} (z:0<=l) (H:l<=h) (B:h<=(cap:Int))
  (r:(lo=none/\l=0)\/∃k,lo=some (.int k l)) (j:(hi=none/\h=(len:Int))\/∃k,hi=some (.int k h)):(Instr.sliceBounds b len cap lo hi none).run P w=.ok (l.toNat,h.toNat,cap) w:=by
 have g:∀(k:IntKind) (x:Int) (n:Nat) (c:BoundsCode),0<=x->x<=(n:Int)->(Instr.sliceBound (.int k x) n c).run P w=.ok x.toNat w:=by
  intro k x n c C F
  simp [Instr.sliceBound,asIntOf,C,F]
 have I:((h.toNat:Nat):Int)=h:=Int.toNat_of_nonneg (by omega)
 unfold Instr.sliceBounds
 rcases r with ⟨rfl,rfl⟩ | ⟨k,rfl⟩<;>rcases j with ⟨rfl,rfl⟩ | ⟨k',rfl⟩
 ·simp
 ·simp [g _ _ _ _ (show 0<=h by omega) B]
 ·simp [g _ _ _ _ z (show l<=((len:Nat):Int) by omega)]
 ·simp [g _ _ _ _ (show 0<=h by omega) B,g _ _ _ _ z (show l<=((h.toNat:Nat):Int) by omega)]
theorem zPI {σ : Nat->Value} {a:Act} (r:zQV σ w D E a.tmps) {x:Option Operand} {n i:Int} (h:zcy E n x=some i):(x.map a.eval=none/\i=n)\/∃k,x.map a.eval=some (.int k i):=by
 cases x with
 | none=>simp [zcy] at h;exact .inl ⟨rfl,h.symm⟩
 | some y =>
  simp only [zcy] at h
  split at h<;>try simp at h
  rename_i k j z
  subst h
  obtain ⟨g,_⟩:=(zAm r z).flat_inv
  exact .inr ⟨k,by simp [g]⟩
theorem zeO {size:Nat} {full:Bool} {v:Value} (Q:RD w D (.sl size full rows) v) {l h:Nat} (N:l<=h) (C:h<=rows.length) :
  ∃a cap,v=.slice a rows.length cap/\rows.length<=cap/\RD w D (.sl size false ((rows.drop l).take (h - l))) (.slice (if cap=l then a else Option.map (fun x=>x.add (l*size)) a) (h - l) (cap - l)):=by
 cases Q with
 | nil B F =>
  rename_i a cap
  have:l=0:=by simpa using Nat.le_trans N C
  subst this
  have:h=0:=by simpa using C
  subst this
  exact ⟨a,cap,rfl,cG _,by simpa using RD.nil (by omega) (by simp)⟩
 | sl f B F V H I J M =>
  rename_i a cap
  refine ⟨some a,cap,rfl,B,?_⟩
  have r:((rows.drop l).take (h - l)).length=h - l:=by rw [cR,List.length_drop];omega
  by_cases e:h=l
  ·subst e
   have:(rows.drop h).take (h - h)=[]:=by simp
   rw [this,cQ]
   exact .nil (by omega) (by simp)
  ·rw [iN (by omega)]
   simp only [lW]
   have at_:∀(i:Nat) (g:List PV),((rows.drop l).take (h - l))[i]? = some g->rows[l+i]? = some g:=fun i g hi=>by
    rw [lV] at hi
    split at hi
    ·rw [cD] at hi;exact hi
    ·simp at hi
   have:=RD.sl (w:=w) (D:=D) (size:=size) (full:=false) (rows:=(rows.drop l).take (h - l)) (a:=a.add (l*size)) (cap:=cap - l) (fun j=>f (l*size+j)) (by rw [r];omega) (by omega) (by simp) (by rw [zMZ];exact H)
    (fun g hr=>I g (List.mem_of_mem_drop (gY hr))) (fun i g k c hi z=>by
     have:=J (l+i) g k c (at_ i g hi) z
     rw [show (l+i)*size+k=l*size+(i*size+k) by rw [cI];omega] at this
     rw [zPF];exact this) (fun i g k c hi z=>by
     have:=M (l+i) g k c (at_ i g hi) z
     rw [show (l+i)*size+k=l*size+(i*size+k) by rw [cI];omega] at this
     exact this)
   rw [r] at this
   exact this
theorem zbW {g:Type} (enc : α -> g) (xs:List α) (l k:Nat):((xs.map enc).drop l).take k=((xs.drop l).take k).map enc:=by simp
theorem zdS {T:Tab G.P} (enc : α -> List PV) (xs ys:List α) {t:TypeId} {x:Operand} {lo hi:Option Operand} {size:Nat} {full:Bool} {z e:Nat} {l h:Int} (W:o.op=.slice t x lo hi none) (hx:ev E x=some (.sl size full (xs.map enc)))
  (ht:lku T.els t=some (e,size,z)) (V:zcy E 0 lo=some l) (Q:zcy E ((xs.length:Nat):Int) hi=some h) (hr:zGF xs l h=some ys) {σ : Nat->Value} {φ : Nat->Nat->Prop} {w:World} {a:Act} (B:Pre' G E S a w σ φ):zCG G S o σ φ a w (.sl size false (ys.map enc)):=by
 have F:=zAm B.env hx
 have j:RD w (Dof G.X φ w S) (.sl size full (xs.map enc)) (a.eval x):=by cases F with | d j=>exact j
 obtain ⟨p1,p2,p3,rfl⟩:=zYR hr
 obtain ⟨H,cap,I,M,J⟩:=zeO j (l:=l.toNat) (h:=h.toNat) (by omega) (by simp;omega)
 simp only [lL] at I M
 have N:=zJK (P:=G.P) (b:=true) (len:=xs.length) (cap:=cap) (w:=w) p1 p2 (by omega) (zPI B.env V) (zPI B.env Q)
 obtain ⟨r,inf,g,C,_⟩:=zBF (T.hels _ (zAc ht))
 unfold zCG
 have:(execOp a.eval o).run G.P w=.ok (.value (.slice (if cap=l.toNat then H else Option.map (fun x=>x.add (l.toNat*size)) H) (h.toNat - l.toNat) (cap - l.toNat))) w:=by
  simp [execOp,W,I,Instr.sliceAt,Instr.slice,run_underlying r,N,sizeOf,typeInfo,g,C]
 rw [this]
 rw [zbW] at J
 exact ⟨rfl,.d J⟩
theorem zfM {T:Tab G.P} (enc : α -> List PV) (xs:List α) {t:TypeId} {x:Operand} {lo hi:Option Operand} {size:Nat} {full:Bool} {z e:Nat} {l h:Int} {f:List α -> Option ρ} {d:Nat} (H:o.op=.slice t x lo hi none) (B:gE all E o=some true) (hx:ev E x=some (.sl size full (xs.map enc)))
  (J:lku T.els t=some (e,size,z)) (F:zcy E 0 lo=some l) (C:zcy E ((xs.length:Nat):Int) hi=some h) (r:o.dst=some d) (j:lB d G.fn.ntmps=true) (k:∀g,zGF xs l h=some g->PO G (f g) all rest K ((d,.sl size false (g.map enc))::E) S):PO G (bnd (zGF xs l h) f) all (o::rest) K E S :=
 zGJ fun g hy=>zDu B (fun _ _ _ _ I=>zdS (T:=T) enc xs g H hx J F C hy I) r j (k g hy)
theorem zJI {T:Tab G.P} (enc : α -> List PV) (xs:List α) {t:TypeId} {x:Operand} {hi:Option Operand} {n e N size z:Nat} {h:Int} {f:List α -> Option ρ} {d:Nat} {E':Env} {S':zAC} (ho:o.op=.slice t x none hi none) (hg:gE all E o=some true)
  (hx:ev E x=some (.own n)) (V:lkS S n=some (.arr N size (xs.map enc))) (ht:lku T.els t=some (e,size,z)) (hh:zcy E ((xs.length:Nat):Int) hi=some h) (hd:o.dst=some d) (I:lB d G.fn.ntmps=true) (hn:zEY G n=true) (hE:zFh n E=some E') (hS:zEx n S=some S')
  (k:∀g,zGF xs 0 h=some g->PO G (f g) all rest K ((d,.own n)::E') ((n,.arr N size (g.map enc))::S')):PO G (bnd (zGF xs 0 h) f) all (o::rest) K E S:=by
 refine zGJ fun g hy=>zGT hg fun r hr a w ⟨σ,φ,M⟩=>?_
 obtain ⟨p1,p2,p3,he⟩:=zYR hy
 have j:=zAl V
 obtain ⟨g0,gb⟩:=M.inv.ok n _ j
 have hxv:a.eval x = σ n:=by
  have:=zAm M.env hx
  generalize a.eval x=v at this
  cases this with
  | own=>rfl
  | d hd=>cases hd
 obtain ⟨hel,inf,F,hsz,_⟩:=zBF (T.hels _ (zAc ht))
 have he':g=xs.take h.toNat:=by simpa using he
 have hyl:g.length=h.toNat:=by rw [he',cR];omega
 have B:g.map enc=(xs.map enc).take h.toNat:=by rw [he',List.map_take]
 have C:∀J∈g.map enc,J.length=size:=fun J hr=>g0 J (by rw [B] at hr;exact gY hr)
 have fin:∀(v:Value),(execOp a.eval o).run G.P w=.ok (.value v) w->zKK v=true->(∀D',(∀b,Dof G.X φ w S b->D' b)->zCT (upd σ n v) w D' v (φ n) (.arr N size (g.map enc)))->o.wp G.P a w (wpList G.P all (kwp G r K) rest) (kwp G r K):=by
  intro v hrun hone W
  unfold Oper.wp
  rw [hrun,Oper.upon_value,hd]
  have hlay:=M.lay (hdr:=v) (w':=w) (fp := φ n) (k:=.arr N size (g.map enc)) hn hE hS (cB _) (fun b hf=>⟨(M.inv.lt b ⟨n,_,j,hf⟩).1,.inr ⟨⟨_,j⟩,hf⟩⟩) (fun _ _ _=>rfl) rfl rfl rfl fun D' hD=>W D' fun b V=>(hD b V).1
  refine k g hy r hr _ _ ⟨_,_,hlay.put (zCS I) ?_⟩
  have:R (upd σ n v) w (Dof G.X (upd φ n (φ n)) w ((n,.arr N size (g.map enc))::S')) (.own n) (upd σ n v n):=.own (by rw [zAw];exact hone)
  rw [zAw] at this
  exact this
 rcases gb with ⟨h3,⟨ao,h4⟩,h5⟩ | ⟨b,us,cap,h3,h3',h4,h5,h6,⟨fr,h7,h7',Q⟩,h8⟩
 ·have hx0:xs=[]:=by simpa using h3
  subst hx0
  have hh0:h=0:=by simp at p3;omega
  subst hh0
  have H:=zJK (P:=G.P) (b:=true) (len:=0) (cap:=0) (w:=w) (lo:=none) (l:=0) (h:=0) (by omega) (by omega) (by omega) (.inl ⟨rfl,rfl⟩) (zPI M.env hh)
  refine fin (.slice ao 0 0) ?_ rfl fun D' hD=>⟨C,.inl ⟨by rw [B];rfl,⟨ao,rfl⟩,h5⟩⟩
  simp [execOp,ho,hxv,h4,Instr.sliceAt,Instr.slice,run_underlying hel,H,sizeOf,typeInfo,F,hsz]
 ·rw [lL] at h3 h5
  have H:=zJK (P:=G.P) (b:=true) (len:=xs.length) (cap:=cap) (w:=w) (lo:=none) (l:=0) (h:=h) (by omega) p2 (by omega) (.inl ⟨rfl,rfl⟩) (zPI M.env hh)
  refine fin (.slice (some ⟨b,0,none⟩) h.toNat cap) ?_ rfl fun D' hD=>⟨C,.inr ⟨b,us,cap,by rw [lL,hyl],h3',h4,⟨by rw [lL,hyl];omega,h5.2⟩,h6,⟨fr,h7,h7',Q⟩,fun i c u hc hu=>?_⟩⟩
  ·have h0:¬cap=0:=by omega
   simp [execOp,ho,hxv,h3,Instr.sliceAt,Instr.slice,run_underlying hel,H,sizeOf,typeInfo,F,hsz,zCZ]
  ·refine (h8 i c u ?_ hu).mono fun b V=>⟨hD b V,rfl⟩
   have I:=(lF.1 hc).1
   have hfl:((xs.map enc).take h.toNat).flatten++((xs.map enc).drop h.toNat).flatten=(xs.map enc).flatten:=by rw [<- List.flatten_append,List.take_append_drop]
   rw [<- hfl,lN (by rw [<- B];exact I),<- B]
   exact hc
def zD3 (s:List UInt8):List Int:=s.map fun b=>(b.toNat:Int)
def zV6 (l:List Int):List UInt8:=l.map fun n=>UInt8.ofNat n.toNat
theorem zeB {T:Tab G.P} (enc:Int->List PV) (n:Nat) {B dst e:TypeId} {x:Operand} {s:List UInt8} {z:Nat×Nat} {d:Nat} {f:Unit->Option ρ} {E':Env} {S':zAC} (j:∀i,enc i=[.v (.int .u8 i)]) (ho:o.op=.convert B dst x) (hg:gE all E o=some true) (hx:ev E x=some (.v (.string ⟨⟨s⟩⟩)))
  (hs:lku T.bases B=some .string) (ht:lku T.els dst=some (e,z)) (F:lku T.bases e=some (.int .u8)) (W:lB e zLI=true) (hd:o.dst=some d) (hlt:lB d G.fn.ntmps=true) (hn:zEY G n=true) (hE:zFh n E=some E') (hS:zEx n S=some S')
  (k:PO G (f ()) all rest K ((d,.own n)::E') ((n,.arr (zLI+e) 1 ((zD3 s).map enc))::S')):PO G (bnd (zDI 1 s.length) f) all (o::rest) K E S:=by
 refine zGJ fun u C=>zGT hg fun r hr a w ⟨σ,φ,hp⟩=>?_
 have hroom:=zUa C
 obtain ⟨h1,_⟩:=(zAm hp.env hx).flat_inv
 obtain ⟨hel,_⟩:=zBF (T.hels _ (zAc ht))
 have g:=run_bytes_of_string (P:=G.P) w B dst e ⟨⟨s⟩⟩ (zH0 (T.hbases _ (zAc hs))) hel (zOX (T.hbases _ (zAc F)))
 have J:(⟨⟨s⟩⟩:ByteArray).size=s.length:=rfl
 rw [J] at g
 have hge:s.length<=grownCap w s.length 0 e:=grownCap_ge w s.length 0 e
 have hcm:grownCap w s.length 0 e<=maxLen:=grownCap_le_maxLen w s.length 0 e (by simp only [maxLen];omega)
 generalize grownCap w s.length 0 e=cap at *
 obtain ⟨us,N⟩:∃us:List Value,bytesRow ⟨⟨s⟩⟩ cap=⟨us⟩:=⟨(bytesRow ⟨⟨s⟩⟩ cap).toList,rfl⟩
 have Q:us=(zD3 s).map (Value.int .u8)++List.replicate (cap - s.length) (.int .u8 0):=by
  have:us=(bytesRow ⟨⟨s⟩⟩ cap).toList:=by rw [N]
  rw [this]
  simp [bytesRow,zD3,J]
 have hul:us.length=cap:=by rw [Q];simp [zD3];omega
 rw [N] at g
 have M:(⟨us⟩:Array Value).size=us.length:=rfl
 rw [M] at g
 have hfl:((zD3 s).map enc).flatten=(zD3 s).map fun i=>PV.v (.int .u8 i):=by
  rw [show enc=fun i=>[PV.v (.int .u8 i)] from funext j]
  induction zD3 s with
  | nil=>rfl
  | cons i l ih=>simp [ih]
 unfold Oper.wp
 rw [show (execOp a.eval o).run G.P w=.ok (.value (.slice (some ⟨w.heap.size,0,none⟩) s.length cap)) (w.drew.alloc (.cells ⟨us⟩ e (us.length,us.length+1))) by
  simp only [execOp,ho,h1,Sem.run_bind,g,Result.andThen_ok];rfl,Oper.upon_value,hd]
 have H:=hp.lay (hdr:=.slice (some ⟨w.heap.size,0,none⟩) s.length cap) (w':=w.drew.alloc (.cells ⟨us⟩ e (us.length,us.length+1))) (fp:=fun b=>b=w.heap.size/\0<cap) (k:=.arr (zLI+e) 1 ((zD3 s).map enc)) hn hE hS (by simp) (fun b F=>⟨by simp [F.1],.inl (by omega)⟩) (fun b F _=>zGD w.drew _ F) rfl rfl rfl fun D' hD=>by
  refine ⟨fun row I=>?_,?_⟩
  ·obtain ⟨i,_,rfl⟩:=lE.1 I;rw [j];rfl
  ·rcases cT cap with V | V
   ·have hs0:s=[]:=lZ (by omega)
    subst hs0
    exact .inl ⟨rfl,⟨_,by rw [V];rfl⟩,fun x hx=>by omega⟩
   ·refine .inr ⟨w.heap.size,us,cap,by simp [zD3],fun x=>⟨fun h=>h.1,fun h=>⟨h,V⟩⟩,by rw [hul,Nat.mul_one],⟨by simpa [zD3] using hge,V⟩,hcm,⟨(us.length,us.length+1),?_,fun _=>cB _,fun h=>?_⟩,fun i c u hc C=>?_⟩
    ·have:(zLI+e) % zLI=e:=by rw [Nat.add_mod_left];exact zIu W
     rw [this];exact zDP w.drew _
    ·exfalso
     have:zLI+e<zLI:=by simpa [cO] using h
     omega
    ·rw [hfl,lK] at hc
     rw [Q,lN (by simpa using (lI.1 hc).elim fun x hx=>(lF.1 hx.1).1),lK] at C
     obtain ⟨x,hx,rfl⟩:=lI.1 hc
     rw [hx] at C
     simp at C
     subst C
     exact .v rfl
 refine k r hr _ _ ⟨_,_,H.put (zCS hlt) ?_⟩
 have:R (upd σ n (.slice (some ⟨w.heap.size,0,none⟩) s.length cap)) (w.drew.alloc (.cells ⟨us⟩ e (us.length,us.length+1))) (Dof G.X (upd φ n fun b=>b=w.heap.size/\0<cap) (w.drew.alloc (.cells ⟨us⟩ e (us.length,us.length+1))) ((n,.arr (zLI+e) 1 ((zD3 s).map enc))::S')) (.own n) (upd σ n (.slice (some ⟨w.heap.size,0,none⟩) s.length cap) n):=.own (by rw [zAw];rfl)
 rw [zAw] at this
 exact this
theorem zTN:∀(l:List Int) (r:ByteArray),l.foldl (fun r n=>r.push (UInt8.ofNat n.toNat)) r=⟨r.data++(zV6 l).toArray⟩
 | [],r=>by simp [zV6]
 | n::l,r=>by
  simp only [List.foldl_cons]
  rw [zTN l]
  simp [ByteArray.push,zV6]
theorem zdT {T:Tab G.P} (enc:Int->List PV) (xs:List Int) {B dst e:TypeId} {x:Operand} {p:PV} {z:Nat} (F:∀i,enc i=[.v (.int .u8 i)]) (ho:o.op=.convert B dst x) (hx:ev E x=some p) (j:zg9 S p=some (1,xs.map enc))
  (hs:lku T.bases dst=some .string) (ht:lku T.els B=some (e,1,z)) (hb:lku T.bases e=some (.int .u8)) {σ : Nat->Value} {φ : Nat->Nat->Prop} {w:World} {a:Act} (hp:Pre' G E S a w σ φ):zCG G S o σ φ a w (.v (.string ⟨⟨zV6 xs⟩⟩)):=by
 obtain ⟨g1,g2⟩:=zcK hp.inv j (zAm hp.env hx)
 obtain ⟨M,_⟩:=zBF (T.hels _ (zAc ht))
 have N:(xs.map enc).flatten=xs.map fun i=>PV.v (.int .u8 i):=by
  rw [show enc=fun i=>[PV.v (.int .u8 i)] from funext F]
  clear j g1 g2
  induction xs with
  | nil=>rfl
  | cons i l ih=>simp [ih]
 unfold zCG
 have H:∀r:ByteArray,(Conv.bytesToString (a.eval x)).run G.P w=.ok (.string r) w->(∃I l c,a.eval x=.slice I l c)->(execOp a.eval o).run G.P w=.ok (.value (.string r)) w:=by
  rintro r hr ⟨I,l,c,hv⟩
  rw [hv] at hr
  simp only [execOp,ho,hv,Sem.run_bind,run_convert_bytes_string w B dst e I l c M (zOX (T.hbases _ (zAc hb))) (zH0 (T.hbases _ (zAc hs))),hr,Result.andThen_ok]
  rfl
 rcases g2 with ⟨h1,c,C⟩ | ⟨W,c,g,C,J,h4,h5⟩
 ·have V:xs=[]:=by simpa using h1
  subst V
  rw [H ByteArray.empty (by rw [C];rfl) ⟨_,_,_,C⟩]
  exact ⟨rfl,.d (.v rfl)⟩
 ·rw [lL] at C J
  have hn:g=xs.map (Value.int .u8):=by
   apply List.ext_getElem?
   intro i
   rcases lY i xs.length with h | h
   ·have hi:i<g.length:=by rw [J];omega
    have:=h5 i _ g[i] (by rw [N,lK,lC h];rfl) (lC hi)
    rw [lC hi,lK,lC h]
    rw [(R.d (σ := σ) this).flat_inv.1];rfl
   ·rw [cX (by rw [J];omega),cX (by simpa using h)]
  have Q:=run_loadCells_list (P:=G.P) w W g h4
  rw [H _ (by rw [C];exact run_bytesToString w W xs.length c xs (by rw [<- hn,show xs.length=g.length by rw [hn];simp];exact Q)) ⟨_,_,_,C⟩,zTN]
  exact ⟨rfl,by simpa using R.d (.v rfl)⟩
theorem po_str {T:Tab G.P} (enc:Int->List PV) (xs:List Int) {j dst e:TypeId} {x:Operand} {p:PV} {z d:Nat} (g:∀i,enc i=[.v (.int .u8 i)]) (H:o.op=.convert j dst x) (F:gE all E o=some true) (hx:ev E x=some p) (h:zg9 S p=some (1,xs.map enc))
  (J:lku T.bases dst=some .string) (M:lku T.els j=some (e,1,z)) (B:lku T.bases e=some (.int .u8)) (C:o.dst=some d) (r:lB d G.fn.ntmps=true) (k:PO G m all rest K ((d,.v (.string ⟨⟨zV6 xs⟩⟩))::E) S):PO G m all (o::rest) K E S :=
 zDu F (fun _ _ _ _ I=>zdT (T:=T) enc xs g H hx h J M B I) C r k
theorem zII {T:Tab G.P} {t yt:TypeId} {x:Operand} {size e z d:Nat} {full:Bool} (ho:o.op=.binOp .eql t x (.const (.slice none 0 0)) yt) (V:gE all E o=some true) (hx:ev E x=some (.sl size full rows)) (ht:lku T.els t=some (e,size,z))
  (F:o.dst=some d) (I:lB d G.fn.ntmps=true) (k:∀b:Bool,(b=true->rows=[])->PO G m all rest K ((d,.v (.bool b))::E) S):PO G m all (o::rest) K E S:=by
 refine zGT V fun r hr a w ⟨σ,φ,M⟩=>?_
 have J:=zAm M.env hx
 have B:RD w (Dof G.X φ w S) (.sl size full rows) (a.eval x):=by cases J with | d F=>exact F
 obtain ⟨H,_⟩:=zBF (T.hels _ (zAc ht))
 have j:∀g n c,a.eval x=.slice g n c->(g=none->rows=[])->o.wp G.P a w (wpList G.P all (kwp G r K) rest) (kwp G r K):=by
  intro g n c hv W
  unfold Oper.wp
  have C:(execOp a.eval o).run G.P w=.ok (.value (.bool g.isNone)) w:=by
   have Q:(Op.equal t (.slice g n c) (.slice none 0 0)).run G.P w=.ok g.isNone w:=by
    show (Op.equalIn (9999+1) t _ _).run G.P w=_
    unfold Op.equalIn
    cases g<;>simp [run_underlying H]
   have N:a.eval (.const (.slice none 0 0))=.slice none 0 0:=rfl
   simp [execOp,ho,hv,N,eqGuard,binOp,Q]
  rw [C,Oper.upon_value,F]
  refine k g.isNone (fun h=>W (by simpa using h)) r hr _ _ ⟨σ,φ,M.put (zCS I) (.d (.v rfl))⟩
 generalize a.eval x=v at B j
 cases B with
 | nil h1 h2=>exact j _ _ _ rfl fun _=>rfl
 | sl f=>exact j _ _ _ rfl fun h=>by cases h
theorem zKb {m':Option ρ} {ops:List Oper} (h:m=m') (k:PO G m' all ops K E S):PO G m all ops K E S:=by rw [h];exact k
end
end
section
variable {s:ByteArray}
def zNy (s:List UInt8) (p:Nat):Int:=((Utf8.decode ⟨⟨s⟩⟩ p).1:Nat)
def zMb (s:List UInt8) (p:Nat):Nat:=(Utf8.decode ⟨⟨s⟩⟩ p).2
section
variable {ρ : Type} {G:Ctx ρ} {m:Option ρ} {K:List (Kont ρ)} {E:Env} {S:zAC} {all:Array Oper}
theorem zYU {T:Tab G.P} {o:Oper} {rest:List Oper} (n:Nat) {t:TypeId} {x:Operand} {s:List UInt8} {d:Nat} {j:Env} {S':zAC} (M:o.op=.range t x) (I:gE all E o=some true) (hx:ev E x=some (.v (.string ⟨⟨s⟩⟩))) (N:lku T.bases t=some .string)
  (H:o.dst=some d) (h:lB d G.fn.ntmps=true) (J:zEY G n=true) (C:zFh n E=some j) (F:zEx n S=some S') (k:PO G m all rest K ((d,.loc n 0)::j) ((n,.siter ⟨⟨s⟩⟩ 0)::S')):PO G m all (o::rest) K E S:=by
 refine zGT I fun r hr a w ⟨σ,φ,z⟩=>?_
 obtain ⟨B,_⟩:=(zAm z.env hx).flat_inv
 have g:(execOp a.eval o).run G.P w=.ok (.value (.pointer (some ⟨w.heap.size,0,none⟩))) (w.alloc (.stringIter ⟨⟨s⟩⟩ 0)):=by
  simp only [execOp,M,B,Sem.run_bind,run_range_string w t _ (zH0 (T.hbases _ (zAc N))),Result.andThen_ok]
  rfl
 unfold Oper.wp
 rw [g,Oper.upon_value,H]
 exact k r hr _ _ ⟨_,_,(z.new_ (hdr:=.pointer (some ⟨w.heap.size,0,none⟩)) (o:=.stringIter ⟨⟨s⟩⟩ 0) (k:=.siter ⟨⟨s⟩⟩ 0) J C F fun D' Q=>⟨w.heap.size,rfl,fun x=>Iff.rfl,zDP w _⟩).put (zCS h) (.loc (by rw [zAw];rfl))⟩
theorem zVy {P:Program} {w:World} {b pos:Nat} {ty:TypeId} (g:w.heap[b]? = some (.stringIter s pos)) (h:pos<s.size) :
  (Instr.next (.pointer (some ⟨b,0,none⟩)) true ty).run P w=.ok (.tuple #[.bool true,.int .i64 pos,.int .i32 (Utf8.decode s pos).1]) { w with heap:=w.heap.setIfInBounds b (.stringIter s (pos+(Utf8.decode s pos).2)) }:=by
 simp only [Instr.next,getObj,setObj,Sem.run_bind,Sem.run,g,Result.andThen,h,if_true]
 simp [goInt]
theorem zUd {P:Program} {w:World} {b pos:Nat} {ty:TypeId} (g:w.heap[b]? = some (.stringIter s pos)) (h:¬pos<s.size) :
  (Instr.next (.pointer (some ⟨b,0,none⟩)) true ty).run P w=.ok (.tuple #[.bool false]) w:=by
 simp [Instr.next,getObj,Sem.run,g,h]
theorem zbz (n:Nat) {o:Oper} {rest:List Oper} {x:Operand} {s:List UInt8} {p d:Nat} {J M:Option ρ} {S':zAC} (ho:o.op=.next x true) (hg:gE all E o=some true) (hx:ev E x=some (.loc n 0)) (hb:lkS S n=some (.siter ⟨⟨s⟩⟩ p)) (N:o.dst=some d) (C:lB d G.fn.ntmps=true)
  (hS:zOD n (.siter ⟨⟨s⟩⟩ (p+zMb s p)) S=some S') (k1:PO G J all rest K ((d,.tup [.v (.bool true),.v (.int .i64 (p:Nat)),.v (.int .i32 (zNy s p))])::E) S') (k2:PO G M all rest K ((d,.tup [.v (.bool false)])::E) S):PO G (cnd (decide (p<s.length)) J M) all (o::rest) K E S:=by
 refine zGT hg fun r hr a w ⟨σ,φ,F⟩=>?_
 have z:=zAl hb
 obtain ⟨b,h1,Q,h3⟩:=F.inv.ok n _ z
 have I:a.eval x=.pointer (some ⟨b,0,none⟩):=by
  have:=zAm F.env hx
  generalize a.eval x=v at this
  cases this with
  | loc W=>rw [zQh h1] at W;simp at W;subst W;rfl
  | d N=>cases N
 have V:b<w.heap.size:=(F.inv.lt b ⟨n,_,z,(Q b).2 rfl⟩).1
 have H:(⟨⟨s⟩⟩:ByteArray).size=s.length:=rfl
 by_cases j:p<s.length
 ·rw [show cnd (decide (p<s.length)) J M=J by simp [j,cnd]] at hr
  have B:(execOp a.eval o).run G.P w=.ok (.value (.tuple ⟨[.bool true,.int .i64 (p:Nat),.int .i32 (zNy s p)]⟩)) { w with heap:=w.heap.setIfInBounds b (.stringIter ⟨⟨s⟩⟩ (p+zMb s p)) }:=by
   have:=zVy (P:=G.P) (ty:=o.type) h3 (by rw [H];exact j)
   simp only [execOp,ho,I,Sem.run_bind,this,Result.andThen_ok]
   rfl
  unfold Oper.wp
  rw [B,Oper.upon_value,N]
  refine k1 r hr _ _ ⟨σ,φ,(F.turn (w':={ w with heap:=w.heap.setIfInBounds b (.stringIter ⟨⟨s⟩⟩ (p+zMb s p)) }) z hS (by simp) (fun c g=>?_) rfl rfl rfl fun D' hD=>⟨b,h1,Q,by show (w.heap.setIfInBounds b _)[b]? = _;rw [Array.getElem?_setIfInBounds_self_of_lt V]⟩).put (zCS C) (.tup rfl fun i c u g h=>?_)⟩
  ·have:c≠b:=fun e=>g ((Q c).2 e)
   simp [cN (Ne.symm this)]
  ·match i,g,h with
   | 0,g,h=>simp at g h;subst g h;exact .d (.v rfl)
   | 1,g,h=>simp at g h;subst g h;exact .d (.v rfl)
   | 2,g,h=>simp at g h;subst g h;exact .d (.v rfl)
 ·rw [show cnd (decide (p<s.length)) J M=M by simp [j,cnd]] at hr
  have B:(execOp a.eval o).run G.P w=.ok (.value (.tuple ⟨[.bool false]⟩)) w:=by
   have:=zUd (P:=G.P) (ty:=o.type) h3 (by rw [H];exact j)
   simp only [execOp,ho,I,Sem.run_bind,this,Result.andThen_ok]
   rfl
  unfold Oper.wp
  rw [B,Oper.upon_value,N]
  refine k2 r hr _ _ ⟨σ,φ,F.put (zCS C) (.tup rfl fun i c u g h=>?_)⟩
  match i,g,h with
  | 0,g,h=>simp at g h;subst g h;exact .d (.v rfl)
end
end
end Go.Pw
