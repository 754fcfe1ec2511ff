/- From what a row says of an input to data of Lean's own, and back: arguments that read are data; a call that leaves all old blocks as they were meets a row's end. No program is named here. -/
import Derived.Test.YtoboimmgglnjfaaGreatDoorNil
import Derived.ProofKit
import Derived.OpenShut
namespace Go.Pw
open Go Go.ChangeShapes Go.WideShapes Go.RowKit
section
variable {H:Type} {enc:TypeId×Value->H} {P:Program} {W:World}
mutual
def bulk:DataW H->Nat
 | .lit (.string s)=>s.length+1
 | .lit _=>1
 | .nil=>1
 | .ptr d=>bulk d+1
 | .slice elems spare=>zLe elems+zLe spare+1
 | .agg parts=>zLe parts+1
 | .iface _ d=>bulk d+1
 | .map _=>1
 | .held _=>1
def zLe:List (DataW H)->Nat
 | []=>0
 | d::r=>bulk d+zLe r
end
def Rds (enc:TypeId×Value->H) (P:Program) (W:World) (t:TypeId) {α : Type} (cells : α -> List PV) (wf : α -> Prop) (bk : α -> Nat):Prop :=
 ∀fuel cs x,DataW.trod enc P W 0 (fun _=>true) true fuel t cs=some x->∃a : α,wf a/\bk a<=bulk x.1/\(cells a).length=cs.length /\
  ∀(i:Nat) (c:PV) (u:Value),(cells a)[i]? = some c->cs[i]? = some u->RD W (fun b=>b<W.heap.size) c u
def wfI (k:IntKind) (a:Int):Prop:=(Lit.int k a).wf=true
def wfB (_:Bool):Prop:=True
def wfS (s:List UInt8):Prop:=s.length<=maxLen
def wfL {α : Type} (wf : α -> Prop) (l:List α):Prop:=l.length<=maxLen/\∀a∈l,wf a
def bkI (_:Int):Nat:=1
def bkB (_:Bool):Nat:=1
def bkS (s:List UInt8):Nat:=s.length+1
def bkL {α : Type} (bk : α -> Nat) (l:List α):Nat:=(l.map bk).sum+1
theorem zNC {D:Nat->Prop} {p:PV} {v:Value} (h:RD W D p v):∀(i:Nat) (c:PV) (u:Value),[p][i]? = some c->[v][i]? = some u->RD W D c u:=by
 intro i c u hc hu
 cases i with
 | zero=>simp at hc hu;subst hc;subst hu;exact h
 | succ i=>simp at hc
theorem zV3 {t:TypeId} {k:IntKind} (ht:P.underlying t=some (.int k)):Rds enc P W t (fun a:Int=>[.v (.int k a)]) (wfI k) bkI:=by
 intro fuel cs x h
 obtain ⟨n,rfl,rfl,hw⟩:=DataW.trod_int ht h
 exact ⟨n,hw,by simp [bkI,bulk],rfl,zNC (.v rfl)⟩
theorem zTv {t:TypeId} (ht:P.underlying t=some .bool):Rds enc P W t (fun a:Bool=>[.v (.bool a)]) wfB bkB:=by
 intro fuel cs x h
 obtain ⟨n,rfl,rfl⟩:=DataW.trod_bool ht h
 exact ⟨n,trivial,by simp [bkB,bulk],rfl,zNC (.v rfl)⟩
theorem zSG {t:TypeId} (ht:P.underlying t=some .string):Rds enc P W t (fun a:List UInt8=>[.v (.string ⟨⟨a⟩⟩)]) wfS bkS:=by
 intro fuel cs x h
 obtain ⟨s,rfl,rfl,hs⟩:=DataW.trod_string ht h
 exact ⟨s.data.toList,hs,by simp [bkS,bulk],rfl,zNC (.v rfl)⟩
theorem zMa {α : Type} {bk : α -> Nat}:∀{l:List α} {ds:List (DataW H)},l.length=ds.length->(∀(i:Nat) (a : α) (d:DataW H),l[i]? = some a->ds[i]? = some d->bk a<=bulk d)->(l.map bk).sum<=zLe ds
 | [],[],_,_=>by simp [zLe]
 | a::l,d::ds,hl,h=>by
  have h0:=h 0 a d rfl rfl
  have h1:=zMa (l:=l) (ds:=ds) (by simpa using hl) fun i a d ha hd=>h (i+1) a d (by simpa using ha) (by simpa using hd)
  simp only [List.map_cons,List.sum_cons,zLe]
  omega
 | [],_::_,hl,_=>by simp at hl
 | _::_,[],hl,_=>by simp at hl
theorem zUP {α : Type} {Q:Nat -> α -> Prop}:∀(n:Nat),(∀i,i<n->∃a,Q i a)->∃l:List α,l.length=n/\∀(i:Nat) (a : α),l[i]? = some a->Q i a
 | 0,_=>⟨[],rfl,fun i a h=>by simp at h⟩
 | n+1,h=>by
  obtain ⟨l,h1,h2⟩:=zUP n fun i hi=>h i (by omega)
  obtain ⟨a,ha⟩:=h n (by omega)
  refine ⟨l++[a],by simp [h1],fun i b hb=>?_⟩
  by_cases hi:i<n
  ·rw [List.getElem?_append_left (by omega)] at hb;exact h2 i b hb
  ·have:i=n:=by
    have:=(List.getElem?_eq_some_iff.1 hb).1
    simp [h1] at this;omega
   subst this
   rw [List.getElem?_append_right (by omega)] at hb
   simp [h1] at hb;subst hb;exact ha
theorem zIs {t e:TypeId} {size:Nat} {α : Type} {cells : α -> List PV} {wf : α -> Prop} {bk : α -> Nat} (ht:P.underlying t=some (.slice e)) (hs:P.cellsOf e=size) (hpos:0<size) (h:Rds enc P W e cells wf bk) :
  Rds enc P W t (fun l:List α => [.sl size false (l.map cells)]) (wfL wf) (bkL bk):=by
 intro fuel cs x hx
 rcases DataW.trod_slice ht hx with ⟨rfl,rfl⟩ | ⟨a,len,cap,elems,rest,n,rfl,rfl,rfl,_,hlen,hcap,hel,hat,_,_⟩
 ·exact ⟨[],⟨by simp,by simp⟩,by simp [bkL,bulk],rfl,zNC (.nil (by simp) (by simp))⟩
 ·obtain ⟨l,h1,h2⟩:=zUP (Q:=fun i (y : α)=>wf y/\(∀d,(elems.map (·.1))[i]? = some d->bk y<=bulk d)/\a.block<W.heap.size/\(cells y).length=size/\∀(k:Nat) (c:PV),(cells y)[k]? = some c->∃u,W.cell? (a.add (i*size+k))=some u/\RD W (fun b=>b<W.heap.size) c u) len fun i hi=>by
   have g:=hat i hi
   rw [List.getElem?_eq_getElem (by omega)] at g
   obtain ⟨cs,g1,g2⟩:=Option.bind_eq_some_iff.1 g
   obtain ⟨y,k1,k2,k3,k4⟩:=h n cs _ g2
   rw [hs] at g1
   have hb:=World.cells?_block g1 hpos
   rw [zIb] at hb
   obtain ⟨_,g4⟩:=World.cells?_some g1
   refine ⟨y,k1,fun d hd=>?_,hb,by rw [k3];simpa using g4.1,fun k c hc=>?_⟩
   ·rw [List.getElem?_map,List.getElem?_eq_getElem (by omega)] at hd
    simp at hd;subst hd;exact k2
   ·have hk:k<cs.length:=by rw [<- k3];exact (List.getElem?_eq_some_iff.1 hc).1
    refine ⟨cs[k],?_,k4 k c _ hc (List.getElem?_eq_getElem hk)⟩
    have:=g4.2 k (by rw [g4.1] at hk;exact hk)
    rw [zIw] at this
    rw [this];exact List.getElem?_eq_getElem hk
  refine ⟨l,⟨by omega,fun y hy=>?_⟩,?_,rfl,?_⟩
  ·obtain ⟨i,hi⟩:=List.mem_iff_getElem?.1 hy
   exact (h2 i y hi).1
  ·simp only [bkL,bulk]
   have:=zMa (bk:=bk) (l:=l) (ds:=elems.map (·.1)) (by simp [h1,hel]) fun i y d hy hd=>(h2 i y hy).2.1 d hd
   omega
  ·refine zNC ?_
   by_cases h0:len=0
   ·subst h0
    have:l=[]:=List.eq_nil_of_length_eq_zero h1
    subst this
    exact .nil hcap (by simp)
   ·have hl:(l.map cells).length=len:=by simp [h1]
    have hb:=(h2 0 _ (List.getElem?_eq_getElem (by omega))).2.2.1
    let f:Nat->Value:=fun j=>(W.cell? (a.add j)).getD (.bool false)
    have row:∀(i:Nat) (r:List PV),(l.map cells)[i]? = some r->∃y,l[i]? = some y/\r=cells y:=fun i r hr=>by
     rw [List.getElem?_map] at hr
     obtain ⟨y,g1,g2⟩:=Option.map_eq_some_iff.1 hr
     exact ⟨y,g1,g2.symm⟩
    have:=RD.sl (w:=W) (D:=fun b=>b<W.heap.size) (size:=size) (full:=false) (rows:=l.map cells) (a:=a) (cap:=cap) f (by omega) hcap (by simp) hb
     (fun r hr=>by obtain ⟨y,hy,rfl⟩:=List.mem_map.1 hr;obtain ⟨i,hi⟩:=List.mem_iff_getElem?.1 hy;exact (h2 i y hi).2.2.2.1)
     (fun i r k c hr hc=>by
      obtain ⟨y,g1,rfl⟩:=row i r hr
      obtain ⟨u,g2,_⟩:=(h2 i y g1).2.2.2.2 k c hc
      show W.cell? _=some ((W.cell? _).getD _)
      rw [g2];rfl)
     (fun i r k c hr hc=>by
      obtain ⟨y,g1,rfl⟩:=row i r hr
      obtain ⟨u,g2,g3⟩:=(h2 i y g1).2.2.2.2 k c hc
      show RD _ _ c ((W.cell? _).getD _)
      rw [g2];exact g3)
    rw [hl] at this
    exact this
def RdsF (enc:TypeId×Value->H) (P:Program) (W:World) (fs:List Field) (o:Nat) {α : Type} (cells : α -> List PV) (wf : α -> Prop) (bk : α -> Nat):Prop :=
 ∀(n:Nat) (cs:List Value) (xs:List (DataW H×List MemPlace)),xs.length=fs.length->(∀(i:Nat) (f:Field),fs[i]? = some f->DataW.trod enc P W 0 (fun _=>true) true n f.type ((cs.drop f.offset).take (P.cellsOf f.type))=xs[i]?) ->
  ∃a : α,wf a/\bk a<=zLe (xs.map (·.1))/\∀(i:Nat) (c:PV) (u:Value),(cells a)[i]? = some c->cs[o+i]? = some u->RD W (fun b=>b<W.heap.size) c u
theorem zJx {o:Nat}:RdsF enc P W [] o (fun _:Unit=>[]) (fun _=>True) (fun _=>0):=fun n cs xs _ _=>⟨(),trivial,Nat.zero_le _,fun i c u h=>by simp at h⟩
theorem zCs {f:Field} {fs:List Field} {o k:Nat} {α β : Type} {c1 : α -> List PV} {c2 : β -> List PV} {w1 : α -> Prop} {w2 : β -> Prop} {b1 : α -> Nat} {b2 : β -> Nat}
  (ho:f.offset=o) (hk:P.cellsOf f.type=k) (hl:∀a,(c1 a).length=k) (h1:Rds enc P W f.type c1 w1 b1) (h2:RdsF enc P W fs (o+k) c2 w2 b2) :
  RdsF enc P W (f::fs) o (fun p : α × β => c1 p.1++c2 p.2) (fun p=>w1 p.1/\w2 p.2) (fun p=>b1 p.1+b2 p.2):=by
 intro n cs xs hx h
 cases xs with
 | nil=>simp at hx
 | cons x xs =>
  have g:=h 0 f rfl
  simp only [List.getElem?_cons_zero] at g
  obtain ⟨a,a1,a2,a3,a4⟩:=h1 n _ x g
  obtain ⟨b,e1,e2,e3⟩:=h2 n cs xs (by simpa using hx) fun i f' hf=>by have:=h (i+1) f' (by simpa using hf);simpa using this
  refine ⟨(a,b),⟨a1,e1⟩,by simp only [List.map_cons,zLe];omega,fun i c u hc hu=>?_⟩
  by_cases hi:i<k
  ·rw [List.getElem?_append_left (by rw [hl];exact hi)] at hc
   refine a4 i c u hc ?_
   rw [ho,hk,List.getElem?_take_of_lt hi,List.getElem?_drop]
   exact hu
  ·rw [List.getElem?_append_right (by rw [hl];omega),hl] at hc
   exact e3 (i - k) c u hc (by rw [show o+k+(i - k)=o+i by omega];exact hu)
theorem zHo {t:TypeId} {fs:Array Field} {n:Nat} {α β : Type} {cells : α -> List PV} {wf : α -> Prop} {bk : α -> Nat} {cells' : β -> List PV} {wf' : β -> Prop} {bk' : β -> Nat} (ht:P.underlying t=some (.struct fs)) (hn:P.cellsOf t=n)
  (h:RdsF enc P W fs.toList 0 cells wf bk) (g : α -> β) (hg:∀a,cells' (g a)=cells a) (hl:∀b,(cells' b).length=n) (hw:∀a,wf a->wf' (g a)) (hb:∀a,bk' (g a)=bk a+1):Rds enc P W t cells' wf' bk':=by
 intro fuel cs x hx
 obtain ⟨xs,m,rfl,rfl,h1,h2,h3⟩:=DataW.trod_struct ht hx
 obtain ⟨a,a1,a2,a3⟩:=h m cs xs (by simpa using h2) fun i f hf=>h3 i f (by simpa using hf)
 refine ⟨g a,hw a a1,by rw [hb];simp only [bulk];omega,by rw [hl,h1,hn],fun i c u hc hu=>?_⟩
 rw [hg] at hc
 exact a3 i c u hc (by rw [Nat.zero_add];exact hu)
def RdA (enc:TypeId×Value->H) (P:Program) (W:World) (t:TypeId) {α : Type} (p : α -> PV) (wf : α -> Prop) (bk : α -> Nat):Prop :=
 ∀base v d ps,Value.okWide P W .any base t v->DataW.Trod enc P W 0 (fun _=>true) true t v d ps->∃a,wf a/\bk a<=bulk d/\RD W (fun b=>b<W.heap.size) (p a) v
theorem zV0 {t:TypeId} {α : Type} {p : α -> PV} {wf : α -> Prop} {bk : α -> Nat} (h:Rds enc P W t (fun a=>[p a]) wf bk) (hv:∀base cs,¬Value.okWide P W .any base t (.agg cs)):RdA enc P W t p wf bk:=by
 intro base v d ps hok ⟨fuel,hd⟩
 obtain ⟨a,h1,h2,h3,h4⟩:=h fuel _ _ hd
 refine ⟨a,h1,h2,h4 0 (p a) v rfl ?_⟩
 cases v<;>first | rfl | (exact absurd hok (hv _ _))
theorem zQF {t:TypeId} {fs:Array Field} {α : Type} {cells : α -> List PV} {wf : α -> Prop} {bk : α -> Nat} (ht:P.underlying t=some (.struct fs)) (h:Rds enc P W t cells wf bk):RdA enc P W t (fun a=>.agg (cells a)) wf bk:=by
 intro base v d ps hok ⟨fuel,hd⟩
 obtain ⟨a,h1,h2,h3,h4⟩:=h fuel _ _ hd
 simp only [Value.okWide,ht] at hok
 obtain ⟨cs,rfl,_⟩:=hok
 exact ⟨a,h1,h2,.agg (us:=cs.toList) (by simpa [Value.cells] using h3) fun i c u hc hu=>h4 i c u hc (by simpa [Value.cells] using hu)⟩
theorem zV1 {t:TypeId} (ht:P.underlying t=some .string):RdA enc P W t (fun a:List UInt8=>.v (.string ⟨⟨a⟩⟩)) wfS bkS :=
 zV0 (zSG ht) fun base cs h=>by simp [Value.okWide,ht,Cell.okWide,Cell.ok] at h
def RDL (W:World) (ps:List PV) (vs:List Value):Prop:=ps.length=vs.length/\∀(i:Nat) (c:PV) (u:Value),ps[i]? = some c->vs[i]? = some u->RD W (fun b=>b<W.heap.size) c u
theorem zV2:RDL W [] []:=⟨rfl,fun i c u h=>by simp at h⟩
theorem zPR {p:PV} {v:Value} {ps:List PV} {vs:List Value} (h:RD W (fun b=>b<W.heap.size) p v) (h':RDL W ps vs):RDL W (p::ps) (v::vs) :=
 ⟨by simp [h'.1],fun i c u hc hu=>by
  cases i with
  | zero=>simp at hc hu;subst hc;subst hu;exact h
  | succ i=>exact h'.2 i c u (by simpa using hc) (by simpa using hu)⟩
theorem zIu (hl:laidOutB P=true) {W':World} (hb:Below W.heap.size W W'):∀{ts:List TypeId} {vs:List Value} {ds:List (DataW H)} {ps:List MemPlace},(ts.all fun t=>P.readableRec t&&decide (t<P.types.size))=true->DataW.TrodAll enc P W 0 (fun _=>true) true ts vs ds ps->(∀x∈ps,x.block<W.heap.size) ->
  ∀sp:Nat->Bool,(∀p∈ps,sp p.block=true)->DataW.TrodAll enc P W' 0 sp true ts vs ds ps
 | [],[],[],ps,_,h,_,_,_=>h
 | t::ts,v::vs,d::ds,ps,ht,⟨p,q,h1,h2,e⟩,hlt,sp,hsp=>by
  simp only [List.all_cons,Bool.and_eq_true,decide_eq_true_eq] at ht
  subst e
  refine ⟨p,q,?_,zIu hl hb (by simpa using ht.2) h2 (fun x hx=>hlt x (by simp [hx])) sp (fun x hx=>hsp x (by simp [hx])),rfl⟩
  exact WideElems.Trod_stays hl ht.1.1 ht.1.2 h1 (fun x hx=>hb.same (hlt x (by simp [hx]))) fun x hx=>hsp x (by simp [hx])
 | [],_::_,_,_,_,h,_,_,_=>h.elim
 | [],[],_::_,_,_,h,_,_,_=>h.elim
 | _::_,[],_,_,_,h,_,_,_=>h.elim
 | _::_,_::_,[],_,_,h,_,_,_=>h.elim
theorem zTZ {f:FuncId} {fn:Func} {s:ChangeSpec} {again handsOn:Bool} (hl:laidOutB P=true) {t:TypeId} (hr:fn.resultTypes = #[t]) (ht:P.underlying t=some .bool) (hts:(fn.params.toList.all fun t=>P.readableRec t&&decide (t<P.types.size))=true) (hvs:s.vars=[])
  {args:List Value} {ds gs:List (DataW H)} {before:List MemPlace} {ps:List PV} {L:World->Prop} (hc:DC L P f ps (.v (.bool true))) (hL:∀w',(∀b,b<W.heap.size->w'.heap[b]? = W.heap[b]?)->L w')
  (ha:RDL W ps args) (hW:DataW.Whole enc P fn.params.toList s.vars false W args ds gs before) (hs1:(s.fn H (ds++gs)).results=[.lit (.bool true)]) (hs2:(s.fn H (ds++gs)).args=ds) (hs3:(s.fn H (ds++gs)).vars=[]) :
  Calls P f ⟨args⟩ W fun e W'=>∃v,e=.returned v/\s.post enc P fn false true handsOn again W ⟨args⟩ v W':=by
 have hi:Inv (fun _=>False) (fun _=>Value.bool false) (fun _ _=>False) W []:=⟨by simp,fun _ h=>h.elim,fun b ⟨n,k,hm,_⟩=>by simp at hm,fun _ _ _ _ h=>by simp at h,fun _ _ h=>by simp at h⟩
 have hD:∀b,b<W.heap.size->Dof (fun _=>False) (fun _ _=>False) W [] b:=fun b hb=>⟨hb,fun h=>h,fun _ _ h=>by simp at h⟩
 refine (hc (fun _=>False) (fun _=>Value.bool false) (fun _ _=>False) W args (fun w' hw=>hL w' fun b hb=>hw b (fun ⟨n,k,h,_⟩=>by simp at h) hb) hi ⟨ha.1,fun i c u hp hu=>.d ((ha.2 i c u hp hu).mono fun b hb=>⟨hD b hb,rfl⟩)⟩).mono ?_
 rintro e W' ⟨p,S,σ,φ,u,rfl,⟨rfl,rfl⟩,hi',hru,hfr,_,_⟩
 obtain ⟨rfl,_⟩:=hru.flat_inv
 refine ⟨_,rfl,?_⟩
 have hb:Below W.heap.size W W':=⟨hfr.os,hfr.tape,hfr.output,hfr.size,fun k hk=>hfr.block k hk fun ⟨n,b,hm,_⟩=>by simp at hm⟩
 have hlt:=hW.lt
 obtain ⟨p,q,hA,hV,rfl,hz,hn⟩:=id hW
 rw [hvs] at hV
 obtain ⟨rfl,rfl⟩:=trodVars_none hV
 simp only [List.append_nil] at hW hlt hz hs1 hs2 hs3
 have hargs:∀sp:Nat->Bool,(∀x∈p,sp x.block=true)->DataW.TrodAll enc P W' 0 sp true fn.params.toList args ds p:=zIu hl hb hts hA fun x hx=>hlt x hx
 have hold:∀x∈p,(fun b=>decide (b<W.heap.size)) x.block=true:=fun x hx=>by simpa using hlt x hx
 have hok:∀(j:Nat) (t':TypeId) (r:Value),fn.resultTypes[j]? = some t'->((Value.bool true).resultList fn.resultTypes.size)[j]? = some r->Value.okWide P W' .any 0 t' r:=ok_one hr rfl (okWide_bool_mk ht _)
 have hres:∀(b:Nat) (sp:Nat->Bool) (hd:Bool),DataW.TrodAll enc P W' b sp hd fn.resultTypes.toList ((Value.bool true).resultList fn.resultTypes.size) (s.fn H ds).results []:=fun b sp hd=>by
  rw [hs1,hr];exact trodAll_cons_mk (shut_bool ht _) trodAll_mk0
 refine ⟨ds,[],p,[],p,[],hW,by simpa using hres _ _ _,by rw [List.append_nil,hs2];exact hargs _ hold,by rw [List.append_nil,hs3,hvs];exact rfl,hb.frame _,fun _=>⟨hok,_,_,([]++p)++[],⟨[]++p,[],trodAll_append (hargs _ fun _ _=>rfl) (hres _ _ _),(show DataW.TrodVars enc P W' (fun _=>true) s.vars [] [] by rw [hvs];rfl),rfl,?_,?_⟩,?_⟩⟩
 ·intro b off hp
  simp only [List.nil_append,List.append_nil] at hp
  rw [hb.frozen (p:=⟨b,off,none⟩) (hlt _ hp)]
  exact hz b off hp
 ·intro h;cases h
 ·intro x hx _;simpa using hx
end
end Go.Pw
