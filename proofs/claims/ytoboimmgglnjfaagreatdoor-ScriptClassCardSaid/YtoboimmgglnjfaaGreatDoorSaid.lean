/- From what a row says of an input to data of Lean's own, and back: arguments that read are data; a call that leaves all old blocks as they were meets a row's end. No program is named here. -/
import Derived.Test.YtoboimmgglnjfaaGreatDoorNil
import Derived.ProofKit
import Derived.OpenShut
namespace Go.Pw
open Go Go.ChangeShapes Go.WideShapes Go.RowKit
section
variable {H:Type} {enc:TypeId×Value->H} {P:Program} {W:World}
mutual
def bulk:DataW H->Nat
 | .lit (.string s)=>s.length+1
 | .lit _=>1
 | .nil=>1
 | .ptr d=>bulk d+1
 | .slice elems spare=>zO9 elems+zO9 spare+1
 | .agg parts=>zO9 parts+1
 | .iface _ d=>bulk d+1
 | .map _=>1
 | .held _=>1
def zO9:List (DataW H)->Nat
 | []=>0
 | d::r=>bulk d+zO9 r
end
def Rds (enc:TypeId×Value->H) (P:Program) (W:World) (t:TypeId) {α : Type} (cells : α -> List PV) (wf : α -> Prop) (bk : α -> Nat):Prop :=
 ∀fuel cs x,DataW.trod enc P W 0 (fun _=>true) true fuel t cs=some x->∃a : α,wf a/\bk a<=bulk x.1/\(cells a).length=cs.length /\
  ∀(i:Nat) (c:PV) (u:Value),(cells a)[i]? = some c->cs[i]? = some u->RD W (fun b=>b<W.heap.size) c u
def wfI (k:IntKind) (a:Int):Prop:=(Lit.int k a).wf=true
def wfB (_:Bool):Prop:=True
def wfS (s:List UInt8):Prop:=s.length<=maxLen
def bkI (_:Int):Nat:=1
def bkB (_:Bool):Nat:=1
def bkS (s:List UInt8):Nat:=s.length+1
theorem zOd {D:Nat->Prop} {p:PV} {v:Value} (h:RD W D p v):∀(i:Nat) (c:PV) (u:Value),[p][i]? = some c->[v][i]? = some u->RD W D c u:=by
 intro i c u hc hu
 cases i with
 | zero=>simp at hc hu;subst hc;subst hu;exact h
 | succ i=>simp at hc
theorem zRp {t:TypeId} {k:IntKind} (ht:P.underlying t=some (.int k)):Rds enc P W t (fun a:Int=>[.v (.int k a)]) (wfI k) bkI:=by
 intro fuel cs x h
 obtain ⟨n,rfl,rfl,hw⟩:=DataW.trod_int ht h
 exact ⟨n,hw,by simp [bkI,bulk],rfl,zOd (.v rfl)⟩
theorem zPu {t:TypeId} (ht:P.underlying t=some .bool):Rds enc P W t (fun a:Bool=>[.v (.bool a)]) wfB bkB:=by
 intro fuel cs x h
 obtain ⟨n,rfl,rfl⟩:=DataW.trod_bool ht h
 exact ⟨n,trivial,by simp [bkB,bulk],rfl,zOd (.v rfl)⟩
theorem zRq {t:TypeId} (ht:P.underlying t=some .string):Rds enc P W t (fun a:List UInt8=>[.v (.string ⟨⟨a⟩⟩)]) wfS bkS:=by
 intro fuel cs x h
 obtain ⟨s,rfl,rfl,hs⟩:=DataW.trod_string ht h
 exact ⟨s.data.toList,hs,by simp [bkS,bulk],rfl,zOd (.v rfl)⟩
def RdA (enc:TypeId×Value->H) (P:Program) (W:World) (t:TypeId) {α : Type} (p : α -> PV) (wf : α -> Prop) (bk : α -> Nat):Prop :=
 ∀base v d ps,Value.okWide P W .any base t v->DataW.Trod enc P W 0 (fun _=>true) true t v d ps->∃a,wf a/\bk a<=bulk d/\RD W (fun b=>b<W.heap.size) (p a) v
theorem zLB {t:TypeId} {α : Type} {p : α -> PV} {wf : α -> Prop} {bk : α -> Nat} (h:Rds enc P W t (fun a=>[p a]) wf bk) (hv:∀base cs,¬Value.okWide P W .any base t (.agg cs)):RdA enc P W t p wf bk:=by
 intro base v d ps hok ⟨fuel,hd⟩
 obtain ⟨a,h1,h2,h3,h4⟩:=h fuel _ _ hd
 refine ⟨a,h1,h2,h4 0 (p a) v rfl ?_⟩
 cases v<;>first | rfl | (exact absurd hok (hv _ _))
theorem zRm {t:TypeId} {k:IntKind} (ht:P.underlying t=some (.int k)):RdA enc P W t (fun a:Int=>.v (.int k a)) (wfI k) bkI :=
 zLB (zRp ht) fun base cs h=>by simp [Value.okWide,ht,Cell.okWide,Cell.ok] at h
theorem zPs {t:TypeId} (ht:P.underlying t=some .bool):RdA enc P W t (fun a:Bool=>.v (.bool a)) wfB bkB :=
 zLB (zPu ht) fun base cs h=>by simp [Value.okWide,ht,Cell.okWide,Cell.ok] at h
theorem zRn {t:TypeId} (ht:P.underlying t=some .string):RdA enc P W t (fun a:List UInt8=>.v (.string ⟨⟨a⟩⟩)) wfS bkS :=
 zLB (zRq ht) fun base cs h=>by simp [Value.okWide,ht,Cell.okWide,Cell.ok] at h
def RDL (W:World) (ps:List PV) (vs:List Value):Prop:=ps.length=vs.length/\∀(i:Nat) (c:PV) (u:Value),ps[i]? = some c->vs[i]? = some u->RD W (fun b=>b<W.heap.size) c u
theorem zRo:RDL W [] []:=⟨rfl,fun i c u h=>by simp at h⟩
theorem zJG {p:PV} {v:Value} {ps:List PV} {vs:List Value} (h:RD W (fun b=>b<W.heap.size) p v) (h':RDL W ps vs):RDL W (p::ps) (v::vs) :=
 ⟨by simp [h'.1],fun i c u hc hu=>by
  cases i with
  | zero=>simp at hc hu;subst hc;subst hu;exact h
  | succ i=>exact h'.2 i c u (by simpa using hc) (by simpa using hu)⟩
theorem zGO (hl:laidOutB P=true) {W':World} (hb:Below W.heap.size W W'):∀{ts:List TypeId} {vs:List Value} {ds:List (DataW H)} {ps:List MemPlace},(ts.all fun t=>P.readableRec t&&decide (t<P.types.size))=true->DataW.TrodAll enc P W 0 (fun _=>true) true ts vs ds ps->(∀x∈ps,x.block<W.heap.size) ->
  ∀sp:Nat->Bool,(∀p∈ps,sp p.block=true)->DataW.TrodAll enc P W' 0 sp true ts vs ds ps
 | [],[],[],ps,_,h,_,_,_=>h
 | t::ts,v::vs,d::ds,ps,ht,⟨p,q,h1,h2,e⟩,hlt,sp,hsp=>by
  simp only [List.all_cons,Bool.and_eq_true,decide_eq_true_eq] at ht
  subst e
  refine ⟨p,q,?_,zGO hl hb (by simpa using ht.2) h2 (fun x hx=>hlt x (by simp [hx])) sp (fun x hx=>hsp x (by simp [hx])),rfl⟩
  exact WideElems.Trod_stays hl ht.1.1 ht.1.2 h1 (fun x hx=>hb.same (hlt x (by simp [hx]))) fun x hx=>hsp x (by simp [hx])
 | [],_::_,_,_,_,h,_,_,_=>h.elim
 | [],[],_::_,_,_,h,_,_,_=>h.elim
 | _::_,[],_,_,_,h,_,_,_=>h.elim
 | _::_,_::_,[],_,_,h,_,_,_=>h.elim
theorem zPa {f:FuncId} {fn:Func} {s:ChangeSpec} {again handsOn:Bool} (hl:laidOutB P=true) {t:TypeId} (hr:fn.resultTypes = #[t]) (ht:P.underlying t=some .bool) (hts:(fn.params.toList.all fun t=>P.readableRec t&&decide (t<P.types.size))=true) (hvs:s.vars=[])
  {args:List Value} {ds gs:List (DataW H)} {before:List MemPlace} {ps:List PV} {L:World->Prop} (hc:DC L P f ps (.v (.bool true))) (hL:∀w',(∀b,b<W.heap.size->w'.heap[b]? = W.heap[b]?)->L w')
  (ha:RDL W ps args) (hW:DataW.Whole enc P fn.params.toList s.vars false W args ds gs before) (hs1:(s.fn H (ds++gs)).results=[.lit (.bool true)]) (hs2:(s.fn H (ds++gs)).args=ds) (hs3:(s.fn H (ds++gs)).vars=[]) :
  Calls P f ⟨args⟩ W fun e W'=>∃v,e=.returned v/\s.post enc P fn false true handsOn again W ⟨args⟩ v W':=by
 have hi:Inv (fun _=>False) (fun _=>Value.bool false) (fun _ _=>False) W []:=⟨by simp,fun _ h=>h.elim,fun b ⟨n,k,hm,_⟩=>by simp at hm,fun _ _ _ _ h=>by simp at h,fun _ _ h=>by simp at h⟩
 have hD:∀b,b<W.heap.size->Dof (fun _=>False) (fun _ _=>False) W [] b:=fun b hb=>⟨hb,fun h=>h,fun _ _ h=>by simp at h⟩
 refine (hc (fun _=>False) (fun _=>Value.bool false) (fun _ _=>False) W args (fun w' hw=>hL w' fun b hb=>hw b (fun ⟨n,k,h,_⟩=>by simp at h) hb) hi ⟨ha.1,fun i c u hp hu=>.d ((ha.2 i c u hp hu).mono fun b hb=>⟨hD b hb,rfl⟩)⟩).mono ?_
 rintro e W' ⟨p,S,σ,φ,u,rfl,⟨rfl,rfl⟩,hi',hru,hfr,_,_⟩
 obtain ⟨rfl,_⟩:=hru.flat_inv
 refine ⟨_,rfl,?_⟩
 have hb:Below W.heap.size W W':=⟨hfr.os,hfr.tape,hfr.output,hfr.size,fun k hk=>hfr.block k hk fun ⟨n,b,hm,_⟩=>by simp at hm⟩
 have hlt:=hW.lt
 obtain ⟨p,q,hA,hV,rfl,hz,hn⟩:=id hW
 rw [hvs] at hV
 obtain ⟨rfl,rfl⟩:=trodVars_none hV
 simp only [List.append_nil] at hW hlt hz hs1 hs2 hs3
 have hargs:∀sp:Nat->Bool,(∀x∈p,sp x.block=true)->DataW.TrodAll enc P W' 0 sp true fn.params.toList args ds p:=zGO hl hb hts hA fun x hx=>hlt x hx
 have hold:∀x∈p,(fun b=>decide (b<W.heap.size)) x.block=true:=fun x hx=>by simpa using hlt x hx
 have hok:∀(j:Nat) (t':TypeId) (r:Value),fn.resultTypes[j]? = some t'->((Value.bool true).resultList fn.resultTypes.size)[j]? = some r->Value.okWide P W' .any 0 t' r:=ok_one hr rfl (okWide_bool_mk ht _)
 have hres:∀(b:Nat) (sp:Nat->Bool) (hd:Bool),DataW.TrodAll enc P W' b sp hd fn.resultTypes.toList ((Value.bool true).resultList fn.resultTypes.size) (s.fn H ds).results []:=fun b sp hd=>by
  rw [hs1,hr];exact trodAll_cons_mk (shut_bool ht _) trodAll_mk0
 refine ⟨ds,[],p,[],p,[],hW,by simpa using hres _ _ _,by rw [List.append_nil,hs2];exact hargs _ hold,by rw [List.append_nil,hs3,hvs];exact rfl,hb.frame _,fun _=>⟨hok,_,_,([]++p)++[],⟨[]++p,[],trodAll_append (hargs _ fun _ _=>rfl) (hres _ _ _),(show DataW.TrodVars enc P W' (fun _=>true) s.vars [] [] by rw [hvs];rfl),rfl,?_,?_⟩,?_⟩⟩
 ·intro b off hp
  simp only [List.nil_append,List.append_nil] at hp
  rw [hb.frozen (p:=⟨b,off,none⟩) (hlt _ hp)]
  exact hz b off hp
 ·intro h;cases h
 ·intro x hx _;simpa using hx
end
end Go.Pw
