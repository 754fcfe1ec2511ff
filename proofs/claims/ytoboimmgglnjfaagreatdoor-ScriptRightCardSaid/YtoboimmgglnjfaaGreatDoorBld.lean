/- What strings.Builder's methods meet: a cell that is nil or a place in a block; pointers held against each other; a pointer turned to unsafe.Pointer and back. No program is named here. -/
import Derived.Test.YtoboimmgglnjfaaGreatDoorTail
import Derived.Lib.Builder
import Derived.Laws.Externs
import Derived.Lib.AppendStr
import Derived.Lib.UnsafeStr
namespace Go.Pw
open Go
def zL7:List PV->Nat->PV->Option (List PV)
 | [],_,_=>none
 | _::cs,0,p=>some (p::cs)
 | c::cs,i+1,p=>match zL7 cs i p with
  | some l=>some (c::l)
  | none=>none
theorem zL8:∀{cs:List PV} {i:Nat} {p:PV} {ds:List PV},zL7 cs i p=some ds->ds.length=cs.length/\∀j,ds[j]? = if j=i then some p else cs[j]?
 | [],_,_,_,h=>by simp [zL7] at h
 | c::cs,0,p,ds,h=>by
  simp [zL7] at h;subst h
  refine ⟨rfl,fun j=>?_⟩
  cases j with
  | zero=>rfl
  | succ j=>simp
 | c::cs,i+1,p,ds,h=>by
  simp only [zL7] at h
  split at h<;>simp at h
  rename_i l hl
  subst h
  obtain ⟨h1,h2⟩:=zL8 hl
  refine ⟨by simp [h1],fun j=>?_⟩
  cases j with
  | zero=>simp
  | succ j=>simp [h2 j]
section
variable {ρ : Type} {G:Ctx ρ} {m:Option ρ} {K:List (Kont ρ)} {E:Env} {S:Store} {all:Array Oper}
def winB:List PV->Bool
 | .tup _::_=>true
 | _=>false
theorem zQB {n i n' off ty:Nat} {cs ds0 ds1:List PV} {S0 S1:Store} (hb:lkS S n=some (.box ty cs)) (hi:nthE cs i=some (.nloc n' off)) (h0:zL7 cs i (.v (.pointer none))=some ds0) (h1:zL7 cs i (.loc n' off)=some ds1) (hS0:setS n (.box ty ds0) S=some S0) (hS1:setS n (.box ty ds1) S=some S1) (hT:winB cs=false) {a:Act} {w:World}:Pre G E S a w->Pre G E S0 a w\/Pre G E S1 a w:=by
 intro ⟨σ,φ,hp⟩
 have hm:=zBN hb
 obtain ⟨l0,e0⟩:=zL8 h0
 obtain ⟨l1,e1⟩:=zL8 h1
 rw [zG0] at hi
 rcases hp.inv.ok n _ hm with hbk | hw
 rotate_left
 ·obtain ⟨size,act,rows,last,rfl,_⟩:=hw
  cases hT
 obtain ⟨b,us,g1,g2,g3,g4,g5⟩:=hbk
 have hlt:i<us.length:=by rw [g3];exact (List.getElem?_eq_some_iff.1 hi).1
 have key:∀(p:PV) (ds:List PV) (S':Store),ds.length=cs.length->(∀j,ds[j]? = if j=i then some p else cs[j]?)->setS n (.box ty ds) S=some S'->R σ w (Dof G.X φ w S) p us[i]->Pre G E S' a w:=by
  intro p ds S' hl hd hS hr
  refine ⟨σ,φ,hp.turn hm hS rfl (fun _ _=>rfl) rfl rfl rfl fun D' hD=>?_⟩
  refine .inl ⟨b,us,g1,g2,by rw [g3,hl],g4,fun j c u hj hu=>?_⟩
  rw [hd j] at hj
  by_cases hji:j=i
  ·subst hji
   rw [if_pos rfl,Option.some.injEq] at hj
   rw [List.getElem?_eq_getElem hlt,Option.some.injEq] at hu
   subst hj hu
   exact hr.mono hD
  ·rw [if_neg hji] at hj
   exact (g5 j c u hj hu).mono hD
 have hr:=g5 i _ _ hi (List.getElem?_eq_getElem hlt)
 generalize us[i]=u at hr key
 cases hr with
 | nloc0=>exact .inl (key _ ds0 S0 l0 e0 hS0 (.d (.v rfl)))
 | nloc1 hs=>exact .inr (key _ ds1 S1 l1 e1 hS1 (.loc hs))
 | d hd=>cases hd
theorem zKb {ops:List Oper} (n i:Nat) {n' off ty:Nat} {cs ds0 ds1:List PV} {S0 S1:Store} (hb:lkS S n=some (.box ty cs)) (hi:nthE cs i=some (.nloc n' off)) (h0:zL7 cs i (.v (.pointer none))=some ds0) (h1:zL7 cs i (.loc n' off)=some ds1) (hS0:setS n (.box ty ds0) S=some S0) (hS1:setS n (.box ty ds1) S=some S1)
  (k0:PO G m all ops K E S0) (k1:PO G m all ops K E S1) (hT:winB cs=false:=by rfl):PO G m all ops K E S:=fun r hr a w hp=>(zQB hb hi h0 h1 hS0 hS1 hT hp).elim (k0 r hr a w) (k1 r hr a w)
def ptrE (op:BinOp):PV->PV->Option Bool
 | .v (.pointer none),.v (.pointer none)=>(match op with | .eql=>some true | .neq=>some false | _=>none)
 | .loc _ _,.v (.pointer none)=>(match op with | .eql=>some false | .neq=>some true | _=>none)
 | .loc n o,.loc n' o'=>bif Nat.beq n n'&&Nat.beq o o' then (match op with | .eql=>some true | .neq=>some false | _=>none) else none
 | _,_=>none
theorem zWE {P:Program} {tp te:TypeId} {j:TypeInfo} (w:World) (hp:P.underlying tp=some (.pointer te)) (hte:P.info? te=some j) (u v:Option Addr) (h:u=v\/v=none):(Op.equal tp (.pointer u) (.pointer v)).run P w=.ok (decide (u=v)) w:=by
 have hd:∀d:Nat,(Op.equalIn (d+1) tp (.pointer u) (.pointer v)).run P w=.ok (decide (u=v)) w:=fun d=>by
  rcases h with rfl | rfl
  ·cases u with
   | none=>simp [Op.equalIn,run_underlying hp,sizeOf,typeInfo]
   | some a=>simp [Op.equalIn,run_underlying hp,sizeOf,typeInfo,hte,run_sameAddr_same]
  ·cases u with
   | none=>simp [Op.equalIn,run_underlying hp,sizeOf,typeInfo]
   | some a=>simp [Op.equalIn,run_underlying hp,sizeOf,typeInfo]
 simp [Op.equal,Op.maxDepth,hd 9999]
theorem zIo {T:Tab G.P} {o:Oper} {rest:List Oper} {op:BinOp} {t yt te:TypeId} {x y:Operand} {p q:PV} {b g:Bool} {sz d:Nat} (ht:G.P.underlying t=some (.pointer te)) (hte:lku T.tys te=some (g,sz)) (ho:o.op=.binOp op t x y yt) (hg:gE all E o=some true) (hx:ev E x=some p) (hy:ev E y=some q) (hb:ptrE op p q=some b)
  (hd:o.dst=some d) (hlt:Nat.blt d G.fn.ntmps=true) (k:PO G m all rest K ((d,.v (.bool b))::E) S):PO G m all (o::rest) K E S:=by
 refine zFV hg fun r hr a w ⟨σ,φ,hp⟩=>?_
 have hti:=T.htys _ (zA6 hte)
 obtain ⟨j,hj⟩:∃j,G.P.info? te=some j:=by
  unfold tyOf at hti
  simp only at hti
  cases h:G.P.info? te with
  | none=>rw [h] at hti;simp at hti
  | some j=>exact ⟨j,rfl⟩
 have hxr:=zBI hp.env hx
 have hyr:=zBI hp.env hy
 have fin:∀u v:Option Addr,a.eval x=.pointer u->a.eval y=.pointer v->(u=v\/v=none)->(op=.eql/\b=decide (u=v)\/op=.neq/\b = !(decide (u=v)))->o.wp G.P a w (wpList G.P all (kwp G r K) rest) (kwp G r K):=by
  intro u v hu hv h1 h2
  have he:=zWE w ht hj u v h1
  have hrun:(execOp a.eval o).run G.P w=.ok (.value (.bool b)) w:=by
   rcases h2 with ⟨rfl,rfl⟩ | ⟨rfl,rfl⟩
   ·simp [execOp,ho,hu,hv,eqGuard,binOp,he]
   ·simp [execOp,ho,hu,hv,eqGuard,binOp,he]
  unfold Oper.wp
  rw [hrun,Oper.upon_value,hd]
  exact k r hr _ _ ⟨σ,φ,hp.put (zCB hlt) (.d (.v rfl))⟩
 unfold ptrE at hb
 split at hb
 ·obtain ⟨h1,_⟩:=hxr.flat_inv
  obtain ⟨h2,_⟩:=hyr.flat_inv
  refine fin none none h1 h2 (.inl rfl) ?_
  split at hb<;>simp at hb
  ·exact .inl ⟨rfl,by simp [<- hb]⟩
  ·exact .inr ⟨rfl,by simp [<- hb]⟩
 ·obtain ⟨h2,_⟩:=hyr.flat_inv
  generalize hu:a.eval x=u at hxr
  cases hxr with
  | loc hs =>
   refine fin _ none hu h2 (.inr rfl) ?_
   split at hb<;>simp at hb
   ·exact .inl ⟨rfl,by simp [<- hb]⟩
   ·exact .inr ⟨rfl,by simp [<- hb]⟩
  | d hd=>cases hd
 ·rename_i n1 o1 n2 o2
  cases hbe:(Nat.beq n1 n2&&Nat.beq o1 o2) with
  | false=>rw [hbe] at hb;cases hb
  | true =>
   rw [hbe,cond_true] at hb
   simp only [Bool.and_eq_true] at hbe
   have e1:=Nat.eq_of_beq_eq_true hbe.1
   have e2:=Nat.eq_of_beq_eq_true hbe.2
   subst e1 e2
   generalize hu:a.eval x=u at hxr
   generalize hv:a.eval y=v at hyr
   cases hxr with
   | d hd=>cases hd
   | loc hs =>
    cases hyr with
    | d hd=>cases hd
    | loc hs' =>
     rw [hs] at hs'
     cases hs'
     refine fin _ _ hu hv (.inl rfl) ?_
     split at hb<;>simp at hb
     ·exact .inl ⟨rfl,by simp [<- hb]⟩
     ·exact .inr ⟨rfl,by simp [<- hb]⟩
 ·cases hb
def quoW (k:IntKind) (a b:Int):Option Int:=if b=0 then none else some (k.wrap (a.tdiv b))
theorem zTE {o:Oper} {t yt:TypeId} {x y:Operand} {k:IntKind} {a b c:Int} (ho:o.op=.binOp .quo t x y yt) (hx:ev E x=some (.v (.int k a))) (hy:ev E y=some (.v (.int k b))) (hc:quoW k a b=some c)
  {σ : Nat->Value} {φ : Nat->Nat->Prop} {w:World} {ac:Act} (hp:Pre' G E S ac w σ φ):zB9 G S o σ φ ac w (.v (.int k c)):=by
 obtain ⟨e1,_⟩:=(zBI hp.env hx).flat_inv
 obtain ⟨e2,_⟩:=(zBI hp.env hy).flat_inv
 unfold quoW at hc
 split at hc
 ·cases hc
 rename_i hb
 cases hc
 have hrun:(execOp ac.eval o).run G.P w=.ok (.value (.int k (k.wrap (a.tdiv b)))) w:=by
  simp [execOp,ho,e1,e2,zEE,binOp,Op.intDiv,hb]
 unfold zB9
 rw [hrun]
 exact ⟨rfl,.d (.v rfl)⟩
theorem po_quo {o:Oper} {rest:List Oper} {t yt:TypeId} {x y:Operand} {k:IntKind} {a b:Int} {d:Nat} {f:Int->Option ρ} (ho:o.op=.binOp .quo t x y yt) (hg:gE all E o=some true) (hx:ev E x=some (.v (.int k a))) (hy:ev E y=some (.v (.int k b))) (hd:o.dst=some d) (hlt:Nat.blt d G.fn.ntmps=true)
  (kk:∀c,quoW k a b=some c->PO G (f c) all rest K ((d,.v (.int k c))::E) S):PO G (bnd (quoW k a b) f) all (o::rest) K E S :=
 zGD fun c hc=>zEi hg (fun _ _ _ _ hp=>zTE ho hx hy hc hp) hd hlt (kk c hc)
theorem zQK {P:Program} {t:TypeId} {ms:Array (String×TypeId)} (w:World) (ht:P.underlying t=some (.interface ms)) {b:Bool} {v:Value} (h:(b=false/\v=.nilIface)\/(b=true/\∃te u,v=.iface te u)):(Op.equal t v .nilIface).run P w=.ok (!b) w:=by
 have hd:∀d:Nat,(Op.equalIn (d+1) t v .nilIface).run P w=.ok (!b) w:=fun d=>by
  rcases h with ⟨rfl,rfl⟩ | ⟨rfl,te,u,rfl⟩<;>simp [Op.equalIn,run_underlying ht]
 simp [Op.equal,Op.maxDepth,hd 9999]
def errE:BinOp->Bool->Option Bool
 | .eql,b=>some (!b)
 | .neq,b=>some b
 | _,_=>none
theorem zTB {o:Oper} {op:BinOp} {t yt:TypeId} {ms:Array (String×TypeId)} {x:Operand} {b c:Bool} (ht:G.P.underlying t=some (.interface ms)) (ho:o.op=.binOp op t x (.const .nilIface) yt) (hx:ev E x=some (.err b)) (hc:errE op b=some c)
  {σ : Nat->Value} {φ : Nat->Nat->Prop} {w:World} {a:Act} (hp:Pre' G E S a w σ φ):zB9 G S o σ φ a w (.v (.bool c)):=by
 have hxr:=zBI hp.env hx
 have key:∀v,a.eval x=v->((b=false/\v=.nilIface)\/(b=true/\∃te u,v=.iface te u))->zB9 G S o σ φ a w (.v (.bool c)):=by
  intro v hv h
  have he:=zQK w ht h
  have hn:a.eval (.const .nilIface)=.nilIface:=rfl
  have hrun:(execOp a.eval o).run G.P w=.ok (.value (.bool c)) w:=by
   cases op<;>simp only [errE,Option.some.injEq] at hc<;>first | (cases hc;done) | skip
   ·subst hc
    rcases h with ⟨rfl,rfl⟩ | ⟨rfl,te,u,rfl⟩<;>simp [execOp,ho,hv,hn,eqGuard,binOp,he]
   ·subst hc
    rcases h with ⟨rfl,rfl⟩ | ⟨rfl,te,u,rfl⟩<;>simp [execOp,ho,hv,hn,eqGuard,binOp,he]
  unfold zB9
  rw [hrun]
  exact ⟨rfl,.d (.v rfl)⟩
 generalize hv:a.eval x=v at hxr
 cases hxr with
 | d hd=>cases hd with
  | err0=>exact key _ hv (.inl ⟨rfl,rfl⟩)
  | err1=>exact key _ hv (.inr ⟨rfl,_,_,rfl⟩)
theorem po_err {o:Oper} {rest:List Oper} {op:BinOp} {t yt:TypeId} {ms:Array (String×TypeId)} {x:Operand} {b c:Bool} {d:Nat} (ht:G.P.underlying t=some (.interface ms)) (ho:o.op=.binOp op t x (.const .nilIface) yt) (hg:gE all E o=some true) (hx:ev E x=some (.err b)) (hc:errE op b=some c)
  (hd:o.dst=some d) (hlt:Nat.blt d G.fn.ntmps=true) (k:PO G m all rest K ((d,.v (.bool c))::E) S):PO G m all (o::rest) K E S:=zEi hg (fun _ _ _ _ hp=>zTB ht ho hx hc hp) hd hlt k
theorem zII {T:Tab G.P} {o1 o2 o3:Oper} {rest:List Oper} {t u te:TypeId} {x:Operand} {n ty:Nat} {cs:List PV} {g:Bool} {sz d1 d2 d3:Nat} {f:FuncId} {fn:Func} {args:Array Operand} {tys:Array TypeId}
  (ht : G.P.underlying t = some (.pointer te)) (hu : G.P.underlying u = some .unsafePointer) (hte : lku T.tys te = some (g, sz)) (hs0 : Nat.blt 0 sz = true) (hf : G.P.funcs[f]? = some fn) (hname : (fn.name == "runtime.NumGoroutine") = false) (hbd : fn.body.isNone = true) (hnx : Extern.findNext fn = none) (hex : Extern.find fn = some Extern.AbiNoEscape.same)
  (ho1:o1.op=.convert t u x) (hg1:gE all E o1=some true) (hx:ev E x=some (.loc n 0)) (hb:lkS S n=some (.box ty cs)) (hc0:Nat.blt 0 cs.length=true) (hl:liesAt G.P G.P.depth ty (cs.length / G.P.cellsOf ty) 0 te 1=true) (hd1:o1.dst=some d1) (hlt1:Nat.blt d1 G.fn.ntmps=true)
  (ho2:o2.op=.call ⟨.value (.func f),args,tys⟩) (ha:args.toList=[.tmp d1]) (hg2:gE all ((d1,.junk)::E) o2=some true) (hd2:o2.dst=some d2) (hlt2:Nat.blt d2 G.fn.ntmps=true)
  (ho3:o3.op=.convert u t (.tmp d2)) (hg3:gE all ((d2,.junk)::(d1,.junk)::E) o3=some true) (hd3:o3.dst=some d3) (hlt3:Nat.blt d3 G.fn.ntmps=true)
  (k:PO G m all rest K ((d3,.loc n 0)::(d2,.junk)::(d1,.junk)::E) S):PO G m all (o1::o2::o3::rest) K E S:=by
 refine zFV hg1 fun r hr a w ⟨σ,φ,hp⟩=>?_
 have hti:=T.htys _ (zA6 hte)
 obtain ⟨j,hj,hjs⟩:∃j,G.P.info? te=some j/\j.size=sz:=by
  unfold tyOf at hti
  simp only at hti
  cases h:G.P.info? te with
  | none=>rw [h] at hti;simp at hti
  | some j =>
   cases h2:G.P.underlying te with
   | none=>rw [h,h2] at hti;simp at hti
   | some q=>rw [h,h2] at hti;simp at hti;exact ⟨j,rfl,hti.2⟩
 have hxr:=zBI hp.env hx
 rcases hp.inv.ok n _ (zBN hb) with hbk | hw
 rotate_left
 ·generalize a.eval x=v at hxr
  cases hxr with
  | loc hs=>rw [hw.noP] at hs;cases hs
  | d hd=>cases hd
 obtain ⟨b,us,g1,g2,g3,⟨⟨fr,g4,g5⟩,g6⟩⟩:=hbk
 have hv:a.eval x=.pointer (some ⟨b,0,none⟩):=by
  generalize a.eval x=v at hxr
  cases hxr with
  | loc hs =>
   rw [g1] at hs
   simp [hdrP] at hs
   subst hs;rfl
  | d hd=>cases hd
 have hloc:R σ w (Dof G.X φ w S) (.loc n 0) (.pointer (some ⟨b,0,none⟩)):=.loc (by rw [g1];rfl)
 have hsh:w.shape? b=some (ty,cs.length):=by simp [World.shape?,g4,g3]
 have h0:0<cs.length:=zCB hc0
 have hsz:=zCB hs0
 obtain ⟨args⟩:=args
 simp only at ha
 subst ha
 have hr1:(execOp a.eval o1).run G.P w=.ok (.value (.pointer (some ⟨b,0,none⟩))) w:=by
  have:=Lib.run_to_unsafe w ⟨b,0,none⟩ ht hu hj (by omega) hsh h0
  simp [execOp,ho1,hv,this]
 unfold Oper.wp
 rw [hr1,Oper.upon_value,hd1]
 have hp1:=hp.put (p:=.junk) (u:=.pointer (some ⟨b,0,none⟩)) (zCB hlt1) .junk
 have hw1:Region.wanted o2 (yielded all (a.put (some d1) (.pointer (some ⟨b,0,none⟩))).tmps)=true:=zNt hp1.env hg2
 unfold wpList
 rw [if_pos hw1]
 left
 have hev1:(a.put (some d1) (.pointer (some ⟨b,0,none⟩))).eval (.tmp d1)=.pointer (some ⟨b,0,none⟩):=zPK (by rw [hp.size];exact zCB hlt1)
 have hr2:(execOp (a.put (some d1) (.pointer (some ⟨b,0,none⟩))).eval o2).run G.P w=.ok (.value (.pointer (some ⟨b,0,none⟩))) w:=by
  have hcall:(callFunc f #[.pointer (some ⟨b,0,none⟩)]).run G.P w=.ok (.value (.pointer (some ⟨b,0,none⟩))) w:=by
   rw [run_callFunc_extern hf hname hbd hnx hex,Lib.run_noEscape];rfl
  have hevf:(a.put (some d1) (.pointer (some ⟨b,0,none⟩))).eval (.func f)=.func (.func f) #[] #[]:=rfl
  simp [execOp,ho2,resolve,invoke,Deferred.ofValue,hev1,hevf,hcall]
 unfold Oper.wp
 rw [hr2,Oper.upon_value,hd2]
 have hp2:=hp1.put (p:=.junk) (u:=.pointer (some ⟨b,0,none⟩)) (zCB hlt2) .junk
 have hw2:Region.wanted o3 (yielded all ((a.put (some d1) (.pointer (some ⟨b,0,none⟩))).put (some d2) (.pointer (some ⟨b,0,none⟩))).tmps)=true:=zNt hp2.env hg3
 unfold wpList
 rw [if_pos hw2]
 left
 have hev2:((a.put (some d1) (.pointer (some ⟨b,0,none⟩))).put (some d2) (.pointer (some ⟨b,0,none⟩))).eval (.tmp d2)=.pointer (some ⟨b,0,none⟩):=zPK (by rw [hp1.size];exact zCB hlt2)
 have hr3:(execOp ((a.put (some d1) (.pointer (some ⟨b,0,none⟩))).put (some d2) (.pointer (some ⟨b,0,none⟩))).eval o3).run G.P w=.ok (.value (.pointer (some ⟨b,0,none⟩))) w:=by
  have:=Lib.run_from_unsafe w ⟨b,0,none⟩ hu ht hj hsh hl
  simp [execOp,ho3,hev2,this]
 unfold Oper.wp
 rw [hr3,Oper.upon_value,hd3]
 exact k r hr _ _ ⟨σ,φ,hp2.put (zCB hlt3) hloc⟩
theorem zNd (enc:Int->List PV) (henc:∀i,enc i=[.v (.int .u8 i)]) (s:List UInt8) {w:World} {D:Nat->Prop}:∀(i:Nat) (c:PV) (x:Value),((zAS s).map enc).flatten[i]? = some c->(Lib.strCells ⟨⟨s⟩⟩)[i]? = some x->RD w D c x:=by
 intro i c x hc hx
 have e:((zAS s).map enc).flatten=(zAS s).map fun i=>PV.v (.int .u8 i):=by
  rw [show enc=fun i=>[PV.v (.int .u8 i)] from funext henc]
  induction zAS s with
  | nil=>rfl
  | cons a l ih=>simp [ih]
 rw [e] at hc
 simp only [Lib.strCells,zAS,List.map_map,List.getElem?_map,Option.map_eq_some_iff] at hc hx
 obtain ⟨b,hb,rfl⟩:=hc
 obtain ⟨b',hb',rfl⟩:=hx
 rw [hb] at hb'
 obtain rfl:=Option.some.inj hb'
 exact .v rfl
theorem zJZ {P:Program} {w:World} {t u ty e:TypeId} {i:TypeInfo} (ht:P.underlying t=some (.slice e)) (hu:P.underlying u=some .string) (hi:P.info? e=some i) (hz:i.zero=some (.int .u8 0)) (hsize:i.size=1) (hby:i.bytes=1)
  {v:Value} {n:Nat} {xs:List Value} (hown:w.ownsRow 0 e 1 v n xs) {s:ByteArray} (h63:n+s.size<=maxLen) (hbytes:n+s.size<=140737488355328) {v':Value} {w':World} (hr:(Builtin.append_ #[t,u] ty #[v,.string s]).run P w=.ok v' w') {b:Nat} (hb:v'.ownBlock=some b):v.ownBlock=some b\/w.heap.size<=b:=by
 have h63':n+s.size<=9223372036854775807:=by simp only [maxLen] at h63;omega
 rcases hown.2 with ⟨rfl,rfl⟩ | ⟨g,cap,cur,rfl,_,hg,hnc,hcm,hcs,htake⟩
 ·by_cases hm:s.size=0
  ·have hf:=Lib.run_firstCells_string (P:=P) w 1 s
   rw [hm] at hf
   have:(Builtin.append_ #[t,u] ty #[.slice none 0 0,.string s]).run P w=.ok (.slice none 0 0) w:=by
    simp [Builtin.append_,run_underlying ht,run_underlying hu,sizeOf,typeInfo,hi,hsize,Builtin.lenOf,hm,hf]
   rw [this] at hr;cases hr;simp [Value.ownBlock] at hb
  ·have:=run_append_nil_string (P:=P) w t u ty e i (.int .u8 0) ht hu hi hz s (by omega) (by omega) (by rw [hby];omega)
   rw [this] at hr;cases hr
   simp [Value.ownBlock] at hb;exact .inr (by omega)
 ·by_cases hroom:n+s.size<=cap
  ·have hcs':cur.size=cap:=by simpa using hcs
   have:=Lib.run_append_room_string (P:=P) w t u ty e i ht hu hi hsize g n cap cur hg s hroom (by omega)
   rw [this] at hr;cases hr
   exact .inl hb
  ·have holds:∀j u,xs[j]? = some u->w.cell? ((⟨g,0,none⟩:Addr).add j)=some u:=hown.cells (g:=g) rfl
   have hxl:xs.length=n:=by simpa using hown.1
   have:=Lib.run_append_grow_string (P:=P) w t u ty e i (.int .u8 0) ht hu hi hz ⟨g,0,none⟩ n cap xs (by rw [hsize];simpa using hxl) holds s (by omega) (by omega) (by rw [hby];exact growslice_fits (by omega) (by omega))
   rw [this] at hr;cases hr
   simp [Value.ownBlock] at hb;exact .inr (by omega)
theorem zKp {P:Program} {w:World} {t u ty e:TypeId} {i:TypeInfo} (ht:P.underlying t=some (.slice e)) (hu:P.underlying u=some .string) (hi:P.info? e=some i) (hz:i.zero=some (.int .u8 0)) (hsize:i.size=1) (hby:i.bytes=1)
  {v:Value} {n:Nat} {xs:List Value} (hown:w.ownsRow 0 e 1 v n xs) {s:ByteArray} (h63:n+s.size<=maxLen) (hbytes:n+s.size<=140737488355328) {v':Value} {w':World} (hr:(Builtin.append_ #[t,u] ty #[v,.string s]).run P w=.ok v' w') (hb:zFj v=true):zFj v'=true:=by
 have h63':n+s.size<=9223372036854775807:=by simp only [maxLen] at h63;omega
 have hg0:∀(a:Option Addr) (l k c:Nat),k<=c->0<k->zFj (.slice a l c)=true:=fun a l k c h1 h2=>by
  cases a with
  | none=>rfl
  | some a=>obtain ⟨c',rfl⟩:∃c',c=c'+1:=⟨c - 1,by omega⟩;rfl
 rcases hown.2 with ⟨rfl,rfl⟩ | ⟨g,cap,cur,rfl,_,hg,hnc,hcm,hcs,htake⟩
 ·by_cases hm:s.size=0
  ·have hf:=Lib.run_firstCells_string (P:=P) w 1 s
   rw [hm] at hf
   have:(Builtin.append_ #[t,u] ty #[.slice none 0 0,.string s]).run P w=.ok (.slice none 0 0) w:=by
    simp [Builtin.append_,run_underlying ht,run_underlying hu,sizeOf,typeInfo,hi,hsize,Builtin.lenOf,hm,hf]
   rw [this] at hr;cases hr;rfl
  ·have:=run_append_nil_string (P:=P) w t u ty e i (.int .u8 0) ht hu hi hz s (by omega) (by omega) (by rw [hby];omega)
   rw [this] at hr;cases hr
   exact hg0 _ _ _ _ (grownCap_ge w s.size 0 e) (by omega)
 ·by_cases hroom:n+s.size<=cap
  ·have hcs':cur.size=cap:=by simpa using hcs
   have:=Lib.run_append_room_string (P:=P) w t u ty e i ht hu hi hsize g n cap cur hg s hroom (by omega)
   rw [this] at hr;cases hr
   cases cap with
   | zero=>simp [zFj] at hb
   | succ c=>rfl
  ·have holds:∀j u,xs[j]? = some u->w.cell? ((⟨g,0,none⟩:Addr).add j)=some u:=hown.cells (g:=g) rfl
   have hxl:xs.length=n:=by simpa using hown.1
   have:=Lib.run_append_grow_string (P:=P) w t u ty e i (.int .u8 0) ht hu hi hz ⟨g,0,none⟩ n cap xs (by rw [hsize];simpa using hxl) holds s (by omega) (by omega) (by rw [hby];exact growslice_fits (by omega) (by omega))
   rw [this] at hr;cases hr
   exact hg0 _ _ _ _ (grownCap_ge w (n+s.size) cap e) (by omega)
theorem zIn {T:Tab G.P} {o:Oper} {rest:List Oper} {f:Unit->Option ρ} (enc:Int->List PV) (xs:List Int) {s:List UInt8} {args:Array Operand} {tys:Array TypeId} {t u n e:TypeId} {x y:Operand} {d:Nat} {E':Env} {S':Store} (henc:∀i,enc i=[.v (.int .u8 i)]) (he:Nat.blt e fixE=true)
  (ho:o.op=.call ⟨.builtin .append,args,tys⟩) (h1:args.toList=[x,y]) (h2:tys.toList=[t,u]) (hg:gE all E o=some true) (hx:ev E x=some (.ownb n)) (hb:lkS S n=some (.arr e 1 (xs.map enc))) (hy:ev E y=some (.v (.string ⟨⟨s⟩⟩))) (ht:lku T.els t=some (e,1,1)) (hu:lku T.bases u=some .string) (hz:lku T.zeros e=some (.int .u8 0))
  (hd:o.dst=some d) (hlt:Nat.blt d G.fn.ntmps=true) (hn:zEX G n=true) (hE:zE3 n E=some E') (hS:zEc n S=some S')
  (k:PO G (f ()) all rest K ((d,.ownb n)::E') ((n,.arr e 1 ((xs++zAS s).map enc))::S')):PO G (bnd (zBr 1 (xs.length+s.length)) f) all (o::rest) K E S:=by
 refine zGD fun u0 hu0=>zFV hg fun r hr a w ⟨σ,φ,hp⟩=>?_
 have hroom:=zME hu0
 have hmem:=zBN hb
 have hblk:=hp.inv.ok n _ hmem
 obtain ⟨xs',own,hxs,hfp⟩:=zQW he hblk
 have hxv:a.eval x = σ n/\zFj (σ n)=true:=by
  have:=zBI hp.env hx
  generalize a.eval x=v at this
  cases this with
  | ownb h=>exact ⟨rfl,h⟩
  | d hd=>cases hd
 obtain ⟨hxv,hbuf⟩:=hxv
 obtain ⟨hyv,_⟩:=(zBI hp.env hy).flat_inv
 obtain ⟨hel,inf,hinf,hsz,hby⟩:=zC2 (T.hels _ (zA6 ht))
 have hus:=zEB (T.hbases _ (zA6 hu))
 have hz':=T.hzeros _ (zA6 hz)
 simp only [hinf,Option.bind_some] at hz'
 have hss:(⟨⟨s⟩⟩:ByteArray).size=s.length:=rfl
 have hys:∀row∈(zAS s).map enc,row.length=1:=fun row h=>by
  obtain ⟨i,_,rfl⟩:=List.mem_map.1 h
  rw [henc];rfl
 rw [List.length_map] at own
 have hrun:∃v' w' news,(execOp a.eval o).run G.P w=.ok (.value v') w'/\(OwnR w' e 1 v' (xs.length+s.length) (xs'++news)\/w'.ownsRow 0 e 1 v' (xs.length+s.length) (xs'++news))/\w.grownBy w' (ownB (σ n)) /\
   (∀(i:Nat) (c:PV) (x:Value),((zAS s).map enc).flatten[i]? = some c->news[i]? = some x->RD w (Dof G.X φ w S) c x)/\(∀b,ownB v'=some b->(ownB (σ n)=some b\/w.heap.size<=b)/\b<w'.heap.size)/\zFj v'=true:=by
  obtain ⟨args⟩:=args
  obtain ⟨tys⟩:=tys
  simp only at h1 h2
  subst h1 h2
  have hex:∀v' w',(Builtin.append_ #[t,u] o.type #[σ n,.string ⟨⟨s⟩⟩]).run G.P w=.ok v' w'->(execOp a.eval o).run G.P w=.ok (.value v') w':=fun v' w' h=>by
   simp [execOp,ho,resolve,invoke,builtin,hxv,hyv,h]
  rcases own with ⟨own,hob⟩ | ⟨k0,x0,a0,hv⟩
  rotate_left
  ·rw [hv] at hbuf;simp [zFj] at hbuf
  obtain ⟨v',w',g1,g2,g3,_⟩:=Lib.run_append_own_string (P:=G.P) w 0 t u o.type e inf hel hus hinf hz' hsz hby (σ n) xs.length xs' own ⟨⟨s⟩⟩ (by rw [hss];simp only [maxLen];omega) (by rw [hss];omega) (Nat.zero_le _)
  exact ⟨v',w',Lib.strCells ⟨⟨s⟩⟩,hex _ _ g1,.inr g2,by rw [hob];exact g3,zNd enc henc s,fun b hb=>⟨by rw [hob];exact zJZ hel hus hinf hz' hsz hby own (by rw [hss];simp only [maxLen];omega) (by rw [hss];omega) g1 (zIk hb),(g2.lt b (zIk hb)).2⟩,zKp hel hus hinf hz' hsz hby own (by rw [hss];simp only [maxLen];omega) (by rw [hss];omega) g1 hbuf⟩
 obtain ⟨v',w',news,r1,r2,r3,r4,r5,r6⟩:=hrun
 unfold Oper.wp
 rw [r1,Oper.upon_value,hd]
 have hkeep:∀b,b<w.heap.size->((∃k0,(n,k0)∈S)->¬φ n b)->w'.heap[b]? = w.heap[b]? := fun b hb hf=>r3.block b hb fun e=>hf ⟨_,hmem⟩ ((hfp b).2 e.symm)
 have hlay:=hp.lay (hdr:=v') (w':=w') (fp:=fun b=>ownB v'=some b) (k:=.arr e 1 ((xs++zAS s).map enc)) hn hE hS r3.size (fun b hb=>?_) hkeep r3.os r3.tape r3.output fun D' hD=>?_
 ·refine k r hr _ _ ⟨_,_,hlay.put (zCB hlt) ?_⟩
  have:R (upd σ n v') w' (Dof G.X (upd φ n fun b=>ownB v'=some b) w' ((n,.arr e 1 ((xs++zAS s).map enc))::S')) (.ownb n) (upd σ n v' n):=.ownb (by rw [zBw];exact r6)
  rw [zBw] at this
  exact this
 ·have hlt':=(r5 b hb).2
  refine ⟨hlt',?_⟩
  rcases Nat.lt_or_ge b w.heap.size with h | h
  ·right
   exact ⟨⟨_,hmem⟩,(hfp b).2 ((r5 b hb).1.resolve_right (by omega))⟩
  ·exact .inl h
 ·refine zRp (xs:=xs'++news) he ?_ ?_ ?_
  ·intro row hrow
   rw [List.map_append] at hrow
   rcases List.mem_append.1 hrow with h | h
   ·exact hblk.1 row h
   ·exact hys row h
  ·simpa [zAS] using r2
  ·intro i c u hc hu
   rw [List.map_append,flatten_append] at hc
   have hl1:xs'.length=(xs.map enc).flatten.length:=by rw [own.len,zFN hblk.1];simp
   rcases Nat.lt_or_ge i xs'.length with h | h
   ·rw [List.getElem?_append_left (by omega)] at hc
    rw [List.getElem?_append_left h] at hu
    exact (hxs i c u hc hu).mono hD
   ·rw [List.getElem?_append_right (by omega)] at hc
    rw [List.getElem?_append_right h] at hu
    rw [<- hl1] at hc
    exact (r4 _ c u hc hu).mono hD
theorem po_toB {ops:List Oper} (n j:Nat) {e size:Nat} {rows:List (List PV)} (hj:lk E j=some (.own n)) (hb:lkS S n=some (.arr e size rows)) (hr:rows≠[]) (k:PO G m all ops K ((j,.ownb n)::E) S):PO G m all ops K E S:=by
 refine fun r hr' a w ⟨σ,φ,hp⟩=>k r hr' a w ⟨σ,φ,{ hp with env:=fun t p ht=>?_ }⟩
 simp only [lk] at ht
 by_cases e0:j=t
 ·subst e0
  simp at ht;subst ht
  obtain ⟨u,hu,hru⟩:=hp.env j _ hj
  refine ⟨u,hu,?_⟩
  cases hru with
  | d hd=>cases hd
  | own h =>
   refine .ownb ?_
   obtain ⟨_,h0⟩:=hp.inv.ok n _ (zBN hb)
   rcases h0 with ⟨h1,_⟩ | ⟨b,us,cap,h1,_,_,⟨_,h2⟩,_⟩
   ·exact absurd h1 hr
   ·rw [h1]
    obtain ⟨c',rfl⟩:∃c',cap=c'+1:=⟨cap - 1,by omega⟩
    rfl
 ·simp only [zA5 e0,cond_false] at ht
  exact hp.env t p ht
theorem zMG {P:Program} {w:World} {v:Value} (h:zFj v=true) (ts:Array TypeId) (ty:TypeId):∃p,(Builtin.unsafeSliceData_ ts ty #[v]).run P w=.ok (.pointer p) w/\zVP v p:=by
 unfold zFj at h
 split at h
 ·exact ⟨none,rfl,fun a l c e=>by cases e;rfl⟩
 ·exact ⟨_,rfl,fun a l c e=>by cases e;rfl⟩
 ·cases h
theorem zHW {o:Oper} {rest:List Oper} {args:Array Operand} {tys:Array TypeId} {x:Operand} {n d:Nat} (ho:o.op=.call ⟨.builtin .unsafeSliceData,args,tys⟩) (h1:args.toList=[x]) (hg:gE all E o=some true) (hx:ev E x=some (.ownb n))
  (hd:o.dst=some d) (hlt:Nat.blt d G.fn.ntmps=true) (k:PO G m all rest K ((d,.dat n)::E) S):PO G m all (o::rest) K E S:=by
 refine zFV hg fun r hr a w ⟨σ,φ,hp⟩=>?_
 obtain ⟨args⟩:=args
 simp only at h1
 subst h1
 have hxr:=zBI hp.env hx
 have fin:∀v,a.eval x=v->zFj v=true->v = σ n->o.wp G.P a w (wpList G.P all (kwp G r K) rest) (kwp G r K):=by
  intro v hv hb hs
  obtain ⟨p,h1,h2⟩:=zMG (P:=G.P) (w:=w) hb tys o.type
  have hrun:(execOp a.eval o).run G.P w=.ok (.value (.pointer p)) w:=by
   simp [execOp,ho,resolve,invoke,builtin,hv,h1]
  unfold Oper.wp
  rw [hrun,Oper.upon_value,hd]
  exact k r hr _ _ ⟨σ,φ,hp.put (zCB hlt) (.dat (hs▸h2))⟩
 generalize hv:a.eval x=v at hxr
 cases hxr with
 | ownb h=>exact fin _ hv h rfl
 | d hd=>cases hd
theorem zJU {P:Program} {w:World}:∀(l:List Int) (a:Addr) (acc:ByteArray),(∀j x,l[j]? = some x->w.cell? (a.add j)=some (.int .u8 x)) ->
  (loadBytes a acc l.length).run P w=.ok ⟨acc.data++(zEd l).toArray⟩ w
 | [],a,acc,_=>by simp [loadBytes,zEd]
 | x::l,a,acc,h=>by
  have h0:w.cell? a=some (.int .u8 x):=by
   have:=h 0 x rfl
   simpa [Addr.add] using this
  have ih:=zJU (P:=P) (w:=w) l (a.add 1) (acc.push x.toNat.toUInt8) (fun j y hy=>by
   have:=h (j+1) y (by simpa using hy)
   rw [zIw,Nat.add_comm];exact this)
  simp only [List.length_cons,loadBytes,Sem.run_bind,Go.run_load,h0,Result.andThen]
  rw [ih]
  congr 1
  apply ByteArray.ext
  simp [ByteArray.push,zEd]
theorem zNL {P:Program} {w:World} (pt it ty e:TypeId) (hp:P.underlying pt=some (.pointer e)) (hc:P.cellsOf e=1) (g cells:Nat) (hsh:w.shape? g=some (e,cells)) (l:List Int) (h0:l≠[]) (hn:l.length<=cells) (h63:l.length<=9223372036854775807)
  (hcell:∀j x,l[j]? = some x->w.cell? ((⟨g,0,none⟩:Addr).add j)=some (.int .u8 x)) :
  (Builtin.unsafeString_ #[pt,it] ty #[.pointer (some ⟨g,0,none⟩),.int .i64 l.length]).run P w=.ok (.string ⟨(zEd l).toArray⟩) (w.freeze ⟨g,0,none⟩ l.length):=by
 have hl:l.length≠0:=by simpa using h0
 have hlb:=zJU (P:=P) (w:=w) l ⟨g,0,none⟩ .empty hcell
 have hlies:=Lib.liesAt_bytes (P:=P) hc (cells / P.cellsOf e) l.length (by rw [hc];simpa using hn)
 have h63':¬(9223372036854775807:Int)<(l.length:Int):=by omega
 have hdef:Builtin.unsafeString_ #[pt,it] ty #[.pointer (some ⟨g,0,none⟩),.int .i64 l.length] =
   (do
    let n <- asInt (.int .i64 l.length)
    if n < 0 then runtimePanic (.error "unsafe.String: len out of range")
    if n > IntKind.i64.max then unsupported (.unsafePointer "String: a length above the largest int")
    if n=0 then pure (.string .empty)
    else if <- variablesAt ⟨g,0,none⟩ (<- elemOf pt) n.toNat then do
     let s <- loadBytes ⟨g,0,none⟩ .empty n.toNat
     freeze ⟨g,0,none⟩ n.toNat
     pure (.string s)
    else unsupported (.unsafePointer "String: not so many bytes at ptr")) := rfl
 rw [hdef]
 have hmax:IntKind.i64.max=9223372036854775807:=rfl
 have hneg:¬(l.length:Int)<0:=by omega
 simp [asInt,asIntOf,hmax,h63',hneg,hl,variablesAt,hsh,elemOf,run_underlying hp,hlies,hlb]
theorem zOD {n e size:Nat} {rows:List (List PV)} {E':Env} {S':Store} (hb:lkS S n=some (.arr e size rows)) (hE:frzE n (.sl size false rows) E=some E') (hS:frzS n (.sl size false rows) S=some S') {a:Act} {w w':World} {σ : Nat->Value} {φ : Nat->Nat->Prop}
  (h:Pre' G E S a w σ φ) (hos:w'.os=w.os) (htp:w'.tape=w.tape) (hou:w'.output=w.output) (hsz:w'.heap.size=w.heap.size) (hk:∀b,¬φ n b->w'.heap[b]? = w.heap[b]?) (hc:∀a v,w.cell? a=some v->w'.cell? a=some v):Pre' G E' S' a w' σ φ := by
 have hmem:=zBN hb
 have hsm:=zLo hS
 have hF:∀b,foot φ S' b->foot φ S b:=by
  rintro b ⟨m,k,h1,h2⟩
  obtain ⟨_,k0,h3,_⟩:=hsm m k h1
  exact ⟨m,k0,h3,h2⟩
 have hD0:∀b,Dof G.X φ w S b->Dof G.X φ w S' b:=fun b ⟨h1,h2,h3⟩=>⟨h1,h2,fun m k hm hf=>by
  obtain ⟨m',k',h4,h5⟩:=hF b ⟨m,k,hm,hf⟩
  exact h3 m' k' h4 h5⟩
 have hDw:∀b,Dof G.X φ w S' b->Dof G.X φ w' S' b:=fun b ⟨h1,h2,h3⟩=>⟨by omega,h2,h3⟩
 have hD:∀b,Dof G.X φ w S b->Dof G.X φ w' S' b/\w'.heap[b]? = w.heap[b]? := fun b hb=>⟨hDw b (hD0 b hb),hk b fun hf=>hb.2.2 n _ hmem hf⟩
 have hn:∀b,φ n b->Dof G.X φ w S' b:=fun b hb=>by
  obtain ⟨h1,h2⟩:=h.inv.lt b ⟨n,_,hmem,hb⟩
  refine ⟨h1,h2,fun m k hm hf=>?_⟩
  obtain ⟨hne,k0,h3,_⟩:=hsm m k hm
  exact h.inv.disj m n k0 _ h3 hmem hne b hf hb
 have hq:RD w' (Dof G.X φ w' S') (.sl size false rows) (σ n):=(zOV hD0 hn (h.inv.ok n _ hmem)).cells hDw hc
 refine ⟨h.dk fun b _ hf=>hk b fun hf'=>hf ⟨n,_,hmem,hf'⟩,h.size,fun t p ht=>?_,⟨(zI3 hS).nodup h.inv.nodup,fun b hb=>by rw [hsz];exact h.inv.xlt b hb,fun b hb=>by rw [hsz];exact h.inv.lt b (hF b hb),fun m1 m2 k1 k2 h1 h2=>?_,fun m k hm=>?_⟩,
  ⟨hos.trans h.fr.os,htp.trans h.fr.tape,hou.trans h.fr.output,by rw [hsz];exact h.fr.size,fun b hb hx=>(hk b fun hf=>hx (h.new b ⟨n,_,hmem,hf⟩ hb)).trans (h.fr.block b hb hx)⟩,h.agree,fun b hb=>h.new b (hF b hb)⟩
 ·rw [zNs hE] at ht
  cases hl:lk E t with
  | none=>simp [hl] at ht
  | some p0 =>
   obtain ⟨u,hu,hr⟩:=h.env t p0 hl
   simp only [hl,Option.map_some,Option.some.injEq] at ht
   exact ⟨u,hu,zI4 (fun _ h=>h) hq (hr.mono hD) ht⟩
 ·obtain ⟨_,k01,h3,_⟩:=hsm m1 k1 h1
  obtain ⟨_,k02,h4,_⟩:=hsm m2 k2 h2
  exact h.inv.disj m1 m2 k01 k02 h3 h4
 ·obtain ⟨hne,k0,h3,hkk⟩:=hsm m k hm
  have hbk:∀b,φ m b->w'.heap[b]? = w.heap[b]? := fun b hb=>hk b fun hf=>h.inv.disj m n k0 _ h3 hmem hne b hb hf
  rcases hkk with ⟨rfl,hnb⟩ | ⟨ty,cells,cells',rfl,rfl,hc'⟩
  ·exact BlkOk.next hD hbk (h.inv.ok m _ h3) fun ty cells e=>absurd e (hnb ty cells)
  ·rcases h.inv.ok m _ h3 with hbk2 | hw
   rotate_left
   ·obtain ⟨l1,l2⟩:=zKL hc'
    refine .inr (hw.map l1 (fun s r x h0=>by rw [l2 0,h0];rfl) (fun i c c' u g1 g2 hr=>?_) (fun p u hr=>hr.mono hD) hbk)
    rw [l2 i,g1] at g2
    simp only [Option.map_some,Option.some.injEq] at g2
    exact zI4 (fun _ h=>h) hq (hr.mono hD) g2
   obtain ⟨b,us,g1,g2,g3,⟨⟨fr,g4,g4'⟩,g5⟩⟩:=hbk2
   obtain ⟨l1,l2⟩:=zKL hc'
   refine .inl ⟨b,us,g1,g2,by rw [g3,l1],⟨fr,(hbk b ((g2 b).2 rfl)).trans g4,g4'⟩,fun i c u hci hu=>?_⟩
   rw [l2 i] at hci
   cases hl:cells[i]? with
   | none=>simp [hl] at hci
   | some p0 =>
    simp only [hl,Option.map_some,Option.some.injEq] at hci
    exact zI4 (fun _ h=>h) hq ((g5 i p0 u hl hu).mono hD) hci
theorem zNq (w:World) (p:Addr) (n:Nat) (a:Addr):(w.freeze p n).cell? a=w.cell? a:=by
 unfold World.freeze
 split
 ·rfl
 ·unfold World.cell?
  simp only [Array.getElem?_modify]
  by_cases h:p.block=a.block
  ·rw [if_pos h]
   cases hb:w.heap[a.block]? with
   | none=>rfl
   | some o=>cases o<;>rfl
  ·rw [if_neg h]
theorem zOo (enc:Int->List PV) (henc:∀i,enc i=[.v (.int .u8 i)]):∀xs:List Int,(xs.map enc).flatten=xs.map fun i=>PV.v (.int .u8 i)
 | []=>rfl
 | x::xs=>by simp [henc,zOo enc henc xs]
theorem zIJ {o:Oper} {rest:List Oper} (enc:Int->List PV) (xs:List Int) {args:Array Operand} {tys:Array TypeId} {pt it:TypeId} {x y:Operand} {n e d:Nat} {E':Env} {S':Store} (henc:∀i,enc i=[.v (.int .u8 i)])
  (ho:o.op=.call ⟨.builtin .unsafeString,args,tys⟩) (h1:args.toList=[x,y]) (h2:tys.toList=[pt,it]) (hg:gE all E o=some true) (hx:ev E x=some (.dat n)) (hy:ev E y=some (.v (.int .i64 ((xs.length:Nat):Int)))) (hb:lkS S n=some (.arr e 1 (xs.map enc)))
  (hpt:G.P.underlying pt=some (.pointer (e % fixE))) (hc1:Nat.beq (G.P.cellsOf (e % fixE)) 1=true) (hE:frzE n (.sl 1 false (xs.map enc)) E=some E') (hS:frzS n (.sl 1 false (xs.map enc)) S=some S')
  (hd:o.dst=some d) (hlt:Nat.blt d G.fn.ntmps=true) (k:PO G m all rest K ((d,.v (.string ⟨⟨zEd xs⟩⟩))::E') S'):PO G m all (o::rest) K E S:=by
 refine zFV hg fun r hr a w ⟨σ,φ,hp⟩=>?_
 obtain ⟨args⟩:=args
 obtain ⟨tys⟩:=tys
 simp only at h1 h2
 subst h1 h2
 obtain ⟨hyv,_⟩:=(zBI hp.env hy).flat_inv
 have hxr:=zBI hp.env hx
 obtain ⟨p,hxv,hdat⟩:∃p,a.eval x=.pointer p/\zVP (σ n) p:=by
  generalize a.eval x=v at hxr
  cases hxr with
  | dat h=>exact ⟨_,rfl,h⟩
  | d hd=>cases hd
 have fin:∀w',(Builtin.unsafeString_ #[pt,it] o.type #[.pointer p,.int .i64 ((xs.length:Nat):Int)]).run G.P w=.ok (.string ⟨⟨zEd xs⟩⟩) w'->w'.os=w.os->w'.tape=w.tape->w'.output=w.output->w'.heap.size=w.heap.size->(∀b,¬φ n b->w'.heap[b]? = w.heap[b]?)->(∀a v,w.cell? a=some v->w'.cell? a=some v) ->
   o.wp G.P a w (wpList G.P all (kwp G r K) rest) (kwp G r K):=by
  intro w' hrun q1 q2 q3 q4 q5 q6
  have hrun':(execOp a.eval o).run G.P w=.ok (.value (.string ⟨⟨zEd xs⟩⟩)) w':=by
   simp [execOp,ho,resolve,invoke,builtin,hxv,hyv,hrun]
  unfold Oper.wp
  rw [hrun',Oper.upon_value,hd]
  exact k r hr _ _ ⟨σ,φ,(zOD hb hE hS hp q1 q2 q3 q4 q5 q6).put (zCB hlt) (.d (.v rfl))⟩
 by_cases h0:xs=[]
 ·subst h0
  exact fin w (Lib.run_unsafeString_none w pt it o.type p) rfl rfl rfl rfl (fun _ _=>rfl) (fun _ _ h=>h)
 ·obtain ⟨_,hk⟩:=hp.inv.ok n _ (zBN hb)
  rcases hk with ⟨h1,_⟩ | ⟨b,us,cap,hhd,hfp,hul,⟨hle,_⟩,hcm,⟨fr,hh,_⟩,hcs⟩
  ·exact absurd (List.map_eq_nil_iff.1 h1) h0
  ·rw [List.length_map] at hhd hle
   have hpe:=hdat _ _ _ hhd
   subst hpe
   have hfl:=zOo enc henc xs
   have hcell:∀j i,xs[j]? = some i->w.cell? ((⟨b,0,none⟩:Addr).add j)=some (.int .u8 i):=fun j i hj=>by
    have hj':=(List.getElem?_eq_some_iff.1 hj).1
    have hju:j<us.length:=by rw [hul];omega
    have:=hcs j (.v (.int .u8 i)) us[j] (by rw [hfl,List.getElem?_map,hj];rfl) (List.getElem?_eq_getElem hju)
    have hv:=(R.d (σ := σ) this).flat_inv.1
    rw [zD1,zCY hh]
    simp [List.getElem?_eq_getElem hju,hv]
   refine fin (w.freeze ⟨b,0,none⟩ xs.length) (zNL pt it o.type (e % fixE) hpt (Nat.eq_of_beq_eq_true hc1) b us.length (by simp [World.shape?,hh]) xs h0 (by rw [hul];omega) (by simp only [maxLen] at hcm;omega) hcell) ?_ ?_ ?_ ?_ ?_ ?_
   ·unfold World.freeze;split<;>rfl
   ·unfold World.freeze;split<;>rfl
   ·unfold World.freeze;split<;>rfl
   ·unfold World.freeze;split<;>simp
   ·intro b' hb'
    have:b≠b':=fun e=>hb' ((hfp b').2 e.symm)
    unfold World.freeze
    split
    ·rfl
    ·simp [Array.getElem?_modify,this]
   ·intro a v h;rw [zNq];exact h
end
end Go.Pw
