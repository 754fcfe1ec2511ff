/- Contracts of functions that turn nothing of what was there, out of the shelf's. No program is named here. -/
import Derived.Test.YtoboimmgglnjfaaGreatDoorNil
import Derived.Below
import Derived.Lib.LaidTab
import Derived.Stop.LaidErr
namespace Go.Pw
open Go
theorem zOt {w w':World} (h:RowKit.Below w.heap.size w w'):Fr w (fun _=>False) w':=⟨h.os,h.tape,h.output,h.size,fun b hb _=>h.block b hb⟩
theorem zJh {L:World->Prop} {P:Program} {f:FuncId} {ps:List PV} {us:List Value} {r:PV} (hps:ps=us.map PV.v) (hfl:us.all flat=true)
  (h:∀w,L w->Calls P f ⟨us⟩ w fun e w'=>∃u,e=.returned u/\RowKit.Below w.heap.size w w'/\RD w' (fun b=>w.heap.size<=b/\b<w'.heap.size) r u):DC L P f ps r:=by
 subst hps
 intro X σ φ w vs hl hi ha
 have:vs=us:=by
  apply List.ext_getElem?
  intro i
  obtain ⟨l1,l2⟩:=ha
  rw [List.length_map] at l1
  rcases Nat.lt_or_ge i us.length with hlt | hge
  ·have hv:i<vs.length:=by omega
   have:=l2 i (.v us[i]) vs[i] (by rw [List.getElem?_map,List.getElem?_eq_getElem hlt];rfl) (List.getElem?_eq_getElem hv)
   rw [List.getElem?_eq_getElem hlt,List.getElem?_eq_getElem hv,this.flat_inv.1]
  ·rw [List.getElem?_eq_none (by omega),List.getElem?_eq_none hge]
 subst this
 refine (h w hl.here).mono ?_
 rintro e w' ⟨u,rfl,hb,hr⟩
 have hsz:=hb.size
 have hfr:=zOt hb
 have hx:∀b,X b->b<w.heap.size:=hi.xlt
 have hn:∀b,¬foot (fun _ _=>False) ([]:Store) b:=fun b ⟨n,k,hm,_⟩=>by cases hm
 have hn2:∀b,¬foot φ ([]:Store) b:=fun b ⟨n,k,hm,_⟩=>by cases hm
 have hR:RD w' (Dof X (fun _ _=>False) w' []) r u:=hr.mono fun b hb=>⟨⟨hb.2,fun h=>by have:=hx b h;omega,fun n k hm=>by cases hm⟩,rfl⟩
 have hI:Inv X σ (fun _ _=>False) w' []:=⟨by simp,fun b hb=>by have:=hx b hb;omega,fun b hf=>absurd hf (hn b),fun _ _ _ _ h=>(by cases h),fun _ _ h=>(by cases h)⟩
 exact ⟨r,[],σ,fun _ _=>False,u,rfl,⟨rfl,rfl⟩,hI,.d hR,⟨hfr.os,hfr.tape,hfr.output,hfr.size,fun b hb _=>hfr.block b hb fun h=>h⟩,fun n hn=>(by cases hn),fun b hf=>absurd hf (hn b)⟩
theorem zKu (w:World):RowKit.Below w.heap.size w w:=RowKit.Below.refl _ w
theorem zTu {w:World} {b:Nat} {e:TypeId} {fr:Nat×Nat} {l:List (List UInt8)} (hw:w.heap[b]? = some (.cells (l.map fun x=>Value.string ⟨⟨x⟩⟩).toArray e fr)) (hl:l.length<=maxLen) {D:Nat->Prop} (hD:D b) :
  RD w D (.sl 1 false (l.map fun x=>[PV.v (.string ⟨⟨x⟩⟩)])) (.slice (some ⟨b,0,none⟩) l.length l.length):=by
 by_cases h0:l=[]
 ·subst h0;exact .nil (by simp [maxLen]) (by simp)
 have hlen:(l.map fun x=>[PV.v (.string ⟨⟨x⟩⟩)]).length=l.length:=by simp
 have row:∀(i:Nat) (r:List PV) (k:Nat) (c:PV),(l.map fun x=>[PV.v (.string ⟨⟨x⟩⟩)])[i]? = some r->r[k]? = some c->∃x,l[i]? = some x/\k=0/\c=.v (.string ⟨⟨x⟩⟩):=fun i r k c hr hc=>by
  rw [List.getElem?_map] at hr
  obtain ⟨x,h1,rfl⟩:=Option.map_eq_some_iff.1 hr
  cases k with
  | zero=>simp at hc;exact ⟨x,h1,rfl,hc.symm⟩
  | succ k=>simp at hc
 have hc:∀(i:Nat) (x:List UInt8),l[i]? = some x->w.cell? (Addr.add ⟨b,0,none⟩ i)=some (.string ⟨⟨x⟩⟩):=fun i x hx=>by
  have:(l.map fun x=>Value.string ⟨⟨x⟩⟩).toArray[i]? = some (.string ⟨⟨x⟩⟩):=by simp [hx]
  unfold Addr.add
  by_cases hi:i=0
  ·subst hi;simp [World.cell?,hw,hx]
  ·simp [hi,World.cell?,hw,hx]
 have:=RD.sl (w:=w) (D:=D) (size:=1) (full:=false) (rows:=l.map fun x=>[PV.v (.string ⟨⟨x⟩⟩)]) (a:=⟨b,0,none⟩) (cap:=l.length) (fun j=>match l[j]? with | some x=>.string ⟨⟨x⟩⟩ | none=>undef)
  (by omega) hl (by simp) hD (fun r hr=>by obtain ⟨x,_,rfl⟩:=List.mem_map.1 hr;rfl)
  (fun i r k c hr hk=>by
   obtain ⟨x,h1,rfl,rfl⟩:=row i r k c hr hk
   simp only [Nat.mul_one,Nat.add_zero,h1]
   exact hc i x h1)
  (fun i r k c hr hk=>by
   obtain ⟨x,h1,rfl,rfl⟩:=row i r k c hr hk
   simp only [Nat.mul_one,Nat.add_zero,h1]
   exact .v rfl)
 rwa [hlen] at this
theorem zUK {P:Program} {n:String} {cs:Array Value} {W w':World} (hk:∀b,b<W.heap.size->w'.heap[b]? = W.heap[b]?) (h:W.var? P n=some cs):w'.var? P n=some cs:=by
 unfold World.var? at h ⊢
 cases hg:P.globalNamed n with
 | none=>simp [hg] at h
 | some g =>
  simp only [hg,Option.bind_some] at h ⊢
  have hlt:g<W.heap.size:=by
   rcases Nat.lt_or_ge g W.heap.size with h' | h'
   ·exact h'
   ·simp [Array.getElem?_eq_none h'] at h
  rw [hk g hlt];exact h
theorem zPi {P:Program} {n:String} {k:IntKind} {zs:List Int} {W w':World} (hk:∀b,b<W.heap.size->w'.heap[b]? = W.heap[b]?) (h:Lib.TabIs P W n k zs):Lib.TabIs P w' n k zs:=zUK hk h
def zRA (w:World) (g:Nat):Prop:=∃ev,w.cell? ⟨g,0,none⟩=some ev/\(ev=.nilIface\/∃te pe,ev=.iface te pe)
theorem zOp {g:Nat} {W w':World} (hk:∀b,b<W.heap.size->w'.heap[b]? = W.heap[b]?) (h:zRA W g):zRA w' g:=by
 obtain ⟨ev,h1,h2⟩:=h
 refine ⟨ev,?_,h2⟩
 have hl:g<W.heap.size:=Classical.byContradiction fun h=>by
  simp only [World.cell?,Array.getElem?_eq_none (Nat.le_of_not_lt h)] at h1;cases h1
 simp only [World.cell?,hk g hl] at h1 ⊢
 exact h1
theorem zUj {P:Program} {n nm:String} {d:DataW Unit} {r:List (String×DataW Unit)} {W:World} {g:Nat} {ti:TypeId} {ms:Array (String×TypeId)} (h:laidMet P ((n,.iface nm d)::r) W)
  (hg:P.globalNamed n=some g) (ht:(P.globals[g]?).map (·.type)=some ti) (hi:P.underlying ti=some (.interface ms)):zRA W g:=by
 obtain ⟨ps,⟨g0,t0,cs0,f0,p0,q0,hg0,ht0,hv0,hd0,_,e0⟩,_,hrows⟩:=h
 obtain rfl:=Option.some.inj (hg.symm.trans hg0)
 obtain rfl:=Option.some.inj (ht.symm.trans ht0)
 obtain ⟨f',u,v,hc,_,_⟩:=iface_of_trod hi hd0
 have:=World.var?_cell hg hv0 0
 refine ⟨.iface u v,?_,.inr ⟨u,v,rfl⟩⟩
 have e:cs0 = #[.iface u v]:=by cases cs0;simp_all
 subst e
 simpa using this
end Go.Pw
