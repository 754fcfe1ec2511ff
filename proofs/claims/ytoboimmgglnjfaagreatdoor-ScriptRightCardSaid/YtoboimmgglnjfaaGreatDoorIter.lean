/- Texts sign by sign. No program is named here. -/
import Derived.Test.YtoboimmgglnjfaaGreatDoorStr
import Derived.Laws.RangeAny
namespace Go.Pw
open Go
def zGw (s:List UInt8) (p:Nat):Int:=((Utf8.decode ⟨⟨s⟩⟩ p).1:Nat)
def zIC (s:List UInt8) (p:Nat):Nat:=(Utf8.decode ⟨⟨s⟩⟩ p).2
section
variable {ρ : Type} {G:Ctx ρ} {m:Option ρ} {K:List (Kont ρ)} {E:Env} {S:Store} {all:Array Oper}
theorem zTn {T:Tab G.P} {o:Oper} {rest:List Oper} (n:Nat) {t:TypeId} {x:Operand} {s:List UInt8} {d:Nat} {E':Env} {S':Store} (ho:o.op=.range t x) (hg:gE all E o=some true) (hx:ev E x=some (.v (.string ⟨⟨s⟩⟩))) (ht:lku T.bases t=some .string)
  (hd:o.dst=some d) (hlt:Nat.blt d G.fn.ntmps=true) (hn:zEX G n=true) (hE:zE3 n E=some E') (hS:zEc n S=some S') (k:PO G m all rest K ((d,.loc n 0)::E') ((n,.siter ⟨⟨s⟩⟩ 0)::S')):PO G m all (o::rest) K E S:=by
 refine zFV hg fun r hr a w ⟨σ,φ,hp⟩=>?_
 obtain ⟨h1,_⟩:=(zBI hp.env hx).flat_inv
 have hrun:(execOp a.eval o).run G.P w=.ok (.value (.pointer (some ⟨w.heap.size,0,none⟩))) (w.alloc (.stringIter ⟨⟨s⟩⟩ 0)):=by
  simp only [execOp,ho,h1,Sem.run_bind,run_range_string w t _ (zEB (T.hbases _ (zA6 ht))),Result.andThen_ok]
  rfl
 unfold Oper.wp
 rw [hrun,Oper.upon_value,hd]
 exact k r hr _ _ ⟨_,_,(hp.new_ (hdr:=.pointer (some ⟨w.heap.size,0,none⟩)) (o:=.stringIter ⟨⟨s⟩⟩ 0) (k:=.siter ⟨⟨s⟩⟩ 0) hn hE hS fun D' hD=>⟨w.heap.size,rfl,fun x=>Iff.rfl,zE2 w _⟩).put (zCB hlt) (.loc (by rw [zBw];rfl))⟩
theorem zNK {P:Program} {w:World} {b pos:Nat} {s:ByteArray} {ty:TypeId} (h3:w.heap[b]? = some (.stringIter s pos)) (h:pos<s.size) :
  (Instr.next (.pointer (some ⟨b,0,none⟩)) true ty).run P w=.ok (.tuple #[.bool true,.int .i64 pos,.int .i32 (Utf8.decode s pos).1]) { w with heap:=w.heap.setIfInBounds b (.stringIter s (pos+(Utf8.decode s pos).2)) }:=by
 simp only [Instr.next,getObj,setObj,Sem.run_bind,Sem.run,h3,Result.andThen,h,if_true]
 simp [goInt]
theorem zMF {P:Program} {w:World} {b pos:Nat} {s:ByteArray} {ty:TypeId} (h3:w.heap[b]? = some (.stringIter s pos)) (h:¬pos<s.size) :
  (Instr.next (.pointer (some ⟨b,0,none⟩)) true ty).run P w=.ok (.tuple #[.bool false]) w:=by
 simp [Instr.next,getObj,Sem.run,h3,h]
theorem zVm (n:Nat) {o:Oper} {rest:List Oper} {x:Operand} {s:List UInt8} {p d:Nat} {m1 m2:Option ρ} {S':Store} (ho:o.op=.next x true) (hg:gE all E o=some true) (hx:ev E x=some (.loc n 0)) (hb:lkS S n=some (.siter ⟨⟨s⟩⟩ p)) (hd:o.dst=some d) (hlt:Nat.blt d G.fn.ntmps=true)
  (hS:setS n (.siter ⟨⟨s⟩⟩ (p+zIC s p)) S=some S') (k1:PO G m1 all rest K ((d,.tup [.v (.bool true),.v (.int .i64 (p:Nat)),.v (.int .i32 (zGw s p))])::E) S') (k2:PO G m2 all rest K ((d,.tup [.v (.bool false)])::E) S):PO G (cnd (decide (p<s.length)) m1 m2) all (o::rest) K E S:=by
 refine zFV hg fun r hr a w ⟨σ,φ,hp⟩=>?_
 have hmem:=zBN hb
 obtain ⟨b,h1,h2,h3⟩:=hp.inv.ok n _ hmem
 have hxv:a.eval x=.pointer (some ⟨b,0,none⟩):=by
  have:=zBI hp.env hx
  generalize a.eval x=v at this
  cases this with
  | loc hs=>rw [zIe h1] at hs;simp at hs;subst hs;rfl
  | d hd=>cases hd
 have hbl:b<w.heap.size:=(hp.inv.lt b ⟨n,_,hmem,(h2 b).2 rfl⟩).1
 have hsz:(⟨⟨s⟩⟩:ByteArray).size=s.length:=rfl
 by_cases hlt':p<s.length
 ·rw [show cnd (decide (p<s.length)) m1 m2=m1 by simp [hlt',cnd]] at hr
  have hrun:(execOp a.eval o).run G.P w=.ok (.value (.tuple ⟨[.bool true,.int .i64 (p:Nat),.int .i32 (zGw s p)]⟩)) { w with heap:=w.heap.setIfInBounds b (.stringIter ⟨⟨s⟩⟩ (p+zIC s p)) }:=by
   have:=zNK (P:=G.P) (ty:=o.type) h3 (by rw [hsz];exact hlt')
   simp only [execOp,ho,hxv,Sem.run_bind,this,Result.andThen_ok]
   rfl
  unfold Oper.wp
  rw [hrun,Oper.upon_value,hd]
  refine k1 r hr _ _ ⟨σ,φ,(hp.turn (w':={ w with heap:=w.heap.setIfInBounds b (.stringIter ⟨⟨s⟩⟩ (p+zIC s p)) }) hmem hS (by simp) (fun c hc=>?_) rfl rfl rfl fun D' hD=>⟨b,h1,h2,by show (w.heap.setIfInBounds b _)[b]? = _;rw [Array.getElem?_setIfInBounds_self_of_lt hbl]⟩).put (zCB hlt) (.tup rfl fun i c u hc hu=>?_)⟩
  ·have:c≠b:=fun e=>hc ((h2 c).2 e)
   simp [Array.getElem?_setIfInBounds_ne (Ne.symm this)]
  ·match i,hc,hu with
   | 0,hc,hu=>simp at hc hu;subst hc hu;exact .d (.v rfl)
   | 1,hc,hu=>simp at hc hu;subst hc hu;exact .d (.v rfl)
   | 2,hc,hu=>simp at hc hu;subst hc hu;exact .d (.v rfl)
 ·rw [show cnd (decide (p<s.length)) m1 m2=m2 by simp [hlt',cnd]] at hr
  have hrun:(execOp a.eval o).run G.P w=.ok (.value (.tuple ⟨[.bool false]⟩)) w:=by
   have:=zMF (P:=G.P) (ty:=o.type) h3 (by rw [hsz];exact hlt')
   simp only [execOp,ho,hxv,Sem.run_bind,this,Result.andThen_ok]
   rfl
  unfold Oper.wp
  rw [hrun,Oper.upon_value,hd]
  refine k2 r hr _ _ ⟨σ,φ,hp.put (zCB hlt) (.tup rfl fun i c u hc hu=>?_)⟩
  match i,hc,hu with
  | 0,hc,hu=>simp at hc hu;subst hc hu;exact .d (.v rfl)
end
end Go.Pw
