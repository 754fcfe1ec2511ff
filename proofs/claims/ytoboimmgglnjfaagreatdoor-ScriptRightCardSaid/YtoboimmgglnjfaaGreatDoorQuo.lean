/- A text with a sign put ahead of two of its bytes; a new block of bytes that is filled from its beginning. No program is named here. -/
import Derived.WalkKit
import Derived.Laws.NewBlocks
import Derived.Laws.IdiomCopy
import Derived.Laws.MakeOwn
import Derived.Laws.IdiomStrings
namespace Go.Pw
open Go Go.RowKit
def zCD (b:UInt8):Bool:=b==34||b==92
def quoB (b:UInt8):List UInt8:=if zCD b then [92,b] else [b]
def quoL (s:List UInt8):List UInt8:=s.flatMap quoB
theorem zHn {l:List UInt8} {k:Nat} {h:k<l.length} {b:UInt8} (hb:l[k]=b):quoL (l.take (k+1))=quoL (l.take k)++quoB b:=by
 rw [List.take_succ_eq_append_getElem h,hb]
 simp [quoL]
theorem zMA {l:List UInt8} {k:Nat} {h:k<l.length} {b:UInt8} (hb:l[k]=b):(quoL (l.take (k+1))).length=(quoL (l.take k)).length+(if zCD b then 2 else 1):=by
 rw [zHn hb,List.length_append]
 unfold quoB
 split<;>simp
theorem zLc {l:List UInt8} {k:Nat} {h:k<l.length} {b:UInt8} (hb:l[k]=b):(l.take (k+1)).any zCD=((l.take k).any zCD||zCD b):=by
 rw [List.take_succ_eq_append_getElem h,hb]
 simp
theorem zL9:∀(l:List UInt8),(quoL l).length=l.length+(l.count 34+l.count 92)
 | []=>rfl
 | b::l=>by
  have ih:=zL9 l
  have e:quoL (b::l)=quoB b++quoL l:=by simp [quoL]
  rw [e,List.length_append,ih,List.count_cons,List.count_cons]
  unfold quoB zCD
  by_cases h1:b=34
  ·subst h1;simp;omega
  ·by_cases h2:b=92
   ·subst h2;simp;omega
   ·simp [h1,h2];omega
theorem zH3 (l:List UInt8):(quoL l).length<=2*l.length:=by
 have h:=zL9 l
 have h2:l.count 34+l.count 92<=l.length:=by
  clear h
  induction l with
  | nil=>simp
  | cons b l ih =>
   rw [List.count_cons,List.count_cons,List.length_cons]
   by_cases h1:b=34
   ·subst h1;simp;omega
   ·by_cases h2:b=92
    ·subst h2;simp;omega
    ·simp [h1,h2];omega
 omega
theorem zPO {l:List UInt8} (h:l.any zCD=false):quoL l=l:=by
 induction l with
 | nil=>rfl
 | cons b l ih =>
  rw [List.any_cons,Bool.or_eq_false_iff] at h
  have e:quoL (b::l)=quoB b++quoL l:=by simp [quoL]
  rw [e,ih h.2,quoB,h.1]
  rfl
theorem zJw {l:List UInt8} {k:Nat}:(quoL (l.take k)).length<=(quoL l).length:=by
 have e:quoL l=quoL (l.take k)++quoL (l.drop k):=by unfold quoL;rw [<- List.flatMap_append,List.take_append_drop]
 rw [e,List.length_append];omega
theorem zS0 {l:List UInt8} (h1:l.count 34=0) (h2:l.count 92=0):l.any zCD=false:=by
 rw [List.any_eq_false]
 intro b hb hs
 simp only [zCD,Bool.or_eq_true,beq_iff_eq] at hs
 rcases hs with rfl | rfl
 ·exact List.count_eq_zero.1 h1 hb
 ·exact List.count_eq_zero.1 h2 hb
def tabC (Q R cq cr:Nat) (b:Nat):Value:=if b=34 then .slice (some ⟨Q,0,none⟩) 2 cq else if b=92 then .slice (some ⟨R,0,none⟩) 2 cr else .slice none 0 0
structure TabAt (T L Q R cq cr:Nat) (w:World):Prop where
 tab:∀b:Nat,b<256->w.cell? ⟨T,b,none⟩=some (tabC Q R cq cr b)
 list:w.cell? ⟨T,256,none⟩=some (.slice (some ⟨L,0,none⟩) 2 2)
 l0:w.cell? ⟨L,0,none⟩=some (.string ⟨#[34]⟩)
 l1:w.cell? ⟨L,1,none⟩=some (.string ⟨#[92]⟩)
 q0:w.cell? ⟨Q,0,none⟩=some (.int .u8 92)
 q1:w.cell? ⟨Q,1,none⟩=some (.int .u8 34)
 r0:w.cell? ⟨R,0,none⟩=some (.int .u8 92)
 r1:w.cell? ⟨R,1,none⟩=some (.int .u8 92)
theorem TabAt.other {T L Q R cq cr:Nat} {w:World} {b:UInt8} (h:TabAt T L Q R cq cr w) (h1:b≠34) (h2:b≠92):w.cell? ⟨T,b.toNat,none⟩=some (.slice none 0 0):=by
 rw [h.tab b.toNat b.toNat_lt,tabC,if_neg,if_neg]
 ·intro e;exact h2 (by rw [<- UInt8.toNat_inj];exact e)
 ·intro e;exact h1 (by rw [<- UInt8.toNat_inj];exact e)
theorem TabAt.t34 {T L Q R cq cr:Nat} {w:World} (h:TabAt T L Q R cq cr w):w.cell? ⟨T,34,none⟩=some (.slice (some ⟨Q,0,none⟩) 2 cq):=h.tab 34 (by omega)
theorem TabAt.t92 {T L Q R cq cr:Nat} {w:World} (h:TabAt T L Q R cq cr w):w.cell? ⟨T,92,none⟩=some (.slice (some ⟨R,0,none⟩) 2 cr):=h.tab 92 (by omega)
theorem zEW {w:World} {a:Addr} {v:Value} (h:w.cell? a=some v):a.block<w.heap.size:=by
 rcases Nat.lt_or_ge a.block w.heap.size with h' | h'
 ·exact h'
 ·simp [World.cell?,Array.getElem?_eq_none h'] at h
theorem zEb {w w':World} {a:Addr} (h:w'.heap[a.block]? = w.heap[a.block]?):w'.cell? a=w.cell? a:=by unfold World.cell?;rw [h]
theorem TabAt.keep {T L Q R cq cr:Nat} {w w':World} (h:TabAt T L Q R cq cr w) (hk:∀b,b<w.heap.size->w'.heap[b]? = w.heap[b]?):TabAt T L Q R cq cr w' :=
 ⟨fun b hb=>(zEb (hk _ (zEW (h.tab b hb)))).trans (h.tab b hb),(zEb (hk _ (zEW h.list))).trans h.list,(zEb (hk _ (zEW h.l0))).trans h.l0,(zEb (hk _ (zEW h.l1))).trans h.l1,
  (zEb (hk _ (zEW h.q0))).trans h.q0,(zEb (hk _ (zEW h.q1))).trans h.q1,(zEb (hk _ (zEW h.r0))).trans h.r0,(zEb (hk _ (zEW h.r1))).trans h.r1⟩
structure TW (w:World) (N:Nat) (out:List UInt8) (wr:World):Prop where
 os:wr.os=w.os
 tape:wr.tape=w.tape
 output:wr.output=w.output
 size:wr.heap.size=w.heap.size+1
 old:∀b,b<w.heap.size->wr.heap[b]? = w.heap[b]?
 isc:∀j,j<N->(wr.cell? ⟨w.heap.size,j,none⟩).isSome=true
 fz:∀j,wr.frozen? ⟨w.heap.size,j,none⟩=false
 cells:∀j (h:j<out.length),wr.cell? ⟨w.heap.size,j,none⟩=some (.int .u8 out[j].toNat)
theorem TW.below {w wr:World} {N:Nat} {out:List UInt8} (h:TW w N out wr):Below w.heap.size w wr:=⟨h.os,h.tape,h.output,by rw [h.size];omega,h.old⟩
theorem TW.alloc {w w0:World} {N t:Nat} (h1:w0.heap=w.heap) (h2:w0.os=w.os) (h3:w0.tape=w.tape) (h4:w0.output=w.output):TW w N [] (w0.alloc (.cells (madeCells #[.int .u8 0] N) t)):=by
 have hh:(w0.alloc (.cells (madeCells #[.int .u8 0] N) t)).heap=w.heap.push (.cells (madeCells #[.int .u8 0] N) t):=by rw [<- h1];rfl
 have hn:(w0.alloc (.cells (madeCells #[.int .u8 0] N) t)).heap[w.heap.size]? = some (.cells (madeCells #[.int .u8 0] N) t):=by rw [hh];simp
 refine ⟨h2,h3,h4,by rw [hh];simp,fun b hb=>by rw [hh,Array.getElem?_push];simp [Nat.ne_of_lt hb],fun j hj=>?_,fun j=>?_,fun j h=>by simp at h⟩
 ·have:((w0.alloc (.cells (madeCells #[.int .u8 0] N) t)).cell? ⟨w.heap.size,j,none⟩)=(madeCells #[.int .u8 0] N)[j]? := by unfold World.cell?;rw [hn];rfl
  rw [this,Array.getElem?_eq_getElem (by rw [size_madeCells];exact hj)]
  rfl
 ·unfold World.frozen?
  rw [hn]
  simp
theorem TW.drew {w wr:World} {N:Nat} {out:List UInt8} (h:TW w N out wr):TW w N out wr.drew:=⟨h.os,h.tape,h.output,h.size,h.old,h.isc,h.fz,h.cells⟩
theorem TW.set {w wr:World} {N:Nat} {out:List UInt8} (h:TW w N out wr) (b:UInt8) (hl:out.length<N):TW w N (out++[b]) (wr.setCell ⟨w.heap.size,out.length,none⟩ (.int .u8 b.toNat)):=by
 obtain ⟨x,hx⟩:=Option.isSome_iff_exists.1 (h.isc out.length hl)
 have hs:=World.cell?_setCell_same wr ⟨w.heap.size,out.length,none⟩ (.int .u8 b.toNat) hx
 have ho:∀j,j≠out.length->(wr.setCell ⟨w.heap.size,out.length,none⟩ (.int .u8 b.toNat)).cell? ⟨w.heap.size,j,none⟩=wr.cell? ⟨w.heap.size,j,none⟩:=fun j hj =>
  World.cell?_setCell_other _ _ _ _ (fun e=>hj (by have:=congrArg Addr.off e;exact this.symm))
 refine ⟨h.os,h.tape,h.output,(World.size_setCell _ _ _).trans h.size,fun c hc=>(Below.heap_setCell _ _ _ _ (by simp only;omega)).trans (h.old c hc),fun j hj=>?_,fun j=>(World.frozen?_setCell _ _ _ _).trans (h.fz j),fun j hj=>?_⟩
 ·by_cases e:j=out.length
  ·subst e;rw [hs];rfl
  ·rw [ho j e];exact h.isc j hj
 ·rw [List.length_append,List.length_singleton] at hj
  by_cases e:j=out.length
  ·subst e;rw [hs];simp
  ·rw [ho j e,h.cells j (by omega),List.getElem_append_left (by omega)]
theorem TW.set2 {w wr:World} {N:Nat} {out:List UInt8} (h:TW w N out wr) (b c:UInt8) (hl:out.length+1<N):TW w N (out++[b,c]) (wr.setCells w.heap.size out.length [.int .u8 b.toNat,.int .u8 c.toNat]):=by
 have h1:=h.set b (by omega)
 have h2:=h1.set c (by simp;omega)
 rw [List.length_append,List.length_singleton,List.append_assoc] at h2
 exact h2
theorem TW.tab {T L Q R cq cr:Nat} {w wr:World} {N:Nat} {out:List UInt8} (h:TW w N out wr) (ht:TabAt T L Q R cq cr w):TabAt T L Q R cq cr wr:=ht.keep h.old
theorem TW.copy {P:Program} {w wr:World} {N:Nat} {out:List UInt8} (h:TW w N out wr) {dT ty e:TypeId} (hu:P.underlying dT=some (.slice e)) (hs:(P.info? e).map (·.size)=some 1) {Q cq c:Nat} {b1 b2:UInt8}
  (h1:wr.cell? ⟨Q,0,none⟩=some (.int .u8 b1.toNat)) (h2:wr.cell? ⟨Q,1,none⟩=some (.int .u8 b2.toNat)) (hl:out.length+1<N) :
  (Builtin.copy_ #[dT,dT] ty #[.slice (some ⟨w.heap.size,out.length,none⟩) (N - out.length) c,.slice (some ⟨Q,0,none⟩) 2 cq]).run P wr=.ok (goInt 2) (wr.setCells w.heap.size out.length [.int .u8 b1.toNat,.int .u8 b2.toNat]):=by
 have:=run_copy_cells (P:=P) wr dT dT ty e w.heap.size out.length (N - out.length) c ⟨Q,0,none⟩ 2 cq [.int .u8 b1.toNat,.int .u8 b2.toNat] hu hs ((Nat.min_eq_left (show 2<=N - out.length by omega)).symm)
  (fun j v hj=>by
   match j,hj with
   | 0,hj=>cases hj;exact h1
   | 1,hj=>cases hj;exact h2) (fun j hj=>h.isc _ (by simp at hj;omega)) (fun j _=>h.fz _) (fun v hv=>by
    simp only [List.mem_cons,List.not_mem_nil,or_false] at hv
    rcases hv with rfl | rfl<;>rfl)
 exact this
structure TB (w:World) (T L:Nat) (tab:Nat->Value) (ls:List Value) (wr:World):Prop where
 bel:Below w.heap.size w wr
 nT:w.heap.size<=T
 nL:w.heap.size<=L
 ne:T≠L
 lT:T<wr.heap.size
 lL:L<wr.heap.size
 tab:∀b,b<256->wr.cell? ⟨T,b,none⟩=some (tab b)
 lst:wr.cell? ⟨T,256,none⟩=some (.slice (some ⟨L,0,none⟩) ls.length 2)
 l:∀j (h:j<ls.length),wr.cell? ⟨L,j,none⟩=some ls[j]
 isl:∀j,j<2->(wr.cell? ⟨L,j,none⟩).isSome=true
 fT:∀j,wr.frozen? ⟨T,j,none⟩=false
 fL:∀j,wr.frozen? ⟨L,j,none⟩=false
section
variable {w wr:World} {T L:Nat} {tab:Nat->Value} {ls:List Value}
theorem TB.alloc (h:TB w T L tab ls wr) (o:Obj):TB w T L tab ls (wr.alloc o):=by
 have hh:∀b,b<wr.heap.size->(wr.alloc o).heap[b]? = wr.heap[b]? := fun b hb=>by show (wr.heap.push o)[b]? = _;rw [Array.getElem?_push,if_neg (Nat.ne_of_lt hb)]
 have hc:∀a:Addr,a.block<wr.heap.size->(wr.alloc o).cell? a=wr.cell? a:=fun a ha=>zEb (hh _ ha)
 have hf:∀a:Addr,a.block<wr.heap.size->(wr.alloc o).frozen? a=wr.frozen? a:=fun a ha=>by unfold World.frozen?;rw [hh _ ha]
 have hs:(wr.alloc o).heap.size=wr.heap.size+1:=by show (wr.heap.push o).size=_;simp
 exact ⟨h.bel.alloc h.bel.size o,h.nT,h.nL,h.ne,by rw [hs];have:=h.lT;omega,by rw [hs];have:=h.lL;omega,fun b hb=>(hc _ h.lT).trans (h.tab b hb),(hc _ h.lT).trans h.lst,
  fun j hj=>(hc _ h.lL).trans (h.l j hj),fun j hj=>by rw [hc _ h.lL];exact h.isl j hj,fun j=>(hf _ h.lT).trans (h.fT j),fun j=>(hf _ h.lL).trans (h.fL j)⟩
theorem TB.drew (h:TB w T L tab ls wr):TB w T L tab ls wr.drew:=⟨h.bel.drew,h.nT,h.nL,h.ne,h.lT,h.lL,h.tab,h.lst,h.l,h.isl,h.fT,h.fL⟩
theorem TB.setT (h:TB w T L tab ls wr) (c:Nat) (hc:c<256) (v:Value):TB w T L (fun x=>if x=c then v else tab x) ls (wr.setCell ⟨T,c,none⟩ v):=by
 have hs:=World.cell?_setCell_same wr ⟨T,c,none⟩ v (h.tab c hc)
 have ho:∀a:Addr,a≠⟨T,c,none⟩->(wr.setCell ⟨T,c,none⟩ v).cell? a=wr.cell? a:=fun a ha=>World.cell?_setCell_other _ _ _ _ fun e=>ha e.symm
 have hz:(wr.setCell ⟨T,c,none⟩ v).heap.size=wr.heap.size:=World.size_setCell _ _ _
 refine ⟨h.bel.setCell h.nT v,h.nT,h.nL,h.ne,by rw [hz];exact h.lT,by rw [hz];exact h.lL,fun b hb=>?_,?_,fun j hj=>?_,fun j hj=>?_,fun j=>(World.frozen?_setCell _ _ _ _).trans (h.fT j),fun j=>(World.frozen?_setCell _ _ _ _).trans (h.fL j)⟩
 ·by_cases e:b=c
  ·subst e;rw [hs,if_pos rfl]
  ·rw [ho _ (fun h=>e (congrArg Addr.off h)),if_neg e];exact h.tab b hb
 ·rw [ho _ (fun e=>by have:=congrArg Addr.off e;simp only at this;omega)];exact h.lst
 ·rw [ho _ (fun e=>h.ne (congrArg Addr.block e).symm)];exact h.l j hj
 ·rw [ho _ (fun e=>h.ne (congrArg Addr.block e).symm)];exact h.isl j hj
theorem TB.push (h:TB w T L tab ls wr) (hl:ls.length<2) (v:Value):TB w T L tab (ls++[v]) ((wr.setCell ⟨L,ls.length,none⟩ v).setCell ⟨T,256,none⟩ (.slice (some ⟨L,0,none⟩) (ls.length+1) 2)):=by
 obtain ⟨x,hx⟩:=Option.isSome_iff_exists.1 (h.isl ls.length hl)
 have hs1:=World.cell?_setCell_same wr ⟨L,ls.length,none⟩ v hx
 have ho1:∀a:Addr,a≠⟨L,ls.length,none⟩->(wr.setCell ⟨L,ls.length,none⟩ v).cell? a=wr.cell? a:=fun a ha=>World.cell?_setCell_other _ _ _ _ fun e=>ha e.symm
 have hT:(wr.setCell ⟨L,ls.length,none⟩ v).cell? ⟨T,256,none⟩=_:=(ho1 _ fun e=>h.ne (congrArg Addr.block e)).trans h.lst
 obtain ⟨w1,hw1⟩:∃w1,w1=wr.setCell ⟨L,ls.length,none⟩ v:=⟨_,rfl⟩
 rw [<- hw1] at hs1 ho1 hT ⊢
 have hs2:=World.cell?_setCell_same w1 ⟨T,256,none⟩ (.slice (some ⟨L,0,none⟩) (ls.length+1) 2) hT
 have ho2:∀a:Addr,a≠⟨T,256,none⟩->(w1.setCell ⟨T,256,none⟩ (.slice (some ⟨L,0,none⟩) (ls.length+1) 2)).cell? a=w1.cell? a:=fun a ha=>World.cell?_setCell_other _ _ _ _ fun e=>ha e.symm
 have hz1:w1.heap.size=wr.heap.size:=by rw [hw1];exact World.size_setCell _ _ _
 have hz:(w1.setCell ⟨T,256,none⟩ (.slice (some ⟨L,0,none⟩) (ls.length+1) 2)).heap.size=wr.heap.size:=(World.size_setCell _ _ _).trans hz1
 have hb1:Below w.heap.size w w1:=by rw [hw1];exact h.bel.setCell h.nL v
 have hf1:∀a,w1.frozen? a=wr.frozen? a:=fun a=>by rw [hw1];exact World.frozen?_setCell _ _ _ _
 refine ⟨hb1.setCell h.nT _,h.nT,h.nL,h.ne,by rw [hz];exact h.lT,by rw [hz];exact h.lL,
  fun b hb=>?_,?_,fun j hj=>?_,fun j hj=>?_,fun j=>((World.frozen?_setCell _ _ _ _).trans (hf1 _)).trans (h.fT j),fun j=>((World.frozen?_setCell _ _ _ _).trans (hf1 _)).trans (h.fL j)⟩
 ·rw [ho2 _ (fun e=>by have:=congrArg Addr.off e;simp only at this;omega),ho1 _ (fun e=>h.ne (congrArg Addr.block e))];exact h.tab b hb
 ·rw [hs2,List.length_append,List.length_singleton]
 ·rw [ho2 _ (fun e=>h.ne (congrArg Addr.block e).symm)]
  rw [List.length_append,List.length_singleton] at hj
  by_cases e:j=ls.length
  ·subst e;rw [hs1];simp
  ·rw [ho1 _ (fun h=>e (congrArg Addr.off h)),h.l j (by omega),List.getElem_append_left (by omega)]
 ·rw [ho2 _ (fun e=>h.ne (congrArg Addr.block e).symm)]
  by_cases e:j=ls.length
  ·subst e;rw [hs1];rfl
  ·rw [ho1 _ (fun h=>e (congrArg Addr.off h))];exact h.isl j hj
theorem TB.tabs {tab':Nat->Value} (h:TB w T L tab ls wr) (e:∀b,b<256->tab b=tab' b):TB w T L tab' ls wr:=⟨h.bel,h.nT,h.nL,h.ne,h.lT,h.lL,fun b hb=>by rw [<- e b hb];exact h.tab b hb,h.lst,h.l,h.isl,h.fT,h.fL⟩
theorem TB.start {z:Array Value} {v0:Value} {t1 t2:Nat} (h:∀b,b<256->z[b]? = some (.slice none 0 0)) (h2:z[256]? = some (.slice (some ⟨w.heap.size,0,none⟩) 0 2)) :
  TB w (w.heap.size+1) w.heap.size (fun _=>.slice none 0 0) [] ((w.alloc (.cells (madeCells #[v0] 2) t1)).alloc (.cells z t2)):=by
 have s1:(w.alloc (.cells (madeCells #[v0] 2) t1)).heap.size=w.heap.size+1:=by show (w.heap.push _).size=_;simp
 have s2:((w.alloc (.cells (madeCells #[v0] 2) t1)).alloc (.cells z t2)).heap.size=w.heap.size+2:=by show (Array.push _ _).size=_;simp [s1]
 have hT:((w.alloc (.cells (madeCells #[v0] 2) t1)).alloc (.cells z t2)).heap[w.heap.size+1]? = some (.cells z t2):=by show (Array.push _ _)[_]? = _;rw [Array.getElem?_push,if_pos s1.symm]
 have hL:((w.alloc (.cells (madeCells #[v0] 2) t1)).alloc (.cells z t2)).heap[w.heap.size]? = some (.cells (madeCells #[v0] 2) t1):=by
  show (Array.push _ _)[_]? = _
  rw [Array.getElem?_push,if_neg (by rw [s1];omega)]
  show (w.heap.push _)[_]? = _
  simp
 have cT:∀j,((w.alloc (.cells (madeCells #[v0] 2) t1)).alloc (.cells z t2)).cell? ⟨w.heap.size+1,j,none⟩=z[j]? := fun j=>by unfold World.cell?;rw [hT];rfl
 have cL:∀j,((w.alloc (.cells (madeCells #[v0] 2) t1)).alloc (.cells z t2)).cell? ⟨w.heap.size,j,none⟩=(madeCells #[v0] 2)[j]? := fun j=>by unfold World.cell?;rw [hL];rfl
 refine ⟨((Below.refl _ w).alloc (Nat.le_refl _) _).alloc (by rw [s1];omega) _,by omega,Nat.le_refl _,by omega,by rw [s2];omega,by rw [s2];omega,fun b hb=>(cT b).trans (h b hb),(cT 256).trans h2,fun j hj=>by simp at hj,fun j hj=>?_,fun j=>?_,fun j=>?_⟩
 ·rw [cL,Array.getElem?_eq_getElem (by rw [size_madeCells];exact hj)];rfl
 ·unfold World.frozen?;rw [hT];simp
 ·unfold World.frozen?;rw [hL];simp
end
def Kp (T L:Nat) (l:List (Addr×Value)) (wr:World):Prop:=∀p∈l,wr.cell? p.1=some p.2/\p.1.block≠T/\p.1.block≠L
section
variable {wr:World} {T L:Nat} {l:List (Addr×Value)}
theorem Kp.nil:Kp T L [] wr:=fun p hp=>by cases hp
theorem Kp.alloc (h:Kp T L l wr) (o:Obj):Kp T L l (wr.alloc o):=fun p hp=>by
 obtain ⟨h1,h2,h3⟩:=h p hp
 exact ⟨(zEb (by show (wr.heap.push o)[_]? = _;rw [Array.getElem?_push,if_neg (Nat.ne_of_lt (zEW h1))])).trans h1,h2,h3⟩
theorem Kp.drew (h:Kp T L l wr):Kp T L l wr.drew:=h
theorem Kp.set (h:Kp T L l wr) {b:Nat} (hb:b=T\/b=L) (o:Nat) (v:Value):Kp T L l (wr.setCell ⟨b,o,none⟩ v):=fun p hp=>by
 obtain ⟨h1,h2,h3⟩:=h p hp
 refine ⟨(World.cell?_setCell_other _ _ _ _ fun e=>?_).trans h1,h2,h3⟩
 have:=congrArg Addr.block e
 rcases hb with rfl | rfl
 ·exact h2 this.symm
 ·exact h3 this.symm
theorem Kp.cons (h:Kp T L l wr) {a:Addr} {v:Value} (h1:wr.cell? a=some v) (h2:a.block≠T) (h3:a.block≠L):Kp T L ((a,v)::l) wr:=fun p hp=>by
 rcases List.mem_cons.1 hp with rfl | hp
 ·exact ⟨h1,h2,h3⟩
 ·exact h p hp
end
theorem zLP {P:Program} (w:World) (src dst e:TypeId) (a b:UInt8) (hs:P.underlying src=some .string) (hd:P.underlying dst=some (.slice e)) (he:P.underlying e=some (.int .u8)) {n:Nat} (hn:n=w.heap.size) :
  ∃cq row fr,(convert src dst (.string ⟨#[a,b]⟩)).run P w=.ok (.slice (some ⟨n,0,none⟩) 2 cq) (w.drew.alloc (.cells row e fr))/\(w.drew.alloc (.cells row e fr)).cell? ⟨n,0,none⟩=some (.int .u8 a.toNat)/\(w.drew.alloc (.cells row e fr)).cell? ⟨n,1,none⟩=some (.int .u8 b.toNat):=by
 subst hn
 have hh:∀o,(w.drew.alloc o).heap[w.heap.size]? = some o:=fun o=>by show (w.heap.push o)[_]? = _;simp
 refine ⟨_,_,_,run_bytes_of_string w src dst e ⟨#[a,b]⟩ hs hd he,?_,?_⟩<;>unfold World.cell? <;> simp only [hh]<;>simp [bytesRow]<;>rw [Array.getElem?_append_left (by simp)]<;>rfl
def NewTab (n T:Nat) (w:World):Prop:=∃L Q R cq cr,TabAt T L Q R cq cr w/\n<=T/\n<=L/\n<=Q/\n<=R
theorem NewTab.drew {n T:Nat} {w:World} (h:NewTab n T w):NewTab n T w.drew:=by
 obtain ⟨L,Q,R,cq,cr,t,h2⟩:=h
 exact ⟨L,Q,R,cq,cr,⟨t.tab,t.list,t.l0,t.l1,t.q0,t.q1,t.r0,t.r1⟩,h2⟩
theorem NewTab.mono {n m T:Nat} {w:World} (h:NewTab n T w) (hm:m<=n):NewTab m T w:=by
 obtain ⟨L,Q,R,cq,cr,h1,h2,h3,h4,h5⟩:=h
 exact ⟨L,Q,R,cq,cr,h1,by omega,by omega,by omega,by omega⟩
theorem NewTab.set {n T:Nat} {w:World} (h:NewTab n T w) {b:Nat} (hb:b<n) (o:Nat) (v:Value):NewTab n T (w.setCell ⟨b,o,none⟩ v):=by
 obtain ⟨L,Q,R,cq,cr,t,h2,h3,h4,h5⟩:=h
 have k:∀(c j:Nat) (u:Value),n<=c->w.cell? ⟨c,j,none⟩=some u->(w.setCell ⟨b,o,none⟩ v).cell? ⟨c,j,none⟩=some u:=fun c j u hc hu=>(World.cell?_setCell_other _ _ _ _ fun e=>by have:=congrArg Addr.block e;simp only at this;omega).trans hu
 exact ⟨L,Q,R,cq,cr,⟨fun x hx=>k _ _ _ h2 (t.tab x hx),k _ _ _ h2 t.list,k _ _ _ h3 t.l0,k _ _ _ h3 t.l1,k _ _ _ h4 t.q0,k _ _ _ h4 t.q1,k _ _ _ h5 t.r0,k _ _ _ h5 t.r1⟩,h2,h3,h4,h5⟩
structure Besides (b:Nat) (w w':World):Prop where
 os:w'.os=w.os
 tape:w'.tape=w.tape
 output:w'.output=w.output
 size:w.heap.size<=w'.heap.size
 block:∀k,k<w.heap.size->k≠b->w'.heap[k]? = w.heap[k]?
theorem Besides.of {b:Nat} {w w':World} (h:Below w.heap.size w w'):Besides b w w':=⟨h.os,h.tape,h.output,h.size,fun k hk _=>h.block k hk⟩
theorem Besides.set {b:Nat} {w w':World} (h:Besides b w w') (o:Nat) (v:Value):Besides b w (w'.setCell ⟨b,o,none⟩ v) :=
 ⟨h.os,h.tape,h.output,by rw [World.size_setCell];exact h.size,fun k hk hb=>(Below.heap_setCell _ _ _ _ hb).trans (h.block k hk hb)⟩
theorem Besides.drew {b:Nat} {w w':World} (h:Besides b w w'):Besides b w w'.drew:=⟨h.os,h.tape,h.output,h.size,h.block⟩
theorem Besides.trans {b:Nat} {w w1 w2:World} (h:Besides b w w1) (k:Besides b w1 w2):Besides b w w2 :=
 ⟨k.os.trans h.os,k.tape.trans h.tape,k.output.trans h.output,Nat.le_trans h.size k.size,fun i hi hb=>(k.block i (Nat.lt_of_lt_of_le hi h.size) hb).trans (h.block i hi hb)⟩
theorem Besides.refl (b:Nat) (w:World):Besides b w w:=⟨rfl,rfl,rfl,Nat.le_refl _,fun _ _ _=>rfl⟩
structure Rep (b:Nat) (v0 v1 v3 v4:Value) (w:World):Prop where
 c0:w.cell? ⟨b,0,none⟩=some v0
 c1:w.cell? ⟨b,1,none⟩=some v1
 c3:w.cell? ⟨b,3,none⟩=some v3
 c4:w.cell? ⟨b,4,none⟩=some v4
 fz:∀j,w.frozen? ⟨b,j,none⟩=false
section
variable {b:Nat} {v0 v1 v3 v4:Value} {w:World}
theorem Rep.below {w':World} (h:Rep b v0 v1 v3 v4 w) (hb:Below w.heap.size w w'):Rep b v0 v1 v3 v4 w':=by
 have hl:b<w.heap.size:=zEW h.c0
 exact ⟨(hb.cell hl).trans h.c0,(hb.cell hl).trans h.c1,(hb.cell hl).trans h.c3,(hb.cell hl).trans h.c4,fun j=>(hb.frozen hl).trans (h.fz j)⟩
theorem zFe (w:World) (b o j:Nat) (v:Value) (h:o≠j):(w.setCell ⟨b,o,none⟩ v).cell? ⟨b,j,none⟩=w.cell? ⟨b,j,none⟩:=World.cell?_setCell_other _ _ _ _ fun e=>h (congrArg Addr.off e)
theorem Rep.set0 (h:Rep b v0 v1 v3 v4 w) (v:Value):Rep b v v1 v3 v4 (w.setCell ⟨b,0,none⟩ v) :=
 ⟨World.cell?_setCell_same _ _ _ h.c0,(zFe _ _ _ _ _ (by omega)).trans h.c1,(zFe _ _ _ _ _ (by omega)).trans h.c3,(zFe _ _ _ _ _ (by omega)).trans h.c4,fun j=>(World.frozen?_setCell _ _ _ _).trans (h.fz j)⟩
theorem Rep.set1 (h:Rep b v0 v1 v3 v4 w) (v:Value):Rep b v0 v v3 v4 (w.setCell ⟨b,1,none⟩ v) :=
 ⟨(zFe _ _ _ _ _ (by omega)).trans h.c0,World.cell?_setCell_same _ _ _ h.c1,(zFe _ _ _ _ _ (by omega)).trans h.c3,(zFe _ _ _ _ _ (by omega)).trans h.c4,fun j=>(World.frozen?_setCell _ _ _ _).trans (h.fz j)⟩
theorem Rep.set3 (h:Rep b v0 v1 v3 v4 w) (v:Value):Rep b v0 v1 v v4 (w.setCell ⟨b,3,none⟩ v) :=
 ⟨(zFe _ _ _ _ _ (by omega)).trans h.c0,(zFe _ _ _ _ _ (by omega)).trans h.c1,World.cell?_setCell_same _ _ _ h.c3,(zFe _ _ _ _ _ (by omega)).trans h.c4,fun j=>(World.frozen?_setCell _ _ _ _).trans (h.fz j)⟩
theorem Rep.set4 (h:Rep b v0 v1 v3 v4 w) (v:Value):Rep b v0 v1 v3 v (w.setCell ⟨b,4,none⟩ v) :=
 ⟨(zFe _ _ _ _ _ (by omega)).trans h.c0,(zFe _ _ _ _ _ (by omega)).trans h.c1,(zFe _ _ _ _ _ (by omega)).trans h.c3,World.cell?_setCell_same _ _ _ h.c4,fun j=>(World.frozen?_setCell _ _ _ _).trans (h.fz j)⟩
theorem Rep.drew (h:Rep b v0 v1 v3 v4 w):Rep b v0 v1 v3 v4 w.drew:=⟨h.c0,h.c1,h.c3,h.c4,h.fz⟩
end
structure OldNew (O:Nat) (w:World):Prop where
 o0:w.cell? ⟨O,0,none⟩=some (.string ⟨#[92]⟩)
 o1:w.cell? ⟨O,1,none⟩=some (.string ⟨#[92,92]⟩)
 o2:w.cell? ⟨O,2,none⟩=some (.string ⟨#[34]⟩)
 o3:w.cell? ⟨O,3,none⟩=some (.string ⟨#[92,34]⟩)
theorem OldNew.set {O:Nat} {w:World} (h:OldNew O w) {b:Nat} (hb:O≠b) (o:Nat) (v:Value):OldNew O (w.setCell ⟨b,o,none⟩ v):=by
 have k:∀(j:Nat) (u:Value),w.cell? ⟨O,j,none⟩=some u->(w.setCell ⟨b,o,none⟩ v).cell? ⟨O,j,none⟩=some u:=fun j u hu=>(World.cell?_setCell_other _ _ _ _ fun e=>hb (congrArg Addr.block e).symm).trans hu
 exact ⟨k _ _ h.o0,k _ _ h.o1,k _ _ h.o2,k _ _ h.o3⟩
theorem zJf {P:Program} {w w':World} {ops:Array Oper} {rest:List Oper} {o:Oper} {a:Act} {Q:Exit->Act->World->Prop} {s x:Operand} {t:TypeId} {vs vx v:Value} (hg:o.guard=none)
  (hop:o.op=Op.call { callee:=Callee.builtin Builtin.append,args := #[s,x],argTypes := #[t,t] }) (hs:a.eval s=vs) (hx:a.eval x=vx) (hrun:(Builtin.append_ #[t,t] o.type #[vs,vx]).run P w=.ok v w') (h:wpList P ops Q rest (a.put o.dst v) w') :
  wpList P ops Q (o::rest) a w:=by
 refine wpList_plain hg fun K hK'=>?_
 unfold Oper.wp
 simp [execOp,hop,resolve,invoke,builtin,hs,hx,hrun,Result.andThen]
 exact hK' _ _ h
theorem zWO (w:World) (A B:Array Value) (t1 t2:Nat):(∀j,(((w.alloc (.cells A t1)).alloc (.cells B t2)).drew).cell? ⟨w.heap.size,j,none⟩=A[j]?)/\(∀j,(((w.alloc (.cells A t1)).alloc (.cells B t2)).drew).cell? ⟨w.heap.size+1,j,none⟩=B[j]?) /\
  (∀j,(((w.alloc (.cells A t1)).alloc (.cells B t2)).drew).frozen? ⟨w.heap.size+1,j,none⟩=false)/\Below w.heap.size w (((w.alloc (.cells A t1)).alloc (.cells B t2)).drew):=by
 have s1:(w.alloc (.cells A t1)).heap.size=w.heap.size+1:=by show (w.heap.push _).size=_;simp
 have hT:(((w.alloc (.cells A t1)).alloc (.cells B t2)).drew).heap[w.heap.size+1]? = some (.cells B t2):=by show (Array.push _ _)[_]? = _;rw [Array.getElem?_push,if_pos s1.symm]
 have hL:(((w.alloc (.cells A t1)).alloc (.cells B t2)).drew).heap[w.heap.size]? = some (.cells A t1):=by
  show (Array.push _ _)[_]? = _
  rw [Array.getElem?_push,if_neg (by rw [s1];omega)]
  show (w.heap.push _)[_]? = _
  simp
 exact ⟨fun j=>by unfold World.cell?;rw [hL];rfl,fun j=>by unfold World.cell?;rw [hT];rfl,fun j=>by unfold World.frozen?;rw [hT];simp,(((Below.refl _ w).alloc (Nat.le_refl _) _).alloc (by rw [s1];omega) _).drew⟩
end Go.Pw
