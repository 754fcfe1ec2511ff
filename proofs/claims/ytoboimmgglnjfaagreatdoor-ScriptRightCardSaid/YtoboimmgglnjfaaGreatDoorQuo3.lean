/- The table is built. -/
import Derived.Test.YtoboimmgglnjfaaGreatDoorQuo2
import Derived.Deep.WholeRow
import Derived.ArgAppend
import Derived.Lib.SliceRun
namespace Go.Proofs.YtoboimmgglnjfaaGreatDoor
open Go Go.RowKit Go.Pw
set_option maxHeartbeats 4000000 in
set_option maxRecDepth 100000 in
theorem build_ (rb O c:Nat) (w:World) (h4:w.cell? ⟨rb,4,none⟩=some (.slice (some ⟨O,0,none⟩) 4 c))
  (o0:w.cell? ⟨O,0,none⟩=some (.string ⟨#[92]⟩)) (o1:w.cell? ⟨O,1,none⟩=some (.string ⟨#[92,92]⟩)) (o2:w.cell? ⟨O,2,none⟩=some (.string ⟨#[34]⟩)) (o3:w.cell? ⟨O,3,none⟩=some (.string ⟨#[92,34]⟩)) :
  Calls Tryz.prog 152 #[.pointer (some ⟨rb,0,none⟩)] w fun e w'=>∃T L Q R cq cr,e=.returned (.iface 245 (.pointer (some ⟨T,0,none⟩)))/\Below w.heap.size w w'/\TabAt T L Q R cq cr w'/\w.heap.size<=T/\w.heap.size<=L/\w.heap.size<=Q/\w.heap.size<=R:=by
 obtain ⟨z,hz⟩:∃z:Array Value,z=Array.replicate 257 (.slice none 0 0):=⟨_,rfl⟩
 obtain ⟨hz1,hz2⟩:=zero_of_info (P:=Tryz.prog) (t:=244) (v:=.agg z) (n:=257) (by rw [hz];kernel_rfl)
 obtain ⟨i0,hi0,hz0,hs0,hb0⟩:=info_parts (P:=Tryz.prog) (e:=9) (z:=.string ⟨#[]⟩) (size:=1) (bytes:=16) (by kernel_rfl)
 have hmk:=fun w=>run_make (P:=Tryz.prog) (w:=w) 40 9 i0 (.string ⟨#[]⟩) Tryz.underlying40 hi0 hz0 .i64 .i64 0 2 (by omega) (by omega) (by rw [hb0];omega) (by omega)
 simp only [hs0] at hmk
 have hzs:z.size=257:=by rw [hz];simp
 replace hz:Hid (z=Array.replicate 257 (.slice none 0 0)):=hz
 obtain ⟨z',hz'⟩:∃z',z'=z.setIfInBounds 256 (.slice (some ⟨w.heap.size,0,none⟩) 0 2):=⟨_,rfl⟩
 have hst:(storeCells ⟨w.heap.size+1,0,none⟩ (z.toList.set 256 (.slice (some ⟨w.heap.size,0,none⟩) 0 2)) 0).run Tryz.prog ((w.alloc (.cells (madeCells #[.string ⟨#[]⟩] 2) 9)).alloc (.cells z 244))=.ok () ((w.alloc (.cells (madeCells #[.string ⟨#[]⟩] 2) 9)).alloc (.cells z' 244)):=by
  have h:=run_storeCells_new (P:=Tryz.prog) (w.alloc (.cells (madeCells #[.string ⟨#[]⟩] 2) 9)) 244 z z' (by rw [hz2,hz'];simp [hzs]) (by rw [hz'];simp) (by rw [hz',hz.out];kernel_rfl)
  have e1:(w.alloc (.cells (madeCells #[.string ⟨#[]⟩] 2) 9)).heap.size=w.heap.size+1:=by show (w.heap.push _).size=_;simp
  have e2:z'.toList=z.toList.set 256 (.slice (some ⟨w.heap.size,0,none⟩) 0 2):=by rw [hz'];simp
  rw [e1,e2] at h
  exact h
 have htb:=TB.start (w:=w) (z:=z') (v0:=.string ⟨#[]⟩) (t1:=9) (t2:=244) (fun b hb=>by rw [hz',Array.getElem?_setIfInBounds_ne (by omega),hz.out,Array.getElem?_replicate,if_pos (by omega)]) (by rw [hz',Array.getElem?_setIfInBounds_self_of_lt (by rw [hzs];omega)])
 clear hz'
 obtain ⟨T,hT⟩:∃T,T=w.heap.size+1:=⟨_,rfl⟩
 go_enter Tryz.func152,Tryz.ntmps152
 go_wp2
 refine wp_loop_rounds 3 ?_
 rw [rounds_succ]
 go_wp2
 rw [rounds_succ]
 go_wp2
 rw [rounds_succ]
 go_wp2
 rw [<- hT] at htb ⊢
 clear hst hT hmk
 go_loopw [12] (fun v12 wr=>(v12=.int .i64 2/\TB w T w.heap.size (fun _=>.slice none 0 0) [] wr)
  \/ (v12=.int .i64 0/\∃Q cq,TB w T w.heap.size (fun x=>if x=34 then .slice (some ⟨Q,0,none⟩) 2 cq else .slice none 0 0) [.string ⟨#[34]⟩] wr/\Kp T w.heap.size [(⟨Q,0,none⟩,.int .u8 92),(⟨Q,1,none⟩,.int .u8 34)] wr/\w.heap.size<=Q)
  \/ (v12=.int .i64 (-2)/\∃Q cq R cr,TB w T w.heap.size (tabC Q R cq cr) [.string ⟨#[34]⟩,.string ⟨#[92]⟩] wr/\Kp T w.heap.size [(⟨R,0,none⟩,.int .u8 92),(⟨R,1,none⟩,.int .u8 92),(⟨Q,0,none⟩,.int .u8 92),(⟨Q,1,none⟩,.int .u8 34)] wr/\w.heap.size<=Q/\w.heap.size<=R)) (fun v _=>match v with | .int _ i=>(i+2).toNat | _=>0)
 case atStart=>exact .inl ⟨rfl,htb⟩
 case round =>
  clear htb
  rcases hrel with ⟨rfl,htb⟩ | ⟨rfl,Q,cq,htb,hkp,hQ⟩ | ⟨rfl,Q,cq,R,cr,htb,hkp,hQ,hR⟩
  ·have hb:=htb.bel
   have p2:=(hb.cell (p:=⟨O,2,none⟩) (zEW o2)).trans o2
   have p3:=(hb.cell (p:=⟨O,3,none⟩) (zEW o3)).trans o3
   have hx:(⟨#[34]⟩:ByteArray)[0]=34:=rfl
   have ht:wr.cell? ⟨T,34,none⟩=some (.slice none 0 0):=htb.tab 34 (by omega)
   have heq:∀(a:Option Addr) (n c:Nat) (w:World),(binOp BinOp.eql 60 (Value.slice a n c) (Value.slice none 0 0)).run Tryz.prog w=.ok (.bool a.isNone) w:=fun a n c w=>Lib.run_eql_slice_nil w _ _ a n c 0 0 Tryz.underlying60
   have hlst:wr.cell? ⟨T,256,none⟩=some (.slice (some ⟨w.heap.size,0,none⟩) 0 2):=htb.lst
   have hcv:(convert 60 9 (.slice (some ⟨wr.heap.size,0,none⟩) 1 1)).run Tryz.prog (wr.alloc (.cells #[.int .u8 34] 5))=.ok (.string ⟨#[34]⟩) (wr.alloc (.cells #[.int .u8 34] 5)) :=
    run_convert_bytes_back (P:=Tryz.prog) _ 60 9 5 ⟨wr.heap.size,0,none⟩ 1 [34] Tryz.underlying60 Tryz.underlying5 Tryz.underlying9 (fun j hj=>by
     match j,hj with
     | 0,_=>simp [Addr.add])
   have h2:=(htb.alloc (.cells #[.int .u8 34] 5)).alloc (.cells #[.string ⟨#[34]⟩] 9)
   have hfL:=h2.fL 0
   obtain ⟨x,hxL⟩:=Option.isSome_iff_exists.1 (h2.isl 0 (by omega))
   have hl2:((wr.alloc (.cells #[.int .u8 34] 5)).alloc (.cells #[.string ⟨#[34]⟩] 9)).cell? ⟨T,256,none⟩=some (.slice (some ⟨w.heap.size,0,none⟩) 0 2):=h2.lst
   have hfT:=h2.fT 256
   have h4:TB w T w.heap.size (fun _=>.slice none 0 0) [.string ⟨#[34]⟩] ((((wr.alloc (.cells #[.int .u8 34] 5)).alloc (.cells #[.string ⟨#[34]⟩] 9)).setCell ⟨w.heap.size,0,none⟩ (.string ⟨#[34]⟩)).setCell ⟨T,256,none⟩ (.slice (some ⟨w.heap.size,0,none⟩) 1 2)):=h2.push (by simp) _
   have hn:wr.heap.size+2=((((wr.alloc (.cells #[.int .u8 34] 5)).alloc (.cells #[.string ⟨#[34]⟩] 9)).setCell ⟨w.heap.size,0,none⟩ (.string ⟨#[34]⟩)).setCell ⟨T,256,none⟩ (.slice (some ⟨w.heap.size,0,none⟩) 1 2)).heap.size:=by rw [World.size_setCell,World.size_setCell];show _=(Array.push (Array.push _ _) _).size;simp
   obtain ⟨cn,row,fr,hcs,r0,r1⟩:=zLP (P:=Tryz.prog) ((((wr.alloc (.cells #[.int .u8 34] 5)).alloc (.cells #[.string ⟨#[34]⟩] 9)).setCell ⟨w.heap.size,0,none⟩ (.string ⟨#[34]⟩)).setCell ⟨T,256,none⟩ (.slice (some ⟨w.heap.size,0,none⟩) 1 2)) 9 60 5 92 34 Tryz.underlying9 Tryz.underlying60 Tryz.underlying5 hn
   have h5:=h4.alloc (.cells row 5 fr)
   have ht5:(((((wr.alloc (.cells #[.int .u8 34] 5)).alloc (.cells #[.string ⟨#[34]⟩] 9)).setCell ⟨w.heap.size,0,none⟩ (.string ⟨#[34]⟩)).setCell ⟨T,256,none⟩ (.slice (some ⟨w.heap.size,0,none⟩) 1 2)).alloc (.cells row 5 fr)).cell? ⟨T,34,none⟩=some (.slice none 0 0):=h5.tab 34 (by omega)
   have hf5:=h5.fT 34
   have lT:=htb.lT
   have lL:=htb.lL
   have nT:=htb.nT
   have hk0:Kp T w.heap.size _ (((((wr.alloc (.cells #[.int .u8 34] 5)).alloc (.cells #[.string ⟨#[34]⟩] 9)).setCell ⟨w.heap.size,0,none⟩ (.string ⟨#[34]⟩)).setCell ⟨T,256,none⟩ (.slice (some ⟨w.heap.size,0,none⟩) 1 2)).alloc (.cells row 5 fr)):=Kp.nil
   have hk1:=(((hk0.cons (a:=⟨wr.heap.size+2,1,none⟩) (v:=.int .u8 34) r1 (by simp only;omega) (by simp only;omega)).cons (a:=⟨wr.heap.size+2,0,none⟩) (v:=.int .u8 92) r0 (by simp only;omega) (by simp only;omega)).set (.inl rfl) 34 (.slice (some ⟨wr.heap.size+2,0,none⟩) 2 cn)).drew
   have h6:=(h5.setT 34 (by omega) (.slice (some ⟨wr.heap.size+2,0,none⟩) 2 cn)).drew
   replace hk1:Hid _:=hk1
   clear h5 h4 h2 hk0 r0 r1 lT lL nT
   replace hn:Hid _:=hn
   go_wp2
   exact ⟨.inr (.inl ⟨rfl,_,cn,h6,hk1.out,by have:=hb.size;omega⟩),by decide⟩
  ·have hb:=htb.bel
   have p2:=(hb.cell (p:=⟨O,0,none⟩) (zEW o0)).trans o0
   have p3:=(hb.cell (p:=⟨O,1,none⟩) (zEW o1)).trans o1
   have hx:(⟨#[92]⟩:ByteArray)[0]=92:=rfl
   have ht:wr.cell? ⟨T,92,none⟩=some (.slice none 0 0):=htb.tab 92 (by omega)
   have heq:∀(a:Option Addr) (n c:Nat) (w:World),(binOp BinOp.eql 60 (Value.slice a n c) (Value.slice none 0 0)).run Tryz.prog w=.ok (.bool a.isNone) w:=fun a n c w=>Lib.run_eql_slice_nil w _ _ a n c 0 0 Tryz.underlying60
   have hlst:wr.cell? ⟨T,256,none⟩=some (.slice (some ⟨w.heap.size,0,none⟩) 1 2):=htb.lst
   have hcv:(convert 60 9 (.slice (some ⟨wr.heap.size,0,none⟩) 1 1)).run Tryz.prog (wr.alloc (.cells #[.int .u8 92] 5))=.ok (.string ⟨#[92]⟩) (wr.alloc (.cells #[.int .u8 92] 5)) :=
    run_convert_bytes_back (P:=Tryz.prog) _ 60 9 5 ⟨wr.heap.size,0,none⟩ 1 [92] Tryz.underlying60 Tryz.underlying5 Tryz.underlying9 (fun j hj=>by
     match j,hj with
     | 0,_=>simp [Addr.add])
   have h2:=(htb.alloc (.cells #[.int .u8 92] 5)).alloc (.cells #[.string ⟨#[92]⟩] 9)
   have hfL:=h2.fL 1
   obtain ⟨x,hxL⟩:=Option.isSome_iff_exists.1 (h2.isl 1 (by omega))
   have hl2:((wr.alloc (.cells #[.int .u8 92] 5)).alloc (.cells #[.string ⟨#[92]⟩] 9)).cell? ⟨T,256,none⟩=some (.slice (some ⟨w.heap.size,0,none⟩) 1 2):=h2.lst
   have hfT:=h2.fT 256
   have h4:TB w T w.heap.size (fun x=>if x=34 then .slice (some ⟨Q,0,none⟩) 2 cq else .slice none 0 0) [.string ⟨#[34]⟩,.string ⟨#[92]⟩] ((((wr.alloc (.cells #[.int .u8 92] 5)).alloc (.cells #[.string ⟨#[92]⟩] 9)).setCell ⟨w.heap.size,1,none⟩ (.string ⟨#[92]⟩)).setCell ⟨T,256,none⟩ (.slice (some ⟨w.heap.size,0,none⟩) 2 2)):=h2.push (by simp) _
   have hn:wr.heap.size+2=((((wr.alloc (.cells #[.int .u8 92] 5)).alloc (.cells #[.string ⟨#[92]⟩] 9)).setCell ⟨w.heap.size,1,none⟩ (.string ⟨#[92]⟩)).setCell ⟨T,256,none⟩ (.slice (some ⟨w.heap.size,0,none⟩) 2 2)).heap.size:=by rw [World.size_setCell,World.size_setCell];show _=(Array.push (Array.push _ _) _).size;simp
   obtain ⟨cn,row,fr,hcs,r0,r1⟩:=zLP (P:=Tryz.prog) ((((wr.alloc (.cells #[.int .u8 92] 5)).alloc (.cells #[.string ⟨#[92]⟩] 9)).setCell ⟨w.heap.size,1,none⟩ (.string ⟨#[92]⟩)).setCell ⟨T,256,none⟩ (.slice (some ⟨w.heap.size,0,none⟩) 2 2)) 9 60 5 92 92 Tryz.underlying9 Tryz.underlying60 Tryz.underlying5 hn
   have h5:=h4.alloc (.cells row 5 fr)
   have ht5:(((((wr.alloc (.cells #[.int .u8 92] 5)).alloc (.cells #[.string ⟨#[92]⟩] 9)).setCell ⟨w.heap.size,1,none⟩ (.string ⟨#[92]⟩)).setCell ⟨T,256,none⟩ (.slice (some ⟨w.heap.size,0,none⟩) 2 2)).alloc (.cells row 5 fr)).cell? ⟨T,92,none⟩=some (.slice none 0 0):=h5.tab 92 (by omega)
   have hf5:=h5.fT 92
   have lT:=htb.lT
   have lL:=htb.lL
   have nT:=htb.nT
   have hk0:Kp T w.heap.size _ (((((wr.alloc (.cells #[.int .u8 92] 5)).alloc (.cells #[.string ⟨#[92]⟩] 9)).setCell ⟨w.heap.size,1,none⟩ (.string ⟨#[92]⟩)).setCell ⟨T,256,none⟩ (.slice (some ⟨w.heap.size,0,none⟩) 2 2)).alloc (.cells row 5 fr)):=((((hkp.alloc _).alloc _).set (.inr rfl) _ _).set (.inl rfl) _ _).alloc _
   have hk1:=(((hk0.cons (a:=⟨wr.heap.size+2,1,none⟩) (v:=.int .u8 92) r1 (by simp only;omega) (by simp only;omega)).cons (a:=⟨wr.heap.size+2,0,none⟩) (v:=.int .u8 92) r0 (by simp only;omega) (by simp only;omega)).set (.inl rfl) 92 (.slice (some ⟨wr.heap.size+2,0,none⟩) 2 cn)).drew
   have h6:=(h5.setT 92 (by omega) (.slice (some ⟨wr.heap.size+2,0,none⟩) 2 cn)).drew
   replace hk1:Hid _:=hk1
   clear h5 h4 h2 hk0 r0 r1 lT lL nT
   replace hn:Hid _:=hn
   go_wp2
   refine ⟨.inr (.inr ⟨rfl,Q,cq,_,cn,h6.tabs fun b hb=>?_,hk1.out,hQ,by have:=hb.size;omega⟩),by decide⟩
   unfold tabC
   by_cases e:b=92
   ·subst e;rfl
   ·simp only [if_neg e]
  ·have m:=fun p hp=>(hkp p hp).1
   go_wp2
   go_ret
   exact ⟨T,w.heap.size,Q,R,cq,cr,rfl,htb.bel,⟨htb.tab,htb.lst,htb.l 0 (by simp),htb.l 1 (by simp),m (⟨Q,0,none⟩,.int .u8 92) (by simp),m (⟨Q,1,none⟩,.int .u8 34) (by simp),m (⟨R,0,none⟩,.int .u8 92) (by simp),m (⟨R,1,none⟩,.int .u8 92) (by simp)⟩,htb.nT,htb.nL,hQ,hR⟩
end Go.Proofs.YtoboimmgglnjfaaGreatDoor
