/- The table's way through a text. -/
import Derived.Test.YtoboimmgglnjfaaGreatDoorQuo
import Derived.Test.YtoboimmgglnjfaaGreatDoorQuo1
import Derived.Lib.Bytealg
import Derived.Laws.Cover3
import Derived.Laws.IdiomStrings
namespace Go.Proofs.YtoboimmgglnjfaaGreatDoor
open Go Go.RowKit Go.Pw
set_option maxRecDepth 100000 in
theorem zFT (s:ByteArray) (c:UInt8) (w:World) :
  Calls Tryz.prog 221 #[.string s,.string ⟨#[c]⟩] w fun e w'=>e=.returned (.int .i64 (s.data.toList.count c:Nat))/\w'=w:=by
 go_enter Tryz.func221,Tryz.ntmps221
 go_wp2
 rw [run_callFunc_extern Tryz.func223 (by kernel_rfl) (by kernel_rfl) (by kernel_rfl) (e:=Extern.BytealgCount.count) (by kernel_rfl),Lib.run_countString]
 simp only [Result.andThen]
 rw [Oper.upon_value]
 go_wp2
 go_ret
 exact ⟨by simp [Lib.countByte];rfl,rfl⟩
theorem zIY (b off k:Nat):(⟨b,off,none⟩:Addr).add k=⟨b,off+k,none⟩:=by unfold Addr.add;split<;>simp_all
theorem zNY {n:Nat} (h:n<9223372036854775808):RowKit.wrap64 (n:Int)=(n:Int):=by unfold RowKit.wrap64;omega
set_option maxHeartbeats 4000000 in
set_option maxRecDepth 100000 in
theorem zTz (T L Q R cq cr:Nat) (s:ByteArray) (w:World) (hs:s.size<=1000000000) (t0:TabAt T L Q R cq cr w) :
  Calls Tryz.prog 219 #[.pointer (some ⟨T,0,none⟩),.string s] w fun e w'=>e=.returned (.string ⟨(quoL s.data.toList).toArray⟩)/\Below w.heap.size w w':=by
 have hsl:s.data.toList.length=s.size:=Array.length_toList
 have hlist:=t0.list
 have hl0:=t0.l0
 have hl1:=t0.l1
 have htk:s.data.toList.take s.size=s.data.toList:=List.take_of_length_le (by omega)
 by_cases h16:16<=s.size
 ·have n16:(decide ((16:Int)<=(s.size:Int)))=true:=decide_eq_true (by omega)
  obtain ⟨c1,hc1⟩:∃c,c=s.data.toList.count 34:=⟨_,rfl⟩
  obtain ⟨c2,hc2⟩:∃c,c=s.data.toList.count 92:=⟨_,rfl⟩
  have hle:c1+c2<=s.size:=by
   have h1:=zL9 s.data.toList
   have h2:=zH3 s.data.toList
   rw [hsl] at h1 h2
   omega
  have hlen:Hid ((quoL s.data.toList).length=s.size+(c1+c2)):=by rw [hc1,hc2,<- hsl];exact zL9 _
  have hcc:Hid (c1=s.data.toList.count 34/\c2=s.data.toList.count 92):=⟨hc1,hc2⟩
  clear hc1 hc2
  have hx34:(⟨#[34]⟩:ByteArray)[0]=34:=rfl
  have hx92:(⟨#[92]⟩:ByteArray)[0]=92:=rfl
  have ht34:=t0.t34
  have ht92:=t0.t92
  have hne:∀(a:Option Addr) (n c:Nat) (w:World),(binOp BinOp.neq 60 (Value.slice a n c) (Value.slice none 0 0)).run Tryz.prog w=.ok (.bool (!a.isNone)) w:=fun a n c w=>run_neq_slice_nil w _ _ a n c Tryz.underlying60
  by_cases z1:c1=0
  ·subst z1
   by_cases z2:c2=0
   ·subst z2
    go_enter Tryz.func219,Tryz.ntmps219
    go_wp2
    refine wp_loop_rounds 3 ?_
    rw [rounds_succ]
    go_wp2_with (go_at_call 221;refine (zFT s 34 _).mono ?_;rintro e w' ⟨rfl,hw⟩;rw [hw];clear hw w';rw [<- hcc.out.1])
    rw [rounds_succ]
    go_wp2_with (go_at_call 221;refine (zFT s 92 _).mono ?_;rintro e w' ⟨rfl,hw⟩;rw [hw];clear hw w';rw [<- hcc.out.2])
    rw [rounds_succ]
    go_wp2
    go_ret
    exact ⟨by rw [zPO (zS0 hcc.out.1.symm hcc.out.2.symm)];rfl,⟨rfl,rfl,rfl,Nat.le_refl _,fun _ _=>rfl⟩⟩
   ·have n2:((c2:Int) != 0)=true:=by simp;omega
    obtain ⟨i0,hi0,hz0,hz1,hz2⟩:=info_parts (P:=Tryz.prog) (e:=5) (z:=.int .u8 0) (size:=1) (bytes:=1) (by kernel_rfl)
    obtain ⟨N,hN⟩:∃N,N=(quoL s.data.toList).length:=⟨_,rfl⟩
    have hNle:N<=2000000000:=by rw [hN];have:=zH3 s.data.toList;omega
    have hmk:=fun w=>run_make (P:=Tryz.prog) (w:=w) 60 5 i0 (.int .u8 0) Tryz.underlying60 hi0 hz0 .i64 .i64 (N:Int) (N:Int) (by omega) (by omega) (by rw [hz2];omega) (by omega)
    simp only [hz1,Int.toNat_natCast,Nat.mul_one] at hmk
    have e5:((s.size:Int)+(c2:Int):Int)=((quoL s.data.toList).length:Nat):=by rw [hlen.out];omega
    go_enter Tryz.func219,Tryz.ntmps219
    go_wp2
    refine wp_loop_rounds 3 ?_
    rw [rounds_succ]
    go_wp2_with (go_at_call 221;refine (zFT s 34 _).mono ?_;rintro e w' ⟨rfl,hw⟩;rw [hw];clear hw w';rw [<- hcc.out.1])
    rw [rounds_succ]
    go_wp2_with (go_at_call 221;refine (zFT s 92 _).mono ?_;rintro e w' ⟨rfl,hw⟩;rw [hw];clear hw w';rw [<- hcc.out.2])
    go_region
    go_wp2
    rw [rounds_succ]
    rw [<- hN]
    replace hN:Hid (N=(quoL s.data.toList).length):=hN
    go_wp2
    go_loopw [13,14] (fun v13 v14 wr=>∃k:Nat,k<=s.size/\v14=.int .i64 k/\v13=.int .i64 ((quoL (s.data.toList.take k)).length:Nat)/\TW w N (quoL (s.data.toList.take k)) wr) (fun _ v _=>match v with | .int _ i=>s.size - i.toNat | _=>0)
    case atStart=>exact ⟨0,by omega,rfl,by simp [quoL],by first | exact TW.alloc rfl rfl rfl rfl | exact (TW.alloc rfl rfl rfl rfl).drew | exact (TW.alloc rfl rfl rfl rfl).drew.drew⟩
    case round =>
     obtain ⟨k,hk,rfl,rfl,htw⟩:=hrel
     by_cases hlt:k<s.size
     ·have nlt:decide ((k:Int)<(s.size:Int))=true:=decide_eq_true (by omega)
      obtain ⟨b,hb⟩:∃b,b=s.data.toList[k]'(by omega):=⟨_,rfl⟩
      have hsk:s[k]=b:=by rw [hb];exact (Array.getElem_toList ..).symm
      have tw:=htw.tab t0
      have e1:=zHn hb.symm
      have hmo:=zJw (l:=s.data.toList) (k:=k+1)
      rw [<- hN.out,e1,List.length_append] at hmo
      replace e1:Hid (quoL (s.data.toList.take (k+1))=quoL (s.data.toList.take k)++quoB b):=e1
      clear hb
      obtain ⟨out,ho⟩:∃o,o=quoL (s.data.toList.take k):=⟨_,rfl⟩
      rw [<- ho] at htw e1 hmo ⊢
      clear ho
      by_cases h34:b=34
      ·subst h34
       rw [show (quoB 34).length=2 from rfl] at hmo
       have ht:=tw.t34
       have htd:=htw.drew
       have hcp:=htd.copy (P:=Tryz.prog) (dT:=60) (ty:=3) (e:=5) Tryz.underlying60 (by kernel_rfl) (Q:=Q) (cq:=cq) (c:=N - out.length) (b1:=92) (b2:=34) (htd.tab t0).q0 (htd.tab t0).q1 (by omega)
       go_wp2
       go_region
       all_goals go_wp2
       all_goals refine ⟨⟨k+1,by omega,rfl,?_,?_⟩,by show s.size - ((k:Int)+1).toNat<s.size - ((k:Int)).toNat;omega⟩
       all_goals rw [e1.out]
       all_goals first | (simp [quoB,zCD];done) | exact htd.set2 92 34 (by omega)
      by_cases h92:b=92
      ·subst h92
       rw [show (quoB 92).length=2 from rfl] at hmo
       have ht:=tw.t92
       have htd:=htw.drew
       have hcp:=htd.copy (P:=Tryz.prog) (dT:=60) (ty:=3) (e:=5) Tryz.underlying60 (by kernel_rfl) (Q:=R) (cq:=cr) (c:=N - out.length) (b1:=92) (b2:=92) (htd.tab t0).r0 (htd.tab t0).r1 (by omega)
       go_wp2
       go_region
       all_goals go_wp2
       all_goals refine ⟨⟨k+1,by omega,rfl,?_,?_⟩,by show s.size - ((k:Int)+1).toNat<s.size - ((k:Int)).toNat;omega⟩
       all_goals rw [e1.out]
       all_goals first | (simp [quoB,zCD];done) | exact htd.set2 92 92 (by omega)
      have hq:quoB b=[b]:=by simp [quoB,zCD,h34,h92]
      rw [hq] at hmo e1
      have ht:=tw.other h34 h92
      have hlt8:((b.toNat:Nat):Int)<256:=by have:=b.toNat_lt;omega
      obtain ⟨x,hx⟩:=Option.isSome_iff_exists.1 (htw.isc out.length (by simp at hmo;omega))
      have hfz:=htw.fz out.length
      have hlN:((out.length:Nat):Int)<(N:Int):=by simp at hmo;omega
      go_wp2
      refine ⟨⟨k+1,by omega,rfl,?_,?_⟩,by show s.size - ((k:Int)+1).toNat<s.size - ((k:Int)).toNat;omega⟩
      all_goals rw [e1.out]
      ·simp
      ·exact htw.set b (by simp at hmo;omega)
     ·have nlt:decide ((k:Int)<(s.size:Int))=false:=decide_eq_false (by omega)
      obtain rfl:k=s.size:=by omega
      rw [htk] at htw ⊢
      have hcv:=run_convert_bytes_back (P:=Tryz.prog) wr 60 9 5 ⟨w.heap.size,0,none⟩ N (quoL s.data.toList) Tryz.underlying60 Tryz.underlying5 Tryz.underlying9 (fun j hj=>by rw [zIY,Nat.zero_add];exact htw.cells j hj)
      rw [<- hN.out] at hcv ⊢
      go_wp2
      go_ret
      exact ⟨rfl,htw.below⟩
  ·have n1:((c1:Int) != 0)=true:=by simp;omega
   by_cases z2:c2=0
   ·subst z2
    obtain ⟨i0,hi0,hz0,hz1,hz2⟩:=info_parts (P:=Tryz.prog) (e:=5) (z:=.int .u8 0) (size:=1) (bytes:=1) (by kernel_rfl)
    obtain ⟨N,hN⟩:∃N,N=(quoL s.data.toList).length:=⟨_,rfl⟩
    have hNle:N<=2000000000:=by rw [hN];have:=zH3 s.data.toList;omega
    have hmk:=fun w=>run_make (P:=Tryz.prog) (w:=w) 60 5 i0 (.int .u8 0) Tryz.underlying60 hi0 hz0 .i64 .i64 (N:Int) (N:Int) (by omega) (by omega) (by rw [hz2];omega) (by omega)
    simp only [hz1,Int.toNat_natCast,Nat.mul_one] at hmk
    have e5:((s.size:Int)+(c1:Int):Int)=((quoL s.data.toList).length:Nat):=by rw [hlen.out];omega
    go_enter Tryz.func219,Tryz.ntmps219
    go_wp2
    refine wp_loop_rounds 3 ?_
    rw [rounds_succ]
    go_wp2_with (go_at_call 221;refine (zFT s 34 _).mono ?_;rintro e w' ⟨rfl,hw⟩;rw [hw];clear hw w';rw [<- hcc.out.1])
    go_region
    go_wp2
    rw [rounds_succ]
    go_wp2_with (go_at_call 221;refine (zFT s 92 _).mono ?_;rintro e w' ⟨rfl,hw⟩;rw [hw];clear hw w';rw [<- hcc.out.2])
    rw [rounds_succ]
    rw [<- hN]
    replace hN:Hid (N=(quoL s.data.toList).length):=hN
    go_wp2
    go_loopw [13,14] (fun v13 v14 wr=>∃k:Nat,k<=s.size/\v14=.int .i64 k/\v13=.int .i64 ((quoL (s.data.toList.take k)).length:Nat)/\TW w N (quoL (s.data.toList.take k)) wr) (fun _ v _=>match v with | .int _ i=>s.size - i.toNat | _=>0)
    case atStart=>exact ⟨0,by omega,rfl,by simp [quoL],by first | exact TW.alloc rfl rfl rfl rfl | exact (TW.alloc rfl rfl rfl rfl).drew | exact (TW.alloc rfl rfl rfl rfl).drew.drew⟩
    case round =>
     obtain ⟨k,hk,rfl,rfl,htw⟩:=hrel
     by_cases hlt:k<s.size
     ·have nlt:decide ((k:Int)<(s.size:Int))=true:=decide_eq_true (by omega)
      obtain ⟨b,hb⟩:∃b,b=s.data.toList[k]'(by omega):=⟨_,rfl⟩
      have hsk:s[k]=b:=by rw [hb];exact (Array.getElem_toList ..).symm
      have tw:=htw.tab t0
      have e1:=zHn hb.symm
      have hmo:=zJw (l:=s.data.toList) (k:=k+1)
      rw [<- hN.out,e1,List.length_append] at hmo
      replace e1:Hid (quoL (s.data.toList.take (k+1))=quoL (s.data.toList.take k)++quoB b):=e1
      clear hb
      obtain ⟨out,ho⟩:∃o,o=quoL (s.data.toList.take k):=⟨_,rfl⟩
      rw [<- ho] at htw e1 hmo ⊢
      clear ho
      by_cases h34:b=34
      ·subst h34
       rw [show (quoB 34).length=2 from rfl] at hmo
       have ht:=tw.t34
       have htd:=htw.drew
       have hcp:=htd.copy (P:=Tryz.prog) (dT:=60) (ty:=3) (e:=5) Tryz.underlying60 (by kernel_rfl) (Q:=Q) (cq:=cq) (c:=N - out.length) (b1:=92) (b2:=34) (htd.tab t0).q0 (htd.tab t0).q1 (by omega)
       go_wp2
       go_region
       all_goals go_wp2
       all_goals refine ⟨⟨k+1,by omega,rfl,?_,?_⟩,by show s.size - ((k:Int)+1).toNat<s.size - ((k:Int)).toNat;omega⟩
       all_goals rw [e1.out]
       all_goals first | (simp [quoB,zCD];done) | exact htd.set2 92 34 (by omega)
      by_cases h92:b=92
      ·subst h92
       rw [show (quoB 92).length=2 from rfl] at hmo
       have ht:=tw.t92
       have htd:=htw.drew
       have hcp:=htd.copy (P:=Tryz.prog) (dT:=60) (ty:=3) (e:=5) Tryz.underlying60 (by kernel_rfl) (Q:=R) (cq:=cr) (c:=N - out.length) (b1:=92) (b2:=92) (htd.tab t0).r0 (htd.tab t0).r1 (by omega)
       go_wp2
       go_region
       all_goals go_wp2
       all_goals refine ⟨⟨k+1,by omega,rfl,?_,?_⟩,by show s.size - ((k:Int)+1).toNat<s.size - ((k:Int)).toNat;omega⟩
       all_goals rw [e1.out]
       all_goals first | (simp [quoB,zCD];done) | exact htd.set2 92 92 (by omega)
      have hq:quoB b=[b]:=by simp [quoB,zCD,h34,h92]
      rw [hq] at hmo e1
      have ht:=tw.other h34 h92
      have hlt8:((b.toNat:Nat):Int)<256:=by have:=b.toNat_lt;omega
      obtain ⟨x,hx⟩:=Option.isSome_iff_exists.1 (htw.isc out.length (by simp at hmo;omega))
      have hfz:=htw.fz out.length
      have hlN:((out.length:Nat):Int)<(N:Int):=by simp at hmo;omega
      go_wp2
      refine ⟨⟨k+1,by omega,rfl,?_,?_⟩,by show s.size - ((k:Int)+1).toNat<s.size - ((k:Int)).toNat;omega⟩
      all_goals rw [e1.out]
      ·simp
      ·exact htw.set b (by simp at hmo;omega)
     ·have nlt:decide ((k:Int)<(s.size:Int))=false:=decide_eq_false (by omega)
      obtain rfl:k=s.size:=by omega
      rw [htk] at htw ⊢
      have hcv:=run_convert_bytes_back (P:=Tryz.prog) wr 60 9 5 ⟨w.heap.size,0,none⟩ N (quoL s.data.toList) Tryz.underlying60 Tryz.underlying5 Tryz.underlying9 (fun j hj=>by rw [zIY,Nat.zero_add];exact htw.cells j hj)
      rw [<- hN.out] at hcv ⊢
      go_wp2
      go_ret
      exact ⟨rfl,htw.below⟩
   ·have n2:((c2:Int) != 0)=true:=by simp;omega
    obtain ⟨i0,hi0,hz0,hz1,hz2⟩:=info_parts (P:=Tryz.prog) (e:=5) (z:=.int .u8 0) (size:=1) (bytes:=1) (by kernel_rfl)
    obtain ⟨N,hN⟩:∃N,N=(quoL s.data.toList).length:=⟨_,rfl⟩
    have hNle:N<=2000000000:=by rw [hN];have:=zH3 s.data.toList;omega
    have hmk:=fun w=>run_make (P:=Tryz.prog) (w:=w) 60 5 i0 (.int .u8 0) Tryz.underlying60 hi0 hz0 .i64 .i64 (N:Int) (N:Int) (by omega) (by omega) (by rw [hz2];omega) (by omega)
    simp only [hz1,Int.toNat_natCast,Nat.mul_one] at hmk
    have e5:((s.size:Int)+(c1:Int)+(c2:Int):Int)=((quoL s.data.toList).length:Nat):=by rw [hlen.out];omega
    go_enter Tryz.func219,Tryz.ntmps219
    go_wp2
    refine wp_loop_rounds 3 ?_
    rw [rounds_succ]
    go_wp2_with (go_at_call 221;refine (zFT s 34 _).mono ?_;rintro e w' ⟨rfl,hw⟩;rw [hw];clear hw w';rw [<- hcc.out.1])
    go_region
    go_wp2
    rw [rounds_succ]
    go_wp2_with (go_at_call 221;refine (zFT s 92 _).mono ?_;rintro e w' ⟨rfl,hw⟩;rw [hw];clear hw w';rw [<- hcc.out.2])
    go_region
    go_wp2
    rw [rounds_succ]
    rw [<- hN]
    replace hN:Hid (N=(quoL s.data.toList).length):=hN
    go_wp2
    go_loopw [13,14] (fun v13 v14 wr=>∃k:Nat,k<=s.size/\v14=.int .i64 k/\v13=.int .i64 ((quoL (s.data.toList.take k)).length:Nat)/\TW w N (quoL (s.data.toList.take k)) wr) (fun _ v _=>match v with | .int _ i=>s.size - i.toNat | _=>0)
    case atStart=>exact ⟨0,by omega,rfl,by simp [quoL],by first | exact TW.alloc rfl rfl rfl rfl | exact (TW.alloc rfl rfl rfl rfl).drew | exact (TW.alloc rfl rfl rfl rfl).drew.drew⟩
    case round =>
     obtain ⟨k,hk,rfl,rfl,htw⟩:=hrel
     by_cases hlt:k<s.size
     ·have nlt:decide ((k:Int)<(s.size:Int))=true:=decide_eq_true (by omega)
      obtain ⟨b,hb⟩:∃b,b=s.data.toList[k]'(by omega):=⟨_,rfl⟩
      have hsk:s[k]=b:=by rw [hb];exact (Array.getElem_toList ..).symm
      have tw:=htw.tab t0
      have e1:=zHn hb.symm
      have hmo:=zJw (l:=s.data.toList) (k:=k+1)
      rw [<- hN.out,e1,List.length_append] at hmo
      replace e1:Hid (quoL (s.data.toList.take (k+1))=quoL (s.data.toList.take k)++quoB b):=e1
      clear hb
      obtain ⟨out,ho⟩:∃o,o=quoL (s.data.toList.take k):=⟨_,rfl⟩
      rw [<- ho] at htw e1 hmo ⊢
      clear ho
      by_cases h34:b=34
      ·subst h34
       rw [show (quoB 34).length=2 from rfl] at hmo
       have ht:=tw.t34
       have htd:=htw.drew
       have hcp:=htd.copy (P:=Tryz.prog) (dT:=60) (ty:=3) (e:=5) Tryz.underlying60 (by kernel_rfl) (Q:=Q) (cq:=cq) (c:=N - out.length) (b1:=92) (b2:=34) (htd.tab t0).q0 (htd.tab t0).q1 (by omega)
       go_wp2
       go_region
       all_goals go_wp2
       all_goals refine ⟨⟨k+1,by omega,rfl,?_,?_⟩,by show s.size - ((k:Int)+1).toNat<s.size - ((k:Int)).toNat;omega⟩
       all_goals rw [e1.out]
       all_goals first | (simp [quoB,zCD];done) | exact htd.set2 92 34 (by omega)
      by_cases h92:b=92
      ·subst h92
       rw [show (quoB 92).length=2 from rfl] at hmo
       have ht:=tw.t92
       have htd:=htw.drew
       have hcp:=htd.copy (P:=Tryz.prog) (dT:=60) (ty:=3) (e:=5) Tryz.underlying60 (by kernel_rfl) (Q:=R) (cq:=cr) (c:=N - out.length) (b1:=92) (b2:=92) (htd.tab t0).r0 (htd.tab t0).r1 (by omega)
       go_wp2
       go_region
       all_goals go_wp2
       all_goals refine ⟨⟨k+1,by omega,rfl,?_,?_⟩,by show s.size - ((k:Int)+1).toNat<s.size - ((k:Int)).toNat;omega⟩
       all_goals rw [e1.out]
       all_goals first | (simp [quoB,zCD];done) | exact htd.set2 92 92 (by omega)
      have hq:quoB b=[b]:=by simp [quoB,zCD,h34,h92]
      rw [hq] at hmo e1
      have ht:=tw.other h34 h92
      have hlt8:((b.toNat:Nat):Int)<256:=by have:=b.toNat_lt;omega
      obtain ⟨x,hx⟩:=Option.isSome_iff_exists.1 (htw.isc out.length (by simp at hmo;omega))
      have hfz:=htw.fz out.length
      have hlN:((out.length:Nat):Int)<(N:Int):=by simp at hmo;omega
      go_wp2
      refine ⟨⟨k+1,by omega,rfl,?_,?_⟩,by show s.size - ((k:Int)+1).toNat<s.size - ((k:Int)).toNat;omega⟩
      all_goals rw [e1.out]
      ·simp
      ·exact htw.set b (by simp at hmo;omega)
     ·have nlt:decide ((k:Int)<(s.size:Int))=false:=decide_eq_false (by omega)
      obtain rfl:k=s.size:=by omega
      rw [htk] at htw ⊢
      have hcv:=run_convert_bytes_back (P:=Tryz.prog) wr 60 9 5 ⟨w.heap.size,0,none⟩ N (quoL s.data.toList) Tryz.underlying60 Tryz.underlying5 Tryz.underlying9 (fun j hj=>by rw [zIY,Nat.zero_add];exact htw.cells j hj)
      rw [<- hN.out] at hcv ⊢
      go_wp2
      go_ret
      exact ⟨rfl,htw.below⟩
 have hne:∀(a:Option Addr) (n c:Nat) (w:World),(binOp BinOp.neq 60 (Value.slice a n c) (Value.slice none 0 0)).run Tryz.prog w=.ok (.bool (!a.isNone)) w:=fun a n c w=>run_neq_slice_nil w _ _ a n c Tryz.underlying60
 have n16:(decide ((16:Int)<=(s.size:Int)))=false:=decide_eq_false (by omega)
 go_enter Tryz.func219,Tryz.ntmps219
 go_wp2
 go_loop [5,6,10] (fun v5 v6 v10=>∃k:Nat,k<=s.size/\v10=.int .i64 k/\v5=.int .i64 ((quoL (s.data.toList.take k)).length+(s.size - k):Nat)/\v6=.bool ((s.data.toList.take k).any zCD)) (fun _ _ v=>match v with | .int _ i=>s.size - i.toNat | _=>0)
 case atStart=>exact ⟨0,by omega,rfl,by simp [quoL],rfl⟩
 case round =>
  obtain ⟨k,hk,rfl,rfl,rfl⟩:=hrel
  by_cases hlt:k<s.size
  ·have nlt:decide ((k:Int)<(s.size:Int))=true:=decide_eq_true (by omega)
   obtain ⟨b,hb⟩:∃b,b=s.data.toList[k]'(by omega):=⟨_,rfl⟩
   have hsk:s[k]=b:=by rw [hb];exact (Array.getElem_toList ..).symm
   by_cases h34:b=34
   ·have ht:=t0.t34
    have hsp:zCD b=true:=by rw [h34];rfl
    have e1:=zMA hb.symm
    have e2:=zLc hb.symm
    rw [hsp] at e1 e2
    rw [h34] at hsk
    clear hb
    go_wp2
    refine ⟨⟨k+1,by omega,rfl,?_,by rw [e2,Bool.or_true]⟩,by show s.size - ((k:Int)+1).toNat<s.size - ((k:Int)).toNat;omega⟩
    have hb2:=zH3 (s.data.toList.take k)
    rw [List.length_take] at hb2
    have e3:((((quoL (s.data.toList.take k)).length:Nat):Int)+((s.size - k:Nat):Int)+1)=(((quoL (s.data.toList.take k)).length+(s.size - k)+1:Nat):Int):=by omega
    rw [e1,e3,zNY (by omega),if_pos rfl]
    congr 2
    omega
   by_cases h92:b=92
   ·have ht:=t0.t92
    have hsp:zCD b=true:=by rw [h92];rfl
    have e1:=zMA hb.symm
    have e2:=zLc hb.symm
    rw [hsp] at e1 e2
    rw [h92] at hsk
    clear hb
    go_wp2
    refine ⟨⟨k+1,by omega,rfl,?_,by rw [e2,Bool.or_true]⟩,by show s.size - ((k:Int)+1).toNat<s.size - ((k:Int)).toNat;omega⟩
    have hb2:=zH3 (s.data.toList.take k)
    rw [List.length_take] at hb2
    have e3:((((quoL (s.data.toList.take k)).length:Nat):Int)+((s.size - k:Nat):Int)+1)=(((quoL (s.data.toList.take k)).length+(s.size - k)+1:Nat):Int):=by omega
    rw [e1,e3,zNY (by omega),if_pos rfl]
    congr 2
    omega
   ·have ht:=t0.other h34 h92
    have hsp:zCD b=false:=by simp [zCD,h34,h92]
    have e1:=zMA hb.symm
    have e2:=zLc hb.symm
    rw [hsp] at e1 e2
    have hlt8:((b.toNat:Nat):Int)<256:=by have:=b.toNat_lt;omega
    clear hb
    go_wp2
    refine ⟨⟨k+1,by omega,rfl,?_,by rw [e2,Bool.or_false]⟩,by show s.size - ((k:Int)+1).toNat<s.size - ((k:Int)).toNat;omega⟩
    rw [e1,if_neg (by decide)]
    congr 2
    omega
  ·have nlt:decide ((k:Int)<(s.size:Int))=false:=decide_eq_false (by omega)
   obtain rfl:k=s.size:=by omega
   rw [htk,Nat.sub_self,Nat.add_zero]
   by_cases hany:s.data.toList.any zCD=true
   ·rw [hany]
    obtain ⟨i0,hi0,hz0,hz1,hz2⟩:=info_parts (P:=Tryz.prog) (e:=5) (z:=.int .u8 0) (size:=1) (bytes:=1) (by kernel_rfl)
    obtain ⟨N,hN⟩:∃N,N=(quoL s.data.toList).length:=⟨_,rfl⟩
    have hNle:N<=2000000000:=by rw [hN];have:=zH3 s.data.toList;omega
    have hmk:=fun w=>run_make (P:=Tryz.prog) (w:=w) 60 5 i0 (.int .u8 0) Tryz.underlying60 hi0 hz0 .i64 .i64 (N:Int) (N:Int) (by omega) (by omega) (by rw [hz2];omega) (by omega)
    simp only [hz1,Int.toNat_natCast,Nat.mul_one] at hmk
    rw [<- hN]
    replace hN:Hid (N=(quoL s.data.toList).length):=hN
    go_wp2
    go_loopw [13,14] (fun v13 v14 wr=>∃k:Nat,k<=s.size/\v14=.int .i64 k/\v13=.int .i64 ((quoL (s.data.toList.take k)).length:Nat)/\TW w N (quoL (s.data.toList.take k)) wr) (fun _ v _=>match v with | .int _ i=>s.size - i.toNat | _=>0)
    case atStart=>exact ⟨0,by omega,rfl,by simp [quoL],by first | exact TW.alloc rfl rfl rfl rfl | exact (TW.alloc rfl rfl rfl rfl).drew | exact (TW.alloc rfl rfl rfl rfl).drew.drew⟩
    case round =>
     obtain ⟨k,hk,rfl,rfl,htw⟩:=hrel
     by_cases hlt:k<s.size
     ·have nlt:decide ((k:Int)<(s.size:Int))=true:=decide_eq_true (by omega)
      obtain ⟨b,hb⟩:∃b,b=s.data.toList[k]'(by omega):=⟨_,rfl⟩
      have hsk:s[k]=b:=by rw [hb];exact (Array.getElem_toList ..).symm
      have tw:=htw.tab t0
      have e1:=zHn hb.symm
      have hmo:=zJw (l:=s.data.toList) (k:=k+1)
      rw [<- hN.out,e1,List.length_append] at hmo
      replace e1:Hid (quoL (s.data.toList.take (k+1))=quoL (s.data.toList.take k)++quoB b):=e1
      clear hb
      obtain ⟨out,ho⟩:∃o,o=quoL (s.data.toList.take k):=⟨_,rfl⟩
      rw [<- ho] at htw e1 hmo ⊢
      clear ho
      by_cases h34:b=34
      ·subst h34
       rw [show (quoB 34).length=2 from rfl] at hmo
       have ht:=tw.t34
       have htd:=htw.drew
       have hcp:=htd.copy (P:=Tryz.prog) (dT:=60) (ty:=3) (e:=5) Tryz.underlying60 (by kernel_rfl) (Q:=Q) (cq:=cq) (c:=N - out.length) (b1:=92) (b2:=34) (htd.tab t0).q0 (htd.tab t0).q1 (by omega)
       go_wp2
       go_region
       all_goals go_wp2
       all_goals refine ⟨⟨k+1,by omega,rfl,?_,?_⟩,by show s.size - ((k:Int)+1).toNat<s.size - ((k:Int)).toNat;omega⟩
       all_goals rw [e1.out]
       all_goals first | (simp [quoB,zCD];done) | exact htd.set2 92 34 (by omega)
      by_cases h92:b=92
      ·subst h92
       rw [show (quoB 92).length=2 from rfl] at hmo
       have ht:=tw.t92
       have htd:=htw.drew
       have hcp:=htd.copy (P:=Tryz.prog) (dT:=60) (ty:=3) (e:=5) Tryz.underlying60 (by kernel_rfl) (Q:=R) (cq:=cr) (c:=N - out.length) (b1:=92) (b2:=92) (htd.tab t0).r0 (htd.tab t0).r1 (by omega)
       go_wp2
       go_region
       all_goals go_wp2
       all_goals refine ⟨⟨k+1,by omega,rfl,?_,?_⟩,by show s.size - ((k:Int)+1).toNat<s.size - ((k:Int)).toNat;omega⟩
       all_goals rw [e1.out]
       all_goals first | (simp [quoB,zCD];done) | exact htd.set2 92 92 (by omega)
      have hq:quoB b=[b]:=by simp [quoB,zCD,h34,h92]
      rw [hq] at hmo e1
      have ht:=tw.other h34 h92
      have hlt8:((b.toNat:Nat):Int)<256:=by have:=b.toNat_lt;omega
      obtain ⟨x,hx⟩:=Option.isSome_iff_exists.1 (htw.isc out.length (by simp at hmo;omega))
      have hfz:=htw.fz out.length
      have hlN:((out.length:Nat):Int)<(N:Int):=by simp at hmo;omega
      go_wp2
      refine ⟨⟨k+1,by omega,rfl,?_,?_⟩,by show s.size - ((k:Int)+1).toNat<s.size - ((k:Int)).toNat;omega⟩
      all_goals rw [e1.out]
      ·simp
      ·exact htw.set b (by simp at hmo;omega)
     ·have nlt:decide ((k:Int)<(s.size:Int))=false:=decide_eq_false (by omega)
      obtain rfl:k=s.size:=by omega
      rw [htk] at htw ⊢
      have hcv:=run_convert_bytes_back (P:=Tryz.prog) wr 60 9 5 ⟨w.heap.size,0,none⟩ N (quoL s.data.toList) Tryz.underlying60 Tryz.underlying5 Tryz.underlying9 (fun j hj=>by rw [zIY,Nat.zero_add];exact htw.cells j hj)
      rw [<- hN.out] at hcv ⊢
      go_wp2
      go_ret
      exact ⟨rfl,htw.below⟩
   ·have hany:s.data.toList.any zCD=false:=by simpa using hany
    rw [hany]
    go_wp2
    go_ret
    exact ⟨by rw [zPO hany];rfl,⟨rfl,rfl,rfl,Nat.le_refl _,fun _ _=>rfl⟩⟩
end Go.Proofs.YtoboimmgglnjfaaGreatDoor
