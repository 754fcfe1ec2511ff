/- Built once, and used. -/
import Derived.Test.YtoboimmgglnjfaaGreatDoorQuo3
namespace Go.Proofs.YtoboimmgglnjfaaGreatDoor
open Go Go.RowKit Go.Pw
set_option maxRecDepth 100000 in
theorem zPu (b O c:Nat) (v0 v1 v3:Value) (w:World) (hr:Rep b v0 v1 v3 (.slice (some ⟨O,0,none⟩) 4 c) w) (ho:OldNew O w) :
  Calls Tryz.prog 136 #[.pointer (some ⟨b,0,none⟩)] w fun e w'=>e=.returned (.tuple #[])/\∃T,Rep b v0 v1 (.iface 245 (.pointer (some ⟨T,0,none⟩))) (.slice none 0 0) w'/\Besides b w w'/\NewTab w.heap.size T w':=by
 go_enter Tryz.func136,Tryz.ntmps136
 go_wp2_with (go_at_call 152;refine (build_ b O c _ hr.c4 ho.o0 ho.o1 ho.o2 ho.o3).mono ?_;rintro e w' ⟨T,L,Q,R,cq,cr,rfl,hbel,htab,hT,hL,hQ,hR⟩;have hr':=hr.below hbel;have k3:=hr'.c3;have f3:=hr'.fz 3;have k4:=hr'.c4;have f4:=hr'.fz 4)
 go_end0
 have hb:b<w.heap.size:=zEW hr.c0
 exact ⟨rfl,T,(hr'.set3 _).set4 _,((Besides.of hbel).set _ _).set _ _,(NewTab.set (NewTab.set ⟨L,Q,R,cq,cr,htab,hT,hL,hQ,hR⟩ hb _ _) hb _ _)⟩
set_option maxRecDepth 100000 in
theorem load_ (a:Addr) (x:Int) (w:World) (h:w.cell? a=some (.int .u32 x)):Calls Tryz.prog 150 #[.pointer (some a)] w fun e w'=>e=.returned (.bool (x != 0))/\w'=w:=by
 have hl:=run_call_load (P:=Tryz.prog) Tryz.func161 (by kernel_rfl) (by kernel_rfl) (by kernel_rfl) .u32 (by kernel_rfl) h
 go_enter Tryz.func150,Tryz.ntmps150
 go_wp2
 go_ret
 exact ⟨rfl,rfl⟩
set_option maxRecDepth 100000 in
set_option maxHeartbeats 1600000 in
theorem slow_ (b O c:Nat) (v3:Value) (w:World) (hr:Rep b (.int .u32 0) (.int .i32 0) v3 (.slice (some ⟨O,0,none⟩) 4 c) w) (ho:OldNew O w) (hO:O≠b) :
  Calls Tryz.prog 151 #[.pointer (some ⟨b,0,none⟩),.func (.func 136) #[.pointer (some ⟨b,0,none⟩)] #[]] w fun e w'=>e=.returned (.tuple #[])/\∃T,Rep b (.int .u32 1) (.int .i32 0) (.iface 245 (.pointer (some ⟨T,0,none⟩))) (.slice none 0 0) w'/\Besides b w w'/\NewTab w.heap.size T w':=by
 have hb:b<w.heap.size:=zEW hr.c0
 have hr1:=hr.set1 (.int .i32 1)
 have ho1:=ho.set hO 1 (.int .i32 1)
 have hnot:∀(x:Bool) (w:World),(Op.unary .not (.bool x)).run Tryz.prog w=.ok (.bool (!x)) w:=fun _ _=>rfl
 go_enter_defers Tryz.func151,Tryz.ntmps151
 go_wp2_with (go_at_call 162;refine (zOJ ⟨b,1,none⟩ _ hr.c1 (hr.fz 1)).mono ?_;rintro e w' ⟨rfl,rfl⟩)
 go_wp2_with (go_at_call 150;refine (load_ ⟨b,0,none⟩ 0 _ hr1.c0).mono ?_;rintro e w' ⟨rfl,rfl⟩)
 go_wp2_with (go_at_call 136;refine (zPu b O c _ _ _ _ hr1 ho1).mono ?_;rintro e w' ⟨rfl,T,hr2,hb2,hn2⟩)
 refine leaves_cons (f:=164) (args := #[.pointer (some ⟨b,0,none⟩),.bool true]) (by simp) (by simp [go_sem]) ?_
 refine (zJd ⟨b,0,none⟩ (.int .u32 0) .returning _ hr2.c0 (hr2.fz 0)).mono ?_
 rintro e u' w'' ⟨rfl,rfl,rfl⟩
 have hr3:=hr2.drew.set0 (.int .u32 1)
 refine leaves_cons (f:=163) (args := #[.pointer (some ⟨b,1,none⟩)]) (by simp [settle]) (by simp [go_sem]) ?_
 refine (zJB ⟨b,1,none⟩ _ _ hr3.c1 (hr3.fz 1)).mono ?_
 rintro e u' w'' ⟨rfl,rfl,rfl⟩
 have hs:(w.setCell ⟨b,1,none⟩ (.int .i32 1)).heap.size=w.heap.size:=World.size_setCell _ _ _
 rw [hs] at hn2
 have h1:Besides b w ((w'.drew.setCell ⟨b,0,none⟩ (.int .u32 1)).setCell ⟨b,1,none⟩ (.int .i32 0)):=((((Besides.refl b w).set 1 _).trans hb2).drew.set 0 _).set 1 _
 have h2:NewTab w.heap.size T ((w'.drew.setCell ⟨b,0,none⟩ (.int .u32 1)).setCell ⟨b,1,none⟩ (.int .i32 0)):=(hn2.drew.set hb 0 _).set hb 1 _
 have h3:=hr3.set1 (.int .i32 0)
 exact ⟨.tuple #[],results_none rfl _ _ _,rfl,T,h3,h1,h2⟩
set_option maxRecDepth 100000 in
set_option maxHeartbeats 1600000 in
theorem do_ (b O c:Nat) (v3:Value) (w:World) (hr:Rep b (.int .u32 0) (.int .i32 0) v3 (.slice (some ⟨O,0,none⟩) 4 c) w) (ho:OldNew O w) (hO:O≠b) :
  Calls Tryz.prog 135 #[.pointer (some ⟨b,0,none⟩),.func (.func 136) #[.pointer (some ⟨b,0,none⟩)] #[]] w fun e w'=>e=.returned (.tuple #[])/\∃T,Rep b (.int .u32 1) (.int .i32 0) (.iface 245 (.pointer (some ⟨T,0,none⟩))) (.slice none 0 0) w'/\Besides b w w'/\NewTab w.heap.size T w':=by
 have hnot:∀(x:Bool) (w:World),(Op.unary .not (.bool x)).run Tryz.prog w=.ok (.bool (!x)) w:=fun _ _=>rfl
 go_enter Tryz.func135,Tryz.ntmps135
 go_wp2_with (go_at_call 150;refine (load_ ⟨b,0,none⟩ 0 _ hr.c0).mono ?_;rintro e w' ⟨rfl,hw⟩;rw [hw];clear hw w')
 go_wp2_with (go_at_call 151;refine (slow_ b O c v3 _ hr ho hO).mono ?_;rintro e w' ⟨rfl,T,h1,h2,h3⟩)
 go_end0
 exact ⟨rfl,T,h1,h2,h3⟩
set_option maxRecDepth 100000 in
set_option maxHeartbeats 1600000 in
theorem rep_ (b O c:Nat) (s:ByteArray) (hs:s.size<=1000000000) (v3:Value) (w:World) (hr:Rep b (.int .u32 0) (.int .i32 0) v3 (.slice (some ⟨O,0,none⟩) 4 c) w) (ho:OldNew O w) (hO:O≠b) :
  Calls Tryz.prog 114 #[.pointer (some ⟨b,0,none⟩),.string s] w fun e w'=>e=.returned (.string ⟨(quoL s.data.toList).toArray⟩)/\Besides b w w':=by
 have hmf:∀(fn:Fn) (first cap:Array Value) (w:World),(Instr.makeFunc fn first cap).run Tryz.prog w=.ok (.func fn first cap) w:=fun _ _ _ _=>rfl
 have hme : ∀ (T : Nat) (w : World), (method 403 245 (.pointer (some ⟨T, 0, none⟩)) "Replace").run Tryz.prog w = .ok (219, .pointer (some ⟨T, 0, none⟩)) w := fun _ _ => by kernel_rfl
 go_enter Tryz.func114,Tryz.ntmps114
 go_wp2_with (go_at_call 135;refine (do_ b O c v3 _ hr ho hO).mono ?_;rintro e w' ⟨rfl,T,h1,h2,h3⟩;have k3:=h1.c3;obtain ⟨L,Q,R,cq,cr,ht,_⟩:=h3)
 go_wp2_with (go_at_call 219;refine (zTz T L Q R cq cr s _ hs ht).mono ?_;rintro e w'' ⟨rfl,hb⟩)
 go_ret
 exact ⟨rfl,h2.trans (.of hb)⟩
end Go.Proofs.YtoboimmgglnjfaaGreatDoor
