/- Quote. -/
import Derived.Test.YtoboimmgglnjfaaGreatDoorQuo4
namespace Go.Proofs.YtoboimmgglnjfaaGreatDoor
open Go Go.RowKit Go.Pw
set_option maxRecDepth 100000 in
set_option maxHeartbeats 1600000 in
theorem zVe (O:Nat) (w:World) (ho:OldNew O w) :
  Calls Tryz.prog 113 #[.slice (some ⟨O,0,none⟩) 4 4] w fun e w'=>∃b O' c,e=.returned (.pointer (some ⟨b,0,none⟩))/\Rep b (.int .u32 0) (.int .i32 0) .nilIface (.slice (some ⟨O',0,none⟩) 4 c) w'/\OldNew O' w'/\O'≠b/\Below w.heap.size w w'/\w.heap.size<=b:=by
 obtain ⟨i0,hi0,hz0,hs0,hb0⟩:=info_parts (P:=Tryz.prog) (e:=9) (z:=.string ⟨#[]⟩) (size:=1) (bytes:=16) (by kernel_rfl)
 obtain ⟨n,hn⟩:∃n,n=4:=⟨_,rfl⟩
 have hap:=run_append_nil (P:=Tryz.prog) w 40 40 9 i0 (.string ⟨#[]⟩) Tryz.underlying40 hi0 hz0 ⟨O,0,none⟩ n 4 [.string ⟨#[92]⟩,.string ⟨#[92,92]⟩,.string ⟨#[34]⟩,.string ⟨#[92,34]⟩] (by rw [hs0,hn];rfl) (fun j v hj=>by
  match j,hj with
  | 0,hj=>cases hj;exact ho.o0
  | 1,hj=>cases hj;exact ho.o1
  | 2,hj=>cases hj;exact ho.o2
  | 3,hj=>cases hj;exact ho.o3) (by omega) (by omega) (by rw [hb0,hn];omega)
 obtain ⟨c,hc⟩:∃c,c=grownCap w n 0 9:=⟨_,rfl⟩
 obtain ⟨row,hrow⟩:∃row:Array Value,row=[.string ⟨#[92]⟩,.string ⟨#[92,92]⟩,.string ⟨#[34]⟩,.string ⟨#[92,34]⟩].toArray++Builtin.zeroCells (Value.string ⟨#[]⟩).cells (c - n):=⟨_,rfl⟩
 rw [<- hc,<- hrow] at hap
 have r0:row[0]? = some (.string ⟨#[92]⟩):=by rw [hrow,Array.getElem?_append_left (by simp)];rfl
 have r1:row[1]? = some (.string ⟨#[92,92]⟩):=by rw [hrow,Array.getElem?_append_left (by simp)];rfl
 have r2:row[2]? = some (.string ⟨#[34]⟩):=by rw [hrow,Array.getElem?_append_left (by simp)];rfl
 have r3:row[3]? = some (.string ⟨#[92,34]⟩):=by rw [hrow,Array.getElem?_append_left (by simp)];rfl
 clear hc hrow
 have hrem:Int.tmod (n:Int) 2=0:=by rw [hn];rfl
 suffices h:Calls Tryz.prog 113 #[.slice (some ⟨O,0,none⟩) n 4] w fun e w'=>∃b O' c,e=.returned (.pointer (some ⟨b,0,none⟩))/\Rep b (.int .u32 0) (.int .i32 0) .nilIface (.slice (some ⟨O',0,none⟩) n c) w'/\OldNew O' w'/\O'≠b/\Below w.heap.size w w'/\w.heap.size<=b by rw [hn] at h;exact h
 clear hn
 replace hap:Hid _:=hap
 go_enter Tryz.func113,Tryz.ntmps113
 go_wp2_with (at_builtin;refine zJf rfl rfl rfl rfl hap.out ?_)
 go_ret
 obtain ⟨k1,k2,k3,k4⟩:=zWO w row #[.int .u32 0,.int .i32 0,.int .u32 0,.nilIface,.slice (some ⟨w.heap.size,0,none⟩) n c] 9 191
 exact ⟨w.heap.size+1,w.heap.size,c,rfl,⟨k2 0,k2 1,k2 3,k2 4,k3⟩,⟨(k1 0).trans r0,(k1 1).trans r1,(k1 2).trans r2,(k1 3).trans r3⟩,by omega,k4,by omega⟩
set_option maxRecDepth 100000 in
set_option maxHeartbeats 1600000 in
theorem quote_ (s:ByteArray) (hs:s.size<=1000000000) (w:World):Calls Tryz.prog 91 #[.string s] w fun e w'=>e=.returned (.string ⟨(34::quoL s.data.toList++[34]).toArray⟩)/\Below w.heap.size w w':=by
 have ho:OldNew w.heap.size (w.alloc (.cells #[.string ⟨#[92]⟩,.string ⟨#[92,92]⟩,.string ⟨#[34]⟩,.string ⟨#[92,34]⟩] 9)):=by
  constructor<;>simp
 have hq:=zH3 s.data.toList
 have hl:s.data.toList.length=s.size:=Array.length_toList
 have g1:¬9223372036854775807<1+(quoL s.data.toList).length:=by omega
 have g2:¬9223372036854775807<1+(quoL s.data.toList).length+1:=by omega
 have g3:(((⟨#[34]⟩:ByteArray)++⟨(quoL s.data.toList).toArray⟩)++⟨#[34]⟩)=⟨(34::quoL s.data.toList++[34]).toArray⟩:=by
  apply ByteArray.ext
  simp
 replace g3:Hid _:=g3
 clear hq hl
 go_enter Tryz.func91,Tryz.ntmps91
 go_wp2_with (go_at_call 113;refine (zVe _ _ ho).mono ?_;rintro e w' ⟨b,O',c,rfl,h1,h2,h3,h4,h5⟩)
 go_wp2_with (go_at_call 114;refine (rep_ b O' c s hs _ _ h1 h2 h3).mono ?_;rintro e w'' ⟨rfl,h6⟩)
 go_ret
 refine ⟨congrArg (fun x=>Ending.returned (.string x)) g3.out,?_⟩
 have hz:(w.alloc (.cells #[.string ⟨#[92]⟩,.string ⟨#[92,92]⟩,.string ⟨#[34]⟩,.string ⟨#[92,34]⟩] 9)).heap.size=w.heap.size+1:=by show (w.heap.push _).size=_;simp
 have h7:Below w.heap.size w w':=Below.trans ((Below.refl _ w).alloc (Nat.le_refl _) _) (h4.mono (by rw [hz];omega))
 exact ⟨h6.os.trans h7.os,h6.tape.trans h7.tape,h6.output.trans h7.output,Nat.le_trans h7.size h6.size,fun k hk=>(h6.block k (Nat.lt_of_lt_of_le hk h7.size) (by rw [hz] at h5;omega)).trans (h7.block k hk)⟩
end Go.Proofs.YtoboimmgglnjfaaGreatDoor
