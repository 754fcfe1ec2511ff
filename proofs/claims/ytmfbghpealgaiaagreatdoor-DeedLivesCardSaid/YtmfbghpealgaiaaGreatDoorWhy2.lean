/- What move.why answers: the walk. -/
import Derived.Test.YtmfbghpealgaiaaGreatDoorWhy
namespace Go.Proofs.YtmfbghpealgaiaaGreatDoor
open Go Go.Pw
open _root_.Array renaming getElem?_eq_none->eX
open Go.RowKit Go.Extern.Stop Go.Stop Go.Extern
theorem zhQ (t:Value) (w:World):Calls Tryz.prog 155 #[.nilIface,t] w fun e a=>e=.returned (.bool false)/\a=w:=by
 go_enter Tryz.func155,Tryz.ntmps155
 go_wp2
 go_ret
 exact ⟨rfl,rfl⟩
def zhO (n:Nat):Array Value := #[.pointer (some ⟨5,248,none⟩),.pointer (some ⟨n,0,none⟩),.int .u64 150]
def zc4 (s:List UInt8) (e:Int) (t:Addr) (w:World):World:=((((w.alloc (.cells #[.pointer (some t)] 248)).alloc (.cells (zhO w.heap.size) 313)).alloc (.cells (zhO w.heap.size) 313)).alloc (.cells #[.string ⟨⟨s⟩⟩,.iface 179 (.agg #[.int .i64 e])] 181)).alloc (.cells #[.int .i64 e] 179)
set_option maxHeartbeats 4000000 in
set_option maxRecDepth 100000 in
theorem why_as (s:List UInt8) (e:Int) (t:Addr) (old:Value) (w:World) (g:w.cell? ⟨0,0,none⟩=some (.iface 355 (.agg #[.pointer (some ⟨5,122,none⟩)]))) (b:w.cell? t=some old) (d:w.frozen? t=false) :
  Calls Tryz.prog 155 #[.iface 181 (.agg #[.string ⟨⟨s⟩⟩,.iface 179 (.agg #[.int .i64 e])]),.iface 248 (.pointer (some t))] w fun ev q=>ev=.returned (.bool true)/\q=(zc4 s e t w).setCell t (.int .i64 e):=by
 have z:=@run_callFunc_extern Tryz.prog 223 _ (fun a=>ReflectliteValue.unpack (a.getD 0 (.tuple #[]))) Tryz.func223 (by kernel_rfl) (by kernel_rfl) (by kernel_rfl) (by kernel_rfl)
 have B := @run_callFunc_extern Tryz.prog 224 _ (ReflectliteValue.methodAny (ReflectliteValue.valueError "reflectlite.Value.Type" 0) (fun t _ _ _ => ReflectliteType.toType t)) Tryz.func224 (by kernel_rfl) (by kernel_rfl) (by kernel_rfl) (by kernel_rfl)
 have C := @run_callFunc_extern Tryz.prog 225 _ (ReflectliteValue.method (ReflectliteValue.valueError "reflectlite.Value.IsNil" 0) ReflectliteValue.isNil) Tryz.func225 (by kernel_rfl) (by kernel_rfl) (by kernel_rfl) (by kernel_rfl)
 have l:=@run_callFunc_extern Tryz.prog 304 _ (ReflectliteType.abiMethod fun t=>do pure (.int .u8 (<- Rtype.kind t))) Tryz.func304 (by kernel_rfl) (by kernel_rfl) (by kernel_rfl) (by kernel_rfl)
 have n:=@run_callFunc_extern Tryz.prog 316 _ (ReflectliteType.method ReflectliteType.elem) Tryz.func316 (by kernel_rfl) (by kernel_rfl) (by kernel_rfl) (by kernel_rfl)
 have o := @run_callFunc_extern Tryz.prog 317 _ (ReflectliteType.relation "Implements" ReflectliteType.implements_) Tryz.func317 (by kernel_rfl) (by kernel_rfl) (by kernel_rfl) (by kernel_rfl)
 have i:=@run_callFunc_extern Tryz.prog 271 _ ReflectliteType.typeOf Tryz.func271 (by kernel_rfl) (by kernel_rfl) (by kernel_rfl) (by kernel_rfl)
 have m := @run_callFunc_extern Tryz.prog 314 _ (ReflectliteType.relation "AssignableTo" ReflectliteType.assignableTo) Tryz.func314 (by kernel_rfl) (by kernel_rfl) (by kernel_rfl) (by kernel_rfl)
 have j := @run_callFunc_extern Tryz.prog 272 _ (ReflectliteValue.method (ReflectliteValue.valueError "reflectlite.Value.Elem" 0) ReflectliteValue.elem) Tryz.func272 (by kernel_rfl) (by kernel_rfl) (by kernel_rfl) (by kernel_rfl)
 have k:=@run_callFunc_extern Tryz.prog 273 _ ReflectliteValue.set Tryz.func273 (by kernel_rfl) (by kernel_rfl) (by kernel_rfl) (by kernel_rfl)
 have N:=zXd
 have P:=zXe
 have G:=zck
 have r:=zcd
 have u:=zce
 have S:=zWH
 have x:=zWI
 have y:=zcq
 have J:=zcn
 have H:=zcl
 have I:=zcm
 have K:=zes
 have F:=zci
 have E:=zch
 have v:=zcf
 have D:=zcg
 have M:=zet
 have Q:=zhT
 have L:=zZu ⟨w.heap.size,0,none⟩ t ((w.alloc (.cells #[.pointer (some t)] 248)).alloc (.cells (zhO w.heap.size) 313)) (by simp)
 have f:0<w.heap.size:=by
  rcases Nat.lt_or_ge 0 w.heap.size with h | h
  ·exact h
  ·simp [World.cell?,eX h] at g
 have c:t.block<w.heap.size:=by
  rcases Nat.lt_or_ge t.block w.heap.size with h | h
  ·exact h
  ·simp [World.cell?,eX h] at b
 have p:((w.alloc (.cells #[.pointer (some t)] 248)).alloc (.cells (zhO w.heap.size) 313)).cell? ⟨0,0,none⟩=some (.iface 355 (.agg #[.pointer (some ⟨5,122,none⟩)])):=by
  rw [World.cell?_alloc_lt _ _ ⟨0,0,none⟩ (by simp),World.cell?_alloc_lt _ _ ⟨0,0,none⟩ f];exact g
 have el:=zZt ⟨w.heap.size,0,none⟩ t ((((w.alloc (.cells #[.pointer (some t)] 248)).alloc (.cells (zhO w.heap.size) 313)).alloc (.cells (zhO w.heap.size) 313)).alloc (.cells #[.string ⟨⟨s⟩⟩,.iface 179 (.agg #[.int .i64 e])] 181))
  (by rw [World.cell?_alloc_lt _ _ ⟨w.heap.size,0,none⟩ (by simp;omega),World.cell?_alloc_lt _ _ ⟨w.heap.size,0,none⟩ (by simp;omega),World.cell?_alloc_lt _ _ ⟨w.heap.size,0,none⟩ (by simp),World.cell?_alloc_at _ _ _ _ (by simp)];rfl)
 have st:=zhS t ⟨w.heap.size+1+1+1+1,0,none⟩ e old (zc4 s e t w)
  (by unfold zc4;rw [World.cell?_alloc_at _ _ _ _ (by simp)];rfl)
  (by unfold zc4;rw [World.cell?_alloc_lt _ _ t (by simp;omega),World.cell?_alloc_lt _ _ t (by simp;omega),World.cell?_alloc_lt _ _ t (by simp;omega),World.cell?_alloc_lt _ _ t (by simp;omega),World.cell?_alloc_lt _ _ t c];exact b)
  (by unfold zc4;rw [World.frozen?_alloc_old _ _ t (by simp;omega),World.frozen?_alloc_old _ _ t (by simp;omega),World.frozen?_alloc_old _ _ t (by simp;omega),World.frozen?_alloc_old _ _ t (by simp;omega),World.frozen?_alloc_old _ _ t (Nat.ne_of_lt c)];exact d)
 unfold zc4 zhO at *
 go_enter Tryz.func155,Tryz.ntmps155
 go_wp2
 refine wp_loop_rounds 2 ?_
 rw [rounds_succ]
 go_wp2
 rw [rounds_succ]
 go_wp2
 go_ret
 exact ⟨rfl,rfl⟩
end Go.Proofs.YtmfbghpealgaiaaGreatDoor
