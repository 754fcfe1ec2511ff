/- What move.why answers to an error of the program's own make: Go's own text of errors.As is walked. -/
import Derived.Test.YtmfbghpealgaiaaGreatDoorProg
import Derived.Test.YtmfbghpealgaiaaGreatDoorCo3
import Derived.WalkKit
import Derived.LaidEql
import Derived.Stop.Asserts
import Derived.RowKitTokens
namespace Go.Proofs.YtmfbghpealgaiaaGreatDoor
open Go Go.Pw
open Go.RowKit Go.Extern.Stop Go.Stop Go.Extern
theorem zWI (t:Addr) (w:World):(ReflectliteValue.unpack (.iface 248 (.pointer (some t)))).run Tryz.prog w
  = .ok (.agg #[.pointer (some ⟨5,248,none⟩),.pointer (some ⟨w.heap.size,0,none⟩),.int .u64 150]) (w.alloc (.cells #[.pointer (some t)] 248)):=by kernel_rfl
theorem zcq (a : Addr) (w : World) : (ReflectliteValue.methodAny (ReflectliteValue.valueError "reflectlite.Value.Type" 0) (fun t _ _ _ => ReflectliteType.toType t) #[.agg #[.pointer (some ⟨5, 248, none⟩), .pointer (some a), .int .u64 150]]).run Tryz.prog w
  = .ok (.iface 355 (.agg #[.pointer (some ⟨5,248,none⟩)])) w:=by kernel_rfl
theorem zcn (h : Value) (w : World) : (Go.method 522 355 (.agg #[h]) "Kind").run Tryz.prog w = .ok (304, h) w := by kernel_rfl
theorem zcl (h : Value) (w : World) : (Go.method 522 355 (.agg #[h]) "Elem").run Tryz.prog w = .ok (316, .agg #[h]) w := by kernel_rfl
theorem zcm (h : Value) (w : World) : (Go.method 522 355 (.agg #[h]) "Implements").run Tryz.prog w = .ok (317, .agg #[h]) w := by kernel_rfl
theorem zck (h : Value) (w : World) : (Go.method 522 355 (.agg #[h]) "AssignableTo").run Tryz.prog w = .ok (314, .agg #[h]) w := by kernel_rfl
theorem zes (h : Array Value) (w : World) : (Go.method 522 181 (.agg h) "Unwrap").run Tryz.prog w = .ok (309, .agg h) w := by kernel_rfl
theorem zci (w:World):((ReflectliteType.abiMethod fun t=>(fun a:Nat=>Value.int IntKind.u8 (a:Int)) <$> Rtype.kind t) #[.pointer (some ⟨5,248,none⟩)]).run Tryz.prog w=.ok (.int .u8 22) w:=by kernel_rfl
theorem zch (w:World):((ReflectliteType.abiMethod fun t=>(fun a:Nat=>Value.int IntKind.u8 (a:Int)) <$> Rtype.kind t) #[.pointer (some ⟨5,179,none⟩)]).run Tryz.prog w=.ok (.int .u8 25) w:=by kernel_rfl
theorem zcf (w:World):(ReflectliteType.method ReflectliteType.elem #[.agg #[.pointer (some ⟨5,248,none⟩)]]).run Tryz.prog w=.ok (.iface 355 (.agg #[.pointer (some ⟨5,179,none⟩)])) w:=by kernel_rfl
theorem zcg (w : World) : (ReflectliteType.relation "Implements" ReflectliteType.implements_ #[.agg #[.pointer (some ⟨5, 179, none⟩)], .iface 355 (.agg #[.pointer (some ⟨5, 122, none⟩)])]).run Tryz.prog w = .ok (.bool true) w := by kernel_rfl
theorem zXd (v:Value) (w:World):(ReflectliteType.typeOf #[.iface 179 v]).run Tryz.prog w=.ok (.iface 355 (.agg #[.pointer (some ⟨5,179,none⟩)])) w:=by kernel_rfl
theorem zXe (v:Value) (w:World):(ReflectliteType.typeOf #[.iface 181 v]).run Tryz.prog w=.ok (.iface 355 (.agg #[.pointer (some ⟨5,181,none⟩)])) w:=by kernel_rfl
theorem zcd (w : World) : (ReflectliteType.relation "AssignableTo" ReflectliteType.assignableTo #[.agg #[.pointer (some ⟨5, 179, none⟩)], .iface 355 (.agg #[.pointer (some ⟨5, 179, none⟩)])]).run Tryz.prog w = .ok (.bool true) w := by kernel_rfl
theorem zce (w : World) : (ReflectliteType.relation "AssignableTo" ReflectliteType.assignableTo #[.agg #[.pointer (some ⟨5, 181, none⟩)], .iface 355 (.agg #[.pointer (some ⟨5, 179, none⟩)])]).run Tryz.prog w = .ok (.bool false) w := by kernel_rfl
theorem zWH (e:Int) (w:World):(ReflectliteValue.unpack (.iface 179 (.agg #[.int .i64 e]))).run Tryz.prog w
  = .ok (.agg #[.pointer (some ⟨5,179,none⟩),.pointer (some ⟨w.heap.size,0,none⟩),.int .u64 153]) (w.alloc (.cells #[.int .i64 e] 179)):=by kernel_rfl
theorem zet (v:Value) (a:TypeId) (w:World):(Instr.typeAssert (.iface 181 v) a 360 true).run Tryz.prog w=.ok (.tuple #[.nilIface,.bool false]) w:=run_typeAssert_lacksB Tryz.underlying360 (by kernel_rfl) (by kernel_rfl) v a w
theorem zhT (v:Value) (a:TypeId) (w:World):(Instr.typeAssert (.iface 181 v) a 363 true).run Tryz.prog w=.ok (.tuple #[.iface 181 v,.bool true]) w:=run_typeAssert_hasB Tryz.underlying363 (by kernel_rfl) v a w
theorem zco (z:Sem Value) (f:TypeId->Addr->Nat->Nat->Sem Value) (v:Value) :
  ReflectliteValue.method z f #[v]=(do match <- ReflectliteValue.parts v with | none=>z | some (t,a,fl)=>f t a fl (fl % 32)):=rfl
theorem zTU (a:Addr) (w:World):(ReflectliteValue.parts (.agg #[.pointer (some ⟨5,248,none⟩),.pointer (some a),.int .u64 150])).run Tryz.prog w=.ok (some (248,a,150)) w:=by kernel_rfl
theorem zZu (a p:Addr) (W:World) (ha:W.cell? a=some (.pointer (some p))) :
  (ReflectliteValue.method (ReflectliteValue.valueError "reflectlite.Value.IsNil" 0) ReflectliteValue.isNil #[.agg #[.pointer (some ⟨5, 248, none⟩), .pointer (some a), .int .u64 150]]).run Tryz.prog W = .ok (.bool false) W := by
 rw [zco]
 simp only [Sem.run_bind,zTU,Result.andThen]
 simp [ReflectliteValue.isNil,loadVar,isAgg,underlying,Tryz.underlying248,ha,Result.andThen]
theorem zXc (w:World):(Rtype.elem? 248).run Tryz.prog w=.ok (some 179) w:=by kernel_rfl
theorem zhP (p:Addr) (w:World):(ReflectliteValue.mk 179 p ReflectliteValue.flagAddr).run Tryz.prog w=.ok (.agg #[.pointer (some ⟨5,179,none⟩),.pointer (some p),.int .u64 409]) w:=by kernel_rfl
theorem zZt (a p:Addr) (W:World) (ha:W.cell? a=some (.pointer (some p))) :
  (ReflectliteValue.method (ReflectliteValue.valueError "reflectlite.Value.Elem" 0) ReflectliteValue.elem #[.agg #[.pointer (some ⟨5, 248, none⟩), .pointer (some a), .int .u64 150]]).run Tryz.prog W
   = .ok (.agg #[.pointer (some ⟨5,179,none⟩),.pointer (some p),.int .u64 409]) W:=by
 rw [zco]
 simp only [Sem.run_bind,zTU,Result.andThen]
 simp [ReflectliteValue.elem,loadVar,isAgg,underlying,Tryz.underlying248,ha,Result.andThen,zXc,zhP]
theorem zhR (v x:Value):ReflectliteValue.set #[v,x]=(do
  let (some (dst,a,fl),some (src,b,_)):=(<- ReflectliteValue.parts v,<- ReflectliteValue.parts x)
   | unsupported (.noEntry "extern/(internal/reflectlite.Value).Set.zeroValue")
  if fl / ReflectliteValue.flagAddr % 2 == 0 then unsupported (.noEntry "extern/(internal/reflectlite.Value).Set.unaddressable")
  let val <- loadVar src b
  if <- Rtype.directlyAssignable dst src then storeVar dst a val
  else if <- Rtype.implements dst src then
   if (<- Rtype.kind src)==20 then
    match val with
    | .nilIface => unsupported (.noEntry "extern/reflectlite: a nil value of one interface type handed on as a value of another")
    | _=>storeVar dst a val
   else storeVar dst a (.iface src val)
  else panicString ("reflectlite.Set: value of type " ++ (← Rtype.spelt src) ++ " is not assignable to type " ++ (← Rtype.spelt dst))
  pure (.tuple #[])):=rfl
theorem zZv (a:Addr) (w:World):(ReflectliteValue.parts (.agg #[.pointer (some ⟨5,179,none⟩),.pointer (some a),.int .u64 409])).run Tryz.prog w=.ok (some (179,a,409)) w:=by kernel_rfl
theorem zZw (a:Addr) (w:World):(ReflectliteValue.parts (.agg #[.pointer (some ⟨5,179,none⟩),.pointer (some a),.int .u64 153])).run Tryz.prog w=.ok (some (179,a,153)) w:=by kernel_rfl
theorem zZs (w:World):(Rtype.directlyAssignable 179 179).run Tryz.prog w=.ok true w:=by kernel_rfl
theorem zer (b:Addr) (e:Int) (W:World) (a:W.cell? b=some (.int .i64 e)):(loadVar 179 b).run Tryz.prog W=.ok (.agg #[.int .i64 e]) W:=by
 have h:(loadCells b 1).run Tryz.prog W=.ok #[.int .i64 e] W:=by
  simp [loadCells,loadCellsFrom,a,Addr.add,Result.andThen]
 simp [loadVar,isAgg,underlying,Tryz.underlying179,Result.andThen,h]
theorem zcp (a:Addr) (e:Int) (old:Value) (W:World) (c:W.cell? a=some old) (b:W.frozen? a=false):(storeVar 179 a (.agg #[.int .i64 e])).run Tryz.prog W=.ok () (W.setCell a (.int .i64 e)):=by
 simp [storeVar,Value.cells,storeCells,Addr.add,Result.andThen]
 rw [run_store Tryz.prog W a _ _ (by rfl)]
 simp [c,b]
theorem zhS (a b:Addr) (e:Int) (old:Value) (W:World) (c:W.cell? b=some (.int .i64 e)) (f:W.cell? a=some old) (d:W.frozen? a=false) :
  (ReflectliteValue.set #[.agg #[.pointer (some ⟨5,179,none⟩),.pointer (some a),.int .u64 409],.agg #[.pointer (some ⟨5,179,none⟩),.pointer (some b),.int .u64 153]]).run Tryz.prog W
   = .ok (.tuple #[]) (W.setCell a (.int .i64 e)):=by
 rw [zhR]
 simp only [Sem.run_bind,zZv,zZw,Result.andThen]
 simp [ReflectliteValue.flagAddr,Result.andThen,zZs,zer b e W c,zcp a e old W f d]
end Go.Proofs.YtmfbghpealgaiaaGreatDoor
