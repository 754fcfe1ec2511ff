/- Data of the program as values of Lean, and facts on its functions: printed by emit2.py. -/
import Derived.Test.YtmfbghpealgaiaaGreatDoorTab
import Derived.Test.YtmfbghpealgaiaaGreatDoorCo3
import Derived.Test.YtmfbghpealgaiaaGreatDoorKit
namespace Go.Proofs.YtmfbghpealgaiaaGreatDoor
open Go Go.Pw
set_option linter.unusedVariables false
open List renaming mem_map->lE
open Nat renaming blt->lB
variable {rest ops:List Oper} {o:Oper} {α:Type} {l ms ks N1 NR reads writes wr kp:List Nat} {E' E0:Env} {j n a d e size:Nat} {S' S1 Sc S2 S0:zAC} {ment0 ment:List (Nat×List Nat)} {V:Vw} {acc:List Summ} {f:FuncId} {c:Code} {x:Operand} {args:Array Operand} {tys:Array TypeId} {qs first cap qa cs cs':List PV} {elem:TypeId} {rows:List (List PV)} {rn:List (Nat×Nat)}
structure Attr where
 Name:Bs
 Value:Bs
deriving DecidableEq
structure Node where
 Kind:Int
 Name:Bs
 Is:Bs
 Data:Bs
 Attrs:(List Attr)
 Parent:Int
 Kids:(List Int)
 Host:Int
 Under:Int
 Doc:Int
deriving DecidableEq
structure Forest where
 Nodes:(List Node)
 Most:Int
deriving DecidableEq
structure State where
 Phase:Int
 Def:Int
 Owner:Int
 Barred:Bool
deriving DecidableEq
structure Def where
 Name:Bs
 Local:Bs
 Class:Int
deriving DecidableEq
structure Wait where
 Name:Bs
 Ticket:Int
deriving DecidableEq
structure Desk where
 Defs:(List Def)
 Waits:(List Wait)
 Next:Int
 Busy:Bool
deriving DecidableEq
structure Todo where
 Kind:Int
 Def:Int
 Name:Bs
 Had:Bool
 Has:Bool
 Old:Bs
 New:Bs
 From:Int
 To:Int
 On:Bool
deriving DecidableEq
structure Line where
 Todos:(List (List Todo))
 Stack:(List (List Int))
 Back:(List Int)
 Busy:Bool
deriving DecidableEq
structure Task where
 Kind:Int
 Ticket:Int
 Def:Int
deriving DecidableEq
structure Build where
 Def:Int
 Node:Int
deriving DecidableEq
structure Op where
 Kind:Int
 A:Int
 B:Int
 C:Int
 S:Bs
 T:Bs
 Must:Bool
deriving DecidableEq
structure Hook where
 Kind:Int
 Do:(List Op)
deriving DecidableEq
structure Class where
 Form:Bool
 Watch:(List Bs)
 Peek:(List Op)
 Make:(List Op)
 Hooks:(List Hook)
deriving DecidableEq
structure World where
 Forest:Forest
 States:(List State)
 Desk:Desk
 Line:Line
 Tasks:(List Task)
 Builds:(List Build)
 Classes:(List Class)
deriving DecidableEq
structure zAR where
 Forest:Forest
deriving DecidableEq
structure zAJ where
 World:World
deriving DecidableEq
structure zCy where
 names:(List (Bs×Int))
 classes:(List (Int×Int))
deriving DecidableEq
structure zDI where
 word:Bs
 fields:Bs
deriving DecidableEq
structure zAL where
 World:World
 node:Int
deriving DecidableEq
structure Due where
 Node:Int
 Todo:Todo
deriving DecidableEq
structure Duty_hall where
 f:Forest
 states:(List State)
 desk:Desk
 classes:(List Class)
 due:(List Due)
deriving DecidableEq
structure zMw where
 Forest:Forest
 ids:(List (Int×(List (Bs×Int))))
deriving DecidableEq
structure Note where
 Kind:Int
 Node:Int
 From:Int
 To:Int
 Name:Bs
 Had:Bool
 Has:Bool
 Old:Bs
 New:Bs
deriving DecidableEq
structure zA5 where
 f:Forest
 notes:(List Note)
 e:Int
deriving DecidableEq
structure zgd where
 Forest:Forest
 deep:Bool
deriving DecidableEq
structure zBl where
 n:Int
 doc:Int
 under:Int
deriving DecidableEq
structure zAl where
 Forest:Forest
 p:Int
 child:Int
 gone:Int
deriving DecidableEq
structure Move_code where
 Errno:Int
deriving DecidableEq
structure Move_hand where
 Forest:Forest
 notes:(List Note)
deriving DecidableEq
structure zDq where
 Forest:Forest
 states:(List State)
 desk:Desk
 classes:(List Class)
deriving DecidableEq
structure za5 where
 Lo:Int
 Hi:Int
 Stride:Int
deriving DecidableEq
structure za6 where
 Lo:Int
 Hi:Int
 Stride:Int
deriving DecidableEq
structure Move_step' where
 what:Bs
 err:Bool
deriving DecidableEq
def zAB (x:Int):List PV:=[.v (.int .i64 x)]
theorem zDK (l:List Int):∀r∈l.map zAB,r.all zGy=true:=by
 intro r hr
 obtain ⟨x,_,rfl⟩:=lE.1 hr
 rfl
def zRM (x:Bs):List PV:=[.v (.string ⟨⟨x⟩⟩)]
def zDh (x:Attr):List PV:=[.v (.string ⟨⟨x.Name⟩⟩),.v (.string ⟨⟨x.Value⟩⟩)]
theorem zR5 (l:List Attr):∀r∈l.map zDh,r.all zGy=true:=by
 intro r hr
 obtain ⟨x,_,rfl⟩:=lE.1 hr
 rfl
def zAt (x:(List Int)):List PV:=[.sl 1 false (x.map zAB)]
theorem zN7 (l:List (List Int)):∀r∈l.map zAt,r.all zGy=true:=by
 intro r hr
 obtain ⟨x,_,rfl⟩:=lE.1 hr
 rfl
def zAZ (x:Node):List PV:=[.v (.int .i64 x.Kind),.v (.string ⟨⟨x.Name⟩⟩),.v (.string ⟨⟨x.Is⟩⟩),.v (.string ⟨⟨x.Data⟩⟩),.sl 2 false (x.Attrs.map zDh),.v (.int .i64 x.Parent),.sl 1 false (x.Kids.map zAB),.v (.int .i64 x.Host),.v (.int .i64 x.Under),.v (.int .i64 x.Doc)]
theorem zO7 (l:List Node):∀r∈l.map zAZ,r.all zGy=true:=by
 intro r hr
 obtain ⟨x,_,rfl⟩:=lE.1 hr
 rfl
def zAE (x:Forest):List PV:=[.sl 10 false (x.Nodes.map zAZ),.v (.int .i64 x.Most)]
def cBool (x:Bool):List PV:=[.v (.bool x)]
def zBh (x:State):List PV:=[.v (.int .i64 x.Phase),.v (.int .i64 x.Def),.v (.int .i64 x.Owner),.v (.bool x.Barred)]
theorem zTR (l:List State):∀r∈l.map zBh,r.all zGy=true:=by
 intro r hr
 obtain ⟨x,_,rfl⟩:=lE.1 hr
 rfl
def zQ3 (x:Def):List PV:=[.v (.string ⟨⟨x.Name⟩⟩),.v (.string ⟨⟨x.Local⟩⟩),.v (.int .i64 x.Class)]
def zJg (x:Wait):List PV:=[.v (.string ⟨⟨x.Name⟩⟩),.v (.int .i64 x.Ticket)]
theorem zVv (l:List Wait):∀r∈l.map zJg,r.all zGy=true:=by
 intro r hr
 obtain ⟨x,_,rfl⟩:=lE.1 hr
 rfl
def zI8 (x:Desk):List PV:=[.sl 3 false (x.Defs.map zQ3),.sl 2 false (x.Waits.map zJg),.v (.int .i64 x.Next),.v (.bool x.Busy)]
def zKx (x:Todo):List PV:=[.v (.int .i64 x.Kind),.v (.int .i64 x.Def),.v (.string ⟨⟨x.Name⟩⟩),.v (.bool x.Had),.v (.bool x.Has),.v (.string ⟨⟨x.Old⟩⟩),.v (.string ⟨⟨x.New⟩⟩),.v (.int .i64 x.From),.v (.int .i64 x.To),.v (.bool x.On)]
theorem zVu (l:List Todo):∀r∈l.map zKx,r.all zGy=true:=by
 intro r hr
 obtain ⟨x,_,rfl⟩:=lE.1 hr
 rfl
def zDi (x:(List Todo)):List PV:=[.sl 10 false (x.map zKx)]
theorem zR7 (l:List (List Todo)):∀r∈l.map zDi,r.all zGy=true:=by
 intro r hr
 obtain ⟨x,_,rfl⟩:=lE.1 hr
 rfl
def zPs (x:Line):List PV:=[.sl 1 false (x.Todos.map zDi),.sl 1 false (x.Stack.map zAt),.sl 1 false (x.Back.map zAB),.v (.bool x.Busy)]
def zJQ (x:Task):List PV:=[.v (.int .i64 x.Kind),.v (.int .i64 x.Ticket),.v (.int .i64 x.Def)]
theorem zR8 (l:List Task):∀r∈l.map zJQ,r.all zGy=true:=by
 intro r hr
 obtain ⟨x,_,rfl⟩:=lE.1 hr
 rfl
def zI7 (x:Build):List PV:=[.v (.int .i64 x.Def),.v (.int .i64 x.Node)]
def cOp (x:Op):List PV:=[.v (.int .i64 x.Kind),.v (.int .i64 x.A),.v (.int .i64 x.B),.v (.int .i64 x.C),.v (.string ⟨⟨x.S⟩⟩),.v (.string ⟨⟨x.T⟩⟩),.v (.bool x.Must)]
def zJP (x:Hook):List PV:=[.v (.int .i64 x.Kind),.sl 7 false (x.Do.map cOp)]
def zBk (x:Class):List PV:=[.v (.bool x.Form),.sl 1 false (x.Watch.map zRM),.sl 7 false (x.Peek.map cOp),.sl 7 false (x.Make.map cOp),.sl 2 false (x.Hooks.map zJP)]
theorem zZ3 (l:List Class):∀r∈l.map zBk,r.all zGy=true:=by
 intro r hr
 obtain ⟨x,_,rfl⟩:=lE.1 hr
 rfl
def zBd (x:World):List PV:=[.sl 10 false (x.Forest.Nodes.map zAZ),.v (.int .i64 x.Forest.Most),.sl 4 false (x.States.map zBh),.sl 3 false (x.Desk.Defs.map zQ3),.sl 2 false (x.Desk.Waits.map zJg),.v (.int .i64 x.Desk.Next),.v (.bool x.Desk.Busy),.sl 1 false (x.Line.Todos.map zDi),.sl 1 false (x.Line.Stack.map zAt),.sl 1 false (x.Line.Back.map zAB),.v (.bool x.Line.Busy),.sl 3 false (x.Tasks.map zJQ),.sl 2 false (x.Builds.map zI7),.sl 5 false (x.Classes.map zBk)]
def zR6 (x:Int):List PV:=[.v (.int .u8 x)]
def zEl (x:zAR):List PV:=[.sl 10 false (x.Forest.Nodes.map zAZ),.v (.int .i64 x.Forest.Most)]
def zEm (x:zAJ):List PV:=[.sl 10 false (x.World.Forest.Nodes.map zAZ),.v (.int .i64 x.World.Forest.Most),.sl 4 false (x.World.States.map zBh),.sl 3 false (x.World.Desk.Defs.map zQ3),.sl 2 false (x.World.Desk.Waits.map zJg),.v (.int .i64 x.World.Desk.Next),.v (.bool x.World.Desk.Busy),.sl 1 false (x.World.Line.Todos.map zDi),.sl 1 false (x.World.Line.Stack.map zAt),.sl 1 false (x.World.Line.Back.map zAB),.v (.bool x.World.Line.Busy),.sl 3 false (x.World.Tasks.map zJQ),.sl 2 false (x.World.Builds.map zI7),.sl 5 false (x.World.Classes.map zBk)]
def zRL (x:zDI):List PV:=[.v (.string ⟨⟨x.word⟩⟩),.v (.string ⟨⟨x.fields⟩⟩)]
def zJm (x:Due):List PV:=[.v (.int .i64 x.Node),.v (.int .i64 x.Todo.Kind),.v (.int .i64 x.Todo.Def),.v (.string ⟨⟨x.Todo.Name⟩⟩),.v (.bool x.Todo.Had),.v (.bool x.Todo.Has),.v (.string ⟨⟨x.Todo.Old⟩⟩),.v (.string ⟨⟨x.Todo.New⟩⟩),.v (.int .i64 x.Todo.From),.v (.int .i64 x.Todo.To),.v (.bool x.Todo.On)]
theorem zRK (l:List Due):∀r∈l.map zJm,r.all zGy=true:=by
 intro r hr
 obtain ⟨x,_,rfl⟩:=lE.1 hr
 rfl
def zBN (x:Note):List PV:=[.v (.int .i64 x.Kind),.v (.int .i64 x.Node),.v (.int .i64 x.From),.v (.int .i64 x.To),.v (.string ⟨⟨x.Name⟩⟩),.v (.bool x.Had),.v (.bool x.Has),.v (.string ⟨⟨x.Old⟩⟩),.v (.string ⟨⟨x.New⟩⟩)]
theorem zLM (l:List Note):∀r∈l.map zBN,r.all zGy=true:=by
 intro r hr
 obtain ⟨x,_,rfl⟩:=lE.1 hr
 rfl
def zNI (x:zA5):List PV:=[.sl 10 false (x.f.Nodes.map zAZ),.v (.int .i64 x.f.Most),.sl 9 false (x.notes.map zBN),.v (.int .i64 x.e)]
def zGx (x:zBl):List PV:=[.v (.int .i64 x.n),.v (.int .i64 x.doc),.v (.int .i64 x.under)]
theorem zUY (l:List zBl):∀r∈l.map zGx,r.all zGy=true:=by
 intro r hr
 obtain ⟨x,_,rfl⟩:=lE.1 hr
 rfl
def zI9 (x:zAl):List PV:=[.sl 10 false (x.Forest.Nodes.map zAZ),.v (.int .i64 x.Forest.Most),.v (.int .i64 x.p),.v (.int .i64 x.child),.v (.int .i64 x.gone)]
def zL5 (x:zDq):List PV:=[.sl 10 false (x.Forest.Nodes.map zAZ),.v (.int .i64 x.Forest.Most),.sl 4 false (x.states.map zBh),.sl 3 false (x.desk.Defs.map zQ3),.sl 2 false (x.desk.Waits.map zJg),.v (.int .i64 x.desk.Next),.v (.bool x.desk.Busy),.sl 5 false (x.classes.map zBk)]
def zCC (x:zAL):List PV:=[.sl 10 false (x.World.Forest.Nodes.map zAZ),.v (.int .i64 x.World.Forest.Most),.sl 4 false (x.World.States.map zBh),.sl 3 false (x.World.Desk.Defs.map zQ3),.sl 2 false (x.World.Desk.Waits.map zJg),.v (.int .i64 x.World.Desk.Next),.v (.bool x.World.Desk.Busy),.sl 1 false (x.World.Line.Todos.map zDi),.sl 1 false (x.World.Line.Stack.map zAt),.sl 1 false (x.World.Line.Back.map zAB),.v (.bool x.World.Line.Busy),.sl 3 false (x.World.Tasks.map zJQ),.sl 2 false (x.World.Builds.map zI7),.sl 5 false (x.World.Classes.map zBk),.v (.int .i64 x.node)]
theorem mixed:Tryz.prog.follows .mixedOrders=true:=by kernel_rfl
def zbr (x y:Attr):Bool:=(x.Name==y.Name)&&((x.Value==y.Value)&&true)
def zXi (x y:Build):Bool:=(x.Def==y.Def)&&((x.Node==y.Node)&&true)
def zhK (x y:Def):Bool:=(x.Name==y.Name)&&((x.Local==y.Local)&&((x.Class==y.Class)&&true))
def zf8 (x y:Op):Bool:=(x.Kind==y.Kind)&&((x.A==y.A)&&((x.B==y.B)&&((x.C==y.C)&&((x.S==y.S)&&((x.T==y.T)&&((x.Must==y.Must)&&true))))))
def zSJ (x y:State):Bool:=(x.Phase==y.Phase)&&((x.Def==y.Def)&&((x.Owner==y.Owner)&&((x.Barred==y.Barred)&&true)))
def zbt (x y:Task):Bool:=(x.Kind==y.Kind)&&((x.Ticket==y.Ticket)&&((x.Def==y.Def)&&true))
def zN8 (x y:Todo):Bool:=(x.Kind==y.Kind)&&((x.Def==y.Def)&&((x.Name==y.Name)&&((x.Had==y.Had)&&((x.Has==y.Has)&&((x.Old==y.Old)&&((x.New==y.New)&&((x.From==y.From)&&((x.To==y.To)&&((x.On==y.On)&&true)))))))))
def zbu (x y:Wait):Bool:=(x.Name==y.Name)&&((x.Ticket==y.Ticket)&&true)
theorem zf9:zYt Tryz.prog 41=some [(0,3,.int .i64),(1,3,.int .i64),(2,3,.int .i64),(3,3,.int .i64),(4,9,.string),(5,9,.string),(6,4,.bool)]:=by kernel_rfl
theorem zgA:zYt Tryz.prog 53=some [(0,3,.int .i64),(1,3,.int .i64),(2,3,.int .i64),(3,4,.bool)]:=by kernel_rfl
theorem zgB:zYt Tryz.prog 80=some [(0,3,.int .i64),(1,3,.int .i64),(2,9,.string),(3,4,.bool),(4,4,.bool),(5,9,.string),(6,9,.string),(7,3,.int .i64),(8,3,.int .i64),(9,4,.bool)]:=by kernel_rfl
theorem eqf_88:zYt Tryz.prog 88=some [(0,9,.string),(1,9,.string),(2,3,.int .i64)]:=by kernel_rfl
theorem zhL:zYt Tryz.prog 102=some [(0,3,.int .i64),(1,3,.int .i64),(2,3,.int .i64)]:=by kernel_rfl
theorem zhM:zYt Tryz.prog 104=some [(0,3,.int .i64),(1,3,.int .i64)]:=by kernel_rfl
theorem zhN:zYt Tryz.prog 150=some [(0,9,.string),(1,3,.int .i64)]:=by kernel_rfl
theorem zhO:zYt Tryz.prog 198=some [(0,9,.string),(1,9,.string)]:=by kernel_rfl
theorem call8:zAo Tryz.prog 8=true:=by kernel_rfl
theorem call10:zAo Tryz.prog 10=true:=by kernel_rfl
theorem zf4:zAo Tryz.prog 22=true:=by kernel_rfl
theorem call66:zAo Tryz.prog 66=true:=by kernel_rfl
theorem call67:zAo Tryz.prog 67=true:=by kernel_rfl
theorem call95:zAo Tryz.prog 95=true:=by kernel_rfl
theorem zgq:zAo Tryz.prog 107=true:=by kernel_rfl
theorem zgr:zAo Tryz.prog 151=true:=by kernel_rfl
theorem zXY:zAo Tryz.prog 161=true:=by kernel_rfl
theorem zgs:zAo Tryz.prog 164=true:=by kernel_rfl
theorem zgt:zAo Tryz.prog 170=true:=by kernel_rfl
theorem zgu:zAo Tryz.prog 176=true:=by kernel_rfl
theorem zgv:zAo Tryz.prog 194=true:=by kernel_rfl
theorem zgw:zAo Tryz.prog 200=true:=by kernel_rfl
theorem zgx:zAo Tryz.prog 201=true:=by kernel_rfl
theorem zgy:zAo Tryz.prog 202=true:=by kernel_rfl
theorem zXZ:zAo Tryz.prog 229=true:=by kernel_rfl
theorem zgz:zAo Tryz.prog 238=true:=by kernel_rfl
theorem zg0:zAo Tryz.prog 251=true:=by kernel_rfl
theorem zXa:zAo Tryz.prog 274=true:=by kernel_rfl
variable {ρ : Type} {fn:Func} {w0:Go.World} {X X0:Nat->Prop} {σ0:Nat->Value} {N0:List Nat} {post : ρ -> PV->zAC->Prop} {dz:Nat} {L:Go.World->Prop} {hl:Lay L (fun b=>¬X0 b) w0} {ro:Option Nat} {m:Option ρ} {K:List (Kont ρ)} {E:Env} {S:zAC} {all:Array Oper}
theorem fcI {fn:Func} {args:List PV} {S:zAC} {N0:List Nat} {post : ρ -> PV->zAC->Prop} {m:Option ρ} (i:Tryz.prog.funcs[f]? = some fn) (g:fn.body=some c) (h:∀{w0 X X0 σ0 hl},PW ⟨Tryz.prog,fn,w0,X,X0,σ0,N0,post,w0.heap.size+1,L,hl,none⟩ m c [] (zgh 0 args) S) (k:Nat.ble args.length fn.ntmps=true:=by exact rfl):∀r,m=some r->FC L Tryz.prog f args S N0 (post r):=fun _ hr=>zUi i g k hr fun _ _ _ _ _=>h
theorem pq (k:Nat) {ops rest:List Oper} {E':Env} (h:zby tab fn.ntmps all S k ops E=some (rest,E')) (g:PO (⟨Tryz.prog,fn,w0,X,X0,σ0,N0,post,dz,L,hl,ro⟩:Ctx ρ) m all rest K E' S):PO (⟨Tryz.prog,fn,w0,X,X0,σ0,N0,post,dz,L,hl,ro⟩:Ctx ρ) m all ops K E S:=zHz (T:=tab) k rfl h g
theorem ps {G:Ctx ρ} (h:PN G m K E' S') (g:zOv E' E:=by repeat' first | exact trivial | refine ⟨rfl,?_⟩) (i:zGj S' S:=by repeat' first | exact trivial | refine ⟨rfl,?_⟩) (k:zA6 (S'.map (·.1))=true:=by exact rfl):PN G m K E S:=zhq h g i k
theorem lq {G:Ctx ρ} (M:Nat -> α -> Option ρ) (g : α -> Env) (Sf : α -> zAC) (n:Nat) (x : α) {body:Code} (p:∀n x,PW G (M (n+1) x) body (.iter (zYa G (M n) g Sf)::K) (g x) (Sf x)) (h:∀x,M 0 x=none:=by exact fun _=>rfl) (i:zOv (g x) E:=by repeat' first | exact trivial | refine ⟨rfl,?_⟩) (k:zGj (Sf x) S:=by repeat' first | exact trivial | refine ⟨rfl,?_⟩) (q:zA6 ((Sf x).map (·.1))=true:=by exact rfl):PW G (M n x) (.loop body) K E S:=zZS M g Sf n x h i k q p
theorem tu {M:Option α} {enc : α -> PV} {Sr : α -> zAC} {g : α -> Option ρ} (ks:List Nat) {E':Env} {s:Option Nat}
  (D:∀y,M=some y->FC L Tryz.prog f qs Sc N1 fun r S'=>r=enc y/\S'=Sr y) (G:zAo Tryz.prog f=true) (hdr:zPy (Sc.map (·.1)) S=some S1) (p:zKA ks S1=some S2) (i:zH7 ks E=some E') (I:o.op=.call ⟨.value x,args,tys⟩) (hx:ev E x=some (.fn (.func f) [] [])) (H:gE all E o=some true) (F:o.dst=s) (q:dstB s fn.ntmps=true)
  (k:∀y,M=some y->PO (⟨Tryz.prog,fn,w0,X,X0,σ0,N0,post,dz,L,hl,ro⟩:Ctx ρ) (g y) all rest K (putE s (enc y) E') (Sr y++S2)) (C:zGj Sc S:=by repeat' first | exact trivial | refine ⟨rfl,?_⟩) (h:∀y,(Sr y).map (·.1)=NR:=by exact fun _=>rfl) (t:zA6 (Sc.map (·.1))=true:=by exact rfl) (u:zA6 (NR++S2.map (·.1))=true:=by exact rfl) (v:zOn NR (N1++ks)=true:=by exact rfl) (w:ks.all (zEn (⟨Tryz.prog,fn,w0,X,X0,σ0,N0,post,dz,L,hl,ro⟩:Ctx ρ))=true:=by exact rfl) (z:∀y,zDX (N1++ks) (Sr y)=true:=by exact fun _=>rfl) (B:∀y,zEO (N1++ks) [enc y]=true:=by exact fun _=>rfl)
  (ha:zMg E args.toList qs:=by repeat' first | exact trivial | refine ⟨⟨_,rfl,.rfl⟩,?_⟩):PO (⟨Tryz.prog,fn,w0,X,X0,σ0,N0,post,dz,L,hl,ro⟩:Ctx ρ) (bnd M g) all (o::rest) K E S :=
 zVF (first:=[]) (cap:=[]) ks (by simpa using D) C h hdr p i t u v w z B I hx H ha G F q k
theorem rN {r : ρ} {q:List ResultVar} {ps:List PV} {p:PV} (i:fn.results.toList=q:=by exact rfl) (h:zh9 tab E S q=some ps:=by exact rfl) (k:oneP ps=p:=by exact rfl) (g:post r p S':=by exact ⟨rfl,rfl⟩) (t:zGj S' S:=by repeat' first | exact trivial | refine ⟨rfl,?_⟩) (u:zA6 (S'.map (·.1))=true:=by exact rfl) (hz:dz=w0.heap.size+1:=by exact rfl) (s:noL K=true:=by exact rfl):PW (⟨Tryz.prog,fn,w0,X,X0,σ0,N0,post,dz,L,hl,ro⟩:Ctx ρ) (some r) .ret K E S:=zh1 (T:=tab) i h k g t u hz s
theorem ns {G:Ctx ρ} (h:PW G m c K E S):PO G m all [] (.seq c::K) E S:=zGh (zJW h)
theorem sr {G:Ctx ρ} {i:Nat} {y:Code} (h:PO G m ops.toArray ops (.seq y::K) E S) (g:ops.all (fun o=>zGo o.op)=true:=by exact rfl):PW G m (.seq (.region i ops.toArray false) y) K E S:=zTv (zFm h g)
abbrev nB (x:Node×Bool):List PV×Bool:=(zAZ x.1,x.2)
abbrev DD {α : Type} (m:Option α) (f:FuncId) (args:List PV) (e : α -> PV):Prop:=∀r,m=some r->DC zSX Tryz.prog f args (e r)
abbrev FF {α : Type} (m:Option α) (f:FuncId) (args:List PV) (S:zAC) (N:List Nat) (e : α -> PV) (s : α -> zAC):Prop:=∀r,m=some r->FC zSX Tryz.prog f args S N fun p S'=>p=e r/\S'=s r
theorem lw {G:Ctx ρ} (M:Nat -> α -> Option ρ) (p ks:List Nat) (h : α -> Env) (g : α -> zAC) (n:Nat) (x : α) {body:Code} {E0:Env} {S0:zAC} (i:zd1 p E=some E0) (k:zYJ ks S=some S0)
  (t:∀n x,PW G (M (n+1) x) body (.iter (zYa G (M n) (fun x=>h x++E0) (fun x=>g x++S0))::K) (h x++E0) (g x++S0)) (q:∀x,M 0 x=none:=by exact fun _=>rfl) (r:zOv (h x) E:=by repeat' first | exact trivial | refine ⟨rfl,?_⟩) (s:zGj (g x) S:=by repeat' first | exact trivial | refine ⟨rfl,?_⟩) (u:zA6 ((g x++S0).map (·.1))=true:=by exact rfl):PW G (M n x) (.loop body) K E S:=zfK M p ks h g n x i k t q r s u
theorem jw {G:Ctx ρ} (J : α -> Option ρ) (i ks:List Nat) (g : α -> Env) (h : α -> zAC) {E0:Env} {S0:zAC} (k:zd1 i E=some E0) (p:zYJ ks S=some S0) (q:∀x,PN G (J x) K (g x++E0) (h x++S0)) (body:(∀x,PN G (J x) K (g x++E0) (h x++S0))->PW G m c K E S):PW G m c K E S:=zfJ J i ks g h k p q body
theorem pk {M:Option α} {enc : α -> PV} {g : α -> Option ρ} (i:∀y,M=some y->DC L Tryz.prog f qs (enc y)) (t:o.op=.call ⟨.value (.func f),args,tys⟩) (p:o.dst=some d)
  (k:∀y,M=some y->PO (⟨Tryz.prog,fn,w0,X,X0,σ0,N0,post,dz,L,hl,ro⟩:Ctx ρ) (g y) all rest K ((d,enc y)::E) S) (s:gE all E o=some true:=by exact rfl) (h:lB d fn.ntmps=true:=by exact rfl) (ha:zMg E args.toList qs:=by repeat' first | exact trivial | refine ⟨⟨_,rfl,.rfl⟩,?_⟩) (q:∀y,noN (enc y)=true:=by exact fun _=>rfl) (r:zAo Tryz.prog f=true:=by kernel_rfl):PO (⟨Tryz.prog,fn,w0,X,X0,σ0,N0,post,dz,L,hl,ro⟩:Ctx ρ) (bnd M g) all (o::rest) K E S:=zK3 i t s ha q r p h k
theorem tq {M:Option α} {enc : α -> PV} {Sr : α -> zAC} {g : α -> Option ρ} (rn:List (Nat×Nat)) (ks:List Nat) {E':Env} {s:Option Nat}
  (D:∀y,M=some y->FC L Tryz.prog f qs Sc N1 fun r S'=>r=enc y/\S'=Sr y) (F:o.dst=s) (I:o.op=.call ⟨.value x,args,tys⟩) (hx:ev E x=some (.fn (.func f) first cap)) (C:zYJ ((zKI rn Sc).map (·.1)) S=some (zKI rn Sc)) (hm:midL first.length cap.length (zOC rn qs)=some qa)
  (hdr:zPy ((zKI rn Sc).map (·.1)) S=some S1) (p:zKA ks S1=some S2) (i:zH7 ks E=some E')
  (k:∀y,M=some y->PO (⟨Tryz.prog,fn,w0,X,X0,σ0,N0,post,dz,L,hl,ro⟩:Ctx ρ) (g y) all rest K (putE s (Pw.ren rn (enc y)) E') (zKI rn (Sr y)++S2))
  (h:∀y,zhc (zKI rn (Sr y))=some NR:=by exact fun _=>rfl) (H:gE all E o=some true:=by exact rfl) (ha:zMg E args.toList qa:=by repeat' first | exact trivial | refine ⟨⟨_,rfl,.rfl⟩,?_⟩) (J:zOC rn qs=first++qa++cap:=by exact rfl)
  (N:zA6 ((rn.map (·.1)).map (rho rn))=true:=by exact rfl) (P:zOn (Sc.map (·.1)) (rn.map (·.1))=true:=by exact rfl) (Q:∀y,zOn ((Sr y).map (·.1)) (rn.map (·.1))=true:=by exact fun _=>rfl) (T:zOn N1 (rn.map (·.1))=true:=by exact rfl) (W:∀y,zDX (rn.map (·.1)) (Sr y)=true:=by exact fun _=>rfl) (u5:∀y,zEO (rn.map (·.1)) [enc y]=true:=by exact fun _=>rfl)
  (t:zA6 ((zKI rn Sc).map (·.1))=true:=by exact rfl) (u:zA6 (NR++S2.map (·.1))=true:=by exact rfl) (v:zOn NR (N1.map (rho rn)++ks)=true:=by exact rfl) (w:ks.all (zEn (⟨Tryz.prog,fn,w0,X,X0,σ0,N0,post,dz,L,hl,ro⟩:Ctx ρ))=true:=by exact rfl) (z:∀y,zDX (N1.map (rho rn)++ks) (zKI rn (Sr y))=true:=by exact fun _=>rfl) (B:∀y,zEO (N1.map (rho rn)++ks) [Pw.ren rn (enc y)]=true:=by exact fun _=>rfl)
  (G:zAo Tryz.prog f=true:=by kernel_rfl) (q:dstB s fn.ntmps=true:=by exact rfl):PO (⟨Tryz.prog,fn,w0,X,X0,σ0,N0,post,dz,L,hl,ro⟩:Ctx ρ) (bnd M g) all (o::rest) K E S :=
 zZO (first:=first) (cap:=cap) (qs:=qa) rn ks D F I hx C hdr p i k J H ha h N P Q T W u5 t u v w z B G q
theorem vq (k:Nat) {ms:List Nat} {ment0:List (Nat×List Nat)} {ops rest:List Oper} {j i:Nat} {acc g:List Summ} {V V':Vw} (h:zSv tab fn.ntmps all k ops j acc V=some (rest,i,g,V')) (p:zdY (⟨Tryz.prog,fn,w0,X,X0,σ0,N0,post,dz,L,hl,ro⟩:Ctx ρ) tab all ms ment0 k ops j acc V=true) (q:PDV (⟨Tryz.prog,fn,w0,X,X0,σ0,N0,post,dz,L,hl,ro⟩:Ctx ρ) m all ms ment0 rest i g V' K):PDV (⟨Tryz.prog,fn,w0,X,X0,σ0,N0,post,dz,L,hl,ro⟩:Ctx ρ) m all ms ment0 ops j acc V K:=zcn (T:=tab) k h p q
theorem vT {M:Option α} {g : α -> Option ρ} (reads writes ks:List Nat) {E0:Env} {S0:zAC} {p : α -> Env} {Sf : α -> zAC} {W : α -> Vw} {ment:List (Nat×List Nat)}
  (q:zMD V reads=some E0) (r:zMf V reads=some S0)
  (h:∀{w0 X X0 σ0 hl},PO (⟨Tryz.prog,fn,w0,X,X0,σ0,exK ks (zN6 E0++nsB S0),fun _ _ _=>True,dz,L,hl,ro⟩:Ctx α) (bnd M some) all [o] [.iter fun y a w=>Pre (⟨Tryz.prog,fn,w0,X,X0,σ0,exK ks (zN6 E0++nsB S0),fun _ _ _=>True,dz,L,hl,ro⟩:Ctx α) (zLk writes (p y)) (zJF (zLa writes++zBr writes S0) (Sf y)) a w] E0 S0)
  (u:∀y,wOf (zLk writes (p y)) (zJF (zLa writes++zBr writes S0) (Sf y)) writes=some (W y)) (z:∀y,zLS (W y)=some ment)
  (k:∀y,M=some y->PDV (⟨Tryz.prog,fn,w0,X,X0,σ0,N0,post,dz,L,hl,ro⟩:Ctx ρ) (g y) all ms ment0 rest (j+1) (⟨reads,writes,ks,ment⟩::acc) (W y++V) K)
  (t:zIT (ms.getD j 0) ment0 j ⟨reads,writes,ks,ment⟩ acc=true:=by kernel_rfl) (v:zH1 (⟨Tryz.prog,fn,w0,X,X0,σ0,N0,post,dz,L,hl,ro⟩:Ctx ρ) ks writes (zBr writes S0) S0 o=true:=by kernel_rfl) (s:∀y,zGe (exK ks (zN6 E0++nsB S0)) ks writes (zBr writes S0) (zLk writes (p y)) (zJF (zLa writes++zBr writes S0) (Sf y))=true:=by exact fun _=>by kernel_rfl)
  (i:∀y,zKc (zBr writes S0) (zJF (zLa writes++zBr writes S0) (Sf y)) S0:=by intro y;repeat' first | exact trivial | refine ⟨rfl,?_⟩):PDV (⟨Tryz.prog,fn,w0,X,X0,σ0,N0,post,dz,L,hl,ro⟩:Ctx ρ) (bnd M g) all ms ment0 (o::rest) j acc V K :=
 zSl reads writes ks q r (fun _ _ _ _ _=>h) u z k t v s i
theorem vS (reads writes ks:List Nat) {E0:Env} {S0:zAC} {E1:Env} {S1:zAC} {W:Vw} {ment:List (Nat×List Nat)}
  (i:zMD V reads=some E0) (p:zMf V reads=some S0)
  (h:∀{w0 X X0 σ0 hl},PO (⟨Tryz.prog,fn,w0,X,X0,σ0,exK ks (zN6 E0++nsB S0),fun _ _ _=>True,dz,L,hl,ro⟩:Ctx Unit) (some ()) all [o] [.iter fun _ a w=>Pre (⟨Tryz.prog,fn,w0,X,X0,σ0,exK ks (zN6 E0++nsB S0),fun _ _ _=>True,dz,L,hl,ro⟩:Ctx Unit) (zLk writes E1) (zJF (zLa writes++zBr writes S0) S1) a w] E0 S0)
  (s:wOf (zLk writes E1) (zJF (zLa writes++zBr writes S0) S1) writes=some W) (u:zLS W=some ment)
  (k:PDV (⟨Tryz.prog,fn,w0,X,X0,σ0,N0,post,dz,L,hl,ro⟩:Ctx ρ) m all ms ment0 rest (j+1) (⟨reads,writes,ks,ment⟩::acc) (W++V) K)
  (r:zIT (ms.getD j 0) ment0 j ⟨reads,writes,ks,ment⟩ acc=true:=by kernel_rfl) (t:zH1 (⟨Tryz.prog,fn,w0,X,X0,σ0,N0,post,dz,L,hl,ro⟩:Ctx ρ) ks writes (zBr writes S0) S0 o=true:=by kernel_rfl) (q:zGe (exK ks (zN6 E0++nsB S0)) ks writes (zBr writes S0) (zLk writes E1) (zJF (zLa writes++zBr writes S0) S1)=true:=by kernel_rfl)
  (g:zKc (zBr writes S0) (zJF (zLa writes++zBr writes S0) S1) S0:=by repeat' first | exact trivial | refine ⟨rfl,?_⟩):PDV (⟨Tryz.prog,fn,w0,X,X0,σ0,N0,post,dz,L,hl,ro⟩:Ctx ρ) m all ms ment0 (o::rest) j acc V K :=
 zTq reads writes ks i p (fun _ _ _ _ _=>h) s u k r t q g
theorem vU {M:Option Unit} {g:Unit->Option ρ} (reads writes ks:List Nat) {E0:Env} {S0:zAC} {E1:Env} {S1:zAC} {W:Vw} {ment:List (Nat×List Nat)}
  (p:zMD V reads=some E0) (q:zMf V reads=some S0)
  (h:∀{w0 X X0 σ0 hl},PO (⟨Tryz.prog,fn,w0,X,X0,σ0,exK ks (zN6 E0++nsB S0),fun _ _ _=>True,dz,L,hl,ro⟩:Ctx Unit) (bnd M some) all [o] [.iter fun _ a w=>Pre (⟨Tryz.prog,fn,w0,X,X0,σ0,exK ks (zN6 E0++nsB S0),fun _ _ _=>True,dz,L,hl,ro⟩:Ctx Unit) (zLk writes E1) (zJF (zLa writes++zBr writes S0) S1) a w] E0 S0)
  (t:wOf (zLk writes E1) (zJF (zLa writes++zBr writes S0) S1) writes=some W) (v:zLS W=some ment)
  (k:∀y,M=some y->PDV (⟨Tryz.prog,fn,w0,X,X0,σ0,N0,post,dz,L,hl,ro⟩:Ctx ρ) (g y) all ms ment0 rest (j+1) (⟨reads,writes,ks,ment⟩::acc) (W++V) K)
  (s:zIT (ms.getD j 0) ment0 j ⟨reads,writes,ks,ment⟩ acc=true:=by kernel_rfl) (u:zH1 (⟨Tryz.prog,fn,w0,X,X0,σ0,N0,post,dz,L,hl,ro⟩:Ctx ρ) ks writes (zBr writes S0) S0 o=true:=by kernel_rfl) (r:zGe (exK ks (zN6 E0++nsB S0)) ks writes (zBr writes S0) (zLk writes E1) (zJF (zLa writes++zBr writes S0) S1)=true:=by kernel_rfl)
  (i:zKc (zBr writes S0) (zJF (zLa writes++zBr writes S0) S1) S0:=by repeat' first | exact trivial | refine ⟨rfl,?_⟩):PDV (⟨Tryz.prog,fn,w0,X,X0,σ0,N0,post,dz,L,hl,ro⟩:Ctx ρ) (bnd M g) all ms ment0 (o::rest) j acc V K :=
 zcp reads writes ks p q (fun _ _ _ _ _=>h) t v k s u r i
theorem pzq {H:Ctx α} {y : α} {g : α -> Env} {Sf : α -> zAC} (h:zA6 ((zJF kp (Sf y)).map (·.1))=true):PO H (some y) all [] [.iter fun y a w=>Pre H (zLk wr (g y)) (zJF kp (Sf y)) a w] (g y) (Sf y):=zhs h
theorem pyq {H:Ctx Unit} {E1:Env} (g:zA6 ((zJF kp S1).map (·.1))=true):PO H (some ()) all [] [.iter fun _ a w=>Pre H (zLk wr E1) (zJF kp S1) a w] E1 S1:=zfC g
theorem thpq {k:Nat} (h:zby tab fn.ntmps all S k ops E=some (rest,E')) (g:Th l (PO (⟨Tryz.prog,fn,w0,X,X0,σ0,N0,post,dz,L,hl,ro⟩:Ctx ρ) m all rest K E' S)):Gd k l (PO (⟨Tryz.prog,fn,w0,X,X0,σ0,N0,post,dz,L,hl,ro⟩:Ctx ρ) m all ops K E S):=⟨pq k h g.h⟩
theorem thvq {k:Nat} {i:Nat} {g:List Summ} {V':Vw} (h:zSv tab fn.ntmps all k ops j acc V=some (rest,i,g,V')) (p:zdY (⟨Tryz.prog,fn,w0,X,X0,σ0,N0,post,dz,L,hl,ro⟩:Ctx ρ) tab all ms ment0 k ops j acc V=true) (q:Th l (PDV (⟨Tryz.prog,fn,w0,X,X0,σ0,N0,post,dz,L,hl,ro⟩:Ctx ρ) m all ms ment0 rest i g V' K)):Gd k l (PDV (⟨Tryz.prog,fn,w0,X,X0,σ0,N0,post,dz,L,hl,ro⟩:Ctx ρ) m all ms ment0 ops j acc V K):=⟨vq k h p q.h⟩
theorem thbox {p:PV} (w:o.op=.box elem x) (u:gE all E o=some true) (hx:ev E x=some p)
  (g:zO9 p=some cs) (t:o.dst=some d) (i:lB d fn.ntmps=true) (v:zEn (⟨Tryz.prog,fn,w0,X,X0,σ0,N0,post,dz,L,hl,ro⟩:Ctx ρ) n=true) (q:zF2 n E=some E') (r:zFD n S=some S') (s:zLW n cs=some cs')
  (k:Th l (PO (⟨Tryz.prog,fn,w0,X,X0,σ0,N0,post,dz,L,hl,ro⟩:Ctx ρ) m all rest K ((d,.loc n 0)::E') ((n,.box elem cs')::S'))):Gd 30 (n::l) (PO (⟨Tryz.prog,fn,w0,X,X0,σ0,N0,post,dz,L,hl,ro⟩:Ctx ρ) m all (o::rest) K E S):=⟨zSp n w u hx g t i v q r s k.h⟩
theorem ziP (v:o.op=.alloc elem) (t:gE all E o=some true)
  (g:zXC tab elem=some cs) (s:o.dst=some d) (i:lB d fn.ntmps=true) (u:zEn (⟨Tryz.prog,fn,w0,X,X0,σ0,N0,post,dz,L,hl,ro⟩:Ctx ρ) n=true) (p:zF2 n E=some E') (q:zFD n S=some S') (r:zLW n cs=some cs')
  (k:Th l (PO (⟨Tryz.prog,fn,w0,X,X0,σ0,N0,post,dz,L,hl,ro⟩:Ctx ρ) m all rest K ((d,.loc n 0)::E') ((n,.box elem cs')::S'))):Gd 31 (n::l) (PO (⟨Tryz.prog,fn,w0,X,X0,σ0,N0,post,dz,L,hl,ro⟩:Ctx ρ) m all (o::rest) K E S):=⟨zGd (T:=tab) n v t g s i u p q r k.h⟩
theorem thfr (p:lkS S n=some (.arr e size rows)) (g:zYx n (.sl size false rows) E=some E') (i:zWE n (.sl size false rows) S=some S') (k:Th l (PO (⟨Tryz.prog,fn,w0,X,X0,σ0,N0,post,dz,L,hl,ro⟩:Ctx ρ) m all ops K E' S')):Gd 33 (n::l) (PO (⟨Tryz.prog,fn,w0,X,X0,σ0,N0,post,dz,L,hl,ro⟩:Ctx ρ) m all ops K E S):=⟨zG0 n p g i k.h⟩
theorem thwf (p:lkS S n=some (.arr e size rows)) (g:zYx n (.sl size false rows) E=some E') (i:zWE n (.sl size false rows) S=some S') (k:Th l (PW (⟨Tryz.prog,fn,w0,X,X0,σ0,N0,post,dz,L,hl,ro⟩:Ctx ρ) m c K E' S')):Gd 34 (n::l) (PW (⟨Tryz.prog,fn,w0,X,X0,σ0,N0,post,dz,L,hl,ro⟩:Ctx ρ) m c K E S):=⟨zc2 n p g i k.h⟩
theorem thsp {b:Bool} {i k:Option ρ} (g:lk E j=some (.v (.bool b))) (p:Th (l.take n) (PO (⟨Tryz.prog,fn,w0,X,X0,σ0,N0,post,dz,L,hl,ro⟩:Ctx ρ) i all ops K ((j,.v (.bool true))::E) S)) (q:Th (l.drop n) (PO (⟨Tryz.prog,fn,w0,X,X0,σ0,N0,post,dz,L,hl,ro⟩:Ctx ρ) k all ops K ((j,.v (.bool false))::E) S)):Gd 26 (j::n::l) (PO (⟨Tryz.prog,fn,w0,X,X0,σ0,N0,post,dz,L,hl,ro⟩:Ctx ρ) (cnd b i k) all ops K E S):=⟨zAY g p.h q.h⟩
theorem thsq {b:Bool} {i k:Option ρ} (g:lk E j=some (.v (.bool b))) (q:Th (l.take n) (PO (⟨Tryz.prog,fn,w0,X,X0,σ0,N0,post,dz,L,hl,ro⟩:Ctx ρ) k all ops K ((j,.v (.bool false))::E) S)) (p:Th (l.drop n) (PO (⟨Tryz.prog,fn,w0,X,X0,σ0,N0,post,dz,L,hl,ro⟩:Ctx ρ) i all ops K ((j,.v (.bool true))::E) S)):Gd 27 (j::n::l) (PO (⟨Tryz.prog,fn,w0,X,X0,σ0,N0,post,dz,L,hl,ro⟩:Ctx ρ) (cnd b i k) all ops K E S):=⟨zAY g p.h q.h⟩
theorem piG {G:Ctx ρ} {M : α -> Option ρ} {g : α -> Env} {Sf : α -> zAC} {x : α} (_:Tx x) (h:zOv (g x) E:=by repeat' first | exact trivial | refine ⟨rfl,?_⟩) (i:zGj (Sf x) S:=by repeat' first | exact trivial | refine ⟨rfl,?_⟩) (k:zA6 ((Sf x).map (·.1))=true:=by exact rfl):PN G (M x) (.iter (zYa G M g Sf)::K) E S:=ze8 x h i k
theorem thon {t:Nat} (g:lk E t=some (.v (.slice none 0 0))) (q:zEn (⟨Tryz.prog,fn,w0,X,X0,σ0,N0,post,dz,L,hl,ro⟩:Ctx ρ) n=true) (i:zF2 n E=some E') (p:zFD n S=some S') (k:Th l (PW (⟨Tryz.prog,fn,w0,X,X0,σ0,N0,post,dz,L,hl,ro⟩:Ctx ρ) m c K ((t,.own n)::E') ((n,.arr e size [])::S'))):Gd 56 (n::e::size::t::l) (PW (⟨Tryz.prog,fn,w0,X,X0,σ0,N0,post,dz,L,hl,ro⟩:Ctx ρ) m c K E S):=⟨zaZ n e size t g q i p k.h⟩
theorem pl (rows:List (List PV)) (n:Nat) {t e size h len:Nat} {parts:Array (Nat×Operand)} {z:Value} {d:Nat} {E':Env} {S':zAC} (B:o.op=.buildSlice t len parts) (C:lku tab.els t=some (e,size,h)) (hz:lku tab.zeros e=some z) (u:o.dst=some d) (r:zF2 n E=some E') (s:zFD n S=some S') (k:PO (⟨Tryz.prog,fn,w0,X,X0,σ0,N0,post,dz,L,hl,ro⟩:Ctx ρ) m all rest K ((d,.own n)::E') ((n,.arr e size rows)::S'))
  (hr:zac size E 0 parts.toList=some rows:=by exact rfl) (w:gE all E o=some true:=by exact rfl) (v:lB e zLh=true:=by exact rfl) (g:len=rows.length:=by exact rfl) (i:Nat.ble len 10000=true:=by exact rfl) (q:Nat.ble (len*size) 10000=true:=by exact rfl) (p:lB d fn.ntmps=true:=by exact rfl) (y:zEn (⟨Tryz.prog,fn,w0,X,X0,σ0,N0,post,dz,L,hl,ro⟩:Ctx ρ) n=true:=by exact rfl):PO (⟨Tryz.prog,fn,w0,X,X0,σ0,N0,post,dz,L,hl,ro⟩:Ctx ρ) m all (o::rest) K E S :=
 po_lit (T:=tab) n B w v C hz hr g i q u p y r s k
theorem pa {f:Unit->Option ρ} (enc : α -> List PV) (xs ys:List α) {args:Array Operand} {tys:Array TypeId} {t n e size g:Nat} {x y:Operand} {q:PV} {z:Value} {d:Nat} {E':Env} {S':zAC} (J:o.op=.call ⟨.builtin .append,args,tys⟩) (v:args.toList=[x,y]) (w:tys.toList=[t,t]) (hx:ev E x=some (.own n)) (D:lkS S n=some (.arr e size (xs.map enc)))
  (hy:ev E y=some q) (N:lku tab.els t=some (e,size,g)) (hz:lku tab.zeros e=some z) (h:∀r∈ys.map enc,r.all zGy=true) (F:o.dst=some d) (B:zF2 n E=some E') (C:zFD n S=some S') (k:PO (⟨Tryz.prog,fn,w0,X,X0,σ0,N0,post,dz,L,hl,ro⟩:Ctx ρ) (f ()) all rest K ((d,.own n)::E') ((n,.arr e size ((xs++ys).map enc))::S'))
  (G:lB e zLh=true:=by exact rfl) (H:gE all E o=some true:=by exact rfl) (M:ziJ S q=some (size,ys.map enc):=by exact rfl) (u:z.cells.size=size:=by exact rfl) (s:lB 0 size=true:=by exact rfl) (i:lB 0 g=true:=by exact rfl) (p:lB d fn.ntmps=true:=by exact rfl) (I:zEn (⟨Tryz.prog,fn,w0,X,X0,σ0,N0,post,dz,L,hl,ro⟩:Ctx ρ) n=true:=by exact rfl):PO (⟨Tryz.prog,fn,w0,X,X0,σ0,N0,post,dz,L,hl,ro⟩:Ctx ρ) (bnd (zDb g (xs.length+ys.length)) f) all (o::rest) K E S :=
 zcs (T:=tab) enc xs ys G J v w H hx D hy M N hz u s i h F p I B C k
theorem thsel {b:Nat} {g:List Nat} (hr:zH6 (l.take a)=some g) (q:zH6 ((l.drop a).take b)=some ks) (i:zd1 g E=some E') (k:zYJ ks S=some S') (p:zA6 ks=true) (h:Th ((l.drop a).drop b) (PW (⟨Tryz.prog,fn,w0,X,X0,σ0,N0,post,dz,L,hl,ro⟩:Ctx ρ) m c K E' S')):Gd 52 (a::b::l) (PW (⟨Tryz.prog,fn,w0,X,X0,σ0,N0,post,dz,L,hl,ro⟩:Ctx ρ) m c K E S):=⟨zh2 g ks i k p h.h⟩
theorem thdv {r:Nat} (hr:zH6 (l.take a)=some ms) (i:zL8 0 ops=true) (g:zOa ms ops ms=true) (p:zH6 (zW3 E++zW5 S)=some V) (k:zKC V=ment0) (h:Th (l.drop a) (PDV (⟨Tryz.prog,fn,w0,X,X0,σ0,N0,post,dz,L,hl,ro⟩:Ctx ρ) m ops.toArray ms ment0 ops 0 [] V K)) (q:ops.all (fun o=>zGo o.op)=true:=by exact rfl):Gd 53 (a::l) (PW (⟨Tryz.prog,fn,w0,X,X0,σ0,N0,post,dz,L,hl,ro⟩:Ctx ρ) m (.region r ops.toArray true) K E S):=⟨zfI ms mixed i g p k h.h q⟩
theorem thvs {c b:Nat} {E1:Env} {W:Vw} 
  (hr:zH6 (l.take a)=some reads) (v:zH6 ((l.drop a).take b)=some writes) (i:zMD V reads=some E0) (p:zMf V reads=some S0)
  (h:∀w0 X X0 σ0 hl,PO (⟨Tryz.prog,fn,w0,X,X0,σ0,exK [] (zN6 E0++nsB S0),fun _ _ _=>True,dz,L,hl,ro⟩:Ctx Unit) (some ()) all [o] [.iter fun _ a w=>Pre (⟨Tryz.prog,fn,w0,X,X0,σ0,exK [] (zN6 E0++nsB S0),fun _ _ _=>True,dz,L,hl,ro⟩:Ctx Unit) (zLk writes E1) (zJF (zLa writes++zBr writes S0) S1) a w] E0 S0)
  (s:wOf (zLk writes E1) (zJF (zLa writes++zBr writes S0) S1) writes=some W) (u:zLS W=some ment)
  (k:Th ((l.drop a).drop b) (PDV (⟨Tryz.prog,fn,w0,X,X0,σ0,N0,post,dz,L,hl,ro⟩:Ctx ρ) m all ms ment0 rest (j+1) (⟨reads,writes,[],ment⟩::acc) (W++V) K))
  (r:zIT (ms.getD j 0) ment0 j ⟨reads,writes,[],ment⟩ acc=true:=by kernel_rfl) (t:zH1 (⟨Tryz.prog,fn,w0,X,X0,σ0,N0,post,dz,L,hl,ro⟩:Ctx ρ) [] writes (zBr writes S0) S0 o=true:=by kernel_rfl) (q:zGe (exK [] (zN6 E0++nsB S0)) [] writes (zBr writes S0) (zLk writes E1) (zJF (zLa writes++zBr writes S0) S1)=true:=by kernel_rfl)
  (g:zKc (zBr writes S0) (zJF (zLa writes++zBr writes S0) S1) S0:=by repeat' first | exact trivial | refine ⟨rfl,?_⟩):Gd c (a::b::l) (PDV (⟨Tryz.prog,fn,w0,X,X0,σ0,N0,post,dz,L,hl,ro⟩:Ctx ρ) m all ms ment0 (o::rest) j acc V K) :=
 ⟨zTq reads writes [] i p h s u k.h r t q g⟩
theorem thvt {c b:Nat} {M:Option α} {g : α -> Option ρ} {p : α -> Env} {Sf : α -> zAC} {W : α -> Vw} 
  (hr:zH6 (l.take a)=some reads) (B:zH6 ((l.drop a).take b)=some writes) (q:zMD V reads=some E0) (r:zMf V reads=some S0)
  (h:∀w0 X X0 σ0 hl,PO (⟨Tryz.prog,fn,w0,X,X0,σ0,exK ks (zN6 E0++nsB S0),fun _ _ _=>True,dz,L,hl,ro⟩:Ctx α) (bnd M some) all [o] [.iter fun y a w=>Pre (⟨Tryz.prog,fn,w0,X,X0,σ0,exK ks (zN6 E0++nsB S0),fun _ _ _=>True,dz,L,hl,ro⟩:Ctx α) (zLk writes (p y)) (zJF (zLa writes++zBr writes S0) (Sf y)) a w] E0 S0)
  (u:∀y,wOf (zLk writes (p y)) (zJF (zLa writes++zBr writes S0) (Sf y)) writes=some (W y)) (z:∀y,zLS (W y)=some ment)
  (k:Th ((l.drop a).drop b) (∀y,M=some y->PDV (⟨Tryz.prog,fn,w0,X,X0,σ0,N0,post,dz,L,hl,ro⟩:Ctx ρ) (g y) all ms ment0 rest (j+1) (⟨reads,writes,ks,ment⟩::acc) (W y++V) K))
  (t:zIT (ms.getD j 0) ment0 j ⟨reads,writes,ks,ment⟩ acc=true:=by kernel_rfl) (v:zH1 (⟨Tryz.prog,fn,w0,X,X0,σ0,N0,post,dz,L,hl,ro⟩:Ctx ρ) ks writes (zBr writes S0) S0 o=true:=by kernel_rfl) (s:∀y,zGe (exK ks (zN6 E0++nsB S0)) ks writes (zBr writes S0) (zLk writes (p y)) (zJF (zLa writes++zBr writes S0) (Sf y))=true:=by exact fun _=>by kernel_rfl)
  (i:∀y,zKc (zBr writes S0) (zJF (zLa writes++zBr writes S0) (Sf y)) S0:=by intro y;repeat' first | exact trivial | refine ⟨rfl,?_⟩):Gd c (a::b::l) (PDV (⟨Tryz.prog,fn,w0,X,X0,σ0,N0,post,dz,L,hl,ro⟩:Ctx ρ) (bnd M g) all ms ment0 (o::rest) j acc V K) :=
 ⟨zSl reads writes ks q r h u z k.h t v s i⟩
theorem thvg {c b:Nat} {M:Option α} {g : α -> Option ρ} {p : α -> Env} {Sf : α -> zAC} {W : α -> Vw} 
  {H:Prop} {rn:List (Nat×Nat)} (_:Tg rn ks H) (hr:zH6 (l.take a)=some reads) (B:zH6 ((l.drop a).take b)=some writes) (q:zMD V reads=some E0) (r:zMf V reads=some S0)
  (h:∀w0 X X0 σ0 hl,PO (⟨Tryz.prog,fn,w0,X,X0,σ0,exK ks (zN6 E0++nsB S0),fun _ _ _=>True,dz,L,hl,ro⟩:Ctx α) (bnd M some) all [o] [.iter fun y a w=>Pre (⟨Tryz.prog,fn,w0,X,X0,σ0,exK ks (zN6 E0++nsB S0),fun _ _ _=>True,dz,L,hl,ro⟩:Ctx α) (zLk writes (p y)) (zJF (zLa writes++zBr writes S0) (Sf y)) a w] E0 S0)
  (u:∀y,wOf (zLk writes (p y)) (zJF (zLa writes++zBr writes S0) (Sf y)) writes=some (W y)) (z:∀y,zLS (W y)=some ment)
  (k:Th ((l.drop a).drop b) (∀y,M=some y->PDV (⟨Tryz.prog,fn,w0,X,X0,σ0,N0,post,dz,L,hl,ro⟩:Ctx ρ) (g y) all ms ment0 rest (j+1) (⟨reads,writes,ks,ment⟩::acc) (W y++V) K))
  (t:zIT (ms.getD j 0) ment0 j ⟨reads,writes,ks,ment⟩ acc=true:=by kernel_rfl) (v:zH1 (⟨Tryz.prog,fn,w0,X,X0,σ0,N0,post,dz,L,hl,ro⟩:Ctx ρ) ks writes (zBr writes S0) S0 o=true:=by kernel_rfl) (s:∀y,zGe (exK ks (zN6 E0++nsB S0)) ks writes (zBr writes S0) (zLk writes (p y)) (zJF (zLa writes++zBr writes S0) (Sf y))=true:=by exact fun _=>by kernel_rfl)
  (i:∀y,zKc (zBr writes S0) (zJF (zLa writes++zBr writes S0) (Sf y)) S0:=by intro y;repeat' first | exact trivial | refine ⟨rfl,?_⟩):Gd c (a::b::l) (PDV (⟨Tryz.prog,fn,w0,X,X0,σ0,N0,post,dz,L,hl,ro⟩:Ctx ρ) (bnd M g) all ms ment0 (o::rest) j acc V K) :=
 ⟨zSl reads writes ks q r h u z k.h t v s i⟩
theorem tqG {M:Option α} {enc : α -> PV} {Sr : α -> zAC} {g : α -> Option ρ} {t:Option Nat} 
  (F:Tg rn ks (∀y,M=some y->FC L Tryz.prog f qs Sc N1 fun r S'=>r=enc y/\S'=Sr y)) (G:o.dst=t) (J:o.op=.call ⟨.value x,args,tys⟩) (hx:ev E x=some (.fn (.func f) first cap)) (D:zYJ ((zKI rn Sc).map (·.1)) S=some (zKI rn Sc)) (hm:midL first.length cap.length (zOC rn qs)=some qa)
  (hdr:zPy ((zKI rn Sc).map (·.1)) S=some S1) (q:zKA ks S1=some S2) (p:zH7 ks E=some E')
  (k:∀y,M=some y->PO (⟨Tryz.prog,fn,w0,X,X0,σ0,N0,post,dz,L,hl,ro⟩:Ctx ρ) (g y) all rest K (putE t (Pw.ren rn (enc y)) E') (zKI rn (Sr y)++S2))
  (i:∀y,zhc (zKI rn (Sr y))=some NR:=by exact fun _=>rfl) (I:gE all E o=some true:=by exact rfl) (ha:zMg E args.toList qa:=by repeat' first | exact trivial | refine ⟨⟨_,rfl,.rfl⟩,?_⟩) (N:zOC rn qs=first++qa++cap:=by exact rfl)
  (P:zA6 ((rn.map (·.1)).map (rho rn))=true:=by exact rfl) (Q:zOn (Sc.map (·.1)) (rn.map (·.1))=true:=by exact rfl) (T:∀y,zOn ((Sr y).map (·.1)) (rn.map (·.1))=true:=by exact fun _=>rfl) (W:zOn N1 (rn.map (·.1))=true:=by exact rfl) (u4:∀y,zDX (rn.map (·.1)) (Sr y)=true:=by exact fun _=>rfl) (u5:∀y,zEO (rn.map (·.1)) [enc y]=true:=by exact fun _=>rfl)
  (u:zA6 ((zKI rn Sc).map (·.1))=true:=by exact rfl) (v:zA6 (NR++S2.map (·.1))=true:=by exact rfl) (w:zOn NR (N1.map (rho rn)++ks)=true:=by exact rfl) (z:ks.all (zEn (⟨Tryz.prog,fn,w0,X,X0,σ0,N0,post,dz,L,hl,ro⟩:Ctx ρ))=true:=by exact rfl) (B:∀y,zDX (N1.map (rho rn)++ks) (zKI rn (Sr y))=true:=by exact fun _=>rfl) (C:∀y,zEO (N1.map (rho rn)++ks) [Pw.ren rn (enc y)]=true:=by exact fun _=>rfl)
  (H:zAo Tryz.prog f=true:=by kernel_rfl) (s:dstB t fn.ntmps=true:=by exact rfl):PO (⟨Tryz.prog,fn,w0,X,X0,σ0,N0,post,dz,L,hl,ro⟩:Ctx ρ) (bnd M g) all (o::rest) K E S :=
 zZO (first:=first) (cap:=cap) (qs:=qa) rn ks F.h G J hx D hdr q p k N I ha i P Q T W u4 u5 u v w z B C H s
theorem cqG {i:List PV} {M:Option α} {enc : α -> PV} {g : α -> Option ρ} 
  (u:Tg rn ks (∀y,M=some y->FC L Tryz.prog f i Sc (Sc.map (·.1)) fun r S'=>r=enc y/\S'=Sc)) (v:o.dst=some d) (C:o.op=.call ⟨.value x,args,tys⟩) (hx:ev E x=some (.fn (.func f) first cap)) (t:zYJ ((zKI rn Sc).map (·.1)) S=some (zKI rn Sc)) (J:midL first.length cap.length (zOC rn i)=some qs)
  (k:∀y,M=some y->PO (⟨Tryz.prog,fn,w0,X,X0,σ0,N0,post,dz,L,hl,ro⟩:Ctx ρ) (g y) all rest K ((d,Pw.ren rn (enc y))::E) S)
  (D:zOC rn i=first++qs++cap:=by exact rfl) (B:gE all E o=some true:=by exact rfl) (ha:zMg E args.toList qs:=by repeat' first | exact trivial | refine ⟨⟨_,rfl,.rfl⟩,?_⟩)
  (F:zA6 ((rn.map (·.1)).map (rho rn))=true:=by exact rfl) (G:zOn (Sc.map (·.1)) (rn.map (·.1))=true:=by exact rfl) (H:zDX (rn.map (·.1)) Sc=true:=by exact rfl) (I:∀y,zEO (rn.map (·.1)) [enc y]=true:=by exact fun _=>rfl)
  (s:zA6 ((zKI rn Sc).map (·.1))=true:=by exact rfl) (p:zKy ((zKI rn Sc).map (·.1)) (zKI rn Sc)=true:=by exact rfl) (w:∀y,noN (Pw.ren rn (enc y))=true:=by exact fun _=>rfl)
  (z:zAo Tryz.prog f=true:=by kernel_rfl) (q:lB d fn.ntmps=true:=by exact rfl):PO (⟨Tryz.prog,fn,w0,X,X0,σ0,N0,post,dz,L,hl,ro⟩:Ctx ρ) (bnd M g) all (o::rest) K E S :=
 zfA rn u.h v C hx t k D B ha F G H I s p w z q
theorem A {P Q H:Prop} (l:List Nat) (k:Q:=by exact trivial) (c:H:=by exact trivial) (rn:List (Nat×Nat):=[]) (ks:List Nat:=[]) (h:Tg rn ks H->Q->Th l P:=by
 intro c q
 repeat' first
  | exact thQ q
  | (refine thG 45 ?_;exact gdE (ps q))
  | (refine thG 46 ?_;exact gdE (piG q))
  | (refine thG 41 ?_;refine gd1 ?_ fun h=>pk c.h rfl rfl h)
  | (refine thG 54 ?_;refine thvt (ks:=[]) rfl rfl rfl rfl (fun _ _ _ _ _=>pk c.h rfl rfl fun _ _=>pzq rfl) (fun _=>rfl) (fun _=>rfl) ?_)
  | (refine thG 55 ?_;refine thvg c rfl rfl rfl rfl (fun _ _ _ _ _=>tqG c rfl rfl rfl rfl rfl rfl rfl rfl fun _ _=>pzq rfl) (fun _=>rfl) (fun _=>rfl) ?_)
  | (refine thG 43 ?_;refine gd1 ?_ fun h=>tqG c rfl rfl rfl rfl rfl rfl rfl rfl h)
  | (refine thG 44 ?_;refine gd1 ?_ fun h=>cqG c rfl rfl rfl rfl rfl h)
  | (refine thG 1 ?_;refine gd1 ?_ fun h=>pq 1 rfl h)
  | (refine thG 0 ?_;refine gd1 ?_ fun h=>ns h)
  | (refine thG 9 ?_;refine gd1 ?_ fun h=>sr h)
  | (refine thG 2 ?_;refine gd1 ?_ fun h=>pq 2 rfl h)
  | (refine thG 8 ?_;exact gdE rN)
  | (refine thG 7 ?_;refine gd1 ?_ fun h=>zJW h)
  | (refine thG 6 ?_;refine gd1 ?_ fun h=>zTv h)
  | (refine thG 5 ?_;refine gd2 ?_ ?_ fun a b=>zAF rfl a b)
  | (refine thG 10 ?_;refine gd2 ?_ ?_ fun b a=>zAF rfl a b)
  | (refine thG 4 ?_;refine gd1 ?_ fun h=>zYF h)
  | (refine thG 3 ?_;refine gd1 ?_ fun h=>pq 3 rfl h)
  | (refine thG 11 ?_;refine gd1 ?_ fun h=>zGh h)
  | (refine thG 12 ?_;refine gd1 ?_ fun h=>zVD (T:=tab) rfl rfl rfl rfl rfl rfl rfl rfl rfl rfl rfl rfl h)
  | (refine thG 13 ?_;refine gd1 ?_ fun h=>zZR h)
  | (refine thG 14 ?_;refine gd1 ?_ fun h=>zFm h)
  | (refine thG 15 ?_;refine gd1 ?_ fun h=>ze7 h)
  | (refine thG 16 ?_;refine gd1 ?_ fun h=>zM8 (T:=tab) rfl rfl rfl rfl h)
  | (refine thG 17 ?_;refine gd1 ?_ fun h=>zVI rfl h)
  | (refine thG 18 ?_;refine gd1 ?_ fun h=>zJW (zc5 rfl h))
  | (refine thG 19 ?_;refine gd1 ?_ fun h=>zhn rfl rfl h)
  | (refine thG 20 ?_;refine gd1 ?_ fun h=>zPY (T:=tab) rfl rfl rfl rfl rfl rfl rfl h)
  | (refine thG 23 ?_;refine gd1 ?_ fun h=>zc1 rfl h)
  | (refine thG 24 ?_;refine gd1 ?_ fun h=>zJW (zc1 rfl h))
  | (refine thG 25 ?_;refine gd1 ?_ fun h=>zc5 rfl h)
  | (refine thG 26 ?_;refine thsp rfl ?_ ?_)
  | (refine thG 27 ?_;refine thsq rfl ?_ ?_)
  | (refine thG 50 ?_;refine thvs rfl rfl rfl rfl (fun _ _ _ _ _=>zVD (T:=tab) rfl rfl rfl rfl rfl rfl rfl rfl rfl rfl rfl rfl (pyq rfl)) rfl rfl ?_)
  | (refine thG 51 ?_;refine thvs rfl rfl rfl rfl (fun _ _ _ _ _=>zPY (T:=tab) rfl rfl rfl rfl rfl rfl rfl (pyq rfl)) rfl rfl ?_)
  | (refine thG 52 ?_;refine thsel rfl rfl rfl rfl rfl ?_)
  | (refine thG 53 ?_;refine thdv rfl (by kernel_rfl) (by kernel_rfl) rfl rfl ?_)
  | (refine thO 200 ?_;refine thvq rfl (by kernel_rfl) ?_)
  | (refine thO 100 ?_;refine thpq rfl ?_)
  | (refine thG 30 ?_;refine thbox rfl rfl rfl rfl rfl rfl rfl rfl rfl rfl ?_)
  | (refine thG 31 ?_;refine ziP rfl rfl rfl rfl rfl rfl rfl rfl rfl ?_)
  | (refine thG 33 ?_;refine thfr rfl rfl rfl ?_)
  | (refine thG 34 ?_;refine thwf rfl rfl rfl ?_)
  | (refine thG 38 ?_;refine gd1 ?_ fun h=>zLd (T:=tab) _ _ rfl rfl rfl rfl rfl rfl rfl rfl h)
  | (refine thG 39 ?_;refine gd1 ?_ fun h=>zTu (T:=tab) _ _ rfl rfl rfl rfl rfl rfl rfl rfl rfl h)
  | (refine thG 56 ?_;refine thon rfl rfl rfl rfl ?_)
  | (refine thG 35 ?_;refine gd1 ?_ fun h=>zTt (T:=tab) _ _ rfl rfl rfl rfl rfl rfl rfl rfl h)
  | (refine thG 36 ?_;refine gd1 ?_ fun h=>zA7 (T:=tab) _ _ rfl rfl rfl rfl rfl rfl rfl h)
  | (refine thG 57 ?_;refine gdX [1,0] ?_)
  | (refine thG 58 ?_;refine gdX [9,57] ?_)
  | (refine thG 59 ?_;refine gdX [58,8] ?_)
  | (refine thG 60 ?_;refine gdX [53,11,0,1,3,7,0,16,48,112,15,511,1023,208] ?_)
  | (refine thG 61 ?_;refine gdX [9,2] ?_)
  | (refine thG 62 ?_;refine gdX [61,0] ?_)
  | (refine thG 63 ?_;refine gdX [11,46] ?_)
  | (refine thG 64 ?_;refine gdX [52,7,3,2,3,5,6,8,9,10,5,3,2,53,44,0,1,0,7,15,31,0,64,0,448,960,1984,4095,8191,16383,32767,16383,131071,262143,524287,16383,1064959,16383,7356415,15745023,32522239,67108863,134217727,268435455,536870911,1073741823,536870911,2684354559,8589934591,17179869183,34359738367,68719476735,68719476735,206158430207,549755813887,68719476735,2199023255551,4398046511103,8796093022207] ?_)
  | (refine thG 65 ?_;refine gdX [11,18] ?_)
  | (refine thG 66 ?_;refine gdX [50,4,1,12,13,50,4202203,13,202] ?_)
  | (refine thG 67 ?_;refine gdX [4,7] ?_)
  | (refine thG 68 ?_;refine gdX [67,6] ?_)
  | (refine thG 69 ?_;refine gdX [15,7] ?_)
  | (refine thG 70 ?_;refine gdX [69,14] ?_)
  | (refine thG 71 ?_;refine gdX [52,8,3,1,3,4,15,16,17,5,6,1,400150,3,53,12,0,1,3,7,3,31,3,67,195,511,1023,2047] ?_)
  | (refine thG 72 ?_;refine gdX [68,13] ?_)
  | (refine thG 73 ?_;refine gdX [9,30,2] ?_)
  | (refine thG 74 ?_;refine gdX [0,8] ?_)
  | (refine thG 75 ?_;refine gdX [58,6] ?_)
  | (refine thG 76 ?_;refine gdX [9,104] ?_)
  | (refine thG 77 ?_;refine gdX [35,57] ?_)
  | (refine thG 78 ?_;refine gdX [68,52,2,8,6,9,2101100,2101101,2101102,6,900000,900001,900002,900003] ?_)
  | (refine thG 79 ?_;refine gdX [19,7] ?_)
  | (refine thG 80 ?_;refine gdX [9,1] ?_)
  | (refine thG 81 ?_;refine gdX [52,3,6,1,3,6,6,3,900000,900001,900002,900003,53,6,0,0,2,7,15,31] ?_)
  | (refine thG 82 ?_;refine gdX [52,9,3,1,2,5,6,7,18,19,20,9,16,5,2,53,33,0,0,3,7,15,31,31,127,255,511,1023,2047,4095,8191,2047,32767,65535,131071,2047,524287,1048575,2097151,4194303,8388607,16777215,4194303,67108863,134217727,268435455,4194303,541065215,2147483647,4294967295] ?_)
  | (refine thG 83 ?_;refine gdX [65,59] ?_)
  | (refine thG 84 ?_;refine gdX [50,3,1,12,13,38,13,202] ?_)
  | (refine thG 85 ?_;refine gdX [52,7,3,3,4,34,35,36,7,8,1,400340,3,53,13,0,1,3,7,3,19,63,3,131,387,1023,2047,4095] ?_)
  | (refine thG 86 ?_;refine gdX [17,7] ?_)
  | (refine thG 87 ?_;refine gdX [68,52,2,7,6,9,2101100,2101101,2101102,6,900000,900001,900002] ?_)
  | (refine thG 88 ?_;refine gdX [52,3,3,0,3,4,4,3,900000,53,15,0,1,3,7,15,0,63,127,255,255,255,0,2559,7167,16383] ?_)
  | (refine thG 89 ?_;refine gdX [1,63] ?_)
  | (refine thG 90 ?_;refine gdX [79,56,2101102,192,9,7] ?_)
  | (refine thG 91 ?_;refine gdX [52,3,5,1,3,6,6,3,900000,900001,900002,53,6,0,0,2,7,15,31] ?_)
  | (refine thG 92 ?_;refine gdX [12,57] ?_)
  | (refine thG 93 ?_;refine gdX [9,3] ?_)
  | (refine thG 94 ?_;refine gdX [70,16] ?_)
  | (refine thG 95 ?_;refine gdX [52,3,2,1,2,5,5,2,53,30,0,0,2,7,15,31,63,127,31,287,1023,2047,4095,31,16383,32767,65535,131071,262143,524287,131071,1179647,4194303,8388607,16777215,131071,33685503,134217727,268435455,536870911] ?_)
  | (refine thG 96 ?_;refine gdX [53,22,0,1,3,7,15,0,0,64,192,448,960,0,4032,8128,16320,0,0,65536,262080,524287,1048575,2097151,212] ?_)
  | (refine thG 97 ?_;refine gdX [52,3,0,0,1,5,53,9,0,0,3,7,0,0,48,112,255] ?_)
  | (refine thG 98 ?_;refine gdX [53,11,0,1,0,7,15,0,32,0,224,480,1023,203] ?_)
  | (refine thG 99 ?_;refine gdX [61,41] ?_)):P:=(h ⟨c⟩ k).h
theorem U {α : Sort _} {a : α}:a=a:=rfl
abbrev Z (x:Int):PV:=.v (.int .i64 x)
abbrev Y (x:Bool):PV:=.v (.bool x)
abbrev O (x:List UInt8):PV:=.v (.string ⟨⟨x⟩⟩)
end Go.Proofs.YtmfbghpealgaiaaGreatDoor
