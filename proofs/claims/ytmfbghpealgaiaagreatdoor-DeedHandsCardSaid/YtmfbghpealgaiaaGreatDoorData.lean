/- Data of the program as values of Lean, and facts on its functions: printed by emit2.py. -/
import Derived.Test.YtmfbghpealgaiaaGreatDoorTab
import Derived.Test.YtmfbghpealgaiaaGreatDoorCo3
import Derived.Test.YtmfbghpealgaiaaGreatDoorKit
namespace Go.Proofs.YtmfbghpealgaiaaGreatDoor
open Go Go.Pw
set_option linter.unusedVariables false
open List renaming mem_map->lE
open Nat renaming blt->lB
variable {rest ops:List Oper} {o:Oper} {α:Type} {l ms ks N1 NR reads writes wr kp:List Nat} {E' E0:Env} {j n a d e size:Nat} {S' S1 Sc S2 S0:zAC} {ment0 ment:List (Nat×List Nat)} {V:Vw} {acc:List Summ} {f:FuncId} {c:Code} {x:Operand} {args:Array Operand} {tys:Array TypeId} {qs first cap qa cs cs':List PV} {elem:TypeId} {rows:List (List PV)} {rn:List (Nat×Nat)}
structure Attr where
 Name:Bs
 Value:Bs
deriving DecidableEq
structure Node where
 Kind:Int
 Name:Bs
 Is:Bs
 Data:Bs
 Attrs:(List Attr)
 Parent:Int
 Kids:(List Int)
 Host:Int
 Under:Int
 Doc:Int
deriving DecidableEq
structure Forest where
 Nodes:(List Node)
 Most:Int
deriving DecidableEq
structure State where
 Phase:Int
 Def:Int
 Owner:Int
 Barred:Bool
deriving DecidableEq
structure Def where
 Name:Bs
 Local:Bs
 Class:Int
deriving DecidableEq
structure Wait where
 Name:Bs
 Ticket:Int
deriving DecidableEq
structure Desk where
 Defs:(List Def)
 Waits:(List Wait)
 Next:Int
 Busy:Bool
deriving DecidableEq
structure Todo where
 Kind:Int
 Def:Int
 Name:Bs
 Had:Bool
 Has:Bool
 Old:Bs
 New:Bs
 From:Int
 To:Int
 On:Bool
deriving DecidableEq
structure Line where
 Todos:(List (List Todo))
 Stack:(List (List Int))
 Back:(List Int)
 Busy:Bool
deriving DecidableEq
structure Task where
 Kind:Int
 Ticket:Int
 Def:Int
deriving DecidableEq
structure Build where
 Def:Int
 Node:Int
deriving DecidableEq
structure Op where
 Kind:Int
 A:Int
 B:Int
 C:Int
 S:Bs
 T:Bs
 Must:Bool
deriving DecidableEq
structure Hook where
 Kind:Int
 Do:(List Op)
deriving DecidableEq
structure Class where
 Form:Bool
 Watch:(List Bs)
 Peek:(List Op)
 Make:(List Op)
 Hooks:(List Hook)
deriving DecidableEq
structure World where
 Forest:Forest
 States:(List State)
 Desk:Desk
 Line:Line
 Tasks:(List Task)
 Builds:(List Build)
 Classes:(List Class)
deriving DecidableEq
structure zAL where
 Forest:Forest
deriving DecidableEq
structure zAG where
 World:World
deriving DecidableEq
structure zCv where
 names:(List (Bs×Int))
 classes:(List (Int×Int))
deriving DecidableEq
structure zDD where
 word:Bs
 fields:Bs
deriving DecidableEq
structure zAR where
 World:World
 node:Int
deriving DecidableEq
structure Due where
 Node:Int
 Todo:Todo
deriving DecidableEq
structure Duty_hall where
 f:Forest
 states:(List State)
 desk:Desk
 classes:(List Class)
 due:(List Due)
deriving DecidableEq
structure zMD where
 Forest:Forest
 ids:(List (Int×(List (Bs×Int))))
deriving DecidableEq
structure Note where
 Kind:Int
 Node:Int
 From:Int
 To:Int
 Name:Bs
 Had:Bool
 Has:Bool
 Old:Bs
 New:Bs
deriving DecidableEq
structure zCZ where
 f:Forest
 notes:(List Note)
 e:Int
deriving DecidableEq
structure ze8 where
 Forest:Forest
 deep:Bool
deriving DecidableEq
structure zCt where
 n:Int
 doc:Int
 under:Int
deriving DecidableEq
structure zAf where
 Forest:Forest
 p:Int
 child:Int
 gone:Int
deriving DecidableEq
structure Move_code where
 Errno:Int
deriving DecidableEq
structure Move_hand where
 Forest:Forest
 notes:(List Note)
deriving DecidableEq
structure zDg where
 Forest:Forest
 states:(List State)
 desk:Desk
 classes:(List Class)
deriving DecidableEq
structure zZw where
 Lo:Int
 Hi:Int
 Stride:Int
deriving DecidableEq
structure zZx where
 Lo:Int
 Hi:Int
 Stride:Int
deriving DecidableEq
structure Move_step' where
 what:Bs
 err:Bool
deriving DecidableEq
def zAB (x:Int):List PV:=[.v (.int .i64 x)]
theorem zDF (l:List Int):∀r∈l.map zAB,r.all zGK=true:=by
 intro r hr
 obtain ⟨x,_,rfl⟩:=lE.1 hr
 rfl
def zQT (x:Bs):List PV:=[.v (.string ⟨⟨x⟩⟩)]
def zDY (x:Attr):List PV:=[.v (.string ⟨⟨x.Name⟩⟩),.v (.string ⟨⟨x.Value⟩⟩)]
theorem zRE (l:List Attr):∀r∈l.map zDY,r.all zGK=true:=by
 intro r hr
 obtain ⟨x,_,rfl⟩:=lE.1 hr
 rfl
def zAn (x:(List Int)):List PV:=[.sl 1 false (x.map zAB)]
theorem zNU (l:List (List Int)):∀r∈l.map zAn,r.all zGK=true:=by
 intro r hr
 obtain ⟨x,_,rfl⟩:=lE.1 hr
 rfl
def zAX (x:Node):List PV:=[.v (.int .i64 x.Kind),.v (.string ⟨⟨x.Name⟩⟩),.v (.string ⟨⟨x.Is⟩⟩),.v (.string ⟨⟨x.Data⟩⟩),.sl 2 false (x.Attrs.map zDY),.v (.int .i64 x.Parent),.sl 1 false (x.Kids.map zAB),.v (.int .i64 x.Host),.v (.int .i64 x.Under),.v (.int .i64 x.Doc)]
theorem zOQ (l:List Node):∀r∈l.map zAX,r.all zGK=true:=by
 intro r hr
 obtain ⟨x,_,rfl⟩:=lE.1 hr
 rfl
def zAD (x:Forest):List PV:=[.sl 10 false (x.Nodes.map zAX),.v (.int .i64 x.Most)]
def cBool (x:Bool):List PV:=[.v (.bool x)]
def zBN (x:State):List PV:=[.v (.int .i64 x.Phase),.v (.int .i64 x.Def),.v (.int .i64 x.Owner),.v (.bool x.Barred)]
theorem zSQ (l:List State):∀r∈l.map zBN,r.all zGK=true:=by
 intro r hr
 obtain ⟨x,_,rfl⟩:=lE.1 hr
 rfl
def zQC (x:Def):List PV:=[.v (.string ⟨⟨x.Name⟩⟩),.v (.string ⟨⟨x.Local⟩⟩),.v (.int .i64 x.Class)]
def zIw (x:Wait):List PV:=[.v (.string ⟨⟨x.Name⟩⟩),.v (.int .i64 x.Ticket)]
theorem zUt (l:List Wait):∀r∈l.map zIw,r.all zGK=true:=by
 intro r hr
 obtain ⟨x,_,rfl⟩:=lE.1 hr
 rfl
def zIP (x:Desk):List PV:=[.sl 3 false (x.Defs.map zQC),.sl 2 false (x.Waits.map zIw),.v (.int .i64 x.Next),.v (.bool x.Busy)]
def zKG (x:Todo):List PV:=[.v (.int .i64 x.Kind),.v (.int .i64 x.Def),.v (.string ⟨⟨x.Name⟩⟩),.v (.bool x.Had),.v (.bool x.Has),.v (.string ⟨⟨x.Old⟩⟩),.v (.string ⟨⟨x.New⟩⟩),.v (.int .i64 x.From),.v (.int .i64 x.To),.v (.bool x.On)]
theorem zUs (l:List Todo):∀r∈l.map zKG,r.all zGK=true:=by
 intro r hr
 obtain ⟨x,_,rfl⟩:=lE.1 hr
 rfl
def zDZ (x:(List Todo)):List PV:=[.sl 10 false (x.map zKG)]
theorem zRG (l:List (List Todo)):∀r∈l.map zDZ,r.all zGK=true:=by
 intro r hr
 obtain ⟨x,_,rfl⟩:=lE.1 hr
 rfl
def zO7 (x:Line):List PV:=[.sl 1 false (x.Todos.map zDZ),.sl 1 false (x.Stack.map zAn),.sl 1 false (x.Back.map zAB),.v (.bool x.Busy)]
def zIg (x:Task):List PV:=[.v (.int .i64 x.Kind),.v (.int .i64 x.Ticket),.v (.int .i64 x.Def)]
theorem zRH (l:List Task):∀r∈l.map zIg,r.all zGK=true:=by
 intro r hr
 obtain ⟨x,_,rfl⟩:=lE.1 hr
 rfl
def zIO (x:Build):List PV:=[.v (.int .i64 x.Def),.v (.int .i64 x.Node)]
def cOp (x:Op):List PV:=[.v (.int .i64 x.Kind),.v (.int .i64 x.A),.v (.int .i64 x.B),.v (.int .i64 x.C),.v (.string ⟨⟨x.S⟩⟩),.v (.string ⟨⟨x.T⟩⟩),.v (.bool x.Must)]
def zIf (x:Hook):List PV:=[.v (.int .i64 x.Kind),.sl 7 false (x.Do.map cOp)]
def zBb (x:Class):List PV:=[.v (.bool x.Form),.sl 1 false (x.Watch.map zQT),.sl 7 false (x.Peek.map cOp),.sl 7 false (x.Make.map cOp),.sl 2 false (x.Hooks.map zIf)]
theorem zYv (l:List Class):∀r∈l.map zBb,r.all zGK=true:=by
 intro r hr
 obtain ⟨x,_,rfl⟩:=lE.1 hr
 rfl
def zBO (x:World):List PV:=[.sl 10 false (x.Forest.Nodes.map zAX),.v (.int .i64 x.Forest.Most),.sl 4 false (x.States.map zBN),.sl 3 false (x.Desk.Defs.map zQC),.sl 2 false (x.Desk.Waits.map zIw),.v (.int .i64 x.Desk.Next),.v (.bool x.Desk.Busy),.sl 1 false (x.Line.Todos.map zDZ),.sl 1 false (x.Line.Stack.map zAn),.sl 1 false (x.Line.Back.map zAB),.v (.bool x.Line.Busy),.sl 3 false (x.Tasks.map zIg),.sl 2 false (x.Builds.map zIO),.sl 5 false (x.Classes.map zBb)]
def zRF (x:Int):List PV:=[.v (.int .u8 x)]
def zEW (x:zAL):List PV:=[.sl 10 false (x.Forest.Nodes.map zAX),.v (.int .i64 x.Forest.Most)]
def zEX (x:zAG):List PV:=[.sl 10 false (x.World.Forest.Nodes.map zAX),.v (.int .i64 x.World.Forest.Most),.sl 4 false (x.World.States.map zBN),.sl 3 false (x.World.Desk.Defs.map zQC),.sl 2 false (x.World.Desk.Waits.map zIw),.v (.int .i64 x.World.Desk.Next),.v (.bool x.World.Desk.Busy),.sl 1 false (x.World.Line.Todos.map zDZ),.sl 1 false (x.World.Line.Stack.map zAn),.sl 1 false (x.World.Line.Back.map zAB),.v (.bool x.World.Line.Busy),.sl 3 false (x.World.Tasks.map zIg),.sl 2 false (x.World.Builds.map zIO),.sl 5 false (x.World.Classes.map zBb)]
def zQS (x:zDD):List PV:=[.v (.string ⟨⟨x.word⟩⟩),.v (.string ⟨⟨x.fields⟩⟩)]
def zI3 (x:Due):List PV:=[.v (.int .i64 x.Node),.v (.int .i64 x.Todo.Kind),.v (.int .i64 x.Todo.Def),.v (.string ⟨⟨x.Todo.Name⟩⟩),.v (.bool x.Todo.Had),.v (.bool x.Todo.Has),.v (.string ⟨⟨x.Todo.Old⟩⟩),.v (.string ⟨⟨x.Todo.New⟩⟩),.v (.int .i64 x.Todo.From),.v (.int .i64 x.Todo.To),.v (.bool x.Todo.On)]
theorem zQR (l:List Due):∀r∈l.map zI3,r.all zGK=true:=by
 intro r hr
 obtain ⟨x,_,rfl⟩:=lE.1 hr
 rfl
def zBG (x:Note):List PV:=[.v (.int .i64 x.Kind),.v (.int .i64 x.Node),.v (.int .i64 x.From),.v (.int .i64 x.To),.v (.string ⟨⟨x.Name⟩⟩),.v (.bool x.Had),.v (.bool x.Has),.v (.string ⟨⟨x.Old⟩⟩),.v (.string ⟨⟨x.New⟩⟩)]
theorem zKg (l:List Note):∀r∈l.map zBG,r.all zGK=true:=by
 intro r hr
 obtain ⟨x,_,rfl⟩:=lE.1 hr
 rfl
def zMc (x:zCZ):List PV:=[.sl 10 false (x.f.Nodes.map zAX),.v (.int .i64 x.f.Most),.sl 9 false (x.notes.map zBG),.v (.int .i64 x.e)]
def zGJ (x:zCt):List PV:=[.v (.int .i64 x.n),.v (.int .i64 x.doc),.v (.int .i64 x.under)]
theorem zTX (l:List zCt):∀r∈l.map zGJ,r.all zGK=true:=by
 intro r hr
 obtain ⟨x,_,rfl⟩:=lE.1 hr
 rfl
def zIQ (x:zAf):List PV:=[.sl 10 false (x.Forest.Nodes.map zAX),.v (.int .i64 x.Forest.Most),.v (.int .i64 x.p),.v (.int .i64 x.child),.v (.int .i64 x.gone)]
def zLO (x:zDg):List PV:=[.sl 10 false (x.Forest.Nodes.map zAX),.v (.int .i64 x.Forest.Most),.sl 4 false (x.states.map zBN),.sl 3 false (x.desk.Defs.map zQC),.sl 2 false (x.desk.Waits.map zIw),.v (.int .i64 x.desk.Next),.v (.bool x.desk.Busy),.sl 5 false (x.classes.map zBb)]
def zB6 (x:zAR):List PV:=[.sl 10 false (x.World.Forest.Nodes.map zAX),.v (.int .i64 x.World.Forest.Most),.sl 4 false (x.World.States.map zBN),.sl 3 false (x.World.Desk.Defs.map zQC),.sl 2 false (x.World.Desk.Waits.map zIw),.v (.int .i64 x.World.Desk.Next),.v (.bool x.World.Desk.Busy),.sl 1 false (x.World.Line.Todos.map zDZ),.sl 1 false (x.World.Line.Stack.map zAn),.sl 1 false (x.World.Line.Back.map zAB),.v (.bool x.World.Line.Busy),.sl 3 false (x.World.Tasks.map zIg),.sl 2 false (x.World.Builds.map zIO),.sl 5 false (x.World.Classes.map zBb),.v (.int .i64 x.node)]
theorem mixed:Tryz.prog.follows .mixedOrders=true:=by kernel_rfl
def zaZ (x y:Attr):Bool:=(x.Name==y.Name)&&((x.Value==y.Value)&&true)
def zWa (x y:Build):Bool:=(x.Def==y.Def)&&((x.Node==y.Node)&&true)
def zfm (x y:Def):Bool:=(x.Name==y.Name)&&((x.Local==y.Local)&&((x.Class==y.Class)&&true))
def zfn (x y:Op):Bool:=(x.Kind==y.Kind)&&((x.A==y.A)&&((x.B==y.B)&&((x.C==y.C)&&((x.S==y.S)&&((x.T==y.T)&&((x.Must==y.Must)&&true))))))
def zRQ (x y:State):Bool:=(x.Phase==y.Phase)&&((x.Def==y.Def)&&((x.Owner==y.Owner)&&((x.Barred==y.Barred)&&true)))
def zaa (x y:Task):Bool:=(x.Kind==y.Kind)&&((x.Ticket==y.Ticket)&&((x.Def==y.Def)&&true))
def zab (x y:Todo):Bool:=(x.Kind==y.Kind)&&((x.Def==y.Def)&&((x.Name==y.Name)&&((x.Had==y.Had)&&((x.Has==y.Has)&&((x.Old==y.Old)&&((x.New==y.New)&&((x.From==y.From)&&((x.To==y.To)&&((x.On==y.On)&&true)))))))))
def zac (x y:Wait):Bool:=(x.Name==y.Name)&&((x.Ticket==y.Ticket)&&true)
theorem zee:zXq Tryz.prog 41=some [(0,3,.int .i64),(1,3,.int .i64),(2,3,.int .i64),(3,3,.int .i64),(4,9,.string),(5,9,.string),(6,4,.bool)]:=by kernel_rfl
theorem zef:zXq Tryz.prog 53=some [(0,3,.int .i64),(1,3,.int .i64),(2,3,.int .i64),(3,4,.bool)]:=by kernel_rfl
theorem eqf_80:zXq Tryz.prog 80=some [(0,3,.int .i64),(1,3,.int .i64),(2,9,.string),(3,4,.bool),(4,4,.bool),(5,9,.string),(6,9,.string),(7,3,.int .i64),(8,3,.int .i64),(9,4,.bool)]:=by kernel_rfl
theorem eqf_88:zXq Tryz.prog 88=some [(0,9,.string),(1,9,.string),(2,3,.int .i64)]:=by kernel_rfl
theorem zfo:zXq Tryz.prog 102=some [(0,3,.int .i64),(1,3,.int .i64),(2,3,.int .i64)]:=by kernel_rfl
theorem zfp:zXq Tryz.prog 104=some [(0,3,.int .i64),(1,3,.int .i64)]:=by kernel_rfl
theorem zfq:zXq Tryz.prog 150=some [(0,9,.string),(1,3,.int .i64)]:=by kernel_rfl
theorem zfr:zXq Tryz.prog 198=some [(0,9,.string),(1,9,.string)]:=by kernel_rfl
theorem call8:zAi Tryz.prog 8=true:=by kernel_rfl
theorem call10:zAi Tryz.prog 10=true:=by kernel_rfl
theorem zeb:zAi Tryz.prog 22=true:=by kernel_rfl
theorem call66:zAi Tryz.prog 66=true:=by kernel_rfl
theorem call67:zAi Tryz.prog 67=true:=by kernel_rfl
theorem call95:zAi Tryz.prog 95=true:=by kernel_rfl
theorem zfL:zAi Tryz.prog 107=true:=by kernel_rfl
theorem zfM:zAi Tryz.prog 151=true:=by kernel_rfl
theorem zWR:zAi Tryz.prog 161=true:=by kernel_rfl
theorem zfN:zAi Tryz.prog 164=true:=by kernel_rfl
theorem zfO:zAi Tryz.prog 170=true:=by kernel_rfl
theorem zfP:zAi Tryz.prog 176=true:=by kernel_rfl
theorem zfQ:zAi Tryz.prog 194=true:=by kernel_rfl
theorem zfR:zAi Tryz.prog 200=true:=by kernel_rfl
theorem zfS:zAi Tryz.prog 201=true:=by kernel_rfl
theorem zfT:zAi Tryz.prog 202=true:=by kernel_rfl
theorem zWS:zAi Tryz.prog 229=true:=by kernel_rfl
theorem zfU:zAi Tryz.prog 238=true:=by kernel_rfl
theorem zfV:zAi Tryz.prog 251=true:=by kernel_rfl
theorem zWT:zAi Tryz.prog 274=true:=by kernel_rfl
variable {ρ : Type} {fn:Func} {w0:Go.World} {X X0:Nat->Prop} {σ0:Nat->Value} {N0:List Nat} {post : ρ -> PV->zAC->Prop} {dz:Nat} {L:Go.World->Prop} {hl:Lay L (fun b=>¬X0 b) w0} {ro:Option Nat} {m:Option ρ} {K:List (Kont ρ)} {E:Env} {S:zAC} {all:Array Oper}
theorem fcI {fn:Func} {args:List PV} {S:zAC} {N0:List Nat} {post : ρ -> PV->zAC->Prop} {m:Option ρ} (i:Tryz.prog.funcs[f]? = some fn) (g:fn.body=some c) (h:∀{w0 X X0 σ0 hl},PW ⟨Tryz.prog,fn,w0,X,X0,σ0,N0,post,w0.heap.size+1,L,hl,none⟩ m c [] (zfB 0 args) S) (k:Nat.ble args.length fn.ntmps=true:=by exact rfl):∀r,m=some r->FC L Tryz.prog f args S N0 (post r):=fun _ hr=>zTe i g k hr fun _ _ _ _ _=>h
theorem pq (k:Nat) {ops rest:List Oper} {E':Env} (h:zag tab fn.ntmps all S k ops E=some (rest,E')) (g:PO (⟨Tryz.prog,fn,w0,X,X0,σ0,N0,post,dz,L,hl,ro⟩:Ctx ρ) m all rest K E' S):PO (⟨Tryz.prog,fn,w0,X,X0,σ0,N0,post,dz,L,hl,ro⟩:Ctx ρ) m all ops K E S:=zHK (T:=tab) k rfl h g
theorem ps {G:Ctx ρ} (h:PN G m K E' S') (g:zOE E' E:=by repeat' first | exact trivial | refine ⟨rfl,?_⟩) (i:zF8 S' S:=by repeat' first | exact trivial | refine ⟨rfl,?_⟩) (k:zAy (S'.map (·.1))=true:=by exact rfl):PN G m K E S:=zgJ h g i k
theorem lq {G:Ctx ρ} (M:Nat -> α -> Option ρ) (g : α -> Env) (Sf : α -> zAC) (n:Nat) (x : α) {body:Code} (p:∀n x,PW G (M (n+1) x) body (.iter (zXW G (M n) g Sf)::K) (g x) (Sf x)) (h:∀x,M 0 x=none:=by exact fun _=>rfl) (i:zOE (g x) E:=by repeat' first | exact trivial | refine ⟨rfl,?_⟩) (k:zF8 (Sf x) S:=by repeat' first | exact trivial | refine ⟨rfl,?_⟩) (q:zAy ((Sf x).map (·.1))=true:=by exact rfl):PW G (M n x) (.loop body) K E S:=zYP M g Sf n x h i k q p
theorem tu {M:Option α} {enc : α -> PV} {Sr : α -> zAC} {g : α -> Option ρ} (ks:List Nat) {E':Env} {s:Option Nat}
  (D:∀y,M=some y->FC L Tryz.prog f qs Sc N1 fun r S'=>r=enc y/\S'=Sr y) (G:zAi Tryz.prog f=true) (hdr:zPD (Sc.map (·.1)) S=some S1) (p:zJS ks S1=some S2) (i:zHT ks E=some E') (I:o.op=.call ⟨.value x,args,tys⟩) (hx:ev E x=some (.fn (.func f) [] [])) (H:gE all E o=some true) (F:o.dst=s) (q:dstB s fn.ntmps=true)
  (k:∀y,M=some y->PO (⟨Tryz.prog,fn,w0,X,X0,σ0,N0,post,dz,L,hl,ro⟩:Ctx ρ) (g y) all rest K (putE s (enc y) E') (Sr y++S2)) (C:zF8 Sc S:=by repeat' first | exact trivial | refine ⟨rfl,?_⟩) (h:∀y,(Sr y).map (·.1)=NR:=by exact fun _=>rfl) (t:zAy (Sc.map (·.1))=true:=by exact rfl) (u:zAy (NR++S2.map (·.1))=true:=by exact rfl) (v:zN0 NR (N1++ks)=true:=by exact rfl) (w:ks.all (zEY (⟨Tryz.prog,fn,w0,X,X0,σ0,N0,post,dz,L,hl,ro⟩:Ctx ρ))=true:=by exact rfl) (z:∀y,zDP (N1++ks) (Sr y)=true:=by exact fun _=>rfl) (B:∀y,zEA (N1++ks) [enc y]=true:=by exact fun _=>rfl)
  (ha:zLx E args.toList qs:=by repeat' first | exact trivial | refine ⟨⟨_,rfl,.rfl⟩,?_⟩):PO (⟨Tryz.prog,fn,w0,X,X0,σ0,N0,post,dz,L,hl,ro⟩:Ctx ρ) (bnd M g) all (o::rest) K E S :=
 zUA (first:=[]) (cap:=[]) ks (by simpa using D) C h hdr p i t u v w z B I hx H ha G F q k
theorem rN {r : ρ} {q:List ResultVar} {ps:List PV} {p:PV} (i:fn.results.toList=q:=by exact rfl) (h:zgc tab E S q=some ps:=by exact rfl) (k:oneP ps=p:=by exact rfl) (g:post r p S':=by exact ⟨rfl,rfl⟩) (t:zF8 S' S:=by repeat' first | exact trivial | refine ⟨rfl,?_⟩) (u:zAy (S'.map (·.1))=true:=by exact rfl) (hz:dz=w0.heap.size+1:=by exact rfl) (s:noL K=true:=by exact rfl):PW (⟨Tryz.prog,fn,w0,X,X0,σ0,N0,post,dz,L,hl,ro⟩:Ctx ρ) (some r) .ret K E S:=zgU (T:=tab) i h k g t u hz s
theorem ns {G:Ctx ρ} (h:PW G m c K E S):PO G m all [] (.seq c::K) E S:=zF6 (zIp h)
theorem sr {G:Ctx ρ} {i:Nat} {y:Code} (h:PO G m ops.toArray ops (.seq y::K) E S) (g:ops.all (fun o=>zGB o.op)=true:=by exact rfl):PW G m (.seq (.region i ops.toArray false) y) K E S:=zSv (zFQ h g)
abbrev nB (x:Node×Bool):List PV×Bool:=(zAX x.1,x.2)
abbrev DD {α : Type} (m:Option α) (f:FuncId) (args:List PV) (e : α -> PV):Prop:=∀r,m=some r->DC zRc Tryz.prog f args (e r)
abbrev FF {α : Type} (m:Option α) (f:FuncId) (args:List PV) (S:zAC) (N:List Nat) (e : α -> PV) (s : α -> zAC):Prop:=∀r,m=some r->FC zRc Tryz.prog f args S N fun p S'=>p=e r/\S'=s r
theorem lw {G:Ctx ρ} (M:Nat -> α -> Option ρ) (p ks:List Nat) (h : α -> Env) (g : α -> zAC) (n:Nat) (x : α) {body:Code} {E0:Env} {S0:zAC} (i:zcf p E=some E0) (k:zXG ks S=some S0)
  (t:∀n x,PW G (M (n+1) x) body (.iter (zXW G (M n) (fun x=>h x++E0) (fun x=>g x++S0))::K) (h x++E0) (g x++S0)) (q:∀x,M 0 x=none:=by exact fun _=>rfl) (r:zOE (h x) E:=by repeat' first | exact trivial | refine ⟨rfl,?_⟩) (s:zF8 (g x) S:=by repeat' first | exact trivial | refine ⟨rfl,?_⟩) (u:zAy ((g x++S0).map (·.1))=true:=by exact rfl):PW G (M n x) (.loop body) K E S:=zdu M p ks h g n x i k t q r s u
theorem jw {G:Ctx ρ} (J : α -> Option ρ) (i ks:List Nat) (g : α -> Env) (h : α -> zAC) {E0:Env} {S0:zAC} (k:zcf i E=some E0) (p:zXG ks S=some S0) (q:∀x,PN G (J x) K (g x++E0) (h x++S0)) (body:(∀x,PN G (J x) K (g x++E0) (h x++S0))->PW G m c K E S):PW G m c K E S:=zdt J i ks g h k p q body
theorem pk {M:Option α} {enc : α -> PV} {g : α -> Option ρ} (i:∀y,M=some y->DC L Tryz.prog f qs (enc y)) (t:o.op=.call ⟨.value (.func f),args,tys⟩) (p:o.dst=some d)
  (k:∀y,M=some y->PO (⟨Tryz.prog,fn,w0,X,X0,σ0,N0,post,dz,L,hl,ro⟩:Ctx ρ) (g y) all rest K ((d,enc y)::E) S) (s:gE all E o=some true:=by exact rfl) (h:lB d fn.ntmps=true:=by exact rfl) (ha:zLx E args.toList qs:=by repeat' first | exact trivial | refine ⟨⟨_,rfl,.rfl⟩,?_⟩) (q:∀y,noN (enc y)=true:=by exact fun _=>rfl) (r:zAi Tryz.prog f=true:=by kernel_rfl):PO (⟨Tryz.prog,fn,w0,X,X0,σ0,N0,post,dz,L,hl,ro⟩:Ctx ρ) (bnd M g) all (o::rest) K E S:=zKN i t s ha q r p h k
theorem tq {M:Option α} {enc : α -> PV} {Sr : α -> zAC} {g : α -> Option ρ} (rn:List (Nat×Nat)) (ks:List Nat) {E':Env} {s:Option Nat}
  (D:∀y,M=some y->FC L Tryz.prog f qs Sc N1 fun r S'=>r=enc y/\S'=Sr y) (F:o.dst=s) (I:o.op=.call ⟨.value x,args,tys⟩) (hx:ev E x=some (.fn (.func f) first cap)) (C:zXG ((zJZ rn Sc).map (·.1)) S=some (zJZ rn Sc)) (hm:midL first.length cap.length (zNZ rn qs)=some qa)
  (hdr:zPD ((zJZ rn Sc).map (·.1)) S=some S1) (p:zJS ks S1=some S2) (i:zHT ks E=some E')
  (k:∀y,M=some y->PO (⟨Tryz.prog,fn,w0,X,X0,σ0,N0,post,dz,L,hl,ro⟩:Ctx ρ) (g y) all rest K (putE s (Pw.ren rn (enc y)) E') (zJZ rn (Sr y)++S2))
  (h:∀y,zf5 (zJZ rn (Sr y))=some NR:=by exact fun _=>rfl) (H:gE all E o=some true:=by exact rfl) (ha:zLx E args.toList qa:=by repeat' first | exact trivial | refine ⟨⟨_,rfl,.rfl⟩,?_⟩) (J:zNZ rn qs=first++qa++cap:=by exact rfl)
  (N:zAy ((rn.map (·.1)).map (rho rn))=true:=by exact rfl) (P:zN0 (Sc.map (·.1)) (rn.map (·.1))=true:=by exact rfl) (Q:∀y,zN0 ((Sr y).map (·.1)) (rn.map (·.1))=true:=by exact fun _=>rfl) (T:zN0 N1 (rn.map (·.1))=true:=by exact rfl) (W:∀y,zDP (rn.map (·.1)) (Sr y)=true:=by exact fun _=>rfl) (u5:∀y,zEA (rn.map (·.1)) [enc y]=true:=by exact fun _=>rfl)
  (t:zAy ((zJZ rn Sc).map (·.1))=true:=by exact rfl) (u:zAy (NR++S2.map (·.1))=true:=by exact rfl) (v:zN0 NR (N1.map (rho rn)++ks)=true:=by exact rfl) (w:ks.all (zEY (⟨Tryz.prog,fn,w0,X,X0,σ0,N0,post,dz,L,hl,ro⟩:Ctx ρ))=true:=by exact rfl) (z:∀y,zDP (N1.map (rho rn)++ks) (zJZ rn (Sr y))=true:=by exact fun _=>rfl) (B:∀y,zEA (N1.map (rho rn)++ks) [Pw.ren rn (enc y)]=true:=by exact fun _=>rfl)
  (G:zAi Tryz.prog f=true:=by kernel_rfl) (q:dstB s fn.ntmps=true:=by exact rfl):PO (⟨Tryz.prog,fn,w0,X,X0,σ0,N0,post,dz,L,hl,ro⟩:Ctx ρ) (bnd M g) all (o::rest) K E S :=
 zYL (first:=first) (cap:=cap) (qs:=qa) rn ks D F I hx C hdr p i k J H ha h N P Q T W u5 t u v w z B G q
theorem vq (k:Nat) {ms:List Nat} {ment0:List (Nat×List Nat)} {ops rest:List Oper} {j i:Nat} {acc g:List Summ} {V V':Vw} (h:zRz tab fn.ntmps all k ops j acc V=some (rest,i,g,V')) (p:zcD (⟨Tryz.prog,fn,w0,X,X0,σ0,N0,post,dz,L,hl,ro⟩:Ctx ρ) tab all ms ment0 k ops j acc V=true) (q:PDV (⟨Tryz.prog,fn,w0,X,X0,σ0,N0,post,dz,L,hl,ro⟩:Ctx ρ) m all ms ment0 rest i g V' K):PDV (⟨Tryz.prog,fn,w0,X,X0,σ0,N0,post,dz,L,hl,ro⟩:Ctx ρ) m all ms ment0 ops j acc V K:=zbX (T:=tab) k h p q
theorem vT {M:Option α} {g : α -> Option ρ} (reads writes ks:List Nat) {E0:Env} {S0:zAC} {p : α -> Env} {Sf : α -> zAC} {W : α -> Vw} {ment:List (Nat×List Nat)}
  (q:zLW V reads=some E0) (r:zLw V reads=some S0)
  (h:∀{w0 X X0 σ0 hl},PO (⟨Tryz.prog,fn,w0,X,X0,σ0,exK ks (zNT E0++nsB S0),fun _ _ _=>True,dz,L,hl,ro⟩:Ctx α) (bnd M some) all [o] [.iter fun y a w=>Pre (⟨Tryz.prog,fn,w0,X,X0,σ0,exK ks (zNT E0++nsB S0),fun _ _ _=>True,dz,L,hl,ro⟩:Ctx α) (zK1 writes (p y)) (zIT (zKs writes++zBg writes S0) (Sf y)) a w] E0 S0)
  (u:∀y,wOf (zK1 writes (p y)) (zIT (zKs writes++zBg writes S0) (Sf y)) writes=some (W y)) (z:∀y,zKm (W y)=some ment)
  (k:∀y,M=some y->PDV (⟨Tryz.prog,fn,w0,X,X0,σ0,N0,post,dz,L,hl,ro⟩:Ctx ρ) (g y) all ms ment0 rest (j+1) (⟨reads,writes,ks,ment⟩::acc) (W y++V) K)
  (t:zHp (ms.getD j 0) ment0 j ⟨reads,writes,ks,ment⟩ acc=true:=by kernel_rfl) (v:zHM (⟨Tryz.prog,fn,w0,X,X0,σ0,N0,post,dz,L,hl,ro⟩:Ctx ρ) ks writes (zBg writes S0) S0 o=true:=by kernel_rfl) (s:∀y,zF5 (exK ks (zNT E0++nsB S0)) ks writes (zBg writes S0) (zK1 writes (p y)) (zIT (zKs writes++zBg writes S0) (Sf y))=true:=by exact fun _=>by kernel_rfl)
  (i:∀y,zJs (zBg writes S0) (zIT (zKs writes++zBg writes S0) (Sf y)) S0:=by intro y;repeat' first | exact trivial | refine ⟨rfl,?_⟩):PDV (⟨Tryz.prog,fn,w0,X,X0,σ0,N0,post,dz,L,hl,ro⟩:Ctx ρ) (bnd M g) all ms ment0 (o::rest) j acc V K :=
 zRp reads writes ks q r (fun _ _ _ _ _=>h) u z k t v s i
theorem vS (reads writes ks:List Nat) {E0:Env} {S0:zAC} {E1:Env} {S1:zAC} {W:Vw} {ment:List (Nat×List Nat)}
  (i:zLW V reads=some E0) (p:zLw V reads=some S0)
  (h:∀{w0 X X0 σ0 hl},PO (⟨Tryz.prog,fn,w0,X,X0,σ0,exK ks (zNT E0++nsB S0),fun _ _ _=>True,dz,L,hl,ro⟩:Ctx Unit) (some ()) all [o] [.iter fun _ a w=>Pre (⟨Tryz.prog,fn,w0,X,X0,σ0,exK ks (zNT E0++nsB S0),fun _ _ _=>True,dz,L,hl,ro⟩:Ctx Unit) (zK1 writes E1) (zIT (zKs writes++zBg writes S0) S1) a w] E0 S0)
  (s:wOf (zK1 writes E1) (zIT (zKs writes++zBg writes S0) S1) writes=some W) (u:zKm W=some ment)
  (k:PDV (⟨Tryz.prog,fn,w0,X,X0,σ0,N0,post,dz,L,hl,ro⟩:Ctx ρ) m all ms ment0 rest (j+1) (⟨reads,writes,ks,ment⟩::acc) (W++V) K)
  (r:zHp (ms.getD j 0) ment0 j ⟨reads,writes,ks,ment⟩ acc=true:=by kernel_rfl) (t:zHM (⟨Tryz.prog,fn,w0,X,X0,σ0,N0,post,dz,L,hl,ro⟩:Ctx ρ) ks writes (zBg writes S0) S0 o=true:=by kernel_rfl) (q:zF5 (exK ks (zNT E0++nsB S0)) ks writes (zBg writes S0) (zK1 writes E1) (zIT (zKs writes++zBg writes S0) S1)=true:=by kernel_rfl)
  (g:zJs (zBg writes S0) (zIT (zKs writes++zBg writes S0) S1) S0:=by repeat' first | exact trivial | refine ⟨rfl,?_⟩):PDV (⟨Tryz.prog,fn,w0,X,X0,σ0,N0,post,dz,L,hl,ro⟩:Ctx ρ) m all ms ment0 (o::rest) j acc V K :=
 zSr reads writes ks i p (fun _ _ _ _ _=>h) s u k r t q g
theorem vU {M:Option Unit} {g:Unit->Option ρ} (reads writes ks:List Nat) {E0:Env} {S0:zAC} {E1:Env} {S1:zAC} {W:Vw} {ment:List (Nat×List Nat)}
  (p:zLW V reads=some E0) (q:zLw V reads=some S0)
  (h:∀{w0 X X0 σ0 hl},PO (⟨Tryz.prog,fn,w0,X,X0,σ0,exK ks (zNT E0++nsB S0),fun _ _ _=>True,dz,L,hl,ro⟩:Ctx Unit) (bnd M some) all [o] [.iter fun _ a w=>Pre (⟨Tryz.prog,fn,w0,X,X0,σ0,exK ks (zNT E0++nsB S0),fun _ _ _=>True,dz,L,hl,ro⟩:Ctx Unit) (zK1 writes E1) (zIT (zKs writes++zBg writes S0) S1) a w] E0 S0)
  (t:wOf (zK1 writes E1) (zIT (zKs writes++zBg writes S0) S1) writes=some W) (v:zKm W=some ment)
  (k:∀y,M=some y->PDV (⟨Tryz.prog,fn,w0,X,X0,σ0,N0,post,dz,L,hl,ro⟩:Ctx ρ) (g y) all ms ment0 rest (j+1) (⟨reads,writes,ks,ment⟩::acc) (W++V) K)
  (s:zHp (ms.getD j 0) ment0 j ⟨reads,writes,ks,ment⟩ acc=true:=by kernel_rfl) (u:zHM (⟨Tryz.prog,fn,w0,X,X0,σ0,N0,post,dz,L,hl,ro⟩:Ctx ρ) ks writes (zBg writes S0) S0 o=true:=by kernel_rfl) (r:zF5 (exK ks (zNT E0++nsB S0)) ks writes (zBg writes S0) (zK1 writes E1) (zIT (zKs writes++zBg writes S0) S1)=true:=by kernel_rfl)
  (i:zJs (zBg writes S0) (zIT (zKs writes++zBg writes S0) S1) S0:=by repeat' first | exact trivial | refine ⟨rfl,?_⟩):PDV (⟨Tryz.prog,fn,w0,X,X0,σ0,N0,post,dz,L,hl,ro⟩:Ctx ρ) (bnd M g) all ms ment0 (o::rest) j acc V K :=
 zbZ reads writes ks p q (fun _ _ _ _ _=>h) t v k s u r i
theorem pzq {H:Ctx α} {y : α} {g : α -> Env} {Sf : α -> zAC} (h:zAy ((zIT kp (Sf y)).map (·.1))=true):PO H (some y) all [] [.iter fun y a w=>Pre H (zK1 wr (g y)) (zIT kp (Sf y)) a w] (g y) (Sf y):=zgL h
theorem pyq {H:Ctx Unit} {E1:Env} (g:zAy ((zIT kp S1).map (·.1))=true):PO H (some ()) all [] [.iter fun _ a w=>Pre H (zK1 wr E1) (zIT kp S1) a w] E1 S1:=zdk g
theorem thpq {k:Nat} (h:zag tab fn.ntmps all S k ops E=some (rest,E')) (g:Th l (PO (⟨Tryz.prog,fn,w0,X,X0,σ0,N0,post,dz,L,hl,ro⟩:Ctx ρ) m all rest K E' S)):Gd k l (PO (⟨Tryz.prog,fn,w0,X,X0,σ0,N0,post,dz,L,hl,ro⟩:Ctx ρ) m all ops K E S):=⟨pq k h g.h⟩
theorem thvq {k:Nat} {i:Nat} {g:List Summ} {V':Vw} (h:zRz tab fn.ntmps all k ops j acc V=some (rest,i,g,V')) (p:zcD (⟨Tryz.prog,fn,w0,X,X0,σ0,N0,post,dz,L,hl,ro⟩:Ctx ρ) tab all ms ment0 k ops j acc V=true) (q:Th l (PDV (⟨Tryz.prog,fn,w0,X,X0,σ0,N0,post,dz,L,hl,ro⟩:Ctx ρ) m all ms ment0 rest i g V' K)):Gd k l (PDV (⟨Tryz.prog,fn,w0,X,X0,σ0,N0,post,dz,L,hl,ro⟩:Ctx ρ) m all ms ment0 ops j acc V K):=⟨vq k h p q.h⟩
theorem thbox {p:PV} (w:o.op=.box elem x) (u:gE all E o=some true) (hx:ev E x=some p)
  (g:zOS p=some cs) (t:o.dst=some d) (i:lB d fn.ntmps=true) (v:zEY (⟨Tryz.prog,fn,w0,X,X0,σ0,N0,post,dz,L,hl,ro⟩:Ctx ρ) n=true) (q:zFc n E=some E') (r:zEq n S=some S') (s:zKo n cs=some cs')
  (k:Th l (PO (⟨Tryz.prog,fn,w0,X,X0,σ0,N0,post,dz,L,hl,ro⟩:Ctx ρ) m all rest K ((d,.loc n 0)::E') ((n,.box elem cs')::S'))):Gd 30 (n::l) (PO (⟨Tryz.prog,fn,w0,X,X0,σ0,N0,post,dz,L,hl,ro⟩:Ctx ρ) m all (o::rest) K E S):=⟨zRt n w u hx g t i v q r s k.h⟩
theorem zgs (v:o.op=.alloc elem) (t:gE all E o=some true)
  (g:zV7 tab elem=some cs) (s:o.dst=some d) (i:lB d fn.ntmps=true) (u:zEY (⟨Tryz.prog,fn,w0,X,X0,σ0,N0,post,dz,L,hl,ro⟩:Ctx ρ) n=true) (p:zFc n E=some E') (q:zEq n S=some S') (r:zKo n cs=some cs')
  (k:Th l (PO (⟨Tryz.prog,fn,w0,X,X0,σ0,N0,post,dz,L,hl,ro⟩:Ctx ρ) m all rest K ((d,.loc n 0)::E') ((n,.box elem cs')::S'))):Gd 31 (n::l) (PO (⟨Tryz.prog,fn,w0,X,X0,σ0,N0,post,dz,L,hl,ro⟩:Ctx ρ) m all (o::rest) K E S):=⟨zF4 (T:=tab) n v t g s i u p q r k.h⟩
theorem thfr (p:lkS S n=some (.arr e size rows)) (g:zXx n (.sl size false rows) E=some E') (i:zVD n (.sl size false rows) S=some S') (k:Th l (PO (⟨Tryz.prog,fn,w0,X,X0,σ0,N0,post,dz,L,hl,ro⟩:Ctx ρ) m all ops K E' S')):Gd 33 (n::l) (PO (⟨Tryz.prog,fn,w0,X,X0,σ0,N0,post,dz,L,hl,ro⟩:Ctx ρ) m all ops K E S):=⟨zGN n p g i k.h⟩
theorem thwf (p:lkS S n=some (.arr e size rows)) (g:zXx n (.sl size false rows) E=some E') (i:zVD n (.sl size false rows) S=some S') (k:Th l (PW (⟨Tryz.prog,fn,w0,X,X0,σ0,N0,post,dz,L,hl,ro⟩:Ctx ρ) m c K E' S')):Gd 34 (n::l) (PW (⟨Tryz.prog,fn,w0,X,X0,σ0,N0,post,dz,L,hl,ro⟩:Ctx ρ) m c K E S):=⟨zbm n p g i k.h⟩
theorem thsp {b:Bool} {i k:Option ρ} (g:lk E j=some (.v (.bool b))) (p:Th (l.take n) (PO (⟨Tryz.prog,fn,w0,X,X0,σ0,N0,post,dz,L,hl,ro⟩:Ctx ρ) i all ops K ((j,.v (.bool true))::E) S)) (q:Th (l.drop n) (PO (⟨Tryz.prog,fn,w0,X,X0,σ0,N0,post,dz,L,hl,ro⟩:Ctx ρ) k all ops K ((j,.v (.bool false))::E) S)):Gd 26 (j::n::l) (PO (⟨Tryz.prog,fn,w0,X,X0,σ0,N0,post,dz,L,hl,ro⟩:Ctx ρ) (cnd b i k) all ops K E S):=⟨zAT g p.h q.h⟩
theorem thsq {b:Bool} {i k:Option ρ} (g:lk E j=some (.v (.bool b))) (q:Th (l.take n) (PO (⟨Tryz.prog,fn,w0,X,X0,σ0,N0,post,dz,L,hl,ro⟩:Ctx ρ) k all ops K ((j,.v (.bool false))::E) S)) (p:Th (l.drop n) (PO (⟨Tryz.prog,fn,w0,X,X0,σ0,N0,post,dz,L,hl,ro⟩:Ctx ρ) i all ops K ((j,.v (.bool true))::E) S)):Gd 27 (j::n::l) (PO (⟨Tryz.prog,fn,w0,X,X0,σ0,N0,post,dz,L,hl,ro⟩:Ctx ρ) (cnd b i k) all ops K E S):=⟨zAT g p.h q.h⟩
theorem piG {G:Ctx ρ} {M : α -> Option ρ} {g : α -> Env} {Sf : α -> zAC} {x : α} (_:Tx x) (h:zOE (g x) E:=by repeat' first | exact trivial | refine ⟨rfl,?_⟩) (i:zF8 (Sf x) S:=by repeat' first | exact trivial | refine ⟨rfl,?_⟩) (k:zAy ((Sf x).map (·.1))=true:=by exact rfl):PN G (M x) (.iter (zXW G M g Sf)::K) E S:=zdg x h i k
theorem thon {t:Nat} (g:lk E t=some (.v (.slice none 0 0))) (q:zEY (⟨Tryz.prog,fn,w0,X,X0,σ0,N0,post,dz,L,hl,ro⟩:Ctx ρ) n=true) (i:zFc n E=some E') (p:zEq n S=some S') (k:Th l (PW (⟨Tryz.prog,fn,w0,X,X0,σ0,N0,post,dz,L,hl,ro⟩:Ctx ρ) m c K ((t,.own n)::E') ((n,.arr e size [])::S'))):Gd 56 (n::e::size::t::l) (PW (⟨Tryz.prog,fn,w0,X,X0,σ0,N0,post,dz,L,hl,ro⟩:Ctx ρ) m c K E S):=⟨zZT n e size t g q i p k.h⟩
theorem pl (rows:List (List PV)) (n:Nat) {t e size h len:Nat} {parts:Array (Nat×Operand)} {z:Value} {d:Nat} {E':Env} {S':zAC} (B:o.op=.buildSlice t len parts) (C:lku tab.els t=some (e,size,h)) (hz:lku tab.zeros e=some z) (u:o.dst=some d) (r:zFc n E=some E') (s:zEq n S=some S') (k:PO (⟨Tryz.prog,fn,w0,X,X0,σ0,N0,post,dz,L,hl,ro⟩:Ctx ρ) m all rest K ((d,.own n)::E') ((n,.arr e size rows)::S'))
  (hr:zZW size E 0 parts.toList=some rows:=by exact rfl) (w:gE all E o=some true:=by exact rfl) (v:lB e zKz=true:=by exact rfl) (g:len=rows.length:=by exact rfl) (i:Nat.ble len 10000=true:=by exact rfl) (q:Nat.ble (len*size) 10000=true:=by exact rfl) (p:lB d fn.ntmps=true:=by exact rfl) (y:zEY (⟨Tryz.prog,fn,w0,X,X0,σ0,N0,post,dz,L,hl,ro⟩:Ctx ρ) n=true:=by exact rfl):PO (⟨Tryz.prog,fn,w0,X,X0,σ0,N0,post,dz,L,hl,ro⟩:Ctx ρ) m all (o::rest) K E S :=
 po_lit (T:=tab) n B w v C hz hr g i q u p y r s k
theorem pa {f:Unit->Option ρ} (enc : α -> List PV) (xs ys:List α) {args:Array Operand} {tys:Array TypeId} {t n e size g:Nat} {x y:Operand} {q:PV} {z:Value} {d:Nat} {E':Env} {S':zAC} (J:o.op=.call ⟨.builtin .append,args,tys⟩) (v:args.toList=[x,y]) (w:tys.toList=[t,t]) (hx:ev E x=some (.own n)) (D:lkS S n=some (.arr e size (xs.map enc)))
  (hy:ev E y=some q) (N:lku tab.els t=some (e,size,g)) (hz:lku tab.zeros e=some z) (h:∀r∈ys.map enc,r.all zGK=true) (F:o.dst=some d) (B:zFc n E=some E') (C:zEq n S=some S') (k:PO (⟨Tryz.prog,fn,w0,X,X0,σ0,N0,post,dz,L,hl,ro⟩:Ctx ρ) (f ()) all rest K ((d,.own n)::E') ((n,.arr e size ((xs++ys).map enc))::S'))
  (G:lB e zKz=true:=by exact rfl) (H:gE all E o=some true:=by exact rfl) (M:zgm S q=some (size,ys.map enc):=by exact rfl) (u:z.cells.size=size:=by exact rfl) (s:lB 0 size=true:=by exact rfl) (i:lB 0 g=true:=by exact rfl) (p:lB d fn.ntmps=true:=by exact rfl) (I:zEY (⟨Tryz.prog,fn,w0,X,X0,σ0,N0,post,dz,L,hl,ro⟩:Ctx ρ) n=true:=by exact rfl):PO (⟨Tryz.prog,fn,w0,X,X0,σ0,N0,post,dz,L,hl,ro⟩:Ctx ρ) (bnd (zDT g (xs.length+ys.length)) f) all (o::rest) K E S :=
 zbc (T:=tab) enc xs ys G J v w H hx D hy M N hz u s i h F p I B C k
theorem thsel {b:Nat} {g:List Nat} (hr:zHS (l.take a)=some g) (q:zHS ((l.drop a).take b)=some ks) (i:zcf g E=some E') (k:zXG ks S=some S') (p:zAy ks=true) (h:Th ((l.drop a).drop b) (PW (⟨Tryz.prog,fn,w0,X,X0,σ0,N0,post,dz,L,hl,ro⟩:Ctx ρ) m c K E' S')):Gd 52 (a::b::l) (PW (⟨Tryz.prog,fn,w0,X,X0,σ0,N0,post,dz,L,hl,ro⟩:Ctx ρ) m c K E S):=⟨zgV g ks i k p h.h⟩
theorem thdv {r:Nat} (hr:zHS (l.take a)=some ms) (i:zLQ 0 ops=true) (g:zNr ms ops ms=true) (p:zHS (zVx E++zVz S)=some V) (k:zJT V=ment0) (h:Th (l.drop a) (PDV (⟨Tryz.prog,fn,w0,X,X0,σ0,N0,post,dz,L,hl,ro⟩:Ctx ρ) m ops.toArray ms ment0 ops 0 [] V K)) (q:ops.all (fun o=>zGB o.op)=true:=by exact rfl):Gd 53 (a::l) (PW (⟨Tryz.prog,fn,w0,X,X0,σ0,N0,post,dz,L,hl,ro⟩:Ctx ρ) m (.region r ops.toArray true) K E S):=⟨zds ms mixed i g p k h.h q⟩
theorem thvs {c b:Nat} {E1:Env} {W:Vw} 
  (hr:zHS (l.take a)=some reads) (v:zHS ((l.drop a).take b)=some writes) (i:zLW V reads=some E0) (p:zLw V reads=some S0)
  (h:∀w0 X X0 σ0 hl,PO (⟨Tryz.prog,fn,w0,X,X0,σ0,exK [] (zNT E0++nsB S0),fun _ _ _=>True,dz,L,hl,ro⟩:Ctx Unit) (some ()) all [o] [.iter fun _ a w=>Pre (⟨Tryz.prog,fn,w0,X,X0,σ0,exK [] (zNT E0++nsB S0),fun _ _ _=>True,dz,L,hl,ro⟩:Ctx Unit) (zK1 writes E1) (zIT (zKs writes++zBg writes S0) S1) a w] E0 S0)
  (s:wOf (zK1 writes E1) (zIT (zKs writes++zBg writes S0) S1) writes=some W) (u:zKm W=some ment)
  (k:Th ((l.drop a).drop b) (PDV (⟨Tryz.prog,fn,w0,X,X0,σ0,N0,post,dz,L,hl,ro⟩:Ctx ρ) m all ms ment0 rest (j+1) (⟨reads,writes,[],ment⟩::acc) (W++V) K))
  (r:zHp (ms.getD j 0) ment0 j ⟨reads,writes,[],ment⟩ acc=true:=by kernel_rfl) (t:zHM (⟨Tryz.prog,fn,w0,X,X0,σ0,N0,post,dz,L,hl,ro⟩:Ctx ρ) [] writes (zBg writes S0) S0 o=true:=by kernel_rfl) (q:zF5 (exK [] (zNT E0++nsB S0)) [] writes (zBg writes S0) (zK1 writes E1) (zIT (zKs writes++zBg writes S0) S1)=true:=by kernel_rfl)
  (g:zJs (zBg writes S0) (zIT (zKs writes++zBg writes S0) S1) S0:=by repeat' first | exact trivial | refine ⟨rfl,?_⟩):Gd c (a::b::l) (PDV (⟨Tryz.prog,fn,w0,X,X0,σ0,N0,post,dz,L,hl,ro⟩:Ctx ρ) m all ms ment0 (o::rest) j acc V K) :=
 ⟨zSr reads writes [] i p h s u k.h r t q g⟩
theorem thvt {c b:Nat} {M:Option α} {g : α -> Option ρ} {p : α -> Env} {Sf : α -> zAC} {W : α -> Vw} 
  (hr:zHS (l.take a)=some reads) (B:zHS ((l.drop a).take b)=some writes) (q:zLW V reads=some E0) (r:zLw V reads=some S0)
  (h:∀w0 X X0 σ0 hl,PO (⟨Tryz.prog,fn,w0,X,X0,σ0,exK ks (zNT E0++nsB S0),fun _ _ _=>True,dz,L,hl,ro⟩:Ctx α) (bnd M some) all [o] [.iter fun y a w=>Pre (⟨Tryz.prog,fn,w0,X,X0,σ0,exK ks (zNT E0++nsB S0),fun _ _ _=>True,dz,L,hl,ro⟩:Ctx α) (zK1 writes (p y)) (zIT (zKs writes++zBg writes S0) (Sf y)) a w] E0 S0)
  (u:∀y,wOf (zK1 writes (p y)) (zIT (zKs writes++zBg writes S0) (Sf y)) writes=some (W y)) (z:∀y,zKm (W y)=some ment)
  (k:Th ((l.drop a).drop b) (∀y,M=some y->PDV (⟨Tryz.prog,fn,w0,X,X0,σ0,N0,post,dz,L,hl,ro⟩:Ctx ρ) (g y) all ms ment0 rest (j+1) (⟨reads,writes,ks,ment⟩::acc) (W y++V) K))
  (t:zHp (ms.getD j 0) ment0 j ⟨reads,writes,ks,ment⟩ acc=true:=by kernel_rfl) (v:zHM (⟨Tryz.prog,fn,w0,X,X0,σ0,N0,post,dz,L,hl,ro⟩:Ctx ρ) ks writes (zBg writes S0) S0 o=true:=by kernel_rfl) (s:∀y,zF5 (exK ks (zNT E0++nsB S0)) ks writes (zBg writes S0) (zK1 writes (p y)) (zIT (zKs writes++zBg writes S0) (Sf y))=true:=by exact fun _=>by kernel_rfl)
  (i:∀y,zJs (zBg writes S0) (zIT (zKs writes++zBg writes S0) (Sf y)) S0:=by intro y;repeat' first | exact trivial | refine ⟨rfl,?_⟩):Gd c (a::b::l) (PDV (⟨Tryz.prog,fn,w0,X,X0,σ0,N0,post,dz,L,hl,ro⟩:Ctx ρ) (bnd M g) all ms ment0 (o::rest) j acc V K) :=
 ⟨zRp reads writes ks q r h u z k.h t v s i⟩
theorem thvg {c b:Nat} {M:Option α} {g : α -> Option ρ} {p : α -> Env} {Sf : α -> zAC} {W : α -> Vw} 
  {H:Prop} {rn:List (Nat×Nat)} (_:Tg rn ks H) (hr:zHS (l.take a)=some reads) (B:zHS ((l.drop a).take b)=some writes) (q:zLW V reads=some E0) (r:zLw V reads=some S0)
  (h:∀w0 X X0 σ0 hl,PO (⟨Tryz.prog,fn,w0,X,X0,σ0,exK ks (zNT E0++nsB S0),fun _ _ _=>True,dz,L,hl,ro⟩:Ctx α) (bnd M some) all [o] [.iter fun y a w=>Pre (⟨Tryz.prog,fn,w0,X,X0,σ0,exK ks (zNT E0++nsB S0),fun _ _ _=>True,dz,L,hl,ro⟩:Ctx α) (zK1 writes (p y)) (zIT (zKs writes++zBg writes S0) (Sf y)) a w] E0 S0)
  (u:∀y,wOf (zK1 writes (p y)) (zIT (zKs writes++zBg writes S0) (Sf y)) writes=some (W y)) (z:∀y,zKm (W y)=some ment)
  (k:Th ((l.drop a).drop b) (∀y,M=some y->PDV (⟨Tryz.prog,fn,w0,X,X0,σ0,N0,post,dz,L,hl,ro⟩:Ctx ρ) (g y) all ms ment0 rest (j+1) (⟨reads,writes,ks,ment⟩::acc) (W y++V) K))
  (t:zHp (ms.getD j 0) ment0 j ⟨reads,writes,ks,ment⟩ acc=true:=by kernel_rfl) (v:zHM (⟨Tryz.prog,fn,w0,X,X0,σ0,N0,post,dz,L,hl,ro⟩:Ctx ρ) ks writes (zBg writes S0) S0 o=true:=by kernel_rfl) (s:∀y,zF5 (exK ks (zNT E0++nsB S0)) ks writes (zBg writes S0) (zK1 writes (p y)) (zIT (zKs writes++zBg writes S0) (Sf y))=true:=by exact fun _=>by kernel_rfl)
  (i:∀y,zJs (zBg writes S0) (zIT (zKs writes++zBg writes S0) (Sf y)) S0:=by intro y;repeat' first | exact trivial | refine ⟨rfl,?_⟩):Gd c (a::b::l) (PDV (⟨Tryz.prog,fn,w0,X,X0,σ0,N0,post,dz,L,hl,ro⟩:Ctx ρ) (bnd M g) all ms ment0 (o::rest) j acc V K) :=
 ⟨zRp reads writes ks q r h u z k.h t v s i⟩
theorem tqG {M:Option α} {enc : α -> PV} {Sr : α -> zAC} {g : α -> Option ρ} {t:Option Nat} 
  (F:Tg rn ks (∀y,M=some y->FC L Tryz.prog f qs Sc N1 fun r S'=>r=enc y/\S'=Sr y)) (G:o.dst=t) (J:o.op=.call ⟨.value x,args,tys⟩) (hx:ev E x=some (.fn (.func f) first cap)) (D:zXG ((zJZ rn Sc).map (·.1)) S=some (zJZ rn Sc)) (hm:midL first.length cap.length (zNZ rn qs)=some qa)
  (hdr:zPD ((zJZ rn Sc).map (·.1)) S=some S1) (q:zJS ks S1=some S2) (p:zHT ks E=some E')
  (k:∀y,M=some y->PO (⟨Tryz.prog,fn,w0,X,X0,σ0,N0,post,dz,L,hl,ro⟩:Ctx ρ) (g y) all rest K (putE t (Pw.ren rn (enc y)) E') (zJZ rn (Sr y)++S2))
  (i:∀y,zf5 (zJZ rn (Sr y))=some NR:=by exact fun _=>rfl) (I:gE all E o=some true:=by exact rfl) (ha:zLx E args.toList qa:=by repeat' first | exact trivial | refine ⟨⟨_,rfl,.rfl⟩,?_⟩) (N:zNZ rn qs=first++qa++cap:=by exact rfl)
  (P:zAy ((rn.map (·.1)).map (rho rn))=true:=by exact rfl) (Q:zN0 (Sc.map (·.1)) (rn.map (·.1))=true:=by exact rfl) (T:∀y,zN0 ((Sr y).map (·.1)) (rn.map (·.1))=true:=by exact fun _=>rfl) (W:zN0 N1 (rn.map (·.1))=true:=by exact rfl) (u4:∀y,zDP (rn.map (·.1)) (Sr y)=true:=by exact fun _=>rfl) (u5:∀y,zEA (rn.map (·.1)) [enc y]=true:=by exact fun _=>rfl)
  (u:zAy ((zJZ rn Sc).map (·.1))=true:=by exact rfl) (v:zAy (NR++S2.map (·.1))=true:=by exact rfl) (w:zN0 NR (N1.map (rho rn)++ks)=true:=by exact rfl) (z:ks.all (zEY (⟨Tryz.prog,fn,w0,X,X0,σ0,N0,post,dz,L,hl,ro⟩:Ctx ρ))=true:=by exact rfl) (B:∀y,zDP (N1.map (rho rn)++ks) (zJZ rn (Sr y))=true:=by exact fun _=>rfl) (C:∀y,zEA (N1.map (rho rn)++ks) [Pw.ren rn (enc y)]=true:=by exact fun _=>rfl)
  (H:zAi Tryz.prog f=true:=by kernel_rfl) (s:dstB t fn.ntmps=true:=by exact rfl):PO (⟨Tryz.prog,fn,w0,X,X0,σ0,N0,post,dz,L,hl,ro⟩:Ctx ρ) (bnd M g) all (o::rest) K E S :=
 zYL (first:=first) (cap:=cap) (qs:=qa) rn ks F.h G J hx D hdr q p k N I ha i P Q T W u4 u5 u v w z B C H s
theorem cqG {i:List PV} {M:Option α} {enc : α -> PV} {g : α -> Option ρ} 
  (u:Tg rn ks (∀y,M=some y->FC L Tryz.prog f i Sc (Sc.map (·.1)) fun r S'=>r=enc y/\S'=Sc)) (v:o.dst=some d) (C:o.op=.call ⟨.value x,args,tys⟩) (hx:ev E x=some (.fn (.func f) first cap)) (t:zXG ((zJZ rn Sc).map (·.1)) S=some (zJZ rn Sc)) (J:midL first.length cap.length (zNZ rn i)=some qs)
  (k:∀y,M=some y->PO (⟨Tryz.prog,fn,w0,X,X0,σ0,N0,post,dz,L,hl,ro⟩:Ctx ρ) (g y) all rest K ((d,Pw.ren rn (enc y))::E) S)
  (D:zNZ rn i=first++qs++cap:=by exact rfl) (B:gE all E o=some true:=by exact rfl) (ha:zLx E args.toList qs:=by repeat' first | exact trivial | refine ⟨⟨_,rfl,.rfl⟩,?_⟩)
  (F:zAy ((rn.map (·.1)).map (rho rn))=true:=by exact rfl) (G:zN0 (Sc.map (·.1)) (rn.map (·.1))=true:=by exact rfl) (H:zDP (rn.map (·.1)) Sc=true:=by exact rfl) (I:∀y,zEA (rn.map (·.1)) [enc y]=true:=by exact fun _=>rfl)
  (s:zAy ((zJZ rn Sc).map (·.1))=true:=by exact rfl) (p:zKI ((zJZ rn Sc).map (·.1)) (zJZ rn Sc)=true:=by exact rfl) (w:∀y,noN (Pw.ren rn (enc y))=true:=by exact fun _=>rfl)
  (z:zAi Tryz.prog f=true:=by kernel_rfl) (q:lB d fn.ntmps=true:=by exact rfl):PO (⟨Tryz.prog,fn,w0,X,X0,σ0,N0,post,dz,L,hl,ro⟩:Ctx ρ) (bnd M g) all (o::rest) K E S :=
 zdi rn u.h v C hx t k D B ha F G H I s p w z q
theorem A {P Q H:Prop} (l:List Nat) (k:Q:=by exact trivial) (c:H:=by exact trivial) (rn:List (Nat×Nat):=[]) (ks:List Nat:=[]) (h:Tg rn ks H->Q->Th l P:=by
 intro c q
 repeat' first
  | exact thQ q
  | (refine thG 45 ?_;exact gdE (ps q))
  | (refine thG 46 ?_;exact gdE (piG q))
  | (refine thG 41 ?_;refine gd1 ?_ fun h=>pk c.h rfl rfl h)
  | (refine thG 54 ?_;refine thvt (ks:=[]) rfl rfl rfl rfl (fun _ _ _ _ _=>pk c.h rfl rfl fun _ _=>pzq rfl) (fun _=>rfl) (fun _=>rfl) ?_)
  | (refine thG 55 ?_;refine thvg c rfl rfl rfl rfl (fun _ _ _ _ _=>tqG c rfl rfl rfl rfl rfl rfl rfl rfl fun _ _=>pzq rfl) (fun _=>rfl) (fun _=>rfl) ?_)
  | (refine thG 43 ?_;refine gd1 ?_ fun h=>tqG c rfl rfl rfl rfl rfl rfl rfl rfl h)
  | (refine thG 44 ?_;refine gd1 ?_ fun h=>cqG c rfl rfl rfl rfl rfl h)
  | (refine thG 1 ?_;refine gd1 ?_ fun h=>pq 1 rfl h)
  | (refine thG 0 ?_;refine gd1 ?_ fun h=>ns h)
  | (refine thG 9 ?_;refine gd1 ?_ fun h=>sr h)
  | (refine thG 2 ?_;refine gd1 ?_ fun h=>pq 2 rfl h)
  | (refine thG 8 ?_;exact gdE rN)
  | (refine thG 7 ?_;refine gd1 ?_ fun h=>zIp h)
  | (refine thG 6 ?_;refine gd1 ?_ fun h=>zSv h)
  | (refine thG 5 ?_;refine gd2 ?_ ?_ fun a b=>zAE rfl a b)
  | (refine thG 10 ?_;refine gd2 ?_ ?_ fun b a=>zAE rfl a b)
  | (refine thG 4 ?_;refine gd1 ?_ fun h=>zW9 h)
  | (refine thG 3 ?_;refine gd1 ?_ fun h=>pq 3 rfl h)
  | (refine thG 11 ?_;refine gd1 ?_ fun h=>zF6 h)
  | (refine thG 12 ?_;refine gd1 ?_ fun h=>zT8 (T:=tab) rfl rfl rfl rfl rfl rfl rfl rfl rfl rfl rfl rfl h)
  | (refine thG 13 ?_;refine gd1 ?_ fun h=>zYO h)
  | (refine thG 14 ?_;refine gd1 ?_ fun h=>zFQ h)
  | (refine thG 15 ?_;refine gd1 ?_ fun h=>zdf h)
  | (refine thG 16 ?_;refine gd1 ?_ fun h=>zJV (T:=tab) rfl rfl rfl rfl h)
  | (refine thG 17 ?_;refine gd1 ?_ fun h=>zUD rfl h)
  | (refine thG 18 ?_;refine gd1 ?_ fun h=>zIp (zbp rfl h))
  | (refine thG 19 ?_;refine gd1 ?_ fun h=>zgG rfl rfl h)
  | (refine thG 20 ?_;refine gd1 ?_ fun h=>zOm (T:=tab) rfl rfl rfl rfl rfl rfl rfl h)
  | (refine thG 23 ?_;refine gd1 ?_ fun h=>zbl rfl h)
  | (refine thG 24 ?_;refine gd1 ?_ fun h=>zIp (zbl rfl h))
  | (refine thG 25 ?_;refine gd1 ?_ fun h=>zbp rfl h)
  | (refine thG 26 ?_;refine thsp rfl ?_ ?_)
  | (refine thG 27 ?_;refine thsq rfl ?_ ?_)
  | (refine thG 50 ?_;refine thvs rfl rfl rfl rfl (fun _ _ _ _ _=>zT8 (T:=tab) rfl rfl rfl rfl rfl rfl rfl rfl rfl rfl rfl rfl (pyq rfl)) rfl rfl ?_)
  | (refine thG 51 ?_;refine thvs rfl rfl rfl rfl (fun _ _ _ _ _=>zOm (T:=tab) rfl rfl rfl rfl rfl rfl rfl (pyq rfl)) rfl rfl ?_)
  | (refine thG 52 ?_;refine thsel rfl rfl rfl rfl rfl ?_)
  | (refine thG 53 ?_;refine thdv rfl (by kernel_rfl) (by kernel_rfl) rfl rfl ?_)
  | (refine thO 200 ?_;refine thvq rfl (by kernel_rfl) ?_)
  | (refine thO 100 ?_;refine thpq rfl ?_)
  | (refine thG 30 ?_;refine thbox rfl rfl rfl rfl rfl rfl rfl rfl rfl rfl ?_)
  | (refine thG 31 ?_;refine zgs rfl rfl rfl rfl rfl rfl rfl rfl rfl ?_)
  | (refine thG 33 ?_;refine thfr rfl rfl rfl ?_)
  | (refine thG 34 ?_;refine thwf rfl rfl rfl ?_)
  | (refine thG 38 ?_;refine gd1 ?_ fun h=>zKt (T:=tab) _ _ rfl rfl rfl rfl rfl rfl rfl rfl h)
  | (refine thG 39 ?_;refine gd1 ?_ fun h=>zSu (T:=tab) _ _ rfl rfl rfl rfl rfl rfl rfl rfl rfl h)
  | (refine thG 56 ?_;refine thon rfl rfl rfl rfl ?_)
  | (refine thG 35 ?_;refine gd1 ?_ fun h=>zPy (T:=tab) _ _ rfl rfl rfl rfl rfl rfl rfl rfl h)
  | (refine thG 36 ?_;refine gd1 ?_ fun h=>zBE (T:=tab) _ _ rfl rfl rfl rfl rfl rfl rfl h)
  | (refine thG 57 ?_;refine gdX [1,0] ?_)
  | (refine thG 58 ?_;refine gdX [9,57] ?_)
  | (refine thG 59 ?_;refine gdX [58,8] ?_)
  | (refine thG 60 ?_;refine gdX [53,11,0,1,3,7,0,16,48,112,15,511,1023,208] ?_)
  | (refine thG 61 ?_;refine gdX [9,2] ?_)
  | (refine thG 62 ?_;refine gdX [61,0] ?_)
  | (refine thG 63 ?_;refine gdX [11,46] ?_)
  | (refine thG 64 ?_;refine gdX [52,7,3,2,3,5,6,8,9,10,5,3,2,53,44,0,1,0,7,15,31,0,64,0,448,960,1984,4095,8191,16383,32767,16383,131071,262143,524287,16383,1064959,16383,7356415,15745023,32522239,67108863,134217727,268435455,536870911,1073741823,536870911,2684354559,8589934591,17179869183,34359738367,68719476735,68719476735,206158430207,549755813887,68719476735,2199023255551,4398046511103,8796093022207] ?_)
  | (refine thG 65 ?_;refine gdX [11,18] ?_)
  | (refine thG 66 ?_;refine gdX [50,4,1,12,13,50,4202203,13,202] ?_)
  | (refine thG 67 ?_;refine gdX [4,7] ?_)
  | (refine thG 68 ?_;refine gdX [67,6] ?_)
  | (refine thG 69 ?_;refine gdX [15,7] ?_)
  | (refine thG 70 ?_;refine gdX [69,14] ?_)
  | (refine thG 71 ?_;refine gdX [52,8,3,1,3,4,15,16,17,5,6,1,400150,3,53,12,0,1,3,7,3,31,3,67,195,511,1023,2047] ?_)
  | (refine thG 72 ?_;refine gdX [68,13] ?_)
  | (refine thG 73 ?_;refine gdX [9,30,2] ?_)
  | (refine thG 74 ?_;refine gdX [0,8] ?_)
  | (refine thG 75 ?_;refine gdX [58,6] ?_)
  | (refine thG 76 ?_;refine gdX [9,104] ?_)
  | (refine thG 77 ?_;refine gdX [35,57] ?_)
  | (refine thG 78 ?_;refine gdX [68,52,2,8,6,9,2101100,2101101,2101102,6,900000,900001,900002,900003] ?_)
  | (refine thG 79 ?_;refine gdX [19,7] ?_)
  | (refine thG 80 ?_;refine gdX [9,1] ?_)
  | (refine thG 81 ?_;refine gdX [52,3,6,1,3,6,6,3,900000,900001,900002,900003,53,6,0,0,2,7,15,31] ?_)
  | (refine thG 82 ?_;refine gdX [52,9,3,1,2,5,6,7,18,19,20,9,16,5,2,53,33,0,0,3,7,15,31,31,127,255,511,1023,2047,4095,8191,2047,32767,65535,131071,2047,524287,1048575,2097151,4194303,8388607,16777215,4194303,67108863,134217727,268435455,4194303,541065215,2147483647,4294967295] ?_)
  | (refine thG 83 ?_;refine gdX [65,59] ?_)
  | (refine thG 84 ?_;refine gdX [50,3,1,12,13,38,13,202] ?_)
  | (refine thG 85 ?_;refine gdX [52,7,3,3,4,34,35,36,7,8,1,400340,3,53,13,0,1,3,7,3,19,63,3,131,387,1023,2047,4095] ?_)
  | (refine thG 86 ?_;refine gdX [17,7] ?_)
  | (refine thG 87 ?_;refine gdX [68,52,2,7,6,9,2101100,2101101,2101102,6,900000,900001,900002] ?_)
  | (refine thG 88 ?_;refine gdX [52,3,3,0,3,4,4,3,900000,53,15,0,1,3,7,15,0,63,127,255,255,255,0,2559,7167,16383] ?_)
  | (refine thG 89 ?_;refine gdX [1,63] ?_)
  | (refine thG 90 ?_;refine gdX [79,56,2101102,192,9,7] ?_)
  | (refine thG 91 ?_;refine gdX [52,3,5,1,3,6,6,3,900000,900001,900002,53,6,0,0,2,7,15,31] ?_)
  | (refine thG 92 ?_;refine gdX [12,57] ?_)
  | (refine thG 93 ?_;refine gdX [9,3] ?_)
  | (refine thG 94 ?_;refine gdX [70,16] ?_)
  | (refine thG 95 ?_;refine gdX [52,3,2,1,2,5,5,2,53,30,0,0,2,7,15,31,63,127,31,287,1023,2047,4095,31,16383,32767,65535,131071,262143,524287,131071,1179647,4194303,8388607,16777215,131071,33685503,134217727,268435455,536870911] ?_)
  | (refine thG 96 ?_;refine gdX [53,22,0,1,3,7,15,0,0,64,192,448,960,0,4032,8128,16320,0,0,65536,262080,524287,1048575,2097151,212] ?_)
  | (refine thG 97 ?_;refine gdX [52,3,0,0,1,5,53,9,0,0,3,7,0,0,48,112,255] ?_)
  | (refine thG 98 ?_;refine gdX [53,11,0,1,0,7,15,0,32,0,224,480,1023,203] ?_)
  | (refine thG 99 ?_;refine gdX [61,41] ?_)):P:=(h ⟨c⟩ k).h
theorem U {α : Sort _} {a : α}:a=a:=rfl
abbrev Z (x:Int):PV:=.v (.int .i64 x)
abbrev Y (x:Bool):PV:=.v (.bool x)
abbrev O (x:List UInt8):PV:=.v (.string ⟨⟨x⟩⟩)
end Go.Proofs.YtmfbghpealgaiaaGreatDoor
