/- Data of the program as values of Lean, and facts on its functions: printed by emit2.py. -/
import Derived.Test.YtmfbghpealgaiaaGreatDoorTab
import Derived.Test.YtmfbghpealgaiaaGreatDoorCo3
import Derived.Test.YtmfbghpealgaiaaGreatDoorKit
namespace Go.Proofs.YtmfbghpealgaiaaGreatDoor
open Go Go.Pw
set_option linter.unusedVariables false
open List renaming mem_map->lE
open Nat renaming blt->lB
variable {rest ops:List Oper} {o:Oper} {α:Type} {l ms ks N1 NR reads writes wr kp:List Nat} {E' E0:Env} {j n a d e size:Nat} {S' S1 Sc S2 S0:zAC} {ment0 ment:List (Nat×List Nat)} {V:Vw} {acc:List Summ} {f:FuncId} {c:Code} {x:Operand} {args:Array Operand} {tys:Array TypeId} {qs first cap qa cs cs':List PV} {elem:TypeId} {rows:List (List PV)} {rn:List (Nat×Nat)}
structure Attr where
 Name:Bs
 Value:Bs
deriving DecidableEq
structure Node where
 Kind:Int
 Name:Bs
 Is:Bs
 Data:Bs
 Attrs:(List Attr)
 Parent:Int
 Kids:(List Int)
 Host:Int
 Under:Int
 Doc:Int
deriving DecidableEq
structure Forest where
 Nodes:(List Node)
 Most:Int
deriving DecidableEq
structure State where
 Phase:Int
 Def:Int
 Owner:Int
 Barred:Bool
deriving DecidableEq
structure Def where
 Name:Bs
 Local:Bs
 Class:Int
deriving DecidableEq
structure Wait where
 Name:Bs
 Ticket:Int
deriving DecidableEq
structure Desk where
 Defs:(List Def)
 Waits:(List Wait)
 Next:Int
 Busy:Bool
deriving DecidableEq
structure Todo where
 Kind:Int
 Def:Int
 Name:Bs
 Had:Bool
 Has:Bool
 Old:Bs
 New:Bs
 From:Int
 To:Int
 On:Bool
deriving DecidableEq
structure Line where
 Todos:(List (List Todo))
 Stack:(List (List Int))
 Back:(List Int)
 Busy:Bool
deriving DecidableEq
structure Task where
 Kind:Int
 Ticket:Int
 Def:Int
deriving DecidableEq
structure Build where
 Def:Int
 Node:Int
deriving DecidableEq
structure Op where
 Kind:Int
 A:Int
 B:Int
 C:Int
 S:Bs
 T:Bs
 Must:Bool
deriving DecidableEq
structure Hook where
 Kind:Int
 Do:(List Op)
deriving DecidableEq
structure Class where
 Form:Bool
 Watch:(List Bs)
 Peek:(List Op)
 Make:(List Op)
 Hooks:(List Hook)
deriving DecidableEq
structure World where
 Forest:Forest
 States:(List State)
 Desk:Desk
 Line:Line
 Tasks:(List Task)
 Builds:(List Build)
 Classes:(List Class)
deriving DecidableEq
structure zAP where
 Forest:Forest
deriving DecidableEq
structure zAI where
 World:World
deriving DecidableEq
structure zCm where
 names:(List (Bs×Int))
 classes:(List (Int×Int))
deriving DecidableEq
structure zCz where
 word:Bs
 fields:Bs
deriving DecidableEq
structure zAN where
 World:World
 node:Int
deriving DecidableEq
structure Due where
 Node:Int
 Todo:Todo
deriving DecidableEq
structure Duty_hall where
 f:Forest
 states:(List State)
 desk:Desk
 classes:(List Class)
 due:(List Due)
deriving DecidableEq
structure zMV where
 Forest:Forest
 ids:(List (Int×(List (Bs×Int))))
deriving DecidableEq
structure Note where
 Kind:Int
 Node:Int
 From:Int
 To:Int
 Name:Bs
 Had:Bool
 Has:Bool
 Old:Bs
 New:Bs
deriving DecidableEq
structure zBY where
 f:Forest
 notes:(List Note)
 e:Int
deriving DecidableEq
structure zfb where
 Forest:Forest
 deep:Bool
deriving DecidableEq
structure zBf where
 n:Int
 doc:Int
 under:Int
deriving DecidableEq
structure zAk where
 Forest:Forest
 p:Int
 child:Int
 gone:Int
deriving DecidableEq
structure Move_code where
 Errno:Int
deriving DecidableEq
structure Move_hand where
 Forest:Forest
 notes:(List Note)
deriving DecidableEq
structure zDV where
 Forest:Forest
 states:(List State)
 desk:Desk
 classes:(List Class)
deriving DecidableEq
structure zZ9 where
 Lo:Int
 Hi:Int
 Stride:Int
deriving DecidableEq
structure zaA where
 Lo:Int
 Hi:Int
 Stride:Int
deriving DecidableEq
structure Move_step' where
 what:Bs
 err:Bool
deriving DecidableEq
def zAB (x:Int):List PV:=[.v (.int .i64 x)]
theorem zC1 (l:List Int):∀r∈l.map zAB,r.all zGd=true:=by
 intro r hr
 obtain ⟨x,_,rfl⟩:=lE.1 hr
 rfl
def zSK (x:Bs):List PV:=[.v (.string ⟨⟨x⟩⟩)]
def zD4 (x:Attr):List PV:=[.v (.string ⟨⟨x.Name⟩⟩),.v (.string ⟨⟨x.Value⟩⟩)]
theorem zRL (l:List Attr):∀r∈l.map zD4,r.all zGd=true:=by
 intro r hr
 obtain ⟨x,_,rfl⟩:=lE.1 hr
 rfl
def zA1 (x:(List Int)):List PV:=[.sl 1 false (x.map zAB)]
theorem zNg (l:List (List Int)):∀r∈l.map zA1,r.all zGd=true:=by
 intro r hr
 obtain ⟨x,_,rfl⟩:=lE.1 hr
 rfl
def zAZ (x:Node):List PV:=[.v (.int .i64 x.Kind),.v (.string ⟨⟨x.Name⟩⟩),.v (.string ⟨⟨x.Is⟩⟩),.v (.string ⟨⟨x.Data⟩⟩),.sl 2 false (x.Attrs.map zD4),.v (.int .i64 x.Parent),.sl 1 false (x.Kids.map zAB),.v (.int .i64 x.Host),.v (.int .i64 x.Under),.v (.int .i64 x.Doc)]
theorem zOZ (l:List Node):∀r∈l.map zAZ,r.all zGd=true:=by
 intro r hr
 obtain ⟨x,_,rfl⟩:=lE.1 hr
 rfl
def zAE (x:Forest):List PV:=[.sl 10 false (x.Nodes.map zAZ),.v (.int .i64 x.Most)]
def cBool (x:Bool):List PV:=[.v (.bool x)]
def zBn (x:State):List PV:=[.v (.int .i64 x.Phase),.v (.int .i64 x.Def),.v (.int .i64 x.Owner),.v (.bool x.Barred)]
theorem zSl (l:List State):∀r∈l.map zBn,r.all zGd=true:=by
 intro r hr
 obtain ⟨x,_,rfl⟩:=lE.1 hr
 rfl
def zRM (x:Def):List PV:=[.v (.string ⟨⟨x.Name⟩⟩),.v (.string ⟨⟨x.Local⟩⟩),.v (.int .i64 x.Class)]
def zJ1 (x:Wait):List PV:=[.v (.string ⟨⟨x.Name⟩⟩),.v (.int .i64 x.Ticket)]
theorem zVD (l:List Wait):∀r∈l.map zJ1,r.all zGd=true:=by
 intro r hr
 obtain ⟨x,_,rfl⟩:=lE.1 hr
 rfl
def zI8 (x:Desk):List PV:=[.sl 3 false (x.Defs.map zRM),.sl 2 false (x.Waits.map zJ1),.v (.int .i64 x.Next),.v (.bool x.Busy)]
def zLg (x:Todo):List PV:=[.v (.int .i64 x.Kind),.v (.int .i64 x.Def),.v (.string ⟨⟨x.Name⟩⟩),.v (.bool x.Had),.v (.bool x.Has),.v (.string ⟨⟨x.Old⟩⟩),.v (.string ⟨⟨x.New⟩⟩),.v (.int .i64 x.From),.v (.int .i64 x.To),.v (.bool x.On)]
theorem zVC (l:List Todo):∀r∈l.map zLg,r.all zGd=true:=by
 intro r hr
 obtain ⟨x,_,rfl⟩:=lE.1 hr
 rfl
def zDD (x:(List Todo)):List PV:=[.sl 10 false (x.map zLg)]
theorem zRO (l:List (List Todo)):∀r∈l.map zDD,r.all zGd=true:=by
 intro r hr
 obtain ⟨x,_,rfl⟩:=lE.1 hr
 rfl
def zRP (x:Line):List PV:=[.sl 1 false (x.Todos.map zDD),.sl 1 false (x.Stack.map zA1),.sl 1 false (x.Back.map zAB),.v (.bool x.Busy)]
def zJe (x:Task):List PV:=[.v (.int .i64 x.Kind),.v (.int .i64 x.Ticket),.v (.int .i64 x.Def)]
theorem zRQ (l:List Task):∀r∈l.map zJe,r.all zGd=true:=by
 intro r hr
 obtain ⟨x,_,rfl⟩:=lE.1 hr
 rfl
def zJd (x:Build):List PV:=[.v (.int .i64 x.Def),.v (.int .i64 x.Node)]
def cOp (x:Op):List PV:=[.v (.int .i64 x.Kind),.v (.int .i64 x.A),.v (.int .i64 x.B),.v (.int .i64 x.C),.v (.string ⟨⟨x.S⟩⟩),.v (.string ⟨⟨x.T⟩⟩),.v (.bool x.Must)]
def zKT (x:Hook):List PV:=[.v (.int .i64 x.Kind),.sl 7 false (x.Do.map cOp)]
def zCA (x:Class):List PV:=[.v (.bool x.Form),.sl 1 false (x.Watch.map zSK),.sl 7 false (x.Peek.map cOp),.sl 7 false (x.Make.map cOp),.sl 2 false (x.Hooks.map zKT)]
theorem zZB (l:List Class):∀r∈l.map zCA,r.all zGd=true:=by
 intro r hr
 obtain ⟨x,_,rfl⟩:=lE.1 hr
 rfl
def zBe (x:World):List PV:=[.sl 10 false (x.Forest.Nodes.map zAZ),.v (.int .i64 x.Forest.Most),.sl 4 false (x.States.map zBn),.sl 3 false (x.Desk.Defs.map zRM),.sl 2 false (x.Desk.Waits.map zJ1),.v (.int .i64 x.Desk.Next),.v (.bool x.Desk.Busy),.sl 1 false (x.Line.Todos.map zDD),.sl 1 false (x.Line.Stack.map zA1),.sl 1 false (x.Line.Back.map zAB),.v (.bool x.Line.Busy),.sl 3 false (x.Tasks.map zJe),.sl 2 false (x.Builds.map zJd),.sl 5 false (x.Classes.map zCA)]
def zRN (x:Int):List PV:=[.v (.int .u8 x)]
def zEW (x:zAP):List PV:=[.sl 10 false (x.Forest.Nodes.map zAZ),.v (.int .i64 x.Forest.Most)]
def zEX (x:zAI):List PV:=[.sl 10 false (x.World.Forest.Nodes.map zAZ),.v (.int .i64 x.World.Forest.Most),.sl 4 false (x.World.States.map zBn),.sl 3 false (x.World.Desk.Defs.map zRM),.sl 2 false (x.World.Desk.Waits.map zJ1),.v (.int .i64 x.World.Desk.Next),.v (.bool x.World.Desk.Busy),.sl 1 false (x.World.Line.Todos.map zDD),.sl 1 false (x.World.Line.Stack.map zA1),.sl 1 false (x.World.Line.Back.map zAB),.v (.bool x.World.Line.Busy),.sl 3 false (x.World.Tasks.map zJe),.sl 2 false (x.World.Builds.map zJd),.sl 5 false (x.World.Classes.map zCA)]
def zQd (x:zCz):List PV:=[.v (.string ⟨⟨x.word⟩⟩),.v (.string ⟨⟨x.fields⟩⟩)]
def zJF (x:Due):List PV:=[.v (.int .i64 x.Node),.v (.int .i64 x.Todo.Kind),.v (.int .i64 x.Todo.Def),.v (.string ⟨⟨x.Todo.Name⟩⟩),.v (.bool x.Todo.Had),.v (.bool x.Todo.Has),.v (.string ⟨⟨x.Todo.Old⟩⟩),.v (.string ⟨⟨x.Todo.New⟩⟩),.v (.int .i64 x.Todo.From),.v (.int .i64 x.Todo.To),.v (.bool x.Todo.On)]
theorem zQc (l:List Due):∀r∈l.map zJF,r.all zGd=true:=by
 intro r hr
 obtain ⟨x,_,rfl⟩:=lE.1 hr
 rfl
def zBI (x:Note):List PV:=[.v (.int .i64 x.Kind),.v (.int .i64 x.Node),.v (.int .i64 x.From),.v (.int .i64 x.To),.v (.string ⟨⟨x.Name⟩⟩),.v (.bool x.Had),.v (.bool x.Has),.v (.string ⟨⟨x.Old⟩⟩),.v (.string ⟨⟨x.New⟩⟩)]
theorem zKt (l:List Note):∀r∈l.map zBI,r.all zGd=true:=by
 intro r hr
 obtain ⟨x,_,rfl⟩:=lE.1 hr
 rfl
def zMu (x:zBY):List PV:=[.sl 10 false (x.f.Nodes.map zAZ),.v (.int .i64 x.f.Most),.sl 9 false (x.notes.map zBI),.v (.int .i64 x.e)]
def zGc (x:zBf):List PV:=[.v (.int .i64 x.n),.v (.int .i64 x.doc),.v (.int .i64 x.under)]
theorem zTs (l:List zBf):∀r∈l.map zGc,r.all zGd=true:=by
 intro r hr
 obtain ⟨x,_,rfl⟩:=lE.1 hr
 rfl
def zIg (x:zAk):List PV:=[.sl 10 false (x.Forest.Nodes.map zAZ),.v (.int .i64 x.Forest.Most),.v (.int .i64 x.p),.v (.int .i64 x.child),.v (.int .i64 x.gone)]
def zLh (x:zDV):List PV:=[.sl 10 false (x.Forest.Nodes.map zAZ),.v (.int .i64 x.Forest.Most),.sl 4 false (x.states.map zBn),.sl 3 false (x.desk.Defs.map zRM),.sl 2 false (x.desk.Waits.map zJ1),.v (.int .i64 x.desk.Next),.v (.bool x.desk.Busy),.sl 5 false (x.classes.map zCA)]
def zB3 (x:zAN):List PV:=[.sl 10 false (x.World.Forest.Nodes.map zAZ),.v (.int .i64 x.World.Forest.Most),.sl 4 false (x.World.States.map zBn),.sl 3 false (x.World.Desk.Defs.map zRM),.sl 2 false (x.World.Desk.Waits.map zJ1),.v (.int .i64 x.World.Desk.Next),.v (.bool x.World.Desk.Busy),.sl 1 false (x.World.Line.Todos.map zDD),.sl 1 false (x.World.Line.Stack.map zA1),.sl 1 false (x.World.Line.Back.map zAB),.v (.bool x.World.Line.Busy),.sl 3 false (x.World.Tasks.map zJe),.sl 2 false (x.World.Builds.map zJd),.sl 5 false (x.World.Classes.map zCA),.v (.int .i64 x.node)]
theorem mixed:Tryz.prog.follows .mixedOrders=true:=by kernel_rfl
def eqOp (x y:Op):Bool:=(x.Kind==y.Kind)&&((x.A==y.A)&&((x.B==y.B)&&((x.C==y.C)&&((x.S==y.S)&&((x.T==y.T)&&((x.Must==y.Must)&&true))))))
def zWu (x y:State):Bool:=(x.Phase==y.Phase)&&((x.Def==y.Def)&&((x.Owner==y.Owner)&&((x.Barred==y.Barred)&&true)))
theorem eqf_41:zfB Tryz.prog 41=some [(0,3,.int .i64),(1,3,.int .i64),(2,3,.int .i64),(3,3,.int .i64),(4,9,.string),(5,9,.string),(6,4,.bool)]:=by kernel_rfl
theorem eqf_53:zfB Tryz.prog 53=some [(0,3,.int .i64),(1,3,.int .i64),(2,3,.int .i64),(3,4,.bool)]:=by kernel_rfl
theorem call8:zAo Tryz.prog 8=true:=by kernel_rfl
theorem call10:zAo Tryz.prog 10=true:=by kernel_rfl
theorem ze7:zAo Tryz.prog 22=true:=by kernel_rfl
theorem call66:zAo Tryz.prog 66=true:=by kernel_rfl
theorem call67:zAo Tryz.prog 67=true:=by kernel_rfl
theorem call95:zAo Tryz.prog 95=true:=by kernel_rfl
theorem zfo:zAo Tryz.prog 107=true:=by kernel_rfl
theorem zfp:zAo Tryz.prog 151=true:=by kernel_rfl
theorem zWj:zAo Tryz.prog 161=true:=by kernel_rfl
theorem zfq:zAo Tryz.prog 164=true:=by kernel_rfl
theorem zfr:zAo Tryz.prog 170=true:=by kernel_rfl
theorem zfs:zAo Tryz.prog 176=true:=by kernel_rfl
theorem zft:zAo Tryz.prog 194=true:=by kernel_rfl
theorem zfu:zAo Tryz.prog 200=true:=by kernel_rfl
theorem zfv:zAo Tryz.prog 201=true:=by kernel_rfl
theorem zfw:zAo Tryz.prog 202=true:=by kernel_rfl
theorem zWk:zAo Tryz.prog 229=true:=by kernel_rfl
theorem zfx:zAo Tryz.prog 238=true:=by kernel_rfl
theorem zfy:zAo Tryz.prog 251=true:=by kernel_rfl
theorem zWl:zAo Tryz.prog 274=true:=by kernel_rfl
variable {ρ : Type} {fn:Func} {w0:Go.World} {X X0:Nat->Prop} {σ0:Nat->Value} {N0:List Nat} {post : ρ -> PV->zAC->Prop} {dz:Nat} {L:Go.World->Prop} {hl:Lay L (fun b=>¬X0 b) w0} {ro:Option Nat} {m:Option ρ} {K:List (Kont ρ)} {E:Env} {S:zAC} {all:Array Oper}
theorem fcI {fn:Func} {args:List PV} {S:zAC} {N0:List Nat} {post : ρ -> PV->zAC->Prop} {m:Option ρ} (i:Tryz.prog.funcs[f]? = some fn) (g:fn.body=some c) (h:∀{w0 X X0 σ0 hl},PW ⟨Tryz.prog,fn,w0,X,X0,σ0,N0,post,w0.heap.size+1,L,hl,none⟩ m c [] (zfe 0 args) S) (k:Nat.ble args.length fn.ntmps=true:=by exact rfl):∀r,m=some r->FC L Tryz.prog f args S N0 (post r):=fun _ hr=>zT3 i g k hr fun _ _ _ _ _=>h
theorem pq (k:Nat) {ops rest:List Oper} {E':Env} (h:zav tab fn.ntmps all S k ops E=some (rest,E')) (g:PO (⟨Tryz.prog,fn,w0,X,X0,σ0,N0,post,dz,L,hl,ro⟩:Ctx ρ) m all rest K E' S):PO (⟨Tryz.prog,fn,w0,X,X0,σ0,N0,post,dz,L,hl,ro⟩:Ctx ρ) m all ops K E S:=zHb (T:=tab) k rfl h g
theorem ps {G:Ctx ρ} (h:PN G m K E' S') (g:zOO E' E:=by repeat' first | exact trivial | refine ⟨rfl,?_⟩) (i:zGN S' S:=by repeat' first | exact trivial | refine ⟨rfl,?_⟩) (k:zA2 (S'.map (·.1))=true:=by exact rfl):PN G m K E S:=zgg h g i k
theorem lq {G:Ctx ρ} (M:Nat -> α -> Option ρ) (g : α -> Env) (Sf : α -> zAC) (n:Nat) (x : α) {body:Code} (p:∀n x,PW G (M (n+1) x) body (.iter (zXg G (M n) g Sf)::K) (g x) (Sf x)) (h:∀x,M 0 x=none:=by exact fun _=>rfl) (i:zOO (g x) E:=by repeat' first | exact trivial | refine ⟨rfl,?_⟩) (k:zGN (Sf x) S:=by repeat' first | exact trivial | refine ⟨rfl,?_⟩) (q:zA2 ((Sf x).map (·.1))=true:=by exact rfl):PW G (M n x) (.loop body) K E S:=zYa M g Sf n x h i k q p
theorem tu {M:Option α} {enc : α -> PV} {Sr : α -> zAC} {g : α -> Option ρ} (ks:List Nat) {E':Env} {s:Option Nat}
  (D:∀y,M=some y->FC L Tryz.prog f qs Sc N1 fun r S'=>r=enc y/\S'=Sr y) (G:zAo Tryz.prog f=true) (hdr:zPP (Sc.map (·.1)) S=some S1) (p:zJi ks S1=some S2) (i:zHj ks E=some E') (I:o.op=.call ⟨.value x,args,tys⟩) (hx:ev E x=some (.fn (.func f) [] [])) (H:gE all E o=some true) (F:o.dst=s) (q:dstB s fn.ntmps=true)
  (k:∀y,M=some y->PO (⟨Tryz.prog,fn,w0,X,X0,σ0,N0,post,dz,L,hl,ro⟩:Ctx ρ) (g y) all rest K (putE s (enc y) E') (Sr y++S2)) (C:zGN Sc S:=by repeat' first | exact trivial | refine ⟨rfl,?_⟩) (h:∀y,(Sr y).map (·.1)=NR:=by exact fun _=>rfl) (t:zA2 (Sc.map (·.1))=true:=by exact rfl) (u:zA2 (NR++S2.map (·.1))=true:=by exact rfl) (v:zOG NR (N1++ks)=true:=by exact rfl) (w:ks.all (zEY (⟨Tryz.prog,fn,w0,X,X0,σ0,N0,post,dz,L,hl,ro⟩:Ctx ρ))=true:=by exact rfl) (z:∀y,zDE (N1++ks) (Sr y)=true:=by exact fun _=>rfl) (B:∀y,zD5 (N1++ks) [enc y]=true:=by exact fun _=>rfl)
  (ha:zMG E args.toList qs:=by repeat' first | exact trivial | refine ⟨⟨_,rfl,.rfl⟩,?_⟩):PO (⟨Tryz.prog,fn,w0,X,X0,σ0,N0,post,dz,L,hl,ro⟩:Ctx ρ) (bnd M g) all (o::rest) K E S :=
 zUW (first:=[]) (cap:=[]) ks (by simpa using D) C h hdr p i t u v w z B I hx H ha G F q k
theorem rN {r : ρ} {q:List ResultVar} {ps:List PV} {p:PV} (i:fn.results.toList=q:=by exact rfl) (h:zgz tab E S q=some ps:=by exact rfl) (k:oneP ps=p:=by exact rfl) (g:post r p S':=by exact ⟨rfl,rfl⟩) (t:zGN S' S:=by repeat' first | exact trivial | refine ⟨rfl,?_⟩) (u:zA2 (S'.map (·.1))=true:=by exact rfl) (hz:dz=w0.heap.size+1:=by exact rfl) (s:noL K=true:=by exact rfl):PW (⟨Tryz.prog,fn,w0,X,X0,σ0,N0,post,dz,L,hl,ro⟩:Ctx ρ) (some r) .ret K E S:=zgq (T:=tab) i h k g t u hz s
theorem ns {G:Ctx ρ} (h:PW G m c K E S):PO G m all [] (.seq c::K) E S:=zGK (zIz h)
theorem sr {G:Ctx ρ} {i:Nat} {y:Code} (h:PO G m ops.toArray ops (.seq y::K) E S) (g:ops.all (fun o=>zGR o.op)=true:=by exact rfl):PW G m (.seq (.region i ops.toArray false) y) K E S:=zTF (zFU h g)
abbrev nB (x:Node×Bool):List PV×Bool:=(zAZ x.1,x.2)
abbrev DD {α : Type} (m:Option α) (f:FuncId) (args:List PV) (e : α -> PV):Prop:=∀r,m=some r->DC zRm Tryz.prog f args (e r)
abbrev FF {α : Type} (m:Option α) (f:FuncId) (args:List PV) (S:zAC) (N:List Nat) (e : α -> PV) (s : α -> zAC):Prop:=∀r,m=some r->FC zRm Tryz.prog f args S N fun p S'=>p=e r/\S'=s r
theorem lw {G:Ctx ρ} (M:Nat -> α -> Option ρ) (p ks:List Nat) (h : α -> Env) (g : α -> zAC) (n:Nat) (x : α) {body:Code} {E0:Env} {S0:zAC} (i:zc1 p E=some E0) (k:zXP ks S=some S0)
  (t:∀n x,PW G (M (n+1) x) body (.iter (zXg G (M n) (fun x=>h x++E0) (fun x=>g x++S0))::K) (h x++E0) (g x++S0)) (q:∀x,M 0 x=none:=by exact fun _=>rfl) (r:zOO (h x) E:=by repeat' first | exact trivial | refine ⟨rfl,?_⟩) (s:zGN (g x) S:=by repeat' first | exact trivial | refine ⟨rfl,?_⟩) (u:zA2 ((g x++S0).map (·.1))=true:=by exact rfl):PW G (M n x) (.loop body) K E S:=zeM M p ks h g n x i k t q r s u
theorem jw {G:Ctx ρ} (J : α -> Option ρ) (i ks:List Nat) (g : α -> Env) (h : α -> zAC) {E0:Env} {S0:zAC} (k:zc1 i E=some E0) (p:zXP ks S=some S0) (q:∀x,PN G (J x) K (g x++E0) (h x++S0)) (body:(∀x,PN G (J x) K (g x++E0) (h x++S0))->PW G m c K E S):PW G m c K E S:=zeL J i ks g h k p q body
theorem pk {M:Option α} {enc : α -> PV} {g : α -> Option ρ} (i:∀y,M=some y->DC L Tryz.prog f qs (enc y)) (t:o.op=.call ⟨.value (.func f),args,tys⟩) (p:o.dst=some d)
  (k:∀y,M=some y->PO (⟨Tryz.prog,fn,w0,X,X0,σ0,N0,post,dz,L,hl,ro⟩:Ctx ρ) (g y) all rest K ((d,enc y)::E) S) (s:gE all E o=some true:=by exact rfl) (h:lB d fn.ntmps=true:=by exact rfl) (ha:zMG E args.toList qs:=by repeat' first | exact trivial | refine ⟨⟨_,rfl,.rfl⟩,?_⟩) (q:∀y,noN (enc y)=true:=by exact fun _=>rfl) (r:zAo Tryz.prog f=true:=by kernel_rfl):PO (⟨Tryz.prog,fn,w0,X,X0,σ0,N0,post,dz,L,hl,ro⟩:Ctx ρ) (bnd M g) all (o::rest) K E S:=zKa i t s ha q r p h k
theorem tq {M:Option α} {enc : α -> PV} {Sr : α -> zAC} {g : α -> Option ρ} (rn:List (Nat×Nat)) (ks:List Nat) {E':Env} {s:Option Nat}
  (D:∀y,M=some y->FC L Tryz.prog f qs Sc N1 fun r S'=>r=enc y/\S'=Sr y) (F:o.dst=s) (I:o.op=.call ⟨.value x,args,tys⟩) (hx:ev E x=some (.fn (.func f) first cap)) (C:zXP ((zJp rn Sc).map (·.1)) S=some (zJp rn Sc)) (hm:midL first.length cap.length (zNk rn qs)=some qa)
  (hdr:zPP ((zJp rn Sc).map (·.1)) S=some S1) (p:zJi ks S1=some S2) (i:zHj ks E=some E')
  (k:∀y,M=some y->PO (⟨Tryz.prog,fn,w0,X,X0,σ0,N0,post,dz,L,hl,ro⟩:Ctx ρ) (g y) all rest K (putE s (Pw.ren rn (enc y)) E') (zJp rn (Sr y)++S2))
  (h:∀y,zgU (zJp rn (Sr y))=some NR:=by exact fun _=>rfl) (H:gE all E o=some true:=by exact rfl) (ha:zMG E args.toList qa:=by repeat' first | exact trivial | refine ⟨⟨_,rfl,.rfl⟩,?_⟩) (J:zNk rn qs=first++qa++cap:=by exact rfl)
  (N:zA2 ((rn.map (·.1)).map (rho rn))=true:=by exact rfl) (P:zOG (Sc.map (·.1)) (rn.map (·.1))=true:=by exact rfl) (Q:∀y,zOG ((Sr y).map (·.1)) (rn.map (·.1))=true:=by exact fun _=>rfl) (T:zOG N1 (rn.map (·.1))=true:=by exact rfl) (W:∀y,zDE (rn.map (·.1)) (Sr y)=true:=by exact fun _=>rfl) (u5:∀y,zD5 (rn.map (·.1)) [enc y]=true:=by exact fun _=>rfl)
  (t:zA2 ((zJp rn Sc).map (·.1))=true:=by exact rfl) (u:zA2 (NR++S2.map (·.1))=true:=by exact rfl) (v:zOG NR (N1.map (rho rn)++ks)=true:=by exact rfl) (w:ks.all (zEY (⟨Tryz.prog,fn,w0,X,X0,σ0,N0,post,dz,L,hl,ro⟩:Ctx ρ))=true:=by exact rfl) (z:∀y,zDE (N1.map (rho rn)++ks) (zJp rn (Sr y))=true:=by exact fun _=>rfl) (B:∀y,zD5 (N1.map (rho rn)++ks) [Pw.ren rn (enc y)]=true:=by exact fun _=>rfl)
  (G:zAo Tryz.prog f=true:=by kernel_rfl) (q:dstB s fn.ntmps=true:=by exact rfl):PO (⟨Tryz.prog,fn,w0,X,X0,σ0,N0,post,dz,L,hl,ro⟩:Ctx ρ) (bnd M g) all (o::rest) K E S :=
 zYV (first:=first) (cap:=cap) (qs:=qa) rn ks D F I hx C hdr p i k J H ha h N P Q T W u5 t u v w z B G q
theorem vq (k:Nat) {ms:List Nat} {ment0:List (Nat×List Nat)} {ops rest:List Oper} {j i:Nat} {acc g:List Summ} {V V':Vw} (h:zSE tab fn.ntmps all k ops j acc V=some (rest,i,g,V')) (p:zcV (⟨Tryz.prog,fn,w0,X,X0,σ0,N0,post,dz,L,hl,ro⟩:Ctx ρ) tab all ms ment0 k ops j acc V=true) (q:PDV (⟨Tryz.prog,fn,w0,X,X0,σ0,N0,post,dz,L,hl,ro⟩:Ctx ρ) m all ms ment0 rest i g V' K):PDV (⟨Tryz.prog,fn,w0,X,X0,σ0,N0,post,dz,L,hl,ro⟩:Ctx ρ) m all ms ment0 ops j acc V K:=zbp (T:=tab) k h p q
theorem vT {M:Option α} {g : α -> Option ρ} (reads writes ks:List Nat) {E0:Env} {S0:zAC} {p : α -> Env} {Sf : α -> zAC} {W : α -> Vw} {ment:List (Nat×List Nat)}
  (q:zLp V reads=some E0) (r:zME V reads=some S0)
  (h:∀{w0 X X0 σ0 hl},PO (⟨Tryz.prog,fn,w0,X,X0,σ0,exK ks (zNf E0++nsB S0),fun _ _ _=>True,dz,L,hl,ro⟩:Ctx α) (bnd M some) all [o] [.iter fun y a w=>Pre (⟨Tryz.prog,fn,w0,X,X0,σ0,exK ks (zNf E0++nsB S0),fun _ _ _=>True,dz,L,hl,ro⟩:Ctx α) (zLK writes (p y)) (zIk (zK9 writes++zBk writes S0) (Sf y)) a w] E0 S0)
  (u:∀y,wOf (zLK writes (p y)) (zIk (zK9 writes++zBk writes S0) (Sf y)) writes=some (W y)) (z:∀y,zKz (W y)=some ment)
  (k:∀y,M=some y->PDV (⟨Tryz.prog,fn,w0,X,X0,σ0,N0,post,dz,L,hl,ro⟩:Ctx ρ) (g y) all ms ment0 rest (j+1) (⟨reads,writes,ks,ment⟩::acc) (W y++V) K)
  (t:zH4 (ms.getD j 0) ment0 j ⟨reads,writes,ks,ment⟩ acc=true:=by kernel_rfl) (v:zHd (⟨Tryz.prog,fn,w0,X,X0,σ0,N0,post,dz,L,hl,ro⟩:Ctx ρ) ks writes (zBk writes S0) S0 o=true:=by kernel_rfl) (s:∀y,zGG (exK ks (zNf E0++nsB S0)) ks writes (zBk writes S0) (zLK writes (p y)) (zIk (zK9 writes++zBk writes S0) (Sf y))=true:=by exact fun _=>by kernel_rfl)
  (i:∀y,zJ9 (zBk writes S0) (zIk (zK9 writes++zBk writes S0) (Sf y)) S0:=by intro y;repeat' first | exact trivial | refine ⟨rfl,?_⟩):PDV (⟨Tryz.prog,fn,w0,X,X0,σ0,N0,post,dz,L,hl,ro⟩:Ctx ρ) (bnd M g) all ms ment0 (o::rest) j acc V K :=
 zR1 reads writes ks q r (fun _ _ _ _ _=>h) u z k t v s i
theorem vS (reads writes ks:List Nat) {E0:Env} {S0:zAC} {E1:Env} {S1:zAC} {W:Vw} {ment:List (Nat×List Nat)}
  (i:zLp V reads=some E0) (p:zME V reads=some S0)
  (h:∀{w0 X X0 σ0 hl},PO (⟨Tryz.prog,fn,w0,X,X0,σ0,exK ks (zNf E0++nsB S0),fun _ _ _=>True,dz,L,hl,ro⟩:Ctx Unit) (some ()) all [o] [.iter fun _ a w=>Pre (⟨Tryz.prog,fn,w0,X,X0,σ0,exK ks (zNf E0++nsB S0),fun _ _ _=>True,dz,L,hl,ro⟩:Ctx Unit) (zLK writes E1) (zIk (zK9 writes++zBk writes S0) S1) a w] E0 S0)
  (s:wOf (zLK writes E1) (zIk (zK9 writes++zBk writes S0) S1) writes=some W) (u:zKz W=some ment)
  (k:PDV (⟨Tryz.prog,fn,w0,X,X0,σ0,N0,post,dz,L,hl,ro⟩:Ctx ρ) m all ms ment0 rest (j+1) (⟨reads,writes,ks,ment⟩::acc) (W++V) K)
  (r:zH4 (ms.getD j 0) ment0 j ⟨reads,writes,ks,ment⟩ acc=true:=by kernel_rfl) (t:zHd (⟨Tryz.prog,fn,w0,X,X0,σ0,N0,post,dz,L,hl,ro⟩:Ctx ρ) ks writes (zBk writes S0) S0 o=true:=by kernel_rfl) (q:zGG (exK ks (zNf E0++nsB S0)) ks writes (zBk writes S0) (zLK writes E1) (zIk (zK9 writes++zBk writes S0) S1)=true:=by kernel_rfl)
  (g:zJ9 (zBk writes S0) (zIk (zK9 writes++zBk writes S0) S1) S0:=by repeat' first | exact trivial | refine ⟨rfl,?_⟩):PDV (⟨Tryz.prog,fn,w0,X,X0,σ0,N0,post,dz,L,hl,ro⟩:Ctx ρ) m all ms ment0 (o::rest) j acc V K :=
 zTB reads writes ks i p (fun _ _ _ _ _=>h) s u k r t q g
theorem vU {M:Option Unit} {g:Unit->Option ρ} (reads writes ks:List Nat) {E0:Env} {S0:zAC} {E1:Env} {S1:zAC} {W:Vw} {ment:List (Nat×List Nat)}
  (p:zLp V reads=some E0) (q:zME V reads=some S0)
  (h:∀{w0 X X0 σ0 hl},PO (⟨Tryz.prog,fn,w0,X,X0,σ0,exK ks (zNf E0++nsB S0),fun _ _ _=>True,dz,L,hl,ro⟩:Ctx Unit) (bnd M some) all [o] [.iter fun _ a w=>Pre (⟨Tryz.prog,fn,w0,X,X0,σ0,exK ks (zNf E0++nsB S0),fun _ _ _=>True,dz,L,hl,ro⟩:Ctx Unit) (zLK writes E1) (zIk (zK9 writes++zBk writes S0) S1) a w] E0 S0)
  (t:wOf (zLK writes E1) (zIk (zK9 writes++zBk writes S0) S1) writes=some W) (v:zKz W=some ment)
  (k:∀y,M=some y->PDV (⟨Tryz.prog,fn,w0,X,X0,σ0,N0,post,dz,L,hl,ro⟩:Ctx ρ) (g y) all ms ment0 rest (j+1) (⟨reads,writes,ks,ment⟩::acc) (W++V) K)
  (s:zH4 (ms.getD j 0) ment0 j ⟨reads,writes,ks,ment⟩ acc=true:=by kernel_rfl) (u:zHd (⟨Tryz.prog,fn,w0,X,X0,σ0,N0,post,dz,L,hl,ro⟩:Ctx ρ) ks writes (zBk writes S0) S0 o=true:=by kernel_rfl) (r:zGG (exK ks (zNf E0++nsB S0)) ks writes (zBk writes S0) (zLK writes E1) (zIk (zK9 writes++zBk writes S0) S1)=true:=by kernel_rfl)
  (i:zJ9 (zBk writes S0) (zIk (zK9 writes++zBk writes S0) S1) S0:=by repeat' first | exact trivial | refine ⟨rfl,?_⟩):PDV (⟨Tryz.prog,fn,w0,X,X0,σ0,N0,post,dz,L,hl,ro⟩:Ctx ρ) (bnd M g) all ms ment0 (o::rest) j acc V K :=
 zbr reads writes ks p q (fun _ _ _ _ _=>h) t v k s u r i
theorem pzq {H:Ctx α} {y : α} {g : α -> Env} {Sf : α -> zAC} (h:zA2 ((zIk kp (Sf y)).map (·.1))=true):PO H (some y) all [] [.iter fun y a w=>Pre H (zLK wr (g y)) (zIk kp (Sf y)) a w] (g y) (Sf y):=zgi h
theorem pyq {H:Ctx Unit} {E1:Env} (g:zA2 ((zIk kp S1).map (·.1))=true):PO H (some ()) all [] [.iter fun _ a w=>Pre H (zLK wr E1) (zIk kp S1) a w] E1 S1:=zeE g
theorem thpq {k:Nat} (h:zav tab fn.ntmps all S k ops E=some (rest,E')) (g:Th l (PO (⟨Tryz.prog,fn,w0,X,X0,σ0,N0,post,dz,L,hl,ro⟩:Ctx ρ) m all rest K E' S)):Gd k l (PO (⟨Tryz.prog,fn,w0,X,X0,σ0,N0,post,dz,L,hl,ro⟩:Ctx ρ) m all ops K E S):=⟨pq k h g.h⟩
theorem thvq {k:Nat} {i:Nat} {g:List Summ} {V':Vw} (h:zSE tab fn.ntmps all k ops j acc V=some (rest,i,g,V')) (p:zcV (⟨Tryz.prog,fn,w0,X,X0,σ0,N0,post,dz,L,hl,ro⟩:Ctx ρ) tab all ms ment0 k ops j acc V=true) (q:Th l (PDV (⟨Tryz.prog,fn,w0,X,X0,σ0,N0,post,dz,L,hl,ro⟩:Ctx ρ) m all ms ment0 rest i g V' K)):Gd k l (PDV (⟨Tryz.prog,fn,w0,X,X0,σ0,N0,post,dz,L,hl,ro⟩:Ctx ρ) m all ms ment0 ops j acc V K):=⟨vq k h p q.h⟩
theorem thbox {p:PV} (w:o.op=.box elem x) (u:gE all E o=some true) (hx:ev E x=some p)
  (g:zOb p=some cs) (t:o.dst=some d) (i:lB d fn.ntmps=true) (v:zEY (⟨Tryz.prog,fn,w0,X,X0,σ0,N0,post,dz,L,hl,ro⟩:Ctx ρ) n=true) (q:zFh n E=some E') (r:zEx n S=some S') (s:zK3 n cs=some cs')
  (k:Th l (PO (⟨Tryz.prog,fn,w0,X,X0,σ0,N0,post,dz,L,hl,ro⟩:Ctx ρ) m all rest K ((d,.loc n 0)::E') ((n,.box elem cs')::S'))):Gd 30 (n::l) (PO (⟨Tryz.prog,fn,w0,X,X0,σ0,N0,post,dz,L,hl,ro⟩:Ctx ρ) m all (o::rest) K E S):=⟨zR5 n w u hx g t i v q r s k.h⟩
theorem zhF (v:o.op=.alloc elem) (t:gE all E o=some true)
  (g:zWK tab elem=some cs) (s:o.dst=some d) (i:lB d fn.ntmps=true) (u:zEY (⟨Tryz.prog,fn,w0,X,X0,σ0,N0,post,dz,L,hl,ro⟩:Ctx ρ) n=true) (p:zFh n E=some E') (q:zEx n S=some S') (r:zK3 n cs=some cs')
  (k:Th l (PO (⟨Tryz.prog,fn,w0,X,X0,σ0,N0,post,dz,L,hl,ro⟩:Ctx ρ) m all rest K ((d,.loc n 0)::E') ((n,.box elem cs')::S'))):Gd 31 (n::l) (PO (⟨Tryz.prog,fn,w0,X,X0,σ0,N0,post,dz,L,hl,ro⟩:Ctx ρ) m all (o::rest) K E S):=⟨zFf (T:=tab) n v t g s i u p q r k.h⟩
theorem thfr (p:lkS S n=some (.arr e size rows)) (g:zX2 n (.sl size false rows) E=some E') (i:zVT n (.sl size false rows) S=some S') (k:Th l (PO (⟨Tryz.prog,fn,w0,X,X0,σ0,N0,post,dz,L,hl,ro⟩:Ctx ρ) m all ops K E' S')):Gd 33 (n::l) (PO (⟨Tryz.prog,fn,w0,X,X0,σ0,N0,post,dz,L,hl,ro⟩:Ctx ρ) m all ops K E S):=⟨zGf n p g i k.h⟩
theorem thwf (p:lkS S n=some (.arr e size rows)) (g:zX2 n (.sl size false rows) E=some E') (i:zVT n (.sl size false rows) S=some S') (k:Th l (PW (⟨Tryz.prog,fn,w0,X,X0,σ0,N0,post,dz,L,hl,ro⟩:Ctx ρ) m c K E' S')):Gd 34 (n::l) (PW (⟨Tryz.prog,fn,w0,X,X0,σ0,N0,post,dz,L,hl,ro⟩:Ctx ρ) m c K E S):=⟨zb5 n p g i k.h⟩
theorem thsp {b:Bool} {i k:Option ρ} (g:lk E j=some (.v (.bool b))) (p:Th (l.take n) (PO (⟨Tryz.prog,fn,w0,X,X0,σ0,N0,post,dz,L,hl,ro⟩:Ctx ρ) i all ops K ((j,.v (.bool true))::E) S)) (q:Th (l.drop n) (PO (⟨Tryz.prog,fn,w0,X,X0,σ0,N0,post,dz,L,hl,ro⟩:Ctx ρ) k all ops K ((j,.v (.bool false))::E) S)):Gd 26 (j::n::l) (PO (⟨Tryz.prog,fn,w0,X,X0,σ0,N0,post,dz,L,hl,ro⟩:Ctx ρ) (cnd b i k) all ops K E S):=⟨zAV g p.h q.h⟩
theorem thsq {b:Bool} {i k:Option ρ} (g:lk E j=some (.v (.bool b))) (q:Th (l.take n) (PO (⟨Tryz.prog,fn,w0,X,X0,σ0,N0,post,dz,L,hl,ro⟩:Ctx ρ) k all ops K ((j,.v (.bool false))::E) S)) (p:Th (l.drop n) (PO (⟨Tryz.prog,fn,w0,X,X0,σ0,N0,post,dz,L,hl,ro⟩:Ctx ρ) i all ops K ((j,.v (.bool true))::E) S)):Gd 27 (j::n::l) (PO (⟨Tryz.prog,fn,w0,X,X0,σ0,N0,post,dz,L,hl,ro⟩:Ctx ρ) (cnd b i k) all ops K E S):=⟨zAV g p.h q.h⟩
theorem piG {G:Ctx ρ} {M : α -> Option ρ} {g : α -> Env} {Sf : α -> zAC} {x : α} (_:Tx x) (h:zOO (g x) E:=by repeat' first | exact trivial | refine ⟨rfl,?_⟩) (i:zGN (Sf x) S:=by repeat' first | exact trivial | refine ⟨rfl,?_⟩) (k:zA2 ((Sf x).map (·.1))=true:=by exact rfl):PN G (M x) (.iter (zXg G M g Sf)::K) E S:=zeA x h i k
theorem thon {t:Nat} (g:lk E t=some (.v (.slice none 0 0))) (q:zEY (⟨Tryz.prog,fn,w0,X,X0,σ0,N0,post,dz,L,hl,ro⟩:Ctx ρ) n=true) (i:zFh n E=some E') (p:zEx n S=some S') (k:Th l (PW (⟨Tryz.prog,fn,w0,X,X0,σ0,N0,post,dz,L,hl,ro⟩:Ctx ρ) m c K ((t,.own n)::E') ((n,.arr e size [])::S'))):Gd 56 (n::e::size::t::l) (PW (⟨Tryz.prog,fn,w0,X,X0,σ0,N0,post,dz,L,hl,ro⟩:Ctx ρ) m c K E S):=⟨zZf n e size t g q i p k.h⟩
theorem pl (rows:List (List PV)) (n:Nat) {t e size h len:Nat} {parts:Array (Nat×Operand)} {z:Value} {d:Nat} {E':Env} {S':zAC} (B:o.op=.buildSlice t len parts) (C:lku tab.els t=some (e,size,h)) (hz:lku tab.zeros e=some z) (u:o.dst=some d) (r:zFh n E=some E') (s:zEx n S=some S') (k:PO (⟨Tryz.prog,fn,w0,X,X0,σ0,N0,post,dz,L,hl,ro⟩:Ctx ρ) m all rest K ((d,.own n)::E') ((n,.arr e size rows)::S'))
  (hr:zZh size E 0 parts.toList=some rows:=by exact rfl) (w:gE all E o=some true:=by exact rfl) (v:lB e zLI=true:=by exact rfl) (g:len=rows.length:=by exact rfl) (i:Nat.ble len 10000=true:=by exact rfl) (q:Nat.ble (len*size) 10000=true:=by exact rfl) (p:lB d fn.ntmps=true:=by exact rfl) (y:zEY (⟨Tryz.prog,fn,w0,X,X0,σ0,N0,post,dz,L,hl,ro⟩:Ctx ρ) n=true:=by exact rfl):PO (⟨Tryz.prog,fn,w0,X,X0,σ0,N0,post,dz,L,hl,ro⟩:Ctx ρ) m all (o::rest) K E S :=
 po_lit (T:=tab) n B w v C hz hr g i q u p y r s k
theorem pa {f:Unit->Option ρ} (enc : α -> List PV) (xs ys:List α) {args:Array Operand} {tys:Array TypeId} {t n e size g:Nat} {x y:Operand} {q:PV} {z:Value} {d:Nat} {E':Env} {S':zAC} (J:o.op=.call ⟨.builtin .append,args,tys⟩) (v:args.toList=[x,y]) (w:tys.toList=[t,t]) (hx:ev E x=some (.own n)) (D:lkS S n=some (.arr e size (xs.map enc)))
  (hy:ev E y=some q) (N:lku tab.els t=some (e,size,g)) (hz:lku tab.zeros e=some z) (h:∀r∈ys.map enc,r.all zGd=true) (F:o.dst=some d) (B:zFh n E=some E') (C:zEx n S=some S') (k:PO (⟨Tryz.prog,fn,w0,X,X0,σ0,N0,post,dz,L,hl,ro⟩:Ctx ρ) (f ()) all rest K ((d,.own n)::E') ((n,.arr e size ((xs++ys).map enc))::S'))
  (G:lB e zLI=true:=by exact rfl) (H:gE all E o=some true:=by exact rfl) (M:zg9 S q=some (size,ys.map enc):=by exact rfl) (u:z.cells.size=size:=by exact rfl) (s:lB 0 size=true:=by exact rfl) (i:lB 0 g=true:=by exact rfl) (p:lB d fn.ntmps=true:=by exact rfl) (I:zEY (⟨Tryz.prog,fn,w0,X,X0,σ0,N0,post,dz,L,hl,ro⟩:Ctx ρ) n=true:=by exact rfl):PO (⟨Tryz.prog,fn,w0,X,X0,σ0,N0,post,dz,L,hl,ro⟩:Ctx ρ) (bnd (zDI g (xs.length+ys.length)) f) all (o::rest) K E S :=
 zbu (T:=tab) enc xs ys G J v w H hx D hy M N hz u s i h F p I B C k
theorem thsel {b:Nat} {g:List Nat} (hr:zHi (l.take a)=some g) (q:zHi ((l.drop a).take b)=some ks) (i:zc1 g E=some E') (k:zXP ks S=some S') (p:zA2 ks=true) (h:Th ((l.drop a).drop b) (PW (⟨Tryz.prog,fn,w0,X,X0,σ0,N0,post,dz,L,hl,ro⟩:Ctx ρ) m c K E' S')):Gd 52 (a::b::l) (PW (⟨Tryz.prog,fn,w0,X,X0,σ0,N0,post,dz,L,hl,ro⟩:Ctx ρ) m c K E S):=⟨zgr g ks i k p h.h⟩
theorem thdv {r:Nat} (hr:zHi (l.take a)=some ms) (i:zLk 0 ops=true) (g:zN5 ms ops ms=true) (p:zHi (zWB E++zWD S)=some V) (k:zJk V=ment0) (h:Th (l.drop a) (PDV (⟨Tryz.prog,fn,w0,X,X0,σ0,N0,post,dz,L,hl,ro⟩:Ctx ρ) m ops.toArray ms ment0 ops 0 [] V K)) (q:ops.all (fun o=>zGR o.op)=true:=by exact rfl):Gd 53 (a::l) (PW (⟨Tryz.prog,fn,w0,X,X0,σ0,N0,post,dz,L,hl,ro⟩:Ctx ρ) m (.region r ops.toArray true) K E S):=⟨zeK ms mixed i g p k h.h q⟩
theorem thvs {c b:Nat} {E1:Env} {W:Vw} 
  (hr:zHi (l.take a)=some reads) (v:zHi ((l.drop a).take b)=some writes) (i:zLp V reads=some E0) (p:zME V reads=some S0)
  (h:∀w0 X X0 σ0 hl,PO (⟨Tryz.prog,fn,w0,X,X0,σ0,exK [] (zNf E0++nsB S0),fun _ _ _=>True,dz,L,hl,ro⟩:Ctx Unit) (some ()) all [o] [.iter fun _ a w=>Pre (⟨Tryz.prog,fn,w0,X,X0,σ0,exK [] (zNf E0++nsB S0),fun _ _ _=>True,dz,L,hl,ro⟩:Ctx Unit) (zLK writes E1) (zIk (zK9 writes++zBk writes S0) S1) a w] E0 S0)
  (s:wOf (zLK writes E1) (zIk (zK9 writes++zBk writes S0) S1) writes=some W) (u:zKz W=some ment)
  (k:Th ((l.drop a).drop b) (PDV (⟨Tryz.prog,fn,w0,X,X0,σ0,N0,post,dz,L,hl,ro⟩:Ctx ρ) m all ms ment0 rest (j+1) (⟨reads,writes,[],ment⟩::acc) (W++V) K))
  (r:zH4 (ms.getD j 0) ment0 j ⟨reads,writes,[],ment⟩ acc=true:=by kernel_rfl) (t:zHd (⟨Tryz.prog,fn,w0,X,X0,σ0,N0,post,dz,L,hl,ro⟩:Ctx ρ) [] writes (zBk writes S0) S0 o=true:=by kernel_rfl) (q:zGG (exK [] (zNf E0++nsB S0)) [] writes (zBk writes S0) (zLK writes E1) (zIk (zK9 writes++zBk writes S0) S1)=true:=by kernel_rfl)
  (g:zJ9 (zBk writes S0) (zIk (zK9 writes++zBk writes S0) S1) S0:=by repeat' first | exact trivial | refine ⟨rfl,?_⟩):Gd c (a::b::l) (PDV (⟨Tryz.prog,fn,w0,X,X0,σ0,N0,post,dz,L,hl,ro⟩:Ctx ρ) m all ms ment0 (o::rest) j acc V K) :=
 ⟨zTB reads writes [] i p h s u k.h r t q g⟩
theorem thvt {c b:Nat} {M:Option α} {g : α -> Option ρ} {p : α -> Env} {Sf : α -> zAC} {W : α -> Vw} 
  (hr:zHi (l.take a)=some reads) (B:zHi ((l.drop a).take b)=some writes) (q:zLp V reads=some E0) (r:zME V reads=some S0)
  (h:∀w0 X X0 σ0 hl,PO (⟨Tryz.prog,fn,w0,X,X0,σ0,exK ks (zNf E0++nsB S0),fun _ _ _=>True,dz,L,hl,ro⟩:Ctx α) (bnd M some) all [o] [.iter fun y a w=>Pre (⟨Tryz.prog,fn,w0,X,X0,σ0,exK ks (zNf E0++nsB S0),fun _ _ _=>True,dz,L,hl,ro⟩:Ctx α) (zLK writes (p y)) (zIk (zK9 writes++zBk writes S0) (Sf y)) a w] E0 S0)
  (u:∀y,wOf (zLK writes (p y)) (zIk (zK9 writes++zBk writes S0) (Sf y)) writes=some (W y)) (z:∀y,zKz (W y)=some ment)
  (k:Th ((l.drop a).drop b) (∀y,M=some y->PDV (⟨Tryz.prog,fn,w0,X,X0,σ0,N0,post,dz,L,hl,ro⟩:Ctx ρ) (g y) all ms ment0 rest (j+1) (⟨reads,writes,ks,ment⟩::acc) (W y++V) K))
  (t:zH4 (ms.getD j 0) ment0 j ⟨reads,writes,ks,ment⟩ acc=true:=by kernel_rfl) (v:zHd (⟨Tryz.prog,fn,w0,X,X0,σ0,N0,post,dz,L,hl,ro⟩:Ctx ρ) ks writes (zBk writes S0) S0 o=true:=by kernel_rfl) (s:∀y,zGG (exK ks (zNf E0++nsB S0)) ks writes (zBk writes S0) (zLK writes (p y)) (zIk (zK9 writes++zBk writes S0) (Sf y))=true:=by exact fun _=>by kernel_rfl)
  (i:∀y,zJ9 (zBk writes S0) (zIk (zK9 writes++zBk writes S0) (Sf y)) S0:=by intro y;repeat' first | exact trivial | refine ⟨rfl,?_⟩):Gd c (a::b::l) (PDV (⟨Tryz.prog,fn,w0,X,X0,σ0,N0,post,dz,L,hl,ro⟩:Ctx ρ) (bnd M g) all ms ment0 (o::rest) j acc V K) :=
 ⟨zR1 reads writes ks q r h u z k.h t v s i⟩
theorem thvg {c b:Nat} {M:Option α} {g : α -> Option ρ} {p : α -> Env} {Sf : α -> zAC} {W : α -> Vw} 
  {H:Prop} {rn:List (Nat×Nat)} (_:Tg rn ks H) (hr:zHi (l.take a)=some reads) (B:zHi ((l.drop a).take b)=some writes) (q:zLp V reads=some E0) (r:zME V reads=some S0)
  (h:∀w0 X X0 σ0 hl,PO (⟨Tryz.prog,fn,w0,X,X0,σ0,exK ks (zNf E0++nsB S0),fun _ _ _=>True,dz,L,hl,ro⟩:Ctx α) (bnd M some) all [o] [.iter fun y a w=>Pre (⟨Tryz.prog,fn,w0,X,X0,σ0,exK ks (zNf E0++nsB S0),fun _ _ _=>True,dz,L,hl,ro⟩:Ctx α) (zLK writes (p y)) (zIk (zK9 writes++zBk writes S0) (Sf y)) a w] E0 S0)
  (u:∀y,wOf (zLK writes (p y)) (zIk (zK9 writes++zBk writes S0) (Sf y)) writes=some (W y)) (z:∀y,zKz (W y)=some ment)
  (k:Th ((l.drop a).drop b) (∀y,M=some y->PDV (⟨Tryz.prog,fn,w0,X,X0,σ0,N0,post,dz,L,hl,ro⟩:Ctx ρ) (g y) all ms ment0 rest (j+1) (⟨reads,writes,ks,ment⟩::acc) (W y++V) K))
  (t:zH4 (ms.getD j 0) ment0 j ⟨reads,writes,ks,ment⟩ acc=true:=by kernel_rfl) (v:zHd (⟨Tryz.prog,fn,w0,X,X0,σ0,N0,post,dz,L,hl,ro⟩:Ctx ρ) ks writes (zBk writes S0) S0 o=true:=by kernel_rfl) (s:∀y,zGG (exK ks (zNf E0++nsB S0)) ks writes (zBk writes S0) (zLK writes (p y)) (zIk (zK9 writes++zBk writes S0) (Sf y))=true:=by exact fun _=>by kernel_rfl)
  (i:∀y,zJ9 (zBk writes S0) (zIk (zK9 writes++zBk writes S0) (Sf y)) S0:=by intro y;repeat' first | exact trivial | refine ⟨rfl,?_⟩):Gd c (a::b::l) (PDV (⟨Tryz.prog,fn,w0,X,X0,σ0,N0,post,dz,L,hl,ro⟩:Ctx ρ) (bnd M g) all ms ment0 (o::rest) j acc V K) :=
 ⟨zR1 reads writes ks q r h u z k.h t v s i⟩
theorem tqG {M:Option α} {enc : α -> PV} {Sr : α -> zAC} {g : α -> Option ρ} {t:Option Nat} 
  (F:Tg rn ks (∀y,M=some y->FC L Tryz.prog f qs Sc N1 fun r S'=>r=enc y/\S'=Sr y)) (G:o.dst=t) (J:o.op=.call ⟨.value x,args,tys⟩) (hx:ev E x=some (.fn (.func f) first cap)) (D:zXP ((zJp rn Sc).map (·.1)) S=some (zJp rn Sc)) (hm:midL first.length cap.length (zNk rn qs)=some qa)
  (hdr:zPP ((zJp rn Sc).map (·.1)) S=some S1) (q:zJi ks S1=some S2) (p:zHj ks E=some E')
  (k:∀y,M=some y->PO (⟨Tryz.prog,fn,w0,X,X0,σ0,N0,post,dz,L,hl,ro⟩:Ctx ρ) (g y) all rest K (putE t (Pw.ren rn (enc y)) E') (zJp rn (Sr y)++S2))
  (i:∀y,zgU (zJp rn (Sr y))=some NR:=by exact fun _=>rfl) (I:gE all E o=some true:=by exact rfl) (ha:zMG E args.toList qa:=by repeat' first | exact trivial | refine ⟨⟨_,rfl,.rfl⟩,?_⟩) (N:zNk rn qs=first++qa++cap:=by exact rfl)
  (P:zA2 ((rn.map (·.1)).map (rho rn))=true:=by exact rfl) (Q:zOG (Sc.map (·.1)) (rn.map (·.1))=true:=by exact rfl) (T:∀y,zOG ((Sr y).map (·.1)) (rn.map (·.1))=true:=by exact fun _=>rfl) (W:zOG N1 (rn.map (·.1))=true:=by exact rfl) (u4:∀y,zDE (rn.map (·.1)) (Sr y)=true:=by exact fun _=>rfl) (u5:∀y,zD5 (rn.map (·.1)) [enc y]=true:=by exact fun _=>rfl)
  (u:zA2 ((zJp rn Sc).map (·.1))=true:=by exact rfl) (v:zA2 (NR++S2.map (·.1))=true:=by exact rfl) (w:zOG NR (N1.map (rho rn)++ks)=true:=by exact rfl) (z:ks.all (zEY (⟨Tryz.prog,fn,w0,X,X0,σ0,N0,post,dz,L,hl,ro⟩:Ctx ρ))=true:=by exact rfl) (B:∀y,zDE (N1.map (rho rn)++ks) (zJp rn (Sr y))=true:=by exact fun _=>rfl) (C:∀y,zD5 (N1.map (rho rn)++ks) [Pw.ren rn (enc y)]=true:=by exact fun _=>rfl)
  (H:zAo Tryz.prog f=true:=by kernel_rfl) (s:dstB t fn.ntmps=true:=by exact rfl):PO (⟨Tryz.prog,fn,w0,X,X0,σ0,N0,post,dz,L,hl,ro⟩:Ctx ρ) (bnd M g) all (o::rest) K E S :=
 zYV (first:=first) (cap:=cap) (qs:=qa) rn ks F.h G J hx D hdr q p k N I ha i P Q T W u4 u5 u v w z B C H s
theorem cqG {i:List PV} {M:Option α} {enc : α -> PV} {g : α -> Option ρ} 
  (u:Tg rn ks (∀y,M=some y->FC L Tryz.prog f i Sc (Sc.map (·.1)) fun r S'=>r=enc y/\S'=Sc)) (v:o.dst=some d) (C:o.op=.call ⟨.value x,args,tys⟩) (hx:ev E x=some (.fn (.func f) first cap)) (t:zXP ((zJp rn Sc).map (·.1)) S=some (zJp rn Sc)) (J:midL first.length cap.length (zNk rn i)=some qs)
  (k:∀y,M=some y->PO (⟨Tryz.prog,fn,w0,X,X0,σ0,N0,post,dz,L,hl,ro⟩:Ctx ρ) (g y) all rest K ((d,Pw.ren rn (enc y))::E) S)
  (D:zNk rn i=first++qs++cap:=by exact rfl) (B:gE all E o=some true:=by exact rfl) (ha:zMG E args.toList qs:=by repeat' first | exact trivial | refine ⟨⟨_,rfl,.rfl⟩,?_⟩)
  (F:zA2 ((rn.map (·.1)).map (rho rn))=true:=by exact rfl) (G:zOG (Sc.map (·.1)) (rn.map (·.1))=true:=by exact rfl) (H:zDE (rn.map (·.1)) Sc=true:=by exact rfl) (I:∀y,zD5 (rn.map (·.1)) [enc y]=true:=by exact fun _=>rfl)
  (s:zA2 ((zJp rn Sc).map (·.1))=true:=by exact rfl) (p:zKU ((zJp rn Sc).map (·.1)) (zJp rn Sc)=true:=by exact rfl) (w:∀y,noN (Pw.ren rn (enc y))=true:=by exact fun _=>rfl)
  (z:zAo Tryz.prog f=true:=by kernel_rfl) (q:lB d fn.ntmps=true:=by exact rfl):PO (⟨Tryz.prog,fn,w0,X,X0,σ0,N0,post,dz,L,hl,ro⟩:Ctx ρ) (bnd M g) all (o::rest) K E S :=
 zeC rn u.h v C hx t k D B ha F G H I s p w z q
theorem A {P Q H:Prop} (l:List Nat) (k:Q:=by exact trivial) (c:H:=by exact trivial) (rn:List (Nat×Nat):=[]) (ks:List Nat:=[]) (h:Tg rn ks H->Q->Th l P:=by
 intro c q
 repeat' first
  | exact thQ q
  | (refine thG 45 ?_;exact gdE (ps q))
  | (refine thG 46 ?_;exact gdE (piG q))
  | (refine thG 41 ?_;refine gd1 ?_ fun h=>pk c.h rfl rfl h)
  | (refine thG 54 ?_;refine thvt (ks:=[]) rfl rfl rfl rfl (fun _ _ _ _ _=>pk c.h rfl rfl fun _ _=>pzq rfl) (fun _=>rfl) (fun _=>rfl) ?_)
  | (refine thG 55 ?_;refine thvg c rfl rfl rfl rfl (fun _ _ _ _ _=>tqG c rfl rfl rfl rfl rfl rfl rfl rfl fun _ _=>pzq rfl) (fun _=>rfl) (fun _=>rfl) ?_)
  | (refine thG 43 ?_;refine gd1 ?_ fun h=>tqG c rfl rfl rfl rfl rfl rfl rfl rfl h)
  | (refine thG 44 ?_;refine gd1 ?_ fun h=>cqG c rfl rfl rfl rfl rfl h)
  | (refine thG 1 ?_;refine gd1 ?_ fun h=>pq 1 rfl h)
  | (refine thG 0 ?_;refine gd1 ?_ fun h=>ns h)
  | (refine thG 9 ?_;refine gd1 ?_ fun h=>sr h)
  | (refine thG 2 ?_;refine gd1 ?_ fun h=>pq 2 rfl h)
  | (refine thG 8 ?_;exact gdE rN)
  | (refine thG 7 ?_;refine gd1 ?_ fun h=>zIz h)
  | (refine thG 6 ?_;refine gd1 ?_ fun h=>zTF h)
  | (refine thG 5 ?_;refine gd2 ?_ ?_ fun a b=>zAD rfl a b)
  | (refine thG 10 ?_;refine gd2 ?_ ?_ fun b a=>zAD rfl a b)
  | (refine thG 4 ?_;refine gd1 ?_ fun h=>zXL h)
  | (refine thG 3 ?_;refine gd1 ?_ fun h=>pq 3 rfl h)
  | (refine thG 11 ?_;refine gd1 ?_ fun h=>zGK h)
  | (refine thG 12 ?_;refine gd1 ?_ fun h=>zUU (T:=tab) rfl rfl rfl rfl rfl rfl rfl rfl rfl rfl rfl rfl h)
  | (refine thG 13 ?_;refine gd1 ?_ fun h=>zYZ h)
  | (refine thG 14 ?_;refine gd1 ?_ fun h=>zFU h)
  | (refine thG 15 ?_;refine gd1 ?_ fun h=>zd9 h)
  | (refine thG 16 ?_;refine gd1 ?_ fun h=>zMj (T:=tab) rfl rfl rfl rfl h)
  | (refine thG 17 ?_;refine gd1 ?_ fun h=>zUY rfl h)
  | (refine thG 18 ?_;refine gd1 ?_ fun h=>zIz (zb8 rfl h))
  | (refine thG 19 ?_;refine gd1 ?_ fun h=>zgd rfl rfl h)
  | (refine thG 20 ?_;refine gd1 ?_ fun h=>zOy (T:=tab) rfl rfl rfl rfl rfl rfl rfl h)
  | (refine thG 23 ?_;refine gd1 ?_ fun h=>zb4 rfl h)
  | (refine thG 24 ?_;refine gd1 ?_ fun h=>zIz (zb4 rfl h))
  | (refine thG 25 ?_;refine gd1 ?_ fun h=>zb8 rfl h)
  | (refine thG 26 ?_;refine thsp rfl ?_ ?_)
  | (refine thG 27 ?_;refine thsq rfl ?_ ?_)
  | (refine thG 50 ?_;refine thvs rfl rfl rfl rfl (fun _ _ _ _ _=>zUU (T:=tab) rfl rfl rfl rfl rfl rfl rfl rfl rfl rfl rfl rfl (pyq rfl)) rfl rfl ?_)
  | (refine thG 51 ?_;refine thvs rfl rfl rfl rfl (fun _ _ _ _ _=>zOy (T:=tab) rfl rfl rfl rfl rfl rfl rfl (pyq rfl)) rfl rfl ?_)
  | (refine thG 52 ?_;refine thsel rfl rfl rfl rfl rfl ?_)
  | (refine thG 53 ?_;refine thdv rfl (by kernel_rfl) (by kernel_rfl) rfl rfl ?_)
  | (refine thO 200 ?_;refine thvq rfl (by kernel_rfl) ?_)
  | (refine thO 100 ?_;refine thpq rfl ?_)
  | (refine thG 30 ?_;refine thbox rfl rfl rfl rfl rfl rfl rfl rfl rfl rfl ?_)
  | (refine thG 31 ?_;refine zhF rfl rfl rfl rfl rfl rfl rfl rfl rfl ?_)
  | (refine thG 33 ?_;refine thfr rfl rfl rfl ?_)
  | (refine thG 34 ?_;refine thwf rfl rfl rfl ?_)
  | (refine thG 38 ?_;refine gd1 ?_ fun h=>zLD (T:=tab) _ _ rfl rfl rfl rfl rfl rfl rfl rfl h)
  | (refine thG 39 ?_;refine gd1 ?_ fun h=>zTE (T:=tab) _ _ rfl rfl rfl rfl rfl rfl rfl rfl rfl h)
  | (refine thG 56 ?_;refine thon rfl rfl rfl rfl ?_)
  | (refine thG 35 ?_;refine gd1 ?_ fun h=>zR6 (T:=tab) _ _ rfl rfl rfl rfl rfl rfl rfl rfl h)
  | (refine thG 36 ?_;refine gd1 ?_ fun h=>zE1 (T:=tab) _ _ rfl rfl rfl rfl rfl rfl rfl h)
  | (refine thG 57 ?_;refine gdX [1,0] ?_)
  | (refine thG 58 ?_;refine gdX [9,57] ?_)
  | (refine thG 59 ?_;refine gdX [58,8] ?_)
  | (refine thG 60 ?_;refine gdX [53,11,0,1,3,7,0,16,48,112,15,511,1023,208] ?_)
  | (refine thG 61 ?_;refine gdX [9,2] ?_)
  | (refine thG 62 ?_;refine gdX [61,0] ?_)
  | (refine thG 63 ?_;refine gdX [11,46] ?_)
  | (refine thG 64 ?_;refine gdX [52,7,3,2,3,5,6,8,9,10,5,3,2,53,44,0,1,0,7,15,31,0,64,0,448,960,1984,4095,8191,16383,32767,16383,131071,262143,524287,16383,1064959,16383,7356415,15745023,32522239,67108863,134217727,268435455,536870911,1073741823,536870911,2684354559,8589934591,17179869183,34359738367,68719476735,68719476735,206158430207,549755813887,68719476735,2199023255551,4398046511103,8796093022207] ?_)
  | (refine thG 65 ?_;refine gdX [11,18] ?_)
  | (refine thG 66 ?_;refine gdX [50,4,1,12,13,50,4202203,13,202] ?_)
  | (refine thG 67 ?_;refine gdX [4,7] ?_)
  | (refine thG 68 ?_;refine gdX [67,6] ?_)
  | (refine thG 69 ?_;refine gdX [15,7] ?_)
  | (refine thG 70 ?_;refine gdX [69,14] ?_)
  | (refine thG 71 ?_;refine gdX [52,8,3,1,3,4,15,16,17,5,6,1,400150,3,53,12,0,1,3,7,3,31,3,67,195,511,1023,2047] ?_)
  | (refine thG 72 ?_;refine gdX [68,13] ?_)
  | (refine thG 73 ?_;refine gdX [9,30,2] ?_)
  | (refine thG 74 ?_;refine gdX [0,8] ?_)
  | (refine thG 75 ?_;refine gdX [58,6] ?_)
  | (refine thG 76 ?_;refine gdX [9,104] ?_)
  | (refine thG 77 ?_;refine gdX [35,57] ?_)
  | (refine thG 78 ?_;refine gdX [68,52,2,8,6,9,2101100,2101101,2101102,6,900000,900001,900002,900003] ?_)
  | (refine thG 79 ?_;refine gdX [19,7] ?_)
  | (refine thG 80 ?_;refine gdX [9,1] ?_)
  | (refine thG 81 ?_;refine gdX [52,3,6,1,3,6,6,3,900000,900001,900002,900003,53,6,0,0,2,7,15,31] ?_)
  | (refine thG 82 ?_;refine gdX [52,9,3,1,2,5,6,7,18,19,20,9,16,5,2,53,33,0,0,3,7,15,31,31,127,255,511,1023,2047,4095,8191,2047,32767,65535,131071,2047,524287,1048575,2097151,4194303,8388607,16777215,4194303,67108863,134217727,268435455,4194303,541065215,2147483647,4294967295] ?_)
  | (refine thG 83 ?_;refine gdX [65,59] ?_)
  | (refine thG 84 ?_;refine gdX [50,3,1,12,13,38,13,202] ?_)
  | (refine thG 85 ?_;refine gdX [52,7,3,3,4,34,35,36,7,8,1,400340,3,53,13,0,1,3,7,3,19,63,3,131,387,1023,2047,4095] ?_)
  | (refine thG 86 ?_;refine gdX [17,7] ?_)
  | (refine thG 87 ?_;refine gdX [68,52,2,7,6,9,2101100,2101101,2101102,6,900000,900001,900002] ?_)
  | (refine thG 88 ?_;refine gdX [52,3,3,0,3,4,4,3,900000,53,15,0,1,3,7,15,0,63,127,255,255,255,0,2559,7167,16383] ?_)
  | (refine thG 89 ?_;refine gdX [1,63] ?_)
  | (refine thG 90 ?_;refine gdX [79,56,2101102,192,9,7] ?_)
  | (refine thG 91 ?_;refine gdX [52,3,5,1,3,6,6,3,900000,900001,900002,53,6,0,0,2,7,15,31] ?_)
  | (refine thG 92 ?_;refine gdX [12,57] ?_)
  | (refine thG 93 ?_;refine gdX [9,3] ?_)
  | (refine thG 94 ?_;refine gdX [70,16] ?_)
  | (refine thG 95 ?_;refine gdX [52,3,2,1,2,5,5,2,53,30,0,0,2,7,15,31,63,127,31,287,1023,2047,4095,31,16383,32767,65535,131071,262143,524287,131071,1179647,4194303,8388607,16777215,131071,33685503,134217727,268435455,536870911] ?_)
  | (refine thG 96 ?_;refine gdX [53,22,0,1,3,7,15,0,0,64,192,448,960,0,4032,8128,16320,0,0,65536,262080,524287,1048575,2097151,212] ?_)
  | (refine thG 97 ?_;refine gdX [52,3,0,0,1,5,53,9,0,0,3,7,0,0,48,112,255] ?_)
  | (refine thG 98 ?_;refine gdX [53,11,0,1,0,7,15,0,32,0,224,480,1023,203] ?_)
  | (refine thG 99 ?_;refine gdX [61,41] ?_)):P:=(h ⟨c⟩ k).h
theorem U {α : Sort _} {a : α}:a=a:=rfl
abbrev Z (x:Int):PV:=.v (.int .i64 x)
abbrev Y (x:Bool):PV:=.v (.bool x)
abbrev O (x:List UInt8):PV:=.v (.string ⟨⟨x⟩⟩)
end Go.Proofs.YtmfbghpealgaiaaGreatDoor
