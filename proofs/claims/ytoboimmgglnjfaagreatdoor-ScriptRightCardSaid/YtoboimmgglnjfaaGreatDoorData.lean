/- Data of the program as values of Lean, and facts on its functions: printed by emit2.py. -/
import Derived.Test.YtoboimmgglnjfaaGreatDoorTab
import Derived.Test.YtoboimmgglnjfaaGreatDoorMapp
import Derived.Test.YtoboimmgglnjfaaGreatDoorTail
import Derived.Test.YtoboimmgglnjfaaGreatDoorRne
import Derived.Test.YtoboimmgglnjfaaGreatDoorBld
import Derived.Test.YtoboimmgglnjfaaGreatDoorUnr
import Derived.Test.YtoboimmgglnjfaaGreatDoorLine
import Derived.Test.YtoboimmgglnjfaaGreatDoorWin
import Derived.Test.YtoboimmgglnjfaaGreatDoorArr
import Derived.Test.YtoboimmgglnjfaaGreatDoorKit
namespace Go.Proofs.YtoboimmgglnjfaaGreatDoor
open Go Go.Pw
structure Op where
 Kind:Int
 A:Int
 B:Int
 C:Int
 S:Bs
 T:Bs
 Must:Bool
deriving DecidableEq
structure Hook where
 Kind:Int
 Do:(List Op)
deriving DecidableEq
structure Class where
 Form:Bool
 Watch:(List Bs)
 Peek:(List Op)
 Make:(List Op)
 Hooks:(List Hook)
deriving DecidableEq
structure Script where
 Classes:(List Class)
 Main:(List Op)
deriving DecidableEq
structure Op_form where
 word:Bs
 fields:Bs
deriving DecidableEq
structure Instarref22_Text where
 S:Script
 To:Int
 Bad:Bool
deriving DecidableEq
def cBool (x:Bool):List PV:=[.v (.bool x)]
def cStr (x:Bs):List PV:=[.v (.string ⟨⟨x⟩⟩)]
theorem zLg (l:List Bs):∀r∈l.map cStr,r.all zGS=true:=by
 intro r hr
 obtain ⟨x,_,rfl⟩:=List.mem_map.1 hr
 rfl
def zS5 (x:Int):List PV:=[.v (.int .i64 x)]
def cOp (x:Op):List PV:=[.v (.int .i64 x.Kind),.v (.int .i64 x.A),.v (.int .i64 x.B),.v (.int .i64 x.C),.v (.string ⟨⟨x.S⟩⟩),.v (.string ⟨⟨x.T⟩⟩),.v (.bool x.Must)]
theorem zDk (l:List Op):∀r∈l.map cOp,r.all zGS=true:=by
 intro r hr
 obtain ⟨x,_,rfl⟩:=List.mem_map.1 hr
 rfl
def zAP (x:Hook):List PV:=[.v (.int .i64 x.Kind),.sl 7 false (x.Do.map cOp)]
theorem zKF (l:List Hook):∀r∈l.map zAP,r.all zGS=true:=by
 intro r hr
 obtain ⟨x,_,rfl⟩:=List.mem_map.1 hr
 rfl
def zAM (x:Class):List PV:=[.v (.bool x.Form),.sl 1 false (x.Watch.map cStr),.sl 7 false (x.Peek.map cOp),.sl 7 false (x.Make.map cOp),.sl 2 false (x.Hooks.map zAP)]
theorem zGk (l:List Class):∀r∈l.map zAM,r.all zGS=true:=by
 intro r hr
 obtain ⟨x,_,rfl⟩:=List.mem_map.1 hr
 rfl
def zE0 (x:Script):List PV:=[.sl 5 false (x.Classes.map zAM),.sl 7 false (x.Main.map cOp)]
def zAN (x:Int):List PV:=[.v (.int .u8 x)]
theorem zNe (l:List Int):∀r∈l.map zAN,r.all zGS=true:=by
 intro r hr
 obtain ⟨x,_,rfl⟩:=List.mem_map.1 hr
 rfl
def zS6 (x:Op_form):List PV:=[.v (.string ⟨⟨x.word⟩⟩),.v (.string ⟨⟨x.fields⟩⟩)]
def zC1 (x:Instarref22_Text):List PV:=[.sl 5 false (x.S.Classes.map zAM),.sl 7 false (x.S.Main.map cOp),.v (.int .i64 x.To),.v (.bool x.Bad)]
theorem mixed:Tryz.prog.follows .mixedOrders=true:=by kernel_rfl
def eqOp (x y:Op):Bool:=(x.Kind==y.Kind)&&((x.A==y.A)&&((x.B==y.B)&&((x.C==y.C)&&((x.S==y.S)&&((x.T==y.T)&&((x.Must==y.Must)&&true))))))
theorem zMi:eqOf Tryz.prog 43=some [(0,3,.int .i64),(1,3,.int .i64),(2,3,.int .i64),(3,3,.int .i64),(4,9,.string),(5,9,.string),(6,4,.bool)]:=by kernel_rfl
theorem call9:zAJ Tryz.prog 9=true:=by kernel_rfl
theorem call10:zAJ Tryz.prog 10=true:=by kernel_rfl
theorem call11:zAJ Tryz.prog 11=true:=by kernel_rfl
theorem zUQ:zAJ Tryz.prog 12=true:=by kernel_rfl
theorem zQk:zAJ Tryz.prog 13=true:=by kernel_rfl
theorem call14:zAJ Tryz.prog 14=true:=by kernel_rfl
theorem zUR:zAJ Tryz.prog 15=true:=by kernel_rfl
theorem call16:zAJ Tryz.prog 16=true:=by kernel_rfl
theorem call17:zAJ Tryz.prog 17=true:=by kernel_rfl
theorem zOZ:zAJ Tryz.prog 19=true:=by kernel_rfl
theorem zOa:zAJ Tryz.prog 20=true:=by kernel_rfl
theorem call21:zAJ Tryz.prog 21=true:=by kernel_rfl
theorem zOb:zAJ Tryz.prog 22=true:=by kernel_rfl
theorem call23:zAJ Tryz.prog 23=true:=by kernel_rfl
theorem zOc:zAJ Tryz.prog 24=true:=by kernel_rfl
theorem call25:zAJ Tryz.prog 25=true:=by kernel_rfl
theorem zKG:zAJ Tryz.prog 26=true:=by kernel_rfl
theorem zOd:zAJ Tryz.prog 27=true:=by kernel_rfl
theorem zUS:zAJ Tryz.prog 28=true:=by kernel_rfl
theorem call29:zAJ Tryz.prog 29=true:=by kernel_rfl
theorem zOe:zAJ Tryz.prog 30=true:=by kernel_rfl
theorem call31:zAJ Tryz.prog 31=true:=by kernel_rfl
theorem call32:zAJ Tryz.prog 32=true:=by kernel_rfl
theorem call33:zAJ Tryz.prog 33=true:=by kernel_rfl
theorem call34:zAJ Tryz.prog 34=true:=by kernel_rfl
theorem call35:zAJ Tryz.prog 35=true:=by kernel_rfl
theorem zOf:zAJ Tryz.prog 36=true:=by kernel_rfl
theorem zUT:zAJ Tryz.prog 37=true:=by kernel_rfl
theorem zKv:zAJ Tryz.prog 38=true:=by kernel_rfl
theorem call39:zAJ Tryz.prog 39=true:=by kernel_rfl
theorem call40:zAJ Tryz.prog 40=true:=by kernel_rfl
theorem call41:zAJ Tryz.prog 41=true:=by kernel_rfl
theorem call42:zAJ Tryz.prog 42=true:=by kernel_rfl
theorem call43:zAJ Tryz.prog 43=true:=by kernel_rfl
theorem call44:zAJ Tryz.prog 44=true:=by kernel_rfl
theorem call45:zAJ Tryz.prog 45=true:=by kernel_rfl
theorem zQl:zAJ Tryz.prog 46=true:=by kernel_rfl
theorem zMd:zAJ Tryz.prog 47=true:=by kernel_rfl
theorem zUU:zAJ Tryz.prog 48=true:=by kernel_rfl
theorem zUV:zAJ Tryz.prog 49=true:=by kernel_rfl
theorem zQm:zAJ Tryz.prog 50=true:=by kernel_rfl
theorem zQn:zAJ Tryz.prog 51=true:=by kernel_rfl
theorem zQo:zAJ Tryz.prog 52=true:=by kernel_rfl
theorem zQp:zAJ Tryz.prog 53=true:=by kernel_rfl
theorem zUW:zAJ Tryz.prog 54=true:=by kernel_rfl
theorem zUX:zAJ Tryz.prog 55=true:=by kernel_rfl
theorem call56:zAJ Tryz.prog 56=true:=by kernel_rfl
theorem zUY:zAJ Tryz.prog 57=true:=by kernel_rfl
theorem call58:zAJ Tryz.prog 58=true:=by kernel_rfl
theorem zQq:zAJ Tryz.prog 59=true:=by kernel_rfl
theorem call60:zAJ Tryz.prog 60=true:=by kernel_rfl
theorem call61:zAJ Tryz.prog 61=true:=by kernel_rfl
theorem zUZ:zAJ Tryz.prog 62=true:=by kernel_rfl
theorem zUa:zAJ Tryz.prog 63=true:=by kernel_rfl
theorem zUb:zAJ Tryz.prog 64=true:=by kernel_rfl
theorem zH1:zAJ Tryz.prog 65=true:=by kernel_rfl
theorem call66:zAJ Tryz.prog 66=true:=by kernel_rfl
theorem zUc:zAJ Tryz.prog 67=true:=by kernel_rfl
theorem call68:zAJ Tryz.prog 68=true:=by kernel_rfl
theorem call69:zAJ Tryz.prog 69=true:=by kernel_rfl
theorem zUd:zAJ Tryz.prog 70=true:=by kernel_rfl
theorem call71:zAJ Tryz.prog 71=true:=by kernel_rfl
theorem call72:zAJ Tryz.prog 72=true:=by kernel_rfl
theorem call73:zAJ Tryz.prog 73=true:=by kernel_rfl
theorem call74:zAJ Tryz.prog 74=true:=by kernel_rfl
theorem call75:zAJ Tryz.prog 75=true:=by kernel_rfl
theorem zJH:zAJ Tryz.prog 76=true:=by kernel_rfl
theorem zQr:zAJ Tryz.prog 77=true:=by kernel_rfl
theorem zKH:zAJ Tryz.prog 78=true:=by kernel_rfl
theorem zUe:zAJ Tryz.prog 79=true:=by kernel_rfl
theorem zQs:zAJ Tryz.prog 80=true:=by kernel_rfl
theorem zUf:zAJ Tryz.prog 81=true:=by kernel_rfl
theorem call82:zAJ Tryz.prog 82=true:=by kernel_rfl
theorem call83:zAJ Tryz.prog 83=true:=by kernel_rfl
theorem call84:zAJ Tryz.prog 84=true:=by kernel_rfl
theorem zHJ:zAJ Tryz.prog 85=true:=by kernel_rfl
theorem call86:zAJ Tryz.prog 86=true:=by kernel_rfl
theorem zUg:zAJ Tryz.prog 87=true:=by kernel_rfl
theorem call88:zAJ Tryz.prog 88=true:=by kernel_rfl
theorem zQt:zAJ Tryz.prog 89=true:=by kernel_rfl
theorem zQu:zAJ Tryz.prog 90=true:=by kernel_rfl
theorem zUh:zAJ Tryz.prog 91=true:=by kernel_rfl
theorem call92:zAJ Tryz.prog 92=true:=by kernel_rfl
theorem call93:zAJ Tryz.prog 93=true:=by kernel_rfl
theorem call94:zAJ Tryz.prog 94=true:=by kernel_rfl
theorem call95:zAJ Tryz.prog 95=true:=by kernel_rfl
theorem zQv:zAJ Tryz.prog 96=true:=by kernel_rfl
theorem zUi:zAJ Tryz.prog 97=true:=by kernel_rfl
theorem zQw:zAJ Tryz.prog 98=true:=by kernel_rfl
theorem zNf:zAJ Tryz.prog 102=true:=by kernel_rfl
theorem zQf:zAJ Tryz.prog 103=true:=by kernel_rfl
theorem zNg:zAJ Tryz.prog 104=true:=by kernel_rfl
theorem zQg:zAJ Tryz.prog 105=true:=by kernel_rfl
theorem zVC:zAJ Tryz.prog 107=true:=by kernel_rfl
theorem zQh:zAJ Tryz.prog 108=true:=by kernel_rfl
theorem zQi:zAJ Tryz.prog 109=true:=by kernel_rfl
theorem zVD:zAJ Tryz.prog 115=true:=by kernel_rfl
theorem zVE:zAJ Tryz.prog 116=true:=by kernel_rfl
theorem zVF:zAJ Tryz.prog 117=true:=by kernel_rfl
theorem zQj:zAJ Tryz.prog 118=true:=by kernel_rfl
theorem zNh:zAJ Tryz.prog 119=true:=by kernel_rfl
theorem zVG:zAJ Tryz.prog 123=true:=by kernel_rfl
theorem zLh:zAJ Tryz.prog 124=true:=by kernel_rfl
theorem zVH:zAJ Tryz.prog 137=true:=by kernel_rfl
theorem zVI:zAJ Tryz.prog 141=true:=by kernel_rfl
theorem zVJ:zAJ Tryz.prog 153=true:=by kernel_rfl
variable {ρ : Type} {fn:Func} {w0:World} {X X0:Nat->Prop} {σ0:Nat->Value} {N0:List Nat} {post : ρ -> PV->Store->Prop} {dz:Nat} {L:World->Prop} {hl:Lay L (fun b=>¬X0 b) w0} {ro:Option Nat} {m:Option ρ} {K:List (Kont ρ)} {E:Env} {S:Store} {all:Array Oper}
theorem pe (k:Nat) {N:Nat} {ops rest:List Oper} {E':Env} (hk:PO (⟨Tryz.prog,fn,w0,X,X0,σ0,N0,post,dz,L,hl,ro⟩:Ctx ρ) m all rest K E' S) (hN:N=fn.ntmps:=by exact rfl) (h:evsK tab N all S k ops E=some (rest,E'):=by exact rfl):PO (⟨Tryz.prog,fn,w0,X,X0,σ0,N0,post,dz,L,hl,ro⟩:Ctx ρ) m all ops K E S:=zDm (T:=tab) k hN h hk
theorem fcI {f:FuncId} {fn:Func} {c:Code} {args:List PV} {S:Store} {N0:List Nat} {post : ρ -> PV->Store->Prop} {m:Option ρ} (hf:Tryz.prog.funcs[f]? = some fn) (hb:fn.body=some c) (h:∀w0 X X0 σ0 hl,PW ⟨Tryz.prog,fn,w0,X,X0,σ0,N0,post,w0.heap.size+1,L,hl,none⟩ m c [] (argE 0 args) S) (hn:Nat.ble args.length fn.ntmps=true:=by exact rfl):∀r,m=some r->FC L Tryz.prog f args S N0 (post r):=fun _ hr=>zJi hf hb hn hr h
theorem pq (k:Nat) {ops rest:List Oper} {E':Env} (h:evsK tab fn.ntmps all S k ops E=some (rest,E')) (hk:PO (⟨Tryz.prog,fn,w0,X,X0,σ0,N0,post,dz,L,hl,ro⟩:Ctx ρ) m all rest K E' S):PO (⟨Tryz.prog,fn,w0,X,X0,σ0,N0,post,dz,L,hl,ro⟩:Ctx ρ) m all ops K E S:=zDm (T:=tab) k rfl h hk
theorem pc {α : Type} {o:Oper} {rest:List Oper} {f:FuncId} {args:Array Operand} {tys:Array TypeId} {qs:List PV} {d:Nat} {M:Option α} {enc : α -> PV} {g : α -> Option ρ} (hc:∀y,M=some y->DC L Tryz.prog f qs (enc y)) (hf:zAJ Tryz.prog f=true) (ho:o.op=.call ⟨.value (.func f),args,tys⟩) (hg:gE all E o=some true)
  (hd:o.dst=some d) (hlt:Nat.blt d fn.ntmps=true) (k:∀y,M=some y->PO (⟨Tryz.prog,fn,w0,X,X0,σ0,N0,post,dz,L,hl,ro⟩:Ctx ρ) (g y) all rest K ((d,enc y)::E) S) (ha:zH4 E args.toList qs:=by repeat' first | exact trivial | refine ⟨⟨_,rfl,.rfl⟩,?_⟩) (he:∀y,noN (enc y)=true:=by exact fun _=>rfl):PO (⟨Tryz.prog,fn,w0,X,X0,σ0,N0,post,dz,L,hl,ro⟩:Ctx ρ) (bnd M g) all (o::rest) K E S:=zI8 hc ho hg ha he hf hd hlt k
theorem pdc {α : Type} {o:Oper} {rest:List Oper} {f:FuncId} {args:Array Operand} {tys:Array TypeId} {qs:List PV} {d:Nat} {M:Option α} {enc : α -> PV} {g : α -> Option ρ} (hc:∀y,M=some y->DC L Tryz.prog f qs (enc y)) (hf:zAJ Tryz.prog f=true) (ho:o.op=.call ⟨.value (.func f),args,tys⟩) (hg:gE all (zDn (o.looksAt all) E) o=some true)
  (hd:o.dst=some d) (hlt:Nat.blt d fn.ntmps=true) (k:∀y,M=some y->PD (⟨Tryz.prog,fn,w0,X,X0,σ0,N0,post,dz,L,hl,ro⟩:Ctx ρ) (g y) all rest K ((d,enc y)::E) S) (ha:zH4 (zDn (o.looksAt all) E) args.toList qs:=by repeat' first | exact trivial | refine ⟨⟨_,rfl,.rfl⟩,?_⟩) (he:∀y,noN (enc y)=true:=by exact fun _=>rfl):PD (⟨Tryz.prog,fn,w0,X,X0,σ0,N0,post,dz,L,hl,ro⟩:Ctx ρ) (bnd M g) all (o::rest) K E S:=zVj hc ho hg ha he hf hd hlt k
theorem ps {G:Ctx ρ} {E':Env} {S':Store} (h:PN G m K E' S') (hE:SubL E' E:=by repeat' first | exact trivial | refine ⟨rfl,?_⟩) (hS:zFR S' S:=by repeat' first | exact trivial | refine ⟨rfl,?_⟩) (hn:zCV (S'.map (·.1))=true:=by exact rfl):PN G m K E S:=zRv h hE hS hn
theorem su {G:Ctx ρ} (E':Env) (S':Store) {c:Code} (h:PW G m c K E' S') (hE:SubL E' E:=by repeat' first | exact trivial | refine ⟨rfl,?_⟩) (hS:zFR S' S:=by repeat' first | exact trivial | refine ⟨rfl,?_⟩) (hn:zCV (S'.map (·.1))=true:=by exact rfl):PW G m c K E S:=zKd h hE hS hn
theorem lq {G:Ctx ρ} {α : Type} (M:Nat -> α -> Option ρ) (Ef : α -> Env) (Sf : α -> Store) (n:Nat) (x : α) {body:Code} (hb:∀n x,PW G (M (n+1) x) body (.iter (Head G (M n) Ef Sf)::K) (Ef x) (Sf x)) (h0:∀x,M 0 x=none:=by exact fun _=>rfl) (hE:SubL (Ef x) E:=by repeat' first | exact trivial | refine ⟨rfl,?_⟩) (hS:zFR (Sf x) S:=by repeat' first | exact trivial | refine ⟨rfl,?_⟩) (hn:zCV ((Sf x).map (·.1))=true:=by exact rfl):PW G (M n x) (.loop body) K E S:=zTr M Ef Sf n x h0 hE hS hn hb
theorem pz {α : Type} {H:Ctx α} {E1 : α -> Env} {S1 : α -> Store} {E':Env} {S':Store} {y : α} (hE:SubL (E1 y) E':=by repeat' first | exact trivial | refine ⟨rfl,?_⟩) (hS:zFR (S1 y) S':=by repeat' first | exact trivial | refine ⟨rfl,?_⟩) (hn:zCV ((S1 y).map (·.1))=true:=by exact rfl):PO H (some y) all [] [.iter fun y a w=>Pre H (E1 y) (S1 y) a w] E' S':=zAE (zUr hE hS hn)
theorem py {H:Ctx Unit} {E1:Env} {S1:Store} {E':Env} {S':Store} (hE:SubL E1 E':=by repeat' first | exact trivial | refine ⟨rfl,?_⟩) (hS:zFR S1 S':=by repeat' first | exact trivial | refine ⟨rfl,?_⟩) (hn:zCV (S1.map (·.1))=true:=by exact rfl):PO H (some ()) all [] [.iter fun _ a w=>Pre H E1 S1 a w] E' S':=zAE (zL4 hE hS hn)
theorem vs {G:Ctx ρ} {ms:List Nat} {ment0:List (Nat×List Nat)} {o:Oper} {rest:List Oper} {j:Nat} {acc:List Summ} {V:Vw} (reads writes ks N0 keep:List Nat) (E1:Env) (S1:Store) {E0:Env} {S0:Store} {W:Vw} {ment:List (Nat×List Nat)} (hE0:zKq V reads=some E0) (hS0:zKr V reads=some S0)
  (h:∀w0 X X0 σ0 hl,PO (⟨G.P,G.fn,w0,X,X0,σ0,N0,fun _ _ _=>True,G.dz,G.L,hl,G.ro⟩:Ctx Unit) (some ()) all [o] [.iter fun _ a w=>Pre (⟨G.P,G.fn,w0,X,X0,σ0,N0,fun _ _ _=>True,G.dz,G.L,hl,G.ro⟩:Ctx Unit) E1 S1 a w] E0 S0)
  (k:PDV G m all ms ment0 rest (j+1) (⟨reads,writes,ks,ment⟩::acc) (W++V) K) (hW:wOf E1 S1 writes=some W:=by exact rfl) (hm:zFk W=ment:=by exact rfl) (hok:zIH (ms.getD j 0) ment0 j ⟨reads,writes,ks,ment⟩ acc=true:=by kernel_rfl) (hc:zIM G ks writes keep S0 o=true:=by kernel_rfl) (hc2:zG5 N0 ks writes keep E1 S1=true:=by kernel_rfl) (hkeep:zJ2 keep S1 S0:=by repeat' first | exact trivial | refine ⟨rfl,?_⟩):PDV G m all ms ment0 (o::rest) j acc V K :=
 zKa reads writes ks N0 keep E1 S1 hE0 hS0 hW hm hok hc hc2 hkeep h k
theorem vt {G:Ctx ρ} {α : Type} (M:Option α) {g : α -> Option ρ} {ms:List Nat} {ment0:List (Nat×List Nat)} {o:Oper} {rest:List Oper} {j:Nat} {acc:List Summ} {V:Vw} (ment:List (Nat×List Nat)) (reads writes ks N0 keep:List Nat) (E1 : α -> Env) (S1 : α -> Store) {E0:Env} {S0:Store} {W : α -> Vw} (hE0:zKq V reads=some E0) (hS0:zKr V reads=some S0) (hW:∀y,wOf (E1 y) (S1 y) writes=some (W y))
  (h:∀w0 X X0 σ0 hl,PO (⟨G.P,G.fn,w0,X,X0,σ0,N0,fun _ _ _=>True,G.dz,G.L,hl,G.ro⟩:Ctx α) (bnd M some) all [o] [.iter fun y a w=>Pre (⟨G.P,G.fn,w0,X,X0,σ0,N0,fun _ _ _=>True,G.dz,G.L,hl,G.ro⟩:Ctx α) (E1 y) (S1 y) a w] E0 S0)
  (k:∀y,M=some y->PDV G (g y) all ms ment0 rest (j+1) (⟨reads,writes,ks,ment⟩::acc) (W y++V) K) (hm:∀y,zFk (W y)=ment:=by exact fun _=>rfl) (hok:zIH (ms.getD j 0) ment0 j ⟨reads,writes,ks,ment⟩ acc=true:=by kernel_rfl) (hc:zIM G ks writes keep S0 o=true:=by kernel_rfl) (hc2:∀y,zG5 N0 ks writes keep (E1 y) (S1 y)=true:=by exact fun _=>by kernel_rfl)
  (hkeep:∀y,zJ2 keep (S1 y) S0:=by intro y;repeat' first | exact trivial | refine ⟨rfl,?_⟩):PDV G (bnd M g) all ms ment0 (o::rest) j acc V K :=
 zPE reads writes ks N0 keep E1 S1 hE0 hS0 hW hm hok hc hc2 hkeep h k
theorem tu {α : Type} {o:Oper} {rest:List Oper} {x:Operand} {f:FuncId} {args:Array Operand} {tys:Array TypeId} {qs:List PV} {M:Option α} {enc : α -> PV} {Sr : α -> Store} {g : α -> Option ρ} {Sc S1 S2:Store} {N1 NR:List Nat} (ks:List Nat) {E':Env} {od:Option Nat}
  (hc:∀y,M=some y->FC L Tryz.prog f qs Sc N1 fun r S'=>r=enc y/\S'=Sr y) (hf:zAJ Tryz.prog f=true) (hdr:zLm (Sc.map (·.1)) S=some S1) (hkS:zHR ks S1=some S2) (hkE:zGM ks E=some E') (ho:o.op=.call ⟨.value x,args,tys⟩) (hx:ev E x=some (.fn (.func f) [] [])) (hg:gE all E o=some true) (hd:o.dst=od) (hlt:dstB od fn.ntmps=true)
  (k:∀y,M=some y->PO (⟨Tryz.prog,fn,w0,X,X0,σ0,N0,post,dz,L,hl,ro⟩:Ctx ρ) (g y) all rest K (putE od (enc y) E') (Sr y++S2)) (hS:zFR Sc S:=by repeat' first | exact trivial | refine ⟨rfl,?_⟩) (hNR:∀y,(Sr y).map (·.1)=NR:=by exact fun _=>rfl) (h1:zCV (Sc.map (·.1))=true:=by exact rfl) (h2:zCV (NR++S2.map (·.1))=true:=by exact rfl) (h3:subN NR (N1++ks)=true:=by exact rfl) (h4:ks.all (zEX (⟨Tryz.prog,fn,w0,X,X0,σ0,N0,post,dz,L,hl,ro⟩:Ctx ρ))=true:=by exact rfl) (h5:∀y,zEC (N1++ks) (Sr y)=true:=by exact fun _=>rfl) (h6:∀y,zE1 (N1++ks) [enc y]=true:=by exact fun _=>rfl)
  (ha:zH4 E args.toList qs:=by repeat' first | exact trivial | refine ⟨⟨_,rfl,.rfl⟩,?_⟩):PO (⟨Tryz.prog,fn,w0,X,X0,σ0,N0,post,dz,L,hl,ro⟩:Ctx ρ) (bnd M g) all (o::rest) K E S :=
 zOB (first:=[]) (cap:=[]) ks (by simpa using hc) hS hNR hdr hkS hkE h1 h2 h3 h4 h5 h6 ho hx hg ha hf hd hlt k
theorem fr {f:FuncId} {qs:List PV} {Sc Sr:Store} {N0:List Nat} {p:PV} (rn:List (Nat×Nat)) (U:List Nat) (h:FC L Tryz.prog f qs Sc N0 fun r S'=>r=p/\S'=Sr) (hU:zCV (U.map (rho rn))=true:=by exact rfl) (h1:subN (Sc.map (·.1)) U=true:=by exact rfl) (h2:subN (Sr.map (·.1)) U=true:=by exact rfl) (h3:subN N0 U=true:=by exact rfl) (h4:zEC U Sr=true:=by exact rfl) (h5:zE1 U [p]=true:=by exact rfl) :
  FC L Tryz.prog f (renL rn qs) (renS rn Sc) (N0.map (rho rn)) fun r S'=>r=Pw.ren rn p/\S'=renS rn Sr:=zK2 rn U h hU h1 h2 h3 h4 h5
theorem rN {r : ρ} {S':Store} {rs:List ResultVar} {ps:List PV} {p:PV} (hres:fn.results.toList=rs:=by exact rfl) (h:resL tab E S rs=some ps:=by exact rfl) (hp1:oneP ps=p:=by exact rfl) (hpost:post r p S':=by exact ⟨rfl,rfl⟩) (hS:zFR S' S:=by repeat' first | exact trivial | refine ⟨rfl,?_⟩) (hn:zCV (S'.map (·.1))=true:=by exact rfl) (hz:dz=w0.heap.size+1:=by exact rfl) (hK:noL K=true:=by exact rfl):PW (⟨Tryz.prog,fn,w0,X,X0,σ0,N0,post,dz,L,hl,ro⟩:Ctx ρ) (some r) .ret K E S:=zOI (T:=tab) hres h hp1 hpost hS hn hz hK
theorem ns {G:Ctx ρ} {c:Code} (h:PW G m c K E S):PO G m all [] (.seq c::K) E S:=zAE (zAA h)
theorem sr {G:Ctx ρ} {id:Nat} {ops:List Oper} {y:Code} (h:PO G m ops.toArray ops (.seq y::K) E S) (hd:ops.all (fun o=>zE4 o.op)=true:=by exact rfl):PW G m (.seq (.region id ops.toArray false) y) K E S:=zAD (zAC h hd)
theorem ve {ms:List Nat} {ment0:List (Nat×List Nat)} {o:Oper} {rest:List Oper} {j:Nat} {acc:List Summ} {V:Vw} (reads writes ns:List Nat) (E1:Env) {E0 E':Env} {S0:Store} {W:Vw} {ment:List (Nat×List Nat)} {N:Nat}
  (k:PDV (⟨Tryz.prog,fn,w0,X,X0,σ0,N0,post,dz,L,hl,ro⟩:Ctx ρ) m all ms ment0 rest (j+1) (⟨reads,writes,[],ment⟩::acc) (W++V) K) (hE0:zKq V reads=some E0:=by exact rfl) (hS0:zKr V reads=some S0:=by exact rfl) (hW:wOf E1 [] writes=some W:=by exact rfl) (hm:zFk W=ment:=by exact rfl) (hok:zIH (ms.getD j 0) ment0 j ⟨reads,writes,[],ment⟩ acc=true:=by kernel_rfl)
  (hc:zIM (⟨Tryz.prog,fn,w0,X,X0,σ0,N0,post,dz,L,hl,ro⟩:Ctx ρ) [] writes [] S0 o=true:=by kernel_rfl) (hc2:zG5 ns [] writes [] E1 []=true:=by kernel_rfl) (hN:N=fn.ntmps:=by exact rfl) (hv:evsK tab N all S0 1 [o] E0=some ([],E'):=by exact rfl) (hE:SubL E1 E':=by repeat' first | exact trivial | refine ⟨rfl,?_⟩) :
  PDV (⟨Tryz.prog,fn,w0,X,X0,σ0,N0,post,dz,L,hl,ro⟩:Ctx ρ) m all ms ment0 (o::rest) j acc V K :=
 zKa reads writes [] ns [] E1 [] hE0 hS0 hW hm hok hc hc2 trivial (fun _ _ _ _ _=>zDm (T:=tab) 1 hN hv (zAE (zL4 hE trivial rfl))) k
theorem vf {ms:List Nat} {ment0:List (Nat×List Nat)} {o:Oper} {rest:List Oper} {j:Nat} {acc:List Summ} {V:Vw} (reads writes ks ns keep:List Nat) (E1:Env) (S1:Store) {E0 E':Env} {S0:Store} {W:Vw} {ment:List (Nat×List Nat)} {N:Nat}
  (k:PDV (⟨Tryz.prog,fn,w0,X,X0,σ0,N0,post,dz,L,hl,ro⟩:Ctx ρ) m all ms ment0 rest (j+1) (⟨reads,writes,ks,ment⟩::acc) (W++V) K) (hE0:zKq V reads=some E0:=by exact rfl) (hS0:zKr V reads=some S0:=by exact rfl) (hW:wOf E1 S1 writes=some W:=by exact rfl) (hm:zFk W=ment:=by exact rfl) (hok:zIH (ms.getD j 0) ment0 j ⟨reads,writes,ks,ment⟩ acc=true:=by kernel_rfl)
  (hc:zIM (⟨Tryz.prog,fn,w0,X,X0,σ0,N0,post,dz,L,hl,ro⟩:Ctx ρ) ks writes keep S0 o=true:=by kernel_rfl) (hc2:zG5 ns ks writes keep E1 S1=true:=by kernel_rfl) (hkeep:zJ2 keep S1 S0:=by repeat' first | exact trivial | refine ⟨rfl,?_⟩) (hN:N=fn.ntmps:=by exact rfl) (hv:evsK tab N all S0 1 [o] E0=some ([],E'):=by exact rfl) (hE:SubL E1 E':=by repeat' first | exact trivial | refine ⟨rfl,?_⟩)
  (hS:zFR S1 S0:=by repeat' first | exact trivial | refine ⟨rfl,?_⟩) (hn:zCV (S1.map (·.1))=true:=by exact rfl):PDV (⟨Tryz.prog,fn,w0,X,X0,σ0,N0,post,dz,L,hl,ro⟩:Ctx ρ) m all ms ment0 (o::rest) j acc V K :=
 zKa reads writes ks ns keep E1 S1 hE0 hS0 hW hm hok hc hc2 hkeep (fun _ _ _ _ _=>zDm (T:=tab) 1 hN hv (zAE (zL4 hE hS hn))) k
theorem Z {α : Sort _} {a : α}:a=a:=rfl
abbrev Y (x:Int):PV:=.v (.int .i64 x)
abbrev O (x:Bool):PV:=.v (.bool x)
abbrev D (x:List UInt8):PV:=.v (.string ⟨⟨x⟩⟩)
end Go.Proofs.YtoboimmgglnjfaaGreatDoor
