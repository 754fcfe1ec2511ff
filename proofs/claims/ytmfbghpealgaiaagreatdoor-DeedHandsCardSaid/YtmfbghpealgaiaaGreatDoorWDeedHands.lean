/- The step from the model of 'instar/instarlaw18.DeedHands' to the row's statement: printed by law.py. -/
import Derived.Test.YtmfbghpealgaiaaGreatDoorG
import Derived.Test.YtmfbghpealgaiaaGreatDoorRows
import Derived.Test.YtmfbghpealgaiaaGreatDoorCo3
import Derived.Test.YtmfbghpealgaiaaGreatDoorWDeedHandsF1
import Derived.Test.YtmfbghpealgaiaaGreatDoorWDeedHandsF2
import Derived.Test.YtmfbghpealgaiaaGreatDoorWDeedHandsF3
import Derived.Deep.DeepHandedRow
import Derived.LaidMore
import Derived.MakeChecks
import Derived.LaidHandle
import Derived.Stop.Joined
import Derived.Test.YtmfbghpealgaiaaGreatDoorCards
import Derived.Test.YtmfbghpealgaiaaGreatDoorTie
namespace Go.Proofs.YtmfbghpealgaiaaGreatDoor.WDeedHands
open Go Go.Pw Go.ChangeShapes Go.WideShapes Go.ChangeAt Go.RowKit
set_option linter.unusedVariables false
variable {H:Type} {enc:TypeId×Value->H} {W:Go.World}
theorem rc {f:Field} {fs:List Field} {o:Nat} {α β : Type} {c1 : α -> List PV} {c2 : β -> List PV} {w1 : α -> Prop} {w2 : β -> Prop} {b1 : α -> Nat} {b2 : β -> Nat} (k:Nat) (h1:Rds enc Tryz.prog W f.type c1 w1 b1) (h2:RdsF enc Tryz.prog W fs (o+k) c2 w2 b2) (ho:f.offset=o:=by kernel_rfl) (hk:Tryz.prog.cellsOf f.type=k:=by kernel_rfl) (hl:∀a,(c1 a).length=k:=by exact fun _=>rfl):RdsF enc Tryz.prog W (f::fs) o (fun p : α × β => c1 p.1++c2 p.2) (fun p=>w1 p.1/\w2 p.2) (fun p=>b1 p.1+b2 p.2):=zbs ho hk hl h1 h2
def zcG (x:Attr):Prop:=wfS x.Name/\(wfS x.Value/\(True))
def zaA (x:Attr):Nat:=(bkS x.Name+(bkS x.Value+(0)))+1
def zcI (x:Node):Prop:=(wfI .i64) x.Kind/\(wfS x.Name/\(wfS x.Is/\(wfS x.Data/\((wfL zcG) x.Attrs/\((wfI .i64) x.Parent/\((wfL (wfI .i64)) x.Kids/\((wfI .i64) x.Host/\((wfI .i64) x.Under/\((wfI .i64) x.Doc/\(True))))))))))
def zaC (x:Node):Nat:=(bkI x.Kind+(bkS x.Name+(bkS x.Is+(bkS x.Data+((bkL zaA) x.Attrs+(bkI x.Parent+((bkL bkI) x.Kids+(bkI x.Host+(bkI x.Under+(bkI x.Doc+(0)))))))))))+1
def zYg (x:Forest):Prop:=(wfL zcI) x.Nodes/\((wfI .i64) x.Most/\(True))
def zXe (x:Forest):Nat:=((bkL zaC) x.Nodes+(bkI x.Most+(0)))+1
def zXR (x:State):Prop:=(wfI .i64) x.Phase/\((wfI .i64) x.Def/\((wfI .i64) x.Owner/\(wfB x.Barred/\(True))))
def zWP (x:State):Nat:=(bkI x.Phase+(bkI x.Def+(bkI x.Owner+(bkB x.Barred+(0)))))+1
def zgz (x:Def):Prop:=wfS x.Name/\(wfS x.Local/\((wfI .i64) x.Class/\(True)))
def zfJ (x:Def):Nat:=(bkS x.Name+(bkS x.Local+(bkI x.Class+(0))))+1
def zcK (x:Wait):Prop:=wfS x.Name/\((wfI .i64) x.Ticket/\(True))
def zaE (x:Wait):Nat:=(bkS x.Name+(bkI x.Ticket+(0)))+1
def ze0 (x:Desk):Prop:=(wfL zgz) x.Defs/\((wfL zcK) x.Waits/\((wfI .i64) x.Next/\(wfB x.Busy/\(True))))
def zeZ (x:Desk):Nat:=((bkL zfJ) x.Defs+((bkL zaE) x.Waits+(bkI x.Next+(bkB x.Busy+(0)))))+1
def zYh (x:Todo):Prop:=(wfI .i64) x.Kind/\((wfI .i64) x.Def/\(wfS x.Name/\(wfB x.Had/\(wfB x.Has/\(wfS x.Old/\(wfS x.New/\((wfI .i64) x.From/\((wfI .i64) x.To/\(wfB x.On/\(True))))))))))
def zXf (x:Todo):Nat:=(bkI x.Kind+(bkI x.Def+(bkS x.Name+(bkB x.Had+(bkB x.Has+(bkS x.Old+(bkS x.New+(bkI x.From+(bkI x.To+(bkB x.On+(0)))))))))))+1
def ze1 (x:Line):Prop:=(wfL (wfL zYh)) x.Todos/\((wfL (wfL (wfI .i64))) x.Stack/\((wfL (wfI .i64)) x.Back/\(wfB x.Busy/\(True))))
def zea (x:Line):Nat:=((bkL (bkL zXf)) x.Todos+((bkL (bkL bkI)) x.Stack+((bkL bkI) x.Back+(bkB x.Busy+(0)))))+1
def zcJ (x:Task):Prop:=(wfI .i64) x.Kind/\((wfI .i64) x.Ticket/\((wfI .i64) x.Def/\(True)))
def zaD (x:Task):Nat:=(bkI x.Kind+(bkI x.Ticket+(bkI x.Def+(0))))+1
def zXP (x:Build):Prop:=(wfI .i64) x.Def/\((wfI .i64) x.Node/\(True))
def zWN (x:Build):Nat:=(bkI x.Def+(bkI x.Node+(0)))+1
def wfOp (x:Op):Prop:=(wfI .i64) x.Kind/\((wfI .i64) x.A/\((wfI .i64) x.B/\((wfI .i64) x.C/\(wfS x.S/\(wfS x.T/\(wfB x.Must/\(True)))))))
def bkOp (x:Op):Nat:=(bkI x.Kind+(bkI x.A+(bkI x.B+(bkI x.C+(bkS x.S+(bkS x.T+(bkB x.Must+(0))))))))+1
def zcH (x:Hook):Prop:=(wfI .i64) x.Kind/\((wfL wfOp) x.Do/\(True))
def zaB (x:Hook):Nat:=(bkI x.Kind+((bkL bkOp) x.Do+(0)))+1
def zXQ (x:Class):Prop:=wfB x.Form/\((wfL wfS) x.Watch/\((wfL wfOp) x.Peek/\((wfL wfOp) x.Make/\((wfL zcH) x.Hooks/\(True)))))
def zWO (x:Class):Nat:=(bkB x.Form+((bkL bkS) x.Watch+((bkL bkOp) x.Peek+((bkL bkOp) x.Make+((bkL zaB) x.Hooks+(0))))))+1
def zR1 (x:World):Prop:=zYg x.Forest/\((wfL zXR) x.States/\(ze0 x.Desk/\(ze1 x.Line/\((wfL zcJ) x.Tasks/\((wfL zXP) x.Builds/\((wfL zXQ) x.Classes/\(True)))))))
def zaF (x:World):Nat:=(zXe x.Forest+((bkL zWP) x.States+(zeZ x.Desk+(zea x.Line+((bkL zaD) x.Tasks+((bkL zWN) x.Builds+((bkL zWO) x.Classes+(0))))))))+1
theorem zPR:Rds enc Tryz.prog W 3 zAB (wfI .i64) bkI:=zbt (by kernel_rfl)
theorem zYR:Rds enc Tryz.prog W 9 zQT wfS bkS:=zbu (by kernel_rfl)
set_option maxRecDepth 100000 in
theorem rd_198:Rds enc Tryz.prog W 198 zDY zcG zaA :=
 zC8 (n:=2) Tryz.underlying198 (by kernel_rfl) (rc 1 zYR (rc 1 zYR (zFM))) (fun p=>⟨p.1,p.2.1⟩) (fun _=>rfl) (fun _=>rfl) (fun _ h=>h) (fun _=>rfl)
theorem rd_75:Rds enc Tryz.prog W 75 (fun l:(List Attr)=>[.sl 2 false (l.map zDY)]) (wfL zcG) (bkL zaA):=zD3 (e:=198) (by kernel_rfl) (by kernel_rfl) (by omega) rd_198
theorem zgW:Rds enc Tryz.prog W 32 (fun l:(List Int)=>[.sl 1 false (l.map zAB)]) (wfL (wfI .i64)) (bkL bkI):=zD3 (e:=3) (by kernel_rfl) (by kernel_rfl) (by omega) zPR
set_option maxRecDepth 100000 in
theorem rd_77:Rds enc Tryz.prog W 77 zAX zcI zaC :=
 zC8 (n:=10) Tryz.underlying77 (by kernel_rfl) (rc 1 zPR (rc 1 zYR (rc 1 zYR (rc 1 zYR (rc 1 rd_75 (rc 1 zPR (rc 1 zgW (rc 1 zPR (rc 1 zPR (rc 1 zPR (zFM))))))))))) (fun p=>⟨p.1,p.2.1,p.2.2.1,p.2.2.2.1,p.2.2.2.2.1,p.2.2.2.2.2.1,p.2.2.2.2.2.2.1,p.2.2.2.2.2.2.2.1,p.2.2.2.2.2.2.2.2.1,p.2.2.2.2.2.2.2.2.2.1⟩) (fun _=>rfl) (fun _=>rfl) (fun _ h=>h) (fun _=>rfl)
theorem rd_22:Rds enc Tryz.prog W 22 (fun l:(List Node)=>[.sl 10 false (l.map zAX)]) (wfL zcI) (bkL zaC):=zD3 (e:=77) (by kernel_rfl) (by kernel_rfl) (by omega) rd_77
set_option maxRecDepth 100000 in
theorem rd_24:Rds enc Tryz.prog W 24 zAD zYg zXe :=
 zC8 (n:=2) Tryz.underlying24 (by kernel_rfl) (rc 1 rd_22 (rc 1 zPR (zFM))) (fun p=>⟨p.1,p.2.1⟩) (fun _=>rfl) (fun _=>rfl) (fun _ h=>h) (fun _=>rfl)
theorem zet:Rds enc Tryz.prog W 4 cBool wfB bkB:=zdy (by kernel_rfl)
set_option maxRecDepth 100000 in
theorem rd_53:Rds enc Tryz.prog W 53 zBN zXR zWP :=
 zC8 (n:=4) Tryz.underlying53 (by kernel_rfl) (rc 1 zPR (rc 1 zPR (rc 1 zPR (rc 1 zet (zFM))))) (fun p=>⟨p.1,p.2.1,p.2.2.1,p.2.2.2.1⟩) (fun _=>rfl) (fun _=>rfl) (fun _ h=>h) (fun _=>rfl)
theorem rd_25:Rds enc Tryz.prog W 25 (fun l:(List State)=>[.sl 4 false (l.map zBN)]) (wfL zXR) (bkL zWP):=zD3 (e:=53) (by kernel_rfl) (by kernel_rfl) (by omega) rd_53
set_option maxRecDepth 100000 in
theorem rd_88:Rds enc Tryz.prog W 88 zQC zgz zfJ :=
 zC8 (n:=3) Tryz.underlying88 (by kernel_rfl) (rc 1 zYR (rc 1 zYR (rc 1 zPR (zFM)))) (fun p=>⟨p.1,p.2.1,p.2.2.1⟩) (fun _=>rfl) (fun _=>rfl) (fun _ h=>h) (fun _=>rfl)
theorem rd_26:Rds enc Tryz.prog W 26 (fun l:(List Def)=>[.sl 3 false (l.map zQC)]) (wfL zgz) (bkL zfJ):=zD3 (e:=88) (by kernel_rfl) (by kernel_rfl) (by omega) rd_88
set_option maxRecDepth 100000 in
theorem rd_150:Rds enc Tryz.prog W 150 zIw zcK zaE :=
 zC8 (n:=2) Tryz.underlying150 (by kernel_rfl) (rc 1 zYR (rc 1 zPR (zFM))) (fun p=>⟨p.1,p.2.1⟩) (fun _=>rfl) (fun _=>rfl) (fun _ h=>h) (fun _=>rfl)
theorem rd_27:Rds enc Tryz.prog W 27 (fun l:(List Wait)=>[.sl 2 false (l.map zIw)]) (wfL zcK) (bkL zaE):=zD3 (e:=150) (by kernel_rfl) (by kernel_rfl) (by omega) rd_150
set_option maxRecDepth 100000 in
theorem rd_29:Rds enc Tryz.prog W 29 zIP ze0 zeZ :=
 zC8 (n:=4) Tryz.underlying29 (by kernel_rfl) (rc 1 rd_26 (rc 1 rd_27 (rc 1 zPR (rc 1 zet (zFM))))) (fun p=>⟨p.1,p.2.1,p.2.2.1,p.2.2.2.1⟩) (fun _=>rfl) (fun _=>rfl) (fun _ h=>h) (fun _=>rfl)
set_option maxRecDepth 100000 in
theorem rd_80:Rds enc Tryz.prog W 80 zKG zYh zXf :=
 zC8 (n:=10) Tryz.underlying80 (by kernel_rfl) (rc 1 zPR (rc 1 zPR (rc 1 zYR (rc 1 zet (rc 1 zet (rc 1 zYR (rc 1 zYR (rc 1 zPR (rc 1 zPR (rc 1 zet (zFM))))))))))) (fun p=>⟨p.1,p.2.1,p.2.2.1,p.2.2.2.1,p.2.2.2.2.1,p.2.2.2.2.2.1,p.2.2.2.2.2.2.1,p.2.2.2.2.2.2.2.1,p.2.2.2.2.2.2.2.2.1,p.2.2.2.2.2.2.2.2.2.1⟩) (fun _=>rfl) (fun _=>rfl) (fun _ h=>h) (fun _=>rfl)
theorem rd_51:Rds enc Tryz.prog W 51 (fun l:(List Todo)=>[.sl 10 false (l.map zKG)]) (wfL zYh) (bkL zXf):=zD3 (e:=80) (by kernel_rfl) (by kernel_rfl) (by omega) rd_80
theorem rd_30:Rds enc Tryz.prog W 30 (fun l:(List (List Todo))=>[.sl 1 false (l.map zDZ)]) (wfL (wfL zYh)) (bkL (bkL zXf)):=zD3 (e:=51) (by kernel_rfl) (by kernel_rfl) (by omega) rd_51
theorem rd_31:Rds enc Tryz.prog W 31 (fun l:(List (List Int))=>[.sl 1 false (l.map zAn)]) (wfL (wfL (wfI .i64))) (bkL (bkL bkI)):=zD3 (e:=32) (by kernel_rfl) (by kernel_rfl) (by omega) zgW
set_option maxRecDepth 100000 in
theorem rd_34:Rds enc Tryz.prog W 34 zO7 ze1 zea :=
 zC8 (n:=4) Tryz.underlying34 (by kernel_rfl) (rc 1 rd_30 (rc 1 rd_31 (rc 1 zgW (rc 1 zet (zFM))))) (fun p=>⟨p.1,p.2.1,p.2.2.1,p.2.2.2.1⟩) (fun _=>rfl) (fun _=>rfl) (fun _ h=>h) (fun _=>rfl)
set_option maxRecDepth 100000 in
theorem rd_102:Rds enc Tryz.prog W 102 zIg zcJ zaD :=
 zC8 (n:=3) Tryz.underlying102 (by kernel_rfl) (rc 1 zPR (rc 1 zPR (rc 1 zPR (zFM)))) (fun p=>⟨p.1,p.2.1,p.2.2.1⟩) (fun _=>rfl) (fun _=>rfl) (fun _ h=>h) (fun _=>rfl)
theorem rd_35:Rds enc Tryz.prog W 35 (fun l:(List Task)=>[.sl 3 false (l.map zIg)]) (wfL zcJ) (bkL zaD):=zD3 (e:=102) (by kernel_rfl) (by kernel_rfl) (by omega) rd_102
set_option maxRecDepth 100000 in
theorem rd_104:Rds enc Tryz.prog W 104 zIO zXP zWN :=
 zC8 (n:=2) Tryz.underlying104 (by kernel_rfl) (rc 1 zPR (rc 1 zPR (zFM))) (fun p=>⟨p.1,p.2.1⟩) (fun _=>rfl) (fun _=>rfl) (fun _ h=>h) (fun _=>rfl)
theorem rd_36:Rds enc Tryz.prog W 36 (fun l:(List Build)=>[.sl 2 false (l.map zIO)]) (wfL zXP) (bkL zWN):=zD3 (e:=104) (by kernel_rfl) (by kernel_rfl) (by omega) rd_104
theorem rd_66:Rds enc Tryz.prog W 66 (fun l:(List Bs)=>[.sl 1 false (l.map zQT)]) (wfL wfS) (bkL bkS):=zD3 (e:=9) (by kernel_rfl) (by kernel_rfl) (by omega) zYR
set_option maxRecDepth 100000 in
theorem rd_41:Rds enc Tryz.prog W 41 cOp wfOp bkOp :=
 zC8 (n:=7) Tryz.underlying41 (by kernel_rfl) (rc 1 zPR (rc 1 zPR (rc 1 zPR (rc 1 zPR (rc 1 zYR (rc 1 zYR (rc 1 zet (zFM)))))))) (fun p=>⟨p.1,p.2.1,p.2.2.1,p.2.2.2.1,p.2.2.2.2.1,p.2.2.2.2.2.1,p.2.2.2.2.2.2.1⟩) (fun _=>rfl) (fun _=>rfl) (fun _ h=>h) (fun _=>rfl)
theorem zgX:Rds enc Tryz.prog W 67 (fun l:(List Op)=>[.sl 7 false (l.map cOp)]) (wfL wfOp) (bkL bkOp):=zD3 (e:=41) (by kernel_rfl) (by kernel_rfl) (by omega) rd_41
set_option maxRecDepth 100000 in
theorem rd_86:Rds enc Tryz.prog W 86 zIf zcH zaB :=
 zC8 (n:=2) Tryz.underlying86 (by kernel_rfl) (rc 1 zPR (rc 1 zgX (zFM))) (fun p=>⟨p.1,p.2.1⟩) (fun _=>rfl) (fun _=>rfl) (fun _ h=>h) (fun _=>rfl)
theorem rd_68:Rds enc Tryz.prog W 68 (fun l:(List Hook)=>[.sl 2 false (l.map zIf)]) (wfL zcH) (bkL zaB):=zD3 (e:=86) (by kernel_rfl) (by kernel_rfl) (by omega) rd_86
set_option maxRecDepth 100000 in
theorem rd_70:Rds enc Tryz.prog W 70 zBb zXQ zWO :=
 zC8 (n:=5) Tryz.underlying70 (by kernel_rfl) (rc 1 zet (rc 1 rd_66 (rc 1 zgX (rc 1 zgX (rc 1 rd_68 (zFM)))))) (fun p=>⟨p.1,p.2.1,p.2.2.1,p.2.2.2.1,p.2.2.2.2.1⟩) (fun _=>rfl) (fun _=>rfl) (fun _ h=>h) (fun _=>rfl)
theorem rd_37:Rds enc Tryz.prog W 37 (fun l:(List Class)=>[.sl 5 false (l.map zBb)]) (wfL zXQ) (bkL zWO):=zD3 (e:=70) (by kernel_rfl) (by kernel_rfl) (by omega) rd_70
set_option maxRecDepth 100000 in
theorem rd_39:Rds enc Tryz.prog W 39 zBO zR1 zaF :=
 zC8 (n:=14) Tryz.underlying39 (by kernel_rfl) (rc 2 rd_24 (rc 1 rd_25 (rc 4 rd_29 (rc 4 rd_34 (rc 1 rd_35 (rc 1 rd_36 (rc 1 rd_37 (zFM)))))))) (fun p=>⟨p.1,p.2.1,p.2.2.1,p.2.2.2.1,p.2.2.2.2.1,p.2.2.2.2.2.1,p.2.2.2.2.2.2.1⟩) (fun _=>rfl) (fun _=>rfl) (fun _ h=>h) (fun _=>rfl)
theorem rda_0:RdA enc Tryz.prog W 39 (fun x:World=>.agg (zBO x)) zR1 zaF:=zZU Tryz.underlying39 rd_39
theorem rda_1:RdA enc Tryz.prog W 5 (fun x:Int=>.v (.int .u8 x)) (wfI .u8) bkI:=zXB (by kernel_rfl)
theorem rda_2:RdA enc Tryz.prog W 5 (fun x:Int=>.v (.int .u8 x)) (wfI .u8) bkI:=zXB (by kernel_rfl)
theorem rda_3:RdA enc Tryz.prog W 3 (fun x:Int=>.v (.int .i64 x)) (wfI .i64) bkI:=zXB (by kernel_rfl)
theorem rda_4:RdA enc Tryz.prog W 9 (fun x:Bs=>.v (.string ⟨⟨x⟩⟩)) wfS bkS:=zbr (by kernel_rfl)
theorem rda_5:RdA enc Tryz.prog W 9 (fun x:Bs=>.v (.string ⟨⟨x⟩⟩)) wfS bkS:=zbr (by kernel_rfl)
theorem own:ownKnob Tryz.prog.godebug=none:=by kernel_rfl
theorem han_of {W : Go.World} (h : handlesMet Tryz.prog [("errors.errorType", Rows.laid_errors_errorType)] W) : zVE W := by
 have et : Tryz.prog.globalNamed "errors.errorType" = some 0 := by kernel_rfl
 have size:Tryz.prog.types.size=422:=by kernel_rfl
 have oneRow:((List.range 422).filter fun t=>Tryz.prog.rowNamed t [101,114,114,111,114])=[122]:=by kernel_rfl
 have rt : (Tryz.prog.cutTypes.find? (·.1 == "internal/reflectlite.rtype")).map (·.2) = some 355 := by kernel_rfl
 obtain ⟨name,u,ty,e1,e2,e3,e4,e5⟩:=h _ (List.mem_singleton.2 rfl)
 have en:name=[101,114,114,111,114]:=(Option.some.inj e1).symm
 subst en
 obtain rfl:=Option.some.inj (rt.symm.trans e2)
 have hm:ty∈(List.range 422).filter fun t=>Tryz.prog.rowNamed t [101,114,114,111,114]:=List.mem_filter.2 ⟨List.mem_range.2 (by rw [<- size];exact e3),e4⟩
 rw [oneRow] at hm
 obtain rfl:=List.mem_singleton.1 hm
 have hh:typeHandle Tryz.prog 122=.pointer (some ⟨5,122,none⟩):=by kernel_rfl
 rw [hh] at e5
 unfold zVE
 simpa using Go.World.var?_cell et e5 0
theorem zf2 {W:Go.World} (h0:laidMetH Tryz.prog Rows.deedHandsRow.laid W):zRc W:=by
 have h' : laidMet Tryz.prog [("unicode.White_Space", Rows.laid_unicode_White_Space), ("strings.asciiSpace", Rows.laid_strings_asciiSpace)] W ∧ handlesMet Tryz.prog [("errors.errorType", Rows.laid_errors_errorType)] W := h0
 have h:=h'.1
 have e1:Rows.laid_strings_asciiSpace (H:=Unit)=Lib.tabData .u8 Lib.asciiSpaceTab:=by kernel_rfl
 have t1:=h.tail
 exact ⟨Lib.tabIs_of_head (g:=1) (t:=350) (n:=256) (e:=5) (by kernel_rfl) (by kernel_rfl) (by kernel_rfl) (by kernel_rfl) (by kernel_rfl) (by kernel_rfl) (e1▸t1),han_of h'.2,trivial⟩
set_option maxRecDepth 100000 in
theorem lifted (hall:∀(a0:World) (a1:Int) (a2:Int) (a3:Int) (a4:Bs) (a5:Bs),zR1 a0->(wfI .u8) a1->(wfI .u8) a2->(wfI .i64) a3->wfS a4->wfS a5->∃fu,zBj fu a0 a1 a2 a3 a4 a5=some true) (os:Os) (started:os.Started) (H:Type) (enc:TypeId×Value->H) :
  ReturnsInHanded {} Tryz.checked os 4 .any (fun w args=>(Rows.deedHandsSpec.pre enc Tryz.prog Tryz.f4 [] false w args/\laidMetH Tryz.prog Rows.deedHandsRow.laid w)/\sizedMet enc Tryz.prog Tryz.f4 (OpenSpec.ofChange Rows.deedHandsSpec) false w args) (Rows.deedHandsSpec.post enc Tryz.prog Tryz.f4 false true false false):=by
 refine returnsInHanded_of_change_and (C:=Tryz.checked) (X:=fun w _=>laidMetH Tryz.prog Rows.deedHandsRow.laid w) (fun _ _ _ hh h=>h.of_heap hh) own started noInit Tryz.func4
  (ChangeSpec.witness_shaped (enc:=enc) (C:=Tryz.checked) (os:=os) (X:=fun w _=>laidMetH Tryz.prog Rows.deedHandsRow.laid w) false (Go.World.doorLaid Tryz.prog 200 os) wi 12 rfl (shp os) (okw os) (prb enc os) (szb enc os) (zc7 os)) ?_
 intro W base args ds gs before hval0 hW _ _ hL _
 have hval:∀(j:Nat) t v,Tryz.f4.params[j]? = some t->args[j]? = some v->Value.okWide Tryz.prog W .any base t v:=hval0
 have hW':=hW
 obtain ⟨p,q,hA0,hV,rfl,hfz,hnd⟩:=hW
 have hA:DataW.TrodAll enc Tryz.prog W 0 (fun _=>true) true Tryz.f4.params.toList args.toList ds p:=hA0
 rw [Tryz.params4] at hA hval
 obtain ⟨v0,vs0,d0,ds0,p0,q0,hargs,rfl,rfl,h0,r0⟩:=trodAll_cons hA
 obtain ⟨v1,vs1,d1,ds1,p1,q1,rfl,rfl,rfl,h1,r1⟩:=trodAll_cons r0
 obtain ⟨v2,vs2,d2,ds2,p2,q2,rfl,rfl,rfl,h2,r2⟩:=trodAll_cons r1
 obtain ⟨v3,vs3,d3,ds3,p3,q3,rfl,rfl,rfl,h3,r3⟩:=trodAll_cons r2
 obtain ⟨v4,vs4,d4,ds4,p4,q4,rfl,rfl,rfl,h4,r4⟩:=trodAll_cons r3
 obtain ⟨v5,vs5,d5,ds5,p5,q5,rfl,rfl,rfl,h5,r5⟩:=trodAll_cons r4
 obtain ⟨rfl,rfl,rfl⟩:=trodAll_nil r5
 obtain rfl:args = #[v0,v1,v2,v3,v4,v5]:=by cases args;simp_all
 obtain ⟨rfl,rfl⟩:=trodVars_none hV
 obtain ⟨a0,w0,b0,e0⟩:=rda_0 (enc:=enc) base v0 d0 p0 (hval 0 39 v0 rfl rfl) h0
 obtain ⟨a1,w1,b1,e1⟩:=rda_1 (enc:=enc) base v1 d1 p1 (hval 1 5 v1 rfl rfl) h1
 obtain ⟨a2,w2,b2,e2⟩:=rda_2 (enc:=enc) base v2 d2 p2 (hval 2 5 v2 rfl rfl) h2
 obtain ⟨a3,w3,b3,e3⟩:=rda_3 (enc:=enc) base v3 d3 p3 (hval 3 3 v3 rfl rfl) h3
 obtain ⟨a4,w4,b4,e4⟩:=rda_4 (enc:=enc) base v4 d4 p4 (hval 4 9 v4 rfl rfl) h4
 obtain ⟨a5,w5,b5,e5⟩:=rda_5 (enc:=enc) base v5 d5 p5 (hval 5 9 v5 rfl rfl) h5
 obtain ⟨fu,hm⟩:=hall a0 a1 a2 a3 a4 a5 w0 w1 w2 w3 w4 w5
 exact zdK (s:=Rows.deedHandsSpec) (by kernel_rfl) (t:=4) rfl Tryz.underlying4 (by kernel_rfl) rfl (zKR true hm) (fun w' hk=>zZE hk (zf2 hL)) (zMr e0 (zMr e1 (zMr e2 (zMr e3 (zMr e4 (zMr e5 (zgY))))))) hW' rfl rfl rfl
theorem zNl {a b:Bool} (h1:a=true) (h2:b=true):(a&&b)=true:=by rw [h1,h2];rfl
set_option maxRecDepth 100000 in
theorem closed:joinedFacts Tryz.prog 4 Tryz.f4 Rows.deedHandsSpec Rows.deedHandsRow=true:=by
 unfold joinedFacts
 exact (zNl (zNl (zNl (zNl (zNl (zNl (zNl (zNl (zNl (zNl (zNl (zNl (zNl (zNl (zNl (zNl (zNl (zNl (zNl (zNl (zNl (zNl (zNl (zNl (zNl (zNl (zNl (zNl (zNl (zNl (zNl j0 j1) j2) j3) j4) j5) j6) j7) j8) j9) j10) j11) j12) j13) j14) j15) j16) j17) j18) j19) j20) j21) j22) j23) j24) j25) j26) j27) j28) j29) j30) j31)
theorem said (hall:∀(a0:World) (a1:Int) (a2:Int) (a3:Int) (a4:Bs) (a5:Bs),zR1 a0->(wfI .u8) a1->(wfI .u8) a2->(wfI .i64) a3->wfS a4->wfS a5->∃fu,zBj fu a0 a1 a2 a3 a4 a5=some true):Rows.DeedHandsSaid :=
 OpenClaim.holds_of_wide 4 Tryz.f4 rfl rfl rfl rfl rfl rfl rfl ⟨rfl,rfl,rfl,rfl,rfl⟩ rfl rfl rfl rfl rfl (by kernel_rfl) Tryz.func4 closed
  (of_decide_eq_true (by kernel_rfl)) (by unfold Func.isWrapper;first | (rw [if_pos (by decide +kernel)];kernel_rfl) | (rw [if_neg (by decide +kernel)];exact ⟨rfl,rfl⟩))
  (fun os started H enc _=>lifted hall os started H enc)
theorem plain (f : FuncId) (fn : Func) (hf : Tryz.pinned.checked.prog.funcNamed "instar/instarlaw18.DeedHands" = some f) (hfn : Tryz.pinned.checked.prog.funcs[f]? = some fn) :
  true=Tryz.pinned.checked.prog.looks []/\∀(j:Nat) t,fn.params[j]? = some t->Tryz.pinned.checked.prog.wantsStandIn t=false:=by
 obtain rfl : f = 4 := Option.some.inj ((show Tryz.prog.funcNamed "instar/instarlaw18.DeedHands" = some 4 by kernel_rfl).symm.trans hf) |>.symm
 obtain rfl:fn=Tryz.f4:=(Option.some.inj (Tryz.func4.symm.trans hfn)).symm
 refine ⟨by kernel_rfl,fun j t ht=>?_⟩
 rw [Tryz.params4] at ht
 have hm:t∈[39,5,5,3,9,9]:=by simpa using Array.mem_of_getElem? ht
 have hall:([39,5,5,3,9,9].all fun u => !Tryz.prog.wantsStandIn u)=true:=by kernel_rfl
 exact (show Tryz.prog.wantsStandIn t=false by simpa using List.all_eq_true.1 hall t hm)
theorem step (hall:∀(a0:World) (a1:Int) (a2:Int) (a3:Int) (a4:Bs) (a5:Bs),zR1 a0->(wfI .u8) a1->(wfI .u8) a2->(wfI .i64) a3->wfS a4->wfS a5->∃fu,zBj fu a0 a1 a2 a3 a4 a5=some true):Rows.DeedHandsCardSaid :=
 Claim7.holds_tied_plain_at .later [] _ _ _ _ (said hall) (fun _ h=>by cases h) (by kernel_rfl) (fun _ h=>by cases h) deedHands_row_tie rfl ⟨rfl,rfl⟩ (by kernel_rfl) rfl plain (by kernel_rfl)
end Go.Proofs.YtmfbghpealgaiaaGreatDoor.WDeedHands
