/- The step from the model of 'instar/instarlaw18.DeedKeeps' to the row's statement: printed by law.py. -/
import Derived.Test.YtmfbghpealgaiaaGreatDoorG
import Derived.Test.YtmfbghpealgaiaaGreatDoorRows
import Derived.Test.YtmfbghpealgaiaaGreatDoorCo3
import Derived.Test.YtmfbghpealgaiaaGreatDoorWDeedKeepsF1
import Derived.Test.YtmfbghpealgaiaaGreatDoorWDeedKeepsF2
import Derived.Test.YtmfbghpealgaiaaGreatDoorWDeedKeepsF3
import Derived.Deep.DeepHandedRow
import Derived.LaidMore
import Derived.MakeChecks
import Derived.LaidHandle
import Derived.Stop.Joined
import Derived.Test.YtmfbghpealgaiaaGreatDoorCards
import Derived.Test.YtmfbghpealgaiaaGreatDoorTie
namespace Go.Proofs.YtmfbghpealgaiaaGreatDoor.WDeedKeeps
open Go Go.Pw Go.ChangeShapes Go.WideShapes Go.ChangeAt Go.RowKit
set_option linter.unusedVariables false
variable {H:Type} {enc:TypeId×Value->H} {W:Go.World}
theorem rc {f:Field} {fs:List Field} {o:Nat} {α β : Type} {c1 : α -> List PV} {c2 : β -> List PV} {w1 : α -> Prop} {w2 : β -> Prop} {b1 : α -> Nat} {b2 : β -> Nat} (k:Nat) (h1:Rds enc Tryz.prog W f.type c1 w1 b1) (h2:RdsF enc Tryz.prog W fs (o+k) c2 w2 b2) (ho:f.offset=o:=by kernel_rfl) (hk:Tryz.prog.cellsOf f.type=k:=by kernel_rfl) (hl:∀a,(c1 a).length=k:=by exact fun _=>rfl):RdsF enc Tryz.prog W (f::fs) o (fun p : α × β => c1 p.1++c2 p.2) (fun p=>w1 p.1/\w2 p.2) (fun p=>b1 p.1+b2 p.2):=zce ho hk hl h1 h2
def zc3 (x:Attr):Prop:=wfS x.Name/\(wfS x.Value/\(True))
def zar (x:Attr):Nat:=(bkS x.Name+(bkS x.Value+(0)))+1
def zc5 (x:Node):Prop:=(wfI .i64) x.Kind/\(wfS x.Name/\(wfS x.Is/\(wfS x.Data/\((wfL zc3) x.Attrs/\((wfI .i64) x.Parent/\((wfL (wfI .i64)) x.Kids/\((wfI .i64) x.Host/\((wfI .i64) x.Under/\((wfI .i64) x.Doc/\(True))))))))))
def zat (x:Node):Nat:=(bkI x.Kind+(bkS x.Name+(bkS x.Is+(bkS x.Data+((bkL zar) x.Attrs+(bkI x.Parent+((bkL bkI) x.Kids+(bkI x.Host+(bkI x.Under+(bkI x.Doc+(0)))))))))))+1
def zZK (x:Forest):Prop:=(wfL zc5) x.Nodes/\((wfI .i64) x.Most/\(True))
def zYG (x:Forest):Nat:=((bkL zat) x.Nodes+(bkI x.Most+(0)))+1
def zX6 (x:State):Prop:=(wfI .i64) x.Phase/\((wfI .i64) x.Def/\((wfI .i64) x.Owner/\(wfB x.Barred/\(True))))
def zW8 (x:State):Nat:=(bkI x.Phase+(bkI x.Def+(bkI x.Owner+(bkB x.Barred+(0)))))+1
def zhr (x:Def):Prop:=wfS x.Name/\(wfS x.Local/\((wfI .i64) x.Class/\(True)))
def zgD (x:Def):Nat:=(bkS x.Name+(bkS x.Local+(bkI x.Class+(0))))+1
def zc7 (x:Wait):Prop:=wfS x.Name/\((wfI .i64) x.Ticket/\(True))
def zav (x:Wait):Nat:=(bkS x.Name+(bkI x.Ticket+(0)))+1
def zfx (x:Desk):Prop:=(wfL zhr) x.Defs/\((wfL zc7) x.Waits/\((wfI .i64) x.Next/\(wfB x.Busy/\(True))))
def zfW (x:Desk):Nat:=((bkL zgD) x.Defs+((bkL zav) x.Waits+(bkI x.Next+(bkB x.Busy+(0)))))+1
def zZL (x:Todo):Prop:=(wfI .i64) x.Kind/\((wfI .i64) x.Def/\(wfS x.Name/\(wfB x.Had/\(wfB x.Has/\(wfS x.Old/\(wfS x.New/\((wfI .i64) x.From/\((wfI .i64) x.To/\(wfB x.On/\(True))))))))))
def zYH (x:Todo):Nat:=(bkI x.Kind+(bkI x.Def+(bkS x.Name+(bkB x.Had+(bkB x.Has+(bkS x.Old+(bkS x.New+(bkI x.From+(bkI x.To+(bkB x.On+(0)))))))))))+1
def zfy (x:Line):Prop:=(wfL (wfL zZL)) x.Todos/\((wfL (wfL (wfI .i64))) x.Stack/\((wfL (wfI .i64)) x.Back/\(wfB x.Busy/\(True))))
def zfX (x:Line):Nat:=((bkL (bkL zYH)) x.Todos+((bkL (bkL bkI)) x.Stack+((bkL bkI) x.Back+(bkB x.Busy+(0)))))+1
def zc6 (x:Task):Prop:=(wfI .i64) x.Kind/\((wfI .i64) x.Ticket/\((wfI .i64) x.Def/\(True)))
def zau (x:Task):Nat:=(bkI x.Kind+(bkI x.Ticket+(bkI x.Def+(0))))+1
def zX4 (x:Build):Prop:=(wfI .i64) x.Def/\((wfI .i64) x.Node/\(True))
def zW6 (x:Build):Nat:=(bkI x.Def+(bkI x.Node+(0)))+1
def zfH (x:Op):Prop:=(wfI .i64) x.Kind/\((wfI .i64) x.A/\((wfI .i64) x.B/\((wfI .i64) x.C/\(wfS x.S/\(wfS x.T/\(wfB x.Must/\(True)))))))
def bkOp (x:Op):Nat:=(bkI x.Kind+(bkI x.A+(bkI x.B+(bkI x.C+(bkS x.S+(bkS x.T+(bkB x.Must+(0))))))))+1
def zc4 (x:Hook):Prop:=(wfI .i64) x.Kind/\((wfL zfH) x.Do/\(True))
def zas (x:Hook):Nat:=(bkI x.Kind+((bkL bkOp) x.Do+(0)))+1
def zX5 (x:Class):Prop:=wfB x.Form/\((wfL wfS) x.Watch/\((wfL zfH) x.Peek/\((wfL zfH) x.Make/\((wfL zc4) x.Hooks/\(True)))))
def zW7 (x:Class):Nat:=(bkB x.Form+((bkL bkS) x.Watch+((bkL bkOp) x.Peek+((bkL bkOp) x.Make+((bkL zas) x.Hooks+(0))))))+1
def zSc (x:World):Prop:=zZK x.Forest/\((wfL zX6) x.States/\(zfx x.Desk/\(zfy x.Line/\((wfL zc6) x.Tasks/\((wfL zX4) x.Builds/\((wfL zX5) x.Classes/\(True)))))))
def zaw (x:World):Nat:=(zYG x.Forest+((bkL zW8) x.States+(zfW x.Desk+(zfX x.Line+((bkL zau) x.Tasks+((bkL zW6) x.Builds+((bkL zW7) x.Classes+(0))))))))+1
theorem zP1:Rds enc Tryz.prog W 3 zAB (wfI .i64) bkI:=zhQ (by kernel_rfl)
theorem zY4:Rds enc Tryz.prog W 9 zQ6 wfS bkS:=zhR (by kernel_rfl)
set_option maxRecDepth 100000 in
theorem rd_198:Rds enc Tryz.prog W 198 zDf zc3 zar :=
 zC6 (n:=2) Tryz.underlying198 (by kernel_rfl) (rc 1 zY4 (rc 1 zY4 (zFh))) (fun p=>⟨p.1,p.2.1⟩) (fun _=>rfl) (fun _=>rfl) (fun _ h=>h) (fun _=>rfl)
theorem rd_75:Rds enc Tryz.prog W 75 (fun l:(List Attr)=>[.sl 2 false (l.map zDf)]) (wfL zc3) (bkL zar):=zEG (e:=198) (by kernel_rfl) (by kernel_rfl) (by omega) rd_198
theorem zhN:Rds enc Tryz.prog W 32 (fun l:(List Int)=>[.sl 1 false (l.map zAB)]) (wfL (wfI .i64)) (bkL bkI):=zEG (e:=3) (by kernel_rfl) (by kernel_rfl) (by omega) zP1
set_option maxRecDepth 100000 in
theorem rd_77:Rds enc Tryz.prog W 77 zAZ zc5 zat :=
 zC6 (n:=10) Tryz.underlying77 (by kernel_rfl) (rc 1 zP1 (rc 1 zY4 (rc 1 zY4 (rc 1 zY4 (rc 1 rd_75 (rc 1 zP1 (rc 1 zhN (rc 1 zP1 (rc 1 zP1 (rc 1 zP1 (zFh))))))))))) (fun p=>⟨p.1,p.2.1,p.2.2.1,p.2.2.2.1,p.2.2.2.2.1,p.2.2.2.2.2.1,p.2.2.2.2.2.2.1,p.2.2.2.2.2.2.2.1,p.2.2.2.2.2.2.2.2.1,p.2.2.2.2.2.2.2.2.2.1⟩) (fun _=>rfl) (fun _=>rfl) (fun _ h=>h) (fun _=>rfl)
theorem rd_22:Rds enc Tryz.prog W 22 (fun l:(List Node)=>[.sl 10 false (l.map zAZ)]) (wfL zc5) (bkL zat):=zEG (e:=77) (by kernel_rfl) (by kernel_rfl) (by omega) rd_77
set_option maxRecDepth 100000 in
theorem rd_24:Rds enc Tryz.prog W 24 zAE zZK zYG :=
 zC6 (n:=2) Tryz.underlying24 (by kernel_rfl) (rc 1 rd_22 (rc 1 zP1 (zFh))) (fun p=>⟨p.1,p.2.1⟩) (fun _=>rfl) (fun _=>rfl) (fun _ h=>h) (fun _=>rfl)
theorem zfq:Rds enc Tryz.prog W 4 cBool wfB bkB:=zes (by kernel_rfl)
set_option maxRecDepth 100000 in
theorem rd_53:Rds enc Tryz.prog W 53 zBM zX6 zW8 :=
 zC6 (n:=4) Tryz.underlying53 (by kernel_rfl) (rc 1 zP1 (rc 1 zP1 (rc 1 zP1 (rc 1 zfq (zFh))))) (fun p=>⟨p.1,p.2.1,p.2.2.1,p.2.2.2.1⟩) (fun _=>rfl) (fun _=>rfl) (fun _ h=>h) (fun _=>rfl)
theorem rd_25:Rds enc Tryz.prog W 25 (fun l:(List State)=>[.sl 4 false (l.map zBM)]) (wfL zX6) (bkL zW8):=zEG (e:=53) (by kernel_rfl) (by kernel_rfl) (by omega) rd_53
set_option maxRecDepth 100000 in
theorem rd_88:Rds enc Tryz.prog W 88 zQn zhr zgD :=
 zC6 (n:=3) Tryz.underlying88 (by kernel_rfl) (rc 1 zY4 (rc 1 zY4 (rc 1 zP1 (zFh)))) (fun p=>⟨p.1,p.2.1,p.2.2.1⟩) (fun _=>rfl) (fun _=>rfl) (fun _ h=>h) (fun _=>rfl)
theorem rd_26:Rds enc Tryz.prog W 26 (fun l:(List Def)=>[.sl 3 false (l.map zQn)]) (wfL zhr) (bkL zgD):=zEG (e:=88) (by kernel_rfl) (by kernel_rfl) (by omega) rd_88
set_option maxRecDepth 100000 in
theorem rd_150:Rds enc Tryz.prog W 150 zJa zc7 zav :=
 zC6 (n:=2) Tryz.underlying150 (by kernel_rfl) (rc 1 zY4 (rc 1 zP1 (zFh))) (fun p=>⟨p.1,p.2.1⟩) (fun _=>rfl) (fun _=>rfl) (fun _ h=>h) (fun _=>rfl)
theorem rd_27:Rds enc Tryz.prog W 27 (fun l:(List Wait)=>[.sl 2 false (l.map zJa)]) (wfL zc7) (bkL zav):=zEG (e:=150) (by kernel_rfl) (by kernel_rfl) (by omega) rd_150
set_option maxRecDepth 100000 in
theorem rd_29:Rds enc Tryz.prog W 29 zI4 zfx zfW :=
 zC6 (n:=4) Tryz.underlying29 (by kernel_rfl) (rc 1 rd_26 (rc 1 rd_27 (rc 1 zP1 (rc 1 zfq (zFh))))) (fun p=>⟨p.1,p.2.1,p.2.2.1,p.2.2.2.1⟩) (fun _=>rfl) (fun _=>rfl) (fun _ h=>h) (fun _=>rfl)
set_option maxRecDepth 100000 in
theorem rd_80:Rds enc Tryz.prog W 80 zJK zZL zYH :=
 zC6 (n:=10) Tryz.underlying80 (by kernel_rfl) (rc 1 zP1 (rc 1 zP1 (rc 1 zY4 (rc 1 zfq (rc 1 zfq (rc 1 zY4 (rc 1 zY4 (rc 1 zP1 (rc 1 zP1 (rc 1 zfq (zFh))))))))))) (fun p=>⟨p.1,p.2.1,p.2.2.1,p.2.2.2.1,p.2.2.2.2.1,p.2.2.2.2.2.1,p.2.2.2.2.2.2.1,p.2.2.2.2.2.2.2.1,p.2.2.2.2.2.2.2.2.1,p.2.2.2.2.2.2.2.2.2.1⟩) (fun _=>rfl) (fun _=>rfl) (fun _ h=>h) (fun _=>rfl)
theorem rd_51:Rds enc Tryz.prog W 51 (fun l:(List Todo)=>[.sl 10 false (l.map zJK)]) (wfL zZL) (bkL zYH):=zEG (e:=80) (by kernel_rfl) (by kernel_rfl) (by omega) rd_80
theorem rd_30:Rds enc Tryz.prog W 30 (fun l:(List (List Todo))=>[.sl 1 false (l.map zDF)]) (wfL (wfL zZL)) (bkL (bkL zYH)):=zEG (e:=51) (by kernel_rfl) (by kernel_rfl) (by omega) rd_51
theorem rd_31:Rds enc Tryz.prog W 31 (fun l:(List (List Int))=>[.sl 1 false (l.map zAr)]) (wfL (wfL (wfI .i64))) (bkL (bkL bkI)):=zEG (e:=32) (by kernel_rfl) (by kernel_rfl) (by omega) zhN
set_option maxRecDepth 100000 in
theorem rd_34:Rds enc Tryz.prog W 34 zPf zfy zfX :=
 zC6 (n:=4) Tryz.underlying34 (by kernel_rfl) (rc 1 rd_30 (rc 1 rd_31 (rc 1 zhN (rc 1 zfq (zFh))))) (fun p=>⟨p.1,p.2.1,p.2.2.1,p.2.2.2.1⟩) (fun _=>rfl) (fun _=>rfl) (fun _ h=>h) (fun _=>rfl)
set_option maxRecDepth 100000 in
theorem rd_102:Rds enc Tryz.prog W 102 zJJ zc6 zau :=
 zC6 (n:=3) Tryz.underlying102 (by kernel_rfl) (rc 1 zP1 (rc 1 zP1 (rc 1 zP1 (zFh)))) (fun p=>⟨p.1,p.2.1,p.2.2.1⟩) (fun _=>rfl) (fun _=>rfl) (fun _ h=>h) (fun _=>rfl)
theorem rd_35:Rds enc Tryz.prog W 35 (fun l:(List Task)=>[.sl 3 false (l.map zJJ)]) (wfL zc6) (bkL zau):=zEG (e:=102) (by kernel_rfl) (by kernel_rfl) (by omega) rd_102
set_option maxRecDepth 100000 in
theorem rd_104:Rds enc Tryz.prog W 104 zI3 zX4 zW6 :=
 zC6 (n:=2) Tryz.underlying104 (by kernel_rfl) (rc 1 zP1 (rc 1 zP1 (zFh))) (fun p=>⟨p.1,p.2.1⟩) (fun _=>rfl) (fun _=>rfl) (fun _ h=>h) (fun _=>rfl)
theorem rd_36:Rds enc Tryz.prog W 36 (fun l:(List Build)=>[.sl 2 false (l.map zI3)]) (wfL zX4) (bkL zW6):=zEG (e:=104) (by kernel_rfl) (by kernel_rfl) (by omega) rd_104
theorem rd_66:Rds enc Tryz.prog W 66 (fun l:(List Bs)=>[.sl 1 false (l.map zQ6)]) (wfL wfS) (bkL bkS):=zEG (e:=9) (by kernel_rfl) (by kernel_rfl) (by omega) zY4
set_option maxRecDepth 100000 in
theorem rd_41:Rds enc Tryz.prog W 41 cOp zfH bkOp :=
 zC6 (n:=7) Tryz.underlying41 (by kernel_rfl) (rc 1 zP1 (rc 1 zP1 (rc 1 zP1 (rc 1 zP1 (rc 1 zY4 (rc 1 zY4 (rc 1 zfq (zFh)))))))) (fun p=>⟨p.1,p.2.1,p.2.2.1,p.2.2.2.1,p.2.2.2.2.1,p.2.2.2.2.2.1,p.2.2.2.2.2.2.1⟩) (fun _=>rfl) (fun _=>rfl) (fun _ h=>h) (fun _=>rfl)
theorem zhO:Rds enc Tryz.prog W 67 (fun l:(List Op)=>[.sl 7 false (l.map cOp)]) (wfL zfH) (bkL bkOp):=zEG (e:=41) (by kernel_rfl) (by kernel_rfl) (by omega) rd_41
set_option maxRecDepth 100000 in
theorem rd_86:Rds enc Tryz.prog W 86 zJI zc4 zas :=
 zC6 (n:=2) Tryz.underlying86 (by kernel_rfl) (rc 1 zP1 (rc 1 zhO (zFh))) (fun p=>⟨p.1,p.2.1⟩) (fun _=>rfl) (fun _=>rfl) (fun _ h=>h) (fun _=>rfl)
theorem rd_68:Rds enc Tryz.prog W 68 (fun l:(List Hook)=>[.sl 2 false (l.map zJI)]) (wfL zc4) (bkL zas):=zEG (e:=86) (by kernel_rfl) (by kernel_rfl) (by omega) rd_86
set_option maxRecDepth 100000 in
theorem rd_70:Rds enc Tryz.prog W 70 zBh zX5 zW7 :=
 zC6 (n:=5) Tryz.underlying70 (by kernel_rfl) (rc 1 zfq (rc 1 rd_66 (rc 1 zhO (rc 1 zhO (rc 1 rd_68 (zFh)))))) (fun p=>⟨p.1,p.2.1,p.2.2.1,p.2.2.2.1,p.2.2.2.2.1⟩) (fun _=>rfl) (fun _=>rfl) (fun _ h=>h) (fun _=>rfl)
theorem rd_37:Rds enc Tryz.prog W 37 (fun l:(List Class)=>[.sl 5 false (l.map zBh)]) (wfL zX5) (bkL zW7):=zEG (e:=70) (by kernel_rfl) (by kernel_rfl) (by omega) rd_70
set_option maxRecDepth 100000 in
theorem rd_39:Rds enc Tryz.prog W 39 zBb zSc zaw :=
 zC6 (n:=14) Tryz.underlying39 (by kernel_rfl) (rc 2 rd_24 (rc 1 rd_25 (rc 4 rd_29 (rc 4 rd_34 (rc 1 rd_35 (rc 1 rd_36 (rc 1 rd_37 (zFh)))))))) (fun p=>⟨p.1,p.2.1,p.2.2.1,p.2.2.2.1,p.2.2.2.2.1,p.2.2.2.2.2.1,p.2.2.2.2.2.2.1⟩) (fun _=>rfl) (fun _=>rfl) (fun _ h=>h) (fun _=>rfl)
theorem rda_0:RdA enc Tryz.prog W 39 (fun x:World=>.agg (zBb x)) zSc zaw:=zTa Tryz.underlying39 rd_39
theorem rda_1:RdA enc Tryz.prog W 41 (fun x:Op=>.agg (cOp x)) zfH bkOp:=zTa Tryz.underlying41 rd_41
theorem own:ownKnob Tryz.prog.godebug=none:=by kernel_rfl
theorem han_of {W : Go.World} (h : handlesMet Tryz.prog [("errors.errorType", Rows.laid_errors_errorType)] W) : zVr W := by
 have et : Tryz.prog.globalNamed "errors.errorType" = some 0 := by kernel_rfl
 have size:Tryz.prog.types.size=422:=by kernel_rfl
 have oneRow:((List.range 422).filter fun t=>Tryz.prog.rowNamed t [101,114,114,111,114])=[122]:=by kernel_rfl
 have rt : (Tryz.prog.cutTypes.find? (·.1 == "internal/reflectlite.rtype")).map (·.2) = some 355 := by kernel_rfl
 obtain ⟨name,u,ty,e1,e2,e3,e4,e5⟩:=h _ (List.mem_singleton.2 rfl)
 have en:name=[101,114,114,111,114]:=(Option.some.inj e1).symm
 subst en
 obtain rfl:=Option.some.inj (rt.symm.trans e2)
 have hm:ty∈(List.range 422).filter fun t=>Tryz.prog.rowNamed t [101,114,114,111,114]:=List.mem_filter.2 ⟨List.mem_range.2 (by rw [<- size];exact e3),e4⟩
 rw [oneRow] at hm
 obtain rfl:=List.mem_singleton.1 hm
 have hh:typeHandle Tryz.prog 122=.pointer (some ⟨5,122,none⟩):=by kernel_rfl
 rw [hh] at e5
 unfold zVr
 simpa using Go.World.var?_cell et e5 0
theorem zgv {W:Go.World} (h0:laidMetH Tryz.prog Rows.deedKeepsRow.laid W):zSA W:=by
 have h' : laidMet Tryz.prog [("unicode.White_Space", Rows.laid_unicode_White_Space), ("strings.asciiSpace", Rows.laid_strings_asciiSpace)] W ∧ handlesMet Tryz.prog [("errors.errorType", Rows.laid_errors_errorType)] W := h0
 have h:=h'.1
 have e1:Rows.laid_strings_asciiSpace (H:=Unit)=Lib.tabData .u8 Lib.asciiSpaceTab:=by kernel_rfl
 have t1:=h.tail
 exact ⟨Lib.tabIs_of_head (g:=1) (t:=350) (n:=256) (e:=5) (by kernel_rfl) (by kernel_rfl) (by kernel_rfl) (by kernel_rfl) (by kernel_rfl) (by kernel_rfl) (e1▸t1),han_of h'.2,trivial⟩
set_option maxRecDepth 100000 in
theorem lifted (hall:∀(a0:World) (a1:Op),zSc a0->zfH a1->∃fu,zBr fu a0 a1=some true) (os:Os) (started:os.Started) (H:Type) (enc:TypeId×Value->H) :
  ReturnsInHanded {} Tryz.checked os 3 .any (fun w args=>(Rows.deedKeepsSpec.pre enc Tryz.prog Tryz.f3 [] false w args/\laidMetH Tryz.prog Rows.deedKeepsRow.laid w)/\sizedMet enc Tryz.prog Tryz.f3 (OpenSpec.ofChange Rows.deedKeepsSpec) false w args) (Rows.deedKeepsSpec.post enc Tryz.prog Tryz.f3 false true false false):=by
 refine returnsInHanded_of_change_and (C:=Tryz.checked) (X:=fun w _=>laidMetH Tryz.prog Rows.deedKeepsRow.laid w) (fun _ _ _ hh h=>h.of_heap hh) own started noInit Tryz.func3
  (ChangeSpec.witness_shaped (enc:=enc) (C:=Tryz.checked) (os:=os) (X:=fun w _=>laidMetH Tryz.prog Rows.deedKeepsRow.laid w) false (Go.World.doorLaid Tryz.prog 200 os) wi 12 rfl (shp os) (okw os) (prb enc os) (szb enc os) (zd0 os)) ?_
 intro W base args ds gs before hval0 hW _ _ hL _
 have hval:∀(j:Nat) t v,Tryz.f3.params[j]? = some t->args[j]? = some v->Value.okWide Tryz.prog W .any base t v:=hval0
 have hW':=hW
 obtain ⟨p,q,hA0,hV,rfl,hfz,hnd⟩:=hW
 have hA:DataW.TrodAll enc Tryz.prog W 0 (fun _=>true) true Tryz.f3.params.toList args.toList ds p:=hA0
 rw [Tryz.params3] at hA hval
 obtain ⟨v0,vs0,d0,ds0,p0,q0,hargs,rfl,rfl,h0,r0⟩:=trodAll_cons hA
 obtain ⟨v1,vs1,d1,ds1,p1,q1,rfl,rfl,rfl,h1,r1⟩:=trodAll_cons r0
 obtain ⟨rfl,rfl,rfl⟩:=trodAll_nil r1
 obtain rfl:args = #[v0,v1]:=by cases args;simp_all
 obtain ⟨rfl,rfl⟩:=trodVars_none hV
 obtain ⟨a0,w0,b0,e0⟩:=rda_0 (enc:=enc) base v0 d0 p0 (hval 0 39 v0 rfl rfl) h0
 obtain ⟨a1,w1,b1,e1⟩:=rda_1 (enc:=enc) base v1 d1 p1 (hval 1 41 v1 rfl rfl) h1
 obtain ⟨fu,hm⟩:=hall a0 a1 w0 w1
 exact zeG (s:=Rows.deedKeepsSpec) (by kernel_rfl) (t:=4) rfl Tryz.underlying4 (by kernel_rfl) rfl (zK3 true hm) (fun w' hk=>zZs hk (zgv hL)) (zY5 e0 (zY5 e1 (zhP))) hW' rfl rfl rfl
theorem zOH {a b:Bool} (h1:a=true) (h2:b=true):(a&&b)=true:=by rw [h1,h2];rfl
set_option maxRecDepth 100000 in
theorem closed:joinedFacts Tryz.prog 3 Tryz.f3 Rows.deedKeepsSpec Rows.deedKeepsRow=true:=by
 unfold joinedFacts
 exact (zOH (zOH (zOH (zOH (zOH (zOH (zOH (zOH (zOH (zOH (zOH (zOH (zOH (zOH (zOH (zOH (zOH (zOH (zOH (zOH (zOH (zOH (zOH (zOH (zOH (zOH (zOH (zOH (zOH (zOH (zOH j0 j1) j2) j3) j4) j5) j6) j7) j8) j9) j10) j11) j12) j13) j14) j15) j16) j17) j18) j19) j20) j21) j22) j23) j24) j25) j26) j27) j28) j29) j30) j31)
theorem said (hall:∀(a0:World) (a1:Op),zSc a0->zfH a1->∃fu,zBr fu a0 a1=some true):Rows.DeedKeepsSaid :=
 OpenClaim.holds_of_wide 3 Tryz.f3 rfl rfl rfl rfl rfl rfl rfl ⟨rfl,rfl,rfl,rfl,rfl⟩ rfl rfl rfl rfl rfl (by kernel_rfl) Tryz.func3 closed
  (of_decide_eq_true (by kernel_rfl)) (by unfold Func.isWrapper;first | (rw [if_pos (by decide +kernel)];kernel_rfl) | (rw [if_neg (by decide +kernel)];exact ⟨rfl,rfl⟩))
  (fun os started H enc _=>lifted hall os started H enc)
theorem plain (f : FuncId) (fn : Func) (hf : Tryz.pinned.checked.prog.funcNamed "instar/instarlaw18.DeedKeeps" = some f) (hfn : Tryz.pinned.checked.prog.funcs[f]? = some fn) :
  true=Tryz.pinned.checked.prog.looks []/\∀(j:Nat) t,fn.params[j]? = some t->Tryz.pinned.checked.prog.wantsStandIn t=false:=by
 obtain rfl : f = 3 := Option.some.inj ((show Tryz.prog.funcNamed "instar/instarlaw18.DeedKeeps" = some 3 by kernel_rfl).symm.trans hf) |>.symm
 obtain rfl:fn=Tryz.f3:=(Option.some.inj (Tryz.func3.symm.trans hfn)).symm
 refine ⟨by kernel_rfl,fun j t ht=>?_⟩
 rw [Tryz.params3] at ht
 have hm:t∈[39,41]:=by simpa using Array.mem_of_getElem? ht
 have hall:([39,41].all fun u => !Tryz.prog.wantsStandIn u)=true:=by kernel_rfl
 exact (show Tryz.prog.wantsStandIn t=false by simpa using List.all_eq_true.1 hall t hm)
theorem step (hall:∀(a0:World) (a1:Op),zSc a0->zfH a1->∃fu,zBr fu a0 a1=some true):Rows.DeedKeepsCardSaid :=
 Claim7.holds_tied_plain_at .later [] _ _ _ _ (said hall) (fun _ h=>by cases h) (by kernel_rfl) (fun _ h=>by cases h) deedKeeps_row_tie rfl ⟨rfl,rfl⟩ (by kernel_rfl) rfl plain (by kernel_rfl)
end Go.Proofs.YtmfbghpealgaiaaGreatDoor.WDeedKeeps
