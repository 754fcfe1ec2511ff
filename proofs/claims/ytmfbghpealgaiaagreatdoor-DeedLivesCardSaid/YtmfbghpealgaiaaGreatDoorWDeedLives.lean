/- The step from the model of 'instar/instarlaw18.DeedLives' to the row's statement: printed by law.py. -/
import Derived.Test.YtmfbghpealgaiaaGreatDoorG
import Derived.Test.YtmfbghpealgaiaaGreatDoorRows
import Derived.Test.YtmfbghpealgaiaaGreatDoorCo3
import Derived.Test.YtmfbghpealgaiaaGreatDoorWDeedLivesF1
import Derived.Test.YtmfbghpealgaiaaGreatDoorWDeedLivesF2
import Derived.Test.YtmfbghpealgaiaaGreatDoorWDeedLivesF3
import Derived.Deep.DeepHandedRow
import Derived.LaidMore
import Derived.MakeChecks
import Derived.LaidHandle
import Derived.Stop.Joined
import Derived.Test.YtmfbghpealgaiaaGreatDoorCards
import Derived.Test.YtmfbghpealgaiaaGreatDoorTie
namespace Go.Proofs.YtmfbghpealgaiaaGreatDoor.WDeedLives
open Go Go.Pw Go.ChangeShapes Go.WideShapes Go.ChangeAt Go.RowKit
set_option linter.unusedVariables false
variable {H:Type} {enc:TypeId×Value->H} {W:Go.World}
theorem rc {f:Field} {fs:List Field} {o:Nat} {α β : Type} {c1 : α -> List PV} {c2 : β -> List PV} {w1 : α -> Prop} {w2 : β -> Prop} {b1 : α -> Nat} {b2 : β -> Nat} (k:Nat) (h1:Rds enc Tryz.prog W f.type c1 w1 b1) (h2:RdsF enc Tryz.prog W fs (o+k) c2 w2 b2) (ho:f.offset=o:=by kernel_rfl) (hk:Tryz.prog.cellsOf f.type=k:=by kernel_rfl) (hl:∀a,(c1 a).length=k:=by exact fun _=>rfl):RdsF enc Tryz.prog W (f::fs) o (fun p : α × β => c1 p.1++c2 p.2) (fun p=>w1 p.1/\w2 p.2) (fun p=>b1 p.1+b2 p.2):=zb9 ho hk hl h1 h2
def zcY (x:Attr):Prop:=wfS x.Name/\(wfS x.Value/\(True))
def zaQ (x:Attr):Nat:=(bkS x.Name+(bkS x.Value+(0)))+1
def zca (x:Node):Prop:=(wfI .i64) x.Kind/\(wfS x.Name/\(wfS x.Is/\(wfS x.Data/\((wfL zcY) x.Attrs/\((wfI .i64) x.Parent/\((wfL (wfI .i64)) x.Kids/\((wfI .i64) x.Host/\((wfI .i64) x.Under/\((wfI .i64) x.Doc/\(True))))))))))
def zaS (x:Node):Nat:=(bkI x.Kind+(bkS x.Name+(bkS x.Is+(bkS x.Data+((bkL zaQ) x.Attrs+(bkI x.Parent+((bkL bkI) x.Kids+(bkI x.Host+(bkI x.Under+(bkI x.Doc+(0)))))))))))+1
def zYv (x:Forest):Prop:=(wfL zca) x.Nodes/\((wfI .i64) x.Most/\(True))
def zXl (x:Forest):Nat:=((bkL zaS) x.Nodes+(bkI x.Most+(0)))+1
def zXb (x:State):Prop:=(wfI .i64) x.Phase/\((wfI .i64) x.Def/\((wfI .i64) x.Owner/\(wfB x.Barred/\(True))))
def zWg (x:State):Nat:=(bkI x.Phase+(bkI x.Def+(bkI x.Owner+(bkB x.Barred+(0)))))+1
def zhN (x:Def):Prop:=wfS x.Name/\(wfS x.Local/\((wfI .i64) x.Class/\(True)))
def zfm (x:Def):Nat:=(bkS x.Name+(bkS x.Local+(bkI x.Class+(0))))+1
def zcc (x:Wait):Prop:=wfS x.Name/\((wfI .i64) x.Ticket/\(True))
def zaU (x:Wait):Nat:=(bkS x.Name+(bkI x.Ticket+(0)))+1
def zfU (x:Desk):Prop:=(wfL zhN) x.Defs/\((wfL zcc) x.Waits/\((wfI .i64) x.Next/\(wfB x.Busy/\(True))))
def ze5 (x:Desk):Nat:=((bkL zfm) x.Defs+((bkL zaU) x.Waits+(bkI x.Next+(bkB x.Busy+(0)))))+1
def zYw (x:Todo):Prop:=(wfI .i64) x.Kind/\((wfI .i64) x.Def/\(wfS x.Name/\(wfB x.Had/\(wfB x.Has/\(wfS x.Old/\(wfS x.New/\((wfI .i64) x.From/\((wfI .i64) x.To/\(wfB x.On/\(True))))))))))
def zXm (x:Todo):Nat:=(bkI x.Kind+(bkI x.Def+(bkS x.Name+(bkB x.Had+(bkB x.Has+(bkS x.Old+(bkS x.New+(bkI x.From+(bkI x.To+(bkB x.On+(0)))))))))))+1
def zfV (x:Line):Prop:=(wfL (wfL zYw)) x.Todos/\((wfL (wfL (wfI .i64))) x.Stack/\((wfL (wfI .i64)) x.Back/\(wfB x.Busy/\(True))))
def ze6 (x:Line):Nat:=((bkL (bkL zXm)) x.Todos+((bkL (bkL bkI)) x.Stack+((bkL bkI) x.Back+(bkB x.Busy+(0)))))+1
def zcb (x:Task):Prop:=(wfI .i64) x.Kind/\((wfI .i64) x.Ticket/\((wfI .i64) x.Def/\(True)))
def zaT (x:Task):Nat:=(bkI x.Kind+(bkI x.Ticket+(bkI x.Def+(0))))+1
def zXZ (x:Build):Prop:=(wfI .i64) x.Def/\((wfI .i64) x.Node/\(True))
def zWe (x:Build):Nat:=(bkI x.Def+(bkI x.Node+(0)))+1
def zeq (x:Op):Prop:=(wfI .i64) x.Kind/\((wfI .i64) x.A/\((wfI .i64) x.B/\((wfI .i64) x.C/\(wfS x.S/\(wfS x.T/\(wfB x.Must/\(True)))))))
def bkOp (x:Op):Nat:=(bkI x.Kind+(bkI x.A+(bkI x.B+(bkI x.C+(bkS x.S+(bkS x.T+(bkB x.Must+(0))))))))+1
def zcZ (x:Hook):Prop:=(wfI .i64) x.Kind/\((wfL zeq) x.Do/\(True))
def zaR (x:Hook):Nat:=(bkI x.Kind+((bkL bkOp) x.Do+(0)))+1
def zXa (x:Class):Prop:=wfB x.Form/\((wfL wfS) x.Watch/\((wfL zeq) x.Peek/\((wfL zeq) x.Make/\((wfL zcZ) x.Hooks/\(True)))))
def zWf (x:Class):Nat:=(bkB x.Form+((bkL bkS) x.Watch+((bkL bkOp) x.Peek+((bkL bkOp) x.Make+((bkL zaR) x.Hooks+(0))))))+1
def zSH (x:World):Prop:=zYv x.Forest/\((wfL zXb) x.States/\(zfU x.Desk/\(zfV x.Line/\((wfL zcb) x.Tasks/\((wfL zXZ) x.Builds/\((wfL zXa) x.Classes/\(True)))))))
def zaV (x:World):Nat:=(zXl x.Forest+((bkL zWg) x.States+(ze5 x.Desk+(ze6 x.Line+((bkL zaT) x.Tasks+((bkL zWe) x.Builds+((bkL zWf) x.Classes+(0))))))))+1
theorem zPc:Rds enc Tryz.prog W 3 zAB (wfI .i64) bkI:=zgv (by kernel_rfl)
theorem zYc:Rds enc Tryz.prog W 9 zSK wfS bkS:=zgw (by kernel_rfl)
set_option maxRecDepth 100000 in
theorem rd_198:Rds enc Tryz.prog W 198 zD4 zcY zaQ :=
 zCu (n:=2) Tryz.underlying198 (by kernel_rfl) (rc 1 zYc (rc 1 zYc (zFR))) (fun p=>⟨p.1,p.2.1⟩) (fun _=>rfl) (fun _=>rfl) (fun _ h=>h) (fun _=>rfl)
theorem rd_75:Rds enc Tryz.prog W 75 (fun l:(List Attr)=>[.sl 2 false (l.map zD4)]) (wfL zcY) (bkL zaQ):=zDv (e:=198) (by kernel_rfl) (by kernel_rfl) (by omega) rd_198
theorem zgs:Rds enc Tryz.prog W 32 (fun l:(List Int)=>[.sl 1 false (l.map zAB)]) (wfL (wfI .i64)) (bkL bkI):=zDv (e:=3) (by kernel_rfl) (by kernel_rfl) (by omega) zPc
set_option maxRecDepth 100000 in
theorem rd_77:Rds enc Tryz.prog W 77 zAZ zca zaS :=
 zCu (n:=10) Tryz.underlying77 (by kernel_rfl) (rc 1 zPc (rc 1 zYc (rc 1 zYc (rc 1 zYc (rc 1 rd_75 (rc 1 zPc (rc 1 zgs (rc 1 zPc (rc 1 zPc (rc 1 zPc (zFR))))))))))) (fun p=>⟨p.1,p.2.1,p.2.2.1,p.2.2.2.1,p.2.2.2.2.1,p.2.2.2.2.2.1,p.2.2.2.2.2.2.1,p.2.2.2.2.2.2.2.1,p.2.2.2.2.2.2.2.2.1,p.2.2.2.2.2.2.2.2.2.1⟩) (fun _=>rfl) (fun _=>rfl) (fun _ h=>h) (fun _=>rfl)
theorem rd_22:Rds enc Tryz.prog W 22 (fun l:(List Node)=>[.sl 10 false (l.map zAZ)]) (wfL zca) (bkL zaS):=zDv (e:=77) (by kernel_rfl) (by kernel_rfl) (by omega) rd_77
set_option maxRecDepth 100000 in
theorem rd_24:Rds enc Tryz.prog W 24 zAE zYv zXl :=
 zCu (n:=2) Tryz.underlying24 (by kernel_rfl) (rc 1 rd_22 (rc 1 zPc (zFR))) (fun p=>⟨p.1,p.2.1⟩) (fun _=>rfl) (fun _=>rfl) (fun _ h=>h) (fun _=>rfl)
theorem zfO:Rds enc Tryz.prog W 4 cBool wfB bkB:=zeQ (by kernel_rfl)
set_option maxRecDepth 100000 in
theorem rd_53:Rds enc Tryz.prog W 53 zBn zXb zWg :=
 zCu (n:=4) Tryz.underlying53 (by kernel_rfl) (rc 1 zPc (rc 1 zPc (rc 1 zPc (rc 1 zfO (zFR))))) (fun p=>⟨p.1,p.2.1,p.2.2.1,p.2.2.2.1⟩) (fun _=>rfl) (fun _=>rfl) (fun _ h=>h) (fun _=>rfl)
theorem rd_25:Rds enc Tryz.prog W 25 (fun l:(List State)=>[.sl 4 false (l.map zBn)]) (wfL zXb) (bkL zWg):=zDv (e:=53) (by kernel_rfl) (by kernel_rfl) (by omega) rd_53
set_option maxRecDepth 100000 in
theorem rd_88:Rds enc Tryz.prog W 88 zRM zhN zfm :=
 zCu (n:=3) Tryz.underlying88 (by kernel_rfl) (rc 1 zYc (rc 1 zYc (rc 1 zPc (zFR)))) (fun p=>⟨p.1,p.2.1,p.2.2.1⟩) (fun _=>rfl) (fun _=>rfl) (fun _ h=>h) (fun _=>rfl)
theorem rd_26:Rds enc Tryz.prog W 26 (fun l:(List Def)=>[.sl 3 false (l.map zRM)]) (wfL zhN) (bkL zfm):=zDv (e:=88) (by kernel_rfl) (by kernel_rfl) (by omega) rd_88
set_option maxRecDepth 100000 in
theorem rd_150:Rds enc Tryz.prog W 150 zJ1 zcc zaU :=
 zCu (n:=2) Tryz.underlying150 (by kernel_rfl) (rc 1 zYc (rc 1 zPc (zFR))) (fun p=>⟨p.1,p.2.1⟩) (fun _=>rfl) (fun _=>rfl) (fun _ h=>h) (fun _=>rfl)
theorem rd_27:Rds enc Tryz.prog W 27 (fun l:(List Wait)=>[.sl 2 false (l.map zJ1)]) (wfL zcc) (bkL zaU):=zDv (e:=150) (by kernel_rfl) (by kernel_rfl) (by omega) rd_150
set_option maxRecDepth 100000 in
theorem rd_29:Rds enc Tryz.prog W 29 zI8 zfU ze5 :=
 zCu (n:=4) Tryz.underlying29 (by kernel_rfl) (rc 1 rd_26 (rc 1 rd_27 (rc 1 zPc (rc 1 zfO (zFR))))) (fun p=>⟨p.1,p.2.1,p.2.2.1,p.2.2.2.1⟩) (fun _=>rfl) (fun _=>rfl) (fun _ h=>h) (fun _=>rfl)
set_option maxRecDepth 100000 in
theorem rd_80:Rds enc Tryz.prog W 80 zLg zYw zXm :=
 zCu (n:=10) Tryz.underlying80 (by kernel_rfl) (rc 1 zPc (rc 1 zPc (rc 1 zYc (rc 1 zfO (rc 1 zfO (rc 1 zYc (rc 1 zYc (rc 1 zPc (rc 1 zPc (rc 1 zfO (zFR))))))))))) (fun p=>⟨p.1,p.2.1,p.2.2.1,p.2.2.2.1,p.2.2.2.2.1,p.2.2.2.2.2.1,p.2.2.2.2.2.2.1,p.2.2.2.2.2.2.2.1,p.2.2.2.2.2.2.2.2.1,p.2.2.2.2.2.2.2.2.2.1⟩) (fun _=>rfl) (fun _=>rfl) (fun _ h=>h) (fun _=>rfl)
theorem rd_51:Rds enc Tryz.prog W 51 (fun l:(List Todo)=>[.sl 10 false (l.map zLg)]) (wfL zYw) (bkL zXm):=zDv (e:=80) (by kernel_rfl) (by kernel_rfl) (by omega) rd_80
theorem rd_30:Rds enc Tryz.prog W 30 (fun l:(List (List Todo))=>[.sl 1 false (l.map zDD)]) (wfL (wfL zYw)) (bkL (bkL zXm)):=zDv (e:=51) (by kernel_rfl) (by kernel_rfl) (by omega) rd_51
theorem rd_31:Rds enc Tryz.prog W 31 (fun l:(List (List Int))=>[.sl 1 false (l.map zA1)]) (wfL (wfL (wfI .i64))) (bkL (bkL bkI)):=zDv (e:=32) (by kernel_rfl) (by kernel_rfl) (by omega) zgs
set_option maxRecDepth 100000 in
theorem rd_34:Rds enc Tryz.prog W 34 zRP zfV ze6 :=
 zCu (n:=4) Tryz.underlying34 (by kernel_rfl) (rc 1 rd_30 (rc 1 rd_31 (rc 1 zgs (rc 1 zfO (zFR))))) (fun p=>⟨p.1,p.2.1,p.2.2.1,p.2.2.2.1⟩) (fun _=>rfl) (fun _=>rfl) (fun _ h=>h) (fun _=>rfl)
set_option maxRecDepth 100000 in
theorem rd_102:Rds enc Tryz.prog W 102 zJe zcb zaT :=
 zCu (n:=3) Tryz.underlying102 (by kernel_rfl) (rc 1 zPc (rc 1 zPc (rc 1 zPc (zFR)))) (fun p=>⟨p.1,p.2.1,p.2.2.1⟩) (fun _=>rfl) (fun _=>rfl) (fun _ h=>h) (fun _=>rfl)
theorem rd_35:Rds enc Tryz.prog W 35 (fun l:(List Task)=>[.sl 3 false (l.map zJe)]) (wfL zcb) (bkL zaT):=zDv (e:=102) (by kernel_rfl) (by kernel_rfl) (by omega) rd_102
set_option maxRecDepth 100000 in
theorem rd_104:Rds enc Tryz.prog W 104 zJd zXZ zWe :=
 zCu (n:=2) Tryz.underlying104 (by kernel_rfl) (rc 1 zPc (rc 1 zPc (zFR))) (fun p=>⟨p.1,p.2.1⟩) (fun _=>rfl) (fun _=>rfl) (fun _ h=>h) (fun _=>rfl)
theorem rd_36:Rds enc Tryz.prog W 36 (fun l:(List Build)=>[.sl 2 false (l.map zJd)]) (wfL zXZ) (bkL zWe):=zDv (e:=104) (by kernel_rfl) (by kernel_rfl) (by omega) rd_104
theorem rd_66:Rds enc Tryz.prog W 66 (fun l:(List Bs)=>[.sl 1 false (l.map zSK)]) (wfL wfS) (bkL bkS):=zDv (e:=9) (by kernel_rfl) (by kernel_rfl) (by omega) zYc
set_option maxRecDepth 100000 in
theorem rd_41:Rds enc Tryz.prog W 41 cOp zeq bkOp :=
 zCu (n:=7) Tryz.underlying41 (by kernel_rfl) (rc 1 zPc (rc 1 zPc (rc 1 zPc (rc 1 zPc (rc 1 zYc (rc 1 zYc (rc 1 zfO (zFR)))))))) (fun p=>⟨p.1,p.2.1,p.2.2.1,p.2.2.2.1,p.2.2.2.2.1,p.2.2.2.2.2.1,p.2.2.2.2.2.2.1⟩) (fun _=>rfl) (fun _=>rfl) (fun _ h=>h) (fun _=>rfl)
theorem zgt:Rds enc Tryz.prog W 67 (fun l:(List Op)=>[.sl 7 false (l.map cOp)]) (wfL zeq) (bkL bkOp):=zDv (e:=41) (by kernel_rfl) (by kernel_rfl) (by omega) rd_41
set_option maxRecDepth 100000 in
theorem rd_86:Rds enc Tryz.prog W 86 zKT zcZ zaR :=
 zCu (n:=2) Tryz.underlying86 (by kernel_rfl) (rc 1 zPc (rc 1 zgt (zFR))) (fun p=>⟨p.1,p.2.1⟩) (fun _=>rfl) (fun _=>rfl) (fun _ h=>h) (fun _=>rfl)
theorem rd_68:Rds enc Tryz.prog W 68 (fun l:(List Hook)=>[.sl 2 false (l.map zKT)]) (wfL zcZ) (bkL zaR):=zDv (e:=86) (by kernel_rfl) (by kernel_rfl) (by omega) rd_86
set_option maxRecDepth 100000 in
theorem rd_70:Rds enc Tryz.prog W 70 zCA zXa zWf :=
 zCu (n:=5) Tryz.underlying70 (by kernel_rfl) (rc 1 zfO (rc 1 rd_66 (rc 1 zgt (rc 1 zgt (rc 1 rd_68 (zFR)))))) (fun p=>⟨p.1,p.2.1,p.2.2.1,p.2.2.2.1,p.2.2.2.2.1⟩) (fun _=>rfl) (fun _=>rfl) (fun _ h=>h) (fun _=>rfl)
theorem rd_37:Rds enc Tryz.prog W 37 (fun l:(List Class)=>[.sl 5 false (l.map zCA)]) (wfL zXa) (bkL zWf):=zDv (e:=70) (by kernel_rfl) (by kernel_rfl) (by omega) rd_70
set_option maxRecDepth 100000 in
theorem rd_39:Rds enc Tryz.prog W 39 zBe zSH zaV :=
 zCu (n:=14) Tryz.underlying39 (by kernel_rfl) (rc 2 rd_24 (rc 1 rd_25 (rc 4 rd_29 (rc 4 rd_34 (rc 1 rd_35 (rc 1 rd_36 (rc 1 rd_37 (zFR)))))))) (fun p=>⟨p.1,p.2.1,p.2.2.1,p.2.2.2.1,p.2.2.2.2.1,p.2.2.2.2.2.1,p.2.2.2.2.2.2.1⟩) (fun _=>rfl) (fun _=>rfl) (fun _ h=>h) (fun _=>rfl)
theorem rda_0:RdA enc Tryz.prog W 39 (fun x:World=>.agg (zBe x)) zSH zaV:=zTG Tryz.underlying39 rd_39
theorem rda_1:RdA enc Tryz.prog W 41 (fun x:Op=>.agg (cOp x)) zeq bkOp:=zTG Tryz.underlying41 rd_41
theorem own:ownKnob Tryz.prog.godebug=none:=by kernel_rfl
theorem han_of {W : Go.World} (h : handlesMet Tryz.prog [("errors.errorType", Rows.laid_errors_errorType)] W) : zVU W := by
 have et : Tryz.prog.globalNamed "errors.errorType" = some 0 := by kernel_rfl
 have size:Tryz.prog.types.size=422:=by kernel_rfl
 have oneRow:((List.range 422).filter fun t=>Tryz.prog.rowNamed t [101,114,114,111,114])=[122]:=by kernel_rfl
 have rt : (Tryz.prog.cutTypes.find? (·.1 == "internal/reflectlite.rtype")).map (·.2) = some 355 := by kernel_rfl
 obtain ⟨name,u,ty,e1,e2,e3,e4,e5⟩:=h _ (List.mem_singleton.2 rfl)
 have en:name=[101,114,114,111,114]:=(Option.some.inj e1).symm
 subst en
 obtain rfl:=Option.some.inj (rt.symm.trans e2)
 have hm:ty∈(List.range 422).filter fun t=>Tryz.prog.rowNamed t [101,114,114,111,114]:=List.mem_filter.2 ⟨List.mem_range.2 (by rw [<- size];exact e3),e4⟩
 rw [oneRow] at hm
 obtain rfl:=List.mem_singleton.1 hm
 have hh:typeHandle Tryz.prog 122=.pointer (some ⟨5,122,none⟩):=by kernel_rfl
 rw [hh] at e5
 unfold zVU
 simpa using Go.World.var?_cell et e5 0
theorem zgP {W:Go.World} (h0:laidMetH Tryz.prog Rows.deedLivesRow.laid W):zRm W:=by
 have h' : laidMet Tryz.prog [("unicode.White_Space", Rows.laid_unicode_White_Space), ("strings.asciiSpace", Rows.laid_strings_asciiSpace)] W ∧ handlesMet Tryz.prog [("errors.errorType", Rows.laid_errors_errorType)] W := h0
 have h:=h'.1
 have e1:Rows.laid_strings_asciiSpace (H:=Unit)=Lib.tabData .u8 Lib.asciiSpaceTab:=by kernel_rfl
 have t1:=h.tail
 exact ⟨Lib.tabIs_of_head (g:=1) (t:=350) (n:=256) (e:=5) (by kernel_rfl) (by kernel_rfl) (by kernel_rfl) (by kernel_rfl) (by kernel_rfl) (by kernel_rfl) (e1▸t1),han_of h'.2,trivial⟩
set_option maxRecDepth 100000 in
theorem lifted (hall:∀(a0:World) (a1:Op),zSH a0->zeq a1->∃fu,zBo fu a0 a1=some true) (os:Os) (started:os.Started) (H:Type) (enc:TypeId×Value->H) :
  ReturnsInHanded {} Tryz.checked os 5 .any (fun w args=>(Rows.deedLivesSpec.pre enc Tryz.prog Tryz.f5 [] false w args/\laidMetH Tryz.prog Rows.deedLivesRow.laid w)/\sizedMet enc Tryz.prog Tryz.f5 (OpenSpec.ofChange Rows.deedLivesSpec) false w args) (Rows.deedLivesSpec.post enc Tryz.prog Tryz.f5 false true false false):=by
 refine returnsInHanded_of_change_and (C:=Tryz.checked) (X:=fun w _=>laidMetH Tryz.prog Rows.deedLivesRow.laid w) (fun _ _ _ hh h=>h.of_heap hh) own started noInit Tryz.func5
  (ChangeSpec.witness_shaped (enc:=enc) (C:=Tryz.checked) (os:=os) (X:=fun w _=>laidMetH Tryz.prog Rows.deedLivesRow.laid w) false (Go.World.doorLaid Tryz.prog 200 os) wi 12 rfl (shp os) (okw os) (prb enc os) (szb enc os) (zdV os)) ?_
 intro W base args ds gs before hval0 hW _ _ hL _
 have hval:∀(j:Nat) t v,Tryz.f5.params[j]? = some t->args[j]? = some v->Value.okWide Tryz.prog W .any base t v:=hval0
 have hW':=hW
 obtain ⟨p,q,hA0,hV,rfl,hfz,hnd⟩:=hW
 have hA:DataW.TrodAll enc Tryz.prog W 0 (fun _=>true) true Tryz.f5.params.toList args.toList ds p:=hA0
 rw [Tryz.params5] at hA hval
 obtain ⟨v0,vs0,d0,ds0,p0,q0,hargs,rfl,rfl,h0,r0⟩:=trodAll_cons hA
 obtain ⟨v1,vs1,d1,ds1,p1,q1,rfl,rfl,rfl,h1,r1⟩:=trodAll_cons r0
 obtain ⟨rfl,rfl,rfl⟩:=trodAll_nil r1
 obtain rfl:args = #[v0,v1]:=by cases args;simp_all
 obtain ⟨rfl,rfl⟩:=trodVars_none hV
 obtain ⟨a0,w0,b0,e0⟩:=rda_0 (enc:=enc) base v0 d0 p0 (hval 0 39 v0 rfl rfl) h0
 obtain ⟨a1,w1,b1,e1⟩:=rda_1 (enc:=enc) base v1 d1 p1 (hval 1 41 v1 rfl rfl) h1
 obtain ⟨fu,hm⟩:=hall a0 a1 w0 w1
 exact zdo (s:=Rows.deedLivesSpec) (by kernel_rfl) (t:=4) rfl Tryz.underlying4 (by kernel_rfl) rfl (zKg true hm) (fun w' hk=>zZQ hk (zgP hL)) (zYd e0 (zYd e1 (zgu))) hW' rfl rfl rfl
theorem zNu {a b:Bool} (h1:a=true) (h2:b=true):(a&&b)=true:=by rw [h1,h2];rfl
set_option maxRecDepth 100000 in
theorem closed:joinedFacts Tryz.prog 5 Tryz.f5 Rows.deedLivesSpec Rows.deedLivesRow=true:=by
 unfold joinedFacts
 exact (zNu (zNu (zNu (zNu (zNu (zNu (zNu (zNu (zNu (zNu (zNu (zNu (zNu (zNu (zNu (zNu (zNu (zNu (zNu (zNu (zNu (zNu (zNu (zNu (zNu (zNu (zNu (zNu (zNu (zNu (zNu j0 j1) j2) j3) j4) j5) j6) j7) j8) j9) j10) j11) j12) j13) j14) j15) j16) j17) j18) j19) j20) j21) j22) j23) j24) j25) j26) j27) j28) j29) j30) j31)
theorem said (hall:∀(a0:World) (a1:Op),zSH a0->zeq a1->∃fu,zBo fu a0 a1=some true):Rows.DeedLivesSaid :=
 OpenClaim.holds_of_wide 5 Tryz.f5 rfl rfl rfl rfl rfl rfl rfl ⟨rfl,rfl,rfl,rfl,rfl⟩ rfl rfl rfl rfl rfl (by kernel_rfl) Tryz.func5 closed
  (of_decide_eq_true (by kernel_rfl)) (by unfold Func.isWrapper;first | (rw [if_pos (by decide +kernel)];kernel_rfl) | (rw [if_neg (by decide +kernel)];exact ⟨rfl,rfl⟩))
  (fun os started H enc _=>lifted hall os started H enc)
theorem plain (f : FuncId) (fn : Func) (hf : Tryz.pinned.checked.prog.funcNamed "instar/instarlaw18.DeedLives" = some f) (hfn : Tryz.pinned.checked.prog.funcs[f]? = some fn) :
  true=Tryz.pinned.checked.prog.looks []/\∀(j:Nat) t,fn.params[j]? = some t->Tryz.pinned.checked.prog.wantsStandIn t=false:=by
 obtain rfl : f = 5 := Option.some.inj ((show Tryz.prog.funcNamed "instar/instarlaw18.DeedLives" = some 5 by kernel_rfl).symm.trans hf) |>.symm
 obtain rfl:fn=Tryz.f5:=(Option.some.inj (Tryz.func5.symm.trans hfn)).symm
 refine ⟨by kernel_rfl,fun j t ht=>?_⟩
 rw [Tryz.params5] at ht
 have hm:t∈[39,41]:=by simpa using Array.mem_of_getElem? ht
 have hall:([39,41].all fun u => !Tryz.prog.wantsStandIn u)=true:=by kernel_rfl
 exact (show Tryz.prog.wantsStandIn t=false by simpa using List.all_eq_true.1 hall t hm)
theorem step (hall:∀(a0:World) (a1:Op),zSH a0->zeq a1->∃fu,zBo fu a0 a1=some true):Rows.DeedLivesCardSaid :=
 Claim7.holds_tied_plain_at .later [] _ _ _ _ (said hall) (fun _ h=>by cases h) (by kernel_rfl) (fun _ h=>by cases h) deedLives_row_tie rfl ⟨rfl,rfl⟩ (by kernel_rfl) rfl plain (by kernel_rfl)
end Go.Proofs.YtmfbghpealgaiaaGreatDoor.WDeedLives
