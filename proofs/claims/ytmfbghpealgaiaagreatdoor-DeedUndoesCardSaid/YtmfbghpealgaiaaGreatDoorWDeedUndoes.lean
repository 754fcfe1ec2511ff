/- The step from the model of 'instar/instarlaw18.DeedUndoes' to the row's statement: printed by law.py. -/
import Derived.Test.YtmfbghpealgaiaaGreatDoorG
import Derived.Test.YtmfbghpealgaiaaGreatDoorRows
import Derived.Test.YtmfbghpealgaiaaGreatDoorCo3
import Derived.Test.YtmfbghpealgaiaaGreatDoorWDeedUndoesF1
import Derived.Test.YtmfbghpealgaiaaGreatDoorWDeedUndoesF2
import Derived.Test.YtmfbghpealgaiaaGreatDoorWDeedUndoesF3
import Derived.Deep.DeepHandedRow
import Derived.LaidMore
import Derived.MakeChecks
import Derived.LaidHandle
import Derived.Stop.Joined
import Derived.Test.YtmfbghpealgaiaaGreatDoorCards
import Derived.Test.YtmfbghpealgaiaaGreatDoorTie
namespace Go.Proofs.YtmfbghpealgaiaaGreatDoor.WDeedUndoes
open Go Go.Pw Go.ChangeShapes Go.WideShapes Go.ChangeAt Go.RowKit
set_option linter.unusedVariables false
variable {H:Type} {enc:TypeId×Value->H} {W:Go.World}
theorem rc {f:Field} {fs:List Field} {o:Nat} {α β : Type} {c1 : α -> List PV} {c2 : β -> List PV} {w1 : α -> Prop} {w2 : β -> Prop} {b1 : α -> Nat} {b2 : β -> Nat} (k:Nat) (h1:Rds enc Tryz.prog W f.type c1 w1 b1) (h2:RdsF enc Tryz.prog W fs (o+k) c2 w2 b2) (ho:f.offset=o:=by kernel_rfl) (hk:Tryz.prog.cellsOf f.type=k:=by kernel_rfl) (hl:∀a,(c1 a).length=k:=by exact fun _=>rfl):RdsF enc Tryz.prog W (f::fs) o (fun p : α × β => c1 p.1++c2 p.2) (fun p=>w1 p.1/\w2 p.2) (fun p=>b1 p.1+b2 p.2):=zc8 ho hk hl h1 h2
def zdb (x:Attr):Prop:=wfS x.Name/\(wfS x.Value/\(True))
def zbM (x:Attr):Nat:=(bkS x.Name+(bkS x.Value+(0)))+1
def zdd (x:Node):Prop:=(wfI .i64) x.Kind/\(wfS x.Name/\(wfS x.Is/\(wfS x.Data/\((wfL zdb) x.Attrs/\((wfI .i64) x.Parent/\((wfL (wfI .i64)) x.Kids/\((wfI .i64) x.Host/\((wfI .i64) x.Under/\((wfI .i64) x.Doc/\(True))))))))))
def zbO (x:Node):Nat:=(bkI x.Kind+(bkS x.Name+(bkS x.Is+(bkS x.Data+((bkL zbM) x.Attrs+(bkI x.Parent+((bkL bkI) x.Kids+(bkI x.Host+(bkI x.Under+(bkI x.Doc+(0)))))))))))+1
def zZl (x:Forest):Prop:=(wfL zdd) x.Nodes/\((wfI .i64) x.Most/\(True))
def zYf (x:Forest):Nat:=((bkL zbO) x.Nodes+(bkI x.Most+(0)))+1
def zYV (x:State):Prop:=(wfI .i64) x.Phase/\((wfI .i64) x.Def/\((wfI .i64) x.Owner/\(wfB x.Barred/\(True))))
def zXW (x:State):Nat:=(bkI x.Phase+(bkI x.Def+(bkI x.Owner+(bkB x.Barred+(0)))))+1
def ziZ (x:Def):Prop:=wfS x.Name/\(wfS x.Local/\((wfI .i64) x.Class/\(True)))
def zgo (x:Def):Nat:=(bkS x.Name+(bkS x.Local+(bkI x.Class+(0))))+1
def zdf (x:Wait):Prop:=wfS x.Name/\((wfI .i64) x.Ticket/\(True))
def zbQ (x:Wait):Nat:=(bkS x.Name+(bkI x.Ticket+(0)))+1
def zgX (x:Desk):Prop:=(wfL ziZ) x.Defs/\((wfL zdf) x.Waits/\((wfI .i64) x.Next/\(wfB x.Busy/\(True))))
def zf2 (x:Desk):Nat:=((bkL zgo) x.Defs+((bkL zbQ) x.Waits+(bkI x.Next+(bkB x.Busy+(0)))))+1
def zZm (x:Todo):Prop:=(wfI .i64) x.Kind/\((wfI .i64) x.Def/\(wfS x.Name/\(wfB x.Had/\(wfB x.Has/\(wfS x.Old/\(wfS x.New/\((wfI .i64) x.From/\((wfI .i64) x.To/\(wfB x.On/\(True))))))))))
def zYg (x:Todo):Nat:=(bkI x.Kind+(bkI x.Def+(bkS x.Name+(bkB x.Had+(bkB x.Has+(bkS x.Old+(bkS x.New+(bkI x.From+(bkI x.To+(bkB x.On+(0)))))))))))+1
def zgY (x:Line):Prop:=(wfL (wfL zZm)) x.Todos/\((wfL (wfL (wfI .i64))) x.Stack/\((wfL (wfI .i64)) x.Back/\(wfB x.Busy/\(True))))
def zf3 (x:Line):Nat:=((bkL (bkL zYg)) x.Todos+((bkL (bkL bkI)) x.Stack+((bkL bkI) x.Back+(bkB x.Busy+(0)))))+1
def zde (x:Task):Prop:=(wfI .i64) x.Kind/\((wfI .i64) x.Ticket/\((wfI .i64) x.Def/\(True)))
def zbP (x:Task):Nat:=(bkI x.Kind+(bkI x.Ticket+(bkI x.Def+(0))))+1
def zYT (x:Build):Prop:=(wfI .i64) x.Def/\((wfI .i64) x.Node/\(True))
def zXU (x:Build):Nat:=(bkI x.Def+(bkI x.Node+(0)))+1
def wfOp (x:Op):Prop:=(wfI .i64) x.Kind/\((wfI .i64) x.A/\((wfI .i64) x.B/\((wfI .i64) x.C/\(wfS x.S/\(wfS x.T/\(wfB x.Must/\(True)))))))
def bkOp (x:Op):Nat:=(bkI x.Kind+(bkI x.A+(bkI x.B+(bkI x.C+(bkS x.S+(bkS x.T+(bkB x.Must+(0))))))))+1
def zdc (x:Hook):Prop:=(wfI .i64) x.Kind/\((wfL wfOp) x.Do/\(True))
def zbN (x:Hook):Nat:=(bkI x.Kind+((bkL bkOp) x.Do+(0)))+1
def zYU (x:Class):Prop:=wfB x.Form/\((wfL wfS) x.Watch/\((wfL wfOp) x.Peek/\((wfL wfOp) x.Make/\((wfL zdc) x.Hooks/\(True)))))
def zXV (x:Class):Nat:=(bkB x.Form+((bkL bkS) x.Watch+((bkL bkOp) x.Peek+((bkL bkOp) x.Make+((bkL zbN) x.Hooks+(0))))))+1
def zSy (x:World):Prop:=zZl x.Forest/\((wfL zYV) x.States/\(zgX x.Desk/\(zgY x.Line/\((wfL zde) x.Tasks/\((wfL zYT) x.Builds/\((wfL zYU) x.Classes/\(True)))))))
def zbR (x:World):Nat:=(zYf x.Forest+((bkL zXW) x.States+(zf2 x.Desk+(zf3 x.Line+((bkL zbP) x.Tasks+((bkL zXU) x.Builds+((bkL zXV) x.Classes+(0))))))))+1
theorem zQD:Rds enc Tryz.prog W 3 zAB (wfI .i64) bkI:=zc9 (by kernel_rfl)
theorem zZU:Rds enc Tryz.prog W 9 zRM wfS bkS:=zdA (by kernel_rfl)
set_option maxRecDepth 100000 in
theorem rd_198:Rds enc Tryz.prog W 198 zDh zdb zbM :=
 zDB (n:=2) Tryz.underlying198 (by kernel_rfl) (rc 1 zZU (rc 1 zZU (zFi))) (fun p=>⟨p.1,p.2.1⟩) (fun _=>rfl) (fun _=>rfl) (fun _ h=>h) (fun _=>rfl)
theorem rd_75:Rds enc Tryz.prog W 75 (fun l:(List Attr)=>[.sl 2 false (l.map zDh)]) (wfL zdb) (bkL zbM):=zEF (e:=198) (by kernel_rfl) (by kernel_rfl) (by omega) rd_198
theorem zh4:Rds enc Tryz.prog W 32 (fun l:(List Int)=>[.sl 1 false (l.map zAB)]) (wfL (wfI .i64)) (bkL bkI):=zEF (e:=3) (by kernel_rfl) (by kernel_rfl) (by omega) zQD
set_option maxRecDepth 100000 in
theorem rd_77:Rds enc Tryz.prog W 77 zAZ zdd zbO :=
 zDB (n:=10) Tryz.underlying77 (by kernel_rfl) (rc 1 zQD (rc 1 zZU (rc 1 zZU (rc 1 zZU (rc 1 rd_75 (rc 1 zQD (rc 1 zh4 (rc 1 zQD (rc 1 zQD (rc 1 zQD (zFi))))))))))) (fun p=>⟨p.1,p.2.1,p.2.2.1,p.2.2.2.1,p.2.2.2.2.1,p.2.2.2.2.2.1,p.2.2.2.2.2.2.1,p.2.2.2.2.2.2.2.1,p.2.2.2.2.2.2.2.2.1,p.2.2.2.2.2.2.2.2.2.1⟩) (fun _=>rfl) (fun _=>rfl) (fun _ h=>h) (fun _=>rfl)
theorem rd_22:Rds enc Tryz.prog W 22 (fun l:(List Node)=>[.sl 10 false (l.map zAZ)]) (wfL zdd) (bkL zbO):=zEF (e:=77) (by kernel_rfl) (by kernel_rfl) (by omega) rd_77
set_option maxRecDepth 100000 in
theorem rd_24:Rds enc Tryz.prog W 24 zAE zZl zYf :=
 zDB (n:=2) Tryz.underlying24 (by kernel_rfl) (rc 1 rd_22 (rc 1 zQD (zFi))) (fun p=>⟨p.1,p.2.1⟩) (fun _=>rfl) (fun _=>rfl) (fun _ h=>h) (fun _=>rfl)
theorem zgS:Rds enc Tryz.prog W 4 cBool wfB bkB:=zfO (by kernel_rfl)
set_option maxRecDepth 100000 in
theorem rd_53:Rds enc Tryz.prog W 53 zBh zYV zXW :=
 zDB (n:=4) Tryz.underlying53 (by kernel_rfl) (rc 1 zQD (rc 1 zQD (rc 1 zQD (rc 1 zgS (zFi))))) (fun p=>⟨p.1,p.2.1,p.2.2.1,p.2.2.2.1⟩) (fun _=>rfl) (fun _=>rfl) (fun _ h=>h) (fun _=>rfl)
theorem rd_25:Rds enc Tryz.prog W 25 (fun l:(List State)=>[.sl 4 false (l.map zBh)]) (wfL zYV) (bkL zXW):=zEF (e:=53) (by kernel_rfl) (by kernel_rfl) (by omega) rd_53
set_option maxRecDepth 100000 in
theorem rd_88:Rds enc Tryz.prog W 88 zQ3 ziZ zgo :=
 zDB (n:=3) Tryz.underlying88 (by kernel_rfl) (rc 1 zZU (rc 1 zZU (rc 1 zQD (zFi)))) (fun p=>⟨p.1,p.2.1,p.2.2.1⟩) (fun _=>rfl) (fun _=>rfl) (fun _ h=>h) (fun _=>rfl)
theorem rd_26:Rds enc Tryz.prog W 26 (fun l:(List Def)=>[.sl 3 false (l.map zQ3)]) (wfL ziZ) (bkL zgo):=zEF (e:=88) (by kernel_rfl) (by kernel_rfl) (by omega) rd_88
set_option maxRecDepth 100000 in
theorem rd_150:Rds enc Tryz.prog W 150 zJg zdf zbQ :=
 zDB (n:=2) Tryz.underlying150 (by kernel_rfl) (rc 1 zZU (rc 1 zQD (zFi))) (fun p=>⟨p.1,p.2.1⟩) (fun _=>rfl) (fun _=>rfl) (fun _ h=>h) (fun _=>rfl)
theorem rd_27:Rds enc Tryz.prog W 27 (fun l:(List Wait)=>[.sl 2 false (l.map zJg)]) (wfL zdf) (bkL zbQ):=zEF (e:=150) (by kernel_rfl) (by kernel_rfl) (by omega) rd_150
set_option maxRecDepth 100000 in
theorem rd_29:Rds enc Tryz.prog W 29 zI8 zgX zf2 :=
 zDB (n:=4) Tryz.underlying29 (by kernel_rfl) (rc 1 rd_26 (rc 1 rd_27 (rc 1 zQD (rc 1 zgS (zFi))))) (fun p=>⟨p.1,p.2.1,p.2.2.1,p.2.2.2.1⟩) (fun _=>rfl) (fun _=>rfl) (fun _ h=>h) (fun _=>rfl)
set_option maxRecDepth 100000 in
theorem rd_80:Rds enc Tryz.prog W 80 zKx zZm zYg :=
 zDB (n:=10) Tryz.underlying80 (by kernel_rfl) (rc 1 zQD (rc 1 zQD (rc 1 zZU (rc 1 zgS (rc 1 zgS (rc 1 zZU (rc 1 zZU (rc 1 zQD (rc 1 zQD (rc 1 zgS (zFi))))))))))) (fun p=>⟨p.1,p.2.1,p.2.2.1,p.2.2.2.1,p.2.2.2.2.1,p.2.2.2.2.2.1,p.2.2.2.2.2.2.1,p.2.2.2.2.2.2.2.1,p.2.2.2.2.2.2.2.2.1,p.2.2.2.2.2.2.2.2.2.1⟩) (fun _=>rfl) (fun _=>rfl) (fun _ h=>h) (fun _=>rfl)
theorem rd_51:Rds enc Tryz.prog W 51 (fun l:(List Todo)=>[.sl 10 false (l.map zKx)]) (wfL zZm) (bkL zYg):=zEF (e:=80) (by kernel_rfl) (by kernel_rfl) (by omega) rd_80
theorem rd_30:Rds enc Tryz.prog W 30 (fun l:(List (List Todo))=>[.sl 1 false (l.map zDi)]) (wfL (wfL zZm)) (bkL (bkL zYg)):=zEF (e:=51) (by kernel_rfl) (by kernel_rfl) (by omega) rd_51
theorem rd_31:Rds enc Tryz.prog W 31 (fun l:(List (List Int))=>[.sl 1 false (l.map zAt)]) (wfL (wfL (wfI .i64))) (bkL (bkL bkI)):=zEF (e:=32) (by kernel_rfl) (by kernel_rfl) (by omega) zh4
set_option maxRecDepth 100000 in
theorem rd_34:Rds enc Tryz.prog W 34 zPs zgY zf3 :=
 zDB (n:=4) Tryz.underlying34 (by kernel_rfl) (rc 1 rd_30 (rc 1 rd_31 (rc 1 zh4 (rc 1 zgS (zFi))))) (fun p=>⟨p.1,p.2.1,p.2.2.1,p.2.2.2.1⟩) (fun _=>rfl) (fun _=>rfl) (fun _ h=>h) (fun _=>rfl)
set_option maxRecDepth 100000 in
theorem rd_102:Rds enc Tryz.prog W 102 zJQ zde zbP :=
 zDB (n:=3) Tryz.underlying102 (by kernel_rfl) (rc 1 zQD (rc 1 zQD (rc 1 zQD (zFi)))) (fun p=>⟨p.1,p.2.1,p.2.2.1⟩) (fun _=>rfl) (fun _=>rfl) (fun _ h=>h) (fun _=>rfl)
theorem rd_35:Rds enc Tryz.prog W 35 (fun l:(List Task)=>[.sl 3 false (l.map zJQ)]) (wfL zde) (bkL zbP):=zEF (e:=102) (by kernel_rfl) (by kernel_rfl) (by omega) rd_102
set_option maxRecDepth 100000 in
theorem rd_104:Rds enc Tryz.prog W 104 zI7 zYT zXU :=
 zDB (n:=2) Tryz.underlying104 (by kernel_rfl) (rc 1 zQD (rc 1 zQD (zFi))) (fun p=>⟨p.1,p.2.1⟩) (fun _=>rfl) (fun _=>rfl) (fun _ h=>h) (fun _=>rfl)
theorem rd_36:Rds enc Tryz.prog W 36 (fun l:(List Build)=>[.sl 2 false (l.map zI7)]) (wfL zYT) (bkL zXU):=zEF (e:=104) (by kernel_rfl) (by kernel_rfl) (by omega) rd_104
theorem rd_66:Rds enc Tryz.prog W 66 (fun l:(List Bs)=>[.sl 1 false (l.map zRM)]) (wfL wfS) (bkL bkS):=zEF (e:=9) (by kernel_rfl) (by kernel_rfl) (by omega) zZU
set_option maxRecDepth 100000 in
theorem rd_41:Rds enc Tryz.prog W 41 cOp wfOp bkOp :=
 zDB (n:=7) Tryz.underlying41 (by kernel_rfl) (rc 1 zQD (rc 1 zQD (rc 1 zQD (rc 1 zQD (rc 1 zZU (rc 1 zZU (rc 1 zgS (zFi)))))))) (fun p=>⟨p.1,p.2.1,p.2.2.1,p.2.2.2.1,p.2.2.2.2.1,p.2.2.2.2.2.1,p.2.2.2.2.2.2.1⟩) (fun _=>rfl) (fun _=>rfl) (fun _ h=>h) (fun _=>rfl)
theorem zh5:Rds enc Tryz.prog W 67 (fun l:(List Op)=>[.sl 7 false (l.map cOp)]) (wfL wfOp) (bkL bkOp):=zEF (e:=41) (by kernel_rfl) (by kernel_rfl) (by omega) rd_41
set_option maxRecDepth 100000 in
theorem rd_86:Rds enc Tryz.prog W 86 zJP zdc zbN :=
 zDB (n:=2) Tryz.underlying86 (by kernel_rfl) (rc 1 zQD (rc 1 zh5 (zFi))) (fun p=>⟨p.1,p.2.1⟩) (fun _=>rfl) (fun _=>rfl) (fun _ h=>h) (fun _=>rfl)
theorem rd_68:Rds enc Tryz.prog W 68 (fun l:(List Hook)=>[.sl 2 false (l.map zJP)]) (wfL zdc) (bkL zbN):=zEF (e:=86) (by kernel_rfl) (by kernel_rfl) (by omega) rd_86
set_option maxRecDepth 100000 in
theorem rd_70:Rds enc Tryz.prog W 70 zBk zYU zXV :=
 zDB (n:=5) Tryz.underlying70 (by kernel_rfl) (rc 1 zgS (rc 1 rd_66 (rc 1 zh5 (rc 1 zh5 (rc 1 rd_68 (zFi)))))) (fun p=>⟨p.1,p.2.1,p.2.2.1,p.2.2.2.1,p.2.2.2.2.1⟩) (fun _=>rfl) (fun _=>rfl) (fun _ h=>h) (fun _=>rfl)
theorem rd_37:Rds enc Tryz.prog W 37 (fun l:(List Class)=>[.sl 5 false (l.map zBk)]) (wfL zYU) (bkL zXV):=zEF (e:=70) (by kernel_rfl) (by kernel_rfl) (by omega) rd_70
set_option maxRecDepth 100000 in
theorem rd_39:Rds enc Tryz.prog W 39 zBd zSy zbR :=
 zDB (n:=14) Tryz.underlying39 (by kernel_rfl) (rc 2 rd_24 (rc 1 rd_25 (rc 4 rd_29 (rc 4 rd_34 (rc 1 rd_35 (rc 1 rd_36 (rc 1 rd_37 (zFi)))))))) (fun p=>⟨p.1,p.2.1,p.2.2.1,p.2.2.2.1,p.2.2.2.2.1,p.2.2.2.2.2.1,p.2.2.2.2.2.2.1⟩) (fun _=>rfl) (fun _=>rfl) (fun _ h=>h) (fun _=>rfl)
theorem rda_0:RdA enc Tryz.prog W 39 (fun x:World=>.agg (zBd x)) zSy zbR:=zaa Tryz.underlying39 rd_39
theorem rda_1:RdA enc Tryz.prog W 5 (fun x:Int=>.v (.int .u8 x)) (wfI .u8) bkI:=zh3 (by kernel_rfl)
theorem rda_2:RdA enc Tryz.prog W 9 (fun x:Bs=>.v (.string ⟨⟨x⟩⟩)) wfS bkS:=zc7 (by kernel_rfl)
theorem rda_3:RdA enc Tryz.prog W 9 (fun x:Bs=>.v (.string ⟨⟨x⟩⟩)) wfS bkS:=zc7 (by kernel_rfl)
theorem own:ownKnob Tryz.prog.godebug=none:=by kernel_rfl
theorem han_of {W : Go.World} (h : handlesMet Tryz.prog [("errors.errorType", Rows.laid_errors_errorType)] W) : zWF W := by
 have et : Tryz.prog.globalNamed "errors.errorType" = some 0 := by kernel_rfl
 have size:Tryz.prog.types.size=422:=by kernel_rfl
 have oneRow:((List.range 422).filter fun t=>Tryz.prog.rowNamed t [101,114,114,111,114])=[122]:=by kernel_rfl
 have rt : (Tryz.prog.cutTypes.find? (·.1 == "internal/reflectlite.rtype")).map (·.2) = some 355 := by kernel_rfl
 obtain ⟨name,u,ty,e1,e2,e3,e4,e5⟩:=h _ (List.mem_singleton.2 rfl)
 have en:name=[101,114,114,111,114]:=(Option.some.inj e1).symm
 subst en
 obtain rfl:=Option.some.inj (rt.symm.trans e2)
 have hm:ty∈(List.range 422).filter fun t=>Tryz.prog.rowNamed t [101,114,114,111,114]:=List.mem_filter.2 ⟨List.mem_range.2 (by rw [<- size];exact e3),e4⟩
 rw [oneRow] at hm
 obtain rfl:=List.mem_singleton.1 hm
 have hh:typeHandle Tryz.prog 122=.pointer (some ⟨5,122,none⟩):=by kernel_rfl
 rw [hh] at e5
 unfold zWF
 simpa using Go.World.var?_cell et e5 0
theorem zhX {W:Go.World} (h0:laidMetH Tryz.prog Rows.deedUndoesRow.laid W):zSX W:=by
 have h' : laidMet Tryz.prog [("unicode.White_Space", Rows.laid_unicode_White_Space), ("strings.asciiSpace", Rows.laid_strings_asciiSpace)] W ∧ handlesMet Tryz.prog [("errors.errorType", Rows.laid_errors_errorType)] W := h0
 have h:=h'.1
 have e1:Rows.laid_strings_asciiSpace (H:=Unit)=Lib.tabData .u8 Lib.asciiSpaceTab:=by kernel_rfl
 have t1:=h.tail
 exact ⟨Lib.tabIs_of_head (g:=1) (t:=350) (n:=256) (e:=5) (by kernel_rfl) (by kernel_rfl) (by kernel_rfl) (by kernel_rfl) (by kernel_rfl) (by kernel_rfl) (e1▸t1),han_of h'.2,trivial⟩
set_option maxRecDepth 100000 in
theorem lifted (hall:∀(a0:World) (a1:Int) (a2:Bs) (a3:Bs),zSy a0->(wfI .u8) a1->wfS a2->wfS a3->∃fu,zBj fu a0 a1 a2 a3=some true) (os:Os) (started:os.Started) (H:Type) (enc:TypeId×Value->H) :
  ReturnsInHanded {} Tryz.checked os 6 .any (fun w args=>(Rows.deedUndoesSpec.pre enc Tryz.prog Tryz.f6 [] false w args/\laidMetH Tryz.prog Rows.deedUndoesRow.laid w)/\sizedMet enc Tryz.prog Tryz.f6 (OpenSpec.ofChange Rows.deedUndoesSpec) false w args) (Rows.deedUndoesSpec.post enc Tryz.prog Tryz.f6 false true false false):=by
 refine returnsInHanded_of_change_and (C:=Tryz.checked) (X:=fun w _=>laidMetH Tryz.prog Rows.deedUndoesRow.laid w) (fun _ _ _ hh h=>h.of_heap hh) own started noInit Tryz.func6
  (ChangeSpec.witness_shaped (enc:=enc) (C:=Tryz.checked) (os:=os) (X:=fun w _=>laidMetH Tryz.prog Rows.deedUndoesRow.laid w) false (Go.World.doorLaid Tryz.prog 200 os) wi 12 rfl (shp os) (okw os) (prb enc os) (szb enc os) (zeX os)) ?_
 intro W base args ds gs before hval0 hW _ _ hL _
 have hval:∀(j:Nat) t v,Tryz.f6.params[j]? = some t->args[j]? = some v->Value.okWide Tryz.prog W .any base t v:=hval0
 have hW':=hW
 obtain ⟨p,q,hA0,hV,rfl,hfz,hnd⟩:=hW
 have hA:DataW.TrodAll enc Tryz.prog W 0 (fun _=>true) true Tryz.f6.params.toList args.toList ds p:=hA0
 rw [Tryz.params6] at hA hval
 obtain ⟨v0,vs0,d0,ds0,p0,q0,hargs,rfl,rfl,h0,r0⟩:=trodAll_cons hA
 obtain ⟨v1,vs1,d1,ds1,p1,q1,rfl,rfl,rfl,h1,r1⟩:=trodAll_cons r0
 obtain ⟨v2,vs2,d2,ds2,p2,q2,rfl,rfl,rfl,h2,r2⟩:=trodAll_cons r1
 obtain ⟨v3,vs3,d3,ds3,p3,q3,rfl,rfl,rfl,h3,r3⟩:=trodAll_cons r2
 obtain ⟨rfl,rfl,rfl⟩:=trodAll_nil r3
 obtain rfl:args = #[v0,v1,v2,v3]:=by cases args;simp_all
 obtain ⟨rfl,rfl⟩:=trodVars_none hV
 obtain ⟨a0,w0,b0,e0⟩:=rda_0 (enc:=enc) base v0 d0 p0 (hval 0 39 v0 rfl rfl) h0
 obtain ⟨a1,w1,b1,e1⟩:=rda_1 (enc:=enc) base v1 d1 p1 (hval 1 5 v1 rfl rfl) h1
 obtain ⟨a2,w2,b2,e2⟩:=rda_2 (enc:=enc) base v2 d2 p2 (hval 2 9 v2 rfl rfl) h2
 obtain ⟨a3,w3,b3,e3⟩:=rda_3 (enc:=enc) base v3 d3 p3 (hval 3 9 v3 rfl rfl) h3
 obtain ⟨fu,hm⟩:=hall a0 a1 a2 a3 w0 w1 w2 w3
 exact zeo (s:=Rows.deedUndoesSpec) (by kernel_rfl) (t:=4) rfl Tryz.underlying4 (by kernel_rfl) rfl (zKr true hm) (fun w' hk=>zaL hk (zhX hL)) (zRa e0 (zRa e1 (zRa e2 (zRa e3 (zh6))))) hW' rfl rfl rfl
theorem zOR {a b:Bool} (h1:a=true) (h2:b=true):(a&&b)=true:=by rw [h1,h2];rfl
set_option maxRecDepth 100000 in
theorem closed:joinedFacts Tryz.prog 6 Tryz.f6 Rows.deedUndoesSpec Rows.deedUndoesRow=true:=by
 unfold joinedFacts
 exact (zOR (zOR (zOR (zOR (zOR (zOR (zOR (zOR (zOR (zOR (zOR (zOR (zOR (zOR (zOR (zOR (zOR (zOR (zOR (zOR (zOR (zOR (zOR (zOR (zOR (zOR (zOR (zOR (zOR (zOR (zOR j0 j1) j2) j3) j4) j5) j6) j7) j8) j9) j10) j11) j12) j13) j14) j15) j16) j17) j18) j19) j20) j21) j22) j23) j24) j25) j26) j27) j28) j29) j30) j31)
theorem said (hall:∀(a0:World) (a1:Int) (a2:Bs) (a3:Bs),zSy a0->(wfI .u8) a1->wfS a2->wfS a3->∃fu,zBj fu a0 a1 a2 a3=some true):Rows.DeedUndoesSaid :=
 OpenClaim.holds_of_wide 6 Tryz.f6 rfl rfl rfl rfl rfl rfl rfl ⟨rfl,rfl,rfl,rfl,rfl⟩ rfl rfl rfl rfl rfl (by kernel_rfl) Tryz.func6 closed
  (of_decide_eq_true (by kernel_rfl)) (by unfold Func.isWrapper;first | (rw [if_pos (by decide +kernel)];kernel_rfl) | (rw [if_neg (by decide +kernel)];exact ⟨rfl,rfl⟩))
  (fun os started H enc _=>lifted hall os started H enc)
theorem plain (f : FuncId) (fn : Func) (hf : Tryz.pinned.checked.prog.funcNamed "instar/instarlaw18.DeedUndoes" = some f) (hfn : Tryz.pinned.checked.prog.funcs[f]? = some fn) :
  true=Tryz.pinned.checked.prog.looks []/\∀(j:Nat) t,fn.params[j]? = some t->Tryz.pinned.checked.prog.wantsStandIn t=false:=by
 obtain rfl : f = 6 := Option.some.inj ((show Tryz.prog.funcNamed "instar/instarlaw18.DeedUndoes" = some 6 by kernel_rfl).symm.trans hf) |>.symm
 obtain rfl:fn=Tryz.f6:=(Option.some.inj (Tryz.func6.symm.trans hfn)).symm
 refine ⟨by kernel_rfl,fun j t ht=>?_⟩
 rw [Tryz.params6] at ht
 have hm:t∈[39,5,9,9]:=by simpa using Array.mem_of_getElem? ht
 have hall:([39,5,9,9].all fun u => !Tryz.prog.wantsStandIn u)=true:=by kernel_rfl
 exact (show Tryz.prog.wantsStandIn t=false by simpa using List.all_eq_true.1 hall t hm)
theorem step (hall:∀(a0:World) (a1:Int) (a2:Bs) (a3:Bs),zSy a0->(wfI .u8) a1->wfS a2->wfS a3->∃fu,zBj fu a0 a1 a2 a3=some true):Rows.DeedUndoesCardSaid :=
 Claim7.holds_tied_plain_at .later [] _ _ _ _ (said hall) (fun _ h=>by cases h) (by kernel_rfl) (fun _ h=>by cases h) deedUndoes_row_tie rfl ⟨rfl,rfl⟩ (by kernel_rfl) rfl plain (by kernel_rfl)
end Go.Proofs.YtmfbghpealgaiaaGreatDoor.WDeedUndoes
