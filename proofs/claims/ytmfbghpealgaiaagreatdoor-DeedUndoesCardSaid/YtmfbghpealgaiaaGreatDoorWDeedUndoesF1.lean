/- Facts over the program that the row leans on, each by the kernel. -/
import Derived.Test.YtmfbghpealgaiaaGreatDoorRows
import Derived.JoinedOf
import Derived.KernelRfl
namespace Go.Proofs.YtmfbghpealgaiaaGreatDoor.WDeedUndoes
open Go
theorem j0:(Rows.deedUndoesRow.wf (OpenSpec.ofChange Rows.deedUndoesSpec):Bool)=true:=by kernel_rfl
theorem j2:(mapsRowed Tryz.prog:Bool)=true:=by kernel_rfl
theorem j3:(Tryz.f6.params.all (Tryz.prog.readableRec ·):Bool)=true:=by kernel_rfl
theorem j4:(namedTie Tryz.prog Rows.deedUndoesRow.named Rows.deedUndoesSpec.vars:Bool)=true:=by kernel_rfl
theorem j5:((Rows.deedUndoesRow.stops==[]):Bool)=true:=by kernel_rfl
theorem j6:((Tryz.prog.stops==[]):Bool)=true:=by kernel_rfl
theorem j7:((Rows.deedUndoesRow.knobs==[]):Bool)=true:=by kernel_rfl
theorem j8:((Tryz.prog.stopKnobs==[]):Bool)=true:=by kernel_rfl
theorem j13:((Rows.deedUndoesRow.maps==(Tryz.f6.params.toList++Rows.deedUndoesSpec.plain.varTypes Tryz.prog).any (Tryz.prog.mapsRec ·)):Bool)=true:=by kernel_rfl
theorem j14:((Rows.deedUndoesRow.ifaces==(Tryz.f6.params.toList++Rows.deedUndoesSpec.plain.varTypes Tryz.prog).any (Tryz.prog.ifacesRec ·)):Bool)=true:=by kernel_rfl
theorem j15:((Rows.deedUndoesRow.mapsOut==Tryz.prog.mapsAmong Tryz.f6.resultTypes.toList):Bool)=true:=by kernel_rfl
theorem j16:((Rows.deedUndoesRow.loops==(Tryz.f6.params.toList++Rows.deedUndoesSpec.plain.varTypes Tryz.prog).any (Tryz.prog.loopsFrom ·)):Bool)=true:=by kernel_rfl
theorem j17:((Rows.deedUndoesRow.wideKeys==(Tryz.f6.params.toList++Rows.deedUndoesSpec.plain.varTypes Tryz.prog++Tryz.f6.resultTypes.toList).any (Tryz.prog.wideKeysFrom ·)):Bool)=true:=by kernel_rfl
theorem j18:(Rows.deedUndoesSpec.vars.all (Tryz.prog.varReadable ·):Bool)=true:=by kernel_rfl
theorem j19:(Tryz.f6.resultTypes.all (fun t=>Tryz.prog.readableRec t&&decide (t<Tryz.prog.types.size)):Bool)=true:=by kernel_rfl
theorem j20:((Rows.deedUndoesRow.ifacesOut==Tryz.f6.resultTypes.toList.any (Tryz.prog.ifacesRec ·)):Bool)=true:=by kernel_rfl
theorem j21:((Rows.deedUndoesRow.loopsOut==Tryz.f6.resultTypes.toList.any (Tryz.prog.loopsFrom ·)):Bool)=true:=by kernel_rfl
theorem j22:((Rows.deedUndoesRow.plainKeys==Tryz.prog.plainKeys):Bool)=true:=by kernel_rfl
theorem j23:(Rows.deedUndoesRow.shortTexts.isNone:Bool)=true:=by kernel_rfl
theorem j24:(Tryz.prog.stopsHeard:Bool)=true:=by kernel_rfl
theorem j26:((Rows.deedUndoesRow.lifted==Tryz.prog.liftsFinal):Bool)=true:=by kernel_rfl
theorem j27:((Tryz.prog.make==some Rows.deedUndoesRow.make):Bool)=true:=by kernel_rfl
theorem j28:((Rows.deedUndoesRow.kinds==(if Rows.deedUndoesRow.domain.isEmpty then [] else Tryz.f6.params.toList.map fun t=>match Tryz.prog.underlying t with | some (.int k)=>some k | _=>none)):Bool)=true:=by kernel_rfl
theorem j29:((Rows.deedUndoesRow.pinned==Rows.deedUndoesRow.pinnedBy):Bool)=true:=by kernel_rfl
theorem j30:((Rows.deedUndoesRow.veiled==(Tryz.f6.params.toList++Rows.deedUndoesSpec.plain.varTypes Tryz.prog++Tryz.f6.resultTypes.toList).any (Tryz.prog.veiledRec ·)):Bool)=true:=by kernel_rfl
theorem j31:(Rows.deedUndoesRow.veiledFits Tryz.prog Tryz.f6.params.toList (Tryz.f6.params.toList++Rows.deedUndoesSpec.plain.varTypes Tryz.prog++Tryz.f6.resultTypes.toList):Bool)=true:=by kernel_rfl
end Go.Proofs.YtmfbghpealgaiaaGreatDoor.WDeedUndoes
