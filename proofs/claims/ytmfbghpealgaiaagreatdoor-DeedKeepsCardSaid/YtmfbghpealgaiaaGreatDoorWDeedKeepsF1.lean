/- Facts over the program that the row leans on, each by the kernel. -/
import Derived.Test.YtmfbghpealgaiaaGreatDoorRows
import Derived.JoinedOf
import Derived.KernelRfl
namespace Go.Proofs.YtmfbghpealgaiaaGreatDoor.WDeedKeeps
open Go
theorem j0:(Rows.deedKeepsRow.wf (OpenSpec.ofChange Rows.deedKeepsSpec):Bool)=true:=by kernel_rfl
theorem j2:(mapsRowed Tryz.prog:Bool)=true:=by kernel_rfl
theorem j3:(Tryz.f3.params.all (Tryz.prog.readableRec ·):Bool)=true:=by kernel_rfl
theorem j4:(namedTie Tryz.prog Rows.deedKeepsRow.named Rows.deedKeepsSpec.vars:Bool)=true:=by kernel_rfl
theorem j5:((Rows.deedKeepsRow.stops==[]):Bool)=true:=by kernel_rfl
theorem j6:((Tryz.prog.stops==[]):Bool)=true:=by kernel_rfl
theorem j7:((Rows.deedKeepsRow.knobs==[]):Bool)=true:=by kernel_rfl
theorem j8:((Tryz.prog.stopKnobs==[]):Bool)=true:=by kernel_rfl
theorem j13:((Rows.deedKeepsRow.maps==(Tryz.f3.params.toList++Rows.deedKeepsSpec.plain.varTypes Tryz.prog).any (Tryz.prog.mapsRec ·)):Bool)=true:=by kernel_rfl
theorem j14:((Rows.deedKeepsRow.ifaces==(Tryz.f3.params.toList++Rows.deedKeepsSpec.plain.varTypes Tryz.prog).any (Tryz.prog.ifacesRec ·)):Bool)=true:=by kernel_rfl
theorem j15:((Rows.deedKeepsRow.mapsOut==Tryz.prog.mapsAmong Tryz.f3.resultTypes.toList):Bool)=true:=by kernel_rfl
theorem j16:((Rows.deedKeepsRow.loops==(Tryz.f3.params.toList++Rows.deedKeepsSpec.plain.varTypes Tryz.prog).any (Tryz.prog.loopsFrom ·)):Bool)=true:=by kernel_rfl
theorem j17:((Rows.deedKeepsRow.wideKeys==(Tryz.f3.params.toList++Rows.deedKeepsSpec.plain.varTypes Tryz.prog++Tryz.f3.resultTypes.toList).any (Tryz.prog.wideKeysFrom ·)):Bool)=true:=by kernel_rfl
theorem j18:(Rows.deedKeepsSpec.vars.all (Tryz.prog.varReadable ·):Bool)=true:=by kernel_rfl
theorem j19:(Tryz.f3.resultTypes.all (fun t=>Tryz.prog.readableRec t&&decide (t<Tryz.prog.types.size)):Bool)=true:=by kernel_rfl
theorem j20:((Rows.deedKeepsRow.ifacesOut==Tryz.f3.resultTypes.toList.any (Tryz.prog.ifacesRec ·)):Bool)=true:=by kernel_rfl
theorem j21:((Rows.deedKeepsRow.loopsOut==Tryz.f3.resultTypes.toList.any (Tryz.prog.loopsFrom ·)):Bool)=true:=by kernel_rfl
theorem j22:((Rows.deedKeepsRow.plainKeys==Tryz.prog.plainKeys):Bool)=true:=by kernel_rfl
theorem j23:(Rows.deedKeepsRow.shortTexts.isNone:Bool)=true:=by kernel_rfl
theorem j24:(Tryz.prog.stopsHeard:Bool)=true:=by kernel_rfl
theorem j26:((Rows.deedKeepsRow.lifted==Tryz.prog.liftsFinal):Bool)=true:=by kernel_rfl
theorem j27:((Tryz.prog.make==some Rows.deedKeepsRow.make):Bool)=true:=by kernel_rfl
theorem j28:((Rows.deedKeepsRow.kinds==(if Rows.deedKeepsRow.domain.isEmpty then [] else Tryz.f3.params.toList.map fun t=>match Tryz.prog.underlying t with | some (.int k)=>some k | _=>none)):Bool)=true:=by kernel_rfl
theorem j29:((Rows.deedKeepsRow.pinned==Rows.deedKeepsRow.pinnedBy):Bool)=true:=by kernel_rfl
theorem j30:((Rows.deedKeepsRow.veiled==(Tryz.f3.params.toList++Rows.deedKeepsSpec.plain.varTypes Tryz.prog++Tryz.f3.resultTypes.toList).any (Tryz.prog.veiledRec ·)):Bool)=true:=by kernel_rfl
theorem j31:(Rows.deedKeepsRow.veiledFits Tryz.prog Tryz.f3.params.toList (Tryz.f3.params.toList++Rows.deedKeepsSpec.plain.varTypes Tryz.prog++Tryz.f3.resultTypes.toList):Bool)=true:=by kernel_rfl
end Go.Proofs.YtmfbghpealgaiaaGreatDoor.WDeedKeeps
