/- Facts over the program that the row leans on, each by the kernel. -/
import Derived.Test.YtmfbghpealgaiaaGreatDoorRows
import Derived.JoinedOf
import Derived.KernelRfl
namespace Go.Proofs.YtmfbghpealgaiaaGreatDoor.WDeedLives
open Go
theorem j0:(Rows.deedLivesRow.wf (OpenSpec.ofChange Rows.deedLivesSpec):Bool)=true:=by kernel_rfl
theorem j2:(mapsRowed Tryz.prog:Bool)=true:=by kernel_rfl
theorem j3:(Tryz.f5.params.all (Tryz.prog.readableRec ·):Bool)=true:=by kernel_rfl
theorem j4:(namedTie Tryz.prog Rows.deedLivesRow.named Rows.deedLivesSpec.vars:Bool)=true:=by kernel_rfl
theorem j5:((Rows.deedLivesRow.stops==[]):Bool)=true:=by kernel_rfl
theorem j6:((Tryz.prog.stops==[]):Bool)=true:=by kernel_rfl
theorem j7:((Rows.deedLivesRow.knobs==[]):Bool)=true:=by kernel_rfl
theorem j8:((Tryz.prog.stopKnobs==[]):Bool)=true:=by kernel_rfl
theorem j13:((Rows.deedLivesRow.maps==(Tryz.f5.params.toList++Rows.deedLivesSpec.plain.varTypes Tryz.prog).any (Tryz.prog.mapsRec ·)):Bool)=true:=by kernel_rfl
theorem j14:((Rows.deedLivesRow.ifaces==(Tryz.f5.params.toList++Rows.deedLivesSpec.plain.varTypes Tryz.prog).any (Tryz.prog.ifacesRec ·)):Bool)=true:=by kernel_rfl
theorem j15:((Rows.deedLivesRow.mapsOut==Tryz.prog.mapsAmong Tryz.f5.resultTypes.toList):Bool)=true:=by kernel_rfl
theorem j16:((Rows.deedLivesRow.loops==(Tryz.f5.params.toList++Rows.deedLivesSpec.plain.varTypes Tryz.prog).any (Tryz.prog.loopsFrom ·)):Bool)=true:=by kernel_rfl
theorem j17:((Rows.deedLivesRow.wideKeys==(Tryz.f5.params.toList++Rows.deedLivesSpec.plain.varTypes Tryz.prog++Tryz.f5.resultTypes.toList).any (Tryz.prog.wideKeysFrom ·)):Bool)=true:=by kernel_rfl
theorem j18:(Rows.deedLivesSpec.vars.all (Tryz.prog.varReadable ·):Bool)=true:=by kernel_rfl
theorem j19:(Tryz.f5.resultTypes.all (fun t=>Tryz.prog.readableRec t&&decide (t<Tryz.prog.types.size)):Bool)=true:=by kernel_rfl
theorem j20:((Rows.deedLivesRow.ifacesOut==Tryz.f5.resultTypes.toList.any (Tryz.prog.ifacesRec ·)):Bool)=true:=by kernel_rfl
theorem j21:((Rows.deedLivesRow.loopsOut==Tryz.f5.resultTypes.toList.any (Tryz.prog.loopsFrom ·)):Bool)=true:=by kernel_rfl
theorem j22:((Rows.deedLivesRow.plainKeys==Tryz.prog.plainKeys):Bool)=true:=by kernel_rfl
theorem j23:(Rows.deedLivesRow.shortTexts.isNone:Bool)=true:=by kernel_rfl
theorem j24:(Tryz.prog.stopsHeard:Bool)=true:=by kernel_rfl
theorem j26:((Rows.deedLivesRow.lifted==Tryz.prog.liftsFinal):Bool)=true:=by kernel_rfl
theorem j27:((Tryz.prog.make==some Rows.deedLivesRow.make):Bool)=true:=by kernel_rfl
theorem j28:((Rows.deedLivesRow.kinds==(if Rows.deedLivesRow.domain.isEmpty then [] else Tryz.f5.params.toList.map fun t=>match Tryz.prog.underlying t with | some (.int k)=>some k | _=>none)):Bool)=true:=by kernel_rfl
theorem j29:((Rows.deedLivesRow.pinned==Rows.deedLivesRow.pinnedBy):Bool)=true:=by kernel_rfl
theorem j30:((Rows.deedLivesRow.veiled==(Tryz.f5.params.toList++Rows.deedLivesSpec.plain.varTypes Tryz.prog++Tryz.f5.resultTypes.toList).any (Tryz.prog.veiledRec ·)):Bool)=true:=by kernel_rfl
theorem j31:(Rows.deedLivesRow.veiledFits Tryz.prog Tryz.f5.params.toList (Tryz.f5.params.toList++Rows.deedLivesSpec.plain.varTypes Tryz.prog++Tryz.f5.resultTypes.toList):Bool)=true:=by kernel_rfl
end Go.Proofs.YtmfbghpealgaiaaGreatDoor.WDeedLives
