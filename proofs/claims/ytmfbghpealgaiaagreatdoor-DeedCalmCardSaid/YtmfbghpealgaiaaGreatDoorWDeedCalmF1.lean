/- Facts over the program that the row leans on, each by the kernel. -/
import Derived.Test.YtmfbghpealgaiaaGreatDoorRows
import Derived.JoinedOf
import Derived.KernelRfl
namespace Go.Proofs.YtmfbghpealgaiaaGreatDoor.WDeedCalm
open Go
theorem j0:(Rows.deedCalmRow.wf (OpenSpec.ofChange Rows.deedCalmSpec):Bool)=true:=by kernel_rfl
theorem j2:(mapsRowed Tryz.prog:Bool)=true:=by kernel_rfl
theorem j3:(Tryz.f7.params.all (Tryz.prog.readableRec ·):Bool)=true:=by kernel_rfl
theorem j4:(namedTie Tryz.prog Rows.deedCalmRow.named Rows.deedCalmSpec.vars:Bool)=true:=by kernel_rfl
theorem j5:((Rows.deedCalmRow.stops==[]):Bool)=true:=by kernel_rfl
theorem j6:((Tryz.prog.stops==[]):Bool)=true:=by kernel_rfl
theorem j7:((Rows.deedCalmRow.knobs==[]):Bool)=true:=by kernel_rfl
theorem j8:((Tryz.prog.stopKnobs==[]):Bool)=true:=by kernel_rfl
theorem j13:((Rows.deedCalmRow.maps==(Tryz.f7.params.toList++Rows.deedCalmSpec.plain.varTypes Tryz.prog).any (Tryz.prog.mapsRec ·)):Bool)=true:=by kernel_rfl
theorem j14:((Rows.deedCalmRow.ifaces==(Tryz.f7.params.toList++Rows.deedCalmSpec.plain.varTypes Tryz.prog).any (Tryz.prog.ifacesRec ·)):Bool)=true:=by kernel_rfl
theorem j15:((Rows.deedCalmRow.mapsOut==Tryz.prog.mapsAmong Tryz.f7.resultTypes.toList):Bool)=true:=by kernel_rfl
theorem j16:((Rows.deedCalmRow.loops==(Tryz.f7.params.toList++Rows.deedCalmSpec.plain.varTypes Tryz.prog).any (Tryz.prog.loopsFrom ·)):Bool)=true:=by kernel_rfl
theorem j17:((Rows.deedCalmRow.wideKeys==(Tryz.f7.params.toList++Rows.deedCalmSpec.plain.varTypes Tryz.prog++Tryz.f7.resultTypes.toList).any (Tryz.prog.wideKeysFrom ·)):Bool)=true:=by kernel_rfl
theorem j18:(Rows.deedCalmSpec.vars.all (Tryz.prog.varReadable ·):Bool)=true:=by kernel_rfl
theorem j19:(Tryz.f7.resultTypes.all (fun t=>Tryz.prog.readableRec t&&decide (t<Tryz.prog.types.size)):Bool)=true:=by kernel_rfl
theorem j20:((Rows.deedCalmRow.ifacesOut==Tryz.f7.resultTypes.toList.any (Tryz.prog.ifacesRec ·)):Bool)=true:=by kernel_rfl
theorem j21:((Rows.deedCalmRow.loopsOut==Tryz.f7.resultTypes.toList.any (Tryz.prog.loopsFrom ·)):Bool)=true:=by kernel_rfl
theorem j22:((Rows.deedCalmRow.plainKeys==Tryz.prog.plainKeys):Bool)=true:=by kernel_rfl
theorem j23:(Rows.deedCalmRow.shortTexts.isNone:Bool)=true:=by kernel_rfl
theorem j24:(Tryz.prog.stopsHeard:Bool)=true:=by kernel_rfl
theorem j26:((Rows.deedCalmRow.lifted==Tryz.prog.liftsFinal):Bool)=true:=by kernel_rfl
theorem j27:((Tryz.prog.make==some Rows.deedCalmRow.make):Bool)=true:=by kernel_rfl
theorem j28:((Rows.deedCalmRow.kinds==(if Rows.deedCalmRow.domain.isEmpty then [] else Tryz.f7.params.toList.map fun t=>match Tryz.prog.underlying t with | some (.int k)=>some k | _=>none)):Bool)=true:=by kernel_rfl
theorem j29:((Rows.deedCalmRow.pinned==Rows.deedCalmRow.pinnedBy):Bool)=true:=by kernel_rfl
theorem j30:((Rows.deedCalmRow.veiled==(Tryz.f7.params.toList++Rows.deedCalmSpec.plain.varTypes Tryz.prog++Tryz.f7.resultTypes.toList).any (Tryz.prog.veiledRec ·)):Bool)=true:=by kernel_rfl
theorem j31:(Rows.deedCalmRow.veiledFits Tryz.prog Tryz.f7.params.toList (Tryz.f7.params.toList++Rows.deedCalmSpec.plain.varTypes Tryz.prog++Tryz.f7.resultTypes.toList):Bool)=true:=by kernel_rfl
end Go.Proofs.YtmfbghpealgaiaaGreatDoor.WDeedCalm
