/- Facts over the program that the row leans on, each by the kernel. -/
import Derived.Test.YtmfbghpealgaiaaGreatDoorRows
import Derived.JoinedOf
import Derived.KernelRfl
namespace Go.Proofs.YtmfbghpealgaiaaGreatDoor.WDeedHands
open Go
theorem j0:(Rows.deedHandsRow.wf (OpenSpec.ofChange Rows.deedHandsSpec):Bool)=true:=by kernel_rfl
theorem j2:(mapsRowed Tryz.prog:Bool)=true:=by kernel_rfl
theorem j3:(Tryz.f4.params.all (Tryz.prog.readableRec ·):Bool)=true:=by kernel_rfl
theorem j4:(namedTie Tryz.prog Rows.deedHandsRow.named Rows.deedHandsSpec.vars:Bool)=true:=by kernel_rfl
theorem j5:((Rows.deedHandsRow.stops==[]):Bool)=true:=by kernel_rfl
theorem j6:((Tryz.prog.stops==[]):Bool)=true:=by kernel_rfl
theorem j7:((Rows.deedHandsRow.knobs==[]):Bool)=true:=by kernel_rfl
theorem j8:((Tryz.prog.stopKnobs==[]):Bool)=true:=by kernel_rfl
theorem j13:((Rows.deedHandsRow.maps==(Tryz.f4.params.toList++Rows.deedHandsSpec.plain.varTypes Tryz.prog).any (Tryz.prog.mapsRec ·)):Bool)=true:=by kernel_rfl
theorem j14:((Rows.deedHandsRow.ifaces==(Tryz.f4.params.toList++Rows.deedHandsSpec.plain.varTypes Tryz.prog).any (Tryz.prog.ifacesRec ·)):Bool)=true:=by kernel_rfl
theorem j15:((Rows.deedHandsRow.mapsOut==Tryz.prog.mapsAmong Tryz.f4.resultTypes.toList):Bool)=true:=by kernel_rfl
theorem j16:((Rows.deedHandsRow.loops==(Tryz.f4.params.toList++Rows.deedHandsSpec.plain.varTypes Tryz.prog).any (Tryz.prog.loopsFrom ·)):Bool)=true:=by kernel_rfl
theorem j17:((Rows.deedHandsRow.wideKeys==(Tryz.f4.params.toList++Rows.deedHandsSpec.plain.varTypes Tryz.prog++Tryz.f4.resultTypes.toList).any (Tryz.prog.wideKeysFrom ·)):Bool)=true:=by kernel_rfl
theorem j18:(Rows.deedHandsSpec.vars.all (Tryz.prog.varReadable ·):Bool)=true:=by kernel_rfl
theorem j19:(Tryz.f4.resultTypes.all (fun t=>Tryz.prog.readableRec t&&decide (t<Tryz.prog.types.size)):Bool)=true:=by kernel_rfl
theorem j20:((Rows.deedHandsRow.ifacesOut==Tryz.f4.resultTypes.toList.any (Tryz.prog.ifacesRec ·)):Bool)=true:=by kernel_rfl
theorem j21:((Rows.deedHandsRow.loopsOut==Tryz.f4.resultTypes.toList.any (Tryz.prog.loopsFrom ·)):Bool)=true:=by kernel_rfl
theorem j22:((Rows.deedHandsRow.plainKeys==Tryz.prog.plainKeys):Bool)=true:=by kernel_rfl
theorem j23:(Rows.deedHandsRow.shortTexts.isNone:Bool)=true:=by kernel_rfl
theorem j24:(Tryz.prog.stopsHeard:Bool)=true:=by kernel_rfl
theorem j26:((Rows.deedHandsRow.lifted==Tryz.prog.liftsFinal):Bool)=true:=by kernel_rfl
theorem j27:((Tryz.prog.make==some Rows.deedHandsRow.make):Bool)=true:=by kernel_rfl
theorem j28:((Rows.deedHandsRow.kinds==(if Rows.deedHandsRow.domain.isEmpty then [] else Tryz.f4.params.toList.map fun t=>match Tryz.prog.underlying t with | some (.int k)=>some k | _=>none)):Bool)=true:=by kernel_rfl
theorem j29:((Rows.deedHandsRow.pinned==Rows.deedHandsRow.pinnedBy):Bool)=true:=by kernel_rfl
theorem j30:((Rows.deedHandsRow.veiled==(Tryz.f4.params.toList++Rows.deedHandsSpec.plain.varTypes Tryz.prog++Tryz.f4.resultTypes.toList).any (Tryz.prog.veiledRec ·)):Bool)=true:=by kernel_rfl
theorem j31:(Rows.deedHandsRow.veiledFits Tryz.prog Tryz.f4.params.toList (Tryz.f4.params.toList++Rows.deedHandsSpec.plain.varTypes Tryz.prog++Tryz.f4.resultTypes.toList):Bool)=true:=by kernel_rfl
end Go.Proofs.YtmfbghpealgaiaaGreatDoor.WDeedHands
