/- Facts over the program that the row leans on, each by the kernel. -/
import Derived.Test.YtmfbghpealgaiaaGreatDoorRows
import Derived.JoinedOf
import Derived.KernelRfl
namespace Go.Proofs.YtmfbghpealgaiaaGreatDoor.WDeedUndoes
open Go
theorem j1:(laidOutB Tryz.prog:Bool)=true:=by kernel_rfl
theorem j9:((Rows.deedUndoesRow.inPlace==Tryz.prog.inPlace 6):Bool)=true:=by kernel_rfl
theorem j10:((Rows.deedUndoesRow.unfollowed==Tryz.prog.unfollowed 6):Bool)=true:=by kernel_rfl
theorem j11:((Rows.deedUndoesRow.recurses==Tryz.prog.recurses 6):Bool)=true:=by kernel_rfl
theorem j12:((Rows.deedUndoesRow.named==Tryz.prog.varsNamed 6):Bool)=true:=by kernel_rfl
theorem j25:(Tryz.prog.mayEnter:Bool)=true:=by kernel_rfl
end Go.Proofs.YtmfbghpealgaiaaGreatDoor.WDeedUndoes
