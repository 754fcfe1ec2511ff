/- Facts over the program that the row leans on, each by the kernel. -/
import Derived.Test.YtmfbghpealgaiaaGreatDoorRows
import Derived.JoinedOf
import Derived.KernelRfl
namespace Go.Proofs.YtmfbghpealgaiaaGreatDoor.WDeedKeeps
open Go
theorem j1:(laidOutB Tryz.prog:Bool)=true:=by kernel_rfl
theorem j9:((Rows.deedKeepsRow.inPlace==Tryz.prog.inPlace 3):Bool)=true:=by kernel_rfl
theorem j10:((Rows.deedKeepsRow.unfollowed==Tryz.prog.unfollowed 3):Bool)=true:=by kernel_rfl
theorem j11:((Rows.deedKeepsRow.recurses==Tryz.prog.recurses 3):Bool)=true:=by kernel_rfl
theorem j12:((Rows.deedKeepsRow.named==Tryz.prog.varsNamed 3):Bool)=true:=by kernel_rfl
theorem j25:(Tryz.prog.mayEnter:Bool)=true:=by kernel_rfl
end Go.Proofs.YtmfbghpealgaiaaGreatDoor.WDeedKeeps
