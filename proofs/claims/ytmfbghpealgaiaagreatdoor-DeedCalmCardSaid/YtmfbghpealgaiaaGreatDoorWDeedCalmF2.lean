/- Facts over the program that the row leans on, each by the kernel. -/
import Derived.Test.YtmfbghpealgaiaaGreatDoorRows
import Derived.JoinedOf
import Derived.KernelRfl
namespace Go.Proofs.YtmfbghpealgaiaaGreatDoor.WDeedCalm
open Go
theorem j1:(laidOutB Tryz.prog:Bool)=true:=by kernel_rfl
theorem j9:((Rows.deedCalmRow.inPlace==Tryz.prog.inPlace 7):Bool)=true:=by kernel_rfl
theorem j10:((Rows.deedCalmRow.unfollowed==Tryz.prog.unfollowed 7):Bool)=true:=by kernel_rfl
theorem j11:((Rows.deedCalmRow.recurses==Tryz.prog.recurses 7):Bool)=true:=by kernel_rfl
theorem j12:((Rows.deedCalmRow.named==Tryz.prog.varsNamed 7):Bool)=true:=by kernel_rfl
theorem j25:(Tryz.prog.mayEnter:Bool)=true:=by kernel_rfl
end Go.Proofs.YtmfbghpealgaiaaGreatDoor.WDeedCalm
