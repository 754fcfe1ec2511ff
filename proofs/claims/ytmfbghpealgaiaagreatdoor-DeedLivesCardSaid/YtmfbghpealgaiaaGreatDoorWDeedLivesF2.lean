/- Facts over the program that the row leans on, each by the kernel. -/
import Derived.Test.YtmfbghpealgaiaaGreatDoorRows
import Derived.JoinedOf
import Derived.KernelRfl
namespace Go.Proofs.YtmfbghpealgaiaaGreatDoor.WDeedLives
open Go
theorem j1:(laidOutB Tryz.prog:Bool)=true:=by kernel_rfl
theorem j9:((Rows.deedLivesRow.inPlace==Tryz.prog.inPlace 5):Bool)=true:=by kernel_rfl
theorem j10:((Rows.deedLivesRow.unfollowed==Tryz.prog.unfollowed 5):Bool)=true:=by kernel_rfl
theorem j11:((Rows.deedLivesRow.recurses==Tryz.prog.recurses 5):Bool)=true:=by kernel_rfl
theorem j12:((Rows.deedLivesRow.named==Tryz.prog.varsNamed 5):Bool)=true:=by kernel_rfl
theorem j25:(Tryz.prog.mayEnter:Bool)=true:=by kernel_rfl
end Go.Proofs.YtmfbghpealgaiaaGreatDoor.WDeedLives
