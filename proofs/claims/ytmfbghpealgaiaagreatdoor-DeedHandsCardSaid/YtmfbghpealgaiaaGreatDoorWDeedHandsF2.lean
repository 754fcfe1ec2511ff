/- Facts over the program that the row leans on, each by the kernel. -/
import Derived.Test.YtmfbghpealgaiaaGreatDoorRows
import Derived.JoinedOf
import Derived.KernelRfl
namespace Go.Proofs.YtmfbghpealgaiaaGreatDoor.WDeedHands
open Go
theorem j1:(laidOutB Tryz.prog:Bool)=true:=by kernel_rfl
theorem j9:((Rows.deedHandsRow.inPlace==Tryz.prog.inPlace 4):Bool)=true:=by kernel_rfl
theorem j10:((Rows.deedHandsRow.unfollowed==Tryz.prog.unfollowed 4):Bool)=true:=by kernel_rfl
theorem j11:((Rows.deedHandsRow.recurses==Tryz.prog.recurses 4):Bool)=true:=by kernel_rfl
theorem j12:((Rows.deedHandsRow.named==Tryz.prog.varsNamed 4):Bool)=true:=by kernel_rfl
theorem j25:(Tryz.prog.mayEnter:Bool)=true:=by kernel_rfl
end Go.Proofs.YtmfbghpealgaiaaGreatDoor.WDeedHands
