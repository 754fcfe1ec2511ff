/- What the row's witness has, each fact by the kernel. -/
import Derived.Test.YtmfbghpealgaiaaGreatDoorRows
import Derived.Deep.DeepHandedRow
import Derived.LaidMore
import Derived.MakeChecks
import Derived.LaidHandle
import Derived.Stop.Joined
import Derived.KernelRfl
namespace Go.Proofs.YtmfbghpealgaiaaGreatDoor.WDeedLives
open Go Go.ChangeShapes Go.WideShapes Go.ChangeAt
set_option linter.unusedVariables false
abbrev wi:Array Value := #[.agg #[.slice none 0 0,.int .i64 0,.slice none 0 0,.slice none 0 0,.slice none 0 0,.int .i64 0,.bool false,.slice none 0 0,.slice none 0 0,.slice none 0 0,.bool false,.slice none 0 0,.slice none 0 0,.slice none 0 0],.agg #[.int .i64 0,.int .i64 0,.int .i64 0,.int .i64 0,.string ⟨#[]⟩,.string ⟨#[]⟩,.bool false]]
noncomputable abbrev ww (os:Os):Go.World:=(Go.World.doorLaid Tryz.prog 200 os).forCall (fun _ _=>0) ⟨#[],wi,[]⟩
theorem dm1 (os:Os):laidMet Tryz.prog (Rows.deedLivesRow.laid.filter fun x=>x.2.handleName?.isNone) (ww os).memory:=laidMet_of_run' 8 (by kernel_rfl) (by kernel_rfl)
theorem dm2 (os:Os):(Rows.deedLivesRow.laid.filter fun x=>x.2.handleName?.isSome).all (handleAtB Tryz.prog (ww os).memory)=true:=by kernel_rfl
theorem zdV (os:Os):laidMetH Tryz.prog Rows.deedLivesRow.laid (ww os).memory:=laidMetH_of_parts (dm1 os) (dm2 os)
theorem noInit:Tryz.prog.inits.idxOf? 5=none:=by kernel_rfl
theorem shp (os:Os):(ww os).Shaped Tryz.prog:=Go.World.shaped_of_RefB (by kernel_rfl) (by kernel_rfl)
theorem okw (os:Os):Input.okWideB Tryz.prog (ww os) 5 ⟨#[],wi,[]⟩=true:=by kernel_rfl
theorem prb {H:Type} (enc:TypeId×Value->H) (os:Os):Rows.deedLivesSpec.preB enc Tryz.prog Tryz.f5 [] false (ww os).memory wi 12=true:=by kernel_rfl
theorem szb {H:Type} (enc:TypeId×Value->H) (os:Os):Rows.deedLivesSpec.sizedB enc Tryz.prog Tryz.f5 false (ww os).memory wi 12=true:=by kernel_rfl
end Go.Proofs.YtmfbghpealgaiaaGreatDoor.WDeedLives
