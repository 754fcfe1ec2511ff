/- The step from the model of 'instar/instarlaw22.ScriptMain' to the row's statement: printed by law.py. -/
import Derived.Test.YtoboimmgglnjfaaGreatDoorG
import Derived.Test.YtoboimmgglnjfaaGreatDoorRows
import Derived.Test.YtoboimmgglnjfaaGreatDoorSaid
import Derived.Test.YtoboimmgglnjfaaGreatDoorShl
import Derived.Deep.DeepHandedRow
import Derived.LaidMore
import Derived.MakeChecks
import Derived.Test.YtoboimmgglnjfaaGreatDoorCards
import Derived.Test.YtoboimmgglnjfaaGreatDoorTie
namespace Go.Proofs.YtoboimmgglnjfaaGreatDoor.WScriptMain
open Go Go.Pw Go.ChangeShapes Go.WideShapes Go.ChangeAt Go.RowKit
set_option linter.unusedVariables false
theorem rd_9 {H : Type} {enc : TypeId × Value → H} {W : World} : Rds enc Tryz.prog W 9 cStr wfS bkS := zRP (by kernel_rfl)
theorem rd_40 {H : Type} {enc : TypeId × Value → H} {W : World} : Rds enc Tryz.prog W 40 (fun l : (List Bs) => [.sl 1 false (l.map cStr)]) (wfL wfS) (bkL bkS) := zN6 (e := 9) (by kernel_rfl) (by kernel_rfl) (by omega) rd_9
theorem rda_0 {H : Type} {enc : TypeId × Value → H} {W : World} : RdA enc Tryz.prog W 40 (fun x : (List Bs) => .sl 1 false (x.map cStr)) (wfL wfS) (bkL bkS) := zNT (e := 9) (by kernel_rfl) rd_40
theorem own : ownKnob Tryz.prog.godebug = none := by kernel_rfl
theorem zRI {W : World} (h0 : laidMetH Tryz.prog Rows.scriptMainRow.laid W) : zAi W := by
 have h : laidMet Tryz.prog Rows.scriptMainRow.laid W := by rw [← MakeChecks.laidMetH_plain _ _ _ (by kernel_rfl)]; exact h0
 have e2 : Rows.laid_internal_strconv_uint64pow10 (H := Unit) = Lib.tabData .u64 Lib.pow10Tab := by kernel_rfl
 have t2 := h.tail.tail
 have e6 : Rows.laid_strings_asciiSpace (H := Unit) = Lib.tabData .u8 Lib.asciiSpaceTab := by kernel_rfl
 have t6 := h.tail.tail.tail.tail.tail.tail
 have t4 := h.tail.tail.tail.tail
 have t3 := h.tail.tail.tail
 exact ⟨Lib.tabIs_of_head (g := 5) (t := 228) (n := 20) (e := 207) (by kernel_rfl) (by kernel_rfl) (by kernel_rfl) (by kernel_rfl) (by kernel_rfl) (by kernel_rfl) (e2 ▸ t2), Lib.tabIs_of_head (g := 0) (t := 150) (n := 256) (e := 5) (by kernel_rfl) (by kernel_rfl) (by kernel_rfl) (by kernel_rfl) (by kernel_rfl) (by kernel_rfl) (e6 ▸ t6), zQh t4 (by kernel_rfl) (by kernel_rfl) Tryz.underlying122, zQh t3 (by kernel_rfl) (by kernel_rfl) Tryz.underlying122, trivial⟩
theorem zPo (os : Os) (args : Array Value) : laidMetH Tryz.prog Rows.scriptMainRow.laid ((World.doorLaid Tryz.prog 200 os).forCall (fun _ _ => 0) ⟨#[], args, []⟩).memory := by
 rw [MakeChecks.laidMetH_plain _ _ _ (by kernel_rfl)]
 exact laidMet_of_run' 8 (by kernel_rfl) (by kernel_rfl)
set_option maxRecDepth 100000 in
theorem lifted (hall : ∀ (a0 : (List Bs)), (wfL wfS) a0 → ∃ fu, zA7 fu a0 = some true) (os : Os) (started : os.Started) (H : Type) (enc : TypeId × Value → H) :
  ReturnsInHanded {} Tryz.checked os 6 .any (fun w args => (Rows.scriptMainSpec.pre enc Tryz.prog Tryz.f6 [] false w args ∧ laidMetH Tryz.prog Rows.scriptMainRow.laid w) ∧ sizedMet enc Tryz.prog Tryz.f6 (OpenSpec.ofChange Rows.scriptMainSpec) false w args) (Rows.scriptMainSpec.post enc Tryz.prog Tryz.f6 false true false false) := by
 refine returnsInHanded_of_change_and (C := Tryz.checked) (X := fun w _ => laidMetH Tryz.prog Rows.scriptMainRow.laid w) (fun _ _ _ hh h => h.of_heap hh) own started (by kernel_rfl) Tryz.func6
  (ChangeSpec.witness_shaped (enc := enc) (C := Tryz.checked) (os := os) (X := fun w _ => laidMetH Tryz.prog Rows.scriptMainRow.laid w) false (World.doorLaid Tryz.prog 200 os) #[.slice none 0 0] 12 rfl (World.shaped_of_RefB (by kernel_rfl) (by kernel_rfl)) (by kernel_rfl) (by kernel_rfl) (by kernel_rfl) (zPo os _)) ?_
 intro W base args ds gs before hval0 hW _ _ hL _
 have hval : ∀ (j : Nat) t v, Tryz.f6.params[j]? = some t → args[j]? = some v → Value.okWide Tryz.prog W .any base t v := hval0
 have hW' := hW
 obtain ⟨p, q, hA0, hV, rfl, hfz, hnd⟩ := hW
 have hA : DataW.TrodAll enc Tryz.prog W 0 (fun _ => true) true Tryz.f6.params.toList args.toList ds p := hA0
 rw [Tryz.params6] at hA hval
 obtain ⟨v0, vs0, d0, ds0, p0, q0, hargs, rfl, rfl, h0, r0⟩ := trodAll_cons hA
 obtain ⟨rfl, rfl, rfl⟩ := trodAll_nil r0
 obtain rfl : args = #[v0] := by cases args; simp_all
 obtain ⟨rfl, rfl⟩ := trodVars_none hV
 obtain ⟨a0, w0, b0, e0⟩ := rda_0 (enc := enc) base v0 d0 p0 (hval 0 40 v0 rfl rfl) h0
 obtain ⟨fu, hm⟩ := hall a0 w0
 exact zPq (s := Rows.scriptMainSpec) (by kernel_rfl) (t := 4) rfl Tryz.underlying4 (by kernel_rfl) rfl (zEP fu a0 true hm) (fun w' hk => zMb hk (zRI hL)) (zPz e0 (zR8)) hW' rfl rfl rfl
theorem said (hall : ∀ (a0 : (List Bs)), (wfL wfS) a0 → ∃ fu, zA7 fu a0 = some true) : Rows.ScriptMainSaid :=
 OpenClaim.holds_of_wide 6 Tryz.f6 rfl rfl rfl rfl rfl rfl rfl ⟨rfl, rfl, rfl, rfl, rfl⟩ rfl rfl rfl rfl rfl (by kernel_rfl) Tryz.func6 (by kernel_rfl)
  (of_decide_eq_true (by kernel_rfl)) (by unfold Func.isWrapper; first | (rw [if_pos (by decide +kernel)]; kernel_rfl) | (rw [if_neg (by decide +kernel)]; exact ⟨rfl, rfl⟩))
  (fun os started H enc _ => lifted hall os started H enc)
theorem plain (f : FuncId) (fn : Func) (hf : Tryz.pinned.checked.prog.funcNamed "instar/instarlaw22.ScriptMain" = some f) (hfn : Tryz.pinned.checked.prog.funcs[f]? = some fn) :
  true = Tryz.pinned.checked.prog.looks [] ∧ ∀ (j : Nat) t, fn.params[j]? = some t → Tryz.pinned.checked.prog.wantsStandIn t = false := by
 obtain rfl : f = 6 := Option.some.inj ((show Tryz.prog.funcNamed "instar/instarlaw22.ScriptMain" = some 6 by kernel_rfl).symm.trans hf) |>.symm
 obtain rfl : fn = Tryz.f6 := (Option.some.inj (Tryz.func6.symm.trans hfn)).symm
 refine ⟨by kernel_rfl, fun j t ht => ?_⟩
 rw [Tryz.params6] at ht
 have hm : t ∈ [40] := by simpa using Array.mem_of_getElem? ht
 have hall : ([40].all fun u => !Tryz.prog.wantsStandIn u) = true := by kernel_rfl
 exact (show Tryz.prog.wantsStandIn t = false by simpa using List.all_eq_true.1 hall t hm)
theorem step (hall : ∀ (a0 : (List Bs)), (wfL wfS) a0 → ∃ fu, zA7 fu a0 = some true) : Rows.ScriptMainCardSaid :=
 Claim7.holds_tied_plain_at .later [] _ _ _ _ (said hall) (fun _ h => by cases h) (by kernel_rfl) (fun _ h => by cases h) scriptMain_row_tie rfl ⟨rfl, rfl⟩ (by kernel_rfl) rfl plain (by kernel_rfl)
end Go.Proofs.YtoboimmgglnjfaaGreatDoor.WScriptMain
