/- The step from the model of 'instar/instarlaw22.ScriptReads' to the row's statement: printed by law.py. -/
import Derived.Test.YtoboimmgglnjfaaGreatDoorG
import Derived.Test.YtoboimmgglnjfaaGreatDoorRows
import Derived.Test.YtoboimmgglnjfaaGreatDoorSaid
import Derived.Test.YtoboimmgglnjfaaGreatDoorShl
import Derived.Deep.DeepHandedRow
import Derived.LaidMore
import Derived.MakeChecks
import Derived.Test.YtoboimmgglnjfaaGreatDoorCards
import Derived.Test.YtoboimmgglnjfaaGreatDoorTie
namespace Go.Proofs.YtoboimmgglnjfaaGreatDoor.WScriptReads
open Go Go.Pw Go.ChangeShapes Go.WideShapes Go.ChangeAt Go.RowKit
set_option linter.unusedVariables false
theorem rda_0 {H : Type} {enc : TypeId × Value → H} {W : World} : RdA enc Tryz.prog W 9 (fun x : Bs => .v (.string ⟨⟨x⟩⟩)) wfS bkS := zSa (by kernel_rfl)
theorem rda_1 {H : Type} {enc : TypeId × Value → H} {W : World} : RdA enc Tryz.prog W 38 (fun x : Int => .v (.int .u16 x)) (wfI .u16) bkI := zR5 (by kernel_rfl)
theorem own : ownKnob Tryz.prog.godebug = none := by kernel_rfl
theorem zSK {W : World} (h0 : laidMetH Tryz.prog Rows.scriptReadsRow.laid W) : zAb W := by
 have h : laidMet Tryz.prog Rows.scriptReadsRow.laid W := by rw [← MakeChecks.laidMetH_plain _ _ _ (by kernel_rfl)]; exact h0
 have e2 : Rows.laid_internal_strconv_uint64pow10 (H := Unit) = Lib.tabData .u64 Lib.pow10Tab := by kernel_rfl
 have t2 := h.tail.tail
 have e6 : Rows.laid_strings_asciiSpace (H := Unit) = Lib.tabData .u8 Lib.asciiSpaceTab := by kernel_rfl
 have t6 := h.tail.tail.tail.tail.tail.tail
 have t4 := h.tail.tail.tail.tail
 have t3 := h.tail.tail.tail
 exact ⟨Lib.tabIs_of_head (g := 5) (t := 228) (n := 20) (e := 207) (by kernel_rfl) (by kernel_rfl) (by kernel_rfl) (by kernel_rfl) (by kernel_rfl) (by kernel_rfl) (e2 ▸ t2), Lib.tabIs_of_head (g := 0) (t := 150) (n := 256) (e := 5) (by kernel_rfl) (by kernel_rfl) (by kernel_rfl) (by kernel_rfl) (by kernel_rfl) (by kernel_rfl) (e6 ▸ t6), zQ1 t4 (by kernel_rfl) (by kernel_rfl) Tryz.underlying122, zQ1 t3 (by kernel_rfl) (by kernel_rfl) Tryz.underlying122, trivial⟩
theorem zQQ (os : Os) (args : Array Value) : laidMetH Tryz.prog Rows.scriptReadsRow.laid ((World.doorLaid Tryz.prog 200 os).forCall (fun _ _ => 0) ⟨#[], args, []⟩).memory := by
 rw [MakeChecks.laidMetH_plain _ _ _ (by kernel_rfl)]
 exact laidMet_of_run' 8 (by kernel_rfl) (by kernel_rfl)
set_option maxRecDepth 100000 in
theorem lifted (hall : ∀ (a0 : Bs) (a1 : Int), wfS a0 → (wfI .u16) a1 → ∃ fu, zAu fu a0 a1 = some true) (os : Os) (started : os.Started) (H : Type) (enc : TypeId × Value → H) :
  ReturnsInHanded {} Tryz.checked os 5 .any (fun w args => (Rows.scriptReadsSpec.pre enc Tryz.prog Tryz.f5 [] false w args ∧ laidMetH Tryz.prog Rows.scriptReadsRow.laid w) ∧ sizedMet enc Tryz.prog Tryz.f5 (OpenSpec.ofChange Rows.scriptReadsSpec) false w args) (Rows.scriptReadsSpec.post enc Tryz.prog Tryz.f5 false true false false) := by
 refine returnsInHanded_of_change_and (C := Tryz.checked) (X := fun w _ => laidMetH Tryz.prog Rows.scriptReadsRow.laid w) (fun _ _ _ hh h => h.of_heap hh) own started (by kernel_rfl) Tryz.func5
  (ChangeSpec.witness_shaped (enc := enc) (C := Tryz.checked) (os := os) (X := fun w _ => laidMetH Tryz.prog Rows.scriptReadsRow.laid w) false (World.doorLaid Tryz.prog 200 os) #[.string ⟨#[]⟩, .int .u16 0] 12 rfl (World.shaped_of_RefB (by kernel_rfl) (by kernel_rfl)) (by kernel_rfl) (by kernel_rfl) (by kernel_rfl) (zQQ os _)) ?_
 intro W base args ds gs before hval0 hW _ _ hL _
 have hval : ∀ (j : Nat) t v, Tryz.f5.params[j]? = some t → args[j]? = some v → Value.okWide Tryz.prog W .any base t v := hval0
 have hW' := hW
 obtain ⟨p, q, hA0, hV, rfl, hfz, hnd⟩ := hW
 have hA : DataW.TrodAll enc Tryz.prog W 0 (fun _ => true) true Tryz.f5.params.toList args.toList ds p := hA0
 rw [Tryz.params5] at hA hval
 obtain ⟨v0, vs0, d0, ds0, p0, q0, hargs, rfl, rfl, h0, r0⟩ := trodAll_cons hA
 obtain ⟨v1, vs1, d1, ds1, p1, q1, rfl, rfl, rfl, h1, r1⟩ := trodAll_cons r0
 obtain ⟨rfl, rfl, rfl⟩ := trodAll_nil r1
 obtain rfl : args = #[v0, v1] := by cases args; simp_all
 obtain ⟨rfl, rfl⟩ := trodVars_none hV
 obtain ⟨a0, w0, b0, e0⟩ := rda_0 (enc := enc) base v0 d0 p0 (hval 0 9 v0 rfl rfl) h0
 obtain ⟨a1, w1, b1, e1⟩ := rda_1 (enc := enc) base v1 d1 p1 (hval 1 38 v1 rfl rfl) h1
 obtain ⟨fu, hm⟩ := hall a0 a1 w0 w1
 exact zP7 (s := Rows.scriptReadsSpec) (by kernel_rfl) (t := 4) rfl Tryz.underlying4 (by kernel_rfl) rfl (zEB fu a0 a1 true hm) (fun w' hk => zMs hk (zSK hL)) (zLg e0 (zLg e1 (zSW))) hW' rfl rfl rfl
theorem said (hall : ∀ (a0 : Bs) (a1 : Int), wfS a0 → (wfI .u16) a1 → ∃ fu, zAu fu a0 a1 = some true) : Rows.ScriptReadsSaid :=
 OpenClaim.holds_of_wide 5 Tryz.f5 rfl rfl rfl rfl rfl rfl rfl ⟨rfl, rfl, rfl, rfl, rfl⟩ rfl rfl rfl rfl rfl (by kernel_rfl) Tryz.func5 (by kernel_rfl)
  (of_decide_eq_true (by kernel_rfl)) (by unfold Func.isWrapper; first | (rw [if_pos (by decide +kernel)]; kernel_rfl) | (rw [if_neg (by decide +kernel)]; exact ⟨rfl, rfl⟩))
  (fun os started H enc _ => lifted hall os started H enc)
theorem plain (f : FuncId) (fn : Func) (hf : Tryz.pinned.checked.prog.funcNamed "instar/instarlaw22.ScriptReads" = some f) (hfn : Tryz.pinned.checked.prog.funcs[f]? = some fn) :
  true = Tryz.pinned.checked.prog.looks [] ∧ ∀ (j : Nat) t, fn.params[j]? = some t → Tryz.pinned.checked.prog.wantsStandIn t = false := by
 obtain rfl : f = 5 := Option.some.inj ((show Tryz.prog.funcNamed "instar/instarlaw22.ScriptReads" = some 5 by kernel_rfl).symm.trans hf) |>.symm
 obtain rfl : fn = Tryz.f5 := (Option.some.inj (Tryz.func5.symm.trans hfn)).symm
 refine ⟨by kernel_rfl, fun j t ht => ?_⟩
 rw [Tryz.params5] at ht
 have hm : t ∈ [9, 38] := by simpa using Array.mem_of_getElem? ht
 have hall : ([9, 38].all fun u => !Tryz.prog.wantsStandIn u) = true := by kernel_rfl
 exact (show Tryz.prog.wantsStandIn t = false by simpa using List.all_eq_true.1 hall t hm)
theorem step (hall : ∀ (a0 : Bs) (a1 : Int), wfS a0 → (wfI .u16) a1 → ∃ fu, zAu fu a0 a1 = some true) : Rows.ScriptReadsCardSaid :=
 Claim7.holds_tied_plain_at .later [] _ _ _ _ (said hall) (fun _ h => by cases h) (by kernel_rfl) (fun _ h => by cases h) scriptReads_row_tie rfl ⟨rfl, rfl⟩ (by kernel_rfl) rfl plain (by kernel_rfl)
end Go.Proofs.YtoboimmgglnjfaaGreatDoor.WScriptReads
