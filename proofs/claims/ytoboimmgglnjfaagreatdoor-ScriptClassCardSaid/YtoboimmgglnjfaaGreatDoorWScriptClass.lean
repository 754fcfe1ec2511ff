/- The step from the model of 'instar/instarlaw22.ScriptClass' to the row's statement: printed by law.py. -/
import Derived.Test.YtoboimmgglnjfaaGreatDoorG
import Derived.Test.YtoboimmgglnjfaaGreatDoorRows
import Derived.Test.YtoboimmgglnjfaaGreatDoorSaid
import Derived.Test.YtoboimmgglnjfaaGreatDoorShl
import Derived.Deep.DeepHandedRow
import Derived.LaidMore
import Derived.MakeChecks
import Derived.Test.YtoboimmgglnjfaaGreatDoorCards
import Derived.Test.YtoboimmgglnjfaaGreatDoorTie
namespace Go.Proofs.YtoboimmgglnjfaaGreatDoor.WScriptClass
open Go Go.Pw Go.ChangeShapes Go.WideShapes Go.ChangeAt Go.RowKit
set_option linter.unusedVariables false
theorem rda_0 {H : Type} {enc : TypeId × Value → H} {W : World} : RdA enc Tryz.prog W 4 (fun x : Bool => .v (.bool x)) wfB bkB := zPs (by kernel_rfl)
theorem rda_1 {H : Type} {enc : TypeId × Value → H} {W : World} : RdA enc Tryz.prog W 9 (fun x : Bs => .v (.string ⟨⟨x⟩⟩)) wfS bkS := zRn (by kernel_rfl)
theorem rda_2 {H : Type} {enc : TypeId × Value → H} {W : World} : RdA enc Tryz.prog W 5 (fun x : Int => .v (.int .u8 x)) (wfI .u8) bkI := zRm (by kernel_rfl)
theorem own : ownKnob Tryz.prog.godebug = none := by kernel_rfl
theorem zRL {W : World} (h0 : laidMetH Tryz.prog Rows.scriptClassRow.laid W) : zAh W := by
 have h : laidMet Tryz.prog Rows.scriptClassRow.laid W := by rw [← MakeChecks.laidMetH_plain _ _ _ (by kernel_rfl)]; exact h0
 have e2 : Rows.laid_internal_strconv_uint64pow10 (H := Unit) = Lib.tabData .u64 Lib.pow10Tab := by kernel_rfl
 have t2 := h.tail.tail
 have e6 : Rows.laid_strings_asciiSpace (H := Unit) = Lib.tabData .u8 Lib.asciiSpaceTab := by kernel_rfl
 have t6 := h.tail.tail.tail.tail.tail.tail
 have t4 := h.tail.tail.tail.tail
 have t3 := h.tail.tail.tail
 exact ⟨Lib.tabIs_of_head (g := 5) (t := 228) (n := 20) (e := 207) (by kernel_rfl) (by kernel_rfl) (by kernel_rfl) (by kernel_rfl) (by kernel_rfl) (by kernel_rfl) (e2 ▸ t2), Lib.tabIs_of_head (g := 0) (t := 150) (n := 256) (e := 5) (by kernel_rfl) (by kernel_rfl) (by kernel_rfl) (by kernel_rfl) (by kernel_rfl) (by kernel_rfl) (e6 ▸ t6), zQU t4 (by kernel_rfl) (by kernel_rfl) Tryz.underlying122, zQU t3 (by kernel_rfl) (by kernel_rfl) Tryz.underlying122, trivial⟩
theorem zPL (os : Os) (args : Array Value) : laidMetH Tryz.prog Rows.scriptClassRow.laid ((World.doorLaid Tryz.prog 200 os).forCall (fun _ _ => 0) ⟨#[], args, []⟩).memory := by
 rw [MakeChecks.laidMetH_plain _ _ _ (by kernel_rfl)]
 exact laidMet_of_run' 8 (by kernel_rfl) (by kernel_rfl)
set_option maxRecDepth 100000 in
theorem lifted (hall : ∀ (a0 : Bool) (a1 : Bs) (a2 : Int), wfB a0 → wfS a1 → (wfI .u8) a2 → ∃ fu, zAu fu a0 a1 a2 = some true) (os : Os) (started : os.Started) (H : Type) (enc : TypeId × Value → H) :
  ReturnsInHanded {} Tryz.checked os 7 .any (fun w args => (Rows.scriptClassSpec.pre enc Tryz.prog Tryz.f7 [] false w args ∧ laidMetH Tryz.prog Rows.scriptClassRow.laid w) ∧ sizedMet enc Tryz.prog Tryz.f7 (OpenSpec.ofChange Rows.scriptClassSpec) false w args) (Rows.scriptClassSpec.post enc Tryz.prog Tryz.f7 false true false false) := by
 refine returnsInHanded_of_change_and (C := Tryz.checked) (X := fun w _ => laidMetH Tryz.prog Rows.scriptClassRow.laid w) (fun _ _ _ hh h => h.of_heap hh) own started (by kernel_rfl) Tryz.func7
  (ChangeSpec.witness_shaped (enc := enc) (C := Tryz.checked) (os := os) (X := fun w _ => laidMetH Tryz.prog Rows.scriptClassRow.laid w) false (World.doorLaid Tryz.prog 200 os) #[.bool false, .string ⟨#[]⟩, .int .u8 0] 12 rfl (World.shaped_of_RefB (by kernel_rfl) (by kernel_rfl)) (by kernel_rfl) (by kernel_rfl) (by kernel_rfl) (zPL os _)) ?_
 intro W base args ds gs before hval0 hW _ _ hL _
 have hval : ∀ (j : Nat) t v, Tryz.f7.params[j]? = some t → args[j]? = some v → Value.okWide Tryz.prog W .any base t v := hval0
 have hW' := hW
 obtain ⟨p, q, hA0, hV, rfl, hfz, hnd⟩ := hW
 have hA : DataW.TrodAll enc Tryz.prog W 0 (fun _ => true) true Tryz.f7.params.toList args.toList ds p := hA0
 rw [Tryz.params7] at hA hval
 obtain ⟨v0, vs0, d0, ds0, p0, q0, hargs, rfl, rfl, h0, r0⟩ := trodAll_cons hA
 obtain ⟨v1, vs1, d1, ds1, p1, q1, rfl, rfl, rfl, h1, r1⟩ := trodAll_cons r0
 obtain ⟨v2, vs2, d2, ds2, p2, q2, rfl, rfl, rfl, h2, r2⟩ := trodAll_cons r1
 obtain ⟨rfl, rfl, rfl⟩ := trodAll_nil r2
 obtain rfl : args = #[v0, v1, v2] := by cases args; simp_all
 obtain ⟨rfl, rfl⟩ := trodVars_none hV
 obtain ⟨a0, w0, b0, e0⟩ := rda_0 (enc := enc) base v0 d0 p0 (hval 0 4 v0 rfl rfl) h0
 obtain ⟨a1, w1, b1, e1⟩ := rda_1 (enc := enc) base v1 d1 p1 (hval 1 9 v1 rfl rfl) h1
 obtain ⟨a2, w2, b2, e2⟩ := rda_2 (enc := enc) base v2 d2 p2 (hval 2 5 v2 rfl rfl) h2
 obtain ⟨fu, hm⟩ := hall a0 a1 a2 w0 w1 w2
 exact zPa (s := Rows.scriptClassSpec) (by kernel_rfl) (t := 4) rfl Tryz.underlying4 (by kernel_rfl) rfl (zD0 fu a0 a1 a2 true hm) (fun w' hk => zMb hk (zRL hL)) (zJG e0 (zJG e1 (zJG e2 (zRo)))) hW' rfl rfl rfl
theorem said (hall : ∀ (a0 : Bool) (a1 : Bs) (a2 : Int), wfB a0 → wfS a1 → (wfI .u8) a2 → ∃ fu, zAu fu a0 a1 a2 = some true) : Rows.ScriptClassSaid :=
 OpenClaim.holds_of_wide 7 Tryz.f7 rfl rfl rfl rfl rfl rfl rfl ⟨rfl, rfl, rfl, rfl, rfl⟩ rfl rfl rfl rfl rfl (by kernel_rfl) Tryz.func7 (by kernel_rfl)
  (of_decide_eq_true (by kernel_rfl)) (by unfold Func.isWrapper; first | (rw [if_pos (by decide +kernel)]; kernel_rfl) | (rw [if_neg (by decide +kernel)]; exact ⟨rfl, rfl⟩))
  (fun os started H enc _ => lifted hall os started H enc)
theorem plain (f : FuncId) (fn : Func) (hf : Tryz.pinned.checked.prog.funcNamed "instar/instarlaw22.ScriptClass" = some f) (hfn : Tryz.pinned.checked.prog.funcs[f]? = some fn) :
  true = Tryz.pinned.checked.prog.looks [] ∧ ∀ (j : Nat) t, fn.params[j]? = some t → Tryz.pinned.checked.prog.wantsStandIn t = false := by
 obtain rfl : f = 7 := Option.some.inj ((show Tryz.prog.funcNamed "instar/instarlaw22.ScriptClass" = some 7 by kernel_rfl).symm.trans hf) |>.symm
 obtain rfl : fn = Tryz.f7 := (Option.some.inj (Tryz.func7.symm.trans hfn)).symm
 refine ⟨by kernel_rfl, fun j t ht => ?_⟩
 rw [Tryz.params7] at ht
 have hm : t ∈ [4, 9, 5] := by simpa using Array.mem_of_getElem? ht
 have hall : ([4, 9, 5].all fun u => !Tryz.prog.wantsStandIn u) = true := by kernel_rfl
 exact (show Tryz.prog.wantsStandIn t = false by simpa using List.all_eq_true.1 hall t hm)
theorem step (hall : ∀ (a0 : Bool) (a1 : Bs) (a2 : Int), wfB a0 → wfS a1 → (wfI .u8) a2 → ∃ fu, zAu fu a0 a1 a2 = some true) : Rows.ScriptClassCardSaid :=
 Claim7.holds_tied_plain_at .later [] _ _ _ _ (said hall) (fun _ h => by cases h) (by kernel_rfl) (fun _ h => by cases h) scriptClass_row_tie rfl ⟨rfl, rfl⟩ (by kernel_rfl) rfl plain (by kernel_rfl)
end Go.Proofs.YtoboimmgglnjfaaGreatDoor.WScriptClass
