/- The step from the model of 'instar/instarlaw22.ScriptBack' to the row's statement: printed by law.py. -/
import Derived.Test.YtoboimmgglnjfaaGreatDoorG
import Derived.Test.YtoboimmgglnjfaaGreatDoorRows
import Derived.Test.YtoboimmgglnjfaaGreatDoorSaid
import Derived.Test.YtoboimmgglnjfaaGreatDoorShl
import Derived.Deep.DeepHandedRow
import Derived.LaidMore
import Derived.MakeChecks
import Derived.Test.YtoboimmgglnjfaaGreatDoorCards
import Derived.Test.YtoboimmgglnjfaaGreatDoorTie
namespace Go.Proofs.YtoboimmgglnjfaaGreatDoor.WScriptBack
open Go Go.Pw Go.ChangeShapes Go.WideShapes Go.ChangeAt Go.RowKit
set_option linter.unusedVariables false
def wfOp (x : Op) : Prop := (wfI .i64) x.Kind ∧ ((wfI .i64) x.A ∧ ((wfI .i64) x.B ∧ ((wfI .i64) x.C ∧ (wfS x.S ∧ (wfS x.T ∧ (wfB x.Must ∧ (True)))))))
def bkOp (x : Op) : Nat := (bkI x.Kind + (bkI x.A + (bkI x.B + (bkI x.C + (bkS x.S + (bkS x.T + (bkB x.Must + (0)))))))) + 1
def zND (x : Hook) : Prop := (wfI .i64) x.Kind ∧ ((wfL wfOp) x.Do ∧ (True))
def zOk (x : Hook) : Nat := (bkI x.Kind + ((bkL bkOp) x.Do + (0))) + 1
def zKs (x : Class) : Prop := wfB x.Form ∧ ((wfL wfS) x.Watch ∧ ((wfL wfOp) x.Peek ∧ ((wfL wfOp) x.Make ∧ ((wfL zND) x.Hooks ∧ (True)))))
def zLM (x : Class) : Nat := (bkB x.Form + ((bkL bkS) x.Watch + ((bkL bkOp) x.Peek + ((bkL bkOp) x.Make + ((bkL zOk) x.Hooks + (0)))))) + 1
def zGO (x : Script) : Prop := (wfL zKs) x.Classes ∧ ((wfL wfOp) x.Main ∧ (True))
def zMJ (x : Script) : Nat := ((bkL zLM) x.Classes + ((bkL bkOp) x.Main + (0))) + 1
theorem rd_4 {H : Type} {enc : TypeId × Value → H} {W : World} : Rds enc Tryz.prog W 4 cBool wfB bkB := zPr (by kernel_rfl)
theorem rd_9 {H : Type} {enc : TypeId × Value → H} {W : World} : Rds enc Tryz.prog W 9 cStr wfS bkS := zRQ (by kernel_rfl)
theorem rd_40 {H : Type} {enc : TypeId × Value → H} {W : World} : Rds enc Tryz.prog W 40 (fun l : (List Bs) => [.sl 1 false (l.map cStr)]) (wfL wfS) (bkL bkS) := zGL (e := 9) (by kernel_rfl) (by kernel_rfl) (by omega) rd_9
theorem rd_3 {H : Type} {enc : TypeId × Value → H} {W : World} : Rds enc Tryz.prog W 3 zP4 (wfI .i64) bkI := zRq (by kernel_rfl)
set_option maxRecDepth 100000 in
theorem rd_43 {H : Type} {enc : TypeId × Value → H} {W : World} : Rds enc Tryz.prog W 43 cOp wfOp bkOp :=
 zFm (n := 7) Tryz.underlying43 (by kernel_rfl) (zB4 (k := 1) (by kernel_rfl) (by kernel_rfl) (fun _ => rfl) rd_3 (zB4 (k := 1) (by kernel_rfl) (by kernel_rfl) (fun _ => rfl) rd_3 (zB4 (k := 1) (by kernel_rfl) (by kernel_rfl) (fun _ => rfl) rd_3 (zB4 (k := 1) (by kernel_rfl) (by kernel_rfl) (fun _ => rfl) rd_3 (zB4 (k := 1) (by kernel_rfl) (by kernel_rfl) (fun _ => rfl) rd_9 (zB4 (k := 1) (by kernel_rfl) (by kernel_rfl) (fun _ => rfl) rd_9 (zB4 (k := 1) (by kernel_rfl) (by kernel_rfl) (fun _ => rfl) rd_4 (zHc)))))))) (fun p => ⟨p.1, p.2.1, p.2.2.1, p.2.2.2.1, p.2.2.2.2.1, p.2.2.2.2.2.1, p.2.2.2.2.2.2.1⟩) (fun _ => rfl) (fun _ => rfl) (fun _ h => h) (fun _ => rfl)
theorem zQJ {H : Type} {enc : TypeId × Value → H} {W : World} : Rds enc Tryz.prog W 23 (fun l : (List Op) => [.sl 7 false (l.map cOp)]) (wfL wfOp) (bkL bkOp) := zGL (e := 43) (by kernel_rfl) (by kernel_rfl) (by omega) rd_43
set_option maxRecDepth 100000 in
theorem rd_54 {H : Type} {enc : TypeId × Value → H} {W : World} : Rds enc Tryz.prog W 54 zAU zND zOk :=
 zFm (n := 2) Tryz.underlying54 (by kernel_rfl) (zB4 (k := 1) (by kernel_rfl) (by kernel_rfl) (fun _ => rfl) rd_3 (zB4 (k := 1) (by kernel_rfl) (by kernel_rfl) (fun _ => rfl) zQJ (zHc))) (fun p => ⟨p.1, p.2.1⟩) (fun _ => rfl) (fun _ => rfl) (fun _ h => h) (fun _ => rfl)
theorem rd_49 {H : Type} {enc : TypeId × Value → H} {W : World} : Rds enc Tryz.prog W 49 (fun l : (List Hook) => [.sl 2 false (l.map zAU)]) (wfL zND) (bkL zOk) := zGL (e := 54) (by kernel_rfl) (by kernel_rfl) (by omega) rd_54
set_option maxRecDepth 100000 in
theorem rd_51 {H : Type} {enc : TypeId × Value → H} {W : World} : Rds enc Tryz.prog W 51 zAG zKs zLM :=
 zFm (n := 5) Tryz.underlying51 (by kernel_rfl) (zB4 (k := 1) (by kernel_rfl) (by kernel_rfl) (fun _ => rfl) rd_4 (zB4 (k := 1) (by kernel_rfl) (by kernel_rfl) (fun _ => rfl) rd_40 (zB4 (k := 1) (by kernel_rfl) (by kernel_rfl) (fun _ => rfl) zQJ (zB4 (k := 1) (by kernel_rfl) (by kernel_rfl) (fun _ => rfl) zQJ (zB4 (k := 1) (by kernel_rfl) (by kernel_rfl) (fun _ => rfl) rd_49 (zHc)))))) (fun p => ⟨p.1, p.2.1, p.2.2.1, p.2.2.2.1, p.2.2.2.2.1⟩) (fun _ => rfl) (fun _ => rfl) (fun _ h => h) (fun _ => rfl)
theorem rd_22 {H : Type} {enc : TypeId × Value → H} {W : World} : Rds enc Tryz.prog W 22 (fun l : (List Class) => [.sl 5 false (l.map zAG)]) (wfL zKs) (bkL zLM) := zGL (e := 51) (by kernel_rfl) (by kernel_rfl) (by omega) rd_51
set_option maxRecDepth 100000 in
theorem rd_25 {H : Type} {enc : TypeId × Value → H} {W : World} : Rds enc Tryz.prog W 25 zBZ zGO zMJ :=
 zFm (n := 2) Tryz.underlying25 (by kernel_rfl) (zB4 (k := 1) (by kernel_rfl) (by kernel_rfl) (fun _ => rfl) rd_22 (zB4 (k := 1) (by kernel_rfl) (by kernel_rfl) (fun _ => rfl) zQJ (zHc))) (fun p => ⟨p.1, p.2.1⟩) (fun _ => rfl) (fun _ => rfl) (fun _ h => h) (fun _ => rfl)
theorem rda_0 {H : Type} {enc : TypeId × Value → H} {W : World} : RdA enc Tryz.prog W 25 (fun x : Script => .agg (zBZ x)) zGO zMJ := zMu Tryz.underlying25 rd_25
theorem own : ownKnob Tryz.prog.godebug = none := by kernel_rfl
theorem zR7 {W : World} (h0 : laidMetH Tryz.prog Rows.scriptBackRow.laid W) : zAb W := by
 have h : laidMet Tryz.prog Rows.scriptBackRow.laid W := by rw [← MakeChecks.laidMetH_plain _ _ _ (by kernel_rfl)]; exact h0
 have e2 : Rows.laid_internal_strconv_uint64pow10 (H := Unit) = Lib.tabData .u64 Lib.pow10Tab := by kernel_rfl
 have t2 := h.tail.tail
 have e6 : Rows.laid_strings_asciiSpace (H := Unit) = Lib.tabData .u8 Lib.asciiSpaceTab := by kernel_rfl
 have t6 := h.tail.tail.tail.tail.tail.tail
 have t4 := h.tail.tail.tail.tail
 have t3 := h.tail.tail.tail
 exact ⟨Lib.tabIs_of_head (g := 5) (t := 228) (n := 20) (e := 207) (by kernel_rfl) (by kernel_rfl) (by kernel_rfl) (by kernel_rfl) (by kernel_rfl) (by kernel_rfl) (e2 ▸ t2), Lib.tabIs_of_head (g := 0) (t := 150) (n := 256) (e := 5) (by kernel_rfl) (by kernel_rfl) (by kernel_rfl) (by kernel_rfl) (by kernel_rfl) (by kernel_rfl) (e6 ▸ t6), zQl t4 (by kernel_rfl) (by kernel_rfl) Tryz.underlying122, zQl t3 (by kernel_rfl) (by kernel_rfl) Tryz.underlying122, trivial⟩
theorem zQA (os : Os) (args : Array Value) : laidMetH Tryz.prog Rows.scriptBackRow.laid ((World.doorLaid Tryz.prog 200 os).forCall (fun _ _ => 0) ⟨#[], args, []⟩).memory := by
 rw [MakeChecks.laidMetH_plain _ _ _ (by kernel_rfl)]
 exact laidMet_of_run' 8 (by kernel_rfl) (by kernel_rfl)
set_option maxRecDepth 100000 in
theorem lifted (hall : ∀ (a0 : Script), zGO a0 → ∃ fu, zA5 fu a0 = some true) (os : Os) (started : os.Started) (H : Type) (enc : TypeId × Value → H) :
  ReturnsInHanded {} Tryz.checked os 4 .any (fun w args => (Rows.scriptBackSpec.pre enc Tryz.prog Tryz.f4 [] false w args ∧ laidMetH Tryz.prog Rows.scriptBackRow.laid w) ∧ sizedMet enc Tryz.prog Tryz.f4 (OpenSpec.ofChange Rows.scriptBackSpec) false w args) (Rows.scriptBackSpec.post enc Tryz.prog Tryz.f4 false true false false) := by
 refine returnsInHanded_of_change_and (C := Tryz.checked) (X := fun w _ => laidMetH Tryz.prog Rows.scriptBackRow.laid w) (fun _ _ _ hh h => h.of_heap hh) own started (by kernel_rfl) Tryz.func4
  (ChangeSpec.witness_shaped (enc := enc) (C := Tryz.checked) (os := os) (X := fun w _ => laidMetH Tryz.prog Rows.scriptBackRow.laid w) false (World.doorLaid Tryz.prog 200 os) #[.agg #[.slice none 0 0, .slice none 0 0]] 12 rfl (World.shaped_of_RefB (by kernel_rfl) (by kernel_rfl)) (by kernel_rfl) (by kernel_rfl) (by kernel_rfl) (zQA os _)) ?_
 intro W base args ds gs before hval0 hW _ _ hL _
 have hval : ∀ (j : Nat) t v, Tryz.f4.params[j]? = some t → args[j]? = some v → Value.okWide Tryz.prog W .any base t v := hval0
 have hW' := hW
 obtain ⟨p, q, hA0, hV, rfl, hfz, hnd⟩ := hW
 have hA : DataW.TrodAll enc Tryz.prog W 0 (fun _ => true) true Tryz.f4.params.toList args.toList ds p := hA0
 rw [Tryz.params4] at hA hval
 obtain ⟨v0, vs0, d0, ds0, p0, q0, hargs, rfl, rfl, h0, r0⟩ := trodAll_cons hA
 obtain ⟨rfl, rfl, rfl⟩ := trodAll_nil r0
 obtain rfl : args = #[v0] := by cases args; simp_all
 obtain ⟨rfl, rfl⟩ := trodVars_none hV
 obtain ⟨a0, w0, b0, e0⟩ := rda_0 (enc := enc) base v0 d0 p0 (hval 0 25 v0 rfl rfl) h0
 obtain ⟨fu, hm⟩ := hall a0 w0
 exact zQI (s := Rows.scriptBackSpec) (by kernel_rfl) (t := 4) rfl Tryz.underlying4 (by kernel_rfl) rfl (zEW fu a0 true hm) (fun w' hk => zMk hk (zR7 hL)) (zP0 e0 (zRY)) hW' rfl rfl rfl
theorem said (hall : ∀ (a0 : Script), zGO a0 → ∃ fu, zA5 fu a0 = some true) : Rows.ScriptBackSaid :=
 OpenClaim.holds_of_wide 4 Tryz.f4 rfl rfl rfl rfl rfl rfl rfl ⟨rfl, rfl, rfl, rfl, rfl⟩ rfl rfl rfl rfl rfl (by kernel_rfl) Tryz.func4 (by kernel_rfl)
  (of_decide_eq_true (by kernel_rfl)) (by unfold Func.isWrapper; first | (rw [if_pos (by decide +kernel)]; kernel_rfl) | (rw [if_neg (by decide +kernel)]; exact ⟨rfl, rfl⟩))
  (fun os started H enc _ => lifted hall os started H enc)
theorem plain (f : FuncId) (fn : Func) (hf : Tryz.pinned.checked.prog.funcNamed "instar/instarlaw22.ScriptBack" = some f) (hfn : Tryz.pinned.checked.prog.funcs[f]? = some fn) :
  true = Tryz.pinned.checked.prog.looks [] ∧ ∀ (j : Nat) t, fn.params[j]? = some t → Tryz.pinned.checked.prog.wantsStandIn t = false := by
 obtain rfl : f = 4 := Option.some.inj ((show Tryz.prog.funcNamed "instar/instarlaw22.ScriptBack" = some 4 by kernel_rfl).symm.trans hf) |>.symm
 obtain rfl : fn = Tryz.f4 := (Option.some.inj (Tryz.func4.symm.trans hfn)).symm
 refine ⟨by kernel_rfl, fun j t ht => ?_⟩
 rw [Tryz.params4] at ht
 have hm : t ∈ [25] := by simpa using Array.mem_of_getElem? ht
 have hall : ([25].all fun u => !Tryz.prog.wantsStandIn u) = true := by kernel_rfl
 exact (show Tryz.prog.wantsStandIn t = false by simpa using List.all_eq_true.1 hall t hm)
theorem step (hall : ∀ (a0 : Script), zGO a0 → ∃ fu, zA5 fu a0 = some true) : Rows.ScriptBackCardSaid :=
 Claim7.holds_tied_plain_at .later [] _ _ _ _ (said hall) (fun _ h => by cases h) (by kernel_rfl) (fun _ h => by cases h) scriptBack_row_tie rfl ⟨rfl, rfl⟩ (by kernel_rfl) rfl plain (by kernel_rfl)
end Go.Proofs.YtoboimmgglnjfaaGreatDoor.WScriptBack
