/- The step from the model of 'instar/instarlaw22.ScriptRight' to the row's statement: printed by law.py. -/
import Derived.Test.YtoboimmgglnjfaaGreatDoorG
import Derived.Test.YtoboimmgglnjfaaGreatDoorRows
import Derived.Test.YtoboimmgglnjfaaGreatDoorSaid
import Derived.Test.YtoboimmgglnjfaaGreatDoorShl
import Derived.Deep.DeepHandedRow
import Derived.LaidMore
import Derived.MakeChecks
import Derived.Test.YtoboimmgglnjfaaGreatDoorCards
import Derived.Test.YtoboimmgglnjfaaGreatDoorTie
namespace Go.Proofs.YtoboimmgglnjfaaGreatDoor.WScriptRight
open Go Go.Pw Go.ChangeShapes Go.WideShapes Go.ChangeAt Go.RowKit
set_option linter.unusedVariables false
def wfOp (x : Op) : Prop := (wfI .i64) x.Kind ∧ ((wfI .i64) x.A ∧ ((wfI .i64) x.B ∧ ((wfI .i64) x.C ∧ (wfS x.S ∧ (wfS x.T ∧ (wfB x.Must ∧ (True)))))))
def bkOp (x : Op) : Nat := (bkI x.Kind + (bkI x.A + (bkI x.B + (bkI x.C + (bkS x.S + (bkS x.T + (bkB x.Must + (0)))))))) + 1
def zSt (x : Hook) : Prop := (wfI .i64) x.Kind ∧ ((wfL wfOp) x.Do ∧ (True))
def zQb (x : Hook) : Nat := (bkI x.Kind + ((bkL bkOp) x.Do + (0))) + 1
def zOS (x : Class) : Prop := wfB x.Form ∧ ((wfL wfS) x.Watch ∧ ((wfL wfOp) x.Peek ∧ ((wfL wfOp) x.Make ∧ ((wfL zSt) x.Hooks ∧ (True)))))
def zNc (x : Class) : Nat := (bkB x.Form + ((bkL bkS) x.Watch + ((bkL bkOp) x.Peek + ((bkL bkOp) x.Make + ((bkL zQb) x.Hooks + (0)))))) + 1
def zIv (x : Script) : Prop := (wfL zOS) x.Classes ∧ ((wfL wfOp) x.Main ∧ (True))
def zOY (x : Script) : Nat := ((bkL zNc) x.Classes + ((bkL bkOp) x.Main + (0))) + 1
theorem rd_4 {H : Type} {enc : TypeId × Value → H} {W : World} : Rds enc Tryz.prog W 4 cBool wfB bkB := zTv (by kernel_rfl)
theorem rd_9 {H : Type} {enc : TypeId × Value → H} {W : World} : Rds enc Tryz.prog W 9 cStr wfS bkS := zSG (by kernel_rfl)
theorem rd_40 {H : Type} {enc : TypeId × Value → H} {W : World} : Rds enc Tryz.prog W 40 (fun l : (List Bs) => [.sl 1 false (l.map cStr)]) (wfL wfS) (bkL bkS) := zIs (e := 9) (by kernel_rfl) (by kernel_rfl) (by omega) rd_9
theorem rd_3 {H : Type} {enc : TypeId × Value → H} {W : World} : Rds enc Tryz.prog W 3 zS5 (wfI .i64) bkI := zV3 (by kernel_rfl)
set_option maxRecDepth 100000 in
theorem rd_43 {H : Type} {enc : TypeId × Value → H} {W : World} : Rds enc Tryz.prog W 43 cOp wfOp bkOp :=
 zHo (n := 7) Tryz.underlying43 (by kernel_rfl) (zCs (k := 1) (by kernel_rfl) (by kernel_rfl) (fun _ => rfl) rd_3 (zCs (k := 1) (by kernel_rfl) (by kernel_rfl) (fun _ => rfl) rd_3 (zCs (k := 1) (by kernel_rfl) (by kernel_rfl) (fun _ => rfl) rd_3 (zCs (k := 1) (by kernel_rfl) (by kernel_rfl) (fun _ => rfl) rd_3 (zCs (k := 1) (by kernel_rfl) (by kernel_rfl) (fun _ => rfl) rd_9 (zCs (k := 1) (by kernel_rfl) (by kernel_rfl) (fun _ => rfl) rd_9 (zCs (k := 1) (by kernel_rfl) (by kernel_rfl) (fun _ => rfl) rd_4 (zJx)))))))) (fun p => ⟨p.1, p.2.1, p.2.2.1, p.2.2.2.1, p.2.2.2.2.1, p.2.2.2.2.2.1, p.2.2.2.2.2.2.1⟩) (fun _ => rfl) (fun _ => rfl) (fun _ h => h) (fun _ => rfl)
theorem zTt {H : Type} {enc : TypeId × Value → H} {W : World} : Rds enc Tryz.prog W 23 (fun l : (List Op) => [.sl 7 false (l.map cOp)]) (wfL wfOp) (bkL bkOp) := zIs (e := 43) (by kernel_rfl) (by kernel_rfl) (by omega) rd_43
set_option maxRecDepth 100000 in
theorem rd_54 {H : Type} {enc : TypeId × Value → H} {W : World} : Rds enc Tryz.prog W 54 zAP zSt zQb :=
 zHo (n := 2) Tryz.underlying54 (by kernel_rfl) (zCs (k := 1) (by kernel_rfl) (by kernel_rfl) (fun _ => rfl) rd_3 (zCs (k := 1) (by kernel_rfl) (by kernel_rfl) (fun _ => rfl) zTt (zJx))) (fun p => ⟨p.1, p.2.1⟩) (fun _ => rfl) (fun _ => rfl) (fun _ h => h) (fun _ => rfl)
theorem rd_49 {H : Type} {enc : TypeId × Value → H} {W : World} : Rds enc Tryz.prog W 49 (fun l : (List Hook) => [.sl 2 false (l.map zAP)]) (wfL zSt) (bkL zQb) := zIs (e := 54) (by kernel_rfl) (by kernel_rfl) (by omega) rd_54
set_option maxRecDepth 100000 in
theorem rd_51 {H : Type} {enc : TypeId × Value → H} {W : World} : Rds enc Tryz.prog W 51 zAM zOS zNc :=
 zHo (n := 5) Tryz.underlying51 (by kernel_rfl) (zCs (k := 1) (by kernel_rfl) (by kernel_rfl) (fun _ => rfl) rd_4 (zCs (k := 1) (by kernel_rfl) (by kernel_rfl) (fun _ => rfl) rd_40 (zCs (k := 1) (by kernel_rfl) (by kernel_rfl) (fun _ => rfl) zTt (zCs (k := 1) (by kernel_rfl) (by kernel_rfl) (fun _ => rfl) zTt (zCs (k := 1) (by kernel_rfl) (by kernel_rfl) (fun _ => rfl) rd_49 (zJx)))))) (fun p => ⟨p.1, p.2.1, p.2.2.1, p.2.2.2.1, p.2.2.2.2.1⟩) (fun _ => rfl) (fun _ => rfl) (fun _ h => h) (fun _ => rfl)
theorem rd_22 {H : Type} {enc : TypeId × Value → H} {W : World} : Rds enc Tryz.prog W 22 (fun l : (List Class) => [.sl 5 false (l.map zAM)]) (wfL zOS) (bkL zNc) := zIs (e := 51) (by kernel_rfl) (by kernel_rfl) (by omega) rd_51
set_option maxRecDepth 100000 in
theorem rd_25 {H : Type} {enc : TypeId × Value → H} {W : World} : Rds enc Tryz.prog W 25 zE0 zIv zOY :=
 zHo (n := 2) Tryz.underlying25 (by kernel_rfl) (zCs (k := 1) (by kernel_rfl) (by kernel_rfl) (fun _ => rfl) rd_22 (zCs (k := 1) (by kernel_rfl) (by kernel_rfl) (fun _ => rfl) zTt (zJx))) (fun p => ⟨p.1, p.2.1⟩) (fun _ => rfl) (fun _ => rfl) (fun _ h => h) (fun _ => rfl)
theorem rda_0 {H : Type} {enc : TypeId × Value → H} {W : World} : RdA enc Tryz.prog W 25 (fun x : Script => .agg (zE0 x)) zIv zOY := zQF Tryz.underlying25 rd_25
theorem rda_1 {H : Type} {enc : TypeId × Value → H} {W : World} : RdA enc Tryz.prog W 9 (fun x : Bs => .v (.string ⟨⟨x⟩⟩)) wfS bkS := zV1 (by kernel_rfl)
theorem own : ownKnob Tryz.prog.godebug = none := by kernel_rfl
theorem zVY {W : World} (h0 : laidMetH Tryz.prog Rows.scriptRightRow.laid W) : zAf W := by
 have h : laidMet Tryz.prog Rows.scriptRightRow.laid W := by rw [← MakeChecks.laidMetH_plain _ _ _ (by kernel_rfl)]; exact h0
 have e2 : Rows.laid_internal_strconv_uint64pow10 (H := Unit) = Lib.tabData .u64 Lib.pow10Tab := by kernel_rfl
 have t2 := h.tail.tail
 have e6 : Rows.laid_strings_asciiSpace (H := Unit) = Lib.tabData .u8 Lib.asciiSpaceTab := by kernel_rfl
 have t6 := h.tail.tail.tail.tail.tail.tail
 have t4 := h.tail.tail.tail.tail
 have t3 := h.tail.tail.tail
 exact ⟨Lib.tabIs_of_head (g := 5) (t := 228) (n := 20) (e := 207) (by kernel_rfl) (by kernel_rfl) (by kernel_rfl) (by kernel_rfl) (by kernel_rfl) (by kernel_rfl) (e2 ▸ t2), Lib.tabIs_of_head (g := 0) (t := 150) (n := 256) (e := 5) (by kernel_rfl) (by kernel_rfl) (by kernel_rfl) (by kernel_rfl) (by kernel_rfl) (by kernel_rfl) (e6 ▸ t6), zUj t4 (by kernel_rfl) (by kernel_rfl) Tryz.underlying122, zUj t3 (by kernel_rfl) (by kernel_rfl) Tryz.underlying122, trivial⟩
theorem zTH (os : Os) (args : Array Value) : laidMetH Tryz.prog Rows.scriptRightRow.laid ((World.doorLaid Tryz.prog 200 os).forCall (fun _ _ => 0) ⟨#[], args, []⟩).memory := by
 rw [MakeChecks.laidMetH_plain _ _ _ (by kernel_rfl)]
 exact laidMet_of_run' 8 (by kernel_rfl) (by kernel_rfl)
set_option maxRecDepth 100000 in
theorem lifted (hall : ∀ (a0 : Script) (a1 : Bs), zIv a0 → wfS a1 → ∃ fu, zBQ fu a0 a1 = some true) (os : Os) (started : os.Started) (H : Type) (enc : TypeId × Value → H) :
  ReturnsInHanded {} Tryz.checked os 3 .any (fun w args => (Rows.scriptRightSpec.pre enc Tryz.prog Tryz.f3 [] false w args ∧ laidMetH Tryz.prog Rows.scriptRightRow.laid w) ∧ sizedMet enc Tryz.prog Tryz.f3 (OpenSpec.ofChange Rows.scriptRightSpec) false w args) (Rows.scriptRightSpec.post enc Tryz.prog Tryz.f3 false true false false) := by
 refine returnsInHanded_of_change_and (C := Tryz.checked) (X := fun w _ => laidMetH Tryz.prog Rows.scriptRightRow.laid w) (fun _ _ _ hh h => h.of_heap hh) own started (by kernel_rfl) Tryz.func3
  (ChangeSpec.witness_shaped (enc := enc) (C := Tryz.checked) (os := os) (X := fun w _ => laidMetH Tryz.prog Rows.scriptRightRow.laid w) false (World.doorLaid Tryz.prog 200 os) #[.agg #[.slice none 0 0, .slice none 0 0], .string ⟨#[]⟩] 12 rfl (World.shaped_of_RefB (by kernel_rfl) (by kernel_rfl)) (by kernel_rfl) (by kernel_rfl) (by kernel_rfl) (zTH os _)) ?_
 intro W base args ds gs before hval0 hW _ _ hL _
 have hval : ∀ (j : Nat) t v, Tryz.f3.params[j]? = some t → args[j]? = some v → Value.okWide Tryz.prog W .any base t v := hval0
 have hW' := hW
 obtain ⟨p, q, hA0, hV, rfl, hfz, hnd⟩ := hW
 have hA : DataW.TrodAll enc Tryz.prog W 0 (fun _ => true) true Tryz.f3.params.toList args.toList ds p := hA0
 rw [Tryz.params3] at hA hval
 obtain ⟨v0, vs0, d0, ds0, p0, q0, hargs, rfl, rfl, h0, r0⟩ := trodAll_cons hA
 obtain ⟨v1, vs1, d1, ds1, p1, q1, rfl, rfl, rfl, h1, r1⟩ := trodAll_cons r0
 obtain ⟨rfl, rfl, rfl⟩ := trodAll_nil r1
 obtain rfl : args = #[v0, v1] := by cases args; simp_all
 obtain ⟨rfl, rfl⟩ := trodVars_none hV
 obtain ⟨a0, w0, b0, e0⟩ := rda_0 (enc := enc) base v0 d0 p0 (hval 0 25 v0 rfl rfl) h0
 obtain ⟨a1, w1, b1, e1⟩ := rda_1 (enc := enc) base v1 d1 p1 (hval 1 9 v1 rfl rfl) h1
 obtain ⟨fu, hm⟩ := hall a0 a1 w0 w1
 exact zTZ (s := Rows.scriptRightSpec) (by kernel_rfl) (t := 4) rfl Tryz.underlying4 (by kernel_rfl) rfl (zGH fu a0 a1 true hm) (fun w' hk => zP5 hk (zVY hL)) (zPR e0 (zPR e1 (zV2))) hW' rfl rfl rfl
theorem said (hall : ∀ (a0 : Script) (a1 : Bs), zIv a0 → wfS a1 → ∃ fu, zBQ fu a0 a1 = some true) : Rows.ScriptRightSaid :=
 OpenClaim.holds_of_wide 3 Tryz.f3 rfl rfl rfl rfl rfl rfl rfl ⟨rfl, rfl, rfl, rfl, rfl⟩ rfl rfl rfl rfl rfl (by kernel_rfl) Tryz.func3 (by kernel_rfl)
  (of_decide_eq_true (by kernel_rfl)) (by unfold Func.isWrapper; first | (rw [if_pos (by decide +kernel)]; kernel_rfl) | (rw [if_neg (by decide +kernel)]; exact ⟨rfl, rfl⟩))
  (fun os started H enc _ => lifted hall os started H enc)
theorem plain (f : FuncId) (fn : Func) (hf : Tryz.pinned.checked.prog.funcNamed "instar/instarlaw22.ScriptRight" = some f) (hfn : Tryz.pinned.checked.prog.funcs[f]? = some fn) :
  true = Tryz.pinned.checked.prog.looks [] ∧ ∀ (j : Nat) t, fn.params[j]? = some t → Tryz.pinned.checked.prog.wantsStandIn t = false := by
 obtain rfl : f = 3 := Option.some.inj ((show Tryz.prog.funcNamed "instar/instarlaw22.ScriptRight" = some 3 by kernel_rfl).symm.trans hf) |>.symm
 obtain rfl : fn = Tryz.f3 := (Option.some.inj (Tryz.func3.symm.trans hfn)).symm
 refine ⟨by kernel_rfl, fun j t ht => ?_⟩
 rw [Tryz.params3] at ht
 have hm : t ∈ [25, 9] := by simpa using Array.mem_of_getElem? ht
 have hall : ([25, 9].all fun u => !Tryz.prog.wantsStandIn u) = true := by kernel_rfl
 exact (show Tryz.prog.wantsStandIn t = false by simpa using List.all_eq_true.1 hall t hm)
theorem step (hall : ∀ (a0 : Script) (a1 : Bs), zIv a0 → wfS a1 → ∃ fu, zBQ fu a0 a1 = some true) : Rows.ScriptRightCardSaid :=
 Claim7.holds_tied_plain_at .later [] _ _ _ _ (said hall) (fun _ h => by cases h) (by kernel_rfl) (fun _ h => by cases h) scriptRight_row_tie rfl ⟨rfl, rfl⟩ (by kernel_rfl) rfl plain (by kernel_rfl)
end Go.Proofs.YtoboimmgglnjfaaGreatDoor.WScriptRight
