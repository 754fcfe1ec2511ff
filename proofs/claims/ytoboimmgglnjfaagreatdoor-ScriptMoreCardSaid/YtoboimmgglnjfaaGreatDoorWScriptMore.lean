/- The step from the model of 'instar/instarlaw22.ScriptMore' to the row's statement: printed by law.py. -/
import Derived.Test.YtoboimmgglnjfaaGreatDoorG
import Derived.Test.YtoboimmgglnjfaaGreatDoorRows
import Derived.Test.YtoboimmgglnjfaaGreatDoorSaid
import Derived.Test.YtoboimmgglnjfaaGreatDoorShl
import Derived.Deep.DeepHandedRow
import Derived.LaidMore
import Derived.MakeChecks
import Derived.Test.YtoboimmgglnjfaaGreatDoorCards
import Derived.Test.YtoboimmgglnjfaaGreatDoorTie
namespace Go.Proofs.YtoboimmgglnjfaaGreatDoor.WScriptMore
open Go Go.Pw Go.ChangeShapes Go.WideShapes Go.ChangeAt Go.RowKit
set_option linter.unusedVariables false
def wfOp (x : Op) : Prop := (wfI .i64) x.Kind ∧ ((wfI .i64) x.A ∧ ((wfI .i64) x.B ∧ ((wfI .i64) x.C ∧ (wfS x.S ∧ (wfS x.T ∧ (wfB x.Must ∧ (True)))))))
def bkOp (x : Op) : Nat := (bkI x.Kind + (bkI x.A + (bkI x.B + (bkI x.C + (bkS x.S + (bkS x.T + (bkB x.Must + (0)))))))) + 1
def zPW (x : Hook) : Prop := (wfI .i64) x.Kind ∧ ((wfL wfOp) x.Do ∧ (True))
def zNY (x : Hook) : Nat := (bkI x.Kind + ((bkL bkOp) x.Do + (0))) + 1
def zGG (x : Class) : Prop := wfB x.Form ∧ ((wfL wfS) x.Watch ∧ ((wfL wfOp) x.Peek ∧ ((wfL wfOp) x.Make ∧ ((wfL zPW) x.Hooks ∧ (True)))))
def zJA (x : Class) : Nat := (bkB x.Form + ((bkL bkS) x.Watch + ((bkL bkOp) x.Peek + ((bkL bkOp) x.Make + ((bkL zNY) x.Hooks + (0)))))) + 1
def zGl (x : Script) : Prop := (wfL zGG) x.Classes ∧ ((wfL wfOp) x.Main ∧ (True))
def zLz (x : Script) : Nat := ((bkL zJA) x.Classes + ((bkL bkOp) x.Main + (0))) + 1
theorem rd_4 {H : Type} {enc : TypeId × Value → H} {W : World} : Rds enc Tryz.prog W 4 cBool wfB bkB := zQN (by kernel_rfl)
theorem rd_9 {H : Type} {enc : TypeId × Value → H} {W : World} : Rds enc Tryz.prog W 9 cStr wfS bkS := zSP (by kernel_rfl)
theorem rd_40 {H : Type} {enc : TypeId × Value → H} {W : World} : Rds enc Tryz.prog W 40 (fun l : (List Bs) => [.sl 1 false (l.map cStr)]) (wfL wfS) (bkL bkS) := zGi (e := 9) (by kernel_rfl) (by kernel_rfl) (by omega) rd_9
theorem rd_3 {H : Type} {enc : TypeId × Value → H} {W : World} : Rds enc Tryz.prog W 3 zPg (wfI .i64) bkI := zSO (by kernel_rfl)
set_option maxRecDepth 100000 in
theorem rd_43 {H : Type} {enc : TypeId × Value → H} {W : World} : Rds enc Tryz.prog W 43 cOp wfOp bkOp :=
 zFm (n := 7) Tryz.underlying43 (by kernel_rfl) (zBv (k := 1) (by kernel_rfl) (by kernel_rfl) (fun _ => rfl) rd_3 (zBv (k := 1) (by kernel_rfl) (by kernel_rfl) (fun _ => rfl) rd_3 (zBv (k := 1) (by kernel_rfl) (by kernel_rfl) (fun _ => rfl) rd_3 (zBv (k := 1) (by kernel_rfl) (by kernel_rfl) (fun _ => rfl) rd_3 (zBv (k := 1) (by kernel_rfl) (by kernel_rfl) (fun _ => rfl) rd_9 (zBv (k := 1) (by kernel_rfl) (by kernel_rfl) (fun _ => rfl) rd_9 (zBv (k := 1) (by kernel_rfl) (by kernel_rfl) (fun _ => rfl) rd_4 (zHh)))))))) (fun p => ⟨p.1, p.2.1, p.2.2.1, p.2.2.2.1, p.2.2.2.2.1, p.2.2.2.2.2.1, p.2.2.2.2.2.2.1⟩) (fun _ => rfl) (fun _ => rfl) (fun _ h => h) (fun _ => rfl)
theorem zPA {H : Type} {enc : TypeId × Value → H} {W : World} : Rds enc Tryz.prog W 23 (fun l : (List Op) => [.sl 7 false (l.map cOp)]) (wfL wfOp) (bkL bkOp) := zGi (e := 43) (by kernel_rfl) (by kernel_rfl) (by omega) rd_43
set_option maxRecDepth 100000 in
theorem rd_54 {H : Type} {enc : TypeId × Value → H} {W : World} : Rds enc Tryz.prog W 54 zAU zPW zNY :=
 zFm (n := 2) Tryz.underlying54 (by kernel_rfl) (zBv (k := 1) (by kernel_rfl) (by kernel_rfl) (fun _ => rfl) rd_3 (zBv (k := 1) (by kernel_rfl) (by kernel_rfl) (fun _ => rfl) zPA (zHh))) (fun p => ⟨p.1, p.2.1⟩) (fun _ => rfl) (fun _ => rfl) (fun _ h => h) (fun _ => rfl)
theorem rd_49 {H : Type} {enc : TypeId × Value → H} {W : World} : Rds enc Tryz.prog W 49 (fun l : (List Hook) => [.sl 2 false (l.map zAU)]) (wfL zPW) (bkL zNY) := zGi (e := 54) (by kernel_rfl) (by kernel_rfl) (by omega) rd_54
set_option maxRecDepth 100000 in
theorem rd_51 {H : Type} {enc : TypeId × Value → H} {W : World} : Rds enc Tryz.prog W 51 zAF zGG zJA :=
 zFm (n := 5) Tryz.underlying51 (by kernel_rfl) (zBv (k := 1) (by kernel_rfl) (by kernel_rfl) (fun _ => rfl) rd_4 (zBv (k := 1) (by kernel_rfl) (by kernel_rfl) (fun _ => rfl) rd_40 (zBv (k := 1) (by kernel_rfl) (by kernel_rfl) (fun _ => rfl) zPA (zBv (k := 1) (by kernel_rfl) (by kernel_rfl) (fun _ => rfl) zPA (zBv (k := 1) (by kernel_rfl) (by kernel_rfl) (fun _ => rfl) rd_49 (zHh)))))) (fun p => ⟨p.1, p.2.1, p.2.2.1, p.2.2.2.1, p.2.2.2.2.1⟩) (fun _ => rfl) (fun _ => rfl) (fun _ h => h) (fun _ => rfl)
theorem rd_22 {H : Type} {enc : TypeId × Value → H} {W : World} : Rds enc Tryz.prog W 22 (fun l : (List Class) => [.sl 5 false (l.map zAF)]) (wfL zGG) (bkL zJA) := zGi (e := 51) (by kernel_rfl) (by kernel_rfl) (by omega) rd_51
set_option maxRecDepth 100000 in
theorem rd_25 {H : Type} {enc : TypeId × Value → H} {W : World} : Rds enc Tryz.prog W 25 zCs zGl zLz :=
 zFm (n := 2) Tryz.underlying25 (by kernel_rfl) (zBv (k := 1) (by kernel_rfl) (by kernel_rfl) (fun _ => rfl) rd_22 (zBv (k := 1) (by kernel_rfl) (by kernel_rfl) (fun _ => rfl) zPA (zHh))) (fun p => ⟨p.1, p.2.1⟩) (fun _ => rfl) (fun _ => rfl) (fun _ h => h) (fun _ => rfl)
theorem rda_0 {H : Type} {enc : TypeId × Value → H} {W : World} : RdA enc Tryz.prog W 25 (fun x : Script => .agg (zCs x)) zGl zLz := zIu Tryz.underlying25 rd_25
theorem rda_1 {H : Type} {enc : TypeId × Value → H} {W : World} : RdA enc Tryz.prog W 23 (fun x : (List Op) => .sl 7 false (x.map cOp)) (wfL wfOp) (bkL bkOp) := zO9 (e := 43) (by kernel_rfl) zPA
theorem rda_2 {H : Type} {enc : TypeId × Value → H} {W : World} : RdA enc Tryz.prog W 51 (fun x : Class => .agg (zAF x)) zGG zJA := zIu Tryz.underlying51 rd_51
theorem own : ownKnob Tryz.prog.godebug = none := by kernel_rfl
theorem zRt {W : World} (h0 : laidMetH Tryz.prog Rows.scriptMoreRow.laid W) : zAa W := by
 have h : laidMet Tryz.prog Rows.scriptMoreRow.laid W := by rw [← MakeChecks.laidMetH_plain _ _ _ (by kernel_rfl)]; exact h0
 have e2 : Rows.laid_internal_strconv_uint64pow10 (H := Unit) = Lib.tabData .u64 Lib.pow10Tab := by kernel_rfl
 have t2 := h.tail.tail
 have e6 : Rows.laid_strings_asciiSpace (H := Unit) = Lib.tabData .u8 Lib.asciiSpaceTab := by kernel_rfl
 have t6 := h.tail.tail.tail.tail.tail.tail
 have t4 := h.tail.tail.tail.tail
 have t3 := h.tail.tail.tail
 exact ⟨Lib.tabIs_of_head (g := 5) (t := 228) (n := 20) (e := 207) (by kernel_rfl) (by kernel_rfl) (by kernel_rfl) (by kernel_rfl) (by kernel_rfl) (by kernel_rfl) (e2 ▸ t2), Lib.tabIs_of_head (g := 0) (t := 150) (n := 256) (e := 5) (by kernel_rfl) (by kernel_rfl) (by kernel_rfl) (by kernel_rfl) (by kernel_rfl) (by kernel_rfl) (e6 ▸ t6), zQz t4 (by kernel_rfl) (by kernel_rfl) Tryz.underlying122, zQz t3 (by kernel_rfl) (by kernel_rfl) Tryz.underlying122, trivial⟩
theorem zPq (os : Os) (args : Array Value) : laidMetH Tryz.prog Rows.scriptMoreRow.laid ((World.doorLaid Tryz.prog 200 os).forCall (fun _ _ => 0) ⟨#[], args, []⟩).memory := by
 rw [MakeChecks.laidMetH_plain _ _ _ (by kernel_rfl)]
 exact laidMet_of_run' 8 (by kernel_rfl) (by kernel_rfl)
set_option maxRecDepth 100000 in
theorem lifted (hall : ∀ (a0 : Script) (a1 : (List Op)) (a2 : Class), zGl a0 → (wfL wfOp) a1 → zGG a2 → ∃ fu, zA3 fu a0 a1 a2 = some true) (os : Os) (started : os.Started) (H : Type) (enc : TypeId × Value → H) :
  ReturnsInHanded {} Tryz.checked os 8 .any (fun w args => (Rows.scriptMoreSpec.pre enc Tryz.prog Tryz.f8 [] false w args ∧ laidMetH Tryz.prog Rows.scriptMoreRow.laid w) ∧ sizedMet enc Tryz.prog Tryz.f8 (OpenSpec.ofChange Rows.scriptMoreSpec) false w args) (Rows.scriptMoreSpec.post enc Tryz.prog Tryz.f8 false true false false) := by
 refine returnsInHanded_of_change_and (C := Tryz.checked) (X := fun w _ => laidMetH Tryz.prog Rows.scriptMoreRow.laid w) (fun _ _ _ hh h => h.of_heap hh) own started (by kernel_rfl) Tryz.func8
  (ChangeSpec.witness_shaped (enc := enc) (C := Tryz.checked) (os := os) (X := fun w _ => laidMetH Tryz.prog Rows.scriptMoreRow.laid w) false (World.doorLaid Tryz.prog 200 os) #[.agg #[.slice none 0 0, .slice none 0 0], .slice none 0 0, .agg #[.bool false, .slice none 0 0, .slice none 0 0, .slice none 0 0, .slice none 0 0]] 12 rfl (World.shaped_of_RefB (by kernel_rfl) (by kernel_rfl)) (by kernel_rfl) (by kernel_rfl) (by kernel_rfl) (zPq os _)) ?_
 intro W base args ds gs before hval0 hW _ _ hL _
 have hval : ∀ (j : Nat) t v, Tryz.f8.params[j]? = some t → args[j]? = some v → Value.okWide Tryz.prog W .any base t v := hval0
 have hW' := hW
 obtain ⟨p, q, hA0, hV, rfl, hfz, hnd⟩ := hW
 have hA : DataW.TrodAll enc Tryz.prog W 0 (fun _ => true) true Tryz.f8.params.toList args.toList ds p := hA0
 rw [Tryz.params8] at hA hval
 obtain ⟨v0, vs0, d0, ds0, p0, q0, hargs, rfl, rfl, h0, r0⟩ := trodAll_cons hA
 obtain ⟨v1, vs1, d1, ds1, p1, q1, rfl, rfl, rfl, h1, r1⟩ := trodAll_cons r0
 obtain ⟨v2, vs2, d2, ds2, p2, q2, rfl, rfl, rfl, h2, r2⟩ := trodAll_cons r1
 obtain ⟨rfl, rfl, rfl⟩ := trodAll_nil r2
 obtain rfl : args = #[v0, v1, v2] := by cases args; simp_all
 obtain ⟨rfl, rfl⟩ := trodVars_none hV
 obtain ⟨a0, w0, b0, e0⟩ := rda_0 (enc := enc) base v0 d0 p0 (hval 0 25 v0 rfl rfl) h0
 obtain ⟨a1, w1, b1, e1⟩ := rda_1 (enc := enc) base v1 d1 p1 (hval 1 23 v1 rfl rfl) h1
 obtain ⟨a2, w2, b2, e2⟩ := rda_2 (enc := enc) base v2 d2 p2 (hval 2 51 v2 rfl rfl) h2
 obtain ⟨fu, hm⟩ := hall a0 a1 a2 w0 w1 w2
 exact zP5 (s := Rows.scriptMoreSpec) (by kernel_rfl) (t := 4) rfl Tryz.underlying4 (by kernel_rfl) rfl (zET fu a0 a1 a2 true hm) (fun w' hk => zM9 hk (zRt hL)) (zJh e0 (zJh e1 (zJh e2 (zSN)))) hW' rfl rfl rfl
theorem said (hall : ∀ (a0 : Script) (a1 : (List Op)) (a2 : Class), zGl a0 → (wfL wfOp) a1 → zGG a2 → ∃ fu, zA3 fu a0 a1 a2 = some true) : Rows.ScriptMoreSaid :=
 OpenClaim.holds_of_wide 8 Tryz.f8 rfl rfl rfl rfl rfl rfl rfl ⟨rfl, rfl, rfl, rfl, rfl⟩ rfl rfl rfl rfl rfl (by kernel_rfl) Tryz.func8 (by kernel_rfl)
  (of_decide_eq_true (by kernel_rfl)) (by unfold Func.isWrapper; first | (rw [if_pos (by decide +kernel)]; kernel_rfl) | (rw [if_neg (by decide +kernel)]; exact ⟨rfl, rfl⟩))
  (fun os started H enc _ => lifted hall os started H enc)
theorem plain (f : FuncId) (fn : Func) (hf : Tryz.pinned.checked.prog.funcNamed "instar/instarlaw22.ScriptMore" = some f) (hfn : Tryz.pinned.checked.prog.funcs[f]? = some fn) :
  true = Tryz.pinned.checked.prog.looks [] ∧ ∀ (j : Nat) t, fn.params[j]? = some t → Tryz.pinned.checked.prog.wantsStandIn t = false := by
 obtain rfl : f = 8 := Option.some.inj ((show Tryz.prog.funcNamed "instar/instarlaw22.ScriptMore" = some 8 by kernel_rfl).symm.trans hf) |>.symm
 obtain rfl : fn = Tryz.f8 := (Option.some.inj (Tryz.func8.symm.trans hfn)).symm
 refine ⟨by kernel_rfl, fun j t ht => ?_⟩
 rw [Tryz.params8] at ht
 have hm : t ∈ [25, 23, 51] := by simpa using Array.mem_of_getElem? ht
 have hall : ([25, 23, 51].all fun u => !Tryz.prog.wantsStandIn u) = true := by kernel_rfl
 exact (show Tryz.prog.wantsStandIn t = false by simpa using List.all_eq_true.1 hall t hm)
theorem step (hall : ∀ (a0 : Script) (a1 : (List Op)) (a2 : Class), zGl a0 → (wfL wfOp) a1 → zGG a2 → ∃ fu, zA3 fu a0 a1 a2 = some true) : Rows.ScriptMoreCardSaid :=
 Claim7.holds_tied_plain_at .later [] _ _ _ _ (said hall) (fun _ h => by cases h) (by kernel_rfl) (fun _ h => by cases h) scriptMore_row_tie rfl ⟨rfl, rfl⟩ (by kernel_rfl) rfl plain (by kernel_rfl)
end Go.Proofs.YtoboimmgglnjfaaGreatDoor.WScriptMore
