/- The step from the model of 'instar/instarlaw24.TaleRight' to the row's statement: printed by law.py. -/
import Derived.Test.YtoakfflcpcdbeaaDoorG
import Derived.Test.YtoakfflcpcdbeaaDoorRows
import Derived.Test.YtoakfflcpcdbeaaDoorSaid
import Derived.Test.YtoakfflcpcdbeaaDoorShl
import Derived.Deep.DeepHandedRow
import Derived.LaidMore
import Derived.MakeChecks
import Derived.Test.YtoakfflcpcdbeaaDoorCards
import Derived.Test.YtoakfflcpcdbeaaDoorTie
namespace Go.Proofs.YtoakfflcpcdbeaaDoor.WTaleRight
open Go Go.Pw Go.ChangeShapes Go.WideShapes Go.ChangeAt Go.RowKit
set_option linter.unusedVariables false

def wfMark (x : Mark) : Prop := (wfI .i64) x.Kind ∧ ((wfI .i64) x.Depth ∧ ((wfI .i64) x.Node ∧ ((wfI .i64) x.What ∧ ((wfI .i64) x.Err ∧ (wfS x.Name ∧ (wfB x.Had ∧ (wfB x.Has ∧ (wfS x.Old ∧ (wfS x.New ∧ ((wfI .i64) x.From ∧ ((wfI .i64) x.To ∧ (wfB x.On ∧ (True)))))))))))))
def bkMark (x : Mark) : Nat := (bkI x.Kind + (bkI x.Depth + (bkI x.Node + (bkI x.What + (bkI x.Err + (bkS x.Name + (bkB x.Had + (bkB x.Has + (bkS x.Old + (bkS x.New + (bkI x.From + (bkI x.To + (bkB x.On + (0)))))))))))))) + 1
theorem rd_3 {H : Type} {enc : TypeId × Value → H} {W : World} : Rds enc Tryd.prog W 3 cInt_i64 (wfI .i64) bkI := rds_int (by kernel_rfl)
theorem rd_25 {H : Type} {enc : TypeId × Value → H} {W : World} : Rds enc Tryd.prog W 25 cInt_i64 (wfI .i64) bkI := rds_int (by kernel_rfl)
theorem rd_9 {H : Type} {enc : TypeId × Value → H} {W : World} : Rds enc Tryd.prog W 9 cStr wfS bkS := rds_str (by kernel_rfl)
theorem rd_4 {H : Type} {enc : TypeId × Value → H} {W : World} : Rds enc Tryd.prog W 4 cBool wfB bkB := rds_bool (by kernel_rfl)
set_option maxRecDepth 100000 in
theorem rd_29 {H : Type} {enc : TypeId × Value → H} {W : World} : Rds enc Tryd.prog W 29 cMark wfMark bkMark :=
  rds_struct (n := 13) Tryd.underlying29 (by kernel_rfl) (rdsF_cons (k := 1) (by kernel_rfl) (by kernel_rfl) (fun _ => rfl) rd_3 (rdsF_cons (k := 1) (by kernel_rfl) (by kernel_rfl) (fun _ => rfl) rd_3 (rdsF_cons (k := 1) (by kernel_rfl) (by kernel_rfl) (fun _ => rfl) rd_3 (rdsF_cons (k := 1) (by kernel_rfl) (by kernel_rfl) (fun _ => rfl) rd_3 (rdsF_cons (k := 1) (by kernel_rfl) (by kernel_rfl) (fun _ => rfl) rd_25 (rdsF_cons (k := 1) (by kernel_rfl) (by kernel_rfl) (fun _ => rfl) rd_9 (rdsF_cons (k := 1) (by kernel_rfl) (by kernel_rfl) (fun _ => rfl) rd_4 (rdsF_cons (k := 1) (by kernel_rfl) (by kernel_rfl) (fun _ => rfl) rd_4 (rdsF_cons (k := 1) (by kernel_rfl) (by kernel_rfl) (fun _ => rfl) rd_9 (rdsF_cons (k := 1) (by kernel_rfl) (by kernel_rfl) (fun _ => rfl) rd_9 (rdsF_cons (k := 1) (by kernel_rfl) (by kernel_rfl) (fun _ => rfl) rd_3 (rdsF_cons (k := 1) (by kernel_rfl) (by kernel_rfl) (fun _ => rfl) rd_3 (rdsF_cons (k := 1) (by kernel_rfl) (by kernel_rfl) (fun _ => rfl) rd_4 (rdsF_nil)))))))))))))) (fun p => ⟨p.1, p.2.1, p.2.2.1, p.2.2.2.1, p.2.2.2.2.1, p.2.2.2.2.2.1, p.2.2.2.2.2.2.1, p.2.2.2.2.2.2.2.1, p.2.2.2.2.2.2.2.2.1, p.2.2.2.2.2.2.2.2.2.1, p.2.2.2.2.2.2.2.2.2.2.1, p.2.2.2.2.2.2.2.2.2.2.2.1, p.2.2.2.2.2.2.2.2.2.2.2.2.1⟩) (fun _ => rfl) (fun _ => rfl) (fun _ h => h) (fun _ => rfl)
theorem rd_22 {H : Type} {enc : TypeId × Value → H} {W : World} : Rds enc Tryd.prog W 22 (fun l : (List Mark) => [.sl 13 false (l.map cMark)]) (wfL wfMark) (bkL bkMark) := rds_slice (e := 29) (by kernel_rfl) (by kernel_rfl) (by omega) rd_29
theorem rda_0 {H : Type} {enc : TypeId × Value → H} {W : World} : RdA enc Tryd.prog W 22 (fun x : (List Mark) => .sl 13 false (x.map cMark)) (wfL wfMark) (bkL bkMark) := rdA_slice (e := 29) (by kernel_rfl) rd_22
theorem rda_1 {H : Type} {enc : TypeId × Value → H} {W : World} : RdA enc Tryd.prog W 9 (fun x : Bs => .v (.string ⟨⟨x⟩⟩)) wfS bkS := rdA_str (by kernel_rfl)

theorem own : ownKnob Tryd.prog.godebug = none := by kernel_rfl
theorem laid_of {W : World} (h0 : laidMetH Tryd.prog Rows.taleRightRow.laid W) : laidL W := by
  have h : laidMet Tryd.prog Rows.taleRightRow.laid W := by rw [← MakeChecks.laidMetH_plain _ _ _ (by kernel_rfl)]; exact h0
  have e2 : Rows.laid_internal_strconv_uint64pow10 (H := Unit) = Lib.tabData .u64 Lib.pow10Tab := by kernel_rfl
  have t2 := h.tail.tail
  have e6 : Rows.laid_strings_asciiSpace (H := Unit) = Lib.tabData .u8 Lib.asciiSpaceTab := by kernel_rfl
  have t6 := h.tail.tail.tail.tail.tail.tail
  have t4 := h.tail.tail.tail.tail
  have t3 := h.tail.tail.tail
  exact ⟨Lib.tabIs_of_head (g := 3) (t := 136) (n := 20) (e := 77) (by kernel_rfl) (by kernel_rfl) (by kernel_rfl) (by kernel_rfl) (by kernel_rfl) (by kernel_rfl) (e2 ▸ t2), Lib.tabIs_of_head (g := 0) (t := 93) (n := 256) (e := 5) (by kernel_rfl) (by kernel_rfl) (by kernel_rfl) (by kernel_rfl) (by kernel_rfl) (by kernel_rfl) (e6 ▸ t6), err_of t4 (by kernel_rfl) (by kernel_rfl) Tryd.underlying47, err_of t3 (by kernel_rfl) (by kernel_rfl) Tryd.underlying47, trivial⟩
theorem door_met (os : Os) (args : Array Value) : laidMetH Tryd.prog Rows.taleRightRow.laid ((World.doorLaid Tryd.prog 200 os).forCall (fun _ _ => 0) ⟨#[], args, []⟩).memory := by
  rw [MakeChecks.laidMetH_plain _ _ _ (by kernel_rfl)]
  exact laidMet_of_run' 8 (by kernel_rfl) (by kernel_rfl)
set_option maxRecDepth 100000 in
theorem lifted (hall : ∀ (a0 : (List Mark)) (a1 : Bs), (wfL wfMark) a0 → wfS a1 → ∃ fu, Instarlaw24_TaleRight_m fu a0 a1 = some true) (os : Os) (started : os.Started) (H : Type) (enc : TypeId × Value → H) :
    ReturnsInHanded {} Tryd.checked os 3 .any (fun w args => (Rows.taleRightSpec.pre enc Tryd.prog Tryd.f3 [] false w args ∧ laidMetH Tryd.prog Rows.taleRightRow.laid w) ∧ sizedMet enc Tryd.prog Tryd.f3 (OpenSpec.ofChange Rows.taleRightSpec) false w args) (Rows.taleRightSpec.post enc Tryd.prog Tryd.f3 false true false false) := by
  refine returnsInHanded_of_change_and (C := Tryd.checked) (X := fun w _ => laidMetH Tryd.prog Rows.taleRightRow.laid w) (fun _ _ _ hh h => h.of_heap hh) own started (by kernel_rfl) Tryd.func3
    (ChangeSpec.witness_shaped (enc := enc) (C := Tryd.checked) (os := os) (X := fun w _ => laidMetH Tryd.prog Rows.taleRightRow.laid w) false (World.doorLaid Tryd.prog 200 os) #[.slice none 0 0, .string ⟨#[]⟩] 12 rfl (World.shaped_of_RefB (by kernel_rfl) (by kernel_rfl)) (by kernel_rfl) (by kernel_rfl) (by kernel_rfl) (door_met os _)) ?_
  intro W base args ds gs before hval0 hW _ _ hL _
  have hval : ∀ (j : Nat) t v, Tryd.f3.params[j]? = some t → args[j]? = some v → Value.okWide Tryd.prog W .any base t v := hval0
  have hW' := hW
  obtain ⟨p, q, hA0, hV, rfl, hfz, hnd⟩ := hW
  have hA : DataW.TrodAll enc Tryd.prog W 0 (fun _ => true) true Tryd.f3.params.toList args.toList ds p := hA0
  rw [Tryd.params3] at hA hval
  obtain ⟨v0, vs0, d0, ds0, p0, q0, hargs, rfl, rfl, h0, r0⟩ := trodAll_cons hA
  obtain ⟨v1, vs1, d1, ds1, p1, q1, rfl, rfl, rfl, h1, r1⟩ := trodAll_cons r0
  obtain ⟨rfl, rfl, rfl⟩ := trodAll_nil r1
  obtain rfl : args = #[v0, v1] := by cases args; simp_all
  obtain ⟨rfl, rfl⟩ := trodVars_none hV
  obtain ⟨a0, w0, b0, e0⟩ := rda_0 (enc := enc) base v0 d0 p0 (hval 0 22 v0 rfl rfl) h0
  obtain ⟨a1, w1, b1, e1⟩ := rda_1 (enc := enc) base v1 d1 p1 (hval 1 9 v1 rfl rfl) h1
  obtain ⟨fu, hm⟩ := hall a0 a1 w0 w1
  exact law_post (s := Rows.taleRightSpec) (by kernel_rfl) (t := 4) rfl Tryd.underlying4 (by kernel_rfl) rfl (Instarlaw24_TaleRight_ok fu a0 a1 true hm) (fun w' hk => laidL_keep hk (laid_of hL)) (rdl_cons e0 (rdl_cons e1 (rdl_nil))) hW' rfl rfl rfl

theorem said (hall : ∀ (a0 : (List Mark)) (a1 : Bs), (wfL wfMark) a0 → wfS a1 → ∃ fu, Instarlaw24_TaleRight_m fu a0 a1 = some true) : Rows.TaleRightSaid :=
  OpenClaim.holds_of_wide 3 Tryd.f3 rfl rfl rfl rfl rfl rfl rfl ⟨rfl, rfl, rfl, rfl, rfl⟩ rfl rfl rfl rfl rfl (by kernel_rfl) Tryd.func3 (by kernel_rfl)
    (of_decide_eq_true (by kernel_rfl)) (by unfold Func.isWrapper; first | (rw [if_pos (by decide +kernel)]; kernel_rfl) | (rw [if_neg (by decide +kernel)]; exact ⟨rfl, rfl⟩))
    (fun os started H enc _ => lifted hall os started H enc)
theorem plain (f : FuncId) (fn : Func) (hf : Tryd.pinned.checked.prog.funcNamed "instar/instarlaw24.TaleRight" = some f) (hfn : Tryd.pinned.checked.prog.funcs[f]? = some fn) :
    true = Tryd.pinned.checked.prog.looks [] ∧ ∀ (j : Nat) t, fn.params[j]? = some t → Tryd.pinned.checked.prog.wantsStandIn t = false := by
  obtain rfl : f = 3 := Option.some.inj ((show Tryd.prog.funcNamed "instar/instarlaw24.TaleRight" = some 3 by kernel_rfl).symm.trans hf) |>.symm
  obtain rfl : fn = Tryd.f3 := (Option.some.inj (Tryd.func3.symm.trans hfn)).symm
  refine ⟨by kernel_rfl, fun j t ht => ?_⟩
  rw [Tryd.params3] at ht
  have hm : t ∈ [22, 9] := by simpa using Array.mem_of_getElem? ht
  have hall : ([22, 9].all fun u => !Tryd.prog.wantsStandIn u) = true := by kernel_rfl
  exact (show Tryd.prog.wantsStandIn t = false by simpa using List.all_eq_true.1 hall t hm)
theorem step (hall : ∀ (a0 : (List Mark)) (a1 : Bs), (wfL wfMark) a0 → wfS a1 → ∃ fu, Instarlaw24_TaleRight_m fu a0 a1 = some true) : Rows.TaleRightCardSaid :=
  Claim7.holds_tied_plain_at .later [] _ _ _ _ (said hall) (fun _ h => by cases h) (by kernel_rfl) (fun _ h => by cases h) taleRight_row_tie rfl ⟨rfl, rfl⟩ (by kernel_rfl) rfl plain (by kernel_rfl)
end Go.Proofs.YtoakfflcpcdbeaaDoor.WTaleRight
