/- The step from the model of 'instar/instarlaw08.PrintBack' to the row's statement: printed by law.py. -/
import Derived.Test.YtkngnghbnhgfjaaGreatG
import Derived.Test.YtkngnghbnhgfjaaGreatRows
import Derived.Test.YtkngnghbnhgfjaaGreatSaid
namespace Go.Proofs.YtkngnghbnhgfjaaGreat.WPrintBack
open Go Go.Pw Go.ChangeShapes Go.WideShapes Go.ChangeAt Go.RowKit
set_option linter.unusedVariables false

def wfAttr (x : Attr) : Prop := wfS x.Name ∧ (wfS x.Value ∧ (True))
def bkAttr (x : Attr) : Nat := (bkS x.Name + (bkS x.Value + (0))) + 1
def wfNode (x : Node) : Prop := (wfI .i64) x.Kind ∧ (wfS x.Name ∧ (wfS x.Is ∧ (wfS x.Data ∧ ((wfL wfAttr) x.Attrs ∧ ((wfI .i64) x.Parent ∧ ((wfL (wfI .i64)) x.Kids ∧ ((wfI .i64) x.Host ∧ ((wfI .i64) x.Under ∧ ((wfI .i64) x.Doc ∧ (True))))))))))
def bkNode (x : Node) : Nat := (bkI x.Kind + (bkS x.Name + (bkS x.Is + (bkS x.Data + ((bkL bkAttr) x.Attrs + (bkI x.Parent + ((bkL bkI) x.Kids + (bkI x.Host + (bkI x.Under + (bkI x.Doc + (0))))))))))) + 1
def wfForest (x : Forest) : Prop := (wfL wfNode) x.Nodes ∧ ((wfI .i64) x.Most ∧ (True))
def bkForest (x : Forest) : Nat := ((bkL bkNode) x.Nodes + (bkI x.Most + (0))) + 1
theorem rd_3 {H : Type} {enc : TypeId × Value → H} {W : World} : Rds enc Tryz.prog W 3 cInt_i64 (wfI .i64) bkI := rds_int (by kernel_rfl)
theorem rd_9 {H : Type} {enc : TypeId × Value → H} {W : World} : Rds enc Tryz.prog W 9 cStr wfS bkS := rds_str (by kernel_rfl)
set_option maxRecDepth 100000 in
theorem rd_42 {H : Type} {enc : TypeId × Value → H} {W : World} : Rds enc Tryz.prog W 42 cAttr wfAttr bkAttr :=
  rds_struct (n := 2) Tryz.underlying42 (by kernel_rfl) (rdsF_cons (k := 1) (by kernel_rfl) (by kernel_rfl) (fun _ => rfl) rd_9 (rdsF_cons (k := 1) (by kernel_rfl) (by kernel_rfl) (fun _ => rfl) rd_9 (rdsF_nil))) (fun p => ⟨p.1, p.2.1⟩) (fun _ => rfl) (fun _ => rfl) (fun _ h => h) (fun _ => rfl)
theorem rd_34 {H : Type} {enc : TypeId × Value → H} {W : World} : Rds enc Tryz.prog W 34 (fun l : (List Attr) => [.sl 2 false (l.map cAttr)]) (wfL wfAttr) (bkL bkAttr) := rds_slice (e := 42) (by kernel_rfl) (by kernel_rfl) (by omega) rd_42
theorem rd_35 {H : Type} {enc : TypeId × Value → H} {W : World} : Rds enc Tryz.prog W 35 (fun l : (List Int) => [.sl 1 false (l.map cInt_i64)]) (wfL (wfI .i64)) (bkL bkI) := rds_slice (e := 3) (by kernel_rfl) (by kernel_rfl) (by omega) rd_3
set_option maxRecDepth 100000 in
theorem rd_37 {H : Type} {enc : TypeId × Value → H} {W : World} : Rds enc Tryz.prog W 37 cNode wfNode bkNode :=
  rds_struct (n := 10) Tryz.underlying37 (by kernel_rfl) (rdsF_cons (k := 1) (by kernel_rfl) (by kernel_rfl) (fun _ => rfl) rd_3 (rdsF_cons (k := 1) (by kernel_rfl) (by kernel_rfl) (fun _ => rfl) rd_9 (rdsF_cons (k := 1) (by kernel_rfl) (by kernel_rfl) (fun _ => rfl) rd_9 (rdsF_cons (k := 1) (by kernel_rfl) (by kernel_rfl) (fun _ => rfl) rd_9 (rdsF_cons (k := 1) (by kernel_rfl) (by kernel_rfl) (fun _ => rfl) rd_34 (rdsF_cons (k := 1) (by kernel_rfl) (by kernel_rfl) (fun _ => rfl) rd_3 (rdsF_cons (k := 1) (by kernel_rfl) (by kernel_rfl) (fun _ => rfl) rd_35 (rdsF_cons (k := 1) (by kernel_rfl) (by kernel_rfl) (fun _ => rfl) rd_3 (rdsF_cons (k := 1) (by kernel_rfl) (by kernel_rfl) (fun _ => rfl) rd_3 (rdsF_cons (k := 1) (by kernel_rfl) (by kernel_rfl) (fun _ => rfl) rd_3 (rdsF_nil))))))))))) (fun p => ⟨p.1, p.2.1, p.2.2.1, p.2.2.2.1, p.2.2.2.2.1, p.2.2.2.2.2.1, p.2.2.2.2.2.2.1, p.2.2.2.2.2.2.2.1, p.2.2.2.2.2.2.2.2.1, p.2.2.2.2.2.2.2.2.2.1⟩) (fun _ => rfl) (fun _ => rfl) (fun _ h => h) (fun _ => rfl)
theorem rd_22 {H : Type} {enc : TypeId × Value → H} {W : World} : Rds enc Tryz.prog W 22 (fun l : (List Node) => [.sl 10 false (l.map cNode)]) (wfL wfNode) (bkL bkNode) := rds_slice (e := 37) (by kernel_rfl) (by kernel_rfl) (by omega) rd_37
set_option maxRecDepth 100000 in
theorem rd_24 {H : Type} {enc : TypeId × Value → H} {W : World} : Rds enc Tryz.prog W 24 cForest wfForest bkForest :=
  rds_struct (n := 2) Tryz.underlying24 (by kernel_rfl) (rdsF_cons (k := 1) (by kernel_rfl) (by kernel_rfl) (fun _ => rfl) rd_22 (rdsF_cons (k := 1) (by kernel_rfl) (by kernel_rfl) (fun _ => rfl) rd_3 (rdsF_nil))) (fun p => ⟨p.1, p.2.1⟩) (fun _ => rfl) (fun _ => rfl) (fun _ h => h) (fun _ => rfl)
theorem rda_0 {H : Type} {enc : TypeId × Value → H} {W : World} : RdA enc Tryz.prog W 24 (fun x : Forest => .agg (cForest x)) wfForest bkForest := rdA_struct Tryz.underlying24 rd_24
theorem rda_1 {H : Type} {enc : TypeId × Value → H} {W : World} : RdA enc Tryz.prog W 5 (fun x : Int => .v (.int .u8 x)) (wfI .u8) bkI := rdA_int (by kernel_rfl)

theorem own : ownKnob Tryz.prog.godebug = none := by kernel_rfl
set_option maxRecDepth 100000 in
theorem lifted (hall : ∀ (a0 : Forest) (a1 : Int), wfForest a0 → (wfI .u8) a1 → ∃ fu, Instarlaw08_PrintBack_m fu a0 a1 = some true) (os : Os) (started : os.Started) (H : Type) (enc : TypeId × Value → H) :
    ReturnsInHanded {} Tryz.checked os 5 .any (Rows.printBackSpec.pre6 enc Tryz.prog Tryz.f5 Rows.printBackRow.domain false) (Rows.printBackSpec.post enc Tryz.prog Tryz.f5 false true false false) := by
  refine returnsInHanded_of_change (C := Tryz.checked) own started (by kernel_rfl) Tryz.func5
    (ChangeSpec.witness6 (enc := enc) (C := Tryz.checked) false ⟨#[], #[.agg #[.slice none 0 0, .int .i64 0], .int .u8 0], []⟩ 12 (by kernel_rfl) (by kernel_rfl) (by kernel_rfl) (by kernel_rfl)) ?_
  intro W base args ds gs before hval0 hW hcnd _
  have hval : ∀ (j : Nat) t v, Tryz.f5.params[j]? = some t → args[j]? = some v → Value.okWide Tryz.prog W .any base t v := hval0
  have hW' := hW
  obtain ⟨p, q, hA0, hV, rfl, hfz, hnd⟩ := hW
  have hA : DataW.TrodAll enc Tryz.prog W 0 (fun _ => true) true Tryz.f5.params.toList args.toList ds p := hA0
  rw [Tryz.params5] at hA hval
  obtain ⟨v0, vs0, d0, ds0, p0, q0, hargs, rfl, rfl, h0, r0⟩ := trodAll_cons hA
  obtain ⟨v1, vs1, d1, ds1, p1, q1, rfl, rfl, rfl, h1, r1⟩ := trodAll_cons r0
  obtain ⟨rfl, rfl, rfl⟩ := trodAll_nil r1
  obtain rfl : args = #[v0, v1] := by cases args; simp_all
  obtain ⟨rfl, rfl⟩ := trodVars_none hV
  obtain ⟨a0, w0, b0, e0⟩ := rda_0 (enc := enc) base v0 d0 p0 (hval 0 24 v0 rfl rfl) h0
  obtain ⟨a1, w1, b1, e1⟩ := rda_1 (enc := enc) base v1 d1 p1 (hval 1 5 v1 rfl rfl) h1
  obtain ⟨fu, hm⟩ := hall a0 a1 w0 w1
  exact law_post (s := Rows.printBackSpec) (by kernel_rfl) (t := 4) rfl Tryz.underlying4 (by kernel_rfl) rfl (Instarlaw08_PrintBack_ok fu a0 a1 true hm) (fun _ _ => trivial) (rdl_cons e0 (rdl_cons e1 (rdl_nil))) hW' rfl rfl rfl

theorem step (hall : ∀ (a0 : Forest) (a1 : Int), wfForest a0 → (wfI .u8) a1 → ∃ fu, Instarlaw08_PrintBack_m fu a0 a1 = some true) : Rows.PrintBackSaid :=
  OpenClaim.holds_of_wide 5 Tryz.f5 rfl rfl rfl rfl rfl rfl rfl ⟨rfl, rfl, rfl, rfl, rfl⟩ rfl rfl rfl rfl rfl (by kernel_rfl) Tryz.func5 (by kernel_rfl)
    (of_decide_eq_true (by kernel_rfl)) (by unfold Func.isWrapper; first | (rw [if_pos (by decide +kernel)]; kernel_rfl) | (rw [if_neg (by decide +kernel)]; exact ⟨rfl, rfl⟩))
    (fun os started H enc _ => lifted hall os started H enc)
end Go.Proofs.YtkngnghbnhgfjaaGreat.WPrintBack
