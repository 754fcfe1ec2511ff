/- The step from the model of 'instar/instarlaw05.ValidPut' to the row's statement: printed by law.py. -/
import Derived.Test.YtcaepigodglihaaG
import Derived.Test.YtcaepigodglihaaRows
import Derived.Test.YtcaepigodglihaaSaid
namespace Go.Proofs.Ytcaepigodglihaa.WValidPut
open Go Go.Pw Go.ChangeShapes Go.WideShapes Go.ChangeAt Go.RowKit
set_option linter.unusedVariables false

def wfAttr (x : Attr) : Prop := wfS x.Name ∧ (wfS x.Value ∧ (True))
def bkAttr (x : Attr) : Nat := (bkS x.Name + (bkS x.Value + (0))) + 1
def wfNode (x : Node) : Prop := (wfI .i64) x.Kind ∧ (wfS x.Name ∧ (wfS x.Is ∧ (wfS x.Data ∧ ((wfL wfAttr) x.Attrs ∧ ((wfI .i64) x.Parent ∧ ((wfL (wfI .i64)) x.Kids ∧ ((wfI .i64) x.Host ∧ ((wfI .i64) x.Under ∧ ((wfI .i64) x.Doc ∧ (True))))))))))
def bkNode (x : Node) : Nat := (bkI x.Kind + (bkS x.Name + (bkS x.Is + (bkS x.Data + ((bkL bkAttr) x.Attrs + (bkI x.Parent + ((bkL bkI) x.Kids + (bkI x.Host + (bkI x.Under + (bkI x.Doc + (0))))))))))) + 1
def wfForest (x : Forest) : Prop := (wfL wfNode) x.Nodes ∧ ((wfI .i64) x.Most ∧ (True))
def bkForest (x : Forest) : Nat := ((bkL bkNode) x.Nodes + (bkI x.Most + (0))) + 1
theorem rd_3 {H : Type} {enc : TypeId × Value → H} {W : World} : Rds enc Try.prog W 3 cInt_i64 (wfI .i64) bkI := rds_int (by kernel_rfl)
theorem rd_9 {H : Type} {enc : TypeId × Value → H} {W : World} : Rds enc Try.prog W 9 cStr wfS bkS := rds_str (by kernel_rfl)
set_option maxRecDepth 100000 in
theorem rd_61 {H : Type} {enc : TypeId × Value → H} {W : World} : Rds enc Try.prog W 61 cAttr wfAttr bkAttr :=
  rds_struct (n := 2) Try.underlying61 (by kernel_rfl) (rdsF_cons (k := 1) (by kernel_rfl) (by kernel_rfl) (fun _ => rfl) rd_9 (rdsF_cons (k := 1) (by kernel_rfl) (by kernel_rfl) (fun _ => rfl) rd_9 (rdsF_nil))) (fun p => ⟨p.1, p.2.1⟩) (fun _ => rfl) (fun _ => rfl) (fun _ h => h) (fun _ => rfl)
theorem rd_25 {H : Type} {enc : TypeId × Value → H} {W : World} : Rds enc Try.prog W 25 (fun l : (List Attr) => [.sl 2 false (l.map cAttr)]) (wfL wfAttr) (bkL bkAttr) := rds_slice (e := 61) (by kernel_rfl) (by kernel_rfl) (by omega) rd_61
theorem rd_26 {H : Type} {enc : TypeId × Value → H} {W : World} : Rds enc Try.prog W 26 (fun l : (List Int) => [.sl 1 false (l.map cInt_i64)]) (wfL (wfI .i64)) (bkL bkI) := rds_slice (e := 3) (by kernel_rfl) (by kernel_rfl) (by omega) rd_3
set_option maxRecDepth 100000 in
theorem rd_28 {H : Type} {enc : TypeId × Value → H} {W : World} : Rds enc Try.prog W 28 cNode wfNode bkNode :=
  rds_struct (n := 10) Try.underlying28 (by kernel_rfl) (rdsF_cons (k := 1) (by kernel_rfl) (by kernel_rfl) (fun _ => rfl) rd_3 (rdsF_cons (k := 1) (by kernel_rfl) (by kernel_rfl) (fun _ => rfl) rd_9 (rdsF_cons (k := 1) (by kernel_rfl) (by kernel_rfl) (fun _ => rfl) rd_9 (rdsF_cons (k := 1) (by kernel_rfl) (by kernel_rfl) (fun _ => rfl) rd_9 (rdsF_cons (k := 1) (by kernel_rfl) (by kernel_rfl) (fun _ => rfl) rd_25 (rdsF_cons (k := 1) (by kernel_rfl) (by kernel_rfl) (fun _ => rfl) rd_3 (rdsF_cons (k := 1) (by kernel_rfl) (by kernel_rfl) (fun _ => rfl) rd_26 (rdsF_cons (k := 1) (by kernel_rfl) (by kernel_rfl) (fun _ => rfl) rd_3 (rdsF_cons (k := 1) (by kernel_rfl) (by kernel_rfl) (fun _ => rfl) rd_3 (rdsF_cons (k := 1) (by kernel_rfl) (by kernel_rfl) (fun _ => rfl) rd_3 (rdsF_nil))))))))))) (fun p => ⟨p.1, p.2.1, p.2.2.1, p.2.2.2.1, p.2.2.2.2.1, p.2.2.2.2.2.1, p.2.2.2.2.2.2.1, p.2.2.2.2.2.2.2.1, p.2.2.2.2.2.2.2.2.1, p.2.2.2.2.2.2.2.2.2.1⟩) (fun _ => rfl) (fun _ => rfl) (fun _ h => h) (fun _ => rfl)
theorem rd_22 {H : Type} {enc : TypeId × Value → H} {W : World} : Rds enc Try.prog W 22 (fun l : (List Node) => [.sl 10 false (l.map cNode)]) (wfL wfNode) (bkL bkNode) := rds_slice (e := 28) (by kernel_rfl) (by kernel_rfl) (by omega) rd_28
set_option maxRecDepth 100000 in
theorem rd_24 {H : Type} {enc : TypeId × Value → H} {W : World} : Rds enc Try.prog W 24 cForest wfForest bkForest :=
  rds_struct (n := 2) Try.underlying24 (by kernel_rfl) (rdsF_cons (k := 1) (by kernel_rfl) (by kernel_rfl) (fun _ => rfl) rd_22 (rdsF_cons (k := 1) (by kernel_rfl) (by kernel_rfl) (fun _ => rfl) rd_3 (rdsF_nil))) (fun p => ⟨p.1, p.2.1⟩) (fun _ => rfl) (fun _ => rfl) (fun _ h => h) (fun _ => rfl)
theorem rda_0 {H : Type} {enc : TypeId × Value → H} {W : World} : RdA enc Try.prog W 24 (fun x : Forest => .agg (cForest x)) wfForest bkForest := rdA_struct Try.underlying24 rd_24
theorem rd_5 {H : Type} {enc : TypeId × Value → H} {W : World} : Rds enc Try.prog W 5 cInt_u8 (wfI .u8) bkI := rds_int (by kernel_rfl)
theorem rda_1 {H : Type} {enc : TypeId × Value → H} {W : World} : RdA enc Try.prog W 5 (fun x : Int => .v (.int .u8 x)) (wfI .u8) bkI := rdA_int (by kernel_rfl)
theorem rda_2 {H : Type} {enc : TypeId × Value → H} {W : World} : RdA enc Try.prog W 5 (fun x : Int => .v (.int .u8 x)) (wfI .u8) bkI := rdA_int (by kernel_rfl)
theorem rda_3 {H : Type} {enc : TypeId × Value → H} {W : World} : RdA enc Try.prog W 5 (fun x : Int => .v (.int .u8 x)) (wfI .u8) bkI := rdA_int (by kernel_rfl)
theorem rd_4 {H : Type} {enc : TypeId × Value → H} {W : World} : Rds enc Try.prog W 4 cBool wfB bkB := rds_bool (by kernel_rfl)
theorem rda_4 {H : Type} {enc : TypeId × Value → H} {W : World} : RdA enc Try.prog W 4 (fun x : Bool => .v (.bool x)) wfB bkB := rdA_bool (by kernel_rfl)

theorem own : ownKnob Try.prog.godebug = none := by kernel_rfl
set_option maxRecDepth 100000 in
theorem lifted (hall : ∀ (a0 : Forest) (a1 : Int) (a2 : Int) (a3 : Int) (a4 : Bool), wfForest a0 → (wfI .u8) a1 → (wfI .u8) a2 → (wfI .u8) a3 → wfB a4 → ∃ fu, Instarlaw05_ValidPut_m fu a0 a1 a2 a3 a4 = some true) (os : Os) (started : os.Started) (H : Type) (enc : TypeId × Value → H) :
    ReturnsInHanded {} Try.checked os 13 .any (Rows.validPutSpec.pre6 enc Try.prog Try.f13 Rows.validPutRow.domain false) (Rows.validPutSpec.post enc Try.prog Try.f13 false true false false) := by
  refine returnsInHanded_of_change (C := Try.checked) own started (by kernel_rfl) Try.func13
    (ChangeSpec.witness6 (enc := enc) (C := Try.checked) false ⟨#[], #[.agg #[.slice none 0 0, .int .i64 0], .int .u8 0, .int .u8 0, .int .u8 0, .bool false], []⟩ 12 (by kernel_rfl) (by kernel_rfl) (by kernel_rfl) (by kernel_rfl)) ?_
  intro W base args ds gs before hval0 hW hcnd _
  have hval : ∀ (j : Nat) t v, Try.f13.params[j]? = some t → args[j]? = some v → Value.okWide Try.prog W .any base t v := hval0
  have hW' := hW
  obtain ⟨p, q, hA0, hV, rfl, hfz, hnd⟩ := hW
  have hA : DataW.TrodAll enc Try.prog W 0 (fun _ => true) true Try.f13.params.toList args.toList ds p := hA0
  rw [Try.params13] at hA hval
  obtain ⟨v0, vs0, d0, ds0, p0, q0, hargs, rfl, rfl, h0, r0⟩ := trodAll_cons hA
  obtain ⟨v1, vs1, d1, ds1, p1, q1, rfl, rfl, rfl, h1, r1⟩ := trodAll_cons r0
  obtain ⟨v2, vs2, d2, ds2, p2, q2, rfl, rfl, rfl, h2, r2⟩ := trodAll_cons r1
  obtain ⟨v3, vs3, d3, ds3, p3, q3, rfl, rfl, rfl, h3, r3⟩ := trodAll_cons r2
  obtain ⟨v4, vs4, d4, ds4, p4, q4, rfl, rfl, rfl, h4, r4⟩ := trodAll_cons r3
  obtain ⟨rfl, rfl, rfl⟩ := trodAll_nil r4
  obtain rfl : args = #[v0, v1, v2, v3, v4] := by cases args; simp_all
  obtain ⟨rfl, rfl⟩ := trodVars_none hV
  obtain ⟨a0, w0, b0, e0⟩ := rda_0 (enc := enc) base v0 d0 p0 (hval 0 24 v0 rfl rfl) h0
  obtain ⟨a1, w1, b1, e1⟩ := rda_1 (enc := enc) base v1 d1 p1 (hval 1 5 v1 rfl rfl) h1
  obtain ⟨a2, w2, b2, e2⟩ := rda_2 (enc := enc) base v2 d2 p2 (hval 2 5 v2 rfl rfl) h2
  obtain ⟨a3, w3, b3, e3⟩ := rda_3 (enc := enc) base v3 d3 p3 (hval 3 5 v3 rfl rfl) h3
  obtain ⟨a4, w4, b4, e4⟩ := rda_4 (enc := enc) base v4 d4 p4 (hval 4 4 v4 rfl rfl) h4
  obtain ⟨fu, hm⟩ := hall a0 a1 a2 a3 a4 w0 w1 w2 w3 w4
  exact law_post (s := Rows.validPutSpec) (by kernel_rfl) (t := 4) rfl Try.underlying4 (by kernel_rfl) rfl (Instarlaw05_ValidPut_ok fu a0 a1 a2 a3 a4 true hm) (rdl_cons e0 (rdl_cons e1 (rdl_cons e2 (rdl_cons e3 (rdl_cons e4 (rdl_nil)))))) hW' rfl rfl rfl

theorem step (hall : ∀ (a0 : Forest) (a1 : Int) (a2 : Int) (a3 : Int) (a4 : Bool), wfForest a0 → (wfI .u8) a1 → (wfI .u8) a2 → (wfI .u8) a3 → wfB a4 → ∃ fu, Instarlaw05_ValidPut_m fu a0 a1 a2 a3 a4 = some true) : Rows.ValidPutSaid :=
  OpenClaim.holds_of_wide 13 Try.f13 rfl rfl rfl rfl rfl rfl rfl ⟨rfl, rfl, rfl, rfl, rfl⟩ rfl rfl rfl rfl rfl (by kernel_rfl) Try.func13 (by kernel_rfl)
    (of_decide_eq_true (by kernel_rfl)) (by unfold Func.isWrapper; first | (rw [if_pos (by decide +kernel)]; kernel_rfl) | (rw [if_neg (by decide +kernel)]; exact ⟨rfl, rfl⟩))
    (fun os started H enc _ => lifted hall os started H enc)
end Go.Proofs.Ytcaepigodglihaa.WValidPut
