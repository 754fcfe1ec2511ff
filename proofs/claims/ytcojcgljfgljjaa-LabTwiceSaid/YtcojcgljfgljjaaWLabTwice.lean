/- The step from the model of 'instar/instarlaw25.LabTwice' to the row's statement: printed by law.py. -/
import Derived.Test.YtcojcgljfgljjaaG
import Derived.Test.YtcojcgljfgljjaaRows
import Derived.Test.YtcojcgljfgljjaaSaid
namespace Go.Proofs.Ytcojcgljfgljjaa.WLabTwice
open Go Go.Pw Go.ChangeShapes Go.WideShapes Go.ChangeAt Go.RowKit
set_option linter.unusedVariables false

def wfOp (x : Op) : Prop := (wfI .i64) x.Kind ∧ ((wfI .i64) x.A ∧ ((wfI .i64) x.B ∧ ((wfI .i64) x.C ∧ (wfS x.S ∧ (wfS x.T ∧ (wfB x.Must ∧ (True)))))))
def bkOp (x : Op) : Nat := (bkI x.Kind + (bkI x.A + (bkI x.B + (bkI x.C + (bkS x.S + (bkS x.T + (bkB x.Must + (0)))))))) + 1
def wfHook (x : Hook) : Prop := (wfI .i64) x.Kind ∧ ((wfL wfOp) x.Do ∧ (True))
def bkHook (x : Hook) : Nat := (bkI x.Kind + ((bkL bkOp) x.Do + (0))) + 1
def wfClass (x : Class) : Prop := wfB x.Form ∧ ((wfL wfS) x.Watch ∧ ((wfL wfOp) x.Peek ∧ ((wfL wfOp) x.Make ∧ ((wfL wfHook) x.Hooks ∧ (True)))))
def bkClass (x : Class) : Nat := (bkB x.Form + ((bkL bkS) x.Watch + ((bkL bkOp) x.Peek + ((bkL bkOp) x.Make + ((bkL bkHook) x.Hooks + (0)))))) + 1
def wfScript (x : Script) : Prop := (wfL wfClass) x.Classes ∧ ((wfL wfOp) x.Main ∧ (True))
def bkScript (x : Script) : Nat := ((bkL bkClass) x.Classes + ((bkL bkOp) x.Main + (0))) + 1
theorem rd_4 {H : Type} {enc : TypeId × Value → H} {W : World} : Rds enc Try.prog W 4 cBool wfB bkB := rds_bool (by kernel_rfl)
theorem rd_9 {H : Type} {enc : TypeId × Value → H} {W : World} : Rds enc Try.prog W 9 cStr wfS bkS := rds_str (by kernel_rfl)
theorem rd_34 {H : Type} {enc : TypeId × Value → H} {W : World} : Rds enc Try.prog W 34 (fun l : (List Bs) => [.sl 1 false (l.map cStr)]) (wfL wfS) (bkL bkS) := rds_slice (e := 9) (by kernel_rfl) (by kernel_rfl) (by omega) rd_9
theorem rd_3 {H : Type} {enc : TypeId × Value → H} {W : World} : Rds enc Try.prog W 3 cInt_i64 (wfI .i64) bkI := rds_int (by kernel_rfl)
set_option maxRecDepth 100000 in
theorem rd_48 {H : Type} {enc : TypeId × Value → H} {W : World} : Rds enc Try.prog W 48 cOp wfOp bkOp :=
  rds_struct (n := 7) Try.underlying48 (by kernel_rfl) (rdsF_cons (k := 1) (by kernel_rfl) (by kernel_rfl) (fun _ => rfl) rd_3 (rdsF_cons (k := 1) (by kernel_rfl) (by kernel_rfl) (fun _ => rfl) rd_3 (rdsF_cons (k := 1) (by kernel_rfl) (by kernel_rfl) (fun _ => rfl) rd_3 (rdsF_cons (k := 1) (by kernel_rfl) (by kernel_rfl) (fun _ => rfl) rd_3 (rdsF_cons (k := 1) (by kernel_rfl) (by kernel_rfl) (fun _ => rfl) rd_9 (rdsF_cons (k := 1) (by kernel_rfl) (by kernel_rfl) (fun _ => rfl) rd_9 (rdsF_cons (k := 1) (by kernel_rfl) (by kernel_rfl) (fun _ => rfl) rd_4 (rdsF_nil)))))))) (fun p => ⟨p.1, p.2.1, p.2.2.1, p.2.2.2.1, p.2.2.2.2.1, p.2.2.2.2.2.1, p.2.2.2.2.2.2.1⟩) (fun _ => rfl) (fun _ => rfl) (fun _ h => h) (fun _ => rfl)
theorem rd_23 {H : Type} {enc : TypeId × Value → H} {W : World} : Rds enc Try.prog W 23 (fun l : (List Op) => [.sl 7 false (l.map cOp)]) (wfL wfOp) (bkL bkOp) := rds_slice (e := 48) (by kernel_rfl) (by kernel_rfl) (by omega) rd_48
set_option maxRecDepth 100000 in
theorem rd_52 {H : Type} {enc : TypeId × Value → H} {W : World} : Rds enc Try.prog W 52 cHook wfHook bkHook :=
  rds_struct (n := 2) Try.underlying52 (by kernel_rfl) (rdsF_cons (k := 1) (by kernel_rfl) (by kernel_rfl) (fun _ => rfl) rd_3 (rdsF_cons (k := 1) (by kernel_rfl) (by kernel_rfl) (fun _ => rfl) rd_23 (rdsF_nil))) (fun p => ⟨p.1, p.2.1⟩) (fun _ => rfl) (fun _ => rfl) (fun _ h => h) (fun _ => rfl)
theorem rd_35 {H : Type} {enc : TypeId × Value → H} {W : World} : Rds enc Try.prog W 35 (fun l : (List Hook) => [.sl 2 false (l.map cHook)]) (wfL wfHook) (bkL bkHook) := rds_slice (e := 52) (by kernel_rfl) (by kernel_rfl) (by omega) rd_52
set_option maxRecDepth 100000 in
theorem rd_37 {H : Type} {enc : TypeId × Value → H} {W : World} : Rds enc Try.prog W 37 cClass wfClass bkClass :=
  rds_struct (n := 5) Try.underlying37 (by kernel_rfl) (rdsF_cons (k := 1) (by kernel_rfl) (by kernel_rfl) (fun _ => rfl) rd_4 (rdsF_cons (k := 1) (by kernel_rfl) (by kernel_rfl) (fun _ => rfl) rd_34 (rdsF_cons (k := 1) (by kernel_rfl) (by kernel_rfl) (fun _ => rfl) rd_23 (rdsF_cons (k := 1) (by kernel_rfl) (by kernel_rfl) (fun _ => rfl) rd_23 (rdsF_cons (k := 1) (by kernel_rfl) (by kernel_rfl) (fun _ => rfl) rd_35 (rdsF_nil)))))) (fun p => ⟨p.1, p.2.1, p.2.2.1, p.2.2.2.1, p.2.2.2.2.1⟩) (fun _ => rfl) (fun _ => rfl) (fun _ h => h) (fun _ => rfl)
theorem rd_22 {H : Type} {enc : TypeId × Value → H} {W : World} : Rds enc Try.prog W 22 (fun l : (List Class) => [.sl 5 false (l.map cClass)]) (wfL wfClass) (bkL bkClass) := rds_slice (e := 37) (by kernel_rfl) (by kernel_rfl) (by omega) rd_37
set_option maxRecDepth 100000 in
theorem rd_25 {H : Type} {enc : TypeId × Value → H} {W : World} : Rds enc Try.prog W 25 cScript wfScript bkScript :=
  rds_struct (n := 2) Try.underlying25 (by kernel_rfl) (rdsF_cons (k := 1) (by kernel_rfl) (by kernel_rfl) (fun _ => rfl) rd_22 (rdsF_cons (k := 1) (by kernel_rfl) (by kernel_rfl) (fun _ => rfl) rd_23 (rdsF_nil))) (fun p => ⟨p.1, p.2.1⟩) (fun _ => rfl) (fun _ => rfl) (fun _ h => h) (fun _ => rfl)
theorem rda_0 {H : Type} {enc : TypeId × Value → H} {W : World} : RdA enc Try.prog W 25 (fun x : Script => .agg (cScript x)) wfScript bkScript := rdA_struct Try.underlying25 rd_25
def wfMark (x : Mark) : Prop := (wfI .i64) x.Kind ∧ ((wfI .i64) x.Depth ∧ ((wfI .i64) x.Node ∧ ((wfI .i64) x.What ∧ ((wfI .i64) x.Err ∧ (wfS x.Name ∧ (wfB x.Had ∧ (wfB x.Has ∧ (wfS x.Old ∧ (wfS x.New ∧ ((wfI .i64) x.From ∧ ((wfI .i64) x.To ∧ (wfB x.On ∧ (True)))))))))))))
def bkMark (x : Mark) : Nat := (bkI x.Kind + (bkI x.Depth + (bkI x.Node + (bkI x.What + (bkI x.Err + (bkS x.Name + (bkB x.Had + (bkB x.Has + (bkS x.Old + (bkS x.New + (bkI x.From + (bkI x.To + (bkB x.On + (0)))))))))))))) + 1
theorem rd_53 {H : Type} {enc : TypeId × Value → H} {W : World} : Rds enc Try.prog W 53 cInt_i64 (wfI .i64) bkI := rds_int (by kernel_rfl)
set_option maxRecDepth 100000 in
theorem rd_55 {H : Type} {enc : TypeId × Value → H} {W : World} : Rds enc Try.prog W 55 cMark wfMark bkMark :=
  rds_struct (n := 13) Try.underlying55 (by kernel_rfl) (rdsF_cons (k := 1) (by kernel_rfl) (by kernel_rfl) (fun _ => rfl) rd_3 (rdsF_cons (k := 1) (by kernel_rfl) (by kernel_rfl) (fun _ => rfl) rd_3 (rdsF_cons (k := 1) (by kernel_rfl) (by kernel_rfl) (fun _ => rfl) rd_3 (rdsF_cons (k := 1) (by kernel_rfl) (by kernel_rfl) (fun _ => rfl) rd_3 (rdsF_cons (k := 1) (by kernel_rfl) (by kernel_rfl) (fun _ => rfl) rd_53 (rdsF_cons (k := 1) (by kernel_rfl) (by kernel_rfl) (fun _ => rfl) rd_9 (rdsF_cons (k := 1) (by kernel_rfl) (by kernel_rfl) (fun _ => rfl) rd_4 (rdsF_cons (k := 1) (by kernel_rfl) (by kernel_rfl) (fun _ => rfl) rd_4 (rdsF_cons (k := 1) (by kernel_rfl) (by kernel_rfl) (fun _ => rfl) rd_9 (rdsF_cons (k := 1) (by kernel_rfl) (by kernel_rfl) (fun _ => rfl) rd_9 (rdsF_cons (k := 1) (by kernel_rfl) (by kernel_rfl) (fun _ => rfl) rd_3 (rdsF_cons (k := 1) (by kernel_rfl) (by kernel_rfl) (fun _ => rfl) rd_3 (rdsF_cons (k := 1) (by kernel_rfl) (by kernel_rfl) (fun _ => rfl) rd_4 (rdsF_nil)))))))))))))) (fun p => ⟨p.1, p.2.1, p.2.2.1, p.2.2.2.1, p.2.2.2.2.1, p.2.2.2.2.2.1, p.2.2.2.2.2.2.1, p.2.2.2.2.2.2.2.1, p.2.2.2.2.2.2.2.2.1, p.2.2.2.2.2.2.2.2.2.1, p.2.2.2.2.2.2.2.2.2.2.1, p.2.2.2.2.2.2.2.2.2.2.2.1, p.2.2.2.2.2.2.2.2.2.2.2.2.1⟩) (fun _ => rfl) (fun _ => rfl) (fun _ h => h) (fun _ => rfl)
theorem rd_26 {H : Type} {enc : TypeId × Value → H} {W : World} : Rds enc Try.prog W 26 (fun l : (List Mark) => [.sl 13 false (l.map cMark)]) (wfL wfMark) (bkL bkMark) := rds_slice (e := 55) (by kernel_rfl) (by kernel_rfl) (by omega) rd_55
theorem rda_1 {H : Type} {enc : TypeId × Value → H} {W : World} : RdA enc Try.prog W 26 (fun x : (List Mark) => .sl 13 false (x.map cMark)) (wfL wfMark) (bkL bkMark) := rdA_slice (e := 55) (by kernel_rfl) rd_26
def wfAttr (x : Attr) : Prop := wfS x.Name ∧ (wfS x.Value ∧ (True))
def bkAttr (x : Attr) : Nat := (bkS x.Name + (bkS x.Value + (0))) + 1
def wfNode (x : Node) : Prop := (wfI .i64) x.Kind ∧ (wfS x.Name ∧ (wfS x.Is ∧ (wfS x.Data ∧ ((wfL wfAttr) x.Attrs ∧ ((wfI .i64) x.Parent ∧ ((wfL (wfI .i64)) x.Kids ∧ ((wfI .i64) x.Host ∧ ((wfI .i64) x.Under ∧ ((wfI .i64) x.Doc ∧ (True))))))))))
def bkNode (x : Node) : Nat := (bkI x.Kind + (bkS x.Name + (bkS x.Is + (bkS x.Data + ((bkL bkAttr) x.Attrs + (bkI x.Parent + ((bkL bkI) x.Kids + (bkI x.Host + (bkI x.Under + (bkI x.Doc + (0))))))))))) + 1
def wfForest (x : Forest) : Prop := (wfL wfNode) x.Nodes ∧ ((wfI .i64) x.Most ∧ (True))
def bkForest (x : Forest) : Nat := ((bkL bkNode) x.Nodes + (bkI x.Most + (0))) + 1
set_option maxRecDepth 100000 in
theorem rd_107 {H : Type} {enc : TypeId × Value → H} {W : World} : Rds enc Try.prog W 107 cAttr wfAttr bkAttr :=
  rds_struct (n := 2) Try.underlying107 (by kernel_rfl) (rdsF_cons (k := 1) (by kernel_rfl) (by kernel_rfl) (fun _ => rfl) rd_9 (rdsF_cons (k := 1) (by kernel_rfl) (by kernel_rfl) (fun _ => rfl) rd_9 (rdsF_nil))) (fun p => ⟨p.1, p.2.1⟩) (fun _ => rfl) (fun _ => rfl) (fun _ h => h) (fun _ => rfl)
theorem rd_57 {H : Type} {enc : TypeId × Value → H} {W : World} : Rds enc Try.prog W 57 (fun l : (List Attr) => [.sl 2 false (l.map cAttr)]) (wfL wfAttr) (bkL bkAttr) := rds_slice (e := 107) (by kernel_rfl) (by kernel_rfl) (by omega) rd_107
theorem rd_58 {H : Type} {enc : TypeId × Value → H} {W : World} : Rds enc Try.prog W 58 (fun l : (List Int) => [.sl 1 false (l.map cInt_i64)]) (wfL (wfI .i64)) (bkL bkI) := rds_slice (e := 3) (by kernel_rfl) (by kernel_rfl) (by omega) rd_3
set_option maxRecDepth 100000 in
theorem rd_60 {H : Type} {enc : TypeId × Value → H} {W : World} : Rds enc Try.prog W 60 cNode wfNode bkNode :=
  rds_struct (n := 10) Try.underlying60 (by kernel_rfl) (rdsF_cons (k := 1) (by kernel_rfl) (by kernel_rfl) (fun _ => rfl) rd_3 (rdsF_cons (k := 1) (by kernel_rfl) (by kernel_rfl) (fun _ => rfl) rd_9 (rdsF_cons (k := 1) (by kernel_rfl) (by kernel_rfl) (fun _ => rfl) rd_9 (rdsF_cons (k := 1) (by kernel_rfl) (by kernel_rfl) (fun _ => rfl) rd_9 (rdsF_cons (k := 1) (by kernel_rfl) (by kernel_rfl) (fun _ => rfl) rd_57 (rdsF_cons (k := 1) (by kernel_rfl) (by kernel_rfl) (fun _ => rfl) rd_3 (rdsF_cons (k := 1) (by kernel_rfl) (by kernel_rfl) (fun _ => rfl) rd_58 (rdsF_cons (k := 1) (by kernel_rfl) (by kernel_rfl) (fun _ => rfl) rd_3 (rdsF_cons (k := 1) (by kernel_rfl) (by kernel_rfl) (fun _ => rfl) rd_3 (rdsF_cons (k := 1) (by kernel_rfl) (by kernel_rfl) (fun _ => rfl) rd_3 (rdsF_nil))))))))))) (fun p => ⟨p.1, p.2.1, p.2.2.1, p.2.2.2.1, p.2.2.2.2.1, p.2.2.2.2.2.1, p.2.2.2.2.2.2.1, p.2.2.2.2.2.2.2.1, p.2.2.2.2.2.2.2.2.1, p.2.2.2.2.2.2.2.2.2.1⟩) (fun _ => rfl) (fun _ => rfl) (fun _ h => h) (fun _ => rfl)
theorem rd_27 {H : Type} {enc : TypeId × Value → H} {W : World} : Rds enc Try.prog W 27 (fun l : (List Node) => [.sl 10 false (l.map cNode)]) (wfL wfNode) (bkL bkNode) := rds_slice (e := 60) (by kernel_rfl) (by kernel_rfl) (by omega) rd_60
set_option maxRecDepth 100000 in
theorem rd_29 {H : Type} {enc : TypeId × Value → H} {W : World} : Rds enc Try.prog W 29 cForest wfForest bkForest :=
  rds_struct (n := 2) Try.underlying29 (by kernel_rfl) (rdsF_cons (k := 1) (by kernel_rfl) (by kernel_rfl) (fun _ => rfl) rd_27 (rdsF_cons (k := 1) (by kernel_rfl) (by kernel_rfl) (fun _ => rfl) rd_3 (rdsF_nil))) (fun p => ⟨p.1, p.2.1⟩) (fun _ => rfl) (fun _ => rfl) (fun _ h => h) (fun _ => rfl)
theorem rda_2 {H : Type} {enc : TypeId × Value → H} {W : World} : RdA enc Try.prog W 29 (fun x : Forest => .agg (cForest x)) wfForest bkForest := rdA_struct Try.underlying29 rd_29
theorem rda_3 {H : Type} {enc : TypeId × Value → H} {W : World} : RdA enc Try.prog W 3 (fun x : Int => .v (.int .i64 x)) (wfI .i64) bkI := rdA_int (by kernel_rfl)
theorem rda_4 {H : Type} {enc : TypeId × Value → H} {W : World} : RdA enc Try.prog W 3 (fun x : Int => .v (.int .i64 x)) (wfI .i64) bkI := rdA_int (by kernel_rfl)
theorem rda_5 {H : Type} {enc : TypeId × Value → H} {W : World} : RdA enc Try.prog W 9 (fun x : Bs => .v (.string ⟨⟨x⟩⟩)) wfS bkS := rdA_str (by kernel_rfl)
theorem rda_6 {H : Type} {enc : TypeId × Value → H} {W : World} : RdA enc Try.prog W 9 (fun x : Bs => .v (.string ⟨⟨x⟩⟩)) wfS bkS := rdA_str (by kernel_rfl)

theorem own : ownKnob Try.prog.godebug = none := by kernel_rfl
set_option maxRecDepth 100000 in
theorem lifted (hall : ∀ (a0 : Script) (a1 : (List Mark)) (a2 : Forest) (a3 : Int) (a4 : Int) (a5 : Bs) (a6 : Bs), wfScript a0 → (wfL wfMark) a1 → wfForest a2 → (wfI .i64) a3 → (wfI .i64) a4 → wfS a5 → wfS a6 → ∃ fu, Instarlaw25_LabTwice_m fu a0 a1 a2 a3 a4 a5 a6 = some true) (os : Os) (started : os.Started) (H : Type) (enc : TypeId × Value → H) :
    ReturnsInHanded {} Try.checked os 5 .any (Rows.labTwiceSpec.pre6 enc Try.prog Try.f5 Rows.labTwiceRow.domain false) (Rows.labTwiceSpec.post enc Try.prog Try.f5 false true false false) := by
  refine returnsInHanded_of_change (C := Try.checked) own started (by kernel_rfl) Try.func5
    (ChangeSpec.witness6 (enc := enc) (C := Try.checked) false ⟨#[], #[.agg #[.slice none 0 0, .slice none 0 0], .slice none 0 0, .agg #[.slice none 0 0, .int .i64 0], .int .i64 0, .int .i64 0, .string ⟨#[]⟩, .string ⟨#[]⟩], []⟩ 12 (by kernel_rfl) (by kernel_rfl) (by kernel_rfl) (by kernel_rfl)) ?_
  intro W base args ds gs before hval0 hW hcnd _
  have hval : ∀ (j : Nat) t v, Try.f5.params[j]? = some t → args[j]? = some v → Value.okWide Try.prog W .any base t v := hval0
  have hW' := hW
  obtain ⟨p, q, hA0, hV, rfl, hfz, hnd⟩ := hW
  have hA : DataW.TrodAll enc Try.prog W 0 (fun _ => true) true Try.f5.params.toList args.toList ds p := hA0
  rw [Try.params5] at hA hval
  obtain ⟨v0, vs0, d0, ds0, p0, q0, hargs, rfl, rfl, h0, r0⟩ := trodAll_cons hA
  obtain ⟨v1, vs1, d1, ds1, p1, q1, rfl, rfl, rfl, h1, r1⟩ := trodAll_cons r0
  obtain ⟨v2, vs2, d2, ds2, p2, q2, rfl, rfl, rfl, h2, r2⟩ := trodAll_cons r1
  obtain ⟨v3, vs3, d3, ds3, p3, q3, rfl, rfl, rfl, h3, r3⟩ := trodAll_cons r2
  obtain ⟨v4, vs4, d4, ds4, p4, q4, rfl, rfl, rfl, h4, r4⟩ := trodAll_cons r3
  obtain ⟨v5, vs5, d5, ds5, p5, q5, rfl, rfl, rfl, h5, r5⟩ := trodAll_cons r4
  obtain ⟨v6, vs6, d6, ds6, p6, q6, rfl, rfl, rfl, h6, r6⟩ := trodAll_cons r5
  obtain ⟨rfl, rfl, rfl⟩ := trodAll_nil r6
  obtain rfl : args = #[v0, v1, v2, v3, v4, v5, v6] := by cases args; simp_all
  obtain ⟨rfl, rfl⟩ := trodVars_none hV
  obtain ⟨a0, w0, b0, e0⟩ := rda_0 (enc := enc) base v0 d0 p0 (hval 0 25 v0 rfl rfl) h0
  obtain ⟨a1, w1, b1, e1⟩ := rda_1 (enc := enc) base v1 d1 p1 (hval 1 26 v1 rfl rfl) h1
  obtain ⟨a2, w2, b2, e2⟩ := rda_2 (enc := enc) base v2 d2 p2 (hval 2 29 v2 rfl rfl) h2
  obtain ⟨a3, w3, b3, e3⟩ := rda_3 (enc := enc) base v3 d3 p3 (hval 3 3 v3 rfl rfl) h3
  obtain ⟨a4, w4, b4, e4⟩ := rda_4 (enc := enc) base v4 d4 p4 (hval 4 3 v4 rfl rfl) h4
  obtain ⟨a5, w5, b5, e5⟩ := rda_5 (enc := enc) base v5 d5 p5 (hval 5 9 v5 rfl rfl) h5
  obtain ⟨a6, w6, b6, e6⟩ := rda_6 (enc := enc) base v6 d6 p6 (hval 6 9 v6 rfl rfl) h6
  obtain ⟨fu, hm⟩ := hall a0 a1 a2 a3 a4 a5 a6 w0 w1 w2 w3 w4 w5 w6
  exact law_post (s := Rows.labTwiceSpec) (by kernel_rfl) (t := 4) rfl Try.underlying4 (by kernel_rfl) rfl (Instarlaw25_LabTwice_ok fu a0 a1 a2 a3 a4 a5 a6 true hm) (rdl_cons e0 (rdl_cons e1 (rdl_cons e2 (rdl_cons e3 (rdl_cons e4 (rdl_cons e5 (rdl_cons e6 (rdl_nil)))))))) hW' rfl rfl rfl

theorem step (hall : ∀ (a0 : Script) (a1 : (List Mark)) (a2 : Forest) (a3 : Int) (a4 : Int) (a5 : Bs) (a6 : Bs), wfScript a0 → (wfL wfMark) a1 → wfForest a2 → (wfI .i64) a3 → (wfI .i64) a4 → wfS a5 → wfS a6 → ∃ fu, Instarlaw25_LabTwice_m fu a0 a1 a2 a3 a4 a5 a6 = some true) : Rows.LabTwiceSaid :=
  OpenClaim.holds_of_wide 5 Try.f5 rfl rfl rfl rfl rfl rfl rfl ⟨rfl, rfl, rfl, rfl, rfl⟩ rfl rfl rfl rfl rfl (by kernel_rfl) Try.func5 (by kernel_rfl)
    (of_decide_eq_true (by kernel_rfl)) (by unfold Func.isWrapper; first | (rw [if_pos (by decide +kernel)]; kernel_rfl) | (rw [if_neg (by decide +kernel)]; exact ⟨rfl, rfl⟩))
    (fun os started H enc _ => lifted hall os started H enc)
end Go.Proofs.Ytcojcgljfgljjaa.WLabTwice
