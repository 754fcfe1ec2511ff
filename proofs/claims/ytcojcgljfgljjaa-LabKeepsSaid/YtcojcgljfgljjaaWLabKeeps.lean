/- The step from the model of 'instar/instarlaw25.LabKeeps' to the row's statement: printed by law.py. -/
import Derived.Test.YtcojcgljfgljjaaG
import Derived.Test.YtcojcgljfgljjaaRows
import Derived.Test.YtcojcgljfgljjaaSaid
namespace Go.Proofs.Ytcojcgljfgljjaa.WLabKeeps
open Go Go.Pw Go.ChangeShapes Go.WideShapes Go.ChangeAt Go.RowKit
set_option linter.unusedVariables false

def wfOp (x : Op) : Prop := (wfI .i64) x.Kind ∧ ((wfI .i64) x.A ∧ ((wfI .i64) x.B ∧ ((wfI .i64) x.C ∧ (wfS x.S ∧ (wfS x.T ∧ (wfB x.Must ∧ (True)))))))
def bkOp (x : Op) : Nat := (bkI x.Kind + (bkI x.A + (bkI x.B + (bkI x.C + (bkS x.S + (bkS x.T + (bkB x.Must + (0)))))))) + 1
def wfHook (x : Hook) : Prop := (wfI .i64) x.Kind ∧ ((wfL wfOp) x.Do ∧ (True))
def bkHook (x : Hook) : Nat := (bkI x.Kind + ((bkL bkOp) x.Do + (0))) + 1
def wfClass (x : Class) : Prop := wfB x.Form ∧ ((wfL wfS) x.Watch ∧ ((wfL wfOp) x.Peek ∧ ((wfL wfOp) x.Make ∧ ((wfL wfHook) x.Hooks ∧ (True)))))
def bkClass (x : Class) : Nat := (bkB x.Form + ((bkL bkS) x.Watch + ((bkL bkOp) x.Peek + ((bkL bkOp) x.Make + ((bkL bkHook) x.Hooks + (0)))))) + 1
def wfScript (x : Script) : Prop := (wfL wfClass) x.Classes ∧ ((wfL wfOp) x.Main ∧ (True))
def bkScript (x : Script) : Nat := ((bkL bkClass) x.Classes + ((bkL bkOp) x.Main + (0))) + 1
theorem rd_4 {H : Type} {enc : TypeId × Value → H} {W : World} : Rds enc Try.prog W 4 cBool wfB bkB := rds_bool (by kernel_rfl)
theorem rd_9 {H : Type} {enc : TypeId × Value → H} {W : World} : Rds enc Try.prog W 9 cStr wfS bkS := rds_str (by kernel_rfl)
theorem rd_34 {H : Type} {enc : TypeId × Value → H} {W : World} : Rds enc Try.prog W 34 (fun l : (List Bs) => [.sl 1 false (l.map cStr)]) (wfL wfS) (bkL bkS) := rds_slice (e := 9) (by kernel_rfl) (by kernel_rfl) (by omega) rd_9
theorem rd_3 {H : Type} {enc : TypeId × Value → H} {W : World} : Rds enc Try.prog W 3 cInt_i64 (wfI .i64) bkI := rds_int (by kernel_rfl)
set_option maxRecDepth 100000 in
theorem rd_48 {H : Type} {enc : TypeId × Value → H} {W : World} : Rds enc Try.prog W 48 cOp wfOp bkOp :=
  rds_struct (n := 7) Try.underlying48 (by kernel_rfl) (rdsF_cons (k := 1) (by kernel_rfl) (by kernel_rfl) (fun _ => rfl) rd_3 (rdsF_cons (k := 1) (by kernel_rfl) (by kernel_rfl) (fun _ => rfl) rd_3 (rdsF_cons (k := 1) (by kernel_rfl) (by kernel_rfl) (fun _ => rfl) rd_3 (rdsF_cons (k := 1) (by kernel_rfl) (by kernel_rfl) (fun _ => rfl) rd_3 (rdsF_cons (k := 1) (by kernel_rfl) (by kernel_rfl) (fun _ => rfl) rd_9 (rdsF_cons (k := 1) (by kernel_rfl) (by kernel_rfl) (fun _ => rfl) rd_9 (rdsF_cons (k := 1) (by kernel_rfl) (by kernel_rfl) (fun _ => rfl) rd_4 (rdsF_nil)))))))) (fun p => ⟨p.1, p.2.1, p.2.2.1, p.2.2.2.1, p.2.2.2.2.1, p.2.2.2.2.2.1, p.2.2.2.2.2.2.1⟩) (fun _ => rfl) (fun _ => rfl) (fun _ h => h) (fun _ => rfl)
theorem rd_23 {H : Type} {enc : TypeId × Value → H} {W : World} : Rds enc Try.prog W 23 (fun l : (List Op) => [.sl 7 false (l.map cOp)]) (wfL wfOp) (bkL bkOp) := rds_slice (e := 48) (by kernel_rfl) (by kernel_rfl) (by omega) rd_48
set_option maxRecDepth 100000 in
theorem rd_52 {H : Type} {enc : TypeId × Value → H} {W : World} : Rds enc Try.prog W 52 cHook wfHook bkHook :=
  rds_struct (n := 2) Try.underlying52 (by kernel_rfl) (rdsF_cons (k := 1) (by kernel_rfl) (by kernel_rfl) (fun _ => rfl) rd_3 (rdsF_cons (k := 1) (by kernel_rfl) (by kernel_rfl) (fun _ => rfl) rd_23 (rdsF_nil))) (fun p => ⟨p.1, p.2.1⟩) (fun _ => rfl) (fun _ => rfl) (fun _ h => h) (fun _ => rfl)
theorem rd_35 {H : Type} {enc : TypeId × Value → H} {W : World} : Rds enc Try.prog W 35 (fun l : (List Hook) => [.sl 2 false (l.map cHook)]) (wfL wfHook) (bkL bkHook) := rds_slice (e := 52) (by kernel_rfl) (by kernel_rfl) (by omega) rd_52
set_option maxRecDepth 100000 in
theorem rd_37 {H : Type} {enc : TypeId × Value → H} {W : World} : Rds enc Try.prog W 37 cClass wfClass bkClass :=
  rds_struct (n := 5) Try.underlying37 (by kernel_rfl) (rdsF_cons (k := 1) (by kernel_rfl) (by kernel_rfl) (fun _ => rfl) rd_4 (rdsF_cons (k := 1) (by kernel_rfl) (by kernel_rfl) (fun _ => rfl) rd_34 (rdsF_cons (k := 1) (by kernel_rfl) (by kernel_rfl) (fun _ => rfl) rd_23 (rdsF_cons (k := 1) (by kernel_rfl) (by kernel_rfl) (fun _ => rfl) rd_23 (rdsF_cons (k := 1) (by kernel_rfl) (by kernel_rfl) (fun _ => rfl) rd_35 (rdsF_nil)))))) (fun p => ⟨p.1, p.2.1, p.2.2.1, p.2.2.2.1, p.2.2.2.2.1⟩) (fun _ => rfl) (fun _ => rfl) (fun _ h => h) (fun _ => rfl)
theorem rd_22 {H : Type} {enc : TypeId × Value → H} {W : World} : Rds enc Try.prog W 22 (fun l : (List Class) => [.sl 5 false (l.map cClass)]) (wfL wfClass) (bkL bkClass) := rds_slice (e := 37) (by kernel_rfl) (by kernel_rfl) (by omega) rd_37
set_option maxRecDepth 100000 in
theorem rd_25 {H : Type} {enc : TypeId × Value → H} {W : World} : Rds enc Try.prog W 25 cScript wfScript bkScript :=
  rds_struct (n := 2) Try.underlying25 (by kernel_rfl) (rdsF_cons (k := 1) (by kernel_rfl) (by kernel_rfl) (fun _ => rfl) rd_22 (rdsF_cons (k := 1) (by kernel_rfl) (by kernel_rfl) (fun _ => rfl) rd_23 (rdsF_nil))) (fun p => ⟨p.1, p.2.1⟩) (fun _ => rfl) (fun _ => rfl) (fun _ h => h) (fun _ => rfl)
theorem rda_0 {H : Type} {enc : TypeId × Value → H} {W : World} : RdA enc Try.prog W 25 (fun x : Script => .agg (cScript x)) wfScript bkScript := rdA_struct Try.underlying25 rd_25
theorem rda_1 {H : Type} {enc : TypeId × Value → H} {W : World} : RdA enc Try.prog W 3 (fun x : Int => .v (.int .i64 x)) (wfI .i64) bkI := rdA_int (by kernel_rfl)
theorem rda_2 {H : Type} {enc : TypeId × Value → H} {W : World} : RdA enc Try.prog W 3 (fun x : Int => .v (.int .i64 x)) (wfI .i64) bkI := rdA_int (by kernel_rfl)
theorem rda_3 {H : Type} {enc : TypeId × Value → H} {W : World} : RdA enc Try.prog W 9 (fun x : Bs => .v (.string ⟨⟨x⟩⟩)) wfS bkS := rdA_str (by kernel_rfl)
theorem rda_4 {H : Type} {enc : TypeId × Value → H} {W : World} : RdA enc Try.prog W 9 (fun x : Bs => .v (.string ⟨⟨x⟩⟩)) wfS bkS := rdA_str (by kernel_rfl)

theorem own : ownKnob Try.prog.godebug = none := by kernel_rfl
set_option maxRecDepth 100000 in
theorem lifted (hall : ∀ (a0 : Script) (a1 : Int) (a2 : Int) (a3 : Bs) (a4 : Bs), wfScript a0 → (wfI .i64) a1 → (wfI .i64) a2 → wfS a3 → wfS a4 → ∃ fu, Instarlaw25_LabKeeps_m fu a0 a1 a2 a3 a4 = some true) (os : Os) (started : os.Started) (H : Type) (enc : TypeId × Value → H) :
    ReturnsInHanded {} Try.checked os 4 .any (Rows.labKeepsSpec.pre6 enc Try.prog Try.f4 Rows.labKeepsRow.domain false) (Rows.labKeepsSpec.post enc Try.prog Try.f4 false true false false) := by
  refine returnsInHanded_of_change (C := Try.checked) own started (by kernel_rfl) Try.func4
    (ChangeSpec.witness6 (enc := enc) (C := Try.checked) false ⟨#[], #[.agg #[.slice none 0 0, .slice none 0 0], .int .i64 0, .int .i64 0, .string ⟨#[]⟩, .string ⟨#[]⟩], []⟩ 12 (by kernel_rfl) (by kernel_rfl) (by kernel_rfl) (by kernel_rfl)) ?_
  intro W base args ds gs before hval0 hW hcnd _
  have hval : ∀ (j : Nat) t v, Try.f4.params[j]? = some t → args[j]? = some v → Value.okWide Try.prog W .any base t v := hval0
  have hW' := hW
  obtain ⟨p, q, hA0, hV, rfl, hfz, hnd⟩ := hW
  have hA : DataW.TrodAll enc Try.prog W 0 (fun _ => true) true Try.f4.params.toList args.toList ds p := hA0
  rw [Try.params4] at hA hval
  obtain ⟨v0, vs0, d0, ds0, p0, q0, hargs, rfl, rfl, h0, r0⟩ := trodAll_cons hA
  obtain ⟨v1, vs1, d1, ds1, p1, q1, rfl, rfl, rfl, h1, r1⟩ := trodAll_cons r0
  obtain ⟨v2, vs2, d2, ds2, p2, q2, rfl, rfl, rfl, h2, r2⟩ := trodAll_cons r1
  obtain ⟨v3, vs3, d3, ds3, p3, q3, rfl, rfl, rfl, h3, r3⟩ := trodAll_cons r2
  obtain ⟨v4, vs4, d4, ds4, p4, q4, rfl, rfl, rfl, h4, r4⟩ := trodAll_cons r3
  obtain ⟨rfl, rfl, rfl⟩ := trodAll_nil r4
  obtain rfl : args = #[v0, v1, v2, v3, v4] := by cases args; simp_all
  obtain ⟨rfl, rfl⟩ := trodVars_none hV
  obtain ⟨a0, w0, b0, e0⟩ := rda_0 (enc := enc) base v0 d0 p0 (hval 0 25 v0 rfl rfl) h0
  obtain ⟨a1, w1, b1, e1⟩ := rda_1 (enc := enc) base v1 d1 p1 (hval 1 3 v1 rfl rfl) h1
  obtain ⟨a2, w2, b2, e2⟩ := rda_2 (enc := enc) base v2 d2 p2 (hval 2 3 v2 rfl rfl) h2
  obtain ⟨a3, w3, b3, e3⟩ := rda_3 (enc := enc) base v3 d3 p3 (hval 3 9 v3 rfl rfl) h3
  obtain ⟨a4, w4, b4, e4⟩ := rda_4 (enc := enc) base v4 d4 p4 (hval 4 9 v4 rfl rfl) h4
  obtain ⟨fu, hm⟩ := hall a0 a1 a2 a3 a4 w0 w1 w2 w3 w4
  exact law_post (s := Rows.labKeepsSpec) (by kernel_rfl) (t := 4) rfl Try.underlying4 (by kernel_rfl) rfl (Instarlaw25_LabKeeps_ok fu a0 a1 a2 a3 a4 true hm) (rdl_cons e0 (rdl_cons e1 (rdl_cons e2 (rdl_cons e3 (rdl_cons e4 (rdl_nil)))))) hW' rfl rfl rfl

theorem step (hall : ∀ (a0 : Script) (a1 : Int) (a2 : Int) (a3 : Bs) (a4 : Bs), wfScript a0 → (wfI .i64) a1 → (wfI .i64) a2 → wfS a3 → wfS a4 → ∃ fu, Instarlaw25_LabKeeps_m fu a0 a1 a2 a3 a4 = some true) : Rows.LabKeepsSaid :=
  OpenClaim.holds_of_wide 4 Try.f4 rfl rfl rfl rfl rfl rfl rfl ⟨rfl, rfl, rfl, rfl, rfl⟩ rfl rfl rfl rfl rfl (by kernel_rfl) Try.func4 (by kernel_rfl)
    (of_decide_eq_true (by kernel_rfl)) (by unfold Func.isWrapper; first | (rw [if_pos (by decide +kernel)]; kernel_rfl) | (rw [if_neg (by decide +kernel)]; exact ⟨rfl, rfl⟩))
    (fun os started H enc _ => lifted hall os started H enc)
end Go.Proofs.Ytcojcgljfgljjaa.WLabKeeps
