/- Models and proofs, printed by emit2.py. -/
import Derived.Test.YtcaepigodglihaaG1
namespace Go.Proofs.Ytcaepigodglihaa
open Go Go.Pw
set_option linter.unusedVariables false

set_option maxHeartbeats 10000000 in
set_option maxRecDepth 100000 in
theorem Instarlaw05_awake_ok (fu : Nat) : ∀ r, Instarlaw05_awake_m fu = some r → DC Try.prog 50 [] (.v (.bool r)) := by
  intro r hr
  refine fc_intro (args := []) (S := []) (N0 := []) (post := fun r p S => p = .v (.bool r) ∧ S = []) Try.func50 rfl rfl hr fun w0 X X0 σ0 => ?_
  refine pw_seq ?_
  refine pw_region ?_
  refine po_evs (T := tab) 1 rfl rfl ?_
  refine po_nil ?_
  refine pn_seq ?_
  refine pw_seq ?_
  refine pw_region ?_
  refine po_call (enc := fun (r1 : (Forest × Int)) => .tup [.agg (cForest r1.1), .v (.int .i64 r1.2)]) (qs := [.v (.int .i64 5)]) (Forest_New_ok fu 5) rfl rfl ⟨⟨_, rfl, .rfl⟩, trivial⟩ (fun _ => rfl) call17 rfl rfl fun r1 hr1 => ?_
  refine po_evs (T := tab) 3 rfl rfl ?_
  refine po_alloc (T := tab) 1 rfl rfl rfl rfl rfl rfl rfl rfl rfl ?_
  refine po_store (T := tab) rfl rfl rfl rfl rfl rfl rfl rfl rfl rfl rfl rfl ?_
  refine po_evs (T := tab) 1 rfl rfl ?_
  refine po_nil ?_
  refine pn_seq ?_
  refine pw_seq ?_
  refine pw_region ?_
  refine po_evs (T := tab) 1 rfl rfl ?_
  refine po_build (T := tab) rfl rfl rfl rfl rfl rfl rfl ?_
  refine po_call (enc := fun (r2 : (Forest × Int × Int)) => .tup [.agg (cForest r2.1), .v (.int .i64 r2.2.1), .v (.int .i64 r2.2.2)]) (qs := [.agg (cForest r1.1), .agg (cNode (⟨1, [112], [], [], [], 0, [], 0, 0, 0⟩ : Node))]) (Forest_Make_ok fu r1.1 (⟨1, [112], [], [], [], 0, [], 0, 0, 0⟩ : Node)) rfl rfl ⟨⟨_, rfl, .rfl⟩, ⟨_, rfl, (.agg ⟨.rfl, .rfl, .rfl, .rfl, .nil, .rfl, .nil, .rfl, .rfl, .rfl, trivial⟩)⟩, trivial⟩ (fun _ => rfl) call18 rfl rfl fun r2 hr2 => ?_
  refine po_evs (T := tab) 4 rfl rfl ?_
  refine po_store (T := tab) rfl rfl rfl rfl rfl rfl rfl rfl rfl rfl rfl rfl ?_
  refine po_evs (T := tab) 2 rfl rfl ?_
  refine po_nil ?_
  refine pn_seq ?_
  refine pw_seq ?_
  refine pw_region ?_
  refine po_evs (T := tab) 1 rfl rfl ?_
  refine po_build (T := tab) rfl rfl rfl rfl rfl rfl rfl ?_
  refine po_call (enc := fun (r3 : (Forest × Int × Int)) => .tup [.agg (cForest r3.1), .v (.int .i64 r3.2.1), .v (.int .i64 r3.2.2)]) (qs := [.agg (cForest r2.1), .agg (cNode (⟨2, [], [], [], [], 0, [], 0, 0, 0⟩ : Node))]) (Forest_Make_ok fu r2.1 (⟨2, [], [], [], [], 0, [], 0, 0, 0⟩ : Node)) rfl rfl ⟨⟨_, rfl, .rfl⟩, ⟨_, rfl, (.agg ⟨.rfl, .rfl, .rfl, .rfl, .nil, .rfl, .nil, .rfl, .rfl, .rfl, trivial⟩)⟩, trivial⟩ (fun _ => rfl) call18 rfl rfl fun r3 hr3 => ?_
  refine po_evs (T := tab) 4 rfl rfl ?_
  refine po_store (T := tab) rfl rfl rfl rfl rfl rfl rfl rfl rfl rfl rfl rfl ?_
  refine po_evs (T := tab) 2 rfl rfl ?_
  refine po_nil ?_
  refine pn_seq ?_
  refine pw_seq ?_
  refine pw_region ?_
  refine po_evs (T := tab) 3 rfl rfl ?_
  refine po_split (j := 27) rfl ?_ ?_
  · refine po_evs (T := tab) 4 rfl rfl ?_
    refine po_split (j := 31) rfl ?_ ?_
    · refine po_evs (T := tab) 4 rfl rfl ?_
      refine po_split (j := 35) rfl ?_ ?_
      · refine po_evs (T := tab) 2 rfl rfl ?_
        refine po_call (enc := fun (r4 : Int) => .v (.int .i64 r4)) (qs := [.agg (cForest r3.1), .v (.int .i64 r2.2.1), .v (.int .i64 0), .v (.int .i64 (-1))]) (Valid_May_ok fu r3.1 r2.2.1 0 (-1)) rfl rfl ⟨⟨_, rfl, .rfl⟩, ⟨_, rfl, .rfl⟩, ⟨_, rfl, .rfl⟩, ⟨_, rfl, .rfl⟩, trivial⟩ (fun _ => rfl) call52 rfl rfl fun r4 hr4 => ?_
        refine po_evs (T := tab) 3 rfl rfl ?_
        refine po_split (j := 41) rfl ?_ ?_
        · refine po_evs (T := tab) 2 rfl rfl ?_
          refine po_call (enc := fun (r5 : Int) => .v (.int .i64 r5)) (qs := [.agg (cForest r3.1), .v (.int .i64 r3.2.1), .v (.int .i64 0), .v (.int .i64 (-1))]) (Valid_May_ok fu r3.1 r3.2.1 0 (-1)) rfl rfl ⟨⟨_, rfl, .rfl⟩, ⟨_, rfl, .rfl⟩, ⟨_, rfl, .rfl⟩, ⟨_, rfl, .rfl⟩, trivial⟩ (fun _ => rfl) call52 rfl rfl fun r5 hr5 => ?_
          refine po_evs (T := tab) 3 rfl rfl ?_
          refine po_split (j := 47) rfl ?_ ?_
          · refine po_evs (T := tab) 3 rfl rfl ?_
            refine po_call (enc := fun (r6 : Int) => .v (.int .i64 r6)) (qs := [.agg (cForest r3.1), .v (.int .i64 r3.2.1), .v (.int .i64 r2.2.1), .v (.int .i64 0)]) (Valid_May_ok fu r3.1 r3.2.1 r2.2.1 0) rfl rfl ⟨⟨_, rfl, .rfl⟩, ⟨_, rfl, .rfl⟩, ⟨_, rfl, .rfl⟩, ⟨_, rfl, .rfl⟩, trivial⟩ (fun _ => rfl) call52 rfl rfl fun r6 hr6 => ?_
            refine po_evs (T := tab) 3 rfl rfl ?_
            refine po_split (j := 54) rfl ?_ ?_
            · refine po_evs (T := tab) 3 rfl rfl ?_
              refine po_call (enc := fun (r7 : Int) => .v (.int .i64 r7)) (qs := [.agg (cForest r3.1), .v (.int .i64 r3.2.1), .v (.int .i64 r2.2.1), .v (.int .i64 (-1))]) (Valid_Swap_ok fu r3.1 r3.2.1 r2.2.1 (-1)) rfl rfl ⟨⟨_, rfl, .rfl⟩, ⟨_, rfl, .rfl⟩, ⟨_, rfl, .rfl⟩, ⟨_, rfl, .rfl⟩, trivial⟩ (fun _ => rfl) call51 rfl rfl fun r7 hr7 => ?_
              refine po_evs (T := tab) 3 rfl rfl ?_
              refine po_split (j := 61) rfl ?_ ?_
              · refine po_evs (T := tab) 2 rfl rfl ?_
                refine po_call (enc := fun (r8 : (List Int)) => .sl 1 false (r8.map cInt_i64)) (qs := [.agg (cForest r3.1), .v (.int .i64 r2.2.1)]) (Valid_Parts_ok fu r3.1 r2.2.1) rfl rfl ⟨⟨_, rfl, .rfl⟩, ⟨_, rfl, .rfl⟩, trivial⟩ (fun _ => rfl) call55 rfl rfl fun r8 hr8 => ?_
                refine po_len (T := tab) cInt_i64 r8 rfl rfl rfl rfl rfl rfl rfl rfl ?_
                refine po_evs (T := tab) 3 rfl rfl ?_
                refine po_split (j := 68) rfl ?_ ?_
                · refine po_evs (T := tab) 3 rfl rfl ?_
                  refine po_call (enc := fun (r9 : Int) => .v (.int .i64 r9)) (qs := [.agg (cForest r3.1), .v (.int .i64 r3.2.1), .v (.int .i64 r2.2.1), .v (.int .i64 (-1))]) (Valid_Before_ok fu r3.1 r3.2.1 r2.2.1 (-1)) rfl rfl ⟨⟨_, rfl, .rfl⟩, ⟨_, rfl, .rfl⟩, ⟨_, rfl, .rfl⟩, ⟨_, rfl, .rfl⟩, trivial⟩ (fun _ => rfl) call78 rfl rfl fun r9 hr9 => ?_
                  refine po_evs (T := tab) 3 rfl rfl ?_
                  refine po_nil ?_
                  refine pn_seq ?_
                  exact pw_retN (T := tab) rfl rfl rfl ⟨rfl, rfl⟩ trivial rfl
                · refine po_evs (T := tab) 7 rfl rfl ?_
                  refine po_nil ?_
                  refine pn_seq ?_
                  exact pw_retN (T := tab) rfl rfl rfl ⟨rfl, rfl⟩ trivial rfl
              · refine po_evs (T := tab) 14 rfl rfl ?_
                refine po_nil ?_
                refine pn_seq ?_
                exact pw_retN (T := tab) rfl rfl rfl ⟨rfl, rfl⟩ trivial rfl
            · refine po_evs (T := tab) 21 rfl rfl ?_
              refine po_nil ?_
              refine pn_seq ?_
              exact pw_retN (T := tab) rfl rfl rfl ⟨rfl, rfl⟩ trivial rfl
          · refine po_evs (T := tab) 28 rfl rfl ?_
            refine po_nil ?_
            refine pn_seq ?_
            exact pw_retN (T := tab) rfl rfl rfl ⟨rfl, rfl⟩ trivial rfl
        · refine po_evs (T := tab) 34 rfl rfl ?_
          refine po_nil ?_
          refine pn_seq ?_
          exact pw_retN (T := tab) rfl rfl rfl ⟨rfl, rfl⟩ trivial rfl
      · refine po_evs (T := tab) 40 rfl rfl ?_
        refine po_nil ?_
        refine pn_seq ?_
        exact pw_retN (T := tab) rfl rfl rfl ⟨rfl, rfl⟩ trivial rfl
    · refine po_evs (T := tab) 44 rfl rfl ?_
      refine po_nil ?_
      refine pn_seq ?_
      exact pw_retN (T := tab) rfl rfl rfl ⟨rfl, rfl⟩ trivial rfl
  · refine po_evs (T := tab) 48 rfl rfl ?_
    refine po_nil ?_
    refine pn_seq ?_
    exact pw_retN (T := tab) rfl rfl rfl ⟨rfl, rfl⟩ trivial rfl

def Instarref03_Short_l1 (f1 : Forest) : Nat → Int → Option Bool
  | 0, _ => none
  | k1 + 1, i2 => cnd (decide (i2 < ((f1.Nodes.length : Nat) : Int))) (bnd (idx f1.Nodes i2) fun y3 => cnd (decide (((y3.Kids.length : Nat) : Int) > 60)) (some false) (bnd (idx f1.Nodes i2) fun y4 => cnd (decide (((y4.Attrs.length : Nat) : Int) > 60)) (some false) (bnd (idx f1.Nodes i2) fun y5 => cnd (decide (((y5.Name.length : Nat) : Int) > 300)) (some false) (bnd (rng .i64 (i2 + 1)) fun i6 => (Instarref03_Short_l1 f1 k1) i6)))) (some true)

def Instarref03_Short_m (fu : Nat) (f1 : Forest) : Option Bool := cnd (decide (((f1.Nodes.length : Nat) : Int) > 60)) (some false) ((Instarref03_Short_l1 f1) fu 0)

set_option maxHeartbeats 10000000 in
set_option maxRecDepth 100000 in
theorem Instarref03_Short_ok (fu : Nat) (f1 : Forest) : ∀ r, Instarref03_Short_m fu f1 = some r → DC Try.prog 15 [.agg (cForest f1)] (.v (.bool r)) := by
  intro r hr
  refine fc_intro (args := [.agg (cForest f1)]) (S := []) (N0 := []) (post := fun r p S => p = .v (.bool r) ∧ S = []) Try.func15 rfl rfl hr fun w0 X X0 σ0 => ?_
  refine pw_seq ?_
  refine pw_region ?_
  refine po_box  1 rfl rfl rfl rfl rfl rfl rfl rfl rfl rfl ?_
  refine po_evs (T := tab) 1 rfl rfl ?_
  refine po_nil ?_
  refine pn_seq ?_
  refine pw_seq ?_
  refine pw_seq ?_
  refine pw_region ?_
  refine po_evs (T := tab) 2 rfl rfl ?_
  refine po_len (T := tab) cNode f1.Nodes rfl rfl rfl rfl rfl rfl rfl rfl ?_
  refine po_evs (T := tab) 1 rfl rfl ?_
  refine po_nil ?_
  refine pn_seq ?_
  refine pw_cnd rfl ?_ ?_
  · refine pw_seq ?_
    refine pw_region ?_
    refine po_evs (T := tab) 1 rfl rfl ?_
    refine po_nil ?_
    refine pn_seq ?_
    exact pw_retN (T := tab) rfl rfl rfl ⟨rfl, rfl⟩ trivial rfl
  · refine pw_skip ?_
    refine pn_seq ?_
    refine pw_seq ?_
    refine pw_seq ?_
    refine pw_region ?_
    refine po_evs (T := tab) 1 rfl rfl ?_
    refine po_nil ?_
    refine pn_seq ?_
    refine pw_block ?_
    refine pw_loop' (Instarref03_Short_l1 f1) (fun (i2 : Int) => [(1, .loc 1 0), (3, .v (.int .i64 i2))]) (fun (i2 : Int) => [(1, .box [.sl 10 false (f1.Nodes.map cNode), .v (.int .i64 f1.Most)])]) fu 0 (fun _ => rfl) ⟨rfl, rfl, trivial⟩ ⟨rfl, trivial⟩ rfl ?_
    rintro k1 i2
    refine pw_seq ?_
    refine pw_seq ?_
    refine pw_region ?_
    refine po_evs (T := tab) 3 rfl rfl ?_
    refine po_len (T := tab) cNode f1.Nodes rfl rfl rfl rfl rfl rfl rfl rfl ?_
    refine po_evs (T := tab) 1 rfl rfl ?_
    refine po_nil ?_
    refine pn_seq ?_
    refine pw_cnd rfl ?_ ?_
    · refine pw_skip ?_
      refine pn_seq ?_
      refine pw_seq ?_
      refine pw_block ?_
      refine pw_seq ?_
      refine pw_region ?_
      refine po_evs (T := tab) 3 rfl rfl ?_
      refine po_idx (T := tab) cNode f1.Nodes rfl rfl rfl rfl rfl rfl rfl fun y3 hy3 => ?_
      refine po_evs (T := tab) 2 rfl rfl ?_
      refine po_len (T := tab) cInt_i64 y3.Kids rfl rfl rfl rfl rfl rfl rfl rfl ?_
      refine po_evs (T := tab) 2 rfl rfl ?_
      refine po_split (j := 23) rfl ?_ ?_
      · refine po_evs (T := tab) 19 rfl rfl ?_
        refine po_nil ?_
        refine pn_seq (pw_then rfl ?_)
        refine pw_seq ?_
        refine pw_region ?_
        refine po_evs (T := tab) 1 rfl rfl ?_
        refine po_nil ?_
        refine pn_seq ?_
        exact pw_retN (T := tab) rfl rfl rfl ⟨rfl, rfl⟩ trivial rfl
      · refine po_evs (T := tab) 3 rfl rfl ?_
        refine po_idx (T := tab) cNode f1.Nodes rfl rfl rfl rfl rfl rfl rfl fun y4 hy4 => ?_
        refine po_evs (T := tab) 2 rfl rfl ?_
        refine po_len (T := tab) cAttr y4.Attrs rfl rfl rfl rfl rfl rfl rfl rfl ?_
        refine po_evs (T := tab) 3 rfl rfl ?_
        refine po_split (j := 33) rfl ?_ ?_
        · refine po_evs (T := tab) 9 rfl rfl ?_
          refine po_nil ?_
          refine pn_seq (pw_then rfl ?_)
          refine pw_seq ?_
          refine pw_region ?_
          refine po_evs (T := tab) 1 rfl rfl ?_
          refine po_nil ?_
          refine pn_seq ?_
          exact pw_retN (T := tab) rfl rfl rfl ⟨rfl, rfl⟩ trivial rfl
        · refine po_evs (T := tab) 3 rfl rfl ?_
          refine po_idx (T := tab) cNode f1.Nodes rfl rfl rfl rfl rfl rfl rfl fun y5 hy5 => ?_
          refine po_evs (T := tab) 5 rfl rfl ?_
          refine po_nil ?_
          refine pn_seq ?_
          refine pw_cnd rfl ?_ ?_
          · refine pw_seq ?_
            refine pw_region ?_
            refine po_evs (T := tab) 1 rfl rfl ?_
            refine po_nil ?_
            refine pn_seq ?_
            exact pw_retN (T := tab) rfl rfl rfl ⟨rfl, rfl⟩ trivial rfl
          · refine pw_skip ?_
            refine pn_block ?_
            refine pn_seq ?_
            refine pw_region ?_
            refine po_evs (T := tab) 1 rfl rfl ?_
            refine po_arith' (T := tab) rfl rfl rfl rfl fun i6 hi6 => ?_
            refine po_evs (T := tab) 1 rfl rfl ?_
            refine po_nil ?_
            exact pn_iter' i6 ⟨rfl, rfl, trivial⟩ ⟨rfl, trivial⟩ rfl
    · refine pw_exit rfl ?_
      refine pn_seq ?_
      refine pw_seq ?_
      refine pw_region ?_
      refine po_evs (T := tab) 1 rfl rfl ?_
      refine po_nil ?_
      refine pn_seq ?_
      exact pw_retN (T := tab) rfl rfl rfl ⟨rfl, rfl⟩ trivial rfl

def Instarlaw05_ValidFree_j3 (fu : Nat) (f1 : Forest) (m9 : Int) (m11 : Int) (m13 : Int) (x_ : Unit) : Option Bool := bnd (idx f1.Nodes m13) fun y24 => cnd (y24.Parent == m11) (some true) (bnd (Valid_May_m fu f1 m9 m11 m13) fun r25 => cnd (r25 != 0) (bnd (Valid_Swap_m fu f1 m9 m11 m13) fun r26 => some (r26 != 0)) (some false))

def Instarlaw05_ValidFree_j2 (fu : Nat) (f1 : Forest) (m9 : Int) (m11 : Int) (m13 : Int) (y14 : Node) (y15 : Node) (r16 : Int) (below17 : Bool) (holds18 : Bool) : Option Bool := cnd below17 (cnd holds18 (bnd (Shade_Over_m fu f1 m9 m11) fun r19 => cnd (!r19) (cnd (r16 != 0) (some false) (cnd (y14.Kind == 0) (cnd (r16 != 5) (some false) ((Instarlaw05_ValidFree_j3 fu f1 m9 m11 m13) ())) (cnd (y14.Kind == 4) (cnd (r16 != 5) (some false) ((Instarlaw05_ValidFree_j3 fu f1 m9 m11 m13) ())) (cnd (y15.Kind == 2) (cnd (r16 != 5) (some false) ((Instarlaw05_ValidFree_j3 fu f1 m9 m11 m13) ())) (bnd (Shade_Over_m fu f1 m9 m11) fun r20 => cnd r20 (cnd (r16 != 5) (some false) ((Instarlaw05_ValidFree_j3 fu f1 m9 m11 m13) ())) ((Instarlaw05_ValidFree_j3 fu f1 m9 m11 m13) ())))))) (cnd (y14.Kind == 0) (cnd (r16 != 5) (some false) ((Instarlaw05_ValidFree_j3 fu f1 m9 m11 m13) ())) (cnd (y14.Kind == 4) (cnd (r16 != 5) (some false) ((Instarlaw05_ValidFree_j3 fu f1 m9 m11 m13) ())) (cnd (y15.Kind == 2) (cnd (r16 != 5) (some false) ((Instarlaw05_ValidFree_j3 fu f1 m9 m11 m13) ())) (bnd (Shade_Over_m fu f1 m9 m11) fun r21 => cnd r21 (cnd (r16 != 5) (some false) ((Instarlaw05_ValidFree_j3 fu f1 m9 m11 m13) ())) ((Instarlaw05_ValidFree_j3 fu f1 m9 m11 m13) ())))))) (cnd (y14.Kind == 0) (cnd (r16 != 5) (some false) ((Instarlaw05_ValidFree_j3 fu f1 m9 m11 m13) ())) (cnd (y14.Kind == 4) (cnd (r16 != 5) (some false) ((Instarlaw05_ValidFree_j3 fu f1 m9 m11 m13) ())) (cnd (y15.Kind == 2) (cnd (r16 != 5) (some false) ((Instarlaw05_ValidFree_j3 fu f1 m9 m11 m13) ())) (bnd (Shade_Over_m fu f1 m9 m11) fun r22 => cnd r22 (cnd (r16 != 5) (some false) ((Instarlaw05_ValidFree_j3 fu f1 m9 m11 m13) ())) ((Instarlaw05_ValidFree_j3 fu f1 m9 m11 m13) ())))))) (cnd (y14.Kind == 0) (cnd (r16 != 5) (some false) ((Instarlaw05_ValidFree_j3 fu f1 m9 m11 m13) ())) (cnd (y14.Kind == 4) (cnd (r16 != 5) (some false) ((Instarlaw05_ValidFree_j3 fu f1 m9 m11 m13) ())) (cnd (y15.Kind == 2) (cnd (r16 != 5) (some false) ((Instarlaw05_ValidFree_j3 fu f1 m9 m11 m13) ())) (bnd (Shade_Over_m fu f1 m9 m11) fun r23 => cnd r23 (cnd (r16 != 5) (some false) ((Instarlaw05_ValidFree_j3 fu f1 m9 m11 m13) ())) ((Instarlaw05_ValidFree_j3 fu f1 m9 m11 m13) ())))))

def Instarlaw05_ValidFree_j1 (fu : Nat) (f1 : Forest) (m9 : Int) (m11 : Int) (m13 : Int) (y14 : Node) (y15 : Node) (r16 : Int) (below17 : Bool) : Option Bool := cnd (y15.Kind == 1) ((Instarlaw05_ValidFree_j2 fu f1 m9 m11 m13 y14 y15 r16 below17) true) (cnd (y15.Kind == 3) ((Instarlaw05_ValidFree_j2 fu f1 m9 m11 m13 y14 y15 r16 below17) true) ((Instarlaw05_ValidFree_j2 fu f1 m9 m11 m13 y14 y15 r16 below17) (y15.Kind == 4)))

def Instarlaw05_ValidFree_m (fu : Nat) (f1 : Forest) (a2 : Int) (b3 : Int) (c4 : Int) : Option Bool := bnd (Instarlaw05_awake_m fu) fun r5 => cnd (!r5) (some false) (bnd (Instarref03_Short_m fu f1) fun r6 => cnd (!r6) (some true) (bnd (Forest_Right_m fu f1) fun r7 => cnd (!r7) (some true) (bnd (rng .i64 a2) fun i8 => bnd (remI i8 ((f1.Nodes.length : Nat) : Int)) fun m9 => bnd (rng .i64 b3) fun i10 => bnd (remI i10 ((f1.Nodes.length : Nat) : Int)) fun m11 => bnd (rng .i64 c4) fun i12 => bnd (remI i12 ((f1.Nodes.length : Nat) : Int)) fun m13 => bnd (idx f1.Nodes m9) fun y14 => bnd (idx f1.Nodes m11) fun y15 => bnd (Valid_May_m fu f1 m9 m11 (-1)) fun r16 => cnd (y14.Kind == 1) ((Instarlaw05_ValidFree_j1 fu f1 m9 m11 m13 y14 y15 r16) true) ((Instarlaw05_ValidFree_j1 fu f1 m9 m11 m13 y14 y15 r16) (y14.Kind == 2)))))

set_option maxHeartbeats 10000000 in
set_option maxRecDepth 100000 in
theorem Instarlaw05_ValidFree_ok (fu : Nat) (f1 : Forest) (a2 : Int) (b3 : Int) (c4 : Int) : ∀ r, Instarlaw05_ValidFree_m fu f1 a2 b3 c4 = some r → DC Try.prog 9 [.agg (cForest f1), .v (.int .u8 a2), .v (.int .u8 b3), .v (.int .u8 c4)] (.v (.bool r)) := by
  intro r hr
  refine fc_intro (args := [.agg (cForest f1), .v (.int .u8 a2), .v (.int .u8 b3), .v (.int .u8 c4)]) (S := []) (N0 := []) (post := fun r p S => p = .v (.bool r) ∧ S = []) Try.func9 rfl rfl hr fun w0 X X0 σ0 => ?_
  refine pw_seq ?_
  refine pw_region ?_
  refine po_box  4 rfl rfl rfl rfl rfl rfl rfl rfl rfl rfl ?_
  refine po_evs (T := tab) 1 rfl rfl ?_
  refine po_nil ?_
  refine pn_seq ?_
  refine pw_seq ?_
  refine pw_seq ?_
  refine pw_region ?_
  refine po_call (enc := fun (r5 : Bool) => .v (.bool r5)) (qs := []) (Instarlaw05_awake_ok fu) rfl rfl trivial (fun _ => rfl) call50 rfl rfl fun r5 hr5 => ?_
  refine po_evs (T := tab) 1 rfl rfl ?_
  refine po_nil ?_
  refine pn_seq ?_
  refine pw_cnd rfl ?_ ?_
  · refine pw_seq ?_
    refine pw_region ?_
    refine po_evs (T := tab) 1 rfl rfl ?_
    refine po_nil ?_
    refine pn_seq ?_
    exact pw_retN (T := tab) rfl rfl rfl ⟨rfl, rfl⟩ trivial rfl
  · refine pw_skip ?_
    refine pn_seq ?_
    refine pw_seq ?_
    refine pw_seq ?_
    refine pw_region ?_
    refine po_evs (T := tab) 1 rfl rfl ?_
    refine po_call (enc := fun (r6 : Bool) => .v (.bool r6)) (qs := [.agg (cForest f1)]) (Instarref03_Short_ok fu f1) rfl rfl ⟨⟨_, rfl, .rfl⟩, trivial⟩ (fun _ => rfl) call15 rfl rfl fun r6 hr6 => ?_
    refine po_evs (T := tab) 2 rfl rfl ?_
    refine po_split (j := 22) rfl ?_ ?_
    · refine po_evs (T := tab) 4 rfl rfl ?_
      refine po_nil ?_
      refine pn_seq (pw_then rfl ?_)
      refine pw_seq ?_
      refine pw_region ?_
      refine po_evs (T := tab) 1 rfl rfl ?_
      refine po_nil ?_
      refine pn_seq ?_
      exact pw_retN (T := tab) rfl rfl rfl ⟨rfl, rfl⟩ trivial rfl
    · refine po_evs (T := tab) 1 rfl rfl ?_
      refine po_call (enc := fun (r7 : Bool) => .v (.bool r7)) (qs := [.agg (cForest f1)]) (Forest_Right_ok fu f1) rfl rfl ⟨⟨_, rfl, .rfl⟩, trivial⟩ (fun _ => rfl) call19 rfl rfl fun r7 hr7 => ?_
      refine po_evs (T := tab) 2 rfl rfl ?_
      refine po_nil ?_
      refine pn_seq ?_
      refine pw_cnd rfl ?_ ?_
      · refine pw_seq ?_
        refine pw_region ?_
        refine po_evs (T := tab) 1 rfl rfl ?_
        refine po_nil ?_
        refine pn_seq ?_
        exact pw_retN (T := tab) rfl rfl rfl ⟨rfl, rfl⟩ trivial rfl
      · refine pw_skip ?_
        refine pn_seq ?_
        refine pw_seq ?_
        refine pw_draw mixed (by kernel_rfl) ?_
        refine pd_evs (T := tab) 1 rfl rfl ?_
        refine pd_arith (T := tab) rfl rfl rfl rfl fun i8 hi8 => ?_
        refine pd_evs (T := tab) 2 rfl rfl ?_
        refine pd_len (T := tab) cNode f1.Nodes rfl rfl rfl rfl rfl rfl rfl rfl ?_
        refine pd_rem rfl rfl rfl rfl rfl rfl fun m9 hm9 => ?_
        refine pd_evs (T := tab) 1 rfl rfl ?_
        refine pd_arith (T := tab) rfl rfl rfl rfl fun i10 hi10 => ?_
        refine pd_evs (T := tab) 2 rfl rfl ?_
        refine pd_len (T := tab) cNode f1.Nodes rfl rfl rfl rfl rfl rfl rfl rfl ?_
        refine pd_rem rfl rfl rfl rfl rfl rfl fun m11 hm11 => ?_
        refine pd_evs (T := tab) 1 rfl rfl ?_
        refine pd_arith (T := tab) rfl rfl rfl rfl fun i12 hi12 => ?_
        refine pd_evs (T := tab) 2 rfl rfl ?_
        refine pd_len (T := tab) cNode f1.Nodes rfl rfl rfl rfl rfl rfl rfl rfl ?_
        refine pd_rem rfl rfl rfl rfl rfl rfl fun m13 hm13 => ?_
        refine pd_evs (T := tab) 3 rfl rfl ?_
        refine pd_nil ?_
        refine pn_seq ?_
        refine pw_seq ?_
        refine pw_draw mixed (by kernel_rfl) ?_
        refine pd_evs (T := tab) 3 rfl rfl ?_
        refine pd_idx (T := tab) cNode f1.Nodes rfl rfl rfl rfl rfl rfl rfl fun y14 hy14 => ?_
        refine pd_evs (T := tab) 5 rfl rfl ?_
        refine pd_idx (T := tab) cNode f1.Nodes rfl rfl rfl rfl rfl rfl rfl fun y15 hy15 => ?_
        refine pd_evs (T := tab) 4 rfl rfl ?_
        refine pd_nil ?_
        refine pn_seq ?_
        refine pw_seq ?_
        refine pw_region ?_
        refine po_evs (T := tab) 3 rfl rfl ?_
        refine po_call (enc := fun (r16 : Int) => .v (.int .i64 r16)) (qs := [.agg (cForest f1), .v (.int .i64 m9), .v (.int .i64 m11), .v (.int .i64 (-1))]) (Valid_May_ok fu f1 m9 m11 (-1)) rfl rfl ⟨⟨_, rfl, .rfl⟩, ⟨_, rfl, .rfl⟩, ⟨_, rfl, .rfl⟩, ⟨_, rfl, .rfl⟩, trivial⟩ (fun _ => rfl) call52 rfl rfl fun r16 hr16 => ?_
        refine po_evs (T := tab) 1 rfl rfl ?_
        refine po_nil ?_
        refine pn_seq ?_
        refine pw_seq ?_
        refine pw_region ?_
        refine po_joinK (Instarlaw05_ValidFree_j1 fu f1 m9 m11 m13 y14 y15 r16) (fun (below17 : Bool) => [(4, .loc 4 0), (9, .v (.int .i64 m9)), (10, .v (.int .i64 m11)), (11, .v (.int .i64 m13)), (12, .v (.int .i64 y14.Kind)), (13, .v (.int .i64 y15.Kind)), (14, .v (.int .i64 r16)), (15, .v (.bool below17))]) (fun (below17 : Bool) => [(4, .box [.sl 10 false (f1.Nodes.map cNode), .v (.int .i64 f1.Most)])]) ?_ fun hj1 => ?_
        · rintro below17
          refine pn_seq ?_
          refine pw_seq ?_
          refine pw_region ?_
          refine po_joinK (Instarlaw05_ValidFree_j2 fu f1 m9 m11 m13 y14 y15 r16 below17) (fun (holds18 : Bool) => [(4, .loc 4 0), (9, .v (.int .i64 m9)), (10, .v (.int .i64 m11)), (11, .v (.int .i64 m13)), (12, .v (.int .i64 y14.Kind)), (13, .v (.int .i64 y15.Kind)), (14, .v (.int .i64 r16)), (15, .v (.bool below17)), (16, .v (.bool holds18))]) (fun (holds18 : Bool) => [(4, .box [.sl 10 false (f1.Nodes.map cNode), .v (.int .i64 f1.Most)])]) ?_ fun hj2 => ?_
          · rintro holds18
            refine pn_seq ?_
            refine pw_seq ?_
            refine pw_seq ?_
            refine pw_region ?_
            refine po_joinB (Instarlaw05_ValidFree_j3 fu f1 m9 m11 m13) (fun (_ : Unit) => [(4, .loc 4 0), (9, .v (.int .i64 m9)), (10, .v (.int .i64 m11)), (11, .v (.int .i64 m13))]) (fun (_ : Unit) => [(4, .box [.sl 10 false (f1.Nodes.map cNode), .v (.int .i64 f1.Most)])]) ?_ fun hj3 => ?_
            · rintro _
              refine pn_seq ?_
              refine pw_seq ?_
              refine pw_region ?_
              refine po_evs (T := tab) 3 rfl rfl ?_
              refine po_idx (T := tab) cNode f1.Nodes rfl rfl rfl rfl rfl rfl rfl fun y24 hy24 => ?_
              refine po_evs (T := tab) 5 rfl rfl ?_
              refine po_split (j := 122) rfl ?_ ?_
              · refine po_evs (T := tab) 16 rfl rfl ?_
                refine po_nil ?_
                refine pn_seq ?_
                exact pw_retN (T := tab) rfl rfl rfl ⟨rfl, rfl⟩ trivial rfl
              · refine po_evs (T := tab) 4 rfl rfl ?_
                refine po_call (enc := fun (r25 : Int) => .v (.int .i64 r25)) (qs := [.agg (cForest f1), .v (.int .i64 m9), .v (.int .i64 m11), .v (.int .i64 m13)]) (Valid_May_ok fu f1 m9 m11 m13) rfl rfl ⟨⟨_, rfl, .rfl⟩, ⟨_, rfl, .rfl⟩, ⟨_, rfl, .rfl⟩, ⟨_, rfl, .rfl⟩, trivial⟩ (fun _ => rfl) call52 rfl rfl fun r25 hr25 => ?_
                refine po_evs (T := tab) 2 rfl rfl ?_
                refine po_split (j := 129) rfl ?_ ?_
                · refine po_evs (T := tab) 4 rfl rfl ?_
                  refine po_call (enc := fun (r26 : Int) => .v (.int .i64 r26)) (qs := [.agg (cForest f1), .v (.int .i64 m9), .v (.int .i64 m11), .v (.int .i64 m13)]) (Valid_Swap_ok fu f1 m9 m11 m13) rfl rfl ⟨⟨_, rfl, .rfl⟩, ⟨_, rfl, .rfl⟩, ⟨_, rfl, .rfl⟩, ⟨_, rfl, .rfl⟩, trivial⟩ (fun _ => rfl) call51 rfl rfl fun r26 hr26 => ?_
                  refine po_evs (T := tab) 4 rfl rfl ?_
                  refine po_nil ?_
                  refine pn_seq ?_
                  exact pw_retN (T := tab) rfl rfl rfl ⟨rfl, rfl⟩ trivial rfl
                · refine po_evs (T := tab) 9 rfl rfl ?_
                  refine po_nil ?_
                  refine pn_seq ?_
                  exact pw_retN (T := tab) rfl rfl rfl ⟨rfl, rfl⟩ trivial rfl
            · refine po_evs (T := tab) 2 rfl rfl ?_
              refine po_split (j := 78) rfl ?_ ?_
              · refine po_evs (T := tab) 3 rfl rfl ?_
                refine po_split (j := 81) rfl ?_ ?_
                · refine po_evs (T := tab) 3 rfl rfl ?_
                  refine po_call (enc := fun (r19 : Bool) => .v (.bool r19)) (qs := [.agg (cForest f1), .v (.int .i64 m9), .v (.int .i64 m11)]) (Shade_Over_ok fu f1 m9 m11) rfl rfl ⟨⟨_, rfl, .rfl⟩, ⟨_, rfl, .rfl⟩, ⟨_, rfl, .rfl⟩, trivial⟩ (fun _ => rfl) call43 rfl rfl fun r19 hr19 => ?_
                  refine po_evs (T := tab) 3 rfl rfl ?_
                  refine po_split (j := 88) rfl ?_ ?_
                  · refine po_evs (T := tab) 4 rfl rfl ?_
                    refine po_split (j := 92) rfl ?_ ?_
                    · refine po_evs (T := tab) 21 rfl rfl ?_
                      refine po_nil ?_
                      refine pn_seq (pw_then rfl ?_)
                      refine pw_seq ?_
                      refine pw_region ?_
                      refine po_evs (T := tab) 1 rfl rfl ?_
                      refine po_nil ?_
                      refine pn_seq ?_
                      exact pw_retN (T := tab) rfl rfl rfl ⟨rfl, rfl⟩ trivial rfl
                    · refine po_evs (T := tab) 3 rfl rfl ?_
                      refine po_split (j := 95) rfl ?_ ?_
                      · refine po_evs (T := tab) 18 rfl rfl ?_
                        refine po_nil ?_
                        refine pn_seq ?_
                        refine pw_cnd rfl ?_ ?_
                        · refine pw_seq ?_
                          refine pw_region ?_
                          refine po_evs (T := tab) 1 rfl rfl ?_
                          refine po_nil ?_
                          refine pn_seq ?_
                          exact pw_retN (T := tab) rfl rfl rfl ⟨rfl, rfl⟩ trivial rfl
                        · refine pw_skip ?_
                          exact pn_sub' (hj3 ()) ⟨rfl, rfl, rfl, rfl, trivial⟩ ⟨rfl, trivial⟩ rfl
                      · refine po_evs (T := tab) 4 rfl rfl ?_
                        refine po_split (j := 99) rfl ?_ ?_
                        · refine po_evs (T := tab) 14 rfl rfl ?_
                          refine po_nil ?_
                          refine pn_seq ?_
                          refine pw_cnd rfl ?_ ?_
                          · refine pw_seq ?_
                            refine pw_region ?_
                            refine po_evs (T := tab) 1 rfl rfl ?_
                            refine po_nil ?_
                            refine pn_seq ?_
                            exact pw_retN (T := tab) rfl rfl rfl ⟨rfl, rfl⟩ trivial rfl
                          · refine pw_skip ?_
                            exact pn_sub' (hj3 ()) ⟨rfl, rfl, rfl, rfl, trivial⟩ ⟨rfl, trivial⟩ rfl
                        · refine po_evs (T := tab) 4 rfl rfl ?_
                          refine po_split (j := 103) rfl ?_ ?_
                          · refine po_evs (T := tab) 10 rfl rfl ?_
                            refine po_nil ?_
                            refine pn_seq ?_
                            refine pw_cnd rfl ?_ ?_
                            · refine pw_seq ?_
                              refine pw_region ?_
                              refine po_evs (T := tab) 1 rfl rfl ?_
                              refine po_nil ?_
                              refine pn_seq ?_
                              exact pw_retN (T := tab) rfl rfl rfl ⟨rfl, rfl⟩ trivial rfl
                            · refine pw_skip ?_
                              exact pn_sub' (hj3 ()) ⟨rfl, rfl, rfl, rfl, trivial⟩ ⟨rfl, trivial⟩ rfl
                          · refine po_evs (T := tab) 3 rfl rfl ?_
                            refine po_call (enc := fun (r20 : Bool) => .v (.bool r20)) (qs := [.agg (cForest f1), .v (.int .i64 m9), .v (.int .i64 m11)]) (Shade_Over_ok fu f1 m9 m11) rfl rfl ⟨⟨_, rfl, .rfl⟩, ⟨_, rfl, .rfl⟩, ⟨_, rfl, .rfl⟩, trivial⟩ (fun _ => rfl) call43 rfl rfl fun r20 hr20 => ?_
                            refine po_evs (T := tab) 2 rfl rfl ?_
                            refine po_split (j := 109) rfl ?_ ?_
                            · refine po_evs (T := tab) 4 rfl rfl ?_
                              refine po_nil ?_
                              refine pn_seq ?_
                              refine pw_cnd rfl ?_ ?_
                              · refine pw_seq ?_
                                refine pw_region ?_
                                refine po_evs (T := tab) 1 rfl rfl ?_
                                refine po_nil ?_
                                refine pn_seq ?_
                                exact pw_retN (T := tab) rfl rfl rfl ⟨rfl, rfl⟩ trivial rfl
                              · refine pw_skip ?_
                                exact pn_sub' (hj3 ()) ⟨rfl, rfl, rfl, rfl, trivial⟩ ⟨rfl, trivial⟩ rfl
                            · refine po_evs (T := tab) 4 rfl rfl ?_
                              refine po_nil ?_
                              refine pn_seq (pw_else rfl ?_)
                              refine pw_skip ?_
                              exact pn_sub' (hj3 ()) ⟨rfl, rfl, rfl, rfl, trivial⟩ ⟨rfl, trivial⟩ rfl
                  · refine po_evs (T := tab) 7 rfl rfl ?_
                    refine po_split (j := 95) rfl ?_ ?_
                    · refine po_evs (T := tab) 18 rfl rfl ?_
                      refine po_nil ?_
                      refine pn_seq ?_
                      refine pw_cnd rfl ?_ ?_
                      · refine pw_seq ?_
                        refine pw_region ?_
                        refine po_evs (T := tab) 1 rfl rfl ?_
                        refine po_nil ?_
                        refine pn_seq ?_
                        exact pw_retN (T := tab) rfl rfl rfl ⟨rfl, rfl⟩ trivial rfl
                      · refine pw_skip ?_
                        exact pn_sub' (hj3 ()) ⟨rfl, rfl, rfl, rfl, trivial⟩ ⟨rfl, trivial⟩ rfl
                    · refine po_evs (T := tab) 4 rfl rfl ?_
                      refine po_split (j := 99) rfl ?_ ?_
                      · refine po_evs (T := tab) 14 rfl rfl ?_
                        refine po_nil ?_
                        refine pn_seq ?_
                        refine pw_cnd rfl ?_ ?_
                        · refine pw_seq ?_
                          refine pw_region ?_
                          refine po_evs (T := tab) 1 rfl rfl ?_
                          refine po_nil ?_
                          refine pn_seq ?_
                          exact pw_retN (T := tab) rfl rfl rfl ⟨rfl, rfl⟩ trivial rfl
                        · refine pw_skip ?_
                          exact pn_sub' (hj3 ()) ⟨rfl, rfl, rfl, rfl, trivial⟩ ⟨rfl, trivial⟩ rfl
                      · refine po_evs (T := tab) 4 rfl rfl ?_
                        refine po_split (j := 103) rfl ?_ ?_
                        · refine po_evs (T := tab) 10 rfl rfl ?_
                          refine po_nil ?_
                          refine pn_seq ?_
                          refine pw_cnd rfl ?_ ?_
                          · refine pw_seq ?_
                            refine pw_region ?_
                            refine po_evs (T := tab) 1 rfl rfl ?_
                            refine po_nil ?_
                            refine pn_seq ?_
                            exact pw_retN (T := tab) rfl rfl rfl ⟨rfl, rfl⟩ trivial rfl
                          · refine pw_skip ?_
                            exact pn_sub' (hj3 ()) ⟨rfl, rfl, rfl, rfl, trivial⟩ ⟨rfl, trivial⟩ rfl
                        · refine po_evs (T := tab) 3 rfl rfl ?_
                          refine po_call (enc := fun (r21 : Bool) => .v (.bool r21)) (qs := [.agg (cForest f1), .v (.int .i64 m9), .v (.int .i64 m11)]) (Shade_Over_ok fu f1 m9 m11) rfl rfl ⟨⟨_, rfl, .rfl⟩, ⟨_, rfl, .rfl⟩, ⟨_, rfl, .rfl⟩, trivial⟩ (fun _ => rfl) call43 rfl rfl fun r21 hr21 => ?_
                          refine po_evs (T := tab) 2 rfl rfl ?_
                          refine po_split (j := 109) rfl ?_ ?_
                          · refine po_evs (T := tab) 4 rfl rfl ?_
                            refine po_nil ?_
                            refine pn_seq ?_
                            refine pw_cnd rfl ?_ ?_
                            · refine pw_seq ?_
                              refine pw_region ?_
                              refine po_evs (T := tab) 1 rfl rfl ?_
                              refine po_nil ?_
                              refine pn_seq ?_
                              exact pw_retN (T := tab) rfl rfl rfl ⟨rfl, rfl⟩ trivial rfl
                            · refine pw_skip ?_
                              exact pn_sub' (hj3 ()) ⟨rfl, rfl, rfl, rfl, trivial⟩ ⟨rfl, trivial⟩ rfl
                          · refine po_evs (T := tab) 4 rfl rfl ?_
                            refine po_nil ?_
                            refine pn_seq (pw_else rfl ?_)
                            refine pw_skip ?_
                            exact pn_sub' (hj3 ()) ⟨rfl, rfl, rfl, rfl, trivial⟩ ⟨rfl, trivial⟩ rfl
                · refine po_evs (T := tab) 14 rfl rfl ?_
                  refine po_split (j := 95) rfl ?_ ?_
                  · refine po_evs (T := tab) 18 rfl rfl ?_
                    refine po_nil ?_
                    refine pn_seq ?_
                    refine pw_cnd rfl ?_ ?_
                    · refine pw_seq ?_
                      refine pw_region ?_
                      refine po_evs (T := tab) 1 rfl rfl ?_
                      refine po_nil ?_
                      refine pn_seq ?_
                      exact pw_retN (T := tab) rfl rfl rfl ⟨rfl, rfl⟩ trivial rfl
                    · refine pw_skip ?_
                      exact pn_sub' (hj3 ()) ⟨rfl, rfl, rfl, rfl, trivial⟩ ⟨rfl, trivial⟩ rfl
                  · refine po_evs (T := tab) 4 rfl rfl ?_
                    refine po_split (j := 99) rfl ?_ ?_
                    · refine po_evs (T := tab) 14 rfl rfl ?_
                      refine po_nil ?_
                      refine pn_seq ?_
                      refine pw_cnd rfl ?_ ?_
                      · refine pw_seq ?_
                        refine pw_region ?_
                        refine po_evs (T := tab) 1 rfl rfl ?_
                        refine po_nil ?_
                        refine pn_seq ?_
                        exact pw_retN (T := tab) rfl rfl rfl ⟨rfl, rfl⟩ trivial rfl
                      · refine pw_skip ?_
                        exact pn_sub' (hj3 ()) ⟨rfl, rfl, rfl, rfl, trivial⟩ ⟨rfl, trivial⟩ rfl
                    · refine po_evs (T := tab) 4 rfl rfl ?_
                      refine po_split (j := 103) rfl ?_ ?_
                      · refine po_evs (T := tab) 10 rfl rfl ?_
                        refine po_nil ?_
                        refine pn_seq ?_
                        refine pw_cnd rfl ?_ ?_
                        · refine pw_seq ?_
                          refine pw_region ?_
                          refine po_evs (T := tab) 1 rfl rfl ?_
                          refine po_nil ?_
                          refine pn_seq ?_
                          exact pw_retN (T := tab) rfl rfl rfl ⟨rfl, rfl⟩ trivial rfl
                        · refine pw_skip ?_
                          exact pn_sub' (hj3 ()) ⟨rfl, rfl, rfl, rfl, trivial⟩ ⟨rfl, trivial⟩ rfl
                      · refine po_evs (T := tab) 3 rfl rfl ?_
                        refine po_call (enc := fun (r22 : Bool) => .v (.bool r22)) (qs := [.agg (cForest f1), .v (.int .i64 m9), .v (.int .i64 m11)]) (Shade_Over_ok fu f1 m9 m11) rfl rfl ⟨⟨_, rfl, .rfl⟩, ⟨_, rfl, .rfl⟩, ⟨_, rfl, .rfl⟩, trivial⟩ (fun _ => rfl) call43 rfl rfl fun r22 hr22 => ?_
                        refine po_evs (T := tab) 2 rfl rfl ?_
                        refine po_split (j := 109) rfl ?_ ?_
                        · refine po_evs (T := tab) 4 rfl rfl ?_
                          refine po_nil ?_
                          refine pn_seq ?_
                          refine pw_cnd rfl ?_ ?_
                          · refine pw_seq ?_
                            refine pw_region ?_
                            refine po_evs (T := tab) 1 rfl rfl ?_
                            refine po_nil ?_
                            refine pn_seq ?_
                            exact pw_retN (T := tab) rfl rfl rfl ⟨rfl, rfl⟩ trivial rfl
                          · refine pw_skip ?_
                            exact pn_sub' (hj3 ()) ⟨rfl, rfl, rfl, rfl, trivial⟩ ⟨rfl, trivial⟩ rfl
                        · refine po_evs (T := tab) 4 rfl rfl ?_
                          refine po_nil ?_
                          refine pn_seq (pw_else rfl ?_)
                          refine pw_skip ?_
                          exact pn_sub' (hj3 ()) ⟨rfl, rfl, rfl, rfl, trivial⟩ ⟨rfl, trivial⟩ rfl
              · refine po_evs (T := tab) 17 rfl rfl ?_
                refine po_split (j := 95) rfl ?_ ?_
                · refine po_evs (T := tab) 18 rfl rfl ?_
                  refine po_nil ?_
                  refine pn_seq ?_
                  refine pw_cnd rfl ?_ ?_
                  · refine pw_seq ?_
                    refine pw_region ?_
                    refine po_evs (T := tab) 1 rfl rfl ?_
                    refine po_nil ?_
                    refine pn_seq ?_
                    exact pw_retN (T := tab) rfl rfl rfl ⟨rfl, rfl⟩ trivial rfl
                  · refine pw_skip ?_
                    exact pn_sub' (hj3 ()) ⟨rfl, rfl, rfl, rfl, trivial⟩ ⟨rfl, trivial⟩ rfl
                · refine po_evs (T := tab) 4 rfl rfl ?_
                  refine po_split (j := 99) rfl ?_ ?_
                  · refine po_evs (T := tab) 14 rfl rfl ?_
                    refine po_nil ?_
                    refine pn_seq ?_
                    refine pw_cnd rfl ?_ ?_
                    · refine pw_seq ?_
                      refine pw_region ?_
                      refine po_evs (T := tab) 1 rfl rfl ?_
                      refine po_nil ?_
                      refine pn_seq ?_
                      exact pw_retN (T := tab) rfl rfl rfl ⟨rfl, rfl⟩ trivial rfl
                    · refine pw_skip ?_
                      exact pn_sub' (hj3 ()) ⟨rfl, rfl, rfl, rfl, trivial⟩ ⟨rfl, trivial⟩ rfl
                  · refine po_evs (T := tab) 4 rfl rfl ?_
                    refine po_split (j := 103) rfl ?_ ?_
                    · refine po_evs (T := tab) 10 rfl rfl ?_
                      refine po_nil ?_
                      refine pn_seq ?_
                      refine pw_cnd rfl ?_ ?_
                      · refine pw_seq ?_
                        refine pw_region ?_
                        refine po_evs (T := tab) 1 rfl rfl ?_
                        refine po_nil ?_
                        refine pn_seq ?_
                        exact pw_retN (T := tab) rfl rfl rfl ⟨rfl, rfl⟩ trivial rfl
                      · refine pw_skip ?_
                        exact pn_sub' (hj3 ()) ⟨rfl, rfl, rfl, rfl, trivial⟩ ⟨rfl, trivial⟩ rfl
                    · refine po_evs (T := tab) 3 rfl rfl ?_
                      refine po_call (enc := fun (r23 : Bool) => .v (.bool r23)) (qs := [.agg (cForest f1), .v (.int .i64 m9), .v (.int .i64 m11)]) (Shade_Over_ok fu f1 m9 m11) rfl rfl ⟨⟨_, rfl, .rfl⟩, ⟨_, rfl, .rfl⟩, ⟨_, rfl, .rfl⟩, trivial⟩ (fun _ => rfl) call43 rfl rfl fun r23 hr23 => ?_
                      refine po_evs (T := tab) 2 rfl rfl ?_
                      refine po_split (j := 109) rfl ?_ ?_
                      · refine po_evs (T := tab) 4 rfl rfl ?_
                        refine po_nil ?_
                        refine pn_seq ?_
                        refine pw_cnd rfl ?_ ?_
                        · refine pw_seq ?_
                          refine pw_region ?_
                          refine po_evs (T := tab) 1 rfl rfl ?_
                          refine po_nil ?_
                          refine pn_seq ?_
                          exact pw_retN (T := tab) rfl rfl rfl ⟨rfl, rfl⟩ trivial rfl
                        · refine pw_skip ?_
                          exact pn_sub' (hj3 ()) ⟨rfl, rfl, rfl, rfl, trivial⟩ ⟨rfl, trivial⟩ rfl
                      · refine po_evs (T := tab) 4 rfl rfl ?_
                        refine po_nil ?_
                        refine pn_seq (pw_else rfl ?_)
                        refine pw_skip ?_
                        exact pn_sub' (hj3 ()) ⟨rfl, rfl, rfl, rfl, trivial⟩ ⟨rfl, trivial⟩ rfl
          · refine po_evs (T := tab) 3 rfl rfl ?_
            refine po_split (j := 69) rfl ?_ ?_
            · refine po_evs (T := tab) 8 rfl rfl ?_
              refine po_nil ?_
              exact pn_sub' (hj2 true) ⟨rfl, rfl, rfl, rfl, rfl, rfl, rfl, rfl, rfl, trivial⟩ ⟨rfl, trivial⟩ rfl
            · refine po_evs (T := tab) 4 rfl rfl ?_
              refine po_split (j := 73) rfl ?_ ?_
              · refine po_evs (T := tab) 4 rfl rfl ?_
                refine po_nil ?_
                exact pn_sub' (hj2 true) ⟨rfl, rfl, rfl, rfl, rfl, rfl, rfl, rfl, rfl, trivial⟩ ⟨rfl, trivial⟩ rfl
              · refine po_evs (T := tab) 4 rfl rfl ?_
                refine po_nil ?_
                exact pn_sub' (hj2 (y15.Kind == 4)) ⟨rfl, rfl, rfl, rfl, rfl, rfl, rfl, rfl, rfl, trivial⟩ ⟨rfl, trivial⟩ rfl
        · refine po_evs (T := tab) 3 rfl rfl ?_
          refine po_split (j := 63) rfl ?_ ?_
          · refine po_evs (T := tab) 4 rfl rfl ?_
            refine po_nil ?_
            exact pn_sub' (hj1 true) ⟨rfl, rfl, rfl, rfl, rfl, rfl, rfl, rfl, trivial⟩ ⟨rfl, trivial⟩ rfl
          · refine po_evs (T := tab) 4 rfl rfl ?_
            refine po_nil ?_
            exact pn_sub' (hj1 (y14.Kind == 2)) ⟨rfl, rfl, rfl, rfl, rfl, rfl, rfl, rfl, trivial⟩ ⟨rfl, trivial⟩ rfl

end Go.Proofs.Ytcaepigodglihaa
