/- Models and proofs, printed by emit2.py. -/
import Derived.Test.YtcaepigodglihaaG1
namespace Go.Proofs.Ytcaepigodglihaa
open Go Go.Pw
set_option linter.unusedVariables false

set_option maxHeartbeats 10000000 in
set_option maxRecDepth 100000 in
theorem Instarref01_One_ok (fu : Nat) (s1 : Bs) (words2 : Bs) : ∀ r, Instarref01_One_m fu s1 words2 = some r → DC Try.prog 77 [.v (.string ⟨⟨s1⟩⟩), .v (.string ⟨⟨words2⟩⟩)] (.v (.bool r)) := by
  intro r hr
  refine fc_intro (args := [.v (.string ⟨⟨s1⟩⟩), .v (.string ⟨⟨words2⟩⟩)]) (S := []) (N0 := []) (post := fun r p S => p = .v (.bool r) ∧ S = []) Try.func77 rfl rfl hr fun w0 X X0 σ0 => ?_
  refine pw_seq ?_
  refine pw_region ?_
  refine po_evs (T := tab) 1 rfl rfl ?_
  refine po_nil ?_
  refine pn_seq ?_
  refine pw_seq ?_
  refine pw_region ?_
  refine po_evs (T := tab) 1 rfl rfl ?_
  refine po_nil ?_
  refine pn_seq ?_
  refine pw_seq ?_
  refine pw_seq ?_
  refine pw_region ?_
  refine po_evs (T := tab) 1 rfl rfl ?_
  refine po_nil ?_
  refine pn_seq ?_
  refine pw_block ?_
  refine pw_loop' (Instarref01_One_l1 s1 words2) (fun ((at3, i4) : Int × Int) => [(0, .v (.string ⟨⟨s1⟩⟩)), (1, .v (.string ⟨⟨words2⟩⟩)), (5, .v (.int .i64 at3)), (6, .v (.int .i64 i4))]) (fun ((at3, i4) : Int × Int) => []) fu (0, 0) (fun _ => rfl) ⟨rfl, rfl, rfl, rfl, trivial⟩ trivial rfl ?_
  rintro k1 ⟨at3, i4⟩
  refine pw_seq ?_
  refine pw_seq ?_
  refine pw_region ?_
  refine po_evs (T := tab) 4 rfl rfl ?_
  refine po_nil ?_
  refine pn_seq ?_
  refine pw_cnd rfl ?_ ?_
  · refine pw_skip ?_
    refine pn_seq ?_
    refine pw_seq ?_
    refine pw_block ?_
    refine pw_seq ?_
    refine pw_region ?_
    refine po_joinX (Instarref01_One_j1 s1 words2 at3 i4 (Instarref01_One_l1 s1 words2 k1)) (fun (_ : Unit) => [(0, .v (.string ⟨⟨s1⟩⟩)), (1, .v (.string ⟨⟨words2⟩⟩)), (5, .v (.int .i64 at3)), (6, .v (.int .i64 i4))]) (fun (_ : Unit) => []) ?_ fun hj1 => ?_
    · rintro _
      refine pw_seq ?_
      refine pw_seq ?_
      refine pw_region ?_
      refine po_evs (T := tab) 3 rfl rfl ?_
      refine po_sub (T := tab) rfl rfl rfl rfl rfl rfl rfl rfl fun s6 hs6 => ?_
      refine po_evs (T := tab) 2 rfl rfl ?_
      refine po_nil ?_
      refine pn_seq ?_
      refine pw_cnd rfl ?_ ?_
      · refine pw_seq ?_
        refine pw_region ?_
        refine po_evs (T := tab) 1 rfl rfl ?_
        refine po_nil ?_
        refine pn_seq ?_
        exact pw_retN (T := tab) rfl rfl rfl ⟨rfl, rfl⟩ trivial rfl
      · refine pw_skip ?_
        refine pn_seq ?_
        refine pw_region ?_
        refine po_evs (T := tab) 1 rfl rfl ?_
        refine po_arith' (T := tab) rfl rfl rfl rfl fun i7 hi7 => ?_
        refine po_evs (T := tab) 1 rfl rfl ?_
        refine po_nil ?_
        refine pn_block ?_
        refine pn_seq ?_
        refine pw_region ?_
        refine po_evs (T := tab) 1 rfl rfl ?_
        refine po_arith' (T := tab) rfl rfl rfl rfl fun i8 hi8 => ?_
        refine po_evs (T := tab) 1 rfl rfl ?_
        refine po_nil ?_
        exact pn_iter' (i7, i8) ⟨rfl, rfl, rfl, rfl, trivial⟩ trivial rfl
    · refine po_evs (T := tab) 5 rfl rfl ?_
      refine po_split (j := 17) rfl ?_ ?_
      · refine po_evs (T := tab) 5 rfl rfl ?_
        refine po_nil ?_
        refine pn_seq (pw_then rfl ?_)
        exact pw_sub' (hj1 ()) ⟨rfl, rfl, rfl, rfl, trivial⟩ trivial rfl
      · refine po_evs (T := tab) 2 rfl rfl ?_
        refine po_chr (T := tab) (s := words2) rfl rfl rfl rfl rfl rfl rfl fun b5 hb5 => ?_
        refine po_evs (T := tab) 2 rfl rfl ?_
        refine po_nil ?_
        refine pn_seq ?_
        refine pw_cnd rfl ?_ ?_
        · exact pw_sub' (hj1 ()) ⟨rfl, rfl, rfl, rfl, trivial⟩ trivial rfl
        · refine pw_skip ?_
          refine pn_block ?_
          refine pn_seq ?_
          refine pw_region ?_
          refine po_evs (T := tab) 1 rfl rfl ?_
          refine po_arith' (T := tab) rfl rfl rfl rfl fun i9 hi9 => ?_
          refine po_evs (T := tab) 1 rfl rfl ?_
          refine po_nil ?_
          exact pn_iter' (at3, i9) ⟨rfl, rfl, rfl, rfl, trivial⟩ trivial rfl
  · refine pw_exit rfl ?_
    refine pn_seq ?_
    refine pw_seq ?_
    refine pw_region ?_
    refine po_evs (T := tab) 1 rfl rfl ?_
    refine po_nil ?_
    refine pn_seq ?_
    exact pw_retN (T := tab) rfl rfl rfl ⟨rfl, rfl⟩ trivial rfl

def Instarref01_Custom_l1 (s1 : Bs) : Nat → Int → Option Bool
  | 0, _ => none
  | k1 + 1, i6 => cnd (decide (i6 < ((s1.length : Nat) : Int))) (bnd (chr s1 i6) fun b7 => cnd (b7 == 45) (some true) (bnd (rng .i64 (i6 + 1)) fun i8 => (Instarref01_Custom_l1 s1 k1) i8)) (some false)

def Instarref01_Custom_m (fu : Nat) (s1 : Bs) : Option Bool := bnd (Instarref01_Right_m fu s1) fun r2 => cnd (!r2) (some false) (bnd (Instarref01_Small_m fu s1) fun r3 => cnd (!(s1 == r3)) (some false) (bnd (chr s1 0) fun b4 => cnd (b4 == 95) (some false) (bnd (Instarref01_One_m fu s1 [97, 110, 110, 111, 116, 97, 116, 105, 111, 110, 45, 120, 109, 108, 32, 99, 111, 108, 111, 114, 45, 112, 114, 111, 102, 105, 108, 101, 32, 102, 111, 110, 116, 45, 102, 97, 99, 101, 32, 102, 111, 110, 116, 45, 102, 97, 99, 101, 45, 115, 114, 99, 32, 102, 111, 110, 116, 45, 102, 97, 99, 101, 45, 117, 114, 105, 32, 102, 111, 110, 116, 45, 102, 97, 99, 101, 45, 102, 111, 114, 109, 97, 116, 32, 102, 111, 110, 116, 45, 102, 97, 99, 101, 45, 110, 97, 109, 101, 32, 109, 105, 115, 115, 105, 110, 103, 45, 103, 108, 121, 112, 104]) fun r5 => cnd r5 (some false) ((Instarref01_Custom_l1 s1) fu 0))))

set_option maxHeartbeats 10000000 in
set_option maxRecDepth 100000 in
theorem Instarref01_Custom_ok (fu : Nat) (s1 : Bs) : ∀ r, Instarref01_Custom_m fu s1 = some r → DC Try.prog 76 [.v (.string ⟨⟨s1⟩⟩)] (.v (.bool r)) := by
  intro r hr
  refine fc_intro (args := [.v (.string ⟨⟨s1⟩⟩)]) (S := []) (N0 := []) (post := fun r p S => p = .v (.bool r) ∧ S = []) Try.func76 rfl rfl hr fun w0 X X0 σ0 => ?_
  refine pw_seq ?_
  refine pw_region ?_
  refine po_evs (T := tab) 1 rfl rfl ?_
  refine po_nil ?_
  refine pn_seq ?_
  refine pw_seq ?_
  refine pw_seq ?_
  refine pw_region ?_
  refine po_evs (T := tab) 1 rfl rfl ?_
  refine po_call (enc := fun (r2 : Bool) => .v (.bool r2)) (qs := [.v (.string ⟨⟨s1⟩⟩)]) (Instarref01_Right_ok fu s1) rfl rfl ⟨⟨_, rfl, .rfl⟩, trivial⟩ (fun _ => rfl) call83 rfl rfl fun r2 hr2 => ?_
  refine po_evs (T := tab) 2 rfl rfl ?_
  refine po_split (j := 7) rfl ?_ ?_
  · refine po_evs (T := tab) 14 rfl rfl ?_
    refine po_nil ?_
    refine pn_seq (pw_then rfl ?_)
    refine pw_seq ?_
    refine pw_region ?_
    refine po_evs (T := tab) 1 rfl rfl ?_
    refine po_nil ?_
    refine pn_seq ?_
    exact pw_retN (T := tab) rfl rfl rfl ⟨rfl, rfl⟩ trivial rfl
  · refine po_evs (T := tab) 2 rfl rfl ?_
    refine po_call (enc := fun (r3 : Bs) => .v (.string ⟨⟨r3⟩⟩)) (qs := [.v (.string ⟨⟨s1⟩⟩)]) (Instarref01_Small_ok fu s1) rfl rfl ⟨⟨_, rfl, .rfl⟩, trivial⟩ (fun _ => rfl) call84 rfl rfl fun r3 hr3 => ?_
    refine po_evs (T := tab) 3 rfl rfl ?_
    refine po_split (j := 13) rfl ?_ ?_
    · refine po_evs (T := tab) 8 rfl rfl ?_
      refine po_nil ?_
      refine pn_seq (pw_then rfl ?_)
      refine pw_seq ?_
      refine pw_region ?_
      refine po_evs (T := tab) 1 rfl rfl ?_
      refine po_nil ?_
      refine pn_seq ?_
      exact pw_retN (T := tab) rfl rfl rfl ⟨rfl, rfl⟩ trivial rfl
    · refine po_evs (T := tab) 1 rfl rfl ?_
      refine po_chr (T := tab) (s := s1) rfl rfl rfl rfl rfl rfl rfl fun b4 hb4 => ?_
      refine po_evs (T := tab) 3 rfl rfl ?_
      refine po_split (j := 18) rfl ?_ ?_
      · refine po_evs (T := tab) 3 rfl rfl ?_
        refine po_nil ?_
        refine pn_seq (pw_then rfl ?_)
        refine pw_seq ?_
        refine pw_region ?_
        refine po_evs (T := tab) 1 rfl rfl ?_
        refine po_nil ?_
        refine pn_seq ?_
        exact pw_retN (T := tab) rfl rfl rfl ⟨rfl, rfl⟩ trivial rfl
      · refine po_evs (T := tab) 1 rfl rfl ?_
        refine po_call (enc := fun (r5 : Bool) => .v (.bool r5)) (qs := [.v (.string ⟨⟨s1⟩⟩), .v (.string ⟨⟨[97, 110, 110, 111, 116, 97, 116, 105, 111, 110, 45, 120, 109, 108, 32, 99, 111, 108, 111, 114, 45, 112, 114, 111, 102, 105, 108, 101, 32, 102, 111, 110, 116, 45, 102, 97, 99, 101, 32, 102, 111, 110, 116, 45, 102, 97, 99, 101, 45, 115, 114, 99, 32, 102, 111, 110, 116, 45, 102, 97, 99, 101, 45, 117, 114, 105, 32, 102, 111, 110, 116, 45, 102, 97, 99, 101, 45, 102, 111, 114, 109, 97, 116, 32, 102, 111, 110, 116, 45, 102, 97, 99, 101, 45, 110, 97, 109, 101, 32, 109, 105, 115, 115, 105, 110, 103, 45, 103, 108, 121, 112, 104]⟩⟩)]) (Instarref01_One_ok fu s1 [97, 110, 110, 111, 116, 97, 116, 105, 111, 110, 45, 120, 109, 108, 32, 99, 111, 108, 111, 114, 45, 112, 114, 111, 102, 105, 108, 101, 32, 102, 111, 110, 116, 45, 102, 97, 99, 101, 32, 102, 111, 110, 116, 45, 102, 97, 99, 101, 45, 115, 114, 99, 32, 102, 111, 110, 116, 45, 102, 97, 99, 101, 45, 117, 114, 105, 32, 102, 111, 110, 116, 45, 102, 97, 99, 101, 45, 102, 111, 114, 109, 97, 116, 32, 102, 111, 110, 116, 45, 102, 97, 99, 101, 45, 110, 97, 109, 101, 32, 109, 105, 115, 115, 105, 110, 103, 45, 103, 108, 121, 112, 104]) rfl rfl ⟨⟨_, rfl, .rfl⟩, ⟨_, rfl, .rfl⟩, trivial⟩ (fun _ => rfl) call77 rfl rfl fun r5 hr5 => ?_
        refine po_evs (T := tab) 1 rfl rfl ?_
        refine po_nil ?_
        refine pn_seq ?_
        refine pw_cnd rfl ?_ ?_
        · refine pw_seq ?_
          refine pw_region ?_
          refine po_evs (T := tab) 1 rfl rfl ?_
          refine po_nil ?_
          refine pn_seq ?_
          exact pw_retN (T := tab) rfl rfl rfl ⟨rfl, rfl⟩ trivial rfl
        · refine pw_skip ?_
          refine pn_seq ?_
          refine pw_seq ?_
          refine pw_seq ?_
          refine pw_region ?_
          refine po_evs (T := tab) 1 rfl rfl ?_
          refine po_nil ?_
          refine pn_seq ?_
          refine pw_block ?_
          refine pw_loop' (Instarref01_Custom_l1 s1) (fun (i6 : Int) => [(0, .v (.string ⟨⟨s1⟩⟩)), (3, .v (.int .i64 i6))]) (fun (i6 : Int) => []) fu 0 (fun _ => rfl) ⟨rfl, rfl, trivial⟩ trivial rfl ?_
          rintro k1 i6
          refine pw_seq ?_
          refine pw_seq ?_
          refine pw_region ?_
          refine po_evs (T := tab) 4 rfl rfl ?_
          refine po_nil ?_
          refine pn_seq ?_
          refine pw_cnd rfl ?_ ?_
          · refine pw_skip ?_
            refine pn_seq ?_
            refine pw_seq ?_
            refine pw_block ?_
            refine pw_seq ?_
            refine pw_region ?_
            refine po_evs (T := tab) 2 rfl rfl ?_
            refine po_chr (T := tab) (s := s1) rfl rfl rfl rfl rfl rfl rfl fun b7 hb7 => ?_
            refine po_evs (T := tab) 1 rfl rfl ?_
            refine po_nil ?_
            refine pn_seq ?_
            refine pw_cnd rfl ?_ ?_
            · refine pw_seq ?_
              refine pw_region ?_
              refine po_evs (T := tab) 1 rfl rfl ?_
              refine po_nil ?_
              refine pn_seq ?_
              exact pw_retN (T := tab) rfl rfl rfl ⟨rfl, rfl⟩ trivial rfl
            · refine pw_skip ?_
              refine pn_block ?_
              refine pn_seq ?_
              refine pw_region ?_
              refine po_evs (T := tab) 1 rfl rfl ?_
              refine po_arith' (T := tab) rfl rfl rfl rfl fun i8 hi8 => ?_
              refine po_evs (T := tab) 1 rfl rfl ?_
              refine po_nil ?_
              exact pn_iter' i8 ⟨rfl, rfl, trivial⟩ trivial rfl
          · refine pw_exit rfl ?_
            refine pn_seq ?_
            refine pw_seq ?_
            refine pw_region ?_
            refine po_evs (T := tab) 1 rfl rfl ?_
            refine po_nil ?_
            refine pn_seq ?_
            exact pw_retN (T := tab) rfl rfl rfl ⟨rfl, rfl⟩ trivial rfl

def Instarref03_Node_j5 (fu : Nat) (y3 : Node) (x_ : Unit) : Option Bool := cnd (y3.Kind == 1) (bnd (Instarref01_Right_m fu y3.Name) fun r34 => cnd r34 (bnd (Instarref01_Small_m fu y3.Name) fun r35 => cnd (r35 == y3.Name) (cnd (y3.Is == ([] : Bs)) (cnd (y3.Data == ([] : Bs)) (bnd (Instarref02_Right_m fu y3.Attrs) fun r36 => some r36) (some false)) (bnd (Instarref01_Custom_m fu y3.Is) fun r37 => cnd r37 (cnd (y3.Data == ([] : Bs)) (bnd (Instarref02_Right_m fu y3.Attrs) fun r38 => some r38) (some false)) (some false))) (some false)) (some false)) (cnd (y3.Name == ([] : Bs)) (cnd (y3.Is == ([] : Bs)) (cnd (((y3.Attrs.length : Nat) : Int) == 0) (cnd (y3.Data == ([] : Bs)) (some true) (cnd (y3.Kind == 2) (some (decide (((y3.Data.length : Nat) : Int) ≤ 200))) (some false))) (some false)) (some false)) (some false))

def Instarref03_Node_j4 (fu : Nat) (f1 : Forest) (n2 : Int) (y3 : Node) (x_ : Unit) : Option Bool := cnd (y3.Under != (-1)) (cnd (y3.Kind != 1) (some false) (cnd (decide (y3.Under < 0)) (some false) (cnd (decide (y3.Under ≥ ((f1.Nodes.length : Nat) : Int))) (some false) (bnd (idx f1.Nodes y3.Under) fun y32 => cnd (y32.Kind != 4) (some false) (bnd (idx f1.Nodes y3.Under) fun y33 => cnd (y33.Host != n2) (some false) ((Instarref03_Node_j5 fu y3) ())))))) ((Instarref03_Node_j5 fu y3) ())

def Instarref03_Node_j3 (fu : Nat) (f1 : Forest) (n2 : Int) (y3 : Node) (x_ : Unit) : Option Bool := cnd (y3.Kind == 4) (cnd (decide (y3.Host < 0)) (some false) (cnd (decide (y3.Host ≥ ((f1.Nodes.length : Nat) : Int))) (some false) (bnd (idx f1.Nodes y3.Host) fun y29 => cnd (y29.Kind != 1) (some false) (bnd (idx f1.Nodes y3.Host) fun y30 => cnd (y30.Under != n2) (some false) (bnd (idx f1.Nodes y3.Host) fun y31 => cnd (y31.Doc != y3.Doc) (some false) ((Instarref03_Node_j4 fu f1 n2 y3) ())))))) (cnd (y3.Host != (-1)) (some false) ((Instarref03_Node_j4 fu f1 n2 y3) ()))

def Instarref03_Node_l1 (fu : Nat) (f1 : Forest) (n2 : Int) (y3 : Node) : Nat → Int × Int → Option Bool
  | 0, _ => none
  | k1 + 1, (elems11, i12) => cnd (decide (i12 < ((y3.Kids.length : Nat) : Int))) (bnd (idx y3.Kids i12) fun y13 => cnd (decide (y13 < 0)) (some false) (cnd (decide (y13 ≥ ((f1.Nodes.length : Nat) : Int))) (some false) (bnd (Instarref03_Has_m fu y3.Kids y13) fun r14 => cnd (r14 != 1) (some false) (bnd (idx f1.Nodes y13) fun y15 => cnd (y15.Kind != 1) (bnd (idx f1.Nodes y13) fun y16 => cnd (y16.Kind != 2) (some false) (bnd (idx f1.Nodes y13) fun y17 => cnd (y17.Parent != n2) (some false) (bnd (idx f1.Nodes y13) fun y18 => cnd (y18.Doc != y3.Doc) (some false) (bnd (idx f1.Nodes y13) fun y21 => cnd (y21.Kind == 1) (bnd (rng .i64 (elems11 + 1)) fun i22 => bnd (rng .i64 (i12 + 1)) fun i25 => (Instarref03_Node_l1 fu f1 n2 y3 k1) (i22, i25)) (bnd (rng .i64 (i12 + 1)) fun i26 => (Instarref03_Node_l1 fu f1 n2 y3 k1) (elems11, i26)))))) (bnd (idx f1.Nodes y13) fun y19 => cnd (y19.Parent != n2) (some false) (bnd (idx f1.Nodes y13) fun y20 => cnd (y20.Doc != y3.Doc) (some false) (bnd (idx f1.Nodes y13) fun y23 => cnd (y23.Kind == 1) (bnd (rng .i64 (elems11 + 1)) fun i24 => bnd (rng .i64 (i12 + 1)) fun i27 => (Instarref03_Node_l1 fu f1 n2 y3 k1) (i24, i27)) (bnd (rng .i64 (i12 + 1)) fun i28 => (Instarref03_Node_l1 fu f1 n2 y3 k1) (elems11, i28))))))))) (cnd (y3.Kind == 2) (cnd (decide (((y3.Kids.length : Nat) : Int) > 0)) (some false) (cnd (y3.Kind == 0) (cnd (decide (elems11 > 1)) (some false) (cnd (decide (elems11 < ((y3.Kids.length : Nat) : Int))) (some false) ((Instarref03_Node_j3 fu f1 n2 y3) ()))) ((Instarref03_Node_j3 fu f1 n2 y3) ()))) (cnd (y3.Kind == 0) (cnd (decide (elems11 > 1)) (some false) (cnd (decide (elems11 < ((y3.Kids.length : Nat) : Int))) (some false) ((Instarref03_Node_j3 fu f1 n2 y3) ()))) ((Instarref03_Node_j3 fu f1 n2 y3) ())))

def Instarref03_Node_j2 (fu : Nat) (f1 : Forest) (n2 : Int) (y3 : Node) (x_ : Unit) : Option Bool := (Instarref03_Node_l1 fu f1 n2 y3) fu (0, 0)

def Instarref03_Node_j1 (fu : Nat) (f1 : Forest) (n2 : Int) (y3 : Node) (x_ : Unit) : Option Bool := cnd (y3.Parent != (-1)) (cnd (y3.Kind != 1) (cnd (y3.Kind != 2) (some false) (cnd (decide (y3.Parent < 0)) (some false) (cnd (decide (y3.Parent ≥ ((f1.Nodes.length : Nat) : Int))) (some false) (bnd (idx f1.Nodes y3.Parent) fun y5 => cnd (y5.Kind == 2) (some false) (bnd (idx f1.Nodes y3.Parent) fun y6 => bnd (Instarref03_Has_m fu y6.Kids n2) fun r7 => cnd (r7 != 1) (some false) ((Instarref03_Node_j2 fu f1 n2 y3) ())))))) (cnd (decide (y3.Parent < 0)) (some false) (cnd (decide (y3.Parent ≥ ((f1.Nodes.length : Nat) : Int))) (some false) (bnd (idx f1.Nodes y3.Parent) fun y8 => cnd (y8.Kind == 2) (some false) (bnd (idx f1.Nodes y3.Parent) fun y9 => bnd (Instarref03_Has_m fu y9.Kids n2) fun r10 => cnd (r10 != 1) (some false) ((Instarref03_Node_j2 fu f1 n2 y3) ())))))) ((Instarref03_Node_j2 fu f1 n2 y3) ())

def Instarref03_Node_m (fu : Nat) (f1 : Forest) (n2 : Int) : Option Bool := bnd (idx f1.Nodes n2) fun y3 => cnd (decide (y3.Kind < 0)) (some false) (cnd (decide (y3.Kind > 4)) (some false) (cnd (decide (y3.Doc < 0)) (some false) (cnd (decide (y3.Doc ≥ ((f1.Nodes.length : Nat) : Int))) (some false) (bnd (idx f1.Nodes y3.Doc) fun y4 => cnd (y4.Kind != 0) (some false) (cnd (y3.Kind == 0) (cnd (y3.Doc != n2) (some false) ((Instarref03_Node_j1 fu f1 n2 y3) ())) ((Instarref03_Node_j1 fu f1 n2 y3) ()))))))

set_option maxHeartbeats 10000000 in
set_option maxRecDepth 100000 in
theorem Instarref03_Node_ok (fu : Nat) (f1 : Forest) (n2 : Int) : ∀ r, Instarref03_Node_m fu f1 n2 = some r → DC Try.prog 56 [.agg (cForest f1), .v (.int .i64 n2)] (.v (.bool r)) := by
  intro r hr
  refine fc_intro (args := [.agg (cForest f1), .v (.int .i64 n2)]) (S := []) (N0 := []) (post := fun r p S => p = .v (.bool r) ∧ S = []) Try.func56 rfl rfl hr fun w0 X X0 σ0 => ?_
  refine pw_seq ?_
  refine pw_region ?_
  refine po_box  2 rfl rfl rfl rfl rfl rfl rfl rfl rfl rfl ?_
  refine po_evs (T := tab) 1 rfl rfl ?_
  refine po_nil ?_
  refine pn_seq ?_
  refine pw_seq ?_
  refine pw_region ?_
  refine po_evs (T := tab) 3 rfl rfl ?_
  refine po_idx (T := tab) cNode f1.Nodes rfl rfl rfl rfl rfl rfl rfl fun y3 hy3 => ?_
  refine po_evs (T := tab) 1 rfl rfl ?_
  refine po_alloc (T := tab) 5 rfl rfl rfl rfl rfl rfl rfl rfl rfl ?_
  refine po_store (T := tab) rfl rfl rfl rfl rfl rfl rfl rfl rfl rfl rfl rfl ?_
  refine po_nil ?_
  refine pn_seq ?_
  refine pw_seq ?_
  refine pw_region ?_
  refine po_evs (T := tab) 2 rfl rfl ?_
  refine po_len (T := tab) cNode f1.Nodes rfl rfl rfl rfl rfl rfl rfl rfl ?_
  refine po_evs (T := tab) 1 rfl rfl ?_
  refine po_nil ?_
  refine pn_seq ?_
  refine pw_seq ?_
  refine pw_seq ?_
  refine pw_region ?_
  refine po_joinB (Instarref03_Node_j1 fu f1 n2 y3) (fun (_ : Unit) => [(1, .v (.int .i64 n2)), (2, .loc 2 0), (5, .loc 5 0), (6, .v (.int .i64 ((f1.Nodes.length : Nat) : Int)))]) (fun (_ : Unit) => [(5, .box [.v (.int .i64 y3.Kind), .v (.string ⟨⟨y3.Name⟩⟩), .v (.string ⟨⟨y3.Is⟩⟩), .v (.string ⟨⟨y3.Data⟩⟩), .sl 2 false (y3.Attrs.map cAttr), .v (.int .i64 y3.Parent), .sl 1 false (y3.Kids.map cInt_i64), .v (.int .i64 y3.Host), .v (.int .i64 y3.Under), .v (.int .i64 y3.Doc)]), (2, .box [.sl 10 false (f1.Nodes.map cNode), .v (.int .i64 f1.Most)])]) ?_ fun hj1 => ?_
  · rintro _
    refine pn_seq ?_
    refine pw_seq ?_
    refine pw_seq ?_
    refine pw_region ?_
    refine po_evs (T := tab) 3 rfl rfl ?_
    refine po_nil ?_
    refine pn_seq ?_
    refine pw_joinK (Instarref03_Node_j2 fu f1 n2 y3) (fun (_ : Unit) => [(1, .v (.int .i64 n2)), (2, .loc 2 0), (5, .loc 5 0), (6, .v (.int .i64 ((f1.Nodes.length : Nat) : Int)))]) (fun (_ : Unit) => [(5, .box [.v (.int .i64 y3.Kind), .v (.string ⟨⟨y3.Name⟩⟩), .v (.string ⟨⟨y3.Is⟩⟩), .v (.string ⟨⟨y3.Data⟩⟩), .sl 2 false (y3.Attrs.map cAttr), .v (.int .i64 y3.Parent), .sl 1 false (y3.Kids.map cInt_i64), .v (.int .i64 y3.Host), .v (.int .i64 y3.Under), .v (.int .i64 y3.Doc)]), (2, .box [.sl 10 false (f1.Nodes.map cNode), .v (.int .i64 f1.Most)])]) ?_ fun hj2 => ?_
    · rintro _
      refine pn_seq ?_
      refine pw_seq ?_
      refine pw_region ?_
      refine po_evs (T := tab) 1 rfl rfl ?_
      refine po_nil ?_
      refine pn_seq ?_
      refine pw_seq ?_
      refine pw_seq ?_
      refine pw_region ?_
      refine po_evs (T := tab) 1 rfl rfl ?_
      refine po_nil ?_
      refine pn_seq ?_
      refine pw_block ?_
      refine pw_loop' (Instarref03_Node_l1 fu f1 n2 y3) (fun ((elems11, i12) : Int × Int) => [(1, .v (.int .i64 n2)), (2, .loc 2 0), (5, .loc 5 0), (6, .v (.int .i64 ((f1.Nodes.length : Nat) : Int))), (7, .v (.int .i64 elems11)), (8, .v (.int .i64 i12))]) (fun ((elems11, i12) : Int × Int) => [(5, .box [.v (.int .i64 y3.Kind), .v (.string ⟨⟨y3.Name⟩⟩), .v (.string ⟨⟨y3.Is⟩⟩), .v (.string ⟨⟨y3.Data⟩⟩), .sl 2 false (y3.Attrs.map cAttr), .v (.int .i64 y3.Parent), .sl 1 false (y3.Kids.map cInt_i64), .v (.int .i64 y3.Host), .v (.int .i64 y3.Under), .v (.int .i64 y3.Doc)]), (2, .box [.sl 10 false (f1.Nodes.map cNode), .v (.int .i64 f1.Most)])]) fu (0, 0) (fun _ => rfl) ⟨rfl, rfl, rfl, rfl, rfl, rfl, trivial⟩ ⟨rfl, rfl, trivial⟩ rfl ?_
      rintro k1 ⟨elems11, i12⟩
      refine pw_seq ?_
      refine pw_seq ?_
      refine pw_region ?_
      refine po_evs (T := tab) 3 rfl rfl ?_
      refine po_len (T := tab) cInt_i64 y3.Kids rfl rfl rfl rfl rfl rfl rfl rfl ?_
      refine po_evs (T := tab) 1 rfl rfl ?_
      refine po_nil ?_
      refine pn_seq ?_
      refine pw_cnd rfl ?_ ?_
      · refine pw_skip ?_
        refine pn_seq ?_
        refine pw_seq ?_
        refine pw_block ?_
        refine pw_seq ?_
        refine pw_region ?_
        refine po_evs (T := tab) 3 rfl rfl ?_
        refine po_idx (T := tab) cInt_i64 y3.Kids rfl rfl rfl rfl rfl rfl rfl fun y13 hy13 => ?_
        refine po_evs (T := tab) 2 rfl rfl ?_
        refine po_nil ?_
        refine pn_seq ?_
        refine pw_seq ?_
        refine pw_seq ?_
        refine pw_draw mixed (by kernel_rfl) ?_
        refine pd_evs (T := tab) 3 rfl rfl ?_
        refine pd_split (j := 116) rfl ?_ ?_
        · refine pd_evs (T := tab) 50 rfl rfl ?_
          refine pd_nil ?_
          refine pn_seq (pw_then rfl ?_)
          refine pw_seq ?_
          refine pw_region ?_
          refine po_evs (T := tab) 1 rfl rfl ?_
          refine po_nil ?_
          refine pn_seq ?_
          exact pw_retN (T := tab) rfl rfl rfl ⟨rfl, rfl⟩ trivial rfl
        · refine pd_evs (T := tab) 5 rfl rfl ?_
          refine pd_split (j := 121) rfl ?_ ?_
          · refine pd_evs (T := tab) 45 rfl rfl ?_
            refine pd_nil ?_
            refine pn_seq (pw_then rfl ?_)
            refine pw_seq ?_
            refine pw_region ?_
            refine po_evs (T := tab) 1 rfl rfl ?_
            refine po_nil ?_
            refine pn_seq ?_
            exact pw_retN (T := tab) rfl rfl rfl ⟨rfl, rfl⟩ trivial rfl
          · refine pd_evs (T := tab) 3 rfl rfl ?_
            refine pd_call (enc := fun (r14 : Int) => .v (.int .i64 r14)) (qs := [.sl 1 false (y3.Kids.map cInt_i64), .v (.int .i64 y13)]) (Instarref03_Has_ok fu y3.Kids y13) rfl rfl ⟨⟨_, rfl, .rfl⟩, ⟨_, rfl, .rfl⟩, trivial⟩ (fun _ => rfl) call34 rfl rfl fun r14 hr14 => ?_
            refine pd_evs (T := tab) 3 rfl rfl ?_
            refine pd_split (j := 128) rfl ?_ ?_
            · refine pd_evs (T := tab) 38 rfl rfl ?_
              refine pd_nil ?_
              refine pn_seq (pw_then rfl ?_)
              refine pw_seq ?_
              refine pw_region ?_
              refine po_evs (T := tab) 1 rfl rfl ?_
              refine po_nil ?_
              refine pn_seq ?_
              exact pw_retN (T := tab) rfl rfl rfl ⟨rfl, rfl⟩ trivial rfl
            · refine pd_evs (T := tab) 3 rfl rfl ?_
              refine pd_idx (T := tab) cNode f1.Nodes rfl rfl rfl rfl rfl rfl rfl fun y15 hy15 => ?_
              refine pd_evs (T := tab) 4 rfl rfl ?_
              refine pd_split (j := 136) rfl ?_ ?_
              · refine pd_evs (T := tab) 3 rfl rfl ?_
                refine pd_idx (T := tab) cNode f1.Nodes rfl rfl rfl rfl rfl rfl rfl fun y16 hy16 => ?_
                refine pd_evs (T := tab) 6 rfl rfl ?_
                refine pd_split (j := 146) rfl ?_ ?_
                · refine pd_evs (T := tab) 20 rfl rfl ?_
                  refine pd_nil ?_
                  refine pn_seq (pw_then rfl ?_)
                  refine pw_seq ?_
                  refine pw_region ?_
                  refine po_evs (T := tab) 1 rfl rfl ?_
                  refine po_nil ?_
                  refine pn_seq ?_
                  exact pw_retN (T := tab) rfl rfl rfl ⟨rfl, rfl⟩ trivial rfl
                · refine pd_evs (T := tab) 3 rfl rfl ?_
                  refine pd_idx (T := tab) cNode f1.Nodes rfl rfl rfl rfl rfl rfl rfl fun y17 hy17 => ?_
                  refine pd_evs (T := tab) 6 rfl rfl ?_
                  refine pd_split (j := 156) rfl ?_ ?_
                  · refine pd_evs (T := tab) 10 rfl rfl ?_
                    refine pd_nil ?_
                    refine pn_seq (pw_then rfl ?_)
                    refine pw_seq ?_
                    refine pw_region ?_
                    refine po_evs (T := tab) 1 rfl rfl ?_
                    refine po_nil ?_
                    refine pn_seq ?_
                    exact pw_retN (T := tab) rfl rfl rfl ⟨rfl, rfl⟩ trivial rfl
                  · refine pd_evs (T := tab) 3 rfl rfl ?_
                    refine pd_idx (T := tab) cNode f1.Nodes rfl rfl rfl rfl rfl rfl rfl fun y18 hy18 => ?_
                    refine pd_evs (T := tab) 6 rfl rfl ?_
                    refine pd_nil ?_
                    refine pn_seq ?_
                    refine pw_cnd rfl ?_ ?_
                    · refine pw_seq ?_
                      refine pw_region ?_
                      refine po_evs (T := tab) 1 rfl rfl ?_
                      refine po_nil ?_
                      refine pn_seq ?_
                      exact pw_retN (T := tab) rfl rfl rfl ⟨rfl, rfl⟩ trivial rfl
                    · refine pw_skip ?_
                      refine pn_seq ?_
                      refine pw_seq ?_
                      refine pw_region ?_
                      refine po_evs (T := tab) 3 rfl rfl ?_
                      refine po_idx (T := tab) cNode f1.Nodes rfl rfl rfl rfl rfl rfl rfl fun y21 hy21 => ?_
                      refine po_evs (T := tab) 3 rfl rfl ?_
                      refine po_nil ?_
                      refine pn_seq ?_
                      refine pw_cnd rfl ?_ ?_
                      · refine pw_region ?_
                        refine po_evs (T := tab) 1 rfl rfl ?_
                        refine po_arith' (T := tab) rfl rfl rfl rfl fun i22 hi22 => ?_
                        refine po_evs (T := tab) 1 rfl rfl ?_
                        refine po_nil ?_
                        refine pn_block ?_
                        refine pn_seq ?_
                        refine pw_region ?_
                        refine po_evs (T := tab) 1 rfl rfl ?_
                        refine po_arith' (T := tab) rfl rfl rfl rfl fun i25 hi25 => ?_
                        refine po_evs (T := tab) 1 rfl rfl ?_
                        refine po_nil ?_
                        exact pn_iter' (i22, i25) ⟨rfl, rfl, rfl, rfl, rfl, rfl, trivial⟩ ⟨rfl, rfl, trivial⟩ rfl
                      · refine pw_skip ?_
                        refine pn_block ?_
                        refine pn_seq ?_
                        refine pw_region ?_
                        refine po_evs (T := tab) 1 rfl rfl ?_
                        refine po_arith' (T := tab) rfl rfl rfl rfl fun i26 hi26 => ?_
                        refine po_evs (T := tab) 1 rfl rfl ?_
                        refine po_nil ?_
                        exact pn_iter' (elems11, i26) ⟨rfl, rfl, rfl, rfl, rfl, rfl, trivial⟩ ⟨rfl, rfl, trivial⟩ rfl
              · refine pd_evs (T := tab) 13 rfl rfl ?_
                refine pd_idx (T := tab) cNode f1.Nodes rfl rfl rfl rfl rfl rfl rfl fun y19 hy19 => ?_
                refine pd_evs (T := tab) 6 rfl rfl ?_
                refine pd_split (j := 156) rfl ?_ ?_
                · refine pd_evs (T := tab) 10 rfl rfl ?_
                  refine pd_nil ?_
                  refine pn_seq (pw_then rfl ?_)
                  refine pw_seq ?_
                  refine pw_region ?_
                  refine po_evs (T := tab) 1 rfl rfl ?_
                  refine po_nil ?_
                  refine pn_seq ?_
                  exact pw_retN (T := tab) rfl rfl rfl ⟨rfl, rfl⟩ trivial rfl
                · refine pd_evs (T := tab) 3 rfl rfl ?_
                  refine pd_idx (T := tab) cNode f1.Nodes rfl rfl rfl rfl rfl rfl rfl fun y20 hy20 => ?_
                  refine pd_evs (T := tab) 6 rfl rfl ?_
                  refine pd_nil ?_
                  refine pn_seq ?_
                  refine pw_cnd rfl ?_ ?_
                  · refine pw_seq ?_
                    refine pw_region ?_
                    refine po_evs (T := tab) 1 rfl rfl ?_
                    refine po_nil ?_
                    refine pn_seq ?_
                    exact pw_retN (T := tab) rfl rfl rfl ⟨rfl, rfl⟩ trivial rfl
                  · refine pw_skip ?_
                    refine pn_seq ?_
                    refine pw_seq ?_
                    refine pw_region ?_
                    refine po_evs (T := tab) 3 rfl rfl ?_
                    refine po_idx (T := tab) cNode f1.Nodes rfl rfl rfl rfl rfl rfl rfl fun y23 hy23 => ?_
                    refine po_evs (T := tab) 3 rfl rfl ?_
                    refine po_nil ?_
                    refine pn_seq ?_
                    refine pw_cnd rfl ?_ ?_
                    · refine pw_region ?_
                      refine po_evs (T := tab) 1 rfl rfl ?_
                      refine po_arith' (T := tab) rfl rfl rfl rfl fun i24 hi24 => ?_
                      refine po_evs (T := tab) 1 rfl rfl ?_
                      refine po_nil ?_
                      refine pn_block ?_
                      refine pn_seq ?_
                      refine pw_region ?_
                      refine po_evs (T := tab) 1 rfl rfl ?_
                      refine po_arith' (T := tab) rfl rfl rfl rfl fun i27 hi27 => ?_
                      refine po_evs (T := tab) 1 rfl rfl ?_
                      refine po_nil ?_
                      exact pn_iter' (i24, i27) ⟨rfl, rfl, rfl, rfl, rfl, rfl, trivial⟩ ⟨rfl, rfl, trivial⟩ rfl
                    · refine pw_skip ?_
                      refine pn_block ?_
                      refine pn_seq ?_
                      refine pw_region ?_
                      refine po_evs (T := tab) 1 rfl rfl ?_
                      refine po_arith' (T := tab) rfl rfl rfl rfl fun i28 hi28 => ?_
                      refine po_evs (T := tab) 1 rfl rfl ?_
                      refine po_nil ?_
                      exact pn_iter' (elems11, i28) ⟨rfl, rfl, rfl, rfl, rfl, rfl, trivial⟩ ⟨rfl, rfl, trivial⟩ rfl
      · refine pw_exit rfl ?_
        refine pn_seq ?_
        refine pw_seq ?_
        refine pw_seq ?_
        refine pw_region ?_
        refine po_joinB (Instarref03_Node_j3 fu f1 n2 y3) (fun (_ : Unit) => [(1, .v (.int .i64 n2)), (2, .loc 2 0), (5, .loc 5 0), (6, .v (.int .i64 ((f1.Nodes.length : Nat) : Int)))]) (fun (_ : Unit) => [(5, .box [.v (.int .i64 y3.Kind), .v (.string ⟨⟨y3.Name⟩⟩), .v (.string ⟨⟨y3.Is⟩⟩), .v (.string ⟨⟨y3.Data⟩⟩), .sl 2 false (y3.Attrs.map cAttr), .v (.int .i64 y3.Parent), .sl 1 false (y3.Kids.map cInt_i64), .v (.int .i64 y3.Host), .v (.int .i64 y3.Under), .v (.int .i64 y3.Doc)]), (2, .box [.sl 10 false (f1.Nodes.map cNode), .v (.int .i64 f1.Most)])]) ?_ fun hj3 => ?_
        · rintro _
          refine pn_seq ?_
          refine pw_seq ?_
          refine pw_seq ?_
          refine pw_region ?_
          refine po_evs (T := tab) 3 rfl rfl ?_
          refine po_nil ?_
          refine pn_seq ?_
          refine pw_joinK (Instarref03_Node_j4 fu f1 n2 y3) (fun (_ : Unit) => [(1, .v (.int .i64 n2)), (2, .loc 2 0), (5, .loc 5 0), (6, .v (.int .i64 ((f1.Nodes.length : Nat) : Int)))]) (fun (_ : Unit) => [(5, .box [.v (.int .i64 y3.Kind), .v (.string ⟨⟨y3.Name⟩⟩), .v (.string ⟨⟨y3.Is⟩⟩), .v (.string ⟨⟨y3.Data⟩⟩), .sl 2 false (y3.Attrs.map cAttr), .v (.int .i64 y3.Parent), .sl 1 false (y3.Kids.map cInt_i64), .v (.int .i64 y3.Host), .v (.int .i64 y3.Under), .v (.int .i64 y3.Doc)]), (2, .box [.sl 10 false (f1.Nodes.map cNode), .v (.int .i64 f1.Most)])]) ?_ fun hj4 => ?_
          · rintro _
            refine pn_seq ?_
            refine pw_seq ?_
            refine pw_seq ?_
            refine pw_region ?_
            refine po_joinB (Instarref03_Node_j5 fu y3) (fun (_ : Unit) => [(5, .loc 5 0)]) (fun (_ : Unit) => [(5, .box [.v (.int .i64 y3.Kind), .v (.string ⟨⟨y3.Name⟩⟩), .v (.string ⟨⟨y3.Is⟩⟩), .v (.string ⟨⟨y3.Data⟩⟩), .sl 2 false (y3.Attrs.map cAttr), .v (.int .i64 y3.Parent), .sl 1 false (y3.Kids.map cInt_i64), .v (.int .i64 y3.Host), .v (.int .i64 y3.Under), .v (.int .i64 y3.Doc)])]) ?_ fun hj5 => ?_
            · rintro _
              refine pn_seq ?_
              refine pw_seq ?_
              refine pw_seq ?_
              refine pw_region ?_
              refine po_evs (T := tab) 3 rfl rfl ?_
              refine po_nil ?_
              refine pn_seq ?_
              refine pw_cnd rfl ?_ ?_
              · refine pw_seq ?_
                refine pw_draw mixed (by kernel_rfl) ?_
                refine pd_evs (T := tab) 2 rfl rfl ?_
                refine pd_call (enc := fun (r34 : Bool) => .v (.bool r34)) (qs := [.v (.string ⟨⟨y3.Name⟩⟩)]) (Instarref01_Right_ok fu y3.Name) rfl rfl ⟨⟨_, rfl, .rfl⟩, trivial⟩ (fun _ => rfl) call83 rfl rfl fun r34 hr34 => ?_
                refine pd_evs (T := tab) 1 rfl rfl ?_
                refine pd_split (j := 295) rfl ?_ ?_
                · refine pd_evs (T := tab) 2 rfl rfl ?_
                  refine pd_call (enc := fun (r35 : Bs) => .v (.string ⟨⟨r35⟩⟩)) (qs := [.v (.string ⟨⟨y3.Name⟩⟩)]) (Instarref01_Small_ok fu y3.Name) rfl rfl ⟨⟨_, rfl, .rfl⟩, trivial⟩ (fun _ => rfl) call84 rfl rfl fun r35 hr35 => ?_
                  refine pd_evs (T := tab) 5 rfl rfl ?_
                  refine pd_split (j := 303) rfl ?_ ?_
                  · refine pd_evs (T := tab) 4 rfl rfl ?_
                    refine pd_split (j := 307) rfl ?_ ?_
                    · refine pd_evs (T := tab) 11 rfl rfl ?_
                      refine pd_split (j := 318) rfl ?_ ?_
                      · refine pd_evs (T := tab) 2 rfl rfl ?_
                        refine pd_call (enc := fun (r36 : Bool) => .v (.bool r36)) (qs := [.sl 2 false (y3.Attrs.map cAttr)]) (Instarref02_Right_ok fu y3.Attrs) rfl rfl ⟨⟨_, rfl, .rfl⟩, trivial⟩ (fun _ => rfl) call85 rfl rfl fun r36 hr36 => ?_
                        refine pd_evs (T := tab) 2 rfl rfl ?_
                        refine pd_nil ?_
                        refine pn_seq ?_
                        exact pw_retN (T := tab) rfl rfl rfl ⟨rfl, rfl⟩ trivial rfl
                      · refine pd_evs (T := tab) 5 rfl rfl ?_
                        refine pd_nil ?_
                        refine pn_seq ?_
                        exact pw_retN (T := tab) rfl rfl rfl ⟨rfl, rfl⟩ trivial rfl
                    · refine pd_evs (T := tab) 2 rfl rfl ?_
                      refine pd_call (enc := fun (r37 : Bool) => .v (.bool r37)) (qs := [.v (.string ⟨⟨y3.Is⟩⟩)]) (Instarref01_Custom_ok fu y3.Is) rfl rfl ⟨⟨_, rfl, .rfl⟩, trivial⟩ (fun _ => rfl) call76 rfl rfl fun r37 hr37 => ?_
                      refine pd_evs (T := tab) 3 rfl rfl ?_
                      refine pd_split (j := 313) rfl ?_ ?_
                      · refine pd_evs (T := tab) 5 rfl rfl ?_
                        refine pd_split (j := 318) rfl ?_ ?_
                        · refine pd_evs (T := tab) 2 rfl rfl ?_
                          refine pd_call (enc := fun (r38 : Bool) => .v (.bool r38)) (qs := [.sl 2 false (y3.Attrs.map cAttr)]) (Instarref02_Right_ok fu y3.Attrs) rfl rfl ⟨⟨_, rfl, .rfl⟩, trivial⟩ (fun _ => rfl) call85 rfl rfl fun r38 hr38 => ?_
                          refine pd_evs (T := tab) 2 rfl rfl ?_
                          refine pd_nil ?_
                          refine pn_seq ?_
                          exact pw_retN (T := tab) rfl rfl rfl ⟨rfl, rfl⟩ trivial rfl
                        · refine pd_evs (T := tab) 5 rfl rfl ?_
                          refine pd_nil ?_
                          refine pn_seq ?_
                          exact pw_retN (T := tab) rfl rfl rfl ⟨rfl, rfl⟩ trivial rfl
                      · refine pd_evs (T := tab) 10 rfl rfl ?_
                        refine pd_nil ?_
                        refine pn_seq ?_
                        exact pw_retN (T := tab) rfl rfl rfl ⟨rfl, rfl⟩ trivial rfl
                  · refine pd_evs (T := tab) 20 rfl rfl ?_
                    refine pd_nil ?_
                    refine pn_seq ?_
                    exact pw_retN (T := tab) rfl rfl rfl ⟨rfl, rfl⟩ trivial rfl
                · refine pd_evs (T := tab) 28 rfl rfl ?_
                  refine pd_nil ?_
                  refine pn_seq ?_
                  exact pw_retN (T := tab) rfl rfl rfl ⟨rfl, rfl⟩ trivial rfl
              · refine pw_skip ?_
                refine pn_seq ?_
                refine pw_seq ?_
                refine pw_region ?_
                refine po_evs (T := tab) 4 rfl rfl ?_
                refine po_split (j := 326) rfl ?_ ?_
                · refine po_evs (T := tab) 5 rfl rfl ?_
                  refine po_split (j := 331) rfl ?_ ?_
                  · refine po_evs (T := tab) 2 rfl rfl ?_
                    refine po_len (T := tab) cAttr y3.Attrs rfl rfl rfl rfl rfl rfl rfl rfl ?_
                    refine po_evs (T := tab) 3 rfl rfl ?_
                    refine po_split (j := 337) rfl ?_ ?_
                    · refine po_evs (T := tab) 4 rfl rfl ?_
                      refine po_split (j := 341) rfl ?_ ?_
                      · refine po_evs (T := tab) 12 rfl rfl ?_
                        refine po_nil ?_
                        refine pn_seq ?_
                        exact pw_retN (T := tab) rfl rfl rfl ⟨rfl, rfl⟩ trivial rfl
                      · refine po_evs (T := tab) 4 rfl rfl ?_
                        refine po_split (j := 345) rfl ?_ ?_
                        · refine po_evs (T := tab) 8 rfl rfl ?_
                          refine po_nil ?_
                          refine pn_seq ?_
                          exact pw_retN (T := tab) rfl rfl rfl ⟨rfl, rfl⟩ trivial rfl
                        · refine po_evs (T := tab) 8 rfl rfl ?_
                          refine po_nil ?_
                          refine pn_seq ?_
                          exact pw_retN (T := tab) rfl rfl rfl ⟨rfl, rfl⟩ trivial rfl
                    · refine po_evs (T := tab) 16 rfl rfl ?_
                      refine po_nil ?_
                      refine pn_seq ?_
                      exact pw_retN (T := tab) rfl rfl rfl ⟨rfl, rfl⟩ trivial rfl
                  · refine po_evs (T := tab) 22 rfl rfl ?_
                    refine po_nil ?_
                    refine pn_seq ?_
                    exact pw_retN (T := tab) rfl rfl rfl ⟨rfl, rfl⟩ trivial rfl
                · refine po_evs (T := tab) 27 rfl rfl ?_
                  refine po_nil ?_
                  refine pn_seq ?_
                  exact pw_retN (T := tab) rfl rfl rfl ⟨rfl, rfl⟩ trivial rfl
            · refine po_evs (T := tab) 4 rfl rfl ?_
              refine po_split (j := 252) rfl ?_ ?_
              · refine po_evs (T := tab) 4 rfl rfl ?_
                refine po_split (j := 256) rfl ?_ ?_
                · refine po_evs (T := tab) 32 rfl rfl ?_
                  refine po_nil ?_
                  refine pn_seq (pw_then rfl ?_)
                  refine pw_seq ?_
                  refine pw_region ?_
                  refine po_evs (T := tab) 1 rfl rfl ?_
                  refine po_nil ?_
                  refine pn_seq ?_
                  exact pw_retN (T := tab) rfl rfl rfl ⟨rfl, rfl⟩ trivial rfl
                · refine po_evs (T := tab) 5 rfl rfl ?_
                  refine po_split (j := 261) rfl ?_ ?_
                  · refine po_evs (T := tab) 27 rfl rfl ?_
                    refine po_nil ?_
                    refine pn_seq (pw_then rfl ?_)
                    refine pw_seq ?_
                    refine pw_region ?_
                    refine po_evs (T := tab) 1 rfl rfl ?_
                    refine po_nil ?_
                    refine pn_seq ?_
                    exact pw_retN (T := tab) rfl rfl rfl ⟨rfl, rfl⟩ trivial rfl
                  · refine po_evs (T := tab) 6 rfl rfl ?_
                    refine po_split (j := 267) rfl ?_ ?_
                    · refine po_evs (T := tab) 21 rfl rfl ?_
                      refine po_nil ?_
                      refine pn_seq (pw_then rfl ?_)
                      refine pw_seq ?_
                      refine pw_region ?_
                      refine po_evs (T := tab) 1 rfl rfl ?_
                      refine po_nil ?_
                      refine pn_seq ?_
                      exact pw_retN (T := tab) rfl rfl rfl ⟨rfl, rfl⟩ trivial rfl
                    · refine po_evs (T := tab) 4 rfl rfl ?_
                      refine po_idx (T := tab) cNode f1.Nodes rfl rfl rfl rfl rfl rfl rfl fun y32 hy32 => ?_
                      refine po_evs (T := tab) 5 rfl rfl ?_
                      refine po_split (j := 277) rfl ?_ ?_
                      · refine po_evs (T := tab) 11 rfl rfl ?_
                        refine po_nil ?_
                        refine pn_seq (pw_then rfl ?_)
                        refine pw_seq ?_
                        refine pw_region ?_
                        refine po_evs (T := tab) 1 rfl rfl ?_
                        refine po_nil ?_
                        refine pn_seq ?_
                        exact pw_retN (T := tab) rfl rfl rfl ⟨rfl, rfl⟩ trivial rfl
                      · refine po_evs (T := tab) 4 rfl rfl ?_
                        refine po_idx (T := tab) cNode f1.Nodes rfl rfl rfl rfl rfl rfl rfl fun y33 hy33 => ?_
                        refine po_evs (T := tab) 6 rfl rfl ?_
                        refine po_nil ?_
                        refine pn_seq ?_
                        refine pw_cnd rfl ?_ ?_
                        · refine pw_seq ?_
                          refine pw_region ?_
                          refine po_evs (T := tab) 1 rfl rfl ?_
                          refine po_nil ?_
                          refine pn_seq ?_
                          exact pw_retN (T := tab) rfl rfl rfl ⟨rfl, rfl⟩ trivial rfl
                        · refine pw_skip ?_
                          exact pn_sub' (hj5 ()) ⟨rfl, trivial⟩ ⟨rfl, trivial⟩ rfl
              · refine po_evs (T := tab) 36 rfl rfl ?_
                refine po_nil ?_
                refine pn_seq (pw_else rfl ?_)
                refine pw_skip ?_
                exact pn_sub' (hj5 ()) ⟨rfl, trivial⟩ ⟨rfl, trivial⟩ rfl
          · refine pw_cnd rfl ?_ ?_
            · refine pw_seq ?_
              refine pw_draw mixed (by kernel_rfl) ?_
              refine pd_evs (T := tab) 4 rfl rfl ?_
              refine pd_split (j := 207) rfl ?_ ?_
              · refine pd_evs (T := tab) 38 rfl rfl ?_
                refine pd_nil ?_
                refine pn_seq (pw_then rfl ?_)
                refine pw_seq ?_
                refine pw_region ?_
                refine po_evs (T := tab) 1 rfl rfl ?_
                refine po_nil ?_
                refine pn_seq ?_
                exact pw_retN (T := tab) rfl rfl rfl ⟨rfl, rfl⟩ trivial rfl
              · refine pd_evs (T := tab) 6 rfl rfl ?_
                refine pd_split (j := 213) rfl ?_ ?_
                · refine pd_evs (T := tab) 32 rfl rfl ?_
                  refine pd_nil ?_
                  refine pn_seq (pw_then rfl ?_)
                  refine pw_seq ?_
                  refine pw_region ?_
                  refine po_evs (T := tab) 1 rfl rfl ?_
                  refine po_nil ?_
                  refine pn_seq ?_
                  exact pw_retN (T := tab) rfl rfl rfl ⟨rfl, rfl⟩ trivial rfl
                · refine pd_evs (T := tab) 4 rfl rfl ?_
                  refine pd_idx (T := tab) cNode f1.Nodes rfl rfl rfl rfl rfl rfl rfl fun y29 hy29 => ?_
                  refine pd_evs (T := tab) 5 rfl rfl ?_
                  refine pd_split (j := 223) rfl ?_ ?_
                  · refine pd_evs (T := tab) 22 rfl rfl ?_
                    refine pd_nil ?_
                    refine pn_seq (pw_then rfl ?_)
                    refine pw_seq ?_
                    refine pw_region ?_
                    refine po_evs (T := tab) 1 rfl rfl ?_
                    refine po_nil ?_
                    refine pn_seq ?_
                    exact pw_retN (T := tab) rfl rfl rfl ⟨rfl, rfl⟩ trivial rfl
                  · refine pd_evs (T := tab) 4 rfl rfl ?_
                    refine pd_idx (T := tab) cNode f1.Nodes rfl rfl rfl rfl rfl rfl rfl fun y30 hy30 => ?_
                    refine pd_evs (T := tab) 6 rfl rfl ?_
                    refine pd_split (j := 234) rfl ?_ ?_
                    · refine pd_evs (T := tab) 11 rfl rfl ?_
                      refine pd_nil ?_
                      refine pn_seq (pw_then rfl ?_)
                      refine pw_seq ?_
                      refine pw_region ?_
                      refine po_evs (T := tab) 1 rfl rfl ?_
                      refine po_nil ?_
                      refine pn_seq ?_
                      exact pw_retN (T := tab) rfl rfl rfl ⟨rfl, rfl⟩ trivial rfl
                    · refine pd_evs (T := tab) 4 rfl rfl ?_
                      refine pd_idx (T := tab) cNode f1.Nodes rfl rfl rfl rfl rfl rfl rfl fun y31 hy31 => ?_
                      refine pd_evs (T := tab) 6 rfl rfl ?_
                      refine pd_nil ?_
                      refine pn_seq ?_
                      refine pw_cnd rfl ?_ ?_
                      · refine pw_seq ?_
                        refine pw_region ?_
                        refine po_evs (T := tab) 1 rfl rfl ?_
                        refine po_nil ?_
                        refine pn_seq ?_
                        exact pw_retN (T := tab) rfl rfl rfl ⟨rfl, rfl⟩ trivial rfl
                      · refine pw_skip ?_
                        exact pn_sub' (hj4 ()) ⟨rfl, rfl, rfl, rfl, trivial⟩ ⟨rfl, rfl, trivial⟩ rfl
            · refine pw_seq ?_
              refine pw_region ?_
              refine po_evs (T := tab) 3 rfl rfl ?_
              refine po_nil ?_
              refine pn_seq ?_
              refine pw_cnd rfl ?_ ?_
              · refine pw_seq ?_
                refine pw_region ?_
                refine po_evs (T := tab) 1 rfl rfl ?_
                refine po_nil ?_
                refine pn_seq ?_
                exact pw_retN (T := tab) rfl rfl rfl ⟨rfl, rfl⟩ trivial rfl
              · refine pw_skip ?_
                exact pn_sub' (hj4 ()) ⟨rfl, rfl, rfl, rfl, trivial⟩ ⟨rfl, rfl, trivial⟩ rfl
        · refine po_evs (T := tab) 4 rfl rfl ?_
          refine po_split (j := 179) rfl ?_ ?_
          · refine po_evs (T := tab) 2 rfl rfl ?_
            refine po_len (T := tab) cInt_i64 y3.Kids rfl rfl rfl rfl rfl rfl rfl rfl ?_
            refine po_evs (T := tab) 3 rfl rfl ?_
            refine po_split (j := 185) rfl ?_ ?_
            · refine po_evs (T := tab) 15 rfl rfl ?_
              refine po_nil ?_
              refine pn_seq (pw_then rfl ?_)
              refine pw_seq ?_
              refine pw_region ?_
              refine po_evs (T := tab) 1 rfl rfl ?_
              refine po_nil ?_
              refine pn_seq ?_
              exact pw_retN (T := tab) rfl rfl rfl ⟨rfl, rfl⟩ trivial rfl
            · refine po_evs (T := tab) 4 rfl rfl ?_
              refine po_split (j := 189) rfl ?_ ?_
              · refine po_evs (T := tab) 3 rfl rfl ?_
                refine po_split (j := 192) rfl ?_ ?_
                · refine po_evs (T := tab) 8 rfl rfl ?_
                  refine po_nil ?_
                  refine pn_seq (pw_then rfl ?_)
                  refine pw_seq ?_
                  refine pw_region ?_
                  refine po_evs (T := tab) 1 rfl rfl ?_
                  refine po_nil ?_
                  refine pn_seq ?_
                  exact pw_retN (T := tab) rfl rfl rfl ⟨rfl, rfl⟩ trivial rfl
                · refine po_evs (T := tab) 3 rfl rfl ?_
                  refine po_len (T := tab) cInt_i64 y3.Kids rfl rfl rfl rfl rfl rfl rfl rfl ?_
                  refine po_evs (T := tab) 4 rfl rfl ?_
                  refine po_nil ?_
                  refine pn_seq ?_
                  refine pw_cnd rfl ?_ ?_
                  · refine pw_seq ?_
                    refine pw_region ?_
                    refine po_evs (T := tab) 1 rfl rfl ?_
                    refine po_nil ?_
                    refine pn_seq ?_
                    exact pw_retN (T := tab) rfl rfl rfl ⟨rfl, rfl⟩ trivial rfl
                  · refine pw_skip ?_
                    exact pn_sub' (hj3 ()) ⟨rfl, rfl, rfl, rfl, trivial⟩ ⟨rfl, rfl, trivial⟩ rfl
              · refine po_evs (T := tab) 11 rfl rfl ?_
                refine po_nil ?_
                refine pn_seq (pw_else rfl ?_)
                refine pw_skip ?_
                exact pn_sub' (hj3 ()) ⟨rfl, rfl, rfl, rfl, trivial⟩ ⟨rfl, rfl, trivial⟩ rfl
          · refine po_evs (T := tab) 10 rfl rfl ?_
            refine po_split (j := 189) rfl ?_ ?_
            · refine po_evs (T := tab) 3 rfl rfl ?_
              refine po_split (j := 192) rfl ?_ ?_
              · refine po_evs (T := tab) 8 rfl rfl ?_
                refine po_nil ?_
                refine pn_seq (pw_then rfl ?_)
                refine pw_seq ?_
                refine pw_region ?_
                refine po_evs (T := tab) 1 rfl rfl ?_
                refine po_nil ?_
                refine pn_seq ?_
                exact pw_retN (T := tab) rfl rfl rfl ⟨rfl, rfl⟩ trivial rfl
              · refine po_evs (T := tab) 3 rfl rfl ?_
                refine po_len (T := tab) cInt_i64 y3.Kids rfl rfl rfl rfl rfl rfl rfl rfl ?_
                refine po_evs (T := tab) 4 rfl rfl ?_
                refine po_nil ?_
                refine pn_seq ?_
                refine pw_cnd rfl ?_ ?_
                · refine pw_seq ?_
                  refine pw_region ?_
                  refine po_evs (T := tab) 1 rfl rfl ?_
                  refine po_nil ?_
                  refine pn_seq ?_
                  exact pw_retN (T := tab) rfl rfl rfl ⟨rfl, rfl⟩ trivial rfl
                · refine pw_skip ?_
                  exact pn_sub' (hj3 ()) ⟨rfl, rfl, rfl, rfl, trivial⟩ ⟨rfl, rfl, trivial⟩ rfl
            · refine po_evs (T := tab) 11 rfl rfl ?_
              refine po_nil ?_
              refine pn_seq (pw_else rfl ?_)
              refine pw_skip ?_
              exact pn_sub' (hj3 ()) ⟨rfl, rfl, rfl, rfl, trivial⟩ ⟨rfl, rfl, trivial⟩ rfl
    · refine pw_cnd rfl ?_ ?_
      · refine pw_seq ?_
        refine pw_region ?_
        refine po_evs (T := tab) 4 rfl rfl ?_
        refine po_split (j := 64) rfl ?_ ?_
        · refine po_evs (T := tab) 5 rfl rfl ?_
          refine po_split (j := 69) rfl ?_ ?_
          · refine po_evs (T := tab) 32 rfl rfl ?_
            refine po_nil ?_
            refine pn_seq (pw_then rfl ?_)
            refine pw_seq ?_
            refine pw_region ?_
            refine po_evs (T := tab) 1 rfl rfl ?_
            refine po_nil ?_
            refine pn_seq ?_
            exact pw_retN (T := tab) rfl rfl rfl ⟨rfl, rfl⟩ trivial rfl
          · refine po_evs (T := tab) 5 rfl rfl ?_
            refine po_split (j := 74) rfl ?_ ?_
            · refine po_evs (T := tab) 27 rfl rfl ?_
              refine po_nil ?_
              refine pn_seq (pw_then rfl ?_)
              refine pw_seq ?_
              refine pw_region ?_
              refine po_evs (T := tab) 1 rfl rfl ?_
              refine po_nil ?_
              refine pn_seq ?_
              exact pw_retN (T := tab) rfl rfl rfl ⟨rfl, rfl⟩ trivial rfl
            · refine po_evs (T := tab) 6 rfl rfl ?_
              refine po_split (j := 80) rfl ?_ ?_
              · refine po_evs (T := tab) 21 rfl rfl ?_
                refine po_nil ?_
                refine pn_seq (pw_then rfl ?_)
                refine pw_seq ?_
                refine pw_region ?_
                refine po_evs (T := tab) 1 rfl rfl ?_
                refine po_nil ?_
                refine pn_seq ?_
                exact pw_retN (T := tab) rfl rfl rfl ⟨rfl, rfl⟩ trivial rfl
              · refine po_evs (T := tab) 4 rfl rfl ?_
                refine po_idx (T := tab) cNode f1.Nodes rfl rfl rfl rfl rfl rfl rfl fun y5 hy5 => ?_
                refine po_evs (T := tab) 5 rfl rfl ?_
                refine po_split (j := 90) rfl ?_ ?_
                · refine po_evs (T := tab) 11 rfl rfl ?_
                  refine po_nil ?_
                  refine pn_seq (pw_then rfl ?_)
                  refine pw_seq ?_
                  refine pw_region ?_
                  refine po_evs (T := tab) 1 rfl rfl ?_
                  refine po_nil ?_
                  refine pn_seq ?_
                  exact pw_retN (T := tab) rfl rfl rfl ⟨rfl, rfl⟩ trivial rfl
                · refine po_evs (T := tab) 4 rfl rfl ?_
                  refine po_idx (T := tab) cNode f1.Nodes rfl rfl rfl rfl rfl rfl rfl fun y6 hy6 => ?_
                  refine po_evs (T := tab) 3 rfl rfl ?_
                  refine po_call (enc := fun (r7 : Int) => .v (.int .i64 r7)) (qs := [.sl 1 false (y6.Kids.map cInt_i64), .v (.int .i64 n2)]) (Instarref03_Has_ok fu y6.Kids n2) rfl rfl ⟨⟨_, rfl, .rfl⟩, ⟨_, rfl, .rfl⟩, trivial⟩ (fun _ => rfl) call34 rfl rfl fun r7 hr7 => ?_
                  refine po_evs (T := tab) 2 rfl rfl ?_
                  refine po_nil ?_
                  refine pn_seq ?_
                  refine pw_cnd rfl ?_ ?_
                  · refine pw_seq ?_
                    refine pw_region ?_
                    refine po_evs (T := tab) 1 rfl rfl ?_
                    refine po_nil ?_
                    refine pn_seq ?_
                    exact pw_retN (T := tab) rfl rfl rfl ⟨rfl, rfl⟩ trivial rfl
                  · refine pw_skip ?_
                    exact pn_sub' (hj2 ()) ⟨rfl, rfl, rfl, rfl, trivial⟩ ⟨rfl, rfl, trivial⟩ rfl
        · refine po_evs (T := tab) 10 rfl rfl ?_
          refine po_split (j := 74) rfl ?_ ?_
          · refine po_evs (T := tab) 27 rfl rfl ?_
            refine po_nil ?_
            refine pn_seq (pw_then rfl ?_)
            refine pw_seq ?_
            refine pw_region ?_
            refine po_evs (T := tab) 1 rfl rfl ?_
            refine po_nil ?_
            refine pn_seq ?_
            exact pw_retN (T := tab) rfl rfl rfl ⟨rfl, rfl⟩ trivial rfl
          · refine po_evs (T := tab) 6 rfl rfl ?_
            refine po_split (j := 80) rfl ?_ ?_
            · refine po_evs (T := tab) 21 rfl rfl ?_
              refine po_nil ?_
              refine pn_seq (pw_then rfl ?_)
              refine pw_seq ?_
              refine pw_region ?_
              refine po_evs (T := tab) 1 rfl rfl ?_
              refine po_nil ?_
              refine pn_seq ?_
              exact pw_retN (T := tab) rfl rfl rfl ⟨rfl, rfl⟩ trivial rfl
            · refine po_evs (T := tab) 4 rfl rfl ?_
              refine po_idx (T := tab) cNode f1.Nodes rfl rfl rfl rfl rfl rfl rfl fun y8 hy8 => ?_
              refine po_evs (T := tab) 5 rfl rfl ?_
              refine po_split (j := 90) rfl ?_ ?_
              · refine po_evs (T := tab) 11 rfl rfl ?_
                refine po_nil ?_
                refine pn_seq (pw_then rfl ?_)
                refine pw_seq ?_
                refine pw_region ?_
                refine po_evs (T := tab) 1 rfl rfl ?_
                refine po_nil ?_
                refine pn_seq ?_
                exact pw_retN (T := tab) rfl rfl rfl ⟨rfl, rfl⟩ trivial rfl
              · refine po_evs (T := tab) 4 rfl rfl ?_
                refine po_idx (T := tab) cNode f1.Nodes rfl rfl rfl rfl rfl rfl rfl fun y9 hy9 => ?_
                refine po_evs (T := tab) 3 rfl rfl ?_
                refine po_call (enc := fun (r10 : Int) => .v (.int .i64 r10)) (qs := [.sl 1 false (y9.Kids.map cInt_i64), .v (.int .i64 n2)]) (Instarref03_Has_ok fu y9.Kids n2) rfl rfl ⟨⟨_, rfl, .rfl⟩, ⟨_, rfl, .rfl⟩, trivial⟩ (fun _ => rfl) call34 rfl rfl fun r10 hr10 => ?_
                refine po_evs (T := tab) 2 rfl rfl ?_
                refine po_nil ?_
                refine pn_seq ?_
                refine pw_cnd rfl ?_ ?_
                · refine pw_seq ?_
                  refine pw_region ?_
                  refine po_evs (T := tab) 1 rfl rfl ?_
                  refine po_nil ?_
                  refine pn_seq ?_
                  exact pw_retN (T := tab) rfl rfl rfl ⟨rfl, rfl⟩ trivial rfl
                · refine pw_skip ?_
                  exact pn_sub' (hj2 ()) ⟨rfl, rfl, rfl, rfl, trivial⟩ ⟨rfl, rfl, trivial⟩ rfl
      · refine pw_skip ?_
        exact pn_sub' (hj2 ()) ⟨rfl, rfl, rfl, rfl, trivial⟩ ⟨rfl, rfl, trivial⟩ rfl
  · refine po_evs (T := tab) 4 rfl rfl ?_
    refine po_split (j := 21) rfl ?_ ?_
    · refine po_evs (T := tab) 36 rfl rfl ?_
      refine po_nil ?_
      refine pn_seq (pw_then rfl ?_)
      refine pw_seq ?_
      refine pw_region ?_
      refine po_evs (T := tab) 1 rfl rfl ?_
      refine po_nil ?_
      refine pn_seq ?_
      exact pw_retN (T := tab) rfl rfl rfl ⟨rfl, rfl⟩ trivial rfl
    · refine po_evs (T := tab) 5 rfl rfl ?_
      refine po_split (j := 26) rfl ?_ ?_
      · refine po_evs (T := tab) 31 rfl rfl ?_
        refine po_nil ?_
        refine pn_seq (pw_then rfl ?_)
        refine pw_seq ?_
        refine pw_region ?_
        refine po_evs (T := tab) 1 rfl rfl ?_
        refine po_nil ?_
        refine pn_seq ?_
        exact pw_retN (T := tab) rfl rfl rfl ⟨rfl, rfl⟩ trivial rfl
      · refine po_evs (T := tab) 5 rfl rfl ?_
        refine po_split (j := 31) rfl ?_ ?_
        · refine po_evs (T := tab) 26 rfl rfl ?_
          refine po_nil ?_
          refine pn_seq (pw_then rfl ?_)
          refine pw_seq ?_
          refine pw_region ?_
          refine po_evs (T := tab) 1 rfl rfl ?_
          refine po_nil ?_
          refine pn_seq ?_
          exact pw_retN (T := tab) rfl rfl rfl ⟨rfl, rfl⟩ trivial rfl
        · refine po_evs (T := tab) 6 rfl rfl ?_
          refine po_split (j := 37) rfl ?_ ?_
          · refine po_evs (T := tab) 20 rfl rfl ?_
            refine po_nil ?_
            refine pn_seq (pw_then rfl ?_)
            refine pw_seq ?_
            refine pw_region ?_
            refine po_evs (T := tab) 1 rfl rfl ?_
            refine po_nil ?_
            refine pn_seq ?_
            exact pw_retN (T := tab) rfl rfl rfl ⟨rfl, rfl⟩ trivial rfl
          · refine po_evs (T := tab) 4 rfl rfl ?_
            refine po_idx (T := tab) cNode f1.Nodes rfl rfl rfl rfl rfl rfl rfl fun y4 hy4 => ?_
            refine po_evs (T := tab) 5 rfl rfl ?_
            refine po_split (j := 47) rfl ?_ ?_
            · refine po_evs (T := tab) 10 rfl rfl ?_
              refine po_nil ?_
              refine pn_seq (pw_then rfl ?_)
              refine pw_seq ?_
              refine pw_region ?_
              refine po_evs (T := tab) 1 rfl rfl ?_
              refine po_nil ?_
              refine pn_seq ?_
              exact pw_retN (T := tab) rfl rfl rfl ⟨rfl, rfl⟩ trivial rfl
            · refine po_evs (T := tab) 4 rfl rfl ?_
              refine po_split (j := 51) rfl ?_ ?_
              · refine po_evs (T := tab) 6 rfl rfl ?_
                refine po_nil ?_
                refine pn_seq ?_
                refine pw_cnd rfl ?_ ?_
                · refine pw_seq ?_
                  refine pw_region ?_
                  refine po_evs (T := tab) 1 rfl rfl ?_
                  refine po_nil ?_
                  refine pn_seq ?_
                  exact pw_retN (T := tab) rfl rfl rfl ⟨rfl, rfl⟩ trivial rfl
                · refine pw_skip ?_
                  exact pn_sub' (hj1 ()) ⟨rfl, rfl, rfl, rfl, trivial⟩ ⟨rfl, rfl, trivial⟩ rfl
              · refine po_evs (T := tab) 6 rfl rfl ?_
                refine po_nil ?_
                refine pn_seq (pw_else rfl ?_)
                refine pw_skip ?_
                exact pn_sub' (hj1 ()) ⟨rfl, rfl, rfl, rfl, trivial⟩ ⟨rfl, rfl, trivial⟩ rfl

def Instarref03_Right_l3 (f1 : Forest) (n6 : Int) (rc2 : Int → Option Bool) : Nat → Int × Int → Option Bool
  | 0, _ => none
  | k3 + 1, (at7, steps8) => cnd (at7 != (-1)) (cnd (decide (steps8 > ((f1.Nodes.length : Nat) : Int))) (some false) (bnd (idx f1.Nodes at7) fun y9 => cnd (y9.Parent != (-1)) (bnd (idx f1.Nodes at7) fun y10 => bnd (rng .i64 (steps8 + 1)) fun i12 => (Instarref03_Right_l3 f1 n6 rc2 k3) (y10.Parent, i12)) (bnd (idx f1.Nodes at7) fun y11 => bnd (rng .i64 (steps8 + 1)) fun i13 => (Instarref03_Right_l3 f1 n6 rc2 k3) (y11.Host, i13)))) (bnd (rng .i64 (n6 + 1)) fun i14 => rc2 i14)

def Instarref03_Right_l2 (fu : Nat) (f1 : Forest) : Nat → Int → Option Bool
  | 0, _ => none
  | k2 + 1, n6 => cnd (decide (n6 < ((f1.Nodes.length : Nat) : Int))) ((Instarref03_Right_l3 f1 n6 (Instarref03_Right_l2 fu f1 k2)) fu (n6, 0)) (some true)

def Instarref03_Right_l1 (fu : Nat) (f1 : Forest) : Nat → Int → Option Bool
  | 0, _ => none
  | k1 + 1, n3 => cnd (decide (n3 < ((f1.Nodes.length : Nat) : Int))) (bnd (Instarref03_Node_m fu f1 n3) fun r4 => cnd (!r4) (some false) (bnd (rng .i64 (n3 + 1)) fun i5 => (Instarref03_Right_l1 fu f1 k1) i5)) ((Instarref03_Right_l2 fu f1) fu 0)

def Instarref03_Right_m (fu : Nat) (f1 : Forest) : Option Bool := cnd (decide (f1.Most < 1)) (some false) (cnd (decide (f1.Most > 400)) (some false) (cnd (((f1.Nodes.length : Nat) : Int) == 0) (some false) (cnd (decide (((f1.Nodes.length : Nat) : Int) > f1.Most)) (some false) (bnd (idx f1.Nodes 0) fun y2 => cnd (y2.Kind != 0) (some false) ((Instarref03_Right_l1 fu f1) fu 0)))))

set_option maxHeartbeats 10000000 in
set_option maxRecDepth 100000 in
theorem Instarref03_Right_ok (fu : Nat) (f1 : Forest) : ∀ r, Instarref03_Right_m fu f1 = some r → DC Try.prog 16 [.agg (cForest f1)] (.v (.bool r)) := by
  intro r hr
  refine fc_intro (args := [.agg (cForest f1)]) (S := []) (N0 := []) (post := fun r p S => p = .v (.bool r) ∧ S = []) Try.func16 rfl rfl hr fun w0 X X0 σ0 => ?_
  refine pw_seq ?_
  refine pw_region ?_
  refine po_box  1 rfl rfl rfl rfl rfl rfl rfl rfl rfl rfl ?_
  refine po_evs (T := tab) 1 rfl rfl ?_
  refine po_nil ?_
  refine pn_seq ?_
  refine pw_seq ?_
  refine pw_seq ?_
  refine pw_region ?_
  refine po_evs (T := tab) 4 rfl rfl ?_
  refine po_split (j := 10) rfl ?_ ?_
  · refine po_evs (T := tab) 26 rfl rfl ?_
    refine po_nil ?_
    refine pn_seq (pw_then rfl ?_)
    refine pw_seq ?_
    refine pw_region ?_
    refine po_evs (T := tab) 1 rfl rfl ?_
    refine po_nil ?_
    refine pn_seq ?_
    exact pw_retN (T := tab) rfl rfl rfl ⟨rfl, rfl⟩ trivial rfl
  · refine po_evs (T := tab) 5 rfl rfl ?_
    refine po_split (j := 15) rfl ?_ ?_
    · refine po_evs (T := tab) 21 rfl rfl ?_
      refine po_nil ?_
      refine pn_seq (pw_then rfl ?_)
      refine pw_seq ?_
      refine pw_region ?_
      refine po_evs (T := tab) 1 rfl rfl ?_
      refine po_nil ?_
      refine pn_seq ?_
      exact pw_retN (T := tab) rfl rfl rfl ⟨rfl, rfl⟩ trivial rfl
    · refine po_evs (T := tab) 2 rfl rfl ?_
      refine po_len (T := tab) cNode f1.Nodes rfl rfl rfl rfl rfl rfl rfl rfl ?_
      refine po_evs (T := tab) 3 rfl rfl ?_
      refine po_split (j := 21) rfl ?_ ?_
      · refine po_evs (T := tab) 15 rfl rfl ?_
        refine po_nil ?_
        refine pn_seq (pw_then rfl ?_)
        refine pw_seq ?_
        refine pw_region ?_
        refine po_evs (T := tab) 1 rfl rfl ?_
        refine po_nil ?_
        refine pn_seq ?_
        exact pw_retN (T := tab) rfl rfl rfl ⟨rfl, rfl⟩ trivial rfl
      · refine po_evs (T := tab) 2 rfl rfl ?_
        refine po_len (T := tab) cNode f1.Nodes rfl rfl rfl rfl rfl rfl rfl rfl ?_
        refine po_evs (T := tab) 5 rfl rfl ?_
        refine po_split (j := 29) rfl ?_ ?_
        · refine po_evs (T := tab) 7 rfl rfl ?_
          refine po_nil ?_
          refine pn_seq (pw_then rfl ?_)
          refine pw_seq ?_
          refine pw_region ?_
          refine po_evs (T := tab) 1 rfl rfl ?_
          refine po_nil ?_
          refine pn_seq ?_
          exact pw_retN (T := tab) rfl rfl rfl ⟨rfl, rfl⟩ trivial rfl
        · refine po_evs (T := tab) 2 rfl rfl ?_
          refine po_idx (T := tab) cNode f1.Nodes rfl rfl rfl rfl rfl rfl rfl fun y2 hy2 => ?_
          refine po_evs (T := tab) 4 rfl rfl ?_
          refine po_nil ?_
          refine pn_seq ?_
          refine pw_cnd rfl ?_ ?_
          · refine pw_seq ?_
            refine pw_region ?_
            refine po_evs (T := tab) 1 rfl rfl ?_
            refine po_nil ?_
            refine pn_seq ?_
            exact pw_retN (T := tab) rfl rfl rfl ⟨rfl, rfl⟩ trivial rfl
          · refine pw_skip ?_
            refine pn_seq ?_
            refine pw_seq ?_
            refine pw_seq ?_
            refine pw_region ?_
            refine po_evs (T := tab) 1 rfl rfl ?_
            refine po_nil ?_
            refine pn_seq ?_
            refine pw_block ?_
            refine pw_loop' (Instarref03_Right_l1 fu f1) (fun (n3 : Int) => [(1, .loc 1 0), (3, .v (.int .i64 n3))]) (fun (n3 : Int) => [(1, .box [.sl 10 false (f1.Nodes.map cNode), .v (.int .i64 f1.Most)])]) fu 0 (fun _ => rfl) ⟨rfl, rfl, trivial⟩ ⟨rfl, trivial⟩ rfl ?_
            rintro k1 n3
            refine pw_seq ?_
            refine pw_seq ?_
            refine pw_region ?_
            refine po_evs (T := tab) 3 rfl rfl ?_
            refine po_len (T := tab) cNode f1.Nodes rfl rfl rfl rfl rfl rfl rfl rfl ?_
            refine po_evs (T := tab) 1 rfl rfl ?_
            refine po_nil ?_
            refine pn_seq ?_
            refine pw_cnd rfl ?_ ?_
            · refine pw_skip ?_
              refine pn_seq ?_
              refine pw_seq ?_
              refine pw_block ?_
              refine pw_seq ?_
              refine pw_region ?_
              refine po_evs (T := tab) 2 rfl rfl ?_
              refine po_call (enc := fun (r4 : Bool) => .v (.bool r4)) (qs := [.agg (cForest f1), .v (.int .i64 n3)]) (Instarref03_Node_ok fu f1 n3) rfl rfl ⟨⟨_, rfl, .rfl⟩, ⟨_, rfl, .rfl⟩, trivial⟩ (fun _ => rfl) call56 rfl rfl fun r4 hr4 => ?_
              refine po_evs (T := tab) 1 rfl rfl ?_
              refine po_nil ?_
              refine pn_seq ?_
              refine pw_cnd rfl ?_ ?_
              · refine pw_seq ?_
                refine pw_region ?_
                refine po_evs (T := tab) 1 rfl rfl ?_
                refine po_nil ?_
                refine pn_seq ?_
                exact pw_retN (T := tab) rfl rfl rfl ⟨rfl, rfl⟩ trivial rfl
              · refine pw_skip ?_
                refine pn_block ?_
                refine pn_seq ?_
                refine pw_region ?_
                refine po_evs (T := tab) 1 rfl rfl ?_
                refine po_arith' (T := tab) rfl rfl rfl rfl fun i5 hi5 => ?_
                refine po_evs (T := tab) 1 rfl rfl ?_
                refine po_nil ?_
                exact pn_iter' i5 ⟨rfl, rfl, trivial⟩ ⟨rfl, trivial⟩ rfl
            · refine pw_exit rfl ?_
              refine pn_seq ?_
              refine pw_seq ?_
              refine pw_seq ?_
              refine pw_region ?_
              refine po_evs (T := tab) 1 rfl rfl ?_
              refine po_nil ?_
              refine pn_seq ?_
              refine pw_block ?_
              refine pw_loop' (Instarref03_Right_l2 fu f1) (fun (n6 : Int) => [(1, .loc 1 0), (4, .v (.int .i64 n6))]) (fun (n6 : Int) => [(1, .box [.sl 10 false (f1.Nodes.map cNode), .v (.int .i64 f1.Most)])]) fu 0 (fun _ => rfl) ⟨rfl, rfl, trivial⟩ ⟨rfl, trivial⟩ rfl ?_
              rintro k2 n6
              refine pw_seq ?_
              refine pw_seq ?_
              refine pw_region ?_
              refine po_evs (T := tab) 3 rfl rfl ?_
              refine po_len (T := tab) cNode f1.Nodes rfl rfl rfl rfl rfl rfl rfl rfl ?_
              refine po_evs (T := tab) 1 rfl rfl ?_
              refine po_nil ?_
              refine pn_seq ?_
              refine pw_cnd rfl ?_ ?_
              · refine pw_skip ?_
                refine pn_seq ?_
                refine pw_seq ?_
                refine pw_block ?_
                refine pw_seq ?_
                refine pw_region ?_
                refine po_evs (T := tab) 2 rfl rfl ?_
                refine po_nil ?_
                refine pn_seq ?_
                refine pw_seq ?_
                refine pw_region ?_
                refine po_evs (T := tab) 1 rfl rfl ?_
                refine po_nil ?_
                refine pn_seq ?_
                refine pw_block ?_
                refine pw_loop' (Instarref03_Right_l3 f1 n6 (Instarref03_Right_l2 fu f1 k2)) (fun ((at7, steps8) : Int × Int) => [(1, .loc 1 0), (4, .v (.int .i64 n6)), (5, .v (.int .i64 at7)), (6, .v (.int .i64 steps8))]) (fun ((at7, steps8) : Int × Int) => [(1, .box [.sl 10 false (f1.Nodes.map cNode), .v (.int .i64 f1.Most)])]) fu (n6, 0) (fun _ => rfl) ⟨rfl, rfl, rfl, rfl, trivial⟩ ⟨rfl, trivial⟩ rfl ?_
                rintro k3 ⟨at7, steps8⟩
                refine pw_seq ?_
                refine pw_seq ?_
                refine pw_region ?_
                refine po_evs (T := tab) 2 rfl rfl ?_
                refine po_nil ?_
                refine pn_seq ?_
                refine pw_cnd rfl ?_ ?_
                · refine pw_skip ?_
                  refine pn_seq ?_
                  refine pw_seq ?_
                  refine pw_block ?_
                  refine pw_seq ?_
                  refine pw_seq ?_
                  refine pw_region ?_
                  refine po_evs (T := tab) 3 rfl rfl ?_
                  refine po_len (T := tab) cNode f1.Nodes rfl rfl rfl rfl rfl rfl rfl rfl ?_
                  refine po_evs (T := tab) 1 rfl rfl ?_
                  refine po_nil ?_
                  refine pn_seq ?_
                  refine pw_cnd rfl ?_ ?_
                  · refine pw_seq ?_
                    refine pw_region ?_
                    refine po_evs (T := tab) 1 rfl rfl ?_
                    refine po_nil ?_
                    refine pn_seq ?_
                    exact pw_retN (T := tab) rfl rfl rfl ⟨rfl, rfl⟩ trivial rfl
                  · refine pw_skip ?_
                    refine pn_seq ?_
                    refine pw_seq ?_
                    refine pw_region ?_
                    refine po_evs (T := tab) 3 rfl rfl ?_
                    refine po_idx (T := tab) cNode f1.Nodes rfl rfl rfl rfl rfl rfl rfl fun y9 hy9 => ?_
                    refine po_evs (T := tab) 3 rfl rfl ?_
                    refine po_nil ?_
                    refine pn_seq ?_
                    refine pw_cnd rfl ?_ ?_
                    · refine pw_region ?_
                      refine po_evs (T := tab) 3 rfl rfl ?_
                      refine po_idx (T := tab) cNode f1.Nodes rfl rfl rfl rfl rfl rfl rfl fun y10 hy10 => ?_
                      refine po_evs (T := tab) 3 rfl rfl ?_
                      refine po_nil ?_
                      refine pn_block ?_
                      refine pn_seq ?_
                      refine pw_region ?_
                      refine po_evs (T := tab) 1 rfl rfl ?_
                      refine po_arith' (T := tab) rfl rfl rfl rfl fun i12 hi12 => ?_
                      refine po_evs (T := tab) 1 rfl rfl ?_
                      refine po_nil ?_
                      exact pn_iter' (y10.Parent, i12) ⟨rfl, rfl, rfl, rfl, trivial⟩ ⟨rfl, trivial⟩ rfl
                    · refine pw_region ?_
                      refine po_evs (T := tab) 3 rfl rfl ?_
                      refine po_idx (T := tab) cNode f1.Nodes rfl rfl rfl rfl rfl rfl rfl fun y11 hy11 => ?_
                      refine po_evs (T := tab) 3 rfl rfl ?_
                      refine po_nil ?_
                      refine pn_block ?_
                      refine pn_seq ?_
                      refine pw_region ?_
                      refine po_evs (T := tab) 1 rfl rfl ?_
                      refine po_arith' (T := tab) rfl rfl rfl rfl fun i13 hi13 => ?_
                      refine po_evs (T := tab) 1 rfl rfl ?_
                      refine po_nil ?_
                      exact pn_iter' (y11.Host, i13) ⟨rfl, rfl, rfl, rfl, trivial⟩ ⟨rfl, trivial⟩ rfl
                · refine pw_exit rfl ?_
                  refine pn_block ?_
                  refine pn_seq ?_
                  refine pw_region ?_
                  refine po_evs (T := tab) 1 rfl rfl ?_
                  refine po_arith' (T := tab) rfl rfl rfl rfl fun i14 hi14 => ?_
                  refine po_evs (T := tab) 1 rfl rfl ?_
                  refine po_nil ?_
                  exact pn_iter' i14 ⟨rfl, rfl, trivial⟩ ⟨rfl, trivial⟩ rfl
              · refine pw_exit rfl ?_
                refine pn_seq ?_
                refine pw_seq ?_
                refine pw_region ?_
                refine po_evs (T := tab) 1 rfl rfl ?_
                refine po_nil ?_
                refine pn_seq ?_
                exact pw_retN (T := tab) rfl rfl rfl ⟨rfl, rfl⟩ trivial rfl

def Instarref03_Bare_m (_fu : Nat) (kind1 : Int) (doc2 : Int) : Option Node := some (⟨kind1, [], [], [], [], (-1), [], (-1), (-1), doc2⟩ : Node)

set_option maxRecDepth 100000 in
theorem Instarref03_Bare_ok (fu : Nat) (kind1 : Int) (doc2 : Int) : ∀ r, Instarref03_Bare_m fu kind1 doc2 = some r → DC Try.prog 63 [.v (.int .i64 kind1), .v (.int .i64 doc2)] (.agg (cNode r)) := by
  intro r hr
  refine fc_intro (args := [.v (.int .i64 kind1), .v (.int .i64 doc2)]) (S := []) (N0 := []) (post := fun r p S => p = .agg (cNode r) ∧ S = []) Try.func63 rfl rfl hr fun w0 X X0 σ0 => ?_
  refine pw_seq ?_
  refine pw_region ?_
  refine po_alloc (T := tab) 4 rfl rfl rfl rfl rfl rfl rfl rfl rfl ?_
  refine po_nil ?_
  refine pn_seq ?_
  refine pw_seq ?_
  refine pw_region ?_
  refine po_evs (T := tab) 2 rfl rfl ?_
  refine po_build (T := tab) rfl rfl rfl rfl rfl rfl rfl ?_
  refine po_store (T := tab) rfl rfl rfl rfl rfl rfl rfl rfl rfl rfl rfl rfl ?_
  refine po_nil ?_
  refine pn_seq ?_
  refine pw_coeS 4 [.v (.int .i64 kind1), .v (.string ⟨⟨[]⟩⟩), .v (.string ⟨⟨[]⟩⟩), .v (.string ⟨⟨[]⟩⟩), .sl 2 false ([].map cAttr), .v (.int .i64 (-1)), .sl 1 false ([].map cInt_i64), .v (.int .i64 (-1)), .v (.int .i64 (-1)), .v (.int .i64 doc2)] rfl ⟨.rfl, .rfl, .rfl, .rfl, .nil, .rfl, .nil, .rfl, .rfl, .rfl, trivial⟩ rfl ?_
  exact pw_retN (T := tab) rfl rfl rfl ⟨rfl, rfl⟩ trivial rfl

def Instarref02_Same_l1 (a1 : (List Attr)) (b2 : (List Attr)) : Nat → Int → Option Bool
  | 0, _ => none
  | k1 + 1, i3 => cnd (decide (i3 < ((a1.length : Nat) : Int))) (bnd (idx a1 i3) fun y4 => bnd (idx b2 i3) fun y5 => cnd (!(eqAttr y4 y5)) (some false) (bnd (rng .i64 (i3 + 1)) fun i6 => (Instarref02_Same_l1 a1 b2 k1) i6)) (some true)

def Instarref02_Same_m (fu : Nat) (a1 : (List Attr)) (b2 : (List Attr)) : Option Bool := cnd (((a1.length : Nat) : Int) != ((b2.length : Nat) : Int)) (some false) ((Instarref02_Same_l1 a1 b2) fu 0)

set_option maxHeartbeats 10000000 in
set_option maxRecDepth 100000 in
theorem Instarref02_Same_ok (fu : Nat) (a1 : (List Attr)) (b2 : (List Attr)) : ∀ r, Instarref02_Same_m fu a1 b2 = some r → DC Try.prog 68 [.sl 2 false (a1.map cAttr), .sl 2 false (b2.map cAttr)] (.v (.bool r)) := by
  intro r hr
  refine fc_intro (args := [.sl 2 false (a1.map cAttr), .sl 2 false (b2.map cAttr)]) (S := []) (N0 := []) (post := fun r p S => p = .v (.bool r) ∧ S = []) Try.func68 rfl rfl hr fun w0 X X0 σ0 => ?_
  refine pw_seq ?_
  refine pw_region ?_
  refine po_evs (T := tab) 1 rfl rfl ?_
  refine po_nil ?_
  refine pn_seq ?_
  refine pw_seq ?_
  refine pw_seq ?_
  refine pw_region ?_
  refine po_evs (T := tab) 1 rfl rfl ?_
  refine po_len (T := tab) cAttr a1 rfl rfl rfl rfl rfl rfl rfl rfl ?_
  refine po_evs (T := tab) 1 rfl rfl ?_
  refine po_len (T := tab) cAttr b2 rfl rfl rfl rfl rfl rfl rfl rfl ?_
  refine po_evs (T := tab) 1 rfl rfl ?_
  refine po_nil ?_
  refine pn_seq ?_
  refine pw_cnd rfl ?_ ?_
  · refine pw_seq ?_
    refine pw_region ?_
    refine po_evs (T := tab) 1 rfl rfl ?_
    refine po_nil ?_
    refine pn_seq ?_
    exact pw_retN (T := tab) rfl rfl rfl ⟨rfl, rfl⟩ trivial rfl
  · refine pw_skip ?_
    refine pn_seq ?_
    refine pw_seq ?_
    refine pw_seq ?_
    refine pw_region ?_
    refine po_evs (T := tab) 1 rfl rfl ?_
    refine po_nil ?_
    refine pn_seq ?_
    refine pw_block ?_
    refine pw_loop' (Instarref02_Same_l1 a1 b2) (fun (i3 : Int) => [(0, .sl 2 false (a1.map cAttr)), (1, .sl 2 false (b2.map cAttr)), (5, .v (.int .i64 i3))]) (fun (i3 : Int) => []) fu 0 (fun _ => rfl) ⟨rfl, rfl, rfl, trivial⟩ trivial rfl ?_
    rintro k1 i3
    refine pw_seq ?_
    refine pw_seq ?_
    refine pw_region ?_
    refine po_evs (T := tab) 2 rfl rfl ?_
    refine po_len (T := tab) cAttr a1 rfl rfl rfl rfl rfl rfl rfl rfl ?_
    refine po_evs (T := tab) 1 rfl rfl ?_
    refine po_nil ?_
    refine pn_seq ?_
    refine pw_cnd rfl ?_ ?_
    · refine pw_skip ?_
      refine pn_seq ?_
      refine pw_seq ?_
      refine pw_block ?_
      refine pw_seq ?_
      refine pw_draw mixed (by kernel_rfl) ?_
      refine pd_evs (T := tab) 2 rfl rfl ?_
      refine pd_idx (T := tab) cAttr a1 rfl rfl rfl rfl rfl rfl rfl fun y4 hy4 => ?_
      refine pd_evs (T := tab) 3 rfl rfl ?_
      refine pd_idx (T := tab) cAttr b2 rfl rfl rfl rfl rfl rfl rfl fun y5 hy5 => ?_
      refine pd_evs (T := tab) 1 rfl rfl ?_
      refine pd_ne eqf_61 rfl rfl rfl rfl rfl rfl rfl ?_
      refine pd_nil ?_
      refine pn_seq ?_
      refine pw_cnd rfl ?_ ?_
      · refine pw_seq ?_
        refine pw_region ?_
        refine po_evs (T := tab) 1 rfl rfl ?_
        refine po_nil ?_
        refine pn_seq ?_
        exact pw_retN (T := tab) rfl rfl rfl ⟨rfl, rfl⟩ trivial rfl
      · refine pw_skip ?_
        refine pn_block ?_
        refine pn_seq ?_
        refine pw_region ?_
        refine po_evs (T := tab) 1 rfl rfl ?_
        refine po_arith' (T := tab) rfl rfl rfl rfl fun i6 hi6 => ?_
        refine po_evs (T := tab) 1 rfl rfl ?_
        refine po_nil ?_
        exact pn_iter' i6 ⟨rfl, rfl, rfl, trivial⟩ trivial rfl
    · refine pw_exit rfl ?_
      refine pn_seq ?_
      refine pw_seq ?_
      refine pw_region ?_
      refine po_evs (T := tab) 1 rfl rfl ?_
      refine po_nil ?_
      refine pn_seq ?_
      exact pw_retN (T := tab) rfl rfl rfl ⟨rfl, rfl⟩ trivial rfl

def Instarref03_Ints_l1 (a1 : (List Int)) (b2 : (List Int)) : Nat → Int → Option Bool
  | 0, _ => none
  | k1 + 1, i3 => cnd (decide (i3 < ((a1.length : Nat) : Int))) (bnd (idx a1 i3) fun y4 => bnd (idx b2 i3) fun y5 => cnd (y4 != y5) (some false) (bnd (rng .i64 (i3 + 1)) fun i6 => (Instarref03_Ints_l1 a1 b2 k1) i6)) (some true)

def Instarref03_Ints_m (fu : Nat) (a1 : (List Int)) (b2 : (List Int)) : Option Bool := cnd (((a1.length : Nat) : Int) != ((b2.length : Nat) : Int)) (some false) ((Instarref03_Ints_l1 a1 b2) fu 0)

set_option maxHeartbeats 10000000 in
set_option maxRecDepth 100000 in
theorem Instarref03_Ints_ok (fu : Nat) (a1 : (List Int)) (b2 : (List Int)) : ∀ r, Instarref03_Ints_m fu a1 b2 = some r → DC Try.prog 29 [.sl 1 false (a1.map cInt_i64), .sl 1 false (b2.map cInt_i64)] (.v (.bool r)) := by
  intro r hr
  refine fc_intro (args := [.sl 1 false (a1.map cInt_i64), .sl 1 false (b2.map cInt_i64)]) (S := []) (N0 := []) (post := fun r p S => p = .v (.bool r) ∧ S = []) Try.func29 rfl rfl hr fun w0 X X0 σ0 => ?_
  refine pw_seq ?_
  refine pw_region ?_
  refine po_evs (T := tab) 1 rfl rfl ?_
  refine po_nil ?_
  refine pn_seq ?_
  refine pw_seq ?_
  refine pw_seq ?_
  refine pw_region ?_
  refine po_evs (T := tab) 1 rfl rfl ?_
  refine po_len (T := tab) cInt_i64 a1 rfl rfl rfl rfl rfl rfl rfl rfl ?_
  refine po_evs (T := tab) 1 rfl rfl ?_
  refine po_len (T := tab) cInt_i64 b2 rfl rfl rfl rfl rfl rfl rfl rfl ?_
  refine po_evs (T := tab) 1 rfl rfl ?_
  refine po_nil ?_
  refine pn_seq ?_
  refine pw_cnd rfl ?_ ?_
  · refine pw_seq ?_
    refine pw_region ?_
    refine po_evs (T := tab) 1 rfl rfl ?_
    refine po_nil ?_
    refine pn_seq ?_
    exact pw_retN (T := tab) rfl rfl rfl ⟨rfl, rfl⟩ trivial rfl
  · refine pw_skip ?_
    refine pn_seq ?_
    refine pw_seq ?_
    refine pw_seq ?_
    refine pw_region ?_
    refine po_evs (T := tab) 1 rfl rfl ?_
    refine po_nil ?_
    refine pn_seq ?_
    refine pw_block ?_
    refine pw_loop' (Instarref03_Ints_l1 a1 b2) (fun (i3 : Int) => [(0, .sl 1 false (a1.map cInt_i64)), (1, .sl 1 false (b2.map cInt_i64)), (5, .v (.int .i64 i3))]) (fun (i3 : Int) => []) fu 0 (fun _ => rfl) ⟨rfl, rfl, rfl, trivial⟩ trivial rfl ?_
    rintro k1 i3
    refine pw_seq ?_
    refine pw_seq ?_
    refine pw_region ?_
    refine po_evs (T := tab) 2 rfl rfl ?_
    refine po_len (T := tab) cInt_i64 a1 rfl rfl rfl rfl rfl rfl rfl rfl ?_
    refine po_evs (T := tab) 1 rfl rfl ?_
    refine po_nil ?_
    refine pn_seq ?_
    refine pw_cnd rfl ?_ ?_
    · refine pw_skip ?_
      refine pn_seq ?_
      refine pw_seq ?_
      refine pw_block ?_
      refine pw_seq ?_
      refine pw_draw mixed (by kernel_rfl) ?_
      refine pd_evs (T := tab) 2 rfl rfl ?_
      refine pd_idx (T := tab) cInt_i64 a1 rfl rfl rfl rfl rfl rfl rfl fun y4 hy4 => ?_
      refine pd_evs (T := tab) 3 rfl rfl ?_
      refine pd_idx (T := tab) cInt_i64 b2 rfl rfl rfl rfl rfl rfl rfl fun y5 hy5 => ?_
      refine pd_evs (T := tab) 2 rfl rfl ?_
      refine pd_nil ?_
      refine pn_seq ?_
      refine pw_cnd rfl ?_ ?_
      · refine pw_seq ?_
        refine pw_region ?_
        refine po_evs (T := tab) 1 rfl rfl ?_
        refine po_nil ?_
        refine pn_seq ?_
        exact pw_retN (T := tab) rfl rfl rfl ⟨rfl, rfl⟩ trivial rfl
      · refine pw_skip ?_
        refine pn_block ?_
        refine pn_seq ?_
        refine pw_region ?_
        refine po_evs (T := tab) 1 rfl rfl ?_
        refine po_arith' (T := tab) rfl rfl rfl rfl fun i6 hi6 => ?_
        refine po_evs (T := tab) 1 rfl rfl ?_
        refine po_nil ?_
        exact pn_iter' i6 ⟨rfl, rfl, rfl, trivial⟩ trivial rfl
    · refine pw_exit rfl ?_
      refine pn_seq ?_
      refine pw_seq ?_
      refine pw_region ?_
      refine po_evs (T := tab) 1 rfl rfl ?_
      refine po_nil ?_
      refine pn_seq ?_
      exact pw_retN (T := tab) rfl rfl rfl ⟨rfl, rfl⟩ trivial rfl

def Instarref03_One_m (fu : Nat) (a1 : Node) (b2 : Node) : Option Bool := cnd (a1.Kind == b2.Kind) (cnd (a1.Name == b2.Name) (cnd (a1.Is == b2.Is) (cnd (a1.Data == b2.Data) (bnd (Instarref02_Same_m fu a1.Attrs b2.Attrs) fun r3 => cnd r3 (cnd (a1.Parent == b2.Parent) (bnd (Instarref03_Ints_m fu a1.Kids b2.Kids) fun r4 => cnd r4 (cnd (a1.Host == b2.Host) (cnd (a1.Under == b2.Under) (some (a1.Doc == b2.Doc)) (some false)) (some false)) (some false)) (some false)) (some false)) (some false)) (some false)) (some false)) (some false)

set_option maxHeartbeats 10000000 in
set_option maxRecDepth 100000 in
theorem Instarref03_One_ok (fu : Nat) (a1 : Node) (b2 : Node) : ∀ r, Instarref03_One_m fu a1 b2 = some r → DC Try.prog 36 [.agg (cNode a1), .agg (cNode b2)] (.v (.bool r)) := by
  intro r hr
  refine fc_intro (args := [.agg (cNode a1), .agg (cNode b2)]) (S := []) (N0 := []) (post := fun r p S => p = .v (.bool r) ∧ S = []) Try.func36 rfl rfl hr fun w0 X X0 σ0 => ?_
  refine pw_seq ?_
  refine pw_region ?_
  refine po_box  2 rfl rfl rfl rfl rfl rfl rfl rfl rfl rfl ?_
  refine po_box  3 rfl rfl rfl rfl rfl rfl rfl rfl rfl rfl ?_
  refine po_evs (T := tab) 1 rfl rfl ?_
  refine po_nil ?_
  refine pn_seq ?_
  refine pw_seq ?_
  refine pw_region ?_
  refine po_evs (T := tab) 6 rfl rfl ?_
  refine po_split (j := 10) rfl ?_ ?_
  · refine po_evs (T := tab) 7 rfl rfl ?_
    refine po_split (j := 17) rfl ?_ ?_
    · refine po_evs (T := tab) 7 rfl rfl ?_
      refine po_split (j := 24) rfl ?_ ?_
      · refine po_evs (T := tab) 7 rfl rfl ?_
        refine po_split (j := 31) rfl ?_ ?_
        · refine po_evs (T := tab) 4 rfl rfl ?_
          refine po_call (enc := fun (r3 : Bool) => .v (.bool r3)) (qs := [.sl 2 false (a1.Attrs.map cAttr), .sl 2 false (b2.Attrs.map cAttr)]) (Instarref02_Same_ok fu a1.Attrs b2.Attrs) rfl rfl ⟨⟨_, rfl, .rfl⟩, ⟨_, rfl, .rfl⟩, trivial⟩ (fun _ => rfl) call68 rfl rfl fun r3 hr3 => ?_
          refine po_evs (T := tab) 2 rfl rfl ?_
          refine po_split (j := 38) rfl ?_ ?_
          · refine po_evs (T := tab) 7 rfl rfl ?_
            refine po_split (j := 45) rfl ?_ ?_
            · refine po_evs (T := tab) 4 rfl rfl ?_
              refine po_call (enc := fun (r4 : Bool) => .v (.bool r4)) (qs := [.sl 1 false (a1.Kids.map cInt_i64), .sl 1 false (b2.Kids.map cInt_i64)]) (Instarref03_Ints_ok fu a1.Kids b2.Kids) rfl rfl ⟨⟨_, rfl, .rfl⟩, ⟨_, rfl, .rfl⟩, trivial⟩ (fun _ => rfl) call29 rfl rfl fun r4 hr4 => ?_
              refine po_evs (T := tab) 2 rfl rfl ?_
              refine po_split (j := 52) rfl ?_ ?_
              · refine po_evs (T := tab) 7 rfl rfl ?_
                refine po_split (j := 59) rfl ?_ ?_
                · refine po_evs (T := tab) 7 rfl rfl ?_
                  refine po_split (j := 66) rfl ?_ ?_
                  · refine po_evs (T := tab) 7 rfl rfl ?_
                    refine po_nil ?_
                    refine pn_seq ?_
                    exact pw_retN (T := tab) rfl rfl rfl ⟨rfl, rfl⟩ trivial rfl
                  · refine po_evs (T := tab) 7 rfl rfl ?_
                    refine po_nil ?_
                    refine pn_seq ?_
                    exact pw_retN (T := tab) rfl rfl rfl ⟨rfl, rfl⟩ trivial rfl
                · refine po_evs (T := tab) 14 rfl rfl ?_
                  refine po_nil ?_
                  refine pn_seq ?_
                  exact pw_retN (T := tab) rfl rfl rfl ⟨rfl, rfl⟩ trivial rfl
              · refine po_evs (T := tab) 21 rfl rfl ?_
                refine po_nil ?_
                refine pn_seq ?_
                exact pw_retN (T := tab) rfl rfl rfl ⟨rfl, rfl⟩ trivial rfl
            · refine po_evs (T := tab) 28 rfl rfl ?_
              refine po_nil ?_
              refine pn_seq ?_
              exact pw_retN (T := tab) rfl rfl rfl ⟨rfl, rfl⟩ trivial rfl
          · refine po_evs (T := tab) 35 rfl rfl ?_
            refine po_nil ?_
            refine pn_seq ?_
            exact pw_retN (T := tab) rfl rfl rfl ⟨rfl, rfl⟩ trivial rfl
        · refine po_evs (T := tab) 42 rfl rfl ?_
          refine po_nil ?_
          refine pn_seq ?_
          exact pw_retN (T := tab) rfl rfl rfl ⟨rfl, rfl⟩ trivial rfl
      · refine po_evs (T := tab) 49 rfl rfl ?_
        refine po_nil ?_
        refine pn_seq ?_
        exact pw_retN (T := tab) rfl rfl rfl ⟨rfl, rfl⟩ trivial rfl
    · refine po_evs (T := tab) 56 rfl rfl ?_
      refine po_nil ?_
      refine pn_seq ?_
      exact pw_retN (T := tab) rfl rfl rfl ⟨rfl, rfl⟩ trivial rfl
  · refine po_evs (T := tab) 63 rfl rfl ?_
    refine po_nil ?_
    refine pn_seq ?_
    exact pw_retN (T := tab) rfl rfl rfl ⟨rfl, rfl⟩ trivial rfl

def Instarref03_Same_l1 (fu : Nat) (a1 : Forest) (b2 : Forest) : Nat → Int → Option Bool
  | 0, _ => none
  | k1 + 1, i3 => cnd (decide (i3 < ((a1.Nodes.length : Nat) : Int))) (bnd (idx a1.Nodes i3) fun y4 => bnd (idx b2.Nodes i3) fun y5 => bnd (Instarref03_One_m fu y4 y5) fun r6 => cnd (!r6) (some false) (bnd (rng .i64 (i3 + 1)) fun i7 => (Instarref03_Same_l1 fu a1 b2 k1) i7)) (some true)

def Instarref03_Same_m (fu : Nat) (a1 : Forest) (b2 : Forest) : Option Bool := cnd (a1.Most != b2.Most) (some false) (cnd (((a1.Nodes.length : Nat) : Int) != ((b2.Nodes.length : Nat) : Int)) (some false) ((Instarref03_Same_l1 fu a1 b2) fu 0))

set_option maxHeartbeats 10000000 in
set_option maxRecDepth 100000 in
theorem Instarref03_Same_ok (fu : Nat) (a1 : Forest) (b2 : Forest) : ∀ r, Instarref03_Same_m fu a1 b2 = some r → DC Try.prog 20 [.agg (cForest a1), .agg (cForest b2)] (.v (.bool r)) := by
  intro r hr
  refine fc_intro (args := [.agg (cForest a1), .agg (cForest b2)]) (S := []) (N0 := []) (post := fun r p S => p = .v (.bool r) ∧ S = []) Try.func20 rfl rfl hr fun w0 X X0 σ0 => ?_
  refine pw_seq ?_
  refine pw_region ?_
  refine po_box  2 rfl rfl rfl rfl rfl rfl rfl rfl rfl rfl ?_
  refine po_box  3 rfl rfl rfl rfl rfl rfl rfl rfl rfl rfl ?_
  refine po_evs (T := tab) 1 rfl rfl ?_
  refine po_nil ?_
  refine pn_seq ?_
  refine pw_seq ?_
  refine pw_seq ?_
  refine pw_region ?_
  refine po_evs (T := tab) 6 rfl rfl ?_
  refine po_split (j := 11) rfl ?_ ?_
  · refine po_evs (T := tab) 8 rfl rfl ?_
    refine po_nil ?_
    refine pn_seq (pw_then rfl ?_)
    refine pw_seq ?_
    refine pw_region ?_
    refine po_evs (T := tab) 1 rfl rfl ?_
    refine po_nil ?_
    refine pn_seq ?_
    exact pw_retN (T := tab) rfl rfl rfl ⟨rfl, rfl⟩ trivial rfl
  · refine po_evs (T := tab) 2 rfl rfl ?_
    refine po_len (T := tab) cNode a1.Nodes rfl rfl rfl rfl rfl rfl rfl rfl ?_
    refine po_evs (T := tab) 2 rfl rfl ?_
    refine po_len (T := tab) cNode b2.Nodes rfl rfl rfl rfl rfl rfl rfl rfl ?_
    refine po_evs (T := tab) 2 rfl rfl ?_
    refine po_nil ?_
    refine pn_seq ?_
    refine pw_cnd rfl ?_ ?_
    · refine pw_seq ?_
      refine pw_region ?_
      refine po_evs (T := tab) 1 rfl rfl ?_
      refine po_nil ?_
      refine pn_seq ?_
      exact pw_retN (T := tab) rfl rfl rfl ⟨rfl, rfl⟩ trivial rfl
    · refine pw_skip ?_
      refine pn_seq ?_
      refine pw_seq ?_
      refine pw_seq ?_
      refine pw_region ?_
      refine po_evs (T := tab) 1 rfl rfl ?_
      refine po_nil ?_
      refine pn_seq ?_
      refine pw_block ?_
      refine pw_loop' (Instarref03_Same_l1 fu a1 b2) (fun (i3 : Int) => [(2, .loc 2 0), (3, .loc 3 0), (5, .v (.int .i64 i3))]) (fun (i3 : Int) => [(3, .box [.sl 10 false (b2.Nodes.map cNode), .v (.int .i64 b2.Most)]), (2, .box [.sl 10 false (a1.Nodes.map cNode), .v (.int .i64 a1.Most)])]) fu 0 (fun _ => rfl) ⟨rfl, rfl, rfl, trivial⟩ ⟨rfl, rfl, trivial⟩ rfl ?_
      rintro k1 i3
      refine pw_seq ?_
      refine pw_seq ?_
      refine pw_region ?_
      refine po_evs (T := tab) 3 rfl rfl ?_
      refine po_len (T := tab) cNode a1.Nodes rfl rfl rfl rfl rfl rfl rfl rfl ?_
      refine po_evs (T := tab) 1 rfl rfl ?_
      refine po_nil ?_
      refine pn_seq ?_
      refine pw_cnd rfl ?_ ?_
      · refine pw_skip ?_
        refine pn_seq ?_
        refine pw_seq ?_
        refine pw_block ?_
        refine pw_seq ?_
        refine pw_draw mixed (by kernel_rfl) ?_
        refine pd_evs (T := tab) 3 rfl rfl ?_
        refine pd_idx (T := tab) cNode a1.Nodes rfl rfl rfl rfl rfl rfl rfl fun y4 hy4 => ?_
        refine pd_evs (T := tab) 4 rfl rfl ?_
        refine pd_idx (T := tab) cNode b2.Nodes rfl rfl rfl rfl rfl rfl rfl fun y5 hy5 => ?_
        refine pd_evs (T := tab) 1 rfl rfl ?_
        refine pd_call (enc := fun (r6 : Bool) => .v (.bool r6)) (qs := [.agg (cNode y4), .agg (cNode y5)]) (Instarref03_One_ok fu y4 y5) rfl rfl ⟨⟨_, rfl, .rfl⟩, ⟨_, rfl, .rfl⟩, trivial⟩ (fun _ => rfl) call36 rfl rfl fun r6 hr6 => ?_
        refine pd_evs (T := tab) 1 rfl rfl ?_
        refine pd_nil ?_
        refine pn_seq ?_
        refine pw_cnd rfl ?_ ?_
        · refine pw_seq ?_
          refine pw_region ?_
          refine po_evs (T := tab) 1 rfl rfl ?_
          refine po_nil ?_
          refine pn_seq ?_
          exact pw_retN (T := tab) rfl rfl rfl ⟨rfl, rfl⟩ trivial rfl
        · refine pw_skip ?_
          refine pn_block ?_
          refine pn_seq ?_
          refine pw_region ?_
          refine po_evs (T := tab) 1 rfl rfl ?_
          refine po_arith' (T := tab) rfl rfl rfl rfl fun i7 hi7 => ?_
          refine po_evs (T := tab) 1 rfl rfl ?_
          refine po_nil ?_
          exact pn_iter' i7 ⟨rfl, rfl, rfl, trivial⟩ ⟨rfl, rfl, trivial⟩ rfl
      · refine pw_exit rfl ?_
        refine pn_seq ?_
        refine pw_seq ?_
        refine pw_region ?_
        refine po_evs (T := tab) 1 rfl rfl ?_
        refine po_nil ?_
        refine pn_seq ?_
        exact pw_retN (T := tab) rfl rfl rfl ⟨rfl, rfl⟩ trivial rfl

def Instarref03_Make_j1 (fu : Nat) (f1 : Forest) (n2 : Node) (r3 : Node) (c4 : Int) : Option (Forest × Int × Int) := bnd (roomy 136 (([] : List Node).length + f1.Nodes.length)) fun _ => bnd (roomy 136 ((([] : List Node) ++ f1.Nodes).length + ([(⟨r3.Kind, n2.Name, n2.Is, n2.Data, n2.Attrs, r3.Parent, r3.Kids, r3.Host, r3.Under, c4⟩ : Node)] : List Node).length)) fun _ => cnd (n2.Kind == 4) (some (f1, (-1), 1)) (bnd (Instarref03_Node_m fu (⟨((([] : List Node) ++ f1.Nodes) ++ [(⟨r3.Kind, n2.Name, n2.Is, n2.Data, n2.Attrs, r3.Parent, r3.Kids, r3.Host, r3.Under, c4⟩ : Node)]), 400⟩ : Forest) ((f1.Nodes.length : Nat) : Int)) fun r5 => cnd (!r5) (some (f1, (-1), 1)) (cnd (decide (((f1.Nodes.length : Nat) : Int) ≥ f1.Most)) (some (f1, (-1), 8)) (some ((⟨((([] : List Node) ++ f1.Nodes) ++ [(⟨r3.Kind, n2.Name, n2.Is, n2.Data, n2.Attrs, r3.Parent, r3.Kids, r3.Host, r3.Under, c4⟩ : Node)]), f1.Most⟩ : Forest), ((f1.Nodes.length : Nat) : Int), 0))))

def Instarref03_Make_m (fu : Nat) (f1 : Forest) (n2 : Node) : Option (Forest × Int × Int) := bnd (Instarref03_Bare_m fu n2.Kind n2.Doc) fun r3 => cnd (n2.Kind == 0) ((Instarref03_Make_j1 fu f1 n2 r3) ((f1.Nodes.length : Nat) : Int)) ((Instarref03_Make_j1 fu f1 n2 r3) r3.Doc)

set_option maxHeartbeats 10000000 in
set_option maxRecDepth 100000 in
theorem Instarref03_Make_ok (fu : Nat) (f1 : Forest) (n2 : Node) : ∀ r, Instarref03_Make_m fu f1 n2 = some r → DC Try.prog 27 [.agg (cForest f1), .agg (cNode n2)] (.tup [.agg (cForest r.1), .v (.int .i64 r.2.1), .v (.int .i64 r.2.2)]) := by
  intro r hr
  refine fc_intro (args := [.agg (cForest f1), .agg (cNode n2)]) (S := []) (N0 := []) (post := fun r p S => p = .tup [.agg (cForest r.1), .v (.int .i64 r.2.1), .v (.int .i64 r.2.2)] ∧ S = []) Try.func27 rfl rfl hr fun w0 X X0 σ0 => ?_
  refine pw_seq ?_
  refine pw_region ?_
  refine po_box  2 rfl rfl rfl rfl rfl rfl rfl rfl rfl rfl ?_
  refine po_box  3 rfl rfl rfl rfl rfl rfl rfl rfl rfl rfl ?_
  refine po_alloc (T := tab) 4 rfl rfl rfl rfl rfl rfl rfl rfl rfl ?_
  refine po_evs (T := tab) 2 rfl rfl ?_
  refine po_nil ?_
  refine pn_seq ?_
  refine pw_seq ?_
  refine pw_region ?_
  refine po_evs (T := tab) 4 rfl rfl ?_
  refine po_call (enc := fun (r3 : Node) => .agg (cNode r3)) (qs := [.v (.int .i64 n2.Kind), .v (.int .i64 n2.Doc)]) (Instarref03_Bare_ok fu n2.Kind n2.Doc) rfl rfl ⟨⟨_, rfl, .rfl⟩, ⟨_, rfl, .rfl⟩, trivial⟩ (fun _ => rfl) call63 rfl rfl fun r3 hr3 => ?_
  refine po_alloc (T := tab) 7 rfl rfl rfl rfl rfl rfl rfl rfl rfl ?_
  refine po_store (T := tab) rfl rfl rfl rfl rfl rfl rfl rfl rfl rfl rfl rfl ?_
  refine po_nil ?_
  refine pn_seq ?_
  refine pw_seq ?_
  refine pw_region ?_
  refine po_evs (T := tab) 3 rfl rfl ?_
  refine po_store (T := tab) rfl rfl rfl rfl rfl rfl rfl rfl rfl rfl rfl rfl ?_
  refine po_nil ?_
  refine pn_seq ?_
  refine pw_seq ?_
  refine pw_region ?_
  refine po_evs (T := tab) 3 rfl rfl ?_
  refine po_store (T := tab) rfl rfl rfl rfl rfl rfl rfl rfl rfl rfl rfl rfl ?_
  refine po_nil ?_
  refine pn_seq ?_
  refine pw_seq ?_
  refine pw_region ?_
  refine po_evs (T := tab) 3 rfl rfl ?_
  refine po_store (T := tab) rfl rfl rfl rfl rfl rfl rfl rfl rfl rfl rfl rfl ?_
  refine po_nil ?_
  refine pn_seq ?_
  refine pw_seq ?_
  refine pw_region ?_
  refine po_evs (T := tab) 3 rfl rfl ?_
  refine po_store (T := tab) rfl rfl rfl rfl rfl rfl rfl rfl rfl rfl rfl rfl ?_
  refine po_nil ?_
  refine pn_seq ?_
  refine pw_seq ?_
  refine pw_seq ?_
  refine pw_region ?_
  refine po_evs (T := tab) 3 rfl rfl ?_
  refine po_nil ?_
  refine pn_seq ?_
  refine pw_joinK (Instarref03_Make_j1 fu f1 n2 r3) (fun (c4 : Int) => [(2, .loc 2 0), (3, .loc 3 0), (4, .loc 4 0), (7, .loc 7 0)]) (fun (c4 : Int) => [(7, .box [.v (.int .i64 r3.Kind), .v (.string ⟨⟨n2.Name⟩⟩), .v (.string ⟨⟨n2.Is⟩⟩), .v (.string ⟨⟨n2.Data⟩⟩), .sl 2 false (n2.Attrs.map cAttr), .v (.int .i64 r3.Parent), .sl 1 false (r3.Kids.map cInt_i64), .v (.int .i64 r3.Host), .v (.int .i64 r3.Under), .v (.int .i64 c4)]), (4, .box [.v (.slice none 0 0), .v (.int .i64 0)]), (3, .box [.v (.int .i64 n2.Kind), .v (.string ⟨⟨n2.Name⟩⟩), .v (.string ⟨⟨n2.Is⟩⟩), .v (.string ⟨⟨n2.Data⟩⟩), .sl 2 false (n2.Attrs.map cAttr), .v (.int .i64 n2.Parent), .sl 1 false (n2.Kids.map cInt_i64), .v (.int .i64 n2.Host), .v (.int .i64 n2.Under), .v (.int .i64 n2.Doc)]), (2, .box [.sl 10 false (f1.Nodes.map cNode), .v (.int .i64 f1.Most)])]) ?_ fun hj1 => ?_
  · rintro c4
    refine pn_seq ?_
    refine pw_seq ?_
    refine pw_sub' (E' := [(2, .loc 2 0), (3, .loc 3 0), (4, .loc 4 0), (7, .loc 7 0)]) (S' := [(7, .box [.v (.int .i64 r3.Kind), .v (.string ⟨⟨n2.Name⟩⟩), .v (.string ⟨⟨n2.Is⟩⟩), .v (.string ⟨⟨n2.Data⟩⟩), .sl 2 false (n2.Attrs.map cAttr), .v (.int .i64 r3.Parent), .sl 1 false (r3.Kids.map cInt_i64), .v (.int .i64 r3.Host), .v (.int .i64 r3.Under), .v (.int .i64 c4)]), (4, .box [.v (.slice none 0 0), .v (.int .i64 0)]), (3, .box [.v (.int .i64 n2.Kind), .v (.string ⟨⟨n2.Name⟩⟩), .v (.string ⟨⟨n2.Is⟩⟩), .v (.string ⟨⟨n2.Data⟩⟩), .sl 2 false (n2.Attrs.map cAttr), .v (.int .i64 n2.Parent), .sl 1 false (n2.Kids.map cInt_i64), .v (.int .i64 n2.Host), .v (.int .i64 n2.Under), .v (.int .i64 n2.Doc)]), (2, .box [.sl 10 false (f1.Nodes.map cNode), .v (.int .i64 f1.Most)])]) ?_ ⟨rfl, rfl, rfl, rfl, trivial⟩ ⟨rfl, rfl, rfl, rfl, trivial⟩ rfl
    refine pw_drawV [0, 0, 2, 7, 0, 16, 63, 127, 0, 511] mixed (by kernel_rfl) (by kernel_rfl) rfl rfl ?_
    refine pdv_step0 [] [66, 67] [33] [] [] [(33, .own 33)] [(33, .arr 28 10 (([] : List Node).map cNode))] rfl rfl rfl rfl (by kernel_rfl) (by kernel_rfl) (by kernel_rfl) trivial (fun w0 X X0 σ0 => by refine po_lit (T := tab) (rows := ([] : List Node).map cNode) 33 rfl rfl rfl rfl rfl rfl rfl rfl rfl rfl rfl rfl rfl rfl ?_; refine po_nil ?_; exact pn_end0 ⟨rfl, trivial⟩ ⟨rfl, trivial⟩ rfl) ?_
    refine pdv_step0 [4] [68] [] [2] [] [(34, .loc 2 0)] [] rfl rfl rfl rfl (by kernel_rfl) (by kernel_rfl) (by kernel_rfl) trivial (fun w0 X X0 σ0 => by refine po_evs (T := tab) 1 rfl rfl ?_; refine po_nil ?_; exact pn_end0 ⟨rfl, trivial⟩ trivial rfl) ?_
    refine pdv_step0 [5, 68] [70] [] [2] [2] [(35, .sl 10 false (f1.Nodes.map cNode))] [(2, .box [.sl 10 false (f1.Nodes.map cNode), .v (.int .i64 f1.Most)])] rfl rfl rfl rfl (by kernel_rfl) (by kernel_rfl) (by kernel_rfl) ⟨rfl, trivial⟩ (fun w0 X X0 σ0 => by refine po_evs (T := tab) 1 rfl rfl ?_; refine po_nil ?_; exact pn_end0 ⟨rfl, trivial⟩ ⟨rfl, trivial⟩ rfl) ?_
    refine pdv_step (M := (roomy 136 (([] : List Node).length + f1.Nodes.length))) (ment := [(72, [33]), (66, []), (67, [])]) [66, 67, 70] [72, 66, 67] [33] [] [] (fun _ => [(36, .own 33)]) (fun _ => [(33, .arr 28 10 ((([] : List Node) ++ f1.Nodes).map cNode))]) rfl rfl (fun _ => rfl) (fun _ => rfl) (by kernel_rfl) (by kernel_rfl) (fun _ => by kernel_rfl) (fun _ => trivial) (fun w0 X X0 σ0 => by refine po_append (T := tab) cNode ([] : List Node) f1.Nodes rfl rfl rfl rfl rfl rfl rfl rfl rfl rfl rfl rfl rfl rfl (cNode_one _) rfl rfl rfl rfl rfl ?_; refine po_nil ?_; exact pn_end ⟨rfl, trivial⟩ ⟨rfl, trivial⟩ rfl) fun _ h0 => ?_
    refine pdv_step0 [14, 15] [74] [] [7] [7] [(37, .agg [.v (.int .i64 r3.Kind), .v (.string ⟨⟨n2.Name⟩⟩), .v (.string ⟨⟨n2.Is⟩⟩), .v (.string ⟨⟨n2.Data⟩⟩), .sl 2 false (n2.Attrs.map cAttr), .v (.int .i64 r3.Parent), .sl 1 false (r3.Kids.map cInt_i64), .v (.int .i64 r3.Host), .v (.int .i64 r3.Under), .v (.int .i64 c4)])] [(7, .box [.v (.int .i64 r3.Kind), .v (.string ⟨⟨n2.Name⟩⟩), .v (.string ⟨⟨n2.Is⟩⟩), .v (.string ⟨⟨n2.Data⟩⟩), .sl 2 false (n2.Attrs.map cAttr), .v (.int .i64 r3.Parent), .sl 1 false (r3.Kids.map cInt_i64), .v (.int .i64 r3.Host), .v (.int .i64 r3.Under), .v (.int .i64 c4)])] rfl rfl rfl rfl (by kernel_rfl) (by kernel_rfl) (by kernel_rfl) ⟨rfl, trivial⟩ (fun w0 X X0 σ0 => by refine po_evs (T := tab) 1 rfl rfl ?_; refine po_nil ?_; exact pn_end0 ⟨rfl, trivial⟩ ⟨rfl, trivial⟩ rfl) ?_
    refine pdv_step0 [74] [76, 77] [38] [] [] [(38, .own 38)] [(38, .arr 28 10 ([(⟨r3.Kind, n2.Name, n2.Is, n2.Data, n2.Attrs, r3.Parent, r3.Kids, r3.Host, r3.Under, c4⟩ : Node)].map cNode))] rfl rfl rfl rfl (by kernel_rfl) (by kernel_rfl) (by kernel_rfl) trivial (fun w0 X X0 σ0 => by refine po_lit (T := tab) (rows := [(⟨r3.Kind, n2.Name, n2.Is, n2.Data, n2.Attrs, r3.Parent, r3.Kids, r3.Host, r3.Under, c4⟩ : Node)].map cNode) 38 rfl rfl rfl rfl rfl rfl rfl rfl rfl rfl rfl rfl rfl rfl ?_; refine po_nil ?_; exact pn_end0 ⟨rfl, trivial⟩ ⟨rfl, trivial⟩ rfl) ?_
    refine pdv_step (M := (roomy 136 ((([] : List Node) ++ f1.Nodes).length + ([(⟨r3.Kind, n2.Name, n2.Is, n2.Data, n2.Attrs, r3.Parent, r3.Kids, r3.Host, r3.Under, c4⟩ : Node)] : List Node).length))) (ment := [(78, [33]), (72, []), (67, []), (66, [])]) [66, 67, 72, 76, 77] [78, 72, 67, 66] [33] [38] [38] (fun _ => [(39, .own 33)]) (fun _ => [(33, .arr 28 10 (((([] : List Node) ++ f1.Nodes) ++ [(⟨r3.Kind, n2.Name, n2.Is, n2.Data, n2.Attrs, r3.Parent, r3.Kids, r3.Host, r3.Under, c4⟩ : Node)]).map cNode)), (38, .arr 28 10 ([(⟨r3.Kind, n2.Name, n2.Is, n2.Data, n2.Attrs, r3.Parent, r3.Kids, r3.Host, r3.Under, c4⟩ : Node)].map cNode))]) rfl rfl (fun _ => rfl) (fun _ => rfl) (by kernel_rfl) (by kernel_rfl) (fun _ => by kernel_rfl) (fun _ => ⟨rfl, trivial⟩) (fun w0 X X0 σ0 => by refine po_append (T := tab) cNode (([] : List Node) ++ f1.Nodes) ([(⟨r3.Kind, n2.Name, n2.Is, n2.Data, n2.Attrs, r3.Parent, r3.Kids, r3.Host, r3.Under, c4⟩ : Node)] : List Node) rfl rfl rfl rfl rfl rfl rfl rfl rfl rfl rfl rfl rfl rfl (cNode_one _) rfl rfl rfl rfl rfl ?_; refine po_nil ?_; exact pn_end ⟨rfl, trivial⟩ ⟨rfl, rfl, trivial⟩ rfl) fun _ h0 => ?_
    refine pdv_step0 [67, 78] [80] [] [33] [33] [(40, .agg [.own 33, .v (.int .i64 400)])] [(33, .arr 28 10 (((([] : List Node) ++ f1.Nodes) ++ [(⟨r3.Kind, n2.Name, n2.Is, n2.Data, n2.Attrs, r3.Parent, r3.Kids, r3.Host, r3.Under, c4⟩ : Node)]).map cNode))] rfl rfl rfl rfl (by kernel_rfl) (by kernel_rfl) (by kernel_rfl) ⟨rfl, trivial⟩ (fun w0 X X0 σ0 => by refine po_build (T := tab) rfl rfl rfl rfl rfl rfl rfl ?_; refine po_nil ?_; exact pn_end0 ⟨rfl, trivial⟩ ⟨rfl, trivial⟩ rfl) ?_
    refine pdv_step0 [] [16, 17] [8] [] [] [(8, .loc 8 0)] [(8, .box [.v (.slice none 0 0), .v (.int .i64 0)])] rfl rfl rfl rfl (by kernel_rfl) (by kernel_rfl) (by kernel_rfl) trivial (fun w0 X X0 σ0 => by refine po_alloc (T := tab) 8 rfl rfl rfl rfl rfl rfl rfl rfl rfl ?_; refine po_nil ?_; exact pn_end0 ⟨rfl, trivial⟩ ⟨rfl, trivial⟩ rfl) ?_
    refine pdv_step0 [16, 17, 67, 80] [17] [] [8, 33] [33] [] [(8, .box [.own 33, .v (.int .i64 400)]), (33, .arr 28 10 (((([] : List Node) ++ f1.Nodes) ++ [(⟨r3.Kind, n2.Name, n2.Is, n2.Data, n2.Attrs, r3.Parent, r3.Kids, r3.Host, r3.Under, c4⟩ : Node)]).map cNode))] rfl rfl rfl rfl (by kernel_rfl) (by kernel_rfl) (by kernel_rfl) ⟨rfl, trivial⟩ (fun w0 X X0 σ0 => by refine po_store (T := tab) rfl rfl rfl rfl rfl rfl rfl rfl rfl rfl rfl rfl ?_; refine po_nil ?_; exact pn_end0 trivial ⟨rfl, rfl, trivial⟩ rfl) ?_
    refine pdv_nil rfl rfl ?_
    refine pn_seq ?_
    refine pw_seq ?_
    refine pw_seq ?_
    refine pw_region ?_
    refine po_evs (T := tab) 4 rfl rfl ?_
    refine po_split (j := 44) rfl ?_ ?_
    · refine po_evs (T := tab) 7 rfl rfl ?_
      refine po_nil ?_
      refine pn_seq (pw_then rfl ?_)
      refine pw_seq ?_
      refine pw_region ?_
      refine po_evs (T := tab) 1 rfl rfl ?_
      refine po_store (T := tab) rfl rfl rfl rfl rfl rfl rfl rfl rfl rfl rfl rfl ?_
      refine po_evs (T := tab) 2 rfl rfl ?_
      refine po_nil ?_
      refine pn_seq ?_
      exact pw_retN (T := tab) rfl rfl rfl ⟨rfl, rfl⟩ trivial rfl
    · refine po_evs (T := tab) 3 rfl rfl ?_
      refine po_len (T := tab) cNode f1.Nodes rfl rfl rfl rfl rfl rfl rfl rfl ?_
      refine po_freeze 33 rfl rfl rfl ?_
      refine po_call (enc := fun (r5 : Bool) => .v (.bool r5)) (qs := [.agg (cForest (⟨((([] : List Node) ++ f1.Nodes) ++ [(⟨r3.Kind, n2.Name, n2.Is, n2.Data, n2.Attrs, r3.Parent, r3.Kids, r3.Host, r3.Under, c4⟩ : Node)]), 400⟩ : Forest)), .v (.int .i64 ((f1.Nodes.length : Nat) : Int))]) (Instarref03_Node_ok fu (⟨((([] : List Node) ++ f1.Nodes) ++ [(⟨r3.Kind, n2.Name, n2.Is, n2.Data, n2.Attrs, r3.Parent, r3.Kids, r3.Host, r3.Under, c4⟩ : Node)]), 400⟩ : Forest) ((f1.Nodes.length : Nat) : Int)) rfl rfl ⟨⟨_, rfl, .rfl⟩, ⟨_, rfl, .rfl⟩, trivial⟩ (fun _ => rfl) call56 rfl rfl fun r5 hr5 => ?_
      refine po_evs (T := tab) 2 rfl rfl ?_
      refine po_nil ?_
      refine pn_seq ?_
      refine pw_cnd rfl ?_ ?_
      · refine pw_seq ?_
        refine pw_region ?_
        refine po_evs (T := tab) 1 rfl rfl ?_
        refine po_store (T := tab) rfl rfl rfl rfl rfl rfl rfl rfl rfl rfl rfl rfl ?_
        refine po_evs (T := tab) 2 rfl rfl ?_
        refine po_nil ?_
        refine pn_seq ?_
        exact pw_retN (T := tab) rfl rfl rfl ⟨rfl, rfl⟩ trivial rfl
      · refine pw_skip ?_
        refine pn_seq ?_
        refine pw_seq ?_
        refine pw_seq ?_
        refine pw_region ?_
        refine po_evs (T := tab) 2 rfl rfl ?_
        refine po_len (T := tab) cNode f1.Nodes rfl rfl rfl rfl rfl rfl rfl rfl ?_
        refine po_evs (T := tab) 3 rfl rfl ?_
        refine po_nil ?_
        refine pn_seq ?_
        refine pw_cnd rfl ?_ ?_
        · refine pw_seq ?_
          refine pw_region ?_
          refine po_evs (T := tab) 1 rfl rfl ?_
          refine po_store (T := tab) rfl rfl rfl rfl rfl rfl rfl rfl rfl rfl rfl rfl ?_
          refine po_evs (T := tab) 2 rfl rfl ?_
          refine po_nil ?_
          refine pn_seq ?_
          exact pw_retN (T := tab) rfl rfl rfl ⟨rfl, rfl⟩ trivial rfl
        · refine pw_skip ?_
          refine pn_seq ?_
          refine pw_seq ?_
          refine pw_region ?_
          refine po_evs (T := tab) 3 rfl rfl ?_
          refine po_store (T := tab) rfl rfl rfl rfl rfl rfl rfl rfl rfl rfl rfl rfl ?_
          refine po_nil ?_
          refine pn_seq ?_
          refine pw_seq ?_
          refine pw_sub' (E' := [(2, .loc 2 0), (4, .loc 4 0), (8, .loc 8 0)]) (S' := [(8, .box [.sl 10 false (((([] : List Node) ++ f1.Nodes) ++ [(⟨r3.Kind, n2.Name, n2.Is, n2.Data, n2.Attrs, r3.Parent, r3.Kids, r3.Host, r3.Under, c4⟩ : Node)]).map cNode), .v (.int .i64 f1.Most)]), (4, .box [.v (.slice none 0 0), .v (.int .i64 0)]), (2, .box [.sl 10 false (f1.Nodes.map cNode), .v (.int .i64 f1.Most)])]) ?_ ⟨rfl, rfl, rfl, trivial⟩ ⟨rfl, rfl, rfl, trivial⟩ rfl
          refine pw_drawV [0, 0, 2, 6, 1, 31, 63] mixed (by kernel_rfl) (by kernel_rfl) rfl rfl ?_
          refine pdv_step0 [16, 17] [126] [] [8] [8] [(63, .agg [.sl 10 false (((([] : List Node) ++ f1.Nodes) ++ [(⟨r3.Kind, n2.Name, n2.Is, n2.Data, n2.Attrs, r3.Parent, r3.Kids, r3.Host, r3.Under, c4⟩ : Node)]).map cNode), .v (.int .i64 f1.Most)])] [(8, .box [.sl 10 false (((([] : List Node) ++ f1.Nodes) ++ [(⟨r3.Kind, n2.Name, n2.Is, n2.Data, n2.Attrs, r3.Parent, r3.Kids, r3.Host, r3.Under, c4⟩ : Node)]).map cNode), .v (.int .i64 f1.Most)])] rfl rfl rfl rfl (by kernel_rfl) (by kernel_rfl) (by kernel_rfl) ⟨rfl, trivial⟩ (fun w0 X X0 σ0 => by refine po_evs (T := tab) 1 rfl rfl ?_; refine po_nil ?_; exact pn_end0 ⟨rfl, trivial⟩ ⟨rfl, trivial⟩ rfl) ?_
          refine pdv_step0 [4] [128] [] [2] [] [(64, .loc 2 0)] [] rfl rfl rfl rfl (by kernel_rfl) (by kernel_rfl) (by kernel_rfl) trivial (fun w0 X X0 σ0 => by refine po_evs (T := tab) 1 rfl rfl ?_; refine po_nil ?_; exact pn_end0 ⟨rfl, trivial⟩ trivial rfl) ?_
          refine pdv_step0 [5, 128] [130] [] [2] [2] [(65, .sl 10 false (f1.Nodes.map cNode))] [(2, .box [.sl 10 false (f1.Nodes.map cNode), .v (.int .i64 f1.Most)])] rfl rfl rfl rfl (by kernel_rfl) (by kernel_rfl) (by kernel_rfl) ⟨rfl, trivial⟩ (fun w0 X X0 σ0 => by refine po_evs (T := tab) 1 rfl rfl ?_; refine po_nil ?_; exact pn_end0 ⟨rfl, trivial⟩ ⟨rfl, trivial⟩ rfl) ?_
          refine pdv_step0 [130] [132] [] [] [] [(66, .v (.int .i64 ((f1.Nodes.length : Nat) : Int)))] [] rfl rfl rfl rfl (by kernel_rfl) (by kernel_rfl) (by kernel_rfl) trivial (fun w0 X X0 σ0 => by refine po_len (T := tab) cNode f1.Nodes rfl rfl rfl rfl rfl rfl rfl rfl ?_; refine po_nil ?_; exact pn_end0 ⟨rfl, trivial⟩ trivial rfl) ?_
          refine pdv_step0 [8, 9, 126] [9] [] [4] [] [] [(4, .box [.sl 10 false (((([] : List Node) ++ f1.Nodes) ++ [(⟨r3.Kind, n2.Name, n2.Is, n2.Data, n2.Attrs, r3.Parent, r3.Kids, r3.Host, r3.Under, c4⟩ : Node)]).map cNode), .v (.int .i64 f1.Most)])] rfl rfl rfl rfl (by kernel_rfl) (by kernel_rfl) (by kernel_rfl) trivial (fun w0 X X0 σ0 => by refine po_store (T := tab) rfl rfl rfl rfl rfl rfl rfl rfl rfl rfl rfl rfl ?_; refine po_nil ?_; exact pn_end0 trivial ⟨rfl, trivial⟩ rfl) ?_
          refine pdv_step0 [132] [10] [] [] [] [(5, .v (.int .i64 ((f1.Nodes.length : Nat) : Int)))] [] rfl rfl rfl rfl (by kernel_rfl) (by kernel_rfl) (by kernel_rfl) trivial (fun w0 X X0 σ0 => by refine po_evs (T := tab) 1 rfl rfl ?_; refine po_nil ?_; exact pn_end0 ⟨rfl, trivial⟩ trivial rfl) ?_
          refine pdv_step0 [] [12] [] [] [] [(6, .v (.int .i64 0))] [] rfl rfl rfl rfl (by kernel_rfl) (by kernel_rfl) (by kernel_rfl) trivial (fun w0 X X0 σ0 => by refine po_evs (T := tab) 1 rfl rfl ?_; refine po_nil ?_; exact pn_end0 ⟨rfl, trivial⟩ trivial rfl) ?_
          refine pdv_nil rfl rfl ?_
          refine pn_seq ?_
          exact pw_retN (T := tab) rfl rfl rfl ⟨rfl, rfl⟩ trivial rfl
  · refine pw_cnd rfl ?_ ?_
    · refine pw_region ?_
      refine po_evs (T := tab) 2 rfl rfl ?_
      refine po_len (T := tab) cNode f1.Nodes rfl rfl rfl rfl rfl rfl rfl rfl ?_
      refine po_evs (T := tab) 1 rfl rfl ?_
      refine po_store (T := tab) rfl rfl rfl rfl rfl rfl rfl rfl rfl rfl rfl rfl ?_
      refine po_nil ?_
      exact pn_sub' (hj1 ((f1.Nodes.length : Nat) : Int)) ⟨rfl, rfl, rfl, rfl, trivial⟩ ⟨rfl, rfl, rfl, rfl, trivial⟩ rfl
    · refine pw_skip ?_
      exact pn_sub' (hj1 r3.Doc) ⟨rfl, rfl, rfl, rfl, trivial⟩ ⟨rfl, rfl, rfl, rfl, trivial⟩ rfl

def Instarref03_Root_m : Nat → Forest → Int → Option Int
  | 0, _, _ => none
  | fu + 1, f1, n2 => bnd (idx f1.Nodes n2) fun y3 => cnd (y3.Parent == (-1)) (some n2) (bnd (idx f1.Nodes n2) fun y4 => bnd ((Instarref03_Root_m fu) f1 y4.Parent) fun r5 => some r5)

set_option maxRecDepth 100000 in
theorem Instarref03_Root_ok : ∀ (fu : Nat) (f1 : Forest) (n2 : Int) r, Instarref03_Root_m fu f1 n2 = some r → DC Try.prog 28 [.agg (cForest f1), .v (.int .i64 n2)] (.v (.int .i64 r))
  | 0, _, _, _, h => by cases h
  | fu + 1, f1, n2, r, hr => by
    have ih := Instarref03_Root_ok fu
    refine fc_intro (args := [.agg (cForest f1), .v (.int .i64 n2)]) (S := []) (N0 := []) (post := fun r p S => p = .v (.int .i64 r) ∧ S = []) Try.func28 rfl rfl hr fun w0 X X0 σ0 => ?_
    refine pw_seq ?_
    refine pw_region ?_
    refine po_box  2 rfl rfl rfl rfl rfl rfl rfl rfl rfl rfl ?_
    refine po_evs (T := tab) 1 rfl rfl ?_
    refine po_nil ?_
    refine pn_seq ?_
    refine pw_seq ?_
    refine pw_seq ?_
    refine pw_region ?_
    refine po_evs (T := tab) 3 rfl rfl ?_
    refine po_idx (T := tab) cNode f1.Nodes rfl rfl rfl rfl rfl rfl rfl fun y3 hy3 => ?_
    refine po_evs (T := tab) 3 rfl rfl ?_
    refine po_nil ?_
    refine pn_seq ?_
    refine pw_cnd rfl ?_ ?_
    · refine pw_seq ?_
      refine pw_region ?_
      refine po_evs (T := tab) 2 rfl rfl ?_
      refine po_nil ?_
      refine pn_seq ?_
      exact pw_retN (T := tab) rfl rfl rfl ⟨rfl, rfl⟩ trivial rfl
    · refine pw_skip ?_
      refine pn_seq ?_
      refine pw_seq ?_
      refine pw_draw mixed (by kernel_rfl) ?_
      refine pd_evs (T := tab) 4 rfl rfl ?_
      refine pd_idx (T := tab) cNode f1.Nodes rfl rfl rfl rfl rfl rfl rfl fun y4 hy4 => ?_
      refine pd_evs (T := tab) 2 rfl rfl ?_
      refine pd_call (enc := fun (r5 : Int) => .v (.int .i64 r5)) (qs := [.agg (cForest f1), .v (.int .i64 y4.Parent)]) (ih f1 y4.Parent) rfl rfl ⟨⟨_, rfl, .rfl⟩, ⟨_, rfl, .rfl⟩, trivial⟩ (fun _ => rfl) call28 rfl rfl fun r5 hr5 => ?_
      refine pd_evs (T := tab) 1 rfl rfl ?_
      refine pd_nil ?_
      refine pn_seq ?_
      exact pw_retN (T := tab) rfl rfl rfl ⟨rfl, rfl⟩ trivial rfl

def Instarref03_Order_l1 (sf : Forest → Int → Option (List Int)) (f1 : Forest) (n2 : Int) : Nat → Int × (List Int) → Option (List Int)
  | 0, _ => none
  | k1 + 1, (i3, l4) => bnd (idx f1.Nodes n2) fun y5 => cnd (decide (i3 < ((y5.Kids.length : Nat) : Int))) (bnd (idx f1.Nodes n2) fun y6 => bnd (idx y6.Kids i3) fun y7 => bnd (sf f1 y7) fun r8 => bnd (roomy 8 (l4.length + r8.length)) fun _ => bnd (rng .i64 (i3 + 1)) fun i9 => (Instarref03_Order_l1 sf f1 n2 k1) (i9, (l4 ++ r8))) (some l4)

def Instarref03_Order_m : Nat → Forest → Int → Option (List Int)
  | 0, _, _ => none
  | fu + 1, f1, n2 => (Instarref03_Order_l1 (Instarref03_Order_m fu) f1 n2) fu (0, [n2])

set_option maxHeartbeats 10000000 in
set_option maxRecDepth 100000 in
theorem Instarref03_Order_ok : ∀ (fu : Nat) (f1 : Forest) (n2 : Int) r, Instarref03_Order_m fu f1 n2 = some r → DC Try.prog 30 [.agg (cForest f1), .v (.int .i64 n2)] (.sl 1 false (r.map cInt_i64))
  | 0, _, _, _, h => by cases h
  | fu + 1, f1, n2, r, hr => by
    have ih := Instarref03_Order_ok fu
    refine fc_intro (args := [.agg (cForest f1), .v (.int .i64 n2)]) (S := []) (N0 := []) (post := fun r p S => p = .sl 1 false (r.map cInt_i64) ∧ S = []) Try.func30 rfl rfl hr fun w0 X X0 σ0 => ?_
    refine pw_seq ?_
    refine pw_region ?_
    refine po_box  2 rfl rfl rfl rfl rfl rfl rfl rfl rfl rfl ?_
    refine po_evs (T := tab) 1 rfl rfl ?_
    refine po_nil ?_
    refine pn_seq ?_
    refine pw_seq ?_
    refine pw_region ?_
    refine po_evs (T := tab) 1 rfl rfl ?_
    refine po_lit (T := tab) (rows := [n2].map cInt_i64) 8 rfl rfl rfl rfl rfl rfl rfl rfl rfl rfl rfl rfl rfl rfl ?_
    refine po_evs (T := tab) 1 rfl rfl ?_
    refine po_nil ?_
    refine pn_seq ?_
    refine pw_seq ?_
    refine pw_seq ?_
    refine pw_region ?_
    refine po_evs (T := tab) 1 rfl rfl ?_
    refine po_nil ?_
    refine pn_seq ?_
    refine pw_block ?_
    refine pw_loop' (Instarref03_Order_l1 (Instarref03_Order_m fu) f1 n2) (fun ((i3, l4) : Int × (List Int)) => [(1, .v (.int .i64 n2)), (2, .loc 2 0), (5, .own 8), (6, .v (.int .i64 i3))]) (fun ((i3, l4) : Int × (List Int)) => [(8, .arr 3 1 (l4.map cInt_i64)), (2, .box [.sl 10 false (f1.Nodes.map cNode), .v (.int .i64 f1.Most)])]) fu (0, [n2]) (fun _ => rfl) ⟨rfl, rfl, rfl, rfl, trivial⟩ ⟨rfl, rfl, trivial⟩ rfl ?_
    rintro k1 ⟨i3, l4⟩
    refine pw_seq ?_
    refine pw_seq ?_
    refine pw_region ?_
    refine po_evs (T := tab) 4 rfl rfl ?_
    refine po_idx (T := tab) cNode f1.Nodes rfl rfl rfl rfl rfl rfl rfl fun y5 hy5 => ?_
    refine po_evs (T := tab) 2 rfl rfl ?_
    refine po_len (T := tab) cInt_i64 y5.Kids rfl rfl rfl rfl rfl rfl rfl rfl ?_
    refine po_evs (T := tab) 1 rfl rfl ?_
    refine po_nil ?_
    refine pn_seq ?_
    refine pw_cnd rfl ?_ ?_
    · refine pw_skip ?_
      refine pn_seq ?_
      refine pw_seq ?_
      refine pw_block ?_
      refine pw_sub' (E' := [(1, .v (.int .i64 n2)), (2, .loc 2 0), (5, .own 8), (6, .v (.int .i64 i3))]) (S' := [(8, .arr 3 1 (l4.map cInt_i64)), (2, .box [.sl 10 false (f1.Nodes.map cNode), .v (.int .i64 f1.Most)])]) ?_ ⟨rfl, rfl, rfl, rfl, trivial⟩ ⟨rfl, rfl, trivial⟩ rfl
      refine pw_drawV [0, 0, 0, 4, 0, 28, 60, 124, 0, 508, 1020, 2046, 4095, 8191] mixed (by kernel_rfl) (by kernel_rfl) rfl rfl ?_
      refine pdv_step0 [10] [40] [] [8] [] [(20, .own 8)] [] rfl rfl rfl rfl (by kernel_rfl) (by kernel_rfl) (by kernel_rfl) trivial (fun w0 X X0 σ0 => by refine po_evs (T := tab) 1 rfl rfl ?_; refine po_nil ?_; exact pn_end0 ⟨rfl, trivial⟩ trivial rfl) ?_
      refine pdv_step0 [4, 5] [42] [] [2] [2] [(21, .agg (cForest f1))] [(2, .box [.sl 10 false (f1.Nodes.map cNode), .v (.int .i64 f1.Most)])] rfl rfl rfl rfl (by kernel_rfl) (by kernel_rfl) (by kernel_rfl) ⟨rfl, trivial⟩ (fun w0 X X0 σ0 => by refine po_evs (T := tab) 1 rfl rfl ?_; refine po_nil ?_; exact pn_end0 ⟨rfl, trivial⟩ ⟨rfl, trivial⟩ rfl) ?_
      refine pdv_step0 [4] [44] [] [2] [] [(22, .loc 2 0)] [] rfl rfl rfl rfl (by kernel_rfl) (by kernel_rfl) (by kernel_rfl) trivial (fun w0 X X0 σ0 => by refine po_evs (T := tab) 1 rfl rfl ?_; refine po_nil ?_; exact pn_end0 ⟨rfl, trivial⟩ trivial rfl) ?_
      refine pdv_step0 [5, 44] [46] [] [2] [2] [(23, .sl 10 false (f1.Nodes.map cNode))] [(2, .box [.sl 10 false (f1.Nodes.map cNode), .v (.int .i64 f1.Most)])] rfl rfl rfl rfl (by kernel_rfl) (by kernel_rfl) (by kernel_rfl) ⟨rfl, trivial⟩ (fun w0 X X0 σ0 => by refine po_evs (T := tab) 1 rfl rfl ?_; refine po_nil ?_; exact pn_end0 ⟨rfl, trivial⟩ ⟨rfl, trivial⟩ rfl) ?_
      refine pdv_step0 [2] [48] [] [] [] [(24, .v (.int .i64 n2))] [] rfl rfl rfl rfl (by kernel_rfl) (by kernel_rfl) (by kernel_rfl) trivial (fun w0 X X0 σ0 => by refine po_evs (T := tab) 1 rfl rfl ?_; refine po_nil ?_; exact pn_end0 ⟨rfl, trivial⟩ trivial rfl) ?_
      refine pdv_step (M := (idx f1.Nodes n2)) (ment := [(50, [])]) [46, 48] [50] [] [] [] (fun y6 => [(25, .el (cNode y6) 0)]) (fun y6 => []) rfl rfl (fun _ => rfl) (fun _ => rfl) (by kernel_rfl) (by kernel_rfl) (fun _ => by kernel_rfl) (fun _ => trivial) (fun w0 X X0 σ0 => by refine po_idx (T := tab) cNode f1.Nodes rfl rfl rfl rfl rfl rfl rfl fun y6 hy6 => ?_; refine po_nil ?_; exact pn_end ⟨rfl, trivial⟩ trivial rfl) fun y6 hy6 => ?_
      refine pdv_step0 [50] [52] [] [] [] [(26, .el (cNode y6) 6)] [] rfl rfl rfl rfl (by kernel_rfl) (by kernel_rfl) (by kernel_rfl) trivial (fun w0 X X0 σ0 => by refine po_evs (T := tab) 1 rfl rfl ?_; refine po_nil ?_; exact pn_end0 ⟨rfl, trivial⟩ trivial rfl) ?_
      refine pdv_step0 [52] [54] [] [] [] [(27, .sl 1 false (y6.Kids.map cInt_i64))] [] rfl rfl rfl rfl (by kernel_rfl) (by kernel_rfl) (by kernel_rfl) trivial (fun w0 X X0 σ0 => by refine po_evs (T := tab) 1 rfl rfl ?_; refine po_nil ?_; exact pn_end0 ⟨rfl, trivial⟩ trivial rfl) ?_
      refine pdv_step0 [12] [56] [] [] [] [(28, .v (.int .i64 i3))] [] rfl rfl rfl rfl (by kernel_rfl) (by kernel_rfl) (by kernel_rfl) trivial (fun w0 X X0 σ0 => by refine po_evs (T := tab) 1 rfl rfl ?_; refine po_nil ?_; exact pn_end0 ⟨rfl, trivial⟩ trivial rfl) ?_
      refine pdv_step (M := (idx y6.Kids i3)) (ment := [(58, [])]) [54, 56] [58] [] [] [] (fun y7 => [(29, .el (cInt_i64 y7) 0)]) (fun y7 => []) rfl rfl (fun _ => rfl) (fun _ => rfl) (by kernel_rfl) (by kernel_rfl) (fun _ => by kernel_rfl) (fun _ => trivial) (fun w0 X X0 σ0 => by refine po_idx (T := tab) cInt_i64 y6.Kids rfl rfl rfl rfl rfl rfl rfl fun y7 hy7 => ?_; refine po_nil ?_; exact pn_end ⟨rfl, trivial⟩ trivial rfl) fun y7 hy7 => ?_
      refine pdv_step0 [58] [60] [] [] [] [(30, .v (.int .i64 y7))] [] rfl rfl rfl rfl (by kernel_rfl) (by kernel_rfl) (by kernel_rfl) trivial (fun w0 X X0 σ0 => by refine po_evs (T := tab) 1 rfl rfl ?_; refine po_nil ?_; exact pn_end0 ⟨rfl, trivial⟩ trivial rfl) ?_
      refine pdv_step (M := ((Instarref03_Order_m fu) f1 y7)) (ment := [(62, [])]) [42, 60] [62] [] [] [] (fun r8 => [(31, .sl 1 false (r8.map cInt_i64))]) (fun r8 => []) rfl rfl (fun _ => rfl) (fun _ => rfl) (by kernel_rfl) (by kernel_rfl) (fun _ => by kernel_rfl) (fun _ => trivial) (fun w0 X X0 σ0 => by refine po_call (enc := fun (r8 : (List Int)) => .sl 1 false (r8.map cInt_i64)) (qs := [.agg (cForest f1), .v (.int .i64 y7)]) (ih f1 y7) rfl rfl ⟨⟨_, rfl, .rfl⟩, ⟨_, rfl, .rfl⟩, trivial⟩ (fun _ => rfl) call30 rfl rfl fun r8 hr8 => ?_; refine po_nil ?_; exact pn_end ⟨rfl, trivial⟩ trivial rfl) fun r8 hr8 => ?_
      refine pdv_step (M := (roomy 8 (l4.length + r8.length))) (ment := [(64, [8]), (10, []), (40, []), (17, [])]) [10, 17, 40, 62] [64, 10, 40, 17] [8] [] [] (fun _ => [(32, .own 8)]) (fun _ => [(8, .arr 3 1 ((l4 ++ r8).map cInt_i64))]) rfl rfl (fun _ => rfl) (fun _ => rfl) (by kernel_rfl) (by kernel_rfl) (fun _ => by kernel_rfl) (fun _ => trivial) (fun w0 X X0 σ0 => by refine po_append (T := tab) cInt_i64 l4 r8 rfl rfl rfl rfl rfl rfl rfl rfl rfl rfl rfl rfl rfl rfl (cInt_i64_one _) rfl rfl rfl rfl rfl ?_; refine po_nil ?_; exact pn_end ⟨rfl, trivial⟩ ⟨rfl, trivial⟩ rfl) fun _ h0 => ?_
      refine pdv_step0 [64] [10] [] [8] [] [(5, .own 8)] [] rfl rfl rfl rfl (by kernel_rfl) (by kernel_rfl) (by kernel_rfl) trivial (fun w0 X X0 σ0 => by refine po_evs (T := tab) 1 rfl rfl ?_; refine po_nil ?_; exact pn_end0 ⟨rfl, trivial⟩ trivial rfl) ?_
      refine pdv_nil rfl rfl ?_
      refine pn_block ?_
      refine pn_seq ?_
      refine pw_region ?_
      refine po_evs (T := tab) 1 rfl rfl ?_
      refine po_arith' (T := tab) rfl rfl rfl rfl fun i9 hi9 => ?_
      refine po_evs (T := tab) 1 rfl rfl ?_
      refine po_nil ?_
      exact pn_iter' (i9, (l4 ++ r8)) ⟨rfl, rfl, rfl, rfl, trivial⟩ ⟨rfl, rfl, trivial⟩ rfl
    · refine pw_exit rfl ?_
      refine pn_seq ?_
      refine pw_seq ?_
      refine pw_region ?_
      refine po_evs (T := tab) 2 rfl rfl ?_
      refine po_nil ?_
      refine pn_seq ?_
      refine pw_freeze 8 rfl rfl rfl ?_
      exact pw_retN (T := tab) rfl rfl rfl ⟨rfl, rfl⟩ trivial rfl

def Instarref03_Find_l1 (l1 : (List Int)) (n2 : Int) : Nat → Int → Option Int
  | 0, _ => none
  | k1 + 1, i3 => cnd (decide (i3 < ((l1.length : Nat) : Int))) (bnd (idx l1 i3) fun y4 => cnd (y4 == n2) (some i3) (bnd (rng .i64 (i3 + 1)) fun i5 => (Instarref03_Find_l1 l1 n2 k1) i5)) (some (-1))

def Instarref03_Find_m (fu : Nat) (l1 : (List Int)) (n2 : Int) : Option Int := (Instarref03_Find_l1 l1 n2) fu 0

set_option maxHeartbeats 10000000 in
set_option maxRecDepth 100000 in
theorem Instarref03_Find_ok (fu : Nat) (l1 : (List Int)) (n2 : Int) : ∀ r, Instarref03_Find_m fu l1 n2 = some r → DC Try.prog 35 [.sl 1 false (l1.map cInt_i64), .v (.int .i64 n2)] (.v (.int .i64 r)) := by
  intro r hr
  refine fc_intro (args := [.sl 1 false (l1.map cInt_i64), .v (.int .i64 n2)]) (S := []) (N0 := []) (post := fun r p S => p = .v (.int .i64 r) ∧ S = []) Try.func35 rfl rfl hr fun w0 X X0 σ0 => ?_
  refine pw_seq ?_
  refine pw_region ?_
  refine po_evs (T := tab) 1 rfl rfl ?_
  refine po_nil ?_
  refine pn_seq ?_
  refine pw_seq ?_
  refine pw_seq ?_
  refine pw_region ?_
  refine po_evs (T := tab) 1 rfl rfl ?_
  refine po_nil ?_
  refine pn_seq ?_
  refine pw_block ?_
  refine pw_loop' (Instarref03_Find_l1 l1 n2) (fun (i3 : Int) => [(0, .sl 1 false (l1.map cInt_i64)), (1, .v (.int .i64 n2)), (5, .v (.int .i64 i3))]) (fun (i3 : Int) => []) fu 0 (fun _ => rfl) ⟨rfl, rfl, rfl, trivial⟩ trivial rfl ?_
  rintro k1 i3
  refine pw_seq ?_
  refine pw_seq ?_
  refine pw_region ?_
  refine po_evs (T := tab) 2 rfl rfl ?_
  refine po_len (T := tab) cInt_i64 l1 rfl rfl rfl rfl rfl rfl rfl rfl ?_
  refine po_evs (T := tab) 1 rfl rfl ?_
  refine po_nil ?_
  refine pn_seq ?_
  refine pw_cnd rfl ?_ ?_
  · refine pw_skip ?_
    refine pn_seq ?_
    refine pw_seq ?_
    refine pw_block ?_
    refine pw_seq ?_
    refine pw_region ?_
    refine po_evs (T := tab) 2 rfl rfl ?_
    refine po_idx (T := tab) cInt_i64 l1 rfl rfl rfl rfl rfl rfl rfl fun y4 hy4 => ?_
    refine po_evs (T := tab) 3 rfl rfl ?_
    refine po_nil ?_
    refine pn_seq ?_
    refine pw_cnd rfl ?_ ?_
    · refine pw_seq ?_
      refine pw_region ?_
      refine po_evs (T := tab) 2 rfl rfl ?_
      refine po_nil ?_
      refine pn_seq ?_
      exact pw_retN (T := tab) rfl rfl rfl ⟨rfl, rfl⟩ trivial rfl
    · refine pw_skip ?_
      refine pn_block ?_
      refine pn_seq ?_
      refine pw_region ?_
      refine po_evs (T := tab) 1 rfl rfl ?_
      refine po_arith' (T := tab) rfl rfl rfl rfl fun i5 hi5 => ?_
      refine po_evs (T := tab) 1 rfl rfl ?_
      refine po_nil ?_
      exact pn_iter' i5 ⟨rfl, rfl, rfl, trivial⟩ trivial rfl
  · refine pw_exit rfl ?_
    refine pn_seq ?_
    refine pw_seq ?_
    refine pw_region ?_
    refine po_evs (T := tab) 1 rfl rfl ?_
    refine po_nil ?_
    refine pn_seq ?_
    exact pw_retN (T := tab) rfl rfl rfl ⟨rfl, rfl⟩ trivial rfl

def Instarref03_Place_m (fu : Nat) (f1 : Forest) (n2 : Int) : Option Int := bnd (idx f1.Nodes n2) fun y3 => cnd (y3.Parent == (-1)) (some (-1)) (bnd (idx f1.Nodes n2) fun y4 => bnd (idx f1.Nodes y4.Parent) fun y5 => bnd (Instarref03_Find_m fu y5.Kids n2) fun r6 => some r6)

set_option maxRecDepth 100000 in
theorem Instarref03_Place_ok (fu : Nat) (f1 : Forest) (n2 : Int) : ∀ r, Instarref03_Place_m fu f1 n2 = some r → DC Try.prog 31 [.agg (cForest f1), .v (.int .i64 n2)] (.v (.int .i64 r)) := by
  intro r hr
  refine fc_intro (args := [.agg (cForest f1), .v (.int .i64 n2)]) (S := []) (N0 := []) (post := fun r p S => p = .v (.int .i64 r) ∧ S = []) Try.func31 rfl rfl hr fun w0 X X0 σ0 => ?_
  refine pw_seq ?_
  refine pw_region ?_
  refine po_box  2 rfl rfl rfl rfl rfl rfl rfl rfl rfl rfl ?_
  refine po_evs (T := tab) 1 rfl rfl ?_
  refine po_nil ?_
  refine pn_seq ?_
  refine pw_seq ?_
  refine pw_seq ?_
  refine pw_region ?_
  refine po_evs (T := tab) 3 rfl rfl ?_
  refine po_idx (T := tab) cNode f1.Nodes rfl rfl rfl rfl rfl rfl rfl fun y3 hy3 => ?_
  refine po_evs (T := tab) 3 rfl rfl ?_
  refine po_nil ?_
  refine pn_seq ?_
  refine pw_cnd rfl ?_ ?_
  · refine pw_seq ?_
    refine pw_region ?_
    refine po_evs (T := tab) 1 rfl rfl ?_
    refine po_nil ?_
    refine pn_seq ?_
    exact pw_retN (T := tab) rfl rfl rfl ⟨rfl, rfl⟩ trivial rfl
  · refine pw_skip ?_
    refine pn_seq ?_
    refine pw_seq ?_
    refine pw_draw mixed (by kernel_rfl) ?_
    refine pd_evs (T := tab) 5 rfl rfl ?_
    refine pd_idx (T := tab) cNode f1.Nodes rfl rfl rfl rfl rfl rfl rfl fun y4 hy4 => ?_
    refine pd_evs (T := tab) 2 rfl rfl ?_
    refine pd_idx (T := tab) cNode f1.Nodes rfl rfl rfl rfl rfl rfl rfl fun y5 hy5 => ?_
    refine pd_evs (T := tab) 3 rfl rfl ?_
    refine pd_call (enc := fun (r6 : Int) => .v (.int .i64 r6)) (qs := [.sl 1 false (y5.Kids.map cInt_i64), .v (.int .i64 n2)]) (Instarref03_Find_ok fu y5.Kids n2) rfl rfl ⟨⟨_, rfl, .rfl⟩, ⟨_, rfl, .rfl⟩, trivial⟩ (fun _ => rfl) call35 rfl rfl fun r6 hr6 => ?_
    refine pd_evs (T := tab) 1 rfl rfl ?_
    refine pd_nil ?_
    refine pn_seq ?_
    exact pw_retN (T := tab) rfl rfl rfl ⟨rfl, rfl⟩ trivial rfl

def Instarref03_Holds_m (fu : Nat) (f1 : Forest) (a2 : Int) (b3 : Int) : Option Bool := bnd (Instarref03_Order_m fu f1 a2) fun r4 => bnd (Instarref03_Has_m fu r4 b3) fun r5 => some (decide (r5 > 0))

set_option maxRecDepth 100000 in
theorem Instarref03_Holds_ok (fu : Nat) (f1 : Forest) (a2 : Int) (b3 : Int) : ∀ r, Instarref03_Holds_m fu f1 a2 b3 = some r → DC Try.prog 32 [.agg (cForest f1), .v (.int .i64 a2), .v (.int .i64 b3)] (.v (.bool r)) := by
  intro r hr
  refine fc_intro (args := [.agg (cForest f1), .v (.int .i64 a2), .v (.int .i64 b3)]) (S := []) (N0 := []) (post := fun r p S => p = .v (.bool r) ∧ S = []) Try.func32 rfl rfl hr fun w0 X X0 σ0 => ?_
  refine pw_seq ?_
  refine pw_region ?_
  refine po_box  3 rfl rfl rfl rfl rfl rfl rfl rfl rfl rfl ?_
  refine po_evs (T := tab) 1 rfl rfl ?_
  refine po_nil ?_
  refine pn_seq ?_
  refine pw_seq ?_
  refine pw_region ?_
  refine po_evs (T := tab) 2 rfl rfl ?_
  refine po_call (enc := fun (r4 : (List Int)) => .sl 1 false (r4.map cInt_i64)) (qs := [.agg (cForest f1), .v (.int .i64 a2)]) (Instarref03_Order_ok fu f1 a2) rfl rfl ⟨⟨_, rfl, .rfl⟩, ⟨_, rfl, .rfl⟩, trivial⟩ (fun _ => rfl) call30 rfl rfl fun r4 hr4 => ?_
  refine po_evs (T := tab) 1 rfl rfl ?_
  refine po_call (enc := fun (r5 : Int) => .v (.int .i64 r5)) (qs := [.sl 1 false (r4.map cInt_i64), .v (.int .i64 b3)]) (Instarref03_Has_ok fu r4 b3) rfl rfl ⟨⟨_, rfl, .rfl⟩, ⟨_, rfl, .rfl⟩, trivial⟩ (fun _ => rfl) call34 rfl rfl fun r5 hr5 => ?_
  refine po_evs (T := tab) 2 rfl rfl ?_
  refine po_nil ?_
  refine pn_seq ?_
  exact pw_retN (T := tab) rfl rfl rfl ⟨rfl, rfl⟩ trivial rfl

def Instarref03_Ahead_m (fu : Nat) (f1 : Forest) (a2 : Int) (b3 : Int) : Option Bool := bnd (Instarref03_Root_m fu f1 a2) fun r4 => bnd (Instarref03_Order_m fu f1 r4) fun r5 => bnd (Instarref03_Find_m fu r5 b3) fun r6 => bnd (Instarref03_Find_m fu r5 a2) fun r7 => some (decide (r6 > r7))

set_option maxRecDepth 100000 in
theorem Instarref03_Ahead_ok (fu : Nat) (f1 : Forest) (a2 : Int) (b3 : Int) : ∀ r, Instarref03_Ahead_m fu f1 a2 b3 = some r → DC Try.prog 33 [.agg (cForest f1), .v (.int .i64 a2), .v (.int .i64 b3)] (.v (.bool r)) := by
  intro r hr
  refine fc_intro (args := [.agg (cForest f1), .v (.int .i64 a2), .v (.int .i64 b3)]) (S := []) (N0 := []) (post := fun r p S => p = .v (.bool r) ∧ S = []) Try.func33 rfl rfl hr fun w0 X X0 σ0 => ?_
  refine pw_seq ?_
  refine pw_region ?_
  refine po_box  3 rfl rfl rfl rfl rfl rfl rfl rfl rfl rfl ?_
  refine po_evs (T := tab) 1 rfl rfl ?_
  refine po_nil ?_
  refine pn_seq ?_
  refine pw_seq ?_
  refine pw_draw mixed (by kernel_rfl) ?_
  refine pd_evs (T := tab) 3 rfl rfl ?_
  refine pd_call (enc := fun (r4 : Int) => .v (.int .i64 r4)) (qs := [.agg (cForest f1), .v (.int .i64 a2)]) (Instarref03_Root_ok fu f1 a2) rfl rfl ⟨⟨_, rfl, .rfl⟩, ⟨_, rfl, .rfl⟩, trivial⟩ (fun _ => rfl) call28 rfl rfl fun r4 hr4 => ?_
  refine pd_call (enc := fun (r5 : (List Int)) => .sl 1 false (r5.map cInt_i64)) (qs := [.agg (cForest f1), .v (.int .i64 r4)]) (Instarref03_Order_ok fu f1 r4) rfl rfl ⟨⟨_, rfl, .rfl⟩, ⟨_, rfl, .rfl⟩, trivial⟩ (fun _ => rfl) call30 rfl rfl fun r5 hr5 => ?_
  refine pd_evs (T := tab) 1 rfl rfl ?_
  refine pd_nil ?_
  refine pn_seq ?_
  refine pw_seq ?_
  refine pw_region ?_
  refine po_evs (T := tab) 2 rfl rfl ?_
  refine po_call (enc := fun (r6 : Int) => .v (.int .i64 r6)) (qs := [.sl 1 false (r5.map cInt_i64), .v (.int .i64 b3)]) (Instarref03_Find_ok fu r5 b3) rfl rfl ⟨⟨_, rfl, .rfl⟩, ⟨_, rfl, .rfl⟩, trivial⟩ (fun _ => rfl) call35 rfl rfl fun r6 hr6 => ?_
  refine po_evs (T := tab) 2 rfl rfl ?_
  refine po_call (enc := fun (r7 : Int) => .v (.int .i64 r7)) (qs := [.sl 1 false (r5.map cInt_i64), .v (.int .i64 a2)]) (Instarref03_Find_ok fu r5 a2) rfl rfl ⟨⟨_, rfl, .rfl⟩, ⟨_, rfl, .rfl⟩, trivial⟩ (fun _ => rfl) call35 rfl rfl fun r7 hr7 => ?_
  refine po_evs (T := tab) 2 rfl rfl ?_
  refine po_nil ?_
  refine pn_seq ?_
  exact pw_retN (T := tab) rfl rfl rfl ⟨rfl, rfl⟩ trivial rfl

def Shade_there_1_m (_fu : Nat) (n1 : Int) (c2 : Forest) : Option Bool := cnd (decide (n1 < 0)) (some true) (some (decide (n1 ≥ ((c2.Nodes.length : Nat) : Int))))

set_option maxRecDepth 100000 in
theorem Shade_there_1_ok (fu : Nat) (n1 : Int) (c2 : Forest) : ∀ r, Shade_there_1_m fu n1 c2 = some r → FC Try.prog 97 [.v (.int .i64 n1), .loc 900000 0] [(900000, .box [.sl 10 false (c2.Nodes.map cNode), .v (.int .i64 c2.Most)])] [900000] fun p S' => p = .v (.bool r) ∧ S' = [(900000, .box [.sl 10 false (c2.Nodes.map cNode), .v (.int .i64 c2.Most)])] := by
  intro r hr
  refine fc_intro (args := [.v (.int .i64 n1), .loc 900000 0]) (S := [(900000, .box [.sl 10 false (c2.Nodes.map cNode), .v (.int .i64 c2.Most)])]) (N0 := [900000]) (post := fun r p S => p = .v (.bool r) ∧ S = [(900000, .box [.sl 10 false (c2.Nodes.map cNode), .v (.int .i64 c2.Most)])]) Try.func97 rfl rfl hr fun w0 X X0 σ0 => ?_
  refine pw_seq ?_
  refine pw_region ?_
  refine po_evs (T := tab) 1 rfl rfl ?_
  refine po_nil ?_
  refine pn_seq ?_
  refine pw_seq ?_
  refine pw_region ?_
  refine po_evs (T := tab) 3 rfl rfl ?_
  refine po_split (j := 6) rfl ?_ ?_
  · refine po_evs (T := tab) 7 rfl rfl ?_
    refine po_nil ?_
    refine pn_seq ?_
    exact pw_retN (T := tab) rfl rfl rfl ⟨rfl, rfl⟩ ⟨rfl, trivial⟩ rfl
  · refine po_evs (T := tab) 3 rfl rfl ?_
    refine po_len (T := tab) cNode c2.Nodes rfl rfl rfl rfl rfl rfl rfl rfl ?_
    refine po_evs (T := tab) 3 rfl rfl ?_
    refine po_nil ?_
    refine pn_seq ?_
    exact pw_retN (T := tab) rfl rfl rfl ⟨rfl, rfl⟩ ⟨rfl, trivial⟩ rfl

set_option maxHeartbeats 10000000 in
set_option maxRecDepth 100000 in
theorem Slices_IndexFunc_int_i2_ok (fu : Nat) (s1 : (List Int)) (c2 : Forest) : ∀ r, Slices_IndexFunc_int_m fu (fun (z1 : Int) => Shade_there_1_m fu z1 c2) s1 = some r → FC Try.prog 105 [.sl 1 false (s1.map cInt_i64), .fn (.func 97) [] [.loc 900000 0]] [(900000, .box [.sl 10 false (c2.Nodes.map cNode), .v (.int .i64 c2.Most)])] [900000] fun p S' => p = .v (.int .i64 r) ∧ S' = [(900000, .box [.sl 10 false (c2.Nodes.map cNode), .v (.int .i64 c2.Most)])] := by
  intro r hr
  refine fc_intro (args := [.sl 1 false (s1.map cInt_i64), .fn (.func 97) [] [.loc 900000 0]]) (S := [(900000, .box [.sl 10 false (c2.Nodes.map cNode), .v (.int .i64 c2.Most)])]) (N0 := [900000]) (post := fun r p S => p = .v (.int .i64 r) ∧ S = [(900000, .box [.sl 10 false (c2.Nodes.map cNode), .v (.int .i64 c2.Most)])]) Try.func105 rfl rfl hr fun w0 X X0 σ0 => ?_
  refine pw_seq ?_
  refine pw_region ?_
  refine po_evs (T := tab) 1 rfl rfl ?_
  refine po_nil ?_
  refine pn_seq ?_
  refine pw_seq ?_
  refine pw_seq ?_
  refine pw_region ?_
  refine po_evs (T := tab) 1 rfl rfl ?_
  refine po_len (T := tab) cInt_i64 s1 rfl rfl rfl rfl rfl rfl rfl rfl ?_
  refine po_evs (T := tab) 1 rfl rfl ?_
  refine po_nil ?_
  refine pn_seq ?_
  refine pw_block ?_
  refine pw_loop' (Slices_IndexFunc_int_l1 (fun (z1 : Int) => Shade_there_1_m fu z1 c2) s1) (fun (t3 : Int) => [(0, .sl 1 false (s1.map cInt_i64)), (1, .fn (.func 97) [] [.loc 900000 0]), (7, .v (.int .i64 ((s1.length : Nat) : Int))), (8, .v (.int .i64 t3))]) (fun (t3 : Int) => [(900000, .box [.sl 10 false (c2.Nodes.map cNode), .v (.int .i64 c2.Most)])]) fu 0 (fun _ => rfl) ⟨rfl, rfl, rfl, rfl, trivial⟩ ⟨rfl, trivial⟩ rfl ?_
  rintro k1 t3
  refine pw_seq ?_
  refine pw_region ?_
  refine po_evs (T := tab) 1 rfl rfl ?_
  refine po_nil ?_
  refine pn_seq ?_
  refine pw_seq ?_
  refine pw_cnd rfl ?_ ?_
  · refine pw_skip ?_
    refine pn_seq ?_
    refine pw_seq ?_
    refine pw_block ?_
    refine pw_seq ?_
    refine pw_region ?_
    refine po_evs (T := tab) 2 rfl rfl ?_
    refine po_nil ?_
    refine pn_seq ?_
    refine pw_seq ?_
    refine pw_region ?_
    refine po_evs (T := tab) 3 rfl rfl ?_
    refine po_idx (T := tab) cInt_i64 s1 rfl rfl rfl rfl rfl rfl rfl fun y4 hy4 => ?_
    refine po_evs (T := tab) 1 rfl rfl ?_
    refine po_callv (enc := fun (r5 : Bool) => .v (.bool r5)) (first := []) (cap := [.loc 900000 0]) (qs := [.v (.int .i64 y4)]) (Sc := [(900000, .box [.sl 10 false (c2.Nodes.map cNode), .v (.int .i64 c2.Most)])]) (fun r5 hr5 => fc_ren [(900000, 900000)] [900000] (Shade_there_1_ok fu y4 c2 _ hr5) rfl rfl rfl rfl rfl rfl) (subS_of ⟨rfl, trivial⟩ rfl) rfl rfl rfl rfl ⟨⟨_, rfl, .rfl⟩, trivial⟩ (fun _ => rfl) call97 rfl rfl fun r5 hr5 => ?_
    refine po_nil ?_
    refine pn_seq ?_
    refine pw_cnd rfl ?_ ?_
    · refine pw_seq ?_
      refine pw_region ?_
      refine po_evs (T := tab) 2 rfl rfl ?_
      refine po_nil ?_
      refine pn_seq ?_
      exact pw_retN (T := tab) rfl rfl rfl ⟨rfl, rfl⟩ ⟨rfl, trivial⟩ rfl
    · refine pw_skip ?_
      refine pn_block ?_
      refine pn_seq ?_
      refine pw_region ?_
      refine po_arith' (T := tab) rfl rfl rfl rfl fun i6 hi6 => ?_
      refine po_evs (T := tab) 1 rfl rfl ?_
      refine po_nil ?_
      exact pn_iter' i6 ⟨rfl, rfl, rfl, rfl, trivial⟩ ⟨rfl, trivial⟩ rfl
  · refine pw_exit rfl ?_
    refine pn_seq ?_
    refine pw_seq ?_
    refine pw_region ?_
    refine po_evs (T := tab) 1 rfl rfl ?_
    refine po_nil ?_
    refine pn_seq ?_
    exact pw_retN (T := tab) rfl rfl rfl ⟨rfl, rfl⟩ ⟨rfl, trivial⟩ rfl

set_option maxRecDepth 100000 in
theorem Slices_ContainsFunc_int_i2_ok (fu : Nat) (s1 : (List Int)) (c2 : Forest) : ∀ r, Slices_ContainsFunc_int_m fu (fun (z1 : Int) => Shade_there_1_m fu z1 c2) s1 = some r → FC Try.prog 94 [.sl 1 false (s1.map cInt_i64), .fn (.func 97) [] [.loc 900000 0]] [(900000, .box [.sl 10 false (c2.Nodes.map cNode), .v (.int .i64 c2.Most)])] [900000] fun p S' => p = .v (.bool r) ∧ S' = [(900000, .box [.sl 10 false (c2.Nodes.map cNode), .v (.int .i64 c2.Most)])] := by
  intro r hr
  refine fc_intro (args := [.sl 1 false (s1.map cInt_i64), .fn (.func 97) [] [.loc 900000 0]]) (S := [(900000, .box [.sl 10 false (c2.Nodes.map cNode), .v (.int .i64 c2.Most)])]) (N0 := [900000]) (post := fun r p S => p = .v (.bool r) ∧ S = [(900000, .box [.sl 10 false (c2.Nodes.map cNode), .v (.int .i64 c2.Most)])]) Try.func94 rfl rfl hr fun w0 X X0 σ0 => ?_
  refine pw_seq ?_
  refine pw_region ?_
  refine po_evs (T := tab) 1 rfl rfl ?_
  refine po_nil ?_
  refine pn_seq ?_
  refine pw_seq ?_
  refine pw_region ?_
  refine po_evs (T := tab) 2 rfl rfl ?_
  refine po_callv (enc := fun (r3 : Int) => .v (.int .i64 r3)) (first := []) (cap := []) (qs := [.sl 1 false (s1.map cInt_i64), .fn (.func 97) [] [.loc 900000 0]]) (Sc := [(900000, .box [.sl 10 false (c2.Nodes.map cNode), .v (.int .i64 c2.Most)])]) (fun r3 hr3 => fc_ren [(900000, 900000)] [900000] (Slices_IndexFunc_int_i2_ok fu s1 c2 _ hr3) rfl rfl rfl rfl rfl rfl) (subS_of ⟨rfl, trivial⟩ rfl) rfl rfl rfl rfl ⟨⟨_, rfl, .rfl⟩, ⟨_, rfl, .rfl⟩, trivial⟩ (fun _ => rfl) call105 rfl rfl fun r3 hr3 => ?_
  refine po_evs (T := tab) 2 rfl rfl ?_
  refine po_nil ?_
  refine pn_seq ?_
  exact pw_retN (T := tab) rfl rfl rfl ⟨rfl, rfl⟩ ⟨rfl, trivial⟩ rfl

def Shade_there_m (fu : Nat) (f1 : Forest) (l2 : (List Int)) : Option Bool := bnd (Forest_Right_m fu f1) fun r3 => cnd r3 (bnd (Slices_ContainsFunc_int_m fu (fun (z1 : Int) => Shade_there_1_m fu z1 f1) l2) fun r4 => some (!r4)) (some false)

set_option maxRecDepth 100000 in
theorem Shade_there_ok (fu : Nat) (f1 : Forest) (l2 : (List Int)) : ∀ r, Shade_there_m fu f1 l2 = some r → DC Try.prog 69 [.agg (cForest f1), .sl 1 false (l2.map cInt_i64)] (.v (.bool r)) := by
  intro r hr
  refine fc_intro (args := [.agg (cForest f1), .sl 1 false (l2.map cInt_i64)]) (S := []) (N0 := []) (post := fun r p S => p = .v (.bool r) ∧ S = []) Try.func69 rfl rfl hr fun w0 X X0 σ0 => ?_
  refine pw_seq ?_
  refine pw_region ?_
  refine po_box  2 rfl rfl rfl rfl rfl rfl rfl rfl rfl rfl ?_
  refine po_evs (T := tab) 1 rfl rfl ?_
  refine po_nil ?_
  refine pn_seq ?_
  refine pw_seq ?_
  refine pw_region ?_
  refine po_evs (T := tab) 2 rfl rfl ?_
  refine po_nil ?_
  refine pn_seq ?_
  refine pw_seq ?_
  refine pw_region ?_
  refine po_evs (T := tab) 1 rfl rfl ?_
  refine po_call (enc := fun (r3 : Bool) => .v (.bool r3)) (qs := [.agg (cForest f1)]) (Forest_Right_ok fu f1) rfl rfl ⟨⟨_, rfl, .rfl⟩, trivial⟩ (fun _ => rfl) call19 rfl rfl fun r3 hr3 => ?_
  refine po_evs (T := tab) 1 rfl rfl ?_
  refine po_split (j := 9) rfl ?_ ?_
  · refine po_evs (T := tab) 2 rfl rfl ?_
    refine po_callv (enc := fun (r4 : Bool) => .v (.bool r4)) (first := []) (cap := []) (qs := [.sl 1 false (l2.map cInt_i64), .fn (.func 97) [] [.loc 2 0]]) (Sc := [(2, .box [.sl 10 false (f1.Nodes.map cNode), .v (.int .i64 f1.Most)])]) (fun r4 hr4 => fc_ren [(900000, 2)] [900000] (Slices_ContainsFunc_int_i2_ok fu l2 f1 _ hr4) rfl rfl rfl rfl rfl rfl) (subS_of ⟨rfl, trivial⟩ rfl) rfl rfl rfl rfl ⟨⟨_, rfl, .rfl⟩, ⟨_, rfl, .rfl⟩, trivial⟩ (fun _ => rfl) call94 rfl rfl fun r4 hr4 => ?_
    refine po_evs (T := tab) 3 rfl rfl ?_
    refine po_nil ?_
    refine pn_seq ?_
    exact pw_retN (T := tab) rfl rfl rfl ⟨rfl, rfl⟩ trivial rfl
  · refine po_evs (T := tab) 6 rfl rfl ?_
    refine po_nil ?_
    refine pn_seq ?_
    exact pw_retN (T := tab) rfl rfl rfl ⟨rfl, rfl⟩ trivial rfl

def Shade_hosts_m (_fu : Nat) : Option (List Bs) := some [[100, 105, 118], [112], [115, 112, 97, 110]]

set_option maxRecDepth 100000 in
theorem Shade_hosts_ok (fu : Nat) : ∀ r, Shade_hosts_m fu = some r → DC Try.prog 72 [] (.sl 1 false (r.map cStr)) := by
  intro r hr
  refine fc_intro (args := []) (S := []) (N0 := []) (post := fun r p S => p = .sl 1 false (r.map cStr) ∧ S = []) Try.func72 rfl rfl hr fun w0 X X0 σ0 => ?_
  refine pw_seq ?_
  refine pw_region ?_
  refine po_evs (T := tab) 1 rfl rfl ?_
  refine po_nil ?_
  refine pn_seq ?_
  refine pw_seq ?_
  refine pw_region ?_
  refine po_lit (T := tab) (rows := [[100, 105, 118], [112], [115, 112, 97, 110]].map cStr) 1 rfl rfl rfl rfl rfl rfl rfl rfl rfl rfl rfl rfl rfl rfl ?_
  refine po_evs (T := tab) 1 rfl rfl ?_
  refine po_nil ?_
  refine pn_seq ?_
  refine pw_freeze 1 rfl rfl rfl ?_
  exact pw_retN (T := tab) rfl rfl rfl ⟨rfl, rfl⟩ trivial rfl

def Shade_Attach_j1 (fu : Nat) (f1 : Forest) (n2 : Int) (y4 : Node) (x_ : Unit) : Option (Forest × Int × Int) := cnd (y4.Under != (-1)) (some (f1, (-1), 10)) (cnd (((f1.Nodes.length : Nat) : Int) == f1.Most) (some (f1, (-1), 8)) (bnd (Slices_Clone_apiNode_m fu f1.Nodes) fun r8 => bnd (roomy 136 (r8.length + ([(⟨4, [], [], [], [], (-1), [], n2, (-1), y4.Doc⟩ : Node)] : List Node).length)) fun _ => bnd (idx (r8 ++ [(⟨4, [], [], [], [], (-1), [], n2, (-1), y4.Doc⟩ : Node)]) n2) fun y9 => some ((⟨((r8 ++ [(⟨4, [], [], [], [], (-1), [], n2, (-1), y4.Doc⟩ : Node)]).set (n2).toNat (⟨y9.Kind, y9.Name, y9.Is, y9.Data, y9.Attrs, y9.Parent, y9.Kids, y9.Host, ((f1.Nodes.length : Nat) : Int), y9.Doc⟩ : Node)), f1.Most⟩ : Forest), ((f1.Nodes.length : Nat) : Int), 0)))

def Shade_Attach_m (fu : Nat) (f1 : Forest) (n2 : Int) : Option (Forest × Int × Int) := bnd (Shade_there_m fu f1 [n2]) fun r3 => cnd (!r3) (some (f1, (-1), 1)) (bnd (idx f1.Nodes n2) fun y4 => cnd (y4.Kind != 1) (some (f1, (-1), 5)) (bnd (Name_Custom_m fu y4.Name) fun r5 => cnd (!r5) (bnd (Shade_hosts_m fu) fun r6 => bnd (Slices_Contains_string_m fu r6 y4.Name) fun r7 => cnd (!r7) (some (f1, (-1), 5)) ((Shade_Attach_j1 fu f1 n2 y4) ())) ((Shade_Attach_j1 fu f1 n2 y4) ())))

set_option maxHeartbeats 10000000 in
set_option maxRecDepth 100000 in
theorem Shade_Attach_ok (fu : Nat) (f1 : Forest) (n2 : Int) : ∀ r, Shade_Attach_m fu f1 n2 = some r → DC Try.prog 38 [.agg (cForest f1), .v (.int .i64 n2)] (.tup [.agg (cForest r.1), .v (.int .i64 r.2.1), .v (.int .i64 r.2.2)]) := by
  intro r hr
  refine fc_intro (args := [.agg (cForest f1), .v (.int .i64 n2)]) (S := []) (N0 := []) (post := fun r p S => p = .tup [.agg (cForest r.1), .v (.int .i64 r.2.1), .v (.int .i64 r.2.2)] ∧ S = []) Try.func38 rfl rfl hr fun w0 X X0 σ0 => ?_
  refine pw_seq ?_
  refine pw_region ?_
  refine po_box  2 rfl rfl rfl rfl rfl rfl rfl rfl rfl rfl ?_
  refine po_alloc (T := tab) 4 rfl rfl rfl rfl rfl rfl rfl rfl rfl ?_
  refine po_evs (T := tab) 2 rfl rfl ?_
  refine po_nil ?_
  refine pn_seq ?_
  refine pw_seq ?_
  refine pw_seq ?_
  refine pw_region ?_
  refine po_evs (T := tab) 2 rfl rfl ?_
  refine po_lit (T := tab) (rows := [n2].map cInt_i64) 11 rfl rfl rfl rfl rfl rfl rfl rfl rfl rfl rfl rfl rfl rfl ?_
  refine po_freeze 11 rfl rfl rfl ?_
  refine po_call (enc := fun (r3 : Bool) => .v (.bool r3)) (qs := [.agg (cForest f1), .sl 1 false ([n2].map cInt_i64)]) (Shade_there_ok fu f1 [n2]) rfl rfl ⟨⟨_, rfl, .rfl⟩, ⟨_, rfl, .rfl⟩, trivial⟩ (fun _ => rfl) call69 rfl rfl fun r3 hr3 => ?_
  refine po_evs (T := tab) 1 rfl rfl ?_
  refine po_nil ?_
  refine pn_seq ?_
  refine pw_cnd rfl ?_ ?_
  · refine pw_seq ?_
    refine pw_region ?_
    refine po_evs (T := tab) 1 rfl rfl ?_
    refine po_store (T := tab) rfl rfl rfl rfl rfl rfl rfl rfl rfl rfl rfl rfl ?_
    refine po_evs (T := tab) 2 rfl rfl ?_
    refine po_nil ?_
    refine pn_seq ?_
    exact pw_retN (T := tab) rfl rfl rfl ⟨rfl, rfl⟩ trivial rfl
  · refine pw_skip ?_
    refine pn_seq ?_
    refine pw_seq ?_
    refine pw_region ?_
    refine po_evs (T := tab) 3 rfl rfl ?_
    refine po_idx (T := tab) cNode f1.Nodes rfl rfl rfl rfl rfl rfl rfl fun y4 hy4 => ?_
    refine po_evs (T := tab) 1 rfl rfl ?_
    refine po_alloc (T := tab) 7 rfl rfl rfl rfl rfl rfl rfl rfl rfl ?_
    refine po_store (T := tab) rfl rfl rfl rfl rfl rfl rfl rfl rfl rfl rfl rfl ?_
    refine po_nil ?_
    refine pn_seq ?_
    refine pw_seq ?_
    refine pw_block ?_
    refine pw_seq ?_
    refine pw_draw mixed (by kernel_rfl) ?_
    refine pd_joinY (Shade_Attach_j1 fu f1 n2 y4) (fun (_ : Unit) => [(1, .v (.int .i64 n2)), (2, .loc 2 0), (4, .loc 4 0), (7, .loc 7 0)]) (fun (_ : Unit) => [(7, .box [.v (.int .i64 y4.Kind), .v (.string ⟨⟨y4.Name⟩⟩), .v (.string ⟨⟨y4.Is⟩⟩), .v (.string ⟨⟨y4.Data⟩⟩), .sl 2 false (y4.Attrs.map cAttr), .v (.int .i64 y4.Parent), .sl 1 false (y4.Kids.map cInt_i64), .v (.int .i64 y4.Host), .v (.int .i64 y4.Under), .v (.int .i64 y4.Doc)]), (4, .box [.v (.slice none 0 0), .v (.int .i64 0)]), (2, .box [.sl 10 false (f1.Nodes.map cNode), .v (.int .i64 f1.Most)])]) ?_ fun hj1 => ?_
    · rintro _
      refine pw_seq ?_
      refine pw_region ?_
      refine po_evs (T := tab) 4 rfl rfl ?_
      refine po_nil ?_
      refine pn_seq ?_
      refine pw_cnd rfl ?_ ?_
      · refine pw_seq ?_
        refine pw_region ?_
        refine po_evs (T := tab) 1 rfl rfl ?_
        refine po_store (T := tab) rfl rfl rfl rfl rfl rfl rfl rfl rfl rfl rfl rfl ?_
        refine po_evs (T := tab) 2 rfl rfl ?_
        refine po_nil ?_
        refine pn_seq ?_
        exact pw_retN (T := tab) rfl rfl rfl ⟨rfl, rfl⟩ trivial rfl
      · refine pw_seq ?_
        refine pw_region ?_
        refine po_evs (T := tab) 2 rfl rfl ?_
        refine po_len (T := tab) cNode f1.Nodes rfl rfl rfl rfl rfl rfl rfl rfl ?_
        refine po_evs (T := tab) 4 rfl rfl ?_
        refine po_nil ?_
        refine pn_seq ?_
        refine pw_cnd rfl ?_ ?_
        · refine pw_seq ?_
          refine pw_region ?_
          refine po_evs (T := tab) 1 rfl rfl ?_
          refine po_store (T := tab) rfl rfl rfl rfl rfl rfl rfl rfl rfl rfl rfl rfl ?_
          refine po_evs (T := tab) 2 rfl rfl ?_
          refine po_nil ?_
          refine pn_seq ?_
          exact pw_retN (T := tab) rfl rfl rfl ⟨rfl, rfl⟩ trivial rfl
        · refine pw_skip ?_
          refine pn_block ?_
          refine pn_seq ?_
          refine pw_seq ?_
          refine pw_region ?_
          refine po_evs (T := tab) 2 rfl rfl ?_
          refine po_len (T := tab) cNode f1.Nodes rfl rfl rfl rfl rfl rfl rfl rfl ?_
          refine po_evs (T := tab) 1 rfl rfl ?_
          refine po_nil ?_
          refine pn_seq ?_
          refine pw_seq ?_
          refine pw_sub' (E' := [(1, .v (.int .i64 n2)), (2, .loc 2 0), (4, .loc 4 0), (7, .loc 7 0), (8, .v (.int .i64 ((f1.Nodes.length : Nat) : Int)))]) (S' := [(7, .box [.v (.int .i64 y4.Kind), .v (.string ⟨⟨y4.Name⟩⟩), .v (.string ⟨⟨y4.Is⟩⟩), .v (.string ⟨⟨y4.Data⟩⟩), .sl 2 false (y4.Attrs.map cAttr), .v (.int .i64 y4.Parent), .sl 1 false (y4.Kids.map cInt_i64), .v (.int .i64 y4.Host), .v (.int .i64 y4.Under), .v (.int .i64 y4.Doc)]), (4, .box [.v (.slice none 0 0), .v (.int .i64 0)]), (2, .box [.sl 10 false (f1.Nodes.map cNode), .v (.int .i64 f1.Most)])]) ?_ ⟨rfl, rfl, rfl, rfl, rfl, trivial⟩ ⟨rfl, rfl, rfl, trivial⟩ rfl
          refine pw_drawV [0, 1, 3, 0, 0, 16, 56, 120, 255, 511, 1023] mixed (by kernel_rfl) (by kernel_rfl) rfl rfl ?_
          refine pdv_step0 [4] [108] [] [2] [] [(54, .loc 2 0)] [] rfl rfl rfl rfl (by kernel_rfl) (by kernel_rfl) (by kernel_rfl) trivial (fun w0 X X0 σ0 => by refine po_evs (T := tab) 1 rfl rfl ?_; refine po_nil ?_; exact pn_end0 ⟨rfl, trivial⟩ trivial rfl) ?_
          refine pdv_step0 [5, 108] [110] [] [2] [2] [(55, .sl 10 false (f1.Nodes.map cNode))] [(2, .box [.sl 10 false (f1.Nodes.map cNode), .v (.int .i64 f1.Most)])] rfl rfl rfl rfl (by kernel_rfl) (by kernel_rfl) (by kernel_rfl) ⟨rfl, trivial⟩ (fun w0 X X0 σ0 => by refine po_evs (T := tab) 1 rfl rfl ?_; refine po_nil ?_; exact pn_end0 ⟨rfl, trivial⟩ ⟨rfl, trivial⟩ rfl) ?_
          refine pdv_step (M := (Slices_Clone_apiNode_m fu f1.Nodes)) (ment := [(112, [2560]), (5121, [])]) [110] [112, 5121] [2560] [] [] (fun r8 => [(56, .own 2560)]) (fun r8 => [(2560, .arr 28 10 (r8.map cNode))]) rfl rfl (fun _ => rfl) (fun _ => rfl) (by kernel_rfl) (by kernel_rfl) (fun _ => by kernel_rfl) (fun _ => trivial) (fun w0 X X0 σ0 => by refine po_turn [2560] (enc := fun (r8 : (List Node)) => .own 2560) (Sr := fun (r8 : (List Node)) => [(2560, .arr 28 10 (r8.map cNode))]) (first := []) (cap := []) (qs := [.sl 10 false (f1.Nodes.map cNode)]) (Sc := []) (N0 := []) (NR := [2560]) (fun r8 hr8 => fc_ren [(5, 2560)] [5] (Slices_Clone_apiNode_ok fu f1.Nodes _ hr8) rfl rfl rfl rfl rfl rfl) trivial (fun _ => rfl) rfl rfl rfl rfl rfl rfl rfl (fun _ => rfl) (fun _ => rfl) rfl rfl rfl ⟨⟨_, rfl, .rfl⟩, trivial⟩ call62 rfl rfl fun r8 hr8 => ?_; refine po_nil ?_; exact pn_end ⟨rfl, trivial⟩ ⟨rfl, trivial⟩ rfl) fun r8 hr8 => ?_
          refine pdv_step0 [2] [114] [] [] [] [(57, .v (.int .i64 n2))] [] rfl rfl rfl rfl (by kernel_rfl) (by kernel_rfl) (by kernel_rfl) trivial (fun w0 X X0 σ0 => by refine po_evs (T := tab) 1 rfl rfl ?_; refine po_nil ?_; exact pn_end0 ⟨rfl, trivial⟩ trivial rfl) ?_
          refine pdv_step0 [14] [116] [] [7] [] [(58, .loc 7 9)] [] rfl rfl rfl rfl (by kernel_rfl) (by kernel_rfl) (by kernel_rfl) trivial (fun w0 X X0 σ0 => by refine po_evs (T := tab) 1 rfl rfl ?_; refine po_nil ?_; exact pn_end0 ⟨rfl, trivial⟩ trivial rfl) ?_
          refine pdv_step0 [15, 116] [118] [] [7] [7] [(59, .v (.int .i64 y4.Doc))] [(7, .box [.v (.int .i64 y4.Kind), .v (.string ⟨⟨y4.Name⟩⟩), .v (.string ⟨⟨y4.Is⟩⟩), .v (.string ⟨⟨y4.Data⟩⟩), .sl 2 false (y4.Attrs.map cAttr), .v (.int .i64 y4.Parent), .sl 1 false (y4.Kids.map cInt_i64), .v (.int .i64 y4.Host), .v (.int .i64 y4.Under), .v (.int .i64 y4.Doc)])] rfl rfl rfl rfl (by kernel_rfl) (by kernel_rfl) (by kernel_rfl) ⟨rfl, trivial⟩ (fun w0 X X0 σ0 => by refine po_evs (T := tab) 1 rfl rfl ?_; refine po_nil ?_; exact pn_end0 ⟨rfl, trivial⟩ ⟨rfl, trivial⟩ rfl) ?_
          refine pdv_step0 [114, 118] [120] [] [] [] [(60, .agg [.v (.int .i64 4), .v (.string ⟨⟨[]⟩⟩), .v (.string ⟨⟨[]⟩⟩), .v (.string ⟨⟨[]⟩⟩), .v (.slice none 0 0), .v (.int .i64 (-1)), .v (.slice none 0 0), .v (.int .i64 n2), .v (.int .i64 (-1)), .v (.int .i64 y4.Doc)])] [] rfl rfl rfl rfl (by kernel_rfl) (by kernel_rfl) (by kernel_rfl) trivial (fun w0 X X0 σ0 => by refine po_build (T := tab) rfl rfl rfl rfl rfl rfl rfl ?_; refine po_nil ?_; exact pn_end0 ⟨rfl, trivial⟩ trivial rfl) ?_
          refine pdv_step0 [120] [122, 120, 123] [61] [] [] [(61, .own 61), (60, .agg [.v (.int .i64 4), .v (.string ⟨⟨[]⟩⟩), .v (.string ⟨⟨[]⟩⟩), .v (.string ⟨⟨[]⟩⟩), .sl 2 false ([].map cAttr), .v (.int .i64 (-1)), .sl 1 false ([].map cInt_i64), .v (.int .i64 n2), .v (.int .i64 (-1)), .v (.int .i64 y4.Doc)])] [(61, .arr 28 10 ([(⟨4, [], [], [], [], (-1), [], n2, (-1), y4.Doc⟩ : Node)].map cNode))] rfl rfl rfl rfl (by kernel_rfl) (by kernel_rfl) (by kernel_rfl) trivial (fun w0 X X0 σ0 => by refine po_coe 60 rfl (.agg (ds := [.v (.int .i64 4), .v (.string ⟨⟨[]⟩⟩), .v (.string ⟨⟨[]⟩⟩), .v (.string ⟨⟨[]⟩⟩), .sl 2 false ([].map cAttr), .v (.int .i64 (-1)), .sl 1 false ([].map cInt_i64), .v (.int .i64 n2), .v (.int .i64 (-1)), .v (.int .i64 y4.Doc)]) ⟨.rfl, .rfl, .rfl, .rfl, .nil, .rfl, .nil, .rfl, .rfl, .rfl, trivial⟩) ?_; refine po_lit (T := tab) (rows := [(⟨4, [], [], [], [], (-1), [], n2, (-1), y4.Doc⟩ : Node)].map cNode) 61 rfl rfl rfl rfl rfl rfl rfl rfl rfl rfl rfl rfl rfl rfl ?_; refine po_nil ?_; exact pn_end0 ⟨rfl, rfl, trivial⟩ ⟨rfl, trivial⟩ rfl) ?_
          refine pdv_step (M := (roomy 136 (r8.length + ([(⟨4, [], [], [], [], (-1), [], n2, (-1), y4.Doc⟩ : Node)] : List Node).length))) (ment := [(124, [2560]), (112, []), (5121, [])]) [112, 122, 123, 5121] [124, 112, 5121] [2560] [61] [61] (fun _ => [(62, .own 2560)]) (fun _ => [(2560, .arr 28 10 ((r8 ++ [(⟨4, [], [], [], [], (-1), [], n2, (-1), y4.Doc⟩ : Node)]).map cNode)), (61, .arr 28 10 ([(⟨4, [], [], [], [], (-1), [], n2, (-1), y4.Doc⟩ : Node)].map cNode))]) rfl rfl (fun _ => rfl) (fun _ => rfl) (by kernel_rfl) (by kernel_rfl) (fun _ => by kernel_rfl) (fun _ => ⟨rfl, trivial⟩) (fun w0 X X0 σ0 => by refine po_append (T := tab) cNode r8 ([(⟨4, [], [], [], [], (-1), [], n2, (-1), y4.Doc⟩ : Node)] : List Node) rfl rfl rfl rfl rfl rfl rfl rfl rfl rfl rfl rfl rfl rfl (cNode_one _) rfl rfl rfl rfl rfl ?_; refine po_nil ?_; exact pn_end ⟨rfl, trivial⟩ ⟨rfl, rfl, trivial⟩ rfl) fun _ h0 => ?_
          refine pdv_step0 [4] [126] [] [2] [] [(63, .loc 2 0)] [] rfl rfl rfl rfl (by kernel_rfl) (by kernel_rfl) (by kernel_rfl) trivial (fun w0 X X0 σ0 => by refine po_evs (T := tab) 1 rfl rfl ?_; refine po_nil ?_; exact pn_end0 ⟨rfl, trivial⟩ trivial rfl) ?_
          refine pdv_step0 [5, 124, 126, 5121] [5] [] [2, 2560] [2560] [] [(2, .box [.own 2560, .v (.int .i64 f1.Most)]), (2560, .arr 28 10 ((r8 ++ [(⟨4, [], [], [], [], (-1), [], n2, (-1), y4.Doc⟩ : Node)]).map cNode))] rfl rfl rfl rfl (by kernel_rfl) (by kernel_rfl) (by kernel_rfl) ⟨rfl, trivial⟩ (fun w0 X X0 σ0 => by refine po_store (T := tab) rfl rfl rfl rfl rfl rfl rfl rfl rfl rfl rfl rfl ?_; refine po_nil ?_; exact pn_end0 trivial ⟨rfl, rfl, trivial⟩ rfl) ?_
          refine pdv_nil rfl rfl ?_
          refine pn_seq ?_
          refine pw_seq ?_
          refine pw_region ?_
          refine po_evs (T := tab) 4 rfl rfl ?_
          refine po_idx_own (T := tab) cNode (r8 ++ [(⟨4, [], [], [], [], (-1), [], n2, (-1), y4.Doc⟩ : Node)]) rfl rfl rfl rfl rfl rfl rfl rfl fun y9 hy9 => ?_
          refine po_evs (T := tab) 1 rfl rfl ?_
          refine po_store_ela (T := tab) cNode (r8 ++ [(⟨4, [], [], [], [], (-1), [], n2, (-1), y4.Doc⟩ : Node)]) y9 (⟨y9.Kind, y9.Name, y9.Is, y9.Data, y9.Attrs, y9.Parent, y9.Kids, y9.Host, ((f1.Nodes.length : Nat) : Int), y9.Doc⟩ : Node) (idx_at hy9) rfl rfl rfl rfl rfl rfl rfl rfl rfl rfl rfl rfl rfl ?_
          refine po_nil ?_
          refine pn_seq ?_
          refine pw_seq ?_
          refine pw_region ?_
          refine po_evs (T := tab) 2 rfl rfl ?_
          refine po_store (T := tab) rfl rfl rfl rfl rfl rfl rfl rfl rfl rfl rfl rfl ?_
          refine po_evs (T := tab) 2 rfl rfl ?_
          refine po_nil ?_
          refine pn_seq ?_
          refine pw_freeze 2560 rfl rfl rfl ?_
          exact pw_retN (T := tab) rfl rfl rfl ⟨rfl, rfl⟩ trivial rfl
    · refine pd_evs (T := tab) 4 rfl rfl ?_
      refine pd_split (j := 24) rfl ?_ ?_
      · refine pd_evs (T := tab) 13 rfl rfl ?_
        refine pd_nil ?_
        refine pn_seq (pw_then rfl ?_)
        refine pw_seq ?_
        refine pw_region ?_
        refine po_evs (T := tab) 1 rfl rfl ?_
        refine po_store (T := tab) rfl rfl rfl rfl rfl rfl rfl rfl rfl rfl rfl rfl ?_
        refine po_evs (T := tab) 2 rfl rfl ?_
        refine po_nil ?_
        refine pn_seq ?_
        exact pw_retN (T := tab) rfl rfl rfl ⟨rfl, rfl⟩ trivial rfl
      · refine pd_evs (T := tab) 2 rfl rfl ?_
        refine pd_call (enc := fun (r5 : Bool) => .v (.bool r5)) (qs := [.v (.string ⟨⟨y4.Name⟩⟩)]) (Name_Custom_ok fu y4.Name) rfl rfl ⟨⟨_, rfl, .rfl⟩, trivial⟩ (fun _ => rfl) call70 rfl rfl fun r5 hr5 => ?_
        refine pd_evs (T := tab) 2 rfl rfl ?_
        refine pd_split (j := 29) rfl ?_ ?_
        · refine pd_call (enc := fun (r6 : (List Bs)) => .sl 1 false (r6.map cStr)) (qs := []) (Shade_hosts_ok fu) rfl rfl trivial (fun _ => rfl) call72 rfl rfl fun r6 hr6 => ?_
          refine pd_evs (T := tab) 2 rfl rfl ?_
          refine pd_call (enc := fun (r7 : Bool) => .v (.bool r7)) (qs := [.sl 1 false (r6.map cStr), .v (.string ⟨⟨y4.Name⟩⟩)]) (Slices_Contains_string_ok fu r6 y4.Name) rfl rfl ⟨⟨_, rfl, .rfl⟩, ⟨_, rfl, .rfl⟩, trivial⟩ (fun _ => rfl) call71 rfl rfl fun r7 hr7 => ?_
          refine pd_evs (T := tab) 4 rfl rfl ?_
          refine pd_nil ?_
          refine pn_seq ?_
          refine pw_cnd rfl ?_ ?_
          · refine pw_seq ?_
            refine pw_region ?_
            refine po_evs (T := tab) 1 rfl rfl ?_
            refine po_store (T := tab) rfl rfl rfl rfl rfl rfl rfl rfl rfl rfl rfl rfl ?_
            refine po_evs (T := tab) 2 rfl rfl ?_
            refine po_nil ?_
            refine pn_seq ?_
            exact pw_retN (T := tab) rfl rfl rfl ⟨rfl, rfl⟩ trivial rfl
          · exact pw_sub' (hj1 ()) ⟨rfl, rfl, rfl, rfl, trivial⟩ ⟨rfl, rfl, rfl, trivial⟩ rfl
        · refine pd_evs (T := tab) 8 rfl rfl ?_
          refine pd_nil ?_
          refine pn_seq (pw_else rfl ?_)
          exact pw_sub' (hj1 ()) ⟨rfl, rfl, rfl, rfl, trivial⟩ ⟨rfl, rfl, rfl, trivial⟩ rfl

def Shade_All_l2 (l4 : (List Int)) (y7 : Int) (y9 : Node) (rc1 : ((List Int) × (List Int)) → Option (List Int)) : Nat → (List Int) → Option (List Int)
  | 0, l10 => cnd (y9.Under != (-1)) (bnd (roomy 8 (l10.length + ([y9.Under] : List Int).length)) fun _ => rc1 ((l4 ++ [y7]), (l10 ++ [y9.Under]))) (rc1 ((l4 ++ [y7]), l10))
  | k2 + 1, l10 => bnd (y9.Kids[k2]?) fun y11 => bnd (roomy 8 (l10.length + ([y11] : List Int).length)) fun _ => (Shade_All_l2 l4 y7 y9 rc1 k2) (l10 ++ [y11])

def Shade_All_l1 (f1 : Forest) : Nat → (List Int) × (List Int) → Option (List Int)
  | 0, _ => none
  | k1 + 1, (l4, l5) => cnd (decide (((l5.length : Nat) : Int) > 0)) (bnd (rng .i64 (((l5.length : Nat) : Int) - 1)) fun i6 => bnd (idx l5 i6) fun y7 => bnd (piece l5 0 i6) fun l8 => bnd (roomy 8 (l4.length + ([y7] : List Int).length)) fun _ => bnd (idx f1.Nodes y7) fun y9 => (Shade_All_l2 l4 y7 y9 (Shade_All_l1 f1 k1)) y9.Kids.length l8) (some l4)

def Shade_All_m (fu : Nat) (f1 : Forest) (n2 : Int) : Option (List Int) := bnd (Shade_there_m fu f1 [n2]) fun r3 => cnd (!r3) (some ([] : List Int)) ((Shade_All_l1 f1) fu ([], [n2]))

set_option maxHeartbeats 10000000 in
set_option maxRecDepth 100000 in
theorem Shade_All_ok (fu : Nat) (f1 : Forest) (n2 : Int) : ∀ r, Shade_All_m fu f1 n2 = some r → FC Try.prog 41 [.agg (cForest f1), .v (.int .i64 n2)] [] [] fun p S' => p = .own 1035 ∧ S' = [(1035, .arr 3 1 (r.map cInt_i64))] := by
  intro r hr
  refine fc_intro (args := [.agg (cForest f1), .v (.int .i64 n2)]) (S := []) (N0 := []) (post := fun r p S => p = .own 1035 ∧ S = [(1035, .arr 3 1 (r.map cInt_i64))]) Try.func41 rfl rfl hr fun w0 X X0 σ0 => ?_
  refine pw_seq ?_
  refine pw_region ?_
  refine po_box  2 rfl rfl rfl rfl rfl rfl rfl rfl rfl rfl ?_
  refine po_evs (T := tab) 1 rfl rfl ?_
  refine po_nil ?_
  refine pn_seq ?_
  refine pw_seq ?_
  refine pw_seq ?_
  refine pw_region ?_
  refine po_evs (T := tab) 2 rfl rfl ?_
  refine po_lit (T := tab) (rows := [n2].map cInt_i64) 14 rfl rfl rfl rfl rfl rfl rfl rfl rfl rfl rfl rfl rfl rfl ?_
  refine po_freeze 14 rfl rfl rfl ?_
  refine po_call (enc := fun (r3 : Bool) => .v (.bool r3)) (qs := [.agg (cForest f1), .sl 1 false ([n2].map cInt_i64)]) (Shade_there_ok fu f1 [n2]) rfl rfl ⟨⟨_, rfl, .rfl⟩, ⟨_, rfl, .rfl⟩, trivial⟩ (fun _ => rfl) call69 rfl rfl fun r3 hr3 => ?_
  refine po_evs (T := tab) 1 rfl rfl ?_
  refine po_nil ?_
  refine pn_seq ?_
  refine pw_cnd rfl ?_ ?_
  · refine pw_seq ?_
    refine pw_region ?_
    refine po_evs (T := tab) 1 rfl rfl ?_
    refine po_nil ?_
    refine pn_seq ?_
    refine pw_own_nil 1035 3 1 4 rfl rfl rfl rfl ?_
    exact pw_retN (T := tab) rfl rfl rfl ⟨rfl, rfl⟩ ⟨rfl, trivial⟩ rfl
  · refine pw_skip ?_
    refine pn_seq ?_
    refine pw_seq ?_
    refine pw_region ?_
    refine po_evs (T := tab) 1 rfl rfl ?_
    refine po_nil ?_
    refine pn_seq ?_
    refine pw_seq ?_
    refine pw_seq ?_
    refine pw_region ?_
    refine po_evs (T := tab) 1 rfl rfl ?_
    refine po_lit (T := tab) (rows := [n2].map cInt_i64) 18 rfl rfl rfl rfl rfl rfl rfl rfl rfl rfl rfl rfl rfl rfl ?_
    refine po_alloc (T := tab) 6 rfl rfl rfl rfl rfl rfl rfl rfl rfl ?_
    refine po_store (T := tab) rfl rfl rfl rfl rfl rfl rfl rfl rfl rfl rfl rfl ?_
    refine po_nil ?_
    refine pn_seq ?_
    refine pw_block ?_
    refine pw_own_nil 1035 3 1 5 rfl rfl rfl rfl ?_
    refine pw_loop' (Shade_All_l1 f1) (fun ((l4, l5) : (List Int) × (List Int)) => [(2, .loc 2 0), (5, .own 1035), (6, .loc 6 0)]) (fun ((l4, l5) : (List Int) × (List Int)) => [(1035, .arr 3 1 (l4.map cInt_i64)), (6, .box [.own 18]), (18, .arr 3 1 (l5.map cInt_i64)), (2, .box [.sl 10 false (f1.Nodes.map cNode), .v (.int .i64 f1.Most)])]) fu ([], [n2]) (fun _ => rfl) ⟨rfl, rfl, rfl, trivial⟩ ⟨rfl, rfl, rfl, rfl, trivial⟩ rfl ?_
    rintro k1 ⟨l4, l5⟩
    refine pw_seq ?_
    refine pw_seq ?_
    refine pw_region ?_
    refine po_evs (T := tab) 1 rfl rfl ?_
    refine po_len_own (T := tab) cInt_i64 l5 rfl rfl rfl rfl rfl rfl rfl rfl rfl ?_
    refine po_evs (T := tab) 1 rfl rfl ?_
    refine po_nil ?_
    refine pn_seq ?_
    refine pw_cnd rfl ?_ ?_
    · refine pw_skip ?_
      refine pn_seq ?_
      refine pw_seq ?_
      refine pw_block ?_
      refine pw_seq ?_
      refine pw_region ?_
      refine po_evs (T := tab) 1 rfl rfl ?_
      refine po_len_own (T := tab) cInt_i64 l5 rfl rfl rfl rfl rfl rfl rfl rfl rfl ?_
      refine po_arith' (T := tab) rfl rfl rfl rfl fun i6 hi6 => ?_
      refine po_evs (T := tab) 1 rfl rfl ?_
      refine po_nil ?_
      refine pn_seq ?_
      refine pw_seq ?_
      refine pw_region ?_
      refine po_evs (T := tab) 2 rfl rfl ?_
      refine po_idx_own (T := tab) cInt_i64 l5 rfl rfl rfl rfl rfl rfl rfl rfl fun y7 hy7 => ?_
      refine po_load_ela (T := tab) cInt_i64 l5 y7 (idx_at hy7) rfl rfl rfl rfl rfl rfl rfl rfl ?_
      refine po_evs (T := tab) 1 rfl rfl ?_
      refine po_nil ?_
      refine pn_seq ?_
      refine pw_seq ?_
      refine pw_region ?_
      refine po_evs (T := tab) 2 rfl rfl ?_
      refine po_own_cut (T := tab) cInt_i64 l5 rfl rfl rfl rfl rfl rfl rfl rfl rfl rfl rfl fun l8 hl8 => ?_
      refine po_store (T := tab) rfl rfl rfl rfl rfl rfl rfl rfl rfl rfl rfl rfl ?_
      refine po_nil ?_
      refine pn_seq ?_
      refine pw_seq ?_
      refine pw_region ?_
      refine po_evs (T := tab) 2 rfl rfl ?_
      refine po_lit (T := tab) (rows := [y7].map cInt_i64) 34 rfl rfl rfl rfl rfl rfl rfl rfl rfl rfl rfl rfl rfl rfl ?_
      refine po_append (T := tab) cInt_i64 l4 ([y7] : List Int) rfl rfl rfl rfl rfl rfl rfl rfl rfl rfl rfl rfl rfl rfl (cInt_i64_one _) rfl rfl rfl rfl rfl ?_
      refine po_evs (T := tab) 1 rfl rfl ?_
      refine po_nil ?_
      refine pn_seq ?_
      refine pw_seq ?_
      refine pw_region ?_
      refine po_evs (T := tab) 3 rfl rfl ?_
      refine po_idx (T := tab) cNode f1.Nodes rfl rfl rfl rfl rfl rfl rfl fun y9 hy9 => ?_
      refine po_evs (T := tab) 1 rfl rfl ?_
      refine po_alloc (T := tab) 9 rfl rfl rfl rfl rfl rfl rfl rfl rfl ?_
      refine po_store (T := tab) rfl rfl rfl rfl rfl rfl rfl rfl rfl rfl rfl rfl ?_
      refine po_nil ?_
      refine pn_seq ?_
      refine pw_seq ?_
      refine pw_seq ?_
      refine pw_region ?_
      refine po_evs (T := tab) 2 rfl rfl ?_
      refine po_backward (n := 3043) tab Try.func66 rfl rfl rfl rfl rfl rfl rfl rfl rfl rfl rfl rfl ⟨⟨_, rfl, .rfl⟩, trivial⟩ call66 rfl rfl ?_
      refine po_nil ?_
      refine pn_seq ?_
      refine pw_block ?_
      refine pw_back (T := tab) (enc := cInt_i64) (enc' := fun (y11 : Int) => .v (.int .i64 y11)) (xs := y9.Kids) (x0 := l8) (n := 3043) (tS := 26) (tE := 3) (tI := 3) (tB := 4) (tF := 65) (g := 96) (M := (Shade_All_l2 l4 y7 y9 (Shade_All_l1 f1 k1))) (Sf := fun (l10 : (List Int)) => [(9, .box [.v (.int .i64 y9.Kind), .v (.string ⟨⟨y9.Name⟩⟩), .v (.string ⟨⟨y9.Is⟩⟩), .v (.string ⟨⟨y9.Data⟩⟩), .sl 2 false (y9.Attrs.map cAttr), .v (.int .i64 y9.Parent), .sl 1 false (y9.Kids.map cInt_i64), .v (.int .i64 y9.Host), .v (.int .i64 y9.Under), .v (.int .i64 y9.Doc)]), (1035, .arr 3 1 ((l4 ++ [y7]).map cInt_i64)), (18, .arr 3 1 (l10.map cInt_i64)), (6, .box [.own 18]), (2, .box [.sl 10 false (f1.Nodes.map cNode), .v (.int .i64 f1.Most)])]) (N1 := [2, 6, 9, 1035]) (E0 := [(2, .loc 2 0), (5, .own 1035), (6, .loc 6 0), (9, .loc 9 0)]) (E1 := fun k2 y11 => [(2, .loc 2 0), (5, .own 1035), (6, .loc 6 0), (9, .loc 9 0), (44, .v (.int .i64 ((k2 : Nat) : Int))), (45, .v (.int .i64 y11)), (11, .v (.int .i64 y11))]) Try.func96 rfl rfl rfl call96 rfl rfl (fun _ => rfl) (fun _ => rfl) rfl rfl ⟨rfl, rfl, rfl, rfl, trivial⟩ rfl rfl ⟨rfl, rfl, rfl, rfl, rfl, trivial⟩ rfl rfl rfl rfl rfl rfl ?_ ?_ ?_
      · rintro k2 y11 l10 hy w0 X X0 σ0
        refine po_evs (T := tab) 1 rfl rfl ?_
        refine po_nil ?_
        exact pn_end0 ⟨rfl, rfl, rfl, rfl, rfl, rfl, rfl, trivial⟩ ⟨rfl, rfl, rfl, rfl, rfl, trivial⟩ rfl
      · rintro k2 y11 l10 hy w0 X X0 σ0
        refine po_known hy ?_
        refine po_evs (T := tab) 2 rfl rfl ?_
        refine po_lit (T := tab) (rows := [y11].map cInt_i64) 48 rfl rfl rfl rfl rfl rfl rfl rfl rfl rfl rfl rfl rfl rfl ?_
        refine po_append (T := tab) cInt_i64 l10 ([y11] : List Int) rfl rfl rfl rfl rfl rfl rfl rfl rfl rfl rfl rfl rfl rfl (cInt_i64_one _) rfl rfl rfl rfl rfl ?_
        refine po_store (T := tab) rfl rfl rfl rfl rfl rfl rfl rfl rfl rfl rfl rfl ?_
        refine po_nil ?_
        exact pn_iter' (l10 ++ [y11]) trivial ⟨rfl, rfl, rfl, rfl, rfl, trivial⟩ rfl
      · rintro l10
        refine pn_block ?_
        refine pn_seq ?_
        refine pw_seq ?_
        refine pw_region ?_
        refine po_evs (T := tab) 3 rfl rfl ?_
        refine po_nil ?_
        refine pn_seq ?_
        refine pw_cnd rfl ?_ ?_
        · refine pw_region ?_
          refine po_evs (T := tab) 3 rfl rfl ?_
          refine po_lit (T := tab) (rows := [y9.Under].map cInt_i64) 56 rfl rfl rfl rfl rfl rfl rfl rfl rfl rfl rfl rfl rfl rfl ?_
          refine po_append (T := tab) cInt_i64 l10 ([y9.Under] : List Int) rfl rfl rfl rfl rfl rfl rfl rfl rfl rfl rfl rfl rfl rfl (cInt_i64_one _) rfl rfl rfl rfl rfl ?_
          refine po_store (T := tab) rfl rfl rfl rfl rfl rfl rfl rfl rfl rfl rfl rfl ?_
          refine po_nil ?_
          refine pn_block ?_
          refine pn_seq ?_
          refine pw_seq ?_
          refine pw_region ?_
          refine po_evs (T := tab) 1 rfl rfl ?_
          refine po_nil ?_
          refine pn_seq ?_
          refine pw_region ?_
          refine po_alloc (T := tab) 6 rfl rfl rfl rfl rfl rfl rfl rfl rfl ?_
          refine po_store (T := tab) rfl rfl rfl rfl rfl rfl rfl rfl rfl rfl rfl rfl ?_
          refine po_nil ?_
          exact pn_iter' ((l4 ++ [y7]), (l10 ++ [y9.Under])) ⟨rfl, rfl, rfl, trivial⟩ ⟨rfl, rfl, rfl, rfl, trivial⟩ rfl
        · refine pw_skip ?_
          refine pn_block ?_
          refine pn_seq ?_
          refine pw_seq ?_
          refine pw_region ?_
          refine po_evs (T := tab) 1 rfl rfl ?_
          refine po_nil ?_
          refine pn_seq ?_
          refine pw_region ?_
          refine po_alloc (T := tab) 6 rfl rfl rfl rfl rfl rfl rfl rfl rfl ?_
          refine po_store (T := tab) rfl rfl rfl rfl rfl rfl rfl rfl rfl rfl rfl rfl ?_
          refine po_nil ?_
          exact pn_iter' ((l4 ++ [y7]), l10) ⟨rfl, rfl, rfl, trivial⟩ ⟨rfl, rfl, rfl, rfl, trivial⟩ rfl
    · refine pw_exit rfl ?_
      refine pn_seq ?_
      refine pw_seq ?_
      refine pw_region ?_
      refine po_evs (T := tab) 2 rfl rfl ?_
      refine po_nil ?_
      refine pn_seq ?_
      exact pw_retN (T := tab) rfl rfl rfl ⟨rfl, rfl⟩ ⟨rfl, trivial⟩ rfl

def Shade_up_m (_fu : Nat) (f1 : Forest) (n2 : Int) : Option Int := bnd (idx f1.Nodes n2) fun y3 => cnd (y3.Parent != (-1)) (some y3.Parent) (bnd (idx f1.Nodes n2) fun y4 => some y4.Host)

set_option maxRecDepth 100000 in
theorem Shade_up_ok (fu : Nat) (f1 : Forest) (n2 : Int) : ∀ r, Shade_up_m fu f1 n2 = some r → DC Try.prog 73 [.agg (cForest f1), .v (.int .i64 n2)] (.v (.int .i64 r)) := by
  intro r hr
  refine fc_intro (args := [.agg (cForest f1), .v (.int .i64 n2)]) (S := []) (N0 := []) (post := fun r p S => p = .v (.int .i64 r) ∧ S = []) Try.func73 rfl rfl hr fun w0 X X0 σ0 => ?_
  refine pw_seq ?_
  refine pw_region ?_
  refine po_box  2 rfl rfl rfl rfl rfl rfl rfl rfl rfl rfl ?_
  refine po_evs (T := tab) 1 rfl rfl ?_
  refine po_nil ?_
  refine pn_seq ?_
  refine pw_seq ?_
  refine pw_seq ?_
  refine pw_region ?_
  refine po_evs (T := tab) 3 rfl rfl ?_
  refine po_idx (T := tab) cNode f1.Nodes rfl rfl rfl rfl rfl rfl rfl fun y3 hy3 => ?_
  refine po_evs (T := tab) 3 rfl rfl ?_
  refine po_nil ?_
  refine pn_seq ?_
  refine pw_seq ?_
  refine pw_region ?_
  refine po_evs (T := tab) 2 rfl rfl ?_
  refine po_nil ?_
  refine pn_seq ?_
  refine pw_cnd rfl ?_ ?_
  · refine pw_seq ?_
    refine pw_region ?_
    refine po_evs (T := tab) 2 rfl rfl ?_
    refine po_nil ?_
    refine pn_seq ?_
    exact pw_retN (T := tab) rfl rfl rfl ⟨rfl, rfl⟩ trivial rfl
  · refine pw_skip ?_
    refine pn_seq ?_
    refine pw_seq ?_
    refine pw_region ?_
    refine po_evs (T := tab) 3 rfl rfl ?_
    refine po_idx (T := tab) cNode f1.Nodes rfl rfl rfl rfl rfl rfl rfl fun y4 hy4 => ?_
    refine po_evs (T := tab) 3 rfl rfl ?_
    refine po_nil ?_
    refine pn_seq ?_
    exact pw_retN (T := tab) rfl rfl rfl ⟨rfl, rfl⟩ trivial rfl

def Shade_Top_l1 (fu : Nat) (f1 : Forest) : Nat → Int → Option Int
  | 0, _ => none
  | k1 + 1, n4 => bnd (Shade_up_m fu f1 n4) fun r5 => cnd (r5 != (-1)) (bnd (Shade_up_m fu f1 n4) fun r6 => (Shade_Top_l1 fu f1 k1) r6) (some n4)

def Shade_Top_m (fu : Nat) (f1 : Forest) (n2 : Int) : Option Int := bnd (Shade_there_m fu f1 [n2]) fun r3 => cnd (!r3) (some (-1)) ((Shade_Top_l1 fu f1) fu n2)

set_option maxHeartbeats 10000000 in
set_option maxRecDepth 100000 in
theorem Shade_Top_ok (fu : Nat) (f1 : Forest) (n2 : Int) : ∀ r, Shade_Top_m fu f1 n2 = some r → DC Try.prog 39 [.agg (cForest f1), .v (.int .i64 n2)] (.v (.int .i64 r)) := by
  intro r hr
  refine fc_intro (args := [.agg (cForest f1), .v (.int .i64 n2)]) (S := []) (N0 := []) (post := fun r p S => p = .v (.int .i64 r) ∧ S = []) Try.func39 rfl rfl hr fun w0 X X0 σ0 => ?_
  refine pw_seq ?_
  refine pw_region ?_
  refine po_box  2 rfl rfl rfl rfl rfl rfl rfl rfl rfl rfl ?_
  refine po_evs (T := tab) 1 rfl rfl ?_
  refine po_nil ?_
  refine pn_seq ?_
  refine pw_seq ?_
  refine pw_seq ?_
  refine pw_region ?_
  refine po_evs (T := tab) 2 rfl rfl ?_
  refine po_lit (T := tab) (rows := [n2].map cInt_i64) 7 rfl rfl rfl rfl rfl rfl rfl rfl rfl rfl rfl rfl rfl rfl ?_
  refine po_freeze 7 rfl rfl rfl ?_
  refine po_call (enc := fun (r3 : Bool) => .v (.bool r3)) (qs := [.agg (cForest f1), .sl 1 false ([n2].map cInt_i64)]) (Shade_there_ok fu f1 [n2]) rfl rfl ⟨⟨_, rfl, .rfl⟩, ⟨_, rfl, .rfl⟩, trivial⟩ (fun _ => rfl) call69 rfl rfl fun r3 hr3 => ?_
  refine po_evs (T := tab) 1 rfl rfl ?_
  refine po_nil ?_
  refine pn_seq ?_
  refine pw_cnd rfl ?_ ?_
  · refine pw_seq ?_
    refine pw_region ?_
    refine po_evs (T := tab) 1 rfl rfl ?_
    refine po_nil ?_
    refine pn_seq ?_
    exact pw_retN (T := tab) rfl rfl rfl ⟨rfl, rfl⟩ trivial rfl
  · refine pw_skip ?_
    refine pn_seq ?_
    refine pw_seq ?_
    refine pw_block ?_
    refine pw_loop' (Shade_Top_l1 fu f1) (fun (n4 : Int) => [(1, .v (.int .i64 n4)), (2, .loc 2 0)]) (fun (n4 : Int) => [(2, .box [.sl 10 false (f1.Nodes.map cNode), .v (.int .i64 f1.Most)])]) fu n2 (fun _ => rfl) ⟨rfl, rfl, trivial⟩ ⟨rfl, trivial⟩ rfl ?_
    rintro k1 n4
    refine pw_seq ?_
    refine pw_seq ?_
    refine pw_region ?_
    refine po_evs (T := tab) 2 rfl rfl ?_
    refine po_call (enc := fun (r5 : Int) => .v (.int .i64 r5)) (qs := [.agg (cForest f1), .v (.int .i64 n4)]) (Shade_up_ok fu f1 n4) rfl rfl ⟨⟨_, rfl, .rfl⟩, ⟨_, rfl, .rfl⟩, trivial⟩ (fun _ => rfl) call73 rfl rfl fun r5 hr5 => ?_
    refine po_evs (T := tab) 1 rfl rfl ?_
    refine po_nil ?_
    refine pn_seq ?_
    refine pw_cnd rfl ?_ ?_
    · refine pw_skip ?_
      refine pn_seq ?_
      refine pw_block ?_
      refine pw_region ?_
      refine po_evs (T := tab) 2 rfl rfl ?_
      refine po_call (enc := fun (r6 : Int) => .v (.int .i64 r6)) (qs := [.agg (cForest f1), .v (.int .i64 n4)]) (Shade_up_ok fu f1 n4) rfl rfl ⟨⟨_, rfl, .rfl⟩, ⟨_, rfl, .rfl⟩, trivial⟩ (fun _ => rfl) call73 rfl rfl fun r6 hr6 => ?_
      refine po_evs (T := tab) 1 rfl rfl ?_
      refine po_nil ?_
      refine pn_block ?_
      exact pn_iter' r6 ⟨rfl, rfl, trivial⟩ ⟨rfl, trivial⟩ rfl
    · refine pw_exit rfl ?_
      refine pn_seq ?_
      refine pw_seq ?_
      refine pw_region ?_
      refine po_evs (T := tab) 2 rfl rfl ?_
      refine po_nil ?_
      refine pn_seq ?_
      exact pw_retN (T := tab) rfl rfl rfl ⟨rfl, rfl⟩ trivial rfl

def Shade_Connected_m (fu : Nat) (f1 : Forest) (n2 : Int) : Option Bool := bnd (Shade_Top_m fu f1 n2) fun r3 => cnd (r3 != (-1)) (bnd (idx f1.Nodes r3) fun y4 => some (y4.Kind == 0)) (some false)

set_option maxRecDepth 100000 in
theorem Shade_Connected_ok (fu : Nat) (f1 : Forest) (n2 : Int) : ∀ r, Shade_Connected_m fu f1 n2 = some r → DC Try.prog 40 [.agg (cForest f1), .v (.int .i64 n2)] (.v (.bool r)) := by
  intro r hr
  refine fc_intro (args := [.agg (cForest f1), .v (.int .i64 n2)]) (S := []) (N0 := []) (post := fun r p S => p = .v (.bool r) ∧ S = []) Try.func40 rfl rfl hr fun w0 X X0 σ0 => ?_
  refine pw_seq ?_
  refine pw_region ?_
  refine po_box  2 rfl rfl rfl rfl rfl rfl rfl rfl rfl rfl ?_
  refine po_evs (T := tab) 1 rfl rfl ?_
  refine po_nil ?_
  refine pn_seq ?_
  refine pw_seq ?_
  refine pw_region ?_
  refine po_evs (T := tab) 2 rfl rfl ?_
  refine po_call (enc := fun (r3 : Int) => .v (.int .i64 r3)) (qs := [.agg (cForest f1), .v (.int .i64 n2)]) (Shade_Top_ok fu f1 n2) rfl rfl ⟨⟨_, rfl, .rfl⟩, ⟨_, rfl, .rfl⟩, trivial⟩ (fun _ => rfl) call39 rfl rfl fun r3 hr3 => ?_
  refine po_evs (T := tab) 1 rfl rfl ?_
  refine po_nil ?_
  refine pn_seq ?_
  refine pw_seq ?_
  refine pw_region ?_
  refine po_evs (T := tab) 3 rfl rfl ?_
  refine po_split (j := 11) rfl ?_ ?_
  · refine po_evs (T := tab) 3 rfl rfl ?_
    refine po_idx (T := tab) cNode f1.Nodes rfl rfl rfl rfl rfl rfl rfl fun y4 hy4 => ?_
    refine po_evs (T := tab) 5 rfl rfl ?_
    refine po_nil ?_
    refine pn_seq ?_
    exact pw_retN (T := tab) rfl rfl rfl ⟨rfl, rfl⟩ trivial rfl
  · refine po_evs (T := tab) 9 rfl rfl ?_
    refine po_nil ?_
    refine pn_seq ?_
    exact pw_retN (T := tab) rfl rfl rfl ⟨rfl, rfl⟩ trivial rfl

def Shade_Over_l1 (fu : Nat) (f1 : Forest) (a2 : Int) : Nat → Int → Option Bool
  | 0, _ => none
  | k1 + 1, b5 => cnd (b5 != (-1)) (cnd (b5 != a2) (bnd (Shade_up_m fu f1 b5) fun r6 => (Shade_Over_l1 fu f1 a2 k1) r6) (some (b5 == a2))) (some (b5 == a2))

def Shade_Over_m (fu : Nat) (f1 : Forest) (a2 : Int) (b3 : Int) : Option Bool := bnd (Shade_there_m fu f1 [a2, b3]) fun r4 => cnd (!r4) (some false) ((Shade_Over_l1 fu f1 a2) fu b3)

set_option maxHeartbeats 10000000 in
set_option maxRecDepth 100000 in
theorem Shade_Over_ok (fu : Nat) (f1 : Forest) (a2 : Int) (b3 : Int) : ∀ r, Shade_Over_m fu f1 a2 b3 = some r → DC Try.prog 43 [.agg (cForest f1), .v (.int .i64 a2), .v (.int .i64 b3)] (.v (.bool r)) := by
  intro r hr
  refine fc_intro (args := [.agg (cForest f1), .v (.int .i64 a2), .v (.int .i64 b3)]) (S := []) (N0 := []) (post := fun r p S => p = .v (.bool r) ∧ S = []) Try.func43 rfl rfl hr fun w0 X X0 σ0 => ?_
  refine pw_seq ?_
  refine pw_region ?_
  refine po_box  3 rfl rfl rfl rfl rfl rfl rfl rfl rfl rfl ?_
  refine po_evs (T := tab) 1 rfl rfl ?_
  refine po_nil ?_
  refine pn_seq ?_
  refine pw_seq ?_
  refine pw_seq ?_
  refine pw_region ?_
  refine po_evs (T := tab) 3 rfl rfl ?_
  refine po_lit (T := tab) (rows := [a2, b3].map cInt_i64) 10 rfl rfl rfl rfl rfl rfl rfl rfl rfl rfl rfl rfl rfl rfl ?_
  refine po_freeze 10 rfl rfl rfl ?_
  refine po_call (enc := fun (r4 : Bool) => .v (.bool r4)) (qs := [.agg (cForest f1), .sl 1 false ([a2, b3].map cInt_i64)]) (Shade_there_ok fu f1 [a2, b3]) rfl rfl ⟨⟨_, rfl, .rfl⟩, ⟨_, rfl, .rfl⟩, trivial⟩ (fun _ => rfl) call69 rfl rfl fun r4 hr4 => ?_
  refine po_evs (T := tab) 1 rfl rfl ?_
  refine po_nil ?_
  refine pn_seq ?_
  refine pw_cnd rfl ?_ ?_
  · refine pw_seq ?_
    refine pw_region ?_
    refine po_evs (T := tab) 1 rfl rfl ?_
    refine po_nil ?_
    refine pn_seq ?_
    exact pw_retN (T := tab) rfl rfl rfl ⟨rfl, rfl⟩ trivial rfl
  · refine pw_skip ?_
    refine pn_seq ?_
    refine pw_seq ?_
    refine pw_block ?_
    refine pw_loop' (Shade_Over_l1 fu f1 a2) (fun (b5 : Int) => [(1, .v (.int .i64 a2)), (2, .v (.int .i64 b5)), (3, .loc 3 0)]) (fun (b5 : Int) => [(3, .box [.sl 10 false (f1.Nodes.map cNode), .v (.int .i64 f1.Most)])]) fu b3 (fun _ => rfl) ⟨rfl, rfl, rfl, trivial⟩ ⟨rfl, trivial⟩ rfl ?_
    rintro k1 b5
    refine pw_seq ?_
    refine pw_seq ?_
    refine pw_region ?_
    refine po_evs (T := tab) 3 rfl rfl ?_
    refine po_split (j := 15) rfl ?_ ?_
    · refine po_evs (T := tab) 4 rfl rfl ?_
      refine po_nil ?_
      refine pn_seq ?_
      refine pw_cnd rfl ?_ ?_
      · refine pw_skip ?_
        refine pn_seq ?_
        refine pw_block ?_
        refine pw_region ?_
        refine po_evs (T := tab) 2 rfl rfl ?_
        refine po_call (enc := fun (r6 : Int) => .v (.int .i64 r6)) (qs := [.agg (cForest f1), .v (.int .i64 b5)]) (Shade_up_ok fu f1 b5) rfl rfl ⟨⟨_, rfl, .rfl⟩, ⟨_, rfl, .rfl⟩, trivial⟩ (fun _ => rfl) call73 rfl rfl fun r6 hr6 => ?_
        refine po_evs (T := tab) 1 rfl rfl ?_
        refine po_nil ?_
        refine pn_block ?_
        exact pn_iter' r6 ⟨rfl, rfl, rfl, trivial⟩ ⟨rfl, trivial⟩ rfl
      · refine pw_exit rfl ?_
        refine pn_seq ?_
        refine pw_seq ?_
        refine pw_region ?_
        refine po_evs (T := tab) 4 rfl rfl ?_
        refine po_nil ?_
        refine pn_seq ?_
        exact pw_retN (T := tab) rfl rfl rfl ⟨rfl, rfl⟩ trivial rfl
    · refine po_evs (T := tab) 4 rfl rfl ?_
      refine po_nil ?_
      refine pn_seq (pw_else rfl ?_)
      refine pw_exit rfl ?_
      refine pn_seq ?_
      refine pw_seq ?_
      refine pw_region ?_
      refine po_evs (T := tab) 4 rfl rfl ?_
      refine po_nil ?_
      refine pn_seq ?_
      exact pw_retN (T := tab) rfl rfl rfl ⟨rfl, rfl⟩ trivial rfl

def Shade_Elems_1_m (_fu : Nat) (k1 : Int) (c2 : Forest) : Option Bool := bnd (idx c2.Nodes k1) fun y3 => some (y3.Kind != 1)

set_option maxRecDepth 100000 in
theorem Shade_Elems_1_ok (fu : Nat) (k1 : Int) (c2 : Forest) : ∀ r, Shade_Elems_1_m fu k1 c2 = some r → FC Try.prog 75 [.v (.int .i64 k1), .loc 900000 0] [(900000, .box [.sl 10 false (c2.Nodes.map cNode), .v (.int .i64 c2.Most)])] [900000] fun p S' => p = .v (.bool r) ∧ S' = [(900000, .box [.sl 10 false (c2.Nodes.map cNode), .v (.int .i64 c2.Most)])] := by
  intro r hr
  refine fc_intro (args := [.v (.int .i64 k1), .loc 900000 0]) (S := [(900000, .box [.sl 10 false (c2.Nodes.map cNode), .v (.int .i64 c2.Most)])]) (N0 := [900000]) (post := fun r p S => p = .v (.bool r) ∧ S = [(900000, .box [.sl 10 false (c2.Nodes.map cNode), .v (.int .i64 c2.Most)])]) Try.func75 rfl rfl hr fun w0 X X0 σ0 => ?_
  refine pw_seq ?_
  refine pw_region ?_
  refine po_evs (T := tab) 1 rfl rfl ?_
  refine po_nil ?_
  refine pn_seq ?_
  refine pw_seq ?_
  refine pw_region ?_
  refine po_evs (T := tab) 3 rfl rfl ?_
  refine po_idx (T := tab) cNode c2.Nodes rfl rfl rfl rfl rfl rfl rfl fun y3 hy3 => ?_
  refine po_evs (T := tab) 4 rfl rfl ?_
  refine po_nil ?_
  refine pn_seq ?_
  exact pw_retN (T := tab) rfl rfl rfl ⟨rfl, rfl⟩ ⟨rfl, trivial⟩ rfl

def Slices_IndexFunc_int_v2_l1 (t1 : Int → Option Bool) (l1 : (List Int)) : Nat → Int → Option Int
  | 0, _ => none
  | k1 + 1, t3 => cnd (decide (t3 < ((l1.length : Nat) : Int))) (bnd (idx l1 t3) fun y4 => bnd (t1 y4) fun r5 => cnd r5 (some t3) (bnd (rng .i64 (t3 + 1)) fun i6 => (Slices_IndexFunc_int_v2_l1 t1 l1 k1) i6)) (some (-1))

def Slices_IndexFunc_int_v2_m (fu : Nat) (t1 : Int → Option Bool) (l1 : (List Int)) : Option Int := (Slices_IndexFunc_int_v2_l1 t1 l1) fu 0

set_option maxHeartbeats 10000000 in
set_option maxRecDepth 100000 in
theorem Slices_IndexFunc_int_i3_ok (fu : Nat) (l1 : (List Int)) (c2 : Forest) : ∀ r, Slices_IndexFunc_int_v2_m fu (fun (z1 : Int) => Shade_Elems_1_m fu z1 c2) l1 = some r → FC Try.prog 105 [.own 900000, .fn (.func 75) [] [.loc 900001 0]] [(900000, .arr 3 1 (l1.map cInt_i64)), (900001, .box [.sl 10 false (c2.Nodes.map cNode), .v (.int .i64 c2.Most)])] [900000, 900001] fun p S' => p = .v (.int .i64 r) ∧ S' = [(900000, .arr 3 1 (l1.map cInt_i64)), (900001, .box [.sl 10 false (c2.Nodes.map cNode), .v (.int .i64 c2.Most)])] := by
  intro r hr
  refine fc_intro (args := [.own 900000, .fn (.func 75) [] [.loc 900001 0]]) (S := [(900000, .arr 3 1 (l1.map cInt_i64)), (900001, .box [.sl 10 false (c2.Nodes.map cNode), .v (.int .i64 c2.Most)])]) (N0 := [900000, 900001]) (post := fun r p S => p = .v (.int .i64 r) ∧ S = [(900000, .arr 3 1 (l1.map cInt_i64)), (900001, .box [.sl 10 false (c2.Nodes.map cNode), .v (.int .i64 c2.Most)])]) Try.func105 rfl rfl hr fun w0 X X0 σ0 => ?_
  refine pw_seq ?_
  refine pw_region ?_
  refine po_evs (T := tab) 1 rfl rfl ?_
  refine po_nil ?_
  refine pn_seq ?_
  refine pw_seq ?_
  refine pw_seq ?_
  refine pw_region ?_
  refine po_evs (T := tab) 1 rfl rfl ?_
  refine po_len_own (T := tab) cInt_i64 l1 rfl rfl rfl rfl rfl rfl rfl rfl rfl ?_
  refine po_evs (T := tab) 1 rfl rfl ?_
  refine po_nil ?_
  refine pn_seq ?_
  refine pw_block ?_
  refine pw_loop' (Slices_IndexFunc_int_v2_l1 (fun (z1 : Int) => Shade_Elems_1_m fu z1 c2) l1) (fun (t3 : Int) => [(0, .own 900000), (1, .fn (.func 75) [] [.loc 900001 0]), (7, .v (.int .i64 ((l1.length : Nat) : Int))), (8, .v (.int .i64 t3))]) (fun (t3 : Int) => [(900000, .arr 3 1 (l1.map cInt_i64)), (900001, .box [.sl 10 false (c2.Nodes.map cNode), .v (.int .i64 c2.Most)])]) fu 0 (fun _ => rfl) ⟨rfl, rfl, rfl, rfl, trivial⟩ ⟨rfl, rfl, trivial⟩ rfl ?_
  rintro k1 t3
  refine pw_seq ?_
  refine pw_region ?_
  refine po_evs (T := tab) 1 rfl rfl ?_
  refine po_nil ?_
  refine pn_seq ?_
  refine pw_seq ?_
  refine pw_cnd rfl ?_ ?_
  · refine pw_skip ?_
    refine pn_seq ?_
    refine pw_seq ?_
    refine pw_block ?_
    refine pw_seq ?_
    refine pw_region ?_
    refine po_evs (T := tab) 2 rfl rfl ?_
    refine po_nil ?_
    refine pn_seq ?_
    refine pw_seq ?_
    refine pw_region ?_
    refine po_evs (T := tab) 3 rfl rfl ?_
    refine po_idx_own (T := tab) cInt_i64 l1 rfl rfl rfl rfl rfl rfl rfl rfl fun y4 hy4 => ?_
    refine po_load_ela (T := tab) cInt_i64 l1 y4 (idx_at hy4) rfl rfl rfl rfl rfl rfl rfl rfl ?_
    refine po_callv (enc := fun (r5 : Bool) => .v (.bool r5)) (first := []) (cap := [.loc 900001 0]) (qs := [.v (.int .i64 y4)]) (Sc := [(900001, .box [.sl 10 false (c2.Nodes.map cNode), .v (.int .i64 c2.Most)])]) (fun r5 hr5 => fc_ren [(900000, 900001)] [900000] (Shade_Elems_1_ok fu y4 c2 _ hr5) rfl rfl rfl rfl rfl rfl) (subS_of ⟨rfl, trivial⟩ rfl) rfl rfl rfl rfl ⟨⟨_, rfl, .rfl⟩, trivial⟩ (fun _ => rfl) call75 rfl rfl fun r5 hr5 => ?_
    refine po_nil ?_
    refine pn_seq ?_
    refine pw_cnd rfl ?_ ?_
    · refine pw_seq ?_
      refine pw_region ?_
      refine po_evs (T := tab) 2 rfl rfl ?_
      refine po_nil ?_
      refine pn_seq ?_
      exact pw_retN (T := tab) rfl rfl rfl ⟨rfl, rfl⟩ ⟨rfl, rfl, trivial⟩ rfl
    · refine pw_skip ?_
      refine pn_block ?_
      refine pn_seq ?_
      refine pw_region ?_
      refine po_arith' (T := tab) rfl rfl rfl rfl fun i6 hi6 => ?_
      refine po_evs (T := tab) 1 rfl rfl ?_
      refine po_nil ?_
      exact pn_iter' i6 ⟨rfl, rfl, rfl, rfl, trivial⟩ ⟨rfl, rfl, trivial⟩ rfl
  · refine pw_exit rfl ?_
    refine pn_seq ?_
    refine pw_seq ?_
    refine pw_region ?_
    refine po_evs (T := tab) 1 rfl rfl ?_
    refine po_nil ?_
    refine pn_seq ?_
    exact pw_retN (T := tab) rfl rfl rfl ⟨rfl, rfl⟩ ⟨rfl, rfl, trivial⟩ rfl

def Slices_DeleteFunc_int_l1 (t1 : Int → Option Bool) : Nat → Int × Int × (List Int) → Option (List Int)
  | 0, _ => none
  | k1 + 1, (i5, j6, l7) => cnd (decide (j6 < ((l7.length : Nat) : Int))) (bnd (idx l7 j6) fun y8 => bnd (t1 y8) fun r9 => cnd (!r9) (bnd (idx l7 i5) fun y10 => bnd (rng .i64 (i5 + 1)) fun i11 => bnd (rng .i64 (j6 + 1)) fun i12 => (Slices_DeleteFunc_int_l1 t1 k1) (i11, i12, (l7.set (i5).toNat y8))) (bnd (rng .i64 (j6 + 1)) fun i13 => (Slices_DeleteFunc_int_l1 t1 k1) (i5, i13, l7))) (bnd (tailz l7 i5 (0 : Int)) fun l14 => bnd (piece l14 0 i5) fun l15 => some l15)

def Slices_DeleteFunc_int_m (fu : Nat) (t1 : Int → Option Bool) (l1 : (List Int)) : Option (List Int) := bnd (Slices_IndexFunc_int_v2_m fu t1 l1) fun r3 => cnd (r3 == (-1)) (some l1) (bnd (rng .i64 (r3 + 1)) fun i4 => (Slices_DeleteFunc_int_l1 t1) fu (r3, i4, l1))

set_option maxHeartbeats 10000000 in
set_option maxRecDepth 100000 in
theorem Slices_DeleteFunc_int_ok (fu : Nat) (l1 : (List Int)) (c2 : Forest) : ∀ r, Slices_DeleteFunc_int_m fu (fun (z1 : Int) => Shade_Elems_1_m fu z1 c2) l1 = some r → FC Try.prog 74 [.own 900000, .fn (.func 75) [] [.loc 900001 0]] [(900000, .arr 3 1 (l1.map cInt_i64)), (900001, .box [.sl 10 false (c2.Nodes.map cNode), .v (.int .i64 c2.Most)])] [900001] fun p S' => p = .own 900000 ∧ S' = [(900000, .arr 3 1 (r.map cInt_i64)), (900001, .box [.sl 10 false (c2.Nodes.map cNode), .v (.int .i64 c2.Most)])] := by
  intro r hr
  refine fc_intro (args := [.own 900000, .fn (.func 75) [] [.loc 900001 0]]) (S := [(900000, .arr 3 1 (l1.map cInt_i64)), (900001, .box [.sl 10 false (c2.Nodes.map cNode), .v (.int .i64 c2.Most)])]) (N0 := [900001]) (post := fun r p S => p = .own 900000 ∧ S = [(900000, .arr 3 1 (r.map cInt_i64)), (900001, .box [.sl 10 false (c2.Nodes.map cNode), .v (.int .i64 c2.Most)])]) Try.func74 rfl rfl hr fun w0 X X0 σ0 => ?_
  refine pw_seq ?_
  refine pw_region ?_
  refine po_evs (T := tab) 1 rfl rfl ?_
  refine po_nil ?_
  refine pn_seq ?_
  refine pw_seq ?_
  refine pw_region ?_
  refine po_evs (T := tab) 2 rfl rfl ?_
  refine po_callv (enc := fun (r3 : Int) => .v (.int .i64 r3)) (first := []) (cap := []) (qs := [.own 900000, .fn (.func 75) [] [.loc 900001 0]]) (Sc := [(900000, .arr 3 1 (l1.map cInt_i64)), (900001, .box [.sl 10 false (c2.Nodes.map cNode), .v (.int .i64 c2.Most)])]) (fun r3 hr3 => fc_ren [(900000, 900000), (900001, 900001)] [900000, 900001] (Slices_IndexFunc_int_i3_ok fu l1 c2 _ hr3) rfl rfl rfl rfl rfl rfl) (subS_of ⟨rfl, rfl, trivial⟩ rfl) rfl rfl rfl rfl ⟨⟨_, rfl, .rfl⟩, ⟨_, rfl, .rfl⟩, trivial⟩ (fun _ => rfl) call105 rfl rfl fun r3 hr3 => ?_
  refine po_evs (T := tab) 1 rfl rfl ?_
  refine po_nil ?_
  refine pn_seq ?_
  refine pw_seq ?_
  refine pw_seq ?_
  refine pw_region ?_
  refine po_evs (T := tab) 2 rfl rfl ?_
  refine po_nil ?_
  refine pn_seq ?_
  refine pw_cnd rfl ?_ ?_
  · refine pw_seq ?_
    refine pw_region ?_
    refine po_evs (T := tab) 2 rfl rfl ?_
    refine po_nil ?_
    refine pn_seq ?_
    exact pw_retN (T := tab) rfl rfl rfl ⟨rfl, rfl⟩ ⟨rfl, rfl, trivial⟩ rfl
  · refine pw_skip ?_
    refine pn_seq ?_
    refine pw_seq ?_
    refine pw_seq ?_
    refine pw_region ?_
    refine po_evs (T := tab) 1 rfl rfl ?_
    refine po_arith' (T := tab) rfl rfl rfl rfl fun i4 hi4 => ?_
    refine po_evs (T := tab) 1 rfl rfl ?_
    refine po_nil ?_
    refine pn_seq ?_
    refine pw_block ?_
    refine pw_loop' (Slices_DeleteFunc_int_l1 (fun (z1 : Int) => Shade_Elems_1_m fu z1 c2)) (fun ((i5, j6, l7) : Int × Int × (List Int)) => [(0, .own 900000), (1, .fn (.func 75) [] [.loc 900001 0]), (5, .v (.int .i64 i5)), (6, .v (.int .i64 j6))]) (fun ((i5, j6, l7) : Int × Int × (List Int)) => [(900000, .arr 3 1 (l7.map cInt_i64)), (900001, .box [.sl 10 false (c2.Nodes.map cNode), .v (.int .i64 c2.Most)])]) fu (r3, i4, l1) (fun _ => rfl) ⟨rfl, rfl, rfl, rfl, trivial⟩ ⟨rfl, rfl, trivial⟩ rfl ?_
    rintro k1 ⟨i5, j6, l7⟩
    refine pw_seq ?_
    refine pw_seq ?_
    refine pw_region ?_
    refine po_evs (T := tab) 2 rfl rfl ?_
    refine po_len_own (T := tab) cInt_i64 l7 rfl rfl rfl rfl rfl rfl rfl rfl rfl ?_
    refine po_evs (T := tab) 1 rfl rfl ?_
    refine po_nil ?_
    refine pn_seq ?_
    refine pw_cnd rfl ?_ ?_
    · refine pw_skip ?_
      refine pn_seq ?_
      refine pw_seq ?_
      refine pw_block ?_
      refine pw_seq ?_
      refine pw_region ?_
      refine po_evs (T := tab) 2 rfl rfl ?_
      refine po_idx_own (T := tab) cInt_i64 l7 rfl rfl rfl rfl rfl rfl rfl rfl fun y8 hy8 => ?_
      refine po_load_ela (T := tab) cInt_i64 l7 y8 (idx_at hy8) rfl rfl rfl rfl rfl rfl rfl rfl ?_
      refine po_evs (T := tab) 1 rfl rfl ?_
      refine po_nil ?_
      refine pn_seq ?_
      refine pw_seq ?_
      refine pw_region ?_
      refine po_evs (T := tab) 2 rfl rfl ?_
      refine po_callv (enc := fun (r9 : Bool) => .v (.bool r9)) (first := []) (cap := [.loc 900001 0]) (qs := [.v (.int .i64 y8)]) (Sc := [(900001, .box [.sl 10 false (c2.Nodes.map cNode), .v (.int .i64 c2.Most)])]) (fun r9 hr9 => fc_ren [(900000, 900001)] [900000] (Shade_Elems_1_ok fu y8 c2 _ hr9) rfl rfl rfl rfl rfl rfl) (subS_of ⟨rfl, trivial⟩ rfl) rfl rfl rfl rfl ⟨⟨_, rfl, .rfl⟩, trivial⟩ (fun _ => rfl) call75 rfl rfl fun r9 hr9 => ?_
      refine po_evs (T := tab) 1 rfl rfl ?_
      refine po_nil ?_
      refine pn_seq ?_
      refine pw_cnd rfl ?_ ?_
      · refine pw_seq ?_
        refine pw_region ?_
        refine po_evs (T := tab) 3 rfl rfl ?_
        refine po_idx_own (T := tab) cInt_i64 l7 rfl rfl rfl rfl rfl rfl rfl rfl fun y10 hy10 => ?_
        refine po_store_ela (T := tab) cInt_i64 l7 y10 y8 (idx_at hy10) rfl rfl rfl rfl rfl rfl rfl rfl rfl rfl rfl rfl rfl ?_
        refine po_nil ?_
        refine pn_seq ?_
        refine pw_region ?_
        refine po_evs (T := tab) 1 rfl rfl ?_
        refine po_arith' (T := tab) rfl rfl rfl rfl fun i11 hi11 => ?_
        refine po_evs (T := tab) 1 rfl rfl ?_
        refine po_nil ?_
        refine pn_block ?_
        refine pn_seq ?_
        refine pw_region ?_
        refine po_evs (T := tab) 1 rfl rfl ?_
        refine po_arith' (T := tab) rfl rfl rfl rfl fun i12 hi12 => ?_
        refine po_evs (T := tab) 1 rfl rfl ?_
        refine po_nil ?_
        exact pn_iter' (i11, i12, (l7.set (i5).toNat y8)) ⟨rfl, rfl, rfl, rfl, trivial⟩ ⟨rfl, rfl, trivial⟩ rfl
      · refine pw_skip ?_
        refine pn_block ?_
        refine pn_seq ?_
        refine pw_region ?_
        refine po_evs (T := tab) 1 rfl rfl ?_
        refine po_arith' (T := tab) rfl rfl rfl rfl fun i13 hi13 => ?_
        refine po_evs (T := tab) 1 rfl rfl ?_
        refine po_nil ?_
        exact pn_iter' (i5, i13, l7) ⟨rfl, rfl, rfl, rfl, trivial⟩ ⟨rfl, rfl, trivial⟩ rfl
    · refine pw_exit rfl ?_
      refine pn_seq ?_
      refine pw_seq ?_
      refine pw_region ?_
      refine po_evs (T := tab) 2 rfl rfl ?_
      refine po_clear (T := tab) cInt_i64 l7 (0 : Int) (S' := fun l14 => [(900000, .arr 3 1 (l14.map cInt_i64)), (900001, .box [.sl 10 false (c2.Nodes.map cNode), .v (.int .i64 c2.Most)])]) rfl rfl rfl rfl rfl rfl rfl rfl rfl rfl rfl rfl rfl rfl rfl rfl rfl rfl (fun _ => rfl) fun l14 hl14 => ?_
      refine po_nil ?_
      refine pn_seq ?_
      refine pw_seq ?_
      refine pw_region ?_
      refine po_evs (T := tab) 2 rfl rfl ?_
      refine po_own_cut (T := tab) cInt_i64 l14 rfl rfl rfl rfl rfl rfl rfl rfl rfl rfl rfl fun l15 hl15 => ?_
      refine po_evs (T := tab) 1 rfl rfl ?_
      refine po_nil ?_
      refine pn_seq ?_
      exact pw_retN (T := tab) rfl rfl rfl ⟨rfl, rfl⟩ ⟨rfl, rfl, trivial⟩ rfl

def Shade_Elems_m (fu : Nat) (f1 : Forest) (n2 : Int) : Option (List Int) := bnd (Shade_All_m fu f1 n2) fun r3 => bnd (Slices_DeleteFunc_int_m fu (fun (z1 : Int) => Shade_Elems_1_m fu z1 f1) r3) fun r4 => some r4

set_option maxRecDepth 100000 in
theorem Shade_Elems_ok (fu : Nat) (f1 : Forest) (n2 : Int) : ∀ r, Shade_Elems_m fu f1 n2 = some r → DC Try.prog 42 [.agg (cForest f1), .v (.int .i64 n2)] (.sl 1 false (r.map cInt_i64)) := by
  intro r hr
  refine fc_intro (args := [.agg (cForest f1), .v (.int .i64 n2)]) (S := []) (N0 := []) (post := fun r p S => p = .sl 1 false (r.map cInt_i64) ∧ S = []) Try.func42 rfl rfl hr fun w0 X X0 σ0 => ?_
  refine pw_seq ?_
  refine pw_region ?_
  refine po_box  2 rfl rfl rfl rfl rfl rfl rfl rfl rfl rfl ?_
  refine po_evs (T := tab) 1 rfl rfl ?_
  refine po_nil ?_
  refine pn_seq ?_
  refine pw_seq ?_
  refine pw_region ?_
  refine po_evs (T := tab) 2 rfl rfl ?_
  refine po_turn [2070] (enc := fun (r3 : (List Int)) => .own 2070) (Sr := fun (r3 : (List Int)) => [(2070, .arr 3 1 (r3.map cInt_i64))]) (first := []) (cap := []) (qs := [.agg (cForest f1), .v (.int .i64 n2)]) (Sc := []) (N0 := []) (NR := [2070]) (fun r3 hr3 => fc_ren [(1035, 2070)] [1035] (Shade_All_ok fu f1 n2 _ hr3) rfl rfl rfl rfl rfl rfl) trivial (fun _ => rfl) rfl rfl rfl rfl rfl rfl rfl (fun _ => rfl) (fun _ => rfl) rfl rfl rfl ⟨⟨_, rfl, .rfl⟩, ⟨_, rfl, .rfl⟩, trivial⟩ call41 rfl rfl fun r3 hr3 => ?_
  refine po_evs (T := tab) 1 rfl rfl ?_
  refine po_turn [2070] (enc := fun (r4 : (List Int)) => .own 2070) (Sr := fun (r4 : (List Int)) => [(2070, .arr 3 1 (r4.map cInt_i64)), (2, .box [.sl 10 false (f1.Nodes.map cNode), .v (.int .i64 f1.Most)])]) (first := []) (cap := []) (qs := [.own 2070, .fn (.func 75) [] [.loc 2 0]]) (Sc := [(2070, .arr 3 1 (r3.map cInt_i64)), (2, .box [.sl 10 false (f1.Nodes.map cNode), .v (.int .i64 f1.Most)])]) (N0 := [2]) (NR := [2070, 2]) (fun r4 hr4 => fc_ren [(900000, 2070), (900001, 2)] [900000, 900001] (Slices_DeleteFunc_int_ok fu r3 f1 _ hr4) rfl rfl rfl rfl rfl rfl) ⟨rfl, rfl, trivial⟩ (fun _ => rfl) rfl rfl rfl rfl rfl rfl rfl (fun _ => rfl) (fun _ => rfl) rfl rfl rfl ⟨⟨_, rfl, .rfl⟩, ⟨_, rfl, .rfl⟩, trivial⟩ call74 rfl rfl fun r4 hr4 => ?_
  refine po_evs (T := tab) 1 rfl rfl ?_
  refine po_nil ?_
  refine pn_seq ?_
  refine pw_freeze 2070 rfl rfl rfl ?_
  exact pw_retN (T := tab) rfl rfl rfl ⟨rfl, rfl⟩ trivial rfl

def Instarlaw04_awake_m (fu : Nat) : Option Bool := bnd (Forest_New_m fu 5) fun r1 => bnd (Forest_Make_m fu r1.1 (⟨1, [100, 105, 118], [], [], [], 0, [], 0, 0, 0⟩ : Node)) fun r2 => bnd (Shade_Attach_m fu r2.1 r2.2.1) fun r3 => bnd (Shade_Attach_m fu r3.1 r2.2.1) fun r4 => bnd (Shade_All_m fu r3.1 r2.2.1) fun r5 => cnd (r1.2 == 0) (cnd (r2.2.2 == 0) (cnd (r3.2.2 == 0) (cnd (r3.2.1 == 2) (cnd (r4.2.2 == 10) (cnd (((r5.length : Nat) : Int) == 2) (bnd (idx r5 1) fun y6 => cnd (y6 == 2) (bnd (Shade_Top_m fu r3.1 r3.2.1) fun r7 => cnd (r7 == r2.2.1) (bnd (Shade_Connected_m fu r3.1 r3.2.1) fun r8 => cnd (!r8) (bnd (Shade_Connected_m fu r3.1 0) fun r9 => cnd r9 (bnd (Shade_Over_m fu r3.1 r2.2.1 r3.2.1) fun r10 => cnd r10 (bnd (Shade_Elems_m fu r3.1 r2.2.1) fun r11 => some (((r11.length : Nat) : Int) == 1)) (some false)) (some false)) (some false)) (some false)) (some false)) (some false)) (some false)) (some false)) (some false)) (some false)) (some false)

set_option maxHeartbeats 10000000 in
set_option maxRecDepth 100000 in
theorem Instarlaw04_awake_ok (fu : Nat) : ∀ r, Instarlaw04_awake_m fu = some r → DC Try.prog 37 [] (.v (.bool r)) := by
  intro r hr
  refine fc_intro (args := []) (S := []) (N0 := []) (post := fun r p S => p = .v (.bool r) ∧ S = []) Try.func37 rfl rfl hr fun w0 X X0 σ0 => ?_
  refine pw_seq ?_
  refine pw_region ?_
  refine po_evs (T := tab) 1 rfl rfl ?_
  refine po_nil ?_
  refine pn_seq ?_
  refine pw_seq ?_
  refine pw_region ?_
  refine po_call (enc := fun (r1 : (Forest × Int)) => .tup [.agg (cForest r1.1), .v (.int .i64 r1.2)]) (qs := [.v (.int .i64 5)]) (Forest_New_ok fu 5) rfl rfl ⟨⟨_, rfl, .rfl⟩, trivial⟩ (fun _ => rfl) call17 rfl rfl fun r1 hr1 => ?_
  refine po_evs (T := tab) 3 rfl rfl ?_
  refine po_alloc (T := tab) 1 rfl rfl rfl rfl rfl rfl rfl rfl rfl ?_
  refine po_store (T := tab) rfl rfl rfl rfl rfl rfl rfl rfl rfl rfl rfl rfl ?_
  refine po_evs (T := tab) 1 rfl rfl ?_
  refine po_nil ?_
  refine pn_seq ?_
  refine pw_seq ?_
  refine pw_region ?_
  refine po_evs (T := tab) 1 rfl rfl ?_
  refine po_build (T := tab) rfl rfl rfl rfl rfl rfl rfl ?_
  refine po_call (enc := fun (r2 : (Forest × Int × Int)) => .tup [.agg (cForest r2.1), .v (.int .i64 r2.2.1), .v (.int .i64 r2.2.2)]) (qs := [.agg (cForest r1.1), .agg (cNode (⟨1, [100, 105, 118], [], [], [], 0, [], 0, 0, 0⟩ : Node))]) (Forest_Make_ok fu r1.1 (⟨1, [100, 105, 118], [], [], [], 0, [], 0, 0, 0⟩ : Node)) rfl rfl ⟨⟨_, rfl, .rfl⟩, ⟨_, rfl, (.agg ⟨.rfl, .rfl, .rfl, .rfl, .nil, .rfl, .nil, .rfl, .rfl, .rfl, trivial⟩)⟩, trivial⟩ (fun _ => rfl) call18 rfl rfl fun r2 hr2 => ?_
  refine po_evs (T := tab) 4 rfl rfl ?_
  refine po_store (T := tab) rfl rfl rfl rfl rfl rfl rfl rfl rfl rfl rfl rfl ?_
  refine po_evs (T := tab) 2 rfl rfl ?_
  refine po_nil ?_
  refine pn_seq ?_
  refine pw_seq ?_
  refine pw_region ?_
  refine po_evs (T := tab) 2 rfl rfl ?_
  refine po_call (enc := fun (r3 : (Forest × Int × Int)) => .tup [.agg (cForest r3.1), .v (.int .i64 r3.2.1), .v (.int .i64 r3.2.2)]) (qs := [.agg (cForest r2.1), .v (.int .i64 r2.2.1)]) (Shade_Attach_ok fu r2.1 r2.2.1) rfl rfl ⟨⟨_, rfl, .rfl⟩, ⟨_, rfl, .rfl⟩, trivial⟩ (fun _ => rfl) call38 rfl rfl fun r3 hr3 => ?_
  refine po_evs (T := tab) 4 rfl rfl ?_
  refine po_store (T := tab) rfl rfl rfl rfl rfl rfl rfl rfl rfl rfl rfl rfl ?_
  refine po_evs (T := tab) 2 rfl rfl ?_
  refine po_nil ?_
  refine pn_seq ?_
  refine pw_seq ?_
  refine pw_region ?_
  refine po_evs (T := tab) 2 rfl rfl ?_
  refine po_call (enc := fun (r4 : (Forest × Int × Int)) => .tup [.agg (cForest r4.1), .v (.int .i64 r4.2.1), .v (.int .i64 r4.2.2)]) (qs := [.agg (cForest r3.1), .v (.int .i64 r2.2.1)]) (Shade_Attach_ok fu r3.1 r2.2.1) rfl rfl ⟨⟨_, rfl, .rfl⟩, ⟨_, rfl, .rfl⟩, trivial⟩ (fun _ => rfl) call38 rfl rfl fun r4 hr4 => ?_
  refine po_evs (T := tab) 4 rfl rfl ?_
  refine po_alloc (T := tab) 7 rfl rfl rfl rfl rfl rfl rfl rfl rfl ?_
  refine po_store (T := tab) rfl rfl rfl rfl rfl rfl rfl rfl rfl rfl rfl rfl ?_
  refine po_evs (T := tab) 2 rfl rfl ?_
  refine po_nil ?_
  refine pn_seq ?_
  refine pw_seq ?_
  refine pw_region ?_
  refine po_evs (T := tab) 2 rfl rfl ?_
  refine po_turn [2380] (enc := fun (r5 : (List Int)) => .own 2380) (Sr := fun (r5 : (List Int)) => [(2380, .arr 3 1 (r5.map cInt_i64))]) (first := []) (cap := []) (qs := [.agg (cForest r3.1), .v (.int .i64 r2.2.1)]) (Sc := []) (N0 := []) (NR := [2380]) (fun r5 hr5 => fc_ren [(1035, 2380)] [1035] (Shade_All_ok fu r3.1 r2.2.1 _ hr5) rfl rfl rfl rfl rfl rfl) trivial (fun _ => rfl) rfl rfl rfl rfl rfl rfl rfl (fun _ => rfl) (fun _ => rfl) rfl rfl rfl ⟨⟨_, rfl, .rfl⟩, ⟨_, rfl, .rfl⟩, trivial⟩ call41 rfl rfl fun r5 hr5 => ?_
  refine po_freeze 2380 rfl rfl rfl ?_
  refine po_evs (T := tab) 1 rfl rfl ?_
  refine po_nil ?_
  refine pn_seq ?_
  refine pw_seq ?_
  refine pw_region ?_
  refine po_evs (T := tab) 3 rfl rfl ?_
  refine po_split (j := 41) rfl ?_ ?_
  · refine po_evs (T := tab) 4 rfl rfl ?_
    refine po_split (j := 45) rfl ?_ ?_
    · refine po_evs (T := tab) 4 rfl rfl ?_
      refine po_split (j := 49) rfl ?_ ?_
      · refine po_evs (T := tab) 4 rfl rfl ?_
        refine po_split (j := 53) rfl ?_ ?_
        · refine po_evs (T := tab) 4 rfl rfl ?_
          refine po_split (j := 57) rfl ?_ ?_
          · refine po_evs (T := tab) 1 rfl rfl ?_
            refine po_len (T := tab) cInt_i64 r5 rfl rfl rfl rfl rfl rfl rfl rfl ?_
            refine po_evs (T := tab) 3 rfl rfl ?_
            refine po_split (j := 62) rfl ?_ ?_
            · refine po_evs (T := tab) 1 rfl rfl ?_
              refine po_idx (T := tab) cInt_i64 r5 rfl rfl rfl rfl rfl rfl rfl fun y6 hy6 => ?_
              refine po_evs (T := tab) 4 rfl rfl ?_
              refine po_split (j := 68) rfl ?_ ?_
              · refine po_evs (T := tab) 2 rfl rfl ?_
                refine po_call (enc := fun (r7 : Int) => .v (.int .i64 r7)) (qs := [.agg (cForest r3.1), .v (.int .i64 r3.2.1)]) (Shade_Top_ok fu r3.1 r3.2.1) rfl rfl ⟨⟨_, rfl, .rfl⟩, ⟨_, rfl, .rfl⟩, trivial⟩ (fun _ => rfl) call39 rfl rfl fun r7 hr7 => ?_
                refine po_evs (T := tab) 4 rfl rfl ?_
                refine po_split (j := 75) rfl ?_ ?_
                · refine po_evs (T := tab) 2 rfl rfl ?_
                  refine po_call (enc := fun (r8 : Bool) => .v (.bool r8)) (qs := [.agg (cForest r3.1), .v (.int .i64 r3.2.1)]) (Shade_Connected_ok fu r3.1 r3.2.1) rfl rfl ⟨⟨_, rfl, .rfl⟩, ⟨_, rfl, .rfl⟩, trivial⟩ (fun _ => rfl) call40 rfl rfl fun r8 hr8 => ?_
                  refine po_evs (T := tab) 3 rfl rfl ?_
                  refine po_split (j := 81) rfl ?_ ?_
                  · refine po_evs (T := tab) 1 rfl rfl ?_
                    refine po_call (enc := fun (r9 : Bool) => .v (.bool r9)) (qs := [.agg (cForest r3.1), .v (.int .i64 0)]) (Shade_Connected_ok fu r3.1 0) rfl rfl ⟨⟨_, rfl, .rfl⟩, ⟨_, rfl, .rfl⟩, trivial⟩ (fun _ => rfl) call40 rfl rfl fun r9 hr9 => ?_
                    refine po_evs (T := tab) 2 rfl rfl ?_
                    refine po_split (j := 85) rfl ?_ ?_
                    · refine po_evs (T := tab) 3 rfl rfl ?_
                      refine po_call (enc := fun (r10 : Bool) => .v (.bool r10)) (qs := [.agg (cForest r3.1), .v (.int .i64 r2.2.1), .v (.int .i64 r3.2.1)]) (Shade_Over_ok fu r3.1 r2.2.1 r3.2.1) rfl rfl ⟨⟨_, rfl, .rfl⟩, ⟨_, rfl, .rfl⟩, ⟨_, rfl, .rfl⟩, trivial⟩ (fun _ => rfl) call43 rfl rfl fun r10 hr10 => ?_
                      refine po_evs (T := tab) 2 rfl rfl ?_
                      refine po_split (j := 91) rfl ?_ ?_
                      · refine po_evs (T := tab) 2 rfl rfl ?_
                        refine po_call (enc := fun (r11 : (List Int)) => .sl 1 false (r11.map cInt_i64)) (qs := [.agg (cForest r3.1), .v (.int .i64 r2.2.1)]) (Shade_Elems_ok fu r3.1 r2.2.1) rfl rfl ⟨⟨_, rfl, .rfl⟩, ⟨_, rfl, .rfl⟩, trivial⟩ (fun _ => rfl) call42 rfl rfl fun r11 hr11 => ?_
                        refine po_len (T := tab) cInt_i64 r11 rfl rfl rfl rfl rfl rfl rfl rfl ?_
                        refine po_evs (T := tab) 3 rfl rfl ?_
                        refine po_nil ?_
                        refine pn_seq ?_
                        exact pw_retN (T := tab) rfl rfl rfl ⟨rfl, rfl⟩ trivial rfl
                      · refine po_evs (T := tab) 7 rfl rfl ?_
                        refine po_nil ?_
                        refine pn_seq ?_
                        exact pw_retN (T := tab) rfl rfl rfl ⟨rfl, rfl⟩ trivial rfl
                    · refine po_evs (T := tab) 13 rfl rfl ?_
                      refine po_nil ?_
                      refine pn_seq ?_
                      exact pw_retN (T := tab) rfl rfl rfl ⟨rfl, rfl⟩ trivial rfl
                  · refine po_evs (T := tab) 17 rfl rfl ?_
                    refine po_nil ?_
                    refine pn_seq ?_
                    exact pw_retN (T := tab) rfl rfl rfl ⟨rfl, rfl⟩ trivial rfl
                · refine po_evs (T := tab) 23 rfl rfl ?_
                  refine po_nil ?_
                  refine pn_seq ?_
                  exact pw_retN (T := tab) rfl rfl rfl ⟨rfl, rfl⟩ trivial rfl
              · refine po_evs (T := tab) 30 rfl rfl ?_
                refine po_nil ?_
                refine pn_seq ?_
                exact pw_retN (T := tab) rfl rfl rfl ⟨rfl, rfl⟩ trivial rfl
            · refine po_evs (T := tab) 36 rfl rfl ?_
              refine po_nil ?_
              refine pn_seq ?_
              exact pw_retN (T := tab) rfl rfl rfl ⟨rfl, rfl⟩ trivial rfl
          · refine po_evs (T := tab) 41 rfl rfl ?_
            refine po_nil ?_
            refine pn_seq ?_
            exact pw_retN (T := tab) rfl rfl rfl ⟨rfl, rfl⟩ trivial rfl
        · refine po_evs (T := tab) 45 rfl rfl ?_
          refine po_nil ?_
          refine pn_seq ?_
          exact pw_retN (T := tab) rfl rfl rfl ⟨rfl, rfl⟩ trivial rfl
      · refine po_evs (T := tab) 49 rfl rfl ?_
        refine po_nil ?_
        refine pn_seq ?_
        exact pw_retN (T := tab) rfl rfl rfl ⟨rfl, rfl⟩ trivial rfl
    · refine po_evs (T := tab) 53 rfl rfl ?_
      refine po_nil ?_
      refine pn_seq ?_
      exact pw_retN (T := tab) rfl rfl rfl ⟨rfl, rfl⟩ trivial rfl
  · refine po_evs (T := tab) 57 rfl rfl ?_
    refine po_nil ?_
    refine pn_seq ?_
    exact pw_retN (T := tab) rfl rfl rfl ⟨rfl, rfl⟩ trivial rfl

def Instarref04_Attach_j1 (fu : Nat) (f1 : Forest) (n2 : Int) (y3 : Node) (x_ : Unit) : Option (Forest × Int × Int) := cnd (y3.Under != (-1)) (some (f1, (-1), 10)) (cnd (decide (((f1.Nodes.length : Nat) : Int) ≥ f1.Most)) (some (f1, (-1), 8)) (bnd (Instarref03_Bare_m fu 4 y3.Doc) fun r6 => bnd (roomy 136 (([] : List Node).length + f1.Nodes.length)) fun _ => bnd (roomy 136 ((([] : List Node) ++ f1.Nodes).length + ([(⟨r6.Kind, r6.Name, r6.Is, r6.Data, r6.Attrs, r6.Parent, r6.Kids, n2, r6.Under, r6.Doc⟩ : Node)] : List Node).length)) fun _ => bnd (idx ((([] : List Node) ++ f1.Nodes) ++ [(⟨r6.Kind, r6.Name, r6.Is, r6.Data, r6.Attrs, r6.Parent, r6.Kids, n2, r6.Under, r6.Doc⟩ : Node)]) n2) fun y7 => some ((⟨(((([] : List Node) ++ f1.Nodes) ++ [(⟨r6.Kind, r6.Name, r6.Is, r6.Data, r6.Attrs, r6.Parent, r6.Kids, n2, r6.Under, r6.Doc⟩ : Node)]).set (n2).toNat (⟨y7.Kind, y7.Name, y7.Is, y7.Data, y7.Attrs, y7.Parent, y7.Kids, y7.Host, ((f1.Nodes.length : Nat) : Int), y7.Doc⟩ : Node)), f1.Most⟩ : Forest), ((f1.Nodes.length : Nat) : Int), 0)))

def Instarref04_Attach_m (fu : Nat) (f1 : Forest) (n2 : Int) : Option (Forest × Int × Int) := bnd (idx f1.Nodes n2) fun y3 => cnd (y3.Kind != 1) (some (f1, (-1), 5)) (bnd (Instarref01_Custom_m fu y3.Name) fun r4 => cnd (!r4) (bnd (Instarref01_One_m fu y3.Name [100, 105, 118, 32, 112, 32, 115, 112, 97, 110]) fun r5 => cnd (!r5) (some (f1, (-1), 5)) ((Instarref04_Attach_j1 fu f1 n2 y3) ())) ((Instarref04_Attach_j1 fu f1 n2 y3) ()))

set_option maxHeartbeats 10000000 in
set_option maxRecDepth 100000 in
theorem Instarref04_Attach_ok (fu : Nat) (f1 : Forest) (n2 : Int) : ∀ r, Instarref04_Attach_m fu f1 n2 = some r → DC Try.prog 44 [.agg (cForest f1), .v (.int .i64 n2)] (.tup [.agg (cForest r.1), .v (.int .i64 r.2.1), .v (.int .i64 r.2.2)]) := by
  intro r hr
  refine fc_intro (args := [.agg (cForest f1), .v (.int .i64 n2)]) (S := []) (N0 := []) (post := fun r p S => p = .tup [.agg (cForest r.1), .v (.int .i64 r.2.1), .v (.int .i64 r.2.2)] ∧ S = []) Try.func44 rfl rfl hr fun w0 X X0 σ0 => ?_
  refine pw_seq ?_
  refine pw_region ?_
  refine po_box  2 rfl rfl rfl rfl rfl rfl rfl rfl rfl rfl ?_
  refine po_alloc (T := tab) 4 rfl rfl rfl rfl rfl rfl rfl rfl rfl ?_
  refine po_evs (T := tab) 2 rfl rfl ?_
  refine po_nil ?_
  refine pn_seq ?_
  refine pw_seq ?_
  refine pw_region ?_
  refine po_evs (T := tab) 3 rfl rfl ?_
  refine po_idx (T := tab) cNode f1.Nodes rfl rfl rfl rfl rfl rfl rfl fun y3 hy3 => ?_
  refine po_evs (T := tab) 1 rfl rfl ?_
  refine po_alloc (T := tab) 7 rfl rfl rfl rfl rfl rfl rfl rfl rfl ?_
  refine po_store (T := tab) rfl rfl rfl rfl rfl rfl rfl rfl rfl rfl rfl rfl ?_
  refine po_nil ?_
  refine pn_seq ?_
  refine pw_seq ?_
  refine pw_seq ?_
  refine pw_region ?_
  refine po_joinB (Instarref04_Attach_j1 fu f1 n2 y3) (fun (_ : Unit) => [(1, .v (.int .i64 n2)), (2, .loc 2 0), (4, .loc 4 0), (7, .loc 7 0)]) (fun (_ : Unit) => [(7, .box [.v (.int .i64 y3.Kind), .v (.string ⟨⟨y3.Name⟩⟩), .v (.string ⟨⟨y3.Is⟩⟩), .v (.string ⟨⟨y3.Data⟩⟩), .sl 2 false (y3.Attrs.map cAttr), .v (.int .i64 y3.Parent), .sl 1 false (y3.Kids.map cInt_i64), .v (.int .i64 y3.Host), .v (.int .i64 y3.Under), .v (.int .i64 y3.Doc)]), (4, .box [.v (.slice none 0 0), .v (.int .i64 0)]), (2, .box [.sl 10 false (f1.Nodes.map cNode), .v (.int .i64 f1.Most)])]) ?_ fun hj1 => ?_
  · rintro _
    refine pn_seq ?_
    refine pw_seq ?_
    refine pw_seq ?_
    refine pw_region ?_
    refine po_evs (T := tab) 3 rfl rfl ?_
    refine po_nil ?_
    refine pn_seq ?_
    refine pw_cnd rfl ?_ ?_
    · refine pw_seq ?_
      refine pw_region ?_
      refine po_evs (T := tab) 1 rfl rfl ?_
      refine po_store (T := tab) rfl rfl rfl rfl rfl rfl rfl rfl rfl rfl rfl rfl ?_
      refine po_evs (T := tab) 2 rfl rfl ?_
      refine po_nil ?_
      refine pn_seq ?_
      exact pw_retN (T := tab) rfl rfl rfl ⟨rfl, rfl⟩ trivial rfl
    · refine pw_skip ?_
      refine pn_seq ?_
      refine pw_seq ?_
      refine pw_seq ?_
      refine pw_region ?_
      refine po_evs (T := tab) 2 rfl rfl ?_
      refine po_len (T := tab) cNode f1.Nodes rfl rfl rfl rfl rfl rfl rfl rfl ?_
      refine po_evs (T := tab) 3 rfl rfl ?_
      refine po_nil ?_
      refine pn_seq ?_
      refine pw_cnd rfl ?_ ?_
      · refine pw_seq ?_
        refine pw_region ?_
        refine po_evs (T := tab) 1 rfl rfl ?_
        refine po_store (T := tab) rfl rfl rfl rfl rfl rfl rfl rfl rfl rfl rfl rfl ?_
        refine po_evs (T := tab) 2 rfl rfl ?_
        refine po_nil ?_
        refine pn_seq ?_
        exact pw_retN (T := tab) rfl rfl rfl ⟨rfl, rfl⟩ trivial rfl
      · refine pw_skip ?_
        refine pn_seq ?_
        refine pw_seq ?_
        refine pw_region ?_
        refine po_evs (T := tab) 2 rfl rfl ?_
        refine po_call (enc := fun (r6 : Node) => .agg (cNode r6)) (qs := [.v (.int .i64 4), .v (.int .i64 y3.Doc)]) (Instarref03_Bare_ok fu 4 y3.Doc) rfl rfl ⟨⟨_, rfl, .rfl⟩, ⟨_, rfl, .rfl⟩, trivial⟩ (fun _ => rfl) call63 rfl rfl fun r6 hr6 => ?_
        refine po_alloc (T := tab) 8 rfl rfl rfl rfl rfl rfl rfl rfl rfl ?_
        refine po_store (T := tab) rfl rfl rfl rfl rfl rfl rfl rfl rfl rfl rfl rfl ?_
        refine po_nil ?_
        refine pn_seq ?_
        refine pw_seq ?_
        refine pw_region ?_
        refine po_evs (T := tab) 2 rfl rfl ?_
        refine po_store (T := tab) rfl rfl rfl rfl rfl rfl rfl rfl rfl rfl rfl rfl ?_
        refine po_nil ?_
        refine pn_seq ?_
        refine pw_seq ?_
        refine pw_sub' (E' := [(1, .v (.int .i64 n2)), (2, .loc 2 0), (4, .loc 4 0), (8, .loc 8 0)]) (S' := [(8, .box [.v (.int .i64 r6.Kind), .v (.string ⟨⟨r6.Name⟩⟩), .v (.string ⟨⟨r6.Is⟩⟩), .v (.string ⟨⟨r6.Data⟩⟩), .sl 2 false (r6.Attrs.map cAttr), .v (.int .i64 r6.Parent), .sl 1 false (r6.Kids.map cInt_i64), .v (.int .i64 n2), .v (.int .i64 r6.Under), .v (.int .i64 r6.Doc)]), (4, .box [.v (.slice none 0 0), .v (.int .i64 0)]), (2, .box [.sl 10 false (f1.Nodes.map cNode), .v (.int .i64 f1.Most)])]) ?_ ⟨rfl, rfl, rfl, rfl, trivial⟩ ⟨rfl, rfl, rfl, trivial⟩ rfl
        refine pw_drawV [0, 0, 2, 7, 0, 16, 63, 0, 128, 511, 0, 2047] mixed (by kernel_rfl) (by kernel_rfl) rfl rfl ?_
        refine pdv_step0 [] [94, 95] [47] [] [] [(47, .own 47)] [(47, .arr 28 10 (([] : List Node).map cNode))] rfl rfl rfl rfl (by kernel_rfl) (by kernel_rfl) (by kernel_rfl) trivial (fun w0 X X0 σ0 => by refine po_lit (T := tab) (rows := ([] : List Node).map cNode) 47 rfl rfl rfl rfl rfl rfl rfl rfl rfl rfl rfl rfl rfl rfl ?_; refine po_nil ?_; exact pn_end0 ⟨rfl, trivial⟩ ⟨rfl, trivial⟩ rfl) ?_
        refine pdv_step0 [4] [96] [] [2] [] [(48, .loc 2 0)] [] rfl rfl rfl rfl (by kernel_rfl) (by kernel_rfl) (by kernel_rfl) trivial (fun w0 X X0 σ0 => by refine po_evs (T := tab) 1 rfl rfl ?_; refine po_nil ?_; exact pn_end0 ⟨rfl, trivial⟩ trivial rfl) ?_
        refine pdv_step0 [5, 96] [98] [] [2] [2] [(49, .sl 10 false (f1.Nodes.map cNode))] [(2, .box [.sl 10 false (f1.Nodes.map cNode), .v (.int .i64 f1.Most)])] rfl rfl rfl rfl (by kernel_rfl) (by kernel_rfl) (by kernel_rfl) ⟨rfl, trivial⟩ (fun w0 X X0 σ0 => by refine po_evs (T := tab) 1 rfl rfl ?_; refine po_nil ?_; exact pn_end0 ⟨rfl, trivial⟩ ⟨rfl, trivial⟩ rfl) ?_
        refine pdv_step (M := (roomy 136 (([] : List Node).length + f1.Nodes.length))) (ment := [(100, [47]), (94, []), (95, [])]) [94, 95, 98] [100, 94, 95] [47] [] [] (fun _ => [(50, .own 47)]) (fun _ => [(47, .arr 28 10 ((([] : List Node) ++ f1.Nodes).map cNode))]) rfl rfl (fun _ => rfl) (fun _ => rfl) (by kernel_rfl) (by kernel_rfl) (fun _ => by kernel_rfl) (fun _ => trivial) (fun w0 X X0 σ0 => by refine po_append (T := tab) cNode ([] : List Node) f1.Nodes rfl rfl rfl rfl rfl rfl rfl rfl rfl rfl rfl rfl rfl rfl (cNode_one _) rfl rfl rfl rfl rfl ?_; refine po_nil ?_; exact pn_end ⟨rfl, trivial⟩ ⟨rfl, trivial⟩ rfl) fun _ h0 => ?_
        refine pdv_step0 [16, 17] [102] [] [8] [8] [(51, .agg [.v (.int .i64 r6.Kind), .v (.string ⟨⟨r6.Name⟩⟩), .v (.string ⟨⟨r6.Is⟩⟩), .v (.string ⟨⟨r6.Data⟩⟩), .sl 2 false (r6.Attrs.map cAttr), .v (.int .i64 r6.Parent), .sl 1 false (r6.Kids.map cInt_i64), .v (.int .i64 n2), .v (.int .i64 r6.Under), .v (.int .i64 r6.Doc)])] [(8, .box [.v (.int .i64 r6.Kind), .v (.string ⟨⟨r6.Name⟩⟩), .v (.string ⟨⟨r6.Is⟩⟩), .v (.string ⟨⟨r6.Data⟩⟩), .sl 2 false (r6.Attrs.map cAttr), .v (.int .i64 r6.Parent), .sl 1 false (r6.Kids.map cInt_i64), .v (.int .i64 n2), .v (.int .i64 r6.Under), .v (.int .i64 r6.Doc)])] rfl rfl rfl rfl (by kernel_rfl) (by kernel_rfl) (by kernel_rfl) ⟨rfl, trivial⟩ (fun w0 X X0 σ0 => by refine po_evs (T := tab) 1 rfl rfl ?_; refine po_nil ?_; exact pn_end0 ⟨rfl, trivial⟩ ⟨rfl, trivial⟩ rfl) ?_
        refine pdv_step0 [102] [104, 105] [52] [] [] [(52, .own 52)] [(52, .arr 28 10 ([(⟨r6.Kind, r6.Name, r6.Is, r6.Data, r6.Attrs, r6.Parent, r6.Kids, n2, r6.Under, r6.Doc⟩ : Node)].map cNode))] rfl rfl rfl rfl (by kernel_rfl) (by kernel_rfl) (by kernel_rfl) trivial (fun w0 X X0 σ0 => by refine po_lit (T := tab) (rows := [(⟨r6.Kind, r6.Name, r6.Is, r6.Data, r6.Attrs, r6.Parent, r6.Kids, n2, r6.Under, r6.Doc⟩ : Node)].map cNode) 52 rfl rfl rfl rfl rfl rfl rfl rfl rfl rfl rfl rfl rfl rfl ?_; refine po_nil ?_; exact pn_end0 ⟨rfl, trivial⟩ ⟨rfl, trivial⟩ rfl) ?_
        refine pdv_step (M := (roomy 136 ((([] : List Node) ++ f1.Nodes).length + ([(⟨r6.Kind, r6.Name, r6.Is, r6.Data, r6.Attrs, r6.Parent, r6.Kids, n2, r6.Under, r6.Doc⟩ : Node)] : List Node).length))) (ment := [(106, [47]), (100, []), (95, []), (94, [])]) [94, 95, 100, 104, 105] [106, 100, 95, 94] [47] [52] [52] (fun _ => [(53, .own 47)]) (fun _ => [(47, .arr 28 10 (((([] : List Node) ++ f1.Nodes) ++ [(⟨r6.Kind, r6.Name, r6.Is, r6.Data, r6.Attrs, r6.Parent, r6.Kids, n2, r6.Under, r6.Doc⟩ : Node)]).map cNode)), (52, .arr 28 10 ([(⟨r6.Kind, r6.Name, r6.Is, r6.Data, r6.Attrs, r6.Parent, r6.Kids, n2, r6.Under, r6.Doc⟩ : Node)].map cNode))]) rfl rfl (fun _ => rfl) (fun _ => rfl) (by kernel_rfl) (by kernel_rfl) (fun _ => by kernel_rfl) (fun _ => ⟨rfl, trivial⟩) (fun w0 X X0 σ0 => by refine po_append (T := tab) cNode (([] : List Node) ++ f1.Nodes) ([(⟨r6.Kind, r6.Name, r6.Is, r6.Data, r6.Attrs, r6.Parent, r6.Kids, n2, r6.Under, r6.Doc⟩ : Node)] : List Node) rfl rfl rfl rfl rfl rfl rfl rfl rfl rfl rfl rfl rfl rfl (cNode_one _) rfl rfl rfl rfl rfl ?_; refine po_nil ?_; exact pn_end ⟨rfl, trivial⟩ ⟨rfl, rfl, trivial⟩ rfl) fun _ h0 => ?_
        refine pdv_step0 [4] [108] [] [2] [] [(54, .loc 2 1)] [] rfl rfl rfl rfl (by kernel_rfl) (by kernel_rfl) (by kernel_rfl) trivial (fun w0 X X0 σ0 => by refine po_evs (T := tab) 1 rfl rfl ?_; refine po_nil ?_; exact pn_end0 ⟨rfl, trivial⟩ trivial rfl) ?_
        refine pdv_step0 [5, 108] [110] [] [2] [2] [(55, .v (.int .i64 f1.Most))] [(2, .box [.sl 10 false (f1.Nodes.map cNode), .v (.int .i64 f1.Most)])] rfl rfl rfl rfl (by kernel_rfl) (by kernel_rfl) (by kernel_rfl) ⟨rfl, trivial⟩ (fun w0 X X0 σ0 => by refine po_evs (T := tab) 1 rfl rfl ?_; refine po_nil ?_; exact pn_end0 ⟨rfl, trivial⟩ ⟨rfl, trivial⟩ rfl) ?_
        refine pdv_step0 [95, 106, 110] [112] [] [47] [47] [(56, .agg [.own 47, .v (.int .i64 f1.Most)])] [(47, .arr 28 10 (((([] : List Node) ++ f1.Nodes) ++ [(⟨r6.Kind, r6.Name, r6.Is, r6.Data, r6.Attrs, r6.Parent, r6.Kids, n2, r6.Under, r6.Doc⟩ : Node)]).map cNode))] rfl rfl rfl rfl (by kernel_rfl) (by kernel_rfl) (by kernel_rfl) ⟨rfl, trivial⟩ (fun w0 X X0 σ0 => by refine po_build (T := tab) rfl rfl rfl rfl rfl rfl rfl ?_; refine po_nil ?_; exact pn_end0 ⟨rfl, trivial⟩ ⟨rfl, trivial⟩ rfl) ?_
        refine pdv_step0 [] [18, 19] [9] [] [] [(9, .loc 9 0)] [(9, .box [.v (.slice none 0 0), .v (.int .i64 0)])] rfl rfl rfl rfl (by kernel_rfl) (by kernel_rfl) (by kernel_rfl) trivial (fun w0 X X0 σ0 => by refine po_alloc (T := tab) 9 rfl rfl rfl rfl rfl rfl rfl rfl rfl ?_; refine po_nil ?_; exact pn_end0 ⟨rfl, trivial⟩ ⟨rfl, trivial⟩ rfl) ?_
        refine pdv_step0 [18, 19, 95, 112] [19] [] [9, 47] [47] [] [(9, .box [.own 47, .v (.int .i64 f1.Most)]), (47, .arr 28 10 (((([] : List Node) ++ f1.Nodes) ++ [(⟨r6.Kind, r6.Name, r6.Is, r6.Data, r6.Attrs, r6.Parent, r6.Kids, n2, r6.Under, r6.Doc⟩ : Node)]).map cNode))] rfl rfl rfl rfl (by kernel_rfl) (by kernel_rfl) (by kernel_rfl) ⟨rfl, trivial⟩ (fun w0 X X0 σ0 => by refine po_store (T := tab) rfl rfl rfl rfl rfl rfl rfl rfl rfl rfl rfl rfl ?_; refine po_nil ?_; exact pn_end0 trivial ⟨rfl, rfl, trivial⟩ rfl) ?_
        refine pdv_nil rfl rfl ?_
        refine pn_seq ?_
        refine pw_seq ?_
        refine pw_region ?_
        refine po_evs (T := tab) 5 rfl rfl ?_
        refine po_len (T := tab) cNode f1.Nodes rfl rfl rfl rfl rfl rfl rfl rfl ?_
        refine po_idx_own (T := tab) cNode ((([] : List Node) ++ f1.Nodes) ++ [(⟨r6.Kind, r6.Name, r6.Is, r6.Data, r6.Attrs, r6.Parent, r6.Kids, n2, r6.Under, r6.Doc⟩ : Node)]) rfl rfl rfl rfl rfl rfl rfl rfl fun y7 hy7 => ?_
        refine po_evs (T := tab) 1 rfl rfl ?_
        refine po_store_ela (T := tab) cNode ((([] : List Node) ++ f1.Nodes) ++ [(⟨r6.Kind, r6.Name, r6.Is, r6.Data, r6.Attrs, r6.Parent, r6.Kids, n2, r6.Under, r6.Doc⟩ : Node)]) y7 (⟨y7.Kind, y7.Name, y7.Is, y7.Data, y7.Attrs, y7.Parent, y7.Kids, y7.Host, ((f1.Nodes.length : Nat) : Int), y7.Doc⟩ : Node) (idx_at hy7) rfl rfl rfl rfl rfl rfl rfl rfl rfl rfl rfl rfl rfl ?_
        refine po_nil ?_
        refine pn_seq ?_
        refine pw_seq ?_
        refine pw_sub' (E' := [(2, .loc 2 0), (4, .loc 4 0), (9, .loc 9 0)]) (S' := [(9, .box [.own 47, .v (.int .i64 f1.Most)]), (47, .arr 28 10 ((((([] : List Node) ++ f1.Nodes) ++ [(⟨r6.Kind, r6.Name, r6.Is, r6.Data, r6.Attrs, r6.Parent, r6.Kids, n2, r6.Under, r6.Doc⟩ : Node)]).set (n2).toNat (⟨y7.Kind, y7.Name, y7.Is, y7.Data, y7.Attrs, y7.Parent, y7.Kids, y7.Host, ((f1.Nodes.length : Nat) : Int), y7.Doc⟩ : Node)).map cNode)), (4, .box [.v (.slice none 0 0), .v (.int .i64 0)]), (2, .box [.sl 10 false (f1.Nodes.map cNode), .v (.int .i64 f1.Most)])]) ?_ ⟨rfl, rfl, rfl, trivial⟩ ⟨rfl, rfl, rfl, rfl, trivial⟩ rfl
        refine pw_drawV [0, 0, 2, 6, 1, 31, 63] mixed (by kernel_rfl) (by kernel_rfl) rfl rfl ?_
        refine pdv_step0 [18, 19] [130] [] [9, 47] [9] [(65, .agg [.own 47, .v (.int .i64 f1.Most)])] [(9, .box [.own 47, .v (.int .i64 f1.Most)])] rfl rfl rfl rfl (by kernel_rfl) (by kernel_rfl) (by kernel_rfl) ⟨rfl, trivial⟩ (fun w0 X X0 σ0 => by refine po_evs (T := tab) 1 rfl rfl ?_; refine po_nil ?_; exact pn_end0 ⟨rfl, trivial⟩ ⟨rfl, trivial⟩ rfl) ?_
        refine pdv_step0 [4] [132] [] [2] [] [(66, .loc 2 0)] [] rfl rfl rfl rfl (by kernel_rfl) (by kernel_rfl) (by kernel_rfl) trivial (fun w0 X X0 σ0 => by refine po_evs (T := tab) 1 rfl rfl ?_; refine po_nil ?_; exact pn_end0 ⟨rfl, trivial⟩ trivial rfl) ?_
        refine pdv_step0 [5, 132] [134] [] [2] [2] [(67, .sl 10 false (f1.Nodes.map cNode))] [(2, .box [.sl 10 false (f1.Nodes.map cNode), .v (.int .i64 f1.Most)])] rfl rfl rfl rfl (by kernel_rfl) (by kernel_rfl) (by kernel_rfl) ⟨rfl, trivial⟩ (fun w0 X X0 σ0 => by refine po_evs (T := tab) 1 rfl rfl ?_; refine po_nil ?_; exact pn_end0 ⟨rfl, trivial⟩ ⟨rfl, trivial⟩ rfl) ?_
        refine pdv_step0 [134] [136] [] [] [] [(68, .v (.int .i64 ((f1.Nodes.length : Nat) : Int)))] [] rfl rfl rfl rfl (by kernel_rfl) (by kernel_rfl) (by kernel_rfl) trivial (fun w0 X X0 σ0 => by refine po_len (T := tab) cNode f1.Nodes rfl rfl rfl rfl rfl rfl rfl rfl ?_; refine po_nil ?_; exact pn_end0 ⟨rfl, trivial⟩ trivial rfl) ?_
        refine pdv_step0 [8, 9, 95, 130] [9] [] [4, 47] [47] [] [(4, .box [.own 47, .v (.int .i64 f1.Most)]), (47, .arr 28 10 ((((([] : List Node) ++ f1.Nodes) ++ [(⟨r6.Kind, r6.Name, r6.Is, r6.Data, r6.Attrs, r6.Parent, r6.Kids, n2, r6.Under, r6.Doc⟩ : Node)]).set (n2).toNat (⟨y7.Kind, y7.Name, y7.Is, y7.Data, y7.Attrs, y7.Parent, y7.Kids, y7.Host, ((f1.Nodes.length : Nat) : Int), y7.Doc⟩ : Node)).map cNode))] rfl rfl rfl rfl (by kernel_rfl) (by kernel_rfl) (by kernel_rfl) ⟨rfl, trivial⟩ (fun w0 X X0 σ0 => by refine po_store (T := tab) rfl rfl rfl rfl rfl rfl rfl rfl rfl rfl rfl rfl ?_; refine po_nil ?_; exact pn_end0 trivial ⟨rfl, rfl, trivial⟩ rfl) ?_
        refine pdv_step0 [136] [10] [] [] [] [(5, .v (.int .i64 ((f1.Nodes.length : Nat) : Int)))] [] rfl rfl rfl rfl (by kernel_rfl) (by kernel_rfl) (by kernel_rfl) trivial (fun w0 X X0 σ0 => by refine po_evs (T := tab) 1 rfl rfl ?_; refine po_nil ?_; exact pn_end0 ⟨rfl, trivial⟩ trivial rfl) ?_
        refine pdv_step0 [] [12] [] [] [] [(6, .v (.int .i64 0))] [] rfl rfl rfl rfl (by kernel_rfl) (by kernel_rfl) (by kernel_rfl) trivial (fun w0 X X0 σ0 => by refine po_evs (T := tab) 1 rfl rfl ?_; refine po_nil ?_; exact pn_end0 ⟨rfl, trivial⟩ trivial rfl) ?_
        refine pdv_nil rfl rfl ?_
        refine pn_seq ?_
        refine pw_freeze 47 rfl rfl rfl ?_
        exact pw_retN (T := tab) rfl rfl rfl ⟨rfl, rfl⟩ trivial rfl
  · refine po_evs (T := tab) 4 rfl rfl ?_
    refine po_split (j := 18) rfl ?_ ?_
    · refine po_evs (T := tab) 11 rfl rfl ?_
      refine po_nil ?_
      refine pn_seq (pw_then rfl ?_)
      refine pw_seq ?_
      refine pw_region ?_
      refine po_evs (T := tab) 1 rfl rfl ?_
      refine po_store (T := tab) rfl rfl rfl rfl rfl rfl rfl rfl rfl rfl rfl rfl ?_
      refine po_evs (T := tab) 2 rfl rfl ?_
      refine po_nil ?_
      refine pn_seq ?_
      exact pw_retN (T := tab) rfl rfl rfl ⟨rfl, rfl⟩ trivial rfl
    · refine po_evs (T := tab) 2 rfl rfl ?_
      refine po_call (enc := fun (r4 : Bool) => .v (.bool r4)) (qs := [.v (.string ⟨⟨y3.Name⟩⟩)]) (Instarref01_Custom_ok fu y3.Name) rfl rfl ⟨⟨_, rfl, .rfl⟩, trivial⟩ (fun _ => rfl) call76 rfl rfl fun r4 hr4 => ?_
      refine po_evs (T := tab) 2 rfl rfl ?_
      refine po_split (j := 23) rfl ?_ ?_
      · refine po_evs (T := tab) 2 rfl rfl ?_
        refine po_call (enc := fun (r5 : Bool) => .v (.bool r5)) (qs := [.v (.string ⟨⟨y3.Name⟩⟩), .v (.string ⟨⟨[100, 105, 118, 32, 112, 32, 115, 112, 97, 110]⟩⟩)]) (Instarref01_One_ok fu y3.Name [100, 105, 118, 32, 112, 32, 115, 112, 97, 110]) rfl rfl ⟨⟨_, rfl, .rfl⟩, ⟨_, rfl, .rfl⟩, trivial⟩ (fun _ => rfl) call77 rfl rfl fun r5 hr5 => ?_
        refine po_evs (T := tab) 3 rfl rfl ?_
        refine po_nil ?_
        refine pn_seq ?_
        refine pw_cnd rfl ?_ ?_
        · refine pw_seq ?_
          refine pw_region ?_
          refine po_evs (T := tab) 1 rfl rfl ?_
          refine po_store (T := tab) rfl rfl rfl rfl rfl rfl rfl rfl rfl rfl rfl rfl ?_
          refine po_evs (T := tab) 2 rfl rfl ?_
          refine po_nil ?_
          refine pn_seq ?_
          exact pw_retN (T := tab) rfl rfl rfl ⟨rfl, rfl⟩ trivial rfl
        · refine pw_skip ?_
          exact pn_sub' (hj1 ()) ⟨rfl, rfl, rfl, rfl, trivial⟩ ⟨rfl, rfl, rfl, trivial⟩ rfl
      · refine po_evs (T := tab) 6 rfl rfl ?_
        refine po_nil ?_
        refine pn_seq (pw_else rfl ?_)
        refine pw_skip ?_
        exact pn_sub' (hj1 ()) ⟨rfl, rfl, rfl, rfl, trivial⟩ ⟨rfl, rfl, rfl, trivial⟩ rfl

def Instarref04_Top_m : Nat → Forest → Int → Option Int
  | 0, _, _ => none
  | fu + 1, f1, n2 => bnd (idx f1.Nodes n2) fun y3 => cnd (y3.Parent != (-1)) (bnd (idx f1.Nodes n2) fun y4 => bnd ((Instarref04_Top_m fu) f1 y4.Parent) fun r5 => some r5) (bnd (idx f1.Nodes n2) fun y6 => cnd (y6.Host != (-1)) (bnd (idx f1.Nodes n2) fun y7 => bnd ((Instarref04_Top_m fu) f1 y7.Host) fun r8 => some r8) (some n2))

set_option maxHeartbeats 10000000 in
set_option maxRecDepth 100000 in
theorem Instarref04_Top_ok : ∀ (fu : Nat) (f1 : Forest) (n2 : Int) r, Instarref04_Top_m fu f1 n2 = some r → DC Try.prog 45 [.agg (cForest f1), .v (.int .i64 n2)] (.v (.int .i64 r))
  | 0, _, _, _, h => by cases h
  | fu + 1, f1, n2, r, hr => by
    have ih := Instarref04_Top_ok fu
    refine fc_intro (args := [.agg (cForest f1), .v (.int .i64 n2)]) (S := []) (N0 := []) (post := fun r p S => p = .v (.int .i64 r) ∧ S = []) Try.func45 rfl rfl hr fun w0 X X0 σ0 => ?_
    refine pw_seq ?_
    refine pw_region ?_
    refine po_box  2 rfl rfl rfl rfl rfl rfl rfl rfl rfl rfl ?_
    refine po_evs (T := tab) 1 rfl rfl ?_
    refine po_nil ?_
    refine pn_seq ?_
    refine pw_seq ?_
    refine pw_seq ?_
    refine pw_region ?_
    refine po_evs (T := tab) 3 rfl rfl ?_
    refine po_idx (T := tab) cNode f1.Nodes rfl rfl rfl rfl rfl rfl rfl fun y3 hy3 => ?_
    refine po_evs (T := tab) 3 rfl rfl ?_
    refine po_nil ?_
    refine pn_seq ?_
    refine pw_cnd rfl ?_ ?_
    · refine pw_seq ?_
      refine pw_draw mixed (by kernel_rfl) ?_
      refine pd_evs (T := tab) 4 rfl rfl ?_
      refine pd_idx (T := tab) cNode f1.Nodes rfl rfl rfl rfl rfl rfl rfl fun y4 hy4 => ?_
      refine pd_evs (T := tab) 2 rfl rfl ?_
      refine pd_call (enc := fun (r5 : Int) => .v (.int .i64 r5)) (qs := [.agg (cForest f1), .v (.int .i64 y4.Parent)]) (ih f1 y4.Parent) rfl rfl ⟨⟨_, rfl, .rfl⟩, ⟨_, rfl, .rfl⟩, trivial⟩ (fun _ => rfl) call45 rfl rfl fun r5 hr5 => ?_
      refine pd_evs (T := tab) 1 rfl rfl ?_
      refine pd_nil ?_
      refine pn_seq ?_
      exact pw_retN (T := tab) rfl rfl rfl ⟨rfl, rfl⟩ trivial rfl
    · refine pw_skip ?_
      refine pn_seq ?_
      refine pw_seq ?_
      refine pw_seq ?_
      refine pw_region ?_
      refine po_evs (T := tab) 3 rfl rfl ?_
      refine po_idx (T := tab) cNode f1.Nodes rfl rfl rfl rfl rfl rfl rfl fun y6 hy6 => ?_
      refine po_evs (T := tab) 3 rfl rfl ?_
      refine po_nil ?_
      refine pn_seq ?_
      refine pw_cnd rfl ?_ ?_
      · refine pw_seq ?_
        refine pw_draw mixed (by kernel_rfl) ?_
        refine pd_evs (T := tab) 4 rfl rfl ?_
        refine pd_idx (T := tab) cNode f1.Nodes rfl rfl rfl rfl rfl rfl rfl fun y7 hy7 => ?_
        refine pd_evs (T := tab) 2 rfl rfl ?_
        refine pd_call (enc := fun (r8 : Int) => .v (.int .i64 r8)) (qs := [.agg (cForest f1), .v (.int .i64 y7.Host)]) (ih f1 y7.Host) rfl rfl ⟨⟨_, rfl, .rfl⟩, ⟨_, rfl, .rfl⟩, trivial⟩ (fun _ => rfl) call45 rfl rfl fun r8 hr8 => ?_
        refine pd_evs (T := tab) 1 rfl rfl ?_
        refine pd_nil ?_
        refine pn_seq ?_
        exact pw_retN (T := tab) rfl rfl rfl ⟨rfl, rfl⟩ trivial rfl
      · refine pw_skip ?_
        refine pn_seq ?_
        refine pw_seq ?_
        refine pw_region ?_
        refine po_evs (T := tab) 2 rfl rfl ?_
        refine po_nil ?_
        refine pn_seq ?_
        exact pw_retN (T := tab) rfl rfl rfl ⟨rfl, rfl⟩ trivial rfl

def Instarref04_Connected_m (fu : Nat) (f1 : Forest) (n2 : Int) : Option Bool := bnd (Instarref04_Top_m fu f1 n2) fun r3 => bnd (idx f1.Nodes r3) fun y4 => some (y4.Kind == 0)

set_option maxRecDepth 100000 in
theorem Instarref04_Connected_ok (fu : Nat) (f1 : Forest) (n2 : Int) : ∀ r, Instarref04_Connected_m fu f1 n2 = some r → DC Try.prog 46 [.agg (cForest f1), .v (.int .i64 n2)] (.v (.bool r)) := by
  intro r hr
  refine fc_intro (args := [.agg (cForest f1), .v (.int .i64 n2)]) (S := []) (N0 := []) (post := fun r p S => p = .v (.bool r) ∧ S = []) Try.func46 rfl rfl hr fun w0 X X0 σ0 => ?_
  refine pw_seq ?_
  refine pw_region ?_
  refine po_box  2 rfl rfl rfl rfl rfl rfl rfl rfl rfl rfl ?_
  refine po_evs (T := tab) 1 rfl rfl ?_
  refine po_nil ?_
  refine pn_seq ?_
  refine pw_seq ?_
  refine pw_draw mixed (by kernel_rfl) ?_
  refine pd_evs (T := tab) 4 rfl rfl ?_
  refine pd_call (enc := fun (r3 : Int) => .v (.int .i64 r3)) (qs := [.agg (cForest f1), .v (.int .i64 n2)]) (Instarref04_Top_ok fu f1 n2) rfl rfl ⟨⟨_, rfl, .rfl⟩, ⟨_, rfl, .rfl⟩, trivial⟩ (fun _ => rfl) call45 rfl rfl fun r3 hr3 => ?_
  refine pd_idx (T := tab) cNode f1.Nodes rfl rfl rfl rfl rfl rfl rfl fun y4 hy4 => ?_
  refine pd_evs (T := tab) 4 rfl rfl ?_
  refine pd_nil ?_
  refine pn_seq ?_
  exact pw_retN (T := tab) rfl rfl rfl ⟨rfl, rfl⟩ trivial rfl

def Instarref04_All_l1 (sf : Forest → Int → Option (List Int)) (f1 : Forest) (n2 : Int) : Nat → Int × (List Int) → Option (List Int)
  | 0, _ => none
  | k1 + 1, (i7, l8) => bnd (idx f1.Nodes n2) fun y9 => cnd (decide (i7 < ((y9.Kids.length : Nat) : Int))) (bnd (idx f1.Nodes n2) fun y10 => bnd (idx y10.Kids i7) fun y11 => bnd (sf f1 y11) fun r12 => bnd (roomy 8 (l8.length + r12.length)) fun _ => bnd (rng .i64 (i7 + 1)) fun i13 => (Instarref04_All_l1 sf f1 n2 k1) (i13, (l8 ++ r12))) (some l8)

def Instarref04_All_j1 (sf : Forest → Int → Option (List Int)) (fu : Nat) (f1 : Forest) (n2 : Int) (l6 : (List Int)) : Option (List Int) := (Instarref04_All_l1 sf f1 n2) fu (0, l6)

def Instarref04_All_m : Nat → Forest → Int → Option (List Int)
  | 0, _, _ => none
  | fu + 1, f1, n2 => bnd (idx f1.Nodes n2) fun y3 => cnd (y3.Under != (-1)) (bnd (idx f1.Nodes n2) fun y4 => bnd ((Instarref04_All_m fu) f1 y4.Under) fun r5 => bnd (roomy 8 (([n2] : List Int).length + r5.length)) fun _ => (Instarref04_All_j1 (Instarref04_All_m fu) fu f1 n2) ([n2] ++ r5)) ((Instarref04_All_j1 (Instarref04_All_m fu) fu f1 n2) [n2])

set_option maxHeartbeats 10000000 in
set_option maxRecDepth 100000 in
theorem Instarref04_All_ok : ∀ (fu : Nat) (f1 : Forest) (n2 : Int) r, Instarref04_All_m fu f1 n2 = some r → DC Try.prog 47 [.agg (cForest f1), .v (.int .i64 n2)] (.sl 1 false (r.map cInt_i64))
  | 0, _, _, _, h => by cases h
  | fu + 1, f1, n2, r, hr => by
    have ih := Instarref04_All_ok fu
    refine fc_intro (args := [.agg (cForest f1), .v (.int .i64 n2)]) (S := []) (N0 := []) (post := fun r p S => p = .sl 1 false (r.map cInt_i64) ∧ S = []) Try.func47 rfl rfl hr fun w0 X X0 σ0 => ?_
    refine pw_seq ?_
    refine pw_region ?_
    refine po_box  2 rfl rfl rfl rfl rfl rfl rfl rfl rfl rfl ?_
    refine po_evs (T := tab) 1 rfl rfl ?_
    refine po_nil ?_
    refine pn_seq ?_
    refine pw_seq ?_
    refine pw_region ?_
    refine po_evs (T := tab) 1 rfl rfl ?_
    refine po_lit (T := tab) (rows := [n2].map cInt_i64) 8 rfl rfl rfl rfl rfl rfl rfl rfl rfl rfl rfl rfl rfl rfl ?_
    refine po_evs (T := tab) 1 rfl rfl ?_
    refine po_nil ?_
    refine pn_seq ?_
    refine pw_seq ?_
    refine pw_seq ?_
    refine pw_region ?_
    refine po_evs (T := tab) 3 rfl rfl ?_
    refine po_idx (T := tab) cNode f1.Nodes rfl rfl rfl rfl rfl rfl rfl fun y3 hy3 => ?_
    refine po_evs (T := tab) 3 rfl rfl ?_
    refine po_nil ?_
    refine pn_seq ?_
    refine pw_joinK (Instarref04_All_j1 (Instarref04_All_m fu) fu f1 n2) (fun (l6 : (List Int)) => [(1, .v (.int .i64 n2)), (2, .loc 2 0), (5, .own 8)]) (fun (l6 : (List Int)) => [(8, .arr 3 1 (l6.map cInt_i64)), (2, .box [.sl 10 false (f1.Nodes.map cNode), .v (.int .i64 f1.Most)])]) ?_ fun hj1 => ?_
    · rintro l6
      refine pn_seq ?_
      refine pw_seq ?_
      refine pw_seq ?_
      refine pw_region ?_
      refine po_evs (T := tab) 1 rfl rfl ?_
      refine po_nil ?_
      refine pn_seq ?_
      refine pw_block ?_
      refine pw_loop' (Instarref04_All_l1 (Instarref04_All_m fu) f1 n2) (fun ((i7, l8) : Int × (List Int)) => [(1, .v (.int .i64 n2)), (2, .loc 2 0), (5, .own 8), (6, .v (.int .i64 i7))]) (fun ((i7, l8) : Int × (List Int)) => [(8, .arr 3 1 (l8.map cInt_i64)), (2, .box [.sl 10 false (f1.Nodes.map cNode), .v (.int .i64 f1.Most)])]) fu (0, l6) (fun _ => rfl) ⟨rfl, rfl, rfl, rfl, trivial⟩ ⟨rfl, rfl, trivial⟩ rfl ?_
      rintro k1 ⟨i7, l8⟩
      refine pw_seq ?_
      refine pw_seq ?_
      refine pw_region ?_
      refine po_evs (T := tab) 4 rfl rfl ?_
      refine po_idx (T := tab) cNode f1.Nodes rfl rfl rfl rfl rfl rfl rfl fun y9 hy9 => ?_
      refine po_evs (T := tab) 2 rfl rfl ?_
      refine po_len (T := tab) cInt_i64 y9.Kids rfl rfl rfl rfl rfl rfl rfl rfl ?_
      refine po_evs (T := tab) 1 rfl rfl ?_
      refine po_nil ?_
      refine pn_seq ?_
      refine pw_cnd rfl ?_ ?_
      · refine pw_skip ?_
        refine pn_seq ?_
        refine pw_seq ?_
        refine pw_block ?_
        refine pw_sub' (E' := [(1, .v (.int .i64 n2)), (2, .loc 2 0), (5, .own 8), (6, .v (.int .i64 i7))]) (S' := [(8, .arr 3 1 (l8.map cInt_i64)), (2, .box [.sl 10 false (f1.Nodes.map cNode), .v (.int .i64 f1.Most)])]) ?_ ⟨rfl, rfl, rfl, rfl, trivial⟩ ⟨rfl, rfl, trivial⟩ rfl
        refine pw_drawV [0, 0, 0, 4, 0, 28, 60, 124, 0, 508, 1020, 2046, 4095, 8191] mixed (by kernel_rfl) (by kernel_rfl) rfl rfl ?_
        refine pdv_step0 [10] [74] [] [8] [] [(37, .own 8)] [] rfl rfl rfl rfl (by kernel_rfl) (by kernel_rfl) (by kernel_rfl) trivial (fun w0 X X0 σ0 => by refine po_evs (T := tab) 1 rfl rfl ?_; refine po_nil ?_; exact pn_end0 ⟨rfl, trivial⟩ trivial rfl) ?_
        refine pdv_step0 [4, 5] [76] [] [2] [2] [(38, .agg (cForest f1))] [(2, .box [.sl 10 false (f1.Nodes.map cNode), .v (.int .i64 f1.Most)])] rfl rfl rfl rfl (by kernel_rfl) (by kernel_rfl) (by kernel_rfl) ⟨rfl, trivial⟩ (fun w0 X X0 σ0 => by refine po_evs (T := tab) 1 rfl rfl ?_; refine po_nil ?_; exact pn_end0 ⟨rfl, trivial⟩ ⟨rfl, trivial⟩ rfl) ?_
        refine pdv_step0 [4] [78] [] [2] [] [(39, .loc 2 0)] [] rfl rfl rfl rfl (by kernel_rfl) (by kernel_rfl) (by kernel_rfl) trivial (fun w0 X X0 σ0 => by refine po_evs (T := tab) 1 rfl rfl ?_; refine po_nil ?_; exact pn_end0 ⟨rfl, trivial⟩ trivial rfl) ?_
        refine pdv_step0 [5, 78] [80] [] [2] [2] [(40, .sl 10 false (f1.Nodes.map cNode))] [(2, .box [.sl 10 false (f1.Nodes.map cNode), .v (.int .i64 f1.Most)])] rfl rfl rfl rfl (by kernel_rfl) (by kernel_rfl) (by kernel_rfl) ⟨rfl, trivial⟩ (fun w0 X X0 σ0 => by refine po_evs (T := tab) 1 rfl rfl ?_; refine po_nil ?_; exact pn_end0 ⟨rfl, trivial⟩ ⟨rfl, trivial⟩ rfl) ?_
        refine pdv_step0 [2] [82] [] [] [] [(41, .v (.int .i64 n2))] [] rfl rfl rfl rfl (by kernel_rfl) (by kernel_rfl) (by kernel_rfl) trivial (fun w0 X X0 σ0 => by refine po_evs (T := tab) 1 rfl rfl ?_; refine po_nil ?_; exact pn_end0 ⟨rfl, trivial⟩ trivial rfl) ?_
        refine pdv_step (M := (idx f1.Nodes n2)) (ment := [(84, [])]) [80, 82] [84] [] [] [] (fun y10 => [(42, .el (cNode y10) 0)]) (fun y10 => []) rfl rfl (fun _ => rfl) (fun _ => rfl) (by kernel_rfl) (by kernel_rfl) (fun _ => by kernel_rfl) (fun _ => trivial) (fun w0 X X0 σ0 => by refine po_idx (T := tab) cNode f1.Nodes rfl rfl rfl rfl rfl rfl rfl fun y10 hy10 => ?_; refine po_nil ?_; exact pn_end ⟨rfl, trivial⟩ trivial rfl) fun y10 hy10 => ?_
        refine pdv_step0 [84] [86] [] [] [] [(43, .el (cNode y10) 6)] [] rfl rfl rfl rfl (by kernel_rfl) (by kernel_rfl) (by kernel_rfl) trivial (fun w0 X X0 σ0 => by refine po_evs (T := tab) 1 rfl rfl ?_; refine po_nil ?_; exact pn_end0 ⟨rfl, trivial⟩ trivial rfl) ?_
        refine pdv_step0 [86] [88] [] [] [] [(44, .sl 1 false (y10.Kids.map cInt_i64))] [] rfl rfl rfl rfl (by kernel_rfl) (by kernel_rfl) (by kernel_rfl) trivial (fun w0 X X0 σ0 => by refine po_evs (T := tab) 1 rfl rfl ?_; refine po_nil ?_; exact pn_end0 ⟨rfl, trivial⟩ trivial rfl) ?_
        refine pdv_step0 [12] [90] [] [] [] [(45, .v (.int .i64 i7))] [] rfl rfl rfl rfl (by kernel_rfl) (by kernel_rfl) (by kernel_rfl) trivial (fun w0 X X0 σ0 => by refine po_evs (T := tab) 1 rfl rfl ?_; refine po_nil ?_; exact pn_end0 ⟨rfl, trivial⟩ trivial rfl) ?_
        refine pdv_step (M := (idx y10.Kids i7)) (ment := [(92, [])]) [88, 90] [92] [] [] [] (fun y11 => [(46, .el (cInt_i64 y11) 0)]) (fun y11 => []) rfl rfl (fun _ => rfl) (fun _ => rfl) (by kernel_rfl) (by kernel_rfl) (fun _ => by kernel_rfl) (fun _ => trivial) (fun w0 X X0 σ0 => by refine po_idx (T := tab) cInt_i64 y10.Kids rfl rfl rfl rfl rfl rfl rfl fun y11 hy11 => ?_; refine po_nil ?_; exact pn_end ⟨rfl, trivial⟩ trivial rfl) fun y11 hy11 => ?_
        refine pdv_step0 [92] [94] [] [] [] [(47, .v (.int .i64 y11))] [] rfl rfl rfl rfl (by kernel_rfl) (by kernel_rfl) (by kernel_rfl) trivial (fun w0 X X0 σ0 => by refine po_evs (T := tab) 1 rfl rfl ?_; refine po_nil ?_; exact pn_end0 ⟨rfl, trivial⟩ trivial rfl) ?_
        refine pdv_step (M := ((Instarref04_All_m fu) f1 y11)) (ment := [(96, [])]) [76, 94] [96] [] [] [] (fun r12 => [(48, .sl 1 false (r12.map cInt_i64))]) (fun r12 => []) rfl rfl (fun _ => rfl) (fun _ => rfl) (by kernel_rfl) (by kernel_rfl) (fun _ => by kernel_rfl) (fun _ => trivial) (fun w0 X X0 σ0 => by refine po_call (enc := fun (r12 : (List Int)) => .sl 1 false (r12.map cInt_i64)) (qs := [.agg (cForest f1), .v (.int .i64 y11)]) (ih f1 y11) rfl rfl ⟨⟨_, rfl, .rfl⟩, ⟨_, rfl, .rfl⟩, trivial⟩ (fun _ => rfl) call47 rfl rfl fun r12 hr12 => ?_; refine po_nil ?_; exact pn_end ⟨rfl, trivial⟩ trivial rfl) fun r12 hr12 => ?_
        refine pdv_step (M := (roomy 8 (l8.length + r12.length))) (ment := [(98, [8]), (10, []), (74, []), (17, [])]) [10, 17, 74, 96] [98, 10, 74, 17] [8] [] [] (fun _ => [(49, .own 8)]) (fun _ => [(8, .arr 3 1 ((l8 ++ r12).map cInt_i64))]) rfl rfl (fun _ => rfl) (fun _ => rfl) (by kernel_rfl) (by kernel_rfl) (fun _ => by kernel_rfl) (fun _ => trivial) (fun w0 X X0 σ0 => by refine po_append (T := tab) cInt_i64 l8 r12 rfl rfl rfl rfl rfl rfl rfl rfl rfl rfl rfl rfl rfl rfl (cInt_i64_one _) rfl rfl rfl rfl rfl ?_; refine po_nil ?_; exact pn_end ⟨rfl, trivial⟩ ⟨rfl, trivial⟩ rfl) fun _ h0 => ?_
        refine pdv_step0 [98] [10] [] [8] [] [(5, .own 8)] [] rfl rfl rfl rfl (by kernel_rfl) (by kernel_rfl) (by kernel_rfl) trivial (fun w0 X X0 σ0 => by refine po_evs (T := tab) 1 rfl rfl ?_; refine po_nil ?_; exact pn_end0 ⟨rfl, trivial⟩ trivial rfl) ?_
        refine pdv_nil rfl rfl ?_
        refine pn_block ?_
        refine pn_seq ?_
        refine pw_region ?_
        refine po_evs (T := tab) 1 rfl rfl ?_
        refine po_arith' (T := tab) rfl rfl rfl rfl fun i13 hi13 => ?_
        refine po_evs (T := tab) 1 rfl rfl ?_
        refine po_nil ?_
        exact pn_iter' (i13, (l8 ++ r12)) ⟨rfl, rfl, rfl, rfl, trivial⟩ ⟨rfl, rfl, trivial⟩ rfl
      · refine pw_exit rfl ?_
        refine pn_seq ?_
        refine pw_seq ?_
        refine pw_region ?_
        refine po_evs (T := tab) 2 rfl rfl ?_
        refine po_nil ?_
        refine pn_seq ?_
        refine pw_freeze 8 rfl rfl rfl ?_
        exact pw_retN (T := tab) rfl rfl rfl ⟨rfl, rfl⟩ trivial rfl
    · refine pw_cnd rfl ?_ ?_
      · refine pw_sub' (E' := [(1, .v (.int .i64 n2)), (2, .loc 2 0), (5, .own 8)]) (S' := [(8, .arr 3 1 ([n2].map cInt_i64)), (2, .box [.sl 10 false (f1.Nodes.map cNode), .v (.int .i64 f1.Most)])]) ?_ ⟨rfl, rfl, rfl, trivial⟩ ⟨rfl, rfl, trivial⟩ rfl
        refine pw_drawV [0, 0, 0, 4, 0, 28, 60, 124, 254, 511, 1023] mixed (by kernel_rfl) (by kernel_rfl) rfl rfl ?_
        refine pdv_step0 [10] [32] [] [8] [] [(16, .own 8)] [] rfl rfl rfl rfl (by kernel_rfl) (by kernel_rfl) (by kernel_rfl) trivial (fun w0 X X0 σ0 => by refine po_evs (T := tab) 1 rfl rfl ?_; refine po_nil ?_; exact pn_end0 ⟨rfl, trivial⟩ trivial rfl) ?_
        refine pdv_step0 [4, 5] [34] [] [2] [2] [(17, .agg (cForest f1))] [(2, .box [.sl 10 false (f1.Nodes.map cNode), .v (.int .i64 f1.Most)])] rfl rfl rfl rfl (by kernel_rfl) (by kernel_rfl) (by kernel_rfl) ⟨rfl, trivial⟩ (fun w0 X X0 σ0 => by refine po_evs (T := tab) 1 rfl rfl ?_; refine po_nil ?_; exact pn_end0 ⟨rfl, trivial⟩ ⟨rfl, trivial⟩ rfl) ?_
        refine pdv_step0 [4] [36] [] [2] [] [(18, .loc 2 0)] [] rfl rfl rfl rfl (by kernel_rfl) (by kernel_rfl) (by kernel_rfl) trivial (fun w0 X X0 σ0 => by refine po_evs (T := tab) 1 rfl rfl ?_; refine po_nil ?_; exact pn_end0 ⟨rfl, trivial⟩ trivial rfl) ?_
        refine pdv_step0 [5, 36] [38] [] [2] [2] [(19, .sl 10 false (f1.Nodes.map cNode))] [(2, .box [.sl 10 false (f1.Nodes.map cNode), .v (.int .i64 f1.Most)])] rfl rfl rfl rfl (by kernel_rfl) (by kernel_rfl) (by kernel_rfl) ⟨rfl, trivial⟩ (fun w0 X X0 σ0 => by refine po_evs (T := tab) 1 rfl rfl ?_; refine po_nil ?_; exact pn_end0 ⟨rfl, trivial⟩ ⟨rfl, trivial⟩ rfl) ?_
        refine pdv_step0 [2] [40] [] [] [] [(20, .v (.int .i64 n2))] [] rfl rfl rfl rfl (by kernel_rfl) (by kernel_rfl) (by kernel_rfl) trivial (fun w0 X X0 σ0 => by refine po_evs (T := tab) 1 rfl rfl ?_; refine po_nil ?_; exact pn_end0 ⟨rfl, trivial⟩ trivial rfl) ?_
        refine pdv_step (M := (idx f1.Nodes n2)) (ment := [(42, [])]) [38, 40] [42] [] [] [] (fun y4 => [(21, .el (cNode y4) 0)]) (fun y4 => []) rfl rfl (fun _ => rfl) (fun _ => rfl) (by kernel_rfl) (by kernel_rfl) (fun _ => by kernel_rfl) (fun _ => trivial) (fun w0 X X0 σ0 => by refine po_idx (T := tab) cNode f1.Nodes rfl rfl rfl rfl rfl rfl rfl fun y4 hy4 => ?_; refine po_nil ?_; exact pn_end ⟨rfl, trivial⟩ trivial rfl) fun y4 hy4 => ?_
        refine pdv_step0 [42] [44] [] [] [] [(22, .el (cNode y4) 8)] [] rfl rfl rfl rfl (by kernel_rfl) (by kernel_rfl) (by kernel_rfl) trivial (fun w0 X X0 σ0 => by refine po_evs (T := tab) 1 rfl rfl ?_; refine po_nil ?_; exact pn_end0 ⟨rfl, trivial⟩ trivial rfl) ?_
        refine pdv_step0 [44] [46] [] [] [] [(23, .v (.int .i64 y4.Under))] [] rfl rfl rfl rfl (by kernel_rfl) (by kernel_rfl) (by kernel_rfl) trivial (fun w0 X X0 σ0 => by refine po_evs (T := tab) 1 rfl rfl ?_; refine po_nil ?_; exact pn_end0 ⟨rfl, trivial⟩ trivial rfl) ?_
        refine pdv_step (M := ((Instarref04_All_m fu) f1 y4.Under)) (ment := [(48, [])]) [34, 46] [48] [] [] [] (fun r5 => [(24, .sl 1 false (r5.map cInt_i64))]) (fun r5 => []) rfl rfl (fun _ => rfl) (fun _ => rfl) (by kernel_rfl) (by kernel_rfl) (fun _ => by kernel_rfl) (fun _ => trivial) (fun w0 X X0 σ0 => by refine po_call (enc := fun (r5 : (List Int)) => .sl 1 false (r5.map cInt_i64)) (qs := [.agg (cForest f1), .v (.int .i64 y4.Under)]) (ih f1 y4.Under) rfl rfl ⟨⟨_, rfl, .rfl⟩, ⟨_, rfl, .rfl⟩, trivial⟩ (fun _ => rfl) call47 rfl rfl fun r5 hr5 => ?_; refine po_nil ?_; exact pn_end ⟨rfl, trivial⟩ trivial rfl) fun r5 hr5 => ?_
        refine pdv_step (M := (roomy 8 (([n2] : List Int).length + r5.length))) (ment := [(50, [8]), (10, []), (32, []), (17, [])]) [10, 17, 32, 48] [50, 10, 32, 17] [8] [] [] (fun _ => [(25, .own 8)]) (fun _ => [(8, .arr 3 1 (([n2] ++ r5).map cInt_i64))]) rfl rfl (fun _ => rfl) (fun _ => rfl) (by kernel_rfl) (by kernel_rfl) (fun _ => by kernel_rfl) (fun _ => trivial) (fun w0 X X0 σ0 => by refine po_append (T := tab) cInt_i64 ([n2] : List Int) r5 rfl rfl rfl rfl rfl rfl rfl rfl rfl rfl rfl rfl rfl rfl (cInt_i64_one _) rfl rfl rfl rfl rfl ?_; refine po_nil ?_; exact pn_end ⟨rfl, trivial⟩ ⟨rfl, trivial⟩ rfl) fun _ h0 => ?_
        refine pdv_step0 [50] [10] [] [8] [] [(5, .own 8)] [] rfl rfl rfl rfl (by kernel_rfl) (by kernel_rfl) (by kernel_rfl) trivial (fun w0 X X0 σ0 => by refine po_evs (T := tab) 1 rfl rfl ?_; refine po_nil ?_; exact pn_end0 ⟨rfl, trivial⟩ trivial rfl) ?_
        refine pdv_nil rfl rfl ?_
        exact pn_sub' (hj1 ([n2] ++ r5)) ⟨rfl, rfl, rfl, trivial⟩ ⟨rfl, rfl, trivial⟩ rfl
      · refine pw_skip ?_
        exact pn_sub' (hj1 [n2]) ⟨rfl, rfl, rfl, trivial⟩ ⟨rfl, rfl, trivial⟩ rfl

def Instarref04_Elems_l1 (f1 : Forest) (r3 : (List Int)) : Nat → Int × (List Int) → Option (List Int)
  | 0, _ => none
  | k1 + 1, (i4, l5) => cnd (decide (i4 < ((r3.length : Nat) : Int))) (bnd (idx r3 i4) fun y6 => bnd (idx f1.Nodes y6) fun y7 => cnd (y7.Kind == 1) (bnd (idx r3 i4) fun y8 => bnd (roomy 8 (l5.length + ([y8] : List Int).length)) fun _ => bnd (rng .i64 (i4 + 1)) fun i9 => (Instarref04_Elems_l1 f1 r3 k1) (i9, (l5 ++ [y8]))) (bnd (rng .i64 (i4 + 1)) fun i10 => (Instarref04_Elems_l1 f1 r3 k1) (i10, l5))) (some l5)

def Instarref04_Elems_m (fu : Nat) (f1 : Forest) (n2 : Int) : Option (List Int) := bnd (Instarref04_All_m fu f1 n2) fun r3 => (Instarref04_Elems_l1 f1 r3) fu (0, [])

set_option maxHeartbeats 10000000 in
set_option maxRecDepth 100000 in
theorem Instarref04_Elems_ok (fu : Nat) (f1 : Forest) (n2 : Int) : ∀ r, Instarref04_Elems_m fu f1 n2 = some r → DC Try.prog 48 [.agg (cForest f1), .v (.int .i64 n2)] (.sl 1 false (r.map cInt_i64)) := by
  intro r hr
  refine fc_intro (args := [.agg (cForest f1), .v (.int .i64 n2)]) (S := []) (N0 := []) (post := fun r p S => p = .sl 1 false (r.map cInt_i64) ∧ S = []) Try.func48 rfl rfl hr fun w0 X X0 σ0 => ?_
  refine pw_seq ?_
  refine pw_region ?_
  refine po_box  2 rfl rfl rfl rfl rfl rfl rfl rfl rfl rfl ?_
  refine po_evs (T := tab) 1 rfl rfl ?_
  refine po_nil ?_
  refine pn_seq ?_
  refine pw_seq ?_
  refine pw_region ?_
  refine po_evs (T := tab) 1 rfl rfl ?_
  refine po_nil ?_
  refine pn_seq ?_
  refine pw_seq ?_
  refine pw_region ?_
  refine po_evs (T := tab) 2 rfl rfl ?_
  refine po_call (enc := fun (r3 : (List Int)) => .sl 1 false (r3.map cInt_i64)) (qs := [.agg (cForest f1), .v (.int .i64 n2)]) (Instarref04_All_ok fu f1 n2) rfl rfl ⟨⟨_, rfl, .rfl⟩, ⟨_, rfl, .rfl⟩, trivial⟩ (fun _ => rfl) call47 rfl rfl fun r3 hr3 => ?_
  refine po_evs (T := tab) 1 rfl rfl ?_
  refine po_nil ?_
  refine pn_seq ?_
  refine pw_seq ?_
  refine pw_seq ?_
  refine pw_region ?_
  refine po_evs (T := tab) 1 rfl rfl ?_
  refine po_nil ?_
  refine pn_seq ?_
  refine pw_block ?_
  refine pw_own_nil 1033 3 1 5 rfl rfl rfl rfl ?_
  refine pw_loop' (Instarref04_Elems_l1 f1 r3) (fun ((i4, l5) : Int × (List Int)) => [(2, .loc 2 0), (5, .own 1033), (6, .sl 1 false (r3.map cInt_i64)), (7, .v (.int .i64 i4))]) (fun ((i4, l5) : Int × (List Int)) => [(1033, .arr 3 1 (l5.map cInt_i64)), (2, .box [.sl 10 false (f1.Nodes.map cNode), .v (.int .i64 f1.Most)])]) fu (0, []) (fun _ => rfl) ⟨rfl, rfl, rfl, rfl, trivial⟩ ⟨rfl, rfl, trivial⟩ rfl ?_
  rintro k1 ⟨i4, l5⟩
  refine pw_seq ?_
  refine pw_seq ?_
  refine pw_region ?_
  refine po_evs (T := tab) 2 rfl rfl ?_
  refine po_len (T := tab) cInt_i64 r3 rfl rfl rfl rfl rfl rfl rfl rfl ?_
  refine po_evs (T := tab) 1 rfl rfl ?_
  refine po_nil ?_
  refine pn_seq ?_
  refine pw_cnd rfl ?_ ?_
  · refine pw_skip ?_
    refine pn_seq ?_
    refine pw_seq ?_
    refine pw_block ?_
    refine pw_seq ?_
    refine pw_draw mixed (by kernel_rfl) ?_
    refine pd_evs (T := tab) 4 rfl rfl ?_
    refine pd_idx (T := tab) cInt_i64 r3 rfl rfl rfl rfl rfl rfl rfl fun y6 hy6 => ?_
    refine pd_evs (T := tab) 1 rfl rfl ?_
    refine pd_idx (T := tab) cNode f1.Nodes rfl rfl rfl rfl rfl rfl rfl fun y7 hy7 => ?_
    refine pd_evs (T := tab) 3 rfl rfl ?_
    refine pd_nil ?_
    refine pn_seq ?_
    refine pw_cnd rfl ?_ ?_
    · refine pw_region ?_
      refine po_evs (T := tab) 3 rfl rfl ?_
      refine po_idx (T := tab) cInt_i64 r3 rfl rfl rfl rfl rfl rfl rfl fun y8 hy8 => ?_
      refine po_evs (T := tab) 1 rfl rfl ?_
      refine po_lit (T := tab) (rows := [y8].map cInt_i64) 32 rfl rfl rfl rfl rfl rfl rfl rfl rfl rfl rfl rfl rfl rfl ?_
      refine po_append (T := tab) cInt_i64 l5 ([y8] : List Int) rfl rfl rfl rfl rfl rfl rfl rfl rfl rfl rfl rfl rfl rfl (cInt_i64_one _) rfl rfl rfl rfl rfl ?_
      refine po_evs (T := tab) 1 rfl rfl ?_
      refine po_nil ?_
      refine pn_block ?_
      refine pn_seq ?_
      refine pw_region ?_
      refine po_evs (T := tab) 1 rfl rfl ?_
      refine po_arith' (T := tab) rfl rfl rfl rfl fun i9 hi9 => ?_
      refine po_evs (T := tab) 1 rfl rfl ?_
      refine po_nil ?_
      exact pn_iter' (i9, (l5 ++ [y8])) ⟨rfl, rfl, rfl, rfl, trivial⟩ ⟨rfl, rfl, trivial⟩ rfl
    · refine pw_skip ?_
      refine pn_block ?_
      refine pn_seq ?_
      refine pw_region ?_
      refine po_evs (T := tab) 1 rfl rfl ?_
      refine po_arith' (T := tab) rfl rfl rfl rfl fun i10 hi10 => ?_
      refine po_evs (T := tab) 1 rfl rfl ?_
      refine po_nil ?_
      exact pn_iter' (i10, l5) ⟨rfl, rfl, rfl, rfl, trivial⟩ ⟨rfl, rfl, trivial⟩ rfl
  · refine pw_exit rfl ?_
    refine pn_seq ?_
    refine pw_seq ?_
    refine pw_region ?_
    refine po_evs (T := tab) 2 rfl rfl ?_
    refine po_nil ?_
    refine pn_seq ?_
    refine pw_freeze 1033 rfl rfl rfl ?_
    exact pw_retN (T := tab) rfl rfl rfl ⟨rfl, rfl⟩ trivial rfl

def Instarref04_Over_m (fu : Nat) (f1 : Forest) (a2 : Int) (b3 : Int) : Option Bool := bnd (Instarref04_All_m fu f1 a2) fun r4 => bnd (Instarref03_Has_m fu r4 b3) fun r5 => some (decide (r5 > 0))

set_option maxRecDepth 100000 in
theorem Instarref04_Over_ok (fu : Nat) (f1 : Forest) (a2 : Int) (b3 : Int) : ∀ r, Instarref04_Over_m fu f1 a2 b3 = some r → DC Try.prog 49 [.agg (cForest f1), .v (.int .i64 a2), .v (.int .i64 b3)] (.v (.bool r)) := by
  intro r hr
  refine fc_intro (args := [.agg (cForest f1), .v (.int .i64 a2), .v (.int .i64 b3)]) (S := []) (N0 := []) (post := fun r p S => p = .v (.bool r) ∧ S = []) Try.func49 rfl rfl hr fun w0 X X0 σ0 => ?_
  refine pw_seq ?_
  refine pw_region ?_
  refine po_box  3 rfl rfl rfl rfl rfl rfl rfl rfl rfl rfl ?_
  refine po_evs (T := tab) 1 rfl rfl ?_
  refine po_nil ?_
  refine pn_seq ?_
  refine pw_seq ?_
  refine pw_region ?_
  refine po_evs (T := tab) 2 rfl rfl ?_
  refine po_call (enc := fun (r4 : (List Int)) => .sl 1 false (r4.map cInt_i64)) (qs := [.agg (cForest f1), .v (.int .i64 a2)]) (Instarref04_All_ok fu f1 a2) rfl rfl ⟨⟨_, rfl, .rfl⟩, ⟨_, rfl, .rfl⟩, trivial⟩ (fun _ => rfl) call47 rfl rfl fun r4 hr4 => ?_
  refine po_evs (T := tab) 1 rfl rfl ?_
  refine po_call (enc := fun (r5 : Int) => .v (.int .i64 r5)) (qs := [.sl 1 false (r4.map cInt_i64), .v (.int .i64 b3)]) (Instarref03_Has_ok fu r4 b3) rfl rfl ⟨⟨_, rfl, .rfl⟩, ⟨_, rfl, .rfl⟩, trivial⟩ (fun _ => rfl) call34 rfl rfl fun r5 hr5 => ?_
  refine po_evs (T := tab) 2 rfl rfl ?_
  refine po_nil ?_
  refine pn_seq ?_
  exact pw_retN (T := tab) rfl rfl rfl ⟨rfl, rfl⟩ trivial rfl

def Instarlaw04_ShadeRight_j1 (fu : Nat) (f1 : Forest) (a2 : Int) (b3 : Int) (r6 : (Forest × Int × Int)) (x_ : Unit) : Option Bool := cnd (r6.2.2 == 1) (cnd (r6.2.1 == (-1)) (bnd (Instarref03_Same_m fu r6.1 f1) fun r8 => cnd r8 (bnd (Shade_Top_m fu f1 a2) fun r9 => cnd (r9 == (-1)) (bnd (Shade_Connected_m fu f1 a2) fun r10 => cnd (!r10) (bnd (Shade_All_m fu f1 a2) fun r11 => cnd (((r11.length : Nat) : Int) == 0) (bnd (Shade_Elems_m fu f1 a2) fun r12 => cnd (((r12.length : Nat) : Int) == 0) (bnd (Shade_Over_m fu f1 a2 b3) fun r13 => cnd (!r13) (bnd (Shade_Over_m fu f1 b3 a2) fun r14 => some (!r14)) (some false)) (some false)) (some false)) (some false)) (some false)) (some false)) (some false)) (some false)

def Instarlaw04_ShadeRight_m (fu : Nat) (f1 : Forest) (a2 : Int) (b3 : Int) : Option Bool := bnd (Instarlaw04_awake_m fu) fun r4 => cnd (!r4) (some false) (bnd (Instarref03_Short_m fu f1) fun r5 => cnd (!r5) (some true) (bnd (Shade_Attach_m fu f1 a2) fun r6 => bnd (Instarref03_Right_m fu f1) fun r7 => cnd (!r7) ((Instarlaw04_ShadeRight_j1 fu f1 a2 b3 r6) ()) (cnd (decide (a2 < 0)) ((Instarlaw04_ShadeRight_j1 fu f1 a2 b3 r6) ()) (cnd (decide (a2 ≥ ((f1.Nodes.length : Nat) : Int))) ((Instarlaw04_ShadeRight_j1 fu f1 a2 b3 r6) ()) (bnd (Instarref04_Attach_m fu f1 a2) fun r15 => bnd (Instarref03_Same_m fu r6.1 r15.1) fun r16 => cnd (!r16) (some false) (cnd (r6.2.1 != r15.2.1) (some false) (cnd (r6.2.2 != r15.2.2) (some false) (bnd (Shade_Top_m fu f1 a2) fun r17 => bnd (Instarref04_Top_m fu f1 a2) fun r18 => cnd (r17 != r18) (some false) (bnd (Shade_Connected_m fu f1 a2) fun r19 => bnd (Instarref04_Connected_m fu f1 a2) fun r20 => cnd (!(r19 == r20)) (some false) (bnd (Shade_All_m fu f1 a2) fun r21 => bnd (Instarref04_All_m fu f1 a2) fun r22 => bnd (Instarref03_Ints_m fu r21 r22) fun r23 => cnd (!r23) (some false) (bnd (Shade_Elems_m fu f1 a2) fun r24 => bnd (Instarref04_Elems_m fu f1 a2) fun r25 => bnd (Instarref03_Ints_m fu r24 r25) fun r26 => cnd (!r26) (some false) (cnd (decide (b3 < 0)) (bnd (Shade_Over_m fu f1 a2 b3) fun r27 => some (!r27)) (cnd (decide (b3 ≥ ((f1.Nodes.length : Nat) : Int))) (bnd (Shade_Over_m fu f1 a2 b3) fun r28 => some (!r28)) (bnd (Shade_Over_m fu f1 a2 b3) fun r29 => bnd (Instarref04_Over_m fu f1 a2 b3) fun r30 => some (r29 == r30)))))))))))))))

end Go.Proofs.Ytcaepigodglihaa
