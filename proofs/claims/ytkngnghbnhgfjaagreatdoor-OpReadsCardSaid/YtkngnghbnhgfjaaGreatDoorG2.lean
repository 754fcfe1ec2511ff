/- Models and proofs, printed by emit2.py. -/
import Derived.Test.YtkngnghbnhgfjaaGreatDoorG1
namespace Go.Proofs.YtkngnghbnhgfjaaGreatDoor
open Go Go.Pw
set_option linter.unusedVariables false

set_option maxHeartbeats 10000000 in
set_option maxRecDepth 100000 in
theorem Instarlaw16_OpReads_ok (fu : Nat) (s1 : Bs) (t2 : Bs) : ∀ r, Instarlaw16_OpReads_m fu s1 t2 = some r → DC laidL Tryz.prog 5 [.v (.string ⟨⟨s1⟩⟩), .v (.string ⟨⟨t2⟩⟩)] (.v (.bool r)) := by
  intro r hr
  refine fc_intro (args := [.v (.string ⟨⟨s1⟩⟩), .v (.string ⟨⟨t2⟩⟩)]) (S := []) (N0 := []) (post := fun r p S => p = .v (.bool r) ∧ S = []) Tryz.func5 rfl rfl hr fun w0 X X0 σ0 _ => ?_
  refine pw_seq ?_
  refine pw_region ?_
  refine po_evs (T := tab) 1 rfl rfl ?_
  refine po_nil ?_
  refine pn_seq ?_
  refine pw_seq ?_
  refine pw_seq ?_
  refine pw_region ?_
  refine po_call (enc := fun (r3 : Bool) => .v (.bool r3)) (qs := []) (Instarlaw16_awake_ok fu) rfl rfl trivial (fun _ => rfl) call8 rfl rfl fun r3 hr3 => ?_
  refine po_evs (T := tab) 1 rfl rfl ?_
  refine po_nil ?_
  refine pn_seq ?_
  refine pw_cnd rfl ?_ ?_
  · refine pw_seq ?_
    refine pw_region ?_
    refine po_evs (T := tab) 1 rfl rfl ?_
    refine po_nil ?_
    refine pn_seq ?_
    exact pw_retN (T := tab) rfl rfl rfl ⟨rfl, rfl⟩ trivial rfl
  · refine pw_skip ?_
    refine pn_seq ?_
    refine pw_seq ?_
    refine pw_seq ?_
    refine pw_region ?_
    refine po_evs (T := tab) 4 rfl rfl ?_
    refine po_split (j := 16) rfl ?_ ?_
    · refine po_evs (T := tab) 4 rfl rfl ?_
      refine po_nil ?_
      refine pn_seq (pw_then rfl ?_)
      refine pw_seq ?_
      refine pw_region ?_
      refine po_evs (T := tab) 1 rfl rfl ?_
      refine po_nil ?_
      refine pn_seq ?_
      exact pw_retN (T := tab) rfl rfl rfl ⟨rfl, rfl⟩ trivial rfl
    · refine po_evs (T := tab) 4 rfl rfl ?_
      refine po_nil ?_
      refine pn_seq ?_
      refine pw_cnd rfl ?_ ?_
      · refine pw_seq ?_
        refine pw_region ?_
        refine po_evs (T := tab) 1 rfl rfl ?_
        refine po_nil ?_
        refine pn_seq ?_
        exact pw_retN (T := tab) rfl rfl rfl ⟨rfl, rfl⟩ trivial rfl
      · refine pw_skip ?_
        refine pn_seq ?_
        refine pw_seq ?_
        refine pw_region ?_
        refine po_evs (T := tab) 1 rfl rfl ?_
        refine po_call (enc := fun (r4 : (Op × Int)) => .tup [.agg (cOp r4.1), .v (.int .i64 r4.2)]) (qs := [.v (.string ⟨⟨s1⟩⟩)]) (Op_Read_ok fu s1) rfl rfl ⟨⟨_, rfl, .rfl⟩, trivial⟩ (fun _ => rfl) call17 rfl rfl fun r4 hr4 => ?_
        refine po_evs (T := tab) 3 rfl rfl ?_
        refine po_alloc (T := tab) 5 rfl rfl rfl rfl rfl rfl rfl rfl rfl ?_
        refine po_store (T := tab) rfl rfl rfl rfl rfl rfl rfl rfl rfl rfl rfl rfl ?_
        refine po_evs (T := tab) 1 rfl rfl ?_
        refine po_nil ?_
        refine pn_seq ?_
        refine pw_seq ?_
        refine pw_seq ?_
        refine pw_region ?_
        refine po_evs (T := tab) 2 rfl rfl ?_
        refine po_nil ?_
        refine pn_seq ?_
        refine pw_cnd rfl ?_ ?_
        · refine pw_seq ?_
          refine pw_region ?_
          refine po_evs (T := tab) 3 rfl rfl ?_
          refine po_split (j := 30) rfl ?_ ?_
          · refine po_evs (T := tab) 1 rfl rfl ?_
            refine po_build (T := tab) rfl rfl rfl rfl rfl rfl rfl ?_
            refine po_eq eqf_23 rfl rfl rfl rfl rfl rfl rfl ?_
            refine po_evs (T := tab) 2 rfl rfl ?_
            refine po_nil ?_
            refine pn_seq ?_
            exact pw_retN (T := tab) rfl rfl rfl ⟨rfl, rfl⟩ trivial rfl
          · refine po_evs (T := tab) 5 rfl rfl ?_
            refine po_nil ?_
            refine pn_seq ?_
            exact pw_retN (T := tab) rfl rfl rfl ⟨rfl, rfl⟩ trivial rfl
        · refine pw_skip ?_
          refine pn_seq ?_
          refine pw_seq ?_
          refine pw_region ?_
          refine po_evs (T := tab) 1 rfl rfl ?_
          refine po_call (enc := fun (r5 : (Bs × Int)) => .tup [.v (.string ⟨⟨r5.1⟩⟩), .v (.int .i64 r5.2)]) (qs := [.agg (cOp r4.1)]) (Op_Put_ok fu r4.1) rfl rfl ⟨⟨_, rfl, .rfl⟩, trivial⟩ (fun _ => rfl) call10 rfl rfl fun r5 hr5 => ?_
          refine po_evs (T := tab) 5 rfl rfl ?_
          refine po_nil ?_
          refine pn_seq ?_
          refine pw_seq ?_
          refine pw_seq ?_
          refine pw_region ?_
          refine po_evs (T := tab) 3 rfl rfl ?_
          refine po_split (j := 42) rfl ?_ ?_
          · refine po_evs (T := tab) 9 rfl rfl ?_
            refine po_nil ?_
            refine pn_seq (pw_then rfl ?_)
            refine pw_seq ?_
            refine pw_region ?_
            refine po_evs (T := tab) 1 rfl rfl ?_
            refine po_nil ?_
            refine pn_seq ?_
            exact pw_retN (T := tab) rfl rfl rfl ⟨rfl, rfl⟩ trivial rfl
          · refine po_evs (T := tab) 5 rfl rfl ?_
            refine po_split (j := 47) rfl ?_ ?_
            · refine po_evs (T := tab) 4 rfl rfl ?_
              refine po_nil ?_
              refine pn_seq (pw_then rfl ?_)
              refine pw_seq ?_
              refine pw_region ?_
              refine po_evs (T := tab) 1 rfl rfl ?_
              refine po_nil ?_
              refine pn_seq ?_
              exact pw_retN (T := tab) rfl rfl rfl ⟨rfl, rfl⟩ trivial rfl
            · refine po_evs (T := tab) 1 rfl rfl ?_
              refine po_call (enc := fun (r6 : Bool) => .v (.bool r6)) (qs := [.agg (cOp r4.1)]) (Op_Right_ok fu r4.1) rfl rfl ⟨⟨_, rfl, .rfl⟩, trivial⟩ (fun _ => rfl) call11 rfl rfl fun r6 hr6 => ?_
              refine po_evs (T := tab) 2 rfl rfl ?_
              refine po_nil ?_
              refine pn_seq ?_
              refine pw_cnd rfl ?_ ?_
              · refine pw_seq ?_
                refine pw_region ?_
                refine po_evs (T := tab) 1 rfl rfl ?_
                refine po_nil ?_
                refine pn_seq ?_
                exact pw_retN (T := tab) rfl rfl rfl ⟨rfl, rfl⟩ trivial rfl
              · refine pw_skip ?_
                refine pn_seq ?_
                refine pw_seq ?_
                refine pw_region ?_
                refine po_evs (T := tab) 1 rfl rfl ?_
                refine po_call (enc := fun (r7 : (Op × Int)) => .tup [.agg (cOp r7.1), .v (.int .i64 r7.2)]) (qs := [.v (.string ⟨⟨t2⟩⟩)]) (Op_Read_ok fu t2) rfl rfl ⟨⟨_, rfl, .rfl⟩, trivial⟩ (fun _ => rfl) call17 rfl rfl fun r7 hr7 => ?_
                refine po_evs (T := tab) 3 rfl rfl ?_
                refine po_alloc (T := tab) 9 rfl rfl rfl rfl rfl rfl rfl rfl rfl ?_
                refine po_store (T := tab) rfl rfl rfl rfl rfl rfl rfl rfl rfl rfl rfl rfl ?_
                refine po_evs (T := tab) 1 rfl rfl ?_
                refine po_nil ?_
                refine pn_seq ?_
                refine pw_seq ?_
                refine pw_region ?_
                refine po_evs (T := tab) 3 rfl rfl ?_
                refine po_split (j := 59) rfl ?_ ?_
                · refine po_evs (T := tab) 9 rfl rfl ?_
                  refine po_nil ?_
                  refine pn_seq ?_
                  exact pw_retN (T := tab) rfl rfl rfl ⟨rfl, rfl⟩ trivial rfl
                · refine po_evs (T := tab) 2 rfl rfl ?_
                  refine po_eq eqf_23 rfl rfl rfl rfl rfl rfl rfl ?_
                  refine po_evs (T := tab) 6 rfl rfl ?_
                  refine po_nil ?_
                  refine pn_seq ?_
                  exact pw_retN (T := tab) rfl rfl rfl ⟨rfl, rfl⟩ trivial rfl

def Instarlaw16_named_m (_fu : Nat) (n1 : Int) (self2 : Int) (many3 : Int) : Option Int := cnd (n1 == (-2)) (some self2) (cnd (n1 == (-3)) (bnd (rng .i64 (many3 - 1)) fun i4 => some i4) (some n1))

set_option maxRecDepth 100000 in
theorem Instarlaw16_named_ok (fu : Nat) (n1 : Int) (self2 : Int) (many3 : Int) : ∀ r, Instarlaw16_named_m fu n1 self2 many3 = some r → DC laidL Tryz.prog 21 [.v (.int .i64 n1), .v (.int .i64 self2), .v (.int .i64 many3)] (.v (.int .i64 r)) := by
  intro r hr
  refine fc_intro (args := [.v (.int .i64 n1), .v (.int .i64 self2), .v (.int .i64 many3)]) (S := []) (N0 := []) (post := fun r p S => p = .v (.int .i64 r) ∧ S = []) Tryz.func21 rfl rfl hr fun w0 X X0 σ0 _ => ?_
  refine pw_seq ?_
  refine pw_region ?_
  refine po_evs (T := tab) 1 rfl rfl ?_
  refine po_nil ?_
  refine pn_seq ?_
  refine pw_seq ?_
  refine pw_seq ?_
  refine pw_region ?_
  refine po_evs (T := tab) 2 rfl rfl ?_
  refine po_nil ?_
  refine pn_seq ?_
  refine pw_cnd rfl ?_ ?_
  · refine pw_seq ?_
    refine pw_region ?_
    refine po_evs (T := tab) 2 rfl rfl ?_
    refine po_nil ?_
    refine pn_seq ?_
    exact pw_retN (T := tab) rfl rfl rfl ⟨rfl, rfl⟩ trivial rfl
  · refine pw_skip ?_
    refine pn_seq ?_
    refine pw_seq ?_
    refine pw_seq ?_
    refine pw_region ?_
    refine po_evs (T := tab) 2 rfl rfl ?_
    refine po_nil ?_
    refine pn_seq ?_
    refine pw_cnd rfl ?_ ?_
    · refine pw_seq ?_
      refine pw_region ?_
      refine po_evs (T := tab) 1 rfl rfl ?_
      refine po_arith' (T := tab) rfl rfl rfl rfl fun i4 hi4 => ?_
      refine po_evs (T := tab) 1 rfl rfl ?_
      refine po_nil ?_
      refine pn_seq ?_
      exact pw_retN (T := tab) rfl rfl rfl ⟨rfl, rfl⟩ trivial rfl
    · refine pw_skip ?_
      refine pn_seq ?_
      refine pw_seq ?_
      refine pw_region ?_
      refine po_evs (T := tab) 2 rfl rfl ?_
      refine po_nil ?_
      refine pn_seq ?_
      exact pw_retN (T := tab) rfl rfl rfl ⟨rfl, rfl⟩ trivial rfl

def Instarlaw16_there_m (_fu : Nat) (n1 : Int) (many2 : Int) : Option Bool := cnd (decide (n1 ≥ 0)) (some (decide (n1 < many2))) (some false)

set_option maxRecDepth 100000 in
theorem Instarlaw16_there_ok (fu : Nat) (n1 : Int) (many2 : Int) : ∀ r, Instarlaw16_there_m fu n1 many2 = some r → DC laidL Tryz.prog 22 [.v (.int .i64 n1), .v (.int .i64 many2)] (.v (.bool r)) := by
  intro r hr
  refine fc_intro (args := [.v (.int .i64 n1), .v (.int .i64 many2)]) (S := []) (N0 := []) (post := fun r p S => p = .v (.bool r) ∧ S = []) Tryz.func22 rfl rfl hr fun w0 X X0 σ0 _ => ?_
  refine pw_seq ?_
  refine pw_region ?_
  refine po_evs (T := tab) 1 rfl rfl ?_
  refine po_nil ?_
  refine pn_seq ?_
  refine pw_seq ?_
  refine pw_region ?_
  refine po_evs (T := tab) 3 rfl rfl ?_
  refine po_split (j := 7) rfl ?_ ?_
  · refine po_evs (T := tab) 5 rfl rfl ?_
    refine po_nil ?_
    refine pn_seq ?_
    exact pw_retN (T := tab) rfl rfl rfl ⟨rfl, rfl⟩ trivial rfl
  · refine po_evs (T := tab) 5 rfl rfl ?_
    refine po_nil ?_
    refine pn_seq ?_
    exact pw_retN (T := tab) rfl rfl rfl ⟨rfl, rfl⟩ trivial rfl

def Instarlaw16_OpAims_m (fu : Nat) (o1 : Op) (self2 : Int) (many3 : Int) (other4 : Int) : Option Bool := bnd (Instarlaw16_awake_m fu) fun r5 => cnd (!r5) (some false) (cnd (decide (((o1.S.length : Nat) : Int) > 600)) (some true) (cnd (decide (((o1.T.length : Nat) : Int) > 600)) (some true) (cnd (decide (many3 < 1)) (some true) (cnd (decide (many3 > 400)) (some true) (cnd (decide (self2 < (-1))) (some true) (cnd (decide (self2 ≥ many3)) (some true) (bnd (Op_Aim_m fu o1 self2 many3) fun r6 => bnd (Op_Right_m fu o1) fun r7 => cnd (!r7) (cnd (r6.2 == 2) (some (eqOp r6.1 (⟨0, 0, 0, 0, [], [], false⟩ : Op))) (some false)) (bnd (Instarlaw16_named_m fu o1.A self2 many3) fun r8 => bnd (Instarlaw16_named_m fu o1.B self2 many3) fun r9 => bnd (Instarlaw16_named_m fu o1.C self2 many3) fun r10 => cnd (r6.2 != 0) (cnd (r6.2 == 6) (cnd (eqOp r6.1 (⟨0, 0, 0, 0, [], [], false⟩ : Op)) (bnd (Instarlaw16_there_m fu r8 many3) fun r11 => cnd r11 (bnd (Instarlaw16_there_m fu r9 many3) fun r12 => cnd r12 (bnd (Instarlaw16_there_m fu r10 many3) fun r13 => some (!r13)) (some true)) (some true)) (some false)) (some false)) (bnd (Op_Aim_m fu r6.1 other4 many3) fun r14 => cnd (r14.2 != 0) (some false) (cnd (!(eqOp r6.1 r14.1)) (some false) (bnd (Op_Right_m fu r6.1) fun r15 => cnd (!r15) (some false) (cnd (r6.1.Kind != o1.Kind) (some false) (cnd (!(r6.1.S == o1.S)) (some false) (cnd (!(r6.1.T == o1.T)) (some false) (cnd (!(r6.1.Must == o1.Must)) (some false) (cnd (r6.1.A == o1.A) (cnd (r6.1.B == o1.B) (cnd (r6.1.C == o1.C) (some true) (some (r6.1.C == r10))) (cnd (r6.1.B == r9) (cnd (r6.1.C == o1.C) (some true) (some (r6.1.C == r10))) (some false))) (cnd (r6.1.A == r8) (cnd (r6.1.B == o1.B) (cnd (r6.1.C == o1.C) (some true) (some (r6.1.C == r10))) (cnd (r6.1.B == r9) (cnd (r6.1.C == o1.C) (some true) (some (r6.1.C == r10))) (some false))) (some false))))))))))))))))))

set_option maxHeartbeats 10000000 in
set_option maxRecDepth 100000 in
theorem Instarlaw16_OpAims_ok (fu : Nat) (o1 : Op) (self2 : Int) (many3 : Int) (other4 : Int) : ∀ r, Instarlaw16_OpAims_m fu o1 self2 many3 other4 = some r → DC laidL Tryz.prog 6 [.agg (cOp o1), .v (.int .i64 self2), .v (.int .i64 many3), .v (.int .i64 other4)] (.v (.bool r)) := by
  intro r hr
  refine fc_intro (args := [.agg (cOp o1), .v (.int .i64 self2), .v (.int .i64 many3), .v (.int .i64 other4)]) (S := []) (N0 := []) (post := fun r p S => p = .v (.bool r) ∧ S = []) Tryz.func6 rfl rfl hr fun w0 X X0 σ0 _ => ?_
  refine pw_seq ?_
  refine pw_region ?_
  refine po_box  4 rfl rfl rfl rfl rfl rfl rfl rfl rfl rfl ?_
  refine po_evs (T := tab) 1 rfl rfl ?_
  refine po_nil ?_
  refine pn_seq ?_
  refine pw_seq ?_
  refine pw_seq ?_
  refine pw_region ?_
  refine po_call (enc := fun (r5 : Bool) => .v (.bool r5)) (qs := []) (Instarlaw16_awake_ok fu) rfl rfl trivial (fun _ => rfl) call8 rfl rfl fun r5 hr5 => ?_
  refine po_evs (T := tab) 1 rfl rfl ?_
  refine po_nil ?_
  refine pn_seq ?_
  refine pw_cnd rfl ?_ ?_
  · refine pw_seq ?_
    refine pw_region ?_
    refine po_evs (T := tab) 1 rfl rfl ?_
    refine po_nil ?_
    refine pn_seq ?_
    exact pw_retN (T := tab) rfl rfl rfl ⟨rfl, rfl⟩ trivial rfl
  · refine pw_skip ?_
    refine pn_seq ?_
    refine pw_seq ?_
    refine pw_seq ?_
    refine pw_region ?_
    refine po_evs (T := tab) 5 rfl rfl ?_
    refine po_split (j := 22) rfl ?_ ?_
    · refine po_evs (T := tab) 22 rfl rfl ?_
      refine po_nil ?_
      refine pn_seq (pw_then rfl ?_)
      refine pw_seq ?_
      refine pw_region ?_
      refine po_evs (T := tab) 1 rfl rfl ?_
      refine po_nil ?_
      refine pn_seq ?_
      exact pw_retN (T := tab) rfl rfl rfl ⟨rfl, rfl⟩ trivial rfl
    · refine po_evs (T := tab) 6 rfl rfl ?_
      refine po_split (j := 28) rfl ?_ ?_
      · refine po_evs (T := tab) 16 rfl rfl ?_
        refine po_nil ?_
        refine pn_seq (pw_then rfl ?_)
        refine pw_seq ?_
        refine pw_region ?_
        refine po_evs (T := tab) 1 rfl rfl ?_
        refine po_nil ?_
        refine pn_seq ?_
        exact pw_retN (T := tab) rfl rfl rfl ⟨rfl, rfl⟩ trivial rfl
      · refine po_evs (T := tab) 4 rfl rfl ?_
        refine po_split (j := 32) rfl ?_ ?_
        · refine po_evs (T := tab) 12 rfl rfl ?_
          refine po_nil ?_
          refine pn_seq (pw_then rfl ?_)
          refine pw_seq ?_
          refine pw_region ?_
          refine po_evs (T := tab) 1 rfl rfl ?_
          refine po_nil ?_
          refine pn_seq ?_
          exact pw_retN (T := tab) rfl rfl rfl ⟨rfl, rfl⟩ trivial rfl
        · refine po_evs (T := tab) 4 rfl rfl ?_
          refine po_split (j := 36) rfl ?_ ?_
          · refine po_evs (T := tab) 8 rfl rfl ?_
            refine po_nil ?_
            refine pn_seq (pw_then rfl ?_)
            refine pw_seq ?_
            refine pw_region ?_
            refine po_evs (T := tab) 1 rfl rfl ?_
            refine po_nil ?_
            refine pn_seq ?_
            exact pw_retN (T := tab) rfl rfl rfl ⟨rfl, rfl⟩ trivial rfl
          · refine po_evs (T := tab) 4 rfl rfl ?_
            refine po_split (j := 40) rfl ?_ ?_
            · refine po_evs (T := tab) 4 rfl rfl ?_
              refine po_nil ?_
              refine pn_seq (pw_then rfl ?_)
              refine pw_seq ?_
              refine pw_region ?_
              refine po_evs (T := tab) 1 rfl rfl ?_
              refine po_nil ?_
              refine pn_seq ?_
              exact pw_retN (T := tab) rfl rfl rfl ⟨rfl, rfl⟩ trivial rfl
            · refine po_evs (T := tab) 4 rfl rfl ?_
              refine po_nil ?_
              refine pn_seq ?_
              refine pw_cnd rfl ?_ ?_
              · refine pw_seq ?_
                refine pw_region ?_
                refine po_evs (T := tab) 1 rfl rfl ?_
                refine po_nil ?_
                refine pn_seq ?_
                exact pw_retN (T := tab) rfl rfl rfl ⟨rfl, rfl⟩ trivial rfl
              · refine pw_skip ?_
                refine pn_seq ?_
                refine pw_seq ?_
                refine pw_region ?_
                refine po_evs (T := tab) 3 rfl rfl ?_
                refine po_call (enc := fun (r6 : (Op × Int)) => .tup [.agg (cOp r6.1), .v (.int .i64 r6.2)]) (qs := [.agg (cOp o1), .v (.int .i64 self2), .v (.int .i64 many3)]) (Op_Aim_ok fu o1 self2 many3) rfl rfl ⟨⟨_, rfl, .rfl⟩, ⟨_, rfl, .rfl⟩, ⟨_, rfl, .rfl⟩, trivial⟩ (fun _ => rfl) call19 rfl rfl fun r6 hr6 => ?_
                refine po_evs (T := tab) 3 rfl rfl ?_
                refine po_alloc (T := tab) 9 rfl rfl rfl rfl rfl rfl rfl rfl rfl ?_
                refine po_store (T := tab) rfl rfl rfl rfl rfl rfl rfl rfl rfl rfl rfl rfl ?_
                refine po_evs (T := tab) 1 rfl rfl ?_
                refine po_nil ?_
                refine pn_seq ?_
                refine pw_seq ?_
                refine pw_seq ?_
                refine pw_region ?_
                refine po_evs (T := tab) 1 rfl rfl ?_
                refine po_call (enc := fun (r7 : Bool) => .v (.bool r7)) (qs := [.agg (cOp o1)]) (Op_Right_ok fu o1) rfl rfl ⟨⟨_, rfl, .rfl⟩, trivial⟩ (fun _ => rfl) call11 rfl rfl fun r7 hr7 => ?_
                refine po_evs (T := tab) 1 rfl rfl ?_
                refine po_nil ?_
                refine pn_seq ?_
                refine pw_cnd rfl ?_ ?_
                · refine pw_seq ?_
                  refine pw_region ?_
                  refine po_evs (T := tab) 3 rfl rfl ?_
                  refine po_split (j := 57) rfl ?_ ?_
                  · refine po_evs (T := tab) 1 rfl rfl ?_
                    refine po_build (T := tab) rfl rfl rfl rfl rfl rfl rfl ?_
                    refine po_eq eqf_23 rfl rfl rfl rfl rfl rfl rfl ?_
                    refine po_evs (T := tab) 2 rfl rfl ?_
                    refine po_nil ?_
                    refine pn_seq ?_
                    exact pw_retN (T := tab) rfl rfl rfl ⟨rfl, rfl⟩ trivial rfl
                  · refine po_evs (T := tab) 5 rfl rfl ?_
                    refine po_nil ?_
                    refine pn_seq ?_
                    exact pw_retN (T := tab) rfl rfl rfl ⟨rfl, rfl⟩ trivial rfl
                · refine pw_skip ?_
                  refine pn_seq ?_
                  refine pw_seq ?_
                  refine pw_draw mixed (by kernel_rfl) ?_
                  refine pd_evs (T := tab) 4 rfl rfl ?_
                  refine pd_call (enc := fun (r8 : Int) => .v (.int .i64 r8)) (qs := [.v (.int .i64 o1.A), .v (.int .i64 self2), .v (.int .i64 many3)]) (Instarlaw16_named_ok fu o1.A self2 many3) rfl rfl ⟨⟨_, rfl, .rfl⟩, ⟨_, rfl, .rfl⟩, ⟨_, rfl, .rfl⟩, trivial⟩ (fun _ => rfl) call21 rfl rfl fun r8 hr8 => ?_
                  refine pd_evs (T := tab) 4 rfl rfl ?_
                  refine pd_call (enc := fun (r9 : Int) => .v (.int .i64 r9)) (qs := [.v (.int .i64 o1.B), .v (.int .i64 self2), .v (.int .i64 many3)]) (Instarlaw16_named_ok fu o1.B self2 many3) rfl rfl ⟨⟨_, rfl, .rfl⟩, ⟨_, rfl, .rfl⟩, ⟨_, rfl, .rfl⟩, trivial⟩ (fun _ => rfl) call21 rfl rfl fun r9 hr9 => ?_
                  refine pd_evs (T := tab) 4 rfl rfl ?_
                  refine pd_call (enc := fun (r10 : Int) => .v (.int .i64 r10)) (qs := [.v (.int .i64 o1.C), .v (.int .i64 self2), .v (.int .i64 many3)]) (Instarlaw16_named_ok fu o1.C self2 many3) rfl rfl ⟨⟨_, rfl, .rfl⟩, ⟨_, rfl, .rfl⟩, ⟨_, rfl, .rfl⟩, trivial⟩ (fun _ => rfl) call21 rfl rfl fun r10 hr10 => ?_
                  refine pd_evs (T := tab) 3 rfl rfl ?_
                  refine pd_nil ?_
                  refine pn_seq ?_
                  refine pw_seq ?_
                  refine pw_seq ?_
                  refine pw_region ?_
                  refine po_evs (T := tab) 2 rfl rfl ?_
                  refine po_nil ?_
                  refine pn_seq ?_
                  refine pw_cnd rfl ?_ ?_
                  · refine pw_seq ?_
                    refine pw_region ?_
                    refine po_evs (T := tab) 3 rfl rfl ?_
                    refine po_split (j := 81) rfl ?_ ?_
                    · refine po_evs (T := tab) 1 rfl rfl ?_
                      refine po_build (T := tab) rfl rfl rfl rfl rfl rfl rfl ?_
                      refine po_eq eqf_23 rfl rfl rfl rfl rfl rfl rfl ?_
                      refine po_evs (T := tab) 2 rfl rfl ?_
                      refine po_split (j := 86) rfl ?_ ?_
                      · refine po_evs (T := tab) 2 rfl rfl ?_
                        refine po_call (enc := fun (r11 : Bool) => .v (.bool r11)) (qs := [.v (.int .i64 r8), .v (.int .i64 many3)]) (Instarlaw16_there_ok fu r8 many3) rfl rfl ⟨⟨_, rfl, .rfl⟩, ⟨_, rfl, .rfl⟩, trivial⟩ (fun _ => rfl) call22 rfl rfl fun r11 hr11 => ?_
                        refine po_evs (T := tab) 1 rfl rfl ?_
                        refine po_split (j := 90) rfl ?_ ?_
                        · refine po_evs (T := tab) 2 rfl rfl ?_
                          refine po_call (enc := fun (r12 : Bool) => .v (.bool r12)) (qs := [.v (.int .i64 r9), .v (.int .i64 many3)]) (Instarlaw16_there_ok fu r9 many3) rfl rfl ⟨⟨_, rfl, .rfl⟩, ⟨_, rfl, .rfl⟩, trivial⟩ (fun _ => rfl) call22 rfl rfl fun r12 hr12 => ?_
                          refine po_evs (T := tab) 2 rfl rfl ?_
                          refine po_split (j := 95) rfl ?_ ?_
                          · refine po_evs (T := tab) 2 rfl rfl ?_
                            refine po_call (enc := fun (r13 : Bool) => .v (.bool r13)) (qs := [.v (.int .i64 r10), .v (.int .i64 many3)]) (Instarlaw16_there_ok fu r10 many3) rfl rfl ⟨⟨_, rfl, .rfl⟩, ⟨_, rfl, .rfl⟩, trivial⟩ (fun _ => rfl) call22 rfl rfl fun r13 hr13 => ?_
                            refine po_evs (T := tab) 4 rfl rfl ?_
                            refine po_nil ?_
                            refine pn_seq ?_
                            exact pw_retN (T := tab) rfl rfl rfl ⟨rfl, rfl⟩ trivial rfl
                          · refine po_evs (T := tab) 7 rfl rfl ?_
                            refine po_nil ?_
                            refine pn_seq ?_
                            exact pw_retN (T := tab) rfl rfl rfl ⟨rfl, rfl⟩ trivial rfl
                        · refine po_evs (T := tab) 12 rfl rfl ?_
                          refine po_nil ?_
                          refine pn_seq ?_
                          exact pw_retN (T := tab) rfl rfl rfl ⟨rfl, rfl⟩ trivial rfl
                      · refine po_evs (T := tab) 16 rfl rfl ?_
                        refine po_nil ?_
                        refine pn_seq ?_
                        exact pw_retN (T := tab) rfl rfl rfl ⟨rfl, rfl⟩ trivial rfl
                    · refine po_evs (T := tab) 21 rfl rfl ?_
                      refine po_nil ?_
                      refine pn_seq ?_
                      exact pw_retN (T := tab) rfl rfl rfl ⟨rfl, rfl⟩ trivial rfl
                  · refine pw_skip ?_
                    refine pn_seq ?_
                    refine pw_seq ?_
                    refine pw_region ?_
                    refine po_evs (T := tab) 3 rfl rfl ?_
                    refine po_call (enc := fun (r14 : (Op × Int)) => .tup [.agg (cOp r14.1), .v (.int .i64 r14.2)]) (qs := [.agg (cOp r6.1), .v (.int .i64 other4), .v (.int .i64 many3)]) (Op_Aim_ok fu r6.1 other4 many3) rfl rfl ⟨⟨_, rfl, .rfl⟩, ⟨_, rfl, .rfl⟩, ⟨_, rfl, .rfl⟩, trivial⟩ (fun _ => rfl) call19 rfl rfl fun r14 hr14 => ?_
                    refine po_evs (T := tab) 3 rfl rfl ?_
                    refine po_alloc (T := tab) 14 rfl rfl rfl rfl rfl rfl rfl rfl rfl ?_
                    refine po_store (T := tab) rfl rfl rfl rfl rfl rfl rfl rfl rfl rfl rfl rfl ?_
                    refine po_evs (T := tab) 1 rfl rfl ?_
                    refine po_nil ?_
                    refine pn_seq ?_
                    refine pw_seq ?_
                    refine pw_seq ?_
                    refine pw_region ?_
                    refine po_evs (T := tab) 3 rfl rfl ?_
                    refine po_split (j := 111) rfl ?_ ?_
                    · refine po_evs (T := tab) 37 rfl rfl ?_
                      refine po_nil ?_
                      refine pn_seq (pw_then rfl ?_)
                      refine pw_seq ?_
                      refine pw_region ?_
                      refine po_evs (T := tab) 1 rfl rfl ?_
                      refine po_nil ?_
                      refine pn_seq ?_
                      exact pw_retN (T := tab) rfl rfl rfl ⟨rfl, rfl⟩ trivial rfl
                    · refine po_evs (T := tab) 2 rfl rfl ?_
                      refine po_ne eqf_23 rfl rfl rfl rfl rfl rfl rfl ?_
                      refine po_evs (T := tab) 2 rfl rfl ?_
                      refine po_split (j := 116) rfl ?_ ?_
                      · refine po_evs (T := tab) 32 rfl rfl ?_
                        refine po_nil ?_
                        refine pn_seq (pw_then rfl ?_)
                        refine pw_seq ?_
                        refine pw_region ?_
                        refine po_evs (T := tab) 1 rfl rfl ?_
                        refine po_nil ?_
                        refine pn_seq ?_
                        exact pw_retN (T := tab) rfl rfl rfl ⟨rfl, rfl⟩ trivial rfl
                      · refine po_evs (T := tab) 1 rfl rfl ?_
                        refine po_call (enc := fun (r15 : Bool) => .v (.bool r15)) (qs := [.agg (cOp r6.1)]) (Op_Right_ok fu r6.1) rfl rfl ⟨⟨_, rfl, .rfl⟩, trivial⟩ (fun _ => rfl) call11 rfl rfl fun r15 hr15 => ?_
                        refine po_evs (T := tab) 3 rfl rfl ?_
                        refine po_split (j := 121) rfl ?_ ?_
                        · refine po_evs (T := tab) 27 rfl rfl ?_
                          refine po_nil ?_
                          refine pn_seq (pw_then rfl ?_)
                          refine pw_seq ?_
                          refine pw_region ?_
                          refine po_evs (T := tab) 1 rfl rfl ?_
                          refine po_nil ?_
                          refine pn_seq ?_
                          exact pw_retN (T := tab) rfl rfl rfl ⟨rfl, rfl⟩ trivial rfl
                        · refine po_evs (T := tab) 7 rfl rfl ?_
                          refine po_split (j := 128) rfl ?_ ?_
                          · refine po_evs (T := tab) 20 rfl rfl ?_
                            refine po_nil ?_
                            refine pn_seq (pw_then rfl ?_)
                            refine pw_seq ?_
                            refine pw_region ?_
                            refine po_evs (T := tab) 1 rfl rfl ?_
                            refine po_nil ?_
                            refine pn_seq ?_
                            exact pw_retN (T := tab) rfl rfl rfl ⟨rfl, rfl⟩ trivial rfl
                          · refine po_evs (T := tab) 7 rfl rfl ?_
                            refine po_split (j := 135) rfl ?_ ?_
                            · refine po_evs (T := tab) 13 rfl rfl ?_
                              refine po_nil ?_
                              refine pn_seq (pw_then rfl ?_)
                              refine pw_seq ?_
                              refine pw_region ?_
                              refine po_evs (T := tab) 1 rfl rfl ?_
                              refine po_nil ?_
                              refine pn_seq ?_
                              exact pw_retN (T := tab) rfl rfl rfl ⟨rfl, rfl⟩ trivial rfl
                            · refine po_evs (T := tab) 7 rfl rfl ?_
                              refine po_split (j := 142) rfl ?_ ?_
                              · refine po_evs (T := tab) 6 rfl rfl ?_
                                refine po_nil ?_
                                refine pn_seq (pw_then rfl ?_)
                                refine pw_seq ?_
                                refine pw_region ?_
                                refine po_evs (T := tab) 1 rfl rfl ?_
                                refine po_nil ?_
                                refine pn_seq ?_
                                exact pw_retN (T := tab) rfl rfl rfl ⟨rfl, rfl⟩ trivial rfl
                              · refine po_evs (T := tab) 6 rfl rfl ?_
                                refine po_nil ?_
                                refine pn_seq ?_
                                refine pw_cnd rfl ?_ ?_
                                · refine pw_seq ?_
                                  refine pw_region ?_
                                  refine po_evs (T := tab) 1 rfl rfl ?_
                                  refine po_nil ?_
                                  refine pn_seq ?_
                                  exact pw_retN (T := tab) rfl rfl rfl ⟨rfl, rfl⟩ trivial rfl
                                · refine pw_skip ?_
                                  refine pn_seq ?_
                                  refine pw_seq ?_
                                  refine pw_region ?_
                                  refine po_evs (T := tab) 6 rfl rfl ?_
                                  refine po_split (j := 154) rfl ?_ ?_
                                  · refine po_evs (T := tab) 12 rfl rfl ?_
                                    refine po_split (j := 166) rfl ?_ ?_
                                    · refine po_evs (T := tab) 13 rfl rfl ?_
                                      refine po_split (j := 179) rfl ?_ ?_
                                      · refine po_evs (T := tab) 7 rfl rfl ?_
                                        refine po_nil ?_
                                        refine pn_seq ?_
                                        exact pw_retN (T := tab) rfl rfl rfl ⟨rfl, rfl⟩ trivial rfl
                                      · refine po_evs (T := tab) 7 rfl rfl ?_
                                        refine po_nil ?_
                                        refine pn_seq ?_
                                        exact pw_retN (T := tab) rfl rfl rfl ⟨rfl, rfl⟩ trivial rfl
                                    · refine po_evs (T := tab) 7 rfl rfl ?_
                                      refine po_split (j := 173) rfl ?_ ?_
                                      · refine po_evs (T := tab) 6 rfl rfl ?_
                                        refine po_split (j := 179) rfl ?_ ?_
                                        · refine po_evs (T := tab) 7 rfl rfl ?_
                                          refine po_nil ?_
                                          refine pn_seq ?_
                                          exact pw_retN (T := tab) rfl rfl rfl ⟨rfl, rfl⟩ trivial rfl
                                        · refine po_evs (T := tab) 7 rfl rfl ?_
                                          refine po_nil ?_
                                          refine pn_seq ?_
                                          exact pw_retN (T := tab) rfl rfl rfl ⟨rfl, rfl⟩ trivial rfl
                                      · refine po_evs (T := tab) 13 rfl rfl ?_
                                        refine po_nil ?_
                                        refine pn_seq ?_
                                        exact pw_retN (T := tab) rfl rfl rfl ⟨rfl, rfl⟩ trivial rfl
                                  · refine po_evs (T := tab) 6 rfl rfl ?_
                                    refine po_split (j := 160) rfl ?_ ?_
                                    · refine po_evs (T := tab) 6 rfl rfl ?_
                                      refine po_split (j := 166) rfl ?_ ?_
                                      · refine po_evs (T := tab) 13 rfl rfl ?_
                                        refine po_split (j := 179) rfl ?_ ?_
                                        · refine po_evs (T := tab) 7 rfl rfl ?_
                                          refine po_nil ?_
                                          refine pn_seq ?_
                                          exact pw_retN (T := tab) rfl rfl rfl ⟨rfl, rfl⟩ trivial rfl
                                        · refine po_evs (T := tab) 7 rfl rfl ?_
                                          refine po_nil ?_
                                          refine pn_seq ?_
                                          exact pw_retN (T := tab) rfl rfl rfl ⟨rfl, rfl⟩ trivial rfl
                                      · refine po_evs (T := tab) 7 rfl rfl ?_
                                        refine po_split (j := 173) rfl ?_ ?_
                                        · refine po_evs (T := tab) 6 rfl rfl ?_
                                          refine po_split (j := 179) rfl ?_ ?_
                                          · refine po_evs (T := tab) 7 rfl rfl ?_
                                            refine po_nil ?_
                                            refine pn_seq ?_
                                            exact pw_retN (T := tab) rfl rfl rfl ⟨rfl, rfl⟩ trivial rfl
                                          · refine po_evs (T := tab) 7 rfl rfl ?_
                                            refine po_nil ?_
                                            refine pn_seq ?_
                                            exact pw_retN (T := tab) rfl rfl rfl ⟨rfl, rfl⟩ trivial rfl
                                        · refine po_evs (T := tab) 13 rfl rfl ?_
                                          refine po_nil ?_
                                          refine pn_seq ?_
                                          exact pw_retN (T := tab) rfl rfl rfl ⟨rfl, rfl⟩ trivial rfl
                                    · refine po_evs (T := tab) 26 rfl rfl ?_
                                      refine po_nil ?_
                                      refine pn_seq ?_
                                      exact pw_retN (T := tab) rfl rfl rfl ⟨rfl, rfl⟩ trivial rfl

def Instarlaw16_OpKinds_j1 (fu : Nat) (o1 : Op) (s2 : Bs) (fits16 : Bool) : Option Bool := bnd (Op_Right_m fu (⟨17, 0, 0, 0, s2, [], false⟩ : Op)) fun r17 => cnd (!(r17 == fits16)) (some false) (bnd (Op_Right_m fu (⟨9, (-2), 0, 0, s2, s2, false⟩ : Op)) fun r18 => cnd (!(r18 == fits16)) (some false) (bnd (Op_Right_m fu (⟨o1.Kind, 1001, o1.B, o1.C, o1.S, o1.T, o1.Must⟩ : Op)) fun r19 => cnd (!r19) (bnd (Op_Right_m fu (⟨o1.Kind, o1.A, o1.B, (-1001), o1.S, o1.T, o1.Must⟩ : Op)) fun r20 => cnd (!r20) (cnd (decide (o1.Kind > 0)) (some (decide (o1.Kind ≤ 28))) (some false)) (some false)) (some false)))

def Instarlaw16_OpKinds_l1 (fu : Nat) (o1 : Op) (s2 : Bs) : Nat → Bool × Int → Option Bool
  | 0, _ => none
  | k1 + 1, (feed11, i12) => cnd (decide (i12 < ((s2.length : Nat) : Int))) (cnd feed11 (bnd (rng .i64 (i12 + 1)) fun i14 => (Instarlaw16_OpKinds_l1 fu o1 s2 k1) (true, i14)) (bnd (chr s2 i12) fun b13 => bnd (rng .i64 (i12 + 1)) fun i15 => (Instarlaw16_OpKinds_l1 fu o1 s2 k1) ((b13 == 10), i15))) (cnd (!feed11) ((Instarlaw16_OpKinds_j1 fu o1 s2) (decide (((s2.length : Nat) : Int) ≤ 200))) ((Instarlaw16_OpKinds_j1 fu o1 s2) false))

def Instarlaw16_OpKinds_m (fu : Nat) (o1 : Op) (s2 : Bs) : Option Bool := bnd (Instarlaw16_awake_m fu) fun r3 => cnd (!r3) (some false) (cnd (decide (((o1.S.length : Nat) : Int) > 600)) (some true) (cnd (decide (((o1.T.length : Nat) : Int) > 600)) (some true) (cnd (decide (((s2.length : Nat) : Int) > 600)) (some true) (bnd (Op_Right_m fu (⟨o1.Kind, o1.A, o1.B, o1.C, o1.S, o1.T, (!o1.Must)⟩ : Op)) fun r4 => bnd (Op_Right_m fu o1) fun r5 => cnd (!(r4 == r5)) (some false) (bnd (Op_Still_m fu (⟨o1.Kind, o1.A, o1.B, o1.C, o1.S, o1.T, (!o1.Must)⟩ : Op)) fun r6 => bnd (Op_Still_m fu o1) fun r7 => cnd (!(r6 == r7)) (some false) (bnd (Op_Carries_m fu (⟨o1.Kind, o1.A, o1.B, o1.C, o1.S, o1.T, (!o1.Must)⟩ : Op)) fun r8 => bnd (Op_Carries_m fu o1) fun r9 => cnd (!(r8 == r9)) (some false) (bnd (Op_Right_m fu o1) fun r10 => cnd (!r10) (some true) ((Instarlaw16_OpKinds_l1 fu o1 s2) fu (false, 0)))))))))

set_option maxHeartbeats 10000000 in
set_option maxRecDepth 100000 in
theorem Instarlaw16_OpKinds_ok (fu : Nat) (o1 : Op) (s2 : Bs) : ∀ r, Instarlaw16_OpKinds_m fu o1 s2 = some r → DC laidL Tryz.prog 7 [.agg (cOp o1), .v (.string ⟨⟨s2⟩⟩)] (.v (.bool r)) := by
  intro r hr
  refine fc_intro (args := [.agg (cOp o1), .v (.string ⟨⟨s2⟩⟩)]) (S := []) (N0 := []) (post := fun r p S => p = .v (.bool r) ∧ S = []) Tryz.func7 rfl rfl hr fun w0 X X0 σ0 _ => ?_
  refine pw_seq ?_
  refine pw_region ?_
  refine po_box  2 rfl rfl rfl rfl rfl rfl rfl rfl rfl rfl ?_
  refine po_evs (T := tab) 1 rfl rfl ?_
  refine po_nil ?_
  refine pn_seq ?_
  refine pw_seq ?_
  refine pw_seq ?_
  refine pw_region ?_
  refine po_call (enc := fun (r3 : Bool) => .v (.bool r3)) (qs := []) (Instarlaw16_awake_ok fu) rfl rfl trivial (fun _ => rfl) call8 rfl rfl fun r3 hr3 => ?_
  refine po_evs (T := tab) 1 rfl rfl ?_
  refine po_nil ?_
  refine pn_seq ?_
  refine pw_cnd rfl ?_ ?_
  · refine pw_seq ?_
    refine pw_region ?_
    refine po_evs (T := tab) 1 rfl rfl ?_
    refine po_nil ?_
    refine pn_seq ?_
    exact pw_retN (T := tab) rfl rfl rfl ⟨rfl, rfl⟩ trivial rfl
  · refine pw_skip ?_
    refine pn_seq ?_
    refine pw_seq ?_
    refine pw_seq ?_
    refine pw_region ?_
    refine po_evs (T := tab) 5 rfl rfl ?_
    refine po_split (j := 19) rfl ?_ ?_
    · refine po_evs (T := tab) 10 rfl rfl ?_
      refine po_nil ?_
      refine pn_seq (pw_then rfl ?_)
      refine pw_seq ?_
      refine pw_region ?_
      refine po_evs (T := tab) 1 rfl rfl ?_
      refine po_nil ?_
      refine pn_seq ?_
      exact pw_retN (T := tab) rfl rfl rfl ⟨rfl, rfl⟩ trivial rfl
    · refine po_evs (T := tab) 6 rfl rfl ?_
      refine po_split (j := 25) rfl ?_ ?_
      · refine po_evs (T := tab) 4 rfl rfl ?_
        refine po_nil ?_
        refine pn_seq (pw_then rfl ?_)
        refine pw_seq ?_
        refine pw_region ?_
        refine po_evs (T := tab) 1 rfl rfl ?_
        refine po_nil ?_
        refine pn_seq ?_
        exact pw_retN (T := tab) rfl rfl rfl ⟨rfl, rfl⟩ trivial rfl
      · refine po_evs (T := tab) 4 rfl rfl ?_
        refine po_nil ?_
        refine pn_seq ?_
        refine pw_cnd rfl ?_ ?_
        · refine pw_seq ?_
          refine pw_region ?_
          refine po_evs (T := tab) 1 rfl rfl ?_
          refine po_nil ?_
          refine pn_seq ?_
          exact pw_retN (T := tab) rfl rfl rfl ⟨rfl, rfl⟩ trivial rfl
        · refine pw_skip ?_
          refine pn_seq ?_
          refine pw_seq ?_
          refine pw_region ?_
          refine po_evs (T := tab) 1 rfl rfl ?_
          refine po_alloc (T := tab) 5 rfl rfl rfl rfl rfl rfl rfl rfl rfl ?_
          refine po_store (T := tab) rfl rfl rfl rfl rfl rfl rfl rfl rfl rfl rfl rfl ?_
          refine po_nil ?_
          refine pn_seq ?_
          refine pw_seq ?_
          refine pw_region ?_
          refine po_evs (T := tab) 4 rfl rfl ?_
          refine po_store (T := tab) rfl rfl rfl rfl rfl rfl rfl rfl rfl rfl rfl rfl ?_
          refine po_nil ?_
          refine pn_seq ?_
          refine pw_seq ?_
          refine pw_seq ?_
          refine pw_draw mixed (by kernel_rfl) ?_
          refine pd_evs (T := tab) 1 rfl rfl ?_
          refine pd_call (enc := fun (r4 : Bool) => .v (.bool r4)) (qs := [.agg (cOp (⟨o1.Kind, o1.A, o1.B, o1.C, o1.S, o1.T, (!o1.Must)⟩ : Op))]) (Op_Right_ok fu (⟨o1.Kind, o1.A, o1.B, o1.C, o1.S, o1.T, (!o1.Must)⟩ : Op)) rfl rfl ⟨⟨_, rfl, .rfl⟩, trivial⟩ (fun _ => rfl) call11 rfl rfl fun r4 hr4 => ?_
          refine pd_evs (T := tab) 1 rfl rfl ?_
          refine pd_call (enc := fun (r5 : Bool) => .v (.bool r5)) (qs := [.agg (cOp o1)]) (Op_Right_ok fu o1) rfl rfl ⟨⟨_, rfl, .rfl⟩, trivial⟩ (fun _ => rfl) call11 rfl rfl fun r5 hr5 => ?_
          refine pd_evs (T := tab) 2 rfl rfl ?_
          refine pd_split (j := 40) rfl ?_ ?_
          · refine pd_evs (T := tab) 13 rfl rfl ?_
            refine pd_nil ?_
            refine pn_seq (pw_then rfl ?_)
            refine pw_seq ?_
            refine pw_region ?_
            refine po_evs (T := tab) 1 rfl rfl ?_
            refine po_nil ?_
            refine pn_seq ?_
            exact pw_retN (T := tab) rfl rfl rfl ⟨rfl, rfl⟩ trivial rfl
          · refine pd_evs (T := tab) 1 rfl rfl ?_
            refine pd_call (enc := fun (r6 : Bool) => .v (.bool r6)) (qs := [.agg (cOp (⟨o1.Kind, o1.A, o1.B, o1.C, o1.S, o1.T, (!o1.Must)⟩ : Op))]) (Op_Still_ok fu (⟨o1.Kind, o1.A, o1.B, o1.C, o1.S, o1.T, (!o1.Must)⟩ : Op)) rfl rfl ⟨⟨_, rfl, .rfl⟩, trivial⟩ (fun _ => rfl) call12 rfl rfl fun r6 hr6 => ?_
            refine pd_evs (T := tab) 1 rfl rfl ?_
            refine pd_call (enc := fun (r7 : Bool) => .v (.bool r7)) (qs := [.agg (cOp o1)]) (Op_Still_ok fu o1) rfl rfl ⟨⟨_, rfl, .rfl⟩, trivial⟩ (fun _ => rfl) call12 rfl rfl fun r7 hr7 => ?_
            refine pd_evs (T := tab) 3 rfl rfl ?_
            refine pd_split (j := 47) rfl ?_ ?_
            · refine pd_evs (T := tab) 6 rfl rfl ?_
              refine pd_nil ?_
              refine pn_seq (pw_then rfl ?_)
              refine pw_seq ?_
              refine pw_region ?_
              refine po_evs (T := tab) 1 rfl rfl ?_
              refine po_nil ?_
              refine pn_seq ?_
              exact pw_retN (T := tab) rfl rfl rfl ⟨rfl, rfl⟩ trivial rfl
            · refine pd_evs (T := tab) 1 rfl rfl ?_
              refine pd_call (enc := fun (r8 : Bool) => .v (.bool r8)) (qs := [.agg (cOp (⟨o1.Kind, o1.A, o1.B, o1.C, o1.S, o1.T, (!o1.Must)⟩ : Op))]) (Op_Carries_ok fu (⟨o1.Kind, o1.A, o1.B, o1.C, o1.S, o1.T, (!o1.Must)⟩ : Op)) rfl rfl ⟨⟨_, rfl, .rfl⟩, trivial⟩ (fun _ => rfl) call14 rfl rfl fun r8 hr8 => ?_
              refine pd_evs (T := tab) 1 rfl rfl ?_
              refine pd_call (enc := fun (r9 : Bool) => .v (.bool r9)) (qs := [.agg (cOp o1)]) (Op_Carries_ok fu o1) rfl rfl ⟨⟨_, rfl, .rfl⟩, trivial⟩ (fun _ => rfl) call14 rfl rfl fun r9 hr9 => ?_
              refine pd_evs (T := tab) 2 rfl rfl ?_
              refine pd_nil ?_
              refine pn_seq ?_
              refine pw_cnd rfl ?_ ?_
              · refine pw_seq ?_
                refine pw_region ?_
                refine po_evs (T := tab) 1 rfl rfl ?_
                refine po_nil ?_
                refine pn_seq ?_
                exact pw_retN (T := tab) rfl rfl rfl ⟨rfl, rfl⟩ trivial rfl
              · refine pw_skip ?_
                refine pn_seq ?_
                refine pw_seq ?_
                refine pw_seq ?_
                refine pw_region ?_
                refine po_evs (T := tab) 1 rfl rfl ?_
                refine po_call (enc := fun (r10 : Bool) => .v (.bool r10)) (qs := [.agg (cOp o1)]) (Op_Right_ok fu o1) rfl rfl ⟨⟨_, rfl, .rfl⟩, trivial⟩ (fun _ => rfl) call11 rfl rfl fun r10 hr10 => ?_
                refine po_evs (T := tab) 1 rfl rfl ?_
                refine po_nil ?_
                refine pn_seq ?_
                refine pw_cnd rfl ?_ ?_
                · refine pw_seq ?_
                  refine pw_region ?_
                  refine po_evs (T := tab) 1 rfl rfl ?_
                  refine po_nil ?_
                  refine pn_seq ?_
                  exact pw_retN (T := tab) rfl rfl rfl ⟨rfl, rfl⟩ trivial rfl
                · refine pw_skip ?_
                  refine pn_seq ?_
                  refine pw_seq ?_
                  refine pw_region ?_
                  refine po_evs (T := tab) 1 rfl rfl ?_
                  refine po_nil ?_
                  refine pn_seq ?_
                  refine pw_seq ?_
                  refine pw_seq ?_
                  refine pw_region ?_
                  refine po_evs (T := tab) 1 rfl rfl ?_
                  refine po_nil ?_
                  refine pn_seq ?_
                  refine pw_block ?_
                  refine pw_loop' (Instarlaw16_OpKinds_l1 fu o1 s2) (fun ((feed11, i12) : Bool × Int) => [(1, .v (.string ⟨⟨s2⟩⟩)), (2, .loc 2 0), (6, .v (.bool feed11)), (7, .v (.int .i64 i12))]) (fun ((feed11, i12) : Bool × Int) => [(2, .box 23 [.v (.int .i64 o1.Kind), .v (.int .i64 o1.A), .v (.int .i64 o1.B), .v (.int .i64 o1.C), .v (.string ⟨⟨o1.S⟩⟩), .v (.string ⟨⟨o1.T⟩⟩), .v (.bool o1.Must)])]) fu (false, 0) (fun _ => rfl) ⟨rfl, rfl, rfl, rfl, trivial⟩ ⟨rfl, trivial⟩ rfl ?_
                  rintro k1 ⟨feed11, i12⟩
                  refine pw_seq ?_
                  refine pw_seq ?_
                  refine pw_region ?_
                  refine po_evs (T := tab) 4 rfl rfl ?_
                  refine po_nil ?_
                  refine pn_seq ?_
                  refine pw_cnd rfl ?_ ?_
                  · refine pw_skip ?_
                    refine pn_seq ?_
                    refine pw_seq ?_
                    refine pw_block ?_
                    refine pw_region ?_
                    refine po_evs (T := tab) 2 rfl rfl ?_
                    refine po_split (j := 64) rfl ?_ ?_
                    · refine po_evs (T := tab) 6 rfl rfl ?_
                      refine po_nil ?_
                      refine pn_block ?_
                      refine pn_seq ?_
                      refine pw_region ?_
                      refine po_evs (T := tab) 1 rfl rfl ?_
                      refine po_arith' (T := tab) rfl rfl rfl rfl fun i14 hi14 => ?_
                      refine po_evs (T := tab) 1 rfl rfl ?_
                      refine po_nil ?_
                      exact pn_iter' (true, i14) ⟨rfl, rfl, rfl, rfl, trivial⟩ ⟨rfl, trivial⟩ rfl
                    · refine po_evs (T := tab) 2 rfl rfl ?_
                      refine po_chr (T := tab) (s := s2) rfl rfl rfl rfl rfl rfl rfl fun b13 hb13 => ?_
                      refine po_evs (T := tab) 3 rfl rfl ?_
                      refine po_nil ?_
                      refine pn_block ?_
                      refine pn_seq ?_
                      refine pw_region ?_
                      refine po_evs (T := tab) 1 rfl rfl ?_
                      refine po_arith' (T := tab) rfl rfl rfl rfl fun i15 hi15 => ?_
                      refine po_evs (T := tab) 1 rfl rfl ?_
                      refine po_nil ?_
                      exact pn_iter' ((b13 == 10), i15) ⟨rfl, rfl, rfl, rfl, trivial⟩ ⟨rfl, trivial⟩ rfl
                  · refine pw_exit rfl ?_
                    refine pn_seq ?_
                    refine pw_seq ?_
                    refine pw_region ?_
                    refine po_joinK (Instarlaw16_OpKinds_j1 fu o1 s2) (fun (fits16 : Bool) => [(1, .v (.string ⟨⟨s2⟩⟩)), (2, .loc 2 0), (8, .v (.bool fits16))]) (fun (fits16 : Bool) => [(2, .box 23 [.v (.int .i64 o1.Kind), .v (.int .i64 o1.A), .v (.int .i64 o1.B), .v (.int .i64 o1.C), .v (.string ⟨⟨o1.S⟩⟩), .v (.string ⟨⟨o1.T⟩⟩), .v (.bool o1.Must)])]) ?_ fun hj1 => ?_
                    · rintro fits16
                      refine pn_seq ?_
                      refine pw_seq ?_
                      refine pw_region ?_
                      refine po_evs (T := tab) 1 rfl rfl ?_
                      refine po_build (T := tab) rfl rfl rfl rfl rfl rfl rfl ?_
                      refine po_alloc (T := tab) 9 rfl rfl rfl rfl rfl rfl rfl rfl rfl ?_
                      refine po_store (T := tab) rfl rfl rfl rfl rfl rfl rfl rfl rfl rfl rfl rfl ?_
                      refine po_nil ?_
                      refine pn_seq ?_
                      refine pw_seq ?_
                      refine pw_region ?_
                      refine po_evs (T := tab) 2 rfl rfl ?_
                      refine po_build (T := tab) rfl rfl rfl rfl rfl rfl rfl ?_
                      refine po_alloc (T := tab) 10 rfl rfl rfl rfl rfl rfl rfl rfl rfl ?_
                      refine po_store (T := tab) rfl rfl rfl rfl rfl rfl rfl rfl rfl rfl rfl rfl ?_
                      refine po_nil ?_
                      refine pn_seq ?_
                      refine pw_seq ?_
                      refine pw_seq ?_
                      refine pw_region ?_
                      refine po_evs (T := tab) 1 rfl rfl ?_
                      refine po_call (enc := fun (r17 : Bool) => .v (.bool r17)) (qs := [.agg (cOp (⟨17, 0, 0, 0, s2, [], false⟩ : Op))]) (Op_Right_ok fu (⟨17, 0, 0, 0, s2, [], false⟩ : Op)) rfl rfl ⟨⟨_, rfl, .rfl⟩, trivial⟩ (fun _ => rfl) call11 rfl rfl fun r17 hr17 => ?_
                      refine po_evs (T := tab) 3 rfl rfl ?_
                      refine po_split (j := 86) rfl ?_ ?_
                      · refine po_evs (T := tab) 5 rfl rfl ?_
                        refine po_nil ?_
                        refine pn_seq (pw_then rfl ?_)
                        refine pw_seq ?_
                        refine pw_region ?_
                        refine po_evs (T := tab) 1 rfl rfl ?_
                        refine po_nil ?_
                        refine pn_seq ?_
                        exact pw_retN (T := tab) rfl rfl rfl ⟨rfl, rfl⟩ trivial rfl
                      · refine po_evs (T := tab) 1 rfl rfl ?_
                        refine po_call (enc := fun (r18 : Bool) => .v (.bool r18)) (qs := [.agg (cOp (⟨9, (-2), 0, 0, s2, s2, false⟩ : Op))]) (Op_Right_ok fu (⟨9, (-2), 0, 0, s2, s2, false⟩ : Op)) rfl rfl ⟨⟨_, rfl, .rfl⟩, trivial⟩ (fun _ => rfl) call11 rfl rfl fun r18 hr18 => ?_
                        refine po_evs (T := tab) 3 rfl rfl ?_
                        refine po_nil ?_
                        refine pn_seq ?_
                        refine pw_cnd rfl ?_ ?_
                        · refine pw_seq ?_
                          refine pw_region ?_
                          refine po_evs (T := tab) 1 rfl rfl ?_
                          refine po_nil ?_
                          refine pn_seq ?_
                          exact pw_retN (T := tab) rfl rfl rfl ⟨rfl, rfl⟩ trivial rfl
                        · refine pw_skip ?_
                          refine pn_seq ?_
                          refine pw_seq ?_
                          refine pw_region ?_
                          refine po_evs (T := tab) 1 rfl rfl ?_
                          refine po_alloc (T := tab) 11 rfl rfl rfl rfl rfl rfl rfl rfl rfl ?_
                          refine po_store (T := tab) rfl rfl rfl rfl rfl rfl rfl rfl rfl rfl rfl rfl ?_
                          refine po_nil ?_
                          refine pn_seq ?_
                          refine pw_seq ?_
                          refine pw_region ?_
                          refine po_evs (T := tab) 1 rfl rfl ?_
                          refine po_store (T := tab) rfl rfl rfl rfl rfl rfl rfl rfl rfl rfl rfl rfl ?_
                          refine po_nil ?_
                          refine pn_seq ?_
                          refine pw_seq ?_
                          refine pw_region ?_
                          refine po_evs (T := tab) 1 rfl rfl ?_
                          refine po_alloc (T := tab) 12 rfl rfl rfl rfl rfl rfl rfl rfl rfl ?_
                          refine po_store (T := tab) rfl rfl rfl rfl rfl rfl rfl rfl rfl rfl rfl rfl ?_
                          refine po_nil ?_
                          refine pn_seq ?_
                          refine pw_seq ?_
                          refine pw_region ?_
                          refine po_evs (T := tab) 1 rfl rfl ?_
                          refine po_store (T := tab) rfl rfl rfl rfl rfl rfl rfl rfl rfl rfl rfl rfl ?_
                          refine po_nil ?_
                          refine pn_seq ?_
                          refine pw_seq ?_
                          refine pw_region ?_
                          refine po_evs (T := tab) 1 rfl rfl ?_
                          refine po_call (enc := fun (r19 : Bool) => .v (.bool r19)) (qs := [.agg (cOp (⟨o1.Kind, 1001, o1.B, o1.C, o1.S, o1.T, o1.Must⟩ : Op))]) (Op_Right_ok fu (⟨o1.Kind, 1001, o1.B, o1.C, o1.S, o1.T, o1.Must⟩ : Op)) rfl rfl ⟨⟨_, rfl, .rfl⟩, trivial⟩ (fun _ => rfl) call11 rfl rfl fun r19 hr19 => ?_
                          refine po_evs (T := tab) 2 rfl rfl ?_
                          refine po_split (j := 99) rfl ?_ ?_
                          · refine po_evs (T := tab) 1 rfl rfl ?_
                            refine po_call (enc := fun (r20 : Bool) => .v (.bool r20)) (qs := [.agg (cOp (⟨o1.Kind, o1.A, o1.B, (-1001), o1.S, o1.T, o1.Must⟩ : Op))]) (Op_Right_ok fu (⟨o1.Kind, o1.A, o1.B, (-1001), o1.S, o1.T, o1.Must⟩ : Op)) rfl rfl ⟨⟨_, rfl, .rfl⟩, trivial⟩ (fun _ => rfl) call11 rfl rfl fun r20 hr20 => ?_
                            refine po_evs (T := tab) 3 rfl rfl ?_
                            refine po_split (j := 104) rfl ?_ ?_
                            · refine po_evs (T := tab) 5 rfl rfl ?_
                              refine po_split (j := 109) rfl ?_ ?_
                              · refine po_evs (T := tab) 5 rfl rfl ?_
                                refine po_nil ?_
                                refine pn_seq ?_
                                exact pw_retN (T := tab) rfl rfl rfl ⟨rfl, rfl⟩ trivial rfl
                              · refine po_evs (T := tab) 5 rfl rfl ?_
                                refine po_nil ?_
                                refine pn_seq ?_
                                exact pw_retN (T := tab) rfl rfl rfl ⟨rfl, rfl⟩ trivial rfl
                            · refine po_evs (T := tab) 10 rfl rfl ?_
                              refine po_nil ?_
                              refine pn_seq ?_
                              exact pw_retN (T := tab) rfl rfl rfl ⟨rfl, rfl⟩ trivial rfl
                          · refine po_evs (T := tab) 15 rfl rfl ?_
                            refine po_nil ?_
                            refine pn_seq ?_
                            exact pw_retN (T := tab) rfl rfl rfl ⟨rfl, rfl⟩ trivial rfl
                    · refine po_evs (T := tab) 3 rfl rfl ?_
                      refine po_split (j := 72) rfl ?_ ?_
                      · refine po_evs (T := tab) 5 rfl rfl ?_
                        refine po_nil ?_
                        exact pn_sub' (hj1 (decide (((s2.length : Nat) : Int) ≤ 200))) ⟨rfl, rfl, rfl, trivial⟩ ⟨rfl, trivial⟩ rfl
                      · refine po_evs (T := tab) 5 rfl rfl ?_
                        refine po_nil ?_
                        exact pn_sub' (hj1 false) ⟨rfl, rfl, rfl, trivial⟩ ⟨rfl, trivial⟩ rfl

end Go.Proofs.YtkngnghbnhgfjaaGreatDoor
