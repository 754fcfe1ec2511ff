/- Models and proofs, printed by emit2.py. -/
import Derived.Test.YtcojcgljfgljjaaG1
namespace Go.Proofs.Ytcojcgljfgljjaa
open Go Go.Pw
set_option linter.unusedVariables false

set_option maxHeartbeats 10000000 in
set_option maxRecDepth 100000 in
theorem Instarref25_Calm_ok (fu : Nat) (c1 : Class) : ∀ r, Instarref25_Calm_m fu c1 = some r → DC Try.prog 10 [.agg (cClass c1)] (.v (.bool r)) := by
  intro r hr
  refine fc_intro (args := [.agg (cClass c1)]) (S := []) (N0 := []) (post := fun r p S => p = .v (.bool r) ∧ S = []) Try.func10 rfl rfl hr fun w0 X X0 σ0 => ?_
  refine pw_seq ?_
  refine pw_region ?_
  refine po_box  1 rfl rfl rfl rfl rfl rfl rfl rfl rfl rfl ?_
  refine po_evs (T := tab) 1 rfl rfl ?_
  refine po_nil ?_
  refine pn_seq ?_
  refine pw_seq ?_
  refine pw_seq ?_
  refine pw_region ?_
  refine po_evs (T := tab) 1 rfl rfl ?_
  refine po_nil ?_
  refine pn_seq ?_
  refine pw_block ?_
  refine pw_loop' (Instarref25_Calm_l1 fu c1) (fun (i2 : Int) => [(1, .loc 1 0), (3, .v (.int .i64 i2))]) (fun (i2 : Int) => [(1, .box [.v (.bool c1.Form), .sl 1 false (c1.Watch.map cStr), .sl 7 false (c1.Peek.map cOp), .sl 7 false (c1.Make.map cOp), .sl 2 false (c1.Hooks.map cHook)])]) fu 0 (fun _ => rfl) ⟨rfl, rfl, trivial⟩ ⟨rfl, trivial⟩ rfl ?_
  rintro k1 i2
  refine pw_seq ?_
  refine pw_seq ?_
  refine pw_region ?_
  refine po_evs (T := tab) 3 rfl rfl ?_
  refine po_len (T := tab) cHook c1.Hooks rfl rfl rfl rfl rfl rfl rfl rfl ?_
  refine po_evs (T := tab) 1 rfl rfl ?_
  refine po_nil ?_
  refine pn_seq ?_
  refine pw_cnd rfl ?_ ?_
  · refine pw_skip ?_
    refine pn_seq ?_
    refine pw_seq ?_
    refine pw_block ?_
    refine pw_seq ?_
    refine pw_region ?_
    refine po_evs (T := tab) 3 rfl rfl ?_
    refine po_idx (T := tab) cHook c1.Hooks rfl rfl rfl rfl rfl rfl rfl fun y3 hy3 => ?_
    refine po_evs (T := tab) 2 rfl rfl ?_
    refine po_call (enc := fun (r4 : Bool) => .v (.bool r4)) (qs := [.sl 7 false (y3.Do.map cOp)]) (Instarref25_calm_ok fu y3.Do) rfl rfl ⟨⟨_, rfl, .rfl⟩, trivial⟩ (fun _ => rfl) call32 rfl rfl fun r4 hr4 => ?_
    refine po_evs (T := tab) 1 rfl rfl ?_
    refine po_nil ?_
    refine pn_seq ?_
    refine pw_cnd rfl ?_ ?_
    · refine pw_seq ?_
      refine pw_region ?_
      refine po_evs (T := tab) 1 rfl rfl ?_
      refine po_nil ?_
      refine pn_seq ?_
      exact pw_retN (T := tab) rfl rfl rfl ⟨rfl, rfl⟩ trivial rfl
    · refine pw_skip ?_
      refine pn_block ?_
      refine pn_seq ?_
      refine pw_region ?_
      refine po_evs (T := tab) 1 rfl rfl ?_
      refine po_arith' (T := tab) rfl rfl rfl rfl fun i5 hi5 => ?_
      refine po_evs (T := tab) 1 rfl rfl ?_
      refine po_nil ?_
      exact pn_iter' i5 ⟨rfl, rfl, trivial⟩ ⟨rfl, trivial⟩ rfl
  · refine pw_exit rfl ?_
    refine pn_seq ?_
    refine pw_seq ?_
    refine pw_region ?_
    refine po_evs (T := tab) 2 rfl rfl ?_
    refine po_call (enc := fun (r6 : Bool) => .v (.bool r6)) (qs := [.sl 7 false (c1.Peek.map cOp)]) (Instarref25_calm_ok fu c1.Peek) rfl rfl ⟨⟨_, rfl, .rfl⟩, trivial⟩ (fun _ => rfl) call32 rfl rfl fun r6 hr6 => ?_
    refine po_evs (T := tab) 1 rfl rfl ?_
    refine po_split (j := 22) rfl ?_ ?_
    · refine po_evs (T := tab) 2 rfl rfl ?_
      refine po_call (enc := fun (r7 : Bool) => .v (.bool r7)) (qs := [.sl 7 false (c1.Make.map cOp)]) (Instarref25_calm_ok fu c1.Make) rfl rfl ⟨⟨_, rfl, .rfl⟩, trivial⟩ (fun _ => rfl) call32 rfl rfl fun r7 hr7 => ?_
      refine po_evs (T := tab) 2 rfl rfl ?_
      refine po_nil ?_
      refine pn_seq ?_
      exact pw_retN (T := tab) rfl rfl rfl ⟨rfl, rfl⟩ trivial rfl
    · refine po_evs (T := tab) 5 rfl rfl ?_
      refine po_nil ?_
      refine pn_seq ?_
      exact pw_retN (T := tab) rfl rfl rfl ⟨rfl, rfl⟩ trivial rfl

def Instarref25_Number_m (_fu : Nat) (n1 : Int) (a2 : Int) (b3 : Int) : Option Int := cnd (n1 == a2) (some b3) (cnd (n1 == b3) (some a2) (some n1))

set_option maxRecDepth 100000 in
theorem Instarref25_Number_ok (fu : Nat) (n1 : Int) (a2 : Int) (b3 : Int) : ∀ r, Instarref25_Number_m fu n1 a2 b3 = some r → DC Try.prog 39 [.v (.int .i64 n1), .v (.int .i64 a2), .v (.int .i64 b3)] (.v (.int .i64 r)) := by
  intro r hr
  refine fc_intro (args := [.v (.int .i64 n1), .v (.int .i64 a2), .v (.int .i64 b3)]) (S := []) (N0 := []) (post := fun r p S => p = .v (.int .i64 r) ∧ S = []) Try.func39 rfl rfl hr fun w0 X X0 σ0 => ?_
  refine pw_seq ?_
  refine pw_region ?_
  refine po_evs (T := tab) 1 rfl rfl ?_
  refine po_nil ?_
  refine pn_seq ?_
  refine pw_seq ?_
  refine pw_seq ?_
  refine pw_region ?_
  refine po_evs (T := tab) 3 rfl rfl ?_
  refine po_nil ?_
  refine pn_seq ?_
  refine pw_cnd rfl ?_ ?_
  · refine pw_seq ?_
    refine pw_region ?_
    refine po_evs (T := tab) 2 rfl rfl ?_
    refine po_nil ?_
    refine pn_seq ?_
    exact pw_retN (T := tab) rfl rfl rfl ⟨rfl, rfl⟩ trivial rfl
  · refine pw_skip ?_
    refine pn_seq ?_
    refine pw_seq ?_
    refine pw_seq ?_
    refine pw_region ?_
    refine po_evs (T := tab) 3 rfl rfl ?_
    refine po_nil ?_
    refine pn_seq ?_
    refine pw_cnd rfl ?_ ?_
    · refine pw_seq ?_
      refine pw_region ?_
      refine po_evs (T := tab) 2 rfl rfl ?_
      refine po_nil ?_
      refine pn_seq ?_
      exact pw_retN (T := tab) rfl rfl rfl ⟨rfl, rfl⟩ trivial rfl
    · refine pw_skip ?_
      refine pn_seq ?_
      refine pw_seq ?_
      refine pw_region ?_
      refine po_evs (T := tab) 2 rfl rfl ?_
      refine po_nil ?_
      refine pn_seq ?_
      exact pw_retN (T := tab) rfl rfl rfl ⟨rfl, rfl⟩ trivial rfl

def Instarref25_classed_l1 (fu : Nat) (l1 : (List Op)) (a2 : Int) (b3 : Int) : Nat → Int × (List Op) → Option (List Op)
  | 0, _ => none
  | k1 + 1, (i4, l5) => cnd (decide (i4 < ((l1.length : Nat) : Int))) (bnd (idx l1 i4) fun y6 => cnd (y6.Kind == 16) (bnd (Instarref25_Number_m fu y6.A a2 b3) fun r7 => bnd (roomy 72 (l5.length + ([(⟨y6.Kind, r7, y6.B, y6.C, y6.S, y6.T, y6.Must⟩ : Op)] : List Op).length)) fun _ => bnd (rng .i64 (i4 + 1)) fun i9 => (Instarref25_classed_l1 fu l1 a2 b3 k1) (i9, (l5 ++ [(⟨y6.Kind, r7, y6.B, y6.C, y6.S, y6.T, y6.Must⟩ : Op)]))) (cnd (y6.Kind == 19) (bnd (Instarref25_Number_m fu y6.A a2 b3) fun r8 => bnd (roomy 72 (l5.length + ([(⟨y6.Kind, r8, y6.B, y6.C, y6.S, y6.T, y6.Must⟩ : Op)] : List Op).length)) fun _ => bnd (rng .i64 (i4 + 1)) fun i10 => (Instarref25_classed_l1 fu l1 a2 b3 k1) (i10, (l5 ++ [(⟨y6.Kind, r8, y6.B, y6.C, y6.S, y6.T, y6.Must⟩ : Op)]))) (bnd (roomy 72 (l5.length + ([y6] : List Op).length)) fun _ => bnd (rng .i64 (i4 + 1)) fun i11 => (Instarref25_classed_l1 fu l1 a2 b3 k1) (i11, (l5 ++ [y6]))))) (some l5)

def Instarref25_classed_m (fu : Nat) (l1 : (List Op)) (a2 : Int) (b3 : Int) : Option (List Op) := (Instarref25_classed_l1 fu l1 a2 b3) fu (0, [])

set_option maxHeartbeats 10000000 in
set_option maxRecDepth 100000 in
theorem Instarref25_classed_ok (fu : Nat) (l1 : (List Op)) (a2 : Int) (b3 : Int) : ∀ r, Instarref25_classed_m fu l1 a2 b3 = some r → DC Try.prog 38 [.sl 7 false (l1.map cOp), .v (.int .i64 a2), .v (.int .i64 b3)] (.sl 7 false (r.map cOp)) := by
  intro r hr
  refine fc_intro (args := [.sl 7 false (l1.map cOp), .v (.int .i64 a2), .v (.int .i64 b3)]) (S := []) (N0 := []) (post := fun r p S => p = .sl 7 false (r.map cOp) ∧ S = []) Try.func38 rfl rfl hr fun w0 X X0 σ0 => ?_
  refine pw_seq ?_
  refine pw_region ?_
  refine po_evs (T := tab) 1 rfl rfl ?_
  refine po_nil ?_
  refine pn_seq ?_
  refine pw_seq ?_
  refine pw_region ?_
  refine po_evs (T := tab) 1 rfl rfl ?_
  refine po_nil ?_
  refine pn_seq ?_
  refine pw_seq ?_
  refine pw_seq ?_
  refine pw_region ?_
  refine po_evs (T := tab) 1 rfl rfl ?_
  refine po_nil ?_
  refine pn_seq ?_
  refine pw_block ?_
  refine pw_own_nil 1037 48 7 7 rfl rfl rfl rfl ?_
  refine pw_loop' (Instarref25_classed_l1 fu l1 a2 b3) (fun ((i4, l5) : Int × (List Op)) => [(0, .sl 7 false (l1.map cOp)), (1, .v (.int .i64 a2)), (2, .v (.int .i64 b3)), (7, .own 1037), (8, .v (.int .i64 i4))]) (fun ((i4, l5) : Int × (List Op)) => [(1037, .arr 48 7 (l5.map cOp))]) fu (0, []) (fun _ => rfl) ⟨rfl, rfl, rfl, rfl, rfl, trivial⟩ ⟨rfl, trivial⟩ rfl ?_
  rintro k1 ⟨i4, l5⟩
  refine pw_seq ?_
  refine pw_seq ?_
  refine pw_region ?_
  refine po_evs (T := tab) 2 rfl rfl ?_
  refine po_len (T := tab) cOp l1 rfl rfl rfl rfl rfl rfl rfl rfl ?_
  refine po_evs (T := tab) 1 rfl rfl ?_
  refine po_nil ?_
  refine pn_seq ?_
  refine pw_cnd rfl ?_ ?_
  · refine pw_skip ?_
    refine pn_seq ?_
    refine pw_seq ?_
    refine pw_block ?_
    refine pw_seq ?_
    refine pw_region ?_
    refine po_evs (T := tab) 2 rfl rfl ?_
    refine po_idx (T := tab) cOp l1 rfl rfl rfl rfl rfl rfl rfl fun y6 hy6 => ?_
    refine po_evs (T := tab) 1 rfl rfl ?_
    refine po_alloc (T := tab) 9 rfl rfl rfl rfl rfl rfl rfl rfl rfl ?_
    refine po_store (T := tab) rfl rfl rfl rfl rfl rfl rfl rfl rfl rfl rfl rfl ?_
    refine po_nil ?_
    refine pn_seq ?_
    refine pw_seq ?_
    refine pw_seq ?_
    refine pw_region ?_
    refine po_evs (T := tab) 4 rfl rfl ?_
    refine po_split (j := 23) rfl ?_ ?_
    · refine po_evs (T := tab) 4 rfl rfl ?_
      refine po_nil ?_
      refine pn_seq (pw_then rfl ?_)
      refine pw_region ?_
      refine po_evs (T := tab) 4 rfl rfl ?_
      refine po_call (enc := fun (r7 : Int) => .v (.int .i64 r7)) (qs := [.v (.int .i64 y6.A), .v (.int .i64 a2), .v (.int .i64 b3)]) (Instarref25_Number_ok fu y6.A a2 b3) rfl rfl ⟨⟨_, rfl, .rfl⟩, ⟨_, rfl, .rfl⟩, ⟨_, rfl, .rfl⟩, trivial⟩ (fun _ => rfl) call39 rfl rfl fun r7 hr7 => ?_
      refine po_evs (T := tab) 1 rfl rfl ?_
      refine po_store (T := tab) rfl rfl rfl rfl rfl rfl rfl rfl rfl rfl rfl rfl ?_
      refine po_nil ?_
      refine pn_seq ?_
      refine pw_region ?_
      refine po_evs (T := tab) 2 rfl rfl ?_
      refine po_lit (T := tab) (rows := [(⟨y6.Kind, r7, y6.B, y6.C, y6.S, y6.T, y6.Must⟩ : Op)].map cOp) 36 rfl rfl rfl rfl rfl rfl rfl rfl rfl rfl rfl rfl rfl rfl ?_
      refine po_append (T := tab) cOp l5 ([(⟨y6.Kind, r7, y6.B, y6.C, y6.S, y6.T, y6.Must⟩ : Op)] : List Op) rfl rfl rfl rfl rfl rfl rfl rfl rfl rfl rfl rfl rfl rfl (cOp_one _) rfl rfl rfl rfl rfl ?_
      refine po_evs (T := tab) 1 rfl rfl ?_
      refine po_nil ?_
      refine pn_block ?_
      refine pn_seq ?_
      refine pw_region ?_
      refine po_evs (T := tab) 1 rfl rfl ?_
      refine po_arith' (T := tab) rfl rfl rfl rfl fun i9 hi9 => ?_
      refine po_evs (T := tab) 1 rfl rfl ?_
      refine po_nil ?_
      exact pn_iter' (i9, (l5 ++ [(⟨y6.Kind, r7, y6.B, y6.C, y6.S, y6.T, y6.Must⟩ : Op)])) ⟨rfl, rfl, rfl, rfl, rfl, trivial⟩ ⟨rfl, trivial⟩ rfl
    · refine po_evs (T := tab) 4 rfl rfl ?_
      refine po_nil ?_
      refine pn_seq ?_
      refine pw_cnd rfl ?_ ?_
      · refine pw_region ?_
        refine po_evs (T := tab) 4 rfl rfl ?_
        refine po_call (enc := fun (r8 : Int) => .v (.int .i64 r8)) (qs := [.v (.int .i64 y6.A), .v (.int .i64 a2), .v (.int .i64 b3)]) (Instarref25_Number_ok fu y6.A a2 b3) rfl rfl ⟨⟨_, rfl, .rfl⟩, ⟨_, rfl, .rfl⟩, ⟨_, rfl, .rfl⟩, trivial⟩ (fun _ => rfl) call39 rfl rfl fun r8 hr8 => ?_
        refine po_evs (T := tab) 1 rfl rfl ?_
        refine po_store (T := tab) rfl rfl rfl rfl rfl rfl rfl rfl rfl rfl rfl rfl ?_
        refine po_nil ?_
        refine pn_seq ?_
        refine pw_region ?_
        refine po_evs (T := tab) 2 rfl rfl ?_
        refine po_lit (T := tab) (rows := [(⟨y6.Kind, r8, y6.B, y6.C, y6.S, y6.T, y6.Must⟩ : Op)].map cOp) 36 rfl rfl rfl rfl rfl rfl rfl rfl rfl rfl rfl rfl rfl rfl ?_
        refine po_append (T := tab) cOp l5 ([(⟨y6.Kind, r8, y6.B, y6.C, y6.S, y6.T, y6.Must⟩ : Op)] : List Op) rfl rfl rfl rfl rfl rfl rfl rfl rfl rfl rfl rfl rfl rfl (cOp_one _) rfl rfl rfl rfl rfl ?_
        refine po_evs (T := tab) 1 rfl rfl ?_
        refine po_nil ?_
        refine pn_block ?_
        refine pn_seq ?_
        refine pw_region ?_
        refine po_evs (T := tab) 1 rfl rfl ?_
        refine po_arith' (T := tab) rfl rfl rfl rfl fun i10 hi10 => ?_
        refine po_evs (T := tab) 1 rfl rfl ?_
        refine po_nil ?_
        exact pn_iter' (i10, (l5 ++ [(⟨y6.Kind, r8, y6.B, y6.C, y6.S, y6.T, y6.Must⟩ : Op)])) ⟨rfl, rfl, rfl, rfl, rfl, trivial⟩ ⟨rfl, trivial⟩ rfl
      · refine pw_skip ?_
        refine pn_seq ?_
        refine pw_region ?_
        refine po_evs (T := tab) 2 rfl rfl ?_
        refine po_lit (T := tab) (rows := [y6].map cOp) 36 rfl rfl rfl rfl rfl rfl rfl rfl rfl rfl rfl rfl rfl rfl ?_
        refine po_append (T := tab) cOp l5 ([y6] : List Op) rfl rfl rfl rfl rfl rfl rfl rfl rfl rfl rfl rfl rfl rfl (cOp_one _) rfl rfl rfl rfl rfl ?_
        refine po_evs (T := tab) 1 rfl rfl ?_
        refine po_nil ?_
        refine pn_block ?_
        refine pn_seq ?_
        refine pw_region ?_
        refine po_evs (T := tab) 1 rfl rfl ?_
        refine po_arith' (T := tab) rfl rfl rfl rfl fun i11 hi11 => ?_
        refine po_evs (T := tab) 1 rfl rfl ?_
        refine po_nil ?_
        exact pn_iter' (i11, (l5 ++ [y6])) ⟨rfl, rfl, rfl, rfl, rfl, trivial⟩ ⟨rfl, trivial⟩ rfl
  · refine pw_exit rfl ?_
    refine pn_seq ?_
    refine pw_seq ?_
    refine pw_region ?_
    refine po_evs (T := tab) 2 rfl rfl ?_
    refine po_nil ?_
    refine pn_seq ?_
    refine pw_freeze 1037 rfl rfl rfl ?_
    exact pw_retN (T := tab) rfl rfl rfl ⟨rfl, rfl⟩ trivial rfl

def Instarref25_Classes_l2 (fu : Nat) (a2 : Int) (b3 : Int) (i5 : Int) (l6 : (List Class)) (y8 : Class) (r9 : (List Op)) (r10 : (List Op)) (rc1 : (Int × (List Class)) → Option Script) : Nat → Int × (List Hook) → Option Script
  | 0, _ => none
  | k2 + 1, (k11, l12) => cnd (decide (k11 < ((y8.Hooks.length : Nat) : Int))) (bnd (idx y8.Hooks k11) fun y13 => bnd (idx y8.Hooks k11) fun y14 => bnd (Instarref25_classed_m fu y14.Do a2 b3) fun r15 => bnd (roomy 32 (l12.length + ([(⟨y13.Kind, r15⟩ : Hook)] : List Hook).length)) fun _ => bnd (rng .i64 (k11 + 1)) fun i16 => (Instarref25_Classes_l2 fu a2 b3 i5 l6 y8 r9 r10 rc1 k2) (i16, (l12 ++ [(⟨y13.Kind, r15⟩ : Hook)]))) (bnd (roomy 104 (l6.length + ([(⟨y8.Form, y8.Watch, r9, r10, l12⟩ : Class)] : List Class).length)) fun _ => bnd (rng .i64 (i5 + 1)) fun i17 => rc1 (i17, (l6 ++ [(⟨y8.Form, y8.Watch, r9, r10, l12⟩ : Class)])))

def Instarref25_Classes_l1 (fu : Nat) (s1 : Script) (a2 : Int) (b3 : Int) (r4 : (List Op)) : Nat → Int × (List Class) → Option Script
  | 0, _ => none
  | k1 + 1, (i5, l6) => cnd (decide (i5 < ((s1.Classes.length : Nat) : Int))) (bnd (Instarref25_Number_m fu i5 a2 b3) fun r7 => bnd (idx s1.Classes r7) fun y8 => bnd (Instarref25_classed_m fu y8.Peek a2 b3) fun r9 => bnd (Instarref25_classed_m fu y8.Make a2 b3) fun r10 => (Instarref25_Classes_l2 fu a2 b3 i5 l6 y8 r9 r10 (Instarref25_Classes_l1 fu s1 a2 b3 r4 k1)) fu (0, [])) (some (⟨l6, r4⟩ : Script))

def Instarref25_Classes_m (fu : Nat) (s1 : Script) (a2 : Int) (b3 : Int) : Option Script := cnd (decide (a2 < 0)) (some s1) (cnd (decide (b3 < 0)) (some s1) (cnd (decide (a2 ≥ ((s1.Classes.length : Nat) : Int))) (some s1) (cnd (decide (b3 ≥ ((s1.Classes.length : Nat) : Int))) (some s1) (bnd (Instarref25_classed_m fu s1.Main a2 b3) fun r4 => (Instarref25_Classes_l1 fu s1 a2 b3 r4) fu (0, [])))))

set_option maxHeartbeats 10000000 in
set_option maxRecDepth 100000 in
theorem Instarref25_Classes_ok (fu : Nat) (s1 : Script) (a2 : Int) (b3 : Int) : ∀ r, Instarref25_Classes_m fu s1 a2 b3 = some r → DC Try.prog 13 [.agg (cScript s1), .v (.int .i64 a2), .v (.int .i64 b3)] (.agg (cScript r)) := by
  intro r hr
  refine fc_intro (args := [.agg (cScript s1), .v (.int .i64 a2), .v (.int .i64 b3)]) (S := []) (N0 := []) (post := fun r p S => p = .agg (cScript r) ∧ S = []) Try.func13 rfl rfl hr fun w0 X X0 σ0 => ?_
  refine pw_seq ?_
  refine pw_region ?_
  refine po_box  3 rfl rfl rfl rfl rfl rfl rfl rfl rfl rfl ?_
  refine po_alloc (T := tab) 6 rfl rfl rfl rfl rfl rfl rfl rfl rfl ?_
  refine po_nil ?_
  refine pn_seq ?_
  refine pw_seq ?_
  refine pw_region ?_
  refine po_evs (T := tab) 2 rfl rfl ?_
  refine po_len (T := tab) cClass s1.Classes rfl rfl rfl rfl rfl rfl rfl rfl ?_
  refine po_evs (T := tab) 1 rfl rfl ?_
  refine po_nil ?_
  refine pn_seq ?_
  refine pw_seq ?_
  refine pw_seq ?_
  refine pw_region ?_
  refine po_evs (T := tab) 3 rfl rfl ?_
  refine po_split (j := 18) rfl ?_ ?_
  · refine po_evs (T := tab) 13 rfl rfl ?_
    refine po_nil ?_
    refine pn_seq (pw_then rfl ?_)
    refine pw_seq ?_
    refine pw_region ?_
    refine po_evs (T := tab) 1 rfl rfl ?_
    refine po_store (T := tab) rfl rfl rfl rfl rfl rfl rfl rfl rfl rfl rfl rfl ?_
    refine po_nil ?_
    refine pn_seq ?_
    exact pw_retN (T := tab) rfl rfl rfl ⟨rfl, rfl⟩ trivial rfl
  · refine po_evs (T := tab) 4 rfl rfl ?_
    refine po_split (j := 22) rfl ?_ ?_
    · refine po_evs (T := tab) 9 rfl rfl ?_
      refine po_nil ?_
      refine pn_seq (pw_then rfl ?_)
      refine pw_seq ?_
      refine pw_region ?_
      refine po_evs (T := tab) 1 rfl rfl ?_
      refine po_store (T := tab) rfl rfl rfl rfl rfl rfl rfl rfl rfl rfl rfl rfl ?_
      refine po_nil ?_
      refine pn_seq ?_
      exact pw_retN (T := tab) rfl rfl rfl ⟨rfl, rfl⟩ trivial rfl
    · refine po_evs (T := tab) 5 rfl rfl ?_
      refine po_split (j := 27) rfl ?_ ?_
      · refine po_evs (T := tab) 4 rfl rfl ?_
        refine po_nil ?_
        refine pn_seq (pw_then rfl ?_)
        refine pw_seq ?_
        refine pw_region ?_
        refine po_evs (T := tab) 1 rfl rfl ?_
        refine po_store (T := tab) rfl rfl rfl rfl rfl rfl rfl rfl rfl rfl rfl rfl ?_
        refine po_nil ?_
        refine pn_seq ?_
        exact pw_retN (T := tab) rfl rfl rfl ⟨rfl, rfl⟩ trivial rfl
      · refine po_evs (T := tab) 4 rfl rfl ?_
        refine po_nil ?_
        refine pn_seq ?_
        refine pw_cnd rfl ?_ ?_
        · refine pw_seq ?_
          refine pw_region ?_
          refine po_evs (T := tab) 1 rfl rfl ?_
          refine po_store (T := tab) rfl rfl rfl rfl rfl rfl rfl rfl rfl rfl rfl rfl ?_
          refine po_nil ?_
          refine pn_seq ?_
          exact pw_retN (T := tab) rfl rfl rfl ⟨rfl, rfl⟩ trivial rfl
        · refine pw_skip ?_
          refine pn_seq ?_
          refine pw_seq ?_
          refine pw_region ?_
          refine po_evs (T := tab) 4 rfl rfl ?_
          refine po_call (enc := fun (r4 : (List Op)) => .sl 7 false (r4.map cOp)) (qs := [.sl 7 false (s1.Main.map cOp), .v (.int .i64 a2), .v (.int .i64 b3)]) (Instarref25_classed_ok fu s1.Main a2 b3) rfl rfl ⟨⟨_, rfl, .rfl⟩, ⟨_, rfl, .rfl⟩, ⟨_, rfl, .rfl⟩, trivial⟩ (fun _ => rfl) call38 rfl rfl fun r4 hr4 => ?_
          refine po_build (T := tab) rfl rfl rfl rfl rfl rfl rfl ?_
          refine po_alloc (T := tab) 8 rfl rfl rfl rfl rfl rfl rfl rfl rfl ?_
          refine po_store (T := tab) rfl rfl rfl rfl rfl rfl rfl rfl rfl rfl rfl rfl ?_
          refine po_nil ?_
          refine pn_seq ?_
          refine pw_seq ?_
          refine pw_seq ?_
          refine pw_region ?_
          refine po_evs (T := tab) 1 rfl rfl ?_
          refine po_nil ?_
          refine pn_seq ?_
          refine pw_block ?_
          refine pw_own_nilS 1099 37 5 8 0 rfl rfl rfl rfl rfl rfl ?_
          refine pw_loop' (Instarref25_Classes_l1 fu s1 a2 b3 r4) (fun ((i5, l6) : Int × (List Class)) => [(1, .v (.int .i64 a2)), (2, .v (.int .i64 b3)), (3, .loc 3 0), (6, .loc 6 0), (7, .v (.int .i64 ((s1.Classes.length : Nat) : Int))), (8, .loc 8 0), (9, .v (.int .i64 i5))]) (fun ((i5, l6) : Int × (List Class)) => [(1099, .arr 37 5 (l6.map cClass)), (8, .box [.own 1099, .sl 7 false (r4.map cOp)]), (6, .box [.v (.slice none 0 0), .v (.slice none 0 0)]), (3, .box [.sl 5 false (s1.Classes.map cClass), .sl 7 false (s1.Main.map cOp)])]) fu (0, []) (fun _ => rfl) ⟨rfl, rfl, rfl, rfl, rfl, rfl, rfl, trivial⟩ ⟨rfl, rfl, rfl, rfl, trivial⟩ rfl ?_
          rintro k1 ⟨i5, l6⟩
          refine pw_seq ?_
          refine pw_seq ?_
          refine pw_region ?_
          refine po_evs (T := tab) 3 rfl rfl ?_
          refine po_nil ?_
          refine pn_seq ?_
          refine pw_cnd rfl ?_ ?_
          · refine pw_skip ?_
            refine pn_seq ?_
            refine pw_seq ?_
            refine pw_block ?_
            refine pw_seq ?_
            refine pw_sub' (E' := [(1, .v (.int .i64 a2)), (2, .v (.int .i64 b3)), (3, .loc 3 0), (6, .loc 6 0), (7, .v (.int .i64 ((s1.Classes.length : Nat) : Int))), (8, .loc 8 0), (9, .v (.int .i64 i5))]) (S' := [(1099, .arr 37 5 (l6.map cClass)), (8, .box [.own 1099, .sl 7 false (r4.map cOp)]), (6, .box [.v (.slice none 0 0), .v (.slice none 0 0)]), (3, .box [.sl 5 false (s1.Classes.map cClass), .sl 7 false (s1.Main.map cOp)])]) ?_ ⟨rfl, rfl, rfl, rfl, rfl, rfl, rfl, trivial⟩ ⟨rfl, rfl, rfl, rfl, trivial⟩ rfl
            refine pw_drawV [0, 1, 0, 0, 0, 28, 63, 127, 0, 511] mixed (by kernel_rfl) (by kernel_rfl) rfl rfl ?_
            refine pdv_step0 [6] [88] [] [3] [] [(44, .loc 3 0)] [] rfl rfl rfl rfl (by kernel_rfl) (by kernel_rfl) (by kernel_rfl) trivial (fun w0 X X0 σ0 => by refine po_evs (T := tab) 1 rfl rfl ?_; refine po_nil ?_; exact pn_end0 ⟨rfl, trivial⟩ trivial rfl) ?_
            refine pdv_step0 [7, 88] [90] [] [3] [3] [(45, .sl 5 false (s1.Classes.map cClass))] [(3, .box [.sl 5 false (s1.Classes.map cClass), .sl 7 false (s1.Main.map cOp)])] rfl rfl rfl rfl (by kernel_rfl) (by kernel_rfl) (by kernel_rfl) ⟨rfl, trivial⟩ (fun w0 X X0 σ0 => by refine po_evs (T := tab) 1 rfl rfl ?_; refine po_nil ?_; exact pn_end0 ⟨rfl, trivial⟩ ⟨rfl, trivial⟩ rfl) ?_
            refine pdv_step0 [18] [92] [] [] [] [(46, .v (.int .i64 i5))] [] rfl rfl rfl rfl (by kernel_rfl) (by kernel_rfl) (by kernel_rfl) trivial (fun w0 X X0 σ0 => by refine po_evs (T := tab) 1 rfl rfl ?_; refine po_nil ?_; exact pn_end0 ⟨rfl, trivial⟩ trivial rfl) ?_
            refine pdv_step0 [2] [94] [] [] [] [(47, .v (.int .i64 a2))] [] rfl rfl rfl rfl (by kernel_rfl) (by kernel_rfl) (by kernel_rfl) trivial (fun w0 X X0 σ0 => by refine po_evs (T := tab) 1 rfl rfl ?_; refine po_nil ?_; exact pn_end0 ⟨rfl, trivial⟩ trivial rfl) ?_
            refine pdv_step0 [4] [96] [] [] [] [(48, .v (.int .i64 b3))] [] rfl rfl rfl rfl (by kernel_rfl) (by kernel_rfl) (by kernel_rfl) trivial (fun w0 X X0 σ0 => by refine po_evs (T := tab) 1 rfl rfl ?_; refine po_nil ?_; exact pn_end0 ⟨rfl, trivial⟩ trivial rfl) ?_
            refine pdv_step (M := (Instarref25_Number_m fu i5 a2 b3)) (ment := [(98, [])]) [92, 94, 96] [98] [] [] [] (fun r7 => [(49, .v (.int .i64 r7))]) (fun r7 => []) rfl rfl (fun _ => rfl) (fun _ => rfl) (by kernel_rfl) (by kernel_rfl) (fun _ => by kernel_rfl) (fun _ => trivial) (fun w0 X X0 σ0 => by refine po_call (enc := fun (r7 : Int) => .v (.int .i64 r7)) (qs := [.v (.int .i64 i5), .v (.int .i64 a2), .v (.int .i64 b3)]) (Instarref25_Number_ok fu i5 a2 b3) rfl rfl ⟨⟨_, rfl, .rfl⟩, ⟨_, rfl, .rfl⟩, ⟨_, rfl, .rfl⟩, trivial⟩ (fun _ => rfl) call39 rfl rfl fun r7 hr7 => ?_; refine po_nil ?_; exact pn_end ⟨rfl, trivial⟩ trivial rfl) fun r7 hr7 => ?_
            refine pdv_step (M := (idx s1.Classes r7)) (ment := [(100, [])]) [90, 98] [100] [] [] [] (fun y8 => [(50, .el (cClass y8) 0)]) (fun y8 => []) rfl rfl (fun _ => rfl) (fun _ => rfl) (by kernel_rfl) (by kernel_rfl) (fun _ => by kernel_rfl) (fun _ => trivial) (fun w0 X X0 σ0 => by refine po_idx (T := tab) cClass s1.Classes rfl rfl rfl rfl rfl rfl rfl fun y8 hy8 => ?_; refine po_nil ?_; exact pn_end ⟨rfl, trivial⟩ trivial rfl) fun y8 hy8 => ?_
            refine pdv_step0 [100] [102] [] [] [] [(51, .agg (cClass y8))] [] rfl rfl rfl rfl (by kernel_rfl) (by kernel_rfl) (by kernel_rfl) trivial (fun w0 X X0 σ0 => by refine po_evs (T := tab) 1 rfl rfl ?_; refine po_nil ?_; exact pn_end0 ⟨rfl, trivial⟩ trivial rfl) ?_
            refine pdv_step0 [] [20, 21] [10] [] [] [(10, .loc 10 0)] [(10, .box [.v (.bool false), .v (.slice none 0 0), .v (.slice none 0 0), .v (.slice none 0 0), .v (.slice none 0 0)])] rfl rfl rfl rfl (by kernel_rfl) (by kernel_rfl) (by kernel_rfl) trivial (fun w0 X X0 σ0 => by refine po_alloc (T := tab) 10 rfl rfl rfl rfl rfl rfl rfl rfl rfl ?_; refine po_nil ?_; exact pn_end0 ⟨rfl, trivial⟩ ⟨rfl, trivial⟩ rfl) ?_
            refine pdv_step0 [20, 21, 102] [21] [] [10] [] [] [(10, .box [.v (.bool y8.Form), .sl 1 false (y8.Watch.map cStr), .sl 7 false (y8.Peek.map cOp), .sl 7 false (y8.Make.map cOp), .sl 2 false (y8.Hooks.map cHook)])] rfl rfl rfl rfl (by kernel_rfl) (by kernel_rfl) (by kernel_rfl) trivial (fun w0 X X0 σ0 => by refine po_store (T := tab) rfl rfl rfl rfl rfl rfl rfl rfl rfl rfl rfl rfl ?_; refine po_nil ?_; exact pn_end0 trivial ⟨rfl, trivial⟩ rfl) ?_
            refine pdv_nil rfl rfl ?_
            refine pn_seq ?_
            refine pw_seq ?_
            refine pw_sub' (E' := [(1, .v (.int .i64 a2)), (2, .v (.int .i64 b3)), (3, .loc 3 0), (6, .loc 6 0), (7, .v (.int .i64 ((s1.Classes.length : Nat) : Int))), (8, .loc 8 0), (9, .v (.int .i64 i5)), (10, .loc 10 0)]) (S' := [(10, .box [.v (.bool y8.Form), .sl 1 false (y8.Watch.map cStr), .sl 7 false (y8.Peek.map cOp), .sl 7 false (y8.Make.map cOp), .sl 2 false (y8.Hooks.map cHook)]), (1099, .arr 37 5 (l6.map cClass)), (8, .box [.own 1099, .sl 7 false (r4.map cOp)]), (6, .box [.v (.slice none 0 0), .v (.slice none 0 0)]), (3, .box [.sl 5 false (s1.Classes.map cClass), .sl 7 false (s1.Main.map cOp)])]) ?_ ⟨rfl, rfl, rfl, rfl, rfl, rfl, rfl, rfl, trivial⟩ ⟨rfl, rfl, rfl, rfl, rfl, trivial⟩ rfl
            refine pw_drawV [0, 1, 0, 4, 0, 16, 0, 0, 240, 0, 512, 0, 0, 8176, 16383, 0, 65535] mixed (by kernel_rfl) (by kernel_rfl) rfl rfl ?_
            refine pdv_step0 [20] [104] [] [10] [] [(52, .loc 10 0)] [] rfl rfl rfl rfl (by kernel_rfl) (by kernel_rfl) (by kernel_rfl) trivial (fun w0 X X0 σ0 => by refine po_evs (T := tab) 1 rfl rfl ?_; refine po_nil ?_; exact pn_end0 ⟨rfl, trivial⟩ trivial rfl) ?_
            refine pdv_step0 [21, 104] [106] [] [10] [10] [(53, .v (.bool y8.Form))] [(10, .box [.v (.bool y8.Form), .sl 1 false (y8.Watch.map cStr), .sl 7 false (y8.Peek.map cOp), .sl 7 false (y8.Make.map cOp), .sl 2 false (y8.Hooks.map cHook)])] rfl rfl rfl rfl (by kernel_rfl) (by kernel_rfl) (by kernel_rfl) ⟨rfl, trivial⟩ (fun w0 X X0 σ0 => by refine po_evs (T := tab) 1 rfl rfl ?_; refine po_nil ?_; exact pn_end0 ⟨rfl, trivial⟩ ⟨rfl, trivial⟩ rfl) ?_
            refine pdv_step0 [20] [108] [] [10] [] [(54, .loc 10 1)] [] rfl rfl rfl rfl (by kernel_rfl) (by kernel_rfl) (by kernel_rfl) trivial (fun w0 X X0 σ0 => by refine po_evs (T := tab) 1 rfl rfl ?_; refine po_nil ?_; exact pn_end0 ⟨rfl, trivial⟩ trivial rfl) ?_
            refine pdv_step0 [21, 108] [110] [] [10] [10] [(55, .sl 1 false (y8.Watch.map cStr))] [(10, .box [.v (.bool y8.Form), .sl 1 false (y8.Watch.map cStr), .sl 7 false (y8.Peek.map cOp), .sl 7 false (y8.Make.map cOp), .sl 2 false (y8.Hooks.map cHook)])] rfl rfl rfl rfl (by kernel_rfl) (by kernel_rfl) (by kernel_rfl) ⟨rfl, trivial⟩ (fun w0 X X0 σ0 => by refine po_evs (T := tab) 1 rfl rfl ?_; refine po_nil ?_; exact pn_end0 ⟨rfl, trivial⟩ ⟨rfl, trivial⟩ rfl) ?_
            refine pdv_step0 [20] [112] [] [10] [] [(56, .loc 10 2)] [] rfl rfl rfl rfl (by kernel_rfl) (by kernel_rfl) (by kernel_rfl) trivial (fun w0 X X0 σ0 => by refine po_evs (T := tab) 1 rfl rfl ?_; refine po_nil ?_; exact pn_end0 ⟨rfl, trivial⟩ trivial rfl) ?_
            refine pdv_step0 [21, 112] [114] [] [10] [10] [(57, .sl 7 false (y8.Peek.map cOp))] [(10, .box [.v (.bool y8.Form), .sl 1 false (y8.Watch.map cStr), .sl 7 false (y8.Peek.map cOp), .sl 7 false (y8.Make.map cOp), .sl 2 false (y8.Hooks.map cHook)])] rfl rfl rfl rfl (by kernel_rfl) (by kernel_rfl) (by kernel_rfl) ⟨rfl, trivial⟩ (fun w0 X X0 σ0 => by refine po_evs (T := tab) 1 rfl rfl ?_; refine po_nil ?_; exact pn_end0 ⟨rfl, trivial⟩ ⟨rfl, trivial⟩ rfl) ?_
            refine pdv_step0 [2] [116] [] [] [] [(58, .v (.int .i64 a2))] [] rfl rfl rfl rfl (by kernel_rfl) (by kernel_rfl) (by kernel_rfl) trivial (fun w0 X X0 σ0 => by refine po_evs (T := tab) 1 rfl rfl ?_; refine po_nil ?_; exact pn_end0 ⟨rfl, trivial⟩ trivial rfl) ?_
            refine pdv_step0 [4] [118] [] [] [] [(59, .v (.int .i64 b3))] [] rfl rfl rfl rfl (by kernel_rfl) (by kernel_rfl) (by kernel_rfl) trivial (fun w0 X X0 σ0 => by refine po_evs (T := tab) 1 rfl rfl ?_; refine po_nil ?_; exact pn_end0 ⟨rfl, trivial⟩ trivial rfl) ?_
            refine pdv_step (M := (Instarref25_classed_m fu y8.Peek a2 b3)) (ment := [(120, [])]) [114, 116, 118] [120] [] [] [] (fun r9 => [(60, .sl 7 false (r9.map cOp))]) (fun r9 => []) rfl rfl (fun _ => rfl) (fun _ => rfl) (by kernel_rfl) (by kernel_rfl) (fun _ => by kernel_rfl) (fun _ => trivial) (fun w0 X X0 σ0 => by refine po_call (enc := fun (r9 : (List Op)) => .sl 7 false (r9.map cOp)) (qs := [.sl 7 false (y8.Peek.map cOp), .v (.int .i64 a2), .v (.int .i64 b3)]) (Instarref25_classed_ok fu y8.Peek a2 b3) rfl rfl ⟨⟨_, rfl, .rfl⟩, ⟨_, rfl, .rfl⟩, ⟨_, rfl, .rfl⟩, trivial⟩ (fun _ => rfl) call38 rfl rfl fun r9 hr9 => ?_; refine po_nil ?_; exact pn_end ⟨rfl, trivial⟩ trivial rfl) fun r9 hr9 => ?_
            refine pdv_step0 [20] [122] [] [10] [] [(61, .loc 10 3)] [] rfl rfl rfl rfl (by kernel_rfl) (by kernel_rfl) (by kernel_rfl) trivial (fun w0 X X0 σ0 => by refine po_evs (T := tab) 1 rfl rfl ?_; refine po_nil ?_; exact pn_end0 ⟨rfl, trivial⟩ trivial rfl) ?_
            refine pdv_step0 [21, 122] [124] [] [10] [10] [(62, .sl 7 false (y8.Make.map cOp))] [(10, .box [.v (.bool y8.Form), .sl 1 false (y8.Watch.map cStr), .sl 7 false (y8.Peek.map cOp), .sl 7 false (y8.Make.map cOp), .sl 2 false (y8.Hooks.map cHook)])] rfl rfl rfl rfl (by kernel_rfl) (by kernel_rfl) (by kernel_rfl) ⟨rfl, trivial⟩ (fun w0 X X0 σ0 => by refine po_evs (T := tab) 1 rfl rfl ?_; refine po_nil ?_; exact pn_end0 ⟨rfl, trivial⟩ ⟨rfl, trivial⟩ rfl) ?_
            refine pdv_step0 [2] [126] [] [] [] [(63, .v (.int .i64 a2))] [] rfl rfl rfl rfl (by kernel_rfl) (by kernel_rfl) (by kernel_rfl) trivial (fun w0 X X0 σ0 => by refine po_evs (T := tab) 1 rfl rfl ?_; refine po_nil ?_; exact pn_end0 ⟨rfl, trivial⟩ trivial rfl) ?_
            refine pdv_step0 [4] [128] [] [] [] [(64, .v (.int .i64 b3))] [] rfl rfl rfl rfl (by kernel_rfl) (by kernel_rfl) (by kernel_rfl) trivial (fun w0 X X0 σ0 => by refine po_evs (T := tab) 1 rfl rfl ?_; refine po_nil ?_; exact pn_end0 ⟨rfl, trivial⟩ trivial rfl) ?_
            refine pdv_step (M := (Instarref25_classed_m fu y8.Make a2 b3)) (ment := [(130, [])]) [124, 126, 128] [130] [] [] [] (fun r10 => [(65, .sl 7 false (r10.map cOp))]) (fun r10 => []) rfl rfl (fun _ => rfl) (fun _ => rfl) (by kernel_rfl) (by kernel_rfl) (fun _ => by kernel_rfl) (fun _ => trivial) (fun w0 X X0 σ0 => by refine po_call (enc := fun (r10 : (List Op)) => .sl 7 false (r10.map cOp)) (qs := [.sl 7 false (y8.Make.map cOp), .v (.int .i64 a2), .v (.int .i64 b3)]) (Instarref25_classed_ok fu y8.Make a2 b3) rfl rfl ⟨⟨_, rfl, .rfl⟩, ⟨_, rfl, .rfl⟩, ⟨_, rfl, .rfl⟩, trivial⟩ (fun _ => rfl) call38 rfl rfl fun r10 hr10 => ?_; refine po_nil ?_; exact pn_end ⟨rfl, trivial⟩ trivial rfl) fun r10 hr10 => ?_
            refine pdv_step0 [106, 110, 120, 130] [132] [] [] [] [(66, .agg [.v (.bool y8.Form), .sl 1 false (y8.Watch.map cStr), .sl 7 false (r9.map cOp), .sl 7 false (r10.map cOp), .v (.slice none 0 0)])] [] rfl rfl rfl rfl (by kernel_rfl) (by kernel_rfl) (by kernel_rfl) trivial (fun w0 X X0 σ0 => by refine po_build (T := tab) rfl rfl rfl rfl rfl rfl rfl ?_; refine po_nil ?_; exact pn_end0 ⟨rfl, trivial⟩ trivial rfl) ?_
            refine pdv_step0 [] [22, 23] [11] [] [] [(11, .loc 11 0)] [(11, .box [.v (.bool false), .v (.slice none 0 0), .v (.slice none 0 0), .v (.slice none 0 0), .v (.slice none 0 0)])] rfl rfl rfl rfl (by kernel_rfl) (by kernel_rfl) (by kernel_rfl) trivial (fun w0 X X0 σ0 => by refine po_alloc (T := tab) 11 rfl rfl rfl rfl rfl rfl rfl rfl rfl ?_; refine po_nil ?_; exact pn_end0 ⟨rfl, trivial⟩ ⟨rfl, trivial⟩ rfl) ?_
            refine pdv_step0 [22, 23, 132] [23] [] [11] [] [] [(11, .box [.v (.bool y8.Form), .sl 1 false (y8.Watch.map cStr), .sl 7 false (r9.map cOp), .sl 7 false (r10.map cOp), .v (.slice none 0 0)])] rfl rfl rfl rfl (by kernel_rfl) (by kernel_rfl) (by kernel_rfl) trivial (fun w0 X X0 σ0 => by refine po_store (T := tab) rfl rfl rfl rfl rfl rfl rfl rfl rfl rfl rfl rfl ?_; refine po_nil ?_; exact pn_end0 trivial ⟨rfl, trivial⟩ rfl) ?_
            refine pdv_nil rfl rfl ?_
            refine pn_seq ?_
            refine pw_seq ?_
            refine pw_seq ?_
            refine pw_region ?_
            refine po_evs (T := tab) 1 rfl rfl ?_
            refine po_nil ?_
            refine pn_seq ?_
            refine pw_block ?_
            refine pw_own_nilS 1093 52 2 11 4 rfl rfl rfl rfl rfl rfl ?_
            refine pw_loop' (Instarref25_Classes_l2 fu a2 b3 i5 l6 y8 r9 r10 (Instarref25_Classes_l1 fu s1 a2 b3 r4 k1)) (fun ((k11, l12) : Int × (List Hook)) => [(1, .v (.int .i64 a2)), (2, .v (.int .i64 b3)), (3, .loc 3 0), (6, .loc 6 0), (7, .v (.int .i64 ((s1.Classes.length : Nat) : Int))), (8, .loc 8 0), (9, .v (.int .i64 i5)), (10, .loc 10 0), (11, .loc 11 0), (12, .v (.int .i64 k11))]) (fun ((k11, l12) : Int × (List Hook)) => [(1093, .arr 52 2 (l12.map cHook)), (11, .box [.v (.bool y8.Form), .sl 1 false (y8.Watch.map cStr), .sl 7 false (r9.map cOp), .sl 7 false (r10.map cOp), .own 1093]), (10, .box [.v (.bool y8.Form), .sl 1 false (y8.Watch.map cStr), .sl 7 false (y8.Peek.map cOp), .sl 7 false (y8.Make.map cOp), .sl 2 false (y8.Hooks.map cHook)]), (1099, .arr 37 5 (l6.map cClass)), (8, .box [.own 1099, .sl 7 false (r4.map cOp)]), (6, .box [.v (.slice none 0 0), .v (.slice none 0 0)]), (3, .box [.sl 5 false (s1.Classes.map cClass), .sl 7 false (s1.Main.map cOp)])]) fu (0, []) (fun _ => rfl) ⟨rfl, rfl, rfl, rfl, rfl, rfl, rfl, rfl, rfl, rfl, trivial⟩ ⟨rfl, rfl, rfl, rfl, rfl, rfl, rfl, trivial⟩ rfl ?_
            rintro k2 ⟨k11, l12⟩
            refine pw_seq ?_
            refine pw_seq ?_
            refine pw_region ?_
            refine po_evs (T := tab) 3 rfl rfl ?_
            refine po_len (T := tab) cHook y8.Hooks rfl rfl rfl rfl rfl rfl rfl rfl ?_
            refine po_evs (T := tab) 1 rfl rfl ?_
            refine po_nil ?_
            refine pn_seq ?_
            refine pw_cnd rfl ?_ ?_
            · refine pw_skip ?_
              refine pn_seq ?_
              refine pw_seq ?_
              refine pw_block ?_
              refine pw_sub' (E' := [(1, .v (.int .i64 a2)), (2, .v (.int .i64 b3)), (3, .loc 3 0), (6, .loc 6 0), (7, .v (.int .i64 ((s1.Classes.length : Nat) : Int))), (8, .loc 8 0), (9, .v (.int .i64 i5)), (10, .loc 10 0), (11, .loc 11 0), (12, .v (.int .i64 k11))]) (S' := [(1093, .arr 52 2 (l12.map cHook)), (11, .box [.v (.bool y8.Form), .sl 1 false (y8.Watch.map cStr), .sl 7 false (r9.map cOp), .sl 7 false (r10.map cOp), .own 1093]), (10, .box [.v (.bool y8.Form), .sl 1 false (y8.Watch.map cStr), .sl 7 false (y8.Peek.map cOp), .sl 7 false (y8.Make.map cOp), .sl 2 false (y8.Hooks.map cHook)]), (1099, .arr 37 5 (l6.map cClass)), (8, .box [.own 1099, .sl 7 false (r4.map cOp)]), (6, .box [.v (.slice none 0 0), .v (.slice none 0 0)]), (3, .box [.sl 5 false (s1.Classes.map cClass), .sl 7 false (s1.Main.map cOp)])]) ?_ ⟨rfl, rfl, rfl, rfl, rfl, rfl, rfl, rfl, rfl, rfl, trivial⟩ ⟨rfl, rfl, rfl, rfl, rfl, rfl, rfl, trivial⟩ rfl
              refine pw_drawV [0, 1, 0, 4, 0, 28, 60, 124, 0, 256, 0, 1792, 3840, 7936, 0, 0, 65280, 131068, 262140, 524287, 1048575, 2097151] mixed (by kernel_rfl) (by kernel_rfl) rfl rfl ?_
              refine pdv_step0 [22] [148] [] [11] [] [(74, .loc 11 4)] [] rfl rfl rfl rfl (by kernel_rfl) (by kernel_rfl) (by kernel_rfl) trivial (fun w0 X X0 σ0 => by refine po_evs (T := tab) 1 rfl rfl ?_; refine po_nil ?_; exact pn_end0 ⟨rfl, trivial⟩ trivial rfl) ?_
              refine pdv_step0 [23, 148] [150] [] [11, 1093] [11] [(75, .own 1093)] [(11, .box [.v (.bool y8.Form), .sl 1 false (y8.Watch.map cStr), .sl 7 false (r9.map cOp), .sl 7 false (r10.map cOp), .own 1093])] rfl rfl rfl rfl (by kernel_rfl) (by kernel_rfl) (by kernel_rfl) ⟨rfl, trivial⟩ (fun w0 X X0 σ0 => by refine po_evs (T := tab) 1 rfl rfl ?_; refine po_nil ?_; exact pn_end0 ⟨rfl, trivial⟩ ⟨rfl, trivial⟩ rfl) ?_
              refine pdv_step0 [20] [152] [] [10] [] [(76, .loc 10 4)] [] rfl rfl rfl rfl (by kernel_rfl) (by kernel_rfl) (by kernel_rfl) trivial (fun w0 X X0 σ0 => by refine po_evs (T := tab) 1 rfl rfl ?_; refine po_nil ?_; exact pn_end0 ⟨rfl, trivial⟩ trivial rfl) ?_
              refine pdv_step0 [21, 152] [154] [] [10] [10] [(77, .sl 2 false (y8.Hooks.map cHook))] [(10, .box [.v (.bool y8.Form), .sl 1 false (y8.Watch.map cStr), .sl 7 false (y8.Peek.map cOp), .sl 7 false (y8.Make.map cOp), .sl 2 false (y8.Hooks.map cHook)])] rfl rfl rfl rfl (by kernel_rfl) (by kernel_rfl) (by kernel_rfl) ⟨rfl, trivial⟩ (fun w0 X X0 σ0 => by refine po_evs (T := tab) 1 rfl rfl ?_; refine po_nil ?_; exact pn_end0 ⟨rfl, trivial⟩ ⟨rfl, trivial⟩ rfl) ?_
              refine pdv_step0 [24] [156] [] [] [] [(78, .v (.int .i64 k11))] [] rfl rfl rfl rfl (by kernel_rfl) (by kernel_rfl) (by kernel_rfl) trivial (fun w0 X X0 σ0 => by refine po_evs (T := tab) 1 rfl rfl ?_; refine po_nil ?_; exact pn_end0 ⟨rfl, trivial⟩ trivial rfl) ?_
              refine pdv_step (M := (idx y8.Hooks k11)) (ment := [(158, [])]) [154, 156] [158] [] [] [] (fun y13 => [(79, .el (cHook y13) 0)]) (fun y13 => []) rfl rfl (fun _ => rfl) (fun _ => rfl) (by kernel_rfl) (by kernel_rfl) (fun _ => by kernel_rfl) (fun _ => trivial) (fun w0 X X0 σ0 => by refine po_idx (T := tab) cHook y8.Hooks rfl rfl rfl rfl rfl rfl rfl fun y13 hy13 => ?_; refine po_nil ?_; exact pn_end ⟨rfl, trivial⟩ trivial rfl) fun y13 hy13 => ?_
              refine pdv_step0 [158] [160] [] [] [] [(80, .el (cHook y13) 0)] [] rfl rfl rfl rfl (by kernel_rfl) (by kernel_rfl) (by kernel_rfl) trivial (fun w0 X X0 σ0 => by refine po_evs (T := tab) 1 rfl rfl ?_; refine po_nil ?_; exact pn_end0 ⟨rfl, trivial⟩ trivial rfl) ?_
              refine pdv_step0 [160] [162] [] [] [] [(81, .v (.int .i64 y13.Kind))] [] rfl rfl rfl rfl (by kernel_rfl) (by kernel_rfl) (by kernel_rfl) trivial (fun w0 X X0 σ0 => by refine po_evs (T := tab) 1 rfl rfl ?_; refine po_nil ?_; exact pn_end0 ⟨rfl, trivial⟩ trivial rfl) ?_
              refine pdv_step0 [20] [164] [] [10] [] [(82, .loc 10 4)] [] rfl rfl rfl rfl (by kernel_rfl) (by kernel_rfl) (by kernel_rfl) trivial (fun w0 X X0 σ0 => by refine po_evs (T := tab) 1 rfl rfl ?_; refine po_nil ?_; exact pn_end0 ⟨rfl, trivial⟩ trivial rfl) ?_
              refine pdv_step0 [21, 164] [166] [] [10] [10] [(83, .sl 2 false (y8.Hooks.map cHook))] [(10, .box [.v (.bool y8.Form), .sl 1 false (y8.Watch.map cStr), .sl 7 false (y8.Peek.map cOp), .sl 7 false (y8.Make.map cOp), .sl 2 false (y8.Hooks.map cHook)])] rfl rfl rfl rfl (by kernel_rfl) (by kernel_rfl) (by kernel_rfl) ⟨rfl, trivial⟩ (fun w0 X X0 σ0 => by refine po_evs (T := tab) 1 rfl rfl ?_; refine po_nil ?_; exact pn_end0 ⟨rfl, trivial⟩ ⟨rfl, trivial⟩ rfl) ?_
              refine pdv_step0 [24] [168] [] [] [] [(84, .v (.int .i64 k11))] [] rfl rfl rfl rfl (by kernel_rfl) (by kernel_rfl) (by kernel_rfl) trivial (fun w0 X X0 σ0 => by refine po_evs (T := tab) 1 rfl rfl ?_; refine po_nil ?_; exact pn_end0 ⟨rfl, trivial⟩ trivial rfl) ?_
              refine pdv_step (M := (idx y8.Hooks k11)) (ment := [(170, [])]) [166, 168] [170] [] [] [] (fun y14 => [(85, .el (cHook y14) 0)]) (fun y14 => []) rfl rfl (fun _ => rfl) (fun _ => rfl) (by kernel_rfl) (by kernel_rfl) (fun _ => by kernel_rfl) (fun _ => trivial) (fun w0 X X0 σ0 => by refine po_idx (T := tab) cHook y8.Hooks rfl rfl rfl rfl rfl rfl rfl fun y14 hy14 => ?_; refine po_nil ?_; exact pn_end ⟨rfl, trivial⟩ trivial rfl) fun y14 hy14 => ?_
              refine pdv_step0 [170] [172] [] [] [] [(86, .el (cHook y14) 1)] [] rfl rfl rfl rfl (by kernel_rfl) (by kernel_rfl) (by kernel_rfl) trivial (fun w0 X X0 σ0 => by refine po_evs (T := tab) 1 rfl rfl ?_; refine po_nil ?_; exact pn_end0 ⟨rfl, trivial⟩ trivial rfl) ?_
              refine pdv_step0 [172] [174] [] [] [] [(87, .sl 7 false (y14.Do.map cOp))] [] rfl rfl rfl rfl (by kernel_rfl) (by kernel_rfl) (by kernel_rfl) trivial (fun w0 X X0 σ0 => by refine po_evs (T := tab) 1 rfl rfl ?_; refine po_nil ?_; exact pn_end0 ⟨rfl, trivial⟩ trivial rfl) ?_
              refine pdv_step0 [2] [176] [] [] [] [(88, .v (.int .i64 a2))] [] rfl rfl rfl rfl (by kernel_rfl) (by kernel_rfl) (by kernel_rfl) trivial (fun w0 X X0 σ0 => by refine po_evs (T := tab) 1 rfl rfl ?_; refine po_nil ?_; exact pn_end0 ⟨rfl, trivial⟩ trivial rfl) ?_
              refine pdv_step0 [4] [178] [] [] [] [(89, .v (.int .i64 b3))] [] rfl rfl rfl rfl (by kernel_rfl) (by kernel_rfl) (by kernel_rfl) trivial (fun w0 X X0 σ0 => by refine po_evs (T := tab) 1 rfl rfl ?_; refine po_nil ?_; exact pn_end0 ⟨rfl, trivial⟩ trivial rfl) ?_
              refine pdv_step (M := (Instarref25_classed_m fu y14.Do a2 b3)) (ment := [(180, [])]) [174, 176, 178] [180] [] [] [] (fun r15 => [(90, .sl 7 false (r15.map cOp))]) (fun r15 => []) rfl rfl (fun _ => rfl) (fun _ => rfl) (by kernel_rfl) (by kernel_rfl) (fun _ => by kernel_rfl) (fun _ => trivial) (fun w0 X X0 σ0 => by refine po_call (enc := fun (r15 : (List Op)) => .sl 7 false (r15.map cOp)) (qs := [.sl 7 false (y14.Do.map cOp), .v (.int .i64 a2), .v (.int .i64 b3)]) (Instarref25_classed_ok fu y14.Do a2 b3) rfl rfl ⟨⟨_, rfl, .rfl⟩, ⟨_, rfl, .rfl⟩, ⟨_, rfl, .rfl⟩, trivial⟩ (fun _ => rfl) call38 rfl rfl fun r15 hr15 => ?_; refine po_nil ?_; exact pn_end ⟨rfl, trivial⟩ trivial rfl) fun r15 hr15 => ?_
              refine pdv_step0 [162, 180] [182] [] [] [] [(91, .agg [.v (.int .i64 y13.Kind), .sl 7 false (r15.map cOp)])] [] rfl rfl rfl rfl (by kernel_rfl) (by kernel_rfl) (by kernel_rfl) trivial (fun w0 X X0 σ0 => by refine po_build (T := tab) rfl rfl rfl rfl rfl rfl rfl ?_; refine po_nil ?_; exact pn_end0 ⟨rfl, trivial⟩ trivial rfl) ?_
              refine pdv_step0 [182] [184, 185] [92] [] [] [(92, .own 92)] [(92, .arr 52 2 ([(⟨y13.Kind, r15⟩ : Hook)].map cHook))] rfl rfl rfl rfl (by kernel_rfl) (by kernel_rfl) (by kernel_rfl) trivial (fun w0 X X0 σ0 => by refine po_lit (T := tab) (rows := [(⟨y13.Kind, r15⟩ : Hook)].map cHook) 92 rfl rfl rfl rfl rfl rfl rfl rfl rfl rfl rfl rfl rfl rfl ?_; refine po_nil ?_; exact pn_end0 ⟨rfl, trivial⟩ ⟨rfl, trivial⟩ rfl) ?_
              refine pdv_step (M := (roomy 32 (l12.length + ([(⟨y13.Kind, r15⟩ : Hook)] : List Hook).length))) (ment := [(186, [1093]), (150, []), (2187, []), (23, [])]) [23, 150, 184, 185, 2187] [186, 150, 2187, 23] [1093] [11, 92] [92] (fun _ => [(93, .own 1093)]) (fun _ => [(1093, .arr 52 2 ((l12 ++ [(⟨y13.Kind, r15⟩ : Hook)]).map cHook)), (11, .box [.v (.bool y8.Form), .sl 1 false (y8.Watch.map cStr), .sl 7 false (r9.map cOp), .sl 7 false (r10.map cOp), .junk]), (92, .arr 52 2 ([(⟨y13.Kind, r15⟩ : Hook)].map cHook))]) rfl rfl (fun _ => rfl) (fun _ => rfl) (by kernel_rfl) (by kernel_rfl) (fun _ => by kernel_rfl) (fun _ => ⟨rfl, trivial⟩) (fun w0 X X0 σ0 => by refine po_append (T := tab) cHook l12 ([(⟨y13.Kind, r15⟩ : Hook)] : List Hook) rfl rfl rfl rfl rfl rfl rfl rfl rfl rfl rfl rfl rfl rfl (cHook_one _) rfl rfl rfl rfl rfl ?_; refine po_nil ?_; exact pn_end ⟨rfl, trivial⟩ ⟨rfl, rfl, rfl, trivial⟩ rfl) fun _ h0 => ?_
              refine pdv_step0 [22] [188] [] [11] [] [(94, .loc 11 4)] [] rfl rfl rfl rfl (by kernel_rfl) (by kernel_rfl) (by kernel_rfl) trivial (fun w0 X X0 σ0 => by refine po_evs (T := tab) 1 rfl rfl ?_; refine po_nil ?_; exact pn_end0 ⟨rfl, trivial⟩ trivial rfl) ?_
              refine pdv_step0 [23, 186, 188, 2187] [23] [] [11, 1093] [1093] [] [(11, .box [.v (.bool y8.Form), .sl 1 false (y8.Watch.map cStr), .sl 7 false (r9.map cOp), .sl 7 false (r10.map cOp), .own 1093]), (1093, .arr 52 2 ((l12 ++ [(⟨y13.Kind, r15⟩ : Hook)]).map cHook))] rfl rfl rfl rfl (by kernel_rfl) (by kernel_rfl) (by kernel_rfl) ⟨rfl, trivial⟩ (fun w0 X X0 σ0 => by refine po_store (T := tab) rfl rfl rfl rfl rfl rfl rfl rfl rfl rfl rfl rfl ?_; refine po_nil ?_; exact pn_end0 trivial ⟨rfl, rfl, trivial⟩ rfl) ?_
              refine pdv_nil rfl rfl ?_
              refine pn_block ?_
              refine pn_seq ?_
              refine pw_region ?_
              refine po_evs (T := tab) 1 rfl rfl ?_
              refine po_arith' (T := tab) rfl rfl rfl rfl fun i16 hi16 => ?_
              refine po_evs (T := tab) 1 rfl rfl ?_
              refine po_nil ?_
              exact pn_iter' (i16, (l12 ++ [(⟨y13.Kind, r15⟩ : Hook)])) ⟨rfl, rfl, rfl, rfl, rfl, rfl, rfl, rfl, rfl, rfl, trivial⟩ ⟨rfl, rfl, rfl, rfl, rfl, rfl, rfl, trivial⟩ rfl
            · refine pw_exit rfl ?_
              refine pn_seq ?_
              refine pw_region ?_
              refine po_evs (T := tab) 3 rfl rfl ?_
              refine po_freeze 1093 rfl rfl rfl ?_
              refine po_lit (T := tab) (rows := [(⟨y8.Form, y8.Watch, r9, r10, l12⟩ : Class)].map cClass) 98 rfl rfl rfl rfl rfl rfl rfl rfl rfl rfl rfl rfl rfl rfl ?_
              refine po_append (T := tab) cClass l6 ([(⟨y8.Form, y8.Watch, r9, r10, l12⟩ : Class)] : List Class) rfl rfl rfl rfl rfl rfl rfl rfl rfl rfl rfl rfl rfl rfl (cClass_one _) rfl rfl rfl rfl rfl ?_
              refine po_evs (T := tab) 1 rfl rfl ?_
              refine po_store (T := tab) rfl rfl rfl rfl rfl rfl rfl rfl rfl rfl rfl rfl ?_
              refine po_nil ?_
              refine pn_block ?_
              refine pn_seq ?_
              refine pw_region ?_
              refine po_evs (T := tab) 1 rfl rfl ?_
              refine po_arith' (T := tab) rfl rfl rfl rfl fun i17 hi17 => ?_
              refine po_evs (T := tab) 1 rfl rfl ?_
              refine po_nil ?_
              exact pn_iter' (i17, (l6 ++ [(⟨y8.Form, y8.Watch, r9, r10, l12⟩ : Class)])) ⟨rfl, rfl, rfl, rfl, rfl, rfl, rfl, trivial⟩ ⟨rfl, rfl, rfl, rfl, trivial⟩ rfl
          · refine pw_exit rfl ?_
            refine pn_seq ?_
            refine pw_seq ?_
            refine pw_region ?_
            refine po_evs (T := tab) 1 rfl rfl ?_
            refine po_store (T := tab) rfl rfl rfl rfl rfl rfl rfl rfl rfl rfl rfl rfl ?_
            refine po_nil ?_
            refine pn_seq ?_
            refine pw_freeze 1099 rfl rfl rfl ?_
            exact pw_retN (T := tab) rfl rfl rfl ⟨rfl, rfl⟩ trivial rfl

def Instarref12_Ops_l1 (a1 : (List Op)) (b2 : (List Op)) : Nat → Int → Option Bool
  | 0, _ => none
  | k1 + 1, i3 => cnd (decide (i3 < ((a1.length : Nat) : Int))) (bnd (idx a1 i3) fun y4 => bnd (idx b2 i3) fun y5 => cnd (!(eqOp y4 y5)) (some false) (bnd (rng .i64 (i3 + 1)) fun i6 => (Instarref12_Ops_l1 a1 b2 k1) i6)) (some true)

def Instarref12_Ops_m (fu : Nat) (a1 : (List Op)) (b2 : (List Op)) : Option Bool := cnd (((a1.length : Nat) : Int) != ((b2.length : Nat) : Int)) (some false) ((Instarref12_Ops_l1 a1 b2) fu 0)

set_option maxHeartbeats 10000000 in
set_option maxRecDepth 100000 in
theorem Instarref12_Ops_ok (fu : Nat) (a1 : (List Op)) (b2 : (List Op)) : ∀ r, Instarref12_Ops_m fu a1 b2 = some r → DC Try.prog 34 [.sl 7 false (a1.map cOp), .sl 7 false (b2.map cOp)] (.v (.bool r)) := by
  intro r hr
  refine fc_intro (args := [.sl 7 false (a1.map cOp), .sl 7 false (b2.map cOp)]) (S := []) (N0 := []) (post := fun r p S => p = .v (.bool r) ∧ S = []) Try.func34 rfl rfl hr fun w0 X X0 σ0 => ?_
  refine pw_seq ?_
  refine pw_region ?_
  refine po_evs (T := tab) 1 rfl rfl ?_
  refine po_nil ?_
  refine pn_seq ?_
  refine pw_seq ?_
  refine pw_seq ?_
  refine pw_region ?_
  refine po_evs (T := tab) 1 rfl rfl ?_
  refine po_len (T := tab) cOp a1 rfl rfl rfl rfl rfl rfl rfl rfl ?_
  refine po_evs (T := tab) 1 rfl rfl ?_
  refine po_len (T := tab) cOp b2 rfl rfl rfl rfl rfl rfl rfl rfl ?_
  refine po_evs (T := tab) 1 rfl rfl ?_
  refine po_nil ?_
  refine pn_seq ?_
  refine pw_cnd rfl ?_ ?_
  · refine pw_seq ?_
    refine pw_region ?_
    refine po_evs (T := tab) 1 rfl rfl ?_
    refine po_nil ?_
    refine pn_seq ?_
    exact pw_retN (T := tab) rfl rfl rfl ⟨rfl, rfl⟩ trivial rfl
  · refine pw_skip ?_
    refine pn_seq ?_
    refine pw_seq ?_
    refine pw_seq ?_
    refine pw_region ?_
    refine po_evs (T := tab) 1 rfl rfl ?_
    refine po_nil ?_
    refine pn_seq ?_
    refine pw_block ?_
    refine pw_loop' (Instarref12_Ops_l1 a1 b2) (fun (i3 : Int) => [(0, .sl 7 false (a1.map cOp)), (1, .sl 7 false (b2.map cOp)), (5, .v (.int .i64 i3))]) (fun (i3 : Int) => []) fu 0 (fun _ => rfl) ⟨rfl, rfl, rfl, trivial⟩ trivial rfl ?_
    rintro k1 i3
    refine pw_seq ?_
    refine pw_seq ?_
    refine pw_region ?_
    refine po_evs (T := tab) 2 rfl rfl ?_
    refine po_len (T := tab) cOp a1 rfl rfl rfl rfl rfl rfl rfl rfl ?_
    refine po_evs (T := tab) 1 rfl rfl ?_
    refine po_nil ?_
    refine pn_seq ?_
    refine pw_cnd rfl ?_ ?_
    · refine pw_skip ?_
      refine pn_seq ?_
      refine pw_seq ?_
      refine pw_block ?_
      refine pw_seq ?_
      refine pw_draw mixed (by kernel_rfl) ?_
      refine pd_evs (T := tab) 2 rfl rfl ?_
      refine pd_idx (T := tab) cOp a1 rfl rfl rfl rfl rfl rfl rfl fun y4 hy4 => ?_
      refine pd_evs (T := tab) 3 rfl rfl ?_
      refine pd_idx (T := tab) cOp b2 rfl rfl rfl rfl rfl rfl rfl fun y5 hy5 => ?_
      refine pd_evs (T := tab) 1 rfl rfl ?_
      refine pd_ne eqf_48 rfl rfl rfl rfl rfl rfl rfl ?_
      refine pd_nil ?_
      refine pn_seq ?_
      refine pw_cnd rfl ?_ ?_
      · refine pw_seq ?_
        refine pw_region ?_
        refine po_evs (T := tab) 1 rfl rfl ?_
        refine po_nil ?_
        refine pn_seq ?_
        exact pw_retN (T := tab) rfl rfl rfl ⟨rfl, rfl⟩ trivial rfl
      · refine pw_skip ?_
        refine pn_block ?_
        refine pn_seq ?_
        refine pw_region ?_
        refine po_evs (T := tab) 1 rfl rfl ?_
        refine po_arith' (T := tab) rfl rfl rfl rfl fun i6 hi6 => ?_
        refine po_evs (T := tab) 1 rfl rfl ?_
        refine po_nil ?_
        exact pn_iter' i6 ⟨rfl, rfl, rfl, trivial⟩ trivial rfl
    · refine pw_exit rfl ?_
      refine pn_seq ?_
      refine pw_seq ?_
      refine pw_region ?_
      refine po_evs (T := tab) 1 rfl rfl ?_
      refine po_nil ?_
      refine pn_seq ?_
      exact pw_retN (T := tab) rfl rfl rfl ⟨rfl, rfl⟩ trivial rfl

def Instarref12_Alike_l2 (fu : Nat) (a1 : Class) (b2 : Class) : Nat → Int → Option Bool
  | 0, _ => none
  | k2 + 1, i9 => cnd (decide (i9 < ((a1.Hooks.length : Nat) : Int))) (bnd (idx a1.Hooks i9) fun y10 => bnd (idx b2.Hooks i9) fun y11 => cnd (y10.Kind != y11.Kind) (some false) (bnd (idx a1.Hooks i9) fun y12 => bnd (idx b2.Hooks i9) fun y13 => bnd (Instarref12_Ops_m fu y12.Do y13.Do) fun r14 => cnd (!r14) (some false) (bnd (rng .i64 (i9 + 1)) fun i15 => (Instarref12_Alike_l2 fu a1 b2 k2) i15))) (some true)

def Instarref12_Alike_l1 (fu : Nat) (a1 : Class) (b2 : Class) : Nat → Int → Option Bool
  | 0, _ => none
  | k1 + 1, i5 => cnd (decide (i5 < ((a1.Watch.length : Nat) : Int))) (bnd (idx a1.Watch i5) fun y6 => bnd (idx b2.Watch i5) fun y7 => cnd (!(y6 == y7)) (some false) (bnd (rng .i64 (i5 + 1)) fun i8 => (Instarref12_Alike_l1 fu a1 b2 k1) i8)) ((Instarref12_Alike_l2 fu a1 b2) fu 0)

def Instarref12_Alike_m (fu : Nat) (a1 : Class) (b2 : Class) : Option Bool := cnd (!(a1.Form == b2.Form)) (some false) (cnd (((a1.Watch.length : Nat) : Int) != ((b2.Watch.length : Nat) : Int)) (some false) (bnd (Instarref12_Ops_m fu a1.Peek b2.Peek) fun r3 => cnd (!r3) (some false) (bnd (Instarref12_Ops_m fu a1.Make b2.Make) fun r4 => cnd (!r4) (some false) (cnd (((a1.Hooks.length : Nat) : Int) != ((b2.Hooks.length : Nat) : Int)) (some false) ((Instarref12_Alike_l1 fu a1 b2) fu 0)))))

set_option maxHeartbeats 10000000 in
set_option maxRecDepth 100000 in
theorem Instarref12_Alike_ok (fu : Nat) (a1 : Class) (b2 : Class) : ∀ r, Instarref12_Alike_m fu a1 b2 = some r → DC Try.prog 59 [.agg (cClass a1), .agg (cClass b2)] (.v (.bool r)) := by
  intro r hr
  refine fc_intro (args := [.agg (cClass a1), .agg (cClass b2)]) (S := []) (N0 := []) (post := fun r p S => p = .v (.bool r) ∧ S = []) Try.func59 rfl rfl hr fun w0 X X0 σ0 => ?_
  refine pw_seq ?_
  refine pw_region ?_
  refine po_box  2 rfl rfl rfl rfl rfl rfl rfl rfl rfl rfl ?_
  refine po_box  3 rfl rfl rfl rfl rfl rfl rfl rfl rfl rfl ?_
  refine po_evs (T := tab) 1 rfl rfl ?_
  refine po_nil ?_
  refine pn_seq ?_
  refine pw_seq ?_
  refine pw_seq ?_
  refine pw_region ?_
  refine po_evs (T := tab) 6 rfl rfl ?_
  refine po_split (j := 12) rfl ?_ ?_
  · refine po_evs (T := tab) 33 rfl rfl ?_
    refine po_nil ?_
    refine pn_seq (pw_then rfl ?_)
    refine pw_seq ?_
    refine pw_region ?_
    refine po_evs (T := tab) 1 rfl rfl ?_
    refine po_nil ?_
    refine pn_seq ?_
    exact pw_retN (T := tab) rfl rfl rfl ⟨rfl, rfl⟩ trivial rfl
  · refine po_evs (T := tab) 2 rfl rfl ?_
    refine po_len (T := tab) cStr a1.Watch rfl rfl rfl rfl rfl rfl rfl rfl ?_
    refine po_evs (T := tab) 2 rfl rfl ?_
    refine po_len (T := tab) cStr b2.Watch rfl rfl rfl rfl rfl rfl rfl rfl ?_
    refine po_evs (T := tab) 3 rfl rfl ?_
    refine po_split (j := 21) rfl ?_ ?_
    · refine po_evs (T := tab) 24 rfl rfl ?_
      refine po_nil ?_
      refine pn_seq (pw_then rfl ?_)
      refine pw_seq ?_
      refine pw_region ?_
      refine po_evs (T := tab) 1 rfl rfl ?_
      refine po_nil ?_
      refine pn_seq ?_
      exact pw_retN (T := tab) rfl rfl rfl ⟨rfl, rfl⟩ trivial rfl
    · refine po_evs (T := tab) 4 rfl rfl ?_
      refine po_call (enc := fun (r3 : Bool) => .v (.bool r3)) (qs := [.sl 7 false (a1.Peek.map cOp), .sl 7 false (b2.Peek.map cOp)]) (Instarref12_Ops_ok fu a1.Peek b2.Peek) rfl rfl ⟨⟨_, rfl, .rfl⟩, ⟨_, rfl, .rfl⟩, trivial⟩ (fun _ => rfl) call34 rfl rfl fun r3 hr3 => ?_
      refine po_evs (T := tab) 3 rfl rfl ?_
      refine po_split (j := 29) rfl ?_ ?_
      · refine po_evs (T := tab) 16 rfl rfl ?_
        refine po_nil ?_
        refine pn_seq (pw_then rfl ?_)
        refine pw_seq ?_
        refine pw_region ?_
        refine po_evs (T := tab) 1 rfl rfl ?_
        refine po_nil ?_
        refine pn_seq ?_
        exact pw_retN (T := tab) rfl rfl rfl ⟨rfl, rfl⟩ trivial rfl
      · refine po_evs (T := tab) 4 rfl rfl ?_
        refine po_call (enc := fun (r4 : Bool) => .v (.bool r4)) (qs := [.sl 7 false (a1.Make.map cOp), .sl 7 false (b2.Make.map cOp)]) (Instarref12_Ops_ok fu a1.Make b2.Make) rfl rfl ⟨⟨_, rfl, .rfl⟩, ⟨_, rfl, .rfl⟩, trivial⟩ (fun _ => rfl) call34 rfl rfl fun r4 hr4 => ?_
        refine po_evs (T := tab) 3 rfl rfl ?_
        refine po_split (j := 37) rfl ?_ ?_
        · refine po_evs (T := tab) 8 rfl rfl ?_
          refine po_nil ?_
          refine pn_seq (pw_then rfl ?_)
          refine pw_seq ?_
          refine pw_region ?_
          refine po_evs (T := tab) 1 rfl rfl ?_
          refine po_nil ?_
          refine pn_seq ?_
          exact pw_retN (T := tab) rfl rfl rfl ⟨rfl, rfl⟩ trivial rfl
        · refine po_evs (T := tab) 2 rfl rfl ?_
          refine po_len (T := tab) cHook a1.Hooks rfl rfl rfl rfl rfl rfl rfl rfl ?_
          refine po_evs (T := tab) 2 rfl rfl ?_
          refine po_len (T := tab) cHook b2.Hooks rfl rfl rfl rfl rfl rfl rfl rfl ?_
          refine po_evs (T := tab) 2 rfl rfl ?_
          refine po_nil ?_
          refine pn_seq ?_
          refine pw_cnd rfl ?_ ?_
          · refine pw_seq ?_
            refine pw_region ?_
            refine po_evs (T := tab) 1 rfl rfl ?_
            refine po_nil ?_
            refine pn_seq ?_
            exact pw_retN (T := tab) rfl rfl rfl ⟨rfl, rfl⟩ trivial rfl
          · refine pw_skip ?_
            refine pn_seq ?_
            refine pw_seq ?_
            refine pw_seq ?_
            refine pw_region ?_
            refine po_evs (T := tab) 1 rfl rfl ?_
            refine po_nil ?_
            refine pn_seq ?_
            refine pw_block ?_
            refine pw_loop' (Instarref12_Alike_l1 fu a1 b2) (fun (i5 : Int) => [(2, .loc 2 0), (3, .loc 3 0), (5, .v (.int .i64 i5))]) (fun (i5 : Int) => [(3, .box [.v (.bool b2.Form), .sl 1 false (b2.Watch.map cStr), .sl 7 false (b2.Peek.map cOp), .sl 7 false (b2.Make.map cOp), .sl 2 false (b2.Hooks.map cHook)]), (2, .box [.v (.bool a1.Form), .sl 1 false (a1.Watch.map cStr), .sl 7 false (a1.Peek.map cOp), .sl 7 false (a1.Make.map cOp), .sl 2 false (a1.Hooks.map cHook)])]) fu 0 (fun _ => rfl) ⟨rfl, rfl, rfl, trivial⟩ ⟨rfl, rfl, trivial⟩ rfl ?_
            rintro k1 i5
            refine pw_seq ?_
            refine pw_seq ?_
            refine pw_region ?_
            refine po_evs (T := tab) 3 rfl rfl ?_
            refine po_len (T := tab) cStr a1.Watch rfl rfl rfl rfl rfl rfl rfl rfl ?_
            refine po_evs (T := tab) 1 rfl rfl ?_
            refine po_nil ?_
            refine pn_seq ?_
            refine pw_cnd rfl ?_ ?_
            · refine pw_skip ?_
              refine pn_seq ?_
              refine pw_seq ?_
              refine pw_block ?_
              refine pw_seq ?_
              refine pw_draw mixed (by kernel_rfl) ?_
              refine pd_evs (T := tab) 3 rfl rfl ?_
              refine pd_idx (T := tab) cStr a1.Watch rfl rfl rfl rfl rfl rfl rfl fun y6 hy6 => ?_
              refine pd_evs (T := tab) 4 rfl rfl ?_
              refine pd_idx (T := tab) cStr b2.Watch rfl rfl rfl rfl rfl rfl rfl fun y7 hy7 => ?_
              refine pd_evs (T := tab) 2 rfl rfl ?_
              refine pd_nil ?_
              refine pn_seq ?_
              refine pw_cnd rfl ?_ ?_
              · refine pw_seq ?_
                refine pw_region ?_
                refine po_evs (T := tab) 1 rfl rfl ?_
                refine po_nil ?_
                refine pn_seq ?_
                exact pw_retN (T := tab) rfl rfl rfl ⟨rfl, rfl⟩ trivial rfl
              · refine pw_skip ?_
                refine pn_block ?_
                refine pn_seq ?_
                refine pw_region ?_
                refine po_evs (T := tab) 1 rfl rfl ?_
                refine po_arith' (T := tab) rfl rfl rfl rfl fun i8 hi8 => ?_
                refine po_evs (T := tab) 1 rfl rfl ?_
                refine po_nil ?_
                exact pn_iter' i8 ⟨rfl, rfl, rfl, trivial⟩ ⟨rfl, rfl, trivial⟩ rfl
            · refine pw_exit rfl ?_
              refine pn_seq ?_
              refine pw_seq ?_
              refine pw_seq ?_
              refine pw_region ?_
              refine po_evs (T := tab) 1 rfl rfl ?_
              refine po_nil ?_
              refine pn_seq ?_
              refine pw_block ?_
              refine pw_loop' (Instarref12_Alike_l2 fu a1 b2) (fun (i9 : Int) => [(2, .loc 2 0), (3, .loc 3 0), (6, .v (.int .i64 i9))]) (fun (i9 : Int) => [(3, .box [.v (.bool b2.Form), .sl 1 false (b2.Watch.map cStr), .sl 7 false (b2.Peek.map cOp), .sl 7 false (b2.Make.map cOp), .sl 2 false (b2.Hooks.map cHook)]), (2, .box [.v (.bool a1.Form), .sl 1 false (a1.Watch.map cStr), .sl 7 false (a1.Peek.map cOp), .sl 7 false (a1.Make.map cOp), .sl 2 false (a1.Hooks.map cHook)])]) fu 0 (fun _ => rfl) ⟨rfl, rfl, rfl, trivial⟩ ⟨rfl, rfl, trivial⟩ rfl ?_
              rintro k2 i9
              refine pw_seq ?_
              refine pw_seq ?_
              refine pw_region ?_
              refine po_evs (T := tab) 3 rfl rfl ?_
              refine po_len (T := tab) cHook a1.Hooks rfl rfl rfl rfl rfl rfl rfl rfl ?_
              refine po_evs (T := tab) 1 rfl rfl ?_
              refine po_nil ?_
              refine pn_seq ?_
              refine pw_cnd rfl ?_ ?_
              · refine pw_skip ?_
                refine pn_seq ?_
                refine pw_seq ?_
                refine pw_block ?_
                refine pw_seq ?_
                refine pw_draw mixed (by kernel_rfl) ?_
                refine pd_evs (T := tab) 3 rfl rfl ?_
                refine pd_idx (T := tab) cHook a1.Hooks rfl rfl rfl rfl rfl rfl rfl fun y10 hy10 => ?_
                refine pd_evs (T := tab) 5 rfl rfl ?_
                refine pd_idx (T := tab) cHook b2.Hooks rfl rfl rfl rfl rfl rfl rfl fun y11 hy11 => ?_
                refine pd_evs (T := tab) 4 rfl rfl ?_
                refine pd_split (j := 84) rfl ?_ ?_
                · refine pd_evs (T := tab) 15 rfl rfl ?_
                  refine pd_nil ?_
                  refine pn_seq (pw_then rfl ?_)
                  refine pw_seq ?_
                  refine pw_region ?_
                  refine po_evs (T := tab) 1 rfl rfl ?_
                  refine po_nil ?_
                  refine pn_seq ?_
                  exact pw_retN (T := tab) rfl rfl rfl ⟨rfl, rfl⟩ trivial rfl
                · refine pd_evs (T := tab) 3 rfl rfl ?_
                  refine pd_idx (T := tab) cHook a1.Hooks rfl rfl rfl rfl rfl rfl rfl fun y12 hy12 => ?_
                  refine pd_evs (T := tab) 5 rfl rfl ?_
                  refine pd_idx (T := tab) cHook b2.Hooks rfl rfl rfl rfl rfl rfl rfl fun y13 hy13 => ?_
                  refine pd_evs (T := tab) 2 rfl rfl ?_
                  refine pd_call (enc := fun (r14 : Bool) => .v (.bool r14)) (qs := [.sl 7 false (y12.Do.map cOp), .sl 7 false (y13.Do.map cOp)]) (Instarref12_Ops_ok fu y12.Do y13.Do) rfl rfl ⟨⟨_, rfl, .rfl⟩, ⟨_, rfl, .rfl⟩, trivial⟩ (fun _ => rfl) call34 rfl rfl fun r14 hr14 => ?_
                  refine pd_evs (T := tab) 2 rfl rfl ?_
                  refine pd_nil ?_
                  refine pn_seq ?_
                  refine pw_cnd rfl ?_ ?_
                  · refine pw_seq ?_
                    refine pw_region ?_
                    refine po_evs (T := tab) 1 rfl rfl ?_
                    refine po_nil ?_
                    refine pn_seq ?_
                    exact pw_retN (T := tab) rfl rfl rfl ⟨rfl, rfl⟩ trivial rfl
                  · refine pw_skip ?_
                    refine pn_block ?_
                    refine pn_seq ?_
                    refine pw_region ?_
                    refine po_evs (T := tab) 1 rfl rfl ?_
                    refine po_arith' (T := tab) rfl rfl rfl rfl fun i15 hi15 => ?_
                    refine po_evs (T := tab) 1 rfl rfl ?_
                    refine po_nil ?_
                    exact pn_iter' i15 ⟨rfl, rfl, rfl, trivial⟩ ⟨rfl, rfl, trivial⟩ rfl
              · refine pw_exit rfl ?_
                refine pn_seq ?_
                refine pw_seq ?_
                refine pw_region ?_
                refine po_evs (T := tab) 1 rfl rfl ?_
                refine po_nil ?_
                refine pn_seq ?_
                exact pw_retN (T := tab) rfl rfl rfl ⟨rfl, rfl⟩ trivial rfl

def Instarref17_Classes_l1 (fu : Nat) (a1 : (List Class)) (b2 : (List Class)) : Nat → Int → Option Bool
  | 0, _ => none
  | k1 + 1, i3 => cnd (decide (i3 < ((a1.length : Nat) : Int))) (bnd (idx a1 i3) fun y4 => bnd (idx b2 i3) fun y5 => bnd (Instarref12_Alike_m fu y4 y5) fun r6 => cnd (!r6) (some false) (bnd (rng .i64 (i3 + 1)) fun i7 => (Instarref17_Classes_l1 fu a1 b2 k1) i7)) (some true)

def Instarref17_Classes_m (fu : Nat) (a1 : (List Class)) (b2 : (List Class)) : Option Bool := cnd (((a1.length : Nat) : Int) != ((b2.length : Nat) : Int)) (some false) ((Instarref17_Classes_l1 fu a1 b2) fu 0)

set_option maxHeartbeats 10000000 in
set_option maxRecDepth 100000 in
theorem Instarref17_Classes_ok (fu : Nat) (a1 : (List Class)) (b2 : (List Class)) : ∀ r, Instarref17_Classes_m fu a1 b2 = some r → DC Try.prog 33 [.sl 5 false (a1.map cClass), .sl 5 false (b2.map cClass)] (.v (.bool r)) := by
  intro r hr
  refine fc_intro (args := [.sl 5 false (a1.map cClass), .sl 5 false (b2.map cClass)]) (S := []) (N0 := []) (post := fun r p S => p = .v (.bool r) ∧ S = []) Try.func33 rfl rfl hr fun w0 X X0 σ0 => ?_
  refine pw_seq ?_
  refine pw_region ?_
  refine po_evs (T := tab) 1 rfl rfl ?_
  refine po_nil ?_
  refine pn_seq ?_
  refine pw_seq ?_
  refine pw_seq ?_
  refine pw_region ?_
  refine po_evs (T := tab) 1 rfl rfl ?_
  refine po_len (T := tab) cClass a1 rfl rfl rfl rfl rfl rfl rfl rfl ?_
  refine po_evs (T := tab) 1 rfl rfl ?_
  refine po_len (T := tab) cClass b2 rfl rfl rfl rfl rfl rfl rfl rfl ?_
  refine po_evs (T := tab) 1 rfl rfl ?_
  refine po_nil ?_
  refine pn_seq ?_
  refine pw_cnd rfl ?_ ?_
  · refine pw_seq ?_
    refine pw_region ?_
    refine po_evs (T := tab) 1 rfl rfl ?_
    refine po_nil ?_
    refine pn_seq ?_
    exact pw_retN (T := tab) rfl rfl rfl ⟨rfl, rfl⟩ trivial rfl
  · refine pw_skip ?_
    refine pn_seq ?_
    refine pw_seq ?_
    refine pw_seq ?_
    refine pw_region ?_
    refine po_evs (T := tab) 1 rfl rfl ?_
    refine po_nil ?_
    refine pn_seq ?_
    refine pw_block ?_
    refine pw_loop' (Instarref17_Classes_l1 fu a1 b2) (fun (i3 : Int) => [(0, .sl 5 false (a1.map cClass)), (1, .sl 5 false (b2.map cClass)), (5, .v (.int .i64 i3))]) (fun (i3 : Int) => []) fu 0 (fun _ => rfl) ⟨rfl, rfl, rfl, trivial⟩ trivial rfl ?_
    rintro k1 i3
    refine pw_seq ?_
    refine pw_seq ?_
    refine pw_region ?_
    refine po_evs (T := tab) 2 rfl rfl ?_
    refine po_len (T := tab) cClass a1 rfl rfl rfl rfl rfl rfl rfl rfl ?_
    refine po_evs (T := tab) 1 rfl rfl ?_
    refine po_nil ?_
    refine pn_seq ?_
    refine pw_cnd rfl ?_ ?_
    · refine pw_skip ?_
      refine pn_seq ?_
      refine pw_seq ?_
      refine pw_block ?_
      refine pw_seq ?_
      refine pw_draw mixed (by kernel_rfl) ?_
      refine pd_evs (T := tab) 2 rfl rfl ?_
      refine pd_idx (T := tab) cClass a1 rfl rfl rfl rfl rfl rfl rfl fun y4 hy4 => ?_
      refine pd_evs (T := tab) 3 rfl rfl ?_
      refine pd_idx (T := tab) cClass b2 rfl rfl rfl rfl rfl rfl rfl fun y5 hy5 => ?_
      refine pd_evs (T := tab) 1 rfl rfl ?_
      refine pd_call (enc := fun (r6 : Bool) => .v (.bool r6)) (qs := [.agg (cClass y4), .agg (cClass y5)]) (Instarref12_Alike_ok fu y4 y5) rfl rfl ⟨⟨_, rfl, .rfl⟩, ⟨_, rfl, .rfl⟩, trivial⟩ (fun _ => rfl) call59 rfl rfl fun r6 hr6 => ?_
      refine pd_evs (T := tab) 1 rfl rfl ?_
      refine pd_nil ?_
      refine pn_seq ?_
      refine pw_cnd rfl ?_ ?_
      · refine pw_seq ?_
        refine pw_region ?_
        refine po_evs (T := tab) 1 rfl rfl ?_
        refine po_nil ?_
        refine pn_seq ?_
        exact pw_retN (T := tab) rfl rfl rfl ⟨rfl, rfl⟩ trivial rfl
      · refine pw_skip ?_
        refine pn_block ?_
        refine pn_seq ?_
        refine pw_region ?_
        refine po_evs (T := tab) 1 rfl rfl ?_
        refine po_arith' (T := tab) rfl rfl rfl rfl fun i7 hi7 => ?_
        refine po_evs (T := tab) 1 rfl rfl ?_
        refine po_nil ?_
        exact pn_iter' i7 ⟨rfl, rfl, rfl, trivial⟩ trivial rfl
    · refine pw_exit rfl ?_
      refine pn_seq ?_
      refine pw_seq ?_
      refine pw_region ?_
      refine po_evs (T := tab) 1 rfl rfl ?_
      refine po_nil ?_
      refine pn_seq ?_
      exact pw_retN (T := tab) rfl rfl rfl ⟨rfl, rfl⟩ trivial rfl

def Instarref22_Same_m (fu : Nat) (a1 : Script) (b2 : Script) : Option Bool := bnd (Instarref17_Classes_m fu a1.Classes b2.Classes) fun r3 => cnd r3 (bnd (Instarref12_Ops_m fu a1.Main b2.Main) fun r4 => some r4) (some false)

set_option maxRecDepth 100000 in
theorem Instarref22_Same_ok (fu : Nat) (a1 : Script) (b2 : Script) : ∀ r, Instarref22_Same_m fu a1 b2 = some r → DC Try.prog 11 [.agg (cScript a1), .agg (cScript b2)] (.v (.bool r)) := by
  intro r hr
  refine fc_intro (args := [.agg (cScript a1), .agg (cScript b2)]) (S := []) (N0 := []) (post := fun r p S => p = .v (.bool r) ∧ S = []) Try.func11 rfl rfl hr fun w0 X X0 σ0 => ?_
  refine pw_seq ?_
  refine pw_region ?_
  refine po_box  2 rfl rfl rfl rfl rfl rfl rfl rfl rfl rfl ?_
  refine po_box  3 rfl rfl rfl rfl rfl rfl rfl rfl rfl rfl ?_
  refine po_evs (T := tab) 1 rfl rfl ?_
  refine po_nil ?_
  refine pn_seq ?_
  refine pw_seq ?_
  refine pw_region ?_
  refine po_evs (T := tab) 4 rfl rfl ?_
  refine po_call (enc := fun (r3 : Bool) => .v (.bool r3)) (qs := [.sl 5 false (a1.Classes.map cClass), .sl 5 false (b2.Classes.map cClass)]) (Instarref17_Classes_ok fu a1.Classes b2.Classes) rfl rfl ⟨⟨_, rfl, .rfl⟩, ⟨_, rfl, .rfl⟩, trivial⟩ (fun _ => rfl) call33 rfl rfl fun r3 hr3 => ?_
  refine po_evs (T := tab) 1 rfl rfl ?_
  refine po_split (j := 10) rfl ?_ ?_
  · refine po_evs (T := tab) 4 rfl rfl ?_
    refine po_call (enc := fun (r4 : Bool) => .v (.bool r4)) (qs := [.sl 7 false (a1.Main.map cOp), .sl 7 false (b2.Main.map cOp)]) (Instarref12_Ops_ok fu a1.Main b2.Main) rfl rfl ⟨⟨_, rfl, .rfl⟩, ⟨_, rfl, .rfl⟩, trivial⟩ (fun _ => rfl) call34 rfl rfl fun r4 hr4 => ?_
    refine po_evs (T := tab) 2 rfl rfl ?_
    refine po_nil ?_
    refine pn_seq ?_
    exact pw_retN (T := tab) rfl rfl rfl ⟨rfl, rfl⟩ trivial rfl
  · refine po_evs (T := tab) 7 rfl rfl ?_
    refine po_nil ?_
    refine pn_seq ?_
    exact pw_retN (T := tab) rfl rfl rfl ⟨rfl, rfl⟩ trivial rfl

def Instarref25_MarksClasses_l1 (fu : Nat) (l1 : (List Mark)) (a2 : Int) (b3 : Int) : Nat → Int × (List Mark) → Option (List Mark)
  | 0, _ => none
  | k1 + 1, (i4, l5) => cnd (decide (i4 < ((l1.length : Nat) : Int))) (bnd (idx l1 i4) fun y6 => cnd (y6.Kind == 3) (bnd (Instarref25_Number_m fu y6.What a2 b3) fun r7 => bnd (roomy 120 (l5.length + ([(⟨y6.Kind, y6.Depth, y6.Node, r7, y6.Err, y6.Name, y6.Had, y6.Has, y6.Old, y6.New, y6.From, y6.To, y6.On⟩ : Mark)] : List Mark).length)) fun _ => bnd (rng .i64 (i4 + 1)) fun i11 => (Instarref25_MarksClasses_l1 fu l1 a2 b3 k1) (i11, (l5 ++ [(⟨y6.Kind, y6.Depth, y6.Node, r7, y6.Err, y6.Name, y6.Had, y6.Has, y6.Old, y6.New, y6.From, y6.To, y6.On⟩ : Mark)]))) (cnd (y6.Kind == 4) (bnd (Instarref25_Number_m fu y6.What a2 b3) fun r8 => bnd (roomy 120 (l5.length + ([(⟨y6.Kind, y6.Depth, y6.Node, r8, y6.Err, y6.Name, y6.Had, y6.Has, y6.Old, y6.New, y6.From, y6.To, y6.On⟩ : Mark)] : List Mark).length)) fun _ => bnd (rng .i64 (i4 + 1)) fun i12 => (Instarref25_MarksClasses_l1 fu l1 a2 b3 k1) (i12, (l5 ++ [(⟨y6.Kind, y6.Depth, y6.Node, r8, y6.Err, y6.Name, y6.Had, y6.Has, y6.Old, y6.New, y6.From, y6.To, y6.On⟩ : Mark)]))) (cnd (y6.Kind == 8) (bnd (Instarref25_Number_m fu y6.What a2 b3) fun r9 => bnd (roomy 120 (l5.length + ([(⟨y6.Kind, y6.Depth, y6.Node, r9, y6.Err, y6.Name, y6.Had, y6.Has, y6.Old, y6.New, y6.From, y6.To, y6.On⟩ : Mark)] : List Mark).length)) fun _ => bnd (rng .i64 (i4 + 1)) fun i13 => (Instarref25_MarksClasses_l1 fu l1 a2 b3 k1) (i13, (l5 ++ [(⟨y6.Kind, y6.Depth, y6.Node, r9, y6.Err, y6.Name, y6.Had, y6.Has, y6.Old, y6.New, y6.From, y6.To, y6.On⟩ : Mark)]))) (cnd (y6.Kind == 9) (bnd (Instarref25_Number_m fu y6.What a2 b3) fun r10 => bnd (roomy 120 (l5.length + ([(⟨y6.Kind, y6.Depth, y6.Node, r10, y6.Err, y6.Name, y6.Had, y6.Has, y6.Old, y6.New, y6.From, y6.To, y6.On⟩ : Mark)] : List Mark).length)) fun _ => bnd (rng .i64 (i4 + 1)) fun i14 => (Instarref25_MarksClasses_l1 fu l1 a2 b3 k1) (i14, (l5 ++ [(⟨y6.Kind, y6.Depth, y6.Node, r10, y6.Err, y6.Name, y6.Had, y6.Has, y6.Old, y6.New, y6.From, y6.To, y6.On⟩ : Mark)]))) (bnd (roomy 120 (l5.length + ([y6] : List Mark).length)) fun _ => bnd (rng .i64 (i4 + 1)) fun i15 => (Instarref25_MarksClasses_l1 fu l1 a2 b3 k1) (i15, (l5 ++ [y6]))))))) (some l5)

def Instarref25_MarksClasses_m (fu : Nat) (l1 : (List Mark)) (a2 : Int) (b3 : Int) : Option (List Mark) := (Instarref25_MarksClasses_l1 fu l1 a2 b3) fu (0, [])

set_option maxHeartbeats 10000000 in
set_option maxRecDepth 100000 in
theorem Instarref25_MarksClasses_ok (fu : Nat) (l1 : (List Mark)) (a2 : Int) (b3 : Int) : ∀ r, Instarref25_MarksClasses_m fu l1 a2 b3 = some r → DC Try.prog 16 [.sl 13 false (l1.map cMark), .v (.int .i64 a2), .v (.int .i64 b3)] (.sl 13 false (r.map cMark)) := by
  intro r hr
  refine fc_intro (args := [.sl 13 false (l1.map cMark), .v (.int .i64 a2), .v (.int .i64 b3)]) (S := []) (N0 := []) (post := fun r p S => p = .sl 13 false (r.map cMark) ∧ S = []) Try.func16 rfl rfl hr fun w0 X X0 σ0 => ?_
  refine pw_seq ?_
  refine pw_region ?_
  refine po_evs (T := tab) 1 rfl rfl ?_
  refine po_nil ?_
  refine pn_seq ?_
  refine pw_seq ?_
  refine pw_region ?_
  refine po_evs (T := tab) 1 rfl rfl ?_
  refine po_nil ?_
  refine pn_seq ?_
  refine pw_seq ?_
  refine pw_seq ?_
  refine pw_region ?_
  refine po_evs (T := tab) 1 rfl rfl ?_
  refine po_nil ?_
  refine pn_seq ?_
  refine pw_block ?_
  refine pw_own_nil 1047 55 13 7 rfl rfl rfl rfl ?_
  refine pw_loop' (Instarref25_MarksClasses_l1 fu l1 a2 b3) (fun ((i4, l5) : Int × (List Mark)) => [(0, .sl 13 false (l1.map cMark)), (1, .v (.int .i64 a2)), (2, .v (.int .i64 b3)), (7, .own 1047), (8, .v (.int .i64 i4))]) (fun ((i4, l5) : Int × (List Mark)) => [(1047, .arr 55 13 (l5.map cMark))]) fu (0, []) (fun _ => rfl) ⟨rfl, rfl, rfl, rfl, rfl, trivial⟩ ⟨rfl, trivial⟩ rfl ?_
  rintro k1 ⟨i4, l5⟩
  refine pw_seq ?_
  refine pw_seq ?_
  refine pw_region ?_
  refine po_evs (T := tab) 2 rfl rfl ?_
  refine po_len (T := tab) cMark l1 rfl rfl rfl rfl rfl rfl rfl rfl ?_
  refine po_evs (T := tab) 1 rfl rfl ?_
  refine po_nil ?_
  refine pn_seq ?_
  refine pw_cnd rfl ?_ ?_
  · refine pw_skip ?_
    refine pn_seq ?_
    refine pw_seq ?_
    refine pw_block ?_
    refine pw_seq ?_
    refine pw_region ?_
    refine po_evs (T := tab) 2 rfl rfl ?_
    refine po_idx (T := tab) cMark l1 rfl rfl rfl rfl rfl rfl rfl fun y6 hy6 => ?_
    refine po_evs (T := tab) 1 rfl rfl ?_
    refine po_alloc (T := tab) 9 rfl rfl rfl rfl rfl rfl rfl rfl rfl ?_
    refine po_store (T := tab) rfl rfl rfl rfl rfl rfl rfl rfl rfl rfl rfl rfl ?_
    refine po_nil ?_
    refine pn_seq ?_
    refine pw_seq ?_
    refine pw_seq ?_
    refine pw_region ?_
    refine po_evs (T := tab) 4 rfl rfl ?_
    refine po_split (j := 23) rfl ?_ ?_
    · refine po_evs (T := tab) 14 rfl rfl ?_
      refine po_nil ?_
      refine pn_seq (pw_then rfl ?_)
      refine pw_region ?_
      refine po_evs (T := tab) 4 rfl rfl ?_
      refine po_call (enc := fun (r7 : Int) => .v (.int .i64 r7)) (qs := [.v (.int .i64 y6.What), .v (.int .i64 a2), .v (.int .i64 b3)]) (Instarref25_Number_ok fu y6.What a2 b3) rfl rfl ⟨⟨_, rfl, .rfl⟩, ⟨_, rfl, .rfl⟩, ⟨_, rfl, .rfl⟩, trivial⟩ (fun _ => rfl) call39 rfl rfl fun r7 hr7 => ?_
      refine po_evs (T := tab) 1 rfl rfl ?_
      refine po_store (T := tab) rfl rfl rfl rfl rfl rfl rfl rfl rfl rfl rfl rfl ?_
      refine po_nil ?_
      refine pn_seq ?_
      refine pw_region ?_
      refine po_evs (T := tab) 2 rfl rfl ?_
      refine po_lit (T := tab) (rows := [(⟨y6.Kind, y6.Depth, y6.Node, r7, y6.Err, y6.Name, y6.Had, y6.Has, y6.Old, y6.New, y6.From, y6.To, y6.On⟩ : Mark)].map cMark) 46 rfl rfl rfl rfl rfl rfl rfl rfl rfl rfl rfl rfl rfl rfl ?_
      refine po_append (T := tab) cMark l5 ([(⟨y6.Kind, y6.Depth, y6.Node, r7, y6.Err, y6.Name, y6.Had, y6.Has, y6.Old, y6.New, y6.From, y6.To, y6.On⟩ : Mark)] : List Mark) rfl rfl rfl rfl rfl rfl rfl rfl rfl rfl rfl rfl rfl rfl (cMark_one _) rfl rfl rfl rfl rfl ?_
      refine po_evs (T := tab) 1 rfl rfl ?_
      refine po_nil ?_
      refine pn_block ?_
      refine pn_seq ?_
      refine pw_region ?_
      refine po_evs (T := tab) 1 rfl rfl ?_
      refine po_arith' (T := tab) rfl rfl rfl rfl fun i11 hi11 => ?_
      refine po_evs (T := tab) 1 rfl rfl ?_
      refine po_nil ?_
      exact pn_iter' (i11, (l5 ++ [(⟨y6.Kind, y6.Depth, y6.Node, r7, y6.Err, y6.Name, y6.Had, y6.Has, y6.Old, y6.New, y6.From, y6.To, y6.On⟩ : Mark)])) ⟨rfl, rfl, rfl, rfl, rfl, trivial⟩ ⟨rfl, trivial⟩ rfl
    · refine po_evs (T := tab) 5 rfl rfl ?_
      refine po_split (j := 28) rfl ?_ ?_
      · refine po_evs (T := tab) 9 rfl rfl ?_
        refine po_nil ?_
        refine pn_seq (pw_then rfl ?_)
        refine pw_region ?_
        refine po_evs (T := tab) 4 rfl rfl ?_
        refine po_call (enc := fun (r8 : Int) => .v (.int .i64 r8)) (qs := [.v (.int .i64 y6.What), .v (.int .i64 a2), .v (.int .i64 b3)]) (Instarref25_Number_ok fu y6.What a2 b3) rfl rfl ⟨⟨_, rfl, .rfl⟩, ⟨_, rfl, .rfl⟩, ⟨_, rfl, .rfl⟩, trivial⟩ (fun _ => rfl) call39 rfl rfl fun r8 hr8 => ?_
        refine po_evs (T := tab) 1 rfl rfl ?_
        refine po_store (T := tab) rfl rfl rfl rfl rfl rfl rfl rfl rfl rfl rfl rfl ?_
        refine po_nil ?_
        refine pn_seq ?_
        refine pw_region ?_
        refine po_evs (T := tab) 2 rfl rfl ?_
        refine po_lit (T := tab) (rows := [(⟨y6.Kind, y6.Depth, y6.Node, r8, y6.Err, y6.Name, y6.Had, y6.Has, y6.Old, y6.New, y6.From, y6.To, y6.On⟩ : Mark)].map cMark) 46 rfl rfl rfl rfl rfl rfl rfl rfl rfl rfl rfl rfl rfl rfl ?_
        refine po_append (T := tab) cMark l5 ([(⟨y6.Kind, y6.Depth, y6.Node, r8, y6.Err, y6.Name, y6.Had, y6.Has, y6.Old, y6.New, y6.From, y6.To, y6.On⟩ : Mark)] : List Mark) rfl rfl rfl rfl rfl rfl rfl rfl rfl rfl rfl rfl rfl rfl (cMark_one _) rfl rfl rfl rfl rfl ?_
        refine po_evs (T := tab) 1 rfl rfl ?_
        refine po_nil ?_
        refine pn_block ?_
        refine pn_seq ?_
        refine pw_region ?_
        refine po_evs (T := tab) 1 rfl rfl ?_
        refine po_arith' (T := tab) rfl rfl rfl rfl fun i12 hi12 => ?_
        refine po_evs (T := tab) 1 rfl rfl ?_
        refine po_nil ?_
        exact pn_iter' (i12, (l5 ++ [(⟨y6.Kind, y6.Depth, y6.Node, r8, y6.Err, y6.Name, y6.Had, y6.Has, y6.Old, y6.New, y6.From, y6.To, y6.On⟩ : Mark)])) ⟨rfl, rfl, rfl, rfl, rfl, trivial⟩ ⟨rfl, trivial⟩ rfl
      · refine po_evs (T := tab) 5 rfl rfl ?_
        refine po_split (j := 33) rfl ?_ ?_
        · refine po_evs (T := tab) 4 rfl rfl ?_
          refine po_nil ?_
          refine pn_seq (pw_then rfl ?_)
          refine pw_region ?_
          refine po_evs (T := tab) 4 rfl rfl ?_
          refine po_call (enc := fun (r9 : Int) => .v (.int .i64 r9)) (qs := [.v (.int .i64 y6.What), .v (.int .i64 a2), .v (.int .i64 b3)]) (Instarref25_Number_ok fu y6.What a2 b3) rfl rfl ⟨⟨_, rfl, .rfl⟩, ⟨_, rfl, .rfl⟩, ⟨_, rfl, .rfl⟩, trivial⟩ (fun _ => rfl) call39 rfl rfl fun r9 hr9 => ?_
          refine po_evs (T := tab) 1 rfl rfl ?_
          refine po_store (T := tab) rfl rfl rfl rfl rfl rfl rfl rfl rfl rfl rfl rfl ?_
          refine po_nil ?_
          refine pn_seq ?_
          refine pw_region ?_
          refine po_evs (T := tab) 2 rfl rfl ?_
          refine po_lit (T := tab) (rows := [(⟨y6.Kind, y6.Depth, y6.Node, r9, y6.Err, y6.Name, y6.Had, y6.Has, y6.Old, y6.New, y6.From, y6.To, y6.On⟩ : Mark)].map cMark) 46 rfl rfl rfl rfl rfl rfl rfl rfl rfl rfl rfl rfl rfl rfl ?_
          refine po_append (T := tab) cMark l5 ([(⟨y6.Kind, y6.Depth, y6.Node, r9, y6.Err, y6.Name, y6.Had, y6.Has, y6.Old, y6.New, y6.From, y6.To, y6.On⟩ : Mark)] : List Mark) rfl rfl rfl rfl rfl rfl rfl rfl rfl rfl rfl rfl rfl rfl (cMark_one _) rfl rfl rfl rfl rfl ?_
          refine po_evs (T := tab) 1 rfl rfl ?_
          refine po_nil ?_
          refine pn_block ?_
          refine pn_seq ?_
          refine pw_region ?_
          refine po_evs (T := tab) 1 rfl rfl ?_
          refine po_arith' (T := tab) rfl rfl rfl rfl fun i13 hi13 => ?_
          refine po_evs (T := tab) 1 rfl rfl ?_
          refine po_nil ?_
          exact pn_iter' (i13, (l5 ++ [(⟨y6.Kind, y6.Depth, y6.Node, r9, y6.Err, y6.Name, y6.Had, y6.Has, y6.Old, y6.New, y6.From, y6.To, y6.On⟩ : Mark)])) ⟨rfl, rfl, rfl, rfl, rfl, trivial⟩ ⟨rfl, trivial⟩ rfl
        · refine po_evs (T := tab) 4 rfl rfl ?_
          refine po_nil ?_
          refine pn_seq ?_
          refine pw_cnd rfl ?_ ?_
          · refine pw_region ?_
            refine po_evs (T := tab) 4 rfl rfl ?_
            refine po_call (enc := fun (r10 : Int) => .v (.int .i64 r10)) (qs := [.v (.int .i64 y6.What), .v (.int .i64 a2), .v (.int .i64 b3)]) (Instarref25_Number_ok fu y6.What a2 b3) rfl rfl ⟨⟨_, rfl, .rfl⟩, ⟨_, rfl, .rfl⟩, ⟨_, rfl, .rfl⟩, trivial⟩ (fun _ => rfl) call39 rfl rfl fun r10 hr10 => ?_
            refine po_evs (T := tab) 1 rfl rfl ?_
            refine po_store (T := tab) rfl rfl rfl rfl rfl rfl rfl rfl rfl rfl rfl rfl ?_
            refine po_nil ?_
            refine pn_seq ?_
            refine pw_region ?_
            refine po_evs (T := tab) 2 rfl rfl ?_
            refine po_lit (T := tab) (rows := [(⟨y6.Kind, y6.Depth, y6.Node, r10, y6.Err, y6.Name, y6.Had, y6.Has, y6.Old, y6.New, y6.From, y6.To, y6.On⟩ : Mark)].map cMark) 46 rfl rfl rfl rfl rfl rfl rfl rfl rfl rfl rfl rfl rfl rfl ?_
            refine po_append (T := tab) cMark l5 ([(⟨y6.Kind, y6.Depth, y6.Node, r10, y6.Err, y6.Name, y6.Had, y6.Has, y6.Old, y6.New, y6.From, y6.To, y6.On⟩ : Mark)] : List Mark) rfl rfl rfl rfl rfl rfl rfl rfl rfl rfl rfl rfl rfl rfl (cMark_one _) rfl rfl rfl rfl rfl ?_
            refine po_evs (T := tab) 1 rfl rfl ?_
            refine po_nil ?_
            refine pn_block ?_
            refine pn_seq ?_
            refine pw_region ?_
            refine po_evs (T := tab) 1 rfl rfl ?_
            refine po_arith' (T := tab) rfl rfl rfl rfl fun i14 hi14 => ?_
            refine po_evs (T := tab) 1 rfl rfl ?_
            refine po_nil ?_
            exact pn_iter' (i14, (l5 ++ [(⟨y6.Kind, y6.Depth, y6.Node, r10, y6.Err, y6.Name, y6.Had, y6.Has, y6.Old, y6.New, y6.From, y6.To, y6.On⟩ : Mark)])) ⟨rfl, rfl, rfl, rfl, rfl, trivial⟩ ⟨rfl, trivial⟩ rfl
          · refine pw_skip ?_
            refine pn_seq ?_
            refine pw_region ?_
            refine po_evs (T := tab) 2 rfl rfl ?_
            refine po_lit (T := tab) (rows := [y6].map cMark) 46 rfl rfl rfl rfl rfl rfl rfl rfl rfl rfl rfl rfl rfl rfl ?_
            refine po_append (T := tab) cMark l5 ([y6] : List Mark) rfl rfl rfl rfl rfl rfl rfl rfl rfl rfl rfl rfl rfl rfl (cMark_one _) rfl rfl rfl rfl rfl ?_
            refine po_evs (T := tab) 1 rfl rfl ?_
            refine po_nil ?_
            refine pn_block ?_
            refine pn_seq ?_
            refine pw_region ?_
            refine po_evs (T := tab) 1 rfl rfl ?_
            refine po_arith' (T := tab) rfl rfl rfl rfl fun i15 hi15 => ?_
            refine po_evs (T := tab) 1 rfl rfl ?_
            refine po_nil ?_
            exact pn_iter' (i15, (l5 ++ [y6])) ⟨rfl, rfl, rfl, rfl, rfl, trivial⟩ ⟨rfl, trivial⟩ rfl
  · refine pw_exit rfl ?_
    refine pn_seq ?_
    refine pw_seq ?_
    refine pw_region ?_
    refine po_evs (T := tab) 2 rfl rfl ?_
    refine po_nil ?_
    refine pn_seq ?_
    refine pw_freeze 1047 rfl rfl rfl ?_
    exact pw_retN (T := tab) rfl rfl rfl ⟨rfl, rfl⟩ trivial rfl

def Instarref20_Marks_l1 (a1 : (List Mark)) (b2 : (List Mark)) : Nat → Int → Option Bool
  | 0, _ => none
  | k1 + 1, i3 => cnd (decide (i3 < ((a1.length : Nat) : Int))) (bnd (idx a1 i3) fun y4 => bnd (idx b2 i3) fun y5 => cnd (!(eqMark y4 y5)) (some false) (bnd (rng .i64 (i3 + 1)) fun i6 => (Instarref20_Marks_l1 a1 b2 k1) i6)) (some true)

def Instarref20_Marks_m (fu : Nat) (a1 : (List Mark)) (b2 : (List Mark)) : Option Bool := cnd (((a1.length : Nat) : Int) != ((b2.length : Nat) : Int)) (some false) ((Instarref20_Marks_l1 a1 b2) fu 0)

set_option maxHeartbeats 10000000 in
set_option maxRecDepth 100000 in
theorem Instarref20_Marks_ok (fu : Nat) (a1 : (List Mark)) (b2 : (List Mark)) : ∀ r, Instarref20_Marks_m fu a1 b2 = some r → DC Try.prog 14 [.sl 13 false (a1.map cMark), .sl 13 false (b2.map cMark)] (.v (.bool r)) := by
  intro r hr
  refine fc_intro (args := [.sl 13 false (a1.map cMark), .sl 13 false (b2.map cMark)]) (S := []) (N0 := []) (post := fun r p S => p = .v (.bool r) ∧ S = []) Try.func14 rfl rfl hr fun w0 X X0 σ0 => ?_
  refine pw_seq ?_
  refine pw_region ?_
  refine po_evs (T := tab) 1 rfl rfl ?_
  refine po_nil ?_
  refine pn_seq ?_
  refine pw_seq ?_
  refine pw_seq ?_
  refine pw_region ?_
  refine po_evs (T := tab) 1 rfl rfl ?_
  refine po_len (T := tab) cMark a1 rfl rfl rfl rfl rfl rfl rfl rfl ?_
  refine po_evs (T := tab) 1 rfl rfl ?_
  refine po_len (T := tab) cMark b2 rfl rfl rfl rfl rfl rfl rfl rfl ?_
  refine po_evs (T := tab) 1 rfl rfl ?_
  refine po_nil ?_
  refine pn_seq ?_
  refine pw_cnd rfl ?_ ?_
  · refine pw_seq ?_
    refine pw_region ?_
    refine po_evs (T := tab) 1 rfl rfl ?_
    refine po_nil ?_
    refine pn_seq ?_
    exact pw_retN (T := tab) rfl rfl rfl ⟨rfl, rfl⟩ trivial rfl
  · refine pw_skip ?_
    refine pn_seq ?_
    refine pw_seq ?_
    refine pw_seq ?_
    refine pw_region ?_
    refine po_evs (T := tab) 1 rfl rfl ?_
    refine po_nil ?_
    refine pn_seq ?_
    refine pw_block ?_
    refine pw_loop' (Instarref20_Marks_l1 a1 b2) (fun (i3 : Int) => [(0, .sl 13 false (a1.map cMark)), (1, .sl 13 false (b2.map cMark)), (5, .v (.int .i64 i3))]) (fun (i3 : Int) => []) fu 0 (fun _ => rfl) ⟨rfl, rfl, rfl, trivial⟩ trivial rfl ?_
    rintro k1 i3
    refine pw_seq ?_
    refine pw_seq ?_
    refine pw_region ?_
    refine po_evs (T := tab) 2 rfl rfl ?_
    refine po_len (T := tab) cMark a1 rfl rfl rfl rfl rfl rfl rfl rfl ?_
    refine po_evs (T := tab) 1 rfl rfl ?_
    refine po_nil ?_
    refine pn_seq ?_
    refine pw_cnd rfl ?_ ?_
    · refine pw_skip ?_
      refine pn_seq ?_
      refine pw_seq ?_
      refine pw_block ?_
      refine pw_seq ?_
      refine pw_draw mixed (by kernel_rfl) ?_
      refine pd_evs (T := tab) 2 rfl rfl ?_
      refine pd_idx (T := tab) cMark a1 rfl rfl rfl rfl rfl rfl rfl fun y4 hy4 => ?_
      refine pd_evs (T := tab) 3 rfl rfl ?_
      refine pd_idx (T := tab) cMark b2 rfl rfl rfl rfl rfl rfl rfl fun y5 hy5 => ?_
      refine pd_evs (T := tab) 1 rfl rfl ?_
      refine pd_ne eqf_55 rfl rfl rfl rfl rfl rfl rfl ?_
      refine pd_nil ?_
      refine pn_seq ?_
      refine pw_cnd rfl ?_ ?_
      · refine pw_seq ?_
        refine pw_region ?_
        refine po_evs (T := tab) 1 rfl rfl ?_
        refine po_nil ?_
        refine pn_seq ?_
        exact pw_retN (T := tab) rfl rfl rfl ⟨rfl, rfl⟩ trivial rfl
      · refine pw_skip ?_
        refine pn_block ?_
        refine pn_seq ?_
        refine pw_region ?_
        refine po_evs (T := tab) 1 rfl rfl ?_
        refine po_arith' (T := tab) rfl rfl rfl rfl fun i6 hi6 => ?_
        refine po_evs (T := tab) 1 rfl rfl ?_
        refine po_nil ?_
        exact pn_iter' i6 ⟨rfl, rfl, rfl, trivial⟩ trivial rfl
    · refine pw_exit rfl ?_
      refine pn_seq ?_
      refine pw_seq ?_
      refine pw_region ?_
      refine po_evs (T := tab) 1 rfl rfl ?_
      refine po_nil ?_
      refine pn_seq ?_
      exact pw_retN (T := tab) rfl rfl rfl ⟨rfl, rfl⟩ trivial rfl

def Instarref01_Right_j2 (i2 : Int) (b3 : Int) (letter4 : Bool) (rc1 : Int → Option Bool) (other5 : Bool) : Option Bool := cnd (!letter4) (cnd (b3 != 95) (cnd (i2 == 0) (some false) (cnd (!other5) (some false) (bnd (rng .i64 (i2 + 1)) fun i6 => rc1 i6))) (bnd (rng .i64 (i2 + 1)) fun i7 => rc1 i7)) (bnd (rng .i64 (i2 + 1)) fun i8 => rc1 i8)

def Instarref01_Right_j1 (i2 : Int) (b3 : Int) (rc1 : Int → Option Bool) (letter4 : Bool) : Option Bool := cnd (decide (b3 ≥ 48)) (cnd (decide (b3 ≤ 57)) ((Instarref01_Right_j2 i2 b3 letter4 rc1) true) (cnd (b3 == 45) ((Instarref01_Right_j2 i2 b3 letter4 rc1) true) ((Instarref01_Right_j2 i2 b3 letter4 rc1) (b3 == 46)))) (cnd (b3 == 45) ((Instarref01_Right_j2 i2 b3 letter4 rc1) true) ((Instarref01_Right_j2 i2 b3 letter4 rc1) (b3 == 46)))

def Instarref01_Right_l1 (s1 : Bs) : Nat → Int → Option Bool
  | 0, _ => none
  | k1 + 1, i2 => cnd (decide (i2 < ((s1.length : Nat) : Int))) (bnd (chr s1 i2) fun b3 => cnd (decide (b3 ≥ 97)) (cnd (decide (b3 ≤ 122)) ((Instarref01_Right_j1 i2 b3 (Instarref01_Right_l1 s1 k1)) true) (cnd (decide (b3 ≥ 65)) ((Instarref01_Right_j1 i2 b3 (Instarref01_Right_l1 s1 k1)) (decide (b3 ≤ 90))) ((Instarref01_Right_j1 i2 b3 (Instarref01_Right_l1 s1 k1)) false))) (cnd (decide (b3 ≥ 65)) ((Instarref01_Right_j1 i2 b3 (Instarref01_Right_l1 s1 k1)) (decide (b3 ≤ 90))) ((Instarref01_Right_j1 i2 b3 (Instarref01_Right_l1 s1 k1)) false))) (some true)

def Instarref01_Right_m (fu : Nat) (s1 : Bs) : Option Bool := cnd (((s1.length : Nat) : Int) == 0) (some false) (cnd (decide (((s1.length : Nat) : Int) > 40)) (some false) ((Instarref01_Right_l1 s1) fu 0))

set_option maxHeartbeats 10000000 in
set_option maxRecDepth 100000 in
theorem Instarref01_Right_ok (fu : Nat) (s1 : Bs) : ∀ r, Instarref01_Right_m fu s1 = some r → DC Try.prog 90 [.v (.string ⟨⟨s1⟩⟩)] (.v (.bool r)) := by
  intro r hr
  refine fc_intro (args := [.v (.string ⟨⟨s1⟩⟩)]) (S := []) (N0 := []) (post := fun r p S => p = .v (.bool r) ∧ S = []) Try.func90 rfl rfl hr fun w0 X X0 σ0 => ?_
  refine pw_seq ?_
  refine pw_region ?_
  refine po_evs (T := tab) 1 rfl rfl ?_
  refine po_nil ?_
  refine pn_seq ?_
  refine pw_seq ?_
  refine pw_seq ?_
  refine pw_region ?_
  refine po_evs (T := tab) 4 rfl rfl ?_
  refine po_split (j := 10) rfl ?_ ?_
  · refine po_evs (T := tab) 4 rfl rfl ?_
    refine po_nil ?_
    refine pn_seq (pw_then rfl ?_)
    refine pw_seq ?_
    refine pw_region ?_
    refine po_evs (T := tab) 1 rfl rfl ?_
    refine po_nil ?_
    refine pn_seq ?_
    exact pw_retN (T := tab) rfl rfl rfl ⟨rfl, rfl⟩ trivial rfl
  · refine po_evs (T := tab) 4 rfl rfl ?_
    refine po_nil ?_
    refine pn_seq ?_
    refine pw_cnd rfl ?_ ?_
    · refine pw_seq ?_
      refine pw_region ?_
      refine po_evs (T := tab) 1 rfl rfl ?_
      refine po_nil ?_
      refine pn_seq ?_
      exact pw_retN (T := tab) rfl rfl rfl ⟨rfl, rfl⟩ trivial rfl
    · refine pw_skip ?_
      refine pn_seq ?_
      refine pw_seq ?_
      refine pw_seq ?_
      refine pw_region ?_
      refine po_evs (T := tab) 1 rfl rfl ?_
      refine po_nil ?_
      refine pn_seq ?_
      refine pw_block ?_
      refine pw_loop' (Instarref01_Right_l1 s1) (fun (i2 : Int) => [(0, .v (.string ⟨⟨s1⟩⟩)), (3, .v (.int .i64 i2))]) (fun (i2 : Int) => []) fu 0 (fun _ => rfl) ⟨rfl, rfl, trivial⟩ trivial rfl ?_
      rintro k1 i2
      refine pw_seq ?_
      refine pw_seq ?_
      refine pw_region ?_
      refine po_evs (T := tab) 4 rfl rfl ?_
      refine po_nil ?_
      refine pn_seq ?_
      refine pw_cnd rfl ?_ ?_
      · refine pw_skip ?_
        refine pn_seq ?_
        refine pw_seq ?_
        refine pw_block ?_
        refine pw_seq ?_
        refine pw_region ?_
        refine po_evs (T := tab) 2 rfl rfl ?_
        refine po_chr (T := tab) (s := s1) rfl rfl rfl rfl rfl rfl rfl fun b3 hb3 => ?_
        refine po_evs (T := tab) 1 rfl rfl ?_
        refine po_nil ?_
        refine pn_seq ?_
        refine pw_seq ?_
        refine pw_region ?_
        refine po_joinK (Instarref01_Right_j1 i2 b3 (Instarref01_Right_l1 s1 k1)) (fun (letter4 : Bool) => [(0, .v (.string ⟨⟨s1⟩⟩)), (3, .v (.int .i64 i2)), (4, .v (.int .u8 b3)), (5, .v (.bool letter4))]) (fun (letter4 : Bool) => []) ?_ fun hj1 => ?_
        · rintro letter4
          refine pn_seq ?_
          refine pw_seq ?_
          refine pw_region ?_
          refine po_joinK (Instarref01_Right_j2 i2 b3 letter4 (Instarref01_Right_l1 s1 k1)) (fun (other5 : Bool) => [(0, .v (.string ⟨⟨s1⟩⟩)), (3, .v (.int .i64 i2)), (4, .v (.int .u8 b3)), (5, .v (.bool letter4)), (6, .v (.bool other5))]) (fun (other5 : Bool) => []) ?_ fun hj2 => ?_
          · rintro other5
            refine pn_seq ?_
            refine pw_seq ?_
            refine pw_region ?_
            refine po_evs (T := tab) 3 rfl rfl ?_
            refine po_split (j := 54) rfl ?_ ?_
            · refine po_evs (T := tab) 4 rfl rfl ?_
              refine po_split (j := 58) rfl ?_ ?_
              · refine po_evs (T := tab) 3 rfl rfl ?_
                refine po_split (j := 61) rfl ?_ ?_
                · refine po_evs (T := tab) 4 rfl rfl ?_
                  refine po_nil ?_
                  refine pn_seq (pw_then rfl ?_)
                  refine pw_seq ?_
                  refine pw_region ?_
                  refine po_evs (T := tab) 1 rfl rfl ?_
                  refine po_nil ?_
                  refine pn_seq ?_
                  exact pw_retN (T := tab) rfl rfl rfl ⟨rfl, rfl⟩ trivial rfl
                · refine po_evs (T := tab) 4 rfl rfl ?_
                  refine po_nil ?_
                  refine pn_seq ?_
                  refine pw_cnd rfl ?_ ?_
                  · refine pw_seq ?_
                    refine pw_region ?_
                    refine po_evs (T := tab) 1 rfl rfl ?_
                    refine po_nil ?_
                    refine pn_seq ?_
                    exact pw_retN (T := tab) rfl rfl rfl ⟨rfl, rfl⟩ trivial rfl
                  · refine pw_skip ?_
                    refine pn_block ?_
                    refine pn_seq ?_
                    refine pw_region ?_
                    refine po_evs (T := tab) 1 rfl rfl ?_
                    refine po_arith' (T := tab) rfl rfl rfl rfl fun i6 hi6 => ?_
                    refine po_evs (T := tab) 1 rfl rfl ?_
                    refine po_nil ?_
                    exact pn_iter' i6 ⟨rfl, rfl, trivial⟩ trivial rfl
              · refine po_evs (T := tab) 7 rfl rfl ?_
                refine po_nil ?_
                refine pn_seq (pw_else rfl ?_)
                refine pw_skip ?_
                refine pn_block ?_
                refine pn_seq ?_
                refine pw_region ?_
                refine po_evs (T := tab) 1 rfl rfl ?_
                refine po_arith' (T := tab) rfl rfl rfl rfl fun i7 hi7 => ?_
                refine po_evs (T := tab) 1 rfl rfl ?_
                refine po_nil ?_
                exact pn_iter' i7 ⟨rfl, rfl, trivial⟩ trivial rfl
            · refine po_evs (T := tab) 11 rfl rfl ?_
              refine po_nil ?_
              refine pn_seq (pw_else rfl ?_)
              refine pw_skip ?_
              refine pn_block ?_
              refine pn_seq ?_
              refine pw_region ?_
              refine po_evs (T := tab) 1 rfl rfl ?_
              refine po_arith' (T := tab) rfl rfl rfl rfl fun i8 hi8 => ?_
              refine po_evs (T := tab) 1 rfl rfl ?_
              refine po_nil ?_
              exact pn_iter' i8 ⟨rfl, rfl, trivial⟩ trivial rfl
          · refine po_evs (T := tab) 3 rfl rfl ?_
            refine po_split (j := 40) rfl ?_ ?_
            · refine po_evs (T := tab) 4 rfl rfl ?_
              refine po_split (j := 44) rfl ?_ ?_
              · refine po_evs (T := tab) 8 rfl rfl ?_
                refine po_nil ?_
                exact pn_sub' (hj2 true) ⟨rfl, rfl, rfl, rfl, rfl, trivial⟩ trivial rfl
              · refine po_evs (T := tab) 4 rfl rfl ?_
                refine po_split (j := 48) rfl ?_ ?_
                · refine po_evs (T := tab) 4 rfl rfl ?_
                  refine po_nil ?_
                  exact pn_sub' (hj2 true) ⟨rfl, rfl, rfl, rfl, rfl, trivial⟩ trivial rfl
                · refine po_evs (T := tab) 4 rfl rfl ?_
                  refine po_nil ?_
                  exact pn_sub' (hj2 (b3 == 46)) ⟨rfl, rfl, rfl, rfl, rfl, trivial⟩ trivial rfl
            · refine po_evs (T := tab) 8 rfl rfl ?_
              refine po_split (j := 48) rfl ?_ ?_
              · refine po_evs (T := tab) 4 rfl rfl ?_
                refine po_nil ?_
                exact pn_sub' (hj2 true) ⟨rfl, rfl, rfl, rfl, rfl, trivial⟩ trivial rfl
              · refine po_evs (T := tab) 4 rfl rfl ?_
                refine po_nil ?_
                exact pn_sub' (hj2 (b3 == 46)) ⟨rfl, rfl, rfl, rfl, rfl, trivial⟩ trivial rfl
        · refine po_evs (T := tab) 3 rfl rfl ?_
          refine po_split (j := 26) rfl ?_ ?_
          · refine po_evs (T := tab) 4 rfl rfl ?_
            refine po_split (j := 30) rfl ?_ ?_
            · refine po_evs (T := tab) 8 rfl rfl ?_
              refine po_nil ?_
              exact pn_sub' (hj1 true) ⟨rfl, rfl, rfl, rfl, trivial⟩ trivial rfl
            · refine po_evs (T := tab) 3 rfl rfl ?_
              refine po_split (j := 33) rfl ?_ ?_
              · refine po_evs (T := tab) 5 rfl rfl ?_
                refine po_nil ?_
                exact pn_sub' (hj1 (decide (b3 ≤ 90))) ⟨rfl, rfl, rfl, rfl, trivial⟩ trivial rfl
              · refine po_evs (T := tab) 5 rfl rfl ?_
                refine po_nil ?_
                exact pn_sub' (hj1 false) ⟨rfl, rfl, rfl, rfl, trivial⟩ trivial rfl
          · refine po_evs (T := tab) 7 rfl rfl ?_
            refine po_split (j := 33) rfl ?_ ?_
            · refine po_evs (T := tab) 5 rfl rfl ?_
              refine po_nil ?_
              exact pn_sub' (hj1 (decide (b3 ≤ 90))) ⟨rfl, rfl, rfl, rfl, trivial⟩ trivial rfl
            · refine po_evs (T := tab) 5 rfl rfl ?_
              refine po_nil ?_
              exact pn_sub' (hj1 false) ⟨rfl, rfl, rfl, rfl, trivial⟩ trivial rfl
      · refine pw_exit rfl ?_
        refine pn_seq ?_
        refine pw_seq ?_
        refine pw_region ?_
        refine po_evs (T := tab) 1 rfl rfl ?_
        refine po_nil ?_
        refine pn_seq ?_
        exact pw_retN (T := tab) rfl rfl rfl ⟨rfl, rfl⟩ trivial rfl

def Instarref01_Small_l1 (s1 : Bs) : Nat → Bs × Int → Option Bs
  | 0, _ => none
  | k1 + 1, (out2, i3) => cnd (decide (i3 < ((s1.length : Nat) : Int))) (bnd (chr s1 i3) fun b4 => cnd (decide (b4 ≥ 65)) (bnd (chr s1 i3) fun b5 => cnd (decide (b5 ≤ 90)) (bnd (chr s1 i3) fun b6 => bnd (rng .u8 (b6 + 32)) fun i7 => bnd (cat out2 (strOf [i7])) fun s8 => bnd (rng .i64 (i3 + 1)) fun i15 => (Instarref01_Small_l1 s1 k1) (s8, i15)) (bnd (rng .i64 (i3 + 1)) fun i9 => bnd (piece s1 i3 i9) fun s10 => bnd (cat out2 s10) fun s11 => bnd (rng .i64 (i3 + 1)) fun i16 => (Instarref01_Small_l1 s1 k1) (s11, i16))) (bnd (rng .i64 (i3 + 1)) fun i12 => bnd (piece s1 i3 i12) fun s13 => bnd (cat out2 s13) fun s14 => bnd (rng .i64 (i3 + 1)) fun i17 => (Instarref01_Small_l1 s1 k1) (s14, i17))) (some out2)

def Instarref01_Small_m (fu : Nat) (s1 : Bs) : Option Bs := (Instarref01_Small_l1 s1) fu ([], 0)

set_option maxHeartbeats 10000000 in
set_option maxRecDepth 100000 in
theorem Instarref01_Small_ok (fu : Nat) (s1 : Bs) : ∀ r, Instarref01_Small_m fu s1 = some r → DC Try.prog 67 [.v (.string ⟨⟨s1⟩⟩)] (.v (.string ⟨⟨r⟩⟩)) := by
  intro r hr
  refine fc_intro (args := [.v (.string ⟨⟨s1⟩⟩)]) (S := []) (N0 := []) (post := fun r p S => p = .v (.string ⟨⟨r⟩⟩) ∧ S = []) Try.func67 rfl rfl hr fun w0 X X0 σ0 => ?_
  refine pw_seq ?_
  refine pw_region ?_
  refine po_evs (T := tab) 1 rfl rfl ?_
  refine po_nil ?_
  refine pn_seq ?_
  refine pw_seq ?_
  refine pw_region ?_
  refine po_evs (T := tab) 1 rfl rfl ?_
  refine po_nil ?_
  refine pn_seq ?_
  refine pw_seq ?_
  refine pw_seq ?_
  refine pw_region ?_
  refine po_evs (T := tab) 1 rfl rfl ?_
  refine po_nil ?_
  refine pn_seq ?_
  refine pw_block ?_
  refine pw_loop' (Instarref01_Small_l1 s1) (fun ((out2, i3) : Bs × Int) => [(0, .v (.string ⟨⟨s1⟩⟩)), (3, .v (.string ⟨⟨out2⟩⟩)), (4, .v (.int .i64 i3))]) (fun ((out2, i3) : Bs × Int) => []) fu ([], 0) (fun _ => rfl) ⟨rfl, rfl, rfl, trivial⟩ trivial rfl ?_
  rintro k1 ⟨out2, i3⟩
  refine pw_seq ?_
  refine pw_seq ?_
  refine pw_region ?_
  refine po_evs (T := tab) 4 rfl rfl ?_
  refine po_nil ?_
  refine pn_seq ?_
  refine pw_cnd rfl ?_ ?_
  · refine pw_skip ?_
    refine pn_seq ?_
    refine pw_seq ?_
    refine pw_block ?_
    refine pw_seq ?_
    refine pw_region ?_
    refine po_evs (T := tab) 2 rfl rfl ?_
    refine po_chr (T := tab) (s := s1) rfl rfl rfl rfl rfl rfl rfl fun b4 hb4 => ?_
    refine po_evs (T := tab) 2 rfl rfl ?_
    refine po_split (j := 15) rfl ?_ ?_
    · refine po_evs (T := tab) 2 rfl rfl ?_
      refine po_chr (T := tab) (s := s1) rfl rfl rfl rfl rfl rfl rfl fun b5 hb5 => ?_
      refine po_evs (T := tab) 2 rfl rfl ?_
      refine po_nil ?_
      refine pn_seq ?_
      refine pw_cnd rfl ?_ ?_
      · refine pw_region ?_
        refine po_evs (T := tab) 3 rfl rfl ?_
        refine po_chr (T := tab) (s := s1) rfl rfl rfl rfl rfl rfl rfl fun b6 hb6 => ?_
        refine po_arith' (T := tab) rfl rfl rfl rfl fun i7 hi7 => ?_
        refine po_lit (T := tab) (rows := [i7].map cInt_u8) 26 rfl rfl rfl rfl rfl rfl rfl rfl rfl rfl rfl rfl rfl rfl ?_
        refine po_str (T := tab) cInt_u8 [i7] (fun _ => rfl) rfl rfl rfl rfl rfl rfl rfl rfl rfl ?_
        refine po_cat rfl rfl rfl rfl rfl rfl fun s8 hs8 => ?_
        refine po_evs (T := tab) 1 rfl rfl ?_
        refine po_nil ?_
        refine pn_block ?_
        refine pn_seq ?_
        refine pw_region ?_
        refine po_evs (T := tab) 1 rfl rfl ?_
        refine po_arith' (T := tab) rfl rfl rfl rfl fun i15 hi15 => ?_
        refine po_evs (T := tab) 1 rfl rfl ?_
        refine po_nil ?_
        exact pn_iter' (s8, i15) ⟨rfl, rfl, rfl, trivial⟩ trivial rfl
      · refine pw_region ?_
        refine po_evs (T := tab) 4 rfl rfl ?_
        refine po_arith' (T := tab) rfl rfl rfl rfl fun i9 hi9 => ?_
        refine po_sub (T := tab) rfl rfl rfl rfl rfl rfl rfl rfl fun s10 hs10 => ?_
        refine po_cat rfl rfl rfl rfl rfl rfl fun s11 hs11 => ?_
        refine po_evs (T := tab) 1 rfl rfl ?_
        refine po_nil ?_
        refine pn_block ?_
        refine pn_seq ?_
        refine pw_region ?_
        refine po_evs (T := tab) 1 rfl rfl ?_
        refine po_arith' (T := tab) rfl rfl rfl rfl fun i16 hi16 => ?_
        refine po_evs (T := tab) 1 rfl rfl ?_
        refine po_nil ?_
        exact pn_iter' (s11, i16) ⟨rfl, rfl, rfl, trivial⟩ trivial rfl
    · refine po_evs (T := tab) 5 rfl rfl ?_
      refine po_nil ?_
      refine pn_seq (pw_else rfl ?_)
      refine pw_region ?_
      refine po_evs (T := tab) 4 rfl rfl ?_
      refine po_arith' (T := tab) rfl rfl rfl rfl fun i12 hi12 => ?_
      refine po_sub (T := tab) rfl rfl rfl rfl rfl rfl rfl rfl fun s13 hs13 => ?_
      refine po_cat rfl rfl rfl rfl rfl rfl fun s14 hs14 => ?_
      refine po_evs (T := tab) 1 rfl rfl ?_
      refine po_nil ?_
      refine pn_block ?_
      refine pn_seq ?_
      refine pw_region ?_
      refine po_evs (T := tab) 1 rfl rfl ?_
      refine po_arith' (T := tab) rfl rfl rfl rfl fun i17 hi17 => ?_
      refine po_evs (T := tab) 1 rfl rfl ?_
      refine po_nil ?_
      exact pn_iter' (s14, i17) ⟨rfl, rfl, rfl, trivial⟩ trivial rfl
  · refine pw_exit rfl ?_
    refine pn_seq ?_
    refine pw_seq ?_
    refine pw_region ?_
    refine po_evs (T := tab) 2 rfl rfl ?_
    refine po_nil ?_
    refine pn_seq ?_
    exact pw_retN (T := tab) rfl rfl rfl ⟨rfl, rfl⟩ trivial rfl

def Instarref01_One_j1 (s1 : Bs) (words2 : Bs) (at3 : Int) (i4 : Int) (rc1 : (Int × Int) → Option Bool) (x_ : Unit) : Option Bool := bnd (piece words2 at3 i4) fun s6 => cnd (s6 == s1) (some true) (bnd (rng .i64 (i4 + 1)) fun i7 => bnd (rng .i64 (i4 + 1)) fun i8 => rc1 (i7, i8))

def Instarref01_One_l1 (s1 : Bs) (words2 : Bs) : Nat → Int × Int → Option Bool
  | 0, _ => none
  | k1 + 1, (at3, i4) => cnd (decide (i4 ≤ ((words2.length : Nat) : Int))) (cnd (i4 == ((words2.length : Nat) : Int)) ((Instarref01_One_j1 s1 words2 at3 i4 (Instarref01_One_l1 s1 words2 k1)) ()) (bnd (chr words2 i4) fun b5 => cnd (b5 == 32) ((Instarref01_One_j1 s1 words2 at3 i4 (Instarref01_One_l1 s1 words2 k1)) ()) (bnd (rng .i64 (i4 + 1)) fun i9 => (Instarref01_One_l1 s1 words2 k1) (at3, i9)))) (some false)

def Instarref01_One_m (fu : Nat) (s1 : Bs) (words2 : Bs) : Option Bool := (Instarref01_One_l1 s1 words2) fu (0, 0)

set_option maxHeartbeats 10000000 in
set_option maxRecDepth 100000 in
theorem Instarref01_One_ok (fu : Nat) (s1 : Bs) (words2 : Bs) : ∀ r, Instarref01_One_m fu s1 words2 = some r → DC Try.prog 91 [.v (.string ⟨⟨s1⟩⟩), .v (.string ⟨⟨words2⟩⟩)] (.v (.bool r)) := by
  intro r hr
  refine fc_intro (args := [.v (.string ⟨⟨s1⟩⟩), .v (.string ⟨⟨words2⟩⟩)]) (S := []) (N0 := []) (post := fun r p S => p = .v (.bool r) ∧ S = []) Try.func91 rfl rfl hr fun w0 X X0 σ0 => ?_
  refine pw_seq ?_
  refine pw_region ?_
  refine po_evs (T := tab) 1 rfl rfl ?_
  refine po_nil ?_
  refine pn_seq ?_
  refine pw_seq ?_
  refine pw_region ?_
  refine po_evs (T := tab) 1 rfl rfl ?_
  refine po_nil ?_
  refine pn_seq ?_
  refine pw_seq ?_
  refine pw_seq ?_
  refine pw_region ?_
  refine po_evs (T := tab) 1 rfl rfl ?_
  refine po_nil ?_
  refine pn_seq ?_
  refine pw_block ?_
  refine pw_loop' (Instarref01_One_l1 s1 words2) (fun ((at3, i4) : Int × Int) => [(0, .v (.string ⟨⟨s1⟩⟩)), (1, .v (.string ⟨⟨words2⟩⟩)), (5, .v (.int .i64 at3)), (6, .v (.int .i64 i4))]) (fun ((at3, i4) : Int × Int) => []) fu (0, 0) (fun _ => rfl) ⟨rfl, rfl, rfl, rfl, trivial⟩ trivial rfl ?_
  rintro k1 ⟨at3, i4⟩
  refine pw_seq ?_
  refine pw_seq ?_
  refine pw_region ?_
  refine po_evs (T := tab) 4 rfl rfl ?_
  refine po_nil ?_
  refine pn_seq ?_
  refine pw_cnd rfl ?_ ?_
  · refine pw_skip ?_
    refine pn_seq ?_
    refine pw_seq ?_
    refine pw_block ?_
    refine pw_seq ?_
    refine pw_region ?_
    refine po_joinX (Instarref01_One_j1 s1 words2 at3 i4 (Instarref01_One_l1 s1 words2 k1)) (fun (_ : Unit) => [(0, .v (.string ⟨⟨s1⟩⟩)), (1, .v (.string ⟨⟨words2⟩⟩)), (5, .v (.int .i64 at3)), (6, .v (.int .i64 i4))]) (fun (_ : Unit) => []) ?_ fun hj1 => ?_
    · rintro _
      refine pw_seq ?_
      refine pw_seq ?_
      refine pw_region ?_
      refine po_evs (T := tab) 3 rfl rfl ?_
      refine po_sub (T := tab) rfl rfl rfl rfl rfl rfl rfl rfl fun s6 hs6 => ?_
      refine po_evs (T := tab) 2 rfl rfl ?_
      refine po_nil ?_
      refine pn_seq ?_
      refine pw_cnd rfl ?_ ?_
      · refine pw_seq ?_
        refine pw_region ?_
        refine po_evs (T := tab) 1 rfl rfl ?_
        refine po_nil ?_
        refine pn_seq ?_
        exact pw_retN (T := tab) rfl rfl rfl ⟨rfl, rfl⟩ trivial rfl
      · refine pw_skip ?_
        refine pn_seq ?_
        refine pw_region ?_
        refine po_evs (T := tab) 1 rfl rfl ?_
        refine po_arith' (T := tab) rfl rfl rfl rfl fun i7 hi7 => ?_
        refine po_evs (T := tab) 1 rfl rfl ?_
        refine po_nil ?_
        refine pn_block ?_
        refine pn_seq ?_
        refine pw_region ?_
        refine po_evs (T := tab) 1 rfl rfl ?_
        refine po_arith' (T := tab) rfl rfl rfl rfl fun i8 hi8 => ?_
        refine po_evs (T := tab) 1 rfl rfl ?_
        refine po_nil ?_
        exact pn_iter' (i7, i8) ⟨rfl, rfl, rfl, rfl, trivial⟩ trivial rfl
    · refine po_evs (T := tab) 5 rfl rfl ?_
      refine po_split (j := 17) rfl ?_ ?_
      · refine po_evs (T := tab) 5 rfl rfl ?_
        refine po_nil ?_
        refine pn_seq (pw_then rfl ?_)
        exact pw_sub' (hj1 ()) ⟨rfl, rfl, rfl, rfl, trivial⟩ trivial rfl
      · refine po_evs (T := tab) 2 rfl rfl ?_
        refine po_chr (T := tab) (s := words2) rfl rfl rfl rfl rfl rfl rfl fun b5 hb5 => ?_
        refine po_evs (T := tab) 2 rfl rfl ?_
        refine po_nil ?_
        refine pn_seq ?_
        refine pw_cnd rfl ?_ ?_
        · exact pw_sub' (hj1 ()) ⟨rfl, rfl, rfl, rfl, trivial⟩ trivial rfl
        · refine pw_skip ?_
          refine pn_block ?_
          refine pn_seq ?_
          refine pw_region ?_
          refine po_evs (T := tab) 1 rfl rfl ?_
          refine po_arith' (T := tab) rfl rfl rfl rfl fun i9 hi9 => ?_
          refine po_evs (T := tab) 1 rfl rfl ?_
          refine po_nil ?_
          exact pn_iter' (at3, i9) ⟨rfl, rfl, rfl, rfl, trivial⟩ trivial rfl
  · refine pw_exit rfl ?_
    refine pn_seq ?_
    refine pw_seq ?_
    refine pw_region ?_
    refine po_evs (T := tab) 1 rfl rfl ?_
    refine po_nil ?_
    refine pn_seq ?_
    exact pw_retN (T := tab) rfl rfl rfl ⟨rfl, rfl⟩ trivial rfl

def Instarref01_Custom_l1 (s1 : Bs) : Nat → Int → Option Bool
  | 0, _ => none
  | k1 + 1, i6 => cnd (decide (i6 < ((s1.length : Nat) : Int))) (bnd (chr s1 i6) fun b7 => cnd (b7 == 45) (some true) (bnd (rng .i64 (i6 + 1)) fun i8 => (Instarref01_Custom_l1 s1 k1) i8)) (some false)

def Instarref01_Custom_m (fu : Nat) (s1 : Bs) : Option Bool := bnd (Instarref01_Right_m fu s1) fun r2 => cnd (!r2) (some false) (bnd (Instarref01_Small_m fu s1) fun r3 => cnd (!(s1 == r3)) (some false) (bnd (chr s1 0) fun b4 => cnd (b4 == 95) (some false) (bnd (Instarref01_One_m fu s1 [97, 110, 110, 111, 116, 97, 116, 105, 111, 110, 45, 120, 109, 108, 32, 99, 111, 108, 111, 114, 45, 112, 114, 111, 102, 105, 108, 101, 32, 102, 111, 110, 116, 45, 102, 97, 99, 101, 32, 102, 111, 110, 116, 45, 102, 97, 99, 101, 45, 115, 114, 99, 32, 102, 111, 110, 116, 45, 102, 97, 99, 101, 45, 117, 114, 105, 32, 102, 111, 110, 116, 45, 102, 97, 99, 101, 45, 102, 111, 114, 109, 97, 116, 32, 102, 111, 110, 116, 45, 102, 97, 99, 101, 45, 110, 97, 109, 101, 32, 109, 105, 115, 115, 105, 110, 103, 45, 103, 108, 121, 112, 104]) fun r5 => cnd r5 (some false) ((Instarref01_Custom_l1 s1) fu 0))))

set_option maxHeartbeats 10000000 in
set_option maxRecDepth 100000 in
theorem Instarref01_Custom_ok (fu : Nat) (s1 : Bs) : ∀ r, Instarref01_Custom_m fu s1 = some r → DC Try.prog 66 [.v (.string ⟨⟨s1⟩⟩)] (.v (.bool r)) := by
  intro r hr
  refine fc_intro (args := [.v (.string ⟨⟨s1⟩⟩)]) (S := []) (N0 := []) (post := fun r p S => p = .v (.bool r) ∧ S = []) Try.func66 rfl rfl hr fun w0 X X0 σ0 => ?_
  refine pw_seq ?_
  refine pw_region ?_
  refine po_evs (T := tab) 1 rfl rfl ?_
  refine po_nil ?_
  refine pn_seq ?_
  refine pw_seq ?_
  refine pw_seq ?_
  refine pw_region ?_
  refine po_evs (T := tab) 1 rfl rfl ?_
  refine po_call (enc := fun (r2 : Bool) => .v (.bool r2)) (qs := [.v (.string ⟨⟨s1⟩⟩)]) (Instarref01_Right_ok fu s1) rfl rfl ⟨⟨_, rfl, .rfl⟩, trivial⟩ (fun _ => rfl) call90 rfl rfl fun r2 hr2 => ?_
  refine po_evs (T := tab) 2 rfl rfl ?_
  refine po_split (j := 7) rfl ?_ ?_
  · refine po_evs (T := tab) 14 rfl rfl ?_
    refine po_nil ?_
    refine pn_seq (pw_then rfl ?_)
    refine pw_seq ?_
    refine pw_region ?_
    refine po_evs (T := tab) 1 rfl rfl ?_
    refine po_nil ?_
    refine pn_seq ?_
    exact pw_retN (T := tab) rfl rfl rfl ⟨rfl, rfl⟩ trivial rfl
  · refine po_evs (T := tab) 2 rfl rfl ?_
    refine po_call (enc := fun (r3 : Bs) => .v (.string ⟨⟨r3⟩⟩)) (qs := [.v (.string ⟨⟨s1⟩⟩)]) (Instarref01_Small_ok fu s1) rfl rfl ⟨⟨_, rfl, .rfl⟩, trivial⟩ (fun _ => rfl) call67 rfl rfl fun r3 hr3 => ?_
    refine po_evs (T := tab) 3 rfl rfl ?_
    refine po_split (j := 13) rfl ?_ ?_
    · refine po_evs (T := tab) 8 rfl rfl ?_
      refine po_nil ?_
      refine pn_seq (pw_then rfl ?_)
      refine pw_seq ?_
      refine pw_region ?_
      refine po_evs (T := tab) 1 rfl rfl ?_
      refine po_nil ?_
      refine pn_seq ?_
      exact pw_retN (T := tab) rfl rfl rfl ⟨rfl, rfl⟩ trivial rfl
    · refine po_evs (T := tab) 1 rfl rfl ?_
      refine po_chr (T := tab) (s := s1) rfl rfl rfl rfl rfl rfl rfl fun b4 hb4 => ?_
      refine po_evs (T := tab) 3 rfl rfl ?_
      refine po_split (j := 18) rfl ?_ ?_
      · refine po_evs (T := tab) 3 rfl rfl ?_
        refine po_nil ?_
        refine pn_seq (pw_then rfl ?_)
        refine pw_seq ?_
        refine pw_region ?_
        refine po_evs (T := tab) 1 rfl rfl ?_
        refine po_nil ?_
        refine pn_seq ?_
        exact pw_retN (T := tab) rfl rfl rfl ⟨rfl, rfl⟩ trivial rfl
      · refine po_evs (T := tab) 1 rfl rfl ?_
        refine po_call (enc := fun (r5 : Bool) => .v (.bool r5)) (qs := [.v (.string ⟨⟨s1⟩⟩), .v (.string ⟨⟨[97, 110, 110, 111, 116, 97, 116, 105, 111, 110, 45, 120, 109, 108, 32, 99, 111, 108, 111, 114, 45, 112, 114, 111, 102, 105, 108, 101, 32, 102, 111, 110, 116, 45, 102, 97, 99, 101, 32, 102, 111, 110, 116, 45, 102, 97, 99, 101, 45, 115, 114, 99, 32, 102, 111, 110, 116, 45, 102, 97, 99, 101, 45, 117, 114, 105, 32, 102, 111, 110, 116, 45, 102, 97, 99, 101, 45, 102, 111, 114, 109, 97, 116, 32, 102, 111, 110, 116, 45, 102, 97, 99, 101, 45, 110, 97, 109, 101, 32, 109, 105, 115, 115, 105, 110, 103, 45, 103, 108, 121, 112, 104]⟩⟩)]) (Instarref01_One_ok fu s1 [97, 110, 110, 111, 116, 97, 116, 105, 111, 110, 45, 120, 109, 108, 32, 99, 111, 108, 111, 114, 45, 112, 114, 111, 102, 105, 108, 101, 32, 102, 111, 110, 116, 45, 102, 97, 99, 101, 32, 102, 111, 110, 116, 45, 102, 97, 99, 101, 45, 115, 114, 99, 32, 102, 111, 110, 116, 45, 102, 97, 99, 101, 45, 117, 114, 105, 32, 102, 111, 110, 116, 45, 102, 97, 99, 101, 45, 102, 111, 114, 109, 97, 116, 32, 102, 111, 110, 116, 45, 102, 97, 99, 101, 45, 110, 97, 109, 101, 32, 109, 105, 115, 115, 105, 110, 103, 45, 103, 108, 121, 112, 104]) rfl rfl ⟨⟨_, rfl, .rfl⟩, ⟨_, rfl, .rfl⟩, trivial⟩ (fun _ => rfl) call91 rfl rfl fun r5 hr5 => ?_
        refine po_evs (T := tab) 1 rfl rfl ?_
        refine po_nil ?_
        refine pn_seq ?_
        refine pw_cnd rfl ?_ ?_
        · refine pw_seq ?_
          refine pw_region ?_
          refine po_evs (T := tab) 1 rfl rfl ?_
          refine po_nil ?_
          refine pn_seq ?_
          exact pw_retN (T := tab) rfl rfl rfl ⟨rfl, rfl⟩ trivial rfl
        · refine pw_skip ?_
          refine pn_seq ?_
          refine pw_seq ?_
          refine pw_seq ?_
          refine pw_region ?_
          refine po_evs (T := tab) 1 rfl rfl ?_
          refine po_nil ?_
          refine pn_seq ?_
          refine pw_block ?_
          refine pw_loop' (Instarref01_Custom_l1 s1) (fun (i6 : Int) => [(0, .v (.string ⟨⟨s1⟩⟩)), (3, .v (.int .i64 i6))]) (fun (i6 : Int) => []) fu 0 (fun _ => rfl) ⟨rfl, rfl, trivial⟩ trivial rfl ?_
          rintro k1 i6
          refine pw_seq ?_
          refine pw_seq ?_
          refine pw_region ?_
          refine po_evs (T := tab) 4 rfl rfl ?_
          refine po_nil ?_
          refine pn_seq ?_
          refine pw_cnd rfl ?_ ?_
          · refine pw_skip ?_
            refine pn_seq ?_
            refine pw_seq ?_
            refine pw_block ?_
            refine pw_seq ?_
            refine pw_region ?_
            refine po_evs (T := tab) 2 rfl rfl ?_
            refine po_chr (T := tab) (s := s1) rfl rfl rfl rfl rfl rfl rfl fun b7 hb7 => ?_
            refine po_evs (T := tab) 1 rfl rfl ?_
            refine po_nil ?_
            refine pn_seq ?_
            refine pw_cnd rfl ?_ ?_
            · refine pw_seq ?_
              refine pw_region ?_
              refine po_evs (T := tab) 1 rfl rfl ?_
              refine po_nil ?_
              refine pn_seq ?_
              exact pw_retN (T := tab) rfl rfl rfl ⟨rfl, rfl⟩ trivial rfl
            · refine pw_skip ?_
              refine pn_block ?_
              refine pn_seq ?_
              refine pw_region ?_
              refine po_evs (T := tab) 1 rfl rfl ?_
              refine po_arith' (T := tab) rfl rfl rfl rfl fun i8 hi8 => ?_
              refine po_evs (T := tab) 1 rfl rfl ?_
              refine po_nil ?_
              exact pn_iter' i8 ⟨rfl, rfl, trivial⟩ trivial rfl
          · refine pw_exit rfl ?_
            refine pn_seq ?_
            refine pw_seq ?_
            refine pw_region ?_
            refine po_evs (T := tab) 1 rfl rfl ?_
            refine po_nil ?_
            refine pn_seq ?_
            exact pw_retN (T := tab) rfl rfl rfl ⟨rfl, rfl⟩ trivial rfl

def Instarref25_both_m (fu : Nat) (x1 : Bs) (y2 : Bs) : Option Bool := bnd (Instarref01_Custom_m fu x1) fun r3 => cnd r3 (bnd (Instarref01_Custom_m fu y2) fun r4 => some r4) (some false)

set_option maxRecDepth 100000 in
theorem Instarref25_both_ok (fu : Nat) (x1 : Bs) (y2 : Bs) : ∀ r, Instarref25_both_m fu x1 y2 = some r → DC Try.prog 46 [.v (.string ⟨⟨x1⟩⟩), .v (.string ⟨⟨y2⟩⟩)] (.v (.bool r)) := by
  intro r hr
  refine fc_intro (args := [.v (.string ⟨⟨x1⟩⟩), .v (.string ⟨⟨y2⟩⟩)]) (S := []) (N0 := []) (post := fun r p S => p = .v (.bool r) ∧ S = []) Try.func46 rfl rfl hr fun w0 X X0 σ0 => ?_
  refine pw_seq ?_
  refine pw_region ?_
  refine po_evs (T := tab) 1 rfl rfl ?_
  refine po_nil ?_
  refine pn_seq ?_
  refine pw_seq ?_
  refine pw_region ?_
  refine po_evs (T := tab) 1 rfl rfl ?_
  refine po_call (enc := fun (r3 : Bool) => .v (.bool r3)) (qs := [.v (.string ⟨⟨x1⟩⟩)]) (Instarref01_Custom_ok fu x1) rfl rfl ⟨⟨_, rfl, .rfl⟩, trivial⟩ (fun _ => rfl) call66 rfl rfl fun r3 hr3 => ?_
  refine po_evs (T := tab) 1 rfl rfl ?_
  refine po_split (j := 7) rfl ?_ ?_
  · refine po_evs (T := tab) 1 rfl rfl ?_
    refine po_call (enc := fun (r4 : Bool) => .v (.bool r4)) (qs := [.v (.string ⟨⟨y2⟩⟩)]) (Instarref01_Custom_ok fu y2) rfl rfl ⟨⟨_, rfl, .rfl⟩, trivial⟩ (fun _ => rfl) call66 rfl rfl fun r4 hr4 => ?_
    refine po_evs (T := tab) 2 rfl rfl ?_
    refine po_nil ?_
    refine pn_seq ?_
    exact pw_retN (T := tab) rfl rfl rfl ⟨rfl, rfl⟩ trivial rfl
  · refine po_evs (T := tab) 4 rfl rfl ?_
    refine po_nil ?_
    refine pn_seq ?_
    exact pw_retN (T := tab) rfl rfl rfl ⟨rfl, rfl⟩ trivial rfl

def Instarref25_Name_m (_fu : Nat) (s1 : Bs) (x2 : Bs) (y3 : Bs) : Option Bs := cnd (s1 == x2) (some y3) (cnd (s1 == y3) (some x2) (some s1))

set_option maxRecDepth 100000 in
theorem Instarref25_Name_ok (fu : Nat) (s1 : Bs) (x2 : Bs) (y3 : Bs) : ∀ r, Instarref25_Name_m fu s1 x2 y3 = some r → DC Try.prog 49 [.v (.string ⟨⟨s1⟩⟩), .v (.string ⟨⟨x2⟩⟩), .v (.string ⟨⟨y3⟩⟩)] (.v (.string ⟨⟨r⟩⟩)) := by
  intro r hr
  refine fc_intro (args := [.v (.string ⟨⟨s1⟩⟩), .v (.string ⟨⟨x2⟩⟩), .v (.string ⟨⟨y3⟩⟩)]) (S := []) (N0 := []) (post := fun r p S => p = .v (.string ⟨⟨r⟩⟩) ∧ S = []) Try.func49 rfl rfl hr fun w0 X X0 σ0 => ?_
  refine pw_seq ?_
  refine pw_region ?_
  refine po_evs (T := tab) 1 rfl rfl ?_
  refine po_nil ?_
  refine pn_seq ?_
  refine pw_seq ?_
  refine pw_seq ?_
  refine pw_region ?_
  refine po_evs (T := tab) 3 rfl rfl ?_
  refine po_nil ?_
  refine pn_seq ?_
  refine pw_cnd rfl ?_ ?_
  · refine pw_seq ?_
    refine pw_region ?_
    refine po_evs (T := tab) 2 rfl rfl ?_
    refine po_nil ?_
    refine pn_seq ?_
    exact pw_retN (T := tab) rfl rfl rfl ⟨rfl, rfl⟩ trivial rfl
  · refine pw_skip ?_
    refine pn_seq ?_
    refine pw_seq ?_
    refine pw_seq ?_
    refine pw_region ?_
    refine po_evs (T := tab) 3 rfl rfl ?_
    refine po_nil ?_
    refine pn_seq ?_
    refine pw_cnd rfl ?_ ?_
    · refine pw_seq ?_
      refine pw_region ?_
      refine po_evs (T := tab) 2 rfl rfl ?_
      refine po_nil ?_
      refine pn_seq ?_
      exact pw_retN (T := tab) rfl rfl rfl ⟨rfl, rfl⟩ trivial rfl
    · refine pw_skip ?_
      refine pn_seq ?_
      refine pw_seq ?_
      refine pw_region ?_
      refine po_evs (T := tab) 2 rfl rfl ?_
      refine po_nil ?_
      refine pn_seq ?_
      exact pw_retN (T := tab) rfl rfl rfl ⟨rfl, rfl⟩ trivial rfl

def Instarref25_renamed_j2 (fu : Nat) (x2 : Bs) (y3 : Bs) (i4 : Int) (l5 : (List Op)) (y6 : Op) (rc1 : (Int × (List Op)) → Option (List Op)) (c15 : Bs) : Option (List Op) := cnd (y6.Kind == 1) (bnd (Instarref25_Name_m fu y6.T x2 y3) fun r16 => bnd (roomy 72 (l5.length + ([(⟨y6.Kind, y6.A, y6.B, y6.C, c15, r16, y6.Must⟩ : Op)] : List Op).length)) fun _ => bnd (rng .i64 (i4 + 1)) fun i19 => rc1 (i19, (l5 ++ [(⟨y6.Kind, y6.A, y6.B, y6.C, c15, r16, y6.Must⟩ : Op)]))) (cnd (y6.Kind == 2) (bnd (Instarref25_Name_m fu y6.T x2 y3) fun r17 => bnd (roomy 72 (l5.length + ([(⟨y6.Kind, y6.A, y6.B, y6.C, c15, r17, y6.Must⟩ : Op)] : List Op).length)) fun _ => bnd (rng .i64 (i4 + 1)) fun i20 => rc1 (i20, (l5 ++ [(⟨y6.Kind, y6.A, y6.B, y6.C, c15, r17, y6.Must⟩ : Op)]))) (cnd (y6.Kind == 16) (bnd (Instarref25_Name_m fu y6.T x2 y3) fun r18 => bnd (roomy 72 (l5.length + ([(⟨y6.Kind, y6.A, y6.B, y6.C, c15, r18, y6.Must⟩ : Op)] : List Op).length)) fun _ => bnd (rng .i64 (i4 + 1)) fun i21 => rc1 (i21, (l5 ++ [(⟨y6.Kind, y6.A, y6.B, y6.C, c15, r18, y6.Must⟩ : Op)]))) (bnd (roomy 72 (l5.length + ([(⟨y6.Kind, y6.A, y6.B, y6.C, c15, y6.T, y6.Must⟩ : Op)] : List Op).length)) fun _ => bnd (rng .i64 (i4 + 1)) fun i22 => rc1 (i22, (l5 ++ [(⟨y6.Kind, y6.A, y6.B, y6.C, c15, y6.T, y6.Must⟩ : Op)])))))

def Instarref25_renamed_j1 (fu : Nat) (x2 : Bs) (y3 : Bs) (i4 : Int) (l5 : (List Op)) (y6 : Op) (rc1 : (Int × (List Op)) → Option (List Op)) (c12 : Bs) : Option (List Op) := cnd (y6.Kind == 16) (bnd (Instarref25_Name_m fu c12 x2 y3) fun r13 => (Instarref25_renamed_j2 fu x2 y3 i4 l5 y6 rc1) r13) (cnd (y6.Kind == 17) (bnd (Instarref25_Name_m fu c12 x2 y3) fun r14 => (Instarref25_renamed_j2 fu x2 y3 i4 l5 y6 rc1) r14) ((Instarref25_renamed_j2 fu x2 y3 i4 l5 y6 rc1) c12))

def Instarref25_renamed_l1 (fu : Nat) (l1 : (List Op)) (x2 : Bs) (y3 : Bs) : Nat → Int × (List Op) → Option (List Op)
  | 0, _ => none
  | k1 + 1, (i4, l5) => cnd (decide (i4 < ((l1.length : Nat) : Int))) (bnd (idx l1 i4) fun y6 => bnd (Instarref01_Small_m fu y6.S) fun r7 => cnd (y6.Kind == 1) (cnd (r7 == x2) (bnd (Instarref25_Name_m fu r7 x2 y3) fun r8 => (Instarref25_renamed_j1 fu x2 y3 i4 l5 y6 (Instarref25_renamed_l1 fu l1 x2 y3 k1)) r8) (cnd (r7 == y3) (bnd (Instarref25_Name_m fu r7 x2 y3) fun r9 => (Instarref25_renamed_j1 fu x2 y3 i4 l5 y6 (Instarref25_renamed_l1 fu l1 x2 y3 k1)) r9) ((Instarref25_renamed_j1 fu x2 y3 i4 l5 y6 (Instarref25_renamed_l1 fu l1 x2 y3 k1)) y6.S))) (cnd (y6.Kind == 2) (cnd (r7 == x2) (bnd (Instarref25_Name_m fu r7 x2 y3) fun r10 => (Instarref25_renamed_j1 fu x2 y3 i4 l5 y6 (Instarref25_renamed_l1 fu l1 x2 y3 k1)) r10) (cnd (r7 == y3) (bnd (Instarref25_Name_m fu r7 x2 y3) fun r11 => (Instarref25_renamed_j1 fu x2 y3 i4 l5 y6 (Instarref25_renamed_l1 fu l1 x2 y3 k1)) r11) ((Instarref25_renamed_j1 fu x2 y3 i4 l5 y6 (Instarref25_renamed_l1 fu l1 x2 y3 k1)) y6.S))) ((Instarref25_renamed_j1 fu x2 y3 i4 l5 y6 (Instarref25_renamed_l1 fu l1 x2 y3 k1)) y6.S))) (some l5)

def Instarref25_renamed_m (fu : Nat) (l1 : (List Op)) (x2 : Bs) (y3 : Bs) : Option (List Op) := (Instarref25_renamed_l1 fu l1 x2 y3) fu (0, [])

set_option maxHeartbeats 10000000 in
set_option maxRecDepth 100000 in
theorem Instarref25_renamed_ok (fu : Nat) (l1 : (List Op)) (x2 : Bs) (y3 : Bs) : ∀ r, Instarref25_renamed_m fu l1 x2 y3 = some r → DC Try.prog 47 [.sl 7 false (l1.map cOp), .v (.string ⟨⟨x2⟩⟩), .v (.string ⟨⟨y3⟩⟩)] (.sl 7 false (r.map cOp)) := by
  intro r hr
  refine fc_intro (args := [.sl 7 false (l1.map cOp), .v (.string ⟨⟨x2⟩⟩), .v (.string ⟨⟨y3⟩⟩)]) (S := []) (N0 := []) (post := fun r p S => p = .sl 7 false (r.map cOp) ∧ S = []) Try.func47 rfl rfl hr fun w0 X X0 σ0 => ?_
  refine pw_seq ?_
  refine pw_region ?_
  refine po_evs (T := tab) 1 rfl rfl ?_
  refine po_nil ?_
  refine pn_seq ?_
  refine pw_seq ?_
  refine pw_region ?_
  refine po_evs (T := tab) 1 rfl rfl ?_
  refine po_nil ?_
  refine pn_seq ?_
  refine pw_seq ?_
  refine pw_seq ?_
  refine pw_region ?_
  refine po_evs (T := tab) 1 rfl rfl ?_
  refine po_nil ?_
  refine pn_seq ?_
  refine pw_block ?_
  refine pw_own_nil 1083 48 7 7 rfl rfl rfl rfl ?_
  refine pw_loop' (Instarref25_renamed_l1 fu l1 x2 y3) (fun ((i4, l5) : Int × (List Op)) => [(0, .sl 7 false (l1.map cOp)), (1, .v (.string ⟨⟨x2⟩⟩)), (2, .v (.string ⟨⟨y3⟩⟩)), (7, .own 1083), (8, .v (.int .i64 i4))]) (fun ((i4, l5) : Int × (List Op)) => [(1083, .arr 48 7 (l5.map cOp))]) fu (0, []) (fun _ => rfl) ⟨rfl, rfl, rfl, rfl, rfl, trivial⟩ ⟨rfl, trivial⟩ rfl ?_
  rintro k1 ⟨i4, l5⟩
  refine pw_seq ?_
  refine pw_seq ?_
  refine pw_region ?_
  refine po_evs (T := tab) 2 rfl rfl ?_
  refine po_len (T := tab) cOp l1 rfl rfl rfl rfl rfl rfl rfl rfl ?_
  refine po_evs (T := tab) 1 rfl rfl ?_
  refine po_nil ?_
  refine pn_seq ?_
  refine pw_cnd rfl ?_ ?_
  · refine pw_skip ?_
    refine pn_seq ?_
    refine pw_seq ?_
    refine pw_block ?_
    refine pw_seq ?_
    refine pw_region ?_
    refine po_evs (T := tab) 2 rfl rfl ?_
    refine po_idx (T := tab) cOp l1 rfl rfl rfl rfl rfl rfl rfl fun y6 hy6 => ?_
    refine po_evs (T := tab) 1 rfl rfl ?_
    refine po_alloc (T := tab) 9 rfl rfl rfl rfl rfl rfl rfl rfl rfl ?_
    refine po_store (T := tab) rfl rfl rfl rfl rfl rfl rfl rfl rfl rfl rfl rfl ?_
    refine po_nil ?_
    refine pn_seq ?_
    refine pw_seq ?_
    refine pw_region ?_
    refine po_evs (T := tab) 2 rfl rfl ?_
    refine po_call (enc := fun (r7 : Bs) => .v (.string ⟨⟨r7⟩⟩)) (qs := [.v (.string ⟨⟨y6.S⟩⟩)]) (Instarref01_Small_ok fu y6.S) rfl rfl ⟨⟨_, rfl, .rfl⟩, trivial⟩ (fun _ => rfl) call67 rfl rfl fun r7 hr7 => ?_
    refine po_evs (T := tab) 1 rfl rfl ?_
    refine po_nil ?_
    refine pn_seq ?_
    refine pw_seq ?_
    refine pw_seq ?_
    refine pw_region ?_
    refine po_joinB (Instarref25_renamed_j1 fu x2 y3 i4 l5 y6 (Instarref25_renamed_l1 fu l1 x2 y3 k1)) (fun (c12 : Bs) => [(0, .sl 7 false (l1.map cOp)), (1, .v (.string ⟨⟨x2⟩⟩)), (2, .v (.string ⟨⟨y3⟩⟩)), (7, .own 1083), (8, .v (.int .i64 i4)), (9, .loc 9 0)]) (fun (c12 : Bs) => [(9, .box [.v (.int .i64 y6.Kind), .v (.int .i64 y6.A), .v (.int .i64 y6.B), .v (.int .i64 y6.C), .v (.string ⟨⟨c12⟩⟩), .v (.string ⟨⟨y6.T⟩⟩), .v (.bool y6.Must)]), (1083, .arr 48 7 (l5.map cOp))]) ?_ fun hj1 => ?_
    · rintro c12
      refine pn_seq ?_
      refine pw_seq ?_
      refine pw_seq ?_
      refine pw_region ?_
      refine po_joinB (Instarref25_renamed_j2 fu x2 y3 i4 l5 y6 (Instarref25_renamed_l1 fu l1 x2 y3 k1)) (fun (c15 : Bs) => [(0, .sl 7 false (l1.map cOp)), (1, .v (.string ⟨⟨x2⟩⟩)), (2, .v (.string ⟨⟨y3⟩⟩)), (7, .own 1083), (8, .v (.int .i64 i4)), (9, .loc 9 0)]) (fun (c15 : Bs) => [(9, .box [.v (.int .i64 y6.Kind), .v (.int .i64 y6.A), .v (.int .i64 y6.B), .v (.int .i64 y6.C), .v (.string ⟨⟨c15⟩⟩), .v (.string ⟨⟨y6.T⟩⟩), .v (.bool y6.Must)]), (1083, .arr 48 7 (l5.map cOp))]) ?_ fun hj2 => ?_
      · rintro c15
        refine pn_seq ?_
        refine pw_seq ?_
        refine pw_seq ?_
        refine pw_region ?_
        refine po_evs (T := tab) 4 rfl rfl ?_
        refine po_split (j := 64) rfl ?_ ?_
        · refine po_evs (T := tab) 9 rfl rfl ?_
          refine po_nil ?_
          refine pn_seq (pw_then rfl ?_)
          refine pw_region ?_
          refine po_evs (T := tab) 4 rfl rfl ?_
          refine po_call (enc := fun (r16 : Bs) => .v (.string ⟨⟨r16⟩⟩)) (qs := [.v (.string ⟨⟨y6.T⟩⟩), .v (.string ⟨⟨x2⟩⟩), .v (.string ⟨⟨y3⟩⟩)]) (Instarref25_Name_ok fu y6.T x2 y3) rfl rfl ⟨⟨_, rfl, .rfl⟩, ⟨_, rfl, .rfl⟩, ⟨_, rfl, .rfl⟩, trivial⟩ (fun _ => rfl) call49 rfl rfl fun r16 hr16 => ?_
          refine po_evs (T := tab) 1 rfl rfl ?_
          refine po_store (T := tab) rfl rfl rfl rfl rfl rfl rfl rfl rfl rfl rfl rfl ?_
          refine po_nil ?_
          refine pn_seq ?_
          refine pw_region ?_
          refine po_evs (T := tab) 2 rfl rfl ?_
          refine po_lit (T := tab) (rows := [(⟨y6.Kind, y6.A, y6.B, y6.C, c15, r16, y6.Must⟩ : Op)].map cOp) 82 rfl rfl rfl rfl rfl rfl rfl rfl rfl rfl rfl rfl rfl rfl ?_
          refine po_append (T := tab) cOp l5 ([(⟨y6.Kind, y6.A, y6.B, y6.C, c15, r16, y6.Must⟩ : Op)] : List Op) rfl rfl rfl rfl rfl rfl rfl rfl rfl rfl rfl rfl rfl rfl (cOp_one _) rfl rfl rfl rfl rfl ?_
          refine po_evs (T := tab) 1 rfl rfl ?_
          refine po_nil ?_
          refine pn_block ?_
          refine pn_seq ?_
          refine pw_region ?_
          refine po_evs (T := tab) 1 rfl rfl ?_
          refine po_arith' (T := tab) rfl rfl rfl rfl fun i19 hi19 => ?_
          refine po_evs (T := tab) 1 rfl rfl ?_
          refine po_nil ?_
          exact pn_iter' (i19, (l5 ++ [(⟨y6.Kind, y6.A, y6.B, y6.C, c15, r16, y6.Must⟩ : Op)])) ⟨rfl, rfl, rfl, rfl, rfl, trivial⟩ ⟨rfl, trivial⟩ rfl
        · refine po_evs (T := tab) 5 rfl rfl ?_
          refine po_split (j := 69) rfl ?_ ?_
          · refine po_evs (T := tab) 4 rfl rfl ?_
            refine po_nil ?_
            refine pn_seq (pw_then rfl ?_)
            refine pw_region ?_
            refine po_evs (T := tab) 4 rfl rfl ?_
            refine po_call (enc := fun (r17 : Bs) => .v (.string ⟨⟨r17⟩⟩)) (qs := [.v (.string ⟨⟨y6.T⟩⟩), .v (.string ⟨⟨x2⟩⟩), .v (.string ⟨⟨y3⟩⟩)]) (Instarref25_Name_ok fu y6.T x2 y3) rfl rfl ⟨⟨_, rfl, .rfl⟩, ⟨_, rfl, .rfl⟩, ⟨_, rfl, .rfl⟩, trivial⟩ (fun _ => rfl) call49 rfl rfl fun r17 hr17 => ?_
            refine po_evs (T := tab) 1 rfl rfl ?_
            refine po_store (T := tab) rfl rfl rfl rfl rfl rfl rfl rfl rfl rfl rfl rfl ?_
            refine po_nil ?_
            refine pn_seq ?_
            refine pw_region ?_
            refine po_evs (T := tab) 2 rfl rfl ?_
            refine po_lit (T := tab) (rows := [(⟨y6.Kind, y6.A, y6.B, y6.C, c15, r17, y6.Must⟩ : Op)].map cOp) 82 rfl rfl rfl rfl rfl rfl rfl rfl rfl rfl rfl rfl rfl rfl ?_
            refine po_append (T := tab) cOp l5 ([(⟨y6.Kind, y6.A, y6.B, y6.C, c15, r17, y6.Must⟩ : Op)] : List Op) rfl rfl rfl rfl rfl rfl rfl rfl rfl rfl rfl rfl rfl rfl (cOp_one _) rfl rfl rfl rfl rfl ?_
            refine po_evs (T := tab) 1 rfl rfl ?_
            refine po_nil ?_
            refine pn_block ?_
            refine pn_seq ?_
            refine pw_region ?_
            refine po_evs (T := tab) 1 rfl rfl ?_
            refine po_arith' (T := tab) rfl rfl rfl rfl fun i20 hi20 => ?_
            refine po_evs (T := tab) 1 rfl rfl ?_
            refine po_nil ?_
            exact pn_iter' (i20, (l5 ++ [(⟨y6.Kind, y6.A, y6.B, y6.C, c15, r17, y6.Must⟩ : Op)])) ⟨rfl, rfl, rfl, rfl, rfl, trivial⟩ ⟨rfl, trivial⟩ rfl
          · refine po_evs (T := tab) 4 rfl rfl ?_
            refine po_nil ?_
            refine pn_seq ?_
            refine pw_cnd rfl ?_ ?_
            · refine pw_region ?_
              refine po_evs (T := tab) 4 rfl rfl ?_
              refine po_call (enc := fun (r18 : Bs) => .v (.string ⟨⟨r18⟩⟩)) (qs := [.v (.string ⟨⟨y6.T⟩⟩), .v (.string ⟨⟨x2⟩⟩), .v (.string ⟨⟨y3⟩⟩)]) (Instarref25_Name_ok fu y6.T x2 y3) rfl rfl ⟨⟨_, rfl, .rfl⟩, ⟨_, rfl, .rfl⟩, ⟨_, rfl, .rfl⟩, trivial⟩ (fun _ => rfl) call49 rfl rfl fun r18 hr18 => ?_
              refine po_evs (T := tab) 1 rfl rfl ?_
              refine po_store (T := tab) rfl rfl rfl rfl rfl rfl rfl rfl rfl rfl rfl rfl ?_
              refine po_nil ?_
              refine pn_seq ?_
              refine pw_region ?_
              refine po_evs (T := tab) 2 rfl rfl ?_
              refine po_lit (T := tab) (rows := [(⟨y6.Kind, y6.A, y6.B, y6.C, c15, r18, y6.Must⟩ : Op)].map cOp) 82 rfl rfl rfl rfl rfl rfl rfl rfl rfl rfl rfl rfl rfl rfl ?_
              refine po_append (T := tab) cOp l5 ([(⟨y6.Kind, y6.A, y6.B, y6.C, c15, r18, y6.Must⟩ : Op)] : List Op) rfl rfl rfl rfl rfl rfl rfl rfl rfl rfl rfl rfl rfl rfl (cOp_one _) rfl rfl rfl rfl rfl ?_
              refine po_evs (T := tab) 1 rfl rfl ?_
              refine po_nil ?_
              refine pn_block ?_
              refine pn_seq ?_
              refine pw_region ?_
              refine po_evs (T := tab) 1 rfl rfl ?_
              refine po_arith' (T := tab) rfl rfl rfl rfl fun i21 hi21 => ?_
              refine po_evs (T := tab) 1 rfl rfl ?_
              refine po_nil ?_
              exact pn_iter' (i21, (l5 ++ [(⟨y6.Kind, y6.A, y6.B, y6.C, c15, r18, y6.Must⟩ : Op)])) ⟨rfl, rfl, rfl, rfl, rfl, trivial⟩ ⟨rfl, trivial⟩ rfl
            · refine pw_skip ?_
              refine pn_seq ?_
              refine pw_region ?_
              refine po_evs (T := tab) 2 rfl rfl ?_
              refine po_lit (T := tab) (rows := [(⟨y6.Kind, y6.A, y6.B, y6.C, c15, y6.T, y6.Must⟩ : Op)].map cOp) 82 rfl rfl rfl rfl rfl rfl rfl rfl rfl rfl rfl rfl rfl rfl ?_
              refine po_append (T := tab) cOp l5 ([(⟨y6.Kind, y6.A, y6.B, y6.C, c15, y6.T, y6.Must⟩ : Op)] : List Op) rfl rfl rfl rfl rfl rfl rfl rfl rfl rfl rfl rfl rfl rfl (cOp_one _) rfl rfl rfl rfl rfl ?_
              refine po_evs (T := tab) 1 rfl rfl ?_
              refine po_nil ?_
              refine pn_block ?_
              refine pn_seq ?_
              refine pw_region ?_
              refine po_evs (T := tab) 1 rfl rfl ?_
              refine po_arith' (T := tab) rfl rfl rfl rfl fun i22 hi22 => ?_
              refine po_evs (T := tab) 1 rfl rfl ?_
              refine po_nil ?_
              exact pn_iter' (i22, (l5 ++ [(⟨y6.Kind, y6.A, y6.B, y6.C, c15, y6.T, y6.Must⟩ : Op)])) ⟨rfl, rfl, rfl, rfl, rfl, trivial⟩ ⟨rfl, trivial⟩ rfl
      · refine po_evs (T := tab) 4 rfl rfl ?_
        refine po_split (j := 50) rfl ?_ ?_
        · refine po_evs (T := tab) 4 rfl rfl ?_
          refine po_nil ?_
          refine pn_seq (pw_then rfl ?_)
          refine pw_region ?_
          refine po_evs (T := tab) 4 rfl rfl ?_
          refine po_call (enc := fun (r13 : Bs) => .v (.string ⟨⟨r13⟩⟩)) (qs := [.v (.string ⟨⟨c12⟩⟩), .v (.string ⟨⟨x2⟩⟩), .v (.string ⟨⟨y3⟩⟩)]) (Instarref25_Name_ok fu c12 x2 y3) rfl rfl ⟨⟨_, rfl, .rfl⟩, ⟨_, rfl, .rfl⟩, ⟨_, rfl, .rfl⟩, trivial⟩ (fun _ => rfl) call49 rfl rfl fun r13 hr13 => ?_
          refine po_evs (T := tab) 1 rfl rfl ?_
          refine po_store (T := tab) rfl rfl rfl rfl rfl rfl rfl rfl rfl rfl rfl rfl ?_
          refine po_nil ?_
          exact pn_sub' (hj2 r13) ⟨rfl, rfl, rfl, rfl, rfl, rfl, trivial⟩ ⟨rfl, rfl, trivial⟩ rfl
        · refine po_evs (T := tab) 4 rfl rfl ?_
          refine po_nil ?_
          refine pn_seq ?_
          refine pw_cnd rfl ?_ ?_
          · refine pw_region ?_
            refine po_evs (T := tab) 4 rfl rfl ?_
            refine po_call (enc := fun (r14 : Bs) => .v (.string ⟨⟨r14⟩⟩)) (qs := [.v (.string ⟨⟨c12⟩⟩), .v (.string ⟨⟨x2⟩⟩), .v (.string ⟨⟨y3⟩⟩)]) (Instarref25_Name_ok fu c12 x2 y3) rfl rfl ⟨⟨_, rfl, .rfl⟩, ⟨_, rfl, .rfl⟩, ⟨_, rfl, .rfl⟩, trivial⟩ (fun _ => rfl) call49 rfl rfl fun r14 hr14 => ?_
            refine po_evs (T := tab) 1 rfl rfl ?_
            refine po_store (T := tab) rfl rfl rfl rfl rfl rfl rfl rfl rfl rfl rfl rfl ?_
            refine po_nil ?_
            exact pn_sub' (hj2 r14) ⟨rfl, rfl, rfl, rfl, rfl, rfl, trivial⟩ ⟨rfl, rfl, trivial⟩ rfl
          · refine pw_skip ?_
            exact pn_sub' (hj2 c12) ⟨rfl, rfl, rfl, rfl, rfl, rfl, trivial⟩ ⟨rfl, rfl, trivial⟩ rfl
    · refine po_evs (T := tab) 4 rfl rfl ?_
      refine po_split (j := 27) rfl ?_ ?_
      · refine po_evs (T := tab) 9 rfl rfl ?_
        refine po_split (j := 36) rfl ?_ ?_
        · refine po_evs (T := tab) 5 rfl rfl ?_
          refine po_nil ?_
          refine pn_seq (pw_then rfl ?_)
          refine pw_region ?_
          refine po_evs (T := tab) 3 rfl rfl ?_
          refine po_call (enc := fun (r8 : Bs) => .v (.string ⟨⟨r8⟩⟩)) (qs := [.v (.string ⟨⟨r7⟩⟩), .v (.string ⟨⟨x2⟩⟩), .v (.string ⟨⟨y3⟩⟩)]) (Instarref25_Name_ok fu r7 x2 y3) rfl rfl ⟨⟨_, rfl, .rfl⟩, ⟨_, rfl, .rfl⟩, ⟨_, rfl, .rfl⟩, trivial⟩ (fun _ => rfl) call49 rfl rfl fun r8 hr8 => ?_
          refine po_evs (T := tab) 1 rfl rfl ?_
          refine po_store (T := tab) rfl rfl rfl rfl rfl rfl rfl rfl rfl rfl rfl rfl ?_
          refine po_nil ?_
          exact pn_sub' (hj1 r8) ⟨rfl, rfl, rfl, rfl, rfl, rfl, trivial⟩ ⟨rfl, rfl, trivial⟩ rfl
        · refine po_evs (T := tab) 5 rfl rfl ?_
          refine po_nil ?_
          refine pn_seq ?_
          refine pw_cnd rfl ?_ ?_
          · refine pw_region ?_
            refine po_evs (T := tab) 3 rfl rfl ?_
            refine po_call (enc := fun (r9 : Bs) => .v (.string ⟨⟨r9⟩⟩)) (qs := [.v (.string ⟨⟨r7⟩⟩), .v (.string ⟨⟨x2⟩⟩), .v (.string ⟨⟨y3⟩⟩)]) (Instarref25_Name_ok fu r7 x2 y3) rfl rfl ⟨⟨_, rfl, .rfl⟩, ⟨_, rfl, .rfl⟩, ⟨_, rfl, .rfl⟩, trivial⟩ (fun _ => rfl) call49 rfl rfl fun r9 hr9 => ?_
            refine po_evs (T := tab) 1 rfl rfl ?_
            refine po_store (T := tab) rfl rfl rfl rfl rfl rfl rfl rfl rfl rfl rfl rfl ?_
            refine po_nil ?_
            exact pn_sub' (hj1 r9) ⟨rfl, rfl, rfl, rfl, rfl, rfl, trivial⟩ ⟨rfl, rfl, trivial⟩ rfl
          · refine pw_skip ?_
            exact pn_sub' (hj1 y6.S) ⟨rfl, rfl, rfl, rfl, rfl, rfl, trivial⟩ ⟨rfl, rfl, trivial⟩ rfl
      · refine po_evs (T := tab) 5 rfl rfl ?_
        refine po_split (j := 32) rfl ?_ ?_
        · refine po_evs (T := tab) 4 rfl rfl ?_
          refine po_split (j := 36) rfl ?_ ?_
          · refine po_evs (T := tab) 5 rfl rfl ?_
            refine po_nil ?_
            refine pn_seq (pw_then rfl ?_)
            refine pw_region ?_
            refine po_evs (T := tab) 3 rfl rfl ?_
            refine po_call (enc := fun (r10 : Bs) => .v (.string ⟨⟨r10⟩⟩)) (qs := [.v (.string ⟨⟨r7⟩⟩), .v (.string ⟨⟨x2⟩⟩), .v (.string ⟨⟨y3⟩⟩)]) (Instarref25_Name_ok fu r7 x2 y3) rfl rfl ⟨⟨_, rfl, .rfl⟩, ⟨_, rfl, .rfl⟩, ⟨_, rfl, .rfl⟩, trivial⟩ (fun _ => rfl) call49 rfl rfl fun r10 hr10 => ?_
            refine po_evs (T := tab) 1 rfl rfl ?_
            refine po_store (T := tab) rfl rfl rfl rfl rfl rfl rfl rfl rfl rfl rfl rfl ?_
            refine po_nil ?_
            exact pn_sub' (hj1 r10) ⟨rfl, rfl, rfl, rfl, rfl, rfl, trivial⟩ ⟨rfl, rfl, trivial⟩ rfl
          · refine po_evs (T := tab) 5 rfl rfl ?_
            refine po_nil ?_
            refine pn_seq ?_
            refine pw_cnd rfl ?_ ?_
            · refine pw_region ?_
              refine po_evs (T := tab) 3 rfl rfl ?_
              refine po_call (enc := fun (r11 : Bs) => .v (.string ⟨⟨r11⟩⟩)) (qs := [.v (.string ⟨⟨r7⟩⟩), .v (.string ⟨⟨x2⟩⟩), .v (.string ⟨⟨y3⟩⟩)]) (Instarref25_Name_ok fu r7 x2 y3) rfl rfl ⟨⟨_, rfl, .rfl⟩, ⟨_, rfl, .rfl⟩, ⟨_, rfl, .rfl⟩, trivial⟩ (fun _ => rfl) call49 rfl rfl fun r11 hr11 => ?_
              refine po_evs (T := tab) 1 rfl rfl ?_
              refine po_store (T := tab) rfl rfl rfl rfl rfl rfl rfl rfl rfl rfl rfl rfl ?_
              refine po_nil ?_
              exact pn_sub' (hj1 r11) ⟨rfl, rfl, rfl, rfl, rfl, rfl, trivial⟩ ⟨rfl, rfl, trivial⟩ rfl
            · refine pw_skip ?_
              exact pn_sub' (hj1 y6.S) ⟨rfl, rfl, rfl, rfl, rfl, rfl, trivial⟩ ⟨rfl, rfl, trivial⟩ rfl
        · refine po_evs (T := tab) 9 rfl rfl ?_
          refine po_nil ?_
          refine pn_seq (pw_else rfl ?_)
          refine pw_skip ?_
          exact pn_sub' (hj1 y6.S) ⟨rfl, rfl, rfl, rfl, rfl, rfl, trivial⟩ ⟨rfl, rfl, trivial⟩ rfl
  · refine pw_exit rfl ?_
    refine pn_seq ?_
    refine pw_seq ?_
    refine pw_region ?_
    refine po_evs (T := tab) 2 rfl rfl ?_
    refine po_nil ?_
    refine pn_seq ?_
    refine pw_freeze 1083 rfl rfl rfl ?_
    exact pw_retN (T := tab) rfl rfl rfl ⟨rfl, rfl⟩ trivial rfl

def Instarref25_Names_l2 (fu : Nat) (x2 : Bs) (y3 : Bs) (i6 : Int) (l7 : (List Class)) (y8 : Class) (r9 : (List Op)) (r10 : (List Op)) (rc1 : (Int × (List Class)) → Option Script) : Nat → Int × (List Hook) → Option Script
  | 0, _ => none
  | k2 + 1, (k11, l12) => cnd (decide (k11 < ((y8.Hooks.length : Nat) : Int))) (bnd (idx y8.Hooks k11) fun y13 => bnd (idx y8.Hooks k11) fun y14 => bnd (Instarref25_renamed_m fu y14.Do x2 y3) fun r15 => bnd (roomy 32 (l12.length + ([(⟨y13.Kind, r15⟩ : Hook)] : List Hook).length)) fun _ => bnd (rng .i64 (k11 + 1)) fun i16 => (Instarref25_Names_l2 fu x2 y3 i6 l7 y8 r9 r10 rc1 k2) (i16, (l12 ++ [(⟨y13.Kind, r15⟩ : Hook)]))) (bnd (roomy 104 (l7.length + ([(⟨y8.Form, y8.Watch, r9, r10, l12⟩ : Class)] : List Class).length)) fun _ => bnd (rng .i64 (i6 + 1)) fun i17 => rc1 (i17, (l7 ++ [(⟨y8.Form, y8.Watch, r9, r10, l12⟩ : Class)])))

def Instarref25_Names_l1 (fu : Nat) (s1 : Script) (x2 : Bs) (y3 : Bs) (r5 : (List Op)) : Nat → Int × (List Class) → Option Script
  | 0, _ => none
  | k1 + 1, (i6, l7) => cnd (decide (i6 < ((s1.Classes.length : Nat) : Int))) (bnd (idx s1.Classes i6) fun y8 => bnd (Instarref25_renamed_m fu y8.Peek x2 y3) fun r9 => bnd (Instarref25_renamed_m fu y8.Make x2 y3) fun r10 => (Instarref25_Names_l2 fu x2 y3 i6 l7 y8 r9 r10 (Instarref25_Names_l1 fu s1 x2 y3 r5 k1)) fu (0, [])) (some (⟨l7, r5⟩ : Script))

def Instarref25_Names_m (fu : Nat) (s1 : Script) (x2 : Bs) (y3 : Bs) : Option Script := bnd (Instarref25_both_m fu x2 y3) fun r4 => cnd (!r4) (some s1) (bnd (Instarref25_renamed_m fu s1.Main x2 y3) fun r5 => (Instarref25_Names_l1 fu s1 x2 y3 r5) fu (0, []))

set_option maxHeartbeats 10000000 in
set_option maxRecDepth 100000 in
theorem Instarref25_Names_ok (fu : Nat) (s1 : Script) (x2 : Bs) (y3 : Bs) : ∀ r, Instarref25_Names_m fu s1 x2 y3 = some r → DC Try.prog 18 [.agg (cScript s1), .v (.string ⟨⟨x2⟩⟩), .v (.string ⟨⟨y3⟩⟩)] (.agg (cScript r)) := by
  intro r hr
  refine fc_intro (args := [.agg (cScript s1), .v (.string ⟨⟨x2⟩⟩), .v (.string ⟨⟨y3⟩⟩)]) (S := []) (N0 := []) (post := fun r p S => p = .agg (cScript r) ∧ S = []) Try.func18 rfl rfl hr fun w0 X X0 σ0 => ?_
  refine pw_seq ?_
  refine pw_region ?_
  refine po_box  3 rfl rfl rfl rfl rfl rfl rfl rfl rfl rfl ?_
  refine po_alloc (T := tab) 6 rfl rfl rfl rfl rfl rfl rfl rfl rfl ?_
  refine po_nil ?_
  refine pn_seq ?_
  refine pw_seq ?_
  refine pw_seq ?_
  refine pw_region ?_
  refine po_evs (T := tab) 2 rfl rfl ?_
  refine po_call (enc := fun (r4 : Bool) => .v (.bool r4)) (qs := [.v (.string ⟨⟨x2⟩⟩), .v (.string ⟨⟨y3⟩⟩)]) (Instarref25_both_ok fu x2 y3) rfl rfl ⟨⟨_, rfl, .rfl⟩, ⟨_, rfl, .rfl⟩, trivial⟩ (fun _ => rfl) call46 rfl rfl fun r4 hr4 => ?_
  refine po_evs (T := tab) 1 rfl rfl ?_
  refine po_nil ?_
  refine pn_seq ?_
  refine pw_cnd rfl ?_ ?_
  · refine pw_seq ?_
    refine pw_region ?_
    refine po_evs (T := tab) 1 rfl rfl ?_
    refine po_store (T := tab) rfl rfl rfl rfl rfl rfl rfl rfl rfl rfl rfl rfl ?_
    refine po_nil ?_
    refine pn_seq ?_
    exact pw_retN (T := tab) rfl rfl rfl ⟨rfl, rfl⟩ trivial rfl
  · refine pw_skip ?_
    refine pn_seq ?_
    refine pw_seq ?_
    refine pw_region ?_
    refine po_evs (T := tab) 4 rfl rfl ?_
    refine po_call (enc := fun (r5 : (List Op)) => .sl 7 false (r5.map cOp)) (qs := [.sl 7 false (s1.Main.map cOp), .v (.string ⟨⟨x2⟩⟩), .v (.string ⟨⟨y3⟩⟩)]) (Instarref25_renamed_ok fu s1.Main x2 y3) rfl rfl ⟨⟨_, rfl, .rfl⟩, ⟨_, rfl, .rfl⟩, ⟨_, rfl, .rfl⟩, trivial⟩ (fun _ => rfl) call47 rfl rfl fun r5 hr5 => ?_
    refine po_build (T := tab) rfl rfl rfl rfl rfl rfl rfl ?_
    refine po_alloc (T := tab) 7 rfl rfl rfl rfl rfl rfl rfl rfl rfl ?_
    refine po_store (T := tab) rfl rfl rfl rfl rfl rfl rfl rfl rfl rfl rfl rfl ?_
    refine po_nil ?_
    refine pn_seq ?_
    refine pw_seq ?_
    refine pw_seq ?_
    refine pw_region ?_
    refine po_evs (T := tab) 1 rfl rfl ?_
    refine po_nil ?_
    refine pn_seq ?_
    refine pw_block ?_
    refine pw_own_nilS 1082 37 5 7 0 rfl rfl rfl rfl rfl rfl ?_
    refine pw_loop' (Instarref25_Names_l1 fu s1 x2 y3 r5) (fun ((i6, l7) : Int × (List Class)) => [(1, .v (.string ⟨⟨x2⟩⟩)), (2, .v (.string ⟨⟨y3⟩⟩)), (3, .loc 3 0), (6, .loc 6 0), (7, .loc 7 0), (8, .v (.int .i64 i6))]) (fun ((i6, l7) : Int × (List Class)) => [(1082, .arr 37 5 (l7.map cClass)), (7, .box [.own 1082, .sl 7 false (r5.map cOp)]), (6, .box [.v (.slice none 0 0), .v (.slice none 0 0)]), (3, .box [.sl 5 false (s1.Classes.map cClass), .sl 7 false (s1.Main.map cOp)])]) fu (0, []) (fun _ => rfl) ⟨rfl, rfl, rfl, rfl, rfl, rfl, trivial⟩ ⟨rfl, rfl, rfl, rfl, trivial⟩ rfl ?_
    rintro k1 ⟨i6, l7⟩
    refine pw_seq ?_
    refine pw_seq ?_
    refine pw_region ?_
    refine po_evs (T := tab) 3 rfl rfl ?_
    refine po_len (T := tab) cClass s1.Classes rfl rfl rfl rfl rfl rfl rfl rfl ?_
    refine po_evs (T := tab) 1 rfl rfl ?_
    refine po_nil ?_
    refine pn_seq ?_
    refine pw_cnd rfl ?_ ?_
    · refine pw_skip ?_
      refine pn_seq ?_
      refine pw_seq ?_
      refine pw_block ?_
      refine pw_seq ?_
      refine pw_region ?_
      refine po_evs (T := tab) 3 rfl rfl ?_
      refine po_idx (T := tab) cClass s1.Classes rfl rfl rfl rfl rfl rfl rfl fun y8 hy8 => ?_
      refine po_evs (T := tab) 1 rfl rfl ?_
      refine po_alloc (T := tab) 9 rfl rfl rfl rfl rfl rfl rfl rfl rfl ?_
      refine po_store (T := tab) rfl rfl rfl rfl rfl rfl rfl rfl rfl rfl rfl rfl ?_
      refine po_nil ?_
      refine pn_seq ?_
      refine pw_seq ?_
      refine pw_sub' (E' := [(1, .v (.string ⟨⟨x2⟩⟩)), (2, .v (.string ⟨⟨y3⟩⟩)), (3, .loc 3 0), (6, .loc 6 0), (7, .loc 7 0), (8, .v (.int .i64 i6)), (9, .loc 9 0)]) (S' := [(9, .box [.v (.bool y8.Form), .sl 1 false (y8.Watch.map cStr), .sl 7 false (y8.Peek.map cOp), .sl 7 false (y8.Make.map cOp), .sl 2 false (y8.Hooks.map cHook)]), (1082, .arr 37 5 (l7.map cClass)), (7, .box [.own 1082, .sl 7 false (r5.map cOp)]), (6, .box [.v (.slice none 0 0), .v (.slice none 0 0)]), (3, .box [.sl 5 false (s1.Classes.map cClass), .sl 7 false (s1.Main.map cOp)])]) ?_ ⟨rfl, rfl, rfl, rfl, rfl, rfl, rfl, trivial⟩ ⟨rfl, rfl, rfl, rfl, rfl, trivial⟩ rfl
      refine pw_drawV [0, 1, 0, 4, 0, 16, 0, 0, 240, 0, 512, 0, 0, 8176, 16383, 0, 65535] mixed (by kernel_rfl) (by kernel_rfl) rfl rfl ?_
      refine pdv_step0 [18] [70] [] [9] [] [(35, .loc 9 0)] [] rfl rfl rfl rfl (by kernel_rfl) (by kernel_rfl) (by kernel_rfl) trivial (fun w0 X X0 σ0 => by refine po_evs (T := tab) 1 rfl rfl ?_; refine po_nil ?_; exact pn_end0 ⟨rfl, trivial⟩ trivial rfl) ?_
      refine pdv_step0 [19, 70] [72] [] [9] [9] [(36, .v (.bool y8.Form))] [(9, .box [.v (.bool y8.Form), .sl 1 false (y8.Watch.map cStr), .sl 7 false (y8.Peek.map cOp), .sl 7 false (y8.Make.map cOp), .sl 2 false (y8.Hooks.map cHook)])] rfl rfl rfl rfl (by kernel_rfl) (by kernel_rfl) (by kernel_rfl) ⟨rfl, trivial⟩ (fun w0 X X0 σ0 => by refine po_evs (T := tab) 1 rfl rfl ?_; refine po_nil ?_; exact pn_end0 ⟨rfl, trivial⟩ ⟨rfl, trivial⟩ rfl) ?_
      refine pdv_step0 [18] [74] [] [9] [] [(37, .loc 9 1)] [] rfl rfl rfl rfl (by kernel_rfl) (by kernel_rfl) (by kernel_rfl) trivial (fun w0 X X0 σ0 => by refine po_evs (T := tab) 1 rfl rfl ?_; refine po_nil ?_; exact pn_end0 ⟨rfl, trivial⟩ trivial rfl) ?_
      refine pdv_step0 [19, 74] [76] [] [9] [9] [(38, .sl 1 false (y8.Watch.map cStr))] [(9, .box [.v (.bool y8.Form), .sl 1 false (y8.Watch.map cStr), .sl 7 false (y8.Peek.map cOp), .sl 7 false (y8.Make.map cOp), .sl 2 false (y8.Hooks.map cHook)])] rfl rfl rfl rfl (by kernel_rfl) (by kernel_rfl) (by kernel_rfl) ⟨rfl, trivial⟩ (fun w0 X X0 σ0 => by refine po_evs (T := tab) 1 rfl rfl ?_; refine po_nil ?_; exact pn_end0 ⟨rfl, trivial⟩ ⟨rfl, trivial⟩ rfl) ?_
      refine pdv_step0 [18] [78] [] [9] [] [(39, .loc 9 2)] [] rfl rfl rfl rfl (by kernel_rfl) (by kernel_rfl) (by kernel_rfl) trivial (fun w0 X X0 σ0 => by refine po_evs (T := tab) 1 rfl rfl ?_; refine po_nil ?_; exact pn_end0 ⟨rfl, trivial⟩ trivial rfl) ?_
      refine pdv_step0 [19, 78] [80] [] [9] [9] [(40, .sl 7 false (y8.Peek.map cOp))] [(9, .box [.v (.bool y8.Form), .sl 1 false (y8.Watch.map cStr), .sl 7 false (y8.Peek.map cOp), .sl 7 false (y8.Make.map cOp), .sl 2 false (y8.Hooks.map cHook)])] rfl rfl rfl rfl (by kernel_rfl) (by kernel_rfl) (by kernel_rfl) ⟨rfl, trivial⟩ (fun w0 X X0 σ0 => by refine po_evs (T := tab) 1 rfl rfl ?_; refine po_nil ?_; exact pn_end0 ⟨rfl, trivial⟩ ⟨rfl, trivial⟩ rfl) ?_
      refine pdv_step0 [2] [82] [] [] [] [(41, .v (.string ⟨⟨x2⟩⟩))] [] rfl rfl rfl rfl (by kernel_rfl) (by kernel_rfl) (by kernel_rfl) trivial (fun w0 X X0 σ0 => by refine po_evs (T := tab) 1 rfl rfl ?_; refine po_nil ?_; exact pn_end0 ⟨rfl, trivial⟩ trivial rfl) ?_
      refine pdv_step0 [4] [84] [] [] [] [(42, .v (.string ⟨⟨y3⟩⟩))] [] rfl rfl rfl rfl (by kernel_rfl) (by kernel_rfl) (by kernel_rfl) trivial (fun w0 X X0 σ0 => by refine po_evs (T := tab) 1 rfl rfl ?_; refine po_nil ?_; exact pn_end0 ⟨rfl, trivial⟩ trivial rfl) ?_
      refine pdv_step (M := (Instarref25_renamed_m fu y8.Peek x2 y3)) (ment := [(86, [])]) [80, 82, 84] [86] [] [] [] (fun r9 => [(43, .sl 7 false (r9.map cOp))]) (fun r9 => []) rfl rfl (fun _ => rfl) (fun _ => rfl) (by kernel_rfl) (by kernel_rfl) (fun _ => by kernel_rfl) (fun _ => trivial) (fun w0 X X0 σ0 => by refine po_call (enc := fun (r9 : (List Op)) => .sl 7 false (r9.map cOp)) (qs := [.sl 7 false (y8.Peek.map cOp), .v (.string ⟨⟨x2⟩⟩), .v (.string ⟨⟨y3⟩⟩)]) (Instarref25_renamed_ok fu y8.Peek x2 y3) rfl rfl ⟨⟨_, rfl, .rfl⟩, ⟨_, rfl, .rfl⟩, ⟨_, rfl, .rfl⟩, trivial⟩ (fun _ => rfl) call47 rfl rfl fun r9 hr9 => ?_; refine po_nil ?_; exact pn_end ⟨rfl, trivial⟩ trivial rfl) fun r9 hr9 => ?_
      refine pdv_step0 [18] [88] [] [9] [] [(44, .loc 9 3)] [] rfl rfl rfl rfl (by kernel_rfl) (by kernel_rfl) (by kernel_rfl) trivial (fun w0 X X0 σ0 => by refine po_evs (T := tab) 1 rfl rfl ?_; refine po_nil ?_; exact pn_end0 ⟨rfl, trivial⟩ trivial rfl) ?_
      refine pdv_step0 [19, 88] [90] [] [9] [9] [(45, .sl 7 false (y8.Make.map cOp))] [(9, .box [.v (.bool y8.Form), .sl 1 false (y8.Watch.map cStr), .sl 7 false (y8.Peek.map cOp), .sl 7 false (y8.Make.map cOp), .sl 2 false (y8.Hooks.map cHook)])] rfl rfl rfl rfl (by kernel_rfl) (by kernel_rfl) (by kernel_rfl) ⟨rfl, trivial⟩ (fun w0 X X0 σ0 => by refine po_evs (T := tab) 1 rfl rfl ?_; refine po_nil ?_; exact pn_end0 ⟨rfl, trivial⟩ ⟨rfl, trivial⟩ rfl) ?_
      refine pdv_step0 [2] [92] [] [] [] [(46, .v (.string ⟨⟨x2⟩⟩))] [] rfl rfl rfl rfl (by kernel_rfl) (by kernel_rfl) (by kernel_rfl) trivial (fun w0 X X0 σ0 => by refine po_evs (T := tab) 1 rfl rfl ?_; refine po_nil ?_; exact pn_end0 ⟨rfl, trivial⟩ trivial rfl) ?_
      refine pdv_step0 [4] [94] [] [] [] [(47, .v (.string ⟨⟨y3⟩⟩))] [] rfl rfl rfl rfl (by kernel_rfl) (by kernel_rfl) (by kernel_rfl) trivial (fun w0 X X0 σ0 => by refine po_evs (T := tab) 1 rfl rfl ?_; refine po_nil ?_; exact pn_end0 ⟨rfl, trivial⟩ trivial rfl) ?_
      refine pdv_step (M := (Instarref25_renamed_m fu y8.Make x2 y3)) (ment := [(96, [])]) [90, 92, 94] [96] [] [] [] (fun r10 => [(48, .sl 7 false (r10.map cOp))]) (fun r10 => []) rfl rfl (fun _ => rfl) (fun _ => rfl) (by kernel_rfl) (by kernel_rfl) (fun _ => by kernel_rfl) (fun _ => trivial) (fun w0 X X0 σ0 => by refine po_call (enc := fun (r10 : (List Op)) => .sl 7 false (r10.map cOp)) (qs := [.sl 7 false (y8.Make.map cOp), .v (.string ⟨⟨x2⟩⟩), .v (.string ⟨⟨y3⟩⟩)]) (Instarref25_renamed_ok fu y8.Make x2 y3) rfl rfl ⟨⟨_, rfl, .rfl⟩, ⟨_, rfl, .rfl⟩, ⟨_, rfl, .rfl⟩, trivial⟩ (fun _ => rfl) call47 rfl rfl fun r10 hr10 => ?_; refine po_nil ?_; exact pn_end ⟨rfl, trivial⟩ trivial rfl) fun r10 hr10 => ?_
      refine pdv_step0 [72, 76, 86, 96] [98] [] [] [] [(49, .agg [.v (.bool y8.Form), .sl 1 false (y8.Watch.map cStr), .sl 7 false (r9.map cOp), .sl 7 false (r10.map cOp), .v (.slice none 0 0)])] [] rfl rfl rfl rfl (by kernel_rfl) (by kernel_rfl) (by kernel_rfl) trivial (fun w0 X X0 σ0 => by refine po_build (T := tab) rfl rfl rfl rfl rfl rfl rfl ?_; refine po_nil ?_; exact pn_end0 ⟨rfl, trivial⟩ trivial rfl) ?_
      refine pdv_step0 [] [20, 21] [10] [] [] [(10, .loc 10 0)] [(10, .box [.v (.bool false), .v (.slice none 0 0), .v (.slice none 0 0), .v (.slice none 0 0), .v (.slice none 0 0)])] rfl rfl rfl rfl (by kernel_rfl) (by kernel_rfl) (by kernel_rfl) trivial (fun w0 X X0 σ0 => by refine po_alloc (T := tab) 10 rfl rfl rfl rfl rfl rfl rfl rfl rfl ?_; refine po_nil ?_; exact pn_end0 ⟨rfl, trivial⟩ ⟨rfl, trivial⟩ rfl) ?_
      refine pdv_step0 [20, 21, 98] [21] [] [10] [] [] [(10, .box [.v (.bool y8.Form), .sl 1 false (y8.Watch.map cStr), .sl 7 false (r9.map cOp), .sl 7 false (r10.map cOp), .v (.slice none 0 0)])] rfl rfl rfl rfl (by kernel_rfl) (by kernel_rfl) (by kernel_rfl) trivial (fun w0 X X0 σ0 => by refine po_store (T := tab) rfl rfl rfl rfl rfl rfl rfl rfl rfl rfl rfl rfl ?_; refine po_nil ?_; exact pn_end0 trivial ⟨rfl, trivial⟩ rfl) ?_
      refine pdv_nil rfl rfl ?_
      refine pn_seq ?_
      refine pw_seq ?_
      refine pw_seq ?_
      refine pw_region ?_
      refine po_evs (T := tab) 1 rfl rfl ?_
      refine po_nil ?_
      refine pn_seq ?_
      refine pw_block ?_
      refine pw_own_nilS 1076 52 2 10 4 rfl rfl rfl rfl rfl rfl ?_
      refine pw_loop' (Instarref25_Names_l2 fu x2 y3 i6 l7 y8 r9 r10 (Instarref25_Names_l1 fu s1 x2 y3 r5 k1)) (fun ((k11, l12) : Int × (List Hook)) => [(1, .v (.string ⟨⟨x2⟩⟩)), (2, .v (.string ⟨⟨y3⟩⟩)), (3, .loc 3 0), (6, .loc 6 0), (7, .loc 7 0), (8, .v (.int .i64 i6)), (9, .loc 9 0), (10, .loc 10 0), (11, .v (.int .i64 k11))]) (fun ((k11, l12) : Int × (List Hook)) => [(1076, .arr 52 2 (l12.map cHook)), (10, .box [.v (.bool y8.Form), .sl 1 false (y8.Watch.map cStr), .sl 7 false (r9.map cOp), .sl 7 false (r10.map cOp), .own 1076]), (9, .box [.v (.bool y8.Form), .sl 1 false (y8.Watch.map cStr), .sl 7 false (y8.Peek.map cOp), .sl 7 false (y8.Make.map cOp), .sl 2 false (y8.Hooks.map cHook)]), (1082, .arr 37 5 (l7.map cClass)), (7, .box [.own 1082, .sl 7 false (r5.map cOp)]), (6, .box [.v (.slice none 0 0), .v (.slice none 0 0)]), (3, .box [.sl 5 false (s1.Classes.map cClass), .sl 7 false (s1.Main.map cOp)])]) fu (0, []) (fun _ => rfl) ⟨rfl, rfl, rfl, rfl, rfl, rfl, rfl, rfl, rfl, trivial⟩ ⟨rfl, rfl, rfl, rfl, rfl, rfl, rfl, trivial⟩ rfl ?_
      rintro k2 ⟨k11, l12⟩
      refine pw_seq ?_
      refine pw_seq ?_
      refine pw_region ?_
      refine po_evs (T := tab) 3 rfl rfl ?_
      refine po_len (T := tab) cHook y8.Hooks rfl rfl rfl rfl rfl rfl rfl rfl ?_
      refine po_evs (T := tab) 1 rfl rfl ?_
      refine po_nil ?_
      refine pn_seq ?_
      refine pw_cnd rfl ?_ ?_
      · refine pw_skip ?_
        refine pn_seq ?_
        refine pw_seq ?_
        refine pw_block ?_
        refine pw_sub' (E' := [(1, .v (.string ⟨⟨x2⟩⟩)), (2, .v (.string ⟨⟨y3⟩⟩)), (3, .loc 3 0), (6, .loc 6 0), (7, .loc 7 0), (8, .v (.int .i64 i6)), (9, .loc 9 0), (10, .loc 10 0), (11, .v (.int .i64 k11))]) (S' := [(1076, .arr 52 2 (l12.map cHook)), (10, .box [.v (.bool y8.Form), .sl 1 false (y8.Watch.map cStr), .sl 7 false (r9.map cOp), .sl 7 false (r10.map cOp), .own 1076]), (9, .box [.v (.bool y8.Form), .sl 1 false (y8.Watch.map cStr), .sl 7 false (y8.Peek.map cOp), .sl 7 false (y8.Make.map cOp), .sl 2 false (y8.Hooks.map cHook)]), (1082, .arr 37 5 (l7.map cClass)), (7, .box [.own 1082, .sl 7 false (r5.map cOp)]), (6, .box [.v (.slice none 0 0), .v (.slice none 0 0)]), (3, .box [.sl 5 false (s1.Classes.map cClass), .sl 7 false (s1.Main.map cOp)])]) ?_ ⟨rfl, rfl, rfl, rfl, rfl, rfl, rfl, rfl, rfl, trivial⟩ ⟨rfl, rfl, rfl, rfl, rfl, rfl, rfl, trivial⟩ rfl
        refine pw_drawV [0, 1, 0, 4, 0, 28, 60, 124, 0, 256, 0, 1792, 3840, 7936, 0, 0, 65280, 131068, 262140, 524287, 1048575, 2097151] mixed (by kernel_rfl) (by kernel_rfl) rfl rfl ?_
        refine pdv_step0 [20] [114] [] [10] [] [(57, .loc 10 4)] [] rfl rfl rfl rfl (by kernel_rfl) (by kernel_rfl) (by kernel_rfl) trivial (fun w0 X X0 σ0 => by refine po_evs (T := tab) 1 rfl rfl ?_; refine po_nil ?_; exact pn_end0 ⟨rfl, trivial⟩ trivial rfl) ?_
        refine pdv_step0 [21, 114] [116] [] [10, 1076] [10] [(58, .own 1076)] [(10, .box [.v (.bool y8.Form), .sl 1 false (y8.Watch.map cStr), .sl 7 false (r9.map cOp), .sl 7 false (r10.map cOp), .own 1076])] rfl rfl rfl rfl (by kernel_rfl) (by kernel_rfl) (by kernel_rfl) ⟨rfl, trivial⟩ (fun w0 X X0 σ0 => by refine po_evs (T := tab) 1 rfl rfl ?_; refine po_nil ?_; exact pn_end0 ⟨rfl, trivial⟩ ⟨rfl, trivial⟩ rfl) ?_
        refine pdv_step0 [18] [118] [] [9] [] [(59, .loc 9 4)] [] rfl rfl rfl rfl (by kernel_rfl) (by kernel_rfl) (by kernel_rfl) trivial (fun w0 X X0 σ0 => by refine po_evs (T := tab) 1 rfl rfl ?_; refine po_nil ?_; exact pn_end0 ⟨rfl, trivial⟩ trivial rfl) ?_
        refine pdv_step0 [19, 118] [120] [] [9] [9] [(60, .sl 2 false (y8.Hooks.map cHook))] [(9, .box [.v (.bool y8.Form), .sl 1 false (y8.Watch.map cStr), .sl 7 false (y8.Peek.map cOp), .sl 7 false (y8.Make.map cOp), .sl 2 false (y8.Hooks.map cHook)])] rfl rfl rfl rfl (by kernel_rfl) (by kernel_rfl) (by kernel_rfl) ⟨rfl, trivial⟩ (fun w0 X X0 σ0 => by refine po_evs (T := tab) 1 rfl rfl ?_; refine po_nil ?_; exact pn_end0 ⟨rfl, trivial⟩ ⟨rfl, trivial⟩ rfl) ?_
        refine pdv_step0 [22] [122] [] [] [] [(61, .v (.int .i64 k11))] [] rfl rfl rfl rfl (by kernel_rfl) (by kernel_rfl) (by kernel_rfl) trivial (fun w0 X X0 σ0 => by refine po_evs (T := tab) 1 rfl rfl ?_; refine po_nil ?_; exact pn_end0 ⟨rfl, trivial⟩ trivial rfl) ?_
        refine pdv_step (M := (idx y8.Hooks k11)) (ment := [(124, [])]) [120, 122] [124] [] [] [] (fun y13 => [(62, .el (cHook y13) 0)]) (fun y13 => []) rfl rfl (fun _ => rfl) (fun _ => rfl) (by kernel_rfl) (by kernel_rfl) (fun _ => by kernel_rfl) (fun _ => trivial) (fun w0 X X0 σ0 => by refine po_idx (T := tab) cHook y8.Hooks rfl rfl rfl rfl rfl rfl rfl fun y13 hy13 => ?_; refine po_nil ?_; exact pn_end ⟨rfl, trivial⟩ trivial rfl) fun y13 hy13 => ?_
        refine pdv_step0 [124] [126] [] [] [] [(63, .el (cHook y13) 0)] [] rfl rfl rfl rfl (by kernel_rfl) (by kernel_rfl) (by kernel_rfl) trivial (fun w0 X X0 σ0 => by refine po_evs (T := tab) 1 rfl rfl ?_; refine po_nil ?_; exact pn_end0 ⟨rfl, trivial⟩ trivial rfl) ?_
        refine pdv_step0 [126] [128] [] [] [] [(64, .v (.int .i64 y13.Kind))] [] rfl rfl rfl rfl (by kernel_rfl) (by kernel_rfl) (by kernel_rfl) trivial (fun w0 X X0 σ0 => by refine po_evs (T := tab) 1 rfl rfl ?_; refine po_nil ?_; exact pn_end0 ⟨rfl, trivial⟩ trivial rfl) ?_
        refine pdv_step0 [18] [130] [] [9] [] [(65, .loc 9 4)] [] rfl rfl rfl rfl (by kernel_rfl) (by kernel_rfl) (by kernel_rfl) trivial (fun w0 X X0 σ0 => by refine po_evs (T := tab) 1 rfl rfl ?_; refine po_nil ?_; exact pn_end0 ⟨rfl, trivial⟩ trivial rfl) ?_
        refine pdv_step0 [19, 130] [132] [] [9] [9] [(66, .sl 2 false (y8.Hooks.map cHook))] [(9, .box [.v (.bool y8.Form), .sl 1 false (y8.Watch.map cStr), .sl 7 false (y8.Peek.map cOp), .sl 7 false (y8.Make.map cOp), .sl 2 false (y8.Hooks.map cHook)])] rfl rfl rfl rfl (by kernel_rfl) (by kernel_rfl) (by kernel_rfl) ⟨rfl, trivial⟩ (fun w0 X X0 σ0 => by refine po_evs (T := tab) 1 rfl rfl ?_; refine po_nil ?_; exact pn_end0 ⟨rfl, trivial⟩ ⟨rfl, trivial⟩ rfl) ?_
        refine pdv_step0 [22] [134] [] [] [] [(67, .v (.int .i64 k11))] [] rfl rfl rfl rfl (by kernel_rfl) (by kernel_rfl) (by kernel_rfl) trivial (fun w0 X X0 σ0 => by refine po_evs (T := tab) 1 rfl rfl ?_; refine po_nil ?_; exact pn_end0 ⟨rfl, trivial⟩ trivial rfl) ?_
        refine pdv_step (M := (idx y8.Hooks k11)) (ment := [(136, [])]) [132, 134] [136] [] [] [] (fun y14 => [(68, .el (cHook y14) 0)]) (fun y14 => []) rfl rfl (fun _ => rfl) (fun _ => rfl) (by kernel_rfl) (by kernel_rfl) (fun _ => by kernel_rfl) (fun _ => trivial) (fun w0 X X0 σ0 => by refine po_idx (T := tab) cHook y8.Hooks rfl rfl rfl rfl rfl rfl rfl fun y14 hy14 => ?_; refine po_nil ?_; exact pn_end ⟨rfl, trivial⟩ trivial rfl) fun y14 hy14 => ?_
        refine pdv_step0 [136] [138] [] [] [] [(69, .el (cHook y14) 1)] [] rfl rfl rfl rfl (by kernel_rfl) (by kernel_rfl) (by kernel_rfl) trivial (fun w0 X X0 σ0 => by refine po_evs (T := tab) 1 rfl rfl ?_; refine po_nil ?_; exact pn_end0 ⟨rfl, trivial⟩ trivial rfl) ?_
        refine pdv_step0 [138] [140] [] [] [] [(70, .sl 7 false (y14.Do.map cOp))] [] rfl rfl rfl rfl (by kernel_rfl) (by kernel_rfl) (by kernel_rfl) trivial (fun w0 X X0 σ0 => by refine po_evs (T := tab) 1 rfl rfl ?_; refine po_nil ?_; exact pn_end0 ⟨rfl, trivial⟩ trivial rfl) ?_
        refine pdv_step0 [2] [142] [] [] [] [(71, .v (.string ⟨⟨x2⟩⟩))] [] rfl rfl rfl rfl (by kernel_rfl) (by kernel_rfl) (by kernel_rfl) trivial (fun w0 X X0 σ0 => by refine po_evs (T := tab) 1 rfl rfl ?_; refine po_nil ?_; exact pn_end0 ⟨rfl, trivial⟩ trivial rfl) ?_
        refine pdv_step0 [4] [144] [] [] [] [(72, .v (.string ⟨⟨y3⟩⟩))] [] rfl rfl rfl rfl (by kernel_rfl) (by kernel_rfl) (by kernel_rfl) trivial (fun w0 X X0 σ0 => by refine po_evs (T := tab) 1 rfl rfl ?_; refine po_nil ?_; exact pn_end0 ⟨rfl, trivial⟩ trivial rfl) ?_
        refine pdv_step (M := (Instarref25_renamed_m fu y14.Do x2 y3)) (ment := [(146, [])]) [140, 142, 144] [146] [] [] [] (fun r15 => [(73, .sl 7 false (r15.map cOp))]) (fun r15 => []) rfl rfl (fun _ => rfl) (fun _ => rfl) (by kernel_rfl) (by kernel_rfl) (fun _ => by kernel_rfl) (fun _ => trivial) (fun w0 X X0 σ0 => by refine po_call (enc := fun (r15 : (List Op)) => .sl 7 false (r15.map cOp)) (qs := [.sl 7 false (y14.Do.map cOp), .v (.string ⟨⟨x2⟩⟩), .v (.string ⟨⟨y3⟩⟩)]) (Instarref25_renamed_ok fu y14.Do x2 y3) rfl rfl ⟨⟨_, rfl, .rfl⟩, ⟨_, rfl, .rfl⟩, ⟨_, rfl, .rfl⟩, trivial⟩ (fun _ => rfl) call47 rfl rfl fun r15 hr15 => ?_; refine po_nil ?_; exact pn_end ⟨rfl, trivial⟩ trivial rfl) fun r15 hr15 => ?_
        refine pdv_step0 [128, 146] [148] [] [] [] [(74, .agg [.v (.int .i64 y13.Kind), .sl 7 false (r15.map cOp)])] [] rfl rfl rfl rfl (by kernel_rfl) (by kernel_rfl) (by kernel_rfl) trivial (fun w0 X X0 σ0 => by refine po_build (T := tab) rfl rfl rfl rfl rfl rfl rfl ?_; refine po_nil ?_; exact pn_end0 ⟨rfl, trivial⟩ trivial rfl) ?_
        refine pdv_step0 [148] [150, 151] [75] [] [] [(75, .own 75)] [(75, .arr 52 2 ([(⟨y13.Kind, r15⟩ : Hook)].map cHook))] rfl rfl rfl rfl (by kernel_rfl) (by kernel_rfl) (by kernel_rfl) trivial (fun w0 X X0 σ0 => by refine po_lit (T := tab) (rows := [(⟨y13.Kind, r15⟩ : Hook)].map cHook) 75 rfl rfl rfl rfl rfl rfl rfl rfl rfl rfl rfl rfl rfl rfl ?_; refine po_nil ?_; exact pn_end0 ⟨rfl, trivial⟩ ⟨rfl, trivial⟩ rfl) ?_
        refine pdv_step (M := (roomy 32 (l12.length + ([(⟨y13.Kind, r15⟩ : Hook)] : List Hook).length))) (ment := [(152, [1076]), (116, []), (2153, []), (21, [])]) [21, 116, 150, 151, 2153] [152, 116, 2153, 21] [1076] [10, 75] [75] (fun _ => [(76, .own 1076)]) (fun _ => [(1076, .arr 52 2 ((l12 ++ [(⟨y13.Kind, r15⟩ : Hook)]).map cHook)), (10, .box [.v (.bool y8.Form), .sl 1 false (y8.Watch.map cStr), .sl 7 false (r9.map cOp), .sl 7 false (r10.map cOp), .junk]), (75, .arr 52 2 ([(⟨y13.Kind, r15⟩ : Hook)].map cHook))]) rfl rfl (fun _ => rfl) (fun _ => rfl) (by kernel_rfl) (by kernel_rfl) (fun _ => by kernel_rfl) (fun _ => ⟨rfl, trivial⟩) (fun w0 X X0 σ0 => by refine po_append (T := tab) cHook l12 ([(⟨y13.Kind, r15⟩ : Hook)] : List Hook) rfl rfl rfl rfl rfl rfl rfl rfl rfl rfl rfl rfl rfl rfl (cHook_one _) rfl rfl rfl rfl rfl ?_; refine po_nil ?_; exact pn_end ⟨rfl, trivial⟩ ⟨rfl, rfl, rfl, trivial⟩ rfl) fun _ h0 => ?_
        refine pdv_step0 [20] [154] [] [10] [] [(77, .loc 10 4)] [] rfl rfl rfl rfl (by kernel_rfl) (by kernel_rfl) (by kernel_rfl) trivial (fun w0 X X0 σ0 => by refine po_evs (T := tab) 1 rfl rfl ?_; refine po_nil ?_; exact pn_end0 ⟨rfl, trivial⟩ trivial rfl) ?_
        refine pdv_step0 [21, 152, 154, 2153] [21] [] [10, 1076] [1076] [] [(10, .box [.v (.bool y8.Form), .sl 1 false (y8.Watch.map cStr), .sl 7 false (r9.map cOp), .sl 7 false (r10.map cOp), .own 1076]), (1076, .arr 52 2 ((l12 ++ [(⟨y13.Kind, r15⟩ : Hook)]).map cHook))] rfl rfl rfl rfl (by kernel_rfl) (by kernel_rfl) (by kernel_rfl) ⟨rfl, trivial⟩ (fun w0 X X0 σ0 => by refine po_store (T := tab) rfl rfl rfl rfl rfl rfl rfl rfl rfl rfl rfl rfl ?_; refine po_nil ?_; exact pn_end0 trivial ⟨rfl, rfl, trivial⟩ rfl) ?_
        refine pdv_nil rfl rfl ?_
        refine pn_block ?_
        refine pn_seq ?_
        refine pw_region ?_
        refine po_evs (T := tab) 1 rfl rfl ?_
        refine po_arith' (T := tab) rfl rfl rfl rfl fun i16 hi16 => ?_
        refine po_evs (T := tab) 1 rfl rfl ?_
        refine po_nil ?_
        exact pn_iter' (i16, (l12 ++ [(⟨y13.Kind, r15⟩ : Hook)])) ⟨rfl, rfl, rfl, rfl, rfl, rfl, rfl, rfl, rfl, trivial⟩ ⟨rfl, rfl, rfl, rfl, rfl, rfl, rfl, trivial⟩ rfl
      · refine pw_exit rfl ?_
        refine pn_seq ?_
        refine pw_region ?_
        refine po_evs (T := tab) 3 rfl rfl ?_
        refine po_freeze 1076 rfl rfl rfl ?_
        refine po_lit (T := tab) (rows := [(⟨y8.Form, y8.Watch, r9, r10, l12⟩ : Class)].map cClass) 81 rfl rfl rfl rfl rfl rfl rfl rfl rfl rfl rfl rfl rfl rfl ?_
        refine po_append (T := tab) cClass l7 ([(⟨y8.Form, y8.Watch, r9, r10, l12⟩ : Class)] : List Class) rfl rfl rfl rfl rfl rfl rfl rfl rfl rfl rfl rfl rfl rfl (cClass_one _) rfl rfl rfl rfl rfl ?_
        refine po_evs (T := tab) 1 rfl rfl ?_
        refine po_store (T := tab) rfl rfl rfl rfl rfl rfl rfl rfl rfl rfl rfl rfl ?_
        refine po_nil ?_
        refine pn_block ?_
        refine pn_seq ?_
        refine pw_region ?_
        refine po_evs (T := tab) 1 rfl rfl ?_
        refine po_arith' (T := tab) rfl rfl rfl rfl fun i17 hi17 => ?_
        refine po_evs (T := tab) 1 rfl rfl ?_
        refine po_nil ?_
        exact pn_iter' (i17, (l7 ++ [(⟨y8.Form, y8.Watch, r9, r10, l12⟩ : Class)])) ⟨rfl, rfl, rfl, rfl, rfl, rfl, trivial⟩ ⟨rfl, rfl, rfl, rfl, trivial⟩ rfl
    · refine pw_exit rfl ?_
      refine pn_seq ?_
      refine pw_seq ?_
      refine pw_region ?_
      refine po_evs (T := tab) 1 rfl rfl ?_
      refine po_store (T := tab) rfl rfl rfl rfl rfl rfl rfl rfl rfl rfl rfl rfl ?_
      refine po_nil ?_
      refine pn_seq ?_
      refine pw_freeze 1082 rfl rfl rfl ?_
      exact pw_retN (T := tab) rfl rfl rfl ⟨rfl, rfl⟩ trivial rfl

def Instarref25_MarksNames_l1 (fu : Nat) (l1 : (List Mark)) (x2 : Bs) (y3 : Bs) : Nat → Int × (List Mark) → Option (List Mark)
  | 0, _ => none
  | k1 + 1, (i4, l5) => cnd (decide (i4 < ((l1.length : Nat) : Int))) (bnd (idx l1 i4) fun y6 => cnd (y6.Kind == 8) (bnd (Instarref25_both_m fu x2 y3) fun r7 => cnd r7 (bnd (Instarref25_Name_m fu y6.Name x2 y3) fun r8 => bnd (roomy 120 (l5.length + ([(⟨y6.Kind, y6.Depth, y6.Node, y6.What, y6.Err, r8, y6.Had, y6.Has, y6.Old, y6.New, y6.From, y6.To, y6.On⟩ : Mark)] : List Mark).length)) fun _ => bnd (rng .i64 (i4 + 1)) fun i9 => (Instarref25_MarksNames_l1 fu l1 x2 y3 k1) (i9, (l5 ++ [(⟨y6.Kind, y6.Depth, y6.Node, y6.What, y6.Err, r8, y6.Had, y6.Has, y6.Old, y6.New, y6.From, y6.To, y6.On⟩ : Mark)]))) (bnd (roomy 120 (l5.length + ([y6] : List Mark).length)) fun _ => bnd (rng .i64 (i4 + 1)) fun i10 => (Instarref25_MarksNames_l1 fu l1 x2 y3 k1) (i10, (l5 ++ [y6])))) (bnd (roomy 120 (l5.length + ([y6] : List Mark).length)) fun _ => bnd (rng .i64 (i4 + 1)) fun i11 => (Instarref25_MarksNames_l1 fu l1 x2 y3 k1) (i11, (l5 ++ [y6])))) (some l5)

def Instarref25_MarksNames_m (fu : Nat) (l1 : (List Mark)) (x2 : Bs) (y3 : Bs) : Option (List Mark) := (Instarref25_MarksNames_l1 fu l1 x2 y3) fu (0, [])

set_option maxHeartbeats 10000000 in
set_option maxRecDepth 100000 in
theorem Instarref25_MarksNames_ok (fu : Nat) (l1 : (List Mark)) (x2 : Bs) (y3 : Bs) : ∀ r, Instarref25_MarksNames_m fu l1 x2 y3 = some r → DC Try.prog 20 [.sl 13 false (l1.map cMark), .v (.string ⟨⟨x2⟩⟩), .v (.string ⟨⟨y3⟩⟩)] (.sl 13 false (r.map cMark)) := by
  intro r hr
  refine fc_intro (args := [.sl 13 false (l1.map cMark), .v (.string ⟨⟨x2⟩⟩), .v (.string ⟨⟨y3⟩⟩)]) (S := []) (N0 := []) (post := fun r p S => p = .sl 13 false (r.map cMark) ∧ S = []) Try.func20 rfl rfl hr fun w0 X X0 σ0 => ?_
  refine pw_seq ?_
  refine pw_region ?_
  refine po_evs (T := tab) 1 rfl rfl ?_
  refine po_nil ?_
  refine pn_seq ?_
  refine pw_seq ?_
  refine pw_region ?_
  refine po_evs (T := tab) 1 rfl rfl ?_
  refine po_nil ?_
  refine pn_seq ?_
  refine pw_seq ?_
  refine pw_seq ?_
  refine pw_region ?_
  refine po_evs (T := tab) 1 rfl rfl ?_
  refine po_nil ?_
  refine pn_seq ?_
  refine pw_block ?_
  refine pw_own_nil 1037 55 13 7 rfl rfl rfl rfl ?_
  refine pw_loop' (Instarref25_MarksNames_l1 fu l1 x2 y3) (fun ((i4, l5) : Int × (List Mark)) => [(0, .sl 13 false (l1.map cMark)), (1, .v (.string ⟨⟨x2⟩⟩)), (2, .v (.string ⟨⟨y3⟩⟩)), (7, .own 1037), (8, .v (.int .i64 i4))]) (fun ((i4, l5) : Int × (List Mark)) => [(1037, .arr 55 13 (l5.map cMark))]) fu (0, []) (fun _ => rfl) ⟨rfl, rfl, rfl, rfl, rfl, trivial⟩ ⟨rfl, trivial⟩ rfl ?_
  rintro k1 ⟨i4, l5⟩
  refine pw_seq ?_
  refine pw_seq ?_
  refine pw_region ?_
  refine po_evs (T := tab) 2 rfl rfl ?_
  refine po_len (T := tab) cMark l1 rfl rfl rfl rfl rfl rfl rfl rfl ?_
  refine po_evs (T := tab) 1 rfl rfl ?_
  refine po_nil ?_
  refine pn_seq ?_
  refine pw_cnd rfl ?_ ?_
  · refine pw_skip ?_
    refine pn_seq ?_
    refine pw_seq ?_
    refine pw_block ?_
    refine pw_seq ?_
    refine pw_region ?_
    refine po_evs (T := tab) 2 rfl rfl ?_
    refine po_idx (T := tab) cMark l1 rfl rfl rfl rfl rfl rfl rfl fun y6 hy6 => ?_
    refine po_evs (T := tab) 1 rfl rfl ?_
    refine po_alloc (T := tab) 9 rfl rfl rfl rfl rfl rfl rfl rfl rfl ?_
    refine po_store (T := tab) rfl rfl rfl rfl rfl rfl rfl rfl rfl rfl rfl rfl ?_
    refine po_nil ?_
    refine pn_seq ?_
    refine pw_seq ?_
    refine pw_seq ?_
    refine pw_region ?_
    refine po_evs (T := tab) 4 rfl rfl ?_
    refine po_split (j := 23) rfl ?_ ?_
    · refine po_evs (T := tab) 2 rfl rfl ?_
      refine po_call (enc := fun (r7 : Bool) => .v (.bool r7)) (qs := [.v (.string ⟨⟨x2⟩⟩), .v (.string ⟨⟨y3⟩⟩)]) (Instarref25_both_ok fu x2 y3) rfl rfl ⟨⟨_, rfl, .rfl⟩, ⟨_, rfl, .rfl⟩, trivial⟩ (fun _ => rfl) call46 rfl rfl fun r7 hr7 => ?_
      refine po_evs (T := tab) 1 rfl rfl ?_
      refine po_nil ?_
      refine pn_seq ?_
      refine pw_cnd rfl ?_ ?_
      · refine pw_region ?_
        refine po_evs (T := tab) 4 rfl rfl ?_
        refine po_call (enc := fun (r8 : Bs) => .v (.string ⟨⟨r8⟩⟩)) (qs := [.v (.string ⟨⟨y6.Name⟩⟩), .v (.string ⟨⟨x2⟩⟩), .v (.string ⟨⟨y3⟩⟩)]) (Instarref25_Name_ok fu y6.Name x2 y3) rfl rfl ⟨⟨_, rfl, .rfl⟩, ⟨_, rfl, .rfl⟩, ⟨_, rfl, .rfl⟩, trivial⟩ (fun _ => rfl) call49 rfl rfl fun r8 hr8 => ?_
        refine po_evs (T := tab) 1 rfl rfl ?_
        refine po_store (T := tab) rfl rfl rfl rfl rfl rfl rfl rfl rfl rfl rfl rfl ?_
        refine po_nil ?_
        refine pn_seq ?_
        refine pw_region ?_
        refine po_evs (T := tab) 2 rfl rfl ?_
        refine po_lit (T := tab) (rows := [(⟨y6.Kind, y6.Depth, y6.Node, y6.What, y6.Err, r8, y6.Had, y6.Has, y6.Old, y6.New, y6.From, y6.To, y6.On⟩ : Mark)].map cMark) 36 rfl rfl rfl rfl rfl rfl rfl rfl rfl rfl rfl rfl rfl rfl ?_
        refine po_append (T := tab) cMark l5 ([(⟨y6.Kind, y6.Depth, y6.Node, y6.What, y6.Err, r8, y6.Had, y6.Has, y6.Old, y6.New, y6.From, y6.To, y6.On⟩ : Mark)] : List Mark) rfl rfl rfl rfl rfl rfl rfl rfl rfl rfl rfl rfl rfl rfl (cMark_one _) rfl rfl rfl rfl rfl ?_
        refine po_evs (T := tab) 1 rfl rfl ?_
        refine po_nil ?_
        refine pn_block ?_
        refine pn_seq ?_
        refine pw_region ?_
        refine po_evs (T := tab) 1 rfl rfl ?_
        refine po_arith' (T := tab) rfl rfl rfl rfl fun i9 hi9 => ?_
        refine po_evs (T := tab) 1 rfl rfl ?_
        refine po_nil ?_
        exact pn_iter' (i9, (l5 ++ [(⟨y6.Kind, y6.Depth, y6.Node, y6.What, y6.Err, r8, y6.Had, y6.Has, y6.Old, y6.New, y6.From, y6.To, y6.On⟩ : Mark)])) ⟨rfl, rfl, rfl, rfl, rfl, trivial⟩ ⟨rfl, trivial⟩ rfl
      · refine pw_skip ?_
        refine pn_seq ?_
        refine pw_region ?_
        refine po_evs (T := tab) 2 rfl rfl ?_
        refine po_lit (T := tab) (rows := [y6].map cMark) 36 rfl rfl rfl rfl rfl rfl rfl rfl rfl rfl rfl rfl rfl rfl ?_
        refine po_append (T := tab) cMark l5 ([y6] : List Mark) rfl rfl rfl rfl rfl rfl rfl rfl rfl rfl rfl rfl rfl rfl (cMark_one _) rfl rfl rfl rfl rfl ?_
        refine po_evs (T := tab) 1 rfl rfl ?_
        refine po_nil ?_
        refine pn_block ?_
        refine pn_seq ?_
        refine pw_region ?_
        refine po_evs (T := tab) 1 rfl rfl ?_
        refine po_arith' (T := tab) rfl rfl rfl rfl fun i10 hi10 => ?_
        refine po_evs (T := tab) 1 rfl rfl ?_
        refine po_nil ?_
        exact pn_iter' (i10, (l5 ++ [y6])) ⟨rfl, rfl, rfl, rfl, rfl, trivial⟩ ⟨rfl, trivial⟩ rfl
    · refine po_evs (T := tab) 4 rfl rfl ?_
      refine po_nil ?_
      refine pn_seq (pw_else rfl ?_)
      refine pw_skip ?_
      refine pn_seq ?_
      refine pw_region ?_
      refine po_evs (T := tab) 2 rfl rfl ?_
      refine po_lit (T := tab) (rows := [y6].map cMark) 36 rfl rfl rfl rfl rfl rfl rfl rfl rfl rfl rfl rfl rfl rfl ?_
      refine po_append (T := tab) cMark l5 ([y6] : List Mark) rfl rfl rfl rfl rfl rfl rfl rfl rfl rfl rfl rfl rfl rfl (cMark_one _) rfl rfl rfl rfl rfl ?_
      refine po_evs (T := tab) 1 rfl rfl ?_
      refine po_nil ?_
      refine pn_block ?_
      refine pn_seq ?_
      refine pw_region ?_
      refine po_evs (T := tab) 1 rfl rfl ?_
      refine po_arith' (T := tab) rfl rfl rfl rfl fun i11 hi11 => ?_
      refine po_evs (T := tab) 1 rfl rfl ?_
      refine po_nil ?_
      exact pn_iter' (i11, (l5 ++ [y6])) ⟨rfl, rfl, rfl, rfl, rfl, trivial⟩ ⟨rfl, trivial⟩ rfl
  · refine pw_exit rfl ?_
    refine pn_seq ?_
    refine pw_seq ?_
    refine pw_region ?_
    refine po_evs (T := tab) 2 rfl rfl ?_
    refine po_nil ?_
    refine pn_seq ?_
    refine pw_freeze 1037 rfl rfl rfl ?_
    exact pw_retN (T := tab) rfl rfl rfl ⟨rfl, rfl⟩ trivial rfl

def Slices_Clone_apiNode_m (_fu : Nat) (s1 : (List Node)) : Option (List Node) := bnd (roomy 136 (([] : List Node).length + s1.length)) fun _ => some (([] : List Node) ++ s1)

set_option maxRecDepth 100000 in
theorem Slices_Clone_apiNode_ok (fu : Nat) (s1 : (List Node)) : ∀ r, Slices_Clone_apiNode_m fu s1 = some r → FC Try.prog 51 [.sl 10 false (s1.map cNode)] [] [] fun p S' => p = .own 5 ∧ S' = [(5, .arr 60 10 (r.map cNode))] := by
  intro r hr
  refine fc_intro (args := [.sl 10 false (s1.map cNode)]) (S := []) (N0 := []) (post := fun r p S => p = .own 5 ∧ S = [(5, .arr 60 10 (r.map cNode))]) Try.func51 rfl rfl hr fun w0 X X0 σ0 => ?_
  refine pw_seq ?_
  refine pw_region ?_
  refine po_evs (T := tab) 1 rfl rfl ?_
  refine po_nil ?_
  refine pn_seq ?_
  refine pw_seq ?_
  refine pw_seq ?_
  refine pw_region ?_
  refine po_evs (T := tab) 1 rfl rfl ?_
  refine po_isnil (T := tab) rfl rfl rfl rfl rfl rfl fun b hb => ?_
  cases b
  · refine po_nil ?_
    refine pn_seq ?_
    refine pw_else rfl ?_
    refine pw_skip ?_
    refine pn_seq ?_
    refine pw_seq ?_
    refine pw_region ?_
    refine po_lit (T := tab) (rows := ([] : List Node).map cNode) 5 rfl rfl rfl rfl rfl rfl rfl rfl rfl rfl rfl rfl rfl rfl ?_
    refine po_evs (T := tab) 1 rfl rfl ?_
    refine po_append (T := tab) cNode ([] : List Node) s1 rfl rfl rfl rfl rfl rfl rfl rfl rfl rfl rfl rfl rfl rfl (cNode_one _) rfl rfl rfl rfl rfl ?_
    refine po_evs (T := tab) 1 rfl rfl ?_
    refine po_nil ?_
    refine pn_seq ?_
    exact pw_retN (T := tab) rfl rfl rfl ⟨rfl, rfl⟩ ⟨rfl, trivial⟩ rfl
  · have h0 : s1 = [] := List.map_eq_nil_iff.1 (hb rfl)
    refine po_conv (m' := some ([] : List Node)) (by subst h0; rfl) ?_
    refine po_nil ?_
    refine pn_seq ?_
    refine pw_then rfl ?_
    refine pw_seq ?_
    refine pw_region ?_
    refine po_evs (T := tab) 1 rfl rfl ?_
    refine po_nil ?_
    refine pn_seq ?_
    refine pw_own_nil 5 60 10 2 rfl rfl rfl rfl ?_
    exact pw_retN (T := tab) rfl rfl rfl ⟨rfl, rfl⟩ ⟨rfl, trivial⟩ rfl

def Lab_ForestNames_l1 (fu : Nat) (f1 : Forest) (x2 : Bs) (y3 : Bs) (r5 : (List Node)) : Nat → Int × (List Node) → Option Forest
  | 0, _ => none
  | k1 + 1, (t6, l7) => cnd (decide (t6 < ((r5.length : Nat) : Int))) (bnd (idx l7 t6) fun y8 => bnd (Lab_other_string_m fu y8.Name x2 y3) fun r9 => bnd (Lab_other_string_m fu y8.Is x2 y3) fun r10 => bnd (rng .i64 (t6 + 1)) fun i11 => (Lab_ForestNames_l1 fu f1 x2 y3 r5 k1) (i11, ((l7.set (t6).toNat (⟨y8.Kind, r9, y8.Is, y8.Data, y8.Attrs, y8.Parent, y8.Kids, y8.Host, y8.Under, y8.Doc⟩ : Node)).set (t6).toNat (⟨(⟨y8.Kind, r9, y8.Is, y8.Data, y8.Attrs, y8.Parent, y8.Kids, y8.Host, y8.Under, y8.Doc⟩ : Node).Kind, (⟨y8.Kind, r9, y8.Is, y8.Data, y8.Attrs, y8.Parent, y8.Kids, y8.Host, y8.Under, y8.Doc⟩ : Node).Name, r10, (⟨y8.Kind, r9, y8.Is, y8.Data, y8.Attrs, y8.Parent, y8.Kids, y8.Host, y8.Under, y8.Doc⟩ : Node).Data, (⟨y8.Kind, r9, y8.Is, y8.Data, y8.Attrs, y8.Parent, y8.Kids, y8.Host, y8.Under, y8.Doc⟩ : Node).Attrs, (⟨y8.Kind, r9, y8.Is, y8.Data, y8.Attrs, y8.Parent, y8.Kids, y8.Host, y8.Under, y8.Doc⟩ : Node).Parent, (⟨y8.Kind, r9, y8.Is, y8.Data, y8.Attrs, y8.Parent, y8.Kids, y8.Host, y8.Under, y8.Doc⟩ : Node).Kids, (⟨y8.Kind, r9, y8.Is, y8.Data, y8.Attrs, y8.Parent, y8.Kids, y8.Host, y8.Under, y8.Doc⟩ : Node).Host, (⟨y8.Kind, r9, y8.Is, y8.Data, y8.Attrs, y8.Parent, y8.Kids, y8.Host, y8.Under, y8.Doc⟩ : Node).Under, (⟨y8.Kind, r9, y8.Is, y8.Data, y8.Attrs, y8.Parent, y8.Kids, y8.Host, y8.Under, y8.Doc⟩ : Node).Doc⟩ : Node)))) (some (⟨l7, f1.Most⟩ : Forest))

def Lab_ForestNames_m (fu : Nat) (f1 : Forest) (x2 : Bs) (y3 : Bs) : Option Forest := bnd (Lab_named_m fu x2 y3) fun r4 => cnd (!r4) (some f1) (bnd (Slices_Clone_apiNode_m fu f1.Nodes) fun r5 => (Lab_ForestNames_l1 fu f1 x2 y3 r5) fu (0, r5))

set_option maxHeartbeats 10000000 in
set_option maxRecDepth 100000 in
theorem Lab_ForestNames_ok (fu : Nat) (f1 : Forest) (x2 : Bs) (y3 : Bs) : ∀ r, Lab_ForestNames_m fu f1 x2 y3 = some r → DC Try.prog 22 [.agg (cForest f1), .v (.string ⟨⟨x2⟩⟩), .v (.string ⟨⟨y3⟩⟩)] (.agg (cForest r)) := by
  intro r hr
  refine fc_intro (args := [.agg (cForest f1), .v (.string ⟨⟨x2⟩⟩), .v (.string ⟨⟨y3⟩⟩)]) (S := []) (N0 := []) (post := fun r p S => p = .agg (cForest r) ∧ S = []) Try.func22 rfl rfl hr fun w0 X X0 σ0 => ?_
  refine pw_seq ?_
  refine pw_region ?_
  refine po_box  3 rfl rfl rfl rfl rfl rfl rfl rfl rfl rfl ?_
  refine po_alloc (T := tab) 6 rfl rfl rfl rfl rfl rfl rfl rfl rfl ?_
  refine po_nil ?_
  refine pn_seq ?_
  refine pw_seq ?_
  refine pw_seq ?_
  refine pw_region ?_
  refine po_evs (T := tab) 2 rfl rfl ?_
  refine po_call (enc := fun (r4 : Bool) => .v (.bool r4)) (qs := [.v (.string ⟨⟨x2⟩⟩), .v (.string ⟨⟨y3⟩⟩)]) (Lab_named_ok fu x2 y3) rfl rfl ⟨⟨_, rfl, .rfl⟩, ⟨_, rfl, .rfl⟩, trivial⟩ (fun _ => rfl) call42 rfl rfl fun r4 hr4 => ?_
  refine po_evs (T := tab) 1 rfl rfl ?_
  refine po_nil ?_
  refine pn_seq ?_
  refine pw_cnd rfl ?_ ?_
  · refine pw_seq ?_
    refine pw_region ?_
    refine po_evs (T := tab) 1 rfl rfl ?_
    refine po_store (T := tab) rfl rfl rfl rfl rfl rfl rfl rfl rfl rfl rfl rfl ?_
    refine po_nil ?_
    refine pn_seq ?_
    exact pw_retN (T := tab) rfl rfl rfl ⟨rfl, rfl⟩ trivial rfl
  · refine pw_skip ?_
    refine pn_seq ?_
    refine pw_seq ?_
    refine pw_region ?_
    refine po_evs (T := tab) 2 rfl rfl ?_
    refine po_turn [2160] (enc := fun (r5 : (List Node)) => .own 2160) (Sr := fun (r5 : (List Node)) => [(2160, .arr 60 10 (r5.map cNode))]) (first := []) (cap := []) (qs := [.sl 10 false (f1.Nodes.map cNode)]) (Sc := []) (N0 := []) (NR := [2160]) (fun r5 hr5 => fc_ren [(5, 2160)] [5] (Slices_Clone_apiNode_ok fu f1.Nodes _ hr5) rfl rfl rfl rfl rfl rfl) trivial (fun _ => rfl) rfl rfl rfl rfl rfl rfl rfl (fun _ => rfl) (fun _ => rfl) rfl rfl rfl ⟨⟨_, rfl, .rfl⟩, trivial⟩ call51 rfl rfl fun r5 hr5 => ?_
    refine po_evs (T := tab) 1 rfl rfl ?_
    refine po_store (T := tab) rfl rfl rfl rfl rfl rfl rfl rfl rfl rfl rfl rfl ?_
    refine po_nil ?_
    refine pn_seq ?_
    refine pw_seq ?_
    refine pw_seq ?_
    refine pw_region ?_
    refine po_evs (T := tab) 2 rfl rfl ?_
    refine po_len_own (T := tab) cNode r5 rfl rfl rfl rfl rfl rfl rfl rfl rfl ?_
    refine po_evs (T := tab) 1 rfl rfl ?_
    refine po_nil ?_
    refine pn_seq ?_
    refine pw_block ?_
    refine pw_loop' (Lab_ForestNames_l1 fu f1 x2 y3 r5) (fun ((t6, l7) : Int × (List Node)) => [(1, .v (.string ⟨⟨x2⟩⟩)), (2, .v (.string ⟨⟨y3⟩⟩)), (3, .loc 3 0), (6, .loc 6 0), (20, .v (.int .i64 ((r5.length : Nat) : Int))), (21, .v (.int .i64 t6))]) (fun ((t6, l7) : Int × (List Node)) => [(2160, .arr 60 10 (l7.map cNode)), (6, .box [.v (.slice none 0 0), .v (.int .i64 0)]), (3, .box [.own 2160, .v (.int .i64 f1.Most)])]) fu (0, r5) (fun _ => rfl) ⟨rfl, rfl, rfl, rfl, rfl, rfl, trivial⟩ ⟨rfl, rfl, rfl, trivial⟩ rfl ?_
    rintro k1 ⟨t6, l7⟩
    refine pw_seq ?_
    refine pw_region ?_
    refine po_evs (T := tab) 1 rfl rfl ?_
    refine po_nil ?_
    refine pn_seq ?_
    refine pw_seq ?_
    refine pw_cnd rfl ?_ ?_
    · refine pw_skip ?_
      refine pn_seq ?_
      refine pw_seq ?_
      refine pw_block ?_
      refine pw_seq ?_
      refine pw_region ?_
      refine po_evs (T := tab) 2 rfl rfl ?_
      refine po_nil ?_
      refine pn_seq ?_
      refine pw_seq ?_
      refine pw_region ?_
      refine po_evs (T := tab) 3 rfl rfl ?_
      refine po_idx_own (T := tab) cNode l7 rfl rfl rfl rfl rfl rfl rfl rfl fun y8 hy8 => ?_
      refine po_evs (T := tab) 1 rfl rfl ?_
      refine po_nil ?_
      refine pn_seq ?_
      refine pw_sub' (E' := [(1, .v (.string ⟨⟨x2⟩⟩)), (2, .v (.string ⟨⟨y3⟩⟩)), (3, .loc 3 0), (6, .loc 6 0), (20, .v (.int .i64 ((r5.length : Nat) : Int))), (21, .v (.int .i64 t6)), (8, .ela 2160 10 (t6).toNat 0)]) (S' := [(2160, .arr 60 10 (l7.map cNode)), (6, .box [.v (.slice none 0 0), .v (.int .i64 0)]), (3, .box [.own 2160, .v (.int .i64 f1.Most)])]) ?_ ⟨rfl, rfl, rfl, rfl, rfl, rfl, rfl, trivial⟩ ⟨rfl, rfl, rfl, trivial⟩ rfl
      refine pw_drawV [0, 0, 0, 4, 12, 28, 0, 0, 252, 0, 512, 1536, 3584, 0, 0, 32764, 65533, 131069, 262141, 524287, 1048575, 2097151] mixed (by kernel_rfl) (by kernel_rfl) rfl rfl ?_
      refine pdv_step0 [16] [56] [] [2160] [] [(28, .ela 2160 10 (t6).toNat 0)] [] rfl rfl rfl rfl (by kernel_rfl) (by kernel_rfl) (by kernel_rfl) trivial (fun w0 X X0 σ0 => by refine po_evs (T := tab) 1 rfl rfl ?_; refine po_nil ?_; exact pn_end0 ⟨rfl, trivial⟩ trivial rfl) ?_
      refine pdv_step0 [16] [58] [] [2160] [] [(29, .ela 2160 10 (t6).toNat 0)] [] rfl rfl rfl rfl (by kernel_rfl) (by kernel_rfl) (by kernel_rfl) trivial (fun w0 X X0 σ0 => by refine po_evs (T := tab) 1 rfl rfl ?_; refine po_nil ?_; exact pn_end0 ⟨rfl, trivial⟩ trivial rfl) ?_
      refine pdv_step0 [16] [60] [] [2160] [] [(30, .ela 2160 10 (t6).toNat 0)] [] rfl rfl rfl rfl (by kernel_rfl) (by kernel_rfl) (by kernel_rfl) trivial (fun w0 X X0 σ0 => by refine po_evs (T := tab) 1 rfl rfl ?_; refine po_nil ?_; exact pn_end0 ⟨rfl, trivial⟩ trivial rfl) ?_
      refine pdv_step0 [60] [62] [] [2160] [] [(31, .ela 2160 10 (t6).toNat 0)] [] rfl rfl rfl rfl (by kernel_rfl) (by kernel_rfl) (by kernel_rfl) trivial (fun w0 X X0 σ0 => by refine po_evs (T := tab) 1 rfl rfl ?_; refine po_nil ?_; exact pn_end0 ⟨rfl, trivial⟩ trivial rfl) ?_
      refine pdv_step0 [62] [64] [] [2160] [] [(32, .ela 2160 10 (t6).toNat 1)] [] rfl rfl rfl rfl (by kernel_rfl) (by kernel_rfl) (by kernel_rfl) trivial (fun w0 X X0 σ0 => by refine po_evs (T := tab) 1 rfl rfl ?_; refine po_nil ?_; exact pn_end0 ⟨rfl, trivial⟩ trivial rfl) ?_
      refine pdv_step0 [64, 4321] [66] [] [2160] [2160] [(33, .v (.string ⟨⟨y8.Name⟩⟩))] [(2160, .arr 60 10 (l7.map cNode))] rfl rfl rfl rfl (by kernel_rfl) (by kernel_rfl) (by kernel_rfl) ⟨rfl, trivial⟩ (fun w0 X X0 σ0 => by refine po_load_ela (T := tab) cNode l7 y8 (idx_at hy8) rfl rfl rfl rfl rfl rfl rfl rfl ?_; refine po_nil ?_; exact pn_end0 ⟨rfl, trivial⟩ ⟨rfl, trivial⟩ rfl) ?_
      refine pdv_step0 [2] [68] [] [] [] [(34, .v (.string ⟨⟨x2⟩⟩))] [] rfl rfl rfl rfl (by kernel_rfl) (by kernel_rfl) (by kernel_rfl) trivial (fun w0 X X0 σ0 => by refine po_evs (T := tab) 1 rfl rfl ?_; refine po_nil ?_; exact pn_end0 ⟨rfl, trivial⟩ trivial rfl) ?_
      refine pdv_step0 [4] [70] [] [] [] [(35, .v (.string ⟨⟨y3⟩⟩))] [] rfl rfl rfl rfl (by kernel_rfl) (by kernel_rfl) (by kernel_rfl) trivial (fun w0 X X0 σ0 => by refine po_evs (T := tab) 1 rfl rfl ?_; refine po_nil ?_; exact pn_end0 ⟨rfl, trivial⟩ trivial rfl) ?_
      refine pdv_step (M := (Lab_other_string_m fu y8.Name x2 y3)) (ment := [(72, [])]) [66, 68, 70] [72] [] [] [] (fun r9 => [(36, .v (.string ⟨⟨r9⟩⟩))]) (fun r9 => []) rfl rfl (fun _ => rfl) (fun _ => rfl) (by kernel_rfl) (by kernel_rfl) (fun _ => by kernel_rfl) (fun _ => trivial) (fun w0 X X0 σ0 => by refine po_call (enc := fun (r9 : Bs) => .v (.string ⟨⟨r9⟩⟩)) (qs := [.v (.string ⟨⟨y8.Name⟩⟩), .v (.string ⟨⟨x2⟩⟩), .v (.string ⟨⟨y3⟩⟩)]) (Lab_other_string_ok fu y8.Name x2 y3) rfl rfl ⟨⟨_, rfl, .rfl⟩, ⟨_, rfl, .rfl⟩, ⟨_, rfl, .rfl⟩, trivial⟩ (fun _ => rfl) call45 rfl rfl fun r9 hr9 => ?_; refine po_nil ?_; exact pn_end ⟨rfl, trivial⟩ trivial rfl) fun r9 hr9 => ?_
      refine pdv_step0 [16] [74] [] [2160] [] [(37, .ela 2160 10 (t6).toNat 0)] [] rfl rfl rfl rfl (by kernel_rfl) (by kernel_rfl) (by kernel_rfl) trivial (fun w0 X X0 σ0 => by refine po_evs (T := tab) 1 rfl rfl ?_; refine po_nil ?_; exact pn_end0 ⟨rfl, trivial⟩ trivial rfl) ?_
      refine pdv_step0 [74] [76] [] [2160] [] [(38, .ela 2160 10 (t6).toNat 0)] [] rfl rfl rfl rfl (by kernel_rfl) (by kernel_rfl) (by kernel_rfl) trivial (fun w0 X X0 σ0 => by refine po_evs (T := tab) 1 rfl rfl ?_; refine po_nil ?_; exact pn_end0 ⟨rfl, trivial⟩ trivial rfl) ?_
      refine pdv_step0 [76] [78] [] [2160] [] [(39, .ela 2160 10 (t6).toNat 2)] [] rfl rfl rfl rfl (by kernel_rfl) (by kernel_rfl) (by kernel_rfl) trivial (fun w0 X X0 σ0 => by refine po_evs (T := tab) 1 rfl rfl ?_; refine po_nil ?_; exact pn_end0 ⟨rfl, trivial⟩ trivial rfl) ?_
      refine pdv_step0 [78, 4321] [80] [] [2160] [2160] [(40, .v (.string ⟨⟨y8.Is⟩⟩))] [(2160, .arr 60 10 (l7.map cNode))] rfl rfl rfl rfl (by kernel_rfl) (by kernel_rfl) (by kernel_rfl) ⟨rfl, trivial⟩ (fun w0 X X0 σ0 => by refine po_load_ela (T := tab) cNode l7 y8 (idx_at hy8) rfl rfl rfl rfl rfl rfl rfl rfl ?_; refine po_nil ?_; exact pn_end0 ⟨rfl, trivial⟩ ⟨rfl, trivial⟩ rfl) ?_
      refine pdv_step0 [2] [82] [] [] [] [(41, .v (.string ⟨⟨x2⟩⟩))] [] rfl rfl rfl rfl (by kernel_rfl) (by kernel_rfl) (by kernel_rfl) trivial (fun w0 X X0 σ0 => by refine po_evs (T := tab) 1 rfl rfl ?_; refine po_nil ?_; exact pn_end0 ⟨rfl, trivial⟩ trivial rfl) ?_
      refine pdv_step0 [4] [84] [] [] [] [(42, .v (.string ⟨⟨y3⟩⟩))] [] rfl rfl rfl rfl (by kernel_rfl) (by kernel_rfl) (by kernel_rfl) trivial (fun w0 X X0 σ0 => by refine po_evs (T := tab) 1 rfl rfl ?_; refine po_nil ?_; exact pn_end0 ⟨rfl, trivial⟩ trivial rfl) ?_
      refine pdv_step (M := (Lab_other_string_m fu y8.Is x2 y3)) (ment := [(86, [])]) [80, 82, 84] [86] [] [] [] (fun r10 => [(43, .v (.string ⟨⟨r10⟩⟩))]) (fun r10 => []) rfl rfl (fun _ => rfl) (fun _ => rfl) (by kernel_rfl) (by kernel_rfl) (fun _ => by kernel_rfl) (fun _ => trivial) (fun w0 X X0 σ0 => by refine po_call (enc := fun (r10 : Bs) => .v (.string ⟨⟨r10⟩⟩)) (qs := [.v (.string ⟨⟨y8.Is⟩⟩), .v (.string ⟨⟨x2⟩⟩), .v (.string ⟨⟨y3⟩⟩)]) (Lab_other_string_ok fu y8.Is x2 y3) rfl rfl ⟨⟨_, rfl, .rfl⟩, ⟨_, rfl, .rfl⟩, ⟨_, rfl, .rfl⟩, trivial⟩ (fun _ => rfl) call45 rfl rfl fun r10 hr10 => ?_; refine po_nil ?_; exact pn_end ⟨rfl, trivial⟩ trivial rfl) fun r10 hr10 => ?_
      refine pdv_step0 [56] [88] [] [2160] [] [(44, .ela 2160 10 (t6).toNat 0)] [] rfl rfl rfl rfl (by kernel_rfl) (by kernel_rfl) (by kernel_rfl) trivial (fun w0 X X0 σ0 => by refine po_evs (T := tab) 1 rfl rfl ?_; refine po_nil ?_; exact pn_end0 ⟨rfl, trivial⟩ trivial rfl) ?_
      refine pdv_step0 [88] [90] [] [2160] [] [(45, .ela 2160 10 (t6).toNat 1)] [] rfl rfl rfl rfl (by kernel_rfl) (by kernel_rfl) (by kernel_rfl) trivial (fun w0 X X0 σ0 => by refine po_evs (T := tab) 1 rfl rfl ?_; refine po_nil ?_; exact pn_end0 ⟨rfl, trivial⟩ trivial rfl) ?_
      refine pdv_step0 [72, 90, 4321] [4321] [] [2160] [] [] [(2160, .arr 60 10 ((l7.set (t6).toNat (⟨y8.Kind, r9, y8.Is, y8.Data, y8.Attrs, y8.Parent, y8.Kids, y8.Host, y8.Under, y8.Doc⟩ : Node)).map cNode))] rfl rfl rfl rfl (by kernel_rfl) (by kernel_rfl) (by kernel_rfl) trivial (fun w0 X X0 σ0 => by refine po_store_ela (T := tab) cNode l7 y8 (⟨y8.Kind, r9, y8.Is, y8.Data, y8.Attrs, y8.Parent, y8.Kids, y8.Host, y8.Under, y8.Doc⟩ : Node) (idx_at hy8) rfl rfl rfl rfl rfl rfl rfl rfl rfl rfl rfl rfl rfl ?_; refine po_nil ?_; exact pn_end0 trivial ⟨rfl, trivial⟩ rfl) ?_
      refine pdv_step0 [58] [92] [] [2160] [] [(46, .ela 2160 10 (t6).toNat 0)] [] rfl rfl rfl rfl (by kernel_rfl) (by kernel_rfl) (by kernel_rfl) trivial (fun w0 X X0 σ0 => by refine po_evs (T := tab) 1 rfl rfl ?_; refine po_nil ?_; exact pn_end0 ⟨rfl, trivial⟩ trivial rfl) ?_
      refine pdv_step0 [92] [94] [] [2160] [] [(47, .ela 2160 10 (t6).toNat 2)] [] rfl rfl rfl rfl (by kernel_rfl) (by kernel_rfl) (by kernel_rfl) trivial (fun w0 X X0 σ0 => by refine po_evs (T := tab) 1 rfl rfl ?_; refine po_nil ?_; exact pn_end0 ⟨rfl, trivial⟩ trivial rfl) ?_
      refine pdv_step0 [86, 94, 4321] [4321] [] [2160] [] [] [(2160, .arr 60 10 (((l7.set (t6).toNat (⟨y8.Kind, r9, y8.Is, y8.Data, y8.Attrs, y8.Parent, y8.Kids, y8.Host, y8.Under, y8.Doc⟩ : Node)).set (t6).toNat (⟨(⟨y8.Kind, r9, y8.Is, y8.Data, y8.Attrs, y8.Parent, y8.Kids, y8.Host, y8.Under, y8.Doc⟩ : Node).Kind, (⟨y8.Kind, r9, y8.Is, y8.Data, y8.Attrs, y8.Parent, y8.Kids, y8.Host, y8.Under, y8.Doc⟩ : Node).Name, r10, (⟨y8.Kind, r9, y8.Is, y8.Data, y8.Attrs, y8.Parent, y8.Kids, y8.Host, y8.Under, y8.Doc⟩ : Node).Data, (⟨y8.Kind, r9, y8.Is, y8.Data, y8.Attrs, y8.Parent, y8.Kids, y8.Host, y8.Under, y8.Doc⟩ : Node).Attrs, (⟨y8.Kind, r9, y8.Is, y8.Data, y8.Attrs, y8.Parent, y8.Kids, y8.Host, y8.Under, y8.Doc⟩ : Node).Parent, (⟨y8.Kind, r9, y8.Is, y8.Data, y8.Attrs, y8.Parent, y8.Kids, y8.Host, y8.Under, y8.Doc⟩ : Node).Kids, (⟨y8.Kind, r9, y8.Is, y8.Data, y8.Attrs, y8.Parent, y8.Kids, y8.Host, y8.Under, y8.Doc⟩ : Node).Host, (⟨y8.Kind, r9, y8.Is, y8.Data, y8.Attrs, y8.Parent, y8.Kids, y8.Host, y8.Under, y8.Doc⟩ : Node).Under, (⟨y8.Kind, r9, y8.Is, y8.Data, y8.Attrs, y8.Parent, y8.Kids, y8.Host, y8.Under, y8.Doc⟩ : Node).Doc⟩ : Node)).map cNode))] rfl rfl rfl rfl (by kernel_rfl) (by kernel_rfl) (by kernel_rfl) trivial (fun w0 X X0 σ0 => by refine po_store_ela (T := tab) cNode (l7.set (t6).toNat (⟨y8.Kind, r9, y8.Is, y8.Data, y8.Attrs, y8.Parent, y8.Kids, y8.Host, y8.Under, y8.Doc⟩ : Node)) (⟨y8.Kind, r9, y8.Is, y8.Data, y8.Attrs, y8.Parent, y8.Kids, y8.Host, y8.Under, y8.Doc⟩ : Node) (⟨(⟨y8.Kind, r9, y8.Is, y8.Data, y8.Attrs, y8.Parent, y8.Kids, y8.Host, y8.Under, y8.Doc⟩ : Node).Kind, (⟨y8.Kind, r9, y8.Is, y8.Data, y8.Attrs, y8.Parent, y8.Kids, y8.Host, y8.Under, y8.Doc⟩ : Node).Name, r10, (⟨y8.Kind, r9, y8.Is, y8.Data, y8.Attrs, y8.Parent, y8.Kids, y8.Host, y8.Under, y8.Doc⟩ : Node).Data, (⟨y8.Kind, r9, y8.Is, y8.Data, y8.Attrs, y8.Parent, y8.Kids, y8.Host, y8.Under, y8.Doc⟩ : Node).Attrs, (⟨y8.Kind, r9, y8.Is, y8.Data, y8.Attrs, y8.Parent, y8.Kids, y8.Host, y8.Under, y8.Doc⟩ : Node).Parent, (⟨y8.Kind, r9, y8.Is, y8.Data, y8.Attrs, y8.Parent, y8.Kids, y8.Host, y8.Under, y8.Doc⟩ : Node).Kids, (⟨y8.Kind, r9, y8.Is, y8.Data, y8.Attrs, y8.Parent, y8.Kids, y8.Host, y8.Under, y8.Doc⟩ : Node).Host, (⟨y8.Kind, r9, y8.Is, y8.Data, y8.Attrs, y8.Parent, y8.Kids, y8.Host, y8.Under, y8.Doc⟩ : Node).Under, (⟨y8.Kind, r9, y8.Is, y8.Data, y8.Attrs, y8.Parent, y8.Kids, y8.Host, y8.Under, y8.Doc⟩ : Node).Doc⟩ : Node) (set_at (idx_at hy8)) rfl rfl rfl rfl rfl rfl rfl rfl rfl rfl rfl rfl rfl ?_; refine po_nil ?_; exact pn_end0 trivial ⟨rfl, trivial⟩ rfl) ?_
      refine pdv_nil rfl rfl ?_
      refine pn_block ?_
      refine pn_seq ?_
      refine pw_region ?_
      refine po_arith' (T := tab) rfl rfl rfl rfl fun i11 hi11 => ?_
      refine po_evs (T := tab) 1 rfl rfl ?_
      refine po_nil ?_
      exact pn_iter' (i11, ((l7.set (t6).toNat (⟨y8.Kind, r9, y8.Is, y8.Data, y8.Attrs, y8.Parent, y8.Kids, y8.Host, y8.Under, y8.Doc⟩ : Node)).set (t6).toNat (⟨(⟨y8.Kind, r9, y8.Is, y8.Data, y8.Attrs, y8.Parent, y8.Kids, y8.Host, y8.Under, y8.Doc⟩ : Node).Kind, (⟨y8.Kind, r9, y8.Is, y8.Data, y8.Attrs, y8.Parent, y8.Kids, y8.Host, y8.Under, y8.Doc⟩ : Node).Name, r10, (⟨y8.Kind, r9, y8.Is, y8.Data, y8.Attrs, y8.Parent, y8.Kids, y8.Host, y8.Under, y8.Doc⟩ : Node).Data, (⟨y8.Kind, r9, y8.Is, y8.Data, y8.Attrs, y8.Parent, y8.Kids, y8.Host, y8.Under, y8.Doc⟩ : Node).Attrs, (⟨y8.Kind, r9, y8.Is, y8.Data, y8.Attrs, y8.Parent, y8.Kids, y8.Host, y8.Under, y8.Doc⟩ : Node).Parent, (⟨y8.Kind, r9, y8.Is, y8.Data, y8.Attrs, y8.Parent, y8.Kids, y8.Host, y8.Under, y8.Doc⟩ : Node).Kids, (⟨y8.Kind, r9, y8.Is, y8.Data, y8.Attrs, y8.Parent, y8.Kids, y8.Host, y8.Under, y8.Doc⟩ : Node).Host, (⟨y8.Kind, r9, y8.Is, y8.Data, y8.Attrs, y8.Parent, y8.Kids, y8.Host, y8.Under, y8.Doc⟩ : Node).Under, (⟨y8.Kind, r9, y8.Is, y8.Data, y8.Attrs, y8.Parent, y8.Kids, y8.Host, y8.Under, y8.Doc⟩ : Node).Doc⟩ : Node))) ⟨rfl, rfl, rfl, rfl, rfl, rfl, trivial⟩ ⟨rfl, rfl, rfl, trivial⟩ rfl
    · refine pw_exit rfl ?_
      refine pn_seq ?_
      refine pw_seq ?_
      refine pw_region ?_
      refine po_evs (T := tab) 1 rfl rfl ?_
      refine po_store (T := tab) rfl rfl rfl rfl rfl rfl rfl rfl rfl rfl rfl rfl ?_
      refine po_nil ?_
      refine pn_seq ?_
      refine pw_freeze 2160 rfl rfl rfl ?_
      exact pw_retN (T := tab) rfl rfl rfl ⟨rfl, rfl⟩ trivial rfl

def Instarref25_ForestNames_l1 (fu : Nat) (f1 : Forest) (x2 : Bs) (y3 : Bs) : Nat → Int × (List Node) → Option Forest
  | 0, _ => none
  | k1 + 1, (i4, l5) => cnd (decide (i4 < ((f1.Nodes.length : Nat) : Int))) (bnd (idx f1.Nodes i4) fun y6 => bnd (Instarref25_both_m fu x2 y3) fun r7 => cnd r7 (bnd (Instarref25_Name_m fu y6.Name x2 y3) fun r8 => bnd (Instarref25_Name_m fu y6.Is x2 y3) fun r9 => bnd (roomy 136 (l5.length + ([(⟨y6.Kind, r8, r9, y6.Data, y6.Attrs, y6.Parent, y6.Kids, y6.Host, y6.Under, y6.Doc⟩ : Node)] : List Node).length)) fun _ => bnd (rng .i64 (i4 + 1)) fun i10 => (Instarref25_ForestNames_l1 fu f1 x2 y3 k1) (i10, (l5 ++ [(⟨y6.Kind, r8, r9, y6.Data, y6.Attrs, y6.Parent, y6.Kids, y6.Host, y6.Under, y6.Doc⟩ : Node)]))) (bnd (roomy 136 (l5.length + ([y6] : List Node).length)) fun _ => bnd (rng .i64 (i4 + 1)) fun i11 => (Instarref25_ForestNames_l1 fu f1 x2 y3 k1) (i11, (l5 ++ [y6])))) (some (⟨l5, f1.Most⟩ : Forest))

def Instarref25_ForestNames_m (fu : Nat) (f1 : Forest) (x2 : Bs) (y3 : Bs) : Option Forest := (Instarref25_ForestNames_l1 fu f1 x2 y3) fu (0, [])

set_option maxHeartbeats 10000000 in
set_option maxRecDepth 100000 in
theorem Instarref25_ForestNames_ok (fu : Nat) (f1 : Forest) (x2 : Bs) (y3 : Bs) : ∀ r, Instarref25_ForestNames_m fu f1 x2 y3 = some r → DC Try.prog 23 [.agg (cForest f1), .v (.string ⟨⟨x2⟩⟩), .v (.string ⟨⟨y3⟩⟩)] (.agg (cForest r)) := by
  intro r hr
  refine fc_intro (args := [.agg (cForest f1), .v (.string ⟨⟨x2⟩⟩), .v (.string ⟨⟨y3⟩⟩)]) (S := []) (N0 := []) (post := fun r p S => p = .agg (cForest r) ∧ S = []) Try.func23 rfl rfl hr fun w0 X X0 σ0 => ?_
  refine pw_seq ?_
  refine pw_region ?_
  refine po_box  3 rfl rfl rfl rfl rfl rfl rfl rfl rfl rfl ?_
  refine po_alloc (T := tab) 6 rfl rfl rfl rfl rfl rfl rfl rfl rfl ?_
  refine po_nil ?_
  refine pn_seq ?_
  refine pw_seq ?_
  refine pw_region ?_
  refine po_evs (T := tab) 2 rfl rfl ?_
  refine po_build (T := tab) rfl rfl rfl rfl rfl rfl rfl ?_
  refine po_alloc (T := tab) 7 rfl rfl rfl rfl rfl rfl rfl rfl rfl ?_
  refine po_store (T := tab) rfl rfl rfl rfl rfl rfl rfl rfl rfl rfl rfl rfl ?_
  refine po_nil ?_
  refine pn_seq ?_
  refine pw_seq ?_
  refine pw_seq ?_
  refine pw_region ?_
  refine po_evs (T := tab) 1 rfl rfl ?_
  refine po_nil ?_
  refine pn_seq ?_
  refine pw_block ?_
  refine pw_own_nilS 1044 60 10 7 0 rfl rfl rfl rfl rfl rfl ?_
  refine pw_loop' (Instarref25_ForestNames_l1 fu f1 x2 y3) (fun ((i4, l5) : Int × (List Node)) => [(1, .v (.string ⟨⟨x2⟩⟩)), (2, .v (.string ⟨⟨y3⟩⟩)), (3, .loc 3 0), (6, .loc 6 0), (7, .loc 7 0), (8, .v (.int .i64 i4))]) (fun ((i4, l5) : Int × (List Node)) => [(1044, .arr 60 10 (l5.map cNode)), (7, .box [.own 1044, .v (.int .i64 f1.Most)]), (6, .box [.v (.slice none 0 0), .v (.int .i64 0)]), (3, .box [.sl 10 false (f1.Nodes.map cNode), .v (.int .i64 f1.Most)])]) fu (0, []) (fun _ => rfl) ⟨rfl, rfl, rfl, rfl, rfl, rfl, trivial⟩ ⟨rfl, rfl, rfl, rfl, trivial⟩ rfl ?_
  rintro k1 ⟨i4, l5⟩
  refine pw_seq ?_
  refine pw_seq ?_
  refine pw_region ?_
  refine po_evs (T := tab) 3 rfl rfl ?_
  refine po_len (T := tab) cNode f1.Nodes rfl rfl rfl rfl rfl rfl rfl rfl ?_
  refine po_evs (T := tab) 1 rfl rfl ?_
  refine po_nil ?_
  refine pn_seq ?_
  refine pw_cnd rfl ?_ ?_
  · refine pw_skip ?_
    refine pn_seq ?_
    refine pw_seq ?_
    refine pw_block ?_
    refine pw_seq ?_
    refine pw_region ?_
    refine po_evs (T := tab) 3 rfl rfl ?_
    refine po_idx (T := tab) cNode f1.Nodes rfl rfl rfl rfl rfl rfl rfl fun y6 hy6 => ?_
    refine po_evs (T := tab) 1 rfl rfl ?_
    refine po_alloc (T := tab) 9 rfl rfl rfl rfl rfl rfl rfl rfl rfl ?_
    refine po_store (T := tab) rfl rfl rfl rfl rfl rfl rfl rfl rfl rfl rfl rfl ?_
    refine po_nil ?_
    refine pn_seq ?_
    refine pw_seq ?_
    refine pw_seq ?_
    refine pw_region ?_
    refine po_evs (T := tab) 2 rfl rfl ?_
    refine po_call (enc := fun (r7 : Bool) => .v (.bool r7)) (qs := [.v (.string ⟨⟨x2⟩⟩), .v (.string ⟨⟨y3⟩⟩)]) (Instarref25_both_ok fu x2 y3) rfl rfl ⟨⟨_, rfl, .rfl⟩, ⟨_, rfl, .rfl⟩, trivial⟩ (fun _ => rfl) call46 rfl rfl fun r7 hr7 => ?_
    refine po_nil ?_
    refine pn_seq ?_
    refine pw_cnd rfl ?_ ?_
    · refine pw_seq ?_
      refine pw_region ?_
      refine po_evs (T := tab) 4 rfl rfl ?_
      refine po_call (enc := fun (r8 : Bs) => .v (.string ⟨⟨r8⟩⟩)) (qs := [.v (.string ⟨⟨y6.Name⟩⟩), .v (.string ⟨⟨x2⟩⟩), .v (.string ⟨⟨y3⟩⟩)]) (Instarref25_Name_ok fu y6.Name x2 y3) rfl rfl ⟨⟨_, rfl, .rfl⟩, ⟨_, rfl, .rfl⟩, ⟨_, rfl, .rfl⟩, trivial⟩ (fun _ => rfl) call49 rfl rfl fun r8 hr8 => ?_
      refine po_evs (T := tab) 1 rfl rfl ?_
      refine po_store (T := tab) rfl rfl rfl rfl rfl rfl rfl rfl rfl rfl rfl rfl ?_
      refine po_nil ?_
      refine pn_seq ?_
      refine pw_region ?_
      refine po_evs (T := tab) 4 rfl rfl ?_
      refine po_call (enc := fun (r9 : Bs) => .v (.string ⟨⟨r9⟩⟩)) (qs := [.v (.string ⟨⟨y6.Is⟩⟩), .v (.string ⟨⟨x2⟩⟩), .v (.string ⟨⟨y3⟩⟩)]) (Instarref25_Name_ok fu y6.Is x2 y3) rfl rfl ⟨⟨_, rfl, .rfl⟩, ⟨_, rfl, .rfl⟩, ⟨_, rfl, .rfl⟩, trivial⟩ (fun _ => rfl) call49 rfl rfl fun r9 hr9 => ?_
      refine po_evs (T := tab) 1 rfl rfl ?_
      refine po_store (T := tab) rfl rfl rfl rfl rfl rfl rfl rfl rfl rfl rfl rfl ?_
      refine po_nil ?_
      refine pn_seq ?_
      refine pw_region ?_
      refine po_evs (T := tab) 3 rfl rfl ?_
      refine po_lit (T := tab) (rows := [(⟨y6.Kind, r8, r9, y6.Data, y6.Attrs, y6.Parent, y6.Kids, y6.Host, y6.Under, y6.Doc⟩ : Node)].map cNode) 43 rfl rfl rfl rfl rfl rfl rfl rfl rfl rfl rfl rfl rfl rfl ?_
      refine po_append (T := tab) cNode l5 ([(⟨y6.Kind, r8, r9, y6.Data, y6.Attrs, y6.Parent, y6.Kids, y6.Host, y6.Under, y6.Doc⟩ : Node)] : List Node) rfl rfl rfl rfl rfl rfl rfl rfl rfl rfl rfl rfl rfl rfl (cNode_one _) rfl rfl rfl rfl rfl ?_
      refine po_evs (T := tab) 1 rfl rfl ?_
      refine po_store (T := tab) rfl rfl rfl rfl rfl rfl rfl rfl rfl rfl rfl rfl ?_
      refine po_nil ?_
      refine pn_block ?_
      refine pn_seq ?_
      refine pw_region ?_
      refine po_evs (T := tab) 1 rfl rfl ?_
      refine po_arith' (T := tab) rfl rfl rfl rfl fun i10 hi10 => ?_
      refine po_evs (T := tab) 1 rfl rfl ?_
      refine po_nil ?_
      exact pn_iter' (i10, (l5 ++ [(⟨y6.Kind, r8, r9, y6.Data, y6.Attrs, y6.Parent, y6.Kids, y6.Host, y6.Under, y6.Doc⟩ : Node)])) ⟨rfl, rfl, rfl, rfl, rfl, rfl, trivial⟩ ⟨rfl, rfl, rfl, rfl, trivial⟩ rfl
    · refine pw_skip ?_
      refine pn_seq ?_
      refine pw_region ?_
      refine po_evs (T := tab) 3 rfl rfl ?_
      refine po_lit (T := tab) (rows := [y6].map cNode) 43 rfl rfl rfl rfl rfl rfl rfl rfl rfl rfl rfl rfl rfl rfl ?_
      refine po_append (T := tab) cNode l5 ([y6] : List Node) rfl rfl rfl rfl rfl rfl rfl rfl rfl rfl rfl rfl rfl rfl (cNode_one _) rfl rfl rfl rfl rfl ?_
      refine po_evs (T := tab) 1 rfl rfl ?_
      refine po_store (T := tab) rfl rfl rfl rfl rfl rfl rfl rfl rfl rfl rfl rfl ?_
      refine po_nil ?_
      refine pn_block ?_
      refine pn_seq ?_
      refine pw_region ?_
      refine po_evs (T := tab) 1 rfl rfl ?_
      refine po_arith' (T := tab) rfl rfl rfl rfl fun i11 hi11 => ?_
      refine po_evs (T := tab) 1 rfl rfl ?_
      refine po_nil ?_
      exact pn_iter' (i11, (l5 ++ [y6])) ⟨rfl, rfl, rfl, rfl, rfl, rfl, trivial⟩ ⟨rfl, rfl, rfl, rfl, trivial⟩ rfl
  · refine pw_exit rfl ?_
    refine pn_seq ?_
    refine pw_seq ?_
    refine pw_region ?_
    refine po_evs (T := tab) 1 rfl rfl ?_
    refine po_store (T := tab) rfl rfl rfl rfl rfl rfl rfl rfl rfl rfl rfl rfl ?_
    refine po_nil ?_
    refine pn_seq ?_
    refine pw_freeze 1044 rfl rfl rfl ?_
    exact pw_retN (T := tab) rfl rfl rfl ⟨rfl, rfl⟩ trivial rfl

def Instarref02_Same_l1 (a1 : (List Attr)) (b2 : (List Attr)) : Nat → Int → Option Bool
  | 0, _ => none
  | k1 + 1, i3 => cnd (decide (i3 < ((a1.length : Nat) : Int))) (bnd (idx a1 i3) fun y4 => bnd (idx b2 i3) fun y5 => cnd (!(eqAttr y4 y5)) (some false) (bnd (rng .i64 (i3 + 1)) fun i6 => (Instarref02_Same_l1 a1 b2 k1) i6)) (some true)

def Instarref02_Same_m (fu : Nat) (a1 : (List Attr)) (b2 : (List Attr)) : Option Bool := cnd (((a1.length : Nat) : Int) != ((b2.length : Nat) : Int)) (some false) ((Instarref02_Same_l1 a1 b2) fu 0)

set_option maxHeartbeats 10000000 in
set_option maxRecDepth 100000 in
theorem Instarref02_Same_ok (fu : Nat) (a1 : (List Attr)) (b2 : (List Attr)) : ∀ r, Instarref02_Same_m fu a1 b2 = some r → DC Try.prog 68 [.sl 2 false (a1.map cAttr), .sl 2 false (b2.map cAttr)] (.v (.bool r)) := by
  intro r hr
  refine fc_intro (args := [.sl 2 false (a1.map cAttr), .sl 2 false (b2.map cAttr)]) (S := []) (N0 := []) (post := fun r p S => p = .v (.bool r) ∧ S = []) Try.func68 rfl rfl hr fun w0 X X0 σ0 => ?_
  refine pw_seq ?_
  refine pw_region ?_
  refine po_evs (T := tab) 1 rfl rfl ?_
  refine po_nil ?_
  refine pn_seq ?_
  refine pw_seq ?_
  refine pw_seq ?_
  refine pw_region ?_
  refine po_evs (T := tab) 1 rfl rfl ?_
  refine po_len (T := tab) cAttr a1 rfl rfl rfl rfl rfl rfl rfl rfl ?_
  refine po_evs (T := tab) 1 rfl rfl ?_
  refine po_len (T := tab) cAttr b2 rfl rfl rfl rfl rfl rfl rfl rfl ?_
  refine po_evs (T := tab) 1 rfl rfl ?_
  refine po_nil ?_
  refine pn_seq ?_
  refine pw_cnd rfl ?_ ?_
  · refine pw_seq ?_
    refine pw_region ?_
    refine po_evs (T := tab) 1 rfl rfl ?_
    refine po_nil ?_
    refine pn_seq ?_
    exact pw_retN (T := tab) rfl rfl rfl ⟨rfl, rfl⟩ trivial rfl
  · refine pw_skip ?_
    refine pn_seq ?_
    refine pw_seq ?_
    refine pw_seq ?_
    refine pw_region ?_
    refine po_evs (T := tab) 1 rfl rfl ?_
    refine po_nil ?_
    refine pn_seq ?_
    refine pw_block ?_
    refine pw_loop' (Instarref02_Same_l1 a1 b2) (fun (i3 : Int) => [(0, .sl 2 false (a1.map cAttr)), (1, .sl 2 false (b2.map cAttr)), (5, .v (.int .i64 i3))]) (fun (i3 : Int) => []) fu 0 (fun _ => rfl) ⟨rfl, rfl, rfl, trivial⟩ trivial rfl ?_
    rintro k1 i3
    refine pw_seq ?_
    refine pw_seq ?_
    refine pw_region ?_
    refine po_evs (T := tab) 2 rfl rfl ?_
    refine po_len (T := tab) cAttr a1 rfl rfl rfl rfl rfl rfl rfl rfl ?_
    refine po_evs (T := tab) 1 rfl rfl ?_
    refine po_nil ?_
    refine pn_seq ?_
    refine pw_cnd rfl ?_ ?_
    · refine pw_skip ?_
      refine pn_seq ?_
      refine pw_seq ?_
      refine pw_block ?_
      refine pw_seq ?_
      refine pw_draw mixed (by kernel_rfl) ?_
      refine pd_evs (T := tab) 2 rfl rfl ?_
      refine pd_idx (T := tab) cAttr a1 rfl rfl rfl rfl rfl rfl rfl fun y4 hy4 => ?_
      refine pd_evs (T := tab) 3 rfl rfl ?_
      refine pd_idx (T := tab) cAttr b2 rfl rfl rfl rfl rfl rfl rfl fun y5 hy5 => ?_
      refine pd_evs (T := tab) 1 rfl rfl ?_
      refine pd_ne eqf_107 rfl rfl rfl rfl rfl rfl rfl ?_
      refine pd_nil ?_
      refine pn_seq ?_
      refine pw_cnd rfl ?_ ?_
      · refine pw_seq ?_
        refine pw_region ?_
        refine po_evs (T := tab) 1 rfl rfl ?_
        refine po_nil ?_
        refine pn_seq ?_
        exact pw_retN (T := tab) rfl rfl rfl ⟨rfl, rfl⟩ trivial rfl
      · refine pw_skip ?_
        refine pn_block ?_
        refine pn_seq ?_
        refine pw_region ?_
        refine po_evs (T := tab) 1 rfl rfl ?_
        refine po_arith' (T := tab) rfl rfl rfl rfl fun i6 hi6 => ?_
        refine po_evs (T := tab) 1 rfl rfl ?_
        refine po_nil ?_
        exact pn_iter' i6 ⟨rfl, rfl, rfl, trivial⟩ trivial rfl
    · refine pw_exit rfl ?_
      refine pn_seq ?_
      refine pw_seq ?_
      refine pw_region ?_
      refine po_evs (T := tab) 1 rfl rfl ?_
      refine po_nil ?_
      refine pn_seq ?_
      exact pw_retN (T := tab) rfl rfl rfl ⟨rfl, rfl⟩ trivial rfl

def Instarref03_Ints_l1 (a1 : (List Int)) (b2 : (List Int)) : Nat → Int → Option Bool
  | 0, _ => none
  | k1 + 1, i3 => cnd (decide (i3 < ((a1.length : Nat) : Int))) (bnd (idx a1 i3) fun y4 => bnd (idx b2 i3) fun y5 => cnd (y4 != y5) (some false) (bnd (rng .i64 (i3 + 1)) fun i6 => (Instarref03_Ints_l1 a1 b2 k1) i6)) (some true)

def Instarref03_Ints_m (fu : Nat) (a1 : (List Int)) (b2 : (List Int)) : Option Bool := cnd (((a1.length : Nat) : Int) != ((b2.length : Nat) : Int)) (some false) ((Instarref03_Ints_l1 a1 b2) fu 0)

set_option maxHeartbeats 10000000 in
set_option maxRecDepth 100000 in
theorem Instarref03_Ints_ok (fu : Nat) (a1 : (List Int)) (b2 : (List Int)) : ∀ r, Instarref03_Ints_m fu a1 b2 = some r → DC Try.prog 69 [.sl 1 false (a1.map cInt_i64), .sl 1 false (b2.map cInt_i64)] (.v (.bool r)) := by
  intro r hr
  refine fc_intro (args := [.sl 1 false (a1.map cInt_i64), .sl 1 false (b2.map cInt_i64)]) (S := []) (N0 := []) (post := fun r p S => p = .v (.bool r) ∧ S = []) Try.func69 rfl rfl hr fun w0 X X0 σ0 => ?_
  refine pw_seq ?_
  refine pw_region ?_
  refine po_evs (T := tab) 1 rfl rfl ?_
  refine po_nil ?_
  refine pn_seq ?_
  refine pw_seq ?_
  refine pw_seq ?_
  refine pw_region ?_
  refine po_evs (T := tab) 1 rfl rfl ?_
  refine po_len (T := tab) cInt_i64 a1 rfl rfl rfl rfl rfl rfl rfl rfl ?_
  refine po_evs (T := tab) 1 rfl rfl ?_
  refine po_len (T := tab) cInt_i64 b2 rfl rfl rfl rfl rfl rfl rfl rfl ?_
  refine po_evs (T := tab) 1 rfl rfl ?_
  refine po_nil ?_
  refine pn_seq ?_
  refine pw_cnd rfl ?_ ?_
  · refine pw_seq ?_
    refine pw_region ?_
    refine po_evs (T := tab) 1 rfl rfl ?_
    refine po_nil ?_
    refine pn_seq ?_
    exact pw_retN (T := tab) rfl rfl rfl ⟨rfl, rfl⟩ trivial rfl
  · refine pw_skip ?_
    refine pn_seq ?_
    refine pw_seq ?_
    refine pw_seq ?_
    refine pw_region ?_
    refine po_evs (T := tab) 1 rfl rfl ?_
    refine po_nil ?_
    refine pn_seq ?_
    refine pw_block ?_
    refine pw_loop' (Instarref03_Ints_l1 a1 b2) (fun (i3 : Int) => [(0, .sl 1 false (a1.map cInt_i64)), (1, .sl 1 false (b2.map cInt_i64)), (5, .v (.int .i64 i3))]) (fun (i3 : Int) => []) fu 0 (fun _ => rfl) ⟨rfl, rfl, rfl, trivial⟩ trivial rfl ?_
    rintro k1 i3
    refine pw_seq ?_
    refine pw_seq ?_
    refine pw_region ?_
    refine po_evs (T := tab) 2 rfl rfl ?_
    refine po_len (T := tab) cInt_i64 a1 rfl rfl rfl rfl rfl rfl rfl rfl ?_
    refine po_evs (T := tab) 1 rfl rfl ?_
    refine po_nil ?_
    refine pn_seq ?_
    refine pw_cnd rfl ?_ ?_
    · refine pw_skip ?_
      refine pn_seq ?_
      refine pw_seq ?_
      refine pw_block ?_
      refine pw_seq ?_
      refine pw_draw mixed (by kernel_rfl) ?_
      refine pd_evs (T := tab) 2 rfl rfl ?_
      refine pd_idx (T := tab) cInt_i64 a1 rfl rfl rfl rfl rfl rfl rfl fun y4 hy4 => ?_
      refine pd_evs (T := tab) 3 rfl rfl ?_
      refine pd_idx (T := tab) cInt_i64 b2 rfl rfl rfl rfl rfl rfl rfl fun y5 hy5 => ?_
      refine pd_evs (T := tab) 2 rfl rfl ?_
      refine pd_nil ?_
      refine pn_seq ?_
      refine pw_cnd rfl ?_ ?_
      · refine pw_seq ?_
        refine pw_region ?_
        refine po_evs (T := tab) 1 rfl rfl ?_
        refine po_nil ?_
        refine pn_seq ?_
        exact pw_retN (T := tab) rfl rfl rfl ⟨rfl, rfl⟩ trivial rfl
      · refine pw_skip ?_
        refine pn_block ?_
        refine pn_seq ?_
        refine pw_region ?_
        refine po_evs (T := tab) 1 rfl rfl ?_
        refine po_arith' (T := tab) rfl rfl rfl rfl fun i6 hi6 => ?_
        refine po_evs (T := tab) 1 rfl rfl ?_
        refine po_nil ?_
        exact pn_iter' i6 ⟨rfl, rfl, rfl, trivial⟩ trivial rfl
    · refine pw_exit rfl ?_
      refine pn_seq ?_
      refine pw_seq ?_
      refine pw_region ?_
      refine po_evs (T := tab) 1 rfl rfl ?_
      refine po_nil ?_
      refine pn_seq ?_
      exact pw_retN (T := tab) rfl rfl rfl ⟨rfl, rfl⟩ trivial rfl

def Instarref03_One_m (fu : Nat) (a1 : Node) (b2 : Node) : Option Bool := cnd (a1.Kind == b2.Kind) (cnd (a1.Name == b2.Name) (cnd (a1.Is == b2.Is) (cnd (a1.Data == b2.Data) (bnd (Instarref02_Same_m fu a1.Attrs b2.Attrs) fun r3 => cnd r3 (cnd (a1.Parent == b2.Parent) (bnd (Instarref03_Ints_m fu a1.Kids b2.Kids) fun r4 => cnd r4 (cnd (a1.Host == b2.Host) (cnd (a1.Under == b2.Under) (some (a1.Doc == b2.Doc)) (some false)) (some false)) (some false)) (some false)) (some false)) (some false)) (some false)) (some false)) (some false)

set_option maxHeartbeats 10000000 in
set_option maxRecDepth 100000 in
theorem Instarref03_One_ok (fu : Nat) (a1 : Node) (b2 : Node) : ∀ r, Instarref03_One_m fu a1 b2 = some r → DC Try.prog 50 [.agg (cNode a1), .agg (cNode b2)] (.v (.bool r)) := by
  intro r hr
  refine fc_intro (args := [.agg (cNode a1), .agg (cNode b2)]) (S := []) (N0 := []) (post := fun r p S => p = .v (.bool r) ∧ S = []) Try.func50 rfl rfl hr fun w0 X X0 σ0 => ?_
  refine pw_seq ?_
  refine pw_region ?_
  refine po_box  2 rfl rfl rfl rfl rfl rfl rfl rfl rfl rfl ?_
  refine po_box  3 rfl rfl rfl rfl rfl rfl rfl rfl rfl rfl ?_
  refine po_evs (T := tab) 1 rfl rfl ?_
  refine po_nil ?_
  refine pn_seq ?_
  refine pw_seq ?_
  refine pw_region ?_
  refine po_evs (T := tab) 6 rfl rfl ?_
  refine po_split (j := 10) rfl ?_ ?_
  · refine po_evs (T := tab) 7 rfl rfl ?_
    refine po_split (j := 17) rfl ?_ ?_
    · refine po_evs (T := tab) 7 rfl rfl ?_
      refine po_split (j := 24) rfl ?_ ?_
      · refine po_evs (T := tab) 7 rfl rfl ?_
        refine po_split (j := 31) rfl ?_ ?_
        · refine po_evs (T := tab) 4 rfl rfl ?_
          refine po_call (enc := fun (r3 : Bool) => .v (.bool r3)) (qs := [.sl 2 false (a1.Attrs.map cAttr), .sl 2 false (b2.Attrs.map cAttr)]) (Instarref02_Same_ok fu a1.Attrs b2.Attrs) rfl rfl ⟨⟨_, rfl, .rfl⟩, ⟨_, rfl, .rfl⟩, trivial⟩ (fun _ => rfl) call68 rfl rfl fun r3 hr3 => ?_
          refine po_evs (T := tab) 2 rfl rfl ?_
          refine po_split (j := 38) rfl ?_ ?_
          · refine po_evs (T := tab) 7 rfl rfl ?_
            refine po_split (j := 45) rfl ?_ ?_
            · refine po_evs (T := tab) 4 rfl rfl ?_
              refine po_call (enc := fun (r4 : Bool) => .v (.bool r4)) (qs := [.sl 1 false (a1.Kids.map cInt_i64), .sl 1 false (b2.Kids.map cInt_i64)]) (Instarref03_Ints_ok fu a1.Kids b2.Kids) rfl rfl ⟨⟨_, rfl, .rfl⟩, ⟨_, rfl, .rfl⟩, trivial⟩ (fun _ => rfl) call69 rfl rfl fun r4 hr4 => ?_
              refine po_evs (T := tab) 2 rfl rfl ?_
              refine po_split (j := 52) rfl ?_ ?_
              · refine po_evs (T := tab) 7 rfl rfl ?_
                refine po_split (j := 59) rfl ?_ ?_
                · refine po_evs (T := tab) 7 rfl rfl ?_
                  refine po_split (j := 66) rfl ?_ ?_
                  · refine po_evs (T := tab) 7 rfl rfl ?_
                    refine po_nil ?_
                    refine pn_seq ?_
                    exact pw_retN (T := tab) rfl rfl rfl ⟨rfl, rfl⟩ trivial rfl
                  · refine po_evs (T := tab) 7 rfl rfl ?_
                    refine po_nil ?_
                    refine pn_seq ?_
                    exact pw_retN (T := tab) rfl rfl rfl ⟨rfl, rfl⟩ trivial rfl
                · refine po_evs (T := tab) 14 rfl rfl ?_
                  refine po_nil ?_
                  refine pn_seq ?_
                  exact pw_retN (T := tab) rfl rfl rfl ⟨rfl, rfl⟩ trivial rfl
              · refine po_evs (T := tab) 21 rfl rfl ?_
                refine po_nil ?_
                refine pn_seq ?_
                exact pw_retN (T := tab) rfl rfl rfl ⟨rfl, rfl⟩ trivial rfl
            · refine po_evs (T := tab) 28 rfl rfl ?_
              refine po_nil ?_
              refine pn_seq ?_
              exact pw_retN (T := tab) rfl rfl rfl ⟨rfl, rfl⟩ trivial rfl
          · refine po_evs (T := tab) 35 rfl rfl ?_
            refine po_nil ?_
            refine pn_seq ?_
            exact pw_retN (T := tab) rfl rfl rfl ⟨rfl, rfl⟩ trivial rfl
        · refine po_evs (T := tab) 42 rfl rfl ?_
          refine po_nil ?_
          refine pn_seq ?_
          exact pw_retN (T := tab) rfl rfl rfl ⟨rfl, rfl⟩ trivial rfl
      · refine po_evs (T := tab) 49 rfl rfl ?_
        refine po_nil ?_
        refine pn_seq ?_
        exact pw_retN (T := tab) rfl rfl rfl ⟨rfl, rfl⟩ trivial rfl
    · refine po_evs (T := tab) 56 rfl rfl ?_
      refine po_nil ?_
      refine pn_seq ?_
      exact pw_retN (T := tab) rfl rfl rfl ⟨rfl, rfl⟩ trivial rfl
  · refine po_evs (T := tab) 63 rfl rfl ?_
    refine po_nil ?_
    refine pn_seq ?_
    exact pw_retN (T := tab) rfl rfl rfl ⟨rfl, rfl⟩ trivial rfl

def Instarref03_Same_l1 (fu : Nat) (a1 : Forest) (b2 : Forest) : Nat → Int → Option Bool
  | 0, _ => none
  | k1 + 1, i3 => cnd (decide (i3 < ((a1.Nodes.length : Nat) : Int))) (bnd (idx a1.Nodes i3) fun y4 => bnd (idx b2.Nodes i3) fun y5 => bnd (Instarref03_One_m fu y4 y5) fun r6 => cnd (!r6) (some false) (bnd (rng .i64 (i3 + 1)) fun i7 => (Instarref03_Same_l1 fu a1 b2 k1) i7)) (some true)

def Instarref03_Same_m (fu : Nat) (a1 : Forest) (b2 : Forest) : Option Bool := cnd (a1.Most != b2.Most) (some false) (cnd (((a1.Nodes.length : Nat) : Int) != ((b2.Nodes.length : Nat) : Int)) (some false) ((Instarref03_Same_l1 fu a1 b2) fu 0))

set_option maxHeartbeats 10000000 in
set_option maxRecDepth 100000 in
theorem Instarref03_Same_ok (fu : Nat) (a1 : Forest) (b2 : Forest) : ∀ r, Instarref03_Same_m fu a1 b2 = some r → DC Try.prog 21 [.agg (cForest a1), .agg (cForest b2)] (.v (.bool r)) := by
  intro r hr
  refine fc_intro (args := [.agg (cForest a1), .agg (cForest b2)]) (S := []) (N0 := []) (post := fun r p S => p = .v (.bool r) ∧ S = []) Try.func21 rfl rfl hr fun w0 X X0 σ0 => ?_
  refine pw_seq ?_
  refine pw_region ?_
  refine po_box  2 rfl rfl rfl rfl rfl rfl rfl rfl rfl rfl ?_
  refine po_box  3 rfl rfl rfl rfl rfl rfl rfl rfl rfl rfl ?_
  refine po_evs (T := tab) 1 rfl rfl ?_
  refine po_nil ?_
  refine pn_seq ?_
  refine pw_seq ?_
  refine pw_seq ?_
  refine pw_region ?_
  refine po_evs (T := tab) 6 rfl rfl ?_
  refine po_split (j := 11) rfl ?_ ?_
  · refine po_evs (T := tab) 8 rfl rfl ?_
    refine po_nil ?_
    refine pn_seq (pw_then rfl ?_)
    refine pw_seq ?_
    refine pw_region ?_
    refine po_evs (T := tab) 1 rfl rfl ?_
    refine po_nil ?_
    refine pn_seq ?_
    exact pw_retN (T := tab) rfl rfl rfl ⟨rfl, rfl⟩ trivial rfl
  · refine po_evs (T := tab) 2 rfl rfl ?_
    refine po_len (T := tab) cNode a1.Nodes rfl rfl rfl rfl rfl rfl rfl rfl ?_
    refine po_evs (T := tab) 2 rfl rfl ?_
    refine po_len (T := tab) cNode b2.Nodes rfl rfl rfl rfl rfl rfl rfl rfl ?_
    refine po_evs (T := tab) 2 rfl rfl ?_
    refine po_nil ?_
    refine pn_seq ?_
    refine pw_cnd rfl ?_ ?_
    · refine pw_seq ?_
      refine pw_region ?_
      refine po_evs (T := tab) 1 rfl rfl ?_
      refine po_nil ?_
      refine pn_seq ?_
      exact pw_retN (T := tab) rfl rfl rfl ⟨rfl, rfl⟩ trivial rfl
    · refine pw_skip ?_
      refine pn_seq ?_
      refine pw_seq ?_
      refine pw_seq ?_
      refine pw_region ?_
      refine po_evs (T := tab) 1 rfl rfl ?_
      refine po_nil ?_
      refine pn_seq ?_
      refine pw_block ?_
      refine pw_loop' (Instarref03_Same_l1 fu a1 b2) (fun (i3 : Int) => [(2, .loc 2 0), (3, .loc 3 0), (5, .v (.int .i64 i3))]) (fun (i3 : Int) => [(3, .box [.sl 10 false (b2.Nodes.map cNode), .v (.int .i64 b2.Most)]), (2, .box [.sl 10 false (a1.Nodes.map cNode), .v (.int .i64 a1.Most)])]) fu 0 (fun _ => rfl) ⟨rfl, rfl, rfl, trivial⟩ ⟨rfl, rfl, trivial⟩ rfl ?_
      rintro k1 i3
      refine pw_seq ?_
      refine pw_seq ?_
      refine pw_region ?_
      refine po_evs (T := tab) 3 rfl rfl ?_
      refine po_len (T := tab) cNode a1.Nodes rfl rfl rfl rfl rfl rfl rfl rfl ?_
      refine po_evs (T := tab) 1 rfl rfl ?_
      refine po_nil ?_
      refine pn_seq ?_
      refine pw_cnd rfl ?_ ?_
      · refine pw_skip ?_
        refine pn_seq ?_
        refine pw_seq ?_
        refine pw_block ?_
        refine pw_seq ?_
        refine pw_draw mixed (by kernel_rfl) ?_
        refine pd_evs (T := tab) 3 rfl rfl ?_
        refine pd_idx (T := tab) cNode a1.Nodes rfl rfl rfl rfl rfl rfl rfl fun y4 hy4 => ?_
        refine pd_evs (T := tab) 4 rfl rfl ?_
        refine pd_idx (T := tab) cNode b2.Nodes rfl rfl rfl rfl rfl rfl rfl fun y5 hy5 => ?_
        refine pd_evs (T := tab) 1 rfl rfl ?_
        refine pd_call (enc := fun (r6 : Bool) => .v (.bool r6)) (qs := [.agg (cNode y4), .agg (cNode y5)]) (Instarref03_One_ok fu y4 y5) rfl rfl ⟨⟨_, rfl, .rfl⟩, ⟨_, rfl, .rfl⟩, trivial⟩ (fun _ => rfl) call50 rfl rfl fun r6 hr6 => ?_
        refine pd_evs (T := tab) 1 rfl rfl ?_
        refine pd_nil ?_
        refine pn_seq ?_
        refine pw_cnd rfl ?_ ?_
        · refine pw_seq ?_
          refine pw_region ?_
          refine po_evs (T := tab) 1 rfl rfl ?_
          refine po_nil ?_
          refine pn_seq ?_
          exact pw_retN (T := tab) rfl rfl rfl ⟨rfl, rfl⟩ trivial rfl
        · refine pw_skip ?_
          refine pn_block ?_
          refine pn_seq ?_
          refine pw_region ?_
          refine po_evs (T := tab) 1 rfl rfl ?_
          refine po_arith' (T := tab) rfl rfl rfl rfl fun i7 hi7 => ?_
          refine po_evs (T := tab) 1 rfl rfl ?_
          refine po_nil ?_
          exact pn_iter' i7 ⟨rfl, rfl, rfl, trivial⟩ ⟨rfl, rfl, trivial⟩ rfl
      · refine pw_exit rfl ?_
        refine pn_seq ?_
        refine pw_seq ?_
        refine pw_region ?_
        refine po_evs (T := tab) 1 rfl rfl ?_
        refine po_nil ?_
        refine pn_seq ?_
        exact pw_retN (T := tab) rfl rfl rfl ⟨rfl, rfl⟩ trivial rfl

def Instarlaw25_LabRight_l1 (fu : Nat) (s1 : Script) (l2 : (List Mark)) (f3 : Forest) (a4 : Int) (b5 : Int) (x6 : Bs) (y7 : Bs) : Nat → Int → Option Bool
  | 0, _ => none
  | k1 + 1, i11 => cnd (decide (i11 < ((s1.Classes.length : Nat) : Int))) (bnd (idx s1.Classes i11) fun y12 => bnd (Lab_Calm_m fu y12) fun r13 => bnd (idx s1.Classes i11) fun y14 => bnd (Instarref25_Calm_m fu y14) fun r15 => cnd (!(r13 == r15)) (some false) (bnd (rng .i64 (i11 + 1)) fun i16 => (Instarlaw25_LabRight_l1 fu s1 l2 f3 a4 b5 x6 y7 k1) i16)) (bnd (Lab_Classes_m fu s1 a4 b5) fun r17 => bnd (Instarref25_Classes_m fu s1 a4 b5) fun r18 => bnd (Instarref22_Same_m fu r17 r18) fun r19 => cnd r19 (bnd (Lab_MarksClasses_m fu l2 a4 b5) fun r20 => bnd (Instarref25_MarksClasses_m fu l2 a4 b5) fun r21 => bnd (Instarref20_Marks_m fu r20 r21) fun r22 => cnd r22 (bnd (Lab_Names_m fu s1 x6 y7) fun r23 => bnd (Instarref25_Names_m fu s1 x6 y7) fun r24 => bnd (Instarref22_Same_m fu r23 r24) fun r25 => cnd r25 (bnd (Lab_MarksNames_m fu l2 x6 y7) fun r26 => bnd (Instarref25_MarksNames_m fu l2 x6 y7) fun r27 => bnd (Instarref20_Marks_m fu r26 r27) fun r28 => cnd r28 (bnd (Lab_ForestNames_m fu f3 x6 y7) fun r29 => bnd (Instarref25_ForestNames_m fu f3 x6 y7) fun r30 => bnd (Instarref03_Same_m fu r29 r30) fun r31 => some r31) (some false)) (some false)) (some false)) (some false))

def Instarlaw25_LabRight_m (fu : Nat) (s1 : Script) (l2 : (List Mark)) (f3 : Forest) (a4 : Int) (b5 : Int) (x6 : Bs) (y7 : Bs) : Option Bool := bnd (Instarlaw25_awake_m fu) fun r8 => cnd (!r8) (some false) (bnd (Instarlaw25_few_m fu s1) fun r9 => cnd (!r9) (some true) (cnd (decide (((l2.length : Nat) : Int) > 200)) (some true) (bnd (Instarref03_Short_m fu f3) fun r10 => cnd (!r10) (some true) (cnd (decide (((x6.length : Nat) : Int) > 300)) (some true) (cnd (decide (((y7.length : Nat) : Int) > 300)) (some true) ((Instarlaw25_LabRight_l1 fu s1 l2 f3 a4 b5 x6 y7) fu 0))))))

set_option maxHeartbeats 10000000 in
set_option maxRecDepth 100000 in
theorem Instarlaw25_LabRight_ok (fu : Nat) (s1 : Script) (l2 : (List Mark)) (f3 : Forest) (a4 : Int) (b5 : Int) (x6 : Bs) (y7 : Bs) : ∀ r, Instarlaw25_LabRight_m fu s1 l2 f3 a4 b5 x6 y7 = some r → DC Try.prog 3 [.agg (cScript s1), .sl 13 false (l2.map cMark), .agg (cForest f3), .v (.int .i64 a4), .v (.int .i64 b5), .v (.string ⟨⟨x6⟩⟩), .v (.string ⟨⟨y7⟩⟩)] (.v (.bool r)) := by
  intro r hr
  refine fc_intro (args := [.agg (cScript s1), .sl 13 false (l2.map cMark), .agg (cForest f3), .v (.int .i64 a4), .v (.int .i64 b5), .v (.string ⟨⟨x6⟩⟩), .v (.string ⟨⟨y7⟩⟩)]) (S := []) (N0 := []) (post := fun r p S => p = .v (.bool r) ∧ S = []) Try.func3 rfl rfl hr fun w0 X X0 σ0 => ?_
  refine pw_seq ?_
  refine pw_region ?_
  refine po_box  7 rfl rfl rfl rfl rfl rfl rfl rfl rfl rfl ?_
  refine po_box  9 rfl rfl rfl rfl rfl rfl rfl rfl rfl rfl ?_
  refine po_evs (T := tab) 1 rfl rfl ?_
  refine po_nil ?_
  refine pn_seq ?_
  refine pw_seq ?_
  refine pw_seq ?_
  refine pw_region ?_
  refine po_call (enc := fun (r8 : Bool) => .v (.bool r8)) (qs := []) (Instarlaw25_awake_ok fu) rfl rfl trivial (fun _ => rfl) call6 rfl rfl fun r8 hr8 => ?_
  refine po_evs (T := tab) 1 rfl rfl ?_
  refine po_nil ?_
  refine pn_seq ?_
  refine pw_cnd rfl ?_ ?_
  · refine pw_seq ?_
    refine pw_region ?_
    refine po_evs (T := tab) 1 rfl rfl ?_
    refine po_nil ?_
    refine pn_seq ?_
    exact pw_retN (T := tab) rfl rfl rfl ⟨rfl, rfl⟩ trivial rfl
  · refine pw_skip ?_
    refine pn_seq ?_
    refine pw_seq ?_
    refine pw_seq ?_
    refine pw_region ?_
    refine po_evs (T := tab) 1 rfl rfl ?_
    refine po_call (enc := fun (r9 : Bool) => .v (.bool r9)) (qs := [.agg (cScript s1)]) (Instarlaw25_few_ok fu s1) rfl rfl ⟨⟨_, rfl, .rfl⟩, trivial⟩ (fun _ => rfl) call7 rfl rfl fun r9 hr9 => ?_
    refine po_evs (T := tab) 2 rfl rfl ?_
    refine po_split (j := 21) rfl ?_ ?_
    · refine po_evs (T := tab) 19 rfl rfl ?_
      refine po_nil ?_
      refine pn_seq (pw_then rfl ?_)
      refine pw_seq ?_
      refine pw_region ?_
      refine po_evs (T := tab) 1 rfl rfl ?_
      refine po_nil ?_
      refine pn_seq ?_
      exact pw_retN (T := tab) rfl rfl rfl ⟨rfl, rfl⟩ trivial rfl
    · refine po_evs (T := tab) 1 rfl rfl ?_
      refine po_len (T := tab) cMark l2 rfl rfl rfl rfl rfl rfl rfl rfl ?_
      refine po_evs (T := tab) 3 rfl rfl ?_
      refine po_split (j := 26) rfl ?_ ?_
      · refine po_evs (T := tab) 14 rfl rfl ?_
        refine po_nil ?_
        refine pn_seq (pw_then rfl ?_)
        refine pw_seq ?_
        refine pw_region ?_
        refine po_evs (T := tab) 1 rfl rfl ?_
        refine po_nil ?_
        refine pn_seq ?_
        exact pw_retN (T := tab) rfl rfl rfl ⟨rfl, rfl⟩ trivial rfl
      · refine po_evs (T := tab) 1 rfl rfl ?_
        refine po_call (enc := fun (r10 : Bool) => .v (.bool r10)) (qs := [.agg (cForest f3)]) (Instarref03_Short_ok fu f3) rfl rfl ⟨⟨_, rfl, .rfl⟩, trivial⟩ (fun _ => rfl) call8 rfl rfl fun r10 hr10 => ?_
        refine po_evs (T := tab) 3 rfl rfl ?_
        refine po_split (j := 31) rfl ?_ ?_
        · refine po_evs (T := tab) 9 rfl rfl ?_
          refine po_nil ?_
          refine pn_seq (pw_then rfl ?_)
          refine pw_seq ?_
          refine pw_region ?_
          refine po_evs (T := tab) 1 rfl rfl ?_
          refine po_nil ?_
          refine pn_seq ?_
          exact pw_retN (T := tab) rfl rfl rfl ⟨rfl, rfl⟩ trivial rfl
        · refine po_evs (T := tab) 5 rfl rfl ?_
          refine po_split (j := 36) rfl ?_ ?_
          · refine po_evs (T := tab) 4 rfl rfl ?_
            refine po_nil ?_
            refine pn_seq (pw_then rfl ?_)
            refine pw_seq ?_
            refine pw_region ?_
            refine po_evs (T := tab) 1 rfl rfl ?_
            refine po_nil ?_
            refine pn_seq ?_
            exact pw_retN (T := tab) rfl rfl rfl ⟨rfl, rfl⟩ trivial rfl
          · refine po_evs (T := tab) 4 rfl rfl ?_
            refine po_nil ?_
            refine pn_seq ?_
            refine pw_cnd rfl ?_ ?_
            · refine pw_seq ?_
              refine pw_region ?_
              refine po_evs (T := tab) 1 rfl rfl ?_
              refine po_nil ?_
              refine pn_seq ?_
              exact pw_retN (T := tab) rfl rfl rfl ⟨rfl, rfl⟩ trivial rfl
            · refine pw_skip ?_
              refine pn_seq ?_
              refine pw_seq ?_
              refine pw_seq ?_
              refine pw_region ?_
              refine po_evs (T := tab) 1 rfl rfl ?_
              refine po_nil ?_
              refine pn_seq ?_
              refine pw_block ?_
              refine pw_loop' (Instarlaw25_LabRight_l1 fu s1 l2 f3 a4 b5 x6 y7) (fun (i11 : Int) => [(1, .sl 13 false (l2.map cMark)), (3, .v (.int .i64 a4)), (4, .v (.int .i64 b5)), (5, .v (.string ⟨⟨x6⟩⟩)), (6, .v (.string ⟨⟨y7⟩⟩)), (7, .loc 7 0), (9, .loc 9 0), (15, .v (.int .i64 i11))]) (fun (i11 : Int) => [(9, .box [.sl 10 false (f3.Nodes.map cNode), .v (.int .i64 f3.Most)]), (7, .box [.sl 5 false (s1.Classes.map cClass), .sl 7 false (s1.Main.map cOp)])]) fu 0 (fun _ => rfl) ⟨rfl, rfl, rfl, rfl, rfl, rfl, rfl, rfl, trivial⟩ ⟨rfl, rfl, trivial⟩ rfl ?_
              rintro k1 i11
              refine pw_seq ?_
              refine pw_seq ?_
              refine pw_region ?_
              refine po_evs (T := tab) 3 rfl rfl ?_
              refine po_len (T := tab) cClass s1.Classes rfl rfl rfl rfl rfl rfl rfl rfl ?_
              refine po_evs (T := tab) 1 rfl rfl ?_
              refine po_nil ?_
              refine pn_seq ?_
              refine pw_cnd rfl ?_ ?_
              · refine pw_skip ?_
                refine pn_seq ?_
                refine pw_seq ?_
                refine pw_block ?_
                refine pw_seq ?_
                refine pw_draw mixed (by kernel_rfl) ?_
                refine pd_evs (T := tab) 3 rfl rfl ?_
                refine pd_idx (T := tab) cClass s1.Classes rfl rfl rfl rfl rfl rfl rfl fun y12 hy12 => ?_
                refine pd_evs (T := tab) 1 rfl rfl ?_
                refine pd_call (enc := fun (r13 : Bool) => .v (.bool r13)) (qs := [.agg (cClass y12)]) (Lab_Calm_ok fu y12) rfl rfl ⟨⟨_, rfl, .rfl⟩, trivial⟩ (fun _ => rfl) call9 rfl rfl fun r13 hr13 => ?_
                refine pd_evs (T := tab) 3 rfl rfl ?_
                refine pd_idx (T := tab) cClass s1.Classes rfl rfl rfl rfl rfl rfl rfl fun y14 hy14 => ?_
                refine pd_evs (T := tab) 1 rfl rfl ?_
                refine pd_call (enc := fun (r15 : Bool) => .v (.bool r15)) (qs := [.agg (cClass y14)]) (Instarref25_Calm_ok fu y14) rfl rfl ⟨⟨_, rfl, .rfl⟩, trivial⟩ (fun _ => rfl) call10 rfl rfl fun r15 hr15 => ?_
                refine pd_evs (T := tab) 1 rfl rfl ?_
                refine pd_nil ?_
                refine pn_seq ?_
                refine pw_cnd rfl ?_ ?_
                · refine pw_seq ?_
                  refine pw_region ?_
                  refine po_evs (T := tab) 1 rfl rfl ?_
                  refine po_nil ?_
                  refine pn_seq ?_
                  exact pw_retN (T := tab) rfl rfl rfl ⟨rfl, rfl⟩ trivial rfl
                · refine pw_skip ?_
                  refine pn_block ?_
                  refine pn_seq ?_
                  refine pw_region ?_
                  refine po_evs (T := tab) 1 rfl rfl ?_
                  refine po_arith' (T := tab) rfl rfl rfl rfl fun i16 hi16 => ?_
                  refine po_evs (T := tab) 1 rfl rfl ?_
                  refine po_nil ?_
                  exact pn_iter' i16 ⟨rfl, rfl, rfl, rfl, rfl, rfl, rfl, rfl, trivial⟩ ⟨rfl, rfl, trivial⟩ rfl
              · refine pw_exit rfl ?_
                refine pn_seq ?_
                refine pw_seq ?_
                refine pw_draw mixed (by kernel_rfl) ?_
                refine pd_evs (T := tab) 3 rfl rfl ?_
                refine pd_call (enc := fun (r17 : Script) => .agg (cScript r17)) (qs := [.agg (cScript s1), .v (.int .i64 a4), .v (.int .i64 b5)]) (Lab_Classes_ok fu s1 a4 b5) rfl rfl ⟨⟨_, rfl, .rfl⟩, ⟨_, rfl, .rfl⟩, ⟨_, rfl, .rfl⟩, trivial⟩ (fun _ => rfl) call12 rfl rfl fun r17 hr17 => ?_
                refine pd_evs (T := tab) 3 rfl rfl ?_
                refine pd_call (enc := fun (r18 : Script) => .agg (cScript r18)) (qs := [.agg (cScript s1), .v (.int .i64 a4), .v (.int .i64 b5)]) (Instarref25_Classes_ok fu s1 a4 b5) rfl rfl ⟨⟨_, rfl, .rfl⟩, ⟨_, rfl, .rfl⟩, ⟨_, rfl, .rfl⟩, trivial⟩ (fun _ => rfl) call13 rfl rfl fun r18 hr18 => ?_
                refine pd_call (enc := fun (r19 : Bool) => .v (.bool r19)) (qs := [.agg (cScript r17), .agg (cScript r18)]) (Instarref22_Same_ok fu r17 r18) rfl rfl ⟨⟨_, rfl, .rfl⟩, ⟨_, rfl, .rfl⟩, trivial⟩ (fun _ => rfl) call11 rfl rfl fun r19 hr19 => ?_
                refine pd_evs (T := tab) 1 rfl rfl ?_
                refine pd_split (j := 70) rfl ?_ ?_
                · refine pd_evs (T := tab) 3 rfl rfl ?_
                  refine pd_call (enc := fun (r20 : (List Mark)) => .sl 13 false (r20.map cMark)) (qs := [.sl 13 false (l2.map cMark), .v (.int .i64 a4), .v (.int .i64 b5)]) (Lab_MarksClasses_ok fu l2 a4 b5) rfl rfl ⟨⟨_, rfl, .rfl⟩, ⟨_, rfl, .rfl⟩, ⟨_, rfl, .rfl⟩, trivial⟩ (fun _ => rfl) call15 rfl rfl fun r20 hr20 => ?_
                  refine pd_evs (T := tab) 3 rfl rfl ?_
                  refine pd_call (enc := fun (r21 : (List Mark)) => .sl 13 false (r21.map cMark)) (qs := [.sl 13 false (l2.map cMark), .v (.int .i64 a4), .v (.int .i64 b5)]) (Instarref25_MarksClasses_ok fu l2 a4 b5) rfl rfl ⟨⟨_, rfl, .rfl⟩, ⟨_, rfl, .rfl⟩, ⟨_, rfl, .rfl⟩, trivial⟩ (fun _ => rfl) call16 rfl rfl fun r21 hr21 => ?_
                  refine pd_call (enc := fun (r22 : Bool) => .v (.bool r22)) (qs := [.sl 13 false (r20.map cMark), .sl 13 false (r21.map cMark)]) (Instarref20_Marks_ok fu r20 r21) rfl rfl ⟨⟨_, rfl, .rfl⟩, ⟨_, rfl, .rfl⟩, trivial⟩ (fun _ => rfl) call14 rfl rfl fun r22 hr22 => ?_
                  refine pd_evs (T := tab) 2 rfl rfl ?_
                  refine pd_split (j := 81) rfl ?_ ?_
                  · refine pd_evs (T := tab) 3 rfl rfl ?_
                    refine pd_call (enc := fun (r23 : Script) => .agg (cScript r23)) (qs := [.agg (cScript s1), .v (.string ⟨⟨x6⟩⟩), .v (.string ⟨⟨y7⟩⟩)]) (Lab_Names_ok fu s1 x6 y7) rfl rfl ⟨⟨_, rfl, .rfl⟩, ⟨_, rfl, .rfl⟩, ⟨_, rfl, .rfl⟩, trivial⟩ (fun _ => rfl) call17 rfl rfl fun r23 hr23 => ?_
                    refine pd_evs (T := tab) 3 rfl rfl ?_
                    refine pd_call (enc := fun (r24 : Script) => .agg (cScript r24)) (qs := [.agg (cScript s1), .v (.string ⟨⟨x6⟩⟩), .v (.string ⟨⟨y7⟩⟩)]) (Instarref25_Names_ok fu s1 x6 y7) rfl rfl ⟨⟨_, rfl, .rfl⟩, ⟨_, rfl, .rfl⟩, ⟨_, rfl, .rfl⟩, trivial⟩ (fun _ => rfl) call18 rfl rfl fun r24 hr24 => ?_
                    refine pd_call (enc := fun (r25 : Bool) => .v (.bool r25)) (qs := [.agg (cScript r23), .agg (cScript r24)]) (Instarref22_Same_ok fu r23 r24) rfl rfl ⟨⟨_, rfl, .rfl⟩, ⟨_, rfl, .rfl⟩, trivial⟩ (fun _ => rfl) call11 rfl rfl fun r25 hr25 => ?_
                    refine pd_evs (T := tab) 2 rfl rfl ?_
                    refine pd_split (j := 92) rfl ?_ ?_
                    · refine pd_evs (T := tab) 3 rfl rfl ?_
                      refine pd_call (enc := fun (r26 : (List Mark)) => .sl 13 false (r26.map cMark)) (qs := [.sl 13 false (l2.map cMark), .v (.string ⟨⟨x6⟩⟩), .v (.string ⟨⟨y7⟩⟩)]) (Lab_MarksNames_ok fu l2 x6 y7) rfl rfl ⟨⟨_, rfl, .rfl⟩, ⟨_, rfl, .rfl⟩, ⟨_, rfl, .rfl⟩, trivial⟩ (fun _ => rfl) call19 rfl rfl fun r26 hr26 => ?_
                      refine pd_evs (T := tab) 3 rfl rfl ?_
                      refine pd_call (enc := fun (r27 : (List Mark)) => .sl 13 false (r27.map cMark)) (qs := [.sl 13 false (l2.map cMark), .v (.string ⟨⟨x6⟩⟩), .v (.string ⟨⟨y7⟩⟩)]) (Instarref25_MarksNames_ok fu l2 x6 y7) rfl rfl ⟨⟨_, rfl, .rfl⟩, ⟨_, rfl, .rfl⟩, ⟨_, rfl, .rfl⟩, trivial⟩ (fun _ => rfl) call20 rfl rfl fun r27 hr27 => ?_
                      refine pd_call (enc := fun (r28 : Bool) => .v (.bool r28)) (qs := [.sl 13 false (r26.map cMark), .sl 13 false (r27.map cMark)]) (Instarref20_Marks_ok fu r26 r27) rfl rfl ⟨⟨_, rfl, .rfl⟩, ⟨_, rfl, .rfl⟩, trivial⟩ (fun _ => rfl) call14 rfl rfl fun r28 hr28 => ?_
                      refine pd_evs (T := tab) 2 rfl rfl ?_
                      refine pd_split (j := 103) rfl ?_ ?_
                      · refine pd_evs (T := tab) 3 rfl rfl ?_
                        refine pd_call (enc := fun (r29 : Forest) => .agg (cForest r29)) (qs := [.agg (cForest f3), .v (.string ⟨⟨x6⟩⟩), .v (.string ⟨⟨y7⟩⟩)]) (Lab_ForestNames_ok fu f3 x6 y7) rfl rfl ⟨⟨_, rfl, .rfl⟩, ⟨_, rfl, .rfl⟩, ⟨_, rfl, .rfl⟩, trivial⟩ (fun _ => rfl) call22 rfl rfl fun r29 hr29 => ?_
                        refine pd_evs (T := tab) 3 rfl rfl ?_
                        refine pd_call (enc := fun (r30 : Forest) => .agg (cForest r30)) (qs := [.agg (cForest f3), .v (.string ⟨⟨x6⟩⟩), .v (.string ⟨⟨y7⟩⟩)]) (Instarref25_ForestNames_ok fu f3 x6 y7) rfl rfl ⟨⟨_, rfl, .rfl⟩, ⟨_, rfl, .rfl⟩, ⟨_, rfl, .rfl⟩, trivial⟩ (fun _ => rfl) call23 rfl rfl fun r30 hr30 => ?_
                        refine pd_call (enc := fun (r31 : Bool) => .v (.bool r31)) (qs := [.agg (cForest r29), .agg (cForest r30)]) (Instarref03_Same_ok fu r29 r30) rfl rfl ⟨⟨_, rfl, .rfl⟩, ⟨_, rfl, .rfl⟩, trivial⟩ (fun _ => rfl) call21 rfl rfl fun r31 hr31 => ?_
                        refine pd_evs (T := tab) 2 rfl rfl ?_
                        refine pd_nil ?_
                        refine pn_seq ?_
                        exact pw_retN (T := tab) rfl rfl rfl ⟨rfl, rfl⟩ trivial rfl
                      · refine pd_evs (T := tab) 11 rfl rfl ?_
                        refine pd_nil ?_
                        refine pn_seq ?_
                        exact pw_retN (T := tab) rfl rfl rfl ⟨rfl, rfl⟩ trivial rfl
                    · refine pd_evs (T := tab) 22 rfl rfl ?_
                      refine pd_nil ?_
                      refine pn_seq ?_
                      exact pw_retN (T := tab) rfl rfl rfl ⟨rfl, rfl⟩ trivial rfl
                  · refine pd_evs (T := tab) 33 rfl rfl ?_
                    refine pd_nil ?_
                    refine pn_seq ?_
                    exact pw_retN (T := tab) rfl rfl rfl ⟨rfl, rfl⟩ trivial rfl
                · refine pd_evs (T := tab) 44 rfl rfl ?_
                  refine pd_nil ?_
                  refine pn_seq ?_
                  exact pw_retN (T := tab) rfl rfl rfl ⟨rfl, rfl⟩ trivial rfl

def Name_Fit_m (fu : Nat) (s1 : Bs) : Option (Bs × Int) := bnd (Name_Right_m fu s1) fun r2 => cnd (!r2) (some ([], 4)) (bnd (Name_Small_m fu s1) fun r3 => some (r3, 0))

set_option maxRecDepth 100000 in
theorem Name_Fit_ok (fu : Nat) (s1 : Bs) : ∀ r, Name_Fit_m fu s1 = some r → DC Try.prog 71 [.v (.string ⟨⟨s1⟩⟩)] (.tup [.v (.string ⟨⟨r.1⟩⟩), .v (.int .i64 r.2)]) := by
  intro r hr
  refine fc_intro (args := [.v (.string ⟨⟨s1⟩⟩)]) (S := []) (N0 := []) (post := fun r p S => p = .tup [.v (.string ⟨⟨r.1⟩⟩), .v (.int .i64 r.2)] ∧ S = []) Try.func71 rfl rfl hr fun w0 X X0 σ0 => ?_
  refine pw_seq ?_
  refine pw_region ?_
  refine po_evs (T := tab) 2 rfl rfl ?_
  refine po_nil ?_
  refine pn_seq ?_
  refine pw_seq ?_
  refine pw_seq ?_
  refine pw_region ?_
  refine po_evs (T := tab) 1 rfl rfl ?_
  refine po_call (enc := fun (r2 : Bool) => .v (.bool r2)) (qs := [.v (.string ⟨⟨s1⟩⟩)]) (Name_Right_ok fu s1) rfl rfl ⟨⟨_, rfl, .rfl⟩, trivial⟩ (fun _ => rfl) call84 rfl rfl fun r2 hr2 => ?_
  refine po_evs (T := tab) 1 rfl rfl ?_
  refine po_nil ?_
  refine pn_seq ?_
  refine pw_cnd rfl ?_ ?_
  · refine pw_seq ?_
    refine pw_region ?_
    refine po_evs (T := tab) 2 rfl rfl ?_
    refine po_nil ?_
    refine pn_seq ?_
    exact pw_retN (T := tab) rfl rfl rfl ⟨rfl, rfl⟩ trivial rfl
  · refine pw_skip ?_
    refine pn_seq ?_
    refine pw_seq ?_
    refine pw_region ?_
    refine po_evs (T := tab) 1 rfl rfl ?_
    refine po_call (enc := fun (r3 : Bs) => .v (.string ⟨⟨r3⟩⟩)) (qs := [.v (.string ⟨⟨s1⟩⟩)]) (Name_Small_ok fu s1) rfl rfl ⟨⟨_, rfl, .rfl⟩, trivial⟩ (fun _ => rfl) call44 rfl rfl fun r3 hr3 => ?_
    refine po_evs (T := tab) 2 rfl rfl ?_
    refine po_nil ?_
    refine pn_seq ?_
    exact pw_retN (T := tab) rfl rfl rfl ⟨rfl, rfl⟩ trivial rfl

def World_Allowed_1_m (fu : Nat) (s1 : Bs) : Option Bool := bnd (Name_Fit_m fu s1) fun r2 => cnd (r2.2 != 0) (some true) (some (!(r2.1 == s1)))

set_option maxRecDepth 100000 in
theorem World_Allowed_1_ok (fu : Nat) (s1 : Bs) : ∀ r, World_Allowed_1_m fu s1 = some r → DC Try.prog 70 [.v (.string ⟨⟨s1⟩⟩)] (.v (.bool r)) := by
  intro r hr
  refine fc_intro (args := [.v (.string ⟨⟨s1⟩⟩)]) (S := []) (N0 := []) (post := fun r p S => p = .v (.bool r) ∧ S = []) Try.func70 rfl rfl hr fun w0 X X0 σ0 => ?_
  refine pw_seq ?_
  refine pw_region ?_
  refine po_evs (T := tab) 1 rfl rfl ?_
  refine po_nil ?_
  refine pn_seq ?_
  refine pw_seq ?_
  refine pw_region ?_
  refine po_evs (T := tab) 1 rfl rfl ?_
  refine po_call (enc := fun (r2 : (Bs × Int)) => .tup [.v (.string ⟨⟨r2.1⟩⟩), .v (.int .i64 r2.2)]) (qs := [.v (.string ⟨⟨s1⟩⟩)]) (Name_Fit_ok fu s1) rfl rfl ⟨⟨_, rfl, .rfl⟩, trivial⟩ (fun _ => rfl) call71 rfl rfl fun r2 hr2 => ?_
  refine po_evs (T := tab) 5 rfl rfl ?_
  refine po_nil ?_
  refine pn_seq ?_
  refine pw_seq ?_
  refine pw_region ?_
  refine po_evs (T := tab) 3 rfl rfl ?_
  refine po_split (j := 12) rfl ?_ ?_
  · refine po_evs (T := tab) 5 rfl rfl ?_
    refine po_nil ?_
    refine pn_seq ?_
    exact pw_retN (T := tab) rfl rfl rfl ⟨rfl, rfl⟩ trivial rfl
  · refine po_evs (T := tab) 5 rfl rfl ?_
    refine po_nil ?_
    refine pn_seq ?_
    exact pw_retN (T := tab) rfl rfl rfl ⟨rfl, rfl⟩ trivial rfl

def Slices_IndexFunc_string_l1 (t1 : Bs → Option Bool) (s1 : (List Bs)) : Nat → Int → Option Int
  | 0, _ => none
  | k1 + 1, t2 => cnd (decide (t2 < ((s1.length : Nat) : Int))) (bnd (idx s1 t2) fun y3 => bnd (t1 y3) fun r4 => cnd r4 (some t2) (bnd (rng .i64 (t2 + 1)) fun i5 => (Slices_IndexFunc_string_l1 t1 s1 k1) i5)) (some (-1))

def Slices_IndexFunc_string_m (fu : Nat) (t1 : Bs → Option Bool) (s1 : (List Bs)) : Option Int := (Slices_IndexFunc_string_l1 t1 s1) fu 0

set_option maxHeartbeats 10000000 in
set_option maxRecDepth 100000 in
theorem Slices_IndexFunc_string_ok (fu : Nat) (s1 : (List Bs)) : ∀ r, Slices_IndexFunc_string_m fu (fun (z1 : Bs) => World_Allowed_1_m fu z1) s1 = some r → DC Try.prog 92 [.sl 1 false (s1.map cStr), .fn (.func 70) [] []] (.v (.int .i64 r)) := by
  intro r hr
  refine fc_intro (args := [.sl 1 false (s1.map cStr), .fn (.func 70) [] []]) (S := []) (N0 := []) (post := fun r p S => p = .v (.int .i64 r) ∧ S = []) Try.func92 rfl rfl hr fun w0 X X0 σ0 => ?_
  refine pw_seq ?_
  refine pw_region ?_
  refine po_evs (T := tab) 1 rfl rfl ?_
  refine po_nil ?_
  refine pn_seq ?_
  refine pw_seq ?_
  refine pw_seq ?_
  refine pw_region ?_
  refine po_evs (T := tab) 1 rfl rfl ?_
  refine po_len (T := tab) cStr s1 rfl rfl rfl rfl rfl rfl rfl rfl ?_
  refine po_evs (T := tab) 1 rfl rfl ?_
  refine po_nil ?_
  refine pn_seq ?_
  refine pw_block ?_
  refine pw_loop' (Slices_IndexFunc_string_l1 (fun (z1 : Bs) => World_Allowed_1_m fu z1) s1) (fun (t2 : Int) => [(0, .sl 1 false (s1.map cStr)), (1, .fn (.func 70) [] []), (7, .v (.int .i64 ((s1.length : Nat) : Int))), (8, .v (.int .i64 t2))]) (fun (t2 : Int) => []) fu 0 (fun _ => rfl) ⟨rfl, rfl, rfl, rfl, trivial⟩ trivial rfl ?_
  rintro k1 t2
  refine pw_seq ?_
  refine pw_region ?_
  refine po_evs (T := tab) 1 rfl rfl ?_
  refine po_nil ?_
  refine pn_seq ?_
  refine pw_seq ?_
  refine pw_cnd rfl ?_ ?_
  · refine pw_skip ?_
    refine pn_seq ?_
    refine pw_seq ?_
    refine pw_block ?_
    refine pw_seq ?_
    refine pw_region ?_
    refine po_evs (T := tab) 2 rfl rfl ?_
    refine po_nil ?_
    refine pn_seq ?_
    refine pw_seq ?_
    refine pw_region ?_
    refine po_evs (T := tab) 3 rfl rfl ?_
    refine po_idx (T := tab) cStr s1 rfl rfl rfl rfl rfl rfl rfl fun y3 hy3 => ?_
    refine po_evs (T := tab) 1 rfl rfl ?_
    refine po_callv (enc := fun (r4 : Bool) => .v (.bool r4)) (first := []) (cap := []) (qs := [.v (.string ⟨⟨y3⟩⟩)]) (Sc := []) (World_Allowed_1_ok fu y3) (subS_of trivial rfl) rfl rfl rfl rfl ⟨⟨_, rfl, .rfl⟩, trivial⟩ (fun _ => rfl) call70 rfl rfl fun r4 hr4 => ?_
    refine po_nil ?_
    refine pn_seq ?_
    refine pw_cnd rfl ?_ ?_
    · refine pw_seq ?_
      refine pw_region ?_
      refine po_evs (T := tab) 2 rfl rfl ?_
      refine po_nil ?_
      refine pn_seq ?_
      exact pw_retN (T := tab) rfl rfl rfl ⟨rfl, rfl⟩ trivial rfl
    · refine pw_skip ?_
      refine pn_block ?_
      refine pn_seq ?_
      refine pw_region ?_
      refine po_arith' (T := tab) rfl rfl rfl rfl fun i5 hi5 => ?_
      refine po_evs (T := tab) 1 rfl rfl ?_
      refine po_nil ?_
      exact pn_iter' i5 ⟨rfl, rfl, rfl, rfl, trivial⟩ trivial rfl
  · refine pw_exit rfl ?_
    refine pn_seq ?_
    refine pw_seq ?_
    refine pw_region ?_
    refine po_evs (T := tab) 1 rfl rfl ?_
    refine po_nil ?_
    refine pn_seq ?_
    exact pw_retN (T := tab) rfl rfl rfl ⟨rfl, rfl⟩ trivial rfl

def Slices_ContainsFunc_string_m (fu : Nat) (t1 : Bs → Option Bool) (s1 : (List Bs)) : Option Bool := bnd (Slices_IndexFunc_string_m fu t1 s1) fun r2 => some (decide (r2 ≥ 0))

set_option maxRecDepth 100000 in
theorem Slices_ContainsFunc_string_ok (fu : Nat) (s1 : (List Bs)) : ∀ r, Slices_ContainsFunc_string_m fu (fun (z1 : Bs) => World_Allowed_1_m fu z1) s1 = some r → DC Try.prog 74 [.sl 1 false (s1.map cStr), .fn (.func 70) [] []] (.v (.bool r)) := by
  intro r hr
  refine fc_intro (args := [.sl 1 false (s1.map cStr), .fn (.func 70) [] []]) (S := []) (N0 := []) (post := fun r p S => p = .v (.bool r) ∧ S = []) Try.func74 rfl rfl hr fun w0 X X0 σ0 => ?_
  refine pw_seq ?_
  refine pw_region ?_
  refine po_evs (T := tab) 1 rfl rfl ?_
  refine po_nil ?_
  refine pn_seq ?_
  refine pw_seq ?_
  refine pw_region ?_
  refine po_evs (T := tab) 2 rfl rfl ?_
  refine po_call (enc := fun (r2 : Int) => .v (.int .i64 r2)) (qs := [.sl 1 false (s1.map cStr), .fn (.func 70) [] []]) (Slices_IndexFunc_string_ok fu s1) rfl rfl ⟨⟨_, rfl, .rfl⟩, ⟨_, rfl, .rfl⟩, trivial⟩ (fun _ => rfl) call92 rfl rfl fun r2 hr2 => ?_
  refine po_evs (T := tab) 2 rfl rfl ?_
  refine po_nil ?_
  refine pn_seq ?_
  exact pw_retN (T := tab) rfl rfl rfl ⟨rfl, rfl⟩ trivial rfl

def World_long_m (_fu : Nat) (l1 : (List Op)) : Option Bool := some (decide (((l1.length : Nat) : Int) > 60))

set_option maxRecDepth 100000 in
theorem World_long_ok (fu : Nat) (l1 : (List Op)) : ∀ r, World_long_m fu l1 = some r → DC Try.prog 73 [.sl 7 false (l1.map cOp)] (.v (.bool r)) := by
  intro r hr
  refine fc_intro (args := [.sl 7 false (l1.map cOp)]) (S := []) (N0 := []) (post := fun r p S => p = .v (.bool r) ∧ S = []) Try.func73 rfl rfl hr fun w0 X X0 σ0 => ?_
  refine pw_seq ?_
  refine pw_region ?_
  refine po_evs (T := tab) 1 rfl rfl ?_
  refine po_nil ?_
  refine pn_seq ?_
  refine pw_seq ?_
  refine pw_region ?_
  refine po_evs (T := tab) 1 rfl rfl ?_
  refine po_len (T := tab) cOp l1 rfl rfl rfl rfl rfl rfl rfl rfl ?_
  refine po_evs (T := tab) 2 rfl rfl ?_
  refine po_nil ?_
  refine pn_seq ?_
  exact pw_retN (T := tab) rfl rfl rfl ⟨rfl, rfl⟩ trivial rfl

def World_Allowed_2_m (fu : Nat) (h1 : Hook) : Option Bool := cnd (decide (h1.Kind < 1)) (some true) (cnd (decide (h1.Kind > 8)) (some true) (bnd (World_long_m fu h1.Do) fun r2 => some r2))

set_option maxRecDepth 100000 in
theorem World_Allowed_2_ok (fu : Nat) (h1 : Hook) : ∀ r, World_Allowed_2_m fu h1 = some r → DC Try.prog 72 [.agg (cHook h1)] (.v (.bool r)) := by
  intro r hr
  refine fc_intro (args := [.agg (cHook h1)]) (S := []) (N0 := []) (post := fun r p S => p = .v (.bool r) ∧ S = []) Try.func72 rfl rfl hr fun w0 X X0 σ0 => ?_
  refine pw_seq ?_
  refine pw_region ?_
  refine po_box  1 rfl rfl rfl rfl rfl rfl rfl rfl rfl rfl ?_
  refine po_evs (T := tab) 1 rfl rfl ?_
  refine po_nil ?_
  refine pn_seq ?_
  refine pw_seq ?_
  refine pw_region ?_
  refine po_evs (T := tab) 4 rfl rfl ?_
  refine po_split (j := 6) rfl ?_ ?_
  · refine po_evs (T := tab) 10 rfl rfl ?_
    refine po_nil ?_
    refine pn_seq ?_
    exact pw_retN (T := tab) rfl rfl rfl ⟨rfl, rfl⟩ trivial rfl
  · refine po_evs (T := tab) 5 rfl rfl ?_
    refine po_split (j := 11) rfl ?_ ?_
    · refine po_evs (T := tab) 5 rfl rfl ?_
      refine po_nil ?_
      refine pn_seq ?_
      exact pw_retN (T := tab) rfl rfl rfl ⟨rfl, rfl⟩ trivial rfl
    · refine po_evs (T := tab) 2 rfl rfl ?_
      refine po_call (enc := fun (r2 : Bool) => .v (.bool r2)) (qs := [.sl 7 false (h1.Do.map cOp)]) (World_long_ok fu h1.Do) rfl rfl ⟨⟨_, rfl, .rfl⟩, trivial⟩ (fun _ => rfl) call73 rfl rfl fun r2 hr2 => ?_
      refine po_evs (T := tab) 2 rfl rfl ?_
      refine po_nil ?_
      refine pn_seq ?_
      exact pw_retN (T := tab) rfl rfl rfl ⟨rfl, rfl⟩ trivial rfl

set_option maxHeartbeats 10000000 in
set_option maxRecDepth 100000 in
theorem Slices_IndexFunc_apiHook_i2_ok (fu : Nat) (s1 : (List Hook)) : ∀ r, Slices_IndexFunc_apiHook_m fu (fun (z1 : Hook) => World_Allowed_2_m fu z1) s1 = some r → DC Try.prog 58 [.sl 2 false (s1.map cHook), .fn (.func 72) [] []] (.v (.int .i64 r)) := by
  intro r hr
  refine fc_intro (args := [.sl 2 false (s1.map cHook), .fn (.func 72) [] []]) (S := []) (N0 := []) (post := fun r p S => p = .v (.int .i64 r) ∧ S = []) Try.func58 rfl rfl hr fun w0 X X0 σ0 => ?_
  refine pw_seq ?_
  refine pw_region ?_
  refine po_evs (T := tab) 1 rfl rfl ?_
  refine po_nil ?_
  refine pn_seq ?_
  refine pw_seq ?_
  refine pw_seq ?_
  refine pw_region ?_
  refine po_evs (T := tab) 1 rfl rfl ?_
  refine po_len (T := tab) cHook s1 rfl rfl rfl rfl rfl rfl rfl rfl ?_
  refine po_evs (T := tab) 1 rfl rfl ?_
  refine po_nil ?_
  refine pn_seq ?_
  refine pw_block ?_
  refine pw_loop' (Slices_IndexFunc_apiHook_l1 (fun (z1 : Hook) => World_Allowed_2_m fu z1) s1) (fun (t2 : Int) => [(0, .sl 2 false (s1.map cHook)), (1, .fn (.func 72) [] []), (7, .v (.int .i64 ((s1.length : Nat) : Int))), (8, .v (.int .i64 t2))]) (fun (t2 : Int) => []) fu 0 (fun _ => rfl) ⟨rfl, rfl, rfl, rfl, trivial⟩ trivial rfl ?_
  rintro k1 t2
  refine pw_seq ?_
  refine pw_region ?_
  refine po_evs (T := tab) 1 rfl rfl ?_
  refine po_nil ?_
  refine pn_seq ?_
  refine pw_seq ?_
  refine pw_cnd rfl ?_ ?_
  · refine pw_skip ?_
    refine pn_seq ?_
    refine pw_seq ?_
    refine pw_block ?_
    refine pw_seq ?_
    refine pw_region ?_
    refine po_evs (T := tab) 2 rfl rfl ?_
    refine po_nil ?_
    refine pn_seq ?_
    refine pw_seq ?_
    refine pw_region ?_
    refine po_evs (T := tab) 3 rfl rfl ?_
    refine po_idx (T := tab) cHook s1 rfl rfl rfl rfl rfl rfl rfl fun y3 hy3 => ?_
    refine po_evs (T := tab) 1 rfl rfl ?_
    refine po_callv (enc := fun (r4 : Bool) => .v (.bool r4)) (first := []) (cap := []) (qs := [.agg (cHook y3)]) (Sc := []) (World_Allowed_2_ok fu y3) (subS_of trivial rfl) rfl rfl rfl rfl ⟨⟨_, rfl, .rfl⟩, trivial⟩ (fun _ => rfl) call72 rfl rfl fun r4 hr4 => ?_
    refine po_nil ?_
    refine pn_seq ?_
    refine pw_cnd rfl ?_ ?_
    · refine pw_seq ?_
      refine pw_region ?_
      refine po_evs (T := tab) 2 rfl rfl ?_
      refine po_nil ?_
      refine pn_seq ?_
      exact pw_retN (T := tab) rfl rfl rfl ⟨rfl, rfl⟩ trivial rfl
    · refine pw_skip ?_
      refine pn_block ?_
      refine pn_seq ?_
      refine pw_region ?_
      refine po_arith' (T := tab) rfl rfl rfl rfl fun i5 hi5 => ?_
      refine po_evs (T := tab) 1 rfl rfl ?_
      refine po_nil ?_
      exact pn_iter' i5 ⟨rfl, rfl, rfl, rfl, trivial⟩ trivial rfl
  · refine pw_exit rfl ?_
    refine pn_seq ?_
    refine pw_seq ?_
    refine pw_region ?_
    refine po_evs (T := tab) 1 rfl rfl ?_
    refine po_nil ?_
    refine pn_seq ?_
    exact pw_retN (T := tab) rfl rfl rfl ⟨rfl, rfl⟩ trivial rfl

set_option maxRecDepth 100000 in
theorem Slices_ContainsFunc_apiHook_i2_ok (fu : Nat) (s1 : (List Hook)) : ∀ r, Slices_ContainsFunc_apiHook_m fu (fun (z1 : Hook) => World_Allowed_2_m fu z1) s1 = some r → DC Try.prog 30 [.sl 2 false (s1.map cHook), .fn (.func 72) [] []] (.v (.bool r)) := by
  intro r hr
  refine fc_intro (args := [.sl 2 false (s1.map cHook), .fn (.func 72) [] []]) (S := []) (N0 := []) (post := fun r p S => p = .v (.bool r) ∧ S = []) Try.func30 rfl rfl hr fun w0 X X0 σ0 => ?_
  refine pw_seq ?_
  refine pw_region ?_
  refine po_evs (T := tab) 1 rfl rfl ?_
  refine po_nil ?_
  refine pn_seq ?_
  refine pw_seq ?_
  refine pw_region ?_
  refine po_evs (T := tab) 2 rfl rfl ?_
  refine po_call (enc := fun (r2 : Int) => .v (.int .i64 r2)) (qs := [.sl 2 false (s1.map cHook), .fn (.func 72) [] []]) (Slices_IndexFunc_apiHook_i2_ok fu s1) rfl rfl ⟨⟨_, rfl, .rfl⟩, ⟨_, rfl, .rfl⟩, trivial⟩ (fun _ => rfl) call58 rfl rfl fun r2 hr2 => ?_
  refine po_evs (T := tab) 2 rfl rfl ?_
  refine po_nil ?_
  refine pn_seq ?_
  exact pw_retN (T := tab) rfl rfl rfl ⟨rfl, rfl⟩ trivial rfl

def World_Allowed_m (fu : Nat) (c1 : Class) : Option Bool := cnd (decide (((c1.Watch.length : Nat) : Int) ≤ 12)) (bnd (Slices_ContainsFunc_string_m fu (fun (z1 : Bs) => World_Allowed_1_m fu z1) c1.Watch) fun r2 => cnd (!r2) (cnd (decide (((c1.Hooks.length : Nat) : Int) ≤ 12)) (bnd (Slices_ContainsFunc_apiHook_m fu (fun (z1 : Hook) => World_Allowed_2_m fu z1) c1.Hooks) fun r3 => cnd (!r3) (bnd (World_long_m fu c1.Peek) fun r4 => cnd (!r4) (bnd (World_long_m fu c1.Make) fun r5 => some (!r5)) (some false)) (some false)) (some false)) (some false)) (some false)

set_option maxHeartbeats 10000000 in
set_option maxRecDepth 100000 in
theorem World_Allowed_ok (fu : Nat) (c1 : Class) : ∀ r, World_Allowed_m fu c1 = some r → DC Try.prog 53 [.agg (cClass c1)] (.v (.bool r)) := by
  intro r hr
  refine fc_intro (args := [.agg (cClass c1)]) (S := []) (N0 := []) (post := fun r p S => p = .v (.bool r) ∧ S = []) Try.func53 rfl rfl hr fun w0 X X0 σ0 => ?_
  refine pw_seq ?_
  refine pw_region ?_
  refine po_box  1 rfl rfl rfl rfl rfl rfl rfl rfl rfl rfl ?_
  refine po_evs (T := tab) 1 rfl rfl ?_
  refine po_nil ?_
  refine pn_seq ?_
  refine pw_seq ?_
  refine pw_region ?_
  refine po_evs (T := tab) 1 rfl rfl ?_
  refine po_nil ?_
  refine pn_seq ?_
  refine pw_seq ?_
  refine pw_region ?_
  refine po_evs (T := tab) 1 rfl rfl ?_
  refine po_nil ?_
  refine pn_seq ?_
  refine pw_seq ?_
  refine pw_region ?_
  refine po_evs (T := tab) 2 rfl rfl ?_
  refine po_len (T := tab) cStr c1.Watch rfl rfl rfl rfl rfl rfl rfl rfl ?_
  refine po_evs (T := tab) 2 rfl rfl ?_
  refine po_split (j := 9) rfl ?_ ?_
  · refine po_evs (T := tab) 3 rfl rfl ?_
    refine po_call (enc := fun (r2 : Bool) => .v (.bool r2)) (qs := [.sl 1 false (c1.Watch.map cStr), .fn (.func 70) [] []]) (Slices_ContainsFunc_string_ok fu c1.Watch) rfl rfl ⟨⟨_, rfl, .rfl⟩, ⟨_, rfl, .rfl⟩, trivial⟩ (fun _ => rfl) call74 rfl rfl fun r2 hr2 => ?_
    refine po_evs (T := tab) 3 rfl rfl ?_
    refine po_split (j := 16) rfl ?_ ?_
    · refine po_evs (T := tab) 2 rfl rfl ?_
      refine po_len (T := tab) cHook c1.Hooks rfl rfl rfl rfl rfl rfl rfl rfl ?_
      refine po_evs (T := tab) 3 rfl rfl ?_
      refine po_split (j := 22) rfl ?_ ?_
      · refine po_evs (T := tab) 3 rfl rfl ?_
        refine po_call (enc := fun (r3 : Bool) => .v (.bool r3)) (qs := [.sl 2 false (c1.Hooks.map cHook), .fn (.func 72) [] []]) (Slices_ContainsFunc_apiHook_i2_ok fu c1.Hooks) rfl rfl ⟨⟨_, rfl, .rfl⟩, ⟨_, rfl, .rfl⟩, trivial⟩ (fun _ => rfl) call30 rfl rfl fun r3 hr3 => ?_
        refine po_evs (T := tab) 3 rfl rfl ?_
        refine po_split (j := 29) rfl ?_ ?_
        · refine po_evs (T := tab) 2 rfl rfl ?_
          refine po_call (enc := fun (r4 : Bool) => .v (.bool r4)) (qs := [.sl 7 false (c1.Peek.map cOp)]) (World_long_ok fu c1.Peek) rfl rfl ⟨⟨_, rfl, .rfl⟩, trivial⟩ (fun _ => rfl) call73 rfl rfl fun r4 hr4 => ?_
          refine po_evs (T := tab) 3 rfl rfl ?_
          refine po_split (j := 35) rfl ?_ ?_
          · refine po_evs (T := tab) 2 rfl rfl ?_
            refine po_call (enc := fun (r5 : Bool) => .v (.bool r5)) (qs := [.sl 7 false (c1.Make.map cOp)]) (World_long_ok fu c1.Make) rfl rfl ⟨⟨_, rfl, .rfl⟩, trivial⟩ (fun _ => rfl) call73 rfl rfl fun r5 hr5 => ?_
            refine po_evs (T := tab) 3 rfl rfl ?_
            refine po_nil ?_
            refine pn_seq ?_
            exact pw_retN (T := tab) rfl rfl rfl ⟨rfl, rfl⟩ trivial rfl
          · refine po_evs (T := tab) 6 rfl rfl ?_
            refine po_nil ?_
            refine pn_seq ?_
            exact pw_retN (T := tab) rfl rfl rfl ⟨rfl, rfl⟩ trivial rfl
        · refine po_evs (T := tab) 12 rfl rfl ?_
          refine po_nil ?_
          refine pn_seq ?_
          exact pw_retN (T := tab) rfl rfl rfl ⟨rfl, rfl⟩ trivial rfl
      · refine po_evs (T := tab) 19 rfl rfl ?_
        refine po_nil ?_
        refine pn_seq ?_
        exact pw_retN (T := tab) rfl rfl rfl ⟨rfl, rfl⟩ trivial rfl
    · refine po_evs (T := tab) 25 rfl rfl ?_
      refine po_nil ?_
      refine pn_seq ?_
      exact pw_retN (T := tab) rfl rfl rfl ⟨rfl, rfl⟩ trivial rfl
  · refine po_evs (T := tab) 32 rfl rfl ?_
    refine po_nil ?_
    refine pn_seq ?_
    exact pw_retN (T := tab) rfl rfl rfl ⟨rfl, rfl⟩ trivial rfl

def Engine_Allowed_1_m (fu : Nat) (c1 : Class) : Option Bool := bnd (World_Allowed_m fu c1) fun r2 => some (!r2)

set_option maxRecDepth 100000 in
theorem Engine_Allowed_1_ok (fu : Nat) (c1 : Class) : ∀ r, Engine_Allowed_1_m fu c1 = some r → DC Try.prog 52 [.agg (cClass c1)] (.v (.bool r)) := by
  intro r hr
  refine fc_intro (args := [.agg (cClass c1)]) (S := []) (N0 := []) (post := fun r p S => p = .v (.bool r) ∧ S = []) Try.func52 rfl rfl hr fun w0 X X0 σ0 => ?_
  refine pw_seq ?_
  refine pw_region ?_
  refine po_box  1 rfl rfl rfl rfl rfl rfl rfl rfl rfl rfl ?_
  refine po_evs (T := tab) 1 rfl rfl ?_
  refine po_nil ?_
  refine pn_seq ?_
  refine pw_seq ?_
  refine pw_region ?_
  refine po_evs (T := tab) 1 rfl rfl ?_
  refine po_call (enc := fun (r2 : Bool) => .v (.bool r2)) (qs := [.agg (cClass c1)]) (World_Allowed_ok fu c1) rfl rfl ⟨⟨_, rfl, .rfl⟩, trivial⟩ (fun _ => rfl) call53 rfl rfl fun r2 hr2 => ?_
  refine po_evs (T := tab) 2 rfl rfl ?_
  refine po_nil ?_
  refine pn_seq ?_
  exact pw_retN (T := tab) rfl rfl rfl ⟨rfl, rfl⟩ trivial rfl

def Slices_IndexFunc_apiClass_l1 (t1 : Class → Option Bool) (s1 : (List Class)) : Nat → Int → Option Int
  | 0, _ => none
  | k1 + 1, t2 => cnd (decide (t2 < ((s1.length : Nat) : Int))) (bnd (idx s1 t2) fun y3 => bnd (t1 y3) fun r4 => cnd r4 (some t2) (bnd (rng .i64 (t2 + 1)) fun i5 => (Slices_IndexFunc_apiClass_l1 t1 s1 k1) i5)) (some (-1))

def Slices_IndexFunc_apiClass_m (fu : Nat) (t1 : Class → Option Bool) (s1 : (List Class)) : Option Int := (Slices_IndexFunc_apiClass_l1 t1 s1) fu 0

set_option maxHeartbeats 10000000 in
set_option maxRecDepth 100000 in
theorem Slices_IndexFunc_apiClass_ok (fu : Nat) (s1 : (List Class)) : ∀ r, Slices_IndexFunc_apiClass_m fu (fun (z1 : Class) => Engine_Allowed_1_m fu z1) s1 = some r → DC Try.prog 75 [.sl 5 false (s1.map cClass), .fn (.func 52) [] []] (.v (.int .i64 r)) := by
  intro r hr
  refine fc_intro (args := [.sl 5 false (s1.map cClass), .fn (.func 52) [] []]) (S := []) (N0 := []) (post := fun r p S => p = .v (.int .i64 r) ∧ S = []) Try.func75 rfl rfl hr fun w0 X X0 σ0 => ?_
  refine pw_seq ?_
  refine pw_region ?_
  refine po_evs (T := tab) 1 rfl rfl ?_
  refine po_nil ?_
  refine pn_seq ?_
  refine pw_seq ?_
  refine pw_seq ?_
  refine pw_region ?_
  refine po_evs (T := tab) 1 rfl rfl ?_
  refine po_len (T := tab) cClass s1 rfl rfl rfl rfl rfl rfl rfl rfl ?_
  refine po_evs (T := tab) 1 rfl rfl ?_
  refine po_nil ?_
  refine pn_seq ?_
  refine pw_block ?_
  refine pw_loop' (Slices_IndexFunc_apiClass_l1 (fun (z1 : Class) => Engine_Allowed_1_m fu z1) s1) (fun (t2 : Int) => [(0, .sl 5 false (s1.map cClass)), (1, .fn (.func 52) [] []), (7, .v (.int .i64 ((s1.length : Nat) : Int))), (8, .v (.int .i64 t2))]) (fun (t2 : Int) => []) fu 0 (fun _ => rfl) ⟨rfl, rfl, rfl, rfl, trivial⟩ trivial rfl ?_
  rintro k1 t2
  refine pw_seq ?_
  refine pw_region ?_
  refine po_evs (T := tab) 1 rfl rfl ?_
  refine po_nil ?_
  refine pn_seq ?_
  refine pw_seq ?_
  refine pw_cnd rfl ?_ ?_
  · refine pw_skip ?_
    refine pn_seq ?_
    refine pw_seq ?_
    refine pw_block ?_
    refine pw_seq ?_
    refine pw_region ?_
    refine po_evs (T := tab) 2 rfl rfl ?_
    refine po_nil ?_
    refine pn_seq ?_
    refine pw_seq ?_
    refine pw_region ?_
    refine po_evs (T := tab) 3 rfl rfl ?_
    refine po_idx (T := tab) cClass s1 rfl rfl rfl rfl rfl rfl rfl fun y3 hy3 => ?_
    refine po_evs (T := tab) 1 rfl rfl ?_
    refine po_callv (enc := fun (r4 : Bool) => .v (.bool r4)) (first := []) (cap := []) (qs := [.agg (cClass y3)]) (Sc := []) (Engine_Allowed_1_ok fu y3) (subS_of trivial rfl) rfl rfl rfl rfl ⟨⟨_, rfl, .rfl⟩, trivial⟩ (fun _ => rfl) call52 rfl rfl fun r4 hr4 => ?_
    refine po_nil ?_
    refine pn_seq ?_
    refine pw_cnd rfl ?_ ?_
    · refine pw_seq ?_
      refine pw_region ?_
      refine po_evs (T := tab) 2 rfl rfl ?_
      refine po_nil ?_
      refine pn_seq ?_
      exact pw_retN (T := tab) rfl rfl rfl ⟨rfl, rfl⟩ trivial rfl
    · refine pw_skip ?_
      refine pn_block ?_
      refine pn_seq ?_
      refine pw_region ?_
      refine po_arith' (T := tab) rfl rfl rfl rfl fun i5 hi5 => ?_
      refine po_evs (T := tab) 1 rfl rfl ?_
      refine po_nil ?_
      exact pn_iter' i5 ⟨rfl, rfl, rfl, rfl, trivial⟩ trivial rfl
  · refine pw_exit rfl ?_
    refine pn_seq ?_
    refine pw_seq ?_
    refine pw_region ?_
    refine po_evs (T := tab) 1 rfl rfl ?_
    refine po_nil ?_
    refine pn_seq ?_
    exact pw_retN (T := tab) rfl rfl rfl ⟨rfl, rfl⟩ trivial rfl

def Slices_ContainsFunc_apiClass_m (fu : Nat) (t1 : Class → Option Bool) (s1 : (List Class)) : Option Bool := bnd (Slices_IndexFunc_apiClass_m fu t1 s1) fun r2 => some (decide (r2 ≥ 0))

set_option maxRecDepth 100000 in
theorem Slices_ContainsFunc_apiClass_ok (fu : Nat) (s1 : (List Class)) : ∀ r, Slices_ContainsFunc_apiClass_m fu (fun (z1 : Class) => Engine_Allowed_1_m fu z1) s1 = some r → DC Try.prog 54 [.sl 5 false (s1.map cClass), .fn (.func 52) [] []] (.v (.bool r)) := by
  intro r hr
  refine fc_intro (args := [.sl 5 false (s1.map cClass), .fn (.func 52) [] []]) (S := []) (N0 := []) (post := fun r p S => p = .v (.bool r) ∧ S = []) Try.func54 rfl rfl hr fun w0 X X0 σ0 => ?_
  refine pw_seq ?_
  refine pw_region ?_
  refine po_evs (T := tab) 1 rfl rfl ?_
  refine po_nil ?_
  refine pn_seq ?_
  refine pw_seq ?_
  refine pw_region ?_
  refine po_evs (T := tab) 2 rfl rfl ?_
  refine po_call (enc := fun (r2 : Int) => .v (.int .i64 r2)) (qs := [.sl 5 false (s1.map cClass), .fn (.func 52) [] []]) (Slices_IndexFunc_apiClass_ok fu s1) rfl rfl ⟨⟨_, rfl, .rfl⟩, ⟨_, rfl, .rfl⟩, trivial⟩ (fun _ => rfl) call75 rfl rfl fun r2 hr2 => ?_
  refine po_evs (T := tab) 2 rfl rfl ?_
  refine po_nil ?_
  refine pn_seq ?_
  exact pw_retN (T := tab) rfl rfl rfl ⟨rfl, rfl⟩ trivial rfl

def Engine_Allowed_m (fu : Nat) (s1 : Script) : Option Bool := cnd (decide (((s1.Classes.length : Nat) : Int) ≤ 12)) (bnd (Slices_ContainsFunc_apiClass_m fu (fun (z1 : Class) => Engine_Allowed_1_m fu z1) s1.Classes) fun r2 => cnd (!r2) (some (decide (((s1.Main.length : Nat) : Int) ≤ 300))) (some false)) (some false)

set_option maxRecDepth 100000 in
theorem Engine_Allowed_ok (fu : Nat) (s1 : Script) : ∀ r, Engine_Allowed_m fu s1 = some r → DC Try.prog 24 [.agg (cScript s1)] (.v (.bool r)) := by
  intro r hr
  refine fc_intro (args := [.agg (cScript s1)]) (S := []) (N0 := []) (post := fun r p S => p = .v (.bool r) ∧ S = []) Try.func24 rfl rfl hr fun w0 X X0 σ0 => ?_
  refine pw_seq ?_
  refine pw_region ?_
  refine po_box  1 rfl rfl rfl rfl rfl rfl rfl rfl rfl rfl ?_
  refine po_evs (T := tab) 1 rfl rfl ?_
  refine po_nil ?_
  refine pn_seq ?_
  refine pw_seq ?_
  refine pw_region ?_
  refine po_evs (T := tab) 1 rfl rfl ?_
  refine po_nil ?_
  refine pn_seq ?_
  refine pw_seq ?_
  refine pw_region ?_
  refine po_evs (T := tab) 2 rfl rfl ?_
  refine po_len (T := tab) cClass s1.Classes rfl rfl rfl rfl rfl rfl rfl rfl ?_
  refine po_evs (T := tab) 2 rfl rfl ?_
  refine po_split (j := 8) rfl ?_ ?_
  · refine po_evs (T := tab) 3 rfl rfl ?_
    refine po_call (enc := fun (r2 : Bool) => .v (.bool r2)) (qs := [.sl 5 false (s1.Classes.map cClass), .fn (.func 52) [] []]) (Slices_ContainsFunc_apiClass_ok fu s1.Classes) rfl rfl ⟨⟨_, rfl, .rfl⟩, ⟨_, rfl, .rfl⟩, trivial⟩ (fun _ => rfl) call54 rfl rfl fun r2 hr2 => ?_
    refine po_evs (T := tab) 3 rfl rfl ?_
    refine po_split (j := 15) rfl ?_ ?_
    · refine po_evs (T := tab) 2 rfl rfl ?_
      refine po_len (T := tab) cOp s1.Main rfl rfl rfl rfl rfl rfl rfl rfl ?_
      refine po_evs (T := tab) 3 rfl rfl ?_
      refine po_nil ?_
      refine pn_seq ?_
      exact pw_retN (T := tab) rfl rfl rfl ⟨rfl, rfl⟩ trivial rfl
    · refine po_evs (T := tab) 6 rfl rfl ?_
      refine po_nil ?_
      refine pn_seq ?_
      exact pw_retN (T := tab) rfl rfl rfl ⟨rfl, rfl⟩ trivial rfl
  · refine po_evs (T := tab) 13 rfl rfl ?_
    refine po_nil ?_
    refine pn_seq ?_
    exact pw_retN (T := tab) rfl rfl rfl ⟨rfl, rfl⟩ trivial rfl

def Instarlaw25_LabKeeps_j2 (fu : Nat) (s1 : Script) (r8 : Script) (r9 : Script) (i25 : Int) (rc2 : Int → Option Bool) (from26 : Int) : Option Bool := bnd (idx r8.Classes i25) fun y27 => bnd (Lab_Calm_m fu y27) fun r28 => bnd (idx s1.Classes from26) fun y29 => bnd (Lab_Calm_m fu y29) fun r30 => cnd (!(r28 == r30)) (some false) (bnd (idx r9.Classes i25) fun y31 => bnd (Lab_Calm_m fu y31) fun r32 => bnd (idx s1.Classes i25) fun y33 => bnd (Lab_Calm_m fu y33) fun r34 => cnd (!(r32 == r34)) (some false) (bnd (idx r8.Classes i25) fun y35 => bnd (idx s1.Classes from26) fun y36 => cnd (!(y35.Form == y36.Form)) (some false) (bnd (idx r8.Classes i25) fun y37 => bnd (idx s1.Classes from26) fun y38 => cnd (((y37.Hooks.length : Nat) : Int) != ((y38.Hooks.length : Nat) : Int)) (some false) (bnd (rng .i64 (i25 + 1)) fun i39 => rc2 i39))))

def Instarlaw25_LabKeeps_l2 (fu : Nat) (s1 : Script) (a2 : Int) (b3 : Int) (r8 : Script) (r9 : Script) (in24 : Bool) : Nat → Int → Option Bool
  | 0, _ => none
  | k2 + 1, i25 => cnd (decide (i25 < ((s1.Classes.length : Nat) : Int))) (cnd in24 (cnd (i25 == a2) ((Instarlaw25_LabKeeps_j2 fu s1 r8 r9 i25 (Instarlaw25_LabKeeps_l2 fu s1 a2 b3 r8 r9 in24 k2)) b3) (cnd in24 (cnd (i25 == b3) ((Instarlaw25_LabKeeps_j2 fu s1 r8 r9 i25 (Instarlaw25_LabKeeps_l2 fu s1 a2 b3 r8 r9 in24 k2)) a2) ((Instarlaw25_LabKeeps_j2 fu s1 r8 r9 i25 (Instarlaw25_LabKeeps_l2 fu s1 a2 b3 r8 r9 in24 k2)) i25)) ((Instarlaw25_LabKeeps_j2 fu s1 r8 r9 i25 (Instarlaw25_LabKeeps_l2 fu s1 a2 b3 r8 r9 in24 k2)) i25))) (cnd in24 (cnd (i25 == b3) ((Instarlaw25_LabKeeps_j2 fu s1 r8 r9 i25 (Instarlaw25_LabKeeps_l2 fu s1 a2 b3 r8 r9 in24 k2)) a2) ((Instarlaw25_LabKeeps_j2 fu s1 r8 r9 i25 (Instarlaw25_LabKeeps_l2 fu s1 a2 b3 r8 r9 in24 k2)) i25)) ((Instarlaw25_LabKeeps_j2 fu s1 r8 r9 i25 (Instarlaw25_LabKeeps_l2 fu s1 a2 b3 r8 r9 in24 k2)) i25))) (some true)

def Instarlaw25_LabKeeps_j1 (fu : Nat) (s1 : Script) (a2 : Int) (b3 : Int) (r8 : Script) (r9 : Script) (in24 : Bool) : Option Bool := (Instarlaw25_LabKeeps_l2 fu s1 a2 b3 r8 r9 in24) fu 0

def Instarlaw25_LabKeeps_l1 (fu : Nat) (s1 : Script) (a2 : Int) (b3 : Int) (r8 : Script) (r9 : Script) : Nat → Int → Option Bool
  | 0, _ => none
  | k1 + 1, i14 => cnd (decide (i14 < ((s1.Main.length : Nat) : Int))) (bnd (idx r8.Main i14) fun y15 => bnd (idx s1.Main i14) fun y16 => cnd (y15.Kind != y16.Kind) (some false) (bnd (idx r9.Main i14) fun y17 => bnd (idx s1.Main i14) fun y18 => cnd (y17.Kind != y18.Kind) (some false) (bnd (idx r8.Main i14) fun y19 => bnd (idx s1.Main i14) fun y20 => cnd (!(y19.S == y20.S)) (some false) (bnd (idx r9.Main i14) fun y21 => bnd (idx s1.Main i14) fun y22 => cnd (y21.A != y22.A) (some false) (bnd (rng .i64 (i14 + 1)) fun i23 => (Instarlaw25_LabKeeps_l1 fu s1 a2 b3 r8 r9 k1) i23))))) (cnd (decide (a2 ≥ 0)) (cnd (decide (b3 ≥ 0)) (cnd (decide (a2 < ((s1.Classes.length : Nat) : Int))) ((Instarlaw25_LabKeeps_j1 fu s1 a2 b3 r8 r9) (decide (b3 < ((s1.Classes.length : Nat) : Int)))) ((Instarlaw25_LabKeeps_j1 fu s1 a2 b3 r8 r9) false)) ((Instarlaw25_LabKeeps_j1 fu s1 a2 b3 r8 r9) false)) ((Instarlaw25_LabKeeps_j1 fu s1 a2 b3 r8 r9) false))

def Instarlaw25_LabKeeps_m (fu : Nat) (s1 : Script) (a2 : Int) (b3 : Int) (x4 : Bs) (y5 : Bs) : Option Bool := bnd (Instarlaw25_awake_m fu) fun r6 => cnd (!r6) (some false) (bnd (Instarlaw25_few_m fu s1) fun r7 => cnd (!r7) (some true) (cnd (decide (((x4.length : Nat) : Int) > 300)) (some true) (cnd (decide (((y5.length : Nat) : Int) > 300)) (some true) (bnd (Lab_Classes_m fu s1 a2 b3) fun r8 => bnd (Lab_Names_m fu s1 x4 y5) fun r9 => bnd (Engine_Allowed_m fu r8) fun r10 => bnd (Engine_Allowed_m fu s1) fun r11 => cnd (!(r10 == r11)) (some false) (bnd (Engine_Allowed_m fu r9) fun r12 => bnd (Engine_Allowed_m fu s1) fun r13 => cnd (!(r12 == r13)) (some false) (cnd (((r8.Main.length : Nat) : Int) != ((s1.Main.length : Nat) : Int)) (some false) (cnd (((r9.Main.length : Nat) : Int) != ((s1.Main.length : Nat) : Int)) (some false) (cnd (((r8.Classes.length : Nat) : Int) != ((s1.Classes.length : Nat) : Int)) (some false) (cnd (((r9.Classes.length : Nat) : Int) != ((s1.Classes.length : Nat) : Int)) (some false) ((Instarlaw25_LabKeeps_l1 fu s1 a2 b3 r8 r9) fu 0))))))))))

end Go.Proofs.Ytcojcgljfgljjaa
