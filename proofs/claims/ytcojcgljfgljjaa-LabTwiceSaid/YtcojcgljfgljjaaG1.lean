/- Models and proofs, printed by emit2.py. -/
import Derived.Test.YtcojcgljfgljjaaData
namespace Go.Proofs.Ytcojcgljfgljjaa
open Go Go.Pw
set_option linter.unusedVariables false

def Slices_Clone_apiClass_m (_fu : Nat) (s1 : (List Class)) : Option (List Class) := bnd (roomy 104 (([] : List Class).length + s1.length)) fun _ => some (([] : List Class) ++ s1)

set_option maxRecDepth 100000 in
theorem Slices_Clone_apiClass_ok (fu : Nat) (s1 : (List Class)) : ∀ r, Slices_Clone_apiClass_m fu s1 = some r → FC Try.prog 60 [.sl 5 false (s1.map cClass)] [] [] fun p S' => p = .own 5 ∧ S' = [(5, .arr 37 5 (r.map cClass))] := by
  intro r hr
  refine fc_intro (args := [.sl 5 false (s1.map cClass)]) (S := []) (N0 := []) (post := fun r p S => p = .own 5 ∧ S = [(5, .arr 37 5 (r.map cClass))]) Try.func60 rfl rfl hr fun w0 X X0 σ0 => ?_
  refine pw_seq ?_
  refine pw_region ?_
  refine po_evs (T := tab) 1 rfl rfl ?_
  refine po_nil ?_
  refine pn_seq ?_
  refine pw_seq ?_
  refine pw_seq ?_
  refine pw_region ?_
  refine po_evs (T := tab) 1 rfl rfl ?_
  refine po_isnil (T := tab) rfl rfl rfl rfl rfl rfl fun b hb => ?_
  cases b
  · refine po_nil ?_
    refine pn_seq ?_
    refine pw_else rfl ?_
    refine pw_skip ?_
    refine pn_seq ?_
    refine pw_seq ?_
    refine pw_region ?_
    refine po_lit (T := tab) (rows := ([] : List Class).map cClass) 5 rfl rfl rfl rfl rfl rfl rfl rfl rfl rfl rfl rfl rfl rfl ?_
    refine po_evs (T := tab) 1 rfl rfl ?_
    refine po_append (T := tab) cClass ([] : List Class) s1 rfl rfl rfl rfl rfl rfl rfl rfl rfl rfl rfl rfl rfl rfl (cClass_one _) rfl rfl rfl rfl rfl ?_
    refine po_evs (T := tab) 1 rfl rfl ?_
    refine po_nil ?_
    refine pn_seq ?_
    exact pw_retN (T := tab) rfl rfl rfl ⟨rfl, rfl⟩ ⟨rfl, trivial⟩ rfl
  · have h0 : s1 = [] := List.map_eq_nil_iff.1 (hb rfl)
    refine po_conv (m' := some ([] : List Class)) (by subst h0; rfl) ?_
    refine po_nil ?_
    refine pn_seq ?_
    refine pw_then rfl ?_
    refine pw_seq ?_
    refine pw_region ?_
    refine po_evs (T := tab) 1 rfl rfl ?_
    refine po_nil ?_
    refine pn_seq ?_
    refine pw_own_nil 5 37 5 2 rfl rfl rfl rfl ?_
    exact pw_retN (T := tab) rfl rfl rfl ⟨rfl, rfl⟩ ⟨rfl, trivial⟩ rfl

def Slices_Clone_apiOp_m (_fu : Nat) (s1 : (List Op)) : Option (List Op) := bnd (roomy 72 (([] : List Op).length + s1.length)) fun _ => some (([] : List Op) ++ s1)

set_option maxRecDepth 100000 in
theorem Slices_Clone_apiOp_ok (fu : Nat) (s1 : (List Op)) : ∀ r, Slices_Clone_apiOp_m fu s1 = some r → FC Try.prog 83 [.sl 7 false (s1.map cOp)] [] [] fun p S' => p = .own 5 ∧ S' = [(5, .arr 48 7 (r.map cOp))] := by
  intro r hr
  refine fc_intro (args := [.sl 7 false (s1.map cOp)]) (S := []) (N0 := []) (post := fun r p S => p = .own 5 ∧ S = [(5, .arr 48 7 (r.map cOp))]) Try.func83 rfl rfl hr fun w0 X X0 σ0 => ?_
  refine pw_seq ?_
  refine pw_region ?_
  refine po_evs (T := tab) 1 rfl rfl ?_
  refine po_nil ?_
  refine pn_seq ?_
  refine pw_seq ?_
  refine pw_seq ?_
  refine pw_region ?_
  refine po_evs (T := tab) 1 rfl rfl ?_
  refine po_isnil (T := tab) rfl rfl rfl rfl rfl rfl fun b hb => ?_
  cases b
  · refine po_nil ?_
    refine pn_seq ?_
    refine pw_else rfl ?_
    refine pw_skip ?_
    refine pn_seq ?_
    refine pw_seq ?_
    refine pw_region ?_
    refine po_lit (T := tab) (rows := ([] : List Op).map cOp) 5 rfl rfl rfl rfl rfl rfl rfl rfl rfl rfl rfl rfl rfl rfl ?_
    refine po_evs (T := tab) 1 rfl rfl ?_
    refine po_append (T := tab) cOp ([] : List Op) s1 rfl rfl rfl rfl rfl rfl rfl rfl rfl rfl rfl rfl rfl rfl (cOp_one _) rfl rfl rfl rfl rfl ?_
    refine po_evs (T := tab) 1 rfl rfl ?_
    refine po_nil ?_
    refine pn_seq ?_
    exact pw_retN (T := tab) rfl rfl rfl ⟨rfl, rfl⟩ ⟨rfl, trivial⟩ rfl
  · have h0 : s1 = [] := List.map_eq_nil_iff.1 (hb rfl)
    refine po_conv (m' := some ([] : List Op)) (by subst h0; rfl) ?_
    refine po_nil ?_
    refine pn_seq ?_
    refine pw_then rfl ?_
    refine pw_seq ?_
    refine pw_region ?_
    refine po_evs (T := tab) 1 rfl rfl ?_
    refine po_nil ?_
    refine pn_seq ?_
    refine pw_own_nil 5 48 7 2 rfl rfl rfl rfl ?_
    exact pw_retN (T := tab) rfl rfl rfl ⟨rfl, rfl⟩ ⟨rfl, trivial⟩ rfl

def Lab_other_int_m (_fu : Nat) (x1 : Int) (a2 : Int) (b3 : Int) : Option Int := cnd (x1 == a2) (some b3) (cnd (x1 == b3) (some a2) (some x1))

set_option maxRecDepth 100000 in
theorem Lab_other_int_ok (fu : Nat) (x1 : Int) (a2 : Int) (b3 : Int) : ∀ r, Lab_other_int_m fu x1 a2 b3 = some r → DC Try.prog 37 [.v (.int .i64 x1), .v (.int .i64 a2), .v (.int .i64 b3)] (.v (.int .i64 r)) := by
  intro r hr
  refine fc_intro (args := [.v (.int .i64 x1), .v (.int .i64 a2), .v (.int .i64 b3)]) (S := []) (N0 := []) (post := fun r p S => p = .v (.int .i64 r) ∧ S = []) Try.func37 rfl rfl hr fun w0 X X0 σ0 => ?_
  refine pw_seq ?_
  refine pw_region ?_
  refine po_evs (T := tab) 1 rfl rfl ?_
  refine po_nil ?_
  refine pn_seq ?_
  refine pw_seq ?_
  refine pw_seq ?_
  refine pw_region ?_
  refine po_evs (T := tab) 1 rfl rfl ?_
  refine po_nil ?_
  refine pn_seq ?_
  refine pw_block ?_
  refine pw_seq ?_
  refine pw_region ?_
  refine po_evs (T := tab) 3 rfl rfl ?_
  refine po_nil ?_
  refine pn_seq ?_
  refine pw_cnd rfl ?_ ?_
  · refine pw_seq ?_
    refine pw_region ?_
    refine po_evs (T := tab) 2 rfl rfl ?_
    refine po_nil ?_
    refine pn_seq ?_
    exact pw_retN (T := tab) rfl rfl rfl ⟨rfl, rfl⟩ trivial rfl
  · refine pw_seq ?_
    refine pw_region ?_
    refine po_evs (T := tab) 3 rfl rfl ?_
    refine po_nil ?_
    refine pn_seq ?_
    refine pw_cnd rfl ?_ ?_
    · refine pw_seq ?_
      refine pw_region ?_
      refine po_evs (T := tab) 2 rfl rfl ?_
      refine po_nil ?_
      refine pn_seq ?_
      exact pw_retN (T := tab) rfl rfl rfl ⟨rfl, rfl⟩ trivial rfl
    · refine pw_skip ?_
      refine pn_block ?_
      refine pn_seq ?_
      refine pw_seq ?_
      refine pw_region ?_
      refine po_evs (T := tab) 2 rfl rfl ?_
      refine po_nil ?_
      refine pn_seq ?_
      exact pw_retN (T := tab) rfl rfl rfl ⟨rfl, rfl⟩ trivial rfl

def Lab_Classes_1_m (fu : Nat) (o1 : Op) (c2 : Int) (c3 : Int) : Option Op := cnd (o1.Kind == 16) (bnd (Lab_other_int_m fu o1.A c2 c3) fun r4 => some (⟨o1.Kind, r4, o1.B, o1.C, o1.S, o1.T, o1.Must⟩ : Op)) (cnd (o1.Kind == 19) (bnd (Lab_other_int_m fu o1.A c2 c3) fun r5 => some (⟨o1.Kind, r5, o1.B, o1.C, o1.S, o1.T, o1.Must⟩ : Op)) (some o1))

set_option maxHeartbeats 10000000 in
set_option maxRecDepth 100000 in
theorem Lab_Classes_1_ok (fu : Nat) (o1 : Op) (c2 : Int) (c3 : Int) : ∀ r, Lab_Classes_1_m fu o1 c2 c3 = some r → FC Try.prog 36 [.agg (cOp o1), .loc 900000 0, .loc 900001 0] [(900000, .box [.v (.int .i64 c2)]), (900001, .box [.v (.int .i64 c3)])] [900000, 900001] fun p S' => p = .agg (cOp r) ∧ S' = [(900000, .box [.v (.int .i64 c2)]), (900001, .box [.v (.int .i64 c3)])] := by
  intro r hr
  refine fc_intro (args := [.agg (cOp o1), .loc 900000 0, .loc 900001 0]) (S := [(900000, .box [.v (.int .i64 c2)]), (900001, .box [.v (.int .i64 c3)])]) (N0 := [900000, 900001]) (post := fun r p S => p = .agg (cOp r) ∧ S = [(900000, .box [.v (.int .i64 c2)]), (900001, .box [.v (.int .i64 c3)])]) Try.func36 rfl rfl hr fun w0 X X0 σ0 => ?_
  refine pw_seq ?_
  refine pw_region ?_
  refine po_box  3 rfl rfl rfl rfl rfl rfl rfl rfl rfl rfl ?_
  refine po_alloc (T := tab) 4 rfl rfl rfl rfl rfl rfl rfl rfl rfl ?_
  refine po_nil ?_
  refine pn_seq ?_
  refine pw_seq ?_
  refine pw_seq ?_
  refine pw_region ?_
  refine po_evs (T := tab) 4 rfl rfl ?_
  refine po_split (j := 8) rfl ?_ ?_
  · refine po_evs (T := tab) 4 rfl rfl ?_
    refine po_nil ?_
    refine pn_seq (pw_then rfl ?_)
    refine pw_region ?_
    refine po_evs (T := tab) 4 rfl rfl ?_
    refine po_call (enc := fun (r4 : Int) => .v (.int .i64 r4)) (qs := [.v (.int .i64 o1.A), .v (.int .i64 c2), .v (.int .i64 c3)]) (Lab_other_int_ok fu o1.A c2 c3) rfl rfl ⟨⟨_, rfl, .rfl⟩, ⟨_, rfl, .rfl⟩, ⟨_, rfl, .rfl⟩, trivial⟩ (fun _ => rfl) call37 rfl rfl fun r4 hr4 => ?_
    refine po_evs (T := tab) 1 rfl rfl ?_
    refine po_store (T := tab) rfl rfl rfl rfl rfl rfl rfl rfl rfl rfl rfl rfl ?_
    refine po_nil ?_
    refine pn_seq ?_
    refine pw_seq ?_
    refine pw_region ?_
    refine po_evs (T := tab) 1 rfl rfl ?_
    refine po_store (T := tab) rfl rfl rfl rfl rfl rfl rfl rfl rfl rfl rfl rfl ?_
    refine po_nil ?_
    refine pn_seq ?_
    exact pw_retN (T := tab) rfl rfl rfl ⟨rfl, rfl⟩ ⟨rfl, rfl, trivial⟩ rfl
  · refine po_evs (T := tab) 4 rfl rfl ?_
    refine po_nil ?_
    refine pn_seq ?_
    refine pw_cnd rfl ?_ ?_
    · refine pw_region ?_
      refine po_evs (T := tab) 4 rfl rfl ?_
      refine po_call (enc := fun (r5 : Int) => .v (.int .i64 r5)) (qs := [.v (.int .i64 o1.A), .v (.int .i64 c2), .v (.int .i64 c3)]) (Lab_other_int_ok fu o1.A c2 c3) rfl rfl ⟨⟨_, rfl, .rfl⟩, ⟨_, rfl, .rfl⟩, ⟨_, rfl, .rfl⟩, trivial⟩ (fun _ => rfl) call37 rfl rfl fun r5 hr5 => ?_
      refine po_evs (T := tab) 1 rfl rfl ?_
      refine po_store (T := tab) rfl rfl rfl rfl rfl rfl rfl rfl rfl rfl rfl rfl ?_
      refine po_nil ?_
      refine pn_seq ?_
      refine pw_seq ?_
      refine pw_region ?_
      refine po_evs (T := tab) 1 rfl rfl ?_
      refine po_store (T := tab) rfl rfl rfl rfl rfl rfl rfl rfl rfl rfl rfl rfl ?_
      refine po_nil ?_
      refine pn_seq ?_
      exact pw_retN (T := tab) rfl rfl rfl ⟨rfl, rfl⟩ ⟨rfl, rfl, trivial⟩ rfl
    · refine pw_skip ?_
      refine pn_seq ?_
      refine pw_seq ?_
      refine pw_region ?_
      refine po_evs (T := tab) 1 rfl rfl ?_
      refine po_store (T := tab) rfl rfl rfl rfl rfl rfl rfl rfl rfl rfl rfl rfl ?_
      refine po_nil ?_
      refine pn_seq ?_
      exact pw_retN (T := tab) rfl rfl rfl ⟨rfl, rfl⟩ ⟨rfl, rfl, trivial⟩ rfl

def Lab_program_l1 (t1 : Op → Option Op) (r4 : (List Op)) : Nat → Int × (List Op) → Option (List Op)
  | 0, _ => none
  | k1 + 1, (t5, l6) => cnd (decide (t5 < ((r4.length : Nat) : Int))) (bnd (idx l6 t5) fun y7 => bnd (t1 y7) fun r8 => bnd (idx l6 t5) fun y9 => bnd (rng .i64 (t5 + 1)) fun i10 => (Lab_program_l1 t1 r4 k1) (i10, (l6.set (t5).toNat r8))) (some l6)

def Lab_program_m (fu : Nat) (t1 : Op → Option Op) (l1 : (List Op)) : Option (List Op) := bnd (Slices_Clone_apiOp_m fu l1) fun r4 => (Lab_program_l1 t1 r4) fu (0, r4)

set_option maxHeartbeats 10000000 in
set_option maxRecDepth 100000 in
theorem Lab_program_ok (fu : Nat) (l1 : (List Op)) (c2 : Int) (c3 : Int) : ∀ r, Lab_program_m fu (fun (z1 : Op) => Lab_Classes_1_m fu z1 c2 c3) l1 = some r → FC Try.prog 61 [.sl 7 false (l1.map cOp), .fn (.func 36) [] [.loc 900000 0, .loc 900001 0]] [(900000, .box [.v (.int .i64 c2)]), (900001, .box [.v (.int .i64 c3)])] [900000, 900001] fun p S' => p = .sl 7 false (r.map cOp) ∧ S' = [(900000, .box [.v (.int .i64 c2)]), (900001, .box [.v (.int .i64 c3)])] := by
  intro r hr
  refine fc_intro (args := [.sl 7 false (l1.map cOp), .fn (.func 36) [] [.loc 900000 0, .loc 900001 0]]) (S := [(900000, .box [.v (.int .i64 c2)]), (900001, .box [.v (.int .i64 c3)])]) (N0 := [900000, 900001]) (post := fun r p S => p = .sl 7 false (r.map cOp) ∧ S = [(900000, .box [.v (.int .i64 c2)]), (900001, .box [.v (.int .i64 c3)])]) Try.func61 rfl rfl hr fun w0 X X0 σ0 => ?_
  refine pw_seq ?_
  refine pw_region ?_
  refine po_evs (T := tab) 1 rfl rfl ?_
  refine po_nil ?_
  refine pn_seq ?_
  refine pw_seq ?_
  refine pw_region ?_
  refine po_evs (T := tab) 1 rfl rfl ?_
  refine po_turn [2090] (enc := fun (r4 : (List Op)) => .own 2090) (Sr := fun (r4 : (List Op)) => [(2090, .arr 48 7 (r4.map cOp))]) (first := []) (cap := []) (qs := [.sl 7 false (l1.map cOp)]) (Sc := []) (N0 := []) (NR := [2090]) (fun r4 hr4 => fc_ren [(5, 2090)] [5] (Slices_Clone_apiOp_ok fu l1 _ hr4) rfl rfl rfl rfl rfl rfl) trivial (fun _ => rfl) rfl rfl rfl rfl rfl rfl rfl (fun _ => rfl) (fun _ => rfl) rfl rfl rfl ⟨⟨_, rfl, .rfl⟩, trivial⟩ call83 rfl rfl fun r4 hr4 => ?_
  refine po_evs (T := tab) 1 rfl rfl ?_
  refine po_nil ?_
  refine pn_seq ?_
  refine pw_seq ?_
  refine pw_seq ?_
  refine pw_region ?_
  refine po_evs (T := tab) 1 rfl rfl ?_
  refine po_len_own (T := tab) cOp r4 rfl rfl rfl rfl rfl rfl rfl rfl rfl ?_
  refine po_evs (T := tab) 1 rfl rfl ?_
  refine po_nil ?_
  refine pn_seq ?_
  refine pw_block ?_
  refine pw_loop' (Lab_program_l1 (fun (z1 : Op) => Lab_Classes_1_m fu z1 c2 c3) r4) (fun ((t5, l6) : Int × (List Op)) => [(1, .fn (.func 36) [] [.loc 900000 0, .loc 900001 0]), (5, .own 2090), (10, .own 2090), (11, .v (.int .i64 ((r4.length : Nat) : Int))), (12, .v (.int .i64 t5))]) (fun ((t5, l6) : Int × (List Op)) => [(2090, .arr 48 7 (l6.map cOp)), (900000, .box [.v (.int .i64 c2)]), (900001, .box [.v (.int .i64 c3)])]) fu (0, r4) (fun _ => rfl) ⟨rfl, rfl, rfl, rfl, rfl, trivial⟩ ⟨rfl, rfl, rfl, trivial⟩ rfl ?_
  rintro k1 ⟨t5, l6⟩
  refine pw_seq ?_
  refine pw_region ?_
  refine po_evs (T := tab) 1 rfl rfl ?_
  refine po_nil ?_
  refine pn_seq ?_
  refine pw_seq ?_
  refine pw_cnd rfl ?_ ?_
  · refine pw_skip ?_
    refine pn_seq ?_
    refine pw_seq ?_
    refine pw_block ?_
    refine pw_seq ?_
    refine pw_region ?_
    refine po_evs (T := tab) 1 rfl rfl ?_
    refine po_idx_own (T := tab) cOp l6 rfl rfl rfl rfl rfl rfl rfl rfl fun y7 hy7 => ?_
    refine po_load_ela (T := tab) cOp l6 y7 (idx_at hy7) rfl rfl rfl rfl rfl rfl rfl rfl ?_
    refine po_alloc (T := tab) 7 rfl rfl rfl rfl rfl rfl rfl rfl rfl ?_
    refine po_evs (T := tab) 1 rfl rfl ?_
    refine po_store (T := tab) rfl rfl rfl rfl rfl rfl rfl rfl rfl rfl rfl rfl ?_
    refine po_nil ?_
    refine pn_seq ?_
    refine pw_region ?_
    refine po_evs (T := tab) 4 rfl rfl ?_
    refine po_callv (enc := fun (r8 : Op) => .agg (cOp r8)) (first := []) (cap := [.loc 900000 0, .loc 900001 0]) (qs := [.agg (cOp y7)]) (Sc := [(900000, .box [.v (.int .i64 c2)]), (900001, .box [.v (.int .i64 c3)])]) (fun r8 hr8 => fc_ren [(900000, 900000), (900001, 900001)] [900000, 900001] (Lab_Classes_1_ok fu y7 c2 c3 _ hr8) rfl rfl rfl rfl rfl rfl) (subS_of ⟨rfl, rfl, trivial⟩ rfl) rfl rfl rfl rfl ⟨⟨_, rfl, .rfl⟩, trivial⟩ (fun _ => rfl) call36 rfl rfl fun r8 hr8 => ?_
    refine po_idx_own (T := tab) cOp l6 rfl rfl rfl rfl rfl rfl rfl rfl fun y9 hy9 => ?_
    refine po_store_ela (T := tab) cOp l6 y9 r8 (idx_at hy9) rfl rfl rfl rfl rfl rfl rfl rfl rfl rfl rfl rfl rfl ?_
    refine po_nil ?_
    refine pn_block ?_
    refine pn_seq ?_
    refine pw_region ?_
    refine po_arith' (T := tab) rfl rfl rfl rfl fun i10 hi10 => ?_
    refine po_evs (T := tab) 1 rfl rfl ?_
    refine po_nil ?_
    exact pn_iter' (i10, (l6.set (t5).toNat r8)) ⟨rfl, rfl, rfl, rfl, rfl, trivial⟩ ⟨rfl, rfl, rfl, trivial⟩ rfl
  · refine pw_exit rfl ?_
    refine pn_seq ?_
    refine pw_seq ?_
    refine pw_region ?_
    refine po_evs (T := tab) 2 rfl rfl ?_
    refine po_nil ?_
    refine pn_seq ?_
    refine pw_freeze 2090 rfl rfl rfl ?_
    exact pw_retN (T := tab) rfl rfl rfl ⟨rfl, rfl⟩ ⟨rfl, rfl, trivial⟩ rfl

def Slices_Clone_apiHook_m (_fu : Nat) (s1 : (List Hook)) : Option (List Hook) := bnd (roomy 32 (([] : List Hook).length + s1.length)) fun _ => some (([] : List Hook) ++ s1)

set_option maxRecDepth 100000 in
theorem Slices_Clone_apiHook_ok (fu : Nat) (s1 : (List Hook)) : ∀ r, Slices_Clone_apiHook_m fu s1 = some r → FC Try.prog 62 [.sl 2 false (s1.map cHook)] [] [] fun p S' => p = .own 5 ∧ S' = [(5, .arr 52 2 (r.map cHook))] := by
  intro r hr
  refine fc_intro (args := [.sl 2 false (s1.map cHook)]) (S := []) (N0 := []) (post := fun r p S => p = .own 5 ∧ S = [(5, .arr 52 2 (r.map cHook))]) Try.func62 rfl rfl hr fun w0 X X0 σ0 => ?_
  refine pw_seq ?_
  refine pw_region ?_
  refine po_evs (T := tab) 1 rfl rfl ?_
  refine po_nil ?_
  refine pn_seq ?_
  refine pw_seq ?_
  refine pw_seq ?_
  refine pw_region ?_
  refine po_evs (T := tab) 1 rfl rfl ?_
  refine po_isnil (T := tab) rfl rfl rfl rfl rfl rfl fun b hb => ?_
  cases b
  · refine po_nil ?_
    refine pn_seq ?_
    refine pw_else rfl ?_
    refine pw_skip ?_
    refine pn_seq ?_
    refine pw_seq ?_
    refine pw_region ?_
    refine po_lit (T := tab) (rows := ([] : List Hook).map cHook) 5 rfl rfl rfl rfl rfl rfl rfl rfl rfl rfl rfl rfl rfl rfl ?_
    refine po_evs (T := tab) 1 rfl rfl ?_
    refine po_append (T := tab) cHook ([] : List Hook) s1 rfl rfl rfl rfl rfl rfl rfl rfl rfl rfl rfl rfl rfl rfl (cHook_one _) rfl rfl rfl rfl rfl ?_
    refine po_evs (T := tab) 1 rfl rfl ?_
    refine po_nil ?_
    refine pn_seq ?_
    exact pw_retN (T := tab) rfl rfl rfl ⟨rfl, rfl⟩ ⟨rfl, trivial⟩ rfl
  · have h0 : s1 = [] := List.map_eq_nil_iff.1 (hb rfl)
    refine po_conv (m' := some ([] : List Hook)) (by subst h0; rfl) ?_
    refine po_nil ?_
    refine pn_seq ?_
    refine pw_then rfl ?_
    refine pw_seq ?_
    refine pw_region ?_
    refine po_evs (T := tab) 1 rfl rfl ?_
    refine po_nil ?_
    refine pn_seq ?_
    refine pw_own_nil 5 52 2 2 rfl rfl rfl rfl ?_
    exact pw_retN (T := tab) rfl rfl rfl ⟨rfl, rfl⟩ ⟨rfl, trivial⟩ rfl

def Lab_script_l2 (fu : Nat) (t1 : Op → Option Op) (t6 : Int) (l7 : (List Class)) (y8 : Class) (r9 : (List Op)) (r10 : (List Op)) (r11 : (List Hook)) (rc1 : (Int × (List Class)) → Option Script) : Nat → Int × (List Hook) → Option Script
  | 0, _ => none
  | k2 + 1, (t12, l13) => cnd (decide (t12 < ((r11.length : Nat) : Int))) (bnd (idx l13 t12) fun y14 => bnd (Lab_program_m fu t1 y14.Do) fun r15 => bnd (idx l13 t12) fun y16 => bnd (rng .i64 (t12 + 1)) fun i17 => (Lab_script_l2 fu t1 t6 l7 y8 r9 r10 r11 rc1 k2) (i17, (l13.set (t12).toNat (⟨y16.Kind, r15⟩ : Hook)))) (bnd (idx l7 t6) fun y18 => bnd (rng .i64 (t6 + 1)) fun i19 => rc1 (i19, (l7.set (t6).toNat (⟨y8.Form, y8.Watch, r9, r10, l13⟩ : Class))))

def Lab_script_l1 (fu : Nat) (t1 : Op → Option Op) (r4 : (List Class)) (r5 : (List Op)) : Nat → Int × (List Class) → Option Script
  | 0, _ => none
  | k1 + 1, (t6, l7) => cnd (decide (t6 < ((r4.length : Nat) : Int))) (bnd (idx l7 t6) fun y8 => bnd (Lab_program_m fu t1 y8.Peek) fun r9 => bnd (Lab_program_m fu t1 y8.Make) fun r10 => bnd (Slices_Clone_apiHook_m fu y8.Hooks) fun r11 => (Lab_script_l2 fu t1 t6 l7 y8 r9 r10 r11 (Lab_script_l1 fu t1 r4 r5 k1)) fu (0, r11)) (some (⟨l7, r5⟩ : Script))

def Lab_script_m (fu : Nat) (t1 : Op → Option Op) (s1 : Script) : Option Script := bnd (Slices_Clone_apiClass_m fu s1.Classes) fun r4 => bnd (Lab_program_m fu t1 s1.Main) fun r5 => (Lab_script_l1 fu t1 r4 r5) fu (0, r4)

set_option maxHeartbeats 10000000 in
set_option maxRecDepth 100000 in
theorem Lab_script_ok (fu : Nat) (s1 : Script) (c2 : Int) (c3 : Int) : ∀ r, Lab_script_m fu (fun (z1 : Op) => Lab_Classes_1_m fu z1 c2 c3) s1 = some r → FC Try.prog 35 [.agg (cScript s1), .fn (.func 36) [] [.loc 900000 0, .loc 900001 0]] [(900000, .box [.v (.int .i64 c2)]), (900001, .box [.v (.int .i64 c3)])] [900000, 900001] fun p S' => p = .agg [.own 2120, .sl 7 false (r.Main.map cOp)] ∧ S' = [(900000, .box [.v (.int .i64 c2)]), (900001, .box [.v (.int .i64 c3)]), (2120, .arr 37 5 (r.Classes.map cClass))] := by
  intro r hr
  refine fc_intro (args := [.agg (cScript s1), .fn (.func 36) [] [.loc 900000 0, .loc 900001 0]]) (S := [(900000, .box [.v (.int .i64 c2)]), (900001, .box [.v (.int .i64 c3)])]) (N0 := [900000, 900001]) (post := fun r p S => p = .agg [.own 2120, .sl 7 false (r.Main.map cOp)] ∧ S = [(900000, .box [.v (.int .i64 c2)]), (900001, .box [.v (.int .i64 c3)]), (2120, .arr 37 5 (r.Classes.map cClass))]) Try.func35 rfl rfl hr fun w0 X X0 σ0 => ?_
  refine pw_seq ?_
  refine pw_region ?_
  refine po_box  2 rfl rfl rfl rfl rfl rfl rfl rfl rfl rfl ?_
  refine po_alloc (T := tab) 4 rfl rfl rfl rfl rfl rfl rfl rfl rfl ?_
  refine po_nil ?_
  refine pn_seq ?_
  refine pw_seq ?_
  refine pw_sub' (E' := [(1, .fn (.func 36) [] [.loc 900000 0, .loc 900001 0]), (2, .loc 2 0), (4, .loc 4 0)]) (S' := [(4, .box [.v (.slice none 0 0), .v (.slice none 0 0)]), (2, .box [.sl 5 false (s1.Classes.map cClass), .sl 7 false (s1.Main.map cOp)]), (900000, .box [.v (.int .i64 c2)]), (900001, .box [.v (.int .i64 c3)])]) ?_ ⟨rfl, rfl, rfl, trivial⟩ ⟨rfl, rfl, rfl, rfl, trivial⟩ rfl
  refine pw_drawV [0, 1, 3, 0, 8, 0, 63, 127, 0, 511] mixed (by kernel_rfl) (by kernel_rfl) rfl rfl ?_
  refine pdv_step0 [4] [20] [] [2] [] [(10, .loc 2 0)] [] rfl rfl rfl rfl (by kernel_rfl) (by kernel_rfl) (by kernel_rfl) trivial (fun w0 X X0 σ0 => by refine po_evs (T := tab) 1 rfl rfl ?_; refine po_nil ?_; exact pn_end0 ⟨rfl, trivial⟩ trivial rfl) ?_
  refine pdv_step0 [5, 20] [22] [] [2] [2] [(11, .sl 5 false (s1.Classes.map cClass))] [(2, .box [.sl 5 false (s1.Classes.map cClass), .sl 7 false (s1.Main.map cOp)])] rfl rfl rfl rfl (by kernel_rfl) (by kernel_rfl) (by kernel_rfl) ⟨rfl, trivial⟩ (fun w0 X X0 σ0 => by refine po_evs (T := tab) 1 rfl rfl ?_; refine po_nil ?_; exact pn_end0 ⟨rfl, trivial⟩ ⟨rfl, trivial⟩ rfl) ?_
  refine pdv_step (M := (Slices_Clone_apiClass_m fu s1.Classes)) (ment := [(24, [2120]), (4241, [])]) [22] [24, 4241] [2120] [] [] (fun r4 => [(12, .own 2120)]) (fun r4 => [(2120, .arr 37 5 (r4.map cClass))]) rfl rfl (fun _ => rfl) (fun _ => rfl) (by kernel_rfl) (by kernel_rfl) (fun _ => by kernel_rfl) (fun _ => trivial) (fun w0 X X0 σ0 => by refine po_turn [2120] (enc := fun (r4 : (List Class)) => .own 2120) (Sr := fun (r4 : (List Class)) => [(2120, .arr 37 5 (r4.map cClass))]) (first := []) (cap := []) (qs := [.sl 5 false (s1.Classes.map cClass)]) (Sc := []) (N0 := []) (NR := [2120]) (fun r4 hr4 => fc_ren [(5, 2120)] [5] (Slices_Clone_apiClass_ok fu s1.Classes _ hr4) rfl rfl rfl rfl rfl rfl) trivial (fun _ => rfl) rfl rfl rfl rfl rfl rfl rfl (fun _ => rfl) (fun _ => rfl) rfl rfl rfl ⟨⟨_, rfl, .rfl⟩, trivial⟩ call60 rfl rfl fun r4 hr4 => ?_; refine po_nil ?_; exact pn_end ⟨rfl, trivial⟩ ⟨rfl, trivial⟩ rfl) fun r4 hr4 => ?_
  refine pdv_step0 [4] [26] [] [2] [] [(13, .loc 2 1)] [] rfl rfl rfl rfl (by kernel_rfl) (by kernel_rfl) (by kernel_rfl) trivial (fun w0 X X0 σ0 => by refine po_evs (T := tab) 1 rfl rfl ?_; refine po_nil ?_; exact pn_end0 ⟨rfl, trivial⟩ trivial rfl) ?_
  refine pdv_step0 [5, 26] [28] [] [2] [2] [(14, .sl 7 false (s1.Main.map cOp))] [(2, .box [.sl 5 false (s1.Classes.map cClass), .sl 7 false (s1.Main.map cOp)])] rfl rfl rfl rfl (by kernel_rfl) (by kernel_rfl) (by kernel_rfl) ⟨rfl, trivial⟩ (fun w0 X X0 σ0 => by refine po_evs (T := tab) 1 rfl rfl ?_; refine po_nil ?_; exact pn_end0 ⟨rfl, trivial⟩ ⟨rfl, trivial⟩ rfl) ?_
  refine pdv_step0 [2] [30] [] [900000, 900001] [] [(15, .fn (.func 36) [] [.loc 900000 0, .loc 900001 0])] [] rfl rfl rfl rfl (by kernel_rfl) (by kernel_rfl) (by kernel_rfl) trivial (fun w0 X X0 σ0 => by refine po_evs (T := tab) 1 rfl rfl ?_; refine po_nil ?_; exact pn_end0 ⟨rfl, trivial⟩ trivial rfl) ?_
  refine pdv_step (M := (Lab_program_m fu (fun (z1 : Op) => Lab_Classes_1_m fu z1 c2 c3) s1.Main)) (ment := [(32, [])]) [28, 30, 1800001, 1800003] [32] [] [900000, 900001] [900000, 900001] (fun r5 => [(16, .sl 7 false (r5.map cOp))]) (fun r5 => [(900000, .box [.v (.int .i64 c2)]), (900001, .box [.v (.int .i64 c3)])]) rfl rfl (fun _ => rfl) (fun _ => rfl) (by kernel_rfl) (by kernel_rfl) (fun _ => by kernel_rfl) (fun _ => ⟨rfl, rfl, trivial⟩) (fun w0 X X0 σ0 => by refine po_callv (enc := fun (r5 : (List Op)) => .sl 7 false (r5.map cOp)) (first := []) (cap := []) (qs := [.sl 7 false (s1.Main.map cOp), .fn (.func 36) [] [.loc 900000 0, .loc 900001 0]]) (Sc := [(900000, .box [.v (.int .i64 c2)]), (900001, .box [.v (.int .i64 c3)])]) (fun r5 hr5 => fc_ren [(900000, 900000), (900001, 900001)] [900000, 900001] (Lab_program_ok fu s1.Main c2 c3 _ hr5) rfl rfl rfl rfl rfl rfl) (subS_of ⟨rfl, rfl, trivial⟩ rfl) rfl rfl rfl rfl ⟨⟨_, rfl, .rfl⟩, ⟨_, rfl, .rfl⟩, trivial⟩ (fun _ => rfl) call61 rfl rfl fun r5 hr5 => ?_; refine po_nil ?_; exact pn_end ⟨rfl, trivial⟩ ⟨rfl, rfl, trivial⟩ rfl) fun r5 hr5 => ?_
  refine pdv_step0 [24, 32, 4241] [34] [] [2120] [2120] [(17, .agg [.own 2120, .sl 7 false (r5.map cOp)])] [(2120, .arr 37 5 (r4.map cClass))] rfl rfl rfl rfl (by kernel_rfl) (by kernel_rfl) (by kernel_rfl) ⟨rfl, trivial⟩ (fun w0 X X0 σ0 => by refine po_build (T := tab) rfl rfl rfl rfl rfl rfl rfl ?_; refine po_nil ?_; exact pn_end0 ⟨rfl, trivial⟩ ⟨rfl, trivial⟩ rfl) ?_
  refine pdv_step0 [] [10, 11] [5] [] [] [(5, .loc 5 0)] [(5, .box [.v (.slice none 0 0), .v (.slice none 0 0)])] rfl rfl rfl rfl (by kernel_rfl) (by kernel_rfl) (by kernel_rfl) trivial (fun w0 X X0 σ0 => by refine po_alloc (T := tab) 5 rfl rfl rfl rfl rfl rfl rfl rfl rfl ?_; refine po_nil ?_; exact pn_end0 ⟨rfl, trivial⟩ ⟨rfl, trivial⟩ rfl) ?_
  refine pdv_step0 [10, 11, 34, 4241] [11] [] [5, 2120] [2120] [] [(5, .box [.own 2120, .sl 7 false (r5.map cOp)]), (2120, .arr 37 5 (r4.map cClass))] rfl rfl rfl rfl (by kernel_rfl) (by kernel_rfl) (by kernel_rfl) ⟨rfl, trivial⟩ (fun w0 X X0 σ0 => by refine po_store (T := tab) rfl rfl rfl rfl rfl rfl rfl rfl rfl rfl rfl rfl ?_; refine po_nil ?_; exact pn_end0 trivial ⟨rfl, rfl, trivial⟩ rfl) ?_
  refine pdv_nil rfl rfl ?_
  refine pn_seq ?_
  refine pw_seq ?_
  refine pw_seq ?_
  refine pw_region ?_
  refine po_evs (T := tab) 2 rfl rfl ?_
  refine po_len_own (T := tab) cClass r4 rfl rfl rfl rfl rfl rfl rfl rfl rfl ?_
  refine po_evs (T := tab) 1 rfl rfl ?_
  refine po_nil ?_
  refine pn_seq ?_
  refine pw_block ?_
  refine pw_loop' (Lab_script_l1 fu (fun (z1 : Op) => Lab_Classes_1_m fu z1 c2 c3) r4 r5) (fun ((t6, l7) : Int × (List Class)) => [(1, .fn (.func 36) [] [.loc 900000 0, .loc 900001 0]), (4, .loc 4 0), (5, .loc 5 0), (19, .own 2120), (20, .v (.int .i64 ((r4.length : Nat) : Int))), (21, .v (.int .i64 t6))]) (fun ((t6, l7) : Int × (List Class)) => [(5, .box [.own 2120, .sl 7 false (r5.map cOp)]), (2120, .arr 37 5 (l7.map cClass)), (4, .box [.v (.slice none 0 0), .v (.slice none 0 0)]), (900000, .box [.v (.int .i64 c2)]), (900001, .box [.v (.int .i64 c3)])]) fu (0, r4) (fun _ => rfl) ⟨rfl, rfl, rfl, rfl, rfl, rfl, trivial⟩ ⟨rfl, rfl, rfl, rfl, rfl, trivial⟩ rfl ?_
  rintro k1 ⟨t6, l7⟩
  refine pw_seq ?_
  refine pw_region ?_
  refine po_evs (T := tab) 1 rfl rfl ?_
  refine po_nil ?_
  refine pn_seq ?_
  refine pw_seq ?_
  refine pw_cnd rfl ?_ ?_
  · refine pw_skip ?_
    refine pn_seq ?_
    refine pw_seq ?_
    refine pw_block ?_
    refine pw_seq ?_
    refine pw_region ?_
    refine po_evs (T := tab) 1 rfl rfl ?_
    refine po_idx_own (T := tab) cClass l7 rfl rfl rfl rfl rfl rfl rfl rfl fun y8 hy8 => ?_
    refine po_load_ela (T := tab) cClass l7 y8 (idx_at hy8) rfl rfl rfl rfl rfl rfl rfl rfl ?_
    refine po_alloc (T := tab) 7 rfl rfl rfl rfl rfl rfl rfl rfl rfl ?_
    refine po_evs (T := tab) 1 rfl rfl ?_
    refine po_store (T := tab) rfl rfl rfl rfl rfl rfl rfl rfl rfl rfl rfl rfl ?_
    refine po_nil ?_
    refine pn_seq ?_
    refine pw_seq ?_
    refine pw_sub' (E' := [(1, .fn (.func 36) [] [.loc 900000 0, .loc 900001 0]), (4, .loc 4 0), (5, .loc 5 0), (19, .own 2120), (20, .v (.int .i64 ((r4.length : Nat) : Int))), (21, .v (.int .i64 t6)), (7, .loc 7 0), (6, .v (.int .i64 t6))]) (S' := [(7, .box [.v (.bool y8.Form), .sl 1 false (y8.Watch.map cStr), .sl 7 false (y8.Peek.map cOp), .sl 7 false (y8.Make.map cOp), .sl 2 false (y8.Hooks.map cHook)]), (5, .box [.own 2120, .sl 7 false (r5.map cOp)]), (2120, .arr 37 5 (l7.map cClass)), (4, .box [.v (.slice none 0 0), .v (.slice none 0 0)]), (900000, .box [.v (.int .i64 c2)]), (900001, .box [.v (.int .i64 c3)])]) ?_ ⟨rfl, rfl, rfl, rfl, rfl, rfl, rfl, rfl, trivial⟩ ⟨rfl, rfl, rfl, rfl, rfl, rfl, trivial⟩ rfl
    refine pw_drawV [0, 1, 0, 7, 0, 16, 0, 127, 63, 511, 1023, 2047] mixed (by kernel_rfl) (by kernel_rfl) rfl rfl ?_
    refine pdv_step0 [14] [52] [] [7] [] [(26, .loc 7 2)] [] rfl rfl rfl rfl (by kernel_rfl) (by kernel_rfl) (by kernel_rfl) trivial (fun w0 X X0 σ0 => by refine po_evs (T := tab) 1 rfl rfl ?_; refine po_nil ?_; exact pn_end0 ⟨rfl, trivial⟩ trivial rfl) ?_
    refine pdv_step0 [15, 52] [54] [] [7] [7] [(27, .sl 7 false (y8.Peek.map cOp))] [(7, .box [.v (.bool y8.Form), .sl 1 false (y8.Watch.map cStr), .sl 7 false (y8.Peek.map cOp), .sl 7 false (y8.Make.map cOp), .sl 2 false (y8.Hooks.map cHook)])] rfl rfl rfl rfl (by kernel_rfl) (by kernel_rfl) (by kernel_rfl) ⟨rfl, trivial⟩ (fun w0 X X0 σ0 => by refine po_evs (T := tab) 1 rfl rfl ?_; refine po_nil ?_; exact pn_end0 ⟨rfl, trivial⟩ ⟨rfl, trivial⟩ rfl) ?_
    refine pdv_step0 [2] [56] [] [900000, 900001] [] [(28, .fn (.func 36) [] [.loc 900000 0, .loc 900001 0])] [] rfl rfl rfl rfl (by kernel_rfl) (by kernel_rfl) (by kernel_rfl) trivial (fun w0 X X0 σ0 => by refine po_evs (T := tab) 1 rfl rfl ?_; refine po_nil ?_; exact pn_end0 ⟨rfl, trivial⟩ trivial rfl) ?_
    refine pdv_step (M := (Lab_program_m fu (fun (z1 : Op) => Lab_Classes_1_m fu z1 c2 c3) y8.Peek)) (ment := [(58, [])]) [54, 56, 1800001, 1800003] [58] [] [900000, 900001] [900000, 900001] (fun r9 => [(29, .sl 7 false (r9.map cOp))]) (fun r9 => [(900000, .box [.v (.int .i64 c2)]), (900001, .box [.v (.int .i64 c3)])]) rfl rfl (fun _ => rfl) (fun _ => rfl) (by kernel_rfl) (by kernel_rfl) (fun _ => by kernel_rfl) (fun _ => ⟨rfl, rfl, trivial⟩) (fun w0 X X0 σ0 => by refine po_callv (enc := fun (r9 : (List Op)) => .sl 7 false (r9.map cOp)) (first := []) (cap := []) (qs := [.sl 7 false (y8.Peek.map cOp), .fn (.func 36) [] [.loc 900000 0, .loc 900001 0]]) (Sc := [(900000, .box [.v (.int .i64 c2)]), (900001, .box [.v (.int .i64 c3)])]) (fun r9 hr9 => fc_ren [(900000, 900000), (900001, 900001)] [900000, 900001] (Lab_program_ok fu y8.Peek c2 c3 _ hr9) rfl rfl rfl rfl rfl rfl) (subS_of ⟨rfl, rfl, trivial⟩ rfl) rfl rfl rfl rfl ⟨⟨_, rfl, .rfl⟩, ⟨_, rfl, .rfl⟩, trivial⟩ (fun _ => rfl) call61 rfl rfl fun r9 hr9 => ?_; refine po_nil ?_; exact pn_end ⟨rfl, trivial⟩ ⟨rfl, rfl, trivial⟩ rfl) fun r9 hr9 => ?_
    refine pdv_step0 [14] [60] [] [7] [] [(30, .loc 7 3)] [] rfl rfl rfl rfl (by kernel_rfl) (by kernel_rfl) (by kernel_rfl) trivial (fun w0 X X0 σ0 => by refine po_evs (T := tab) 1 rfl rfl ?_; refine po_nil ?_; exact pn_end0 ⟨rfl, trivial⟩ trivial rfl) ?_
    refine pdv_step0 [15, 60] [62] [] [7] [7] [(31, .sl 7 false (y8.Make.map cOp))] [(7, .box [.v (.bool y8.Form), .sl 1 false (y8.Watch.map cStr), .sl 7 false (y8.Peek.map cOp), .sl 7 false (y8.Make.map cOp), .sl 2 false (y8.Hooks.map cHook)])] rfl rfl rfl rfl (by kernel_rfl) (by kernel_rfl) (by kernel_rfl) ⟨rfl, trivial⟩ (fun w0 X X0 σ0 => by refine po_evs (T := tab) 1 rfl rfl ?_; refine po_nil ?_; exact pn_end0 ⟨rfl, trivial⟩ ⟨rfl, trivial⟩ rfl) ?_
    refine pdv_step0 [2] [64] [] [900000, 900001] [] [(32, .fn (.func 36) [] [.loc 900000 0, .loc 900001 0])] [] rfl rfl rfl rfl (by kernel_rfl) (by kernel_rfl) (by kernel_rfl) trivial (fun w0 X X0 σ0 => by refine po_evs (T := tab) 1 rfl rfl ?_; refine po_nil ?_; exact pn_end0 ⟨rfl, trivial⟩ trivial rfl) ?_
    refine pdv_step (M := (Lab_program_m fu (fun (z1 : Op) => Lab_Classes_1_m fu z1 c2 c3) y8.Make)) (ment := [(66, [])]) [62, 64, 1800001, 1800003] [66] [] [900000, 900001] [900000, 900001] (fun r10 => [(33, .sl 7 false (r10.map cOp))]) (fun r10 => [(900000, .box [.v (.int .i64 c2)]), (900001, .box [.v (.int .i64 c3)])]) rfl rfl (fun _ => rfl) (fun _ => rfl) (by kernel_rfl) (by kernel_rfl) (fun _ => by kernel_rfl) (fun _ => ⟨rfl, rfl, trivial⟩) (fun w0 X X0 σ0 => by refine po_callv (enc := fun (r10 : (List Op)) => .sl 7 false (r10.map cOp)) (first := []) (cap := []) (qs := [.sl 7 false (y8.Make.map cOp), .fn (.func 36) [] [.loc 900000 0, .loc 900001 0]]) (Sc := [(900000, .box [.v (.int .i64 c2)]), (900001, .box [.v (.int .i64 c3)])]) (fun r10 hr10 => fc_ren [(900000, 900000), (900001, 900001)] [900000, 900001] (Lab_program_ok fu y8.Make c2 c3 _ hr10) rfl rfl rfl rfl rfl rfl) (subS_of ⟨rfl, rfl, trivial⟩ rfl) rfl rfl rfl rfl ⟨⟨_, rfl, .rfl⟩, ⟨_, rfl, .rfl⟩, trivial⟩ (fun _ => rfl) call61 rfl rfl fun r10 hr10 => ?_; refine po_nil ?_; exact pn_end ⟨rfl, trivial⟩ ⟨rfl, rfl, trivial⟩ rfl) fun r10 hr10 => ?_
    refine pdv_step0 [14] [68] [] [7] [] [(34, .loc 7 2)] [] rfl rfl rfl rfl (by kernel_rfl) (by kernel_rfl) (by kernel_rfl) trivial (fun w0 X X0 σ0 => by refine po_evs (T := tab) 1 rfl rfl ?_; refine po_nil ?_; exact pn_end0 ⟨rfl, trivial⟩ trivial rfl) ?_
    refine pdv_step0 [15, 58, 68] [15] [] [7] [] [] [(7, .box [.v (.bool y8.Form), .sl 1 false (y8.Watch.map cStr), .sl 7 false (r9.map cOp), .sl 7 false (y8.Make.map cOp), .sl 2 false (y8.Hooks.map cHook)])] rfl rfl rfl rfl (by kernel_rfl) (by kernel_rfl) (by kernel_rfl) trivial (fun w0 X X0 σ0 => by refine po_store (T := tab) rfl rfl rfl rfl rfl rfl rfl rfl rfl rfl rfl rfl ?_; refine po_nil ?_; exact pn_end0 trivial ⟨rfl, trivial⟩ rfl) ?_
    refine pdv_step0 [14] [70] [] [7] [] [(35, .loc 7 3)] [] rfl rfl rfl rfl (by kernel_rfl) (by kernel_rfl) (by kernel_rfl) trivial (fun w0 X X0 σ0 => by refine po_evs (T := tab) 1 rfl rfl ?_; refine po_nil ?_; exact pn_end0 ⟨rfl, trivial⟩ trivial rfl) ?_
    refine pdv_step0 [15, 66, 70] [15] [] [7] [] [] [(7, .box [.v (.bool y8.Form), .sl 1 false (y8.Watch.map cStr), .sl 7 false (r9.map cOp), .sl 7 false (r10.map cOp), .sl 2 false (y8.Hooks.map cHook)])] rfl rfl rfl rfl (by kernel_rfl) (by kernel_rfl) (by kernel_rfl) trivial (fun w0 X X0 σ0 => by refine po_store (T := tab) rfl rfl rfl rfl rfl rfl rfl rfl rfl rfl rfl rfl ?_; refine po_nil ?_; exact pn_end0 trivial ⟨rfl, trivial⟩ rfl) ?_
    refine pdv_nil rfl rfl ?_
    refine pn_seq ?_
    refine pw_seq ?_
    refine pw_region ?_
    refine po_evs (T := tab) 2 rfl rfl ?_
    refine po_turn [2380] (enc := fun (r11 : (List Hook)) => .own 2380) (Sr := fun (r11 : (List Hook)) => [(2380, .arr 52 2 (r11.map cHook))]) (first := []) (cap := []) (qs := [.sl 2 false (y8.Hooks.map cHook)]) (Sc := []) (N0 := []) (NR := [2380]) (fun r11 hr11 => fc_ren [(5, 2380)] [5] (Slices_Clone_apiHook_ok fu y8.Hooks _ hr11) rfl rfl rfl rfl rfl rfl) trivial (fun _ => rfl) rfl rfl rfl rfl rfl rfl rfl (fun _ => rfl) (fun _ => rfl) rfl rfl rfl ⟨⟨_, rfl, .rfl⟩, trivial⟩ call62 rfl rfl fun r11 hr11 => ?_
    refine po_evs (T := tab) 1 rfl rfl ?_
    refine po_store (T := tab) rfl rfl rfl rfl rfl rfl rfl rfl rfl rfl rfl rfl ?_
    refine po_nil ?_
    refine pn_seq ?_
    refine pw_seq ?_
    refine pw_seq ?_
    refine pw_region ?_
    refine po_evs (T := tab) 2 rfl rfl ?_
    refine po_len_own (T := tab) cHook r11 rfl rfl rfl rfl rfl rfl rfl rfl rfl ?_
    refine po_evs (T := tab) 1 rfl rfl ?_
    refine po_nil ?_
    refine pn_seq ?_
    refine pw_block ?_
    refine pw_loop' (Lab_script_l2 fu (fun (z1 : Op) => Lab_Classes_1_m fu z1 c2 c3) t6 l7 y8 r9 r10 r11 (Lab_script_l1 fu (fun (z1 : Op) => Lab_Classes_1_m fu z1 c2 c3) r4 r5 k1)) (fun ((t12, l13) : Int × (List Hook)) => [(1, .fn (.func 36) [] [.loc 900000 0, .loc 900001 0]), (4, .loc 4 0), (5, .loc 5 0), (19, .own 2120), (20, .v (.int .i64 ((r4.length : Nat) : Int))), (21, .v (.int .i64 t6)), (7, .loc 7 0), (6, .v (.int .i64 t6)), (41, .own 2380), (42, .v (.int .i64 ((r11.length : Nat) : Int))), (43, .v (.int .i64 t12))]) (fun ((t12, l13) : Int × (List Hook)) => [(2380, .arr 52 2 (l13.map cHook)), (7, .box [.v (.bool y8.Form), .sl 1 false (y8.Watch.map cStr), .sl 7 false (r9.map cOp), .sl 7 false (r10.map cOp), .own 2380]), (5, .box [.own 2120, .sl 7 false (r5.map cOp)]), (2120, .arr 37 5 (l7.map cClass)), (4, .box [.v (.slice none 0 0), .v (.slice none 0 0)]), (900000, .box [.v (.int .i64 c2)]), (900001, .box [.v (.int .i64 c3)])]) fu (0, r11) (fun _ => rfl) ⟨rfl, rfl, rfl, rfl, rfl, rfl, rfl, rfl, rfl, rfl, rfl, trivial⟩ ⟨rfl, rfl, rfl, rfl, rfl, rfl, rfl, trivial⟩ rfl ?_
    rintro k2 ⟨t12, l13⟩
    refine pw_seq ?_
    refine pw_region ?_
    refine po_evs (T := tab) 1 rfl rfl ?_
    refine po_nil ?_
    refine pn_seq ?_
    refine pw_seq ?_
    refine pw_cnd rfl ?_ ?_
    · refine pw_skip ?_
      refine pn_seq ?_
      refine pw_seq ?_
      refine pw_block ?_
      refine pw_seq ?_
      refine pw_region ?_
      refine po_evs (T := tab) 1 rfl rfl ?_
      refine po_idx_own (T := tab) cHook l13 rfl rfl rfl rfl rfl rfl rfl rfl fun y14 hy14 => ?_
      refine po_load_ela (T := tab) cHook l13 y14 (idx_at hy14) rfl rfl rfl rfl rfl rfl rfl rfl ?_
      refine po_alloc (T := tab) 9 rfl rfl rfl rfl rfl rfl rfl rfl rfl ?_
      refine po_evs (T := tab) 1 rfl rfl ?_
      refine po_store (T := tab) rfl rfl rfl rfl rfl rfl rfl rfl rfl rfl rfl rfl ?_
      refine po_nil ?_
      refine pn_seq ?_
      refine pw_sub' (E' := [(1, .fn (.func 36) [] [.loc 900000 0, .loc 900001 0]), (4, .loc 4 0), (5, .loc 5 0), (19, .own 2120), (20, .v (.int .i64 ((r4.length : Nat) : Int))), (21, .v (.int .i64 t6)), (7, .loc 7 0), (6, .v (.int .i64 t6)), (41, .own 2380), (42, .v (.int .i64 ((r11.length : Nat) : Int))), (43, .v (.int .i64 t12)), (9, .loc 9 0), (8, .v (.int .i64 t12))]) (S' := [(9, .box [.v (.int .i64 y14.Kind), .sl 7 false (y14.Do.map cOp)]), (2380, .arr 52 2 (l13.map cHook)), (7, .box [.v (.bool y8.Form), .sl 1 false (y8.Watch.map cStr), .sl 7 false (r9.map cOp), .sl 7 false (r10.map cOp), .own 2380]), (5, .box [.own 2120, .sl 7 false (r5.map cOp)]), (2120, .arr 37 5 (l7.map cClass)), (4, .box [.v (.slice none 0 0), .v (.slice none 0 0)]), (900000, .box [.v (.int .i64 c2)]), (900001, .box [.v (.int .i64 c3)])]) ?_ ⟨rfl, rfl, rfl, rfl, rfl, rfl, rfl, rfl, rfl, rfl, rfl, rfl, rfl, trivial⟩ ⟨rfl, rfl, rfl, rfl, rfl, rfl, rfl, rfl, trivial⟩ rfl
      refine pw_drawV [0, 1, 0, 0, 8, 0, 56, 127, 255, 511] mixed (by kernel_rfl) (by kernel_rfl) rfl rfl ?_
      refine pdv_step0 [14] [96] [] [7] [] [(48, .loc 7 4)] [] rfl rfl rfl rfl (by kernel_rfl) (by kernel_rfl) (by kernel_rfl) trivial (fun w0 X X0 σ0 => by refine po_evs (T := tab) 1 rfl rfl ?_; refine po_nil ?_; exact pn_end0 ⟨rfl, trivial⟩ trivial rfl) ?_
      refine pdv_step0 [15, 96] [98] [] [7, 2380] [7] [(49, .own 2380)] [(7, .box [.v (.bool y8.Form), .sl 1 false (y8.Watch.map cStr), .sl 7 false (r9.map cOp), .sl 7 false (r10.map cOp), .own 2380])] rfl rfl rfl rfl (by kernel_rfl) (by kernel_rfl) (by kernel_rfl) ⟨rfl, trivial⟩ (fun w0 X X0 σ0 => by refine po_evs (T := tab) 1 rfl rfl ?_; refine po_nil ?_; exact pn_end0 ⟨rfl, trivial⟩ ⟨rfl, trivial⟩ rfl) ?_
      refine pdv_step0 [16] [100] [] [] [] [(50, .v (.int .i64 t12))] [] rfl rfl rfl rfl (by kernel_rfl) (by kernel_rfl) (by kernel_rfl) trivial (fun w0 X X0 σ0 => by refine po_evs (T := tab) 1 rfl rfl ?_; refine po_nil ?_; exact pn_end0 ⟨rfl, trivial⟩ trivial rfl) ?_
      refine pdv_step0 [18] [102] [] [9] [] [(51, .loc 9 1)] [] rfl rfl rfl rfl (by kernel_rfl) (by kernel_rfl) (by kernel_rfl) trivial (fun w0 X X0 σ0 => by refine po_evs (T := tab) 1 rfl rfl ?_; refine po_nil ?_; exact pn_end0 ⟨rfl, trivial⟩ trivial rfl) ?_
      refine pdv_step0 [19, 102] [104] [] [9] [9] [(52, .sl 7 false (y14.Do.map cOp))] [(9, .box [.v (.int .i64 y14.Kind), .sl 7 false (y14.Do.map cOp)])] rfl rfl rfl rfl (by kernel_rfl) (by kernel_rfl) (by kernel_rfl) ⟨rfl, trivial⟩ (fun w0 X X0 σ0 => by refine po_evs (T := tab) 1 rfl rfl ?_; refine po_nil ?_; exact pn_end0 ⟨rfl, trivial⟩ ⟨rfl, trivial⟩ rfl) ?_
      refine pdv_step0 [2] [106] [] [900000, 900001] [] [(53, .fn (.func 36) [] [.loc 900000 0, .loc 900001 0])] [] rfl rfl rfl rfl (by kernel_rfl) (by kernel_rfl) (by kernel_rfl) trivial (fun w0 X X0 σ0 => by refine po_evs (T := tab) 1 rfl rfl ?_; refine po_nil ?_; exact pn_end0 ⟨rfl, trivial⟩ trivial rfl) ?_
      refine pdv_step (M := (Lab_program_m fu (fun (z1 : Op) => Lab_Classes_1_m fu z1 c2 c3) y14.Do)) (ment := [(108, [])]) [104, 106, 1800001, 1800003] [108] [] [900000, 900001] [900000, 900001] (fun r15 => [(54, .sl 7 false (r15.map cOp))]) (fun r15 => [(900000, .box [.v (.int .i64 c2)]), (900001, .box [.v (.int .i64 c3)])]) rfl rfl (fun _ => rfl) (fun _ => rfl) (by kernel_rfl) (by kernel_rfl) (fun _ => by kernel_rfl) (fun _ => ⟨rfl, rfl, trivial⟩) (fun w0 X X0 σ0 => by refine po_callv (enc := fun (r15 : (List Op)) => .sl 7 false (r15.map cOp)) (first := []) (cap := []) (qs := [.sl 7 false (y14.Do.map cOp), .fn (.func 36) [] [.loc 900000 0, .loc 900001 0]]) (Sc := [(900000, .box [.v (.int .i64 c2)]), (900001, .box [.v (.int .i64 c3)])]) (fun r15 hr15 => fc_ren [(900000, 900000), (900001, 900001)] [900000, 900001] (Lab_program_ok fu y14.Do c2 c3 _ hr15) rfl rfl rfl rfl rfl rfl) (subS_of ⟨rfl, rfl, trivial⟩ rfl) rfl rfl rfl rfl ⟨⟨_, rfl, .rfl⟩, ⟨_, rfl, .rfl⟩, trivial⟩ (fun _ => rfl) call61 rfl rfl fun r15 hr15 => ?_; refine po_nil ?_; exact pn_end ⟨rfl, trivial⟩ ⟨rfl, rfl, trivial⟩ rfl) fun r15 hr15 => ?_
      refine pdv_step (M := (idx l13 t12)) (ment := [(110, [2380])]) [98, 100, 4761] [110] [] [2380] [2380] (fun y16 => [(55, .ela 2380 2 (t12).toNat 0)]) (fun y16 => [(2380, .arr 52 2 (l13.map cHook))]) rfl rfl (fun _ => rfl) (fun _ => rfl) (by kernel_rfl) (by kernel_rfl) (fun _ => by kernel_rfl) (fun _ => ⟨rfl, trivial⟩) (fun w0 X X0 σ0 => by refine po_idx_own (T := tab) cHook l13 rfl rfl rfl rfl rfl rfl rfl rfl fun y16 hy16 => ?_; refine po_nil ?_; exact pn_end ⟨rfl, trivial⟩ ⟨rfl, trivial⟩ rfl) fun y16 hy16 => ?_
      refine pdv_step0 [110] [112] [] [2380] [] [(56, .ela 2380 2 (t12).toNat 1)] [] rfl rfl rfl rfl (by kernel_rfl) (by kernel_rfl) (by kernel_rfl) trivial (fun w0 X X0 σ0 => by refine po_evs (T := tab) 1 rfl rfl ?_; refine po_nil ?_; exact pn_end0 ⟨rfl, trivial⟩ trivial rfl) ?_
      refine pdv_step0 [108, 112, 4761] [4761] [] [2380] [] [] [(2380, .arr 52 2 ((l13.set (t12).toNat (⟨y16.Kind, r15⟩ : Hook)).map cHook))] rfl rfl rfl rfl (by kernel_rfl) (by kernel_rfl) (by kernel_rfl) trivial (fun w0 X X0 σ0 => by refine po_store_ela (T := tab) cHook l13 y16 (⟨y16.Kind, r15⟩ : Hook) (idx_at hy16) rfl rfl rfl rfl rfl rfl rfl rfl rfl rfl rfl rfl rfl ?_; refine po_nil ?_; exact pn_end0 trivial ⟨rfl, trivial⟩ rfl) ?_
      refine pdv_nil rfl rfl ?_
      refine pn_block ?_
      refine pn_seq ?_
      refine pw_region ?_
      refine po_arith' (T := tab) rfl rfl rfl rfl fun i17 hi17 => ?_
      refine po_evs (T := tab) 1 rfl rfl ?_
      refine po_nil ?_
      exact pn_iter' (i17, (l13.set (t12).toNat (⟨y16.Kind, r15⟩ : Hook))) ⟨rfl, rfl, rfl, rfl, rfl, rfl, rfl, rfl, rfl, rfl, rfl, trivial⟩ ⟨rfl, rfl, rfl, rfl, rfl, rfl, rfl, trivial⟩ rfl
    · refine pw_exit rfl ?_
      refine pn_seq ?_
      refine pw_region ?_
      refine po_evs (T := tab) 4 rfl rfl ?_
      refine po_idx_own (T := tab) cClass l7 rfl rfl rfl rfl rfl rfl rfl rfl fun y18 hy18 => ?_
      refine po_freeze 2380 rfl rfl rfl ?_
      refine po_store_ela (T := tab) cClass l7 y18 (⟨y8.Form, y8.Watch, r9, r10, l13⟩ : Class) (idx_at hy18) rfl rfl rfl rfl rfl rfl rfl rfl rfl rfl rfl rfl rfl ?_
      refine po_nil ?_
      refine pn_block ?_
      refine pn_seq ?_
      refine pw_region ?_
      refine po_arith' (T := tab) rfl rfl rfl rfl fun i19 hi19 => ?_
      refine po_evs (T := tab) 1 rfl rfl ?_
      refine po_nil ?_
      exact pn_iter' (i19, (l7.set (t6).toNat (⟨y8.Form, y8.Watch, r9, r10, l13⟩ : Class))) ⟨rfl, rfl, rfl, rfl, rfl, rfl, trivial⟩ ⟨rfl, rfl, rfl, rfl, rfl, trivial⟩ rfl
  · refine pw_exit rfl ?_
    refine pn_seq ?_
    refine pw_seq ?_
    refine pw_region ?_
    refine po_evs (T := tab) 1 rfl rfl ?_
    refine po_store (T := tab) rfl rfl rfl rfl rfl rfl rfl rfl rfl rfl rfl rfl ?_
    refine po_nil ?_
    refine pn_seq ?_
    exact pw_retN (T := tab) rfl rfl rfl ⟨rfl, rfl⟩ ⟨rfl, rfl, rfl, trivial⟩ rfl

def Lab_Classes_m (fu : Nat) (s1 : Script) (a2 : Int) (b3 : Int) : Option Script := cnd (decide ((min a2 b3) < 0)) (some s1) (cnd (decide ((max a2 b3) ≥ ((s1.Classes.length : Nat) : Int))) (some s1) (bnd (Lab_script_m fu (fun (z1 : Op) => Lab_Classes_1_m fu z1 a2 b3) s1) fun r4 => bnd (idx r4.Classes b3) fun y5 => bnd (idx r4.Classes a2) fun y6 => bnd (idx r4.Classes a2) fun y7 => bnd (idx (r4.Classes.set (a2).toNat y5) b3) fun y8 => some (⟨((r4.Classes.set (a2).toNat y5).set (b3).toNat y6), r4.Main⟩ : Script)))

set_option maxHeartbeats 10000000 in
set_option maxRecDepth 100000 in
theorem Lab_Classes_ok (fu : Nat) (s1 : Script) (a2 : Int) (b3 : Int) : ∀ r, Lab_Classes_m fu s1 a2 b3 = some r → DC Try.prog 12 [.agg (cScript s1), .v (.int .i64 a2), .v (.int .i64 b3)] (.agg (cScript r)) := by
  intro r hr
  refine fc_intro (args := [.agg (cScript s1), .v (.int .i64 a2), .v (.int .i64 b3)]) (S := []) (N0 := []) (post := fun r p S => p = .agg (cScript r) ∧ S = []) Try.func12 rfl rfl hr fun w0 X X0 σ0 => ?_
  refine pw_seq ?_
  refine pw_region ?_
  refine po_box  3 rfl rfl rfl rfl rfl rfl rfl rfl rfl rfl ?_
  refine po_box  4 rfl rfl rfl rfl rfl rfl rfl rfl rfl rfl ?_
  refine po_box  5 rfl rfl rfl rfl rfl rfl rfl rfl rfl rfl ?_
  refine po_alloc (T := tab) 6 rfl rfl rfl rfl rfl rfl rfl rfl rfl ?_
  refine po_nil ?_
  refine pn_seq ?_
  refine pw_seq ?_
  refine pw_seq ?_
  refine pw_region ?_
  refine po_evs (T := tab) 2 rfl rfl ?_
  refine po_min rfl rfl rfl rfl rfl rfl rfl ?_
  refine po_evs (T := tab) 2 rfl rfl ?_
  refine po_split (j := 12) rfl ?_ ?_
  · refine po_evs (T := tab) 8 rfl rfl ?_
    refine po_nil ?_
    refine pn_seq (pw_then rfl ?_)
    refine pw_seq ?_
    refine pw_region ?_
    refine po_evs (T := tab) 1 rfl rfl ?_
    refine po_store (T := tab) rfl rfl rfl rfl rfl rfl rfl rfl rfl rfl rfl rfl ?_
    refine po_nil ?_
    refine pn_seq ?_
    exact pw_retN (T := tab) rfl rfl rfl ⟨rfl, rfl⟩ trivial rfl
  · refine po_evs (T := tab) 2 rfl rfl ?_
    refine po_max rfl rfl rfl rfl rfl rfl rfl ?_
    refine po_evs (T := tab) 2 rfl rfl ?_
    refine po_len (T := tab) cClass s1.Classes rfl rfl rfl rfl rfl rfl rfl rfl ?_
    refine po_evs (T := tab) 2 rfl rfl ?_
    refine po_nil ?_
    refine pn_seq ?_
    refine pw_cnd rfl ?_ ?_
    · refine pw_seq ?_
      refine pw_region ?_
      refine po_evs (T := tab) 1 rfl rfl ?_
      refine po_store (T := tab) rfl rfl rfl rfl rfl rfl rfl rfl rfl rfl rfl rfl ?_
      refine po_nil ?_
      refine pn_seq ?_
      exact pw_retN (T := tab) rfl rfl rfl ⟨rfl, rfl⟩ trivial rfl
    · refine pw_skip ?_
      refine pn_seq ?_
      refine pw_seq ?_
      refine pw_region ?_
      refine po_evs (T := tab) 2 rfl rfl ?_
      refine po_turn [2240] (enc := fun (r4 : Script) => .agg [.own 2240, .sl 7 false (r4.Main.map cOp)]) (Sr := fun (r4 : Script) => [(4, .box [.v (.int .i64 a2)]), (5, .box [.v (.int .i64 b3)]), (2240, .arr 37 5 (r4.Classes.map cClass))]) (first := []) (cap := []) (qs := [.agg (cScript s1), .fn (.func 36) [] [.loc 4 0, .loc 5 0]]) (Sc := [(4, .box [.v (.int .i64 a2)]), (5, .box [.v (.int .i64 b3)])]) (N0 := [4, 5]) (NR := [4, 5, 2240]) (fun r4 hr4 => fc_ren [(2120, 2240), (900000, 4), (900001, 5)] [2120, 900000, 900001] (Lab_script_ok fu s1 a2 b3 _ hr4) rfl rfl rfl rfl rfl rfl) ⟨rfl, rfl, trivial⟩ (fun _ => rfl) rfl rfl rfl rfl rfl rfl rfl (fun _ => rfl) (fun _ => rfl) rfl rfl rfl ⟨⟨_, rfl, .rfl⟩, ⟨_, rfl, .rfl⟩, trivial⟩ call35 rfl rfl fun r4 hr4 => ?_
      refine po_alloc (T := tab) 7 rfl rfl rfl rfl rfl rfl rfl rfl rfl ?_
      refine po_store (T := tab) rfl rfl rfl rfl rfl rfl rfl rfl rfl rfl rfl rfl ?_
      refine po_nil ?_
      refine pn_seq ?_
      refine pw_seq ?_
      refine pw_sub' (E' := [(4, .loc 4 0), (5, .loc 5 0), (6, .loc 6 0), (7, .loc 7 0)]) (S' := [(7, .box [.own 2240, .sl 7 false (r4.Main.map cOp)]), (4, .box [.v (.int .i64 a2)]), (5, .box [.v (.int .i64 b3)]), (2240, .arr 37 5 (r4.Classes.map cClass)), (6, .box [.v (.slice none 0 0), .v (.slice none 0 0)])]) ?_ ⟨rfl, rfl, rfl, rfl, trivial⟩ ⟨rfl, rfl, rfl, rfl, rfl, trivial⟩ rfl
      refine pw_drawV [0, 1, 0, 0, 8, 0, 0, 64, 0, 448, 960, 0, 2048, 0, 14336, 30720, 65479, 131015, 262143, 524287] mixed (by kernel_rfl) (by kernel_rfl) rfl rfl ?_
      refine pdv_step0 [14] [50] [] [7] [] [(25, .loc 7 0)] [] rfl rfl rfl rfl (by kernel_rfl) (by kernel_rfl) (by kernel_rfl) trivial (fun w0 X X0 σ0 => by refine po_evs (T := tab) 1 rfl rfl ?_; refine po_nil ?_; exact pn_end0 ⟨rfl, trivial⟩ trivial rfl) ?_
      refine pdv_step0 [15, 50] [52] [] [7, 2240] [7] [(26, .own 2240)] [(7, .box [.own 2240, .sl 7 false (r4.Main.map cOp)])] rfl rfl rfl rfl (by kernel_rfl) (by kernel_rfl) (by kernel_rfl) ⟨rfl, trivial⟩ (fun w0 X X0 σ0 => by refine po_evs (T := tab) 1 rfl rfl ?_; refine po_nil ?_; exact pn_end0 ⟨rfl, trivial⟩ ⟨rfl, trivial⟩ rfl) ?_
      refine pdv_step0 [8, 9] [54] [] [4] [4] [(27, .v (.int .i64 a2))] [(4, .box [.v (.int .i64 a2)])] rfl rfl rfl rfl (by kernel_rfl) (by kernel_rfl) (by kernel_rfl) ⟨rfl, trivial⟩ (fun w0 X X0 σ0 => by refine po_evs (T := tab) 1 rfl rfl ?_; refine po_nil ?_; exact pn_end0 ⟨rfl, trivial⟩ ⟨rfl, trivial⟩ rfl) ?_
      refine pdv_step0 [14] [56] [] [7] [] [(28, .loc 7 0)] [] rfl rfl rfl rfl (by kernel_rfl) (by kernel_rfl) (by kernel_rfl) trivial (fun w0 X X0 σ0 => by refine po_evs (T := tab) 1 rfl rfl ?_; refine po_nil ?_; exact pn_end0 ⟨rfl, trivial⟩ trivial rfl) ?_
      refine pdv_step0 [15, 56] [58] [] [7, 2240] [7] [(29, .own 2240)] [(7, .box [.own 2240, .sl 7 false (r4.Main.map cOp)])] rfl rfl rfl rfl (by kernel_rfl) (by kernel_rfl) (by kernel_rfl) ⟨rfl, trivial⟩ (fun w0 X X0 σ0 => by refine po_evs (T := tab) 1 rfl rfl ?_; refine po_nil ?_; exact pn_end0 ⟨rfl, trivial⟩ ⟨rfl, trivial⟩ rfl) ?_
      refine pdv_step0 [10, 11] [60] [] [5] [5] [(30, .v (.int .i64 b3))] [(5, .box [.v (.int .i64 b3)])] rfl rfl rfl rfl (by kernel_rfl) (by kernel_rfl) (by kernel_rfl) ⟨rfl, trivial⟩ (fun w0 X X0 σ0 => by refine po_evs (T := tab) 1 rfl rfl ?_; refine po_nil ?_; exact pn_end0 ⟨rfl, trivial⟩ ⟨rfl, trivial⟩ rfl) ?_
      refine pdv_step0 [14] [62] [] [7] [] [(31, .loc 7 0)] [] rfl rfl rfl rfl (by kernel_rfl) (by kernel_rfl) (by kernel_rfl) trivial (fun w0 X X0 σ0 => by refine po_evs (T := tab) 1 rfl rfl ?_; refine po_nil ?_; exact pn_end0 ⟨rfl, trivial⟩ trivial rfl) ?_
      refine pdv_step0 [15, 62] [64] [] [7, 2240] [7] [(32, .own 2240)] [(7, .box [.own 2240, .sl 7 false (r4.Main.map cOp)])] rfl rfl rfl rfl (by kernel_rfl) (by kernel_rfl) (by kernel_rfl) ⟨rfl, trivial⟩ (fun w0 X X0 σ0 => by refine po_evs (T := tab) 1 rfl rfl ?_; refine po_nil ?_; exact pn_end0 ⟨rfl, trivial⟩ ⟨rfl, trivial⟩ rfl) ?_
      refine pdv_step0 [10, 11] [66] [] [5] [5] [(33, .v (.int .i64 b3))] [(5, .box [.v (.int .i64 b3)])] rfl rfl rfl rfl (by kernel_rfl) (by kernel_rfl) (by kernel_rfl) ⟨rfl, trivial⟩ (fun w0 X X0 σ0 => by refine po_evs (T := tab) 1 rfl rfl ?_; refine po_nil ?_; exact pn_end0 ⟨rfl, trivial⟩ ⟨rfl, trivial⟩ rfl) ?_
      refine pdv_step (M := (idx r4.Classes b3)) (ment := [(68, [2240])]) [64, 66, 4481] [68] [] [2240] [2240] (fun y5 => [(34, .ela 2240 5 (b3).toNat 0)]) (fun y5 => [(2240, .arr 37 5 (r4.Classes.map cClass))]) rfl rfl (fun _ => rfl) (fun _ => rfl) (by kernel_rfl) (by kernel_rfl) (fun _ => by kernel_rfl) (fun _ => ⟨rfl, trivial⟩) (fun w0 X X0 σ0 => by refine po_idx_own (T := tab) cClass r4.Classes rfl rfl rfl rfl rfl rfl rfl rfl fun y5 hy5 => ?_; refine po_nil ?_; exact pn_end ⟨rfl, trivial⟩ ⟨rfl, trivial⟩ rfl) fun y5 hy5 => ?_
      refine pdv_step0 [68, 4481] [70] [] [2240] [2240] [(35, .agg (cClass y5))] [(2240, .arr 37 5 (r4.Classes.map cClass))] rfl rfl rfl rfl (by kernel_rfl) (by kernel_rfl) (by kernel_rfl) ⟨rfl, trivial⟩ (fun w0 X X0 σ0 => by refine po_load_ela (T := tab) cClass r4.Classes y5 (idx_at hy5) rfl rfl rfl rfl rfl rfl rfl rfl ?_; refine po_nil ?_; exact pn_end0 ⟨rfl, trivial⟩ ⟨rfl, trivial⟩ rfl) ?_
      refine pdv_step0 [14] [72] [] [7] [] [(36, .loc 7 0)] [] rfl rfl rfl rfl (by kernel_rfl) (by kernel_rfl) (by kernel_rfl) trivial (fun w0 X X0 σ0 => by refine po_evs (T := tab) 1 rfl rfl ?_; refine po_nil ?_; exact pn_end0 ⟨rfl, trivial⟩ trivial rfl) ?_
      refine pdv_step0 [15, 72] [74] [] [7, 2240] [7] [(37, .own 2240)] [(7, .box [.own 2240, .sl 7 false (r4.Main.map cOp)])] rfl rfl rfl rfl (by kernel_rfl) (by kernel_rfl) (by kernel_rfl) ⟨rfl, trivial⟩ (fun w0 X X0 σ0 => by refine po_evs (T := tab) 1 rfl rfl ?_; refine po_nil ?_; exact pn_end0 ⟨rfl, trivial⟩ ⟨rfl, trivial⟩ rfl) ?_
      refine pdv_step0 [8, 9] [76] [] [4] [4] [(38, .v (.int .i64 a2))] [(4, .box [.v (.int .i64 a2)])] rfl rfl rfl rfl (by kernel_rfl) (by kernel_rfl) (by kernel_rfl) ⟨rfl, trivial⟩ (fun w0 X X0 σ0 => by refine po_evs (T := tab) 1 rfl rfl ?_; refine po_nil ?_; exact pn_end0 ⟨rfl, trivial⟩ ⟨rfl, trivial⟩ rfl) ?_
      refine pdv_step (M := (idx r4.Classes a2)) (ment := [(78, [2240])]) [74, 76, 4481] [78] [] [2240] [2240] (fun y6 => [(39, .ela 2240 5 (a2).toNat 0)]) (fun y6 => [(2240, .arr 37 5 (r4.Classes.map cClass))]) rfl rfl (fun _ => rfl) (fun _ => rfl) (by kernel_rfl) (by kernel_rfl) (fun _ => by kernel_rfl) (fun _ => ⟨rfl, trivial⟩) (fun w0 X X0 σ0 => by refine po_idx_own (T := tab) cClass r4.Classes rfl rfl rfl rfl rfl rfl rfl rfl fun y6 hy6 => ?_; refine po_nil ?_; exact pn_end ⟨rfl, trivial⟩ ⟨rfl, trivial⟩ rfl) fun y6 hy6 => ?_
      refine pdv_step0 [78, 4481] [80] [] [2240] [2240] [(40, .agg (cClass y6))] [(2240, .arr 37 5 (r4.Classes.map cClass))] rfl rfl rfl rfl (by kernel_rfl) (by kernel_rfl) (by kernel_rfl) ⟨rfl, trivial⟩ (fun w0 X X0 σ0 => by refine po_load_ela (T := tab) cClass r4.Classes y6 (idx_at hy6) rfl rfl rfl rfl rfl rfl rfl rfl ?_; refine po_nil ?_; exact pn_end0 ⟨rfl, trivial⟩ ⟨rfl, trivial⟩ rfl) ?_
      refine pdv_step (M := (idx r4.Classes a2)) (ment := [(82, [2240])]) [52, 54, 4481] [82] [] [2240] [2240] (fun y7 => [(41, .ela 2240 5 (a2).toNat 0)]) (fun y7 => [(2240, .arr 37 5 (r4.Classes.map cClass))]) rfl rfl (fun _ => rfl) (fun _ => rfl) (by kernel_rfl) (by kernel_rfl) (fun _ => by kernel_rfl) (fun _ => ⟨rfl, trivial⟩) (fun w0 X X0 σ0 => by refine po_idx_own (T := tab) cClass r4.Classes rfl rfl rfl rfl rfl rfl rfl rfl fun y7 hy7 => ?_; refine po_nil ?_; exact pn_end ⟨rfl, trivial⟩ ⟨rfl, trivial⟩ rfl) fun y7 hy7 => ?_
      refine pdv_step0 [70, 82, 4481] [4481] [] [2240] [] [] [(2240, .arr 37 5 ((r4.Classes.set (a2).toNat y5).map cClass))] rfl rfl rfl rfl (by kernel_rfl) (by kernel_rfl) (by kernel_rfl) trivial (fun w0 X X0 σ0 => by refine po_store_ela (T := tab) cClass r4.Classes y7 y5 (idx_at hy7) rfl rfl rfl rfl rfl rfl rfl rfl rfl rfl rfl rfl rfl ?_; refine po_nil ?_; exact pn_end0 trivial ⟨rfl, trivial⟩ rfl) ?_
      refine pdv_step (M := (idx (r4.Classes.set (a2).toNat y5) b3)) (ment := [(84, [2240])]) [58, 60, 4481] [84] [] [2240] [2240] (fun y8 => [(42, .ela 2240 5 (b3).toNat 0)]) (fun y8 => [(2240, .arr 37 5 ((r4.Classes.set (a2).toNat y5).map cClass))]) rfl rfl (fun _ => rfl) (fun _ => rfl) (by kernel_rfl) (by kernel_rfl) (fun _ => by kernel_rfl) (fun _ => ⟨rfl, trivial⟩) (fun w0 X X0 σ0 => by refine po_idx_own (T := tab) cClass (r4.Classes.set (a2).toNat y5) rfl rfl rfl rfl rfl rfl rfl rfl fun y8 hy8 => ?_; refine po_nil ?_; exact pn_end ⟨rfl, trivial⟩ ⟨rfl, trivial⟩ rfl) fun y8 hy8 => ?_
      refine pdv_step0 [80, 84, 4481] [4481] [] [2240] [] [] [(2240, .arr 37 5 (((r4.Classes.set (a2).toNat y5).set (b3).toNat y6).map cClass))] rfl rfl rfl rfl (by kernel_rfl) (by kernel_rfl) (by kernel_rfl) trivial (fun w0 X X0 σ0 => by refine po_store_ela (T := tab) cClass (r4.Classes.set (a2).toNat y5) y8 y6 (idx_at hy8) rfl rfl rfl rfl rfl rfl rfl rfl rfl rfl rfl rfl rfl ?_; refine po_nil ?_; exact pn_end0 trivial ⟨rfl, trivial⟩ rfl) ?_
      refine pdv_nil rfl rfl ?_
      refine pn_seq ?_
      refine pw_seq ?_
      refine pw_region ?_
      refine po_evs (T := tab) 1 rfl rfl ?_
      refine po_store (T := tab) rfl rfl rfl rfl rfl rfl rfl rfl rfl rfl rfl rfl ?_
      refine po_nil ?_
      refine pn_seq ?_
      refine pw_freeze 2240 rfl rfl rfl ?_
      exact pw_retN (T := tab) rfl rfl rfl ⟨rfl, rfl⟩ trivial rfl

def Name_small_m (_fu : Nat) (c1 : Int) : Option Bool := cnd (decide (c1 ≥ 97)) (some (decide (c1 ≤ 122))) (some false)

set_option maxRecDepth 100000 in
theorem Name_small_ok (fu : Nat) (c1 : Int) : ∀ r, Name_small_m fu c1 = some r → DC Try.prog 85 [.v (.int .i32 c1)] (.v (.bool r)) := by
  intro r hr
  refine fc_intro (args := [.v (.int .i32 c1)]) (S := []) (N0 := []) (post := fun r p S => p = .v (.bool r) ∧ S = []) Try.func85 rfl rfl hr fun w0 X X0 σ0 => ?_
  refine pw_seq ?_
  refine pw_region ?_
  refine po_evs (T := tab) 1 rfl rfl ?_
  refine po_nil ?_
  refine pn_seq ?_
  refine pw_seq ?_
  refine pw_region ?_
  refine po_evs (T := tab) 3 rfl rfl ?_
  refine po_split (j := 5) rfl ?_ ?_
  · refine po_evs (T := tab) 4 rfl rfl ?_
    refine po_nil ?_
    refine pn_seq ?_
    exact pw_retN (T := tab) rfl rfl rfl ⟨rfl, rfl⟩ trivial rfl
  · refine po_evs (T := tab) 4 rfl rfl ?_
    refine po_nil ?_
    refine pn_seq ?_
    exact pw_retN (T := tab) rfl rfl rfl ⟨rfl, rfl⟩ trivial rfl

def Name_capital_m (_fu : Nat) (c1 : Int) : Option Bool := cnd (decide (c1 ≥ 65)) (some (decide (c1 ≤ 90))) (some false)

set_option maxRecDepth 100000 in
theorem Name_capital_ok (fu : Nat) (c1 : Int) : ∀ r, Name_capital_m fu c1 = some r → DC Try.prog 65 [.v (.int .i32 c1)] (.v (.bool r)) := by
  intro r hr
  refine fc_intro (args := [.v (.int .i32 c1)]) (S := []) (N0 := []) (post := fun r p S => p = .v (.bool r) ∧ S = []) Try.func65 rfl rfl hr fun w0 X X0 σ0 => ?_
  refine pw_seq ?_
  refine pw_region ?_
  refine po_evs (T := tab) 1 rfl rfl ?_
  refine po_nil ?_
  refine pn_seq ?_
  refine pw_seq ?_
  refine pw_region ?_
  refine po_evs (T := tab) 3 rfl rfl ?_
  refine po_split (j := 5) rfl ?_ ?_
  · refine po_evs (T := tab) 4 rfl rfl ?_
    refine po_nil ?_
    refine pn_seq ?_
    exact pw_retN (T := tab) rfl rfl rfl ⟨rfl, rfl⟩ trivial rfl
  · refine po_evs (T := tab) 4 rfl rfl ?_
    refine po_nil ?_
    refine pn_seq ?_
    exact pw_retN (T := tab) rfl rfl rfl ⟨rfl, rfl⟩ trivial rfl

def Name_sign_j1 (c1 : Int) (x_ : Unit) : Option Bool := cnd (c1 == 45) (some true) (cnd (c1 == 95) (some true) (some (c1 == 46)))

def Name_sign_m (fu : Nat) (c1 : Int) : Option Bool := bnd (Name_small_m fu c1) fun r2 => cnd r2 (cnd r2 (some true) ((Name_sign_j1 c1) ())) (bnd (Name_capital_m fu c1) fun r3 => cnd r3 (cnd r3 (some true) ((Name_sign_j1 c1) ())) (cnd (decide (c1 ≥ 48)) (cnd (decide (c1 ≤ 57)) (some true) ((Name_sign_j1 c1) ())) ((Name_sign_j1 c1) ())))

set_option maxHeartbeats 10000000 in
set_option maxRecDepth 100000 in
theorem Name_sign_ok (fu : Nat) (c1 : Int) : ∀ r, Name_sign_m fu c1 = some r → DC Try.prog 100 [.v (.int .i32 c1)] (.v (.bool r)) := by
  intro r hr
  refine fc_intro (args := [.v (.int .i32 c1)]) (S := []) (N0 := []) (post := fun r p S => p = .v (.bool r) ∧ S = []) Try.func100 rfl rfl hr fun w0 X X0 σ0 => ?_
  refine pw_seq ?_
  refine pw_region ?_
  refine po_evs (T := tab) 1 rfl rfl ?_
  refine po_nil ?_
  refine pn_seq ?_
  refine pw_seq ?_
  refine pw_joinK (Name_sign_j1 c1) (fun (_ : Unit) => [(0, .v (.int .i32 c1))]) (fun (_ : Unit) => []) ?_ fun hj1 => ?_
  · rintro _
    refine pn_seq ?_
    refine pw_seq ?_
    refine pw_region ?_
    refine po_evs (T := tab) 3 rfl rfl ?_
    refine po_split (j := 16) rfl ?_ ?_
    · refine po_evs (T := tab) 8 rfl rfl ?_
      refine po_nil ?_
      refine pn_seq ?_
      exact pw_retN (T := tab) rfl rfl rfl ⟨rfl, rfl⟩ trivial rfl
    · refine po_evs (T := tab) 4 rfl rfl ?_
      refine po_split (j := 20) rfl ?_ ?_
      · refine po_evs (T := tab) 4 rfl rfl ?_
        refine po_nil ?_
        refine pn_seq ?_
        exact pw_retN (T := tab) rfl rfl rfl ⟨rfl, rfl⟩ trivial rfl
      · refine po_evs (T := tab) 4 rfl rfl ?_
        refine po_nil ?_
        refine pn_seq ?_
        exact pw_retN (T := tab) rfl rfl rfl ⟨rfl, rfl⟩ trivial rfl
  · refine pw_block ?_
    refine pw_seq ?_
    refine pw_seq ?_
    refine pw_region ?_
    refine po_evs (T := tab) 1 rfl rfl ?_
    refine po_call (enc := fun (r2 : Bool) => .v (.bool r2)) (qs := [.v (.int .i32 c1)]) (Name_small_ok fu c1) rfl rfl ⟨⟨_, rfl, .rfl⟩, trivial⟩ (fun _ => rfl) call85 rfl rfl fun r2 hr2 => ?_
    refine po_evs (T := tab) 1 rfl rfl ?_
    refine po_nil ?_
    refine pn_seq ?_
    refine pw_cnd rfl ?_ ?_
    · refine pw_skip ?_
      refine pn_seq ?_
      refine pw_cnd rfl ?_ ?_
      · refine pw_seq ?_
        refine pw_region ?_
        refine po_evs (T := tab) 1 rfl rfl ?_
        refine po_nil ?_
        refine pn_seq ?_
        exact pw_retN (T := tab) rfl rfl rfl ⟨rfl, rfl⟩ trivial rfl
      · refine pw_skip ?_
        refine pn_block ?_
        exact pn_sub' (hj1 ()) ⟨rfl, trivial⟩ trivial rfl
    · refine pw_seq ?_
      refine pw_region ?_
      refine po_evs (T := tab) 1 rfl rfl ?_
      refine po_call (enc := fun (r3 : Bool) => .v (.bool r3)) (qs := [.v (.int .i32 c1)]) (Name_capital_ok fu c1) rfl rfl ⟨⟨_, rfl, .rfl⟩, trivial⟩ (fun _ => rfl) call65 rfl rfl fun r3 hr3 => ?_
      refine po_evs (T := tab) 1 rfl rfl ?_
      refine po_nil ?_
      refine pn_seq ?_
      refine pw_cnd rfl ?_ ?_
      · refine pw_skip ?_
        refine pn_seq ?_
        refine pw_cnd rfl ?_ ?_
        · refine pw_seq ?_
          refine pw_region ?_
          refine po_evs (T := tab) 1 rfl rfl ?_
          refine po_nil ?_
          refine pn_seq ?_
          exact pw_retN (T := tab) rfl rfl rfl ⟨rfl, rfl⟩ trivial rfl
        · refine pw_skip ?_
          refine pn_block ?_
          exact pn_sub' (hj1 ()) ⟨rfl, trivial⟩ trivial rfl
      · refine pw_region ?_
        refine po_evs (T := tab) 3 rfl rfl ?_
        refine po_split (j := 10) rfl ?_ ?_
        · refine po_evs (T := tab) 4 rfl rfl ?_
          refine po_nil ?_
          refine pn_seq ?_
          refine pw_cnd rfl ?_ ?_
          · refine pw_seq ?_
            refine pw_region ?_
            refine po_evs (T := tab) 1 rfl rfl ?_
            refine po_nil ?_
            refine pn_seq ?_
            exact pw_retN (T := tab) rfl rfl rfl ⟨rfl, rfl⟩ trivial rfl
          · refine pw_skip ?_
            refine pn_block ?_
            exact pn_sub' (hj1 ()) ⟨rfl, trivial⟩ trivial rfl
        · refine po_evs (T := tab) 4 rfl rfl ?_
          refine po_nil ?_
          refine pn_seq ?_
          refine pw_else rfl ?_
          refine pw_skip ?_
          refine pn_block ?_
          exact pn_sub' (hj1 ()) ⟨rfl, trivial⟩ trivial rfl

def Name_Right_1_m (fu : Nat) (c1 : Int) : Option Bool := bnd (Name_sign_m fu c1) fun r2 => some (!r2)

set_option maxRecDepth 100000 in
theorem Name_Right_1_ok (fu : Nat) (c1 : Int) : ∀ r, Name_Right_1_m fu c1 = some r → DC Try.prog 99 [.v (.int .i32 c1)] (.v (.bool r)) := by
  intro r hr
  refine fc_intro (args := [.v (.int .i32 c1)]) (S := []) (N0 := []) (post := fun r p S => p = .v (.bool r) ∧ S = []) Try.func99 rfl rfl hr fun w0 X X0 σ0 => ?_
  refine pw_seq ?_
  refine pw_region ?_
  refine po_evs (T := tab) 1 rfl rfl ?_
  refine po_nil ?_
  refine pn_seq ?_
  refine pw_seq ?_
  refine pw_region ?_
  refine po_evs (T := tab) 1 rfl rfl ?_
  refine po_call (enc := fun (r2 : Bool) => .v (.bool r2)) (qs := [.v (.int .i32 c1)]) (Name_sign_ok fu c1) rfl rfl ⟨⟨_, rfl, .rfl⟩, trivial⟩ (fun _ => rfl) call100 rfl rfl fun r2 hr2 => ?_
  refine po_evs (T := tab) 2 rfl rfl ?_
  refine po_nil ?_
  refine pn_seq ?_
  exact pw_retN (T := tab) rfl rfl rfl ⟨rfl, rfl⟩ trivial rfl

def Strings_indexFunc_l1 (t1 : Int → Option Bool) (s1 : Bs) (truth2 : Bool) : Nat → Nat → Option Int
  | 0, _ => none
  | k1 + 1, p3 => cnd (decide (p3 < s1.length)) (bnd (t1 (decRune s1 p3)) fun r4 => cnd (r4 == truth2) (some ((p3 : Nat) : Int)) ((Strings_indexFunc_l1 t1 s1 truth2 k1) (p3 + decSize s1 p3))) (some (-1))

def Strings_indexFunc_m (fu : Nat) (t1 : Int → Option Bool) (s1 : Bs) (truth2 : Bool) : Option Int := (Strings_indexFunc_l1 t1 s1 truth2) fu 0

set_option maxHeartbeats 10000000 in
set_option maxRecDepth 100000 in
theorem Strings_indexFunc_ok (fu : Nat) (s1 : Bs) (truth2 : Bool) : ∀ r, Strings_indexFunc_m fu (fun (z1 : Int) => Name_Right_1_m fu z1) s1 truth2 = some r → DC Try.prog 108 [.v (.string ⟨⟨s1⟩⟩), .fn (.func 99) [] [], .v (.bool truth2)] (.v (.int .i64 r)) := by
  intro r hr
  refine fc_intro (args := [.v (.string ⟨⟨s1⟩⟩), .fn (.func 99) [] [], .v (.bool truth2)]) (S := []) (N0 := []) (post := fun r p S => p = .v (.int .i64 r) ∧ S = []) Try.func108 rfl rfl hr fun w0 X X0 σ0 => ?_
  refine pw_seq ?_
  refine pw_region ?_
  refine po_evs (T := tab) 1 rfl rfl ?_
  refine po_nil ?_
  refine pn_seq ?_
  refine pw_seq ?_
  refine pw_seq ?_
  refine pw_region ?_
  refine po_evs (T := tab) 1 rfl rfl ?_
  refine po_range (T := tab) 10 rfl rfl rfl rfl rfl rfl rfl rfl rfl ?_
  refine po_nil ?_
  refine pn_seq ?_
  refine pw_block ?_
  refine pw_loop' (Strings_indexFunc_l1 (fun (z1 : Int) => Name_Right_1_m fu z1) s1 truth2) (fun (p3 : Nat) => [(1, .fn (.func 99) [] []), (2, .v (.bool truth2)), (10, .loc 10 0)]) (fun (p3 : Nat) => [(10, .siter ⟨⟨s1⟩⟩ p3)]) fu 0 (fun _ => rfl) ⟨rfl, rfl, rfl, trivial⟩ ⟨rfl, trivial⟩ rfl ?_
  rintro k1 p3
  refine pw_seq ?_
  refine pw_region ?_
  refine po_next 10 rfl rfl rfl rfl rfl rfl rfl ?_ ?_
  · refine po_evs (T := tab) 1 rfl rfl ?_
    refine po_nil ?_
    refine pn_seq ?_
    refine pw_seq ?_
    refine pw_then rfl ?_
    refine pw_skip ?_
    refine pn_seq ?_
    refine pw_block ?_
    refine pw_seq ?_
    refine pw_region ?_
    refine po_evs (T := tab) 4 rfl rfl ?_
    refine po_nil ?_
    refine pn_seq ?_
    refine pw_seq ?_
    refine pw_region ?_
    refine po_evs (T := tab) 2 rfl rfl ?_
    refine po_callv (enc := fun (r4 : Bool) => .v (.bool r4)) (first := []) (cap := []) (qs := [.v (.int .i32 (decRune s1 p3))]) (Sc := []) (Name_Right_1_ok fu (decRune s1 p3)) (subS_of trivial rfl) rfl rfl rfl rfl ⟨⟨_, rfl, .rfl⟩, trivial⟩ (fun _ => rfl) call99 rfl rfl fun r4 hr4 => ?_
    refine po_evs (T := tab) 2 rfl rfl ?_
    refine po_nil ?_
    refine pn_seq ?_
    refine pw_cnd rfl ?_ ?_
    · refine pw_seq ?_
      refine pw_region ?_
      refine po_evs (T := tab) 2 rfl rfl ?_
      refine po_nil ?_
      refine pn_seq ?_
      exact pw_retN (T := tab) rfl rfl rfl ⟨rfl, rfl⟩ trivial rfl
    · refine pw_skip ?_
      refine pn_block ?_
      exact pn_iter' (p3 + decSize s1 p3) ⟨rfl, rfl, rfl, trivial⟩ ⟨rfl, trivial⟩ rfl
  · refine po_evs (T := tab) 1 rfl rfl ?_
    refine po_nil ?_
    refine pn_seq ?_
    refine pw_seq ?_
    refine pw_else rfl ?_
    refine pw_exit rfl ?_
    refine pn_seq ?_
    refine pw_seq ?_
    refine pw_region ?_
    refine po_evs (T := tab) 1 rfl rfl ?_
    refine po_nil ?_
    refine pn_seq ?_
    exact pw_retN (T := tab) rfl rfl rfl ⟨rfl, rfl⟩ trivial rfl

def Strings_IndexFunc_m (fu : Nat) (t1 : Int → Option Bool) (s1 : Bs) : Option Int := bnd (Strings_indexFunc_m fu t1 s1 true) fun r2 => some r2

set_option maxRecDepth 100000 in
theorem Strings_IndexFunc_ok (fu : Nat) (s1 : Bs) : ∀ r, Strings_IndexFunc_m fu (fun (z1 : Int) => Name_Right_1_m fu z1) s1 = some r → DC Try.prog 101 [.v (.string ⟨⟨s1⟩⟩), .fn (.func 99) [] []] (.v (.int .i64 r)) := by
  intro r hr
  refine fc_intro (args := [.v (.string ⟨⟨s1⟩⟩), .fn (.func 99) [] []]) (S := []) (N0 := []) (post := fun r p S => p = .v (.int .i64 r) ∧ S = []) Try.func101 rfl rfl hr fun w0 X X0 σ0 => ?_
  refine pw_seq ?_
  refine pw_region ?_
  refine po_evs (T := tab) 1 rfl rfl ?_
  refine po_nil ?_
  refine pn_seq ?_
  refine pw_seq ?_
  refine pw_region ?_
  refine po_evs (T := tab) 2 rfl rfl ?_
  refine po_call (enc := fun (r2 : Int) => .v (.int .i64 r2)) (qs := [.v (.string ⟨⟨s1⟩⟩), .fn (.func 99) [] [], .v (.bool true)]) (Strings_indexFunc_ok fu s1 true) rfl rfl ⟨⟨_, rfl, .rfl⟩, ⟨_, rfl, .rfl⟩, ⟨_, rfl, .rfl⟩, trivial⟩ (fun _ => rfl) call108 rfl rfl fun r2 hr2 => ?_
  refine po_evs (T := tab) 1 rfl rfl ?_
  refine po_nil ?_
  refine pn_seq ?_
  exact pw_retN (T := tab) rfl rfl rfl ⟨rfl, rfl⟩ trivial rfl

def Strings_ContainsFunc_m (fu : Nat) (t1 : Int → Option Bool) (s1 : Bs) : Option Bool := bnd (Strings_IndexFunc_m fu t1 s1) fun r2 => some (decide (r2 ≥ 0))

set_option maxRecDepth 100000 in
theorem Strings_ContainsFunc_ok (fu : Nat) (s1 : Bs) : ∀ r, Strings_ContainsFunc_m fu (fun (z1 : Int) => Name_Right_1_m fu z1) s1 = some r → DC Try.prog 86 [.v (.string ⟨⟨s1⟩⟩), .fn (.func 99) [] []] (.v (.bool r)) := by
  intro r hr
  refine fc_intro (args := [.v (.string ⟨⟨s1⟩⟩), .fn (.func 99) [] []]) (S := []) (N0 := []) (post := fun r p S => p = .v (.bool r) ∧ S = []) Try.func86 rfl rfl hr fun w0 X X0 σ0 => ?_
  refine pw_seq ?_
  refine pw_region ?_
  refine po_evs (T := tab) 1 rfl rfl ?_
  refine po_nil ?_
  refine pn_seq ?_
  refine pw_seq ?_
  refine pw_region ?_
  refine po_evs (T := tab) 2 rfl rfl ?_
  refine po_call (enc := fun (r2 : Int) => .v (.int .i64 r2)) (qs := [.v (.string ⟨⟨s1⟩⟩), .fn (.func 99) [] []]) (Strings_IndexFunc_ok fu s1) rfl rfl ⟨⟨_, rfl, .rfl⟩, ⟨_, rfl, .rfl⟩, trivial⟩ (fun _ => rfl) call101 rfl rfl fun r2 hr2 => ?_
  refine po_evs (T := tab) 2 rfl rfl ?_
  refine po_nil ?_
  refine pn_seq ?_
  exact pw_retN (T := tab) rfl rfl rfl ⟨rfl, rfl⟩ trivial rfl

def Name_Right_m (fu : Nat) (s1 : Bs) : Option Bool := cnd (decide (((s1.length : Nat) : Int) < 1)) (some false) (cnd (decide (((s1.length : Nat) : Int) > 40)) (some false) (bnd (Strings_ContainsFunc_m fu (fun (z1 : Int) => Name_Right_1_m fu z1) s1) fun r2 => cnd r2 (some false) (bnd (chr s1 0) fun b3 => bnd (rng .i32 b3) fun i4 => bnd (Name_small_m fu i4) fun r5 => cnd r5 (some true) (bnd (Name_capital_m fu i4) fun r6 => cnd r6 (some true) (some (i4 == 95))))))

set_option maxHeartbeats 10000000 in
set_option maxRecDepth 100000 in
theorem Name_Right_ok (fu : Nat) (s1 : Bs) : ∀ r, Name_Right_m fu s1 = some r → DC Try.prog 84 [.v (.string ⟨⟨s1⟩⟩)] (.v (.bool r)) := by
  intro r hr
  refine fc_intro (args := [.v (.string ⟨⟨s1⟩⟩)]) (S := []) (N0 := []) (post := fun r p S => p = .v (.bool r) ∧ S = []) Try.func84 rfl rfl hr fun w0 X X0 σ0 => ?_
  refine pw_seq ?_
  refine pw_region ?_
  refine po_evs (T := tab) 1 rfl rfl ?_
  refine po_nil ?_
  refine pn_seq ?_
  refine pw_seq ?_
  refine pw_seq ?_
  refine pw_region ?_
  refine po_evs (T := tab) 4 rfl rfl ?_
  refine po_split (j := 7) rfl ?_ ?_
  · refine po_evs (T := tab) 8 rfl rfl ?_
    refine po_nil ?_
    refine pn_seq (pw_then rfl ?_)
    refine pw_seq ?_
    refine pw_region ?_
    refine po_evs (T := tab) 1 rfl rfl ?_
    refine po_nil ?_
    refine pn_seq ?_
    exact pw_retN (T := tab) rfl rfl rfl ⟨rfl, rfl⟩ trivial rfl
  · refine po_evs (T := tab) 5 rfl rfl ?_
    refine po_split (j := 12) rfl ?_ ?_
    · refine po_evs (T := tab) 3 rfl rfl ?_
      refine po_nil ?_
      refine pn_seq (pw_then rfl ?_)
      refine pw_seq ?_
      refine pw_region ?_
      refine po_evs (T := tab) 1 rfl rfl ?_
      refine po_nil ?_
      refine pn_seq ?_
      exact pw_retN (T := tab) rfl rfl rfl ⟨rfl, rfl⟩ trivial rfl
    · refine po_evs (T := tab) 1 rfl rfl ?_
      refine po_call (enc := fun (r2 : Bool) => .v (.bool r2)) (qs := [.v (.string ⟨⟨s1⟩⟩), .fn (.func 99) [] []]) (Strings_ContainsFunc_ok fu s1) rfl rfl ⟨⟨_, rfl, .rfl⟩, ⟨_, rfl, .rfl⟩, trivial⟩ (fun _ => rfl) call86 rfl rfl fun r2 hr2 => ?_
      refine po_evs (T := tab) 1 rfl rfl ?_
      refine po_nil ?_
      refine pn_seq ?_
      refine pw_cnd rfl ?_ ?_
      · refine pw_seq ?_
        refine pw_region ?_
        refine po_evs (T := tab) 1 rfl rfl ?_
        refine po_nil ?_
        refine pn_seq ?_
        exact pw_retN (T := tab) rfl rfl rfl ⟨rfl, rfl⟩ trivial rfl
      · refine pw_skip ?_
        refine pn_seq ?_
        refine pw_seq ?_
        refine pw_region ?_
        refine po_evs (T := tab) 1 rfl rfl ?_
        refine po_chr (T := tab) (s := s1) rfl rfl rfl rfl rfl rfl rfl fun b3 hb3 => ?_
        refine po_arith' (T := tab) rfl rfl rfl rfl fun i4 hi4 => ?_
        refine po_evs (T := tab) 1 rfl rfl ?_
        refine po_nil ?_
        refine pn_seq ?_
        refine pw_seq ?_
        refine pw_region ?_
        refine po_evs (T := tab) 1 rfl rfl ?_
        refine po_call (enc := fun (r5 : Bool) => .v (.bool r5)) (qs := [.v (.int .i32 i4)]) (Name_small_ok fu i4) rfl rfl ⟨⟨_, rfl, .rfl⟩, trivial⟩ (fun _ => rfl) call85 rfl rfl fun r5 hr5 => ?_
        refine po_evs (T := tab) 1 rfl rfl ?_
        refine po_split (j := 21) rfl ?_ ?_
        · refine po_evs (T := tab) 8 rfl rfl ?_
          refine po_nil ?_
          refine pn_seq ?_
          exact pw_retN (T := tab) rfl rfl rfl ⟨rfl, rfl⟩ trivial rfl
        · refine po_evs (T := tab) 1 rfl rfl ?_
          refine po_call (enc := fun (r6 : Bool) => .v (.bool r6)) (qs := [.v (.int .i32 i4)]) (Name_capital_ok fu i4) rfl rfl ⟨⟨_, rfl, .rfl⟩, trivial⟩ (fun _ => rfl) call65 rfl rfl fun r6 hr6 => ?_
          refine po_evs (T := tab) 2 rfl rfl ?_
          refine po_split (j := 25) rfl ?_ ?_
          · refine po_evs (T := tab) 4 rfl rfl ?_
            refine po_nil ?_
            refine pn_seq ?_
            exact pw_retN (T := tab) rfl rfl rfl ⟨rfl, rfl⟩ trivial rfl
          · refine po_evs (T := tab) 4 rfl rfl ?_
            refine po_nil ?_
            refine pn_seq ?_
            exact pw_retN (T := tab) rfl rfl rfl ⟨rfl, rfl⟩ trivial rfl

set_option maxHeartbeats 10000000 in
set_option maxRecDepth 100000 in
theorem Strings_indexFunc_i2_ok (fu : Nat) (s1 : Bs) (truth2 : Bool) : ∀ r, Strings_indexFunc_m fu (fun (z1 : Int) => Name_capital_m fu z1) s1 truth2 = some r → DC Try.prog 108 [.v (.string ⟨⟨s1⟩⟩), .fn (.func 65) [] [], .v (.bool truth2)] (.v (.int .i64 r)) := by
  intro r hr
  refine fc_intro (args := [.v (.string ⟨⟨s1⟩⟩), .fn (.func 65) [] [], .v (.bool truth2)]) (S := []) (N0 := []) (post := fun r p S => p = .v (.int .i64 r) ∧ S = []) Try.func108 rfl rfl hr fun w0 X X0 σ0 => ?_
  refine pw_seq ?_
  refine pw_region ?_
  refine po_evs (T := tab) 1 rfl rfl ?_
  refine po_nil ?_
  refine pn_seq ?_
  refine pw_seq ?_
  refine pw_seq ?_
  refine pw_region ?_
  refine po_evs (T := tab) 1 rfl rfl ?_
  refine po_range (T := tab) 10 rfl rfl rfl rfl rfl rfl rfl rfl rfl ?_
  refine po_nil ?_
  refine pn_seq ?_
  refine pw_block ?_
  refine pw_loop' (Strings_indexFunc_l1 (fun (z1 : Int) => Name_capital_m fu z1) s1 truth2) (fun (p3 : Nat) => [(1, .fn (.func 65) [] []), (2, .v (.bool truth2)), (10, .loc 10 0)]) (fun (p3 : Nat) => [(10, .siter ⟨⟨s1⟩⟩ p3)]) fu 0 (fun _ => rfl) ⟨rfl, rfl, rfl, trivial⟩ ⟨rfl, trivial⟩ rfl ?_
  rintro k1 p3
  refine pw_seq ?_
  refine pw_region ?_
  refine po_next 10 rfl rfl rfl rfl rfl rfl rfl ?_ ?_
  · refine po_evs (T := tab) 1 rfl rfl ?_
    refine po_nil ?_
    refine pn_seq ?_
    refine pw_seq ?_
    refine pw_then rfl ?_
    refine pw_skip ?_
    refine pn_seq ?_
    refine pw_block ?_
    refine pw_seq ?_
    refine pw_region ?_
    refine po_evs (T := tab) 4 rfl rfl ?_
    refine po_nil ?_
    refine pn_seq ?_
    refine pw_seq ?_
    refine pw_region ?_
    refine po_evs (T := tab) 2 rfl rfl ?_
    refine po_callv (enc := fun (r4 : Bool) => .v (.bool r4)) (first := []) (cap := []) (qs := [.v (.int .i32 (decRune s1 p3))]) (Sc := []) (Name_capital_ok fu (decRune s1 p3)) (subS_of trivial rfl) rfl rfl rfl rfl ⟨⟨_, rfl, .rfl⟩, trivial⟩ (fun _ => rfl) call65 rfl rfl fun r4 hr4 => ?_
    refine po_evs (T := tab) 2 rfl rfl ?_
    refine po_nil ?_
    refine pn_seq ?_
    refine pw_cnd rfl ?_ ?_
    · refine pw_seq ?_
      refine pw_region ?_
      refine po_evs (T := tab) 2 rfl rfl ?_
      refine po_nil ?_
      refine pn_seq ?_
      exact pw_retN (T := tab) rfl rfl rfl ⟨rfl, rfl⟩ trivial rfl
    · refine pw_skip ?_
      refine pn_block ?_
      exact pn_iter' (p3 + decSize s1 p3) ⟨rfl, rfl, rfl, trivial⟩ ⟨rfl, trivial⟩ rfl
  · refine po_evs (T := tab) 1 rfl rfl ?_
    refine po_nil ?_
    refine pn_seq ?_
    refine pw_seq ?_
    refine pw_else rfl ?_
    refine pw_exit rfl ?_
    refine pn_seq ?_
    refine pw_seq ?_
    refine pw_region ?_
    refine po_evs (T := tab) 1 rfl rfl ?_
    refine po_nil ?_
    refine pn_seq ?_
    exact pw_retN (T := tab) rfl rfl rfl ⟨rfl, rfl⟩ trivial rfl

set_option maxRecDepth 100000 in
theorem Strings_IndexFunc_i2_ok (fu : Nat) (s1 : Bs) : ∀ r, Strings_IndexFunc_m fu (fun (z1 : Int) => Name_capital_m fu z1) s1 = some r → DC Try.prog 101 [.v (.string ⟨⟨s1⟩⟩), .fn (.func 65) [] []] (.v (.int .i64 r)) := by
  intro r hr
  refine fc_intro (args := [.v (.string ⟨⟨s1⟩⟩), .fn (.func 65) [] []]) (S := []) (N0 := []) (post := fun r p S => p = .v (.int .i64 r) ∧ S = []) Try.func101 rfl rfl hr fun w0 X X0 σ0 => ?_
  refine pw_seq ?_
  refine pw_region ?_
  refine po_evs (T := tab) 1 rfl rfl ?_
  refine po_nil ?_
  refine pn_seq ?_
  refine pw_seq ?_
  refine pw_region ?_
  refine po_evs (T := tab) 2 rfl rfl ?_
  refine po_call (enc := fun (r2 : Int) => .v (.int .i64 r2)) (qs := [.v (.string ⟨⟨s1⟩⟩), .fn (.func 65) [] [], .v (.bool true)]) (Strings_indexFunc_i2_ok fu s1 true) rfl rfl ⟨⟨_, rfl, .rfl⟩, ⟨_, rfl, .rfl⟩, ⟨_, rfl, .rfl⟩, trivial⟩ (fun _ => rfl) call108 rfl rfl fun r2 hr2 => ?_
  refine po_evs (T := tab) 1 rfl rfl ?_
  refine po_nil ?_
  refine pn_seq ?_
  exact pw_retN (T := tab) rfl rfl rfl ⟨rfl, rfl⟩ trivial rfl

set_option maxRecDepth 100000 in
theorem Strings_ContainsFunc_i2_ok (fu : Nat) (s1 : Bs) : ∀ r, Strings_ContainsFunc_m fu (fun (z1 : Int) => Name_capital_m fu z1) s1 = some r → DC Try.prog 86 [.v (.string ⟨⟨s1⟩⟩), .fn (.func 65) [] []] (.v (.bool r)) := by
  intro r hr
  refine fc_intro (args := [.v (.string ⟨⟨s1⟩⟩), .fn (.func 65) [] []]) (S := []) (N0 := []) (post := fun r p S => p = .v (.bool r) ∧ S = []) Try.func86 rfl rfl hr fun w0 X X0 σ0 => ?_
  refine pw_seq ?_
  refine pw_region ?_
  refine po_evs (T := tab) 1 rfl rfl ?_
  refine po_nil ?_
  refine pn_seq ?_
  refine pw_seq ?_
  refine pw_region ?_
  refine po_evs (T := tab) 2 rfl rfl ?_
  refine po_call (enc := fun (r2 : Int) => .v (.int .i64 r2)) (qs := [.v (.string ⟨⟨s1⟩⟩), .fn (.func 65) [] []]) (Strings_IndexFunc_i2_ok fu s1) rfl rfl ⟨⟨_, rfl, .rfl⟩, ⟨_, rfl, .rfl⟩, trivial⟩ (fun _ => rfl) call101 rfl rfl fun r2 hr2 => ?_
  refine po_evs (T := tab) 2 rfl rfl ?_
  refine po_nil ?_
  refine pn_seq ?_
  exact pw_retN (T := tab) rfl rfl rfl ⟨rfl, rfl⟩ trivial rfl

def Name_reserved_m (_fu : Nat) : Option (List Bs) := some [[97, 110, 110, 111, 116, 97, 116, 105, 111, 110, 45, 120, 109, 108], [99, 111, 108, 111, 114, 45, 112, 114, 111, 102, 105, 108, 101], [102, 111, 110, 116, 45, 102, 97, 99, 101], [102, 111, 110, 116, 45, 102, 97, 99, 101, 45, 115, 114, 99], [102, 111, 110, 116, 45, 102, 97, 99, 101, 45, 117, 114, 105], [102, 111, 110, 116, 45, 102, 97, 99, 101, 45, 102, 111, 114, 109, 97, 116], [102, 111, 110, 116, 45, 102, 97, 99, 101, 45, 110, 97, 109, 101], [109, 105, 115, 115, 105, 110, 103, 45, 103, 108, 121, 112, 104]]

set_option maxRecDepth 100000 in
theorem Name_reserved_ok (fu : Nat) : ∀ r, Name_reserved_m fu = some r → DC Try.prog 89 [] (.sl 1 false (r.map cStr)) := by
  intro r hr
  refine fc_intro (args := []) (S := []) (N0 := []) (post := fun r p S => p = .sl 1 false (r.map cStr) ∧ S = []) Try.func89 rfl rfl hr fun w0 X X0 σ0 => ?_
  refine pw_seq ?_
  refine pw_region ?_
  refine po_evs (T := tab) 1 rfl rfl ?_
  refine po_nil ?_
  refine pn_seq ?_
  refine pw_seq ?_
  refine pw_region ?_
  refine po_lit (T := tab) (rows := [[97, 110, 110, 111, 116, 97, 116, 105, 111, 110, 45, 120, 109, 108], [99, 111, 108, 111, 114, 45, 112, 114, 111, 102, 105, 108, 101], [102, 111, 110, 116, 45, 102, 97, 99, 101], [102, 111, 110, 116, 45, 102, 97, 99, 101, 45, 115, 114, 99], [102, 111, 110, 116, 45, 102, 97, 99, 101, 45, 117, 114, 105], [102, 111, 110, 116, 45, 102, 97, 99, 101, 45, 102, 111, 114, 109, 97, 116], [102, 111, 110, 116, 45, 102, 97, 99, 101, 45, 110, 97, 109, 101], [109, 105, 115, 115, 105, 110, 103, 45, 103, 108, 121, 112, 104]].map cStr) 1 rfl rfl rfl rfl rfl rfl rfl rfl rfl rfl rfl rfl rfl rfl ?_
  refine po_evs (T := tab) 1 rfl rfl ?_
  refine po_nil ?_
  refine pn_seq ?_
  refine pw_freeze 1 rfl rfl rfl ?_
  exact pw_retN (T := tab) rfl rfl rfl ⟨rfl, rfl⟩ trivial rfl

def Slices_Index_string_l1 (s1 : (List Bs)) (v2 : Bs) : Nat → Int → Option Int
  | 0, _ => none
  | k1 + 1, t3 => cnd (decide (t3 < ((s1.length : Nat) : Int))) (bnd (idx s1 t3) fun y4 => cnd (v2 == y4) (some t3) (bnd (rng .i64 (t3 + 1)) fun i5 => (Slices_Index_string_l1 s1 v2 k1) i5)) (some (-1))

def Slices_Index_string_m (fu : Nat) (s1 : (List Bs)) (v2 : Bs) : Option Int := (Slices_Index_string_l1 s1 v2) fu 0

set_option maxHeartbeats 10000000 in
set_option maxRecDepth 100000 in
theorem Slices_Index_string_ok (fu : Nat) (s1 : (List Bs)) (v2 : Bs) : ∀ r, Slices_Index_string_m fu s1 v2 = some r → DC Try.prog 103 [.sl 1 false (s1.map cStr), .v (.string ⟨⟨v2⟩⟩)] (.v (.int .i64 r)) := by
  intro r hr
  refine fc_intro (args := [.sl 1 false (s1.map cStr), .v (.string ⟨⟨v2⟩⟩)]) (S := []) (N0 := []) (post := fun r p S => p = .v (.int .i64 r) ∧ S = []) Try.func103 rfl rfl hr fun w0 X X0 σ0 => ?_
  refine pw_seq ?_
  refine pw_region ?_
  refine po_evs (T := tab) 1 rfl rfl ?_
  refine po_nil ?_
  refine pn_seq ?_
  refine pw_seq ?_
  refine pw_seq ?_
  refine pw_region ?_
  refine po_evs (T := tab) 1 rfl rfl ?_
  refine po_len (T := tab) cStr s1 rfl rfl rfl rfl rfl rfl rfl rfl ?_
  refine po_evs (T := tab) 1 rfl rfl ?_
  refine po_nil ?_
  refine pn_seq ?_
  refine pw_block ?_
  refine pw_loop' (Slices_Index_string_l1 s1 v2) (fun (t3 : Int) => [(0, .sl 1 false (s1.map cStr)), (1, .v (.string ⟨⟨v2⟩⟩)), (7, .v (.int .i64 ((s1.length : Nat) : Int))), (8, .v (.int .i64 t3))]) (fun (t3 : Int) => []) fu 0 (fun _ => rfl) ⟨rfl, rfl, rfl, rfl, trivial⟩ trivial rfl ?_
  rintro k1 t3
  refine pw_seq ?_
  refine pw_region ?_
  refine po_evs (T := tab) 1 rfl rfl ?_
  refine po_nil ?_
  refine pn_seq ?_
  refine pw_seq ?_
  refine pw_cnd rfl ?_ ?_
  · refine pw_skip ?_
    refine pn_seq ?_
    refine pw_seq ?_
    refine pw_block ?_
    refine pw_seq ?_
    refine pw_region ?_
    refine po_evs (T := tab) 2 rfl rfl ?_
    refine po_nil ?_
    refine pn_seq ?_
    refine pw_seq ?_
    refine pw_region ?_
    refine po_evs (T := tab) 3 rfl rfl ?_
    refine po_idx (T := tab) cStr s1 rfl rfl rfl rfl rfl rfl rfl fun y4 hy4 => ?_
    refine po_evs (T := tab) 2 rfl rfl ?_
    refine po_nil ?_
    refine pn_seq ?_
    refine pw_cnd rfl ?_ ?_
    · refine pw_seq ?_
      refine pw_region ?_
      refine po_evs (T := tab) 2 rfl rfl ?_
      refine po_nil ?_
      refine pn_seq ?_
      exact pw_retN (T := tab) rfl rfl rfl ⟨rfl, rfl⟩ trivial rfl
    · refine pw_skip ?_
      refine pn_block ?_
      refine pn_seq ?_
      refine pw_region ?_
      refine po_arith' (T := tab) rfl rfl rfl rfl fun i5 hi5 => ?_
      refine po_evs (T := tab) 1 rfl rfl ?_
      refine po_nil ?_
      exact pn_iter' i5 ⟨rfl, rfl, rfl, rfl, trivial⟩ trivial rfl
  · refine pw_exit rfl ?_
    refine pn_seq ?_
    refine pw_seq ?_
    refine pw_region ?_
    refine po_evs (T := tab) 1 rfl rfl ?_
    refine po_nil ?_
    refine pn_seq ?_
    exact pw_retN (T := tab) rfl rfl rfl ⟨rfl, rfl⟩ trivial rfl

def Slices_Contains_string_m (fu : Nat) (s1 : (List Bs)) (v2 : Bs) : Option Bool := bnd (Slices_Index_string_m fu s1 v2) fun r3 => some (decide (r3 ≥ 0))

set_option maxRecDepth 100000 in
theorem Slices_Contains_string_ok (fu : Nat) (s1 : (List Bs)) (v2 : Bs) : ∀ r, Slices_Contains_string_m fu s1 v2 = some r → DC Try.prog 88 [.sl 1 false (s1.map cStr), .v (.string ⟨⟨v2⟩⟩)] (.v (.bool r)) := by
  intro r hr
  refine fc_intro (args := [.sl 1 false (s1.map cStr), .v (.string ⟨⟨v2⟩⟩)]) (S := []) (N0 := []) (post := fun r p S => p = .v (.bool r) ∧ S = []) Try.func88 rfl rfl hr fun w0 X X0 σ0 => ?_
  refine pw_seq ?_
  refine pw_region ?_
  refine po_evs (T := tab) 1 rfl rfl ?_
  refine po_nil ?_
  refine pn_seq ?_
  refine pw_seq ?_
  refine pw_region ?_
  refine po_evs (T := tab) 2 rfl rfl ?_
  refine po_call (enc := fun (r3 : Int) => .v (.int .i64 r3)) (qs := [.sl 1 false (s1.map cStr), .v (.string ⟨⟨v2⟩⟩)]) (Slices_Index_string_ok fu s1 v2) rfl rfl ⟨⟨_, rfl, .rfl⟩, ⟨_, rfl, .rfl⟩, trivial⟩ (fun _ => rfl) call103 rfl rfl fun r3 hr3 => ?_
  refine po_evs (T := tab) 2 rfl rfl ?_
  refine po_nil ?_
  refine pn_seq ?_
  exact pw_retN (T := tab) rfl rfl rfl ⟨rfl, rfl⟩ trivial rfl

def Name_Custom_m (fu : Nat) (s1 : Bs) : Option Bool := bnd (Name_Right_m fu s1) fun r2 => cnd r2 (bnd (chr s1 0) fun b3 => bnd (rng .i32 b3) fun i4 => bnd (Name_small_m fu i4) fun r5 => cnd r5 (bnd (Strings_ContainsFunc_m fu (fun (z1 : Int) => Name_capital_m fu z1) s1) fun r6 => cnd (!r6) (bnd (hasByte_m fu s1 45) fun r7 => cnd r7 (bnd (Name_reserved_m fu) fun r8 => bnd (Slices_Contains_string_m fu r8 s1) fun r9 => some (!r9)) (some false)) (some false)) (some false)) (some false)

set_option maxHeartbeats 10000000 in
set_option maxRecDepth 100000 in
theorem Name_Custom_ok (fu : Nat) (s1 : Bs) : ∀ r, Name_Custom_m fu s1 = some r → DC Try.prog 64 [.v (.string ⟨⟨s1⟩⟩)] (.v (.bool r)) := by
  intro r hr
  refine fc_intro (args := [.v (.string ⟨⟨s1⟩⟩)]) (S := []) (N0 := []) (post := fun r p S => p = .v (.bool r) ∧ S = []) Try.func64 rfl rfl hr fun w0 X X0 σ0 => ?_
  refine pw_seq ?_
  refine pw_region ?_
  refine po_evs (T := tab) 1 rfl rfl ?_
  refine po_nil ?_
  refine pn_seq ?_
  refine pw_seq ?_
  refine pw_region ?_
  refine po_evs (T := tab) 1 rfl rfl ?_
  refine po_call (enc := fun (r2 : Bool) => .v (.bool r2)) (qs := [.v (.string ⟨⟨s1⟩⟩)]) (Name_Right_ok fu s1) rfl rfl ⟨⟨_, rfl, .rfl⟩, trivial⟩ (fun _ => rfl) call84 rfl rfl fun r2 hr2 => ?_
  refine po_evs (T := tab) 1 rfl rfl ?_
  refine po_split (j := 5) rfl ?_ ?_
  · refine po_evs (T := tab) 1 rfl rfl ?_
    refine po_chr (T := tab) (s := s1) rfl rfl rfl rfl rfl rfl rfl fun b3 hb3 => ?_
    refine po_arith' (T := tab) rfl rfl rfl rfl fun i4 hi4 => ?_
    refine po_call (enc := fun (r5 : Bool) => .v (.bool r5)) (qs := [.v (.int .i32 i4)]) (Name_small_ok fu i4) rfl rfl ⟨⟨_, rfl, .rfl⟩, trivial⟩ (fun _ => rfl) call85 rfl rfl fun r5 hr5 => ?_
    refine po_evs (T := tab) 2 rfl rfl ?_
    refine po_split (j := 11) rfl ?_ ?_
    · refine po_evs (T := tab) 1 rfl rfl ?_
      refine po_call (enc := fun (r6 : Bool) => .v (.bool r6)) (qs := [.v (.string ⟨⟨s1⟩⟩), .fn (.func 65) [] []]) (Strings_ContainsFunc_i2_ok fu s1) rfl rfl ⟨⟨_, rfl, .rfl⟩, ⟨_, rfl, .rfl⟩, trivial⟩ (fun _ => rfl) call86 rfl rfl fun r6 hr6 => ?_
      refine po_evs (T := tab) 3 rfl rfl ?_
      refine po_split (j := 16) rfl ?_ ?_
      · refine po_evs (T := tab) 1 rfl rfl ?_
        refine po_call (enc := fun r => .v (.bool r)) (qs := [.v (.string ⟨⟨s1⟩⟩), .v (.string ⟨⟨[45]⟩⟩)]) (hasByte_ok fu s1 45) rfl rfl ⟨⟨_, rfl, .rfl⟩, ⟨_, rfl, .rfl⟩, trivial⟩ (fun _ => rfl) call87 rfl rfl fun r7 hr7 => ?_
        refine po_evs (T := tab) 2 rfl rfl ?_
        refine po_split (j := 20) rfl ?_ ?_
        · refine po_call (enc := fun (r8 : (List Bs)) => .sl 1 false (r8.map cStr)) (qs := []) (Name_reserved_ok fu) rfl rfl trivial (fun _ => rfl) call89 rfl rfl fun r8 hr8 => ?_
          refine po_evs (T := tab) 1 rfl rfl ?_
          refine po_call (enc := fun (r9 : Bool) => .v (.bool r9)) (qs := [.sl 1 false (r8.map cStr), .v (.string ⟨⟨s1⟩⟩)]) (Slices_Contains_string_ok fu r8 s1) rfl rfl ⟨⟨_, rfl, .rfl⟩, ⟨_, rfl, .rfl⟩, trivial⟩ (fun _ => rfl) call88 rfl rfl fun r9 hr9 => ?_
          refine po_evs (T := tab) 3 rfl rfl ?_
          refine po_nil ?_
          refine pn_seq ?_
          exact pw_retN (T := tab) rfl rfl rfl ⟨rfl, rfl⟩ trivial rfl
        · refine po_evs (T := tab) 6 rfl rfl ?_
          refine po_nil ?_
          refine pn_seq ?_
          exact pw_retN (T := tab) rfl rfl rfl ⟨rfl, rfl⟩ trivial rfl
      · refine po_evs (T := tab) 10 rfl rfl ?_
        refine po_nil ?_
        refine pn_seq ?_
        exact pw_retN (T := tab) rfl rfl rfl ⟨rfl, rfl⟩ trivial rfl
    · refine po_evs (T := tab) 15 rfl rfl ?_
      refine po_nil ?_
      refine pn_seq ?_
      exact pw_retN (T := tab) rfl rfl rfl ⟨rfl, rfl⟩ trivial rfl
  · refine po_evs (T := tab) 21 rfl rfl ?_
    refine po_nil ?_
    refine pn_seq ?_
    exact pw_retN (T := tab) rfl rfl rfl ⟨rfl, rfl⟩ trivial rfl

def Lab_named_m (fu : Nat) (x1 : Bs) (y2 : Bs) : Option Bool := bnd (Name_Custom_m fu x1) fun r3 => cnd r3 (bnd (Name_Custom_m fu y2) fun r4 => some r4) (some false)

set_option maxRecDepth 100000 in
theorem Lab_named_ok (fu : Nat) (x1 : Bs) (y2 : Bs) : ∀ r, Lab_named_m fu x1 y2 = some r → DC Try.prog 42 [.v (.string ⟨⟨x1⟩⟩), .v (.string ⟨⟨y2⟩⟩)] (.v (.bool r)) := by
  intro r hr
  refine fc_intro (args := [.v (.string ⟨⟨x1⟩⟩), .v (.string ⟨⟨y2⟩⟩)]) (S := []) (N0 := []) (post := fun r p S => p = .v (.bool r) ∧ S = []) Try.func42 rfl rfl hr fun w0 X X0 σ0 => ?_
  refine pw_seq ?_
  refine pw_region ?_
  refine po_evs (T := tab) 1 rfl rfl ?_
  refine po_nil ?_
  refine pn_seq ?_
  refine pw_seq ?_
  refine pw_region ?_
  refine po_evs (T := tab) 1 rfl rfl ?_
  refine po_call (enc := fun (r3 : Bool) => .v (.bool r3)) (qs := [.v (.string ⟨⟨x1⟩⟩)]) (Name_Custom_ok fu x1) rfl rfl ⟨⟨_, rfl, .rfl⟩, trivial⟩ (fun _ => rfl) call64 rfl rfl fun r3 hr3 => ?_
  refine po_evs (T := tab) 1 rfl rfl ?_
  refine po_split (j := 7) rfl ?_ ?_
  · refine po_evs (T := tab) 1 rfl rfl ?_
    refine po_call (enc := fun (r4 : Bool) => .v (.bool r4)) (qs := [.v (.string ⟨⟨y2⟩⟩)]) (Name_Custom_ok fu y2) rfl rfl ⟨⟨_, rfl, .rfl⟩, trivial⟩ (fun _ => rfl) call64 rfl rfl fun r4 hr4 => ?_
    refine po_evs (T := tab) 2 rfl rfl ?_
    refine po_nil ?_
    refine pn_seq ?_
    exact pw_retN (T := tab) rfl rfl rfl ⟨rfl, rfl⟩ trivial rfl
  · refine po_evs (T := tab) 4 rfl rfl ?_
    refine po_nil ?_
    refine pn_seq ?_
    exact pw_retN (T := tab) rfl rfl rfl ⟨rfl, rfl⟩ trivial rfl

def Name_Small_l1 (fu : Nat) (s1 : Bs) : Nat → Int × (List Int) → Option Bs
  | 0, _ => none
  | k1 + 1, (t2, l3) => cnd (decide (t2 < (((bytesOf s1).length : Nat) : Int))) (bnd (idx l3 t2) fun y4 => bnd (rng .i32 y4) fun i5 => bnd (Name_capital_m fu i5) fun r6 => cnd r6 (bnd (rng .u8 (y4 - 65)) fun i7 => bnd (rng .u8 (i7 + 97)) fun i8 => bnd (idx l3 t2) fun y9 => bnd (rng .i64 (t2 + 1)) fun i10 => (Name_Small_l1 fu s1 k1) (i10, (l3.set (t2).toNat i8))) (bnd (rng .i64 (t2 + 1)) fun i11 => (Name_Small_l1 fu s1 k1) (i11, l3))) (some (strOf l3))

def Name_Small_m (fu : Nat) (s1 : Bs) : Option Bs := bnd (roomy 1 s1.length) fun _ => (Name_Small_l1 fu s1) fu (0, (bytesOf s1))

set_option maxHeartbeats 10000000 in
set_option maxRecDepth 100000 in
theorem Name_Small_ok (fu : Nat) (s1 : Bs) : ∀ r, Name_Small_m fu s1 = some r → DC Try.prog 44 [.v (.string ⟨⟨s1⟩⟩)] (.v (.string ⟨⟨r⟩⟩)) := by
  intro r hr
  refine fc_intro (args := [.v (.string ⟨⟨s1⟩⟩)]) (S := []) (N0 := []) (post := fun r p S => p = .v (.string ⟨⟨r⟩⟩) ∧ S = []) Try.func44 rfl rfl hr fun w0 X X0 σ0 => ?_
  refine pw_seq ?_
  refine pw_region ?_
  refine po_evs (T := tab) 1 rfl rfl ?_
  refine po_nil ?_
  refine pn_seq ?_
  refine pw_seq ?_
  refine pw_region ?_
  refine po_evs (T := tab) 1 rfl rfl ?_
  refine po_bytes (T := tab) cInt_u8 7 (fun _ => rfl) rfl rfl rfl rfl rfl rfl rfl rfl rfl rfl rfl rfl ?_
  refine po_evs (T := tab) 1 rfl rfl ?_
  refine po_nil ?_
  refine pn_seq ?_
  refine pw_seq ?_
  refine pw_seq ?_
  refine pw_region ?_
  refine po_evs (T := tab) 1 rfl rfl ?_
  refine po_len_own (T := tab) cInt_u8 (bytesOf s1) rfl rfl rfl rfl rfl rfl rfl rfl rfl ?_
  refine po_evs (T := tab) 1 rfl rfl ?_
  refine po_nil ?_
  refine pn_seq ?_
  refine pw_block ?_
  refine pw_loop' (Name_Small_l1 fu s1) (fun ((t2, l3) : Int × (List Int)) => [(3, .own 7), (8, .own 7), (9, .v (.int .i64 (((bytesOf s1).length : Nat) : Int))), (10, .v (.int .i64 t2))]) (fun ((t2, l3) : Int × (List Int)) => [(7, .arr 1000005 1 (l3.map cInt_u8))]) fu (0, (bytesOf s1)) (fun _ => rfl) ⟨rfl, rfl, rfl, rfl, trivial⟩ ⟨rfl, trivial⟩ rfl ?_
  rintro k1 ⟨t2, l3⟩
  refine pw_seq ?_
  refine pw_region ?_
  refine po_evs (T := tab) 1 rfl rfl ?_
  refine po_nil ?_
  refine pn_seq ?_
  refine pw_seq ?_
  refine pw_cnd rfl ?_ ?_
  · refine pw_skip ?_
    refine pn_seq ?_
    refine pw_seq ?_
    refine pw_block ?_
    refine pw_seq ?_
    refine pw_region ?_
    refine po_evs (T := tab) 1 rfl rfl ?_
    refine po_idx_own (T := tab) cInt_u8 l3 rfl rfl rfl rfl rfl rfl rfl rfl fun y4 hy4 => ?_
    refine po_load_ela (T := tab) cInt_u8 l3 y4 (idx_at hy4) rfl rfl rfl rfl rfl rfl rfl rfl ?_
    refine po_evs (T := tab) 2 rfl rfl ?_
    refine po_nil ?_
    refine pn_seq ?_
    refine pw_seq ?_
    refine pw_region ?_
    refine po_evs (T := tab) 1 rfl rfl ?_
    refine po_arith' (T := tab) rfl rfl rfl rfl fun i5 hi5 => ?_
    refine po_call (enc := fun (r6 : Bool) => .v (.bool r6)) (qs := [.v (.int .i32 i5)]) (Name_capital_ok fu i5) rfl rfl ⟨⟨_, rfl, .rfl⟩, trivial⟩ (fun _ => rfl) call65 rfl rfl fun r6 hr6 => ?_
    refine po_nil ?_
    refine pn_seq ?_
    refine pw_cnd rfl ?_ ?_
    · refine pw_region ?_
      refine po_evs (T := tab) 3 rfl rfl ?_
      refine po_arith' (T := tab) rfl rfl rfl rfl fun i7 hi7 => ?_
      refine po_arith' (T := tab) rfl rfl rfl rfl fun i8 hi8 => ?_
      refine po_idx_own (T := tab) cInt_u8 l3 rfl rfl rfl rfl rfl rfl rfl rfl fun y9 hy9 => ?_
      refine po_store_ela (T := tab) cInt_u8 l3 y9 i8 (idx_at hy9) rfl rfl rfl rfl rfl rfl rfl rfl rfl rfl rfl rfl rfl ?_
      refine po_nil ?_
      refine pn_block ?_
      refine pn_seq ?_
      refine pw_region ?_
      refine po_arith' (T := tab) rfl rfl rfl rfl fun i10 hi10 => ?_
      refine po_evs (T := tab) 1 rfl rfl ?_
      refine po_nil ?_
      exact pn_iter' (i10, (l3.set (t2).toNat i8)) ⟨rfl, rfl, rfl, rfl, trivial⟩ ⟨rfl, trivial⟩ rfl
    · refine pw_skip ?_
      refine pn_block ?_
      refine pn_seq ?_
      refine pw_region ?_
      refine po_arith' (T := tab) rfl rfl rfl rfl fun i11 hi11 => ?_
      refine po_evs (T := tab) 1 rfl rfl ?_
      refine po_nil ?_
      exact pn_iter' (i11, l3) ⟨rfl, rfl, rfl, rfl, trivial⟩ ⟨rfl, trivial⟩ rfl
  · refine pw_exit rfl ?_
    refine pn_seq ?_
    refine pw_seq ?_
    refine pw_region ?_
    refine po_evs (T := tab) 1 rfl rfl ?_
    refine po_str (T := tab) cInt_u8 l3 (fun _ => rfl) rfl rfl rfl rfl rfl rfl rfl rfl rfl ?_
    refine po_evs (T := tab) 1 rfl rfl ?_
    refine po_nil ?_
    refine pn_seq ?_
    exact pw_retN (T := tab) rfl rfl rfl ⟨rfl, rfl⟩ trivial rfl

def Lab_other_string_m (_fu : Nat) (x1 : Bs) (a2 : Bs) (b3 : Bs) : Option Bs := cnd (x1 == a2) (some b3) (cnd (x1 == b3) (some a2) (some x1))

set_option maxRecDepth 100000 in
theorem Lab_other_string_ok (fu : Nat) (x1 : Bs) (a2 : Bs) (b3 : Bs) : ∀ r, Lab_other_string_m fu x1 a2 b3 = some r → DC Try.prog 45 [.v (.string ⟨⟨x1⟩⟩), .v (.string ⟨⟨a2⟩⟩), .v (.string ⟨⟨b3⟩⟩)] (.v (.string ⟨⟨r⟩⟩)) := by
  intro r hr
  refine fc_intro (args := [.v (.string ⟨⟨x1⟩⟩), .v (.string ⟨⟨a2⟩⟩), .v (.string ⟨⟨b3⟩⟩)]) (S := []) (N0 := []) (post := fun r p S => p = .v (.string ⟨⟨r⟩⟩) ∧ S = []) Try.func45 rfl rfl hr fun w0 X X0 σ0 => ?_
  refine pw_seq ?_
  refine pw_region ?_
  refine po_evs (T := tab) 1 rfl rfl ?_
  refine po_nil ?_
  refine pn_seq ?_
  refine pw_seq ?_
  refine pw_seq ?_
  refine pw_region ?_
  refine po_evs (T := tab) 1 rfl rfl ?_
  refine po_nil ?_
  refine pn_seq ?_
  refine pw_block ?_
  refine pw_seq ?_
  refine pw_region ?_
  refine po_evs (T := tab) 3 rfl rfl ?_
  refine po_nil ?_
  refine pn_seq ?_
  refine pw_cnd rfl ?_ ?_
  · refine pw_seq ?_
    refine pw_region ?_
    refine po_evs (T := tab) 2 rfl rfl ?_
    refine po_nil ?_
    refine pn_seq ?_
    exact pw_retN (T := tab) rfl rfl rfl ⟨rfl, rfl⟩ trivial rfl
  · refine pw_seq ?_
    refine pw_region ?_
    refine po_evs (T := tab) 3 rfl rfl ?_
    refine po_nil ?_
    refine pn_seq ?_
    refine pw_cnd rfl ?_ ?_
    · refine pw_seq ?_
      refine pw_region ?_
      refine po_evs (T := tab) 2 rfl rfl ?_
      refine po_nil ?_
      refine pn_seq ?_
      exact pw_retN (T := tab) rfl rfl rfl ⟨rfl, rfl⟩ trivial rfl
    · refine pw_skip ?_
      refine pn_block ?_
      refine pn_seq ?_
      refine pw_seq ?_
      refine pw_region ?_
      refine po_evs (T := tab) 2 rfl rfl ?_
      refine po_nil ?_
      refine pn_seq ?_
      exact pw_retN (T := tab) rfl rfl rfl ⟨rfl, rfl⟩ trivial rfl

def Lab_Names_1_j1 (fu : Nat) (o1 : Op) (c2 : Bs) (c3 : Bs) (x_ : Unit) : Option Op := bnd (Name_Small_m fu o1.S) fun r4 => cnd (r4 == c2) (bnd (Lab_other_string_m fu r4 c2 c3) fun r5 => bnd (Lab_other_string_m fu o1.T c2 c3) fun r7 => some (⟨o1.Kind, o1.A, o1.B, o1.C, r5, r7, o1.Must⟩ : Op)) (cnd (r4 == c3) (bnd (Lab_other_string_m fu r4 c2 c3) fun r6 => bnd (Lab_other_string_m fu o1.T c2 c3) fun r8 => some (⟨o1.Kind, o1.A, o1.B, o1.C, r6, r8, o1.Must⟩ : Op)) (bnd (Lab_other_string_m fu o1.T c2 c3) fun r9 => some (⟨o1.Kind, o1.A, o1.B, o1.C, o1.S, r9, o1.Must⟩ : Op)))

def Lab_Names_1_m (fu : Nat) (o1 : Op) (c2 : Bs) (c3 : Bs) : Option Op := cnd (o1.Kind == 1) (cnd (o1.Kind == 1) ((Lab_Names_1_j1 fu o1 c2 c3) ()) (cnd (o1.Kind == 16) (bnd (Lab_other_string_m fu o1.T c2 c3) fun r10 => bnd (Lab_other_string_m fu o1.S c2 c3) fun r14 => some (⟨o1.Kind, o1.A, o1.B, o1.C, r14, r10, o1.Must⟩ : Op)) (cnd (o1.Kind == 17) (bnd (Lab_other_string_m fu o1.S c2 c3) fun r12 => some (⟨o1.Kind, o1.A, o1.B, o1.C, r12, o1.T, o1.Must⟩ : Op)) (some o1)))) (cnd (o1.Kind == 2) ((Lab_Names_1_j1 fu o1 c2 c3) ()) (cnd (o1.Kind == 16) (bnd (Lab_other_string_m fu o1.T c2 c3) fun r11 => bnd (Lab_other_string_m fu o1.S c2 c3) fun r15 => some (⟨o1.Kind, o1.A, o1.B, o1.C, r15, r11, o1.Must⟩ : Op)) (cnd (o1.Kind == 17) (bnd (Lab_other_string_m fu o1.S c2 c3) fun r13 => some (⟨o1.Kind, o1.A, o1.B, o1.C, r13, o1.T, o1.Must⟩ : Op)) (some o1))))

set_option maxHeartbeats 10000000 in
set_option maxRecDepth 100000 in
theorem Lab_Names_1_ok (fu : Nat) (o1 : Op) (c2 : Bs) (c3 : Bs) : ∀ r, Lab_Names_1_m fu o1 c2 c3 = some r → FC Try.prog 43 [.agg (cOp o1), .loc 900000 0, .loc 900001 0] [(900000, .box [.v (.string ⟨⟨c2⟩⟩)]), (900001, .box [.v (.string ⟨⟨c3⟩⟩)])] [900000, 900001] fun p S' => p = .agg (cOp r) ∧ S' = [(900000, .box [.v (.string ⟨⟨c2⟩⟩)]), (900001, .box [.v (.string ⟨⟨c3⟩⟩)])] := by
  intro r hr
  refine fc_intro (args := [.agg (cOp o1), .loc 900000 0, .loc 900001 0]) (S := [(900000, .box [.v (.string ⟨⟨c2⟩⟩)]), (900001, .box [.v (.string ⟨⟨c3⟩⟩)])]) (N0 := [900000, 900001]) (post := fun r p S => p = .agg (cOp r) ∧ S = [(900000, .box [.v (.string ⟨⟨c2⟩⟩)]), (900001, .box [.v (.string ⟨⟨c3⟩⟩)])]) Try.func43 rfl rfl hr fun w0 X X0 σ0 => ?_
  refine pw_seq ?_
  refine pw_region ?_
  refine po_box  3 rfl rfl rfl rfl rfl rfl rfl rfl rfl rfl ?_
  refine po_alloc (T := tab) 4 rfl rfl rfl rfl rfl rfl rfl rfl rfl ?_
  refine po_nil ?_
  refine pn_seq ?_
  refine pw_seq ?_
  refine pw_seq ?_
  refine pw_region ?_
  refine po_evs (T := tab) 2 rfl rfl ?_
  refine po_nil ?_
  refine pn_seq ?_
  refine pw_block ?_
  refine pw_seq ?_
  refine pw_block ?_
  refine pw_seq ?_
  refine pw_block ?_
  refine pw_seq ?_
  refine pw_joinK (Lab_Names_1_j1 fu o1 c2 c3) (fun (_ : Unit) => [(1, .loc 900000 0), (2, .loc 900001 0), (3, .loc 3 0), (4, .loc 4 0)]) (fun (_ : Unit) => [(4, .box [.v (.int .i64 0), .v (.int .i64 0), .v (.int .i64 0), .v (.int .i64 0), .v (.string ⟨⟨[]⟩⟩), .v (.string ⟨⟨[]⟩⟩), .v (.bool false)]), (3, .box [.v (.int .i64 o1.Kind), .v (.int .i64 o1.A), .v (.int .i64 o1.B), .v (.int .i64 o1.C), .v (.string ⟨⟨o1.S⟩⟩), .v (.string ⟨⟨o1.T⟩⟩), .v (.bool o1.Must)]), (900000, .box [.v (.string ⟨⟨c2⟩⟩)]), (900001, .box [.v (.string ⟨⟨c3⟩⟩)])]) ?_ fun hj1 => ?_
  · rintro _
    refine pn_seq ?_
    refine pw_seq ?_
    refine pw_seq ?_
    refine pw_seq ?_
    refine pw_region ?_
    refine po_evs (T := tab) 2 rfl rfl ?_
    refine po_call (enc := fun (r4 : Bs) => .v (.string ⟨⟨r4⟩⟩)) (qs := [.v (.string ⟨⟨o1.S⟩⟩)]) (Name_Small_ok fu o1.S) rfl rfl ⟨⟨_, rfl, .rfl⟩, trivial⟩ (fun _ => rfl) call44 rfl rfl fun r4 hr4 => ?_
    refine po_evs (T := tab) 1 rfl rfl ?_
    refine po_nil ?_
    refine pn_seq ?_
    refine pw_seq ?_
    refine pw_region ?_
    refine po_evs (T := tab) 4 rfl rfl ?_
    refine po_split (j := 21) rfl ?_ ?_
    · refine po_evs (T := tab) 4 rfl rfl ?_
      refine po_nil ?_
      refine pn_seq (pw_then rfl ?_)
      refine pw_region ?_
      refine po_evs (T := tab) 3 rfl rfl ?_
      refine po_call (enc := fun (r5 : Bs) => .v (.string ⟨⟨r5⟩⟩)) (qs := [.v (.string ⟨⟨r4⟩⟩), .v (.string ⟨⟨c2⟩⟩), .v (.string ⟨⟨c3⟩⟩)]) (Lab_other_string_ok fu r4 c2 c3) rfl rfl ⟨⟨_, rfl, .rfl⟩, ⟨_, rfl, .rfl⟩, ⟨_, rfl, .rfl⟩, trivial⟩ (fun _ => rfl) call45 rfl rfl fun r5 hr5 => ?_
      refine po_evs (T := tab) 1 rfl rfl ?_
      refine po_store (T := tab) rfl rfl rfl rfl rfl rfl rfl rfl rfl rfl rfl rfl ?_
      refine po_nil ?_
      refine pn_seq ?_
      refine pw_region ?_
      refine po_evs (T := tab) 4 rfl rfl ?_
      refine po_call (enc := fun (r7 : Bs) => .v (.string ⟨⟨r7⟩⟩)) (qs := [.v (.string ⟨⟨o1.T⟩⟩), .v (.string ⟨⟨c2⟩⟩), .v (.string ⟨⟨c3⟩⟩)]) (Lab_other_string_ok fu o1.T c2 c3) rfl rfl ⟨⟨_, rfl, .rfl⟩, ⟨_, rfl, .rfl⟩, ⟨_, rfl, .rfl⟩, trivial⟩ (fun _ => rfl) call45 rfl rfl fun r7 hr7 => ?_
      refine po_evs (T := tab) 1 rfl rfl ?_
      refine po_store (T := tab) rfl rfl rfl rfl rfl rfl rfl rfl rfl rfl rfl rfl ?_
      refine po_nil ?_
      refine pn_seq ?_
      refine pw_exit rfl ?_
      refine pn_seq ?_
      refine pw_seq ?_
      refine pw_region ?_
      refine po_evs (T := tab) 1 rfl rfl ?_
      refine po_store (T := tab) rfl rfl rfl rfl rfl rfl rfl rfl rfl rfl rfl rfl ?_
      refine po_nil ?_
      refine pn_seq ?_
      exact pw_retN (T := tab) rfl rfl rfl ⟨rfl, rfl⟩ ⟨rfl, rfl, trivial⟩ rfl
    · refine po_evs (T := tab) 4 rfl rfl ?_
      refine po_nil ?_
      refine pn_seq ?_
      refine pw_cnd rfl ?_ ?_
      · refine pw_region ?_
        refine po_evs (T := tab) 3 rfl rfl ?_
        refine po_call (enc := fun (r6 : Bs) => .v (.string ⟨⟨r6⟩⟩)) (qs := [.v (.string ⟨⟨r4⟩⟩), .v (.string ⟨⟨c2⟩⟩), .v (.string ⟨⟨c3⟩⟩)]) (Lab_other_string_ok fu r4 c2 c3) rfl rfl ⟨⟨_, rfl, .rfl⟩, ⟨_, rfl, .rfl⟩, ⟨_, rfl, .rfl⟩, trivial⟩ (fun _ => rfl) call45 rfl rfl fun r6 hr6 => ?_
        refine po_evs (T := tab) 1 rfl rfl ?_
        refine po_store (T := tab) rfl rfl rfl rfl rfl rfl rfl rfl rfl rfl rfl rfl ?_
        refine po_nil ?_
        refine pn_seq ?_
        refine pw_region ?_
        refine po_evs (T := tab) 4 rfl rfl ?_
        refine po_call (enc := fun (r8 : Bs) => .v (.string ⟨⟨r8⟩⟩)) (qs := [.v (.string ⟨⟨o1.T⟩⟩), .v (.string ⟨⟨c2⟩⟩), .v (.string ⟨⟨c3⟩⟩)]) (Lab_other_string_ok fu o1.T c2 c3) rfl rfl ⟨⟨_, rfl, .rfl⟩, ⟨_, rfl, .rfl⟩, ⟨_, rfl, .rfl⟩, trivial⟩ (fun _ => rfl) call45 rfl rfl fun r8 hr8 => ?_
        refine po_evs (T := tab) 1 rfl rfl ?_
        refine po_store (T := tab) rfl rfl rfl rfl rfl rfl rfl rfl rfl rfl rfl rfl ?_
        refine po_nil ?_
        refine pn_seq ?_
        refine pw_exit rfl ?_
        refine pn_seq ?_
        refine pw_seq ?_
        refine pw_region ?_
        refine po_evs (T := tab) 1 rfl rfl ?_
        refine po_store (T := tab) rfl rfl rfl rfl rfl rfl rfl rfl rfl rfl rfl rfl ?_
        refine po_nil ?_
        refine pn_seq ?_
        exact pw_retN (T := tab) rfl rfl rfl ⟨rfl, rfl⟩ ⟨rfl, rfl, trivial⟩ rfl
      · refine pw_skip ?_
        refine pn_seq ?_
        refine pw_region ?_
        refine po_evs (T := tab) 4 rfl rfl ?_
        refine po_call (enc := fun (r9 : Bs) => .v (.string ⟨⟨r9⟩⟩)) (qs := [.v (.string ⟨⟨o1.T⟩⟩), .v (.string ⟨⟨c2⟩⟩), .v (.string ⟨⟨c3⟩⟩)]) (Lab_other_string_ok fu o1.T c2 c3) rfl rfl ⟨⟨_, rfl, .rfl⟩, ⟨_, rfl, .rfl⟩, ⟨_, rfl, .rfl⟩, trivial⟩ (fun _ => rfl) call45 rfl rfl fun r9 hr9 => ?_
        refine po_evs (T := tab) 1 rfl rfl ?_
        refine po_store (T := tab) rfl rfl rfl rfl rfl rfl rfl rfl rfl rfl rfl rfl ?_
        refine po_nil ?_
        refine pn_seq ?_
        refine pw_exit rfl ?_
        refine pn_seq ?_
        refine pw_seq ?_
        refine pw_region ?_
        refine po_evs (T := tab) 1 rfl rfl ?_
        refine po_store (T := tab) rfl rfl rfl rfl rfl rfl rfl rfl rfl rfl rfl rfl ?_
        refine po_nil ?_
        refine pn_seq ?_
        exact pw_retN (T := tab) rfl rfl rfl ⟨rfl, rfl⟩ ⟨rfl, rfl, trivial⟩ rfl
  · refine pw_block ?_
    refine pw_seq ?_
    refine pw_seq ?_
    refine pw_seq ?_
    refine pw_seq ?_
    refine pw_region ?_
    refine po_evs (T := tab) 2 rfl rfl ?_
    refine po_nil ?_
    refine pn_seq ?_
    refine pw_cnd rfl ?_ ?_
    · refine pw_skip ?_
      refine pn_seq ?_
      refine pw_cnd rfl ?_ ?_
      · refine pw_exit rfl ?_
        exact pn_sub' (hj1 ()) ⟨rfl, rfl, rfl, rfl, trivial⟩ ⟨rfl, rfl, rfl, rfl, trivial⟩ rfl
      · refine pw_skip ?_
        refine pn_seq ?_
        refine pw_seq ?_
        refine pw_seq ?_
        refine pw_region ?_
        refine po_evs (T := tab) 2 rfl rfl ?_
        refine po_nil ?_
        refine pn_seq ?_
        refine pw_cnd rfl ?_ ?_
        · refine pw_exit rfl ?_
          refine pn_seq ?_
          refine pw_region ?_
          refine po_evs (T := tab) 4 rfl rfl ?_
          refine po_call (enc := fun (r10 : Bs) => .v (.string ⟨⟨r10⟩⟩)) (qs := [.v (.string ⟨⟨o1.T⟩⟩), .v (.string ⟨⟨c2⟩⟩), .v (.string ⟨⟨c3⟩⟩)]) (Lab_other_string_ok fu o1.T c2 c3) rfl rfl ⟨⟨_, rfl, .rfl⟩, ⟨_, rfl, .rfl⟩, ⟨_, rfl, .rfl⟩, trivial⟩ (fun _ => rfl) call45 rfl rfl fun r10 hr10 => ?_
          refine po_evs (T := tab) 1 rfl rfl ?_
          refine po_store (T := tab) rfl rfl rfl rfl rfl rfl rfl rfl rfl rfl rfl rfl ?_
          refine po_nil ?_
          refine pn_block ?_
          refine pn_seq ?_
          refine pw_seq ?_
          refine pw_region ?_
          refine po_evs (T := tab) 4 rfl rfl ?_
          refine po_call (enc := fun (r14 : Bs) => .v (.string ⟨⟨r14⟩⟩)) (qs := [.v (.string ⟨⟨o1.S⟩⟩), .v (.string ⟨⟨c2⟩⟩), .v (.string ⟨⟨c3⟩⟩)]) (Lab_other_string_ok fu o1.S c2 c3) rfl rfl ⟨⟨_, rfl, .rfl⟩, ⟨_, rfl, .rfl⟩, ⟨_, rfl, .rfl⟩, trivial⟩ (fun _ => rfl) call45 rfl rfl fun r14 hr14 => ?_
          refine po_evs (T := tab) 1 rfl rfl ?_
          refine po_store (T := tab) rfl rfl rfl rfl rfl rfl rfl rfl rfl rfl rfl rfl ?_
          refine po_nil ?_
          refine pn_seq ?_
          refine pw_exit rfl ?_
          refine pn_seq ?_
          refine pw_seq ?_
          refine pw_region ?_
          refine po_evs (T := tab) 1 rfl rfl ?_
          refine po_store (T := tab) rfl rfl rfl rfl rfl rfl rfl rfl rfl rfl rfl rfl ?_
          refine po_nil ?_
          refine pn_seq ?_
          exact pw_retN (T := tab) rfl rfl rfl ⟨rfl, rfl⟩ ⟨rfl, rfl, trivial⟩ rfl
        · refine pw_skip ?_
          refine pn_seq ?_
          refine pw_seq ?_
          refine pw_region ?_
          refine po_evs (T := tab) 2 rfl rfl ?_
          refine po_nil ?_
          refine pn_seq ?_
          refine pw_cnd rfl ?_ ?_
          · refine pw_exit rfl ?_
            refine pn_seq ?_
            refine pw_seq ?_
            refine pw_region ?_
            refine po_evs (T := tab) 4 rfl rfl ?_
            refine po_call (enc := fun (r12 : Bs) => .v (.string ⟨⟨r12⟩⟩)) (qs := [.v (.string ⟨⟨o1.S⟩⟩), .v (.string ⟨⟨c2⟩⟩), .v (.string ⟨⟨c3⟩⟩)]) (Lab_other_string_ok fu o1.S c2 c3) rfl rfl ⟨⟨_, rfl, .rfl⟩, ⟨_, rfl, .rfl⟩, ⟨_, rfl, .rfl⟩, trivial⟩ (fun _ => rfl) call45 rfl rfl fun r12 hr12 => ?_
            refine po_evs (T := tab) 1 rfl rfl ?_
            refine po_store (T := tab) rfl rfl rfl rfl rfl rfl rfl rfl rfl rfl rfl rfl ?_
            refine po_nil ?_
            refine pn_seq ?_
            refine pw_exit rfl ?_
            refine pn_seq ?_
            refine pw_seq ?_
            refine pw_region ?_
            refine po_evs (T := tab) 1 rfl rfl ?_
            refine po_store (T := tab) rfl rfl rfl rfl rfl rfl rfl rfl rfl rfl rfl rfl ?_
            refine po_nil ?_
            refine pn_seq ?_
            exact pw_retN (T := tab) rfl rfl rfl ⟨rfl, rfl⟩ ⟨rfl, rfl, trivial⟩ rfl
          · refine pw_skip ?_
            refine pn_seq ?_
            refine pw_exit rfl ?_
            refine pn_seq ?_
            refine pw_seq ?_
            refine pw_region ?_
            refine po_evs (T := tab) 1 rfl rfl ?_
            refine po_store (T := tab) rfl rfl rfl rfl rfl rfl rfl rfl rfl rfl rfl rfl ?_
            refine po_nil ?_
            refine pn_seq ?_
            exact pw_retN (T := tab) rfl rfl rfl ⟨rfl, rfl⟩ ⟨rfl, rfl, trivial⟩ rfl
    · refine pw_region ?_
      refine po_evs (T := tab) 2 rfl rfl ?_
      refine po_nil ?_
      refine pn_seq ?_
      refine pw_cnd rfl ?_ ?_
      · refine pw_exit rfl ?_
        exact pn_sub' (hj1 ()) ⟨rfl, rfl, rfl, rfl, trivial⟩ ⟨rfl, rfl, rfl, rfl, trivial⟩ rfl
      · refine pw_skip ?_
        refine pn_seq ?_
        refine pw_seq ?_
        refine pw_seq ?_
        refine pw_region ?_
        refine po_evs (T := tab) 2 rfl rfl ?_
        refine po_nil ?_
        refine pn_seq ?_
        refine pw_cnd rfl ?_ ?_
        · refine pw_exit rfl ?_
          refine pn_seq ?_
          refine pw_region ?_
          refine po_evs (T := tab) 4 rfl rfl ?_
          refine po_call (enc := fun (r11 : Bs) => .v (.string ⟨⟨r11⟩⟩)) (qs := [.v (.string ⟨⟨o1.T⟩⟩), .v (.string ⟨⟨c2⟩⟩), .v (.string ⟨⟨c3⟩⟩)]) (Lab_other_string_ok fu o1.T c2 c3) rfl rfl ⟨⟨_, rfl, .rfl⟩, ⟨_, rfl, .rfl⟩, ⟨_, rfl, .rfl⟩, trivial⟩ (fun _ => rfl) call45 rfl rfl fun r11 hr11 => ?_
          refine po_evs (T := tab) 1 rfl rfl ?_
          refine po_store (T := tab) rfl rfl rfl rfl rfl rfl rfl rfl rfl rfl rfl rfl ?_
          refine po_nil ?_
          refine pn_block ?_
          refine pn_seq ?_
          refine pw_seq ?_
          refine pw_region ?_
          refine po_evs (T := tab) 4 rfl rfl ?_
          refine po_call (enc := fun (r15 : Bs) => .v (.string ⟨⟨r15⟩⟩)) (qs := [.v (.string ⟨⟨o1.S⟩⟩), .v (.string ⟨⟨c2⟩⟩), .v (.string ⟨⟨c3⟩⟩)]) (Lab_other_string_ok fu o1.S c2 c3) rfl rfl ⟨⟨_, rfl, .rfl⟩, ⟨_, rfl, .rfl⟩, ⟨_, rfl, .rfl⟩, trivial⟩ (fun _ => rfl) call45 rfl rfl fun r15 hr15 => ?_
          refine po_evs (T := tab) 1 rfl rfl ?_
          refine po_store (T := tab) rfl rfl rfl rfl rfl rfl rfl rfl rfl rfl rfl rfl ?_
          refine po_nil ?_
          refine pn_seq ?_
          refine pw_exit rfl ?_
          refine pn_seq ?_
          refine pw_seq ?_
          refine pw_region ?_
          refine po_evs (T := tab) 1 rfl rfl ?_
          refine po_store (T := tab) rfl rfl rfl rfl rfl rfl rfl rfl rfl rfl rfl rfl ?_
          refine po_nil ?_
          refine pn_seq ?_
          exact pw_retN (T := tab) rfl rfl rfl ⟨rfl, rfl⟩ ⟨rfl, rfl, trivial⟩ rfl
        · refine pw_skip ?_
          refine pn_seq ?_
          refine pw_seq ?_
          refine pw_region ?_
          refine po_evs (T := tab) 2 rfl rfl ?_
          refine po_nil ?_
          refine pn_seq ?_
          refine pw_cnd rfl ?_ ?_
          · refine pw_exit rfl ?_
            refine pn_seq ?_
            refine pw_seq ?_
            refine pw_region ?_
            refine po_evs (T := tab) 4 rfl rfl ?_
            refine po_call (enc := fun (r13 : Bs) => .v (.string ⟨⟨r13⟩⟩)) (qs := [.v (.string ⟨⟨o1.S⟩⟩), .v (.string ⟨⟨c2⟩⟩), .v (.string ⟨⟨c3⟩⟩)]) (Lab_other_string_ok fu o1.S c2 c3) rfl rfl ⟨⟨_, rfl, .rfl⟩, ⟨_, rfl, .rfl⟩, ⟨_, rfl, .rfl⟩, trivial⟩ (fun _ => rfl) call45 rfl rfl fun r13 hr13 => ?_
            refine po_evs (T := tab) 1 rfl rfl ?_
            refine po_store (T := tab) rfl rfl rfl rfl rfl rfl rfl rfl rfl rfl rfl rfl ?_
            refine po_nil ?_
            refine pn_seq ?_
            refine pw_exit rfl ?_
            refine pn_seq ?_
            refine pw_seq ?_
            refine pw_region ?_
            refine po_evs (T := tab) 1 rfl rfl ?_
            refine po_store (T := tab) rfl rfl rfl rfl rfl rfl rfl rfl rfl rfl rfl rfl ?_
            refine po_nil ?_
            refine pn_seq ?_
            exact pw_retN (T := tab) rfl rfl rfl ⟨rfl, rfl⟩ ⟨rfl, rfl, trivial⟩ rfl
          · refine pw_skip ?_
            refine pn_seq ?_
            refine pw_exit rfl ?_
            refine pn_seq ?_
            refine pw_seq ?_
            refine pw_region ?_
            refine po_evs (T := tab) 1 rfl rfl ?_
            refine po_store (T := tab) rfl rfl rfl rfl rfl rfl rfl rfl rfl rfl rfl rfl ?_
            refine po_nil ?_
            refine pn_seq ?_
            exact pw_retN (T := tab) rfl rfl rfl ⟨rfl, rfl⟩ ⟨rfl, rfl, trivial⟩ rfl

set_option maxHeartbeats 10000000 in
set_option maxRecDepth 100000 in
theorem Lab_program_i2_ok (fu : Nat) (l1 : (List Op)) (c2 : Bs) (c3 : Bs) : ∀ r, Lab_program_m fu (fun (z1 : Op) => Lab_Names_1_m fu z1 c2 c3) l1 = some r → FC Try.prog 61 [.sl 7 false (l1.map cOp), .fn (.func 43) [] [.loc 900000 0, .loc 900001 0]] [(900000, .box [.v (.string ⟨⟨c2⟩⟩)]), (900001, .box [.v (.string ⟨⟨c3⟩⟩)])] [900000, 900001] fun p S' => p = .sl 7 false (r.map cOp) ∧ S' = [(900000, .box [.v (.string ⟨⟨c2⟩⟩)]), (900001, .box [.v (.string ⟨⟨c3⟩⟩)])] := by
  intro r hr
  refine fc_intro (args := [.sl 7 false (l1.map cOp), .fn (.func 43) [] [.loc 900000 0, .loc 900001 0]]) (S := [(900000, .box [.v (.string ⟨⟨c2⟩⟩)]), (900001, .box [.v (.string ⟨⟨c3⟩⟩)])]) (N0 := [900000, 900001]) (post := fun r p S => p = .sl 7 false (r.map cOp) ∧ S = [(900000, .box [.v (.string ⟨⟨c2⟩⟩)]), (900001, .box [.v (.string ⟨⟨c3⟩⟩)])]) Try.func61 rfl rfl hr fun w0 X X0 σ0 => ?_
  refine pw_seq ?_
  refine pw_region ?_
  refine po_evs (T := tab) 1 rfl rfl ?_
  refine po_nil ?_
  refine pn_seq ?_
  refine pw_seq ?_
  refine pw_region ?_
  refine po_evs (T := tab) 1 rfl rfl ?_
  refine po_turn [2090] (enc := fun (r4 : (List Op)) => .own 2090) (Sr := fun (r4 : (List Op)) => [(2090, .arr 48 7 (r4.map cOp))]) (first := []) (cap := []) (qs := [.sl 7 false (l1.map cOp)]) (Sc := []) (N0 := []) (NR := [2090]) (fun r4 hr4 => fc_ren [(5, 2090)] [5] (Slices_Clone_apiOp_ok fu l1 _ hr4) rfl rfl rfl rfl rfl rfl) trivial (fun _ => rfl) rfl rfl rfl rfl rfl rfl rfl (fun _ => rfl) (fun _ => rfl) rfl rfl rfl ⟨⟨_, rfl, .rfl⟩, trivial⟩ call83 rfl rfl fun r4 hr4 => ?_
  refine po_evs (T := tab) 1 rfl rfl ?_
  refine po_nil ?_
  refine pn_seq ?_
  refine pw_seq ?_
  refine pw_seq ?_
  refine pw_region ?_
  refine po_evs (T := tab) 1 rfl rfl ?_
  refine po_len_own (T := tab) cOp r4 rfl rfl rfl rfl rfl rfl rfl rfl rfl ?_
  refine po_evs (T := tab) 1 rfl rfl ?_
  refine po_nil ?_
  refine pn_seq ?_
  refine pw_block ?_
  refine pw_loop' (Lab_program_l1 (fun (z1 : Op) => Lab_Names_1_m fu z1 c2 c3) r4) (fun ((t5, l6) : Int × (List Op)) => [(1, .fn (.func 43) [] [.loc 900000 0, .loc 900001 0]), (5, .own 2090), (10, .own 2090), (11, .v (.int .i64 ((r4.length : Nat) : Int))), (12, .v (.int .i64 t5))]) (fun ((t5, l6) : Int × (List Op)) => [(2090, .arr 48 7 (l6.map cOp)), (900000, .box [.v (.string ⟨⟨c2⟩⟩)]), (900001, .box [.v (.string ⟨⟨c3⟩⟩)])]) fu (0, r4) (fun _ => rfl) ⟨rfl, rfl, rfl, rfl, rfl, trivial⟩ ⟨rfl, rfl, rfl, trivial⟩ rfl ?_
  rintro k1 ⟨t5, l6⟩
  refine pw_seq ?_
  refine pw_region ?_
  refine po_evs (T := tab) 1 rfl rfl ?_
  refine po_nil ?_
  refine pn_seq ?_
  refine pw_seq ?_
  refine pw_cnd rfl ?_ ?_
  · refine pw_skip ?_
    refine pn_seq ?_
    refine pw_seq ?_
    refine pw_block ?_
    refine pw_seq ?_
    refine pw_region ?_
    refine po_evs (T := tab) 1 rfl rfl ?_
    refine po_idx_own (T := tab) cOp l6 rfl rfl rfl rfl rfl rfl rfl rfl fun y7 hy7 => ?_
    refine po_load_ela (T := tab) cOp l6 y7 (idx_at hy7) rfl rfl rfl rfl rfl rfl rfl rfl ?_
    refine po_alloc (T := tab) 7 rfl rfl rfl rfl rfl rfl rfl rfl rfl ?_
    refine po_evs (T := tab) 1 rfl rfl ?_
    refine po_store (T := tab) rfl rfl rfl rfl rfl rfl rfl rfl rfl rfl rfl rfl ?_
    refine po_nil ?_
    refine pn_seq ?_
    refine pw_region ?_
    refine po_evs (T := tab) 4 rfl rfl ?_
    refine po_callv (enc := fun (r8 : Op) => .agg (cOp r8)) (first := []) (cap := [.loc 900000 0, .loc 900001 0]) (qs := [.agg (cOp y7)]) (Sc := [(900000, .box [.v (.string ⟨⟨c2⟩⟩)]), (900001, .box [.v (.string ⟨⟨c3⟩⟩)])]) (fun r8 hr8 => fc_ren [(900000, 900000), (900001, 900001)] [900000, 900001] (Lab_Names_1_ok fu y7 c2 c3 _ hr8) rfl rfl rfl rfl rfl rfl) (subS_of ⟨rfl, rfl, trivial⟩ rfl) rfl rfl rfl rfl ⟨⟨_, rfl, .rfl⟩, trivial⟩ (fun _ => rfl) call43 rfl rfl fun r8 hr8 => ?_
    refine po_idx_own (T := tab) cOp l6 rfl rfl rfl rfl rfl rfl rfl rfl fun y9 hy9 => ?_
    refine po_store_ela (T := tab) cOp l6 y9 r8 (idx_at hy9) rfl rfl rfl rfl rfl rfl rfl rfl rfl rfl rfl rfl rfl ?_
    refine po_nil ?_
    refine pn_block ?_
    refine pn_seq ?_
    refine pw_region ?_
    refine po_arith' (T := tab) rfl rfl rfl rfl fun i10 hi10 => ?_
    refine po_evs (T := tab) 1 rfl rfl ?_
    refine po_nil ?_
    exact pn_iter' (i10, (l6.set (t5).toNat r8)) ⟨rfl, rfl, rfl, rfl, rfl, trivial⟩ ⟨rfl, rfl, rfl, trivial⟩ rfl
  · refine pw_exit rfl ?_
    refine pn_seq ?_
    refine pw_seq ?_
    refine pw_region ?_
    refine po_evs (T := tab) 2 rfl rfl ?_
    refine po_nil ?_
    refine pn_seq ?_
    refine pw_freeze 2090 rfl rfl rfl ?_
    exact pw_retN (T := tab) rfl rfl rfl ⟨rfl, rfl⟩ ⟨rfl, rfl, trivial⟩ rfl

set_option maxHeartbeats 10000000 in
set_option maxRecDepth 100000 in
theorem Lab_script_i2_ok (fu : Nat) (s1 : Script) (c2 : Bs) (c3 : Bs) : ∀ r, Lab_script_m fu (fun (z1 : Op) => Lab_Names_1_m fu z1 c2 c3) s1 = some r → FC Try.prog 35 [.agg (cScript s1), .fn (.func 43) [] [.loc 900000 0, .loc 900001 0]] [(900000, .box [.v (.string ⟨⟨c2⟩⟩)]), (900001, .box [.v (.string ⟨⟨c3⟩⟩)])] [900000, 900001] fun p S' => p = .agg [.own 2120, .sl 7 false (r.Main.map cOp)] ∧ S' = [(900000, .box [.v (.string ⟨⟨c2⟩⟩)]), (900001, .box [.v (.string ⟨⟨c3⟩⟩)]), (2120, .arr 37 5 (r.Classes.map cClass))] := by
  intro r hr
  refine fc_intro (args := [.agg (cScript s1), .fn (.func 43) [] [.loc 900000 0, .loc 900001 0]]) (S := [(900000, .box [.v (.string ⟨⟨c2⟩⟩)]), (900001, .box [.v (.string ⟨⟨c3⟩⟩)])]) (N0 := [900000, 900001]) (post := fun r p S => p = .agg [.own 2120, .sl 7 false (r.Main.map cOp)] ∧ S = [(900000, .box [.v (.string ⟨⟨c2⟩⟩)]), (900001, .box [.v (.string ⟨⟨c3⟩⟩)]), (2120, .arr 37 5 (r.Classes.map cClass))]) Try.func35 rfl rfl hr fun w0 X X0 σ0 => ?_
  refine pw_seq ?_
  refine pw_region ?_
  refine po_box  2 rfl rfl rfl rfl rfl rfl rfl rfl rfl rfl ?_
  refine po_alloc (T := tab) 4 rfl rfl rfl rfl rfl rfl rfl rfl rfl ?_
  refine po_nil ?_
  refine pn_seq ?_
  refine pw_seq ?_
  refine pw_sub' (E' := [(1, .fn (.func 43) [] [.loc 900000 0, .loc 900001 0]), (2, .loc 2 0), (4, .loc 4 0)]) (S' := [(4, .box [.v (.slice none 0 0), .v (.slice none 0 0)]), (2, .box [.sl 5 false (s1.Classes.map cClass), .sl 7 false (s1.Main.map cOp)]), (900000, .box [.v (.string ⟨⟨c2⟩⟩)]), (900001, .box [.v (.string ⟨⟨c3⟩⟩)])]) ?_ ⟨rfl, rfl, rfl, trivial⟩ ⟨rfl, rfl, rfl, rfl, trivial⟩ rfl
  refine pw_drawV [0, 1, 3, 0, 8, 0, 63, 127, 0, 511] mixed (by kernel_rfl) (by kernel_rfl) rfl rfl ?_
  refine pdv_step0 [4] [20] [] [2] [] [(10, .loc 2 0)] [] rfl rfl rfl rfl (by kernel_rfl) (by kernel_rfl) (by kernel_rfl) trivial (fun w0 X X0 σ0 => by refine po_evs (T := tab) 1 rfl rfl ?_; refine po_nil ?_; exact pn_end0 ⟨rfl, trivial⟩ trivial rfl) ?_
  refine pdv_step0 [5, 20] [22] [] [2] [2] [(11, .sl 5 false (s1.Classes.map cClass))] [(2, .box [.sl 5 false (s1.Classes.map cClass), .sl 7 false (s1.Main.map cOp)])] rfl rfl rfl rfl (by kernel_rfl) (by kernel_rfl) (by kernel_rfl) ⟨rfl, trivial⟩ (fun w0 X X0 σ0 => by refine po_evs (T := tab) 1 rfl rfl ?_; refine po_nil ?_; exact pn_end0 ⟨rfl, trivial⟩ ⟨rfl, trivial⟩ rfl) ?_
  refine pdv_step (M := (Slices_Clone_apiClass_m fu s1.Classes)) (ment := [(24, [2120]), (4241, [])]) [22] [24, 4241] [2120] [] [] (fun r4 => [(12, .own 2120)]) (fun r4 => [(2120, .arr 37 5 (r4.map cClass))]) rfl rfl (fun _ => rfl) (fun _ => rfl) (by kernel_rfl) (by kernel_rfl) (fun _ => by kernel_rfl) (fun _ => trivial) (fun w0 X X0 σ0 => by refine po_turn [2120] (enc := fun (r4 : (List Class)) => .own 2120) (Sr := fun (r4 : (List Class)) => [(2120, .arr 37 5 (r4.map cClass))]) (first := []) (cap := []) (qs := [.sl 5 false (s1.Classes.map cClass)]) (Sc := []) (N0 := []) (NR := [2120]) (fun r4 hr4 => fc_ren [(5, 2120)] [5] (Slices_Clone_apiClass_ok fu s1.Classes _ hr4) rfl rfl rfl rfl rfl rfl) trivial (fun _ => rfl) rfl rfl rfl rfl rfl rfl rfl (fun _ => rfl) (fun _ => rfl) rfl rfl rfl ⟨⟨_, rfl, .rfl⟩, trivial⟩ call60 rfl rfl fun r4 hr4 => ?_; refine po_nil ?_; exact pn_end ⟨rfl, trivial⟩ ⟨rfl, trivial⟩ rfl) fun r4 hr4 => ?_
  refine pdv_step0 [4] [26] [] [2] [] [(13, .loc 2 1)] [] rfl rfl rfl rfl (by kernel_rfl) (by kernel_rfl) (by kernel_rfl) trivial (fun w0 X X0 σ0 => by refine po_evs (T := tab) 1 rfl rfl ?_; refine po_nil ?_; exact pn_end0 ⟨rfl, trivial⟩ trivial rfl) ?_
  refine pdv_step0 [5, 26] [28] [] [2] [2] [(14, .sl 7 false (s1.Main.map cOp))] [(2, .box [.sl 5 false (s1.Classes.map cClass), .sl 7 false (s1.Main.map cOp)])] rfl rfl rfl rfl (by kernel_rfl) (by kernel_rfl) (by kernel_rfl) ⟨rfl, trivial⟩ (fun w0 X X0 σ0 => by refine po_evs (T := tab) 1 rfl rfl ?_; refine po_nil ?_; exact pn_end0 ⟨rfl, trivial⟩ ⟨rfl, trivial⟩ rfl) ?_
  refine pdv_step0 [2] [30] [] [900000, 900001] [] [(15, .fn (.func 43) [] [.loc 900000 0, .loc 900001 0])] [] rfl rfl rfl rfl (by kernel_rfl) (by kernel_rfl) (by kernel_rfl) trivial (fun w0 X X0 σ0 => by refine po_evs (T := tab) 1 rfl rfl ?_; refine po_nil ?_; exact pn_end0 ⟨rfl, trivial⟩ trivial rfl) ?_
  refine pdv_step (M := (Lab_program_m fu (fun (z1 : Op) => Lab_Names_1_m fu z1 c2 c3) s1.Main)) (ment := [(32, [])]) [28, 30, 1800001, 1800003] [32] [] [900000, 900001] [900000, 900001] (fun r5 => [(16, .sl 7 false (r5.map cOp))]) (fun r5 => [(900000, .box [.v (.string ⟨⟨c2⟩⟩)]), (900001, .box [.v (.string ⟨⟨c3⟩⟩)])]) rfl rfl (fun _ => rfl) (fun _ => rfl) (by kernel_rfl) (by kernel_rfl) (fun _ => by kernel_rfl) (fun _ => ⟨rfl, rfl, trivial⟩) (fun w0 X X0 σ0 => by refine po_callv (enc := fun (r5 : (List Op)) => .sl 7 false (r5.map cOp)) (first := []) (cap := []) (qs := [.sl 7 false (s1.Main.map cOp), .fn (.func 43) [] [.loc 900000 0, .loc 900001 0]]) (Sc := [(900000, .box [.v (.string ⟨⟨c2⟩⟩)]), (900001, .box [.v (.string ⟨⟨c3⟩⟩)])]) (fun r5 hr5 => fc_ren [(900000, 900000), (900001, 900001)] [900000, 900001] (Lab_program_i2_ok fu s1.Main c2 c3 _ hr5) rfl rfl rfl rfl rfl rfl) (subS_of ⟨rfl, rfl, trivial⟩ rfl) rfl rfl rfl rfl ⟨⟨_, rfl, .rfl⟩, ⟨_, rfl, .rfl⟩, trivial⟩ (fun _ => rfl) call61 rfl rfl fun r5 hr5 => ?_; refine po_nil ?_; exact pn_end ⟨rfl, trivial⟩ ⟨rfl, rfl, trivial⟩ rfl) fun r5 hr5 => ?_
  refine pdv_step0 [24, 32, 4241] [34] [] [2120] [2120] [(17, .agg [.own 2120, .sl 7 false (r5.map cOp)])] [(2120, .arr 37 5 (r4.map cClass))] rfl rfl rfl rfl (by kernel_rfl) (by kernel_rfl) (by kernel_rfl) ⟨rfl, trivial⟩ (fun w0 X X0 σ0 => by refine po_build (T := tab) rfl rfl rfl rfl rfl rfl rfl ?_; refine po_nil ?_; exact pn_end0 ⟨rfl, trivial⟩ ⟨rfl, trivial⟩ rfl) ?_
  refine pdv_step0 [] [10, 11] [5] [] [] [(5, .loc 5 0)] [(5, .box [.v (.slice none 0 0), .v (.slice none 0 0)])] rfl rfl rfl rfl (by kernel_rfl) (by kernel_rfl) (by kernel_rfl) trivial (fun w0 X X0 σ0 => by refine po_alloc (T := tab) 5 rfl rfl rfl rfl rfl rfl rfl rfl rfl ?_; refine po_nil ?_; exact pn_end0 ⟨rfl, trivial⟩ ⟨rfl, trivial⟩ rfl) ?_
  refine pdv_step0 [10, 11, 34, 4241] [11] [] [5, 2120] [2120] [] [(5, .box [.own 2120, .sl 7 false (r5.map cOp)]), (2120, .arr 37 5 (r4.map cClass))] rfl rfl rfl rfl (by kernel_rfl) (by kernel_rfl) (by kernel_rfl) ⟨rfl, trivial⟩ (fun w0 X X0 σ0 => by refine po_store (T := tab) rfl rfl rfl rfl rfl rfl rfl rfl rfl rfl rfl rfl ?_; refine po_nil ?_; exact pn_end0 trivial ⟨rfl, rfl, trivial⟩ rfl) ?_
  refine pdv_nil rfl rfl ?_
  refine pn_seq ?_
  refine pw_seq ?_
  refine pw_seq ?_
  refine pw_region ?_
  refine po_evs (T := tab) 2 rfl rfl ?_
  refine po_len_own (T := tab) cClass r4 rfl rfl rfl rfl rfl rfl rfl rfl rfl ?_
  refine po_evs (T := tab) 1 rfl rfl ?_
  refine po_nil ?_
  refine pn_seq ?_
  refine pw_block ?_
  refine pw_loop' (Lab_script_l1 fu (fun (z1 : Op) => Lab_Names_1_m fu z1 c2 c3) r4 r5) (fun ((t6, l7) : Int × (List Class)) => [(1, .fn (.func 43) [] [.loc 900000 0, .loc 900001 0]), (4, .loc 4 0), (5, .loc 5 0), (19, .own 2120), (20, .v (.int .i64 ((r4.length : Nat) : Int))), (21, .v (.int .i64 t6))]) (fun ((t6, l7) : Int × (List Class)) => [(5, .box [.own 2120, .sl 7 false (r5.map cOp)]), (2120, .arr 37 5 (l7.map cClass)), (4, .box [.v (.slice none 0 0), .v (.slice none 0 0)]), (900000, .box [.v (.string ⟨⟨c2⟩⟩)]), (900001, .box [.v (.string ⟨⟨c3⟩⟩)])]) fu (0, r4) (fun _ => rfl) ⟨rfl, rfl, rfl, rfl, rfl, rfl, trivial⟩ ⟨rfl, rfl, rfl, rfl, rfl, trivial⟩ rfl ?_
  rintro k1 ⟨t6, l7⟩
  refine pw_seq ?_
  refine pw_region ?_
  refine po_evs (T := tab) 1 rfl rfl ?_
  refine po_nil ?_
  refine pn_seq ?_
  refine pw_seq ?_
  refine pw_cnd rfl ?_ ?_
  · refine pw_skip ?_
    refine pn_seq ?_
    refine pw_seq ?_
    refine pw_block ?_
    refine pw_seq ?_
    refine pw_region ?_
    refine po_evs (T := tab) 1 rfl rfl ?_
    refine po_idx_own (T := tab) cClass l7 rfl rfl rfl rfl rfl rfl rfl rfl fun y8 hy8 => ?_
    refine po_load_ela (T := tab) cClass l7 y8 (idx_at hy8) rfl rfl rfl rfl rfl rfl rfl rfl ?_
    refine po_alloc (T := tab) 7 rfl rfl rfl rfl rfl rfl rfl rfl rfl ?_
    refine po_evs (T := tab) 1 rfl rfl ?_
    refine po_store (T := tab) rfl rfl rfl rfl rfl rfl rfl rfl rfl rfl rfl rfl ?_
    refine po_nil ?_
    refine pn_seq ?_
    refine pw_seq ?_
    refine pw_sub' (E' := [(1, .fn (.func 43) [] [.loc 900000 0, .loc 900001 0]), (4, .loc 4 0), (5, .loc 5 0), (19, .own 2120), (20, .v (.int .i64 ((r4.length : Nat) : Int))), (21, .v (.int .i64 t6)), (7, .loc 7 0), (6, .v (.int .i64 t6))]) (S' := [(7, .box [.v (.bool y8.Form), .sl 1 false (y8.Watch.map cStr), .sl 7 false (y8.Peek.map cOp), .sl 7 false (y8.Make.map cOp), .sl 2 false (y8.Hooks.map cHook)]), (5, .box [.own 2120, .sl 7 false (r5.map cOp)]), (2120, .arr 37 5 (l7.map cClass)), (4, .box [.v (.slice none 0 0), .v (.slice none 0 0)]), (900000, .box [.v (.string ⟨⟨c2⟩⟩)]), (900001, .box [.v (.string ⟨⟨c3⟩⟩)])]) ?_ ⟨rfl, rfl, rfl, rfl, rfl, rfl, rfl, rfl, trivial⟩ ⟨rfl, rfl, rfl, rfl, rfl, rfl, trivial⟩ rfl
    refine pw_drawV [0, 1, 0, 7, 0, 16, 0, 127, 63, 511, 1023, 2047] mixed (by kernel_rfl) (by kernel_rfl) rfl rfl ?_
    refine pdv_step0 [14] [52] [] [7] [] [(26, .loc 7 2)] [] rfl rfl rfl rfl (by kernel_rfl) (by kernel_rfl) (by kernel_rfl) trivial (fun w0 X X0 σ0 => by refine po_evs (T := tab) 1 rfl rfl ?_; refine po_nil ?_; exact pn_end0 ⟨rfl, trivial⟩ trivial rfl) ?_
    refine pdv_step0 [15, 52] [54] [] [7] [7] [(27, .sl 7 false (y8.Peek.map cOp))] [(7, .box [.v (.bool y8.Form), .sl 1 false (y8.Watch.map cStr), .sl 7 false (y8.Peek.map cOp), .sl 7 false (y8.Make.map cOp), .sl 2 false (y8.Hooks.map cHook)])] rfl rfl rfl rfl (by kernel_rfl) (by kernel_rfl) (by kernel_rfl) ⟨rfl, trivial⟩ (fun w0 X X0 σ0 => by refine po_evs (T := tab) 1 rfl rfl ?_; refine po_nil ?_; exact pn_end0 ⟨rfl, trivial⟩ ⟨rfl, trivial⟩ rfl) ?_
    refine pdv_step0 [2] [56] [] [900000, 900001] [] [(28, .fn (.func 43) [] [.loc 900000 0, .loc 900001 0])] [] rfl rfl rfl rfl (by kernel_rfl) (by kernel_rfl) (by kernel_rfl) trivial (fun w0 X X0 σ0 => by refine po_evs (T := tab) 1 rfl rfl ?_; refine po_nil ?_; exact pn_end0 ⟨rfl, trivial⟩ trivial rfl) ?_
    refine pdv_step (M := (Lab_program_m fu (fun (z1 : Op) => Lab_Names_1_m fu z1 c2 c3) y8.Peek)) (ment := [(58, [])]) [54, 56, 1800001, 1800003] [58] [] [900000, 900001] [900000, 900001] (fun r9 => [(29, .sl 7 false (r9.map cOp))]) (fun r9 => [(900000, .box [.v (.string ⟨⟨c2⟩⟩)]), (900001, .box [.v (.string ⟨⟨c3⟩⟩)])]) rfl rfl (fun _ => rfl) (fun _ => rfl) (by kernel_rfl) (by kernel_rfl) (fun _ => by kernel_rfl) (fun _ => ⟨rfl, rfl, trivial⟩) (fun w0 X X0 σ0 => by refine po_callv (enc := fun (r9 : (List Op)) => .sl 7 false (r9.map cOp)) (first := []) (cap := []) (qs := [.sl 7 false (y8.Peek.map cOp), .fn (.func 43) [] [.loc 900000 0, .loc 900001 0]]) (Sc := [(900000, .box [.v (.string ⟨⟨c2⟩⟩)]), (900001, .box [.v (.string ⟨⟨c3⟩⟩)])]) (fun r9 hr9 => fc_ren [(900000, 900000), (900001, 900001)] [900000, 900001] (Lab_program_i2_ok fu y8.Peek c2 c3 _ hr9) rfl rfl rfl rfl rfl rfl) (subS_of ⟨rfl, rfl, trivial⟩ rfl) rfl rfl rfl rfl ⟨⟨_, rfl, .rfl⟩, ⟨_, rfl, .rfl⟩, trivial⟩ (fun _ => rfl) call61 rfl rfl fun r9 hr9 => ?_; refine po_nil ?_; exact pn_end ⟨rfl, trivial⟩ ⟨rfl, rfl, trivial⟩ rfl) fun r9 hr9 => ?_
    refine pdv_step0 [14] [60] [] [7] [] [(30, .loc 7 3)] [] rfl rfl rfl rfl (by kernel_rfl) (by kernel_rfl) (by kernel_rfl) trivial (fun w0 X X0 σ0 => by refine po_evs (T := tab) 1 rfl rfl ?_; refine po_nil ?_; exact pn_end0 ⟨rfl, trivial⟩ trivial rfl) ?_
    refine pdv_step0 [15, 60] [62] [] [7] [7] [(31, .sl 7 false (y8.Make.map cOp))] [(7, .box [.v (.bool y8.Form), .sl 1 false (y8.Watch.map cStr), .sl 7 false (y8.Peek.map cOp), .sl 7 false (y8.Make.map cOp), .sl 2 false (y8.Hooks.map cHook)])] rfl rfl rfl rfl (by kernel_rfl) (by kernel_rfl) (by kernel_rfl) ⟨rfl, trivial⟩ (fun w0 X X0 σ0 => by refine po_evs (T := tab) 1 rfl rfl ?_; refine po_nil ?_; exact pn_end0 ⟨rfl, trivial⟩ ⟨rfl, trivial⟩ rfl) ?_
    refine pdv_step0 [2] [64] [] [900000, 900001] [] [(32, .fn (.func 43) [] [.loc 900000 0, .loc 900001 0])] [] rfl rfl rfl rfl (by kernel_rfl) (by kernel_rfl) (by kernel_rfl) trivial (fun w0 X X0 σ0 => by refine po_evs (T := tab) 1 rfl rfl ?_; refine po_nil ?_; exact pn_end0 ⟨rfl, trivial⟩ trivial rfl) ?_
    refine pdv_step (M := (Lab_program_m fu (fun (z1 : Op) => Lab_Names_1_m fu z1 c2 c3) y8.Make)) (ment := [(66, [])]) [62, 64, 1800001, 1800003] [66] [] [900000, 900001] [900000, 900001] (fun r10 => [(33, .sl 7 false (r10.map cOp))]) (fun r10 => [(900000, .box [.v (.string ⟨⟨c2⟩⟩)]), (900001, .box [.v (.string ⟨⟨c3⟩⟩)])]) rfl rfl (fun _ => rfl) (fun _ => rfl) (by kernel_rfl) (by kernel_rfl) (fun _ => by kernel_rfl) (fun _ => ⟨rfl, rfl, trivial⟩) (fun w0 X X0 σ0 => by refine po_callv (enc := fun (r10 : (List Op)) => .sl 7 false (r10.map cOp)) (first := []) (cap := []) (qs := [.sl 7 false (y8.Make.map cOp), .fn (.func 43) [] [.loc 900000 0, .loc 900001 0]]) (Sc := [(900000, .box [.v (.string ⟨⟨c2⟩⟩)]), (900001, .box [.v (.string ⟨⟨c3⟩⟩)])]) (fun r10 hr10 => fc_ren [(900000, 900000), (900001, 900001)] [900000, 900001] (Lab_program_i2_ok fu y8.Make c2 c3 _ hr10) rfl rfl rfl rfl rfl rfl) (subS_of ⟨rfl, rfl, trivial⟩ rfl) rfl rfl rfl rfl ⟨⟨_, rfl, .rfl⟩, ⟨_, rfl, .rfl⟩, trivial⟩ (fun _ => rfl) call61 rfl rfl fun r10 hr10 => ?_; refine po_nil ?_; exact pn_end ⟨rfl, trivial⟩ ⟨rfl, rfl, trivial⟩ rfl) fun r10 hr10 => ?_
    refine pdv_step0 [14] [68] [] [7] [] [(34, .loc 7 2)] [] rfl rfl rfl rfl (by kernel_rfl) (by kernel_rfl) (by kernel_rfl) trivial (fun w0 X X0 σ0 => by refine po_evs (T := tab) 1 rfl rfl ?_; refine po_nil ?_; exact pn_end0 ⟨rfl, trivial⟩ trivial rfl) ?_
    refine pdv_step0 [15, 58, 68] [15] [] [7] [] [] [(7, .box [.v (.bool y8.Form), .sl 1 false (y8.Watch.map cStr), .sl 7 false (r9.map cOp), .sl 7 false (y8.Make.map cOp), .sl 2 false (y8.Hooks.map cHook)])] rfl rfl rfl rfl (by kernel_rfl) (by kernel_rfl) (by kernel_rfl) trivial (fun w0 X X0 σ0 => by refine po_store (T := tab) rfl rfl rfl rfl rfl rfl rfl rfl rfl rfl rfl rfl ?_; refine po_nil ?_; exact pn_end0 trivial ⟨rfl, trivial⟩ rfl) ?_
    refine pdv_step0 [14] [70] [] [7] [] [(35, .loc 7 3)] [] rfl rfl rfl rfl (by kernel_rfl) (by kernel_rfl) (by kernel_rfl) trivial (fun w0 X X0 σ0 => by refine po_evs (T := tab) 1 rfl rfl ?_; refine po_nil ?_; exact pn_end0 ⟨rfl, trivial⟩ trivial rfl) ?_
    refine pdv_step0 [15, 66, 70] [15] [] [7] [] [] [(7, .box [.v (.bool y8.Form), .sl 1 false (y8.Watch.map cStr), .sl 7 false (r9.map cOp), .sl 7 false (r10.map cOp), .sl 2 false (y8.Hooks.map cHook)])] rfl rfl rfl rfl (by kernel_rfl) (by kernel_rfl) (by kernel_rfl) trivial (fun w0 X X0 σ0 => by refine po_store (T := tab) rfl rfl rfl rfl rfl rfl rfl rfl rfl rfl rfl rfl ?_; refine po_nil ?_; exact pn_end0 trivial ⟨rfl, trivial⟩ rfl) ?_
    refine pdv_nil rfl rfl ?_
    refine pn_seq ?_
    refine pw_seq ?_
    refine pw_region ?_
    refine po_evs (T := tab) 2 rfl rfl ?_
    refine po_turn [2380] (enc := fun (r11 : (List Hook)) => .own 2380) (Sr := fun (r11 : (List Hook)) => [(2380, .arr 52 2 (r11.map cHook))]) (first := []) (cap := []) (qs := [.sl 2 false (y8.Hooks.map cHook)]) (Sc := []) (N0 := []) (NR := [2380]) (fun r11 hr11 => fc_ren [(5, 2380)] [5] (Slices_Clone_apiHook_ok fu y8.Hooks _ hr11) rfl rfl rfl rfl rfl rfl) trivial (fun _ => rfl) rfl rfl rfl rfl rfl rfl rfl (fun _ => rfl) (fun _ => rfl) rfl rfl rfl ⟨⟨_, rfl, .rfl⟩, trivial⟩ call62 rfl rfl fun r11 hr11 => ?_
    refine po_evs (T := tab) 1 rfl rfl ?_
    refine po_store (T := tab) rfl rfl rfl rfl rfl rfl rfl rfl rfl rfl rfl rfl ?_
    refine po_nil ?_
    refine pn_seq ?_
    refine pw_seq ?_
    refine pw_seq ?_
    refine pw_region ?_
    refine po_evs (T := tab) 2 rfl rfl ?_
    refine po_len_own (T := tab) cHook r11 rfl rfl rfl rfl rfl rfl rfl rfl rfl ?_
    refine po_evs (T := tab) 1 rfl rfl ?_
    refine po_nil ?_
    refine pn_seq ?_
    refine pw_block ?_
    refine pw_loop' (Lab_script_l2 fu (fun (z1 : Op) => Lab_Names_1_m fu z1 c2 c3) t6 l7 y8 r9 r10 r11 (Lab_script_l1 fu (fun (z1 : Op) => Lab_Names_1_m fu z1 c2 c3) r4 r5 k1)) (fun ((t12, l13) : Int × (List Hook)) => [(1, .fn (.func 43) [] [.loc 900000 0, .loc 900001 0]), (4, .loc 4 0), (5, .loc 5 0), (19, .own 2120), (20, .v (.int .i64 ((r4.length : Nat) : Int))), (21, .v (.int .i64 t6)), (7, .loc 7 0), (6, .v (.int .i64 t6)), (41, .own 2380), (42, .v (.int .i64 ((r11.length : Nat) : Int))), (43, .v (.int .i64 t12))]) (fun ((t12, l13) : Int × (List Hook)) => [(2380, .arr 52 2 (l13.map cHook)), (7, .box [.v (.bool y8.Form), .sl 1 false (y8.Watch.map cStr), .sl 7 false (r9.map cOp), .sl 7 false (r10.map cOp), .own 2380]), (5, .box [.own 2120, .sl 7 false (r5.map cOp)]), (2120, .arr 37 5 (l7.map cClass)), (4, .box [.v (.slice none 0 0), .v (.slice none 0 0)]), (900000, .box [.v (.string ⟨⟨c2⟩⟩)]), (900001, .box [.v (.string ⟨⟨c3⟩⟩)])]) fu (0, r11) (fun _ => rfl) ⟨rfl, rfl, rfl, rfl, rfl, rfl, rfl, rfl, rfl, rfl, rfl, trivial⟩ ⟨rfl, rfl, rfl, rfl, rfl, rfl, rfl, trivial⟩ rfl ?_
    rintro k2 ⟨t12, l13⟩
    refine pw_seq ?_
    refine pw_region ?_
    refine po_evs (T := tab) 1 rfl rfl ?_
    refine po_nil ?_
    refine pn_seq ?_
    refine pw_seq ?_
    refine pw_cnd rfl ?_ ?_
    · refine pw_skip ?_
      refine pn_seq ?_
      refine pw_seq ?_
      refine pw_block ?_
      refine pw_seq ?_
      refine pw_region ?_
      refine po_evs (T := tab) 1 rfl rfl ?_
      refine po_idx_own (T := tab) cHook l13 rfl rfl rfl rfl rfl rfl rfl rfl fun y14 hy14 => ?_
      refine po_load_ela (T := tab) cHook l13 y14 (idx_at hy14) rfl rfl rfl rfl rfl rfl rfl rfl ?_
      refine po_alloc (T := tab) 9 rfl rfl rfl rfl rfl rfl rfl rfl rfl ?_
      refine po_evs (T := tab) 1 rfl rfl ?_
      refine po_store (T := tab) rfl rfl rfl rfl rfl rfl rfl rfl rfl rfl rfl rfl ?_
      refine po_nil ?_
      refine pn_seq ?_
      refine pw_sub' (E' := [(1, .fn (.func 43) [] [.loc 900000 0, .loc 900001 0]), (4, .loc 4 0), (5, .loc 5 0), (19, .own 2120), (20, .v (.int .i64 ((r4.length : Nat) : Int))), (21, .v (.int .i64 t6)), (7, .loc 7 0), (6, .v (.int .i64 t6)), (41, .own 2380), (42, .v (.int .i64 ((r11.length : Nat) : Int))), (43, .v (.int .i64 t12)), (9, .loc 9 0), (8, .v (.int .i64 t12))]) (S' := [(9, .box [.v (.int .i64 y14.Kind), .sl 7 false (y14.Do.map cOp)]), (2380, .arr 52 2 (l13.map cHook)), (7, .box [.v (.bool y8.Form), .sl 1 false (y8.Watch.map cStr), .sl 7 false (r9.map cOp), .sl 7 false (r10.map cOp), .own 2380]), (5, .box [.own 2120, .sl 7 false (r5.map cOp)]), (2120, .arr 37 5 (l7.map cClass)), (4, .box [.v (.slice none 0 0), .v (.slice none 0 0)]), (900000, .box [.v (.string ⟨⟨c2⟩⟩)]), (900001, .box [.v (.string ⟨⟨c3⟩⟩)])]) ?_ ⟨rfl, rfl, rfl, rfl, rfl, rfl, rfl, rfl, rfl, rfl, rfl, rfl, rfl, trivial⟩ ⟨rfl, rfl, rfl, rfl, rfl, rfl, rfl, rfl, trivial⟩ rfl
      refine pw_drawV [0, 1, 0, 0, 8, 0, 56, 127, 255, 511] mixed (by kernel_rfl) (by kernel_rfl) rfl rfl ?_
      refine pdv_step0 [14] [96] [] [7] [] [(48, .loc 7 4)] [] rfl rfl rfl rfl (by kernel_rfl) (by kernel_rfl) (by kernel_rfl) trivial (fun w0 X X0 σ0 => by refine po_evs (T := tab) 1 rfl rfl ?_; refine po_nil ?_; exact pn_end0 ⟨rfl, trivial⟩ trivial rfl) ?_
      refine pdv_step0 [15, 96] [98] [] [7, 2380] [7] [(49, .own 2380)] [(7, .box [.v (.bool y8.Form), .sl 1 false (y8.Watch.map cStr), .sl 7 false (r9.map cOp), .sl 7 false (r10.map cOp), .own 2380])] rfl rfl rfl rfl (by kernel_rfl) (by kernel_rfl) (by kernel_rfl) ⟨rfl, trivial⟩ (fun w0 X X0 σ0 => by refine po_evs (T := tab) 1 rfl rfl ?_; refine po_nil ?_; exact pn_end0 ⟨rfl, trivial⟩ ⟨rfl, trivial⟩ rfl) ?_
      refine pdv_step0 [16] [100] [] [] [] [(50, .v (.int .i64 t12))] [] rfl rfl rfl rfl (by kernel_rfl) (by kernel_rfl) (by kernel_rfl) trivial (fun w0 X X0 σ0 => by refine po_evs (T := tab) 1 rfl rfl ?_; refine po_nil ?_; exact pn_end0 ⟨rfl, trivial⟩ trivial rfl) ?_
      refine pdv_step0 [18] [102] [] [9] [] [(51, .loc 9 1)] [] rfl rfl rfl rfl (by kernel_rfl) (by kernel_rfl) (by kernel_rfl) trivial (fun w0 X X0 σ0 => by refine po_evs (T := tab) 1 rfl rfl ?_; refine po_nil ?_; exact pn_end0 ⟨rfl, trivial⟩ trivial rfl) ?_
      refine pdv_step0 [19, 102] [104] [] [9] [9] [(52, .sl 7 false (y14.Do.map cOp))] [(9, .box [.v (.int .i64 y14.Kind), .sl 7 false (y14.Do.map cOp)])] rfl rfl rfl rfl (by kernel_rfl) (by kernel_rfl) (by kernel_rfl) ⟨rfl, trivial⟩ (fun w0 X X0 σ0 => by refine po_evs (T := tab) 1 rfl rfl ?_; refine po_nil ?_; exact pn_end0 ⟨rfl, trivial⟩ ⟨rfl, trivial⟩ rfl) ?_
      refine pdv_step0 [2] [106] [] [900000, 900001] [] [(53, .fn (.func 43) [] [.loc 900000 0, .loc 900001 0])] [] rfl rfl rfl rfl (by kernel_rfl) (by kernel_rfl) (by kernel_rfl) trivial (fun w0 X X0 σ0 => by refine po_evs (T := tab) 1 rfl rfl ?_; refine po_nil ?_; exact pn_end0 ⟨rfl, trivial⟩ trivial rfl) ?_
      refine pdv_step (M := (Lab_program_m fu (fun (z1 : Op) => Lab_Names_1_m fu z1 c2 c3) y14.Do)) (ment := [(108, [])]) [104, 106, 1800001, 1800003] [108] [] [900000, 900001] [900000, 900001] (fun r15 => [(54, .sl 7 false (r15.map cOp))]) (fun r15 => [(900000, .box [.v (.string ⟨⟨c2⟩⟩)]), (900001, .box [.v (.string ⟨⟨c3⟩⟩)])]) rfl rfl (fun _ => rfl) (fun _ => rfl) (by kernel_rfl) (by kernel_rfl) (fun _ => by kernel_rfl) (fun _ => ⟨rfl, rfl, trivial⟩) (fun w0 X X0 σ0 => by refine po_callv (enc := fun (r15 : (List Op)) => .sl 7 false (r15.map cOp)) (first := []) (cap := []) (qs := [.sl 7 false (y14.Do.map cOp), .fn (.func 43) [] [.loc 900000 0, .loc 900001 0]]) (Sc := [(900000, .box [.v (.string ⟨⟨c2⟩⟩)]), (900001, .box [.v (.string ⟨⟨c3⟩⟩)])]) (fun r15 hr15 => fc_ren [(900000, 900000), (900001, 900001)] [900000, 900001] (Lab_program_i2_ok fu y14.Do c2 c3 _ hr15) rfl rfl rfl rfl rfl rfl) (subS_of ⟨rfl, rfl, trivial⟩ rfl) rfl rfl rfl rfl ⟨⟨_, rfl, .rfl⟩, ⟨_, rfl, .rfl⟩, trivial⟩ (fun _ => rfl) call61 rfl rfl fun r15 hr15 => ?_; refine po_nil ?_; exact pn_end ⟨rfl, trivial⟩ ⟨rfl, rfl, trivial⟩ rfl) fun r15 hr15 => ?_
      refine pdv_step (M := (idx l13 t12)) (ment := [(110, [2380])]) [98, 100, 4761] [110] [] [2380] [2380] (fun y16 => [(55, .ela 2380 2 (t12).toNat 0)]) (fun y16 => [(2380, .arr 52 2 (l13.map cHook))]) rfl rfl (fun _ => rfl) (fun _ => rfl) (by kernel_rfl) (by kernel_rfl) (fun _ => by kernel_rfl) (fun _ => ⟨rfl, trivial⟩) (fun w0 X X0 σ0 => by refine po_idx_own (T := tab) cHook l13 rfl rfl rfl rfl rfl rfl rfl rfl fun y16 hy16 => ?_; refine po_nil ?_; exact pn_end ⟨rfl, trivial⟩ ⟨rfl, trivial⟩ rfl) fun y16 hy16 => ?_
      refine pdv_step0 [110] [112] [] [2380] [] [(56, .ela 2380 2 (t12).toNat 1)] [] rfl rfl rfl rfl (by kernel_rfl) (by kernel_rfl) (by kernel_rfl) trivial (fun w0 X X0 σ0 => by refine po_evs (T := tab) 1 rfl rfl ?_; refine po_nil ?_; exact pn_end0 ⟨rfl, trivial⟩ trivial rfl) ?_
      refine pdv_step0 [108, 112, 4761] [4761] [] [2380] [] [] [(2380, .arr 52 2 ((l13.set (t12).toNat (⟨y16.Kind, r15⟩ : Hook)).map cHook))] rfl rfl rfl rfl (by kernel_rfl) (by kernel_rfl) (by kernel_rfl) trivial (fun w0 X X0 σ0 => by refine po_store_ela (T := tab) cHook l13 y16 (⟨y16.Kind, r15⟩ : Hook) (idx_at hy16) rfl rfl rfl rfl rfl rfl rfl rfl rfl rfl rfl rfl rfl ?_; refine po_nil ?_; exact pn_end0 trivial ⟨rfl, trivial⟩ rfl) ?_
      refine pdv_nil rfl rfl ?_
      refine pn_block ?_
      refine pn_seq ?_
      refine pw_region ?_
      refine po_arith' (T := tab) rfl rfl rfl rfl fun i17 hi17 => ?_
      refine po_evs (T := tab) 1 rfl rfl ?_
      refine po_nil ?_
      exact pn_iter' (i17, (l13.set (t12).toNat (⟨y16.Kind, r15⟩ : Hook))) ⟨rfl, rfl, rfl, rfl, rfl, rfl, rfl, rfl, rfl, rfl, rfl, trivial⟩ ⟨rfl, rfl, rfl, rfl, rfl, rfl, rfl, trivial⟩ rfl
    · refine pw_exit rfl ?_
      refine pn_seq ?_
      refine pw_region ?_
      refine po_evs (T := tab) 4 rfl rfl ?_
      refine po_idx_own (T := tab) cClass l7 rfl rfl rfl rfl rfl rfl rfl rfl fun y18 hy18 => ?_
      refine po_freeze 2380 rfl rfl rfl ?_
      refine po_store_ela (T := tab) cClass l7 y18 (⟨y8.Form, y8.Watch, r9, r10, l13⟩ : Class) (idx_at hy18) rfl rfl rfl rfl rfl rfl rfl rfl rfl rfl rfl rfl rfl ?_
      refine po_nil ?_
      refine pn_block ?_
      refine pn_seq ?_
      refine pw_region ?_
      refine po_arith' (T := tab) rfl rfl rfl rfl fun i19 hi19 => ?_
      refine po_evs (T := tab) 1 rfl rfl ?_
      refine po_nil ?_
      exact pn_iter' (i19, (l7.set (t6).toNat (⟨y8.Form, y8.Watch, r9, r10, l13⟩ : Class))) ⟨rfl, rfl, rfl, rfl, rfl, rfl, trivial⟩ ⟨rfl, rfl, rfl, rfl, rfl, trivial⟩ rfl
  · refine pw_exit rfl ?_
    refine pn_seq ?_
    refine pw_seq ?_
    refine pw_region ?_
    refine po_evs (T := tab) 1 rfl rfl ?_
    refine po_store (T := tab) rfl rfl rfl rfl rfl rfl rfl rfl rfl rfl rfl rfl ?_
    refine po_nil ?_
    refine pn_seq ?_
    exact pw_retN (T := tab) rfl rfl rfl ⟨rfl, rfl⟩ ⟨rfl, rfl, rfl, trivial⟩ rfl

def Lab_Names_m (fu : Nat) (s1 : Script) (x2 : Bs) (y3 : Bs) : Option Script := bnd (Lab_named_m fu x2 y3) fun r4 => cnd (!r4) (some s1) (bnd (Lab_script_m fu (fun (z1 : Op) => Lab_Names_1_m fu z1 x2 y3) s1) fun r5 => some r5)

set_option maxRecDepth 100000 in
theorem Lab_Names_ok (fu : Nat) (s1 : Script) (x2 : Bs) (y3 : Bs) : ∀ r, Lab_Names_m fu s1 x2 y3 = some r → DC Try.prog 17 [.agg (cScript s1), .v (.string ⟨⟨x2⟩⟩), .v (.string ⟨⟨y3⟩⟩)] (.agg (cScript r)) := by
  intro r hr
  refine fc_intro (args := [.agg (cScript s1), .v (.string ⟨⟨x2⟩⟩), .v (.string ⟨⟨y3⟩⟩)]) (S := []) (N0 := []) (post := fun r p S => p = .agg (cScript r) ∧ S = []) Try.func17 rfl rfl hr fun w0 X X0 σ0 => ?_
  refine pw_seq ?_
  refine pw_region ?_
  refine po_box  3 rfl rfl rfl rfl rfl rfl rfl rfl rfl rfl ?_
  refine po_box  4 rfl rfl rfl rfl rfl rfl rfl rfl rfl rfl ?_
  refine po_box  5 rfl rfl rfl rfl rfl rfl rfl rfl rfl rfl ?_
  refine po_alloc (T := tab) 6 rfl rfl rfl rfl rfl rfl rfl rfl rfl ?_
  refine po_nil ?_
  refine pn_seq ?_
  refine pw_seq ?_
  refine pw_seq ?_
  refine pw_region ?_
  refine po_evs (T := tab) 2 rfl rfl ?_
  refine po_call (enc := fun (r4 : Bool) => .v (.bool r4)) (qs := [.v (.string ⟨⟨x2⟩⟩), .v (.string ⟨⟨y3⟩⟩)]) (Lab_named_ok fu x2 y3) rfl rfl ⟨⟨_, rfl, .rfl⟩, ⟨_, rfl, .rfl⟩, trivial⟩ (fun _ => rfl) call42 rfl rfl fun r4 hr4 => ?_
  refine po_evs (T := tab) 1 rfl rfl ?_
  refine po_nil ?_
  refine pn_seq ?_
  refine pw_cnd rfl ?_ ?_
  · refine pw_seq ?_
    refine pw_region ?_
    refine po_evs (T := tab) 1 rfl rfl ?_
    refine po_store (T := tab) rfl rfl rfl rfl rfl rfl rfl rfl rfl rfl rfl rfl ?_
    refine po_nil ?_
    refine pn_seq ?_
    exact pw_retN (T := tab) rfl rfl rfl ⟨rfl, rfl⟩ trivial rfl
  · refine pw_skip ?_
    refine pn_seq ?_
    refine pw_seq ?_
    refine pw_region ?_
    refine po_evs (T := tab) 2 rfl rfl ?_
    refine po_turn [2140] (enc := fun (r5 : Script) => .agg [.own 2140, .sl 7 false (r5.Main.map cOp)]) (Sr := fun (r5 : Script) => [(4, .box [.v (.string ⟨⟨x2⟩⟩)]), (5, .box [.v (.string ⟨⟨y3⟩⟩)]), (2140, .arr 37 5 (r5.Classes.map cClass))]) (first := []) (cap := []) (qs := [.agg (cScript s1), .fn (.func 43) [] [.loc 4 0, .loc 5 0]]) (Sc := [(4, .box [.v (.string ⟨⟨x2⟩⟩)]), (5, .box [.v (.string ⟨⟨y3⟩⟩)])]) (N0 := [4, 5]) (NR := [4, 5, 2140]) (fun r5 hr5 => fc_ren [(2120, 2140), (900000, 4), (900001, 5)] [2120, 900000, 900001] (Lab_script_i2_ok fu s1 x2 y3 _ hr5) rfl rfl rfl rfl rfl rfl) ⟨rfl, rfl, trivial⟩ (fun _ => rfl) rfl rfl rfl rfl rfl rfl rfl (fun _ => rfl) (fun _ => rfl) rfl rfl rfl ⟨⟨_, rfl, .rfl⟩, ⟨_, rfl, .rfl⟩, trivial⟩ call35 rfl rfl fun r5 hr5 => ?_
    refine po_store (T := tab) rfl rfl rfl rfl rfl rfl rfl rfl rfl rfl rfl rfl ?_
    refine po_nil ?_
    refine pn_seq ?_
    refine pw_freeze 2140 rfl rfl rfl ?_
    exact pw_retN (T := tab) rfl rfl rfl ⟨rfl, rfl⟩ trivial rfl

def Slices_Clone_apiMark_m (_fu : Nat) (s1 : (List Mark)) : Option (List Mark) := bnd (roomy 120 (([] : List Mark).length + s1.length)) fun _ => some (([] : List Mark) ++ s1)

set_option maxRecDepth 100000 in
theorem Slices_Clone_apiMark_ok (fu : Nat) (s1 : (List Mark)) : ∀ r, Slices_Clone_apiMark_m fu s1 = some r → FC Try.prog 63 [.sl 13 false (s1.map cMark)] [] [] fun p S' => p = .own 5 ∧ S' = [(5, .arr 55 13 (r.map cMark))] := by
  intro r hr
  refine fc_intro (args := [.sl 13 false (s1.map cMark)]) (S := []) (N0 := []) (post := fun r p S => p = .own 5 ∧ S = [(5, .arr 55 13 (r.map cMark))]) Try.func63 rfl rfl hr fun w0 X X0 σ0 => ?_
  refine pw_seq ?_
  refine pw_region ?_
  refine po_evs (T := tab) 1 rfl rfl ?_
  refine po_nil ?_
  refine pn_seq ?_
  refine pw_seq ?_
  refine pw_seq ?_
  refine pw_region ?_
  refine po_evs (T := tab) 1 rfl rfl ?_
  refine po_isnil (T := tab) rfl rfl rfl rfl rfl rfl fun b hb => ?_
  cases b
  · refine po_nil ?_
    refine pn_seq ?_
    refine pw_else rfl ?_
    refine pw_skip ?_
    refine pn_seq ?_
    refine pw_seq ?_
    refine pw_region ?_
    refine po_lit (T := tab) (rows := ([] : List Mark).map cMark) 5 rfl rfl rfl rfl rfl rfl rfl rfl rfl rfl rfl rfl rfl rfl ?_
    refine po_evs (T := tab) 1 rfl rfl ?_
    refine po_append (T := tab) cMark ([] : List Mark) s1 rfl rfl rfl rfl rfl rfl rfl rfl rfl rfl rfl rfl rfl rfl (cMark_one _) rfl rfl rfl rfl rfl ?_
    refine po_evs (T := tab) 1 rfl rfl ?_
    refine po_nil ?_
    refine pn_seq ?_
    exact pw_retN (T := tab) rfl rfl rfl ⟨rfl, rfl⟩ ⟨rfl, trivial⟩ rfl
  · have h0 : s1 = [] := List.map_eq_nil_iff.1 (hb rfl)
    refine po_conv (m' := some ([] : List Mark)) (by subst h0; rfl) ?_
    refine po_nil ?_
    refine pn_seq ?_
    refine pw_then rfl ?_
    refine pw_seq ?_
    refine pw_region ?_
    refine po_evs (T := tab) 1 rfl rfl ?_
    refine po_nil ?_
    refine pn_seq ?_
    refine pw_own_nil 5 55 13 2 rfl rfl rfl rfl ?_
    exact pw_retN (T := tab) rfl rfl rfl ⟨rfl, rfl⟩ ⟨rfl, trivial⟩ rfl

def Lab_MarksClasses_1_m (fu : Nat) (i1 : Nat) (x2 : Mark) (l3 : (List Mark)) (c4 : Int) (c5 : Int) : Option (List Mark) := cnd (x2.Kind == 3) (cnd (x2.Kind == 3) (bnd (Lab_other_int_m fu x2.What c4 c5) fun r6 => some (l3.set i1 (⟨x2.Kind, x2.Depth, x2.Node, r6, x2.Err, x2.Name, x2.Had, x2.Has, x2.Old, x2.New, x2.From, x2.To, x2.On⟩ : Mark))) (some l3)) (cnd (x2.Kind == 4) (cnd (x2.Kind == 4) (bnd (Lab_other_int_m fu x2.What c4 c5) fun r7 => some (l3.set i1 (⟨x2.Kind, x2.Depth, x2.Node, r7, x2.Err, x2.Name, x2.Had, x2.Has, x2.Old, x2.New, x2.From, x2.To, x2.On⟩ : Mark))) (some l3)) (cnd (x2.Kind == 8) (cnd (x2.Kind == 8) (bnd (Lab_other_int_m fu x2.What c4 c5) fun r8 => some (l3.set i1 (⟨x2.Kind, x2.Depth, x2.Node, r8, x2.Err, x2.Name, x2.Had, x2.Has, x2.Old, x2.New, x2.From, x2.To, x2.On⟩ : Mark))) (some l3)) (cnd (x2.Kind == 9) (bnd (Lab_other_int_m fu x2.What c4 c5) fun r9 => some (l3.set i1 (⟨x2.Kind, x2.Depth, x2.Node, r9, x2.Err, x2.Name, x2.Had, x2.Has, x2.Old, x2.New, x2.From, x2.To, x2.On⟩ : Mark))) (some l3))))

set_option maxHeartbeats 10000000 in
set_option maxRecDepth 100000 in
theorem Lab_MarksClasses_1_ok (fu : Nat) (i1 : Nat) (x2 : Mark) (l3 : (List Mark)) (c4 : Int) (c5 : Int) (h_x2 : l3[i1]? = some x2) : ∀ r, Lab_MarksClasses_1_m fu i1 x2 l3 c4 c5 = some r → FC Try.prog 41 [.ela 900000 13 i1 0, .loc 900001 0, .loc 900002 0] [(900000, .arr 55 13 (l3.map cMark)), (900001, .box [.v (.int .i64 c4)]), (900002, .box [.v (.int .i64 c5)])] [900000, 900001, 900002] fun p S' => p = .tup [] ∧ S' = [(900000, .arr 55 13 (r.map cMark)), (900001, .box [.v (.int .i64 c4)]), (900002, .box [.v (.int .i64 c5)])] := by
  intro r hr
  refine fc_intro (args := [.ela 900000 13 i1 0, .loc 900001 0, .loc 900002 0]) (S := [(900000, .arr 55 13 (l3.map cMark)), (900001, .box [.v (.int .i64 c4)]), (900002, .box [.v (.int .i64 c5)])]) (N0 := [900000, 900001, 900002]) (post := fun r p S => p = .tup [] ∧ S = [(900000, .arr 55 13 (r.map cMark)), (900001, .box [.v (.int .i64 c4)]), (900002, .box [.v (.int .i64 c5)])]) Try.func41 rfl rfl hr fun w0 X X0 σ0 => ?_
  refine pw_seq ?_
  refine pw_region ?_
  refine po_evs (T := tab) 3 rfl rfl ?_
  refine po_load_ela (T := tab) cMark l3 x2 h_x2 rfl rfl rfl rfl rfl rfl rfl rfl ?_
  refine po_nil ?_
  refine pn_seq ?_
  refine pw_block ?_
  refine pw_seq ?_
  refine pw_seq ?_
  refine pw_region ?_
  refine po_evs (T := tab) 2 rfl rfl ?_
  refine po_nil ?_
  refine pn_seq ?_
  refine pw_cnd rfl ?_ ?_
  · refine pw_skip ?_
    refine pn_seq ?_
    refine pw_cnd rfl ?_ ?_
    · refine pw_sub' (E' := [(0, .ela 900000 13 i1 0), (1, .loc 900001 0), (2, .loc 900002 0)]) (S' := [(900000, .arr 55 13 (l3.map cMark)), (900001, .box [.v (.int .i64 c4)]), (900002, .box [.v (.int .i64 c5)])]) ?_ ⟨rfl, rfl, rfl, trivial⟩ ⟨rfl, rfl, rfl, trivial⟩ rfl
      refine pw_drawV [0, 0, 2, 6, 14, 0, 0, 126, 255, 511, 1023] mixed (by kernel_rfl) (by kernel_rfl) rfl rfl ?_
      refine pdv_step0 [0] [26] [] [900000] [] [(13, .ela 900000 13 i1 0)] [] rfl rfl rfl rfl (by kernel_rfl) (by kernel_rfl) (by kernel_rfl) trivial (fun w0 X X0 σ0 => by refine po_evs (T := tab) 1 rfl rfl ?_; refine po_nil ?_; exact pn_end0 ⟨rfl, trivial⟩ trivial rfl) ?_
      refine pdv_step0 [0] [28] [] [900000] [] [(14, .ela 900000 13 i1 0)] [] rfl rfl rfl rfl (by kernel_rfl) (by kernel_rfl) (by kernel_rfl) trivial (fun w0 X X0 σ0 => by refine po_evs (T := tab) 1 rfl rfl ?_; refine po_nil ?_; exact pn_end0 ⟨rfl, trivial⟩ trivial rfl) ?_
      refine pdv_step0 [28] [30] [] [900000] [] [(15, .ela 900000 13 i1 0)] [] rfl rfl rfl rfl (by kernel_rfl) (by kernel_rfl) (by kernel_rfl) trivial (fun w0 X X0 σ0 => by refine po_evs (T := tab) 1 rfl rfl ?_; refine po_nil ?_; exact pn_end0 ⟨rfl, trivial⟩ trivial rfl) ?_
      refine pdv_step0 [30] [32] [] [900000] [] [(16, .ela 900000 13 i1 3)] [] rfl rfl rfl rfl (by kernel_rfl) (by kernel_rfl) (by kernel_rfl) trivial (fun w0 X X0 σ0 => by refine po_evs (T := tab) 1 rfl rfl ?_; refine po_nil ?_; exact pn_end0 ⟨rfl, trivial⟩ trivial rfl) ?_
      refine pdv_step0 [32, 1800001] [34] [] [900000] [900000] [(17, .v (.int .i64 x2.What))] [(900000, .arr 55 13 (l3.map cMark))] rfl rfl rfl rfl (by kernel_rfl) (by kernel_rfl) (by kernel_rfl) ⟨rfl, trivial⟩ (fun w0 X X0 σ0 => by refine po_load_ela (T := tab) cMark l3 x2 h_x2 rfl rfl rfl rfl rfl rfl rfl rfl ?_; refine po_nil ?_; exact pn_end0 ⟨rfl, trivial⟩ ⟨rfl, trivial⟩ rfl) ?_
      refine pdv_step0 [2, 1800003] [36] [] [900001] [900001] [(18, .v (.int .i64 c4))] [(900001, .box [.v (.int .i64 c4)])] rfl rfl rfl rfl (by kernel_rfl) (by kernel_rfl) (by kernel_rfl) ⟨rfl, trivial⟩ (fun w0 X X0 σ0 => by refine po_evs (T := tab) 1 rfl rfl ?_; refine po_nil ?_; exact pn_end0 ⟨rfl, trivial⟩ ⟨rfl, trivial⟩ rfl) ?_
      refine pdv_step0 [4, 1800005] [38] [] [900002] [900002] [(19, .v (.int .i64 c5))] [(900002, .box [.v (.int .i64 c5)])] rfl rfl rfl rfl (by kernel_rfl) (by kernel_rfl) (by kernel_rfl) ⟨rfl, trivial⟩ (fun w0 X X0 σ0 => by refine po_evs (T := tab) 1 rfl rfl ?_; refine po_nil ?_; exact pn_end0 ⟨rfl, trivial⟩ ⟨rfl, trivial⟩ rfl) ?_
      refine pdv_step (M := (Lab_other_int_m fu x2.What c4 c5)) (ment := [(40, [])]) [34, 36, 38] [40] [] [] [] (fun r6 => [(20, .v (.int .i64 r6))]) (fun r6 => []) rfl rfl (fun _ => rfl) (fun _ => rfl) (by kernel_rfl) (by kernel_rfl) (fun _ => by kernel_rfl) (fun _ => trivial) (fun w0 X X0 σ0 => by refine po_call (enc := fun (r6 : Int) => .v (.int .i64 r6)) (qs := [.v (.int .i64 x2.What), .v (.int .i64 c4), .v (.int .i64 c5)]) (Lab_other_int_ok fu x2.What c4 c5) rfl rfl ⟨⟨_, rfl, .rfl⟩, ⟨_, rfl, .rfl⟩, ⟨_, rfl, .rfl⟩, trivial⟩ (fun _ => rfl) call37 rfl rfl fun r6 hr6 => ?_; refine po_nil ?_; exact pn_end ⟨rfl, trivial⟩ trivial rfl) fun r6 hr6 => ?_
      refine pdv_step0 [26] [42] [] [900000] [] [(21, .ela 900000 13 i1 0)] [] rfl rfl rfl rfl (by kernel_rfl) (by kernel_rfl) (by kernel_rfl) trivial (fun w0 X X0 σ0 => by refine po_evs (T := tab) 1 rfl rfl ?_; refine po_nil ?_; exact pn_end0 ⟨rfl, trivial⟩ trivial rfl) ?_
      refine pdv_step0 [42] [44] [] [900000] [] [(22, .ela 900000 13 i1 3)] [] rfl rfl rfl rfl (by kernel_rfl) (by kernel_rfl) (by kernel_rfl) trivial (fun w0 X X0 σ0 => by refine po_evs (T := tab) 1 rfl rfl ?_; refine po_nil ?_; exact pn_end0 ⟨rfl, trivial⟩ trivial rfl) ?_
      refine pdv_step0 [40, 44, 1800001] [1800001] [] [900000] [] [] [(900000, .arr 55 13 ((l3.set i1 (⟨x2.Kind, x2.Depth, x2.Node, r6, x2.Err, x2.Name, x2.Had, x2.Has, x2.Old, x2.New, x2.From, x2.To, x2.On⟩ : Mark)).map cMark))] rfl rfl rfl rfl (by kernel_rfl) (by kernel_rfl) (by kernel_rfl) trivial (fun w0 X X0 σ0 => by refine po_store_ela (T := tab) cMark l3 x2 (⟨x2.Kind, x2.Depth, x2.Node, r6, x2.Err, x2.Name, x2.Had, x2.Has, x2.Old, x2.New, x2.From, x2.To, x2.On⟩ : Mark) h_x2 rfl rfl rfl rfl rfl rfl rfl rfl rfl rfl rfl rfl rfl ?_; refine po_nil ?_; exact pn_end0 trivial ⟨rfl, trivial⟩ rfl) ?_
      refine pdv_nil rfl rfl ?_
      refine pn_block ?_
      exact pn_retN (T := tab) rfl rfl rfl ⟨rfl, rfl⟩ ⟨rfl, rfl, rfl, trivial⟩ rfl
    · refine pw_skip ?_
      refine pn_block ?_
      exact pn_retN (T := tab) rfl rfl rfl ⟨rfl, rfl⟩ ⟨rfl, rfl, rfl, trivial⟩ rfl
  · refine pw_seq ?_
    refine pw_region ?_
    refine po_evs (T := tab) 2 rfl rfl ?_
    refine po_nil ?_
    refine pn_seq ?_
    refine pw_cnd rfl ?_ ?_
    · refine pw_skip ?_
      refine pn_seq ?_
      refine pw_cnd rfl ?_ ?_
      · refine pw_sub' (E' := [(0, .ela 900000 13 i1 0), (1, .loc 900001 0), (2, .loc 900002 0)]) (S' := [(900000, .arr 55 13 (l3.map cMark)), (900001, .box [.v (.int .i64 c4)]), (900002, .box [.v (.int .i64 c5)])]) ?_ ⟨rfl, rfl, rfl, trivial⟩ ⟨rfl, rfl, rfl, trivial⟩ rfl
        refine pw_drawV [0, 0, 2, 6, 14, 0, 0, 126, 255, 511, 1023] mixed (by kernel_rfl) (by kernel_rfl) rfl rfl ?_
        refine pdv_step0 [0] [26] [] [900000] [] [(13, .ela 900000 13 i1 0)] [] rfl rfl rfl rfl (by kernel_rfl) (by kernel_rfl) (by kernel_rfl) trivial (fun w0 X X0 σ0 => by refine po_evs (T := tab) 1 rfl rfl ?_; refine po_nil ?_; exact pn_end0 ⟨rfl, trivial⟩ trivial rfl) ?_
        refine pdv_step0 [0] [28] [] [900000] [] [(14, .ela 900000 13 i1 0)] [] rfl rfl rfl rfl (by kernel_rfl) (by kernel_rfl) (by kernel_rfl) trivial (fun w0 X X0 σ0 => by refine po_evs (T := tab) 1 rfl rfl ?_; refine po_nil ?_; exact pn_end0 ⟨rfl, trivial⟩ trivial rfl) ?_
        refine pdv_step0 [28] [30] [] [900000] [] [(15, .ela 900000 13 i1 0)] [] rfl rfl rfl rfl (by kernel_rfl) (by kernel_rfl) (by kernel_rfl) trivial (fun w0 X X0 σ0 => by refine po_evs (T := tab) 1 rfl rfl ?_; refine po_nil ?_; exact pn_end0 ⟨rfl, trivial⟩ trivial rfl) ?_
        refine pdv_step0 [30] [32] [] [900000] [] [(16, .ela 900000 13 i1 3)] [] rfl rfl rfl rfl (by kernel_rfl) (by kernel_rfl) (by kernel_rfl) trivial (fun w0 X X0 σ0 => by refine po_evs (T := tab) 1 rfl rfl ?_; refine po_nil ?_; exact pn_end0 ⟨rfl, trivial⟩ trivial rfl) ?_
        refine pdv_step0 [32, 1800001] [34] [] [900000] [900000] [(17, .v (.int .i64 x2.What))] [(900000, .arr 55 13 (l3.map cMark))] rfl rfl rfl rfl (by kernel_rfl) (by kernel_rfl) (by kernel_rfl) ⟨rfl, trivial⟩ (fun w0 X X0 σ0 => by refine po_load_ela (T := tab) cMark l3 x2 h_x2 rfl rfl rfl rfl rfl rfl rfl rfl ?_; refine po_nil ?_; exact pn_end0 ⟨rfl, trivial⟩ ⟨rfl, trivial⟩ rfl) ?_
        refine pdv_step0 [2, 1800003] [36] [] [900001] [900001] [(18, .v (.int .i64 c4))] [(900001, .box [.v (.int .i64 c4)])] rfl rfl rfl rfl (by kernel_rfl) (by kernel_rfl) (by kernel_rfl) ⟨rfl, trivial⟩ (fun w0 X X0 σ0 => by refine po_evs (T := tab) 1 rfl rfl ?_; refine po_nil ?_; exact pn_end0 ⟨rfl, trivial⟩ ⟨rfl, trivial⟩ rfl) ?_
        refine pdv_step0 [4, 1800005] [38] [] [900002] [900002] [(19, .v (.int .i64 c5))] [(900002, .box [.v (.int .i64 c5)])] rfl rfl rfl rfl (by kernel_rfl) (by kernel_rfl) (by kernel_rfl) ⟨rfl, trivial⟩ (fun w0 X X0 σ0 => by refine po_evs (T := tab) 1 rfl rfl ?_; refine po_nil ?_; exact pn_end0 ⟨rfl, trivial⟩ ⟨rfl, trivial⟩ rfl) ?_
        refine pdv_step (M := (Lab_other_int_m fu x2.What c4 c5)) (ment := [(40, [])]) [34, 36, 38] [40] [] [] [] (fun r7 => [(20, .v (.int .i64 r7))]) (fun r7 => []) rfl rfl (fun _ => rfl) (fun _ => rfl) (by kernel_rfl) (by kernel_rfl) (fun _ => by kernel_rfl) (fun _ => trivial) (fun w0 X X0 σ0 => by refine po_call (enc := fun (r7 : Int) => .v (.int .i64 r7)) (qs := [.v (.int .i64 x2.What), .v (.int .i64 c4), .v (.int .i64 c5)]) (Lab_other_int_ok fu x2.What c4 c5) rfl rfl ⟨⟨_, rfl, .rfl⟩, ⟨_, rfl, .rfl⟩, ⟨_, rfl, .rfl⟩, trivial⟩ (fun _ => rfl) call37 rfl rfl fun r7 hr7 => ?_; refine po_nil ?_; exact pn_end ⟨rfl, trivial⟩ trivial rfl) fun r7 hr7 => ?_
        refine pdv_step0 [26] [42] [] [900000] [] [(21, .ela 900000 13 i1 0)] [] rfl rfl rfl rfl (by kernel_rfl) (by kernel_rfl) (by kernel_rfl) trivial (fun w0 X X0 σ0 => by refine po_evs (T := tab) 1 rfl rfl ?_; refine po_nil ?_; exact pn_end0 ⟨rfl, trivial⟩ trivial rfl) ?_
        refine pdv_step0 [42] [44] [] [900000] [] [(22, .ela 900000 13 i1 3)] [] rfl rfl rfl rfl (by kernel_rfl) (by kernel_rfl) (by kernel_rfl) trivial (fun w0 X X0 σ0 => by refine po_evs (T := tab) 1 rfl rfl ?_; refine po_nil ?_; exact pn_end0 ⟨rfl, trivial⟩ trivial rfl) ?_
        refine pdv_step0 [40, 44, 1800001] [1800001] [] [900000] [] [] [(900000, .arr 55 13 ((l3.set i1 (⟨x2.Kind, x2.Depth, x2.Node, r7, x2.Err, x2.Name, x2.Had, x2.Has, x2.Old, x2.New, x2.From, x2.To, x2.On⟩ : Mark)).map cMark))] rfl rfl rfl rfl (by kernel_rfl) (by kernel_rfl) (by kernel_rfl) trivial (fun w0 X X0 σ0 => by refine po_store_ela (T := tab) cMark l3 x2 (⟨x2.Kind, x2.Depth, x2.Node, r7, x2.Err, x2.Name, x2.Had, x2.Has, x2.Old, x2.New, x2.From, x2.To, x2.On⟩ : Mark) h_x2 rfl rfl rfl rfl rfl rfl rfl rfl rfl rfl rfl rfl rfl ?_; refine po_nil ?_; exact pn_end0 trivial ⟨rfl, trivial⟩ rfl) ?_
        refine pdv_nil rfl rfl ?_
        refine pn_block ?_
        exact pn_retN (T := tab) rfl rfl rfl ⟨rfl, rfl⟩ ⟨rfl, rfl, rfl, trivial⟩ rfl
      · refine pw_skip ?_
        refine pn_block ?_
        exact pn_retN (T := tab) rfl rfl rfl ⟨rfl, rfl⟩ ⟨rfl, rfl, rfl, trivial⟩ rfl
    · refine pw_seq ?_
      refine pw_region ?_
      refine po_evs (T := tab) 2 rfl rfl ?_
      refine po_nil ?_
      refine pn_seq ?_
      refine pw_cnd rfl ?_ ?_
      · refine pw_skip ?_
        refine pn_seq ?_
        refine pw_cnd rfl ?_ ?_
        · refine pw_sub' (E' := [(0, .ela 900000 13 i1 0), (1, .loc 900001 0), (2, .loc 900002 0)]) (S' := [(900000, .arr 55 13 (l3.map cMark)), (900001, .box [.v (.int .i64 c4)]), (900002, .box [.v (.int .i64 c5)])]) ?_ ⟨rfl, rfl, rfl, trivial⟩ ⟨rfl, rfl, rfl, trivial⟩ rfl
          refine pw_drawV [0, 0, 2, 6, 14, 0, 0, 126, 255, 511, 1023] mixed (by kernel_rfl) (by kernel_rfl) rfl rfl ?_
          refine pdv_step0 [0] [26] [] [900000] [] [(13, .ela 900000 13 i1 0)] [] rfl rfl rfl rfl (by kernel_rfl) (by kernel_rfl) (by kernel_rfl) trivial (fun w0 X X0 σ0 => by refine po_evs (T := tab) 1 rfl rfl ?_; refine po_nil ?_; exact pn_end0 ⟨rfl, trivial⟩ trivial rfl) ?_
          refine pdv_step0 [0] [28] [] [900000] [] [(14, .ela 900000 13 i1 0)] [] rfl rfl rfl rfl (by kernel_rfl) (by kernel_rfl) (by kernel_rfl) trivial (fun w0 X X0 σ0 => by refine po_evs (T := tab) 1 rfl rfl ?_; refine po_nil ?_; exact pn_end0 ⟨rfl, trivial⟩ trivial rfl) ?_
          refine pdv_step0 [28] [30] [] [900000] [] [(15, .ela 900000 13 i1 0)] [] rfl rfl rfl rfl (by kernel_rfl) (by kernel_rfl) (by kernel_rfl) trivial (fun w0 X X0 σ0 => by refine po_evs (T := tab) 1 rfl rfl ?_; refine po_nil ?_; exact pn_end0 ⟨rfl, trivial⟩ trivial rfl) ?_
          refine pdv_step0 [30] [32] [] [900000] [] [(16, .ela 900000 13 i1 3)] [] rfl rfl rfl rfl (by kernel_rfl) (by kernel_rfl) (by kernel_rfl) trivial (fun w0 X X0 σ0 => by refine po_evs (T := tab) 1 rfl rfl ?_; refine po_nil ?_; exact pn_end0 ⟨rfl, trivial⟩ trivial rfl) ?_
          refine pdv_step0 [32, 1800001] [34] [] [900000] [900000] [(17, .v (.int .i64 x2.What))] [(900000, .arr 55 13 (l3.map cMark))] rfl rfl rfl rfl (by kernel_rfl) (by kernel_rfl) (by kernel_rfl) ⟨rfl, trivial⟩ (fun w0 X X0 σ0 => by refine po_load_ela (T := tab) cMark l3 x2 h_x2 rfl rfl rfl rfl rfl rfl rfl rfl ?_; refine po_nil ?_; exact pn_end0 ⟨rfl, trivial⟩ ⟨rfl, trivial⟩ rfl) ?_
          refine pdv_step0 [2, 1800003] [36] [] [900001] [900001] [(18, .v (.int .i64 c4))] [(900001, .box [.v (.int .i64 c4)])] rfl rfl rfl rfl (by kernel_rfl) (by kernel_rfl) (by kernel_rfl) ⟨rfl, trivial⟩ (fun w0 X X0 σ0 => by refine po_evs (T := tab) 1 rfl rfl ?_; refine po_nil ?_; exact pn_end0 ⟨rfl, trivial⟩ ⟨rfl, trivial⟩ rfl) ?_
          refine pdv_step0 [4, 1800005] [38] [] [900002] [900002] [(19, .v (.int .i64 c5))] [(900002, .box [.v (.int .i64 c5)])] rfl rfl rfl rfl (by kernel_rfl) (by kernel_rfl) (by kernel_rfl) ⟨rfl, trivial⟩ (fun w0 X X0 σ0 => by refine po_evs (T := tab) 1 rfl rfl ?_; refine po_nil ?_; exact pn_end0 ⟨rfl, trivial⟩ ⟨rfl, trivial⟩ rfl) ?_
          refine pdv_step (M := (Lab_other_int_m fu x2.What c4 c5)) (ment := [(40, [])]) [34, 36, 38] [40] [] [] [] (fun r8 => [(20, .v (.int .i64 r8))]) (fun r8 => []) rfl rfl (fun _ => rfl) (fun _ => rfl) (by kernel_rfl) (by kernel_rfl) (fun _ => by kernel_rfl) (fun _ => trivial) (fun w0 X X0 σ0 => by refine po_call (enc := fun (r8 : Int) => .v (.int .i64 r8)) (qs := [.v (.int .i64 x2.What), .v (.int .i64 c4), .v (.int .i64 c5)]) (Lab_other_int_ok fu x2.What c4 c5) rfl rfl ⟨⟨_, rfl, .rfl⟩, ⟨_, rfl, .rfl⟩, ⟨_, rfl, .rfl⟩, trivial⟩ (fun _ => rfl) call37 rfl rfl fun r8 hr8 => ?_; refine po_nil ?_; exact pn_end ⟨rfl, trivial⟩ trivial rfl) fun r8 hr8 => ?_
          refine pdv_step0 [26] [42] [] [900000] [] [(21, .ela 900000 13 i1 0)] [] rfl rfl rfl rfl (by kernel_rfl) (by kernel_rfl) (by kernel_rfl) trivial (fun w0 X X0 σ0 => by refine po_evs (T := tab) 1 rfl rfl ?_; refine po_nil ?_; exact pn_end0 ⟨rfl, trivial⟩ trivial rfl) ?_
          refine pdv_step0 [42] [44] [] [900000] [] [(22, .ela 900000 13 i1 3)] [] rfl rfl rfl rfl (by kernel_rfl) (by kernel_rfl) (by kernel_rfl) trivial (fun w0 X X0 σ0 => by refine po_evs (T := tab) 1 rfl rfl ?_; refine po_nil ?_; exact pn_end0 ⟨rfl, trivial⟩ trivial rfl) ?_
          refine pdv_step0 [40, 44, 1800001] [1800001] [] [900000] [] [] [(900000, .arr 55 13 ((l3.set i1 (⟨x2.Kind, x2.Depth, x2.Node, r8, x2.Err, x2.Name, x2.Had, x2.Has, x2.Old, x2.New, x2.From, x2.To, x2.On⟩ : Mark)).map cMark))] rfl rfl rfl rfl (by kernel_rfl) (by kernel_rfl) (by kernel_rfl) trivial (fun w0 X X0 σ0 => by refine po_store_ela (T := tab) cMark l3 x2 (⟨x2.Kind, x2.Depth, x2.Node, r8, x2.Err, x2.Name, x2.Had, x2.Has, x2.Old, x2.New, x2.From, x2.To, x2.On⟩ : Mark) h_x2 rfl rfl rfl rfl rfl rfl rfl rfl rfl rfl rfl rfl rfl ?_; refine po_nil ?_; exact pn_end0 trivial ⟨rfl, trivial⟩ rfl) ?_
          refine pdv_nil rfl rfl ?_
          refine pn_block ?_
          exact pn_retN (T := tab) rfl rfl rfl ⟨rfl, rfl⟩ ⟨rfl, rfl, rfl, trivial⟩ rfl
        · refine pw_skip ?_
          refine pn_block ?_
          exact pn_retN (T := tab) rfl rfl rfl ⟨rfl, rfl⟩ ⟨rfl, rfl, rfl, trivial⟩ rfl
      · refine pw_region ?_
        refine po_evs (T := tab) 2 rfl rfl ?_
        refine po_nil ?_
        refine pn_seq ?_
        refine pw_cnd rfl ?_ ?_
        · refine pw_sub' (E' := [(0, .ela 900000 13 i1 0), (1, .loc 900001 0), (2, .loc 900002 0)]) (S' := [(900000, .arr 55 13 (l3.map cMark)), (900001, .box [.v (.int .i64 c4)]), (900002, .box [.v (.int .i64 c5)])]) ?_ ⟨rfl, rfl, rfl, trivial⟩ ⟨rfl, rfl, rfl, trivial⟩ rfl
          refine pw_drawV [0, 0, 2, 6, 14, 0, 0, 126, 255, 511, 1023] mixed (by kernel_rfl) (by kernel_rfl) rfl rfl ?_
          refine pdv_step0 [0] [26] [] [900000] [] [(13, .ela 900000 13 i1 0)] [] rfl rfl rfl rfl (by kernel_rfl) (by kernel_rfl) (by kernel_rfl) trivial (fun w0 X X0 σ0 => by refine po_evs (T := tab) 1 rfl rfl ?_; refine po_nil ?_; exact pn_end0 ⟨rfl, trivial⟩ trivial rfl) ?_
          refine pdv_step0 [0] [28] [] [900000] [] [(14, .ela 900000 13 i1 0)] [] rfl rfl rfl rfl (by kernel_rfl) (by kernel_rfl) (by kernel_rfl) trivial (fun w0 X X0 σ0 => by refine po_evs (T := tab) 1 rfl rfl ?_; refine po_nil ?_; exact pn_end0 ⟨rfl, trivial⟩ trivial rfl) ?_
          refine pdv_step0 [28] [30] [] [900000] [] [(15, .ela 900000 13 i1 0)] [] rfl rfl rfl rfl (by kernel_rfl) (by kernel_rfl) (by kernel_rfl) trivial (fun w0 X X0 σ0 => by refine po_evs (T := tab) 1 rfl rfl ?_; refine po_nil ?_; exact pn_end0 ⟨rfl, trivial⟩ trivial rfl) ?_
          refine pdv_step0 [30] [32] [] [900000] [] [(16, .ela 900000 13 i1 3)] [] rfl rfl rfl rfl (by kernel_rfl) (by kernel_rfl) (by kernel_rfl) trivial (fun w0 X X0 σ0 => by refine po_evs (T := tab) 1 rfl rfl ?_; refine po_nil ?_; exact pn_end0 ⟨rfl, trivial⟩ trivial rfl) ?_
          refine pdv_step0 [32, 1800001] [34] [] [900000] [900000] [(17, .v (.int .i64 x2.What))] [(900000, .arr 55 13 (l3.map cMark))] rfl rfl rfl rfl (by kernel_rfl) (by kernel_rfl) (by kernel_rfl) ⟨rfl, trivial⟩ (fun w0 X X0 σ0 => by refine po_load_ela (T := tab) cMark l3 x2 h_x2 rfl rfl rfl rfl rfl rfl rfl rfl ?_; refine po_nil ?_; exact pn_end0 ⟨rfl, trivial⟩ ⟨rfl, trivial⟩ rfl) ?_
          refine pdv_step0 [2, 1800003] [36] [] [900001] [900001] [(18, .v (.int .i64 c4))] [(900001, .box [.v (.int .i64 c4)])] rfl rfl rfl rfl (by kernel_rfl) (by kernel_rfl) (by kernel_rfl) ⟨rfl, trivial⟩ (fun w0 X X0 σ0 => by refine po_evs (T := tab) 1 rfl rfl ?_; refine po_nil ?_; exact pn_end0 ⟨rfl, trivial⟩ ⟨rfl, trivial⟩ rfl) ?_
          refine pdv_step0 [4, 1800005] [38] [] [900002] [900002] [(19, .v (.int .i64 c5))] [(900002, .box [.v (.int .i64 c5)])] rfl rfl rfl rfl (by kernel_rfl) (by kernel_rfl) (by kernel_rfl) ⟨rfl, trivial⟩ (fun w0 X X0 σ0 => by refine po_evs (T := tab) 1 rfl rfl ?_; refine po_nil ?_; exact pn_end0 ⟨rfl, trivial⟩ ⟨rfl, trivial⟩ rfl) ?_
          refine pdv_step (M := (Lab_other_int_m fu x2.What c4 c5)) (ment := [(40, [])]) [34, 36, 38] [40] [] [] [] (fun r9 => [(20, .v (.int .i64 r9))]) (fun r9 => []) rfl rfl (fun _ => rfl) (fun _ => rfl) (by kernel_rfl) (by kernel_rfl) (fun _ => by kernel_rfl) (fun _ => trivial) (fun w0 X X0 σ0 => by refine po_call (enc := fun (r9 : Int) => .v (.int .i64 r9)) (qs := [.v (.int .i64 x2.What), .v (.int .i64 c4), .v (.int .i64 c5)]) (Lab_other_int_ok fu x2.What c4 c5) rfl rfl ⟨⟨_, rfl, .rfl⟩, ⟨_, rfl, .rfl⟩, ⟨_, rfl, .rfl⟩, trivial⟩ (fun _ => rfl) call37 rfl rfl fun r9 hr9 => ?_; refine po_nil ?_; exact pn_end ⟨rfl, trivial⟩ trivial rfl) fun r9 hr9 => ?_
          refine pdv_step0 [26] [42] [] [900000] [] [(21, .ela 900000 13 i1 0)] [] rfl rfl rfl rfl (by kernel_rfl) (by kernel_rfl) (by kernel_rfl) trivial (fun w0 X X0 σ0 => by refine po_evs (T := tab) 1 rfl rfl ?_; refine po_nil ?_; exact pn_end0 ⟨rfl, trivial⟩ trivial rfl) ?_
          refine pdv_step0 [42] [44] [] [900000] [] [(22, .ela 900000 13 i1 3)] [] rfl rfl rfl rfl (by kernel_rfl) (by kernel_rfl) (by kernel_rfl) trivial (fun w0 X X0 σ0 => by refine po_evs (T := tab) 1 rfl rfl ?_; refine po_nil ?_; exact pn_end0 ⟨rfl, trivial⟩ trivial rfl) ?_
          refine pdv_step0 [40, 44, 1800001] [1800001] [] [900000] [] [] [(900000, .arr 55 13 ((l3.set i1 (⟨x2.Kind, x2.Depth, x2.Node, r9, x2.Err, x2.Name, x2.Had, x2.Has, x2.Old, x2.New, x2.From, x2.To, x2.On⟩ : Mark)).map cMark))] rfl rfl rfl rfl (by kernel_rfl) (by kernel_rfl) (by kernel_rfl) trivial (fun w0 X X0 σ0 => by refine po_store_ela (T := tab) cMark l3 x2 (⟨x2.Kind, x2.Depth, x2.Node, r9, x2.Err, x2.Name, x2.Had, x2.Has, x2.Old, x2.New, x2.From, x2.To, x2.On⟩ : Mark) h_x2 rfl rfl rfl rfl rfl rfl rfl rfl rfl rfl rfl rfl rfl ?_; refine po_nil ?_; exact pn_end0 trivial ⟨rfl, trivial⟩ rfl) ?_
          refine pdv_nil rfl rfl ?_
          refine pn_block ?_
          exact pn_retN (T := tab) rfl rfl rfl ⟨rfl, rfl⟩ ⟨rfl, rfl, rfl, trivial⟩ rfl
        · refine pw_skip ?_
          refine pn_block ?_
          exact pn_retN (T := tab) rfl rfl rfl ⟨rfl, rfl⟩ ⟨rfl, rfl, rfl, trivial⟩ rfl

def Lab_marks_l1 (t1 : Nat → Mark → (List Mark) → Option (List Mark)) (r4 : (List Mark)) : Nat → Int × (List Mark) → Option (List Mark)
  | 0, _ => none
  | k1 + 1, (t5, l6) => cnd (decide (t5 < ((r4.length : Nat) : Int))) (bnd (idx l6 t5) fun y7 => bnd (t1 (t5).toNat y7 l6) fun r8 => bnd (rng .i64 (t5 + 1)) fun i9 => (Lab_marks_l1 t1 r4 k1) (i9, r8)) (some l6)

def Lab_marks_m (fu : Nat) (t1 : Nat → Mark → (List Mark) → Option (List Mark)) (l1 : (List Mark)) : Option (List Mark) := bnd (Slices_Clone_apiMark_m fu l1) fun r4 => (Lab_marks_l1 t1 r4) fu (0, r4)

set_option maxHeartbeats 10000000 in
set_option maxRecDepth 100000 in
theorem Lab_marks_ok (fu : Nat) (l1 : (List Mark)) (c2 : Int) (c3 : Int) : ∀ r, Lab_marks_m fu (fun (z1 : Nat) (z2 : Mark) (z3 : (List Mark)) => Lab_MarksClasses_1_m fu z1 z2 z3 c2 c3) l1 = some r → FC Try.prog 40 [.sl 13 false (l1.map cMark), .fn (.func 41) [] [.loc 900000 0, .loc 900001 0]] [(900000, .box [.v (.int .i64 c2)]), (900001, .box [.v (.int .i64 c3)])] [900000, 900001] fun p S' => p = .sl 13 false (r.map cMark) ∧ S' = [(900000, .box [.v (.int .i64 c2)]), (900001, .box [.v (.int .i64 c3)])] := by
  intro r hr
  refine fc_intro (args := [.sl 13 false (l1.map cMark), .fn (.func 41) [] [.loc 900000 0, .loc 900001 0]]) (S := [(900000, .box [.v (.int .i64 c2)]), (900001, .box [.v (.int .i64 c3)])]) (N0 := [900000, 900001]) (post := fun r p S => p = .sl 13 false (r.map cMark) ∧ S = [(900000, .box [.v (.int .i64 c2)]), (900001, .box [.v (.int .i64 c3)])]) Try.func40 rfl rfl hr fun w0 X X0 σ0 => ?_
  refine pw_seq ?_
  refine pw_region ?_
  refine po_evs (T := tab) 1 rfl rfl ?_
  refine po_nil ?_
  refine pn_seq ?_
  refine pw_seq ?_
  refine pw_region ?_
  refine po_evs (T := tab) 1 rfl rfl ?_
  refine po_turn [2080] (enc := fun (r4 : (List Mark)) => .own 2080) (Sr := fun (r4 : (List Mark)) => [(2080, .arr 55 13 (r4.map cMark))]) (first := []) (cap := []) (qs := [.sl 13 false (l1.map cMark)]) (Sc := []) (N0 := []) (NR := [2080]) (fun r4 hr4 => fc_ren [(5, 2080)] [5] (Slices_Clone_apiMark_ok fu l1 _ hr4) rfl rfl rfl rfl rfl rfl) trivial (fun _ => rfl) rfl rfl rfl rfl rfl rfl rfl (fun _ => rfl) (fun _ => rfl) rfl rfl rfl ⟨⟨_, rfl, .rfl⟩, trivial⟩ call63 rfl rfl fun r4 hr4 => ?_
  refine po_evs (T := tab) 1 rfl rfl ?_
  refine po_nil ?_
  refine pn_seq ?_
  refine pw_seq ?_
  refine pw_seq ?_
  refine pw_region ?_
  refine po_evs (T := tab) 1 rfl rfl ?_
  refine po_len_own (T := tab) cMark r4 rfl rfl rfl rfl rfl rfl rfl rfl rfl ?_
  refine po_evs (T := tab) 1 rfl rfl ?_
  refine po_nil ?_
  refine pn_seq ?_
  refine pw_block ?_
  refine pw_loop' (Lab_marks_l1 (fun (z1 : Nat) (z2 : Mark) (z3 : (List Mark)) => Lab_MarksClasses_1_m fu z1 z2 z3 c2 c3) r4) (fun ((t5, l6) : Int × (List Mark)) => [(1, .fn (.func 41) [] [.loc 900000 0, .loc 900001 0]), (5, .own 2080), (10, .v (.int .i64 ((r4.length : Nat) : Int))), (11, .v (.int .i64 t5))]) (fun ((t5, l6) : Int × (List Mark)) => [(2080, .arr 55 13 (l6.map cMark)), (900000, .box [.v (.int .i64 c2)]), (900001, .box [.v (.int .i64 c3)])]) fu (0, r4) (fun _ => rfl) ⟨rfl, rfl, rfl, rfl, trivial⟩ ⟨rfl, rfl, rfl, trivial⟩ rfl ?_
  rintro k1 ⟨t5, l6⟩
  refine pw_seq ?_
  refine pw_region ?_
  refine po_evs (T := tab) 1 rfl rfl ?_
  refine po_nil ?_
  refine pn_seq ?_
  refine pw_seq ?_
  refine pw_cnd rfl ?_ ?_
  · refine pw_skip ?_
    refine pn_seq ?_
    refine pw_seq ?_
    refine pw_block ?_
    refine pw_seq ?_
    refine pw_region ?_
    refine po_evs (T := tab) 2 rfl rfl ?_
    refine po_nil ?_
    refine pn_seq ?_
    refine pw_region ?_
    refine po_evs (T := tab) 3 rfl rfl ?_
    refine po_idx_own (T := tab) cMark l6 rfl rfl rfl rfl rfl rfl rfl rfl fun y7 hy7 => ?_
    refine po_turn [] (enc := fun (r8 : (List Mark)) => .tup []) (Sr := fun (r8 : (List Mark)) => [(2080, .arr 55 13 (r8.map cMark)), (900000, .box [.v (.int .i64 c2)]), (900001, .box [.v (.int .i64 c3)])]) (first := []) (cap := [.loc 900000 0, .loc 900001 0]) (qs := [.ela 2080 13 (t5).toNat 0]) (Sc := [(2080, .arr 55 13 (l6.map cMark)), (900000, .box [.v (.int .i64 c2)]), (900001, .box [.v (.int .i64 c3)])]) (N0 := [2080, 900000, 900001]) (NR := [2080, 900000, 900001]) (fun r8 hr8 => fc_ren [(900000, 2080), (900001, 900000), (900002, 900001)] [900000, 900001, 900002] (Lab_MarksClasses_1_ok fu (t5).toNat y7 l6 c2 c3 (idx_at hy7) _ hr8) rfl rfl rfl rfl rfl rfl) ⟨rfl, rfl, rfl, trivial⟩ (fun _ => rfl) rfl rfl rfl rfl rfl rfl rfl (fun _ => rfl) (fun _ => rfl) rfl rfl rfl ⟨⟨_, rfl, .rfl⟩, trivial⟩ call41 rfl rfl fun r8 hr8 => ?_
    refine po_nil ?_
    refine pn_block ?_
    refine pn_seq ?_
    refine pw_region ?_
    refine po_arith' (T := tab) rfl rfl rfl rfl fun i9 hi9 => ?_
    refine po_evs (T := tab) 1 rfl rfl ?_
    refine po_nil ?_
    exact pn_iter' (i9, r8) ⟨rfl, rfl, rfl, rfl, trivial⟩ ⟨rfl, rfl, rfl, trivial⟩ rfl
  · refine pw_exit rfl ?_
    refine pn_seq ?_
    refine pw_seq ?_
    refine pw_region ?_
    refine po_evs (T := tab) 2 rfl rfl ?_
    refine po_nil ?_
    refine pn_seq ?_
    refine pw_freeze 2080 rfl rfl rfl ?_
    exact pw_retN (T := tab) rfl rfl rfl ⟨rfl, rfl⟩ ⟨rfl, rfl, trivial⟩ rfl

def Lab_MarksClasses_m (fu : Nat) (l1 : (List Mark)) (a2 : Int) (b3 : Int) : Option (List Mark) := bnd (Lab_marks_m fu (fun (z1 : Nat) (z2 : Mark) (z3 : (List Mark)) => Lab_MarksClasses_1_m fu z1 z2 z3 a2 b3) l1) fun r4 => some r4

set_option maxRecDepth 100000 in
theorem Lab_MarksClasses_ok (fu : Nat) (l1 : (List Mark)) (a2 : Int) (b3 : Int) : ∀ r, Lab_MarksClasses_m fu l1 a2 b3 = some r → DC Try.prog 15 [.sl 13 false (l1.map cMark), .v (.int .i64 a2), .v (.int .i64 b3)] (.sl 13 false (r.map cMark)) := by
  intro r hr
  refine fc_intro (args := [.sl 13 false (l1.map cMark), .v (.int .i64 a2), .v (.int .i64 b3)]) (S := []) (N0 := []) (post := fun r p S => p = .sl 13 false (r.map cMark) ∧ S = []) Try.func15 rfl rfl hr fun w0 X X0 σ0 => ?_
  refine pw_seq ?_
  refine pw_region ?_
  refine po_box  4 rfl rfl rfl rfl rfl rfl rfl rfl rfl rfl ?_
  refine po_box  5 rfl rfl rfl rfl rfl rfl rfl rfl rfl rfl ?_
  refine po_evs (T := tab) 1 rfl rfl ?_
  refine po_nil ?_
  refine pn_seq ?_
  refine pw_seq ?_
  refine pw_region ?_
  refine po_evs (T := tab) 2 rfl rfl ?_
  refine po_callv (enc := fun (r4 : (List Mark)) => .sl 13 false (r4.map cMark)) (first := []) (cap := []) (qs := [.sl 13 false (l1.map cMark), .fn (.func 41) [] [.loc 4 0, .loc 5 0]]) (Sc := [(4, .box [.v (.int .i64 a2)]), (5, .box [.v (.int .i64 b3)])]) (fun r4 hr4 => fc_ren [(900000, 4), (900001, 5)] [900000, 900001] (Lab_marks_ok fu l1 a2 b3 _ hr4) rfl rfl rfl rfl rfl rfl) (subS_of ⟨rfl, rfl, trivial⟩ rfl) rfl rfl rfl rfl ⟨⟨_, rfl, .rfl⟩, ⟨_, rfl, .rfl⟩, trivial⟩ (fun _ => rfl) call40 rfl rfl fun r4 hr4 => ?_
  refine po_evs (T := tab) 1 rfl rfl ?_
  refine po_nil ?_
  refine pn_seq ?_
  exact pw_retN (T := tab) rfl rfl rfl ⟨rfl, rfl⟩ trivial rfl

def Lab_MarksNames_1_m (fu : Nat) (i1 : Nat) (m2 : Mark) (l3 : (List Mark)) (c4 : Bs) (c5 : Bs) : Option (List Mark) := cnd (m2.Kind == 8) (bnd (Lab_other_string_m fu m2.Name c4 c5) fun r6 => some (l3.set i1 (⟨m2.Kind, m2.Depth, m2.Node, m2.What, m2.Err, r6, m2.Had, m2.Has, m2.Old, m2.New, m2.From, m2.To, m2.On⟩ : Mark))) (some l3)

set_option maxRecDepth 100000 in
theorem Lab_MarksNames_1_ok (fu : Nat) (i1 : Nat) (m2 : Mark) (l3 : (List Mark)) (c4 : Bs) (c5 : Bs) (h_m2 : l3[i1]? = some m2) : ∀ r, Lab_MarksNames_1_m fu i1 m2 l3 c4 c5 = some r → FC Try.prog 48 [.ela 900000 13 i1 0, .loc 900001 0, .loc 900002 0] [(900000, .arr 55 13 (l3.map cMark)), (900001, .box [.v (.string ⟨⟨c4⟩⟩)]), (900002, .box [.v (.string ⟨⟨c5⟩⟩)])] [900000, 900001, 900002] fun p S' => p = .tup [] ∧ S' = [(900000, .arr 55 13 (r.map cMark)), (900001, .box [.v (.string ⟨⟨c4⟩⟩)]), (900002, .box [.v (.string ⟨⟨c5⟩⟩)])] := by
  intro r hr
  refine fc_intro (args := [.ela 900000 13 i1 0, .loc 900001 0, .loc 900002 0]) (S := [(900000, .arr 55 13 (l3.map cMark)), (900001, .box [.v (.string ⟨⟨c4⟩⟩)]), (900002, .box [.v (.string ⟨⟨c5⟩⟩)])]) (N0 := [900000, 900001, 900002]) (post := fun r p S => p = .tup [] ∧ S = [(900000, .arr 55 13 (r.map cMark)), (900001, .box [.v (.string ⟨⟨c4⟩⟩)]), (900002, .box [.v (.string ⟨⟨c5⟩⟩)])]) Try.func48 rfl rfl hr fun w0 X X0 σ0 => ?_
  refine pw_seq ?_
  refine pw_region ?_
  refine po_evs (T := tab) 3 rfl rfl ?_
  refine po_load_ela (T := tab) cMark l3 m2 h_m2 rfl rfl rfl rfl rfl rfl rfl rfl ?_
  refine po_evs (T := tab) 1 rfl rfl ?_
  refine po_nil ?_
  refine pn_seq ?_
  refine pw_cnd rfl ?_ ?_
  · refine pw_sub' (E' := [(0, .ela 900000 13 i1 0), (1, .loc 900001 0), (2, .loc 900002 0)]) (S' := [(900000, .arr 55 13 (l3.map cMark)), (900001, .box [.v (.string ⟨⟨c4⟩⟩)]), (900002, .box [.v (.string ⟨⟨c5⟩⟩)])]) ?_ ⟨rfl, rfl, rfl, trivial⟩ ⟨rfl, rfl, rfl, trivial⟩ rfl
    refine pw_drawV [0, 0, 2, 6, 14, 0, 0, 126, 255, 511, 1023] mixed (by kernel_rfl) (by kernel_rfl) rfl rfl ?_
    refine pdv_step0 [0] [18] [] [900000] [] [(9, .ela 900000 13 i1 0)] [] rfl rfl rfl rfl (by kernel_rfl) (by kernel_rfl) (by kernel_rfl) trivial (fun w0 X X0 σ0 => by refine po_evs (T := tab) 1 rfl rfl ?_; refine po_nil ?_; exact pn_end0 ⟨rfl, trivial⟩ trivial rfl) ?_
    refine pdv_step0 [0] [20] [] [900000] [] [(10, .ela 900000 13 i1 0)] [] rfl rfl rfl rfl (by kernel_rfl) (by kernel_rfl) (by kernel_rfl) trivial (fun w0 X X0 σ0 => by refine po_evs (T := tab) 1 rfl rfl ?_; refine po_nil ?_; exact pn_end0 ⟨rfl, trivial⟩ trivial rfl) ?_
    refine pdv_step0 [20] [22] [] [900000] [] [(11, .ela 900000 13 i1 0)] [] rfl rfl rfl rfl (by kernel_rfl) (by kernel_rfl) (by kernel_rfl) trivial (fun w0 X X0 σ0 => by refine po_evs (T := tab) 1 rfl rfl ?_; refine po_nil ?_; exact pn_end0 ⟨rfl, trivial⟩ trivial rfl) ?_
    refine pdv_step0 [22] [24] [] [900000] [] [(12, .ela 900000 13 i1 5)] [] rfl rfl rfl rfl (by kernel_rfl) (by kernel_rfl) (by kernel_rfl) trivial (fun w0 X X0 σ0 => by refine po_evs (T := tab) 1 rfl rfl ?_; refine po_nil ?_; exact pn_end0 ⟨rfl, trivial⟩ trivial rfl) ?_
    refine pdv_step0 [24, 1800001] [26] [] [900000] [900000] [(13, .v (.string ⟨⟨m2.Name⟩⟩))] [(900000, .arr 55 13 (l3.map cMark))] rfl rfl rfl rfl (by kernel_rfl) (by kernel_rfl) (by kernel_rfl) ⟨rfl, trivial⟩ (fun w0 X X0 σ0 => by refine po_load_ela (T := tab) cMark l3 m2 h_m2 rfl rfl rfl rfl rfl rfl rfl rfl ?_; refine po_nil ?_; exact pn_end0 ⟨rfl, trivial⟩ ⟨rfl, trivial⟩ rfl) ?_
    refine pdv_step0 [2, 1800003] [28] [] [900001] [900001] [(14, .v (.string ⟨⟨c4⟩⟩))] [(900001, .box [.v (.string ⟨⟨c4⟩⟩)])] rfl rfl rfl rfl (by kernel_rfl) (by kernel_rfl) (by kernel_rfl) ⟨rfl, trivial⟩ (fun w0 X X0 σ0 => by refine po_evs (T := tab) 1 rfl rfl ?_; refine po_nil ?_; exact pn_end0 ⟨rfl, trivial⟩ ⟨rfl, trivial⟩ rfl) ?_
    refine pdv_step0 [4, 1800005] [30] [] [900002] [900002] [(15, .v (.string ⟨⟨c5⟩⟩))] [(900002, .box [.v (.string ⟨⟨c5⟩⟩)])] rfl rfl rfl rfl (by kernel_rfl) (by kernel_rfl) (by kernel_rfl) ⟨rfl, trivial⟩ (fun w0 X X0 σ0 => by refine po_evs (T := tab) 1 rfl rfl ?_; refine po_nil ?_; exact pn_end0 ⟨rfl, trivial⟩ ⟨rfl, trivial⟩ rfl) ?_
    refine pdv_step (M := (Lab_other_string_m fu m2.Name c4 c5)) (ment := [(32, [])]) [26, 28, 30] [32] [] [] [] (fun r6 => [(16, .v (.string ⟨⟨r6⟩⟩))]) (fun r6 => []) rfl rfl (fun _ => rfl) (fun _ => rfl) (by kernel_rfl) (by kernel_rfl) (fun _ => by kernel_rfl) (fun _ => trivial) (fun w0 X X0 σ0 => by refine po_call (enc := fun (r6 : Bs) => .v (.string ⟨⟨r6⟩⟩)) (qs := [.v (.string ⟨⟨m2.Name⟩⟩), .v (.string ⟨⟨c4⟩⟩), .v (.string ⟨⟨c5⟩⟩)]) (Lab_other_string_ok fu m2.Name c4 c5) rfl rfl ⟨⟨_, rfl, .rfl⟩, ⟨_, rfl, .rfl⟩, ⟨_, rfl, .rfl⟩, trivial⟩ (fun _ => rfl) call45 rfl rfl fun r6 hr6 => ?_; refine po_nil ?_; exact pn_end ⟨rfl, trivial⟩ trivial rfl) fun r6 hr6 => ?_
    refine pdv_step0 [18] [34] [] [900000] [] [(17, .ela 900000 13 i1 0)] [] rfl rfl rfl rfl (by kernel_rfl) (by kernel_rfl) (by kernel_rfl) trivial (fun w0 X X0 σ0 => by refine po_evs (T := tab) 1 rfl rfl ?_; refine po_nil ?_; exact pn_end0 ⟨rfl, trivial⟩ trivial rfl) ?_
    refine pdv_step0 [34] [36] [] [900000] [] [(18, .ela 900000 13 i1 5)] [] rfl rfl rfl rfl (by kernel_rfl) (by kernel_rfl) (by kernel_rfl) trivial (fun w0 X X0 σ0 => by refine po_evs (T := tab) 1 rfl rfl ?_; refine po_nil ?_; exact pn_end0 ⟨rfl, trivial⟩ trivial rfl) ?_
    refine pdv_step0 [32, 36, 1800001] [1800001] [] [900000] [] [] [(900000, .arr 55 13 ((l3.set i1 (⟨m2.Kind, m2.Depth, m2.Node, m2.What, m2.Err, r6, m2.Had, m2.Has, m2.Old, m2.New, m2.From, m2.To, m2.On⟩ : Mark)).map cMark))] rfl rfl rfl rfl (by kernel_rfl) (by kernel_rfl) (by kernel_rfl) trivial (fun w0 X X0 σ0 => by refine po_store_ela (T := tab) cMark l3 m2 (⟨m2.Kind, m2.Depth, m2.Node, m2.What, m2.Err, r6, m2.Had, m2.Has, m2.Old, m2.New, m2.From, m2.To, m2.On⟩ : Mark) h_m2 rfl rfl rfl rfl rfl rfl rfl rfl rfl rfl rfl rfl rfl ?_; refine po_nil ?_; exact pn_end0 trivial ⟨rfl, trivial⟩ rfl) ?_
    refine pdv_nil rfl rfl ?_
    exact pn_retN (T := tab) rfl rfl rfl ⟨rfl, rfl⟩ ⟨rfl, rfl, rfl, trivial⟩ rfl
  · refine pw_skip ?_
    exact pn_retN (T := tab) rfl rfl rfl ⟨rfl, rfl⟩ ⟨rfl, rfl, rfl, trivial⟩ rfl

set_option maxHeartbeats 10000000 in
set_option maxRecDepth 100000 in
theorem Lab_marks_i2_ok (fu : Nat) (l1 : (List Mark)) (c2 : Bs) (c3 : Bs) : ∀ r, Lab_marks_m fu (fun (z1 : Nat) (z2 : Mark) (z3 : (List Mark)) => Lab_MarksNames_1_m fu z1 z2 z3 c2 c3) l1 = some r → FC Try.prog 40 [.sl 13 false (l1.map cMark), .fn (.func 48) [] [.loc 900000 0, .loc 900001 0]] [(900000, .box [.v (.string ⟨⟨c2⟩⟩)]), (900001, .box [.v (.string ⟨⟨c3⟩⟩)])] [900000, 900001] fun p S' => p = .sl 13 false (r.map cMark) ∧ S' = [(900000, .box [.v (.string ⟨⟨c2⟩⟩)]), (900001, .box [.v (.string ⟨⟨c3⟩⟩)])] := by
  intro r hr
  refine fc_intro (args := [.sl 13 false (l1.map cMark), .fn (.func 48) [] [.loc 900000 0, .loc 900001 0]]) (S := [(900000, .box [.v (.string ⟨⟨c2⟩⟩)]), (900001, .box [.v (.string ⟨⟨c3⟩⟩)])]) (N0 := [900000, 900001]) (post := fun r p S => p = .sl 13 false (r.map cMark) ∧ S = [(900000, .box [.v (.string ⟨⟨c2⟩⟩)]), (900001, .box [.v (.string ⟨⟨c3⟩⟩)])]) Try.func40 rfl rfl hr fun w0 X X0 σ0 => ?_
  refine pw_seq ?_
  refine pw_region ?_
  refine po_evs (T := tab) 1 rfl rfl ?_
  refine po_nil ?_
  refine pn_seq ?_
  refine pw_seq ?_
  refine pw_region ?_
  refine po_evs (T := tab) 1 rfl rfl ?_
  refine po_turn [2080] (enc := fun (r4 : (List Mark)) => .own 2080) (Sr := fun (r4 : (List Mark)) => [(2080, .arr 55 13 (r4.map cMark))]) (first := []) (cap := []) (qs := [.sl 13 false (l1.map cMark)]) (Sc := []) (N0 := []) (NR := [2080]) (fun r4 hr4 => fc_ren [(5, 2080)] [5] (Slices_Clone_apiMark_ok fu l1 _ hr4) rfl rfl rfl rfl rfl rfl) trivial (fun _ => rfl) rfl rfl rfl rfl rfl rfl rfl (fun _ => rfl) (fun _ => rfl) rfl rfl rfl ⟨⟨_, rfl, .rfl⟩, trivial⟩ call63 rfl rfl fun r4 hr4 => ?_
  refine po_evs (T := tab) 1 rfl rfl ?_
  refine po_nil ?_
  refine pn_seq ?_
  refine pw_seq ?_
  refine pw_seq ?_
  refine pw_region ?_
  refine po_evs (T := tab) 1 rfl rfl ?_
  refine po_len_own (T := tab) cMark r4 rfl rfl rfl rfl rfl rfl rfl rfl rfl ?_
  refine po_evs (T := tab) 1 rfl rfl ?_
  refine po_nil ?_
  refine pn_seq ?_
  refine pw_block ?_
  refine pw_loop' (Lab_marks_l1 (fun (z1 : Nat) (z2 : Mark) (z3 : (List Mark)) => Lab_MarksNames_1_m fu z1 z2 z3 c2 c3) r4) (fun ((t5, l6) : Int × (List Mark)) => [(1, .fn (.func 48) [] [.loc 900000 0, .loc 900001 0]), (5, .own 2080), (10, .v (.int .i64 ((r4.length : Nat) : Int))), (11, .v (.int .i64 t5))]) (fun ((t5, l6) : Int × (List Mark)) => [(2080, .arr 55 13 (l6.map cMark)), (900000, .box [.v (.string ⟨⟨c2⟩⟩)]), (900001, .box [.v (.string ⟨⟨c3⟩⟩)])]) fu (0, r4) (fun _ => rfl) ⟨rfl, rfl, rfl, rfl, trivial⟩ ⟨rfl, rfl, rfl, trivial⟩ rfl ?_
  rintro k1 ⟨t5, l6⟩
  refine pw_seq ?_
  refine pw_region ?_
  refine po_evs (T := tab) 1 rfl rfl ?_
  refine po_nil ?_
  refine pn_seq ?_
  refine pw_seq ?_
  refine pw_cnd rfl ?_ ?_
  · refine pw_skip ?_
    refine pn_seq ?_
    refine pw_seq ?_
    refine pw_block ?_
    refine pw_seq ?_
    refine pw_region ?_
    refine po_evs (T := tab) 2 rfl rfl ?_
    refine po_nil ?_
    refine pn_seq ?_
    refine pw_region ?_
    refine po_evs (T := tab) 3 rfl rfl ?_
    refine po_idx_own (T := tab) cMark l6 rfl rfl rfl rfl rfl rfl rfl rfl fun y7 hy7 => ?_
    refine po_turn [] (enc := fun (r8 : (List Mark)) => .tup []) (Sr := fun (r8 : (List Mark)) => [(2080, .arr 55 13 (r8.map cMark)), (900000, .box [.v (.string ⟨⟨c2⟩⟩)]), (900001, .box [.v (.string ⟨⟨c3⟩⟩)])]) (first := []) (cap := [.loc 900000 0, .loc 900001 0]) (qs := [.ela 2080 13 (t5).toNat 0]) (Sc := [(2080, .arr 55 13 (l6.map cMark)), (900000, .box [.v (.string ⟨⟨c2⟩⟩)]), (900001, .box [.v (.string ⟨⟨c3⟩⟩)])]) (N0 := [2080, 900000, 900001]) (NR := [2080, 900000, 900001]) (fun r8 hr8 => fc_ren [(900000, 2080), (900001, 900000), (900002, 900001)] [900000, 900001, 900002] (Lab_MarksNames_1_ok fu (t5).toNat y7 l6 c2 c3 (idx_at hy7) _ hr8) rfl rfl rfl rfl rfl rfl) ⟨rfl, rfl, rfl, trivial⟩ (fun _ => rfl) rfl rfl rfl rfl rfl rfl rfl (fun _ => rfl) (fun _ => rfl) rfl rfl rfl ⟨⟨_, rfl, .rfl⟩, trivial⟩ call48 rfl rfl fun r8 hr8 => ?_
    refine po_nil ?_
    refine pn_block ?_
    refine pn_seq ?_
    refine pw_region ?_
    refine po_arith' (T := tab) rfl rfl rfl rfl fun i9 hi9 => ?_
    refine po_evs (T := tab) 1 rfl rfl ?_
    refine po_nil ?_
    exact pn_iter' (i9, r8) ⟨rfl, rfl, rfl, rfl, trivial⟩ ⟨rfl, rfl, rfl, trivial⟩ rfl
  · refine pw_exit rfl ?_
    refine pn_seq ?_
    refine pw_seq ?_
    refine pw_region ?_
    refine po_evs (T := tab) 2 rfl rfl ?_
    refine po_nil ?_
    refine pn_seq ?_
    refine pw_freeze 2080 rfl rfl rfl ?_
    exact pw_retN (T := tab) rfl rfl rfl ⟨rfl, rfl⟩ ⟨rfl, rfl, trivial⟩ rfl

def Lab_MarksNames_m (fu : Nat) (l1 : (List Mark)) (x2 : Bs) (y3 : Bs) : Option (List Mark) := bnd (Lab_named_m fu x2 y3) fun r4 => cnd (!r4) (some l1) (bnd (Lab_marks_m fu (fun (z1 : Nat) (z2 : Mark) (z3 : (List Mark)) => Lab_MarksNames_1_m fu z1 z2 z3 x2 y3) l1) fun r5 => some r5)

set_option maxRecDepth 100000 in
theorem Lab_MarksNames_ok (fu : Nat) (l1 : (List Mark)) (x2 : Bs) (y3 : Bs) : ∀ r, Lab_MarksNames_m fu l1 x2 y3 = some r → DC Try.prog 19 [.sl 13 false (l1.map cMark), .v (.string ⟨⟨x2⟩⟩), .v (.string ⟨⟨y3⟩⟩)] (.sl 13 false (r.map cMark)) := by
  intro r hr
  refine fc_intro (args := [.sl 13 false (l1.map cMark), .v (.string ⟨⟨x2⟩⟩), .v (.string ⟨⟨y3⟩⟩)]) (S := []) (N0 := []) (post := fun r p S => p = .sl 13 false (r.map cMark) ∧ S = []) Try.func19 rfl rfl hr fun w0 X X0 σ0 => ?_
  refine pw_seq ?_
  refine pw_region ?_
  refine po_box  4 rfl rfl rfl rfl rfl rfl rfl rfl rfl rfl ?_
  refine po_box  5 rfl rfl rfl rfl rfl rfl rfl rfl rfl rfl ?_
  refine po_evs (T := tab) 1 rfl rfl ?_
  refine po_nil ?_
  refine pn_seq ?_
  refine pw_seq ?_
  refine pw_seq ?_
  refine pw_region ?_
  refine po_evs (T := tab) 2 rfl rfl ?_
  refine po_call (enc := fun (r4 : Bool) => .v (.bool r4)) (qs := [.v (.string ⟨⟨x2⟩⟩), .v (.string ⟨⟨y3⟩⟩)]) (Lab_named_ok fu x2 y3) rfl rfl ⟨⟨_, rfl, .rfl⟩, ⟨_, rfl, .rfl⟩, trivial⟩ (fun _ => rfl) call42 rfl rfl fun r4 hr4 => ?_
  refine po_evs (T := tab) 1 rfl rfl ?_
  refine po_nil ?_
  refine pn_seq ?_
  refine pw_cnd rfl ?_ ?_
  · refine pw_seq ?_
    refine pw_region ?_
    refine po_evs (T := tab) 2 rfl rfl ?_
    refine po_nil ?_
    refine pn_seq ?_
    exact pw_retN (T := tab) rfl rfl rfl ⟨rfl, rfl⟩ trivial rfl
  · refine pw_skip ?_
    refine pn_seq ?_
    refine pw_seq ?_
    refine pw_region ?_
    refine po_evs (T := tab) 2 rfl rfl ?_
    refine po_callv (enc := fun (r5 : (List Mark)) => .sl 13 false (r5.map cMark)) (first := []) (cap := []) (qs := [.sl 13 false (l1.map cMark), .fn (.func 48) [] [.loc 4 0, .loc 5 0]]) (Sc := [(4, .box [.v (.string ⟨⟨x2⟩⟩)]), (5, .box [.v (.string ⟨⟨y3⟩⟩)])]) (fun r5 hr5 => fc_ren [(900000, 4), (900001, 5)] [900000, 900001] (Lab_marks_i2_ok fu l1 x2 y3 _ hr5) rfl rfl rfl rfl rfl rfl) (subS_of ⟨rfl, rfl, trivial⟩ rfl) rfl rfl rfl rfl ⟨⟨_, rfl, .rfl⟩, ⟨_, rfl, .rfl⟩, trivial⟩ (fun _ => rfl) call40 rfl rfl fun r5 hr5 => ?_
    refine po_evs (T := tab) 1 rfl rfl ?_
    refine po_nil ?_
    refine pn_seq ?_
    exact pw_retN (T := tab) rfl rfl rfl ⟨rfl, rfl⟩ trivial rfl

def Lab_loud_1_j1 (t2 : Bool) : Option Bool := cnd t2 (some false) (some true)

def Lab_loud_1_m (_fu : Nat) (o1 : Op) : Option Bool := cnd (o1.Kind == 3) ((Lab_loud_1_j1) (o1.Kind == 3)) (cnd (o1.Kind == 4) ((Lab_loud_1_j1) (o1.Kind == 4)) (cnd (o1.Kind == 17) ((Lab_loud_1_j1) (o1.Kind == 17)) (cnd (o1.Kind == 20) ((Lab_loud_1_j1) (o1.Kind == 20)) (cnd (o1.Kind == 21) ((Lab_loud_1_j1) (o1.Kind == 21)) ((Lab_loud_1_j1) (o1.Kind == 22))))))

set_option maxHeartbeats 10000000 in
set_option maxRecDepth 100000 in
theorem Lab_loud_1_ok (fu : Nat) (o1 : Op) : ∀ r, Lab_loud_1_m fu o1 = some r → DC Try.prog 57 [.agg (cOp o1)] (.v (.bool r)) := by
  intro r hr
  refine fc_intro (args := [.agg (cOp o1)]) (S := []) (N0 := []) (post := fun r p S => p = .v (.bool r) ∧ S = []) Try.func57 rfl rfl hr fun w0 X X0 σ0 => ?_
  refine pw_seq ?_
  refine pw_region ?_
  refine po_box  1 rfl rfl rfl rfl rfl rfl rfl rfl rfl rfl ?_
  refine po_evs (T := tab) 1 rfl rfl ?_
  refine po_nil ?_
  refine pn_seq ?_
  refine pw_seq ?_
  refine pw_seq ?_
  refine pw_region ?_
  refine po_evs (T := tab) 2 rfl rfl ?_
  refine po_nil ?_
  refine pn_seq ?_
  refine pw_block ?_
  refine pw_seq ?_
  refine pw_seq ?_
  refine pw_region ?_
  refine po_evs (T := tab) 2 rfl rfl ?_
  refine po_nil ?_
  refine pn_seq ?_
  refine pw_joinK (Lab_loud_1_j1) (fun (t2 : Bool) => [(5, .v (.bool t2))]) (fun (t2 : Bool) => []) ?_ fun hj1 => ?_
  · rintro t2
    refine pn_seq ?_
    refine pw_cnd rfl ?_ ?_
    · refine pw_seq ?_
      refine pw_region ?_
      refine po_evs (T := tab) 1 rfl rfl ?_
      refine po_nil ?_
      refine pn_seq ?_
      exact pw_retN (T := tab) rfl rfl rfl ⟨rfl, rfl⟩ trivial rfl
    · refine pw_skip ?_
      refine pn_block ?_
      refine pn_seq ?_
      refine pw_seq ?_
      refine pw_region ?_
      refine po_evs (T := tab) 1 rfl rfl ?_
      refine po_nil ?_
      refine pn_seq ?_
      exact pw_retN (T := tab) rfl rfl rfl ⟨rfl, rfl⟩ trivial rfl
  · refine pw_cnd rfl ?_ ?_
    · refine pw_skip ?_
      exact pn_sub' (hj1 (o1.Kind == 3)) ⟨rfl, trivial⟩ trivial rfl
    · refine pw_seq ?_
      refine pw_region ?_
      refine po_evs (T := tab) 2 rfl rfl ?_
      refine po_nil ?_
      refine pn_seq ?_
      refine pw_cnd rfl ?_ ?_
      · refine pw_skip ?_
        exact pn_sub' (hj1 (o1.Kind == 4)) ⟨rfl, trivial⟩ trivial rfl
      · refine pw_seq ?_
        refine pw_region ?_
        refine po_evs (T := tab) 2 rfl rfl ?_
        refine po_nil ?_
        refine pn_seq ?_
        refine pw_cnd rfl ?_ ?_
        · refine pw_skip ?_
          exact pn_sub' (hj1 (o1.Kind == 17)) ⟨rfl, trivial⟩ trivial rfl
        · refine pw_seq ?_
          refine pw_region ?_
          refine po_evs (T := tab) 2 rfl rfl ?_
          refine po_nil ?_
          refine pn_seq ?_
          refine pw_cnd rfl ?_ ?_
          · refine pw_skip ?_
            exact pn_sub' (hj1 (o1.Kind == 20)) ⟨rfl, trivial⟩ trivial rfl
          · refine pw_seq ?_
            refine pw_region ?_
            refine po_evs (T := tab) 2 rfl rfl ?_
            refine po_nil ?_
            refine pn_seq ?_
            refine pw_cnd rfl ?_ ?_
            · refine pw_skip ?_
              exact pn_sub' (hj1 (o1.Kind == 21)) ⟨rfl, trivial⟩ trivial rfl
            · refine pw_region ?_
              refine po_evs (T := tab) 2 rfl rfl ?_
              refine po_nil ?_
              exact pn_sub' (hj1 (o1.Kind == 22)) ⟨rfl, trivial⟩ trivial rfl

def Slices_IndexFunc_apiOp_l1 (t1 : Op → Option Bool) (s1 : (List Op)) : Nat → Int → Option Int
  | 0, _ => none
  | k1 + 1, t2 => cnd (decide (t2 < ((s1.length : Nat) : Int))) (bnd (idx s1 t2) fun y3 => bnd (t1 y3) fun r4 => cnd r4 (some t2) (bnd (rng .i64 (t2 + 1)) fun i5 => (Slices_IndexFunc_apiOp_l1 t1 s1 k1) i5)) (some (-1))

def Slices_IndexFunc_apiOp_m (fu : Nat) (t1 : Op → Option Bool) (s1 : (List Op)) : Option Int := (Slices_IndexFunc_apiOp_l1 t1 s1) fu 0

set_option maxHeartbeats 10000000 in
set_option maxRecDepth 100000 in
theorem Slices_IndexFunc_apiOp_ok (fu : Nat) (s1 : (List Op)) : ∀ r, Slices_IndexFunc_apiOp_m fu (fun (z1 : Op) => Lab_loud_1_m fu z1) s1 = some r → DC Try.prog 82 [.sl 7 false (s1.map cOp), .fn (.func 57) [] []] (.v (.int .i64 r)) := by
  intro r hr
  refine fc_intro (args := [.sl 7 false (s1.map cOp), .fn (.func 57) [] []]) (S := []) (N0 := []) (post := fun r p S => p = .v (.int .i64 r) ∧ S = []) Try.func82 rfl rfl hr fun w0 X X0 σ0 => ?_
  refine pw_seq ?_
  refine pw_region ?_
  refine po_evs (T := tab) 1 rfl rfl ?_
  refine po_nil ?_
  refine pn_seq ?_
  refine pw_seq ?_
  refine pw_seq ?_
  refine pw_region ?_
  refine po_evs (T := tab) 1 rfl rfl ?_
  refine po_len (T := tab) cOp s1 rfl rfl rfl rfl rfl rfl rfl rfl ?_
  refine po_evs (T := tab) 1 rfl rfl ?_
  refine po_nil ?_
  refine pn_seq ?_
  refine pw_block ?_
  refine pw_loop' (Slices_IndexFunc_apiOp_l1 (fun (z1 : Op) => Lab_loud_1_m fu z1) s1) (fun (t2 : Int) => [(0, .sl 7 false (s1.map cOp)), (1, .fn (.func 57) [] []), (7, .v (.int .i64 ((s1.length : Nat) : Int))), (8, .v (.int .i64 t2))]) (fun (t2 : Int) => []) fu 0 (fun _ => rfl) ⟨rfl, rfl, rfl, rfl, trivial⟩ trivial rfl ?_
  rintro k1 t2
  refine pw_seq ?_
  refine pw_region ?_
  refine po_evs (T := tab) 1 rfl rfl ?_
  refine po_nil ?_
  refine pn_seq ?_
  refine pw_seq ?_
  refine pw_cnd rfl ?_ ?_
  · refine pw_skip ?_
    refine pn_seq ?_
    refine pw_seq ?_
    refine pw_block ?_
    refine pw_seq ?_
    refine pw_region ?_
    refine po_evs (T := tab) 2 rfl rfl ?_
    refine po_nil ?_
    refine pn_seq ?_
    refine pw_seq ?_
    refine pw_region ?_
    refine po_evs (T := tab) 3 rfl rfl ?_
    refine po_idx (T := tab) cOp s1 rfl rfl rfl rfl rfl rfl rfl fun y3 hy3 => ?_
    refine po_evs (T := tab) 1 rfl rfl ?_
    refine po_callv (enc := fun (r4 : Bool) => .v (.bool r4)) (first := []) (cap := []) (qs := [.agg (cOp y3)]) (Sc := []) (Lab_loud_1_ok fu y3) (subS_of trivial rfl) rfl rfl rfl rfl ⟨⟨_, rfl, .rfl⟩, trivial⟩ (fun _ => rfl) call57 rfl rfl fun r4 hr4 => ?_
    refine po_nil ?_
    refine pn_seq ?_
    refine pw_cnd rfl ?_ ?_
    · refine pw_seq ?_
      refine pw_region ?_
      refine po_evs (T := tab) 2 rfl rfl ?_
      refine po_nil ?_
      refine pn_seq ?_
      exact pw_retN (T := tab) rfl rfl rfl ⟨rfl, rfl⟩ trivial rfl
    · refine pw_skip ?_
      refine pn_block ?_
      refine pn_seq ?_
      refine pw_region ?_
      refine po_arith' (T := tab) rfl rfl rfl rfl fun i5 hi5 => ?_
      refine po_evs (T := tab) 1 rfl rfl ?_
      refine po_nil ?_
      exact pn_iter' i5 ⟨rfl, rfl, rfl, rfl, trivial⟩ trivial rfl
  · refine pw_exit rfl ?_
    refine pn_seq ?_
    refine pw_seq ?_
    refine pw_region ?_
    refine po_evs (T := tab) 1 rfl rfl ?_
    refine po_nil ?_
    refine pn_seq ?_
    exact pw_retN (T := tab) rfl rfl rfl ⟨rfl, rfl⟩ trivial rfl

def Slices_ContainsFunc_apiOp_m (fu : Nat) (t1 : Op → Option Bool) (s1 : (List Op)) : Option Bool := bnd (Slices_IndexFunc_apiOp_m fu t1 s1) fun r2 => some (decide (r2 ≥ 0))

set_option maxRecDepth 100000 in
theorem Slices_ContainsFunc_apiOp_ok (fu : Nat) (s1 : (List Op)) : ∀ r, Slices_ContainsFunc_apiOp_m fu (fun (z1 : Op) => Lab_loud_1_m fu z1) s1 = some r → DC Try.prog 56 [.sl 7 false (s1.map cOp), .fn (.func 57) [] []] (.v (.bool r)) := by
  intro r hr
  refine fc_intro (args := [.sl 7 false (s1.map cOp), .fn (.func 57) [] []]) (S := []) (N0 := []) (post := fun r p S => p = .v (.bool r) ∧ S = []) Try.func56 rfl rfl hr fun w0 X X0 σ0 => ?_
  refine pw_seq ?_
  refine pw_region ?_
  refine po_evs (T := tab) 1 rfl rfl ?_
  refine po_nil ?_
  refine pn_seq ?_
  refine pw_seq ?_
  refine pw_region ?_
  refine po_evs (T := tab) 2 rfl rfl ?_
  refine po_call (enc := fun (r2 : Int) => .v (.int .i64 r2)) (qs := [.sl 7 false (s1.map cOp), .fn (.func 57) [] []]) (Slices_IndexFunc_apiOp_ok fu s1) rfl rfl ⟨⟨_, rfl, .rfl⟩, ⟨_, rfl, .rfl⟩, trivial⟩ (fun _ => rfl) call82 rfl rfl fun r2 hr2 => ?_
  refine po_evs (T := tab) 2 rfl rfl ?_
  refine po_nil ?_
  refine pn_seq ?_
  exact pw_retN (T := tab) rfl rfl rfl ⟨rfl, rfl⟩ trivial rfl

def Lab_loud_m (fu : Nat) (l1 : (List Op)) : Option Bool := bnd (Slices_ContainsFunc_apiOp_m fu (fun (z1 : Op) => Lab_loud_1_m fu z1) l1) fun r2 => some r2

set_option maxRecDepth 100000 in
theorem Lab_loud_ok (fu : Nat) (l1 : (List Op)) : ∀ r, Lab_loud_m fu l1 = some r → DC Try.prog 29 [.sl 7 false (l1.map cOp)] (.v (.bool r)) := by
  intro r hr
  refine fc_intro (args := [.sl 7 false (l1.map cOp)]) (S := []) (N0 := []) (post := fun r p S => p = .v (.bool r) ∧ S = []) Try.func29 rfl rfl hr fun w0 X X0 σ0 => ?_
  refine pw_seq ?_
  refine pw_region ?_
  refine po_evs (T := tab) 1 rfl rfl ?_
  refine po_nil ?_
  refine pn_seq ?_
  refine pw_seq ?_
  refine pw_region ?_
  refine po_evs (T := tab) 1 rfl rfl ?_
  refine po_call (enc := fun (r2 : Bool) => .v (.bool r2)) (qs := [.sl 7 false (l1.map cOp), .fn (.func 57) [] []]) (Slices_ContainsFunc_apiOp_ok fu l1) rfl rfl ⟨⟨_, rfl, .rfl⟩, ⟨_, rfl, .rfl⟩, trivial⟩ (fun _ => rfl) call56 rfl rfl fun r2 hr2 => ?_
  refine po_evs (T := tab) 1 rfl rfl ?_
  refine po_nil ?_
  refine pn_seq ?_
  exact pw_retN (T := tab) rfl rfl rfl ⟨rfl, rfl⟩ trivial rfl

def Lab_Calm_1_m (fu : Nat) (h1 : Hook) : Option Bool := bnd (Lab_loud_m fu h1.Do) fun r2 => some r2

set_option maxRecDepth 100000 in
theorem Lab_Calm_1_ok (fu : Nat) (h1 : Hook) : ∀ r, Lab_Calm_1_m fu h1 = some r → DC Try.prog 31 [.agg (cHook h1)] (.v (.bool r)) := by
  intro r hr
  refine fc_intro (args := [.agg (cHook h1)]) (S := []) (N0 := []) (post := fun r p S => p = .v (.bool r) ∧ S = []) Try.func31 rfl rfl hr fun w0 X X0 σ0 => ?_
  refine pw_seq ?_
  refine pw_region ?_
  refine po_box  1 rfl rfl rfl rfl rfl rfl rfl rfl rfl rfl ?_
  refine po_evs (T := tab) 1 rfl rfl ?_
  refine po_nil ?_
  refine pn_seq ?_
  refine pw_seq ?_
  refine pw_region ?_
  refine po_evs (T := tab) 2 rfl rfl ?_
  refine po_call (enc := fun (r2 : Bool) => .v (.bool r2)) (qs := [.sl 7 false (h1.Do.map cOp)]) (Lab_loud_ok fu h1.Do) rfl rfl ⟨⟨_, rfl, .rfl⟩, trivial⟩ (fun _ => rfl) call29 rfl rfl fun r2 hr2 => ?_
  refine po_evs (T := tab) 1 rfl rfl ?_
  refine po_nil ?_
  refine pn_seq ?_
  exact pw_retN (T := tab) rfl rfl rfl ⟨rfl, rfl⟩ trivial rfl

def Slices_IndexFunc_apiHook_l1 (t1 : Hook → Option Bool) (s1 : (List Hook)) : Nat → Int → Option Int
  | 0, _ => none
  | k1 + 1, t2 => cnd (decide (t2 < ((s1.length : Nat) : Int))) (bnd (idx s1 t2) fun y3 => bnd (t1 y3) fun r4 => cnd r4 (some t2) (bnd (rng .i64 (t2 + 1)) fun i5 => (Slices_IndexFunc_apiHook_l1 t1 s1 k1) i5)) (some (-1))

def Slices_IndexFunc_apiHook_m (fu : Nat) (t1 : Hook → Option Bool) (s1 : (List Hook)) : Option Int := (Slices_IndexFunc_apiHook_l1 t1 s1) fu 0

set_option maxHeartbeats 10000000 in
set_option maxRecDepth 100000 in
theorem Slices_IndexFunc_apiHook_ok (fu : Nat) (s1 : (List Hook)) : ∀ r, Slices_IndexFunc_apiHook_m fu (fun (z1 : Hook) => Lab_Calm_1_m fu z1) s1 = some r → DC Try.prog 58 [.sl 2 false (s1.map cHook), .fn (.func 31) [] []] (.v (.int .i64 r)) := by
  intro r hr
  refine fc_intro (args := [.sl 2 false (s1.map cHook), .fn (.func 31) [] []]) (S := []) (N0 := []) (post := fun r p S => p = .v (.int .i64 r) ∧ S = []) Try.func58 rfl rfl hr fun w0 X X0 σ0 => ?_
  refine pw_seq ?_
  refine pw_region ?_
  refine po_evs (T := tab) 1 rfl rfl ?_
  refine po_nil ?_
  refine pn_seq ?_
  refine pw_seq ?_
  refine pw_seq ?_
  refine pw_region ?_
  refine po_evs (T := tab) 1 rfl rfl ?_
  refine po_len (T := tab) cHook s1 rfl rfl rfl rfl rfl rfl rfl rfl ?_
  refine po_evs (T := tab) 1 rfl rfl ?_
  refine po_nil ?_
  refine pn_seq ?_
  refine pw_block ?_
  refine pw_loop' (Slices_IndexFunc_apiHook_l1 (fun (z1 : Hook) => Lab_Calm_1_m fu z1) s1) (fun (t2 : Int) => [(0, .sl 2 false (s1.map cHook)), (1, .fn (.func 31) [] []), (7, .v (.int .i64 ((s1.length : Nat) : Int))), (8, .v (.int .i64 t2))]) (fun (t2 : Int) => []) fu 0 (fun _ => rfl) ⟨rfl, rfl, rfl, rfl, trivial⟩ trivial rfl ?_
  rintro k1 t2
  refine pw_seq ?_
  refine pw_region ?_
  refine po_evs (T := tab) 1 rfl rfl ?_
  refine po_nil ?_
  refine pn_seq ?_
  refine pw_seq ?_
  refine pw_cnd rfl ?_ ?_
  · refine pw_skip ?_
    refine pn_seq ?_
    refine pw_seq ?_
    refine pw_block ?_
    refine pw_seq ?_
    refine pw_region ?_
    refine po_evs (T := tab) 2 rfl rfl ?_
    refine po_nil ?_
    refine pn_seq ?_
    refine pw_seq ?_
    refine pw_region ?_
    refine po_evs (T := tab) 3 rfl rfl ?_
    refine po_idx (T := tab) cHook s1 rfl rfl rfl rfl rfl rfl rfl fun y3 hy3 => ?_
    refine po_evs (T := tab) 1 rfl rfl ?_
    refine po_callv (enc := fun (r4 : Bool) => .v (.bool r4)) (first := []) (cap := []) (qs := [.agg (cHook y3)]) (Sc := []) (Lab_Calm_1_ok fu y3) (subS_of trivial rfl) rfl rfl rfl rfl ⟨⟨_, rfl, .rfl⟩, trivial⟩ (fun _ => rfl) call31 rfl rfl fun r4 hr4 => ?_
    refine po_nil ?_
    refine pn_seq ?_
    refine pw_cnd rfl ?_ ?_
    · refine pw_seq ?_
      refine pw_region ?_
      refine po_evs (T := tab) 2 rfl rfl ?_
      refine po_nil ?_
      refine pn_seq ?_
      exact pw_retN (T := tab) rfl rfl rfl ⟨rfl, rfl⟩ trivial rfl
    · refine pw_skip ?_
      refine pn_block ?_
      refine pn_seq ?_
      refine pw_region ?_
      refine po_arith' (T := tab) rfl rfl rfl rfl fun i5 hi5 => ?_
      refine po_evs (T := tab) 1 rfl rfl ?_
      refine po_nil ?_
      exact pn_iter' i5 ⟨rfl, rfl, rfl, rfl, trivial⟩ trivial rfl
  · refine pw_exit rfl ?_
    refine pn_seq ?_
    refine pw_seq ?_
    refine pw_region ?_
    refine po_evs (T := tab) 1 rfl rfl ?_
    refine po_nil ?_
    refine pn_seq ?_
    exact pw_retN (T := tab) rfl rfl rfl ⟨rfl, rfl⟩ trivial rfl

def Slices_ContainsFunc_apiHook_m (fu : Nat) (t1 : Hook → Option Bool) (s1 : (List Hook)) : Option Bool := bnd (Slices_IndexFunc_apiHook_m fu t1 s1) fun r2 => some (decide (r2 ≥ 0))

set_option maxRecDepth 100000 in
theorem Slices_ContainsFunc_apiHook_ok (fu : Nat) (s1 : (List Hook)) : ∀ r, Slices_ContainsFunc_apiHook_m fu (fun (z1 : Hook) => Lab_Calm_1_m fu z1) s1 = some r → DC Try.prog 30 [.sl 2 false (s1.map cHook), .fn (.func 31) [] []] (.v (.bool r)) := by
  intro r hr
  refine fc_intro (args := [.sl 2 false (s1.map cHook), .fn (.func 31) [] []]) (S := []) (N0 := []) (post := fun r p S => p = .v (.bool r) ∧ S = []) Try.func30 rfl rfl hr fun w0 X X0 σ0 => ?_
  refine pw_seq ?_
  refine pw_region ?_
  refine po_evs (T := tab) 1 rfl rfl ?_
  refine po_nil ?_
  refine pn_seq ?_
  refine pw_seq ?_
  refine pw_region ?_
  refine po_evs (T := tab) 2 rfl rfl ?_
  refine po_call (enc := fun (r2 : Int) => .v (.int .i64 r2)) (qs := [.sl 2 false (s1.map cHook), .fn (.func 31) [] []]) (Slices_IndexFunc_apiHook_ok fu s1) rfl rfl ⟨⟨_, rfl, .rfl⟩, ⟨_, rfl, .rfl⟩, trivial⟩ (fun _ => rfl) call58 rfl rfl fun r2 hr2 => ?_
  refine po_evs (T := tab) 2 rfl rfl ?_
  refine po_nil ?_
  refine pn_seq ?_
  exact pw_retN (T := tab) rfl rfl rfl ⟨rfl, rfl⟩ trivial rfl

def Lab_Calm_m (fu : Nat) (c1 : Class) : Option Bool := bnd (Lab_loud_m fu c1.Peek) fun r2 => cnd (!r2) (bnd (Lab_loud_m fu c1.Make) fun r3 => cnd (!r3) (bnd (Slices_ContainsFunc_apiHook_m fu (fun (z1 : Hook) => Lab_Calm_1_m fu z1) c1.Hooks) fun r4 => some (!r4)) (some false)) (some false)

set_option maxRecDepth 100000 in
theorem Lab_Calm_ok (fu : Nat) (c1 : Class) : ∀ r, Lab_Calm_m fu c1 = some r → DC Try.prog 9 [.agg (cClass c1)] (.v (.bool r)) := by
  intro r hr
  refine fc_intro (args := [.agg (cClass c1)]) (S := []) (N0 := []) (post := fun r p S => p = .v (.bool r) ∧ S = []) Try.func9 rfl rfl hr fun w0 X X0 σ0 => ?_
  refine pw_seq ?_
  refine pw_region ?_
  refine po_box  1 rfl rfl rfl rfl rfl rfl rfl rfl rfl rfl ?_
  refine po_evs (T := tab) 1 rfl rfl ?_
  refine po_nil ?_
  refine pn_seq ?_
  refine pw_seq ?_
  refine pw_region ?_
  refine po_evs (T := tab) 2 rfl rfl ?_
  refine po_call (enc := fun (r2 : Bool) => .v (.bool r2)) (qs := [.sl 7 false (c1.Peek.map cOp)]) (Lab_loud_ok fu c1.Peek) rfl rfl ⟨⟨_, rfl, .rfl⟩, trivial⟩ (fun _ => rfl) call29 rfl rfl fun r2 hr2 => ?_
  refine po_evs (T := tab) 2 rfl rfl ?_
  refine po_split (j := 7) rfl ?_ ?_
  · refine po_evs (T := tab) 2 rfl rfl ?_
    refine po_call (enc := fun (r3 : Bool) => .v (.bool r3)) (qs := [.sl 7 false (c1.Make.map cOp)]) (Lab_loud_ok fu c1.Make) rfl rfl ⟨⟨_, rfl, .rfl⟩, trivial⟩ (fun _ => rfl) call29 rfl rfl fun r3 hr3 => ?_
    refine po_evs (T := tab) 3 rfl rfl ?_
    refine po_split (j := 13) rfl ?_ ?_
    · refine po_evs (T := tab) 2 rfl rfl ?_
      refine po_call (enc := fun (r4 : Bool) => .v (.bool r4)) (qs := [.sl 2 false (c1.Hooks.map cHook), .fn (.func 31) [] []]) (Slices_ContainsFunc_apiHook_ok fu c1.Hooks) rfl rfl ⟨⟨_, rfl, .rfl⟩, ⟨_, rfl, .rfl⟩, trivial⟩ (fun _ => rfl) call30 rfl rfl fun r4 hr4 => ?_
      refine po_evs (T := tab) 3 rfl rfl ?_
      refine po_nil ?_
      refine pn_seq ?_
      exact pw_retN (T := tab) rfl rfl rfl ⟨rfl, rfl⟩ trivial rfl
    · refine po_evs (T := tab) 6 rfl rfl ?_
      refine po_nil ?_
      refine pn_seq ?_
      exact pw_retN (T := tab) rfl rfl rfl ⟨rfl, rfl⟩ trivial rfl
  · refine po_evs (T := tab) 12 rfl rfl ?_
    refine po_nil ?_
    refine pn_seq ?_
    exact pw_retN (T := tab) rfl rfl rfl ⟨rfl, rfl⟩ trivial rfl

def Instarlaw25_awake_m (fu : Nat) : Option Bool := bnd (Lab_Classes_m fu (⟨[(⟨true, [], [], [], []⟩ : Class), (⟨false, [], [], [(⟨20, 0, 0, 0, [], [], false⟩ : Op)], []⟩ : Class)], [(⟨16, 0, 0, 0, [120, 45, 97], [], false⟩ : Op), (⟨1, 0, 0, 0, [88, 45, 65], [], false⟩ : Op)]⟩ : Script) 0 1) fun r1 => bnd (Lab_Names_m fu (⟨[(⟨true, [], [], [], []⟩ : Class), (⟨false, [], [], [(⟨20, 0, 0, 0, [], [], false⟩ : Op)], []⟩ : Class)], [(⟨16, 0, 0, 0, [120, 45, 97], [], false⟩ : Op), (⟨1, 0, 0, 0, [88, 45, 65], [], false⟩ : Op)]⟩ : Script) [120, 45, 97] [120, 45, 98]) fun r2 => bnd (Lab_MarksClasses_m fu [(⟨3, 0, 0, 0, 0, [], false, false, [], [], 0, 0, false⟩ : Mark), (⟨1, 0, 0, 0, 0, [], false, false, [], [], 0, 0, false⟩ : Mark)] 0 1) fun r3 => bnd (Lab_MarksNames_m fu [(⟨8, 0, 0, 0, 0, [120, 45, 97], false, false, [], [], 0, 0, false⟩ : Mark)] [120, 45, 98] [120, 45, 97]) fun r4 => cnd (((r1.Main.length : Nat) : Int) != 2) (some false) (cnd (((r1.Classes.length : Nat) : Int) != 2) (some false) (cnd (((r2.Main.length : Nat) : Int) != 2) (some false) (cnd (((r3.length : Nat) : Int) != 2) (some false) (cnd (((r4.length : Nat) : Int) != 1) (some false) (bnd (idx r1.Main 0) fun y5 => cnd (y5.A == 1) (bnd (idx r1.Classes 0) fun y6 => cnd (((y6.Make.length : Nat) : Int) == 1) (bnd (idx r1.Classes 1) fun y7 => cnd y7.Form (bnd (idx r2.Main 0) fun y8 => cnd (y8.S == ([120, 45, 98] : Bs)) (bnd (idx r2.Main 1) fun y9 => cnd (y9.S == ([120, 45, 98] : Bs)) (bnd (idx r3 0) fun y10 => cnd (y10.What == 1) (bnd (idx r3 1) fun y11 => cnd (y11.What == 0) (bnd (idx r4 0) fun y12 => cnd (y12.Name == ([120, 45, 98] : Bs)) (bnd (idx [(⟨true, [], [], [], []⟩ : Class), (⟨false, [], [], [(⟨20, 0, 0, 0, [], [], false⟩ : Op)], []⟩ : Class)] 1) fun y13 => bnd (Lab_Calm_m fu y13) fun r14 => cnd r14 (bnd (Lab_Calm_m fu (⟨false, [], [(⟨0, 0, 0, 0, [], [], false⟩ : Op)], [], []⟩ : Class)) fun r15 => some (!r15)) (some false)) (some false)) (some false)) (some false)) (some false)) (some false)) (some false)) (some false)) (some false))))))

set_option maxHeartbeats 10000000 in
set_option maxRecDepth 100000 in
theorem Instarlaw25_awake_ok (fu : Nat) : ∀ r, Instarlaw25_awake_m fu = some r → DC Try.prog 6 [] (.v (.bool r)) := by
  intro r hr
  refine fc_intro (args := []) (S := []) (N0 := []) (post := fun r p S => p = .v (.bool r) ∧ S = []) Try.func6 rfl rfl hr fun w0 X X0 σ0 => ?_
  refine pw_seq ?_
  refine pw_region ?_
  refine po_evs (T := tab) 1 rfl rfl ?_
  refine po_nil ?_
  refine pn_seq ?_
  refine pw_seq ?_
  refine pw_region ?_
  refine po_build (T := tab) rfl rfl rfl rfl rfl rfl rfl ?_
  refine po_build (T := tab) rfl rfl rfl rfl rfl rfl rfl ?_
  refine po_lit (T := tab) (rows := [(⟨20, 0, 0, 0, [], [], false⟩ : Op)].map cOp) 8 rfl rfl rfl rfl rfl rfl rfl rfl rfl rfl rfl rfl rfl rfl ?_
  refine po_build (T := tab) rfl rfl rfl rfl rfl rfl rfl ?_
  refine po_coe 6 rfl (.agg (ds := [.v (.bool true), .sl 1 false ([].map cStr), .sl 7 false ([].map cOp), .sl 7 false ([].map cOp), .sl 2 false ([].map cHook)]) ⟨.rfl, .nil, .nil, .nil, .nil, trivial⟩) ?_
  refine po_freeze 8 rfl rfl rfl ?_
  refine po_coe 9 rfl (.agg (ds := [.v (.bool false), .sl 1 false ([].map cStr), .sl 7 false ([].map cOp), .sl 7 false ([(⟨20, 0, 0, 0, [], [], false⟩ : Op)].map cOp), .sl 2 false ([].map cHook)]) ⟨.rfl, .nil, .nil, .rfl, .nil, trivial⟩) ?_
  refine po_lit (T := tab) (rows := [(⟨true, [], [], [], []⟩ : Class), (⟨false, [], [], [(⟨20, 0, 0, 0, [], [], false⟩ : Op)], []⟩ : Class)].map cClass) 10 rfl rfl rfl rfl rfl rfl rfl rfl rfl rfl rfl rfl rfl rfl ?_
  refine po_build (T := tab) rfl rfl rfl rfl rfl rfl rfl ?_
  refine po_build (T := tab) rfl rfl rfl rfl rfl rfl rfl ?_
  refine po_lit (T := tab) (rows := [(⟨16, 0, 0, 0, [120, 45, 97], [], false⟩ : Op), (⟨1, 0, 0, 0, [88, 45, 65], [], false⟩ : Op)].map cOp) 13 rfl rfl rfl rfl rfl rfl rfl rfl rfl rfl rfl rfl rfl rfl ?_
  refine po_build (T := tab) rfl rfl rfl rfl rfl rfl rfl ?_
  refine po_alloc (T := tab) 1 rfl rfl rfl rfl rfl rfl rfl rfl rfl ?_
  refine po_store (T := tab) rfl rfl rfl rfl rfl rfl rfl rfl rfl rfl rfl rfl ?_
  refine po_nil ?_
  refine pn_seq ?_
  refine pw_seq ?_
  refine pw_freeze 10 rfl rfl rfl ?_
  refine pw_freeze 13 rfl rfl rfl ?_
  refine pw_sub' (E' := [(1, .loc 1 0)]) (S' := [(1, .box [.sl 5 false ([(⟨true, [], [], [], []⟩ : Class), (⟨false, [], [], [(⟨20, 0, 0, 0, [], [], false⟩ : Op)], []⟩ : Class)].map cClass), .sl 7 false ([(⟨16, 0, 0, 0, [120, 45, 97], [], false⟩ : Op), (⟨1, 0, 0, 0, [88, 45, 65], [], false⟩ : Op)].map cOp)])]) ?_ ⟨rfl, trivial⟩ ⟨rfl, trivial⟩ rfl
  refine pw_drawV [0, 1, 0, 7, 0, 0, 63, 127] mixed (by kernel_rfl) (by kernel_rfl) rfl rfl ?_
  refine pdv_step0 [2, 3] [30] [] [1] [1] [(15, .agg [.sl 5 false ([(⟨true, [], [], [], []⟩ : Class), (⟨false, [], [], [(⟨20, 0, 0, 0, [], [], false⟩ : Op)], []⟩ : Class)].map cClass), .sl 7 false ([(⟨16, 0, 0, 0, [120, 45, 97], [], false⟩ : Op), (⟨1, 0, 0, 0, [88, 45, 65], [], false⟩ : Op)].map cOp)])] [(1, .box [.sl 5 false ([(⟨true, [], [], [], []⟩ : Class), (⟨false, [], [], [(⟨20, 0, 0, 0, [], [], false⟩ : Op)], []⟩ : Class)].map cClass), .sl 7 false ([(⟨16, 0, 0, 0, [120, 45, 97], [], false⟩ : Op), (⟨1, 0, 0, 0, [88, 45, 65], [], false⟩ : Op)].map cOp)])] rfl rfl rfl rfl (by kernel_rfl) (by kernel_rfl) (by kernel_rfl) ⟨rfl, trivial⟩ (fun w0 X X0 σ0 => by refine po_evs (T := tab) 1 rfl rfl ?_; refine po_nil ?_; exact pn_end0 ⟨rfl, trivial⟩ ⟨rfl, trivial⟩ rfl) ?_
  refine pdv_step (M := (Lab_Classes_m fu (⟨[(⟨true, [], [], [], []⟩ : Class), (⟨false, [], [], [(⟨20, 0, 0, 0, [], [], false⟩ : Op)], []⟩ : Class)], [(⟨16, 0, 0, 0, [120, 45, 97], [], false⟩ : Op), (⟨1, 0, 0, 0, [88, 45, 65], [], false⟩ : Op)]⟩ : Script) 0 1)) (ment := [(32, [])]) [30] [32] [] [] [] (fun r1 => [(16, .agg (cScript r1))]) (fun r1 => []) rfl rfl (fun _ => rfl) (fun _ => rfl) (by kernel_rfl) (by kernel_rfl) (fun _ => by kernel_rfl) (fun _ => trivial) (fun w0 X X0 σ0 => by refine po_call (enc := fun (r1 : Script) => .agg (cScript r1)) (qs := [.agg (cScript (⟨[(⟨true, [], [], [], []⟩ : Class), (⟨false, [], [], [(⟨20, 0, 0, 0, [], [], false⟩ : Op)], []⟩ : Class)], [(⟨16, 0, 0, 0, [120, 45, 97], [], false⟩ : Op), (⟨1, 0, 0, 0, [88, 45, 65], [], false⟩ : Op)]⟩ : Script)), .v (.int .i64 0), .v (.int .i64 1)]) (Lab_Classes_ok fu (⟨[(⟨true, [], [], [], []⟩ : Class), (⟨false, [], [], [(⟨20, 0, 0, 0, [], [], false⟩ : Op)], []⟩ : Class)], [(⟨16, 0, 0, 0, [120, 45, 97], [], false⟩ : Op), (⟨1, 0, 0, 0, [88, 45, 65], [], false⟩ : Op)]⟩ : Script) 0 1) rfl rfl ⟨⟨_, rfl, .rfl⟩, ⟨_, rfl, .rfl⟩, ⟨_, rfl, .rfl⟩, trivial⟩ (fun _ => rfl) call12 rfl rfl fun r1 hr1 => ?_; refine po_nil ?_; exact pn_end ⟨rfl, trivial⟩ trivial rfl) fun r1 hr1 => ?_
  refine pdv_step0 [2, 3] [34] [] [1] [1] [(17, .agg [.sl 5 false ([(⟨true, [], [], [], []⟩ : Class), (⟨false, [], [], [(⟨20, 0, 0, 0, [], [], false⟩ : Op)], []⟩ : Class)].map cClass), .sl 7 false ([(⟨16, 0, 0, 0, [120, 45, 97], [], false⟩ : Op), (⟨1, 0, 0, 0, [88, 45, 65], [], false⟩ : Op)].map cOp)])] [(1, .box [.sl 5 false ([(⟨true, [], [], [], []⟩ : Class), (⟨false, [], [], [(⟨20, 0, 0, 0, [], [], false⟩ : Op)], []⟩ : Class)].map cClass), .sl 7 false ([(⟨16, 0, 0, 0, [120, 45, 97], [], false⟩ : Op), (⟨1, 0, 0, 0, [88, 45, 65], [], false⟩ : Op)].map cOp)])] rfl rfl rfl rfl (by kernel_rfl) (by kernel_rfl) (by kernel_rfl) ⟨rfl, trivial⟩ (fun w0 X X0 σ0 => by refine po_evs (T := tab) 1 rfl rfl ?_; refine po_nil ?_; exact pn_end0 ⟨rfl, trivial⟩ ⟨rfl, trivial⟩ rfl) ?_
  refine pdv_step (M := (Lab_Names_m fu (⟨[(⟨true, [], [], [], []⟩ : Class), (⟨false, [], [], [(⟨20, 0, 0, 0, [], [], false⟩ : Op)], []⟩ : Class)], [(⟨16, 0, 0, 0, [120, 45, 97], [], false⟩ : Op), (⟨1, 0, 0, 0, [88, 45, 65], [], false⟩ : Op)]⟩ : Script) [120, 45, 97] [120, 45, 98])) (ment := [(36, [])]) [34] [36] [] [] [] (fun r2 => [(18, .agg (cScript r2))]) (fun r2 => []) rfl rfl (fun _ => rfl) (fun _ => rfl) (by kernel_rfl) (by kernel_rfl) (fun _ => by kernel_rfl) (fun _ => trivial) (fun w0 X X0 σ0 => by refine po_call (enc := fun (r2 : Script) => .agg (cScript r2)) (qs := [.agg (cScript (⟨[(⟨true, [], [], [], []⟩ : Class), (⟨false, [], [], [(⟨20, 0, 0, 0, [], [], false⟩ : Op)], []⟩ : Class)], [(⟨16, 0, 0, 0, [120, 45, 97], [], false⟩ : Op), (⟨1, 0, 0, 0, [88, 45, 65], [], false⟩ : Op)]⟩ : Script)), .v (.string ⟨⟨[120, 45, 97]⟩⟩), .v (.string ⟨⟨[120, 45, 98]⟩⟩)]) (Lab_Names_ok fu (⟨[(⟨true, [], [], [], []⟩ : Class), (⟨false, [], [], [(⟨20, 0, 0, 0, [], [], false⟩ : Op)], []⟩ : Class)], [(⟨16, 0, 0, 0, [120, 45, 97], [], false⟩ : Op), (⟨1, 0, 0, 0, [88, 45, 65], [], false⟩ : Op)]⟩ : Script) [120, 45, 97] [120, 45, 98]) rfl rfl ⟨⟨_, rfl, .rfl⟩, ⟨_, rfl, .rfl⟩, ⟨_, rfl, .rfl⟩, trivial⟩ (fun _ => rfl) call17 rfl rfl fun r2 hr2 => ?_; refine po_nil ?_; exact pn_end ⟨rfl, trivial⟩ trivial rfl) fun r2 hr2 => ?_
  refine pdv_step0 [] [4, 5] [2] [] [] [(2, .loc 2 0)] [(2, .box [.v (.slice none 0 0), .v (.slice none 0 0)])] rfl rfl rfl rfl (by kernel_rfl) (by kernel_rfl) (by kernel_rfl) trivial (fun w0 X X0 σ0 => by refine po_alloc (T := tab) 2 rfl rfl rfl rfl rfl rfl rfl rfl rfl ?_; refine po_nil ?_; exact pn_end0 ⟨rfl, trivial⟩ ⟨rfl, trivial⟩ rfl) ?_
  refine pdv_step0 [] [6, 7] [3] [] [] [(3, .loc 3 0)] [(3, .box [.v (.slice none 0 0), .v (.slice none 0 0)])] rfl rfl rfl rfl (by kernel_rfl) (by kernel_rfl) (by kernel_rfl) trivial (fun w0 X X0 σ0 => by refine po_alloc (T := tab) 3 rfl rfl rfl rfl rfl rfl rfl rfl rfl ?_; refine po_nil ?_; exact pn_end0 ⟨rfl, trivial⟩ ⟨rfl, trivial⟩ rfl) ?_
  refine pdv_step0 [4, 5, 32] [5] [] [2] [] [] [(2, .box [.sl 5 false (r1.Classes.map cClass), .sl 7 false (r1.Main.map cOp)])] rfl rfl rfl rfl (by kernel_rfl) (by kernel_rfl) (by kernel_rfl) trivial (fun w0 X X0 σ0 => by refine po_store (T := tab) rfl rfl rfl rfl rfl rfl rfl rfl rfl rfl rfl rfl ?_; refine po_nil ?_; exact pn_end0 trivial ⟨rfl, trivial⟩ rfl) ?_
  refine pdv_step0 [6, 7, 36] [7] [] [3] [] [] [(3, .box [.sl 5 false (r2.Classes.map cClass), .sl 7 false (r2.Main.map cOp)])] rfl rfl rfl rfl (by kernel_rfl) (by kernel_rfl) (by kernel_rfl) trivial (fun w0 X X0 σ0 => by refine po_store (T := tab) rfl rfl rfl rfl rfl rfl rfl rfl rfl rfl rfl rfl ?_; refine po_nil ?_; exact pn_end0 trivial ⟨rfl, trivial⟩ rfl) ?_
  refine pdv_nil rfl rfl ?_
  refine pn_seq ?_
  refine pw_seq ?_
  refine pw_region ?_
  refine po_build (T := tab) rfl rfl rfl rfl rfl rfl rfl ?_
  refine po_build (T := tab) rfl rfl rfl rfl rfl rfl rfl ?_
  refine po_lit (T := tab) (rows := [(⟨3, 0, 0, 0, 0, [], false, false, [], [], 0, 0, false⟩ : Mark), (⟨1, 0, 0, 0, 0, [], false, false, [], [], 0, 0, false⟩ : Mark)].map cMark) 21 rfl rfl rfl rfl rfl rfl rfl rfl rfl rfl rfl rfl rfl rfl ?_
  refine po_freeze 21 rfl rfl rfl ?_
  refine po_call (enc := fun (r3 : (List Mark)) => .sl 13 false (r3.map cMark)) (qs := [.sl 13 false ([(⟨3, 0, 0, 0, 0, [], false, false, [], [], 0, 0, false⟩ : Mark), (⟨1, 0, 0, 0, 0, [], false, false, [], [], 0, 0, false⟩ : Mark)].map cMark), .v (.int .i64 0), .v (.int .i64 1)]) (Lab_MarksClasses_ok fu [(⟨3, 0, 0, 0, 0, [], false, false, [], [], 0, 0, false⟩ : Mark), (⟨1, 0, 0, 0, 0, [], false, false, [], [], 0, 0, false⟩ : Mark)] 0 1) rfl rfl ⟨⟨_, rfl, .rfl⟩, ⟨_, rfl, .rfl⟩, ⟨_, rfl, .rfl⟩, trivial⟩ (fun _ => rfl) call15 rfl rfl fun r3 hr3 => ?_
  refine po_evs (T := tab) 1 rfl rfl ?_
  refine po_nil ?_
  refine pn_seq ?_
  refine pw_seq ?_
  refine pw_region ?_
  refine po_build (T := tab) rfl rfl rfl rfl rfl rfl rfl ?_
  refine po_lit (T := tab) (rows := [(⟨8, 0, 0, 0, 0, [120, 45, 97], false, false, [], [], 0, 0, false⟩ : Mark)].map cMark) 24 rfl rfl rfl rfl rfl rfl rfl rfl rfl rfl rfl rfl rfl rfl ?_
  refine po_freeze 24 rfl rfl rfl ?_
  refine po_call (enc := fun (r4 : (List Mark)) => .sl 13 false (r4.map cMark)) (qs := [.sl 13 false ([(⟨8, 0, 0, 0, 0, [120, 45, 97], false, false, [], [], 0, 0, false⟩ : Mark)].map cMark), .v (.string ⟨⟨[120, 45, 98]⟩⟩), .v (.string ⟨⟨[120, 45, 97]⟩⟩)]) (Lab_MarksNames_ok fu [(⟨8, 0, 0, 0, 0, [120, 45, 97], false, false, [], [], 0, 0, false⟩ : Mark)] [120, 45, 98] [120, 45, 97]) rfl rfl ⟨⟨_, rfl, .rfl⟩, ⟨_, rfl, .rfl⟩, ⟨_, rfl, .rfl⟩, trivial⟩ (fun _ => rfl) call19 rfl rfl fun r4 hr4 => ?_
  refine po_evs (T := tab) 1 rfl rfl ?_
  refine po_nil ?_
  refine pn_seq ?_
  refine pw_seq ?_
  refine pw_seq ?_
  refine pw_region ?_
  refine po_evs (T := tab) 2 rfl rfl ?_
  refine po_len (T := tab) cOp r1.Main rfl rfl rfl rfl rfl rfl rfl rfl ?_
  refine po_evs (T := tab) 2 rfl rfl ?_
  refine po_split (j := 30) rfl ?_ ?_
  · refine po_evs (T := tab) 21 rfl rfl ?_
    refine po_nil ?_
    refine pn_seq (pw_then rfl ?_)
    refine pw_seq ?_
    refine pw_region ?_
    refine po_evs (T := tab) 1 rfl rfl ?_
    refine po_nil ?_
    refine pn_seq ?_
    exact pw_retN (T := tab) rfl rfl rfl ⟨rfl, rfl⟩ trivial rfl
  · refine po_evs (T := tab) 2 rfl rfl ?_
    refine po_len (T := tab) cClass r1.Classes rfl rfl rfl rfl rfl rfl rfl rfl ?_
    refine po_evs (T := tab) 3 rfl rfl ?_
    refine po_split (j := 36) rfl ?_ ?_
    · refine po_evs (T := tab) 15 rfl rfl ?_
      refine po_nil ?_
      refine pn_seq (pw_then rfl ?_)
      refine pw_seq ?_
      refine pw_region ?_
      refine po_evs (T := tab) 1 rfl rfl ?_
      refine po_nil ?_
      refine pn_seq ?_
      exact pw_retN (T := tab) rfl rfl rfl ⟨rfl, rfl⟩ trivial rfl
    · refine po_evs (T := tab) 2 rfl rfl ?_
      refine po_len (T := tab) cOp r2.Main rfl rfl rfl rfl rfl rfl rfl rfl ?_
      refine po_evs (T := tab) 3 rfl rfl ?_
      refine po_split (j := 42) rfl ?_ ?_
      · refine po_evs (T := tab) 9 rfl rfl ?_
        refine po_nil ?_
        refine pn_seq (pw_then rfl ?_)
        refine pw_seq ?_
        refine pw_region ?_
        refine po_evs (T := tab) 1 rfl rfl ?_
        refine po_nil ?_
        refine pn_seq ?_
        exact pw_retN (T := tab) rfl rfl rfl ⟨rfl, rfl⟩ trivial rfl
      · refine po_evs (T := tab) 1 rfl rfl ?_
        refine po_len (T := tab) cMark r3 rfl rfl rfl rfl rfl rfl rfl rfl ?_
        refine po_evs (T := tab) 3 rfl rfl ?_
        refine po_split (j := 47) rfl ?_ ?_
        · refine po_evs (T := tab) 4 rfl rfl ?_
          refine po_nil ?_
          refine pn_seq (pw_then rfl ?_)
          refine pw_seq ?_
          refine pw_region ?_
          refine po_evs (T := tab) 1 rfl rfl ?_
          refine po_nil ?_
          refine pn_seq ?_
          exact pw_retN (T := tab) rfl rfl rfl ⟨rfl, rfl⟩ trivial rfl
        · refine po_evs (T := tab) 1 rfl rfl ?_
          refine po_len (T := tab) cMark r4 rfl rfl rfl rfl rfl rfl rfl rfl ?_
          refine po_evs (T := tab) 2 rfl rfl ?_
          refine po_nil ?_
          refine pn_seq ?_
          refine pw_cnd rfl ?_ ?_
          · refine pw_seq ?_
            refine pw_region ?_
            refine po_evs (T := tab) 1 rfl rfl ?_
            refine po_nil ?_
            refine pn_seq ?_
            exact pw_retN (T := tab) rfl rfl rfl ⟨rfl, rfl⟩ trivial rfl
          · refine pw_skip ?_
            refine pn_seq ?_
            refine pw_seq ?_
            refine pw_region ?_
            refine po_evs (T := tab) 2 rfl rfl ?_
            refine po_idx (T := tab) cOp r1.Main rfl rfl rfl rfl rfl rfl rfl fun y5 hy5 => ?_
            refine po_evs (T := tab) 4 rfl rfl ?_
            refine po_split (j := 58) rfl ?_ ?_
            · refine po_evs (T := tab) 2 rfl rfl ?_
              refine po_idx (T := tab) cClass r1.Classes rfl rfl rfl rfl rfl rfl rfl fun y6 hy6 => ?_
              refine po_evs (T := tab) 2 rfl rfl ?_
              refine po_len (T := tab) cOp y6.Make rfl rfl rfl rfl rfl rfl rfl rfl ?_
              refine po_evs (T := tab) 3 rfl rfl ?_
              refine po_split (j := 67) rfl ?_ ?_
              · refine po_evs (T := tab) 2 rfl rfl ?_
                refine po_idx (T := tab) cClass r1.Classes rfl rfl rfl rfl rfl rfl rfl fun y7 hy7 => ?_
                refine po_evs (T := tab) 4 rfl rfl ?_
                refine po_split (j := 74) rfl ?_ ?_
                · refine po_evs (T := tab) 2 rfl rfl ?_
                  refine po_idx (T := tab) cOp r2.Main rfl rfl rfl rfl rfl rfl rfl fun y8 hy8 => ?_
                  refine po_evs (T := tab) 5 rfl rfl ?_
                  refine po_split (j := 82) rfl ?_ ?_
                  · refine po_evs (T := tab) 2 rfl rfl ?_
                    refine po_idx (T := tab) cOp r2.Main rfl rfl rfl rfl rfl rfl rfl fun y9 hy9 => ?_
                    refine po_evs (T := tab) 5 rfl rfl ?_
                    refine po_split (j := 90) rfl ?_ ?_
                    · refine po_evs (T := tab) 1 rfl rfl ?_
                      refine po_idx (T := tab) cMark r3 rfl rfl rfl rfl rfl rfl rfl fun y10 hy10 => ?_
                      refine po_evs (T := tab) 5 rfl rfl ?_
                      refine po_split (j := 97) rfl ?_ ?_
                      · refine po_evs (T := tab) 1 rfl rfl ?_
                        refine po_idx (T := tab) cMark r3 rfl rfl rfl rfl rfl rfl rfl fun y11 hy11 => ?_
                        refine po_evs (T := tab) 5 rfl rfl ?_
                        refine po_split (j := 104) rfl ?_ ?_
                        · refine po_evs (T := tab) 1 rfl rfl ?_
                          refine po_idx (T := tab) cMark r4 rfl rfl rfl rfl rfl rfl rfl fun y12 hy12 => ?_
                          refine po_evs (T := tab) 5 rfl rfl ?_
                          refine po_split (j := 111) rfl ?_ ?_
                          · refine po_evs (T := tab) 2 rfl rfl ?_
                            refine po_idx (T := tab) cClass [(⟨true, [], [], [], []⟩ : Class), (⟨false, [], [], [(⟨20, 0, 0, 0, [], [], false⟩ : Op)], []⟩ : Class)] rfl rfl rfl rfl rfl rfl rfl fun y13 hy13 => ?_
                            refine po_evs (T := tab) 1 rfl rfl ?_
                            refine po_call (enc := fun (r14 : Bool) => .v (.bool r14)) (qs := [.agg (cClass y13)]) (Lab_Calm_ok fu y13) rfl rfl ⟨⟨_, rfl, .rfl⟩, trivial⟩ (fun _ => rfl) call9 rfl rfl fun r14 hr14 => ?_
                            refine po_evs (T := tab) 2 rfl rfl ?_
                            refine po_split (j := 118) rfl ?_ ?_
                            · refine po_build (T := tab) rfl rfl rfl rfl rfl rfl rfl ?_
                              refine po_lit (T := tab) (rows := [(⟨0, 0, 0, 0, [], [], false⟩ : Op)].map cOp) 120 rfl rfl rfl rfl rfl rfl rfl rfl rfl rfl rfl rfl rfl rfl ?_
                              refine po_build (T := tab) rfl rfl rfl rfl rfl rfl rfl ?_
                              refine po_freeze 120 rfl rfl rfl ?_
                              refine po_call (enc := fun (r15 : Bool) => .v (.bool r15)) (qs := [.agg (cClass (⟨false, [], [(⟨0, 0, 0, 0, [], [], false⟩ : Op)], [], []⟩ : Class))]) (Lab_Calm_ok fu (⟨false, [], [(⟨0, 0, 0, 0, [], [], false⟩ : Op)], [], []⟩ : Class)) rfl rfl ⟨⟨_, rfl, (.agg ⟨.rfl, .nil, .rfl, .nil, .nil, trivial⟩)⟩, trivial⟩ (fun _ => rfl) call9 rfl rfl fun r15 hr15 => ?_
                              refine po_evs (T := tab) 3 rfl rfl ?_
                              refine po_nil ?_
                              refine pn_seq ?_
                              exact pw_retN (T := tab) rfl rfl rfl ⟨rfl, rfl⟩ trivial rfl
                            · refine po_evs (T := tab) 7 rfl rfl ?_
                              refine po_nil ?_
                              refine pn_seq ?_
                              exact pw_retN (T := tab) rfl rfl rfl ⟨rfl, rfl⟩ trivial rfl
                          · refine po_evs (T := tab) 14 rfl rfl ?_
                            refine po_nil ?_
                            refine pn_seq ?_
                            exact pw_retN (T := tab) rfl rfl rfl ⟨rfl, rfl⟩ trivial rfl
                        · refine po_evs (T := tab) 21 rfl rfl ?_
                          refine po_nil ?_
                          refine pn_seq ?_
                          exact pw_retN (T := tab) rfl rfl rfl ⟨rfl, rfl⟩ trivial rfl
                      · refine po_evs (T := tab) 28 rfl rfl ?_
                        refine po_nil ?_
                        refine pn_seq ?_
                        exact pw_retN (T := tab) rfl rfl rfl ⟨rfl, rfl⟩ trivial rfl
                    · refine po_evs (T := tab) 35 rfl rfl ?_
                      refine po_nil ?_
                      refine pn_seq ?_
                      exact pw_retN (T := tab) rfl rfl rfl ⟨rfl, rfl⟩ trivial rfl
                  · refine po_evs (T := tab) 43 rfl rfl ?_
                    refine po_nil ?_
                    refine pn_seq ?_
                    exact pw_retN (T := tab) rfl rfl rfl ⟨rfl, rfl⟩ trivial rfl
                · refine po_evs (T := tab) 51 rfl rfl ?_
                  refine po_nil ?_
                  refine pn_seq ?_
                  exact pw_retN (T := tab) rfl rfl rfl ⟨rfl, rfl⟩ trivial rfl
              · refine po_evs (T := tab) 58 rfl rfl ?_
                refine po_nil ?_
                refine pn_seq ?_
                exact pw_retN (T := tab) rfl rfl rfl ⟨rfl, rfl⟩ trivial rfl
            · refine po_evs (T := tab) 67 rfl rfl ?_
              refine po_nil ?_
              refine pn_seq ?_
              exact pw_retN (T := tab) rfl rfl rfl ⟨rfl, rfl⟩ trivial rfl

def Instarref12_Short_l2 (i2 : Int) (y3 : Class) (rc1 : Int → Option Bool) : Nat → Int → Option Bool
  | 0, _ => none
  | k2 + 1, k4 => cnd (decide (k4 < ((y3.Hooks.length : Nat) : Int))) (bnd (idx y3.Hooks k4) fun y5 => cnd (decide (((y5.Do.length : Nat) : Int) > 80)) (some false) (bnd (rng .i64 (k4 + 1)) fun i6 => (Instarref12_Short_l2 i2 y3 rc1 k2) i6)) (bnd (rng .i64 (i2 + 1)) fun i7 => rc1 i7)

def Instarref12_Short_l1 (fu : Nat) (classes1 : (List Class)) : Nat → Int → Option Bool
  | 0, _ => none
  | k1 + 1, i2 => cnd (decide (i2 < ((classes1.length : Nat) : Int))) (bnd (idx classes1 i2) fun y3 => cnd (decide (((y3.Watch.length : Nat) : Int) > 20)) (some false) (cnd (decide (((y3.Hooks.length : Nat) : Int) > 20)) (some false) (cnd (decide (((y3.Peek.length : Nat) : Int) > 80)) (some false) (cnd (decide (((y3.Make.length : Nat) : Int) > 80)) (some false) ((Instarref12_Short_l2 i2 y3 (Instarref12_Short_l1 fu classes1 k1)) fu 0))))) (some true)

def Instarref12_Short_m (fu : Nat) (classes1 : (List Class)) : Option Bool := cnd (decide (((classes1.length : Nat) : Int) > 14)) (some false) ((Instarref12_Short_l1 fu classes1) fu 0)

set_option maxHeartbeats 10000000 in
set_option maxRecDepth 100000 in
theorem Instarref12_Short_ok (fu : Nat) (classes1 : (List Class)) : ∀ r, Instarref12_Short_m fu classes1 = some r → DC Try.prog 27 [.sl 5 false (classes1.map cClass)] (.v (.bool r)) := by
  intro r hr
  refine fc_intro (args := [.sl 5 false (classes1.map cClass)]) (S := []) (N0 := []) (post := fun r p S => p = .v (.bool r) ∧ S = []) Try.func27 rfl rfl hr fun w0 X X0 σ0 => ?_
  refine pw_seq ?_
  refine pw_region ?_
  refine po_evs (T := tab) 1 rfl rfl ?_
  refine po_nil ?_
  refine pn_seq ?_
  refine pw_seq ?_
  refine pw_seq ?_
  refine pw_region ?_
  refine po_evs (T := tab) 1 rfl rfl ?_
  refine po_len (T := tab) cClass classes1 rfl rfl rfl rfl rfl rfl rfl rfl ?_
  refine po_evs (T := tab) 1 rfl rfl ?_
  refine po_nil ?_
  refine pn_seq ?_
  refine pw_cnd rfl ?_ ?_
  · refine pw_seq ?_
    refine pw_region ?_
    refine po_evs (T := tab) 1 rfl rfl ?_
    refine po_nil ?_
    refine pn_seq ?_
    exact pw_retN (T := tab) rfl rfl rfl ⟨rfl, rfl⟩ trivial rfl
  · refine pw_skip ?_
    refine pn_seq ?_
    refine pw_seq ?_
    refine pw_seq ?_
    refine pw_region ?_
    refine po_evs (T := tab) 1 rfl rfl ?_
    refine po_nil ?_
    refine pn_seq ?_
    refine pw_block ?_
    refine pw_loop' (Instarref12_Short_l1 fu classes1) (fun (i2 : Int) => [(0, .sl 5 false (classes1.map cClass)), (3, .v (.int .i64 i2))]) (fun (i2 : Int) => []) fu 0 (fun _ => rfl) ⟨rfl, rfl, trivial⟩ trivial rfl ?_
    rintro k1 i2
    refine pw_seq ?_
    refine pw_seq ?_
    refine pw_region ?_
    refine po_evs (T := tab) 2 rfl rfl ?_
    refine po_len (T := tab) cClass classes1 rfl rfl rfl rfl rfl rfl rfl rfl ?_
    refine po_evs (T := tab) 1 rfl rfl ?_
    refine po_nil ?_
    refine pn_seq ?_
    refine pw_cnd rfl ?_ ?_
    · refine pw_skip ?_
      refine pn_seq ?_
      refine pw_seq ?_
      refine pw_block ?_
      refine pw_seq ?_
      refine pw_region ?_
      refine po_evs (T := tab) 2 rfl rfl ?_
      refine po_idx (T := tab) cClass classes1 rfl rfl rfl rfl rfl rfl rfl fun y3 hy3 => ?_
      refine po_evs (T := tab) 1 rfl rfl ?_
      refine po_alloc (T := tab) 4 rfl rfl rfl rfl rfl rfl rfl rfl rfl ?_
      refine po_store (T := tab) rfl rfl rfl rfl rfl rfl rfl rfl rfl rfl rfl rfl ?_
      refine po_nil ?_
      refine pn_seq ?_
      refine pw_seq ?_
      refine pw_seq ?_
      refine pw_region ?_
      refine po_evs (T := tab) 2 rfl rfl ?_
      refine po_len (T := tab) cStr y3.Watch rfl rfl rfl rfl rfl rfl rfl rfl ?_
      refine po_evs (T := tab) 2 rfl rfl ?_
      refine po_split (j := 23) rfl ?_ ?_
      · refine po_evs (T := tab) 17 rfl rfl ?_
        refine po_nil ?_
        refine pn_seq (pw_then rfl ?_)
        refine pw_seq ?_
        refine pw_region ?_
        refine po_evs (T := tab) 1 rfl rfl ?_
        refine po_nil ?_
        refine pn_seq ?_
        exact pw_retN (T := tab) rfl rfl rfl ⟨rfl, rfl⟩ trivial rfl
      · refine po_evs (T := tab) 2 rfl rfl ?_
        refine po_len (T := tab) cHook y3.Hooks rfl rfl rfl rfl rfl rfl rfl rfl ?_
        refine po_evs (T := tab) 3 rfl rfl ?_
        refine po_split (j := 29) rfl ?_ ?_
        · refine po_evs (T := tab) 11 rfl rfl ?_
          refine po_nil ?_
          refine pn_seq (pw_then rfl ?_)
          refine pw_seq ?_
          refine pw_region ?_
          refine po_evs (T := tab) 1 rfl rfl ?_
          refine po_nil ?_
          refine pn_seq ?_
          exact pw_retN (T := tab) rfl rfl rfl ⟨rfl, rfl⟩ trivial rfl
        · refine po_evs (T := tab) 2 rfl rfl ?_
          refine po_len (T := tab) cOp y3.Peek rfl rfl rfl rfl rfl rfl rfl rfl ?_
          refine po_evs (T := tab) 3 rfl rfl ?_
          refine po_split (j := 35) rfl ?_ ?_
          · refine po_evs (T := tab) 5 rfl rfl ?_
            refine po_nil ?_
            refine pn_seq (pw_then rfl ?_)
            refine pw_seq ?_
            refine pw_region ?_
            refine po_evs (T := tab) 1 rfl rfl ?_
            refine po_nil ?_
            refine pn_seq ?_
            exact pw_retN (T := tab) rfl rfl rfl ⟨rfl, rfl⟩ trivial rfl
          · refine po_evs (T := tab) 2 rfl rfl ?_
            refine po_len (T := tab) cOp y3.Make rfl rfl rfl rfl rfl rfl rfl rfl ?_
            refine po_evs (T := tab) 2 rfl rfl ?_
            refine po_nil ?_
            refine pn_seq ?_
            refine pw_cnd rfl ?_ ?_
            · refine pw_seq ?_
              refine pw_region ?_
              refine po_evs (T := tab) 1 rfl rfl ?_
              refine po_nil ?_
              refine pn_seq ?_
              exact pw_retN (T := tab) rfl rfl rfl ⟨rfl, rfl⟩ trivial rfl
            · refine pw_skip ?_
              refine pn_seq ?_
              refine pw_seq ?_
              refine pw_region ?_
              refine po_evs (T := tab) 1 rfl rfl ?_
              refine po_nil ?_
              refine pn_seq ?_
              refine pw_block ?_
              refine pw_loop' (Instarref12_Short_l2 i2 y3 (Instarref12_Short_l1 fu classes1 k1)) (fun (k4 : Int) => [(0, .sl 5 false (classes1.map cClass)), (3, .v (.int .i64 i2)), (4, .loc 4 0), (5, .v (.int .i64 k4))]) (fun (k4 : Int) => [(4, .box [.v (.bool y3.Form), .sl 1 false (y3.Watch.map cStr), .sl 7 false (y3.Peek.map cOp), .sl 7 false (y3.Make.map cOp), .sl 2 false (y3.Hooks.map cHook)])]) fu 0 (fun _ => rfl) ⟨rfl, rfl, rfl, rfl, trivial⟩ ⟨rfl, trivial⟩ rfl ?_
              rintro k2 k4
              refine pw_seq ?_
              refine pw_seq ?_
              refine pw_region ?_
              refine po_evs (T := tab) 3 rfl rfl ?_
              refine po_len (T := tab) cHook y3.Hooks rfl rfl rfl rfl rfl rfl rfl rfl ?_
              refine po_evs (T := tab) 1 rfl rfl ?_
              refine po_nil ?_
              refine pn_seq ?_
              refine pw_cnd rfl ?_ ?_
              · refine pw_skip ?_
                refine pn_seq ?_
                refine pw_seq ?_
                refine pw_block ?_
                refine pw_seq ?_
                refine pw_region ?_
                refine po_evs (T := tab) 3 rfl rfl ?_
                refine po_idx (T := tab) cHook y3.Hooks rfl rfl rfl rfl rfl rfl rfl fun y5 hy5 => ?_
                refine po_evs (T := tab) 2 rfl rfl ?_
                refine po_len (T := tab) cOp y5.Do rfl rfl rfl rfl rfl rfl rfl rfl ?_
                refine po_evs (T := tab) 1 rfl rfl ?_
                refine po_nil ?_
                refine pn_seq ?_
                refine pw_cnd rfl ?_ ?_
                · refine pw_seq ?_
                  refine pw_region ?_
                  refine po_evs (T := tab) 1 rfl rfl ?_
                  refine po_nil ?_
                  refine pn_seq ?_
                  exact pw_retN (T := tab) rfl rfl rfl ⟨rfl, rfl⟩ trivial rfl
                · refine pw_skip ?_
                  refine pn_block ?_
                  refine pn_seq ?_
                  refine pw_region ?_
                  refine po_evs (T := tab) 1 rfl rfl ?_
                  refine po_arith' (T := tab) rfl rfl rfl rfl fun i6 hi6 => ?_
                  refine po_evs (T := tab) 1 rfl rfl ?_
                  refine po_nil ?_
                  exact pn_iter' i6 ⟨rfl, rfl, rfl, rfl, trivial⟩ ⟨rfl, trivial⟩ rfl
              · refine pw_exit rfl ?_
                refine pn_block ?_
                refine pn_seq ?_
                refine pw_region ?_
                refine po_evs (T := tab) 1 rfl rfl ?_
                refine po_arith' (T := tab) rfl rfl rfl rfl fun i7 hi7 => ?_
                refine po_evs (T := tab) 1 rfl rfl ?_
                refine po_nil ?_
                exact pn_iter' i7 ⟨rfl, rfl, trivial⟩ trivial rfl
    · refine pw_exit rfl ?_
      refine pn_seq ?_
      refine pw_seq ?_
      refine pw_region ?_
      refine po_evs (T := tab) 1 rfl rfl ?_
      refine po_nil ?_
      refine pn_seq ?_
      exact pw_retN (T := tab) rfl rfl rfl ⟨rfl, rfl⟩ trivial rfl

def Instarlaw25_short_l1 (l1 : (List Op)) : Nat → Int → Option Bool
  | 0, _ => none
  | k1 + 1, i2 => cnd (decide (i2 < ((l1.length : Nat) : Int))) (bnd (idx l1 i2) fun y3 => cnd (decide (((y3.S.length : Nat) : Int) > 300)) (some false) (bnd (idx l1 i2) fun y4 => cnd (decide (((y4.T.length : Nat) : Int) > 300)) (some false) (bnd (rng .i64 (i2 + 1)) fun i5 => (Instarlaw25_short_l1 l1 k1) i5))) (some (decide (((l1.length : Nat) : Int) ≤ 80)))

def Instarlaw25_short_m (fu : Nat) (l1 : (List Op)) : Option Bool := (Instarlaw25_short_l1 l1) fu 0

set_option maxHeartbeats 10000000 in
set_option maxRecDepth 100000 in
theorem Instarlaw25_short_ok (fu : Nat) (l1 : (List Op)) : ∀ r, Instarlaw25_short_m fu l1 = some r → DC Try.prog 28 [.sl 7 false (l1.map cOp)] (.v (.bool r)) := by
  intro r hr
  refine fc_intro (args := [.sl 7 false (l1.map cOp)]) (S := []) (N0 := []) (post := fun r p S => p = .v (.bool r) ∧ S = []) Try.func28 rfl rfl hr fun w0 X X0 σ0 => ?_
  refine pw_seq ?_
  refine pw_region ?_
  refine po_evs (T := tab) 1 rfl rfl ?_
  refine po_nil ?_
  refine pn_seq ?_
  refine pw_seq ?_
  refine pw_seq ?_
  refine pw_region ?_
  refine po_evs (T := tab) 1 rfl rfl ?_
  refine po_nil ?_
  refine pn_seq ?_
  refine pw_block ?_
  refine pw_loop' (Instarlaw25_short_l1 l1) (fun (i2 : Int) => [(0, .sl 7 false (l1.map cOp)), (3, .v (.int .i64 i2))]) (fun (i2 : Int) => []) fu 0 (fun _ => rfl) ⟨rfl, rfl, trivial⟩ trivial rfl ?_
  rintro k1 i2
  refine pw_seq ?_
  refine pw_seq ?_
  refine pw_region ?_
  refine po_evs (T := tab) 2 rfl rfl ?_
  refine po_len (T := tab) cOp l1 rfl rfl rfl rfl rfl rfl rfl rfl ?_
  refine po_evs (T := tab) 1 rfl rfl ?_
  refine po_nil ?_
  refine pn_seq ?_
  refine pw_cnd rfl ?_ ?_
  · refine pw_skip ?_
    refine pn_seq ?_
    refine pw_seq ?_
    refine pw_block ?_
    refine pw_seq ?_
    refine pw_region ?_
    refine po_evs (T := tab) 2 rfl rfl ?_
    refine po_idx (T := tab) cOp l1 rfl rfl rfl rfl rfl rfl rfl fun y3 hy3 => ?_
    refine po_evs (T := tab) 5 rfl rfl ?_
    refine po_split (j := 17) rfl ?_ ?_
    · refine po_evs (T := tab) 8 rfl rfl ?_
      refine po_nil ?_
      refine pn_seq (pw_then rfl ?_)
      refine pw_seq ?_
      refine pw_region ?_
      refine po_evs (T := tab) 1 rfl rfl ?_
      refine po_nil ?_
      refine pn_seq ?_
      exact pw_retN (T := tab) rfl rfl rfl ⟨rfl, rfl⟩ trivial rfl
    · refine po_evs (T := tab) 2 rfl rfl ?_
      refine po_idx (T := tab) cOp l1 rfl rfl rfl rfl rfl rfl rfl fun y4 hy4 => ?_
      refine po_evs (T := tab) 5 rfl rfl ?_
      refine po_nil ?_
      refine pn_seq ?_
      refine pw_cnd rfl ?_ ?_
      · refine pw_seq ?_
        refine pw_region ?_
        refine po_evs (T := tab) 1 rfl rfl ?_
        refine po_nil ?_
        refine pn_seq ?_
        exact pw_retN (T := tab) rfl rfl rfl ⟨rfl, rfl⟩ trivial rfl
      · refine pw_skip ?_
        refine pn_block ?_
        refine pn_seq ?_
        refine pw_region ?_
        refine po_evs (T := tab) 1 rfl rfl ?_
        refine po_arith' (T := tab) rfl rfl rfl rfl fun i5 hi5 => ?_
        refine po_evs (T := tab) 1 rfl rfl ?_
        refine po_nil ?_
        exact pn_iter' i5 ⟨rfl, rfl, trivial⟩ trivial rfl
  · refine pw_exit rfl ?_
    refine pn_seq ?_
    refine pw_seq ?_
    refine pw_region ?_
    refine po_evs (T := tab) 1 rfl rfl ?_
    refine po_len (T := tab) cOp l1 rfl rfl rfl rfl rfl rfl rfl rfl ?_
    refine po_evs (T := tab) 2 rfl rfl ?_
    refine po_nil ?_
    refine pn_seq ?_
    exact pw_retN (T := tab) rfl rfl rfl ⟨rfl, rfl⟩ trivial rfl

def Instarlaw25_few_l3 (i4 : Int) (y5 : Class) (rc1 : Int → Option Bool) : Nat → Int → Option Bool
  | 0, _ => none
  | k3 + 1, k12 => cnd (decide (k12 < ((y5.Watch.length : Nat) : Int))) (bnd (idx y5.Watch k12) fun y13 => cnd (decide (((y13.length : Nat) : Int) > 300)) (some false) (bnd (rng .i64 (k12 + 1)) fun i14 => (Instarlaw25_few_l3 i4 y5 rc1 k3) i14)) (bnd (rng .i64 (i4 + 1)) fun i15 => rc1 i15)

def Instarlaw25_few_l2 (fu : Nat) (i4 : Int) (y5 : Class) (rc1 : Int → Option Bool) : Nat → Int → Option Bool
  | 0, _ => none
  | k2 + 1, k8 => cnd (decide (k8 < ((y5.Hooks.length : Nat) : Int))) (bnd (idx y5.Hooks k8) fun y9 => bnd (Instarlaw25_short_m fu y9.Do) fun r10 => cnd (!r10) (some false) (bnd (rng .i64 (k8 + 1)) fun i11 => (Instarlaw25_few_l2 fu i4 y5 rc1 k2) i11)) ((Instarlaw25_few_l3 i4 y5 rc1) fu 0)

def Instarlaw25_few_l1 (fu : Nat) (s1 : Script) : Nat → Int → Option Bool
  | 0, _ => none
  | k1 + 1, i4 => cnd (decide (i4 < ((s1.Classes.length : Nat) : Int))) (bnd (idx s1.Classes i4) fun y5 => bnd (Instarlaw25_short_m fu y5.Peek) fun r6 => cnd (!r6) (some false) (bnd (Instarlaw25_short_m fu y5.Make) fun r7 => cnd (!r7) (some false) ((Instarlaw25_few_l2 fu i4 y5 (Instarlaw25_few_l1 fu s1 k1)) fu 0))) (some true)

def Instarlaw25_few_m (fu : Nat) (s1 : Script) : Option Bool := bnd (Instarref12_Short_m fu s1.Classes) fun r2 => cnd (!r2) (some false) (bnd (Instarlaw25_short_m fu s1.Main) fun r3 => cnd (!r3) (some false) ((Instarlaw25_few_l1 fu s1) fu 0))

set_option maxHeartbeats 10000000 in
set_option maxRecDepth 100000 in
theorem Instarlaw25_few_ok (fu : Nat) (s1 : Script) : ∀ r, Instarlaw25_few_m fu s1 = some r → DC Try.prog 7 [.agg (cScript s1)] (.v (.bool r)) := by
  intro r hr
  refine fc_intro (args := [.agg (cScript s1)]) (S := []) (N0 := []) (post := fun r p S => p = .v (.bool r) ∧ S = []) Try.func7 rfl rfl hr fun w0 X X0 σ0 => ?_
  refine pw_seq ?_
  refine pw_region ?_
  refine po_box  1 rfl rfl rfl rfl rfl rfl rfl rfl rfl rfl ?_
  refine po_evs (T := tab) 1 rfl rfl ?_
  refine po_nil ?_
  refine pn_seq ?_
  refine pw_seq ?_
  refine pw_seq ?_
  refine pw_region ?_
  refine po_evs (T := tab) 2 rfl rfl ?_
  refine po_call (enc := fun (r2 : Bool) => .v (.bool r2)) (qs := [.sl 5 false (s1.Classes.map cClass)]) (Instarref12_Short_ok fu s1.Classes) rfl rfl ⟨⟨_, rfl, .rfl⟩, trivial⟩ (fun _ => rfl) call27 rfl rfl fun r2 hr2 => ?_
  refine po_evs (T := tab) 2 rfl rfl ?_
  refine po_split (j := 11) rfl ?_ ?_
  · refine po_evs (T := tab) 5 rfl rfl ?_
    refine po_nil ?_
    refine pn_seq (pw_then rfl ?_)
    refine pw_seq ?_
    refine pw_region ?_
    refine po_evs (T := tab) 1 rfl rfl ?_
    refine po_nil ?_
    refine pn_seq ?_
    exact pw_retN (T := tab) rfl rfl rfl ⟨rfl, rfl⟩ trivial rfl
  · refine po_evs (T := tab) 2 rfl rfl ?_
    refine po_call (enc := fun (r3 : Bool) => .v (.bool r3)) (qs := [.sl 7 false (s1.Main.map cOp)]) (Instarlaw25_short_ok fu s1.Main) rfl rfl ⟨⟨_, rfl, .rfl⟩, trivial⟩ (fun _ => rfl) call28 rfl rfl fun r3 hr3 => ?_
    refine po_evs (T := tab) 2 rfl rfl ?_
    refine po_nil ?_
    refine pn_seq ?_
    refine pw_cnd rfl ?_ ?_
    · refine pw_seq ?_
      refine pw_region ?_
      refine po_evs (T := tab) 1 rfl rfl ?_
      refine po_nil ?_
      refine pn_seq ?_
      exact pw_retN (T := tab) rfl rfl rfl ⟨rfl, rfl⟩ trivial rfl
    · refine pw_skip ?_
      refine pn_seq ?_
      refine pw_seq ?_
      refine pw_seq ?_
      refine pw_region ?_
      refine po_evs (T := tab) 1 rfl rfl ?_
      refine po_nil ?_
      refine pn_seq ?_
      refine pw_block ?_
      refine pw_loop' (Instarlaw25_few_l1 fu s1) (fun (i4 : Int) => [(1, .loc 1 0), (3, .v (.int .i64 i4))]) (fun (i4 : Int) => [(1, .box [.sl 5 false (s1.Classes.map cClass), .sl 7 false (s1.Main.map cOp)])]) fu 0 (fun _ => rfl) ⟨rfl, rfl, trivial⟩ ⟨rfl, trivial⟩ rfl ?_
      rintro k1 i4
      refine pw_seq ?_
      refine pw_seq ?_
      refine pw_region ?_
      refine po_evs (T := tab) 3 rfl rfl ?_
      refine po_len (T := tab) cClass s1.Classes rfl rfl rfl rfl rfl rfl rfl rfl ?_
      refine po_evs (T := tab) 1 rfl rfl ?_
      refine po_nil ?_
      refine pn_seq ?_
      refine pw_cnd rfl ?_ ?_
      · refine pw_skip ?_
        refine pn_seq ?_
        refine pw_seq ?_
        refine pw_block ?_
        refine pw_seq ?_
        refine pw_region ?_
        refine po_evs (T := tab) 3 rfl rfl ?_
        refine po_idx (T := tab) cClass s1.Classes rfl rfl rfl rfl rfl rfl rfl fun y5 hy5 => ?_
        refine po_evs (T := tab) 1 rfl rfl ?_
        refine po_alloc (T := tab) 4 rfl rfl rfl rfl rfl rfl rfl rfl rfl ?_
        refine po_store (T := tab) rfl rfl rfl rfl rfl rfl rfl rfl rfl rfl rfl rfl ?_
        refine po_nil ?_
        refine pn_seq ?_
        refine pw_seq ?_
        refine pw_seq ?_
        refine pw_region ?_
        refine po_evs (T := tab) 2 rfl rfl ?_
        refine po_call (enc := fun (r6 : Bool) => .v (.bool r6)) (qs := [.sl 7 false (y5.Peek.map cOp)]) (Instarlaw25_short_ok fu y5.Peek) rfl rfl ⟨⟨_, rfl, .rfl⟩, trivial⟩ (fun _ => rfl) call28 rfl rfl fun r6 hr6 => ?_
        refine po_evs (T := tab) 2 rfl rfl ?_
        refine po_split (j := 33) rfl ?_ ?_
        · refine po_evs (T := tab) 5 rfl rfl ?_
          refine po_nil ?_
          refine pn_seq (pw_then rfl ?_)
          refine pw_seq ?_
          refine pw_region ?_
          refine po_evs (T := tab) 1 rfl rfl ?_
          refine po_nil ?_
          refine pn_seq ?_
          exact pw_retN (T := tab) rfl rfl rfl ⟨rfl, rfl⟩ trivial rfl
        · refine po_evs (T := tab) 2 rfl rfl ?_
          refine po_call (enc := fun (r7 : Bool) => .v (.bool r7)) (qs := [.sl 7 false (y5.Make.map cOp)]) (Instarlaw25_short_ok fu y5.Make) rfl rfl ⟨⟨_, rfl, .rfl⟩, trivial⟩ (fun _ => rfl) call28 rfl rfl fun r7 hr7 => ?_
          refine po_evs (T := tab) 2 rfl rfl ?_
          refine po_nil ?_
          refine pn_seq ?_
          refine pw_cnd rfl ?_ ?_
          · refine pw_seq ?_
            refine pw_region ?_
            refine po_evs (T := tab) 1 rfl rfl ?_
            refine po_nil ?_
            refine pn_seq ?_
            exact pw_retN (T := tab) rfl rfl rfl ⟨rfl, rfl⟩ trivial rfl
          · refine pw_skip ?_
            refine pn_seq ?_
            refine pw_seq ?_
            refine pw_seq ?_
            refine pw_region ?_
            refine po_evs (T := tab) 1 rfl rfl ?_
            refine po_nil ?_
            refine pn_seq ?_
            refine pw_block ?_
            refine pw_loop' (Instarlaw25_few_l2 fu i4 y5 (Instarlaw25_few_l1 fu s1 k1)) (fun (k8 : Int) => [(1, .loc 1 0), (3, .v (.int .i64 i4)), (4, .loc 4 0), (5, .v (.int .i64 k8))]) (fun (k8 : Int) => [(4, .box [.v (.bool y5.Form), .sl 1 false (y5.Watch.map cStr), .sl 7 false (y5.Peek.map cOp), .sl 7 false (y5.Make.map cOp), .sl 2 false (y5.Hooks.map cHook)]), (1, .box [.sl 5 false (s1.Classes.map cClass), .sl 7 false (s1.Main.map cOp)])]) fu 0 (fun _ => rfl) ⟨rfl, rfl, rfl, rfl, trivial⟩ ⟨rfl, rfl, trivial⟩ rfl ?_
            rintro k2 k8
            refine pw_seq ?_
            refine pw_seq ?_
            refine pw_region ?_
            refine po_evs (T := tab) 3 rfl rfl ?_
            refine po_len (T := tab) cHook y5.Hooks rfl rfl rfl rfl rfl rfl rfl rfl ?_
            refine po_evs (T := tab) 1 rfl rfl ?_
            refine po_nil ?_
            refine pn_seq ?_
            refine pw_cnd rfl ?_ ?_
            · refine pw_skip ?_
              refine pn_seq ?_
              refine pw_seq ?_
              refine pw_block ?_
              refine pw_seq ?_
              refine pw_region ?_
              refine po_evs (T := tab) 3 rfl rfl ?_
              refine po_idx (T := tab) cHook y5.Hooks rfl rfl rfl rfl rfl rfl rfl fun y9 hy9 => ?_
              refine po_evs (T := tab) 2 rfl rfl ?_
              refine po_call (enc := fun (r10 : Bool) => .v (.bool r10)) (qs := [.sl 7 false (y9.Do.map cOp)]) (Instarlaw25_short_ok fu y9.Do) rfl rfl ⟨⟨_, rfl, .rfl⟩, trivial⟩ (fun _ => rfl) call28 rfl rfl fun r10 hr10 => ?_
              refine po_evs (T := tab) 1 rfl rfl ?_
              refine po_nil ?_
              refine pn_seq ?_
              refine pw_cnd rfl ?_ ?_
              · refine pw_seq ?_
                refine pw_region ?_
                refine po_evs (T := tab) 1 rfl rfl ?_
                refine po_nil ?_
                refine pn_seq ?_
                exact pw_retN (T := tab) rfl rfl rfl ⟨rfl, rfl⟩ trivial rfl
              · refine pw_skip ?_
                refine pn_block ?_
                refine pn_seq ?_
                refine pw_region ?_
                refine po_evs (T := tab) 1 rfl rfl ?_
                refine po_arith' (T := tab) rfl rfl rfl rfl fun i11 hi11 => ?_
                refine po_evs (T := tab) 1 rfl rfl ?_
                refine po_nil ?_
                exact pn_iter' i11 ⟨rfl, rfl, rfl, rfl, trivial⟩ ⟨rfl, rfl, trivial⟩ rfl
            · refine pw_exit rfl ?_
              refine pn_seq ?_
              refine pw_seq ?_
              refine pw_region ?_
              refine po_evs (T := tab) 1 rfl rfl ?_
              refine po_nil ?_
              refine pn_seq ?_
              refine pw_block ?_
              refine pw_loop' (Instarlaw25_few_l3 i4 y5 (Instarlaw25_few_l1 fu s1 k1)) (fun (k12 : Int) => [(1, .loc 1 0), (3, .v (.int .i64 i4)), (4, .loc 4 0), (6, .v (.int .i64 k12))]) (fun (k12 : Int) => [(4, .box [.v (.bool y5.Form), .sl 1 false (y5.Watch.map cStr), .sl 7 false (y5.Peek.map cOp), .sl 7 false (y5.Make.map cOp), .sl 2 false (y5.Hooks.map cHook)]), (1, .box [.sl 5 false (s1.Classes.map cClass), .sl 7 false (s1.Main.map cOp)])]) fu 0 (fun _ => rfl) ⟨rfl, rfl, rfl, rfl, trivial⟩ ⟨rfl, rfl, trivial⟩ rfl ?_
              rintro k3 k12
              refine pw_seq ?_
              refine pw_seq ?_
              refine pw_region ?_
              refine po_evs (T := tab) 3 rfl rfl ?_
              refine po_len (T := tab) cStr y5.Watch rfl rfl rfl rfl rfl rfl rfl rfl ?_
              refine po_evs (T := tab) 1 rfl rfl ?_
              refine po_nil ?_
              refine pn_seq ?_
              refine pw_cnd rfl ?_ ?_
              · refine pw_skip ?_
                refine pn_seq ?_
                refine pw_seq ?_
                refine pw_block ?_
                refine pw_seq ?_
                refine pw_region ?_
                refine po_evs (T := tab) 3 rfl rfl ?_
                refine po_idx (T := tab) cStr y5.Watch rfl rfl rfl rfl rfl rfl rfl fun y13 hy13 => ?_
                refine po_evs (T := tab) 3 rfl rfl ?_
                refine po_nil ?_
                refine pn_seq ?_
                refine pw_cnd rfl ?_ ?_
                · refine pw_seq ?_
                  refine pw_region ?_
                  refine po_evs (T := tab) 1 rfl rfl ?_
                  refine po_nil ?_
                  refine pn_seq ?_
                  exact pw_retN (T := tab) rfl rfl rfl ⟨rfl, rfl⟩ trivial rfl
                · refine pw_skip ?_
                  refine pn_block ?_
                  refine pn_seq ?_
                  refine pw_region ?_
                  refine po_evs (T := tab) 1 rfl rfl ?_
                  refine po_arith' (T := tab) rfl rfl rfl rfl fun i14 hi14 => ?_
                  refine po_evs (T := tab) 1 rfl rfl ?_
                  refine po_nil ?_
                  exact pn_iter' i14 ⟨rfl, rfl, rfl, rfl, trivial⟩ ⟨rfl, rfl, trivial⟩ rfl
              · refine pw_exit rfl ?_
                refine pn_block ?_
                refine pn_seq ?_
                refine pw_region ?_
                refine po_evs (T := tab) 1 rfl rfl ?_
                refine po_arith' (T := tab) rfl rfl rfl rfl fun i15 hi15 => ?_
                refine po_evs (T := tab) 1 rfl rfl ?_
                refine po_nil ?_
                exact pn_iter' i15 ⟨rfl, rfl, trivial⟩ ⟨rfl, trivial⟩ rfl
      · refine pw_exit rfl ?_
        refine pn_seq ?_
        refine pw_seq ?_
        refine pw_region ?_
        refine po_evs (T := tab) 1 rfl rfl ?_
        refine po_nil ?_
        refine pn_seq ?_
        exact pw_retN (T := tab) rfl rfl rfl ⟨rfl, rfl⟩ trivial rfl

def Instarref03_Short_l1 (f1 : Forest) : Nat → Int → Option Bool
  | 0, _ => none
  | k1 + 1, i2 => cnd (decide (i2 < ((f1.Nodes.length : Nat) : Int))) (bnd (idx f1.Nodes i2) fun y3 => cnd (decide (((y3.Kids.length : Nat) : Int) > 60)) (some false) (bnd (idx f1.Nodes i2) fun y4 => cnd (decide (((y4.Attrs.length : Nat) : Int) > 60)) (some false) (bnd (idx f1.Nodes i2) fun y5 => cnd (decide (((y5.Name.length : Nat) : Int) > 300)) (some false) (bnd (rng .i64 (i2 + 1)) fun i6 => (Instarref03_Short_l1 f1 k1) i6)))) (some true)

def Instarref03_Short_m (fu : Nat) (f1 : Forest) : Option Bool := cnd (decide (((f1.Nodes.length : Nat) : Int) > 60)) (some false) ((Instarref03_Short_l1 f1) fu 0)

set_option maxHeartbeats 10000000 in
set_option maxRecDepth 100000 in
theorem Instarref03_Short_ok (fu : Nat) (f1 : Forest) : ∀ r, Instarref03_Short_m fu f1 = some r → DC Try.prog 8 [.agg (cForest f1)] (.v (.bool r)) := by
  intro r hr
  refine fc_intro (args := [.agg (cForest f1)]) (S := []) (N0 := []) (post := fun r p S => p = .v (.bool r) ∧ S = []) Try.func8 rfl rfl hr fun w0 X X0 σ0 => ?_
  refine pw_seq ?_
  refine pw_region ?_
  refine po_box  1 rfl rfl rfl rfl rfl rfl rfl rfl rfl rfl ?_
  refine po_evs (T := tab) 1 rfl rfl ?_
  refine po_nil ?_
  refine pn_seq ?_
  refine pw_seq ?_
  refine pw_seq ?_
  refine pw_region ?_
  refine po_evs (T := tab) 2 rfl rfl ?_
  refine po_len (T := tab) cNode f1.Nodes rfl rfl rfl rfl rfl rfl rfl rfl ?_
  refine po_evs (T := tab) 1 rfl rfl ?_
  refine po_nil ?_
  refine pn_seq ?_
  refine pw_cnd rfl ?_ ?_
  · refine pw_seq ?_
    refine pw_region ?_
    refine po_evs (T := tab) 1 rfl rfl ?_
    refine po_nil ?_
    refine pn_seq ?_
    exact pw_retN (T := tab) rfl rfl rfl ⟨rfl, rfl⟩ trivial rfl
  · refine pw_skip ?_
    refine pn_seq ?_
    refine pw_seq ?_
    refine pw_seq ?_
    refine pw_region ?_
    refine po_evs (T := tab) 1 rfl rfl ?_
    refine po_nil ?_
    refine pn_seq ?_
    refine pw_block ?_
    refine pw_loop' (Instarref03_Short_l1 f1) (fun (i2 : Int) => [(1, .loc 1 0), (3, .v (.int .i64 i2))]) (fun (i2 : Int) => [(1, .box [.sl 10 false (f1.Nodes.map cNode), .v (.int .i64 f1.Most)])]) fu 0 (fun _ => rfl) ⟨rfl, rfl, trivial⟩ ⟨rfl, trivial⟩ rfl ?_
    rintro k1 i2
    refine pw_seq ?_
    refine pw_seq ?_
    refine pw_region ?_
    refine po_evs (T := tab) 3 rfl rfl ?_
    refine po_len (T := tab) cNode f1.Nodes rfl rfl rfl rfl rfl rfl rfl rfl ?_
    refine po_evs (T := tab) 1 rfl rfl ?_
    refine po_nil ?_
    refine pn_seq ?_
    refine pw_cnd rfl ?_ ?_
    · refine pw_skip ?_
      refine pn_seq ?_
      refine pw_seq ?_
      refine pw_block ?_
      refine pw_seq ?_
      refine pw_region ?_
      refine po_evs (T := tab) 3 rfl rfl ?_
      refine po_idx (T := tab) cNode f1.Nodes rfl rfl rfl rfl rfl rfl rfl fun y3 hy3 => ?_
      refine po_evs (T := tab) 2 rfl rfl ?_
      refine po_len (T := tab) cInt_i64 y3.Kids rfl rfl rfl rfl rfl rfl rfl rfl ?_
      refine po_evs (T := tab) 2 rfl rfl ?_
      refine po_split (j := 23) rfl ?_ ?_
      · refine po_evs (T := tab) 19 rfl rfl ?_
        refine po_nil ?_
        refine pn_seq (pw_then rfl ?_)
        refine pw_seq ?_
        refine pw_region ?_
        refine po_evs (T := tab) 1 rfl rfl ?_
        refine po_nil ?_
        refine pn_seq ?_
        exact pw_retN (T := tab) rfl rfl rfl ⟨rfl, rfl⟩ trivial rfl
      · refine po_evs (T := tab) 3 rfl rfl ?_
        refine po_idx (T := tab) cNode f1.Nodes rfl rfl rfl rfl rfl rfl rfl fun y4 hy4 => ?_
        refine po_evs (T := tab) 2 rfl rfl ?_
        refine po_len (T := tab) cAttr y4.Attrs rfl rfl rfl rfl rfl rfl rfl rfl ?_
        refine po_evs (T := tab) 3 rfl rfl ?_
        refine po_split (j := 33) rfl ?_ ?_
        · refine po_evs (T := tab) 9 rfl rfl ?_
          refine po_nil ?_
          refine pn_seq (pw_then rfl ?_)
          refine pw_seq ?_
          refine pw_region ?_
          refine po_evs (T := tab) 1 rfl rfl ?_
          refine po_nil ?_
          refine pn_seq ?_
          exact pw_retN (T := tab) rfl rfl rfl ⟨rfl, rfl⟩ trivial rfl
        · refine po_evs (T := tab) 3 rfl rfl ?_
          refine po_idx (T := tab) cNode f1.Nodes rfl rfl rfl rfl rfl rfl rfl fun y5 hy5 => ?_
          refine po_evs (T := tab) 5 rfl rfl ?_
          refine po_nil ?_
          refine pn_seq ?_
          refine pw_cnd rfl ?_ ?_
          · refine pw_seq ?_
            refine pw_region ?_
            refine po_evs (T := tab) 1 rfl rfl ?_
            refine po_nil ?_
            refine pn_seq ?_
            exact pw_retN (T := tab) rfl rfl rfl ⟨rfl, rfl⟩ trivial rfl
          · refine pw_skip ?_
            refine pn_block ?_
            refine pn_seq ?_
            refine pw_region ?_
            refine po_evs (T := tab) 1 rfl rfl ?_
            refine po_arith' (T := tab) rfl rfl rfl rfl fun i6 hi6 => ?_
            refine po_evs (T := tab) 1 rfl rfl ?_
            refine po_nil ?_
            exact pn_iter' i6 ⟨rfl, rfl, trivial⟩ ⟨rfl, trivial⟩ rfl
    · refine pw_exit rfl ?_
      refine pn_seq ?_
      refine pw_seq ?_
      refine pw_region ?_
      refine po_evs (T := tab) 1 rfl rfl ?_
      refine po_nil ?_
      refine pn_seq ?_
      exact pw_retN (T := tab) rfl rfl rfl ⟨rfl, rfl⟩ trivial rfl

def Instarref25_calm_l1 (l1 : (List Op)) : Nat → Int → Option Bool
  | 0, _ => none
  | k1 + 1, i2 => cnd (decide (i2 < ((l1.length : Nat) : Int))) (bnd (idx l1 i2) fun y3 => cnd (y3.Kind != 3) (cnd (y3.Kind != 4) (cnd (y3.Kind != 17) (cnd (y3.Kind != 20) (cnd (y3.Kind != 21) (cnd (y3.Kind != 22) (some false) (bnd (rng .i64 (i2 + 1)) fun i4 => (Instarref25_calm_l1 l1 k1) i4)) (bnd (rng .i64 (i2 + 1)) fun i5 => (Instarref25_calm_l1 l1 k1) i5)) (bnd (rng .i64 (i2 + 1)) fun i6 => (Instarref25_calm_l1 l1 k1) i6)) (bnd (rng .i64 (i2 + 1)) fun i7 => (Instarref25_calm_l1 l1 k1) i7)) (bnd (rng .i64 (i2 + 1)) fun i8 => (Instarref25_calm_l1 l1 k1) i8)) (bnd (rng .i64 (i2 + 1)) fun i9 => (Instarref25_calm_l1 l1 k1) i9)) (some true)

def Instarref25_calm_m (fu : Nat) (l1 : (List Op)) : Option Bool := (Instarref25_calm_l1 l1) fu 0

set_option maxHeartbeats 10000000 in
set_option maxRecDepth 100000 in
theorem Instarref25_calm_ok (fu : Nat) (l1 : (List Op)) : ∀ r, Instarref25_calm_m fu l1 = some r → DC Try.prog 32 [.sl 7 false (l1.map cOp)] (.v (.bool r)) := by
  intro r hr
  refine fc_intro (args := [.sl 7 false (l1.map cOp)]) (S := []) (N0 := []) (post := fun r p S => p = .v (.bool r) ∧ S = []) Try.func32 rfl rfl hr fun w0 X X0 σ0 => ?_
  refine pw_seq ?_
  refine pw_region ?_
  refine po_evs (T := tab) 1 rfl rfl ?_
  refine po_nil ?_
  refine pn_seq ?_
  refine pw_seq ?_
  refine pw_seq ?_
  refine pw_region ?_
  refine po_evs (T := tab) 1 rfl rfl ?_
  refine po_nil ?_
  refine pn_seq ?_
  refine pw_block ?_
  refine pw_loop' (Instarref25_calm_l1 l1) (fun (i2 : Int) => [(0, .sl 7 false (l1.map cOp)), (3, .v (.int .i64 i2))]) (fun (i2 : Int) => []) fu 0 (fun _ => rfl) ⟨rfl, rfl, trivial⟩ trivial rfl ?_
  rintro k1 i2
  refine pw_seq ?_
  refine pw_seq ?_
  refine pw_region ?_
  refine po_evs (T := tab) 2 rfl rfl ?_
  refine po_len (T := tab) cOp l1 rfl rfl rfl rfl rfl rfl rfl rfl ?_
  refine po_evs (T := tab) 1 rfl rfl ?_
  refine po_nil ?_
  refine pn_seq ?_
  refine pw_cnd rfl ?_ ?_
  · refine pw_skip ?_
    refine pn_seq ?_
    refine pw_seq ?_
    refine pw_block ?_
    refine pw_seq ?_
    refine pw_region ?_
    refine po_evs (T := tab) 2 rfl rfl ?_
    refine po_idx (T := tab) cOp l1 rfl rfl rfl rfl rfl rfl rfl fun y3 hy3 => ?_
    refine po_evs (T := tab) 3 rfl rfl ?_
    refine po_nil ?_
    refine pn_seq ?_
    refine pw_seq ?_
    refine pw_region ?_
    refine po_evs (T := tab) 3 rfl rfl ?_
    refine po_split (j := 18) rfl ?_ ?_
    · refine po_evs (T := tab) 4 rfl rfl ?_
      refine po_split (j := 22) rfl ?_ ?_
      · refine po_evs (T := tab) 4 rfl rfl ?_
        refine po_split (j := 26) rfl ?_ ?_
        · refine po_evs (T := tab) 4 rfl rfl ?_
          refine po_split (j := 30) rfl ?_ ?_
          · refine po_evs (T := tab) 4 rfl rfl ?_
            refine po_split (j := 34) rfl ?_ ?_
            · refine po_evs (T := tab) 3 rfl rfl ?_
              refine po_nil ?_
              refine pn_seq ?_
              refine pw_cnd rfl ?_ ?_
              · refine pw_seq ?_
                refine pw_region ?_
                refine po_evs (T := tab) 1 rfl rfl ?_
                refine po_nil ?_
                refine pn_seq ?_
                exact pw_retN (T := tab) rfl rfl rfl ⟨rfl, rfl⟩ trivial rfl
              · refine pw_skip ?_
                refine pn_block ?_
                refine pn_seq ?_
                refine pw_region ?_
                refine po_evs (T := tab) 1 rfl rfl ?_
                refine po_arith' (T := tab) rfl rfl rfl rfl fun i4 hi4 => ?_
                refine po_evs (T := tab) 1 rfl rfl ?_
                refine po_nil ?_
                exact pn_iter' i4 ⟨rfl, rfl, trivial⟩ trivial rfl
            · refine po_evs (T := tab) 3 rfl rfl ?_
              refine po_nil ?_
              refine pn_seq (pw_else rfl ?_)
              refine pw_skip ?_
              refine pn_block ?_
              refine pn_seq ?_
              refine pw_region ?_
              refine po_evs (T := tab) 1 rfl rfl ?_
              refine po_arith' (T := tab) rfl rfl rfl rfl fun i5 hi5 => ?_
              refine po_evs (T := tab) 1 rfl rfl ?_
              refine po_nil ?_
              exact pn_iter' i5 ⟨rfl, rfl, trivial⟩ trivial rfl
          · refine po_evs (T := tab) 7 rfl rfl ?_
            refine po_nil ?_
            refine pn_seq (pw_else rfl ?_)
            refine pw_skip ?_
            refine pn_block ?_
            refine pn_seq ?_
            refine pw_region ?_
            refine po_evs (T := tab) 1 rfl rfl ?_
            refine po_arith' (T := tab) rfl rfl rfl rfl fun i6 hi6 => ?_
            refine po_evs (T := tab) 1 rfl rfl ?_
            refine po_nil ?_
            exact pn_iter' i6 ⟨rfl, rfl, trivial⟩ trivial rfl
        · refine po_evs (T := tab) 11 rfl rfl ?_
          refine po_nil ?_
          refine pn_seq (pw_else rfl ?_)
          refine pw_skip ?_
          refine pn_block ?_
          refine pn_seq ?_
          refine pw_region ?_
          refine po_evs (T := tab) 1 rfl rfl ?_
          refine po_arith' (T := tab) rfl rfl rfl rfl fun i7 hi7 => ?_
          refine po_evs (T := tab) 1 rfl rfl ?_
          refine po_nil ?_
          exact pn_iter' i7 ⟨rfl, rfl, trivial⟩ trivial rfl
      · refine po_evs (T := tab) 15 rfl rfl ?_
        refine po_nil ?_
        refine pn_seq (pw_else rfl ?_)
        refine pw_skip ?_
        refine pn_block ?_
        refine pn_seq ?_
        refine pw_region ?_
        refine po_evs (T := tab) 1 rfl rfl ?_
        refine po_arith' (T := tab) rfl rfl rfl rfl fun i8 hi8 => ?_
        refine po_evs (T := tab) 1 rfl rfl ?_
        refine po_nil ?_
        exact pn_iter' i8 ⟨rfl, rfl, trivial⟩ trivial rfl
    · refine po_evs (T := tab) 19 rfl rfl ?_
      refine po_nil ?_
      refine pn_seq (pw_else rfl ?_)
      refine pw_skip ?_
      refine pn_block ?_
      refine pn_seq ?_
      refine pw_region ?_
      refine po_evs (T := tab) 1 rfl rfl ?_
      refine po_arith' (T := tab) rfl rfl rfl rfl fun i9 hi9 => ?_
      refine po_evs (T := tab) 1 rfl rfl ?_
      refine po_nil ?_
      exact pn_iter' i9 ⟨rfl, rfl, trivial⟩ trivial rfl
  · refine pw_exit rfl ?_
    refine pn_seq ?_
    refine pw_seq ?_
    refine pw_region ?_
    refine po_evs (T := tab) 1 rfl rfl ?_
    refine po_nil ?_
    refine pn_seq ?_
    exact pw_retN (T := tab) rfl rfl rfl ⟨rfl, rfl⟩ trivial rfl

def Instarref25_Calm_l1 (fu : Nat) (c1 : Class) : Nat → Int → Option Bool
  | 0, _ => none
  | k1 + 1, i2 => cnd (decide (i2 < ((c1.Hooks.length : Nat) : Int))) (bnd (idx c1.Hooks i2) fun y3 => bnd (Instarref25_calm_m fu y3.Do) fun r4 => cnd (!r4) (some false) (bnd (rng .i64 (i2 + 1)) fun i5 => (Instarref25_Calm_l1 fu c1 k1) i5)) (bnd (Instarref25_calm_m fu c1.Peek) fun r6 => cnd r6 (bnd (Instarref25_calm_m fu c1.Make) fun r7 => some r7) (some false))

def Instarref25_Calm_m (fu : Nat) (c1 : Class) : Option Bool := (Instarref25_Calm_l1 fu c1) fu 0

end Go.Proofs.Ytcojcgljfgljjaa
