/- Models and proofs, printed by emit2.py. -/
import Derived.Test.YtcaepigodglihaaG1
namespace Go.Proofs.Ytcaepigodglihaa
open Go Go.Pw
set_option linter.unusedVariables false

set_option maxRecDepth 100000 in
theorem Slices_ContainsFunc_int_i2_ok (fu : Nat) (s1 : (List Int)) (c2 : Forest) : ∀ r, Slices_ContainsFunc_int_m fu (fun (z1 : Int) => Shade_there_1_m fu z1 c2) s1 = some r → FC Try.prog 94 [.sl 1 false (s1.map cInt_i64), .fn (.func 97) [] [.loc 900000 0]] [(900000, .box [.sl 10 false (c2.Nodes.map cNode), .v (.int .i64 c2.Most)])] [900000] fun p S' => p = .v (.bool r) ∧ S' = [(900000, .box [.sl 10 false (c2.Nodes.map cNode), .v (.int .i64 c2.Most)])] := by
  intro r hr
  refine fc_intro (args := [.sl 1 false (s1.map cInt_i64), .fn (.func 97) [] [.loc 900000 0]]) (S := [(900000, .box [.sl 10 false (c2.Nodes.map cNode), .v (.int .i64 c2.Most)])]) (N0 := [900000]) (post := fun r p S => p = .v (.bool r) ∧ S = [(900000, .box [.sl 10 false (c2.Nodes.map cNode), .v (.int .i64 c2.Most)])]) Try.func94 rfl rfl hr fun w0 X X0 σ0 => ?_
  refine pw_seq ?_
  refine pw_region ?_
  refine po_evs (T := tab) 1 rfl rfl ?_
  refine po_nil ?_
  refine pn_seq ?_
  refine pw_seq ?_
  refine pw_region ?_
  refine po_evs (T := tab) 2 rfl rfl ?_
  refine po_callv (enc := fun (r3 : Int) => .v (.int .i64 r3)) (first := []) (cap := []) (qs := [.sl 1 false (s1.map cInt_i64), .fn (.func 97) [] [.loc 900000 0]]) (Sc := [(900000, .box [.sl 10 false (c2.Nodes.map cNode), .v (.int .i64 c2.Most)])]) (fun r3 hr3 => fc_ren [(900000, 900000)] [900000] (Slices_IndexFunc_int_i2_ok fu s1 c2 _ hr3) rfl rfl rfl rfl rfl rfl) (subS_of ⟨rfl, trivial⟩ rfl) rfl rfl rfl rfl ⟨⟨_, rfl, .rfl⟩, ⟨_, rfl, .rfl⟩, trivial⟩ (fun _ => rfl) call105 rfl rfl fun r3 hr3 => ?_
  refine po_evs (T := tab) 2 rfl rfl ?_
  refine po_nil ?_
  refine pn_seq ?_
  exact pw_retN (T := tab) rfl rfl rfl ⟨rfl, rfl⟩ ⟨rfl, trivial⟩ rfl

def Shade_there_m (fu : Nat) (f1 : Forest) (l2 : (List Int)) : Option Bool := bnd (Forest_Right_m fu f1) fun r3 => cnd r3 (bnd (Slices_ContainsFunc_int_m fu (fun (z1 : Int) => Shade_there_1_m fu z1 f1) l2) fun r4 => some (!r4)) (some false)

set_option maxRecDepth 100000 in
theorem Shade_there_ok (fu : Nat) (f1 : Forest) (l2 : (List Int)) : ∀ r, Shade_there_m fu f1 l2 = some r → DC Try.prog 69 [.agg (cForest f1), .sl 1 false (l2.map cInt_i64)] (.v (.bool r)) := by
  intro r hr
  refine fc_intro (args := [.agg (cForest f1), .sl 1 false (l2.map cInt_i64)]) (S := []) (N0 := []) (post := fun r p S => p = .v (.bool r) ∧ S = []) Try.func69 rfl rfl hr fun w0 X X0 σ0 => ?_
  refine pw_seq ?_
  refine pw_region ?_
  refine po_box  2 rfl rfl rfl rfl rfl rfl rfl rfl rfl rfl ?_
  refine po_evs (T := tab) 1 rfl rfl ?_
  refine po_nil ?_
  refine pn_seq ?_
  refine pw_seq ?_
  refine pw_region ?_
  refine po_evs (T := tab) 2 rfl rfl ?_
  refine po_nil ?_
  refine pn_seq ?_
  refine pw_seq ?_
  refine pw_region ?_
  refine po_evs (T := tab) 1 rfl rfl ?_
  refine po_call (enc := fun (r3 : Bool) => .v (.bool r3)) (qs := [.agg (cForest f1)]) (Forest_Right_ok fu f1) rfl rfl ⟨⟨_, rfl, .rfl⟩, trivial⟩ (fun _ => rfl) call19 rfl rfl fun r3 hr3 => ?_
  refine po_evs (T := tab) 1 rfl rfl ?_
  refine po_split (j := 9) rfl ?_ ?_
  · refine po_evs (T := tab) 2 rfl rfl ?_
    refine po_callv (enc := fun (r4 : Bool) => .v (.bool r4)) (first := []) (cap := []) (qs := [.sl 1 false (l2.map cInt_i64), .fn (.func 97) [] [.loc 2 0]]) (Sc := [(2, .box [.sl 10 false (f1.Nodes.map cNode), .v (.int .i64 f1.Most)])]) (fun r4 hr4 => fc_ren [(900000, 2)] [900000] (Slices_ContainsFunc_int_i2_ok fu l2 f1 _ hr4) rfl rfl rfl rfl rfl rfl) (subS_of ⟨rfl, trivial⟩ rfl) rfl rfl rfl rfl ⟨⟨_, rfl, .rfl⟩, ⟨_, rfl, .rfl⟩, trivial⟩ (fun _ => rfl) call94 rfl rfl fun r4 hr4 => ?_
    refine po_evs (T := tab) 3 rfl rfl ?_
    refine po_nil ?_
    refine pn_seq ?_
    exact pw_retN (T := tab) rfl rfl rfl ⟨rfl, rfl⟩ trivial rfl
  · refine po_evs (T := tab) 6 rfl rfl ?_
    refine po_nil ?_
    refine pn_seq ?_
    exact pw_retN (T := tab) rfl rfl rfl ⟨rfl, rfl⟩ trivial rfl

def Shade_All_l2 (l4 : (List Int)) (y7 : Int) (y9 : Node) (rc1 : ((List Int) × (List Int)) → Option (List Int)) : Nat → (List Int) → Option (List Int)
  | 0, l10 => cnd (y9.Under != (-1)) (bnd (roomy 8 (l10.length + ([y9.Under] : List Int).length)) fun _ => rc1 ((l4 ++ [y7]), (l10 ++ [y9.Under]))) (rc1 ((l4 ++ [y7]), l10))
  | k2 + 1, l10 => bnd (y9.Kids[k2]?) fun y11 => bnd (roomy 8 (l10.length + ([y11] : List Int).length)) fun _ => (Shade_All_l2 l4 y7 y9 rc1 k2) (l10 ++ [y11])

def Shade_All_l1 (f1 : Forest) : Nat → (List Int) × (List Int) → Option (List Int)
  | 0, _ => none
  | k1 + 1, (l4, l5) => cnd (decide (((l5.length : Nat) : Int) > 0)) (bnd (rng .i64 (((l5.length : Nat) : Int) - 1)) fun i6 => bnd (idx l5 i6) fun y7 => bnd (piece l5 0 i6) fun l8 => bnd (roomy 8 (l4.length + ([y7] : List Int).length)) fun _ => bnd (idx f1.Nodes y7) fun y9 => (Shade_All_l2 l4 y7 y9 (Shade_All_l1 f1 k1)) y9.Kids.length l8) (some l4)

def Shade_All_m (fu : Nat) (f1 : Forest) (n2 : Int) : Option (List Int) := bnd (Shade_there_m fu f1 [n2]) fun r3 => cnd (!r3) (some ([] : List Int)) ((Shade_All_l1 f1) fu ([], [n2]))

set_option maxHeartbeats 10000000 in
set_option maxRecDepth 100000 in
theorem Shade_All_ok (fu : Nat) (f1 : Forest) (n2 : Int) : ∀ r, Shade_All_m fu f1 n2 = some r → FC Try.prog 41 [.agg (cForest f1), .v (.int .i64 n2)] [] [] fun p S' => p = .own 1035 ∧ S' = [(1035, .arr 3 1 (r.map cInt_i64))] := by
  intro r hr
  refine fc_intro (args := [.agg (cForest f1), .v (.int .i64 n2)]) (S := []) (N0 := []) (post := fun r p S => p = .own 1035 ∧ S = [(1035, .arr 3 1 (r.map cInt_i64))]) Try.func41 rfl rfl hr fun w0 X X0 σ0 => ?_
  refine pw_seq ?_
  refine pw_region ?_
  refine po_box  2 rfl rfl rfl rfl rfl rfl rfl rfl rfl rfl ?_
  refine po_evs (T := tab) 1 rfl rfl ?_
  refine po_nil ?_
  refine pn_seq ?_
  refine pw_seq ?_
  refine pw_seq ?_
  refine pw_region ?_
  refine po_evs (T := tab) 2 rfl rfl ?_
  refine po_lit (T := tab) (rows := [n2].map cInt_i64) 14 rfl rfl rfl rfl rfl rfl rfl rfl rfl rfl rfl rfl rfl rfl ?_
  refine po_freeze 14 rfl rfl rfl ?_
  refine po_call (enc := fun (r3 : Bool) => .v (.bool r3)) (qs := [.agg (cForest f1), .sl 1 false ([n2].map cInt_i64)]) (Shade_there_ok fu f1 [n2]) rfl rfl ⟨⟨_, rfl, .rfl⟩, ⟨_, rfl, .rfl⟩, trivial⟩ (fun _ => rfl) call69 rfl rfl fun r3 hr3 => ?_
  refine po_evs (T := tab) 1 rfl rfl ?_
  refine po_nil ?_
  refine pn_seq ?_
  refine pw_cnd rfl ?_ ?_
  · refine pw_seq ?_
    refine pw_region ?_
    refine po_evs (T := tab) 1 rfl rfl ?_
    refine po_nil ?_
    refine pn_seq ?_
    refine pw_own_nil 1035 3 1 4 rfl rfl rfl rfl ?_
    exact pw_retN (T := tab) rfl rfl rfl ⟨rfl, rfl⟩ ⟨rfl, trivial⟩ rfl
  · refine pw_skip ?_
    refine pn_seq ?_
    refine pw_seq ?_
    refine pw_region ?_
    refine po_evs (T := tab) 1 rfl rfl ?_
    refine po_nil ?_
    refine pn_seq ?_
    refine pw_seq ?_
    refine pw_seq ?_
    refine pw_region ?_
    refine po_evs (T := tab) 1 rfl rfl ?_
    refine po_lit (T := tab) (rows := [n2].map cInt_i64) 18 rfl rfl rfl rfl rfl rfl rfl rfl rfl rfl rfl rfl rfl rfl ?_
    refine po_alloc (T := tab) 6 rfl rfl rfl rfl rfl rfl rfl rfl rfl ?_
    refine po_store (T := tab) rfl rfl rfl rfl rfl rfl rfl rfl rfl rfl rfl rfl ?_
    refine po_nil ?_
    refine pn_seq ?_
    refine pw_block ?_
    refine pw_own_nil 1035 3 1 5 rfl rfl rfl rfl ?_
    refine pw_loop' (Shade_All_l1 f1) (fun ((l4, l5) : (List Int) × (List Int)) => [(2, .loc 2 0), (5, .own 1035), (6, .loc 6 0)]) (fun ((l4, l5) : (List Int) × (List Int)) => [(1035, .arr 3 1 (l4.map cInt_i64)), (6, .box [.own 18]), (18, .arr 3 1 (l5.map cInt_i64)), (2, .box [.sl 10 false (f1.Nodes.map cNode), .v (.int .i64 f1.Most)])]) fu ([], [n2]) (fun _ => rfl) ⟨rfl, rfl, rfl, trivial⟩ ⟨rfl, rfl, rfl, rfl, trivial⟩ rfl ?_
    rintro k1 ⟨l4, l5⟩
    refine pw_seq ?_
    refine pw_seq ?_
    refine pw_region ?_
    refine po_evs (T := tab) 1 rfl rfl ?_
    refine po_len_own (T := tab) cInt_i64 l5 rfl rfl rfl rfl rfl rfl rfl rfl rfl ?_
    refine po_evs (T := tab) 1 rfl rfl ?_
    refine po_nil ?_
    refine pn_seq ?_
    refine pw_cnd rfl ?_ ?_
    · refine pw_skip ?_
      refine pn_seq ?_
      refine pw_seq ?_
      refine pw_block ?_
      refine pw_seq ?_
      refine pw_region ?_
      refine po_evs (T := tab) 1 rfl rfl ?_
      refine po_len_own (T := tab) cInt_i64 l5 rfl rfl rfl rfl rfl rfl rfl rfl rfl ?_
      refine po_arith' (T := tab) rfl rfl rfl rfl fun i6 hi6 => ?_
      refine po_evs (T := tab) 1 rfl rfl ?_
      refine po_nil ?_
      refine pn_seq ?_
      refine pw_seq ?_
      refine pw_region ?_
      refine po_evs (T := tab) 2 rfl rfl ?_
      refine po_idx_own (T := tab) cInt_i64 l5 rfl rfl rfl rfl rfl rfl rfl rfl fun y7 hy7 => ?_
      refine po_load_ela (T := tab) cInt_i64 l5 y7 (idx_at hy7) rfl rfl rfl rfl rfl rfl rfl rfl ?_
      refine po_evs (T := tab) 1 rfl rfl ?_
      refine po_nil ?_
      refine pn_seq ?_
      refine pw_seq ?_
      refine pw_region ?_
      refine po_evs (T := tab) 2 rfl rfl ?_
      refine po_own_cut (T := tab) cInt_i64 l5 rfl rfl rfl rfl rfl rfl rfl rfl rfl rfl rfl fun l8 hl8 => ?_
      refine po_store (T := tab) rfl rfl rfl rfl rfl rfl rfl rfl rfl rfl rfl rfl ?_
      refine po_nil ?_
      refine pn_seq ?_
      refine pw_seq ?_
      refine pw_region ?_
      refine po_evs (T := tab) 2 rfl rfl ?_
      refine po_lit (T := tab) (rows := [y7].map cInt_i64) 34 rfl rfl rfl rfl rfl rfl rfl rfl rfl rfl rfl rfl rfl rfl ?_
      refine po_append (T := tab) cInt_i64 l4 ([y7] : List Int) rfl rfl rfl rfl rfl rfl rfl rfl rfl rfl rfl rfl rfl rfl (cInt_i64_one _) rfl rfl rfl rfl rfl ?_
      refine po_evs (T := tab) 1 rfl rfl ?_
      refine po_nil ?_
      refine pn_seq ?_
      refine pw_seq ?_
      refine pw_region ?_
      refine po_evs (T := tab) 3 rfl rfl ?_
      refine po_idx (T := tab) cNode f1.Nodes rfl rfl rfl rfl rfl rfl rfl fun y9 hy9 => ?_
      refine po_evs (T := tab) 1 rfl rfl ?_
      refine po_alloc (T := tab) 9 rfl rfl rfl rfl rfl rfl rfl rfl rfl ?_
      refine po_store (T := tab) rfl rfl rfl rfl rfl rfl rfl rfl rfl rfl rfl rfl ?_
      refine po_nil ?_
      refine pn_seq ?_
      refine pw_seq ?_
      refine pw_seq ?_
      refine pw_region ?_
      refine po_evs (T := tab) 2 rfl rfl ?_
      refine po_backward (n := 3043) tab Try.func66 rfl rfl rfl rfl rfl rfl rfl rfl rfl rfl rfl rfl ⟨⟨_, rfl, .rfl⟩, trivial⟩ call66 rfl rfl ?_
      refine po_nil ?_
      refine pn_seq ?_
      refine pw_block ?_
      refine pw_back (T := tab) (enc := cInt_i64) (enc' := fun (y11 : Int) => .v (.int .i64 y11)) (xs := y9.Kids) (x0 := l8) (n := 3043) (tS := 26) (tE := 3) (tI := 3) (tB := 4) (tF := 65) (g := 96) (M := (Shade_All_l2 l4 y7 y9 (Shade_All_l1 f1 k1))) (Sf := fun (l10 : (List Int)) => [(9, .box [.v (.int .i64 y9.Kind), .v (.string ⟨⟨y9.Name⟩⟩), .v (.string ⟨⟨y9.Is⟩⟩), .v (.string ⟨⟨y9.Data⟩⟩), .sl 2 false (y9.Attrs.map cAttr), .v (.int .i64 y9.Parent), .sl 1 false (y9.Kids.map cInt_i64), .v (.int .i64 y9.Host), .v (.int .i64 y9.Under), .v (.int .i64 y9.Doc)]), (1035, .arr 3 1 ((l4 ++ [y7]).map cInt_i64)), (18, .arr 3 1 (l10.map cInt_i64)), (6, .box [.own 18]), (2, .box [.sl 10 false (f1.Nodes.map cNode), .v (.int .i64 f1.Most)])]) (N1 := [2, 6, 9, 1035]) (E0 := [(2, .loc 2 0), (5, .own 1035), (6, .loc 6 0), (9, .loc 9 0)]) (E1 := fun k2 y11 => [(2, .loc 2 0), (5, .own 1035), (6, .loc 6 0), (9, .loc 9 0), (44, .v (.int .i64 ((k2 : Nat) : Int))), (45, .v (.int .i64 y11)), (11, .v (.int .i64 y11))]) Try.func96 rfl rfl rfl call96 rfl rfl (fun _ => rfl) (fun _ => rfl) rfl rfl ⟨rfl, rfl, rfl, rfl, trivial⟩ rfl rfl ⟨rfl, rfl, rfl, rfl, rfl, trivial⟩ rfl rfl rfl rfl rfl rfl ?_ ?_ ?_
      · rintro k2 y11 l10 hy w0 X X0 σ0
        refine po_evs (T := tab) 1 rfl rfl ?_
        refine po_nil ?_
        exact pn_end0 ⟨rfl, rfl, rfl, rfl, rfl, rfl, rfl, trivial⟩ ⟨rfl, rfl, rfl, rfl, rfl, trivial⟩ rfl
      · rintro k2 y11 l10 hy w0 X X0 σ0
        refine po_known hy ?_
        refine po_evs (T := tab) 2 rfl rfl ?_
        refine po_lit (T := tab) (rows := [y11].map cInt_i64) 48 rfl rfl rfl rfl rfl rfl rfl rfl rfl rfl rfl rfl rfl rfl ?_
        refine po_append (T := tab) cInt_i64 l10 ([y11] : List Int) rfl rfl rfl rfl rfl rfl rfl rfl rfl rfl rfl rfl rfl rfl (cInt_i64_one _) rfl rfl rfl rfl rfl ?_
        refine po_store (T := tab) rfl rfl rfl rfl rfl rfl rfl rfl rfl rfl rfl rfl ?_
        refine po_nil ?_
        exact pn_iter' (l10 ++ [y11]) trivial ⟨rfl, rfl, rfl, rfl, rfl, trivial⟩ rfl
      · rintro l10
        refine pn_block ?_
        refine pn_seq ?_
        refine pw_seq ?_
        refine pw_region ?_
        refine po_evs (T := tab) 3 rfl rfl ?_
        refine po_nil ?_
        refine pn_seq ?_
        refine pw_cnd rfl ?_ ?_
        · refine pw_region ?_
          refine po_evs (T := tab) 3 rfl rfl ?_
          refine po_lit (T := tab) (rows := [y9.Under].map cInt_i64) 56 rfl rfl rfl rfl rfl rfl rfl rfl rfl rfl rfl rfl rfl rfl ?_
          refine po_append (T := tab) cInt_i64 l10 ([y9.Under] : List Int) rfl rfl rfl rfl rfl rfl rfl rfl rfl rfl rfl rfl rfl rfl (cInt_i64_one _) rfl rfl rfl rfl rfl ?_
          refine po_store (T := tab) rfl rfl rfl rfl rfl rfl rfl rfl rfl rfl rfl rfl ?_
          refine po_nil ?_
          refine pn_block ?_
          refine pn_seq ?_
          refine pw_seq ?_
          refine pw_region ?_
          refine po_evs (T := tab) 1 rfl rfl ?_
          refine po_nil ?_
          refine pn_seq ?_
          refine pw_region ?_
          refine po_alloc (T := tab) 6 rfl rfl rfl rfl rfl rfl rfl rfl rfl ?_
          refine po_store (T := tab) rfl rfl rfl rfl rfl rfl rfl rfl rfl rfl rfl rfl ?_
          refine po_nil ?_
          exact pn_iter' ((l4 ++ [y7]), (l10 ++ [y9.Under])) ⟨rfl, rfl, rfl, trivial⟩ ⟨rfl, rfl, rfl, rfl, trivial⟩ rfl
        · refine pw_skip ?_
          refine pn_block ?_
          refine pn_seq ?_
          refine pw_seq ?_
          refine pw_region ?_
          refine po_evs (T := tab) 1 rfl rfl ?_
          refine po_nil ?_
          refine pn_seq ?_
          refine pw_region ?_
          refine po_alloc (T := tab) 6 rfl rfl rfl rfl rfl rfl rfl rfl rfl ?_
          refine po_store (T := tab) rfl rfl rfl rfl rfl rfl rfl rfl rfl rfl rfl rfl ?_
          refine po_nil ?_
          exact pn_iter' ((l4 ++ [y7]), l10) ⟨rfl, rfl, rfl, trivial⟩ ⟨rfl, rfl, rfl, rfl, trivial⟩ rfl
    · refine pw_exit rfl ?_
      refine pn_seq ?_
      refine pw_seq ?_
      refine pw_region ?_
      refine po_evs (T := tab) 2 rfl rfl ?_
      refine po_nil ?_
      refine pn_seq ?_
      exact pw_retN (T := tab) rfl rfl rfl ⟨rfl, rfl⟩ ⟨rfl, trivial⟩ rfl

def Shade_up_m (_fu : Nat) (f1 : Forest) (n2 : Int) : Option Int := bnd (idx f1.Nodes n2) fun y3 => cnd (y3.Parent != (-1)) (some y3.Parent) (bnd (idx f1.Nodes n2) fun y4 => some y4.Host)

set_option maxRecDepth 100000 in
theorem Shade_up_ok (fu : Nat) (f1 : Forest) (n2 : Int) : ∀ r, Shade_up_m fu f1 n2 = some r → DC Try.prog 73 [.agg (cForest f1), .v (.int .i64 n2)] (.v (.int .i64 r)) := by
  intro r hr
  refine fc_intro (args := [.agg (cForest f1), .v (.int .i64 n2)]) (S := []) (N0 := []) (post := fun r p S => p = .v (.int .i64 r) ∧ S = []) Try.func73 rfl rfl hr fun w0 X X0 σ0 => ?_
  refine pw_seq ?_
  refine pw_region ?_
  refine po_box  2 rfl rfl rfl rfl rfl rfl rfl rfl rfl rfl ?_
  refine po_evs (T := tab) 1 rfl rfl ?_
  refine po_nil ?_
  refine pn_seq ?_
  refine pw_seq ?_
  refine pw_seq ?_
  refine pw_region ?_
  refine po_evs (T := tab) 3 rfl rfl ?_
  refine po_idx (T := tab) cNode f1.Nodes rfl rfl rfl rfl rfl rfl rfl fun y3 hy3 => ?_
  refine po_evs (T := tab) 3 rfl rfl ?_
  refine po_nil ?_
  refine pn_seq ?_
  refine pw_seq ?_
  refine pw_region ?_
  refine po_evs (T := tab) 2 rfl rfl ?_
  refine po_nil ?_
  refine pn_seq ?_
  refine pw_cnd rfl ?_ ?_
  · refine pw_seq ?_
    refine pw_region ?_
    refine po_evs (T := tab) 2 rfl rfl ?_
    refine po_nil ?_
    refine pn_seq ?_
    exact pw_retN (T := tab) rfl rfl rfl ⟨rfl, rfl⟩ trivial rfl
  · refine pw_skip ?_
    refine pn_seq ?_
    refine pw_seq ?_
    refine pw_region ?_
    refine po_evs (T := tab) 3 rfl rfl ?_
    refine po_idx (T := tab) cNode f1.Nodes rfl rfl rfl rfl rfl rfl rfl fun y4 hy4 => ?_
    refine po_evs (T := tab) 3 rfl rfl ?_
    refine po_nil ?_
    refine pn_seq ?_
    exact pw_retN (T := tab) rfl rfl rfl ⟨rfl, rfl⟩ trivial rfl

def Shade_Top_l1 (fu : Nat) (f1 : Forest) : Nat → Int → Option Int
  | 0, _ => none
  | k1 + 1, n4 => bnd (Shade_up_m fu f1 n4) fun r5 => cnd (r5 != (-1)) (bnd (Shade_up_m fu f1 n4) fun r6 => (Shade_Top_l1 fu f1 k1) r6) (some n4)

def Shade_Top_m (fu : Nat) (f1 : Forest) (n2 : Int) : Option Int := bnd (Shade_there_m fu f1 [n2]) fun r3 => cnd (!r3) (some (-1)) ((Shade_Top_l1 fu f1) fu n2)

set_option maxHeartbeats 10000000 in
set_option maxRecDepth 100000 in
theorem Shade_Top_ok (fu : Nat) (f1 : Forest) (n2 : Int) : ∀ r, Shade_Top_m fu f1 n2 = some r → DC Try.prog 39 [.agg (cForest f1), .v (.int .i64 n2)] (.v (.int .i64 r)) := by
  intro r hr
  refine fc_intro (args := [.agg (cForest f1), .v (.int .i64 n2)]) (S := []) (N0 := []) (post := fun r p S => p = .v (.int .i64 r) ∧ S = []) Try.func39 rfl rfl hr fun w0 X X0 σ0 => ?_
  refine pw_seq ?_
  refine pw_region ?_
  refine po_box  2 rfl rfl rfl rfl rfl rfl rfl rfl rfl rfl ?_
  refine po_evs (T := tab) 1 rfl rfl ?_
  refine po_nil ?_
  refine pn_seq ?_
  refine pw_seq ?_
  refine pw_seq ?_
  refine pw_region ?_
  refine po_evs (T := tab) 2 rfl rfl ?_
  refine po_lit (T := tab) (rows := [n2].map cInt_i64) 7 rfl rfl rfl rfl rfl rfl rfl rfl rfl rfl rfl rfl rfl rfl ?_
  refine po_freeze 7 rfl rfl rfl ?_
  refine po_call (enc := fun (r3 : Bool) => .v (.bool r3)) (qs := [.agg (cForest f1), .sl 1 false ([n2].map cInt_i64)]) (Shade_there_ok fu f1 [n2]) rfl rfl ⟨⟨_, rfl, .rfl⟩, ⟨_, rfl, .rfl⟩, trivial⟩ (fun _ => rfl) call69 rfl rfl fun r3 hr3 => ?_
  refine po_evs (T := tab) 1 rfl rfl ?_
  refine po_nil ?_
  refine pn_seq ?_
  refine pw_cnd rfl ?_ ?_
  · refine pw_seq ?_
    refine pw_region ?_
    refine po_evs (T := tab) 1 rfl rfl ?_
    refine po_nil ?_
    refine pn_seq ?_
    exact pw_retN (T := tab) rfl rfl rfl ⟨rfl, rfl⟩ trivial rfl
  · refine pw_skip ?_
    refine pn_seq ?_
    refine pw_seq ?_
    refine pw_block ?_
    refine pw_loop' (Shade_Top_l1 fu f1) (fun (n4 : Int) => [(1, .v (.int .i64 n4)), (2, .loc 2 0)]) (fun (n4 : Int) => [(2, .box [.sl 10 false (f1.Nodes.map cNode), .v (.int .i64 f1.Most)])]) fu n2 (fun _ => rfl) ⟨rfl, rfl, trivial⟩ ⟨rfl, trivial⟩ rfl ?_
    rintro k1 n4
    refine pw_seq ?_
    refine pw_seq ?_
    refine pw_region ?_
    refine po_evs (T := tab) 2 rfl rfl ?_
    refine po_call (enc := fun (r5 : Int) => .v (.int .i64 r5)) (qs := [.agg (cForest f1), .v (.int .i64 n4)]) (Shade_up_ok fu f1 n4) rfl rfl ⟨⟨_, rfl, .rfl⟩, ⟨_, rfl, .rfl⟩, trivial⟩ (fun _ => rfl) call73 rfl rfl fun r5 hr5 => ?_
    refine po_evs (T := tab) 1 rfl rfl ?_
    refine po_nil ?_
    refine pn_seq ?_
    refine pw_cnd rfl ?_ ?_
    · refine pw_skip ?_
      refine pn_seq ?_
      refine pw_block ?_
      refine pw_region ?_
      refine po_evs (T := tab) 2 rfl rfl ?_
      refine po_call (enc := fun (r6 : Int) => .v (.int .i64 r6)) (qs := [.agg (cForest f1), .v (.int .i64 n4)]) (Shade_up_ok fu f1 n4) rfl rfl ⟨⟨_, rfl, .rfl⟩, ⟨_, rfl, .rfl⟩, trivial⟩ (fun _ => rfl) call73 rfl rfl fun r6 hr6 => ?_
      refine po_evs (T := tab) 1 rfl rfl ?_
      refine po_nil ?_
      refine pn_block ?_
      exact pn_iter' r6 ⟨rfl, rfl, trivial⟩ ⟨rfl, trivial⟩ rfl
    · refine pw_exit rfl ?_
      refine pn_seq ?_
      refine pw_seq ?_
      refine pw_region ?_
      refine po_evs (T := tab) 2 rfl rfl ?_
      refine po_nil ?_
      refine pn_seq ?_
      exact pw_retN (T := tab) rfl rfl rfl ⟨rfl, rfl⟩ trivial rfl

def Shade_Connected_m (fu : Nat) (f1 : Forest) (n2 : Int) : Option Bool := bnd (Shade_Top_m fu f1 n2) fun r3 => cnd (r3 != (-1)) (bnd (idx f1.Nodes r3) fun y4 => some (y4.Kind == 0)) (some false)

set_option maxRecDepth 100000 in
theorem Shade_Connected_ok (fu : Nat) (f1 : Forest) (n2 : Int) : ∀ r, Shade_Connected_m fu f1 n2 = some r → DC Try.prog 40 [.agg (cForest f1), .v (.int .i64 n2)] (.v (.bool r)) := by
  intro r hr
  refine fc_intro (args := [.agg (cForest f1), .v (.int .i64 n2)]) (S := []) (N0 := []) (post := fun r p S => p = .v (.bool r) ∧ S = []) Try.func40 rfl rfl hr fun w0 X X0 σ0 => ?_
  refine pw_seq ?_
  refine pw_region ?_
  refine po_box  2 rfl rfl rfl rfl rfl rfl rfl rfl rfl rfl ?_
  refine po_evs (T := tab) 1 rfl rfl ?_
  refine po_nil ?_
  refine pn_seq ?_
  refine pw_seq ?_
  refine pw_region ?_
  refine po_evs (T := tab) 2 rfl rfl ?_
  refine po_call (enc := fun (r3 : Int) => .v (.int .i64 r3)) (qs := [.agg (cForest f1), .v (.int .i64 n2)]) (Shade_Top_ok fu f1 n2) rfl rfl ⟨⟨_, rfl, .rfl⟩, ⟨_, rfl, .rfl⟩, trivial⟩ (fun _ => rfl) call39 rfl rfl fun r3 hr3 => ?_
  refine po_evs (T := tab) 1 rfl rfl ?_
  refine po_nil ?_
  refine pn_seq ?_
  refine pw_seq ?_
  refine pw_region ?_
  refine po_evs (T := tab) 3 rfl rfl ?_
  refine po_split (j := 11) rfl ?_ ?_
  · refine po_evs (T := tab) 3 rfl rfl ?_
    refine po_idx (T := tab) cNode f1.Nodes rfl rfl rfl rfl rfl rfl rfl fun y4 hy4 => ?_
    refine po_evs (T := tab) 5 rfl rfl ?_
    refine po_nil ?_
    refine pn_seq ?_
    exact pw_retN (T := tab) rfl rfl rfl ⟨rfl, rfl⟩ trivial rfl
  · refine po_evs (T := tab) 9 rfl rfl ?_
    refine po_nil ?_
    refine pn_seq ?_
    exact pw_retN (T := tab) rfl rfl rfl ⟨rfl, rfl⟩ trivial rfl

def Shade_Over_l1 (fu : Nat) (f1 : Forest) (a2 : Int) : Nat → Int → Option Bool
  | 0, _ => none
  | k1 + 1, b5 => cnd (b5 != (-1)) (cnd (b5 != a2) (bnd (Shade_up_m fu f1 b5) fun r6 => (Shade_Over_l1 fu f1 a2 k1) r6) (some (b5 == a2))) (some (b5 == a2))

def Shade_Over_m (fu : Nat) (f1 : Forest) (a2 : Int) (b3 : Int) : Option Bool := bnd (Shade_there_m fu f1 [a2, b3]) fun r4 => cnd (!r4) (some false) ((Shade_Over_l1 fu f1 a2) fu b3)

set_option maxHeartbeats 10000000 in
set_option maxRecDepth 100000 in
theorem Shade_Over_ok (fu : Nat) (f1 : Forest) (a2 : Int) (b3 : Int) : ∀ r, Shade_Over_m fu f1 a2 b3 = some r → DC Try.prog 43 [.agg (cForest f1), .v (.int .i64 a2), .v (.int .i64 b3)] (.v (.bool r)) := by
  intro r hr
  refine fc_intro (args := [.agg (cForest f1), .v (.int .i64 a2), .v (.int .i64 b3)]) (S := []) (N0 := []) (post := fun r p S => p = .v (.bool r) ∧ S = []) Try.func43 rfl rfl hr fun w0 X X0 σ0 => ?_
  refine pw_seq ?_
  refine pw_region ?_
  refine po_box  3 rfl rfl rfl rfl rfl rfl rfl rfl rfl rfl ?_
  refine po_evs (T := tab) 1 rfl rfl ?_
  refine po_nil ?_
  refine pn_seq ?_
  refine pw_seq ?_
  refine pw_seq ?_
  refine pw_region ?_
  refine po_evs (T := tab) 3 rfl rfl ?_
  refine po_lit (T := tab) (rows := [a2, b3].map cInt_i64) 10 rfl rfl rfl rfl rfl rfl rfl rfl rfl rfl rfl rfl rfl rfl ?_
  refine po_freeze 10 rfl rfl rfl ?_
  refine po_call (enc := fun (r4 : Bool) => .v (.bool r4)) (qs := [.agg (cForest f1), .sl 1 false ([a2, b3].map cInt_i64)]) (Shade_there_ok fu f1 [a2, b3]) rfl rfl ⟨⟨_, rfl, .rfl⟩, ⟨_, rfl, .rfl⟩, trivial⟩ (fun _ => rfl) call69 rfl rfl fun r4 hr4 => ?_
  refine po_evs (T := tab) 1 rfl rfl ?_
  refine po_nil ?_
  refine pn_seq ?_
  refine pw_cnd rfl ?_ ?_
  · refine pw_seq ?_
    refine pw_region ?_
    refine po_evs (T := tab) 1 rfl rfl ?_
    refine po_nil ?_
    refine pn_seq ?_
    exact pw_retN (T := tab) rfl rfl rfl ⟨rfl, rfl⟩ trivial rfl
  · refine pw_skip ?_
    refine pn_seq ?_
    refine pw_seq ?_
    refine pw_block ?_
    refine pw_loop' (Shade_Over_l1 fu f1 a2) (fun (b5 : Int) => [(1, .v (.int .i64 a2)), (2, .v (.int .i64 b5)), (3, .loc 3 0)]) (fun (b5 : Int) => [(3, .box [.sl 10 false (f1.Nodes.map cNode), .v (.int .i64 f1.Most)])]) fu b3 (fun _ => rfl) ⟨rfl, rfl, rfl, trivial⟩ ⟨rfl, trivial⟩ rfl ?_
    rintro k1 b5
    refine pw_seq ?_
    refine pw_seq ?_
    refine pw_region ?_
    refine po_evs (T := tab) 3 rfl rfl ?_
    refine po_split (j := 15) rfl ?_ ?_
    · refine po_evs (T := tab) 4 rfl rfl ?_
      refine po_nil ?_
      refine pn_seq ?_
      refine pw_cnd rfl ?_ ?_
      · refine pw_skip ?_
        refine pn_seq ?_
        refine pw_block ?_
        refine pw_region ?_
        refine po_evs (T := tab) 2 rfl rfl ?_
        refine po_call (enc := fun (r6 : Int) => .v (.int .i64 r6)) (qs := [.agg (cForest f1), .v (.int .i64 b5)]) (Shade_up_ok fu f1 b5) rfl rfl ⟨⟨_, rfl, .rfl⟩, ⟨_, rfl, .rfl⟩, trivial⟩ (fun _ => rfl) call73 rfl rfl fun r6 hr6 => ?_
        refine po_evs (T := tab) 1 rfl rfl ?_
        refine po_nil ?_
        refine pn_block ?_
        exact pn_iter' r6 ⟨rfl, rfl, rfl, trivial⟩ ⟨rfl, trivial⟩ rfl
      · refine pw_exit rfl ?_
        refine pn_seq ?_
        refine pw_seq ?_
        refine pw_region ?_
        refine po_evs (T := tab) 4 rfl rfl ?_
        refine po_nil ?_
        refine pn_seq ?_
        exact pw_retN (T := tab) rfl rfl rfl ⟨rfl, rfl⟩ trivial rfl
    · refine po_evs (T := tab) 4 rfl rfl ?_
      refine po_nil ?_
      refine pn_seq (pw_else rfl ?_)
      refine pw_exit rfl ?_
      refine pn_seq ?_
      refine pw_seq ?_
      refine pw_region ?_
      refine po_evs (T := tab) 4 rfl rfl ?_
      refine po_nil ?_
      refine pn_seq ?_
      exact pw_retN (T := tab) rfl rfl rfl ⟨rfl, rfl⟩ trivial rfl

def Shade_Elems_1_m (_fu : Nat) (k1 : Int) (c2 : Forest) : Option Bool := bnd (idx c2.Nodes k1) fun y3 => some (y3.Kind != 1)

set_option maxRecDepth 100000 in
theorem Shade_Elems_1_ok (fu : Nat) (k1 : Int) (c2 : Forest) : ∀ r, Shade_Elems_1_m fu k1 c2 = some r → FC Try.prog 75 [.v (.int .i64 k1), .loc 900000 0] [(900000, .box [.sl 10 false (c2.Nodes.map cNode), .v (.int .i64 c2.Most)])] [900000] fun p S' => p = .v (.bool r) ∧ S' = [(900000, .box [.sl 10 false (c2.Nodes.map cNode), .v (.int .i64 c2.Most)])] := by
  intro r hr
  refine fc_intro (args := [.v (.int .i64 k1), .loc 900000 0]) (S := [(900000, .box [.sl 10 false (c2.Nodes.map cNode), .v (.int .i64 c2.Most)])]) (N0 := [900000]) (post := fun r p S => p = .v (.bool r) ∧ S = [(900000, .box [.sl 10 false (c2.Nodes.map cNode), .v (.int .i64 c2.Most)])]) Try.func75 rfl rfl hr fun w0 X X0 σ0 => ?_
  refine pw_seq ?_
  refine pw_region ?_
  refine po_evs (T := tab) 1 rfl rfl ?_
  refine po_nil ?_
  refine pn_seq ?_
  refine pw_seq ?_
  refine pw_region ?_
  refine po_evs (T := tab) 3 rfl rfl ?_
  refine po_idx (T := tab) cNode c2.Nodes rfl rfl rfl rfl rfl rfl rfl fun y3 hy3 => ?_
  refine po_evs (T := tab) 4 rfl rfl ?_
  refine po_nil ?_
  refine pn_seq ?_
  exact pw_retN (T := tab) rfl rfl rfl ⟨rfl, rfl⟩ ⟨rfl, trivial⟩ rfl

def Slices_IndexFunc_int_v2_l1 (t1 : Int → Option Bool) (l1 : (List Int)) : Nat → Int → Option Int
  | 0, _ => none
  | k1 + 1, t3 => cnd (decide (t3 < ((l1.length : Nat) : Int))) (bnd (idx l1 t3) fun y4 => bnd (t1 y4) fun r5 => cnd r5 (some t3) (bnd (rng .i64 (t3 + 1)) fun i6 => (Slices_IndexFunc_int_v2_l1 t1 l1 k1) i6)) (some (-1))

def Slices_IndexFunc_int_v2_m (fu : Nat) (t1 : Int → Option Bool) (l1 : (List Int)) : Option Int := (Slices_IndexFunc_int_v2_l1 t1 l1) fu 0

set_option maxHeartbeats 10000000 in
set_option maxRecDepth 100000 in
theorem Slices_IndexFunc_int_i3_ok (fu : Nat) (l1 : (List Int)) (c2 : Forest) : ∀ r, Slices_IndexFunc_int_v2_m fu (fun (z1 : Int) => Shade_Elems_1_m fu z1 c2) l1 = some r → FC Try.prog 105 [.own 900000, .fn (.func 75) [] [.loc 900001 0]] [(900000, .arr 3 1 (l1.map cInt_i64)), (900001, .box [.sl 10 false (c2.Nodes.map cNode), .v (.int .i64 c2.Most)])] [900000, 900001] fun p S' => p = .v (.int .i64 r) ∧ S' = [(900000, .arr 3 1 (l1.map cInt_i64)), (900001, .box [.sl 10 false (c2.Nodes.map cNode), .v (.int .i64 c2.Most)])] := by
  intro r hr
  refine fc_intro (args := [.own 900000, .fn (.func 75) [] [.loc 900001 0]]) (S := [(900000, .arr 3 1 (l1.map cInt_i64)), (900001, .box [.sl 10 false (c2.Nodes.map cNode), .v (.int .i64 c2.Most)])]) (N0 := [900000, 900001]) (post := fun r p S => p = .v (.int .i64 r) ∧ S = [(900000, .arr 3 1 (l1.map cInt_i64)), (900001, .box [.sl 10 false (c2.Nodes.map cNode), .v (.int .i64 c2.Most)])]) Try.func105 rfl rfl hr fun w0 X X0 σ0 => ?_
  refine pw_seq ?_
  refine pw_region ?_
  refine po_evs (T := tab) 1 rfl rfl ?_
  refine po_nil ?_
  refine pn_seq ?_
  refine pw_seq ?_
  refine pw_seq ?_
  refine pw_region ?_
  refine po_evs (T := tab) 1 rfl rfl ?_
  refine po_len_own (T := tab) cInt_i64 l1 rfl rfl rfl rfl rfl rfl rfl rfl rfl ?_
  refine po_evs (T := tab) 1 rfl rfl ?_
  refine po_nil ?_
  refine pn_seq ?_
  refine pw_block ?_
  refine pw_loop' (Slices_IndexFunc_int_v2_l1 (fun (z1 : Int) => Shade_Elems_1_m fu z1 c2) l1) (fun (t3 : Int) => [(0, .own 900000), (1, .fn (.func 75) [] [.loc 900001 0]), (7, .v (.int .i64 ((l1.length : Nat) : Int))), (8, .v (.int .i64 t3))]) (fun (t3 : Int) => [(900000, .arr 3 1 (l1.map cInt_i64)), (900001, .box [.sl 10 false (c2.Nodes.map cNode), .v (.int .i64 c2.Most)])]) fu 0 (fun _ => rfl) ⟨rfl, rfl, rfl, rfl, trivial⟩ ⟨rfl, rfl, trivial⟩ rfl ?_
  rintro k1 t3
  refine pw_seq ?_
  refine pw_region ?_
  refine po_evs (T := tab) 1 rfl rfl ?_
  refine po_nil ?_
  refine pn_seq ?_
  refine pw_seq ?_
  refine pw_cnd rfl ?_ ?_
  · refine pw_skip ?_
    refine pn_seq ?_
    refine pw_seq ?_
    refine pw_block ?_
    refine pw_seq ?_
    refine pw_region ?_
    refine po_evs (T := tab) 2 rfl rfl ?_
    refine po_nil ?_
    refine pn_seq ?_
    refine pw_seq ?_
    refine pw_region ?_
    refine po_evs (T := tab) 3 rfl rfl ?_
    refine po_idx_own (T := tab) cInt_i64 l1 rfl rfl rfl rfl rfl rfl rfl rfl fun y4 hy4 => ?_
    refine po_load_ela (T := tab) cInt_i64 l1 y4 (idx_at hy4) rfl rfl rfl rfl rfl rfl rfl rfl ?_
    refine po_callv (enc := fun (r5 : Bool) => .v (.bool r5)) (first := []) (cap := [.loc 900001 0]) (qs := [.v (.int .i64 y4)]) (Sc := [(900001, .box [.sl 10 false (c2.Nodes.map cNode), .v (.int .i64 c2.Most)])]) (fun r5 hr5 => fc_ren [(900000, 900001)] [900000] (Shade_Elems_1_ok fu y4 c2 _ hr5) rfl rfl rfl rfl rfl rfl) (subS_of ⟨rfl, trivial⟩ rfl) rfl rfl rfl rfl ⟨⟨_, rfl, .rfl⟩, trivial⟩ (fun _ => rfl) call75 rfl rfl fun r5 hr5 => ?_
    refine po_nil ?_
    refine pn_seq ?_
    refine pw_cnd rfl ?_ ?_
    · refine pw_seq ?_
      refine pw_region ?_
      refine po_evs (T := tab) 2 rfl rfl ?_
      refine po_nil ?_
      refine pn_seq ?_
      exact pw_retN (T := tab) rfl rfl rfl ⟨rfl, rfl⟩ ⟨rfl, rfl, trivial⟩ rfl
    · refine pw_skip ?_
      refine pn_block ?_
      refine pn_seq ?_
      refine pw_region ?_
      refine po_arith' (T := tab) rfl rfl rfl rfl fun i6 hi6 => ?_
      refine po_evs (T := tab) 1 rfl rfl ?_
      refine po_nil ?_
      exact pn_iter' i6 ⟨rfl, rfl, rfl, rfl, trivial⟩ ⟨rfl, rfl, trivial⟩ rfl
  · refine pw_exit rfl ?_
    refine pn_seq ?_
    refine pw_seq ?_
    refine pw_region ?_
    refine po_evs (T := tab) 1 rfl rfl ?_
    refine po_nil ?_
    refine pn_seq ?_
    exact pw_retN (T := tab) rfl rfl rfl ⟨rfl, rfl⟩ ⟨rfl, rfl, trivial⟩ rfl

def Slices_DeleteFunc_int_l1 (t1 : Int → Option Bool) : Nat → Int × Int × (List Int) → Option (List Int)
  | 0, _ => none
  | k1 + 1, (i5, j6, l7) => cnd (decide (j6 < ((l7.length : Nat) : Int))) (bnd (idx l7 j6) fun y8 => bnd (t1 y8) fun r9 => cnd (!r9) (bnd (idx l7 i5) fun y10 => bnd (rng .i64 (i5 + 1)) fun i11 => bnd (rng .i64 (j6 + 1)) fun i12 => (Slices_DeleteFunc_int_l1 t1 k1) (i11, i12, (l7.set (i5).toNat y8))) (bnd (rng .i64 (j6 + 1)) fun i13 => (Slices_DeleteFunc_int_l1 t1 k1) (i5, i13, l7))) (bnd (tailz l7 i5 (0 : Int)) fun l14 => bnd (piece l14 0 i5) fun l15 => some l15)

def Slices_DeleteFunc_int_m (fu : Nat) (t1 : Int → Option Bool) (l1 : (List Int)) : Option (List Int) := bnd (Slices_IndexFunc_int_v2_m fu t1 l1) fun r3 => cnd (r3 == (-1)) (some l1) (bnd (rng .i64 (r3 + 1)) fun i4 => (Slices_DeleteFunc_int_l1 t1) fu (r3, i4, l1))

set_option maxHeartbeats 10000000 in
set_option maxRecDepth 100000 in
theorem Slices_DeleteFunc_int_ok (fu : Nat) (l1 : (List Int)) (c2 : Forest) : ∀ r, Slices_DeleteFunc_int_m fu (fun (z1 : Int) => Shade_Elems_1_m fu z1 c2) l1 = some r → FC Try.prog 74 [.own 900000, .fn (.func 75) [] [.loc 900001 0]] [(900000, .arr 3 1 (l1.map cInt_i64)), (900001, .box [.sl 10 false (c2.Nodes.map cNode), .v (.int .i64 c2.Most)])] [900001] fun p S' => p = .own 900000 ∧ S' = [(900000, .arr 3 1 (r.map cInt_i64)), (900001, .box [.sl 10 false (c2.Nodes.map cNode), .v (.int .i64 c2.Most)])] := by
  intro r hr
  refine fc_intro (args := [.own 900000, .fn (.func 75) [] [.loc 900001 0]]) (S := [(900000, .arr 3 1 (l1.map cInt_i64)), (900001, .box [.sl 10 false (c2.Nodes.map cNode), .v (.int .i64 c2.Most)])]) (N0 := [900001]) (post := fun r p S => p = .own 900000 ∧ S = [(900000, .arr 3 1 (r.map cInt_i64)), (900001, .box [.sl 10 false (c2.Nodes.map cNode), .v (.int .i64 c2.Most)])]) Try.func74 rfl rfl hr fun w0 X X0 σ0 => ?_
  refine pw_seq ?_
  refine pw_region ?_
  refine po_evs (T := tab) 1 rfl rfl ?_
  refine po_nil ?_
  refine pn_seq ?_
  refine pw_seq ?_
  refine pw_region ?_
  refine po_evs (T := tab) 2 rfl rfl ?_
  refine po_callv (enc := fun (r3 : Int) => .v (.int .i64 r3)) (first := []) (cap := []) (qs := [.own 900000, .fn (.func 75) [] [.loc 900001 0]]) (Sc := [(900000, .arr 3 1 (l1.map cInt_i64)), (900001, .box [.sl 10 false (c2.Nodes.map cNode), .v (.int .i64 c2.Most)])]) (fun r3 hr3 => fc_ren [(900000, 900000), (900001, 900001)] [900000, 900001] (Slices_IndexFunc_int_i3_ok fu l1 c2 _ hr3) rfl rfl rfl rfl rfl rfl) (subS_of ⟨rfl, rfl, trivial⟩ rfl) rfl rfl rfl rfl ⟨⟨_, rfl, .rfl⟩, ⟨_, rfl, .rfl⟩, trivial⟩ (fun _ => rfl) call105 rfl rfl fun r3 hr3 => ?_
  refine po_evs (T := tab) 1 rfl rfl ?_
  refine po_nil ?_
  refine pn_seq ?_
  refine pw_seq ?_
  refine pw_seq ?_
  refine pw_region ?_
  refine po_evs (T := tab) 2 rfl rfl ?_
  refine po_nil ?_
  refine pn_seq ?_
  refine pw_cnd rfl ?_ ?_
  · refine pw_seq ?_
    refine pw_region ?_
    refine po_evs (T := tab) 2 rfl rfl ?_
    refine po_nil ?_
    refine pn_seq ?_
    exact pw_retN (T := tab) rfl rfl rfl ⟨rfl, rfl⟩ ⟨rfl, rfl, trivial⟩ rfl
  · refine pw_skip ?_
    refine pn_seq ?_
    refine pw_seq ?_
    refine pw_seq ?_
    refine pw_region ?_
    refine po_evs (T := tab) 1 rfl rfl ?_
    refine po_arith' (T := tab) rfl rfl rfl rfl fun i4 hi4 => ?_
    refine po_evs (T := tab) 1 rfl rfl ?_
    refine po_nil ?_
    refine pn_seq ?_
    refine pw_block ?_
    refine pw_loop' (Slices_DeleteFunc_int_l1 (fun (z1 : Int) => Shade_Elems_1_m fu z1 c2)) (fun ((i5, j6, l7) : Int × Int × (List Int)) => [(0, .own 900000), (1, .fn (.func 75) [] [.loc 900001 0]), (5, .v (.int .i64 i5)), (6, .v (.int .i64 j6))]) (fun ((i5, j6, l7) : Int × Int × (List Int)) => [(900000, .arr 3 1 (l7.map cInt_i64)), (900001, .box [.sl 10 false (c2.Nodes.map cNode), .v (.int .i64 c2.Most)])]) fu (r3, i4, l1) (fun _ => rfl) ⟨rfl, rfl, rfl, rfl, trivial⟩ ⟨rfl, rfl, trivial⟩ rfl ?_
    rintro k1 ⟨i5, j6, l7⟩
    refine pw_seq ?_
    refine pw_seq ?_
    refine pw_region ?_
    refine po_evs (T := tab) 2 rfl rfl ?_
    refine po_len_own (T := tab) cInt_i64 l7 rfl rfl rfl rfl rfl rfl rfl rfl rfl ?_
    refine po_evs (T := tab) 1 rfl rfl ?_
    refine po_nil ?_
    refine pn_seq ?_
    refine pw_cnd rfl ?_ ?_
    · refine pw_skip ?_
      refine pn_seq ?_
      refine pw_seq ?_
      refine pw_block ?_
      refine pw_seq ?_
      refine pw_region ?_
      refine po_evs (T := tab) 2 rfl rfl ?_
      refine po_idx_own (T := tab) cInt_i64 l7 rfl rfl rfl rfl rfl rfl rfl rfl fun y8 hy8 => ?_
      refine po_load_ela (T := tab) cInt_i64 l7 y8 (idx_at hy8) rfl rfl rfl rfl rfl rfl rfl rfl ?_
      refine po_evs (T := tab) 1 rfl rfl ?_
      refine po_nil ?_
      refine pn_seq ?_
      refine pw_seq ?_
      refine pw_region ?_
      refine po_evs (T := tab) 2 rfl rfl ?_
      refine po_callv (enc := fun (r9 : Bool) => .v (.bool r9)) (first := []) (cap := [.loc 900001 0]) (qs := [.v (.int .i64 y8)]) (Sc := [(900001, .box [.sl 10 false (c2.Nodes.map cNode), .v (.int .i64 c2.Most)])]) (fun r9 hr9 => fc_ren [(900000, 900001)] [900000] (Shade_Elems_1_ok fu y8 c2 _ hr9) rfl rfl rfl rfl rfl rfl) (subS_of ⟨rfl, trivial⟩ rfl) rfl rfl rfl rfl ⟨⟨_, rfl, .rfl⟩, trivial⟩ (fun _ => rfl) call75 rfl rfl fun r9 hr9 => ?_
      refine po_evs (T := tab) 1 rfl rfl ?_
      refine po_nil ?_
      refine pn_seq ?_
      refine pw_cnd rfl ?_ ?_
      · refine pw_seq ?_
        refine pw_region ?_
        refine po_evs (T := tab) 3 rfl rfl ?_
        refine po_idx_own (T := tab) cInt_i64 l7 rfl rfl rfl rfl rfl rfl rfl rfl fun y10 hy10 => ?_
        refine po_store_ela (T := tab) cInt_i64 l7 y10 y8 (idx_at hy10) rfl rfl rfl rfl rfl rfl rfl rfl rfl rfl rfl rfl rfl ?_
        refine po_nil ?_
        refine pn_seq ?_
        refine pw_region ?_
        refine po_evs (T := tab) 1 rfl rfl ?_
        refine po_arith' (T := tab) rfl rfl rfl rfl fun i11 hi11 => ?_
        refine po_evs (T := tab) 1 rfl rfl ?_
        refine po_nil ?_
        refine pn_block ?_
        refine pn_seq ?_
        refine pw_region ?_
        refine po_evs (T := tab) 1 rfl rfl ?_
        refine po_arith' (T := tab) rfl rfl rfl rfl fun i12 hi12 => ?_
        refine po_evs (T := tab) 1 rfl rfl ?_
        refine po_nil ?_
        exact pn_iter' (i11, i12, (l7.set (i5).toNat y8)) ⟨rfl, rfl, rfl, rfl, trivial⟩ ⟨rfl, rfl, trivial⟩ rfl
      · refine pw_skip ?_
        refine pn_block ?_
        refine pn_seq ?_
        refine pw_region ?_
        refine po_evs (T := tab) 1 rfl rfl ?_
        refine po_arith' (T := tab) rfl rfl rfl rfl fun i13 hi13 => ?_
        refine po_evs (T := tab) 1 rfl rfl ?_
        refine po_nil ?_
        exact pn_iter' (i5, i13, l7) ⟨rfl, rfl, rfl, rfl, trivial⟩ ⟨rfl, rfl, trivial⟩ rfl
    · refine pw_exit rfl ?_
      refine pn_seq ?_
      refine pw_seq ?_
      refine pw_region ?_
      refine po_evs (T := tab) 2 rfl rfl ?_
      refine po_clear (T := tab) cInt_i64 l7 (0 : Int) (S' := fun l14 => [(900000, .arr 3 1 (l14.map cInt_i64)), (900001, .box [.sl 10 false (c2.Nodes.map cNode), .v (.int .i64 c2.Most)])]) rfl rfl rfl rfl rfl rfl rfl rfl rfl rfl rfl rfl rfl rfl rfl rfl rfl rfl (fun _ => rfl) fun l14 hl14 => ?_
      refine po_nil ?_
      refine pn_seq ?_
      refine pw_seq ?_
      refine pw_region ?_
      refine po_evs (T := tab) 2 rfl rfl ?_
      refine po_own_cut (T := tab) cInt_i64 l14 rfl rfl rfl rfl rfl rfl rfl rfl rfl rfl rfl fun l15 hl15 => ?_
      refine po_evs (T := tab) 1 rfl rfl ?_
      refine po_nil ?_
      refine pn_seq ?_
      exact pw_retN (T := tab) rfl rfl rfl ⟨rfl, rfl⟩ ⟨rfl, rfl, trivial⟩ rfl

def Shade_Elems_m (fu : Nat) (f1 : Forest) (n2 : Int) : Option (List Int) := bnd (Shade_All_m fu f1 n2) fun r3 => bnd (Slices_DeleteFunc_int_m fu (fun (z1 : Int) => Shade_Elems_1_m fu z1 f1) r3) fun r4 => some r4

set_option maxRecDepth 100000 in
theorem Shade_Elems_ok (fu : Nat) (f1 : Forest) (n2 : Int) : ∀ r, Shade_Elems_m fu f1 n2 = some r → DC Try.prog 42 [.agg (cForest f1), .v (.int .i64 n2)] (.sl 1 false (r.map cInt_i64)) := by
  intro r hr
  refine fc_intro (args := [.agg (cForest f1), .v (.int .i64 n2)]) (S := []) (N0 := []) (post := fun r p S => p = .sl 1 false (r.map cInt_i64) ∧ S = []) Try.func42 rfl rfl hr fun w0 X X0 σ0 => ?_
  refine pw_seq ?_
  refine pw_region ?_
  refine po_box  2 rfl rfl rfl rfl rfl rfl rfl rfl rfl rfl ?_
  refine po_evs (T := tab) 1 rfl rfl ?_
  refine po_nil ?_
  refine pn_seq ?_
  refine pw_seq ?_
  refine pw_region ?_
  refine po_evs (T := tab) 2 rfl rfl ?_
  refine po_turn [2070] (enc := fun (r3 : (List Int)) => .own 2070) (Sr := fun (r3 : (List Int)) => [(2070, .arr 3 1 (r3.map cInt_i64))]) (first := []) (cap := []) (qs := [.agg (cForest f1), .v (.int .i64 n2)]) (Sc := []) (N0 := []) (NR := [2070]) (fun r3 hr3 => fc_ren [(1035, 2070)] [1035] (Shade_All_ok fu f1 n2 _ hr3) rfl rfl rfl rfl rfl rfl) trivial (fun _ => rfl) rfl rfl rfl rfl rfl rfl rfl (fun _ => rfl) (fun _ => rfl) rfl rfl rfl ⟨⟨_, rfl, .rfl⟩, ⟨_, rfl, .rfl⟩, trivial⟩ call41 rfl rfl fun r3 hr3 => ?_
  refine po_evs (T := tab) 1 rfl rfl ?_
  refine po_turn [2070] (enc := fun (r4 : (List Int)) => .own 2070) (Sr := fun (r4 : (List Int)) => [(2070, .arr 3 1 (r4.map cInt_i64)), (2, .box [.sl 10 false (f1.Nodes.map cNode), .v (.int .i64 f1.Most)])]) (first := []) (cap := []) (qs := [.own 2070, .fn (.func 75) [] [.loc 2 0]]) (Sc := [(2070, .arr 3 1 (r3.map cInt_i64)), (2, .box [.sl 10 false (f1.Nodes.map cNode), .v (.int .i64 f1.Most)])]) (N0 := [2]) (NR := [2070, 2]) (fun r4 hr4 => fc_ren [(900000, 2070), (900001, 2)] [900000, 900001] (Slices_DeleteFunc_int_ok fu r3 f1 _ hr4) rfl rfl rfl rfl rfl rfl) ⟨rfl, rfl, trivial⟩ (fun _ => rfl) rfl rfl rfl rfl rfl rfl rfl (fun _ => rfl) (fun _ => rfl) rfl rfl rfl ⟨⟨_, rfl, .rfl⟩, ⟨_, rfl, .rfl⟩, trivial⟩ call74 rfl rfl fun r4 hr4 => ?_
  refine po_evs (T := tab) 1 rfl rfl ?_
  refine po_nil ?_
  refine pn_seq ?_
  refine pw_freeze 2070 rfl rfl rfl ?_
  exact pw_retN (T := tab) rfl rfl rfl ⟨rfl, rfl⟩ trivial rfl

def Instarref04_Top_m : Nat → Forest → Int → Option Int
  | 0, _, _ => none
  | fu + 1, f1, n2 => bnd (idx f1.Nodes n2) fun y3 => cnd (y3.Parent != (-1)) (bnd (idx f1.Nodes n2) fun y4 => bnd ((Instarref04_Top_m fu) f1 y4.Parent) fun r5 => some r5) (bnd (idx f1.Nodes n2) fun y6 => cnd (y6.Host != (-1)) (bnd (idx f1.Nodes n2) fun y7 => bnd ((Instarref04_Top_m fu) f1 y7.Host) fun r8 => some r8) (some n2))

set_option maxHeartbeats 10000000 in
set_option maxRecDepth 100000 in
theorem Instarref04_Top_ok : ∀ (fu : Nat) (f1 : Forest) (n2 : Int) r, Instarref04_Top_m fu f1 n2 = some r → DC Try.prog 45 [.agg (cForest f1), .v (.int .i64 n2)] (.v (.int .i64 r))
  | 0, _, _, _, h => by cases h
  | fu + 1, f1, n2, r, hr => by
    have ih := Instarref04_Top_ok fu
    refine fc_intro (args := [.agg (cForest f1), .v (.int .i64 n2)]) (S := []) (N0 := []) (post := fun r p S => p = .v (.int .i64 r) ∧ S = []) Try.func45 rfl rfl hr fun w0 X X0 σ0 => ?_
    refine pw_seq ?_
    refine pw_region ?_
    refine po_box  2 rfl rfl rfl rfl rfl rfl rfl rfl rfl rfl ?_
    refine po_evs (T := tab) 1 rfl rfl ?_
    refine po_nil ?_
    refine pn_seq ?_
    refine pw_seq ?_
    refine pw_seq ?_
    refine pw_region ?_
    refine po_evs (T := tab) 3 rfl rfl ?_
    refine po_idx (T := tab) cNode f1.Nodes rfl rfl rfl rfl rfl rfl rfl fun y3 hy3 => ?_
    refine po_evs (T := tab) 3 rfl rfl ?_
    refine po_nil ?_
    refine pn_seq ?_
    refine pw_cnd rfl ?_ ?_
    · refine pw_seq ?_
      refine pw_draw mixed (by kernel_rfl) ?_
      refine pd_evs (T := tab) 4 rfl rfl ?_
      refine pd_idx (T := tab) cNode f1.Nodes rfl rfl rfl rfl rfl rfl rfl fun y4 hy4 => ?_
      refine pd_evs (T := tab) 2 rfl rfl ?_
      refine pd_call (enc := fun (r5 : Int) => .v (.int .i64 r5)) (qs := [.agg (cForest f1), .v (.int .i64 y4.Parent)]) (ih f1 y4.Parent) rfl rfl ⟨⟨_, rfl, .rfl⟩, ⟨_, rfl, .rfl⟩, trivial⟩ (fun _ => rfl) call45 rfl rfl fun r5 hr5 => ?_
      refine pd_evs (T := tab) 1 rfl rfl ?_
      refine pd_nil ?_
      refine pn_seq ?_
      exact pw_retN (T := tab) rfl rfl rfl ⟨rfl, rfl⟩ trivial rfl
    · refine pw_skip ?_
      refine pn_seq ?_
      refine pw_seq ?_
      refine pw_seq ?_
      refine pw_region ?_
      refine po_evs (T := tab) 3 rfl rfl ?_
      refine po_idx (T := tab) cNode f1.Nodes rfl rfl rfl rfl rfl rfl rfl fun y6 hy6 => ?_
      refine po_evs (T := tab) 3 rfl rfl ?_
      refine po_nil ?_
      refine pn_seq ?_
      refine pw_cnd rfl ?_ ?_
      · refine pw_seq ?_
        refine pw_draw mixed (by kernel_rfl) ?_
        refine pd_evs (T := tab) 4 rfl rfl ?_
        refine pd_idx (T := tab) cNode f1.Nodes rfl rfl rfl rfl rfl rfl rfl fun y7 hy7 => ?_
        refine pd_evs (T := tab) 2 rfl rfl ?_
        refine pd_call (enc := fun (r8 : Int) => .v (.int .i64 r8)) (qs := [.agg (cForest f1), .v (.int .i64 y7.Host)]) (ih f1 y7.Host) rfl rfl ⟨⟨_, rfl, .rfl⟩, ⟨_, rfl, .rfl⟩, trivial⟩ (fun _ => rfl) call45 rfl rfl fun r8 hr8 => ?_
        refine pd_evs (T := tab) 1 rfl rfl ?_
        refine pd_nil ?_
        refine pn_seq ?_
        exact pw_retN (T := tab) rfl rfl rfl ⟨rfl, rfl⟩ trivial rfl
      · refine pw_skip ?_
        refine pn_seq ?_
        refine pw_seq ?_
        refine pw_region ?_
        refine po_evs (T := tab) 2 rfl rfl ?_
        refine po_nil ?_
        refine pn_seq ?_
        exact pw_retN (T := tab) rfl rfl rfl ⟨rfl, rfl⟩ trivial rfl

def Instarref04_Connected_m (fu : Nat) (f1 : Forest) (n2 : Int) : Option Bool := bnd (Instarref04_Top_m fu f1 n2) fun r3 => bnd (idx f1.Nodes r3) fun y4 => some (y4.Kind == 0)

set_option maxRecDepth 100000 in
theorem Instarref04_Connected_ok (fu : Nat) (f1 : Forest) (n2 : Int) : ∀ r, Instarref04_Connected_m fu f1 n2 = some r → DC Try.prog 46 [.agg (cForest f1), .v (.int .i64 n2)] (.v (.bool r)) := by
  intro r hr
  refine fc_intro (args := [.agg (cForest f1), .v (.int .i64 n2)]) (S := []) (N0 := []) (post := fun r p S => p = .v (.bool r) ∧ S = []) Try.func46 rfl rfl hr fun w0 X X0 σ0 => ?_
  refine pw_seq ?_
  refine pw_region ?_
  refine po_box  2 rfl rfl rfl rfl rfl rfl rfl rfl rfl rfl ?_
  refine po_evs (T := tab) 1 rfl rfl ?_
  refine po_nil ?_
  refine pn_seq ?_
  refine pw_seq ?_
  refine pw_draw mixed (by kernel_rfl) ?_
  refine pd_evs (T := tab) 4 rfl rfl ?_
  refine pd_call (enc := fun (r3 : Int) => .v (.int .i64 r3)) (qs := [.agg (cForest f1), .v (.int .i64 n2)]) (Instarref04_Top_ok fu f1 n2) rfl rfl ⟨⟨_, rfl, .rfl⟩, ⟨_, rfl, .rfl⟩, trivial⟩ (fun _ => rfl) call45 rfl rfl fun r3 hr3 => ?_
  refine pd_idx (T := tab) cNode f1.Nodes rfl rfl rfl rfl rfl rfl rfl fun y4 hy4 => ?_
  refine pd_evs (T := tab) 4 rfl rfl ?_
  refine pd_nil ?_
  refine pn_seq ?_
  exact pw_retN (T := tab) rfl rfl rfl ⟨rfl, rfl⟩ trivial rfl

def Instarref04_All_l1 (sf : Forest → Int → Option (List Int)) (f1 : Forest) (n2 : Int) : Nat → Int × (List Int) → Option (List Int)
  | 0, _ => none
  | k1 + 1, (i7, l8) => bnd (idx f1.Nodes n2) fun y9 => cnd (decide (i7 < ((y9.Kids.length : Nat) : Int))) (bnd (idx f1.Nodes n2) fun y10 => bnd (idx y10.Kids i7) fun y11 => bnd (sf f1 y11) fun r12 => bnd (roomy 8 (l8.length + r12.length)) fun _ => bnd (rng .i64 (i7 + 1)) fun i13 => (Instarref04_All_l1 sf f1 n2 k1) (i13, (l8 ++ r12))) (some l8)

def Instarref04_All_j1 (sf : Forest → Int → Option (List Int)) (fu : Nat) (f1 : Forest) (n2 : Int) (l6 : (List Int)) : Option (List Int) := (Instarref04_All_l1 sf f1 n2) fu (0, l6)

def Instarref04_All_m : Nat → Forest → Int → Option (List Int)
  | 0, _, _ => none
  | fu + 1, f1, n2 => bnd (idx f1.Nodes n2) fun y3 => cnd (y3.Under != (-1)) (bnd (idx f1.Nodes n2) fun y4 => bnd ((Instarref04_All_m fu) f1 y4.Under) fun r5 => bnd (roomy 8 (([n2] : List Int).length + r5.length)) fun _ => (Instarref04_All_j1 (Instarref04_All_m fu) fu f1 n2) ([n2] ++ r5)) ((Instarref04_All_j1 (Instarref04_All_m fu) fu f1 n2) [n2])

set_option maxHeartbeats 10000000 in
set_option maxRecDepth 100000 in
theorem Instarref04_All_ok : ∀ (fu : Nat) (f1 : Forest) (n2 : Int) r, Instarref04_All_m fu f1 n2 = some r → DC Try.prog 47 [.agg (cForest f1), .v (.int .i64 n2)] (.sl 1 false (r.map cInt_i64))
  | 0, _, _, _, h => by cases h
  | fu + 1, f1, n2, r, hr => by
    have ih := Instarref04_All_ok fu
    refine fc_intro (args := [.agg (cForest f1), .v (.int .i64 n2)]) (S := []) (N0 := []) (post := fun r p S => p = .sl 1 false (r.map cInt_i64) ∧ S = []) Try.func47 rfl rfl hr fun w0 X X0 σ0 => ?_
    refine pw_seq ?_
    refine pw_region ?_
    refine po_box  2 rfl rfl rfl rfl rfl rfl rfl rfl rfl rfl ?_
    refine po_evs (T := tab) 1 rfl rfl ?_
    refine po_nil ?_
    refine pn_seq ?_
    refine pw_seq ?_
    refine pw_region ?_
    refine po_evs (T := tab) 1 rfl rfl ?_
    refine po_lit (T := tab) (rows := [n2].map cInt_i64) 8 rfl rfl rfl rfl rfl rfl rfl rfl rfl rfl rfl rfl rfl rfl ?_
    refine po_evs (T := tab) 1 rfl rfl ?_
    refine po_nil ?_
    refine pn_seq ?_
    refine pw_seq ?_
    refine pw_seq ?_
    refine pw_region ?_
    refine po_evs (T := tab) 3 rfl rfl ?_
    refine po_idx (T := tab) cNode f1.Nodes rfl rfl rfl rfl rfl rfl rfl fun y3 hy3 => ?_
    refine po_evs (T := tab) 3 rfl rfl ?_
    refine po_nil ?_
    refine pn_seq ?_
    refine pw_joinK (Instarref04_All_j1 (Instarref04_All_m fu) fu f1 n2) (fun (l6 : (List Int)) => [(1, .v (.int .i64 n2)), (2, .loc 2 0), (5, .own 8)]) (fun (l6 : (List Int)) => [(8, .arr 3 1 (l6.map cInt_i64)), (2, .box [.sl 10 false (f1.Nodes.map cNode), .v (.int .i64 f1.Most)])]) ?_ fun hj1 => ?_
    · rintro l6
      refine pn_seq ?_
      refine pw_seq ?_
      refine pw_seq ?_
      refine pw_region ?_
      refine po_evs (T := tab) 1 rfl rfl ?_
      refine po_nil ?_
      refine pn_seq ?_
      refine pw_block ?_
      refine pw_loop' (Instarref04_All_l1 (Instarref04_All_m fu) f1 n2) (fun ((i7, l8) : Int × (List Int)) => [(1, .v (.int .i64 n2)), (2, .loc 2 0), (5, .own 8), (6, .v (.int .i64 i7))]) (fun ((i7, l8) : Int × (List Int)) => [(8, .arr 3 1 (l8.map cInt_i64)), (2, .box [.sl 10 false (f1.Nodes.map cNode), .v (.int .i64 f1.Most)])]) fu (0, l6) (fun _ => rfl) ⟨rfl, rfl, rfl, rfl, trivial⟩ ⟨rfl, rfl, trivial⟩ rfl ?_
      rintro k1 ⟨i7, l8⟩
      refine pw_seq ?_
      refine pw_seq ?_
      refine pw_region ?_
      refine po_evs (T := tab) 4 rfl rfl ?_
      refine po_idx (T := tab) cNode f1.Nodes rfl rfl rfl rfl rfl rfl rfl fun y9 hy9 => ?_
      refine po_evs (T := tab) 2 rfl rfl ?_
      refine po_len (T := tab) cInt_i64 y9.Kids rfl rfl rfl rfl rfl rfl rfl rfl ?_
      refine po_evs (T := tab) 1 rfl rfl ?_
      refine po_nil ?_
      refine pn_seq ?_
      refine pw_cnd rfl ?_ ?_
      · refine pw_skip ?_
        refine pn_seq ?_
        refine pw_seq ?_
        refine pw_block ?_
        refine pw_sub' (E' := [(1, .v (.int .i64 n2)), (2, .loc 2 0), (5, .own 8), (6, .v (.int .i64 i7))]) (S' := [(8, .arr 3 1 (l8.map cInt_i64)), (2, .box [.sl 10 false (f1.Nodes.map cNode), .v (.int .i64 f1.Most)])]) ?_ ⟨rfl, rfl, rfl, rfl, trivial⟩ ⟨rfl, rfl, trivial⟩ rfl
        refine pw_drawV [0, 0, 0, 4, 0, 28, 60, 124, 0, 508, 1020, 2046, 4095, 8191] mixed (by kernel_rfl) (by kernel_rfl) rfl rfl ?_
        refine pdv_step0 [10] [74] [] [8] [] [(37, .own 8)] [] rfl rfl rfl rfl (by kernel_rfl) (by kernel_rfl) (by kernel_rfl) trivial (fun w0 X X0 σ0 => by refine po_evs (T := tab) 1 rfl rfl ?_; refine po_nil ?_; exact pn_end0 ⟨rfl, trivial⟩ trivial rfl) ?_
        refine pdv_step0 [4, 5] [76] [] [2] [2] [(38, .agg (cForest f1))] [(2, .box [.sl 10 false (f1.Nodes.map cNode), .v (.int .i64 f1.Most)])] rfl rfl rfl rfl (by kernel_rfl) (by kernel_rfl) (by kernel_rfl) ⟨rfl, trivial⟩ (fun w0 X X0 σ0 => by refine po_evs (T := tab) 1 rfl rfl ?_; refine po_nil ?_; exact pn_end0 ⟨rfl, trivial⟩ ⟨rfl, trivial⟩ rfl) ?_
        refine pdv_step0 [4] [78] [] [2] [] [(39, .loc 2 0)] [] rfl rfl rfl rfl (by kernel_rfl) (by kernel_rfl) (by kernel_rfl) trivial (fun w0 X X0 σ0 => by refine po_evs (T := tab) 1 rfl rfl ?_; refine po_nil ?_; exact pn_end0 ⟨rfl, trivial⟩ trivial rfl) ?_
        refine pdv_step0 [5, 78] [80] [] [2] [2] [(40, .sl 10 false (f1.Nodes.map cNode))] [(2, .box [.sl 10 false (f1.Nodes.map cNode), .v (.int .i64 f1.Most)])] rfl rfl rfl rfl (by kernel_rfl) (by kernel_rfl) (by kernel_rfl) ⟨rfl, trivial⟩ (fun w0 X X0 σ0 => by refine po_evs (T := tab) 1 rfl rfl ?_; refine po_nil ?_; exact pn_end0 ⟨rfl, trivial⟩ ⟨rfl, trivial⟩ rfl) ?_
        refine pdv_step0 [2] [82] [] [] [] [(41, .v (.int .i64 n2))] [] rfl rfl rfl rfl (by kernel_rfl) (by kernel_rfl) (by kernel_rfl) trivial (fun w0 X X0 σ0 => by refine po_evs (T := tab) 1 rfl rfl ?_; refine po_nil ?_; exact pn_end0 ⟨rfl, trivial⟩ trivial rfl) ?_
        refine pdv_step (M := (idx f1.Nodes n2)) (ment := [(84, [])]) [80, 82] [84] [] [] [] (fun y10 => [(42, .el (cNode y10) 0)]) (fun y10 => []) rfl rfl (fun _ => rfl) (fun _ => rfl) (by kernel_rfl) (by kernel_rfl) (fun _ => by kernel_rfl) (fun _ => trivial) (fun w0 X X0 σ0 => by refine po_idx (T := tab) cNode f1.Nodes rfl rfl rfl rfl rfl rfl rfl fun y10 hy10 => ?_; refine po_nil ?_; exact pn_end ⟨rfl, trivial⟩ trivial rfl) fun y10 hy10 => ?_
        refine pdv_step0 [84] [86] [] [] [] [(43, .el (cNode y10) 6)] [] rfl rfl rfl rfl (by kernel_rfl) (by kernel_rfl) (by kernel_rfl) trivial (fun w0 X X0 σ0 => by refine po_evs (T := tab) 1 rfl rfl ?_; refine po_nil ?_; exact pn_end0 ⟨rfl, trivial⟩ trivial rfl) ?_
        refine pdv_step0 [86] [88] [] [] [] [(44, .sl 1 false (y10.Kids.map cInt_i64))] [] rfl rfl rfl rfl (by kernel_rfl) (by kernel_rfl) (by kernel_rfl) trivial (fun w0 X X0 σ0 => by refine po_evs (T := tab) 1 rfl rfl ?_; refine po_nil ?_; exact pn_end0 ⟨rfl, trivial⟩ trivial rfl) ?_
        refine pdv_step0 [12] [90] [] [] [] [(45, .v (.int .i64 i7))] [] rfl rfl rfl rfl (by kernel_rfl) (by kernel_rfl) (by kernel_rfl) trivial (fun w0 X X0 σ0 => by refine po_evs (T := tab) 1 rfl rfl ?_; refine po_nil ?_; exact pn_end0 ⟨rfl, trivial⟩ trivial rfl) ?_
        refine pdv_step (M := (idx y10.Kids i7)) (ment := [(92, [])]) [88, 90] [92] [] [] [] (fun y11 => [(46, .el (cInt_i64 y11) 0)]) (fun y11 => []) rfl rfl (fun _ => rfl) (fun _ => rfl) (by kernel_rfl) (by kernel_rfl) (fun _ => by kernel_rfl) (fun _ => trivial) (fun w0 X X0 σ0 => by refine po_idx (T := tab) cInt_i64 y10.Kids rfl rfl rfl rfl rfl rfl rfl fun y11 hy11 => ?_; refine po_nil ?_; exact pn_end ⟨rfl, trivial⟩ trivial rfl) fun y11 hy11 => ?_
        refine pdv_step0 [92] [94] [] [] [] [(47, .v (.int .i64 y11))] [] rfl rfl rfl rfl (by kernel_rfl) (by kernel_rfl) (by kernel_rfl) trivial (fun w0 X X0 σ0 => by refine po_evs (T := tab) 1 rfl rfl ?_; refine po_nil ?_; exact pn_end0 ⟨rfl, trivial⟩ trivial rfl) ?_
        refine pdv_step (M := ((Instarref04_All_m fu) f1 y11)) (ment := [(96, [])]) [76, 94] [96] [] [] [] (fun r12 => [(48, .sl 1 false (r12.map cInt_i64))]) (fun r12 => []) rfl rfl (fun _ => rfl) (fun _ => rfl) (by kernel_rfl) (by kernel_rfl) (fun _ => by kernel_rfl) (fun _ => trivial) (fun w0 X X0 σ0 => by refine po_call (enc := fun (r12 : (List Int)) => .sl 1 false (r12.map cInt_i64)) (qs := [.agg (cForest f1), .v (.int .i64 y11)]) (ih f1 y11) rfl rfl ⟨⟨_, rfl, .rfl⟩, ⟨_, rfl, .rfl⟩, trivial⟩ (fun _ => rfl) call47 rfl rfl fun r12 hr12 => ?_; refine po_nil ?_; exact pn_end ⟨rfl, trivial⟩ trivial rfl) fun r12 hr12 => ?_
        refine pdv_step (M := (roomy 8 (l8.length + r12.length))) (ment := [(98, [8]), (10, []), (74, []), (17, [])]) [10, 17, 74, 96] [98, 10, 74, 17] [8] [] [] (fun _ => [(49, .own 8)]) (fun _ => [(8, .arr 3 1 ((l8 ++ r12).map cInt_i64))]) rfl rfl (fun _ => rfl) (fun _ => rfl) (by kernel_rfl) (by kernel_rfl) (fun _ => by kernel_rfl) (fun _ => trivial) (fun w0 X X0 σ0 => by refine po_append (T := tab) cInt_i64 l8 r12 rfl rfl rfl rfl rfl rfl rfl rfl rfl rfl rfl rfl rfl rfl (cInt_i64_one _) rfl rfl rfl rfl rfl ?_; refine po_nil ?_; exact pn_end ⟨rfl, trivial⟩ ⟨rfl, trivial⟩ rfl) fun _ h0 => ?_
        refine pdv_step0 [98] [10] [] [8] [] [(5, .own 8)] [] rfl rfl rfl rfl (by kernel_rfl) (by kernel_rfl) (by kernel_rfl) trivial (fun w0 X X0 σ0 => by refine po_evs (T := tab) 1 rfl rfl ?_; refine po_nil ?_; exact pn_end0 ⟨rfl, trivial⟩ trivial rfl) ?_
        refine pdv_nil rfl rfl ?_
        refine pn_block ?_
        refine pn_seq ?_
        refine pw_region ?_
        refine po_evs (T := tab) 1 rfl rfl ?_
        refine po_arith' (T := tab) rfl rfl rfl rfl fun i13 hi13 => ?_
        refine po_evs (T := tab) 1 rfl rfl ?_
        refine po_nil ?_
        exact pn_iter' (i13, (l8 ++ r12)) ⟨rfl, rfl, rfl, rfl, trivial⟩ ⟨rfl, rfl, trivial⟩ rfl
      · refine pw_exit rfl ?_
        refine pn_seq ?_
        refine pw_seq ?_
        refine pw_region ?_
        refine po_evs (T := tab) 2 rfl rfl ?_
        refine po_nil ?_
        refine pn_seq ?_
        refine pw_freeze 8 rfl rfl rfl ?_
        exact pw_retN (T := tab) rfl rfl rfl ⟨rfl, rfl⟩ trivial rfl
    · refine pw_cnd rfl ?_ ?_
      · refine pw_sub' (E' := [(1, .v (.int .i64 n2)), (2, .loc 2 0), (5, .own 8)]) (S' := [(8, .arr 3 1 ([n2].map cInt_i64)), (2, .box [.sl 10 false (f1.Nodes.map cNode), .v (.int .i64 f1.Most)])]) ?_ ⟨rfl, rfl, rfl, trivial⟩ ⟨rfl, rfl, trivial⟩ rfl
        refine pw_drawV [0, 0, 0, 4, 0, 28, 60, 124, 254, 511, 1023] mixed (by kernel_rfl) (by kernel_rfl) rfl rfl ?_
        refine pdv_step0 [10] [32] [] [8] [] [(16, .own 8)] [] rfl rfl rfl rfl (by kernel_rfl) (by kernel_rfl) (by kernel_rfl) trivial (fun w0 X X0 σ0 => by refine po_evs (T := tab) 1 rfl rfl ?_; refine po_nil ?_; exact pn_end0 ⟨rfl, trivial⟩ trivial rfl) ?_
        refine pdv_step0 [4, 5] [34] [] [2] [2] [(17, .agg (cForest f1))] [(2, .box [.sl 10 false (f1.Nodes.map cNode), .v (.int .i64 f1.Most)])] rfl rfl rfl rfl (by kernel_rfl) (by kernel_rfl) (by kernel_rfl) ⟨rfl, trivial⟩ (fun w0 X X0 σ0 => by refine po_evs (T := tab) 1 rfl rfl ?_; refine po_nil ?_; exact pn_end0 ⟨rfl, trivial⟩ ⟨rfl, trivial⟩ rfl) ?_
        refine pdv_step0 [4] [36] [] [2] [] [(18, .loc 2 0)] [] rfl rfl rfl rfl (by kernel_rfl) (by kernel_rfl) (by kernel_rfl) trivial (fun w0 X X0 σ0 => by refine po_evs (T := tab) 1 rfl rfl ?_; refine po_nil ?_; exact pn_end0 ⟨rfl, trivial⟩ trivial rfl) ?_
        refine pdv_step0 [5, 36] [38] [] [2] [2] [(19, .sl 10 false (f1.Nodes.map cNode))] [(2, .box [.sl 10 false (f1.Nodes.map cNode), .v (.int .i64 f1.Most)])] rfl rfl rfl rfl (by kernel_rfl) (by kernel_rfl) (by kernel_rfl) ⟨rfl, trivial⟩ (fun w0 X X0 σ0 => by refine po_evs (T := tab) 1 rfl rfl ?_; refine po_nil ?_; exact pn_end0 ⟨rfl, trivial⟩ ⟨rfl, trivial⟩ rfl) ?_
        refine pdv_step0 [2] [40] [] [] [] [(20, .v (.int .i64 n2))] [] rfl rfl rfl rfl (by kernel_rfl) (by kernel_rfl) (by kernel_rfl) trivial (fun w0 X X0 σ0 => by refine po_evs (T := tab) 1 rfl rfl ?_; refine po_nil ?_; exact pn_end0 ⟨rfl, trivial⟩ trivial rfl) ?_
        refine pdv_step (M := (idx f1.Nodes n2)) (ment := [(42, [])]) [38, 40] [42] [] [] [] (fun y4 => [(21, .el (cNode y4) 0)]) (fun y4 => []) rfl rfl (fun _ => rfl) (fun _ => rfl) (by kernel_rfl) (by kernel_rfl) (fun _ => by kernel_rfl) (fun _ => trivial) (fun w0 X X0 σ0 => by refine po_idx (T := tab) cNode f1.Nodes rfl rfl rfl rfl rfl rfl rfl fun y4 hy4 => ?_; refine po_nil ?_; exact pn_end ⟨rfl, trivial⟩ trivial rfl) fun y4 hy4 => ?_
        refine pdv_step0 [42] [44] [] [] [] [(22, .el (cNode y4) 8)] [] rfl rfl rfl rfl (by kernel_rfl) (by kernel_rfl) (by kernel_rfl) trivial (fun w0 X X0 σ0 => by refine po_evs (T := tab) 1 rfl rfl ?_; refine po_nil ?_; exact pn_end0 ⟨rfl, trivial⟩ trivial rfl) ?_
        refine pdv_step0 [44] [46] [] [] [] [(23, .v (.int .i64 y4.Under))] [] rfl rfl rfl rfl (by kernel_rfl) (by kernel_rfl) (by kernel_rfl) trivial (fun w0 X X0 σ0 => by refine po_evs (T := tab) 1 rfl rfl ?_; refine po_nil ?_; exact pn_end0 ⟨rfl, trivial⟩ trivial rfl) ?_
        refine pdv_step (M := ((Instarref04_All_m fu) f1 y4.Under)) (ment := [(48, [])]) [34, 46] [48] [] [] [] (fun r5 => [(24, .sl 1 false (r5.map cInt_i64))]) (fun r5 => []) rfl rfl (fun _ => rfl) (fun _ => rfl) (by kernel_rfl) (by kernel_rfl) (fun _ => by kernel_rfl) (fun _ => trivial) (fun w0 X X0 σ0 => by refine po_call (enc := fun (r5 : (List Int)) => .sl 1 false (r5.map cInt_i64)) (qs := [.agg (cForest f1), .v (.int .i64 y4.Under)]) (ih f1 y4.Under) rfl rfl ⟨⟨_, rfl, .rfl⟩, ⟨_, rfl, .rfl⟩, trivial⟩ (fun _ => rfl) call47 rfl rfl fun r5 hr5 => ?_; refine po_nil ?_; exact pn_end ⟨rfl, trivial⟩ trivial rfl) fun r5 hr5 => ?_
        refine pdv_step (M := (roomy 8 (([n2] : List Int).length + r5.length))) (ment := [(50, [8]), (10, []), (32, []), (17, [])]) [10, 17, 32, 48] [50, 10, 32, 17] [8] [] [] (fun _ => [(25, .own 8)]) (fun _ => [(8, .arr 3 1 (([n2] ++ r5).map cInt_i64))]) rfl rfl (fun _ => rfl) (fun _ => rfl) (by kernel_rfl) (by kernel_rfl) (fun _ => by kernel_rfl) (fun _ => trivial) (fun w0 X X0 σ0 => by refine po_append (T := tab) cInt_i64 ([n2] : List Int) r5 rfl rfl rfl rfl rfl rfl rfl rfl rfl rfl rfl rfl rfl rfl (cInt_i64_one _) rfl rfl rfl rfl rfl ?_; refine po_nil ?_; exact pn_end ⟨rfl, trivial⟩ ⟨rfl, trivial⟩ rfl) fun _ h0 => ?_
        refine pdv_step0 [50] [10] [] [8] [] [(5, .own 8)] [] rfl rfl rfl rfl (by kernel_rfl) (by kernel_rfl) (by kernel_rfl) trivial (fun w0 X X0 σ0 => by refine po_evs (T := tab) 1 rfl rfl ?_; refine po_nil ?_; exact pn_end0 ⟨rfl, trivial⟩ trivial rfl) ?_
        refine pdv_nil rfl rfl ?_
        exact pn_sub' (hj1 ([n2] ++ r5)) ⟨rfl, rfl, rfl, trivial⟩ ⟨rfl, rfl, trivial⟩ rfl
      · refine pw_skip ?_
        exact pn_sub' (hj1 [n2]) ⟨rfl, rfl, rfl, trivial⟩ ⟨rfl, rfl, trivial⟩ rfl

def Instarref04_Elems_l1 (f1 : Forest) (r3 : (List Int)) : Nat → Int × (List Int) → Option (List Int)
  | 0, _ => none
  | k1 + 1, (i4, l5) => cnd (decide (i4 < ((r3.length : Nat) : Int))) (bnd (idx r3 i4) fun y6 => bnd (idx f1.Nodes y6) fun y7 => cnd (y7.Kind == 1) (bnd (idx r3 i4) fun y8 => bnd (roomy 8 (l5.length + ([y8] : List Int).length)) fun _ => bnd (rng .i64 (i4 + 1)) fun i9 => (Instarref04_Elems_l1 f1 r3 k1) (i9, (l5 ++ [y8]))) (bnd (rng .i64 (i4 + 1)) fun i10 => (Instarref04_Elems_l1 f1 r3 k1) (i10, l5))) (some l5)

def Instarref04_Elems_m (fu : Nat) (f1 : Forest) (n2 : Int) : Option (List Int) := bnd (Instarref04_All_m fu f1 n2) fun r3 => (Instarref04_Elems_l1 f1 r3) fu (0, [])

set_option maxHeartbeats 10000000 in
set_option maxRecDepth 100000 in
theorem Instarref04_Elems_ok (fu : Nat) (f1 : Forest) (n2 : Int) : ∀ r, Instarref04_Elems_m fu f1 n2 = some r → DC Try.prog 48 [.agg (cForest f1), .v (.int .i64 n2)] (.sl 1 false (r.map cInt_i64)) := by
  intro r hr
  refine fc_intro (args := [.agg (cForest f1), .v (.int .i64 n2)]) (S := []) (N0 := []) (post := fun r p S => p = .sl 1 false (r.map cInt_i64) ∧ S = []) Try.func48 rfl rfl hr fun w0 X X0 σ0 => ?_
  refine pw_seq ?_
  refine pw_region ?_
  refine po_box  2 rfl rfl rfl rfl rfl rfl rfl rfl rfl rfl ?_
  refine po_evs (T := tab) 1 rfl rfl ?_
  refine po_nil ?_
  refine pn_seq ?_
  refine pw_seq ?_
  refine pw_region ?_
  refine po_evs (T := tab) 1 rfl rfl ?_
  refine po_nil ?_
  refine pn_seq ?_
  refine pw_seq ?_
  refine pw_region ?_
  refine po_evs (T := tab) 2 rfl rfl ?_
  refine po_call (enc := fun (r3 : (List Int)) => .sl 1 false (r3.map cInt_i64)) (qs := [.agg (cForest f1), .v (.int .i64 n2)]) (Instarref04_All_ok fu f1 n2) rfl rfl ⟨⟨_, rfl, .rfl⟩, ⟨_, rfl, .rfl⟩, trivial⟩ (fun _ => rfl) call47 rfl rfl fun r3 hr3 => ?_
  refine po_evs (T := tab) 1 rfl rfl ?_
  refine po_nil ?_
  refine pn_seq ?_
  refine pw_seq ?_
  refine pw_seq ?_
  refine pw_region ?_
  refine po_evs (T := tab) 1 rfl rfl ?_
  refine po_nil ?_
  refine pn_seq ?_
  refine pw_block ?_
  refine pw_own_nil 1033 3 1 5 rfl rfl rfl rfl ?_
  refine pw_loop' (Instarref04_Elems_l1 f1 r3) (fun ((i4, l5) : Int × (List Int)) => [(2, .loc 2 0), (5, .own 1033), (6, .sl 1 false (r3.map cInt_i64)), (7, .v (.int .i64 i4))]) (fun ((i4, l5) : Int × (List Int)) => [(1033, .arr 3 1 (l5.map cInt_i64)), (2, .box [.sl 10 false (f1.Nodes.map cNode), .v (.int .i64 f1.Most)])]) fu (0, []) (fun _ => rfl) ⟨rfl, rfl, rfl, rfl, trivial⟩ ⟨rfl, rfl, trivial⟩ rfl ?_
  rintro k1 ⟨i4, l5⟩
  refine pw_seq ?_
  refine pw_seq ?_
  refine pw_region ?_
  refine po_evs (T := tab) 2 rfl rfl ?_
  refine po_len (T := tab) cInt_i64 r3 rfl rfl rfl rfl rfl rfl rfl rfl ?_
  refine po_evs (T := tab) 1 rfl rfl ?_
  refine po_nil ?_
  refine pn_seq ?_
  refine pw_cnd rfl ?_ ?_
  · refine pw_skip ?_
    refine pn_seq ?_
    refine pw_seq ?_
    refine pw_block ?_
    refine pw_seq ?_
    refine pw_draw mixed (by kernel_rfl) ?_
    refine pd_evs (T := tab) 4 rfl rfl ?_
    refine pd_idx (T := tab) cInt_i64 r3 rfl rfl rfl rfl rfl rfl rfl fun y6 hy6 => ?_
    refine pd_evs (T := tab) 1 rfl rfl ?_
    refine pd_idx (T := tab) cNode f1.Nodes rfl rfl rfl rfl rfl rfl rfl fun y7 hy7 => ?_
    refine pd_evs (T := tab) 3 rfl rfl ?_
    refine pd_nil ?_
    refine pn_seq ?_
    refine pw_cnd rfl ?_ ?_
    · refine pw_region ?_
      refine po_evs (T := tab) 3 rfl rfl ?_
      refine po_idx (T := tab) cInt_i64 r3 rfl rfl rfl rfl rfl rfl rfl fun y8 hy8 => ?_
      refine po_evs (T := tab) 1 rfl rfl ?_
      refine po_lit (T := tab) (rows := [y8].map cInt_i64) 32 rfl rfl rfl rfl rfl rfl rfl rfl rfl rfl rfl rfl rfl rfl ?_
      refine po_append (T := tab) cInt_i64 l5 ([y8] : List Int) rfl rfl rfl rfl rfl rfl rfl rfl rfl rfl rfl rfl rfl rfl (cInt_i64_one _) rfl rfl rfl rfl rfl ?_
      refine po_evs (T := tab) 1 rfl rfl ?_
      refine po_nil ?_
      refine pn_block ?_
      refine pn_seq ?_
      refine pw_region ?_
      refine po_evs (T := tab) 1 rfl rfl ?_
      refine po_arith' (T := tab) rfl rfl rfl rfl fun i9 hi9 => ?_
      refine po_evs (T := tab) 1 rfl rfl ?_
      refine po_nil ?_
      exact pn_iter' (i9, (l5 ++ [y8])) ⟨rfl, rfl, rfl, rfl, trivial⟩ ⟨rfl, rfl, trivial⟩ rfl
    · refine pw_skip ?_
      refine pn_block ?_
      refine pn_seq ?_
      refine pw_region ?_
      refine po_evs (T := tab) 1 rfl rfl ?_
      refine po_arith' (T := tab) rfl rfl rfl rfl fun i10 hi10 => ?_
      refine po_evs (T := tab) 1 rfl rfl ?_
      refine po_nil ?_
      exact pn_iter' (i10, l5) ⟨rfl, rfl, rfl, rfl, trivial⟩ ⟨rfl, rfl, trivial⟩ rfl
  · refine pw_exit rfl ?_
    refine pn_seq ?_
    refine pw_seq ?_
    refine pw_region ?_
    refine po_evs (T := tab) 2 rfl rfl ?_
    refine po_nil ?_
    refine pn_seq ?_
    refine pw_freeze 1033 rfl rfl rfl ?_
    exact pw_retN (T := tab) rfl rfl rfl ⟨rfl, rfl⟩ trivial rfl

def Instarref04_Over_m (fu : Nat) (f1 : Forest) (a2 : Int) (b3 : Int) : Option Bool := bnd (Instarref04_All_m fu f1 a2) fun r4 => bnd (Instarref03_Has_m fu r4 b3) fun r5 => some (decide (r5 > 0))

set_option maxRecDepth 100000 in
theorem Instarref04_Over_ok (fu : Nat) (f1 : Forest) (a2 : Int) (b3 : Int) : ∀ r, Instarref04_Over_m fu f1 a2 b3 = some r → DC Try.prog 49 [.agg (cForest f1), .v (.int .i64 a2), .v (.int .i64 b3)] (.v (.bool r)) := by
  intro r hr
  refine fc_intro (args := [.agg (cForest f1), .v (.int .i64 a2), .v (.int .i64 b3)]) (S := []) (N0 := []) (post := fun r p S => p = .v (.bool r) ∧ S = []) Try.func49 rfl rfl hr fun w0 X X0 σ0 => ?_
  refine pw_seq ?_
  refine pw_region ?_
  refine po_box  3 rfl rfl rfl rfl rfl rfl rfl rfl rfl rfl ?_
  refine po_evs (T := tab) 1 rfl rfl ?_
  refine po_nil ?_
  refine pn_seq ?_
  refine pw_seq ?_
  refine pw_region ?_
  refine po_evs (T := tab) 2 rfl rfl ?_
  refine po_call (enc := fun (r4 : (List Int)) => .sl 1 false (r4.map cInt_i64)) (qs := [.agg (cForest f1), .v (.int .i64 a2)]) (Instarref04_All_ok fu f1 a2) rfl rfl ⟨⟨_, rfl, .rfl⟩, ⟨_, rfl, .rfl⟩, trivial⟩ (fun _ => rfl) call47 rfl rfl fun r4 hr4 => ?_
  refine po_evs (T := tab) 1 rfl rfl ?_
  refine po_call (enc := fun (r5 : Int) => .v (.int .i64 r5)) (qs := [.sl 1 false (r4.map cInt_i64), .v (.int .i64 b3)]) (Instarref03_Has_ok fu r4 b3) rfl rfl ⟨⟨_, rfl, .rfl⟩, ⟨_, rfl, .rfl⟩, trivial⟩ (fun _ => rfl) call34 rfl rfl fun r5 hr5 => ?_
  refine po_evs (T := tab) 2 rfl rfl ?_
  refine po_nil ?_
  refine pn_seq ?_
  exact pw_retN (T := tab) rfl rfl rfl ⟨rfl, rfl⟩ trivial rfl

def Valid_there_1_m (_fu : Nat) (n1 : Int) (c2 : Forest) : Option Bool := cnd (decide (n1 < 0)) (some true) (some (decide (n1 ≥ ((c2.Nodes.length : Nat) : Int))))

set_option maxRecDepth 100000 in
theorem Valid_there_1_ok (fu : Nat) (n1 : Int) (c2 : Forest) : ∀ r, Valid_there_1_m fu n1 c2 = some r → FC Try.prog 106 [.v (.int .i64 n1), .loc 900000 0] [(900000, .box [.sl 10 false (c2.Nodes.map cNode), .v (.int .i64 c2.Most)])] [900000] fun p S' => p = .v (.bool r) ∧ S' = [(900000, .box [.sl 10 false (c2.Nodes.map cNode), .v (.int .i64 c2.Most)])] := by
  intro r hr
  refine fc_intro (args := [.v (.int .i64 n1), .loc 900000 0]) (S := [(900000, .box [.sl 10 false (c2.Nodes.map cNode), .v (.int .i64 c2.Most)])]) (N0 := [900000]) (post := fun r p S => p = .v (.bool r) ∧ S = [(900000, .box [.sl 10 false (c2.Nodes.map cNode), .v (.int .i64 c2.Most)])]) Try.func106 rfl rfl hr fun w0 X X0 σ0 => ?_
  refine pw_seq ?_
  refine pw_region ?_
  refine po_evs (T := tab) 1 rfl rfl ?_
  refine po_nil ?_
  refine pn_seq ?_
  refine pw_seq ?_
  refine pw_region ?_
  refine po_evs (T := tab) 3 rfl rfl ?_
  refine po_split (j := 6) rfl ?_ ?_
  · refine po_evs (T := tab) 7 rfl rfl ?_
    refine po_nil ?_
    refine pn_seq ?_
    exact pw_retN (T := tab) rfl rfl rfl ⟨rfl, rfl⟩ ⟨rfl, trivial⟩ rfl
  · refine po_evs (T := tab) 3 rfl rfl ?_
    refine po_len (T := tab) cNode c2.Nodes rfl rfl rfl rfl rfl rfl rfl rfl ?_
    refine po_evs (T := tab) 3 rfl rfl ?_
    refine po_nil ?_
    refine pn_seq ?_
    exact pw_retN (T := tab) rfl rfl rfl ⟨rfl, rfl⟩ ⟨rfl, trivial⟩ rfl

set_option maxHeartbeats 10000000 in
set_option maxRecDepth 100000 in
theorem Slices_IndexFunc_int_i4_ok (fu : Nat) (s1 : (List Int)) (c2 : Forest) : ∀ r, Slices_IndexFunc_int_m fu (fun (z1 : Int) => Valid_there_1_m fu z1 c2) s1 = some r → FC Try.prog 105 [.sl 1 false (s1.map cInt_i64), .fn (.func 106) [] [.loc 900000 0]] [(900000, .box [.sl 10 false (c2.Nodes.map cNode), .v (.int .i64 c2.Most)])] [900000] fun p S' => p = .v (.int .i64 r) ∧ S' = [(900000, .box [.sl 10 false (c2.Nodes.map cNode), .v (.int .i64 c2.Most)])] := by
  intro r hr
  refine fc_intro (args := [.sl 1 false (s1.map cInt_i64), .fn (.func 106) [] [.loc 900000 0]]) (S := [(900000, .box [.sl 10 false (c2.Nodes.map cNode), .v (.int .i64 c2.Most)])]) (N0 := [900000]) (post := fun r p S => p = .v (.int .i64 r) ∧ S = [(900000, .box [.sl 10 false (c2.Nodes.map cNode), .v (.int .i64 c2.Most)])]) Try.func105 rfl rfl hr fun w0 X X0 σ0 => ?_
  refine pw_seq ?_
  refine pw_region ?_
  refine po_evs (T := tab) 1 rfl rfl ?_
  refine po_nil ?_
  refine pn_seq ?_
  refine pw_seq ?_
  refine pw_seq ?_
  refine pw_region ?_
  refine po_evs (T := tab) 1 rfl rfl ?_
  refine po_len (T := tab) cInt_i64 s1 rfl rfl rfl rfl rfl rfl rfl rfl ?_
  refine po_evs (T := tab) 1 rfl rfl ?_
  refine po_nil ?_
  refine pn_seq ?_
  refine pw_block ?_
  refine pw_loop' (Slices_IndexFunc_int_l1 (fun (z1 : Int) => Valid_there_1_m fu z1 c2) s1) (fun (t3 : Int) => [(0, .sl 1 false (s1.map cInt_i64)), (1, .fn (.func 106) [] [.loc 900000 0]), (7, .v (.int .i64 ((s1.length : Nat) : Int))), (8, .v (.int .i64 t3))]) (fun (t3 : Int) => [(900000, .box [.sl 10 false (c2.Nodes.map cNode), .v (.int .i64 c2.Most)])]) fu 0 (fun _ => rfl) ⟨rfl, rfl, rfl, rfl, trivial⟩ ⟨rfl, trivial⟩ rfl ?_
  rintro k1 t3
  refine pw_seq ?_
  refine pw_region ?_
  refine po_evs (T := tab) 1 rfl rfl ?_
  refine po_nil ?_
  refine pn_seq ?_
  refine pw_seq ?_
  refine pw_cnd rfl ?_ ?_
  · refine pw_skip ?_
    refine pn_seq ?_
    refine pw_seq ?_
    refine pw_block ?_
    refine pw_seq ?_
    refine pw_region ?_
    refine po_evs (T := tab) 2 rfl rfl ?_
    refine po_nil ?_
    refine pn_seq ?_
    refine pw_seq ?_
    refine pw_region ?_
    refine po_evs (T := tab) 3 rfl rfl ?_
    refine po_idx (T := tab) cInt_i64 s1 rfl rfl rfl rfl rfl rfl rfl fun y4 hy4 => ?_
    refine po_evs (T := tab) 1 rfl rfl ?_
    refine po_callv (enc := fun (r5 : Bool) => .v (.bool r5)) (first := []) (cap := [.loc 900000 0]) (qs := [.v (.int .i64 y4)]) (Sc := [(900000, .box [.sl 10 false (c2.Nodes.map cNode), .v (.int .i64 c2.Most)])]) (fun r5 hr5 => fc_ren [(900000, 900000)] [900000] (Valid_there_1_ok fu y4 c2 _ hr5) rfl rfl rfl rfl rfl rfl) (subS_of ⟨rfl, trivial⟩ rfl) rfl rfl rfl rfl ⟨⟨_, rfl, .rfl⟩, trivial⟩ (fun _ => rfl) call106 rfl rfl fun r5 hr5 => ?_
    refine po_nil ?_
    refine pn_seq ?_
    refine pw_cnd rfl ?_ ?_
    · refine pw_seq ?_
      refine pw_region ?_
      refine po_evs (T := tab) 2 rfl rfl ?_
      refine po_nil ?_
      refine pn_seq ?_
      exact pw_retN (T := tab) rfl rfl rfl ⟨rfl, rfl⟩ ⟨rfl, trivial⟩ rfl
    · refine pw_skip ?_
      refine pn_block ?_
      refine pn_seq ?_
      refine pw_region ?_
      refine po_arith' (T := tab) rfl rfl rfl rfl fun i6 hi6 => ?_
      refine po_evs (T := tab) 1 rfl rfl ?_
      refine po_nil ?_
      exact pn_iter' i6 ⟨rfl, rfl, rfl, rfl, trivial⟩ ⟨rfl, trivial⟩ rfl
  · refine pw_exit rfl ?_
    refine pn_seq ?_
    refine pw_seq ?_
    refine pw_region ?_
    refine po_evs (T := tab) 1 rfl rfl ?_
    refine po_nil ?_
    refine pn_seq ?_
    exact pw_retN (T := tab) rfl rfl rfl ⟨rfl, rfl⟩ ⟨rfl, trivial⟩ rfl

set_option maxRecDepth 100000 in
theorem Slices_ContainsFunc_int_i3_ok (fu : Nat) (s1 : (List Int)) (c2 : Forest) : ∀ r, Slices_ContainsFunc_int_m fu (fun (z1 : Int) => Valid_there_1_m fu z1 c2) s1 = some r → FC Try.prog 94 [.sl 1 false (s1.map cInt_i64), .fn (.func 106) [] [.loc 900000 0]] [(900000, .box [.sl 10 false (c2.Nodes.map cNode), .v (.int .i64 c2.Most)])] [900000] fun p S' => p = .v (.bool r) ∧ S' = [(900000, .box [.sl 10 false (c2.Nodes.map cNode), .v (.int .i64 c2.Most)])] := by
  intro r hr
  refine fc_intro (args := [.sl 1 false (s1.map cInt_i64), .fn (.func 106) [] [.loc 900000 0]]) (S := [(900000, .box [.sl 10 false (c2.Nodes.map cNode), .v (.int .i64 c2.Most)])]) (N0 := [900000]) (post := fun r p S => p = .v (.bool r) ∧ S = [(900000, .box [.sl 10 false (c2.Nodes.map cNode), .v (.int .i64 c2.Most)])]) Try.func94 rfl rfl hr fun w0 X X0 σ0 => ?_
  refine pw_seq ?_
  refine pw_region ?_
  refine po_evs (T := tab) 1 rfl rfl ?_
  refine po_nil ?_
  refine pn_seq ?_
  refine pw_seq ?_
  refine pw_region ?_
  refine po_evs (T := tab) 2 rfl rfl ?_
  refine po_callv (enc := fun (r3 : Int) => .v (.int .i64 r3)) (first := []) (cap := []) (qs := [.sl 1 false (s1.map cInt_i64), .fn (.func 106) [] [.loc 900000 0]]) (Sc := [(900000, .box [.sl 10 false (c2.Nodes.map cNode), .v (.int .i64 c2.Most)])]) (fun r3 hr3 => fc_ren [(900000, 900000)] [900000] (Slices_IndexFunc_int_i4_ok fu s1 c2 _ hr3) rfl rfl rfl rfl rfl rfl) (subS_of ⟨rfl, trivial⟩ rfl) rfl rfl rfl rfl ⟨⟨_, rfl, .rfl⟩, ⟨_, rfl, .rfl⟩, trivial⟩ (fun _ => rfl) call105 rfl rfl fun r3 hr3 => ?_
  refine po_evs (T := tab) 2 rfl rfl ?_
  refine po_nil ?_
  refine pn_seq ?_
  exact pw_retN (T := tab) rfl rfl rfl ⟨rfl, rfl⟩ ⟨rfl, trivial⟩ rfl

def Valid_there_m (fu : Nat) (f1 : Forest) (l2 : (List Int)) : Option Bool := bnd (Forest_Right_m fu f1) fun r3 => cnd r3 (bnd (Slices_ContainsFunc_int_m fu (fun (z1 : Int) => Valid_there_1_m fu z1 f1) l2) fun r4 => some (!r4)) (some false)

set_option maxRecDepth 100000 in
theorem Valid_there_ok (fu : Nat) (f1 : Forest) (l2 : (List Int)) : ∀ r, Valid_there_m fu f1 l2 = some r → DC Try.prog 79 [.agg (cForest f1), .sl 1 false (l2.map cInt_i64)] (.v (.bool r)) := by
  intro r hr
  refine fc_intro (args := [.agg (cForest f1), .sl 1 false (l2.map cInt_i64)]) (S := []) (N0 := []) (post := fun r p S => p = .v (.bool r) ∧ S = []) Try.func79 rfl rfl hr fun w0 X X0 σ0 => ?_
  refine pw_seq ?_
  refine pw_region ?_
  refine po_box  2 rfl rfl rfl rfl rfl rfl rfl rfl rfl rfl ?_
  refine po_evs (T := tab) 1 rfl rfl ?_
  refine po_nil ?_
  refine pn_seq ?_
  refine pw_seq ?_
  refine pw_region ?_
  refine po_evs (T := tab) 1 rfl rfl ?_
  refine po_call (enc := fun (r3 : Bool) => .v (.bool r3)) (qs := [.agg (cForest f1)]) (Forest_Right_ok fu f1) rfl rfl ⟨⟨_, rfl, .rfl⟩, trivial⟩ (fun _ => rfl) call19 rfl rfl fun r3 hr3 => ?_
  refine po_evs (T := tab) 1 rfl rfl ?_
  refine po_split (j := 7) rfl ?_ ?_
  · refine po_evs (T := tab) 2 rfl rfl ?_
    refine po_callv (enc := fun (r4 : Bool) => .v (.bool r4)) (first := []) (cap := []) (qs := [.sl 1 false (l2.map cInt_i64), .fn (.func 106) [] [.loc 2 0]]) (Sc := [(2, .box [.sl 10 false (f1.Nodes.map cNode), .v (.int .i64 f1.Most)])]) (fun r4 hr4 => fc_ren [(900000, 2)] [900000] (Slices_ContainsFunc_int_i3_ok fu l2 f1 _ hr4) rfl rfl rfl rfl rfl rfl) (subS_of ⟨rfl, trivial⟩ rfl) rfl rfl rfl rfl ⟨⟨_, rfl, .rfl⟩, ⟨_, rfl, .rfl⟩, trivial⟩ (fun _ => rfl) call94 rfl rfl fun r4 hr4 => ?_
    refine po_evs (T := tab) 3 rfl rfl ?_
    refine po_nil ?_
    refine pn_seq ?_
    exact pw_retN (T := tab) rfl rfl rfl ⟨rfl, rfl⟩ trivial rfl
  · refine po_evs (T := tab) 6 rfl rfl ?_
    refine po_nil ?_
    refine pn_seq ?_
    exact pw_retN (T := tab) rfl rfl rfl ⟨rfl, rfl⟩ trivial rfl

def Valid_place_kind_m (_fu : Nat) (l1 : Valid_place) (n2 : Int) : Option Int := bnd (idx l1.Forest.Nodes n2) fun y3 => some y3.Kind

set_option maxRecDepth 100000 in
theorem Valid_place_kind_ok (fu : Nat) (l1 : Valid_place) (n2 : Int) : ∀ r, Valid_place_kind_m fu l1 n2 = some r → DC Try.prog 107 [.agg (cValid_place l1), .v (.int .i64 n2)] (.v (.int .i64 r)) := by
  intro r hr
  refine fc_intro (args := [.agg (cValid_place l1), .v (.int .i64 n2)]) (S := []) (N0 := []) (post := fun r p S => p = .v (.int .i64 r) ∧ S = []) Try.func107 rfl rfl hr fun w0 X X0 σ0 => ?_
  refine pw_seq ?_
  refine pw_region ?_
  refine po_box  2 rfl rfl rfl rfl rfl rfl rfl rfl rfl rfl ?_
  refine po_evs (T := tab) 1 rfl rfl ?_
  refine po_nil ?_
  refine pn_seq ?_
  refine pw_seq ?_
  refine pw_region ?_
  refine po_evs (T := tab) 4 rfl rfl ?_
  refine po_idx (T := tab) cNode l1.Forest.Nodes rfl rfl rfl rfl rfl rfl rfl fun y3 hy3 => ?_
  refine po_evs (T := tab) 3 rfl rfl ?_
  refine po_nil ?_
  refine pn_seq ?_
  exact pw_retN (T := tab) rfl rfl rfl ⟨rfl, rfl⟩ trivial rfl

def Valid_place_many_l1 (fu : Nat) (l1 : Valid_place) (nodes2 : (List Int)) (kind3 : Int) : Nat → Int × Int → Option Int
  | 0, _ => none
  | k1 + 1, (n4, t5) => cnd (decide (t5 < ((nodes2.length : Nat) : Int))) (bnd (idx nodes2 t5) fun y6 => cnd (y6 != l1.gone) (bnd (Valid_place_kind_m fu l1 y6) fun r7 => cnd (r7 == kind3) (bnd (rng .i64 (n4 + 1)) fun i8 => bnd (rng .i64 (t5 + 1)) fun i9 => (Valid_place_many_l1 fu l1 nodes2 kind3 k1) (i8, i9)) (bnd (rng .i64 (t5 + 1)) fun i10 => (Valid_place_many_l1 fu l1 nodes2 kind3 k1) (n4, i10))) (bnd (rng .i64 (t5 + 1)) fun i11 => (Valid_place_many_l1 fu l1 nodes2 kind3 k1) (n4, i11))) (some n4)

def Valid_place_many_m (fu : Nat) (l1 : Valid_place) (nodes2 : (List Int)) (kind3 : Int) : Option Int := (Valid_place_many_l1 fu l1 nodes2 kind3) fu (0, 0)

set_option maxHeartbeats 10000000 in
set_option maxRecDepth 100000 in
theorem Valid_place_many_ok (fu : Nat) (l1 : Valid_place) (nodes2 : (List Int)) (kind3 : Int) : ∀ r, Valid_place_many_m fu l1 nodes2 kind3 = some r → DC Try.prog 121 [.agg (cValid_place l1), .sl 1 false (nodes2.map cInt_i64), .v (.int .i64 kind3)] (.v (.int .i64 r)) := by
  intro r hr
  refine fc_intro (args := [.agg (cValid_place l1), .sl 1 false (nodes2.map cInt_i64), .v (.int .i64 kind3)]) (S := []) (N0 := []) (post := fun r p S => p = .v (.int .i64 r) ∧ S = []) Try.func121 rfl rfl hr fun w0 X X0 σ0 => ?_
  refine pw_seq ?_
  refine pw_region ?_
  refine po_box  3 rfl rfl rfl rfl rfl rfl rfl rfl rfl rfl ?_
  refine po_evs (T := tab) 1 rfl rfl ?_
  refine po_nil ?_
  refine pn_seq ?_
  refine pw_seq ?_
  refine pw_region ?_
  refine po_evs (T := tab) 1 rfl rfl ?_
  refine po_nil ?_
  refine pn_seq ?_
  refine pw_seq ?_
  refine pw_seq ?_
  refine pw_region ?_
  refine po_evs (T := tab) 1 rfl rfl ?_
  refine po_len (T := tab) cInt_i64 nodes2 rfl rfl rfl rfl rfl rfl rfl rfl ?_
  refine po_evs (T := tab) 1 rfl rfl ?_
  refine po_nil ?_
  refine pn_seq ?_
  refine pw_block ?_
  refine pw_loop' (Valid_place_many_l1 fu l1 nodes2 kind3) (fun ((n4, t5) : Int × Int) => [(2, .v (.int .i64 kind3)), (3, .loc 3 0), (7, .v (.int .i64 n4)), (10, .sl 1 false (nodes2.map cInt_i64)), (11, .v (.int .i64 ((nodes2.length : Nat) : Int))), (12, .v (.int .i64 t5))]) (fun ((n4, t5) : Int × Int) => [(3, .box [.sl 10 false (l1.Forest.Nodes.map cNode), .v (.int .i64 l1.Forest.Most), .v (.int .i64 l1.p), .v (.int .i64 l1.child), .v (.int .i64 l1.gone)])]) fu (0, 0) (fun _ => rfl) ⟨rfl, rfl, rfl, rfl, rfl, rfl, trivial⟩ ⟨rfl, trivial⟩ rfl ?_
  rintro k1 ⟨n4, t5⟩
  refine pw_seq ?_
  refine pw_region ?_
  refine po_evs (T := tab) 1 rfl rfl ?_
  refine po_nil ?_
  refine pn_seq ?_
  refine pw_seq ?_
  refine pw_cnd rfl ?_ ?_
  · refine pw_skip ?_
    refine pn_seq ?_
    refine pw_seq ?_
    refine pw_block ?_
    refine pw_seq ?_
    refine pw_region ?_
    refine po_idx (T := tab) cInt_i64 nodes2 rfl rfl rfl rfl rfl rfl rfl fun y6 hy6 => ?_
    refine po_evs (T := tab) 2 rfl rfl ?_
    refine po_nil ?_
    refine pn_seq ?_
    refine pw_seq ?_
    refine pw_region ?_
    refine po_evs (T := tab) 5 rfl rfl ?_
    refine po_split (j := 20) rfl ?_ ?_
    · refine po_evs (T := tab) 2 rfl rfl ?_
      refine po_call (enc := fun (r7 : Int) => .v (.int .i64 r7)) (qs := [.agg (cValid_place l1), .v (.int .i64 y6)]) (Valid_place_kind_ok fu l1 y6) rfl rfl ⟨⟨_, rfl, .rfl⟩, ⟨_, rfl, .rfl⟩, trivial⟩ (fun _ => rfl) call107 rfl rfl fun r7 hr7 => ?_
      refine po_evs (T := tab) 3 rfl rfl ?_
      refine po_nil ?_
      refine pn_seq ?_
      refine pw_cnd rfl ?_ ?_
      · refine pw_region ?_
        refine po_evs (T := tab) 1 rfl rfl ?_
        refine po_arith' (T := tab) rfl rfl rfl rfl fun i8 hi8 => ?_
        refine po_evs (T := tab) 1 rfl rfl ?_
        refine po_nil ?_
        refine pn_block ?_
        refine pn_seq ?_
        refine pw_region ?_
        refine po_arith' (T := tab) rfl rfl rfl rfl fun i9 hi9 => ?_
        refine po_evs (T := tab) 1 rfl rfl ?_
        refine po_nil ?_
        exact pn_iter' (i8, i9) ⟨rfl, rfl, rfl, rfl, rfl, rfl, trivial⟩ ⟨rfl, trivial⟩ rfl
      · refine pw_skip ?_
        refine pn_block ?_
        refine pn_seq ?_
        refine pw_region ?_
        refine po_arith' (T := tab) rfl rfl rfl rfl fun i10 hi10 => ?_
        refine po_evs (T := tab) 1 rfl rfl ?_
        refine po_nil ?_
        exact pn_iter' (n4, i10) ⟨rfl, rfl, rfl, rfl, rfl, rfl, trivial⟩ ⟨rfl, trivial⟩ rfl
    · refine po_evs (T := tab) 6 rfl rfl ?_
      refine po_nil ?_
      refine pn_seq (pw_else rfl ?_)
      refine pw_skip ?_
      refine pn_block ?_
      refine pn_seq ?_
      refine pw_region ?_
      refine po_arith' (T := tab) rfl rfl rfl rfl fun i11 hi11 => ?_
      refine po_evs (T := tab) 1 rfl rfl ?_
      refine po_nil ?_
      exact pn_iter' (n4, i11) ⟨rfl, rfl, rfl, rfl, rfl, rfl, trivial⟩ ⟨rfl, trivial⟩ rfl
  · refine pw_exit rfl ?_
    refine pn_seq ?_
    refine pw_seq ?_
    refine pw_region ?_
    refine po_evs (T := tab) 2 rfl rfl ?_
    refine po_nil ?_
    refine pn_seq ?_
    exact pw_retN (T := tab) rfl rfl rfl ⟨rfl, rfl⟩ trivial rfl

def Valid_place_crowded_m (fu : Nat) (l1 : Valid_place) (nodes2 : (List Int)) : Option Bool := bnd (Valid_place_many_m fu l1 nodes2 2) fun r3 => cnd (decide (r3 > 0)) (some true) (bnd (Valid_place_many_m fu l1 nodes2 1) fun r4 => cnd (decide (r4 > 0)) (bnd (Valid_place_many_m fu l1 nodes2 1) fun r5 => bnd (idx l1.Forest.Nodes l1.p) fun y6 => bnd (Valid_place_many_m fu l1 y6.Kids 1) fun r7 => bnd (rng .i64 (r5 + r7)) fun i8 => some (decide (i8 > 1))) (some false))

set_option maxRecDepth 100000 in
theorem Valid_place_crowded_ok (fu : Nat) (l1 : Valid_place) (nodes2 : (List Int)) : ∀ r, Valid_place_crowded_m fu l1 nodes2 = some r → DC Try.prog 108 [.agg (cValid_place l1), .sl 1 false (nodes2.map cInt_i64)] (.v (.bool r)) := by
  intro r hr
  refine fc_intro (args := [.agg (cValid_place l1), .sl 1 false (nodes2.map cInt_i64)]) (S := []) (N0 := []) (post := fun r p S => p = .v (.bool r) ∧ S = []) Try.func108 rfl rfl hr fun w0 X X0 σ0 => ?_
  refine pw_seq ?_
  refine pw_region ?_
  refine po_box  2 rfl rfl rfl rfl rfl rfl rfl rfl rfl rfl ?_
  refine po_evs (T := tab) 1 rfl rfl ?_
  refine po_nil ?_
  refine pn_seq ?_
  refine pw_seq ?_
  refine pw_draw mixed (by kernel_rfl) ?_
  refine pd_evs (T := tab) 2 rfl rfl ?_
  refine pd_call (enc := fun (r3 : Int) => .v (.int .i64 r3)) (qs := [.agg (cValid_place l1), .sl 1 false (nodes2.map cInt_i64), .v (.int .i64 2)]) (Valid_place_many_ok fu l1 nodes2 2) rfl rfl ⟨⟨_, rfl, .rfl⟩, ⟨_, rfl, .rfl⟩, ⟨_, rfl, .rfl⟩, trivial⟩ (fun _ => rfl) call121 rfl rfl fun r3 hr3 => ?_
  refine pd_evs (T := tab) 2 rfl rfl ?_
  refine pd_split (j := 9) rfl ?_ ?_
  · refine pd_evs (T := tab) 23 rfl rfl ?_
    refine pd_nil ?_
    refine pn_seq ?_
    exact pw_retN (T := tab) rfl rfl rfl ⟨rfl, rfl⟩ trivial rfl
  · refine pd_evs (T := tab) 2 rfl rfl ?_
    refine pd_call (enc := fun (r4 : Int) => .v (.int .i64 r4)) (qs := [.agg (cValid_place l1), .sl 1 false (nodes2.map cInt_i64), .v (.int .i64 1)]) (Valid_place_many_ok fu l1 nodes2 1) rfl rfl ⟨⟨_, rfl, .rfl⟩, ⟨_, rfl, .rfl⟩, ⟨_, rfl, .rfl⟩, trivial⟩ (fun _ => rfl) call121 rfl rfl fun r4 hr4 => ?_
    refine pd_evs (T := tab) 2 rfl rfl ?_
    refine pd_split (j := 14) rfl ?_ ?_
    · refine pd_evs (T := tab) 2 rfl rfl ?_
      refine pd_call (enc := fun (r5 : Int) => .v (.int .i64 r5)) (qs := [.agg (cValid_place l1), .sl 1 false (nodes2.map cInt_i64), .v (.int .i64 1)]) (Valid_place_many_ok fu l1 nodes2 1) rfl rfl ⟨⟨_, rfl, .rfl⟩, ⟨_, rfl, .rfl⟩, ⟨_, rfl, .rfl⟩, trivial⟩ (fun _ => rfl) call121 rfl rfl fun r5 hr5 => ?_
      refine pd_evs (T := tab) 6 rfl rfl ?_
      refine pd_idx (T := tab) cNode l1.Forest.Nodes rfl rfl rfl rfl rfl rfl rfl fun y6 hy6 => ?_
      refine pd_evs (T := tab) 2 rfl rfl ?_
      refine pd_call (enc := fun (r7 : Int) => .v (.int .i64 r7)) (qs := [.agg (cValid_place l1), .sl 1 false (y6.Kids.map cInt_i64), .v (.int .i64 1)]) (Valid_place_many_ok fu l1 y6.Kids 1) rfl rfl ⟨⟨_, rfl, .rfl⟩, ⟨_, rfl, .rfl⟩, ⟨_, rfl, .rfl⟩, trivial⟩ (fun _ => rfl) call121 rfl rfl fun r7 hr7 => ?_
      refine pd_arith (T := tab) rfl rfl rfl rfl fun i8 hi8 => ?_
      refine pd_evs (T := tab) 4 rfl rfl ?_
      refine pd_nil ?_
      refine pn_seq ?_
      exact pw_retN (T := tab) rfl rfl rfl ⟨rfl, rfl⟩ trivial rfl
    · refine pd_evs (T := tab) 18 rfl rfl ?_
      refine pd_nil ?_
      refine pn_seq ?_
      exact pw_retN (T := tab) rfl rfl rfl ⟨rfl, rfl⟩ trivial rfl

def Valid_place_tell_j4 (fu : Nat) (l1 : Valid_place) (n2 : Int) (r8 : Int) (t9 : Bool) : Option Int := cnd t9 (some 5) (cnd (r8 == 3) (bnd (Valid_place_kind_m fu l1 l1.p) fun r10 => cnd (r10 == 0) (bnd (idx l1.Forest.Nodes n2) fun y11 => bnd (Valid_place_crowded_m fu l1 y11.Kids) fun r12 => cnd r12 (some 5) (some 0)) (some 0)) (bnd (Valid_place_kind_m fu l1 l1.p) fun r13 => cnd (r13 == 0) (bnd (Valid_place_crowded_m fu l1 [n2]) fun r14 => cnd r14 (some 5) (some 0)) (some 0)))

def Valid_place_tell_j3 (fu : Nat) (l1 : Valid_place) (n2 : Int) (x_ : Unit) : Option Int := bnd (Valid_place_kind_m fu l1 n2) fun r8 => cnd (r8 == 0) ((Valid_place_tell_j4 fu l1 n2 r8) (r8 == 0)) ((Valid_place_tell_j4 fu l1 n2 r8) (r8 == 4))

def Valid_place_tell_j2 (fu : Nat) (l1 : Valid_place) (n2 : Int) (holder4 : Bool) (child6 : Bool) : Option Int := cnd (!holder4) (cnd (!holder4) (some 5) (cnd (!child6) (some 6) ((Valid_place_tell_j3 fu l1 n2) ()))) (bnd (Shade_Over_m fu l1.Forest n2 l1.p) fun r7 => cnd r7 (some 5) (cnd (!child6) (some 6) ((Valid_place_tell_j3 fu l1 n2) ())))

def Valid_place_tell_j1 (fu : Nat) (l1 : Valid_place) (n2 : Int) (holder4 : Bool) : Option Int := cnd (l1.child != (-1)) (bnd (idx l1.Forest.Nodes l1.child) fun y5 => (Valid_place_tell_j2 fu l1 n2 holder4) (y5.Parent == l1.p)) ((Valid_place_tell_j2 fu l1 n2 holder4) (l1.child == (-1)))

def Valid_place_tell_m (fu : Nat) (l1 : Valid_place) (n2 : Int) : Option Int := bnd (Valid_place_kind_m fu l1 l1.p) fun r3 => cnd (r3 == 0) (cnd (r3 == 0) ((Valid_place_tell_j1 fu l1 n2) true) ((Valid_place_tell_j1 fu l1 n2) false)) (cnd (r3 == 1) (cnd (r3 == 1) ((Valid_place_tell_j1 fu l1 n2) true) ((Valid_place_tell_j1 fu l1 n2) false)) (cnd (r3 == 3) (cnd (r3 == 3) ((Valid_place_tell_j1 fu l1 n2) true) ((Valid_place_tell_j1 fu l1 n2) false)) (cnd (r3 == 4) ((Valid_place_tell_j1 fu l1 n2) true) ((Valid_place_tell_j1 fu l1 n2) false))))

set_option maxHeartbeats 10000000 in
set_option maxRecDepth 100000 in
theorem Valid_place_tell_ok (fu : Nat) (l1 : Valid_place) (n2 : Int) : ∀ r, Valid_place_tell_m fu l1 n2 = some r → DC Try.prog 80 [.agg (cValid_place l1), .v (.int .i64 n2)] (.v (.int .i64 r)) := by
  intro r hr
  refine fc_intro (args := [.agg (cValid_place l1), .v (.int .i64 n2)]) (S := []) (N0 := []) (post := fun r p S => p = .v (.int .i64 r) ∧ S = []) Try.func80 rfl rfl hr fun w0 X X0 σ0 => ?_
  refine pw_seq ?_
  refine pw_region ?_
  refine po_box  2 rfl rfl rfl rfl rfl rfl rfl rfl rfl rfl ?_
  refine po_evs (T := tab) 1 rfl rfl ?_
  refine po_nil ?_
  refine pn_seq ?_
  refine pw_seq ?_
  refine pw_draw mixed (by kernel_rfl) ?_
  refine pd_evs (T := tab) 5 rfl rfl ?_
  refine pd_nil ?_
  refine pn_seq ?_
  refine pw_seq ?_
  refine pw_seq ?_
  refine pw_region ?_
  refine po_evs (T := tab) 3 rfl rfl ?_
  refine po_call (enc := fun (r3 : Int) => .v (.int .i64 r3)) (qs := [.agg (cValid_place l1), .v (.int .i64 l1.p)]) (Valid_place_kind_ok fu l1 l1.p) rfl rfl ⟨⟨_, rfl, .rfl⟩, ⟨_, rfl, .rfl⟩, trivial⟩ (fun _ => rfl) call107 rfl rfl fun r3 hr3 => ?_
  refine po_nil ?_
  refine pn_seq ?_
  refine pw_joinK (Valid_place_tell_j1 fu l1 n2) (fun (holder4 : Bool) => [(1, .v (.int .i64 n2)), (2, .loc 2 0), (5, .v (.bool holder4)), (6, .v (.bool (l1.child == (-1))))]) (fun (holder4 : Bool) => [(2, .box [.sl 10 false (l1.Forest.Nodes.map cNode), .v (.int .i64 l1.Forest.Most), .v (.int .i64 l1.p), .v (.int .i64 l1.child), .v (.int .i64 l1.gone)])]) ?_ fun hj1 => ?_
  · rintro holder4
    refine pn_seq ?_
    refine pw_seq ?_
    refine pw_seq ?_
    refine pw_region ?_
    refine po_evs (T := tab) 3 rfl rfl ?_
    refine po_nil ?_
    refine pn_seq ?_
    refine pw_joinK (Valid_place_tell_j2 fu l1 n2 holder4) (fun (child6 : Bool) => [(1, .v (.int .i64 n2)), (2, .loc 2 0), (5, .v (.bool holder4)), (6, .v (.bool child6))]) (fun (child6 : Bool) => [(2, .box [.sl 10 false (l1.Forest.Nodes.map cNode), .v (.int .i64 l1.Forest.Most), .v (.int .i64 l1.p), .v (.int .i64 l1.child), .v (.int .i64 l1.gone)])]) ?_ fun hj2 => ?_
    · rintro child6
      refine pn_seq ?_
      refine pw_seq ?_
      refine pw_joinK (Valid_place_tell_j3 fu l1 n2) (fun (_ : Unit) => [(1, .v (.int .i64 n2)), (2, .loc 2 0)]) (fun (_ : Unit) => [(2, .box [.sl 10 false (l1.Forest.Nodes.map cNode), .v (.int .i64 l1.Forest.Most), .v (.int .i64 l1.p), .v (.int .i64 l1.child), .v (.int .i64 l1.gone)])]) ?_ fun hj3 => ?_
      · rintro _
        refine pn_seq ?_
        refine pw_seq ?_
        refine pw_seq ?_
        refine pw_region ?_
        refine po_evs (T := tab) 2 rfl rfl ?_
        refine po_call (enc := fun (r8 : Int) => .v (.int .i64 r8)) (qs := [.agg (cValid_place l1), .v (.int .i64 n2)]) (Valid_place_kind_ok fu l1 n2) rfl rfl ⟨⟨_, rfl, .rfl⟩, ⟨_, rfl, .rfl⟩, trivial⟩ (fun _ => rfl) call107 rfl rfl fun r8 hr8 => ?_
        refine po_nil ?_
        refine pn_seq ?_
        refine pw_block ?_
        refine pw_seq ?_
        refine pw_seq ?_
        refine pw_region ?_
        refine po_evs (T := tab) 2 rfl rfl ?_
        refine po_nil ?_
        refine pn_seq ?_
        refine pw_joinK (Valid_place_tell_j4 fu l1 n2 r8) (fun (t9 : Bool) => [(1, .v (.int .i64 n2)), (2, .loc 2 0), (47, .v (.int .i64 r8)), (48, .v (.bool t9))]) (fun (t9 : Bool) => [(2, .box [.sl 10 false (l1.Forest.Nodes.map cNode), .v (.int .i64 l1.Forest.Most), .v (.int .i64 l1.p), .v (.int .i64 l1.child), .v (.int .i64 l1.gone)])]) ?_ fun hj4 => ?_
        · rintro t9
          refine pn_seq ?_
          refine pw_cnd rfl ?_ ?_
          · refine pw_seq ?_
            refine pw_region ?_
            refine po_evs (T := tab) 1 rfl rfl ?_
            refine po_nil ?_
            refine pn_seq ?_
            exact pw_retN (T := tab) rfl rfl rfl ⟨rfl, rfl⟩ trivial rfl
          · refine pw_seq ?_
            refine pw_region ?_
            refine po_evs (T := tab) 2 rfl rfl ?_
            refine po_nil ?_
            refine pn_seq ?_
            refine pw_cnd rfl ?_ ?_
            · refine pw_seq ?_
              refine pw_seq ?_
              refine pw_draw mixed (by kernel_rfl) ?_
              refine pd_evs (T := tab) 3 rfl rfl ?_
              refine pd_call (enc := fun (r10 : Int) => .v (.int .i64 r10)) (qs := [.agg (cValid_place l1), .v (.int .i64 l1.p)]) (Valid_place_kind_ok fu l1 l1.p) rfl rfl ⟨⟨_, rfl, .rfl⟩, ⟨_, rfl, .rfl⟩, trivial⟩ (fun _ => rfl) call107 rfl rfl fun r10 hr10 => ?_
              refine pd_evs (T := tab) 2 rfl rfl ?_
              refine pd_split (j := 58) rfl ?_ ?_
              · refine pd_evs (T := tab) 5 rfl rfl ?_
                refine pd_idx (T := tab) cNode l1.Forest.Nodes rfl rfl rfl rfl rfl rfl rfl fun y11 hy11 => ?_
                refine pd_evs (T := tab) 2 rfl rfl ?_
                refine pd_call (enc := fun (r12 : Bool) => .v (.bool r12)) (qs := [.agg (cValid_place l1), .sl 1 false (y11.Kids.map cInt_i64)]) (Valid_place_crowded_ok fu l1 y11.Kids) rfl rfl ⟨⟨_, rfl, .rfl⟩, ⟨_, rfl, .rfl⟩, trivial⟩ (fun _ => rfl) call108 rfl rfl fun r12 hr12 => ?_
                refine pd_evs (T := tab) 1 rfl rfl ?_
                refine pd_nil ?_
                refine pn_seq ?_
                refine pw_cnd rfl ?_ ?_
                · refine pw_seq ?_
                  refine pw_region ?_
                  refine po_evs (T := tab) 1 rfl rfl ?_
                  refine po_nil ?_
                  refine pn_seq ?_
                  exact pw_retN (T := tab) rfl rfl rfl ⟨rfl, rfl⟩ trivial rfl
                · refine pw_skip ?_
                  refine pn_seq ?_
                  refine pw_seq ?_
                  refine pw_region ?_
                  refine po_evs (T := tab) 1 rfl rfl ?_
                  refine po_nil ?_
                  refine pn_seq ?_
                  exact pw_retN (T := tab) rfl rfl rfl ⟨rfl, rfl⟩ trivial rfl
              · refine pd_evs (T := tab) 10 rfl rfl ?_
                refine pd_nil ?_
                refine pn_seq (pw_else rfl ?_)
                refine pw_skip ?_
                refine pn_seq ?_
                refine pw_seq ?_
                refine pw_region ?_
                refine po_evs (T := tab) 1 rfl rfl ?_
                refine po_nil ?_
                refine pn_seq ?_
                exact pw_retN (T := tab) rfl rfl rfl ⟨rfl, rfl⟩ trivial rfl
            · refine pw_skip ?_
              refine pn_block ?_
              refine pn_seq ?_
              refine pw_seq ?_
              refine pw_seq ?_
              refine pw_region ?_
              refine po_evs (T := tab) 3 rfl rfl ?_
              refine po_call (enc := fun (r13 : Int) => .v (.int .i64 r13)) (qs := [.agg (cValid_place l1), .v (.int .i64 l1.p)]) (Valid_place_kind_ok fu l1 l1.p) rfl rfl ⟨⟨_, rfl, .rfl⟩, ⟨_, rfl, .rfl⟩, trivial⟩ (fun _ => rfl) call107 rfl rfl fun r13 hr13 => ?_
              refine po_evs (T := tab) 2 rfl rfl ?_
              refine po_split (j := 74) rfl ?_ ?_
              · refine po_evs (T := tab) 2 rfl rfl ?_
                refine po_lit (T := tab) (rows := [n2].map cInt_i64) 77 rfl rfl rfl rfl rfl rfl rfl rfl rfl rfl rfl rfl rfl rfl ?_
                refine po_freeze 77 rfl rfl rfl ?_
                refine po_call (enc := fun (r14 : Bool) => .v (.bool r14)) (qs := [.agg (cValid_place l1), .sl 1 false ([n2].map cInt_i64)]) (Valid_place_crowded_ok fu l1 [n2]) rfl rfl ⟨⟨_, rfl, .rfl⟩, ⟨_, rfl, .rfl⟩, trivial⟩ (fun _ => rfl) call108 rfl rfl fun r14 hr14 => ?_
                refine po_evs (T := tab) 1 rfl rfl ?_
                refine po_nil ?_
                refine pn_seq ?_
                refine pw_cnd rfl ?_ ?_
                · refine pw_seq ?_
                  refine pw_region ?_
                  refine po_evs (T := tab) 1 rfl rfl ?_
                  refine po_nil ?_
                  refine pn_seq ?_
                  exact pw_retN (T := tab) rfl rfl rfl ⟨rfl, rfl⟩ trivial rfl
                · refine pw_skip ?_
                  refine pn_seq ?_
                  refine pw_seq ?_
                  refine pw_region ?_
                  refine po_evs (T := tab) 1 rfl rfl ?_
                  refine po_nil ?_
                  refine pn_seq ?_
                  exact pw_retN (T := tab) rfl rfl rfl ⟨rfl, rfl⟩ trivial rfl
              · refine po_evs (T := tab) 5 rfl rfl ?_
                refine po_nil ?_
                refine pn_seq (pw_else rfl ?_)
                refine pw_skip ?_
                refine pn_seq ?_
                refine pw_seq ?_
                refine pw_region ?_
                refine po_evs (T := tab) 1 rfl rfl ?_
                refine po_nil ?_
                refine pn_seq ?_
                exact pw_retN (T := tab) rfl rfl rfl ⟨rfl, rfl⟩ trivial rfl
        · refine pw_cnd rfl ?_ ?_
          · refine pw_skip ?_
            exact pn_sub' (hj4 (r8 == 0)) ⟨rfl, rfl, rfl, rfl, trivial⟩ ⟨rfl, trivial⟩ rfl
          · refine pw_region ?_
            refine po_evs (T := tab) 2 rfl rfl ?_
            refine po_nil ?_
            exact pn_sub' (hj4 (r8 == 4)) ⟨rfl, rfl, rfl, rfl, trivial⟩ ⟨rfl, trivial⟩ rfl
      · refine pw_block ?_
        refine pw_seq ?_
        refine pw_seq ?_
        refine pw_region ?_
        refine po_evs (T := tab) 3 rfl rfl ?_
        refine po_nil ?_
        refine pn_seq ?_
        refine pw_cnd rfl ?_ ?_
        · refine pw_skip ?_
          refine pn_seq ?_
          refine pw_cnd rfl ?_ ?_
          · refine pw_seq ?_
            refine pw_region ?_
            refine po_evs (T := tab) 1 rfl rfl ?_
            refine po_nil ?_
            refine pn_seq ?_
            exact pw_retN (T := tab) rfl rfl rfl ⟨rfl, rfl⟩ trivial rfl
          · refine pw_seq ?_
            refine pw_region ?_
            refine po_evs (T := tab) 3 rfl rfl ?_
            refine po_nil ?_
            refine pn_seq ?_
            refine pw_cnd rfl ?_ ?_
            · refine pw_seq ?_
              refine pw_region ?_
              refine po_evs (T := tab) 1 rfl rfl ?_
              refine po_nil ?_
              refine pn_seq ?_
              exact pw_retN (T := tab) rfl rfl rfl ⟨rfl, rfl⟩ trivial rfl
            · refine pw_skip ?_
              refine pn_block ?_
              exact pn_sub' (hj3 ()) ⟨rfl, rfl, trivial⟩ ⟨rfl, trivial⟩ rfl
        · refine pw_region ?_
          refine po_evs (T := tab) 5 rfl rfl ?_
          refine po_call (enc := fun (r7 : Bool) => .v (.bool r7)) (qs := [.agg (cForest l1.Forest), .v (.int .i64 n2), .v (.int .i64 l1.p)]) (Shade_Over_ok fu l1.Forest n2 l1.p) rfl rfl ⟨⟨_, rfl, .rfl⟩, ⟨_, rfl, .rfl⟩, ⟨_, rfl, .rfl⟩, trivial⟩ (fun _ => rfl) call43 rfl rfl fun r7 hr7 => ?_
          refine po_evs (T := tab) 1 rfl rfl ?_
          refine po_nil ?_
          refine pn_seq ?_
          refine pw_cnd rfl ?_ ?_
          · refine pw_seq ?_
            refine pw_region ?_
            refine po_evs (T := tab) 1 rfl rfl ?_
            refine po_nil ?_
            refine pn_seq ?_
            exact pw_retN (T := tab) rfl rfl rfl ⟨rfl, rfl⟩ trivial rfl
          · refine pw_seq ?_
            refine pw_region ?_
            refine po_evs (T := tab) 3 rfl rfl ?_
            refine po_nil ?_
            refine pn_seq ?_
            refine pw_cnd rfl ?_ ?_
            · refine pw_seq ?_
              refine pw_region ?_
              refine po_evs (T := tab) 1 rfl rfl ?_
              refine po_nil ?_
              refine pn_seq ?_
              exact pw_retN (T := tab) rfl rfl rfl ⟨rfl, rfl⟩ trivial rfl
            · refine pw_skip ?_
              refine pn_block ?_
              exact pn_sub' (hj3 ()) ⟨rfl, rfl, trivial⟩ ⟨rfl, trivial⟩ rfl
    · refine pw_cnd rfl ?_ ?_
      · refine pw_draw mixed (by kernel_rfl) ?_
        refine pd_evs (T := tab) 5 rfl rfl ?_
        refine pd_idx (T := tab) cNode l1.Forest.Nodes rfl rfl rfl rfl rfl rfl rfl fun y5 hy5 => ?_
        refine pd_evs (T := tab) 6 rfl rfl ?_
        refine pd_nil ?_
        exact pn_sub' (hj2 (y5.Parent == l1.p)) ⟨rfl, rfl, rfl, rfl, trivial⟩ ⟨rfl, trivial⟩ rfl
      · refine pw_skip ?_
        exact pn_sub' (hj2 (l1.child == (-1))) ⟨rfl, rfl, rfl, rfl, trivial⟩ ⟨rfl, trivial⟩ rfl
  · refine pw_block ?_
    refine pw_seq ?_
    refine pw_seq ?_
    refine pw_region ?_
    refine po_evs (T := tab) 2 rfl rfl ?_
    refine po_nil ?_
    refine pn_seq ?_
    refine pw_cnd rfl ?_ ?_
    · refine pw_skip ?_
      refine pn_seq ?_
      refine pw_cnd rfl ?_ ?_
      · refine pw_region ?_
        refine po_evs (T := tab) 1 rfl rfl ?_
        refine po_nil ?_
        refine pn_block ?_
        exact pn_sub' (hj1 true) ⟨rfl, rfl, rfl, rfl, trivial⟩ ⟨rfl, trivial⟩ rfl
      · refine pw_skip ?_
        refine pn_block ?_
        exact pn_sub' (hj1 false) ⟨rfl, rfl, rfl, rfl, trivial⟩ ⟨rfl, trivial⟩ rfl
    · refine pw_seq ?_
      refine pw_region ?_
      refine po_evs (T := tab) 2 rfl rfl ?_
      refine po_nil ?_
      refine pn_seq ?_
      refine pw_cnd rfl ?_ ?_
      · refine pw_skip ?_
        refine pn_seq ?_
        refine pw_cnd rfl ?_ ?_
        · refine pw_region ?_
          refine po_evs (T := tab) 1 rfl rfl ?_
          refine po_nil ?_
          refine pn_block ?_
          exact pn_sub' (hj1 true) ⟨rfl, rfl, rfl, rfl, trivial⟩ ⟨rfl, trivial⟩ rfl
        · refine pw_skip ?_
          refine pn_block ?_
          exact pn_sub' (hj1 false) ⟨rfl, rfl, rfl, rfl, trivial⟩ ⟨rfl, trivial⟩ rfl
      · refine pw_seq ?_
        refine pw_region ?_
        refine po_evs (T := tab) 2 rfl rfl ?_
        refine po_nil ?_
        refine pn_seq ?_
        refine pw_cnd rfl ?_ ?_
        · refine pw_skip ?_
          refine pn_seq ?_
          refine pw_cnd rfl ?_ ?_
          · refine pw_region ?_
            refine po_evs (T := tab) 1 rfl rfl ?_
            refine po_nil ?_
            refine pn_block ?_
            exact pn_sub' (hj1 true) ⟨rfl, rfl, rfl, rfl, trivial⟩ ⟨rfl, trivial⟩ rfl
          · refine pw_skip ?_
            refine pn_block ?_
            exact pn_sub' (hj1 false) ⟨rfl, rfl, rfl, rfl, trivial⟩ ⟨rfl, trivial⟩ rfl
        · refine pw_region ?_
          refine po_evs (T := tab) 2 rfl rfl ?_
          refine po_nil ?_
          refine pn_seq ?_
          refine pw_cnd rfl ?_ ?_
          · refine pw_region ?_
            refine po_evs (T := tab) 1 rfl rfl ?_
            refine po_nil ?_
            refine pn_block ?_
            exact pn_sub' (hj1 true) ⟨rfl, rfl, rfl, rfl, trivial⟩ ⟨rfl, trivial⟩ rfl
          · refine pw_skip ?_
            refine pn_block ?_
            exact pn_sub' (hj1 false) ⟨rfl, rfl, rfl, rfl, trivial⟩ ⟨rfl, trivial⟩ rfl

def Valid_May_m (fu : Nat) (f1 : Forest) (n2 : Int) (p3 : Int) (child4 : Int) : Option Int := bnd (Valid_there_m fu f1 [n2, p3]) fun r5 => cnd (!r5) (some 1) (cnd (child4 != (-1)) (bnd (Valid_there_m fu f1 [child4]) fun r6 => cnd (!r6) (some 1) (bnd (Valid_place_tell_m fu (⟨(⟨f1.Nodes, f1.Most⟩ : Forest), p3, child4, (-1)⟩ : Valid_place) n2) fun r7 => some r7)) (bnd (Valid_place_tell_m fu (⟨(⟨f1.Nodes, f1.Most⟩ : Forest), p3, child4, (-1)⟩ : Valid_place) n2) fun r8 => some r8))

set_option maxHeartbeats 10000000 in
set_option maxRecDepth 100000 in
theorem Valid_May_ok (fu : Nat) (f1 : Forest) (n2 : Int) (p3 : Int) (child4 : Int) : ∀ r, Valid_May_m fu f1 n2 p3 child4 = some r → DC Try.prog 52 [.agg (cForest f1), .v (.int .i64 n2), .v (.int .i64 p3), .v (.int .i64 child4)] (.v (.int .i64 r)) := by
  intro r hr
  refine fc_intro (args := [.agg (cForest f1), .v (.int .i64 n2), .v (.int .i64 p3), .v (.int .i64 child4)]) (S := []) (N0 := []) (post := fun r p S => p = .v (.int .i64 r) ∧ S = []) Try.func52 rfl rfl hr fun w0 X X0 σ0 => ?_
  refine pw_seq ?_
  refine pw_region ?_
  refine po_box  4 rfl rfl rfl rfl rfl rfl rfl rfl rfl rfl ?_
  refine po_evs (T := tab) 1 rfl rfl ?_
  refine po_nil ?_
  refine pn_seq ?_
  refine pw_seq ?_
  refine pw_seq ?_
  refine pw_region ?_
  refine po_evs (T := tab) 3 rfl rfl ?_
  refine po_lit (T := tab) (rows := [n2, p3].map cInt_i64) 12 rfl rfl rfl rfl rfl rfl rfl rfl rfl rfl rfl rfl rfl rfl ?_
  refine po_freeze 12 rfl rfl rfl ?_
  refine po_call (enc := fun (r5 : Bool) => .v (.bool r5)) (qs := [.agg (cForest f1), .sl 1 false ([n2, p3].map cInt_i64)]) (Valid_there_ok fu f1 [n2, p3]) rfl rfl ⟨⟨_, rfl, .rfl⟩, ⟨_, rfl, .rfl⟩, trivial⟩ (fun _ => rfl) call79 rfl rfl fun r5 hr5 => ?_
  refine po_evs (T := tab) 2 rfl rfl ?_
  refine po_split (j := 15) rfl ?_ ?_
  · refine po_evs (T := tab) 10 rfl rfl ?_
    refine po_nil ?_
    refine pn_seq (pw_then rfl ?_)
    refine pw_seq ?_
    refine pw_region ?_
    refine po_evs (T := tab) 1 rfl rfl ?_
    refine po_nil ?_
    refine pn_seq ?_
    exact pw_retN (T := tab) rfl rfl rfl ⟨rfl, rfl⟩ trivial rfl
  · refine po_evs (T := tab) 3 rfl rfl ?_
    refine po_split (j := 18) rfl ?_ ?_
    · refine po_evs (T := tab) 2 rfl rfl ?_
      refine po_lit (T := tab) (rows := [child4].map cInt_i64) 21 rfl rfl rfl rfl rfl rfl rfl rfl rfl rfl rfl rfl rfl rfl ?_
      refine po_freeze 21 rfl rfl rfl ?_
      refine po_call (enc := fun (r6 : Bool) => .v (.bool r6)) (qs := [.agg (cForest f1), .sl 1 false ([child4].map cInt_i64)]) (Valid_there_ok fu f1 [child4]) rfl rfl ⟨⟨_, rfl, .rfl⟩, ⟨_, rfl, .rfl⟩, trivial⟩ (fun _ => rfl) call79 rfl rfl fun r6 hr6 => ?_
      refine po_evs (T := tab) 3 rfl rfl ?_
      refine po_nil ?_
      refine pn_seq ?_
      refine pw_cnd rfl ?_ ?_
      · refine pw_seq ?_
        refine pw_region ?_
        refine po_evs (T := tab) 1 rfl rfl ?_
        refine po_nil ?_
        refine pn_seq ?_
        exact pw_retN (T := tab) rfl rfl rfl ⟨rfl, rfl⟩ trivial rfl
      · refine pw_skip ?_
        refine pn_seq ?_
        refine pw_seq ?_
        refine pw_region ?_
        refine po_evs (T := tab) 3 rfl rfl ?_
        refine po_build (T := tab) rfl rfl rfl rfl rfl rfl rfl ?_
        refine po_evs (T := tab) 1 rfl rfl ?_
        refine po_call (enc := fun (r7 : Int) => .v (.int .i64 r7)) (qs := [.agg (cValid_place (⟨(⟨f1.Nodes, f1.Most⟩ : Forest), p3, child4, (-1)⟩ : Valid_place)), .v (.int .i64 n2)]) (Valid_place_tell_ok fu (⟨(⟨f1.Nodes, f1.Most⟩ : Forest), p3, child4, (-1)⟩ : Valid_place) n2) rfl rfl ⟨⟨_, rfl, .rfl⟩, ⟨_, rfl, .rfl⟩, trivial⟩ (fun _ => rfl) call80 rfl rfl fun r7 hr7 => ?_
        refine po_evs (T := tab) 1 rfl rfl ?_
        refine po_nil ?_
        refine pn_seq ?_
        exact pw_retN (T := tab) rfl rfl rfl ⟨rfl, rfl⟩ trivial rfl
    · refine po_evs (T := tab) 7 rfl rfl ?_
      refine po_nil ?_
      refine pn_seq (pw_else rfl ?_)
      refine pw_skip ?_
      refine pn_seq ?_
      refine pw_seq ?_
      refine pw_region ?_
      refine po_evs (T := tab) 3 rfl rfl ?_
      refine po_build (T := tab) rfl rfl rfl rfl rfl rfl rfl ?_
      refine po_evs (T := tab) 1 rfl rfl ?_
      refine po_call (enc := fun (r8 : Int) => .v (.int .i64 r8)) (qs := [.agg (cValid_place (⟨(⟨f1.Nodes, f1.Most⟩ : Forest), p3, child4, (-1)⟩ : Valid_place)), .v (.int .i64 n2)]) (Valid_place_tell_ok fu (⟨(⟨f1.Nodes, f1.Most⟩ : Forest), p3, child4, (-1)⟩ : Valid_place) n2) rfl rfl ⟨⟨_, rfl, .rfl⟩, ⟨_, rfl, .rfl⟩, trivial⟩ (fun _ => rfl) call80 rfl rfl fun r8 hr8 => ?_
      refine po_evs (T := tab) 1 rfl rfl ?_
      refine po_nil ?_
      refine pn_seq ?_
      exact pw_retN (T := tab) rfl rfl rfl ⟨rfl, rfl⟩ trivial rfl

def Valid_place_late_m (fu : Nat) (l1 : Valid_place) (n2 : Int) : Option Bool := bnd (Valid_place_kind_m fu l1 l1.p) fun r3 => cnd (r3 != 2) (bnd (Shade_Over_m fu l1.Forest n2 l1.p) fun r4 => some (!r4)) (some false)

set_option maxRecDepth 100000 in
theorem Valid_place_late_ok (fu : Nat) (l1 : Valid_place) (n2 : Int) : ∀ r, Valid_place_late_m fu l1 n2 = some r → DC Try.prog 81 [.agg (cValid_place l1), .v (.int .i64 n2)] (.v (.bool r)) := by
  intro r hr
  refine fc_intro (args := [.agg (cValid_place l1), .v (.int .i64 n2)]) (S := []) (N0 := []) (post := fun r p S => p = .v (.bool r) ∧ S = []) Try.func81 rfl rfl hr fun w0 X X0 σ0 => ?_
  refine pw_seq ?_
  refine pw_region ?_
  refine po_box  2 rfl rfl rfl rfl rfl rfl rfl rfl rfl rfl ?_
  refine po_evs (T := tab) 1 rfl rfl ?_
  refine po_nil ?_
  refine pn_seq ?_
  refine pw_seq ?_
  refine pw_region ?_
  refine po_evs (T := tab) 3 rfl rfl ?_
  refine po_call (enc := fun (r3 : Int) => .v (.int .i64 r3)) (qs := [.agg (cValid_place l1), .v (.int .i64 l1.p)]) (Valid_place_kind_ok fu l1 l1.p) rfl rfl ⟨⟨_, rfl, .rfl⟩, ⟨_, rfl, .rfl⟩, trivial⟩ (fun _ => rfl) call107 rfl rfl fun r3 hr3 => ?_
  refine po_evs (T := tab) 2 rfl rfl ?_
  refine po_split (j := 10) rfl ?_ ?_
  · refine po_evs (T := tab) 5 rfl rfl ?_
    refine po_call (enc := fun (r4 : Bool) => .v (.bool r4)) (qs := [.agg (cForest l1.Forest), .v (.int .i64 n2), .v (.int .i64 l1.p)]) (Shade_Over_ok fu l1.Forest n2 l1.p) rfl rfl ⟨⟨_, rfl, .rfl⟩, ⟨_, rfl, .rfl⟩, ⟨_, rfl, .rfl⟩, trivial⟩ (fun _ => rfl) call43 rfl rfl fun r4 hr4 => ?_
    refine po_evs (T := tab) 3 rfl rfl ?_
    refine po_nil ?_
    refine pn_seq ?_
    exact pw_retN (T := tab) rfl rfl rfl ⟨rfl, rfl⟩ trivial rfl
  · refine po_evs (T := tab) 9 rfl rfl ?_
    refine po_nil ?_
    refine pn_seq ?_
    exact pw_retN (T := tab) rfl rfl rfl ⟨rfl, rfl⟩ trivial rfl

def Valid_Swap_j1 (fu : Nat) (f1 : Forest) (n2 : Int) (p3 : Int) (child4 : Int) (x_ : Unit) : Option Int := bnd (Valid_place_tell_m fu (⟨(⟨f1.Nodes, f1.Most⟩ : Forest), p3, child4, child4⟩ : Valid_place) n2) fun r7 => cnd (child4 == (-1)) (cnd (r7 == 0) (some 6) (bnd (Valid_place_late_m fu (⟨(⟨f1.Nodes, f1.Most⟩ : Forest), p3, child4, child4⟩ : Valid_place) n2) fun r8 => cnd r8 (some 6) (some r7))) (some r7)

def Valid_Swap_m (fu : Nat) (f1 : Forest) (n2 : Int) (p3 : Int) (child4 : Int) : Option Int := bnd (Valid_there_m fu f1 [n2, p3]) fun r5 => cnd (!r5) (some 1) (cnd (child4 != (-1)) (bnd (Valid_there_m fu f1 [child4]) fun r6 => cnd (!r6) (some 1) ((Valid_Swap_j1 fu f1 n2 p3 child4) ())) ((Valid_Swap_j1 fu f1 n2 p3 child4) ()))

set_option maxHeartbeats 10000000 in
set_option maxRecDepth 100000 in
theorem Valid_Swap_ok (fu : Nat) (f1 : Forest) (n2 : Int) (p3 : Int) (child4 : Int) : ∀ r, Valid_Swap_m fu f1 n2 p3 child4 = some r → DC Try.prog 51 [.agg (cForest f1), .v (.int .i64 n2), .v (.int .i64 p3), .v (.int .i64 child4)] (.v (.int .i64 r)) := by
  intro r hr
  refine fc_intro (args := [.agg (cForest f1), .v (.int .i64 n2), .v (.int .i64 p3), .v (.int .i64 child4)]) (S := []) (N0 := []) (post := fun r p S => p = .v (.int .i64 r) ∧ S = []) Try.func51 rfl rfl hr fun w0 X X0 σ0 => ?_
  refine pw_seq ?_
  refine pw_region ?_
  refine po_box  4 rfl rfl rfl rfl rfl rfl rfl rfl rfl rfl ?_
  refine po_evs (T := tab) 1 rfl rfl ?_
  refine po_nil ?_
  refine pn_seq ?_
  refine pw_seq ?_
  refine pw_seq ?_
  refine pw_region ?_
  refine po_joinB (Valid_Swap_j1 fu f1 n2 p3 child4) (fun (_ : Unit) => [(1, .v (.int .i64 n2)), (2, .v (.int .i64 p3)), (3, .v (.int .i64 child4)), (4, .loc 4 0)]) (fun (_ : Unit) => [(4, .box [.sl 10 false (f1.Nodes.map cNode), .v (.int .i64 f1.Most)])]) ?_ fun hj1 => ?_
  · rintro _
    refine pn_seq ?_
    refine pw_seq ?_
    refine pw_region ?_
    refine po_evs (T := tab) 4 rfl rfl ?_
    refine po_build (T := tab) rfl rfl rfl rfl rfl rfl rfl ?_
    refine po_alloc (T := tab) 9 rfl rfl rfl rfl rfl rfl rfl rfl rfl ?_
    refine po_store (T := tab) rfl rfl rfl rfl rfl rfl rfl rfl rfl rfl rfl rfl ?_
    refine po_nil ?_
    refine pn_seq ?_
    refine pw_seq ?_
    refine pw_region ?_
    refine po_evs (T := tab) 2 rfl rfl ?_
    refine po_call (enc := fun (r7 : Int) => .v (.int .i64 r7)) (qs := [.agg (cValid_place (⟨(⟨f1.Nodes, f1.Most⟩ : Forest), p3, child4, child4⟩ : Valid_place)), .v (.int .i64 n2)]) (Valid_place_tell_ok fu (⟨(⟨f1.Nodes, f1.Most⟩ : Forest), p3, child4, child4⟩ : Valid_place) n2) rfl rfl ⟨⟨_, rfl, .rfl⟩, ⟨_, rfl, .rfl⟩, trivial⟩ (fun _ => rfl) call80 rfl rfl fun r7 hr7 => ?_
    refine po_evs (T := tab) 1 rfl rfl ?_
    refine po_nil ?_
    refine pn_seq ?_
    refine pw_seq ?_
    refine pw_seq ?_
    refine pw_region ?_
    refine po_evs (T := tab) 3 rfl rfl ?_
    refine po_split (j := 38) rfl ?_ ?_
    · refine po_evs (T := tab) 3 rfl rfl ?_
      refine po_split (j := 41) rfl ?_ ?_
      · refine po_evs (T := tab) 5 rfl rfl ?_
        refine po_nil ?_
        refine pn_seq (pw_then rfl ?_)
        refine pw_seq ?_
        refine pw_region ?_
        refine po_evs (T := tab) 1 rfl rfl ?_
        refine po_nil ?_
        refine pn_seq ?_
        exact pw_retN (T := tab) rfl rfl rfl ⟨rfl, rfl⟩ trivial rfl
      · refine po_evs (T := tab) 2 rfl rfl ?_
        refine po_call (enc := fun (r8 : Bool) => .v (.bool r8)) (qs := [.agg (cValid_place (⟨(⟨f1.Nodes, f1.Most⟩ : Forest), p3, child4, child4⟩ : Valid_place)), .v (.int .i64 n2)]) (Valid_place_late_ok fu (⟨(⟨f1.Nodes, f1.Most⟩ : Forest), p3, child4, child4⟩ : Valid_place) n2) rfl rfl ⟨⟨_, rfl, .rfl⟩, ⟨_, rfl, .rfl⟩, trivial⟩ (fun _ => rfl) call81 rfl rfl fun r8 hr8 => ?_
        refine po_evs (T := tab) 2 rfl rfl ?_
        refine po_nil ?_
        refine pn_seq ?_
        refine pw_cnd rfl ?_ ?_
        · refine pw_seq ?_
          refine pw_region ?_
          refine po_evs (T := tab) 1 rfl rfl ?_
          refine po_nil ?_
          refine pn_seq ?_
          exact pw_retN (T := tab) rfl rfl rfl ⟨rfl, rfl⟩ trivial rfl
        · refine pw_skip ?_
          refine pn_seq ?_
          refine pw_seq ?_
          refine pw_region ?_
          refine po_evs (T := tab) 2 rfl rfl ?_
          refine po_nil ?_
          refine pn_seq ?_
          exact pw_retN (T := tab) rfl rfl rfl ⟨rfl, rfl⟩ trivial rfl
    · refine po_evs (T := tab) 8 rfl rfl ?_
      refine po_nil ?_
      refine pn_seq (pw_else rfl ?_)
      refine pw_skip ?_
      refine pn_seq ?_
      refine pw_seq ?_
      refine pw_region ?_
      refine po_evs (T := tab) 2 rfl rfl ?_
      refine po_nil ?_
      refine pn_seq ?_
      exact pw_retN (T := tab) rfl rfl rfl ⟨rfl, rfl⟩ trivial rfl
  · refine po_evs (T := tab) 3 rfl rfl ?_
    refine po_lit (T := tab) (rows := [n2, p3].map cInt_i64) 14 rfl rfl rfl rfl rfl rfl rfl rfl rfl rfl rfl rfl rfl rfl ?_
    refine po_freeze 14 rfl rfl rfl ?_
    refine po_call (enc := fun (r5 : Bool) => .v (.bool r5)) (qs := [.agg (cForest f1), .sl 1 false ([n2, p3].map cInt_i64)]) (Valid_there_ok fu f1 [n2, p3]) rfl rfl ⟨⟨_, rfl, .rfl⟩, ⟨_, rfl, .rfl⟩, trivial⟩ (fun _ => rfl) call79 rfl rfl fun r5 hr5 => ?_
    refine po_evs (T := tab) 2 rfl rfl ?_
    refine po_split (j := 17) rfl ?_ ?_
    · refine po_evs (T := tab) 10 rfl rfl ?_
      refine po_nil ?_
      refine pn_seq (pw_then rfl ?_)
      refine pw_seq ?_
      refine pw_region ?_
      refine po_evs (T := tab) 1 rfl rfl ?_
      refine po_nil ?_
      refine pn_seq ?_
      exact pw_retN (T := tab) rfl rfl rfl ⟨rfl, rfl⟩ trivial rfl
    · refine po_evs (T := tab) 3 rfl rfl ?_
      refine po_split (j := 20) rfl ?_ ?_
      · refine po_evs (T := tab) 2 rfl rfl ?_
        refine po_lit (T := tab) (rows := [child4].map cInt_i64) 23 rfl rfl rfl rfl rfl rfl rfl rfl rfl rfl rfl rfl rfl rfl ?_
        refine po_freeze 23 rfl rfl rfl ?_
        refine po_call (enc := fun (r6 : Bool) => .v (.bool r6)) (qs := [.agg (cForest f1), .sl 1 false ([child4].map cInt_i64)]) (Valid_there_ok fu f1 [child4]) rfl rfl ⟨⟨_, rfl, .rfl⟩, ⟨_, rfl, .rfl⟩, trivial⟩ (fun _ => rfl) call79 rfl rfl fun r6 hr6 => ?_
        refine po_evs (T := tab) 3 rfl rfl ?_
        refine po_nil ?_
        refine pn_seq ?_
        refine pw_cnd rfl ?_ ?_
        · refine pw_seq ?_
          refine pw_region ?_
          refine po_evs (T := tab) 1 rfl rfl ?_
          refine po_nil ?_
          refine pn_seq ?_
          exact pw_retN (T := tab) rfl rfl rfl ⟨rfl, rfl⟩ trivial rfl
        · refine pw_skip ?_
          exact pn_sub' (hj1 ()) ⟨rfl, rfl, rfl, rfl, trivial⟩ ⟨rfl, trivial⟩ rfl
      · refine po_evs (T := tab) 7 rfl rfl ?_
        refine po_nil ?_
        refine pn_seq (pw_else rfl ?_)
        refine pw_skip ?_
        exact pn_sub' (hj1 ()) ⟨rfl, rfl, rfl, rfl, trivial⟩ ⟨rfl, trivial⟩ rfl

def Slices_Clone_int_m (_fu : Nat) (s1 : (List Int)) : Option (List Int) := bnd (roomy 8 (([] : List Int).length + s1.length)) fun _ => some (([] : List Int) ++ s1)

set_option maxRecDepth 100000 in
theorem Slices_Clone_int_ok (fu : Nat) (s1 : (List Int)) : ∀ r, Slices_Clone_int_m fu s1 = some r → FC Try.prog 82 [.sl 1 false (s1.map cInt_i64)] [] [] fun p S' => p = .own 5 ∧ S' = [(5, .arr 3 1 (r.map cInt_i64))] := by
  intro r hr
  refine fc_intro (args := [.sl 1 false (s1.map cInt_i64)]) (S := []) (N0 := []) (post := fun r p S => p = .own 5 ∧ S = [(5, .arr 3 1 (r.map cInt_i64))]) Try.func82 rfl rfl hr fun w0 X X0 σ0 => ?_
  refine pw_seq ?_
  refine pw_region ?_
  refine po_evs (T := tab) 1 rfl rfl ?_
  refine po_nil ?_
  refine pn_seq ?_
  refine pw_seq ?_
  refine pw_seq ?_
  refine pw_region ?_
  refine po_evs (T := tab) 1 rfl rfl ?_
  refine po_isnil (T := tab) rfl rfl rfl rfl rfl rfl fun b hb => ?_
  cases b
  · refine po_nil ?_
    refine pn_seq ?_
    refine pw_else rfl ?_
    refine pw_skip ?_
    refine pn_seq ?_
    refine pw_seq ?_
    refine pw_region ?_
    refine po_lit (T := tab) (rows := ([] : List Int).map cInt_i64) 5 rfl rfl rfl rfl rfl rfl rfl rfl rfl rfl rfl rfl rfl rfl ?_
    refine po_evs (T := tab) 1 rfl rfl ?_
    refine po_append (T := tab) cInt_i64 ([] : List Int) s1 rfl rfl rfl rfl rfl rfl rfl rfl rfl rfl rfl rfl rfl rfl (cInt_i64_one _) rfl rfl rfl rfl rfl ?_
    refine po_evs (T := tab) 1 rfl rfl ?_
    refine po_nil ?_
    refine pn_seq ?_
    exact pw_retN (T := tab) rfl rfl rfl ⟨rfl, rfl⟩ ⟨rfl, trivial⟩ rfl
  · have h0 : s1 = [] := List.map_eq_nil_iff.1 (hb rfl)
    refine po_conv (m' := some ([] : List Int)) (by subst h0; rfl) ?_
    refine po_nil ?_
    refine pn_seq ?_
    refine pw_then rfl ?_
    refine pw_seq ?_
    refine pw_region ?_
    refine po_evs (T := tab) 1 rfl rfl ?_
    refine po_nil ?_
    refine pn_seq ?_
    refine pw_own_nil 5 3 1 2 rfl rfl rfl rfl ?_
    exact pw_retN (T := tab) rfl rfl rfl ⟨rfl, rfl⟩ ⟨rfl, trivial⟩ rfl

def Valid_Parts_m (fu : Nat) (f1 : Forest) (n2 : Int) : Option (List Int) := bnd (Valid_there_m fu f1 [n2]) fun r3 => cnd (!r3) (some []) (bnd (idx f1.Nodes n2) fun y4 => cnd (y4.Kind == 3) (bnd (idx f1.Nodes n2) fun y5 => bnd (Slices_Clone_int_m fu y5.Kids) fun r6 => some r6) (some [n2]))

set_option maxHeartbeats 10000000 in
set_option maxRecDepth 100000 in
theorem Valid_Parts_ok (fu : Nat) (f1 : Forest) (n2 : Int) : ∀ r, Valid_Parts_m fu f1 n2 = some r → DC Try.prog 55 [.agg (cForest f1), .v (.int .i64 n2)] (.sl 1 false (r.map cInt_i64)) := by
  intro r hr
  refine fc_intro (args := [.agg (cForest f1), .v (.int .i64 n2)]) (S := []) (N0 := []) (post := fun r p S => p = .sl 1 false (r.map cInt_i64) ∧ S = []) Try.func55 rfl rfl hr fun w0 X X0 σ0 => ?_
  refine pw_seq ?_
  refine pw_region ?_
  refine po_box  2 rfl rfl rfl rfl rfl rfl rfl rfl rfl rfl ?_
  refine po_evs (T := tab) 1 rfl rfl ?_
  refine po_nil ?_
  refine pn_seq ?_
  refine pw_seq ?_
  refine pw_block ?_
  refine pw_seq ?_
  refine pw_region ?_
  refine po_evs (T := tab) 2 rfl rfl ?_
  refine po_lit (T := tab) (rows := [n2].map cInt_i64) 8 rfl rfl rfl rfl rfl rfl rfl rfl rfl rfl rfl rfl rfl rfl ?_
  refine po_freeze 8 rfl rfl rfl ?_
  refine po_call (enc := fun (r3 : Bool) => .v (.bool r3)) (qs := [.agg (cForest f1), .sl 1 false ([n2].map cInt_i64)]) (Valid_there_ok fu f1 [n2]) rfl rfl ⟨⟨_, rfl, .rfl⟩, ⟨_, rfl, .rfl⟩, trivial⟩ (fun _ => rfl) call79 rfl rfl fun r3 hr3 => ?_
  refine po_evs (T := tab) 2 rfl rfl ?_
  refine po_nil ?_
  refine pn_seq ?_
  refine pw_cnd rfl ?_ ?_
  · refine pw_seq ?_
    refine pw_region ?_
    refine po_evs (T := tab) 1 rfl rfl ?_
    refine po_nil ?_
    refine pn_seq ?_
    refine pw_coe 4 (q := .sl 1 false ([].map cInt_i64)) rfl .nil ?_
    exact pw_retN (T := tab) rfl rfl rfl ⟨rfl, rfl⟩ trivial rfl
  · refine pw_seq ?_
    refine pw_region ?_
    refine po_evs (T := tab) 3 rfl rfl ?_
    refine po_idx (T := tab) cNode f1.Nodes rfl rfl rfl rfl rfl rfl rfl fun y4 hy4 => ?_
    refine po_evs (T := tab) 4 rfl rfl ?_
    refine po_nil ?_
    refine pn_seq ?_
    refine pw_cnd rfl ?_ ?_
    · refine pw_seq ?_
      refine pw_region ?_
      refine po_evs (T := tab) 3 rfl rfl ?_
      refine po_idx (T := tab) cNode f1.Nodes rfl rfl rfl rfl rfl rfl rfl fun y5 hy5 => ?_
      refine po_evs (T := tab) 2 rfl rfl ?_
      refine po_turn [2250] (enc := fun (r6 : (List Int)) => .own 2250) (Sr := fun (r6 : (List Int)) => [(2250, .arr 3 1 (r6.map cInt_i64))]) (first := []) (cap := []) (qs := [.sl 1 false (y5.Kids.map cInt_i64)]) (Sc := []) (N0 := []) (NR := [2250]) (fun r6 hr6 => fc_ren [(5, 2250)] [5] (Slices_Clone_int_ok fu y5.Kids _ hr6) rfl rfl rfl rfl rfl rfl) trivial (fun _ => rfl) rfl rfl rfl rfl rfl rfl rfl (fun _ => rfl) (fun _ => rfl) rfl rfl rfl ⟨⟨_, rfl, .rfl⟩, trivial⟩ call82 rfl rfl fun r6 hr6 => ?_
      refine po_evs (T := tab) 1 rfl rfl ?_
      refine po_nil ?_
      refine pn_seq ?_
      refine pw_freeze 2250 rfl rfl rfl ?_
      exact pw_retN (T := tab) rfl rfl rfl ⟨rfl, rfl⟩ trivial rfl
    · refine pw_skip ?_
      refine pn_block ?_
      refine pn_seq ?_
      refine pw_seq ?_
      refine pw_region ?_
      refine po_evs (T := tab) 1 rfl rfl ?_
      refine po_lit (T := tab) (rows := [n2].map cInt_i64) 27 rfl rfl rfl rfl rfl rfl rfl rfl rfl rfl rfl rfl rfl rfl ?_
      refine po_evs (T := tab) 1 rfl rfl ?_
      refine po_nil ?_
      refine pn_seq ?_
      refine pw_freeze 27 rfl rfl rfl ?_
      exact pw_retN (T := tab) rfl rfl rfl ⟨rfl, rfl⟩ trivial rfl

def Valid_Before_m (fu : Nat) (f1 : Forest) (n2 : Int) (p3 : Int) (child4 : Int) : Option Int := bnd (Valid_May_m fu f1 n2 p3 child4) fun r5 => cnd (r5 != 0) (some (-1)) (cnd (child4 != n2) (some child4) (bnd (idx f1.Nodes p3) fun y6 => bnd (Slices_Index_int_m fu y6.Kids n2) fun r7 => bnd (rng .i64 (r7 + 1)) fun i8 => cnd (decide (i8 ≥ ((y6.Kids.length : Nat) : Int))) (some (-1)) (bnd (idx y6.Kids i8) fun y9 => some y9)))

set_option maxHeartbeats 10000000 in
set_option maxRecDepth 100000 in
theorem Valid_Before_ok (fu : Nat) (f1 : Forest) (n2 : Int) (p3 : Int) (child4 : Int) : ∀ r, Valid_Before_m fu f1 n2 p3 child4 = some r → DC Try.prog 78 [.agg (cForest f1), .v (.int .i64 n2), .v (.int .i64 p3), .v (.int .i64 child4)] (.v (.int .i64 r)) := by
  intro r hr
  refine fc_intro (args := [.agg (cForest f1), .v (.int .i64 n2), .v (.int .i64 p3), .v (.int .i64 child4)]) (S := []) (N0 := []) (post := fun r p S => p = .v (.int .i64 r) ∧ S = []) Try.func78 rfl rfl hr fun w0 X X0 σ0 => ?_
  refine pw_seq ?_
  refine pw_region ?_
  refine po_box  4 rfl rfl rfl rfl rfl rfl rfl rfl rfl rfl ?_
  refine po_evs (T := tab) 1 rfl rfl ?_
  refine po_nil ?_
  refine pn_seq ?_
  refine pw_seq ?_
  refine pw_seq ?_
  refine pw_region ?_
  refine po_evs (T := tab) 4 rfl rfl ?_
  refine po_call (enc := fun (r5 : Int) => .v (.int .i64 r5)) (qs := [.agg (cForest f1), .v (.int .i64 n2), .v (.int .i64 p3), .v (.int .i64 child4)]) (Valid_May_ok fu f1 n2 p3 child4) rfl rfl ⟨⟨_, rfl, .rfl⟩, ⟨_, rfl, .rfl⟩, ⟨_, rfl, .rfl⟩, ⟨_, rfl, .rfl⟩, trivial⟩ (fun _ => rfl) call52 rfl rfl fun r5 hr5 => ?_
  refine po_evs (T := tab) 1 rfl rfl ?_
  refine po_nil ?_
  refine pn_seq ?_
  refine pw_cnd rfl ?_ ?_
  · refine pw_seq ?_
    refine pw_region ?_
    refine po_evs (T := tab) 1 rfl rfl ?_
    refine po_nil ?_
    refine pn_seq ?_
    exact pw_retN (T := tab) rfl rfl rfl ⟨rfl, rfl⟩ trivial rfl
  · refine pw_skip ?_
    refine pn_seq ?_
    refine pw_seq ?_
    refine pw_seq ?_
    refine pw_region ?_
    refine po_evs (T := tab) 3 rfl rfl ?_
    refine po_nil ?_
    refine pn_seq ?_
    refine pw_cnd rfl ?_ ?_
    · refine pw_seq ?_
      refine pw_region ?_
      refine po_evs (T := tab) 2 rfl rfl ?_
      refine po_nil ?_
      refine pn_seq ?_
      exact pw_retN (T := tab) rfl rfl rfl ⟨rfl, rfl⟩ trivial rfl
    · refine pw_skip ?_
      refine pn_seq ?_
      refine pw_seq ?_
      refine pw_region ?_
      refine po_evs (T := tab) 3 rfl rfl ?_
      refine po_idx (T := tab) cNode f1.Nodes rfl rfl rfl rfl rfl rfl rfl fun y6 hy6 => ?_
      refine po_evs (T := tab) 3 rfl rfl ?_
      refine po_nil ?_
      refine pn_seq ?_
      refine pw_seq ?_
      refine pw_region ?_
      refine po_evs (T := tab) 2 rfl rfl ?_
      refine po_call (enc := fun (r7 : Int) => .v (.int .i64 r7)) (qs := [.sl 1 false (y6.Kids.map cInt_i64), .v (.int .i64 n2)]) (Slices_Index_int_ok fu y6.Kids n2) rfl rfl ⟨⟨_, rfl, .rfl⟩, ⟨_, rfl, .rfl⟩, trivial⟩ (fun _ => rfl) call67 rfl rfl fun r7 hr7 => ?_
      refine po_arith' (T := tab) rfl rfl rfl rfl fun i8 hi8 => ?_
      refine po_evs (T := tab) 1 rfl rfl ?_
      refine po_nil ?_
      refine pn_seq ?_
      refine pw_seq ?_
      refine pw_seq ?_
      refine pw_region ?_
      refine po_evs (T := tab) 2 rfl rfl ?_
      refine po_len (T := tab) cInt_i64 y6.Kids rfl rfl rfl rfl rfl rfl rfl rfl ?_
      refine po_evs (T := tab) 1 rfl rfl ?_
      refine po_nil ?_
      refine pn_seq ?_
      refine pw_cnd rfl ?_ ?_
      · refine pw_seq ?_
        refine pw_region ?_
        refine po_evs (T := tab) 1 rfl rfl ?_
        refine po_nil ?_
        refine pn_seq ?_
        exact pw_retN (T := tab) rfl rfl rfl ⟨rfl, rfl⟩ trivial rfl
      · refine pw_skip ?_
        refine pn_seq ?_
        refine pw_seq ?_
        refine pw_region ?_
        refine po_evs (T := tab) 2 rfl rfl ?_
        refine po_idx (T := tab) cInt_i64 y6.Kids rfl rfl rfl rfl rfl rfl rfl fun y9 hy9 => ?_
        refine po_evs (T := tab) 2 rfl rfl ?_
        refine po_nil ?_
        refine pn_seq ?_
        exact pw_retN (T := tab) rfl rfl rfl ⟨rfl, rfl⟩ trivial rfl

def Instarlaw05_awake_m (fu : Nat) : Option Bool := bnd (Forest_New_m fu 5) fun r1 => bnd (Forest_Make_m fu r1.1 (⟨1, [112], [], [], [], 0, [], 0, 0, 0⟩ : Node)) fun r2 => bnd (Forest_Make_m fu r2.1 (⟨2, [], [], [], [], 0, [], 0, 0, 0⟩ : Node)) fun r3 => cnd (r1.2 == 0) (cnd (r2.2.2 == 0) (cnd (r3.2.2 == 0) (bnd (Valid_May_m fu r3.1 r2.2.1 0 (-1)) fun r4 => cnd (r4 == 0) (bnd (Valid_May_m fu r3.1 r3.2.1 0 (-1)) fun r5 => cnd (r5 == 5) (bnd (Valid_May_m fu r3.1 r3.2.1 r2.2.1 0) fun r6 => cnd (r6 == 6) (bnd (Valid_Swap_m fu r3.1 r3.2.1 r2.2.1 (-1)) fun r7 => cnd (r7 == 6) (bnd (Valid_Parts_m fu r3.1 r2.2.1) fun r8 => cnd (((r8.length : Nat) : Int) == 1) (bnd (Valid_Before_m fu r3.1 r3.2.1 r2.2.1 (-1)) fun r9 => some (r9 == (-1))) (some false)) (some false)) (some false)) (some false)) (some false)) (some false)) (some false)) (some false)

set_option maxHeartbeats 10000000 in
set_option maxRecDepth 100000 in
theorem Instarlaw05_awake_ok (fu : Nat) : ∀ r, Instarlaw05_awake_m fu = some r → DC Try.prog 50 [] (.v (.bool r)) := by
  intro r hr
  refine fc_intro (args := []) (S := []) (N0 := []) (post := fun r p S => p = .v (.bool r) ∧ S = []) Try.func50 rfl rfl hr fun w0 X X0 σ0 => ?_
  refine pw_seq ?_
  refine pw_region ?_
  refine po_evs (T := tab) 1 rfl rfl ?_
  refine po_nil ?_
  refine pn_seq ?_
  refine pw_seq ?_
  refine pw_region ?_
  refine po_call (enc := fun (r1 : (Forest × Int)) => .tup [.agg (cForest r1.1), .v (.int .i64 r1.2)]) (qs := [.v (.int .i64 5)]) (Forest_New_ok fu 5) rfl rfl ⟨⟨_, rfl, .rfl⟩, trivial⟩ (fun _ => rfl) call17 rfl rfl fun r1 hr1 => ?_
  refine po_evs (T := tab) 3 rfl rfl ?_
  refine po_alloc (T := tab) 1 rfl rfl rfl rfl rfl rfl rfl rfl rfl ?_
  refine po_store (T := tab) rfl rfl rfl rfl rfl rfl rfl rfl rfl rfl rfl rfl ?_
  refine po_evs (T := tab) 1 rfl rfl ?_
  refine po_nil ?_
  refine pn_seq ?_
  refine pw_seq ?_
  refine pw_region ?_
  refine po_evs (T := tab) 1 rfl rfl ?_
  refine po_build (T := tab) rfl rfl rfl rfl rfl rfl rfl ?_
  refine po_call (enc := fun (r2 : (Forest × Int × Int)) => .tup [.agg (cForest r2.1), .v (.int .i64 r2.2.1), .v (.int .i64 r2.2.2)]) (qs := [.agg (cForest r1.1), .agg (cNode (⟨1, [112], [], [], [], 0, [], 0, 0, 0⟩ : Node))]) (Forest_Make_ok fu r1.1 (⟨1, [112], [], [], [], 0, [], 0, 0, 0⟩ : Node)) rfl rfl ⟨⟨_, rfl, .rfl⟩, ⟨_, rfl, (.agg ⟨.rfl, .rfl, .rfl, .rfl, .nil, .rfl, .nil, .rfl, .rfl, .rfl, trivial⟩)⟩, trivial⟩ (fun _ => rfl) call18 rfl rfl fun r2 hr2 => ?_
  refine po_evs (T := tab) 4 rfl rfl ?_
  refine po_store (T := tab) rfl rfl rfl rfl rfl rfl rfl rfl rfl rfl rfl rfl ?_
  refine po_evs (T := tab) 2 rfl rfl ?_
  refine po_nil ?_
  refine pn_seq ?_
  refine pw_seq ?_
  refine pw_region ?_
  refine po_evs (T := tab) 1 rfl rfl ?_
  refine po_build (T := tab) rfl rfl rfl rfl rfl rfl rfl ?_
  refine po_call (enc := fun (r3 : (Forest × Int × Int)) => .tup [.agg (cForest r3.1), .v (.int .i64 r3.2.1), .v (.int .i64 r3.2.2)]) (qs := [.agg (cForest r2.1), .agg (cNode (⟨2, [], [], [], [], 0, [], 0, 0, 0⟩ : Node))]) (Forest_Make_ok fu r2.1 (⟨2, [], [], [], [], 0, [], 0, 0, 0⟩ : Node)) rfl rfl ⟨⟨_, rfl, .rfl⟩, ⟨_, rfl, (.agg ⟨.rfl, .rfl, .rfl, .rfl, .nil, .rfl, .nil, .rfl, .rfl, .rfl, trivial⟩)⟩, trivial⟩ (fun _ => rfl) call18 rfl rfl fun r3 hr3 => ?_
  refine po_evs (T := tab) 4 rfl rfl ?_
  refine po_store (T := tab) rfl rfl rfl rfl rfl rfl rfl rfl rfl rfl rfl rfl ?_
  refine po_evs (T := tab) 2 rfl rfl ?_
  refine po_nil ?_
  refine pn_seq ?_
  refine pw_seq ?_
  refine pw_region ?_
  refine po_evs (T := tab) 3 rfl rfl ?_
  refine po_split (j := 27) rfl ?_ ?_
  · refine po_evs (T := tab) 4 rfl rfl ?_
    refine po_split (j := 31) rfl ?_ ?_
    · refine po_evs (T := tab) 4 rfl rfl ?_
      refine po_split (j := 35) rfl ?_ ?_
      · refine po_evs (T := tab) 2 rfl rfl ?_
        refine po_call (enc := fun (r4 : Int) => .v (.int .i64 r4)) (qs := [.agg (cForest r3.1), .v (.int .i64 r2.2.1), .v (.int .i64 0), .v (.int .i64 (-1))]) (Valid_May_ok fu r3.1 r2.2.1 0 (-1)) rfl rfl ⟨⟨_, rfl, .rfl⟩, ⟨_, rfl, .rfl⟩, ⟨_, rfl, .rfl⟩, ⟨_, rfl, .rfl⟩, trivial⟩ (fun _ => rfl) call52 rfl rfl fun r4 hr4 => ?_
        refine po_evs (T := tab) 3 rfl rfl ?_
        refine po_split (j := 41) rfl ?_ ?_
        · refine po_evs (T := tab) 2 rfl rfl ?_
          refine po_call (enc := fun (r5 : Int) => .v (.int .i64 r5)) (qs := [.agg (cForest r3.1), .v (.int .i64 r3.2.1), .v (.int .i64 0), .v (.int .i64 (-1))]) (Valid_May_ok fu r3.1 r3.2.1 0 (-1)) rfl rfl ⟨⟨_, rfl, .rfl⟩, ⟨_, rfl, .rfl⟩, ⟨_, rfl, .rfl⟩, ⟨_, rfl, .rfl⟩, trivial⟩ (fun _ => rfl) call52 rfl rfl fun r5 hr5 => ?_
          refine po_evs (T := tab) 3 rfl rfl ?_
          refine po_split (j := 47) rfl ?_ ?_
          · refine po_evs (T := tab) 3 rfl rfl ?_
            refine po_call (enc := fun (r6 : Int) => .v (.int .i64 r6)) (qs := [.agg (cForest r3.1), .v (.int .i64 r3.2.1), .v (.int .i64 r2.2.1), .v (.int .i64 0)]) (Valid_May_ok fu r3.1 r3.2.1 r2.2.1 0) rfl rfl ⟨⟨_, rfl, .rfl⟩, ⟨_, rfl, .rfl⟩, ⟨_, rfl, .rfl⟩, ⟨_, rfl, .rfl⟩, trivial⟩ (fun _ => rfl) call52 rfl rfl fun r6 hr6 => ?_
            refine po_evs (T := tab) 3 rfl rfl ?_
            refine po_split (j := 54) rfl ?_ ?_
            · refine po_evs (T := tab) 3 rfl rfl ?_
              refine po_call (enc := fun (r7 : Int) => .v (.int .i64 r7)) (qs := [.agg (cForest r3.1), .v (.int .i64 r3.2.1), .v (.int .i64 r2.2.1), .v (.int .i64 (-1))]) (Valid_Swap_ok fu r3.1 r3.2.1 r2.2.1 (-1)) rfl rfl ⟨⟨_, rfl, .rfl⟩, ⟨_, rfl, .rfl⟩, ⟨_, rfl, .rfl⟩, ⟨_, rfl, .rfl⟩, trivial⟩ (fun _ => rfl) call51 rfl rfl fun r7 hr7 => ?_
              refine po_evs (T := tab) 3 rfl rfl ?_
              refine po_split (j := 61) rfl ?_ ?_
              · refine po_evs (T := tab) 2 rfl rfl ?_
                refine po_call (enc := fun (r8 : (List Int)) => .sl 1 false (r8.map cInt_i64)) (qs := [.agg (cForest r3.1), .v (.int .i64 r2.2.1)]) (Valid_Parts_ok fu r3.1 r2.2.1) rfl rfl ⟨⟨_, rfl, .rfl⟩, ⟨_, rfl, .rfl⟩, trivial⟩ (fun _ => rfl) call55 rfl rfl fun r8 hr8 => ?_
                refine po_len (T := tab) cInt_i64 r8 rfl rfl rfl rfl rfl rfl rfl rfl ?_
                refine po_evs (T := tab) 3 rfl rfl ?_
                refine po_split (j := 68) rfl ?_ ?_
                · refine po_evs (T := tab) 3 rfl rfl ?_
                  refine po_call (enc := fun (r9 : Int) => .v (.int .i64 r9)) (qs := [.agg (cForest r3.1), .v (.int .i64 r3.2.1), .v (.int .i64 r2.2.1), .v (.int .i64 (-1))]) (Valid_Before_ok fu r3.1 r3.2.1 r2.2.1 (-1)) rfl rfl ⟨⟨_, rfl, .rfl⟩, ⟨_, rfl, .rfl⟩, ⟨_, rfl, .rfl⟩, ⟨_, rfl, .rfl⟩, trivial⟩ (fun _ => rfl) call78 rfl rfl fun r9 hr9 => ?_
                  refine po_evs (T := tab) 3 rfl rfl ?_
                  refine po_nil ?_
                  refine pn_seq ?_
                  exact pw_retN (T := tab) rfl rfl rfl ⟨rfl, rfl⟩ trivial rfl
                · refine po_evs (T := tab) 7 rfl rfl ?_
                  refine po_nil ?_
                  refine pn_seq ?_
                  exact pw_retN (T := tab) rfl rfl rfl ⟨rfl, rfl⟩ trivial rfl
              · refine po_evs (T := tab) 14 rfl rfl ?_
                refine po_nil ?_
                refine pn_seq ?_
                exact pw_retN (T := tab) rfl rfl rfl ⟨rfl, rfl⟩ trivial rfl
            · refine po_evs (T := tab) 21 rfl rfl ?_
              refine po_nil ?_
              refine pn_seq ?_
              exact pw_retN (T := tab) rfl rfl rfl ⟨rfl, rfl⟩ trivial rfl
          · refine po_evs (T := tab) 28 rfl rfl ?_
            refine po_nil ?_
            refine pn_seq ?_
            exact pw_retN (T := tab) rfl rfl rfl ⟨rfl, rfl⟩ trivial rfl
        · refine po_evs (T := tab) 34 rfl rfl ?_
          refine po_nil ?_
          refine pn_seq ?_
          exact pw_retN (T := tab) rfl rfl rfl ⟨rfl, rfl⟩ trivial rfl
      · refine po_evs (T := tab) 40 rfl rfl ?_
        refine po_nil ?_
        refine pn_seq ?_
        exact pw_retN (T := tab) rfl rfl rfl ⟨rfl, rfl⟩ trivial rfl
    · refine po_evs (T := tab) 44 rfl rfl ?_
      refine po_nil ?_
      refine pn_seq ?_
      exact pw_retN (T := tab) rfl rfl rfl ⟨rfl, rfl⟩ trivial rfl
  · refine po_evs (T := tab) 48 rfl rfl ?_
    refine po_nil ?_
    refine pn_seq ?_
    exact pw_retN (T := tab) rfl rfl rfl ⟨rfl, rfl⟩ trivial rfl

def Instarlaw05_out_l1 (g1 : Int) (n2 : Int) (l3 : (List Node)) (y4 : Node) : Nat → Int × (List Int) → Option Forest
  | 0, _ => none
  | k1 + 1, (i5, l6) => bnd (idx l3 y4.Parent) fun y7 => cnd (decide (i5 < ((y7.Kids.length : Nat) : Int))) (bnd (idx l3 y4.Parent) fun y8 => bnd (idx y8.Kids i5) fun y9 => cnd (y9 != n2) (bnd (idx l3 y4.Parent) fun y10 => bnd (idx y10.Kids i5) fun y11 => bnd (roomy 8 (l6.length + ([y11] : List Int).length)) fun _ => bnd (rng .i64 (i5 + 1)) fun i12 => (Instarlaw05_out_l1 g1 n2 l3 y4 k1) (i12, (l6 ++ [y11]))) (bnd (rng .i64 (i5 + 1)) fun i13 => (Instarlaw05_out_l1 g1 n2 l3 y4 k1) (i13, l6))) (bnd (idx l3 y4.Parent) fun y14 => bnd (idx (l3.set (y4.Parent).toNat (⟨y14.Kind, y14.Name, y14.Is, y14.Data, y14.Attrs, y14.Parent, l6, y14.Host, y14.Under, y14.Doc⟩ : Node)) n2) fun y15 => some (⟨((l3.set (y4.Parent).toNat (⟨y14.Kind, y14.Name, y14.Is, y14.Data, y14.Attrs, y14.Parent, l6, y14.Host, y14.Under, y14.Doc⟩ : Node)).set (n2).toNat (⟨y15.Kind, y15.Name, y15.Is, y15.Data, y15.Attrs, (-1), y15.Kids, y15.Host, y15.Under, y15.Doc⟩ : Node)), g1⟩ : Forest))

def Instarlaw05_out_m (fu : Nat) (g1 : Int) (n2 : Int) (l3 : (List Node)) : Option Forest := bnd (idx l3 n2) fun y4 => cnd (y4.Parent == (-1)) (some (⟨l3, g1⟩ : Forest)) ((Instarlaw05_out_l1 g1 n2 l3 y4) fu (0, []))

set_option maxHeartbeats 10000000 in
set_option maxRecDepth 100000 in
theorem Instarlaw05_out_ok (fu : Nat) (g1 : Int) (n2 : Int) (l3 : (List Node)) : ∀ r, Instarlaw05_out_m fu g1 n2 l3 = some r → FC Try.prog 53 [.agg [.own 900000, .v (.int .i64 g1)], .v (.int .i64 n2)] [(900000, .arr 28 10 (l3.map cNode))] [900000] fun p S' => p = .agg [.own 900000, .v (.int .i64 r.Most)] ∧ S' = [(900000, .arr 28 10 (r.Nodes.map cNode))] := by
  intro r hr
  refine fc_intro (args := [.agg [.own 900000, .v (.int .i64 g1)], .v (.int .i64 n2)]) (S := [(900000, .arr 28 10 (l3.map cNode))]) (N0 := [900000]) (post := fun r p S => p = .agg [.own 900000, .v (.int .i64 r.Most)] ∧ S = [(900000, .arr 28 10 (r.Nodes.map cNode))]) Try.func53 rfl rfl hr fun w0 X X0 σ0 => ?_
  refine pw_seq ?_
  refine pw_region ?_
  refine po_box  2 rfl rfl rfl rfl rfl rfl rfl rfl rfl rfl ?_
  refine po_alloc (T := tab) 4 rfl rfl rfl rfl rfl rfl rfl rfl rfl ?_
  refine po_nil ?_
  refine pn_seq ?_
  refine pw_seq ?_
  refine pw_region ?_
  refine po_evs (T := tab) 3 rfl rfl ?_
  refine po_idx_own (T := tab) cNode l3 rfl rfl rfl rfl rfl rfl rfl rfl fun y4 hy4 => ?_
  refine po_evs (T := tab) 1 rfl rfl ?_
  refine po_load_ela (T := tab) cNode l3 y4 (idx_at hy4) rfl rfl rfl rfl rfl rfl rfl rfl ?_
  refine po_evs (T := tab) 1 rfl rfl ?_
  refine po_nil ?_
  refine pn_seq ?_
  refine pw_seq ?_
  refine pw_seq ?_
  refine pw_region ?_
  refine po_evs (T := tab) 2 rfl rfl ?_
  refine po_nil ?_
  refine pn_seq ?_
  refine pw_cnd rfl ?_ ?_
  · refine pw_seq ?_
    refine pw_region ?_
    refine po_evs (T := tab) 1 rfl rfl ?_
    refine po_store (T := tab) rfl rfl rfl rfl rfl rfl rfl rfl rfl rfl rfl rfl ?_
    refine po_nil ?_
    refine pn_seq ?_
    exact pw_retN (T := tab) rfl rfl rfl ⟨rfl, rfl⟩ ⟨rfl, trivial⟩ rfl
  · refine pw_skip ?_
    refine pn_seq ?_
    refine pw_seq ?_
    refine pw_region ?_
    refine po_evs (T := tab) 1 rfl rfl ?_
    refine po_nil ?_
    refine pn_seq ?_
    refine pw_seq ?_
    refine pw_seq ?_
    refine pw_region ?_
    refine po_evs (T := tab) 1 rfl rfl ?_
    refine po_nil ?_
    refine pn_seq ?_
    refine pw_block ?_
    refine pw_own_nil 1050 3 1 6 rfl rfl rfl rfl ?_
    refine pw_loop' (Instarlaw05_out_l1 g1 n2 l3 y4) (fun ((i5, l6) : Int × (List Int)) => [(1, .v (.int .i64 n2)), (2, .loc 2 0), (4, .loc 4 0), (5, .v (.int .i64 y4.Parent)), (6, .own 1050), (7, .v (.int .i64 i5))]) (fun ((i5, l6) : Int × (List Int)) => [(1050, .arr 3 1 (l6.map cInt_i64)), (4, .box [.v (.slice none 0 0), .v (.int .i64 0)]), (2, .box [.own 900000, .v (.int .i64 g1)]), (900000, .arr 28 10 (l3.map cNode))]) fu (0, []) (fun _ => rfl) ⟨rfl, rfl, rfl, rfl, rfl, rfl, trivial⟩ ⟨rfl, rfl, rfl, rfl, trivial⟩ rfl ?_
    rintro k1 ⟨i5, l6⟩
    refine pw_seq ?_
    refine pw_seq ?_
    refine pw_region ?_
    refine po_evs (T := tab) 4 rfl rfl ?_
    refine po_idx_own (T := tab) cNode l3 rfl rfl rfl rfl rfl rfl rfl rfl fun y7 hy7 => ?_
    refine po_evs (T := tab) 1 rfl rfl ?_
    refine po_load_ela (T := tab) cNode l3 y7 (idx_at hy7) rfl rfl rfl rfl rfl rfl rfl rfl ?_
    refine po_len (T := tab) cInt_i64 y7.Kids rfl rfl rfl rfl rfl rfl rfl rfl ?_
    refine po_evs (T := tab) 1 rfl rfl ?_
    refine po_nil ?_
    refine pn_seq ?_
    refine pw_cnd rfl ?_ ?_
    · refine pw_skip ?_
      refine pn_seq ?_
      refine pw_seq ?_
      refine pw_block ?_
      refine pw_seq ?_
      refine pw_region ?_
      refine po_evs (T := tab) 3 rfl rfl ?_
      refine po_idx_own (T := tab) cNode l3 rfl rfl rfl rfl rfl rfl rfl rfl fun y8 hy8 => ?_
      refine po_evs (T := tab) 1 rfl rfl ?_
      refine po_load_ela (T := tab) cNode l3 y8 (idx_at hy8) rfl rfl rfl rfl rfl rfl rfl rfl ?_
      refine po_evs (T := tab) 1 rfl rfl ?_
      refine po_idx (T := tab) cInt_i64 y8.Kids rfl rfl rfl rfl rfl rfl rfl fun y9 hy9 => ?_
      refine po_evs (T := tab) 3 rfl rfl ?_
      refine po_nil ?_
      refine pn_seq ?_
      refine pw_cnd rfl ?_ ?_
      · refine pw_region ?_
        refine po_evs (T := tab) 4 rfl rfl ?_
        refine po_idx_own (T := tab) cNode l3 rfl rfl rfl rfl rfl rfl rfl rfl fun y10 hy10 => ?_
        refine po_evs (T := tab) 1 rfl rfl ?_
        refine po_load_ela (T := tab) cNode l3 y10 (idx_at hy10) rfl rfl rfl rfl rfl rfl rfl rfl ?_
        refine po_evs (T := tab) 1 rfl rfl ?_
        refine po_idx (T := tab) cInt_i64 y10.Kids rfl rfl rfl rfl rfl rfl rfl fun y11 hy11 => ?_
        refine po_evs (T := tab) 1 rfl rfl ?_
        refine po_lit (T := tab) (rows := [y11].map cInt_i64) 49 rfl rfl rfl rfl rfl rfl rfl rfl rfl rfl rfl rfl rfl rfl ?_
        refine po_append (T := tab) cInt_i64 l6 ([y11] : List Int) rfl rfl rfl rfl rfl rfl rfl rfl rfl rfl rfl rfl rfl rfl (cInt_i64_one _) rfl rfl rfl rfl rfl ?_
        refine po_evs (T := tab) 1 rfl rfl ?_
        refine po_nil ?_
        refine pn_block ?_
        refine pn_seq ?_
        refine pw_region ?_
        refine po_evs (T := tab) 1 rfl rfl ?_
        refine po_arith' (T := tab) rfl rfl rfl rfl fun i12 hi12 => ?_
        refine po_evs (T := tab) 1 rfl rfl ?_
        refine po_nil ?_
        exact pn_iter' (i12, (l6 ++ [y11])) ⟨rfl, rfl, rfl, rfl, rfl, rfl, trivial⟩ ⟨rfl, rfl, rfl, rfl, trivial⟩ rfl
      · refine pw_skip ?_
        refine pn_block ?_
        refine pn_seq ?_
        refine pw_region ?_
        refine po_evs (T := tab) 1 rfl rfl ?_
        refine po_arith' (T := tab) rfl rfl rfl rfl fun i13 hi13 => ?_
        refine po_evs (T := tab) 1 rfl rfl ?_
        refine po_nil ?_
        exact pn_iter' (i13, l6) ⟨rfl, rfl, rfl, rfl, rfl, rfl, trivial⟩ ⟨rfl, rfl, rfl, rfl, trivial⟩ rfl
    · refine pw_exit rfl ?_
      refine pn_seq ?_
      refine pw_seq ?_
      refine pw_region ?_
      refine po_evs (T := tab) 4 rfl rfl ?_
      refine po_idx_own (T := tab) cNode l3 rfl rfl rfl rfl rfl rfl rfl rfl fun y14 hy14 => ?_
      refine po_evs (T := tab) 1 rfl rfl ?_
      refine po_freeze 1050 rfl rfl rfl ?_
      refine po_store_ela (T := tab) cNode l3 y14 (⟨y14.Kind, y14.Name, y14.Is, y14.Data, y14.Attrs, y14.Parent, l6, y14.Host, y14.Under, y14.Doc⟩ : Node) (idx_at hy14) rfl rfl rfl rfl rfl rfl rfl rfl rfl rfl rfl rfl rfl ?_
      refine po_nil ?_
      refine pn_seq ?_
      refine pw_seq ?_
      refine pw_region ?_
      refine po_evs (T := tab) 3 rfl rfl ?_
      refine po_idx_own (T := tab) cNode (l3.set (y4.Parent).toNat (⟨y14.Kind, y14.Name, y14.Is, y14.Data, y14.Attrs, y14.Parent, l6, y14.Host, y14.Under, y14.Doc⟩ : Node)) rfl rfl rfl rfl rfl rfl rfl rfl fun y15 hy15 => ?_
      refine po_evs (T := tab) 1 rfl rfl ?_
      refine po_store_ela (T := tab) cNode (l3.set (y4.Parent).toNat (⟨y14.Kind, y14.Name, y14.Is, y14.Data, y14.Attrs, y14.Parent, l6, y14.Host, y14.Under, y14.Doc⟩ : Node)) y15 (⟨y15.Kind, y15.Name, y15.Is, y15.Data, y15.Attrs, (-1), y15.Kids, y15.Host, y15.Under, y15.Doc⟩ : Node) (idx_at hy15) rfl rfl rfl rfl rfl rfl rfl rfl rfl rfl rfl rfl rfl ?_
      refine po_nil ?_
      refine pn_seq ?_
      refine pw_seq ?_
      refine pw_region ?_
      refine po_evs (T := tab) 1 rfl rfl ?_
      refine po_store (T := tab) rfl rfl rfl rfl rfl rfl rfl rfl rfl rfl rfl rfl ?_
      refine po_nil ?_
      refine pn_seq ?_
      exact pw_retN (T := tab) rfl rfl rfl ⟨rfl, rfl⟩ ⟨rfl, trivial⟩ rfl

def Instarlaw05_put_l3 (p3 : Int) (i22 : Int) (r27 : (List Int)) (rc2 : (Int × (List Node)) → Option Forest) : Nat → Int × (List Node) → Option Forest
  | 0, _ => none
  | k3 + 1, (k28, l29) => cnd (decide (k28 < ((r27.length : Nat) : Int))) (bnd (idx r27 k28) fun y30 => bnd (idx l29 p3) fun y31 => bnd (idx l29 y30) fun y32 => bnd (rng .i64 (k28 + 1)) fun i33 => (Instarlaw05_put_l3 p3 i22 r27 rc2 k3) (i33, (l29.set (y30).toNat (⟨y32.Kind, y32.Name, y32.Is, y32.Data, y32.Attrs, y32.Parent, y32.Kids, y32.Host, y32.Under, y31.Doc⟩ : Node)))) (bnd (rng .i64 (i22 + 1)) fun i34 => rc2 (i34, l29))

def Instarlaw05_put_l2 (fu : Nat) (f1 : Forest) (p3 : Int) (r6 : (List Int)) (c8 : Int) : Nat → Int × (List Node) → Option Forest
  | 0, _ => none
  | k2 + 1, (i22, l23) => cnd (decide (i22 < ((r6.length : Nat) : Int))) (bnd (idx r6 i22) fun y24 => bnd (idx l23 y24) fun y25 => bnd (idx r6 i22) fun y26 => bnd (Shade_All_m fu f1 y26) fun r27 => (Instarlaw05_put_l3 p3 i22 r27 (Instarlaw05_put_l2 fu f1 p3 r6 c8 k2)) fu (0, (l23.set (y24).toNat (⟨y25.Kind, y25.Name, y25.Is, y25.Data, y25.Attrs, p3, y25.Kids, y25.Host, y25.Under, y25.Doc⟩ : Node)))) (some (⟨l23, c8⟩ : Forest))

def Instarlaw05_put_j1 (fu : Nat) (f1 : Forest) (p3 : Int) (r6 : (List Int)) (c8 : Int) (l9 : (List Node)) (at16 : Int) : Option Forest := bnd (idx l9 p3) fun y17 => bnd (piece y17.Kids 0 at16) fun l18 => bnd (roomy 8 (([] : List Int).length + l18.length)) fun _ => bnd (roomy 8 ((([] : List Int) ++ l18).length + r6.length)) fun _ => bnd (idx l9 p3) fun y19 => bnd (piece y19.Kids at16 ((y19.Kids.length : Nat) : Int)) fun l20 => bnd (roomy 8 (((([] : List Int) ++ l18) ++ r6).length + l20.length)) fun _ => bnd (idx l9 p3) fun y21 => (Instarlaw05_put_l2 fu f1 p3 r6 c8) fu (0, (l9.set (p3).toNat (⟨y21.Kind, y21.Name, y21.Is, y21.Data, y21.Attrs, y21.Parent, (((([] : List Int) ++ l18) ++ r6) ++ l20), y21.Host, y21.Under, y21.Doc⟩ : Node)))

def Instarlaw05_put_l1 (fu : Nat) (f1 : Forest) (p3 : Int) (r5 : Int) (r6 : (List Int)) : Nat → Int × Int × (List Node) → Option Forest
  | 0, _ => none
  | k1 + 1, (i7, c8, l9) => cnd (decide (i7 < ((r6.length : Nat) : Int))) (bnd (idx r6 i7) fun y10 => bnd (Instarlaw05_out_m fu c8 y10 l9) fun r11 => bnd (rng .i64 (i7 + 1)) fun i12 => (Instarlaw05_put_l1 fu f1 p3 r5 r6 k1) (i12, r11.Most, r11.Nodes)) (bnd (idx l9 p3) fun y13 => bnd (Instarref03_Find_m fu y13.Kids r5) fun r14 => cnd (r5 == (-1)) (bnd (idx l9 p3) fun y15 => (Instarlaw05_put_j1 fu f1 p3 r6 c8 l9) ((y15.Kids.length : Nat) : Int)) ((Instarlaw05_put_j1 fu f1 p3 r6 c8 l9) r14))

def Instarlaw05_put_m (fu : Nat) (f1 : Forest) (n2 : Int) (p3 : Int) (child4 : Int) : Option Forest := bnd (Valid_Before_m fu f1 n2 p3 child4) fun r5 => bnd (Valid_Parts_m fu f1 n2) fun r6 => bnd (roomy 136 (([] : List Node).length + f1.Nodes.length)) fun _ => (Instarlaw05_put_l1 fu f1 p3 r5 r6) fu (0, f1.Most, (([] : List Node) ++ f1.Nodes))

set_option maxHeartbeats 10000000 in
set_option maxRecDepth 100000 in
theorem Instarlaw05_put_ok (fu : Nat) (f1 : Forest) (n2 : Int) (p3 : Int) (child4 : Int) : ∀ r, Instarlaw05_put_m fu f1 n2 p3 child4 = some r → DC Try.prog 54 [.agg (cForest f1), .v (.int .i64 n2), .v (.int .i64 p3), .v (.int .i64 child4)] (.agg (cForest r)) := by
  intro r hr
  refine fc_intro (args := [.agg (cForest f1), .v (.int .i64 n2), .v (.int .i64 p3), .v (.int .i64 child4)]) (S := []) (N0 := []) (post := fun r p S => p = .agg (cForest r) ∧ S = []) Try.func54 rfl rfl hr fun w0 X X0 σ0 => ?_
  refine pw_seq ?_
  refine pw_region ?_
  refine po_box  4 rfl rfl rfl rfl rfl rfl rfl rfl rfl rfl ?_
  refine po_alloc (T := tab) 8 rfl rfl rfl rfl rfl rfl rfl rfl rfl ?_
  refine po_nil ?_
  refine pn_seq ?_
  refine pw_seq ?_
  refine pw_region ?_
  refine po_evs (T := tab) 4 rfl rfl ?_
  refine po_call (enc := fun (r5 : Int) => .v (.int .i64 r5)) (qs := [.agg (cForest f1), .v (.int .i64 n2), .v (.int .i64 p3), .v (.int .i64 child4)]) (Valid_Before_ok fu f1 n2 p3 child4) rfl rfl ⟨⟨_, rfl, .rfl⟩, ⟨_, rfl, .rfl⟩, ⟨_, rfl, .rfl⟩, ⟨_, rfl, .rfl⟩, trivial⟩ (fun _ => rfl) call78 rfl rfl fun r5 hr5 => ?_
  refine po_evs (T := tab) 1 rfl rfl ?_
  refine po_nil ?_
  refine pn_seq ?_
  refine pw_seq ?_
  refine pw_region ?_
  refine po_evs (T := tab) 2 rfl rfl ?_
  refine po_call (enc := fun (r6 : (List Int)) => .sl 1 false (r6.map cInt_i64)) (qs := [.agg (cForest f1), .v (.int .i64 n2)]) (Valid_Parts_ok fu f1 n2) rfl rfl ⟨⟨_, rfl, .rfl⟩, ⟨_, rfl, .rfl⟩, trivial⟩ (fun _ => rfl) call55 rfl rfl fun r6 hr6 => ?_
  refine po_evs (T := tab) 1 rfl rfl ?_
  refine po_nil ?_
  refine pn_seq ?_
  refine pw_seq ?_
  refine pw_sub' (E' := [(2, .v (.int .i64 p3)), (4, .loc 4 0), (8, .loc 8 0), (9, .v (.int .i64 r5)), (10, .sl 1 false (r6.map cInt_i64))]) (S' := [(8, .box [.v (.slice none 0 0), .v (.int .i64 0)]), (4, .box [.sl 10 false (f1.Nodes.map cNode), .v (.int .i64 f1.Most)])]) ?_ ⟨rfl, rfl, rfl, rfl, rfl, trivial⟩ ⟨rfl, rfl, trivial⟩ rfl
  refine pw_drawV [0, 0, 2, 7, 0, 16, 63, 0, 255] mixed (by kernel_rfl) (by kernel_rfl) rfl rfl ?_
  refine pdv_step0 [] [52, 53] [26] [] [] [(26, .own 26)] [(26, .arr 28 10 (([] : List Node).map cNode))] rfl rfl rfl rfl (by kernel_rfl) (by kernel_rfl) (by kernel_rfl) trivial (fun w0 X X0 σ0 => by refine po_lit (T := tab) (rows := ([] : List Node).map cNode) 26 rfl rfl rfl rfl rfl rfl rfl rfl rfl rfl rfl rfl rfl rfl ?_; refine po_nil ?_; exact pn_end0 ⟨rfl, trivial⟩ ⟨rfl, trivial⟩ rfl) ?_
  refine pdv_step0 [8] [54] [] [4] [] [(27, .loc 4 0)] [] rfl rfl rfl rfl (by kernel_rfl) (by kernel_rfl) (by kernel_rfl) trivial (fun w0 X X0 σ0 => by refine po_evs (T := tab) 1 rfl rfl ?_; refine po_nil ?_; exact pn_end0 ⟨rfl, trivial⟩ trivial rfl) ?_
  refine pdv_step0 [9, 54] [56] [] [4] [4] [(28, .sl 10 false (f1.Nodes.map cNode))] [(4, .box [.sl 10 false (f1.Nodes.map cNode), .v (.int .i64 f1.Most)])] rfl rfl rfl rfl (by kernel_rfl) (by kernel_rfl) (by kernel_rfl) ⟨rfl, trivial⟩ (fun w0 X X0 σ0 => by refine po_evs (T := tab) 1 rfl rfl ?_; refine po_nil ?_; exact pn_end0 ⟨rfl, trivial⟩ ⟨rfl, trivial⟩ rfl) ?_
  refine pdv_step (M := (roomy 136 (([] : List Node).length + f1.Nodes.length))) (ment := [(58, [26]), (52, []), (53, [])]) [52, 53, 56] [58, 52, 53] [26] [] [] (fun _ => [(29, .own 26)]) (fun _ => [(26, .arr 28 10 ((([] : List Node) ++ f1.Nodes).map cNode))]) rfl rfl (fun _ => rfl) (fun _ => rfl) (by kernel_rfl) (by kernel_rfl) (fun _ => by kernel_rfl) (fun _ => trivial) (fun w0 X X0 σ0 => by refine po_append (T := tab) cNode ([] : List Node) f1.Nodes rfl rfl rfl rfl rfl rfl rfl rfl rfl rfl rfl rfl rfl rfl (cNode_one _) rfl rfl rfl rfl rfl ?_; refine po_nil ?_; exact pn_end ⟨rfl, trivial⟩ ⟨rfl, trivial⟩ rfl) fun _ h0 => ?_
  refine pdv_step0 [8] [60] [] [4] [] [(30, .loc 4 1)] [] rfl rfl rfl rfl (by kernel_rfl) (by kernel_rfl) (by kernel_rfl) trivial (fun w0 X X0 σ0 => by refine po_evs (T := tab) 1 rfl rfl ?_; refine po_nil ?_; exact pn_end0 ⟨rfl, trivial⟩ trivial rfl) ?_
  refine pdv_step0 [9, 60] [62] [] [4] [4] [(31, .v (.int .i64 f1.Most))] [(4, .box [.sl 10 false (f1.Nodes.map cNode), .v (.int .i64 f1.Most)])] rfl rfl rfl rfl (by kernel_rfl) (by kernel_rfl) (by kernel_rfl) ⟨rfl, trivial⟩ (fun w0 X X0 σ0 => by refine po_evs (T := tab) 1 rfl rfl ?_; refine po_nil ?_; exact pn_end0 ⟨rfl, trivial⟩ ⟨rfl, trivial⟩ rfl) ?_
  refine pdv_step0 [53, 58, 62] [64] [] [26] [26] [(32, .agg [.own 26, .v (.int .i64 f1.Most)])] [(26, .arr 28 10 ((([] : List Node) ++ f1.Nodes).map cNode))] rfl rfl rfl rfl (by kernel_rfl) (by kernel_rfl) (by kernel_rfl) ⟨rfl, trivial⟩ (fun w0 X X0 σ0 => by refine po_build (T := tab) rfl rfl rfl rfl rfl rfl rfl ?_; refine po_nil ?_; exact pn_end0 ⟨rfl, trivial⟩ ⟨rfl, trivial⟩ rfl) ?_
  refine pdv_step0 [] [22, 23] [11] [] [] [(11, .loc 11 0)] [(11, .box [.v (.slice none 0 0), .v (.int .i64 0)])] rfl rfl rfl rfl (by kernel_rfl) (by kernel_rfl) (by kernel_rfl) trivial (fun w0 X X0 σ0 => by refine po_alloc (T := tab) 11 rfl rfl rfl rfl rfl rfl rfl rfl rfl ?_; refine po_nil ?_; exact pn_end0 ⟨rfl, trivial⟩ ⟨rfl, trivial⟩ rfl) ?_
  refine pdv_step0 [22, 23, 53, 64] [23] [] [11, 26] [26] [] [(11, .box [.own 26, .v (.int .i64 f1.Most)]), (26, .arr 28 10 ((([] : List Node) ++ f1.Nodes).map cNode))] rfl rfl rfl rfl (by kernel_rfl) (by kernel_rfl) (by kernel_rfl) ⟨rfl, trivial⟩ (fun w0 X X0 σ0 => by refine po_store (T := tab) rfl rfl rfl rfl rfl rfl rfl rfl rfl rfl rfl rfl ?_; refine po_nil ?_; exact pn_end0 trivial ⟨rfl, rfl, trivial⟩ rfl) ?_
  refine pdv_nil rfl rfl ?_
  refine pn_seq ?_
  refine pw_seq ?_
  refine pw_seq ?_
  refine pw_region ?_
  refine po_evs (T := tab) 1 rfl rfl ?_
  refine po_nil ?_
  refine pn_seq ?_
  refine pw_block ?_
  refine pw_loop' (Instarlaw05_put_l1 fu f1 p3 r5 r6) (fun ((i7, c8, l9) : Int × Int × (List Node)) => [(2, .v (.int .i64 p3)), (4, .loc 4 0), (8, .loc 8 0), (9, .v (.int .i64 r5)), (10, .sl 1 false (r6.map cInt_i64)), (11, .loc 11 0), (12, .v (.int .i64 i7))]) (fun ((i7, c8, l9) : Int × Int × (List Node)) => [(11, .box [.own 26, .v (.int .i64 c8)]), (26, .arr 28 10 (l9.map cNode)), (8, .box [.v (.slice none 0 0), .v (.int .i64 0)]), (4, .box [.sl 10 false (f1.Nodes.map cNode), .v (.int .i64 f1.Most)])]) fu (0, f1.Most, (([] : List Node) ++ f1.Nodes)) (fun _ => rfl) ⟨rfl, rfl, rfl, rfl, rfl, rfl, rfl, trivial⟩ ⟨rfl, rfl, rfl, rfl, trivial⟩ rfl ?_
  rintro k1 ⟨i7, c8, l9⟩
  refine pw_seq ?_
  refine pw_seq ?_
  refine pw_region ?_
  refine po_evs (T := tab) 2 rfl rfl ?_
  refine po_len (T := tab) cInt_i64 r6 rfl rfl rfl rfl rfl rfl rfl rfl ?_
  refine po_evs (T := tab) 1 rfl rfl ?_
  refine po_nil ?_
  refine pn_seq ?_
  refine pw_cnd rfl ?_ ?_
  · refine pw_skip ?_
    refine pn_seq ?_
    refine pw_seq ?_
    refine pw_block ?_
    refine pw_sub' (E' := [(2, .v (.int .i64 p3)), (4, .loc 4 0), (8, .loc 8 0), (9, .v (.int .i64 r5)), (10, .sl 1 false (r6.map cInt_i64)), (11, .loc 11 0), (12, .v (.int .i64 i7))]) (S' := [(11, .box [.own 26, .v (.int .i64 c8)]), (26, .arr 28 10 (l9.map cNode)), (8, .box [.v (.slice none 0 0), .v (.int .i64 0)]), (4, .box [.sl 10 false (f1.Nodes.map cNode), .v (.int .i64 f1.Most)])]) ?_ ⟨rfl, rfl, rfl, rfl, rfl, rfl, rfl, trivial⟩ ⟨rfl, rfl, rfl, rfl, trivial⟩ rfl
    refine pw_drawV [0, 0, 0, 6, 14, 31, 63] mixed (by kernel_rfl) (by kernel_rfl) rfl rfl ?_
    refine pdv_step0 [22, 23] [78] [] [11, 26] [11] [(39, .agg [.own 26, .v (.int .i64 c8)])] [(11, .box [.own 26, .v (.int .i64 c8)])] rfl rfl rfl rfl (by kernel_rfl) (by kernel_rfl) (by kernel_rfl) ⟨rfl, trivial⟩ (fun w0 X X0 σ0 => by refine po_evs (T := tab) 1 rfl rfl ?_; refine po_nil ?_; exact pn_end0 ⟨rfl, trivial⟩ ⟨rfl, trivial⟩ rfl) ?_
    refine pdv_step0 [20] [80] [] [] [] [(40, .sl 1 false (r6.map cInt_i64))] [] rfl rfl rfl rfl (by kernel_rfl) (by kernel_rfl) (by kernel_rfl) trivial (fun w0 X X0 σ0 => by refine po_evs (T := tab) 1 rfl rfl ?_; refine po_nil ?_; exact pn_end0 ⟨rfl, trivial⟩ trivial rfl) ?_
    refine pdv_step0 [24] [82] [] [] [] [(41, .v (.int .i64 i7))] [] rfl rfl rfl rfl (by kernel_rfl) (by kernel_rfl) (by kernel_rfl) trivial (fun w0 X X0 σ0 => by refine po_evs (T := tab) 1 rfl rfl ?_; refine po_nil ?_; exact pn_end0 ⟨rfl, trivial⟩ trivial rfl) ?_
    refine pdv_step (M := (idx r6 i7)) (ment := [(84, [])]) [80, 82] [84] [] [] [] (fun y10 => [(42, .el (cInt_i64 y10) 0)]) (fun y10 => []) rfl rfl (fun _ => rfl) (fun _ => rfl) (by kernel_rfl) (by kernel_rfl) (fun _ => by kernel_rfl) (fun _ => trivial) (fun w0 X X0 σ0 => by refine po_idx (T := tab) cInt_i64 r6 rfl rfl rfl rfl rfl rfl rfl fun y10 hy10 => ?_; refine po_nil ?_; exact pn_end ⟨rfl, trivial⟩ trivial rfl) fun y10 hy10 => ?_
    refine pdv_step0 [84] [86] [] [] [] [(43, .v (.int .i64 y10))] [] rfl rfl rfl rfl (by kernel_rfl) (by kernel_rfl) (by kernel_rfl) trivial (fun w0 X X0 σ0 => by refine po_evs (T := tab) 1 rfl rfl ?_; refine po_nil ?_; exact pn_end0 ⟨rfl, trivial⟩ trivial rfl) ?_
    refine pdv_step (M := (Instarlaw05_out_m fu c8 y10 l9)) (ment := [(88, [26]), (53, [])]) [53, 78, 86] [88, 53] [] [26] [] (fun r11 => [(44, .agg [.own 26, .v (.int .i64 r11.Most)])]) (fun r11 => [(26, .arr 28 10 (r11.Nodes.map cNode))]) rfl rfl (fun _ => rfl) (fun _ => rfl) (by kernel_rfl) (by kernel_rfl) (fun _ => by kernel_rfl) (fun _ => trivial) (fun w0 X X0 σ0 => by refine po_turn [] (enc := fun (r11 : Forest) => .agg [.own 26, .v (.int .i64 r11.Most)]) (Sr := fun (r11 : Forest) => [(26, .arr 28 10 (r11.Nodes.map cNode))]) (first := []) (cap := []) (qs := [.agg [.own 26, .v (.int .i64 c8)], .v (.int .i64 y10)]) (Sc := [(26, .arr 28 10 (l9.map cNode))]) (N0 := [26]) (NR := [26]) (fun r11 hr11 => fc_ren [(900000, 26)] [900000] (Instarlaw05_out_ok fu c8 y10 l9 _ hr11) rfl rfl rfl rfl rfl rfl) ⟨rfl, trivial⟩ (fun _ => rfl) rfl rfl rfl rfl rfl rfl rfl (fun _ => rfl) (fun _ => rfl) rfl rfl rfl ⟨⟨_, rfl, .rfl⟩, ⟨_, rfl, .rfl⟩, trivial⟩ call53 rfl rfl fun r11 hr11 => ?_; refine po_nil ?_; exact pn_end ⟨rfl, trivial⟩ ⟨rfl, trivial⟩ rfl) fun r11 hr11 => ?_
    refine pdv_step0 [22, 23, 53, 88] [23] [] [11, 26] [26] [] [(11, .box [.own 26, .v (.int .i64 r11.Most)]), (26, .arr 28 10 (r11.Nodes.map cNode))] rfl rfl rfl rfl (by kernel_rfl) (by kernel_rfl) (by kernel_rfl) ⟨rfl, trivial⟩ (fun w0 X X0 σ0 => by refine po_store (T := tab) rfl rfl rfl rfl rfl rfl rfl rfl rfl rfl rfl rfl ?_; refine po_nil ?_; exact pn_end0 trivial ⟨rfl, rfl, trivial⟩ rfl) ?_
    refine pdv_nil rfl rfl ?_
    refine pn_block ?_
    refine pn_seq ?_
    refine pw_region ?_
    refine po_evs (T := tab) 1 rfl rfl ?_
    refine po_arith' (T := tab) rfl rfl rfl rfl fun i12 hi12 => ?_
    refine po_evs (T := tab) 1 rfl rfl ?_
    refine po_nil ?_
    exact pn_iter' (i12, r11.Most, r11.Nodes) ⟨rfl, rfl, rfl, rfl, rfl, rfl, rfl, trivial⟩ ⟨rfl, rfl, rfl, rfl, trivial⟩ rfl
  · refine pw_exit rfl ?_
    refine pn_seq ?_
    refine pw_seq ?_
    refine pw_region ?_
    refine po_evs (T := tab) 3 rfl rfl ?_
    refine po_idx_own (T := tab) cNode l9 rfl rfl rfl rfl rfl rfl rfl rfl fun y13 hy13 => ?_
    refine po_evs (T := tab) 1 rfl rfl ?_
    refine po_load_ela (T := tab) cNode l9 y13 (idx_at hy13) rfl rfl rfl rfl rfl rfl rfl rfl ?_
    refine po_evs (T := tab) 1 rfl rfl ?_
    refine po_call (enc := fun (r14 : Int) => .v (.int .i64 r14)) (qs := [.sl 1 false (y13.Kids.map cInt_i64), .v (.int .i64 r5)]) (Instarref03_Find_ok fu y13.Kids r5) rfl rfl ⟨⟨_, rfl, .rfl⟩, ⟨_, rfl, .rfl⟩, trivial⟩ (fun _ => rfl) call35 rfl rfl fun r14 hr14 => ?_
    refine po_evs (T := tab) 1 rfl rfl ?_
    refine po_nil ?_
    refine pn_seq ?_
    refine pw_seq ?_
    refine pw_seq ?_
    refine pw_region ?_
    refine po_evs (T := tab) 2 rfl rfl ?_
    refine po_nil ?_
    refine pn_seq ?_
    refine pw_joinK (Instarlaw05_put_j1 fu f1 p3 r6 c8 l9) (fun (at16 : Int) => [(2, .v (.int .i64 p3)), (4, .loc 4 0), (8, .loc 8 0), (10, .sl 1 false (r6.map cInt_i64)), (11, .loc 11 0), (13, .v (.int .i64 at16))]) (fun (at16 : Int) => [(11, .box [.own 26, .v (.int .i64 c8)]), (26, .arr 28 10 (l9.map cNode)), (8, .box [.v (.slice none 0 0), .v (.int .i64 0)]), (4, .box [.sl 10 false (f1.Nodes.map cNode), .v (.int .i64 f1.Most)])]) ?_ fun hj1 => ?_
    · rintro at16
      refine pn_seq ?_
      refine pw_seq ?_
      refine pw_region ?_
      refine po_lit (T := tab) (rows := ([] : List Int).map cInt_i64) 62 rfl rfl rfl rfl rfl rfl rfl rfl rfl rfl rfl rfl rfl rfl ?_
      refine po_evs (T := tab) 3 rfl rfl ?_
      refine po_idx_own (T := tab) cNode l9 rfl rfl rfl rfl rfl rfl rfl rfl fun y17 hy17 => ?_
      refine po_evs (T := tab) 1 rfl rfl ?_
      refine po_load_ela (T := tab) cNode l9 y17 (idx_at hy17) rfl rfl rfl rfl rfl rfl rfl rfl ?_
      refine po_evs (T := tab) 1 rfl rfl ?_
      refine po_cut (T := tab) cInt_i64 y17.Kids rfl rfl rfl rfl rfl rfl rfl rfl fun l18 hl18 => ?_
      refine po_append (T := tab) cInt_i64 ([] : List Int) l18 rfl rfl rfl rfl rfl rfl rfl rfl rfl rfl rfl rfl rfl rfl (cInt_i64_one _) rfl rfl rfl rfl rfl ?_
      refine po_evs (T := tab) 1 rfl rfl ?_
      refine po_nil ?_
      refine pn_seq ?_
      refine pw_seq ?_
      refine pw_region ?_
      refine po_evs (T := tab) 2 rfl rfl ?_
      refine po_append (T := tab) cInt_i64 (([] : List Int) ++ l18) r6 rfl rfl rfl rfl rfl rfl rfl rfl rfl rfl rfl rfl rfl rfl (cInt_i64_one _) rfl rfl rfl rfl rfl ?_
      refine po_evs (T := tab) 1 rfl rfl ?_
      refine po_nil ?_
      refine pn_seq ?_
      refine pw_seq ?_
      refine pw_sub' (E' := [(2, .v (.int .i64 p3)), (4, .loc 4 0), (8, .loc 8 0), (10, .sl 1 false (r6.map cInt_i64)), (11, .loc 11 0), (13, .v (.int .i64 at16)), (14, .own 62)]) (S' := [(62, .arr 3 1 (((([] : List Int) ++ l18) ++ r6).map cInt_i64)), (11, .box [.own 26, .v (.int .i64 c8)]), (26, .arr 28 10 (l9.map cNode)), (8, .box [.v (.slice none 0 0), .v (.int .i64 0)]), (4, .box [.sl 10 false (f1.Nodes.map cNode), .v (.int .i64 f1.Most)])]) ?_ ⟨rfl, rfl, rfl, rfl, rfl, rfl, rfl, trivial⟩ ⟨rfl, rfl, rfl, rfl, rfl, trivial⟩ rfl
      refine pw_drawV [0, 1, 0, 0, 0, 16, 0, 112, 240, 496, 0, 2032, 4088, 8191, 16383, 32767] mixed (by kernel_rfl) (by kernel_rfl) rfl rfl ?_
      refine pdv_step0 [22] [150] [] [11] [] [(75, .loc 11 0)] [] rfl rfl rfl rfl (by kernel_rfl) (by kernel_rfl) (by kernel_rfl) trivial (fun w0 X X0 σ0 => by refine po_evs (T := tab) 1 rfl rfl ?_; refine po_nil ?_; exact pn_end0 ⟨rfl, trivial⟩ trivial rfl) ?_
      refine pdv_step0 [23, 150] [152] [] [11, 26] [11] [(76, .own 26)] [(11, .box [.own 26, .v (.int .i64 c8)])] rfl rfl rfl rfl (by kernel_rfl) (by kernel_rfl) (by kernel_rfl) ⟨rfl, trivial⟩ (fun w0 X X0 σ0 => by refine po_evs (T := tab) 1 rfl rfl ?_; refine po_nil ?_; exact pn_end0 ⟨rfl, trivial⟩ ⟨rfl, trivial⟩ rfl) ?_
      refine pdv_step0 [4] [154] [] [] [] [(77, .v (.int .i64 p3))] [] rfl rfl rfl rfl (by kernel_rfl) (by kernel_rfl) (by kernel_rfl) trivial (fun w0 X X0 σ0 => by refine po_evs (T := tab) 1 rfl rfl ?_; refine po_nil ?_; exact pn_end0 ⟨rfl, trivial⟩ trivial rfl) ?_
      refine pdv_step0 [28] [156] [] [62] [] [(78, .own 62)] [] rfl rfl rfl rfl (by kernel_rfl) (by kernel_rfl) (by kernel_rfl) trivial (fun w0 X X0 σ0 => by refine po_evs (T := tab) 1 rfl rfl ?_; refine po_nil ?_; exact pn_end0 ⟨rfl, trivial⟩ trivial rfl) ?_
      refine pdv_step0 [22] [158] [] [11] [] [(79, .loc 11 0)] [] rfl rfl rfl rfl (by kernel_rfl) (by kernel_rfl) (by kernel_rfl) trivial (fun w0 X X0 σ0 => by refine po_evs (T := tab) 1 rfl rfl ?_; refine po_nil ?_; exact pn_end0 ⟨rfl, trivial⟩ trivial rfl) ?_
      refine pdv_step0 [23, 158] [160] [] [11, 26] [11] [(80, .own 26)] [(11, .box [.own 26, .v (.int .i64 c8)])] rfl rfl rfl rfl (by kernel_rfl) (by kernel_rfl) (by kernel_rfl) ⟨rfl, trivial⟩ (fun w0 X X0 σ0 => by refine po_evs (T := tab) 1 rfl rfl ?_; refine po_nil ?_; exact pn_end0 ⟨rfl, trivial⟩ ⟨rfl, trivial⟩ rfl) ?_
      refine pdv_step0 [4] [162] [] [] [] [(81, .v (.int .i64 p3))] [] rfl rfl rfl rfl (by kernel_rfl) (by kernel_rfl) (by kernel_rfl) trivial (fun w0 X X0 σ0 => by refine po_evs (T := tab) 1 rfl rfl ?_; refine po_nil ?_; exact pn_end0 ⟨rfl, trivial⟩ trivial rfl) ?_
      refine pdv_step (M := (idx l9 p3)) (ment := [(164, [26])]) [53, 160, 162] [164] [] [26] [26] (fun y19 => [(82, .ela 26 10 (p3).toNat 0)]) (fun y19 => [(26, .arr 28 10 (l9.map cNode))]) rfl rfl (fun _ => rfl) (fun _ => rfl) (by kernel_rfl) (by kernel_rfl) (fun _ => by kernel_rfl) (fun _ => ⟨rfl, trivial⟩) (fun w0 X X0 σ0 => by refine po_idx_own (T := tab) cNode l9 rfl rfl rfl rfl rfl rfl rfl rfl fun y19 hy19 => ?_; refine po_nil ?_; exact pn_end ⟨rfl, trivial⟩ ⟨rfl, trivial⟩ rfl) fun y19 hy19 => ?_
      refine pdv_step0 [164] [166] [] [26] [] [(83, .ela 26 10 (p3).toNat 6)] [] rfl rfl rfl rfl (by kernel_rfl) (by kernel_rfl) (by kernel_rfl) trivial (fun w0 X X0 σ0 => by refine po_evs (T := tab) 1 rfl rfl ?_; refine po_nil ?_; exact pn_end0 ⟨rfl, trivial⟩ trivial rfl) ?_
      refine pdv_step0 [53, 166] [168] [] [26] [26] [(84, .sl 1 false (y19.Kids.map cInt_i64))] [(26, .arr 28 10 (l9.map cNode))] rfl rfl rfl rfl (by kernel_rfl) (by kernel_rfl) (by kernel_rfl) ⟨rfl, trivial⟩ (fun w0 X X0 σ0 => by refine po_load_ela (T := tab) cNode l9 y19 (idx_at hy19) rfl rfl rfl rfl rfl rfl rfl rfl ?_; refine po_nil ?_; exact pn_end0 ⟨rfl, trivial⟩ ⟨rfl, trivial⟩ rfl) ?_
      refine pdv_step0 [26] [170] [] [] [] [(85, .v (.int .i64 at16))] [] rfl rfl rfl rfl (by kernel_rfl) (by kernel_rfl) (by kernel_rfl) trivial (fun w0 X X0 σ0 => by refine po_evs (T := tab) 1 rfl rfl ?_; refine po_nil ?_; exact pn_end0 ⟨rfl, trivial⟩ trivial rfl) ?_
      refine pdv_step (M := (piece y19.Kids at16 ((y19.Kids.length : Nat) : Int))) (ment := [(172, [])]) [168, 170] [172] [] [] [] (fun l20 => [(86, .sl 1 false (l20.map cInt_i64))]) (fun l20 => []) rfl rfl (fun _ => rfl) (fun _ => rfl) (by kernel_rfl) (by kernel_rfl) (fun _ => by kernel_rfl) (fun _ => trivial) (fun w0 X X0 σ0 => by refine po_cut (T := tab) cInt_i64 y19.Kids rfl rfl rfl rfl rfl rfl rfl rfl fun l20 hl20 => ?_; refine po_nil ?_; exact pn_end ⟨rfl, trivial⟩ trivial rfl) fun l20 hl20 => ?_
      refine pdv_step (M := (roomy 8 (((([] : List Int) ++ l18) ++ r6).length + l20.length))) (ment := [(174, [62]), (28, []), (156, []), (125, [])]) [28, 125, 156, 172] [174, 28, 156, 125] [62] [] [] (fun _ => [(87, .own 62)]) (fun _ => [(62, .arr 3 1 ((((([] : List Int) ++ l18) ++ r6) ++ l20).map cInt_i64))]) rfl rfl (fun _ => rfl) (fun _ => rfl) (by kernel_rfl) (by kernel_rfl) (fun _ => by kernel_rfl) (fun _ => trivial) (fun w0 X X0 σ0 => by refine po_append (T := tab) cInt_i64 ((([] : List Int) ++ l18) ++ r6) l20 rfl rfl rfl rfl rfl rfl rfl rfl rfl rfl rfl rfl rfl rfl (cInt_i64_one _) rfl rfl rfl rfl rfl ?_; refine po_nil ?_; exact pn_end ⟨rfl, trivial⟩ ⟨rfl, trivial⟩ rfl) fun _ h0 => ?_
      refine pdv_step (M := (idx l9 p3)) (ment := [(176, [26])]) [53, 152, 154] [176] [] [26] [26] (fun y21 => [(88, .ela 26 10 (p3).toNat 0)]) (fun y21 => [(26, .arr 28 10 (l9.map cNode))]) rfl rfl (fun _ => rfl) (fun _ => rfl) (by kernel_rfl) (by kernel_rfl) (fun _ => by kernel_rfl) (fun _ => ⟨rfl, trivial⟩) (fun w0 X X0 σ0 => by refine po_idx_own (T := tab) cNode l9 rfl rfl rfl rfl rfl rfl rfl rfl fun y21 hy21 => ?_; refine po_nil ?_; exact pn_end ⟨rfl, trivial⟩ ⟨rfl, trivial⟩ rfl) fun y21 hy21 => ?_
      refine pdv_step0 [176] [178] [] [26] [] [(89, .ela 26 10 (p3).toNat 6)] [] rfl rfl rfl rfl (by kernel_rfl) (by kernel_rfl) (by kernel_rfl) trivial (fun w0 X X0 σ0 => by refine po_evs (T := tab) 1 rfl rfl ?_; refine po_nil ?_; exact pn_end0 ⟨rfl, trivial⟩ trivial rfl) ?_
      refine pdv_step0 [53, 125, 174, 178] [174, 125, 53] [] [26, 62] [] [(87, .sl 1 false ((((([] : List Int) ++ l18) ++ r6) ++ l20).map cInt_i64))] [(26, .arr 28 10 ((l9.set (p3).toNat (⟨y21.Kind, y21.Name, y21.Is, y21.Data, y21.Attrs, y21.Parent, (((([] : List Int) ++ l18) ++ r6) ++ l20), y21.Host, y21.Under, y21.Doc⟩ : Node)).map cNode))] rfl rfl rfl rfl (by kernel_rfl) (by kernel_rfl) (by kernel_rfl) trivial (fun w0 X X0 σ0 => by refine po_freeze 62 rfl rfl rfl ?_; refine po_store_ela (T := tab) cNode l9 y21 (⟨y21.Kind, y21.Name, y21.Is, y21.Data, y21.Attrs, y21.Parent, (((([] : List Int) ++ l18) ++ r6) ++ l20), y21.Host, y21.Under, y21.Doc⟩ : Node) (idx_at hy21) rfl rfl rfl rfl rfl rfl rfl rfl rfl rfl rfl rfl rfl ?_; refine po_nil ?_; exact pn_end0 ⟨rfl, trivial⟩ ⟨rfl, trivial⟩ rfl) ?_
      refine pdv_nil rfl rfl ?_
      refine pn_seq ?_
      refine pw_seq ?_
      refine pw_seq ?_
      refine pw_region ?_
      refine po_evs (T := tab) 1 rfl rfl ?_
      refine po_nil ?_
      refine pn_seq ?_
      refine pw_block ?_
      refine pw_loop' (Instarlaw05_put_l2 fu f1 p3 r6 c8) (fun ((i22, l23) : Int × (List Node)) => [(2, .v (.int .i64 p3)), (4, .loc 4 0), (8, .loc 8 0), (10, .sl 1 false (r6.map cInt_i64)), (11, .loc 11 0), (15, .v (.int .i64 i22))]) (fun ((i22, l23) : Int × (List Node)) => [(11, .box [.own 26, .v (.int .i64 c8)]), (26, .arr 28 10 (l23.map cNode)), (8, .box [.v (.slice none 0 0), .v (.int .i64 0)]), (4, .box [.sl 10 false (f1.Nodes.map cNode), .v (.int .i64 f1.Most)])]) fu (0, (l9.set (p3).toNat (⟨y21.Kind, y21.Name, y21.Is, y21.Data, y21.Attrs, y21.Parent, (((([] : List Int) ++ l18) ++ r6) ++ l20), y21.Host, y21.Under, y21.Doc⟩ : Node))) (fun _ => rfl) ⟨rfl, rfl, rfl, rfl, rfl, rfl, trivial⟩ ⟨rfl, rfl, rfl, rfl, trivial⟩ rfl ?_
      rintro k2 ⟨i22, l23⟩
      refine pw_seq ?_
      refine pw_seq ?_
      refine pw_region ?_
      refine po_evs (T := tab) 2 rfl rfl ?_
      refine po_len (T := tab) cInt_i64 r6 rfl rfl rfl rfl rfl rfl rfl rfl ?_
      refine po_evs (T := tab) 1 rfl rfl ?_
      refine po_nil ?_
      refine pn_seq ?_
      refine pw_cnd rfl ?_ ?_
      · refine pw_skip ?_
        refine pn_seq ?_
        refine pw_seq ?_
        refine pw_block ?_
        refine pw_seq ?_
        refine pw_sub' (E' := [(2, .v (.int .i64 p3)), (4, .loc 4 0), (8, .loc 8 0), (10, .sl 1 false (r6.map cInt_i64)), (11, .loc 11 0), (15, .v (.int .i64 i22))]) (S' := [(11, .box [.own 26, .v (.int .i64 c8)]), (26, .arr 28 10 (l23.map cNode)), (8, .box [.v (.slice none 0 0), .v (.int .i64 0)]), (4, .box [.sl 10 false (f1.Nodes.map cNode), .v (.int .i64 f1.Most)])]) ?_ ⟨rfl, rfl, rfl, rfl, rfl, rfl, trivial⟩ ⟨rfl, rfl, rfl, rfl, trivial⟩ rfl
        refine pw_drawV [0, 1, 0, 0, 12, 28, 0, 127, 255, 511] mixed (by kernel_rfl) (by kernel_rfl) rfl rfl ?_
        refine pdv_step0 [22] [192] [] [11] [] [(96, .loc 11 0)] [] rfl rfl rfl rfl (by kernel_rfl) (by kernel_rfl) (by kernel_rfl) trivial (fun w0 X X0 σ0 => by refine po_evs (T := tab) 1 rfl rfl ?_; refine po_nil ?_; exact pn_end0 ⟨rfl, trivial⟩ trivial rfl) ?_
        refine pdv_step0 [23, 192] [194] [] [11, 26] [11] [(97, .own 26)] [(11, .box [.own 26, .v (.int .i64 c8)])] rfl rfl rfl rfl (by kernel_rfl) (by kernel_rfl) (by kernel_rfl) ⟨rfl, trivial⟩ (fun w0 X X0 σ0 => by refine po_evs (T := tab) 1 rfl rfl ?_; refine po_nil ?_; exact pn_end0 ⟨rfl, trivial⟩ ⟨rfl, trivial⟩ rfl) ?_
        refine pdv_step0 [20] [196] [] [] [] [(98, .sl 1 false (r6.map cInt_i64))] [] rfl rfl rfl rfl (by kernel_rfl) (by kernel_rfl) (by kernel_rfl) trivial (fun w0 X X0 σ0 => by refine po_evs (T := tab) 1 rfl rfl ?_; refine po_nil ?_; exact pn_end0 ⟨rfl, trivial⟩ trivial rfl) ?_
        refine pdv_step0 [30] [198] [] [] [] [(99, .v (.int .i64 i22))] [] rfl rfl rfl rfl (by kernel_rfl) (by kernel_rfl) (by kernel_rfl) trivial (fun w0 X X0 σ0 => by refine po_evs (T := tab) 1 rfl rfl ?_; refine po_nil ?_; exact pn_end0 ⟨rfl, trivial⟩ trivial rfl) ?_
        refine pdv_step (M := (idx r6 i22)) (ment := [(200, [])]) [196, 198] [200] [] [] [] (fun y24 => [(100, .el (cInt_i64 y24) 0)]) (fun y24 => []) rfl rfl (fun _ => rfl) (fun _ => rfl) (by kernel_rfl) (by kernel_rfl) (fun _ => by kernel_rfl) (fun _ => trivial) (fun w0 X X0 σ0 => by refine po_idx (T := tab) cInt_i64 r6 rfl rfl rfl rfl rfl rfl rfl fun y24 hy24 => ?_; refine po_nil ?_; exact pn_end ⟨rfl, trivial⟩ trivial rfl) fun y24 hy24 => ?_
        refine pdv_step0 [200] [202] [] [] [] [(101, .v (.int .i64 y24))] [] rfl rfl rfl rfl (by kernel_rfl) (by kernel_rfl) (by kernel_rfl) trivial (fun w0 X X0 σ0 => by refine po_evs (T := tab) 1 rfl rfl ?_; refine po_nil ?_; exact pn_end0 ⟨rfl, trivial⟩ trivial rfl) ?_
        refine pdv_step0 [4] [204] [] [] [] [(102, .v (.int .i64 p3))] [] rfl rfl rfl rfl (by kernel_rfl) (by kernel_rfl) (by kernel_rfl) trivial (fun w0 X X0 σ0 => by refine po_evs (T := tab) 1 rfl rfl ?_; refine po_nil ?_; exact pn_end0 ⟨rfl, trivial⟩ trivial rfl) ?_
        refine pdv_step (M := (idx l23 y24)) (ment := [(206, [26])]) [53, 194, 202] [206] [] [26] [26] (fun y25 => [(103, .ela 26 10 (y24).toNat 0)]) (fun y25 => [(26, .arr 28 10 (l23.map cNode))]) rfl rfl (fun _ => rfl) (fun _ => rfl) (by kernel_rfl) (by kernel_rfl) (fun _ => by kernel_rfl) (fun _ => ⟨rfl, trivial⟩) (fun w0 X X0 σ0 => by refine po_idx_own (T := tab) cNode l23 rfl rfl rfl rfl rfl rfl rfl rfl fun y25 hy25 => ?_; refine po_nil ?_; exact pn_end ⟨rfl, trivial⟩ ⟨rfl, trivial⟩ rfl) fun y25 hy25 => ?_
        refine pdv_step0 [206] [208] [] [26] [] [(104, .ela 26 10 (y24).toNat 5)] [] rfl rfl rfl rfl (by kernel_rfl) (by kernel_rfl) (by kernel_rfl) trivial (fun w0 X X0 σ0 => by refine po_evs (T := tab) 1 rfl rfl ?_; refine po_nil ?_; exact pn_end0 ⟨rfl, trivial⟩ trivial rfl) ?_
        refine pdv_step0 [53, 204, 208] [53] [] [26] [] [] [(26, .arr 28 10 ((l23.set (y24).toNat (⟨y25.Kind, y25.Name, y25.Is, y25.Data, y25.Attrs, p3, y25.Kids, y25.Host, y25.Under, y25.Doc⟩ : Node)).map cNode))] rfl rfl rfl rfl (by kernel_rfl) (by kernel_rfl) (by kernel_rfl) trivial (fun w0 X X0 σ0 => by refine po_store_ela (T := tab) cNode l23 y25 (⟨y25.Kind, y25.Name, y25.Is, y25.Data, y25.Attrs, p3, y25.Kids, y25.Host, y25.Under, y25.Doc⟩ : Node) (idx_at hy25) rfl rfl rfl rfl rfl rfl rfl rfl rfl rfl rfl rfl rfl ?_; refine po_nil ?_; exact pn_end0 trivial ⟨rfl, trivial⟩ rfl) ?_
        refine pdv_nil rfl rfl ?_
        refine pn_seq ?_
        refine pw_seq ?_
        refine pw_sub' (E' := [(2, .v (.int .i64 p3)), (4, .loc 4 0), (8, .loc 8 0), (10, .sl 1 false (r6.map cInt_i64)), (11, .loc 11 0), (15, .v (.int .i64 i22))]) (S' := [(11, .box [.own 26, .v (.int .i64 c8)]), (26, .arr 28 10 ((l23.set (y24).toNat (⟨y25.Kind, y25.Name, y25.Is, y25.Data, y25.Attrs, p3, y25.Kids, y25.Host, y25.Under, y25.Doc⟩ : Node)).map cNode)), (8, .box [.v (.slice none 0 0), .v (.int .i64 0)]), (4, .box [.sl 10 false (f1.Nodes.map cNode), .v (.int .i64 f1.Most)])]) ?_ ⟨rfl, rfl, rfl, rfl, rfl, rfl, trivial⟩ ⟨rfl, rfl, rfl, rfl, trivial⟩ rfl
        refine pw_drawV [0, 0, 0, 6, 14, 31, 63] mixed (by kernel_rfl) (by kernel_rfl) rfl rfl ?_
        refine pdv_step0 [8, 9] [210] [] [4] [4] [(105, .agg (cForest f1))] [(4, .box [.sl 10 false (f1.Nodes.map cNode), .v (.int .i64 f1.Most)])] rfl rfl rfl rfl (by kernel_rfl) (by kernel_rfl) (by kernel_rfl) ⟨rfl, trivial⟩ (fun w0 X X0 σ0 => by refine po_evs (T := tab) 1 rfl rfl ?_; refine po_nil ?_; exact pn_end0 ⟨rfl, trivial⟩ ⟨rfl, trivial⟩ rfl) ?_
        refine pdv_step0 [20] [212] [] [] [] [(106, .sl 1 false (r6.map cInt_i64))] [] rfl rfl rfl rfl (by kernel_rfl) (by kernel_rfl) (by kernel_rfl) trivial (fun w0 X X0 σ0 => by refine po_evs (T := tab) 1 rfl rfl ?_; refine po_nil ?_; exact pn_end0 ⟨rfl, trivial⟩ trivial rfl) ?_
        refine pdv_step0 [30] [214] [] [] [] [(107, .v (.int .i64 i22))] [] rfl rfl rfl rfl (by kernel_rfl) (by kernel_rfl) (by kernel_rfl) trivial (fun w0 X X0 σ0 => by refine po_evs (T := tab) 1 rfl rfl ?_; refine po_nil ?_; exact pn_end0 ⟨rfl, trivial⟩ trivial rfl) ?_
        refine pdv_step (M := (idx r6 i22)) (ment := [(216, [])]) [212, 214] [216] [] [] [] (fun y26 => [(108, .el (cInt_i64 y26) 0)]) (fun y26 => []) rfl rfl (fun _ => rfl) (fun _ => rfl) (by kernel_rfl) (by kernel_rfl) (fun _ => by kernel_rfl) (fun _ => trivial) (fun w0 X X0 σ0 => by refine po_idx (T := tab) cInt_i64 r6 rfl rfl rfl rfl rfl rfl rfl fun y26 hy26 => ?_; refine po_nil ?_; exact pn_end ⟨rfl, trivial⟩ trivial rfl) fun y26 hy26 => ?_
        refine pdv_step0 [216] [218] [] [] [] [(109, .v (.int .i64 y26))] [] rfl rfl rfl rfl (by kernel_rfl) (by kernel_rfl) (by kernel_rfl) trivial (fun w0 X X0 σ0 => by refine po_evs (T := tab) 1 rfl rfl ?_; refine po_nil ?_; exact pn_end0 ⟨rfl, trivial⟩ trivial rfl) ?_
        refine pdv_step (M := (Shade_All_m fu f1 y26)) (ment := [(220, []), (6201, [])]) [210, 218] [220, 6201] [3100] [] [] (fun r27 => [(110, .sl 1 false (r27.map cInt_i64))]) (fun r27 => []) rfl rfl (fun _ => rfl) (fun _ => rfl) (by kernel_rfl) (by kernel_rfl) (fun _ => by kernel_rfl) (fun _ => trivial) (fun w0 X X0 σ0 => by refine po_turn [3100] (enc := fun (r27 : (List Int)) => .own 3100) (Sr := fun (r27 : (List Int)) => [(3100, .arr 3 1 (r27.map cInt_i64))]) (first := []) (cap := []) (qs := [.agg (cForest f1), .v (.int .i64 y26)]) (Sc := []) (N0 := []) (NR := [3100]) (fun r27 hr27 => fc_ren [(1035, 3100)] [1035] (Shade_All_ok fu f1 y26 _ hr27) rfl rfl rfl rfl rfl rfl) trivial (fun _ => rfl) rfl rfl rfl rfl rfl rfl rfl (fun _ => rfl) (fun _ => rfl) rfl rfl rfl ⟨⟨_, rfl, .rfl⟩, ⟨_, rfl, .rfl⟩, trivial⟩ call41 rfl rfl fun r27 hr27 => ?_; refine po_freeze 3100 rfl rfl rfl ?_; refine po_nil ?_; exact pn_end ⟨rfl, trivial⟩ trivial rfl) fun r27 hr27 => ?_
        refine pdv_step0 [220] [32] [] [] [] [(16, .sl 1 false (r27.map cInt_i64))] [] rfl rfl rfl rfl (by kernel_rfl) (by kernel_rfl) (by kernel_rfl) trivial (fun w0 X X0 σ0 => by refine po_evs (T := tab) 1 rfl rfl ?_; refine po_nil ?_; exact pn_end0 ⟨rfl, trivial⟩ trivial rfl) ?_
        refine pdv_nil rfl rfl ?_
        refine pn_seq ?_
        refine pw_seq ?_
        refine pw_region ?_
        refine po_evs (T := tab) 1 rfl rfl ?_
        refine po_nil ?_
        refine pn_seq ?_
        refine pw_block ?_
        refine pw_loop' (Instarlaw05_put_l3 p3 i22 r27 (Instarlaw05_put_l2 fu f1 p3 r6 c8 k2)) (fun ((k28, l29) : Int × (List Node)) => [(2, .v (.int .i64 p3)), (4, .loc 4 0), (8, .loc 8 0), (10, .sl 1 false (r6.map cInt_i64)), (11, .loc 11 0), (15, .v (.int .i64 i22)), (16, .sl 1 false (r27.map cInt_i64)), (17, .v (.int .i64 k28))]) (fun ((k28, l29) : Int × (List Node)) => [(11, .box [.own 26, .v (.int .i64 c8)]), (26, .arr 28 10 (l29.map cNode)), (8, .box [.v (.slice none 0 0), .v (.int .i64 0)]), (4, .box [.sl 10 false (f1.Nodes.map cNode), .v (.int .i64 f1.Most)])]) fu (0, (l23.set (y24).toNat (⟨y25.Kind, y25.Name, y25.Is, y25.Data, y25.Attrs, p3, y25.Kids, y25.Host, y25.Under, y25.Doc⟩ : Node))) (fun _ => rfl) ⟨rfl, rfl, rfl, rfl, rfl, rfl, rfl, rfl, trivial⟩ ⟨rfl, rfl, rfl, rfl, trivial⟩ rfl ?_
        rintro k3 ⟨k28, l29⟩
        refine pw_seq ?_
        refine pw_seq ?_
        refine pw_region ?_
        refine po_evs (T := tab) 2 rfl rfl ?_
        refine po_len (T := tab) cInt_i64 r27 rfl rfl rfl rfl rfl rfl rfl rfl ?_
        refine po_evs (T := tab) 1 rfl rfl ?_
        refine po_nil ?_
        refine pn_seq ?_
        refine pw_cnd rfl ?_ ?_
        · refine pw_skip ?_
          refine pn_seq ?_
          refine pw_seq ?_
          refine pw_block ?_
          refine pw_sub' (E' := [(2, .v (.int .i64 p3)), (4, .loc 4 0), (8, .loc 8 0), (10, .sl 1 false (r6.map cInt_i64)), (11, .loc 11 0), (15, .v (.int .i64 i22)), (16, .sl 1 false (r27.map cInt_i64)), (17, .v (.int .i64 k28))]) (S' := [(11, .box [.own 26, .v (.int .i64 c8)]), (26, .arr 28 10 (l29.map cNode)), (8, .box [.v (.slice none 0 0), .v (.int .i64 0)]), (4, .box [.sl 10 false (f1.Nodes.map cNode), .v (.int .i64 f1.Most)])]) ?_ ⟨rfl, rfl, rfl, rfl, rfl, rfl, rfl, rfl, trivial⟩ ⟨rfl, rfl, rfl, rfl, trivial⟩ rfl
          refine pw_drawV [0, 1, 0, 0, 12, 28, 0, 64, 0, 448, 960, 1984, 4095, 8191, 16383] mixed (by kernel_rfl) (by kernel_rfl) rfl rfl ?_
          refine pdv_step0 [22] [234] [] [11] [] [(117, .loc 11 0)] [] rfl rfl rfl rfl (by kernel_rfl) (by kernel_rfl) (by kernel_rfl) trivial (fun w0 X X0 σ0 => by refine po_evs (T := tab) 1 rfl rfl ?_; refine po_nil ?_; exact pn_end0 ⟨rfl, trivial⟩ trivial rfl) ?_
          refine pdv_step0 [23, 234] [236] [] [11, 26] [11] [(118, .own 26)] [(11, .box [.own 26, .v (.int .i64 c8)])] rfl rfl rfl rfl (by kernel_rfl) (by kernel_rfl) (by kernel_rfl) ⟨rfl, trivial⟩ (fun w0 X X0 σ0 => by refine po_evs (T := tab) 1 rfl rfl ?_; refine po_nil ?_; exact pn_end0 ⟨rfl, trivial⟩ ⟨rfl, trivial⟩ rfl) ?_
          refine pdv_step0 [32] [238] [] [] [] [(119, .sl 1 false (r27.map cInt_i64))] [] rfl rfl rfl rfl (by kernel_rfl) (by kernel_rfl) (by kernel_rfl) trivial (fun w0 X X0 σ0 => by refine po_evs (T := tab) 1 rfl rfl ?_; refine po_nil ?_; exact pn_end0 ⟨rfl, trivial⟩ trivial rfl) ?_
          refine pdv_step0 [34] [240] [] [] [] [(120, .v (.int .i64 k28))] [] rfl rfl rfl rfl (by kernel_rfl) (by kernel_rfl) (by kernel_rfl) trivial (fun w0 X X0 σ0 => by refine po_evs (T := tab) 1 rfl rfl ?_; refine po_nil ?_; exact pn_end0 ⟨rfl, trivial⟩ trivial rfl) ?_
          refine pdv_step (M := (idx r27 k28)) (ment := [(242, [])]) [238, 240] [242] [] [] [] (fun y30 => [(121, .el (cInt_i64 y30) 0)]) (fun y30 => []) rfl rfl (fun _ => rfl) (fun _ => rfl) (by kernel_rfl) (by kernel_rfl) (fun _ => by kernel_rfl) (fun _ => trivial) (fun w0 X X0 σ0 => by refine po_idx (T := tab) cInt_i64 r27 rfl rfl rfl rfl rfl rfl rfl fun y30 hy30 => ?_; refine po_nil ?_; exact pn_end ⟨rfl, trivial⟩ trivial rfl) fun y30 hy30 => ?_
          refine pdv_step0 [242] [244] [] [] [] [(122, .v (.int .i64 y30))] [] rfl rfl rfl rfl (by kernel_rfl) (by kernel_rfl) (by kernel_rfl) trivial (fun w0 X X0 σ0 => by refine po_evs (T := tab) 1 rfl rfl ?_; refine po_nil ?_; exact pn_end0 ⟨rfl, trivial⟩ trivial rfl) ?_
          refine pdv_step0 [22] [246] [] [11] [] [(123, .loc 11 0)] [] rfl rfl rfl rfl (by kernel_rfl) (by kernel_rfl) (by kernel_rfl) trivial (fun w0 X X0 σ0 => by refine po_evs (T := tab) 1 rfl rfl ?_; refine po_nil ?_; exact pn_end0 ⟨rfl, trivial⟩ trivial rfl) ?_
          refine pdv_step0 [23, 246] [248] [] [11, 26] [11] [(124, .own 26)] [(11, .box [.own 26, .v (.int .i64 c8)])] rfl rfl rfl rfl (by kernel_rfl) (by kernel_rfl) (by kernel_rfl) ⟨rfl, trivial⟩ (fun w0 X X0 σ0 => by refine po_evs (T := tab) 1 rfl rfl ?_; refine po_nil ?_; exact pn_end0 ⟨rfl, trivial⟩ ⟨rfl, trivial⟩ rfl) ?_
          refine pdv_step0 [4] [250] [] [] [] [(125, .v (.int .i64 p3))] [] rfl rfl rfl rfl (by kernel_rfl) (by kernel_rfl) (by kernel_rfl) trivial (fun w0 X X0 σ0 => by refine po_evs (T := tab) 1 rfl rfl ?_; refine po_nil ?_; exact pn_end0 ⟨rfl, trivial⟩ trivial rfl) ?_
          refine pdv_step (M := (idx l29 p3)) (ment := [(252, [26])]) [53, 248, 250] [252] [] [26] [26] (fun y31 => [(126, .ela 26 10 (p3).toNat 0)]) (fun y31 => [(26, .arr 28 10 (l29.map cNode))]) rfl rfl (fun _ => rfl) (fun _ => rfl) (by kernel_rfl) (by kernel_rfl) (fun _ => by kernel_rfl) (fun _ => ⟨rfl, trivial⟩) (fun w0 X X0 σ0 => by refine po_idx_own (T := tab) cNode l29 rfl rfl rfl rfl rfl rfl rfl rfl fun y31 hy31 => ?_; refine po_nil ?_; exact pn_end ⟨rfl, trivial⟩ ⟨rfl, trivial⟩ rfl) fun y31 hy31 => ?_
          refine pdv_step0 [252] [254] [] [26] [] [(127, .ela 26 10 (p3).toNat 9)] [] rfl rfl rfl rfl (by kernel_rfl) (by kernel_rfl) (by kernel_rfl) trivial (fun w0 X X0 σ0 => by refine po_evs (T := tab) 1 rfl rfl ?_; refine po_nil ?_; exact pn_end0 ⟨rfl, trivial⟩ trivial rfl) ?_
          refine pdv_step0 [53, 254] [256] [] [26] [26] [(128, .v (.int .i64 y31.Doc))] [(26, .arr 28 10 (l29.map cNode))] rfl rfl rfl rfl (by kernel_rfl) (by kernel_rfl) (by kernel_rfl) ⟨rfl, trivial⟩ (fun w0 X X0 σ0 => by refine po_load_ela (T := tab) cNode l29 y31 (idx_at hy31) rfl rfl rfl rfl rfl rfl rfl rfl ?_; refine po_nil ?_; exact pn_end0 ⟨rfl, trivial⟩ ⟨rfl, trivial⟩ rfl) ?_
          refine pdv_step (M := (idx l29 y30)) (ment := [(258, [26])]) [53, 236, 244] [258] [] [26] [26] (fun y32 => [(129, .ela 26 10 (y30).toNat 0)]) (fun y32 => [(26, .arr 28 10 (l29.map cNode))]) rfl rfl (fun _ => rfl) (fun _ => rfl) (by kernel_rfl) (by kernel_rfl) (fun _ => by kernel_rfl) (fun _ => ⟨rfl, trivial⟩) (fun w0 X X0 σ0 => by refine po_idx_own (T := tab) cNode l29 rfl rfl rfl rfl rfl rfl rfl rfl fun y32 hy32 => ?_; refine po_nil ?_; exact pn_end ⟨rfl, trivial⟩ ⟨rfl, trivial⟩ rfl) fun y32 hy32 => ?_
          refine pdv_step0 [258] [260] [] [26] [] [(130, .ela 26 10 (y30).toNat 9)] [] rfl rfl rfl rfl (by kernel_rfl) (by kernel_rfl) (by kernel_rfl) trivial (fun w0 X X0 σ0 => by refine po_evs (T := tab) 1 rfl rfl ?_; refine po_nil ?_; exact pn_end0 ⟨rfl, trivial⟩ trivial rfl) ?_
          refine pdv_step0 [53, 256, 260] [53] [] [26] [] [] [(26, .arr 28 10 ((l29.set (y30).toNat (⟨y32.Kind, y32.Name, y32.Is, y32.Data, y32.Attrs, y32.Parent, y32.Kids, y32.Host, y32.Under, y31.Doc⟩ : Node)).map cNode))] rfl rfl rfl rfl (by kernel_rfl) (by kernel_rfl) (by kernel_rfl) trivial (fun w0 X X0 σ0 => by refine po_store_ela (T := tab) cNode l29 y32 (⟨y32.Kind, y32.Name, y32.Is, y32.Data, y32.Attrs, y32.Parent, y32.Kids, y32.Host, y32.Under, y31.Doc⟩ : Node) (idx_at hy32) rfl rfl rfl rfl rfl rfl rfl rfl rfl rfl rfl rfl rfl ?_; refine po_nil ?_; exact pn_end0 trivial ⟨rfl, trivial⟩ rfl) ?_
          refine pdv_nil rfl rfl ?_
          refine pn_block ?_
          refine pn_seq ?_
          refine pw_region ?_
          refine po_evs (T := tab) 1 rfl rfl ?_
          refine po_arith' (T := tab) rfl rfl rfl rfl fun i33 hi33 => ?_
          refine po_evs (T := tab) 1 rfl rfl ?_
          refine po_nil ?_
          exact pn_iter' (i33, (l29.set (y30).toNat (⟨y32.Kind, y32.Name, y32.Is, y32.Data, y32.Attrs, y32.Parent, y32.Kids, y32.Host, y32.Under, y31.Doc⟩ : Node))) ⟨rfl, rfl, rfl, rfl, rfl, rfl, rfl, rfl, trivial⟩ ⟨rfl, rfl, rfl, rfl, trivial⟩ rfl
        · refine pw_exit rfl ?_
          refine pn_block ?_
          refine pn_seq ?_
          refine pw_region ?_
          refine po_evs (T := tab) 1 rfl rfl ?_
          refine po_arith' (T := tab) rfl rfl rfl rfl fun i34 hi34 => ?_
          refine po_evs (T := tab) 1 rfl rfl ?_
          refine po_nil ?_
          exact pn_iter' (i34, l29) ⟨rfl, rfl, rfl, rfl, rfl, rfl, trivial⟩ ⟨rfl, rfl, rfl, rfl, trivial⟩ rfl
      · refine pw_exit rfl ?_
        refine pn_seq ?_
        refine pw_seq ?_
        refine pw_region ?_
        refine po_evs (T := tab) 1 rfl rfl ?_
        refine po_store (T := tab) rfl rfl rfl rfl rfl rfl rfl rfl rfl rfl rfl rfl ?_
        refine po_nil ?_
        refine pn_seq ?_
        refine pw_freeze 26 rfl rfl rfl ?_
        exact pw_retN (T := tab) rfl rfl rfl ⟨rfl, rfl⟩ trivial rfl
    · refine pw_cnd rfl ?_ ?_
      · refine pw_region ?_
        refine po_evs (T := tab) 3 rfl rfl ?_
        refine po_idx_own (T := tab) cNode l9 rfl rfl rfl rfl rfl rfl rfl rfl fun y15 hy15 => ?_
        refine po_evs (T := tab) 1 rfl rfl ?_
        refine po_load_ela (T := tab) cNode l9 y15 (idx_at hy15) rfl rfl rfl rfl rfl rfl rfl rfl ?_
        refine po_len (T := tab) cInt_i64 y15.Kids rfl rfl rfl rfl rfl rfl rfl rfl ?_
        refine po_evs (T := tab) 1 rfl rfl ?_
        refine po_nil ?_
        exact pn_sub' (hj1 ((y15.Kids.length : Nat) : Int)) ⟨rfl, rfl, rfl, rfl, rfl, rfl, trivial⟩ ⟨rfl, rfl, rfl, rfl, trivial⟩ rfl
      · refine pw_skip ?_
        exact pn_sub' (hj1 r14) ⟨rfl, rfl, rfl, rfl, rfl, rfl, trivial⟩ ⟨rfl, rfl, rfl, rfl, trivial⟩ rfl

def Instarlaw05_ValidPut_l1 (f1 : Forest) (m12 : Int) (y24 : Node) (r25 : (List Int)) : Nat → Int × Int × Int → Option Bool
  | 0, _ => none
  | k1 + 1, (texts26, elems27, i28) => cnd (decide (i28 < ((((([] : List Int) ++ y24.Kids) ++ r25).length : Nat) : Int))) (bnd (idx ((([] : List Int) ++ y24.Kids) ++ r25) i28) fun y29 => bnd (idx f1.Nodes y29) fun y30 => cnd (y30.Kind == 2) (bnd (rng .i64 (texts26 + 1)) fun i31 => bnd (idx ((([] : List Int) ++ y24.Kids) ++ r25) i28) fun y32 => bnd (idx f1.Nodes y32) fun y33 => cnd (y33.Kind == 1) (bnd (rng .i64 (elems27 + 1)) fun i34 => bnd (rng .i64 (i28 + 1)) fun i38 => (Instarlaw05_ValidPut_l1 f1 m12 y24 r25 k1) (i31, i34, i38)) (bnd (rng .i64 (i28 + 1)) fun i39 => (Instarlaw05_ValidPut_l1 f1 m12 y24 r25 k1) (i31, elems27, i39))) (bnd (idx ((([] : List Int) ++ y24.Kids) ++ r25) i28) fun y35 => bnd (idx f1.Nodes y35) fun y36 => cnd (y36.Kind == 1) (bnd (rng .i64 (elems27 + 1)) fun i37 => bnd (rng .i64 (i28 + 1)) fun i40 => (Instarlaw05_ValidPut_l1 f1 m12 y24 r25 k1) (texts26, i37, i40)) (bnd (rng .i64 (i28 + 1)) fun i41 => (Instarlaw05_ValidPut_l1 f1 m12 y24 r25 k1) (texts26, elems27, i41)))) (bnd (idx f1.Nodes m12) fun y42 => cnd (y42.Kind == 0) (cnd (decide (texts26 > 0)) (some true) (some (decide (elems27 > 1)))) (some false))

def Instarlaw05_ValidPut_j1 (fu : Nat) (f1 : Forest) (m10 : Int) (m12 : Int) (child17 : Int) : Option Bool := bnd (Valid_May_m fu f1 m10 m12 child17) fun r18 => cnd (r18 == 0) (bnd (Instarlaw05_put_m fu f1 m10 m12 child17) fun r19 => bnd (Forest_Right_m fu r19) fun r20 => some r20) (cnd (r18 == 5) (bnd (idx f1.Nodes m10) fun y21 => bnd (Shade_Over_m fu f1 m10 m12) fun r22 => cnd r22 (some true) (cnd (y21.Kind == 0) (some true) (cnd (y21.Kind == 4) (some true) (bnd (idx f1.Nodes m12) fun y23 => cnd (y23.Kind == 2) (some true) (bnd (idx f1.Nodes m12) fun y24 => bnd (roomy 8 (([] : List Int).length + y24.Kids.length)) fun _ => bnd (Valid_Parts_m fu f1 m10) fun r25 => bnd (roomy 8 ((([] : List Int) ++ y24.Kids).length + r25.length)) fun _ => (Instarlaw05_ValidPut_l1 f1 m12 y24 r25) fu (0, 0, 0)))))) (some false))

def Instarlaw05_ValidPut_m (fu : Nat) (f1 : Forest) (a2 : Int) (b3 : Int) (c4 : Int) (last5 : Bool) : Option Bool := bnd (Instarlaw05_awake_m fu) fun r6 => cnd (!r6) (some false) (bnd (Instarref03_Short_m fu f1) fun r7 => cnd (!r7) (some true) (bnd (Forest_Right_m fu f1) fun r8 => cnd (!r8) (some true) (bnd (rng .i64 a2) fun i9 => bnd (remI i9 ((f1.Nodes.length : Nat) : Int)) fun m10 => bnd (rng .i64 b3) fun i11 => bnd (remI i11 ((f1.Nodes.length : Nat) : Int)) fun m12 => bnd (idx f1.Nodes m12) fun y13 => cnd (decide (((y13.Kids.length : Nat) : Int) > 0)) (cnd (!last5) (bnd (rng .i64 c4) fun i14 => bnd (remI i14 ((y13.Kids.length : Nat) : Int)) fun m15 => bnd (idx y13.Kids m15) fun y16 => (Instarlaw05_ValidPut_j1 fu f1 m10 m12) y16) ((Instarlaw05_ValidPut_j1 fu f1 m10 m12) (-1))) ((Instarlaw05_ValidPut_j1 fu f1 m10 m12) (-1)))))

set_option maxHeartbeats 10000000 in
set_option maxRecDepth 100000 in
theorem Instarlaw05_ValidPut_ok (fu : Nat) (f1 : Forest) (a2 : Int) (b3 : Int) (c4 : Int) (last5 : Bool) : ∀ r, Instarlaw05_ValidPut_m fu f1 a2 b3 c4 last5 = some r → DC Try.prog 13 [.agg (cForest f1), .v (.int .u8 a2), .v (.int .u8 b3), .v (.int .u8 c4), .v (.bool last5)] (.v (.bool r)) := by
  intro r hr
  refine fc_intro (args := [.agg (cForest f1), .v (.int .u8 a2), .v (.int .u8 b3), .v (.int .u8 c4), .v (.bool last5)]) (S := []) (N0 := []) (post := fun r p S => p = .v (.bool r) ∧ S = []) Try.func13 rfl rfl hr fun w0 X X0 σ0 => ?_
  refine pw_seq ?_
  refine pw_region ?_
  refine po_box  5 rfl rfl rfl rfl rfl rfl rfl rfl rfl rfl ?_
  refine po_evs (T := tab) 1 rfl rfl ?_
  refine po_nil ?_
  refine pn_seq ?_
  refine pw_seq ?_
  refine pw_seq ?_
  refine pw_region ?_
  refine po_call (enc := fun (r6 : Bool) => .v (.bool r6)) (qs := []) (Instarlaw05_awake_ok fu) rfl rfl trivial (fun _ => rfl) call50 rfl rfl fun r6 hr6 => ?_
  refine po_evs (T := tab) 1 rfl rfl ?_
  refine po_nil ?_
  refine pn_seq ?_
  refine pw_cnd rfl ?_ ?_
  · refine pw_seq ?_
    refine pw_region ?_
    refine po_evs (T := tab) 1 rfl rfl ?_
    refine po_nil ?_
    refine pn_seq ?_
    exact pw_retN (T := tab) rfl rfl rfl ⟨rfl, rfl⟩ trivial rfl
  · refine pw_skip ?_
    refine pn_seq ?_
    refine pw_seq ?_
    refine pw_seq ?_
    refine pw_region ?_
    refine po_evs (T := tab) 1 rfl rfl ?_
    refine po_call (enc := fun (r7 : Bool) => .v (.bool r7)) (qs := [.agg (cForest f1)]) (Instarref03_Short_ok fu f1) rfl rfl ⟨⟨_, rfl, .rfl⟩, trivial⟩ (fun _ => rfl) call15 rfl rfl fun r7 hr7 => ?_
    refine po_evs (T := tab) 2 rfl rfl ?_
    refine po_split (j := 25) rfl ?_ ?_
    · refine po_evs (T := tab) 4 rfl rfl ?_
      refine po_nil ?_
      refine pn_seq (pw_then rfl ?_)
      refine pw_seq ?_
      refine pw_region ?_
      refine po_evs (T := tab) 1 rfl rfl ?_
      refine po_nil ?_
      refine pn_seq ?_
      exact pw_retN (T := tab) rfl rfl rfl ⟨rfl, rfl⟩ trivial rfl
    · refine po_evs (T := tab) 1 rfl rfl ?_
      refine po_call (enc := fun (r8 : Bool) => .v (.bool r8)) (qs := [.agg (cForest f1)]) (Forest_Right_ok fu f1) rfl rfl ⟨⟨_, rfl, .rfl⟩, trivial⟩ (fun _ => rfl) call19 rfl rfl fun r8 hr8 => ?_
      refine po_evs (T := tab) 2 rfl rfl ?_
      refine po_nil ?_
      refine pn_seq ?_
      refine pw_cnd rfl ?_ ?_
      · refine pw_seq ?_
        refine pw_region ?_
        refine po_evs (T := tab) 1 rfl rfl ?_
        refine po_nil ?_
        refine pn_seq ?_
        exact pw_retN (T := tab) rfl rfl rfl ⟨rfl, rfl⟩ trivial rfl
      · refine pw_skip ?_
        refine pn_seq ?_
        refine pw_seq ?_
        refine pw_draw mixed (by kernel_rfl) ?_
        refine pd_evs (T := tab) 1 rfl rfl ?_
        refine pd_arith (T := tab) rfl rfl rfl rfl fun i9 hi9 => ?_
        refine pd_evs (T := tab) 2 rfl rfl ?_
        refine pd_len (T := tab) cNode f1.Nodes rfl rfl rfl rfl rfl rfl rfl rfl ?_
        refine pd_rem rfl rfl rfl rfl rfl rfl fun m10 hm10 => ?_
        refine pd_evs (T := tab) 1 rfl rfl ?_
        refine pd_arith (T := tab) rfl rfl rfl rfl fun i11 hi11 => ?_
        refine pd_evs (T := tab) 2 rfl rfl ?_
        refine pd_len (T := tab) cNode f1.Nodes rfl rfl rfl rfl rfl rfl rfl rfl ?_
        refine pd_rem rfl rfl rfl rfl rfl rfl fun m12 hm12 => ?_
        refine pd_evs (T := tab) 2 rfl rfl ?_
        refine pd_nil ?_
        refine pn_seq ?_
        refine pw_seq ?_
        refine pw_region ?_
        refine po_evs (T := tab) 1 rfl rfl ?_
        refine po_nil ?_
        refine pn_seq ?_
        refine pw_seq ?_
        refine pw_seq ?_
        refine pw_region ?_
        refine po_evs (T := tab) 3 rfl rfl ?_
        refine po_idx (T := tab) cNode f1.Nodes rfl rfl rfl rfl rfl rfl rfl fun y13 hy13 => ?_
        refine po_evs (T := tab) 3 rfl rfl ?_
        refine po_nil ?_
        refine pn_seq ?_
        refine pw_seq ?_
        refine pw_region ?_
        refine po_joinB (Instarlaw05_ValidPut_j1 fu f1 m10 m12) (fun (child17 : Int) => [(5, .loc 5 0), (11, .v (.int .i64 m10)), (12, .v (.int .i64 m12)), (13, .v (.int .i64 child17))]) (fun (child17 : Int) => [(5, .box [.sl 10 false (f1.Nodes.map cNode), .v (.int .i64 f1.Most)])]) ?_ fun hj1 => ?_
        · rintro child17
          refine pn_seq ?_
          refine pw_seq ?_
          refine pw_seq ?_
          refine pw_region ?_
          refine po_evs (T := tab) 4 rfl rfl ?_
          refine po_call (enc := fun (r18 : Int) => .v (.int .i64 r18)) (qs := [.agg (cForest f1), .v (.int .i64 m10), .v (.int .i64 m12), .v (.int .i64 child17)]) (Valid_May_ok fu f1 m10 m12 child17) rfl rfl ⟨⟨_, rfl, .rfl⟩, ⟨_, rfl, .rfl⟩, ⟨_, rfl, .rfl⟩, ⟨_, rfl, .rfl⟩, trivial⟩ (fun _ => rfl) call52 rfl rfl fun r18 hr18 => ?_
          refine po_nil ?_
          refine pn_seq ?_
          refine pw_block ?_
          refine pw_seq ?_
          refine pw_region ?_
          refine po_evs (T := tab) 2 rfl rfl ?_
          refine po_nil ?_
          refine pn_seq ?_
          refine pw_cnd rfl ?_ ?_
          · refine pw_seq ?_
            refine pw_region ?_
            refine po_evs (T := tab) 4 rfl rfl ?_
            refine po_call (enc := fun (r19 : Forest) => .agg (cForest r19)) (qs := [.agg (cForest f1), .v (.int .i64 m10), .v (.int .i64 m12), .v (.int .i64 child17)]) (Instarlaw05_put_ok fu f1 m10 m12 child17) rfl rfl ⟨⟨_, rfl, .rfl⟩, ⟨_, rfl, .rfl⟩, ⟨_, rfl, .rfl⟩, ⟨_, rfl, .rfl⟩, trivial⟩ (fun _ => rfl) call54 rfl rfl fun r19 hr19 => ?_
            refine po_call (enc := fun (r20 : Bool) => .v (.bool r20)) (qs := [.agg (cForest r19)]) (Forest_Right_ok fu r19) rfl rfl ⟨⟨_, rfl, .rfl⟩, trivial⟩ (fun _ => rfl) call19 rfl rfl fun r20 hr20 => ?_
            refine po_evs (T := tab) 1 rfl rfl ?_
            refine po_nil ?_
            refine pn_seq ?_
            exact pw_retN (T := tab) rfl rfl rfl ⟨rfl, rfl⟩ trivial rfl
          · refine pw_seq ?_
            refine pw_region ?_
            refine po_evs (T := tab) 2 rfl rfl ?_
            refine po_nil ?_
            refine pn_seq ?_
            refine pw_cnd rfl ?_ ?_
            · refine pw_skip ?_
              refine pn_block ?_
              refine pn_seq ?_
              refine pw_seq ?_
              refine pw_region ?_
              refine po_evs (T := tab) 3 rfl rfl ?_
              refine po_idx (T := tab) cNode f1.Nodes rfl rfl rfl rfl rfl rfl rfl fun y21 hy21 => ?_
              refine po_evs (T := tab) 3 rfl rfl ?_
              refine po_nil ?_
              refine pn_seq ?_
              refine pw_seq ?_
              refine pw_seq ?_
              refine pw_region ?_
              refine po_evs (T := tab) 3 rfl rfl ?_
              refine po_call (enc := fun (r22 : Bool) => .v (.bool r22)) (qs := [.agg (cForest f1), .v (.int .i64 m10), .v (.int .i64 m12)]) (Shade_Over_ok fu f1 m10 m12) rfl rfl ⟨⟨_, rfl, .rfl⟩, ⟨_, rfl, .rfl⟩, ⟨_, rfl, .rfl⟩, trivial⟩ (fun _ => rfl) call43 rfl rfl fun r22 hr22 => ?_
              refine po_evs (T := tab) 1 rfl rfl ?_
              refine po_split (j := 88) rfl ?_ ?_
              · refine po_evs (T := tab) 16 rfl rfl ?_
                refine po_nil ?_
                refine pn_seq (pw_then rfl ?_)
                refine pw_seq ?_
                refine pw_region ?_
                refine po_evs (T := tab) 1 rfl rfl ?_
                refine po_nil ?_
                refine pn_seq ?_
                exact pw_retN (T := tab) rfl rfl rfl ⟨rfl, rfl⟩ trivial rfl
              · refine po_evs (T := tab) 4 rfl rfl ?_
                refine po_split (j := 92) rfl ?_ ?_
                · refine po_evs (T := tab) 12 rfl rfl ?_
                  refine po_nil ?_
                  refine pn_seq (pw_then rfl ?_)
                  refine pw_seq ?_
                  refine pw_region ?_
                  refine po_evs (T := tab) 1 rfl rfl ?_
                  refine po_nil ?_
                  refine pn_seq ?_
                  exact pw_retN (T := tab) rfl rfl rfl ⟨rfl, rfl⟩ trivial rfl
                · refine po_evs (T := tab) 4 rfl rfl ?_
                  refine po_split (j := 96) rfl ?_ ?_
                  · refine po_evs (T := tab) 8 rfl rfl ?_
                    refine po_nil ?_
                    refine pn_seq (pw_then rfl ?_)
                    refine pw_seq ?_
                    refine pw_region ?_
                    refine po_evs (T := tab) 1 rfl rfl ?_
                    refine po_nil ?_
                    refine pn_seq ?_
                    exact pw_retN (T := tab) rfl rfl rfl ⟨rfl, rfl⟩ trivial rfl
                  · refine po_evs (T := tab) 3 rfl rfl ?_
                    refine po_idx (T := tab) cNode f1.Nodes rfl rfl rfl rfl rfl rfl rfl fun y23 hy23 => ?_
                    refine po_evs (T := tab) 4 rfl rfl ?_
                    refine po_nil ?_
                    refine pn_seq ?_
                    refine pw_cnd rfl ?_ ?_
                    · refine pw_seq ?_
                      refine pw_region ?_
                      refine po_evs (T := tab) 1 rfl rfl ?_
                      refine po_nil ?_
                      refine pn_seq ?_
                      exact pw_retN (T := tab) rfl rfl rfl ⟨rfl, rfl⟩ trivial rfl
                    · refine pw_skip ?_
                      refine pn_seq ?_
                      refine pw_seq ?_
                      refine pw_sub' (E' := [(5, .loc 5 0), (11, .v (.int .i64 m10)), (12, .v (.int .i64 m12))]) (S' := [(5, .box [.sl 10 false (f1.Nodes.map cNode), .v (.int .i64 f1.Most)])]) ?_ ⟨rfl, rfl, rfl, trivial⟩ ⟨rfl, trivial⟩ rfl
                      refine pw_drawV [0, 0, 2, 0, 14, 30, 62, 127, 0, 0, 1023, 2047, 4095] mixed (by kernel_rfl) (by kernel_rfl) rfl rfl ?_
                      refine pdv_step0 [] [210, 211] [105] [] [] [(105, .own 105)] [(105, .arr 3 1 (([] : List Int).map cInt_i64))] rfl rfl rfl rfl (by kernel_rfl) (by kernel_rfl) (by kernel_rfl) trivial (fun w0 X X0 σ0 => by refine po_lit (T := tab) (rows := ([] : List Int).map cInt_i64) 105 rfl rfl rfl rfl rfl rfl rfl rfl rfl rfl rfl rfl rfl rfl ?_; refine po_nil ?_; exact pn_end0 ⟨rfl, trivial⟩ ⟨rfl, trivial⟩ rfl) ?_
                      refine pdv_step0 [10] [212] [] [5] [] [(106, .loc 5 0)] [] rfl rfl rfl rfl (by kernel_rfl) (by kernel_rfl) (by kernel_rfl) trivial (fun w0 X X0 σ0 => by refine po_evs (T := tab) 1 rfl rfl ?_; refine po_nil ?_; exact pn_end0 ⟨rfl, trivial⟩ trivial rfl) ?_
                      refine pdv_step0 [11, 212] [214] [] [5] [5] [(107, .sl 10 false (f1.Nodes.map cNode))] [(5, .box [.sl 10 false (f1.Nodes.map cNode), .v (.int .i64 f1.Most)])] rfl rfl rfl rfl (by kernel_rfl) (by kernel_rfl) (by kernel_rfl) ⟨rfl, trivial⟩ (fun w0 X X0 σ0 => by refine po_evs (T := tab) 1 rfl rfl ?_; refine po_nil ?_; exact pn_end0 ⟨rfl, trivial⟩ ⟨rfl, trivial⟩ rfl) ?_
                      refine pdv_step0 [24] [216] [] [] [] [(108, .v (.int .i64 m12))] [] rfl rfl rfl rfl (by kernel_rfl) (by kernel_rfl) (by kernel_rfl) trivial (fun w0 X X0 σ0 => by refine po_evs (T := tab) 1 rfl rfl ?_; refine po_nil ?_; exact pn_end0 ⟨rfl, trivial⟩ trivial rfl) ?_
                      refine pdv_step (M := (idx f1.Nodes m12)) (ment := [(218, [])]) [214, 216] [218] [] [] [] (fun y24 => [(109, .el (cNode y24) 0)]) (fun y24 => []) rfl rfl (fun _ => rfl) (fun _ => rfl) (by kernel_rfl) (by kernel_rfl) (fun _ => by kernel_rfl) (fun _ => trivial) (fun w0 X X0 σ0 => by refine po_idx (T := tab) cNode f1.Nodes rfl rfl rfl rfl rfl rfl rfl fun y24 hy24 => ?_; refine po_nil ?_; exact pn_end ⟨rfl, trivial⟩ trivial rfl) fun y24 hy24 => ?_
                      refine pdv_step0 [218] [220] [] [] [] [(110, .el (cNode y24) 6)] [] rfl rfl rfl rfl (by kernel_rfl) (by kernel_rfl) (by kernel_rfl) trivial (fun w0 X X0 σ0 => by refine po_evs (T := tab) 1 rfl rfl ?_; refine po_nil ?_; exact pn_end0 ⟨rfl, trivial⟩ trivial rfl) ?_
                      refine pdv_step0 [220] [222] [] [] [] [(111, .sl 1 false (y24.Kids.map cInt_i64))] [] rfl rfl rfl rfl (by kernel_rfl) (by kernel_rfl) (by kernel_rfl) trivial (fun w0 X X0 σ0 => by refine po_evs (T := tab) 1 rfl rfl ?_; refine po_nil ?_; exact pn_end0 ⟨rfl, trivial⟩ trivial rfl) ?_
                      refine pdv_step (M := (roomy 8 (([] : List Int).length + y24.Kids.length))) (ment := [(224, [105]), (210, []), (211, [])]) [210, 211, 222] [224, 210, 211] [105] [] [] (fun _ => [(112, .own 105)]) (fun _ => [(105, .arr 3 1 ((([] : List Int) ++ y24.Kids).map cInt_i64))]) rfl rfl (fun _ => rfl) (fun _ => rfl) (by kernel_rfl) (by kernel_rfl) (fun _ => by kernel_rfl) (fun _ => trivial) (fun w0 X X0 σ0 => by refine po_append (T := tab) cInt_i64 ([] : List Int) y24.Kids rfl rfl rfl rfl rfl rfl rfl rfl rfl rfl rfl rfl rfl rfl (cInt_i64_one _) rfl rfl rfl rfl rfl ?_; refine po_nil ?_; exact pn_end ⟨rfl, trivial⟩ ⟨rfl, trivial⟩ rfl) fun _ h0 => ?_
                      refine pdv_step0 [10, 11] [226] [] [5] [5] [(113, .agg (cForest f1))] [(5, .box [.sl 10 false (f1.Nodes.map cNode), .v (.int .i64 f1.Most)])] rfl rfl rfl rfl (by kernel_rfl) (by kernel_rfl) (by kernel_rfl) ⟨rfl, trivial⟩ (fun w0 X X0 σ0 => by refine po_evs (T := tab) 1 rfl rfl ?_; refine po_nil ?_; exact pn_end0 ⟨rfl, trivial⟩ ⟨rfl, trivial⟩ rfl) ?_
                      refine pdv_step0 [22] [228] [] [] [] [(114, .v (.int .i64 m10))] [] rfl rfl rfl rfl (by kernel_rfl) (by kernel_rfl) (by kernel_rfl) trivial (fun w0 X X0 σ0 => by refine po_evs (T := tab) 1 rfl rfl ?_; refine po_nil ?_; exact pn_end0 ⟨rfl, trivial⟩ trivial rfl) ?_
                      refine pdv_step (M := (Valid_Parts_m fu f1 m10)) (ment := [(230, [])]) [226, 228] [230] [] [] [] (fun r25 => [(115, .sl 1 false (r25.map cInt_i64))]) (fun r25 => []) rfl rfl (fun _ => rfl) (fun _ => rfl) (by kernel_rfl) (by kernel_rfl) (fun _ => by kernel_rfl) (fun _ => trivial) (fun w0 X X0 σ0 => by refine po_call (enc := fun (r25 : (List Int)) => .sl 1 false (r25.map cInt_i64)) (qs := [.agg (cForest f1), .v (.int .i64 m10)]) (Valid_Parts_ok fu f1 m10) rfl rfl ⟨⟨_, rfl, .rfl⟩, ⟨_, rfl, .rfl⟩, trivial⟩ (fun _ => rfl) call55 rfl rfl fun r25 hr25 => ?_; refine po_nil ?_; exact pn_end ⟨rfl, trivial⟩ trivial rfl) fun r25 hr25 => ?_
                      refine pdv_step (M := (roomy 8 ((([] : List Int) ++ y24.Kids).length + r25.length))) (ment := [(232, [105]), (224, []), (211, []), (210, [])]) [210, 211, 224, 230] [232, 224, 211, 210] [105] [] [] (fun _ => [(116, .own 105)]) (fun _ => [(105, .arr 3 1 (((([] : List Int) ++ y24.Kids) ++ r25).map cInt_i64))]) rfl rfl (fun _ => rfl) (fun _ => rfl) (by kernel_rfl) (by kernel_rfl) (fun _ => by kernel_rfl) (fun _ => trivial) (fun w0 X X0 σ0 => by refine po_append (T := tab) cInt_i64 (([] : List Int) ++ y24.Kids) r25 rfl rfl rfl rfl rfl rfl rfl rfl rfl rfl rfl rfl rfl rfl (cInt_i64_one _) rfl rfl rfl rfl rfl ?_; refine po_nil ?_; exact pn_end ⟨rfl, trivial⟩ ⟨rfl, trivial⟩ rfl) fun _ h0 => ?_
                      refine pdv_step0 [232] [32] [] [105] [] [(16, .own 105)] [] rfl rfl rfl rfl (by kernel_rfl) (by kernel_rfl) (by kernel_rfl) trivial (fun w0 X X0 σ0 => by refine po_evs (T := tab) 1 rfl rfl ?_; refine po_nil ?_; exact pn_end0 ⟨rfl, trivial⟩ trivial rfl) ?_
                      refine pdv_nil rfl rfl ?_
                      refine pn_seq ?_
                      refine pw_seq ?_
                      refine pw_region ?_
                      refine po_evs (T := tab) 2 rfl rfl ?_
                      refine po_nil ?_
                      refine pn_seq ?_
                      refine pw_seq ?_
                      refine pw_seq ?_
                      refine pw_region ?_
                      refine po_evs (T := tab) 1 rfl rfl ?_
                      refine po_nil ?_
                      refine pn_seq ?_
                      refine pw_block ?_
                      refine pw_loop' (Instarlaw05_ValidPut_l1 f1 m12 y24 r25) (fun ((texts26, elems27, i28) : Int × Int × Int) => [(5, .loc 5 0), (12, .v (.int .i64 m12)), (16, .own 105), (17, .v (.int .i64 texts26)), (18, .v (.int .i64 elems27)), (19, .v (.int .i64 i28))]) (fun ((texts26, elems27, i28) : Int × Int × Int) => [(105, .arr 3 1 (((([] : List Int) ++ y24.Kids) ++ r25).map cInt_i64)), (5, .box [.sl 10 false (f1.Nodes.map cNode), .v (.int .i64 f1.Most)])]) fu (0, 0, 0) (fun _ => rfl) ⟨rfl, rfl, rfl, rfl, rfl, rfl, trivial⟩ ⟨rfl, rfl, trivial⟩ rfl ?_
                      rintro k1 ⟨texts26, elems27, i28⟩
                      refine pw_seq ?_
                      refine pw_seq ?_
                      refine pw_region ?_
                      refine po_evs (T := tab) 2 rfl rfl ?_
                      refine po_len_own (T := tab) cInt_i64 ((([] : List Int) ++ y24.Kids) ++ r25) rfl rfl rfl rfl rfl rfl rfl rfl rfl ?_
                      refine po_evs (T := tab) 1 rfl rfl ?_
                      refine po_nil ?_
                      refine pn_seq ?_
                      refine pw_cnd rfl ?_ ?_
                      · refine pw_skip ?_
                        refine pn_seq ?_
                        refine pw_seq ?_
                        refine pw_block ?_
                        refine pw_seq ?_
                        refine pw_seq ?_
                        refine pw_sub' (E' := [(5, .loc 5 0), (12, .v (.int .i64 m12)), (16, .own 105), (17, .v (.int .i64 texts26)), (18, .v (.int .i64 elems27)), (19, .v (.int .i64 i28))]) (S' := [(105, .arr 3 1 (((([] : List Int) ++ y24.Kids) ++ r25).map cInt_i64)), (5, .box [.sl 10 false (f1.Nodes.map cNode), .v (.int .i64 f1.Most)])]) ?_ ⟨rfl, rfl, rfl, rfl, rfl, rfl, trivial⟩ ⟨rfl, rfl, trivial⟩ rfl
                        refine pw_drawV [0, 1, 0, 0, 12, 28, 63, 127, 255, 511] mixed (by kernel_rfl) (by kernel_rfl) rfl rfl ?_
                        refine pdv_step0 [10] [246] [] [5] [] [(123, .loc 5 0)] [] rfl rfl rfl rfl (by kernel_rfl) (by kernel_rfl) (by kernel_rfl) trivial (fun w0 X X0 σ0 => by refine po_evs (T := tab) 1 rfl rfl ?_; refine po_nil ?_; exact pn_end0 ⟨rfl, trivial⟩ trivial rfl) ?_
                        refine pdv_step0 [11, 246] [248] [] [5] [5] [(124, .sl 10 false (f1.Nodes.map cNode))] [(5, .box [.sl 10 false (f1.Nodes.map cNode), .v (.int .i64 f1.Most)])] rfl rfl rfl rfl (by kernel_rfl) (by kernel_rfl) (by kernel_rfl) ⟨rfl, trivial⟩ (fun w0 X X0 σ0 => by refine po_evs (T := tab) 1 rfl rfl ?_; refine po_nil ?_; exact pn_end0 ⟨rfl, trivial⟩ ⟨rfl, trivial⟩ rfl) ?_
                        refine pdv_step0 [32] [250] [] [105] [] [(125, .own 105)] [] rfl rfl rfl rfl (by kernel_rfl) (by kernel_rfl) (by kernel_rfl) trivial (fun w0 X X0 σ0 => by refine po_evs (T := tab) 1 rfl rfl ?_; refine po_nil ?_; exact pn_end0 ⟨rfl, trivial⟩ trivial rfl) ?_
                        refine pdv_step0 [38] [252] [] [] [] [(126, .v (.int .i64 i28))] [] rfl rfl rfl rfl (by kernel_rfl) (by kernel_rfl) (by kernel_rfl) trivial (fun w0 X X0 σ0 => by refine po_evs (T := tab) 1 rfl rfl ?_; refine po_nil ?_; exact pn_end0 ⟨rfl, trivial⟩ trivial rfl) ?_
                        refine pdv_step (M := (idx ((([] : List Int) ++ y24.Kids) ++ r25) i28)) (ment := [(254, [105])]) [211, 250, 252] [254] [] [105] [105] (fun y29 => [(127, .ela 105 1 (i28).toNat 0)]) (fun y29 => [(105, .arr 3 1 (((([] : List Int) ++ y24.Kids) ++ r25).map cInt_i64))]) rfl rfl (fun _ => rfl) (fun _ => rfl) (by kernel_rfl) (by kernel_rfl) (fun _ => by kernel_rfl) (fun _ => ⟨rfl, trivial⟩) (fun w0 X X0 σ0 => by refine po_idx_own (T := tab) cInt_i64 ((([] : List Int) ++ y24.Kids) ++ r25) rfl rfl rfl rfl rfl rfl rfl rfl fun y29 hy29 => ?_; refine po_nil ?_; exact pn_end ⟨rfl, trivial⟩ ⟨rfl, trivial⟩ rfl) fun y29 hy29 => ?_
                        refine pdv_step0 [211, 254] [256] [] [105] [105] [(128, .v (.int .i64 y29))] [(105, .arr 3 1 (((([] : List Int) ++ y24.Kids) ++ r25).map cInt_i64))] rfl rfl rfl rfl (by kernel_rfl) (by kernel_rfl) (by kernel_rfl) ⟨rfl, trivial⟩ (fun w0 X X0 σ0 => by refine po_load_ela (T := tab) cInt_i64 ((([] : List Int) ++ y24.Kids) ++ r25) y29 (idx_at hy29) rfl rfl rfl rfl rfl rfl rfl rfl ?_; refine po_nil ?_; exact pn_end0 ⟨rfl, trivial⟩ ⟨rfl, trivial⟩ rfl) ?_
                        refine pdv_step (M := (idx f1.Nodes y29)) (ment := [(258, [])]) [248, 256] [258] [] [] [] (fun y30 => [(129, .el (cNode y30) 0)]) (fun y30 => []) rfl rfl (fun _ => rfl) (fun _ => rfl) (by kernel_rfl) (by kernel_rfl) (fun _ => by kernel_rfl) (fun _ => trivial) (fun w0 X X0 σ0 => by refine po_idx (T := tab) cNode f1.Nodes rfl rfl rfl rfl rfl rfl rfl fun y30 hy30 => ?_; refine po_nil ?_; exact pn_end ⟨rfl, trivial⟩ trivial rfl) fun y30 hy30 => ?_
                        refine pdv_step0 [258] [260] [] [] [] [(130, .el (cNode y30) 0)] [] rfl rfl rfl rfl (by kernel_rfl) (by kernel_rfl) (by kernel_rfl) trivial (fun w0 X X0 σ0 => by refine po_evs (T := tab) 1 rfl rfl ?_; refine po_nil ?_; exact pn_end0 ⟨rfl, trivial⟩ trivial rfl) ?_
                        refine pdv_step0 [260] [262] [] [] [] [(131, .v (.int .i64 y30.Kind))] [] rfl rfl rfl rfl (by kernel_rfl) (by kernel_rfl) (by kernel_rfl) trivial (fun w0 X X0 σ0 => by refine po_evs (T := tab) 1 rfl rfl ?_; refine po_nil ?_; exact pn_end0 ⟨rfl, trivial⟩ trivial rfl) ?_
                        refine pdv_step0 [262] [264] [] [] [] [(132, .v (.bool (y30.Kind == 2)))] [] rfl rfl rfl rfl (by kernel_rfl) (by kernel_rfl) (by kernel_rfl) trivial (fun w0 X X0 σ0 => by refine po_evs (T := tab) 1 rfl rfl ?_; refine po_nil ?_; exact pn_end0 ⟨rfl, trivial⟩ trivial rfl) ?_
                        refine pdv_nil rfl rfl ?_
                        refine pn_seq ?_
                        refine pw_cnd rfl ?_ ?_
                        · refine pw_region ?_
                          refine po_evs (T := tab) 1 rfl rfl ?_
                          refine po_arith' (T := tab) rfl rfl rfl rfl fun i31 hi31 => ?_
                          refine po_evs (T := tab) 1 rfl rfl ?_
                          refine po_nil ?_
                          refine pn_seq ?_
                          refine pw_seq ?_
                          refine pw_sub' (E' := [(5, .loc 5 0), (12, .v (.int .i64 m12)), (16, .own 105), (17, .v (.int .i64 i31)), (18, .v (.int .i64 elems27)), (19, .v (.int .i64 i28))]) (S' := [(105, .arr 3 1 (((([] : List Int) ++ y24.Kids) ++ r25).map cInt_i64)), (5, .box [.sl 10 false (f1.Nodes.map cNode), .v (.int .i64 f1.Most)])]) ?_ ⟨rfl, rfl, rfl, rfl, rfl, rfl, trivial⟩ ⟨rfl, rfl, trivial⟩ rfl
                          refine pw_drawV [0, 1, 0, 0, 12, 28, 63, 127, 255, 511] mixed (by kernel_rfl) (by kernel_rfl) rfl rfl ?_
                          refine pdv_step0 [10] [270] [] [5] [] [(135, .loc 5 0)] [] rfl rfl rfl rfl (by kernel_rfl) (by kernel_rfl) (by kernel_rfl) trivial (fun w0 X X0 σ0 => by refine po_evs (T := tab) 1 rfl rfl ?_; refine po_nil ?_; exact pn_end0 ⟨rfl, trivial⟩ trivial rfl) ?_
                          refine pdv_step0 [11, 270] [272] [] [5] [5] [(136, .sl 10 false (f1.Nodes.map cNode))] [(5, .box [.sl 10 false (f1.Nodes.map cNode), .v (.int .i64 f1.Most)])] rfl rfl rfl rfl (by kernel_rfl) (by kernel_rfl) (by kernel_rfl) ⟨rfl, trivial⟩ (fun w0 X X0 σ0 => by refine po_evs (T := tab) 1 rfl rfl ?_; refine po_nil ?_; exact pn_end0 ⟨rfl, trivial⟩ ⟨rfl, trivial⟩ rfl) ?_
                          refine pdv_step0 [32] [274] [] [105] [] [(137, .own 105)] [] rfl rfl rfl rfl (by kernel_rfl) (by kernel_rfl) (by kernel_rfl) trivial (fun w0 X X0 σ0 => by refine po_evs (T := tab) 1 rfl rfl ?_; refine po_nil ?_; exact pn_end0 ⟨rfl, trivial⟩ trivial rfl) ?_
                          refine pdv_step0 [38] [276] [] [] [] [(138, .v (.int .i64 i28))] [] rfl rfl rfl rfl (by kernel_rfl) (by kernel_rfl) (by kernel_rfl) trivial (fun w0 X X0 σ0 => by refine po_evs (T := tab) 1 rfl rfl ?_; refine po_nil ?_; exact pn_end0 ⟨rfl, trivial⟩ trivial rfl) ?_
                          refine pdv_step (M := (idx ((([] : List Int) ++ y24.Kids) ++ r25) i28)) (ment := [(278, [105])]) [211, 274, 276] [278] [] [105] [105] (fun y32 => [(139, .ela 105 1 (i28).toNat 0)]) (fun y32 => [(105, .arr 3 1 (((([] : List Int) ++ y24.Kids) ++ r25).map cInt_i64))]) rfl rfl (fun _ => rfl) (fun _ => rfl) (by kernel_rfl) (by kernel_rfl) (fun _ => by kernel_rfl) (fun _ => ⟨rfl, trivial⟩) (fun w0 X X0 σ0 => by refine po_idx_own (T := tab) cInt_i64 ((([] : List Int) ++ y24.Kids) ++ r25) rfl rfl rfl rfl rfl rfl rfl rfl fun y32 hy32 => ?_; refine po_nil ?_; exact pn_end ⟨rfl, trivial⟩ ⟨rfl, trivial⟩ rfl) fun y32 hy32 => ?_
                          refine pdv_step0 [211, 278] [280] [] [105] [105] [(140, .v (.int .i64 y32))] [(105, .arr 3 1 (((([] : List Int) ++ y24.Kids) ++ r25).map cInt_i64))] rfl rfl rfl rfl (by kernel_rfl) (by kernel_rfl) (by kernel_rfl) ⟨rfl, trivial⟩ (fun w0 X X0 σ0 => by refine po_load_ela (T := tab) cInt_i64 ((([] : List Int) ++ y24.Kids) ++ r25) y32 (idx_at hy32) rfl rfl rfl rfl rfl rfl rfl rfl ?_; refine po_nil ?_; exact pn_end0 ⟨rfl, trivial⟩ ⟨rfl, trivial⟩ rfl) ?_
                          refine pdv_step (M := (idx f1.Nodes y32)) (ment := [(282, [])]) [272, 280] [282] [] [] [] (fun y33 => [(141, .el (cNode y33) 0)]) (fun y33 => []) rfl rfl (fun _ => rfl) (fun _ => rfl) (by kernel_rfl) (by kernel_rfl) (fun _ => by kernel_rfl) (fun _ => trivial) (fun w0 X X0 σ0 => by refine po_idx (T := tab) cNode f1.Nodes rfl rfl rfl rfl rfl rfl rfl fun y33 hy33 => ?_; refine po_nil ?_; exact pn_end ⟨rfl, trivial⟩ trivial rfl) fun y33 hy33 => ?_
                          refine pdv_step0 [282] [284] [] [] [] [(142, .el (cNode y33) 0)] [] rfl rfl rfl rfl (by kernel_rfl) (by kernel_rfl) (by kernel_rfl) trivial (fun w0 X X0 σ0 => by refine po_evs (T := tab) 1 rfl rfl ?_; refine po_nil ?_; exact pn_end0 ⟨rfl, trivial⟩ trivial rfl) ?_
                          refine pdv_step0 [284] [286] [] [] [] [(143, .v (.int .i64 y33.Kind))] [] rfl rfl rfl rfl (by kernel_rfl) (by kernel_rfl) (by kernel_rfl) trivial (fun w0 X X0 σ0 => by refine po_evs (T := tab) 1 rfl rfl ?_; refine po_nil ?_; exact pn_end0 ⟨rfl, trivial⟩ trivial rfl) ?_
                          refine pdv_step0 [286] [288] [] [] [] [(144, .v (.bool (y33.Kind == 1)))] [] rfl rfl rfl rfl (by kernel_rfl) (by kernel_rfl) (by kernel_rfl) trivial (fun w0 X X0 σ0 => by refine po_evs (T := tab) 1 rfl rfl ?_; refine po_nil ?_; exact pn_end0 ⟨rfl, trivial⟩ trivial rfl) ?_
                          refine pdv_nil rfl rfl ?_
                          refine pn_seq ?_
                          refine pw_cnd rfl ?_ ?_
                          · refine pw_region ?_
                            refine po_evs (T := tab) 1 rfl rfl ?_
                            refine po_arith' (T := tab) rfl rfl rfl rfl fun i34 hi34 => ?_
                            refine po_evs (T := tab) 1 rfl rfl ?_
                            refine po_nil ?_
                            refine pn_block ?_
                            refine pn_seq ?_
                            refine pw_region ?_
                            refine po_evs (T := tab) 1 rfl rfl ?_
                            refine po_arith' (T := tab) rfl rfl rfl rfl fun i38 hi38 => ?_
                            refine po_evs (T := tab) 1 rfl rfl ?_
                            refine po_nil ?_
                            exact pn_iter' (i31, i34, i38) ⟨rfl, rfl, rfl, rfl, rfl, rfl, trivial⟩ ⟨rfl, rfl, trivial⟩ rfl
                          · refine pw_skip ?_
                            refine pn_block ?_
                            refine pn_seq ?_
                            refine pw_region ?_
                            refine po_evs (T := tab) 1 rfl rfl ?_
                            refine po_arith' (T := tab) rfl rfl rfl rfl fun i39 hi39 => ?_
                            refine po_evs (T := tab) 1 rfl rfl ?_
                            refine po_nil ?_
                            exact pn_iter' (i31, elems27, i39) ⟨rfl, rfl, rfl, rfl, rfl, rfl, trivial⟩ ⟨rfl, rfl, trivial⟩ rfl
                        · refine pw_skip ?_
                          refine pn_seq ?_
                          refine pw_seq ?_
                          refine pw_sub' (E' := [(5, .loc 5 0), (12, .v (.int .i64 m12)), (16, .own 105), (17, .v (.int .i64 texts26)), (18, .v (.int .i64 elems27)), (19, .v (.int .i64 i28))]) (S' := [(105, .arr 3 1 (((([] : List Int) ++ y24.Kids) ++ r25).map cInt_i64)), (5, .box [.sl 10 false (f1.Nodes.map cNode), .v (.int .i64 f1.Most)])]) ?_ ⟨rfl, rfl, rfl, rfl, rfl, rfl, trivial⟩ ⟨rfl, rfl, trivial⟩ rfl
                          refine pw_drawV [0, 1, 0, 0, 12, 28, 63, 127, 255, 511] mixed (by kernel_rfl) (by kernel_rfl) rfl rfl ?_
                          refine pdv_step0 [10] [270] [] [5] [] [(135, .loc 5 0)] [] rfl rfl rfl rfl (by kernel_rfl) (by kernel_rfl) (by kernel_rfl) trivial (fun w0 X X0 σ0 => by refine po_evs (T := tab) 1 rfl rfl ?_; refine po_nil ?_; exact pn_end0 ⟨rfl, trivial⟩ trivial rfl) ?_
                          refine pdv_step0 [11, 270] [272] [] [5] [5] [(136, .sl 10 false (f1.Nodes.map cNode))] [(5, .box [.sl 10 false (f1.Nodes.map cNode), .v (.int .i64 f1.Most)])] rfl rfl rfl rfl (by kernel_rfl) (by kernel_rfl) (by kernel_rfl) ⟨rfl, trivial⟩ (fun w0 X X0 σ0 => by refine po_evs (T := tab) 1 rfl rfl ?_; refine po_nil ?_; exact pn_end0 ⟨rfl, trivial⟩ ⟨rfl, trivial⟩ rfl) ?_
                          refine pdv_step0 [32] [274] [] [105] [] [(137, .own 105)] [] rfl rfl rfl rfl (by kernel_rfl) (by kernel_rfl) (by kernel_rfl) trivial (fun w0 X X0 σ0 => by refine po_evs (T := tab) 1 rfl rfl ?_; refine po_nil ?_; exact pn_end0 ⟨rfl, trivial⟩ trivial rfl) ?_
                          refine pdv_step0 [38] [276] [] [] [] [(138, .v (.int .i64 i28))] [] rfl rfl rfl rfl (by kernel_rfl) (by kernel_rfl) (by kernel_rfl) trivial (fun w0 X X0 σ0 => by refine po_evs (T := tab) 1 rfl rfl ?_; refine po_nil ?_; exact pn_end0 ⟨rfl, trivial⟩ trivial rfl) ?_
                          refine pdv_step (M := (idx ((([] : List Int) ++ y24.Kids) ++ r25) i28)) (ment := [(278, [105])]) [211, 274, 276] [278] [] [105] [105] (fun y35 => [(139, .ela 105 1 (i28).toNat 0)]) (fun y35 => [(105, .arr 3 1 (((([] : List Int) ++ y24.Kids) ++ r25).map cInt_i64))]) rfl rfl (fun _ => rfl) (fun _ => rfl) (by kernel_rfl) (by kernel_rfl) (fun _ => by kernel_rfl) (fun _ => ⟨rfl, trivial⟩) (fun w0 X X0 σ0 => by refine po_idx_own (T := tab) cInt_i64 ((([] : List Int) ++ y24.Kids) ++ r25) rfl rfl rfl rfl rfl rfl rfl rfl fun y35 hy35 => ?_; refine po_nil ?_; exact pn_end ⟨rfl, trivial⟩ ⟨rfl, trivial⟩ rfl) fun y35 hy35 => ?_
                          refine pdv_step0 [211, 278] [280] [] [105] [105] [(140, .v (.int .i64 y35))] [(105, .arr 3 1 (((([] : List Int) ++ y24.Kids) ++ r25).map cInt_i64))] rfl rfl rfl rfl (by kernel_rfl) (by kernel_rfl) (by kernel_rfl) ⟨rfl, trivial⟩ (fun w0 X X0 σ0 => by refine po_load_ela (T := tab) cInt_i64 ((([] : List Int) ++ y24.Kids) ++ r25) y35 (idx_at hy35) rfl rfl rfl rfl rfl rfl rfl rfl ?_; refine po_nil ?_; exact pn_end0 ⟨rfl, trivial⟩ ⟨rfl, trivial⟩ rfl) ?_
                          refine pdv_step (M := (idx f1.Nodes y35)) (ment := [(282, [])]) [272, 280] [282] [] [] [] (fun y36 => [(141, .el (cNode y36) 0)]) (fun y36 => []) rfl rfl (fun _ => rfl) (fun _ => rfl) (by kernel_rfl) (by kernel_rfl) (fun _ => by kernel_rfl) (fun _ => trivial) (fun w0 X X0 σ0 => by refine po_idx (T := tab) cNode f1.Nodes rfl rfl rfl rfl rfl rfl rfl fun y36 hy36 => ?_; refine po_nil ?_; exact pn_end ⟨rfl, trivial⟩ trivial rfl) fun y36 hy36 => ?_
                          refine pdv_step0 [282] [284] [] [] [] [(142, .el (cNode y36) 0)] [] rfl rfl rfl rfl (by kernel_rfl) (by kernel_rfl) (by kernel_rfl) trivial (fun w0 X X0 σ0 => by refine po_evs (T := tab) 1 rfl rfl ?_; refine po_nil ?_; exact pn_end0 ⟨rfl, trivial⟩ trivial rfl) ?_
                          refine pdv_step0 [284] [286] [] [] [] [(143, .v (.int .i64 y36.Kind))] [] rfl rfl rfl rfl (by kernel_rfl) (by kernel_rfl) (by kernel_rfl) trivial (fun w0 X X0 σ0 => by refine po_evs (T := tab) 1 rfl rfl ?_; refine po_nil ?_; exact pn_end0 ⟨rfl, trivial⟩ trivial rfl) ?_
                          refine pdv_step0 [286] [288] [] [] [] [(144, .v (.bool (y36.Kind == 1)))] [] rfl rfl rfl rfl (by kernel_rfl) (by kernel_rfl) (by kernel_rfl) trivial (fun w0 X X0 σ0 => by refine po_evs (T := tab) 1 rfl rfl ?_; refine po_nil ?_; exact pn_end0 ⟨rfl, trivial⟩ trivial rfl) ?_
                          refine pdv_nil rfl rfl ?_
                          refine pn_seq ?_
                          refine pw_cnd rfl ?_ ?_
                          · refine pw_region ?_
                            refine po_evs (T := tab) 1 rfl rfl ?_
                            refine po_arith' (T := tab) rfl rfl rfl rfl fun i37 hi37 => ?_
                            refine po_evs (T := tab) 1 rfl rfl ?_
                            refine po_nil ?_
                            refine pn_block ?_
                            refine pn_seq ?_
                            refine pw_region ?_
                            refine po_evs (T := tab) 1 rfl rfl ?_
                            refine po_arith' (T := tab) rfl rfl rfl rfl fun i40 hi40 => ?_
                            refine po_evs (T := tab) 1 rfl rfl ?_
                            refine po_nil ?_
                            exact pn_iter' (texts26, i37, i40) ⟨rfl, rfl, rfl, rfl, rfl, rfl, trivial⟩ ⟨rfl, rfl, trivial⟩ rfl
                          · refine pw_skip ?_
                            refine pn_block ?_
                            refine pn_seq ?_
                            refine pw_region ?_
                            refine po_evs (T := tab) 1 rfl rfl ?_
                            refine po_arith' (T := tab) rfl rfl rfl rfl fun i41 hi41 => ?_
                            refine po_evs (T := tab) 1 rfl rfl ?_
                            refine po_nil ?_
                            exact pn_iter' (texts26, elems27, i41) ⟨rfl, rfl, rfl, rfl, rfl, rfl, trivial⟩ ⟨rfl, rfl, trivial⟩ rfl
                      · refine pw_exit rfl ?_
                        refine pn_seq ?_
                        refine pw_seq ?_
                        refine pw_region ?_
                        refine po_evs (T := tab) 3 rfl rfl ?_
                        refine po_idx (T := tab) cNode f1.Nodes rfl rfl rfl rfl rfl rfl rfl fun y42 hy42 => ?_
                        refine po_evs (T := tab) 4 rfl rfl ?_
                        refine po_split (j := 154) rfl ?_ ?_
                        · refine po_evs (T := tab) 3 rfl rfl ?_
                          refine po_split (j := 157) rfl ?_ ?_
                          · refine po_evs (T := tab) 5 rfl rfl ?_
                            refine po_nil ?_
                            refine pn_seq ?_
                            exact pw_retN (T := tab) rfl rfl rfl ⟨rfl, rfl⟩ trivial rfl
                          · refine po_evs (T := tab) 5 rfl rfl ?_
                            refine po_nil ?_
                            refine pn_seq ?_
                            exact pw_retN (T := tab) rfl rfl rfl ⟨rfl, rfl⟩ trivial rfl
                        · refine po_evs (T := tab) 8 rfl rfl ?_
                          refine po_nil ?_
                          refine pn_seq ?_
                          exact pw_retN (T := tab) rfl rfl rfl ⟨rfl, rfl⟩ trivial rfl
            · refine pw_seq ?_
              refine pw_region ?_
              refine po_evs (T := tab) 1 rfl rfl ?_
              refine po_nil ?_
              refine pn_seq ?_
              exact pw_retN (T := tab) rfl rfl rfl ⟨rfl, rfl⟩ trivial rfl
        · refine po_evs (T := tab) 1 rfl rfl ?_
          refine po_len (T := tab) cInt_i64 y13.Kids rfl rfl rfl rfl rfl rfl rfl rfl ?_
          refine po_evs (T := tab) 2 rfl rfl ?_
          refine po_split (j := 51) rfl ?_ ?_
          · refine po_evs (T := tab) 3 rfl rfl ?_
            refine po_nil ?_
            refine pn_seq ?_
            refine pw_cnd rfl ?_ ?_
            · refine pw_region ?_
              refine po_evs (T := tab) 2 rfl rfl ?_
              refine po_arith' (T := tab) rfl rfl rfl rfl fun i14 hi14 => ?_
              refine po_evs (T := tab) 1 rfl rfl ?_
              refine po_len (T := tab) cInt_i64 y13.Kids rfl rfl rfl rfl rfl rfl rfl rfl ?_
              refine po_rem rfl rfl rfl rfl rfl rfl fun m15 hm15 => ?_
              refine po_idx (T := tab) cInt_i64 y13.Kids rfl rfl rfl rfl rfl rfl rfl fun y16 hy16 => ?_
              refine po_evs (T := tab) 2 rfl rfl ?_
              refine po_nil ?_
              exact pn_sub' (hj1 y16) ⟨rfl, rfl, rfl, rfl, trivial⟩ ⟨rfl, trivial⟩ rfl
            · refine pw_skip ?_
              exact pn_sub' (hj1 (-1)) ⟨rfl, rfl, rfl, rfl, trivial⟩ ⟨rfl, trivial⟩ rfl
          · refine po_evs (T := tab) 3 rfl rfl ?_
            refine po_nil ?_
            refine pn_seq (pw_else rfl ?_)
            refine pw_skip ?_
            exact pn_sub' (hj1 (-1)) ⟨rfl, rfl, rfl, rfl, trivial⟩ ⟨rfl, trivial⟩ rfl

end Go.Proofs.Ytcaepigodglihaa
