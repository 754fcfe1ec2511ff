/- Models and proofs, printed by emit2.py. -/
import Derived.Test.YtkngnghbnhgfjaaGreatData
namespace Go.Proofs.YtkngnghbnhgfjaaGreat
open Go Go.Pw
set_option linter.unusedVariables false

def Forest_bare_m (_fu : Nat) (kind1 : Int) (doc2 : Int) : Option Node := some (⟨kind1, [], [], [], [], (-1), [], (-1), (-1), doc2⟩ : Node)

set_option maxRecDepth 100000 in
theorem Forest_bare_ok (fu : Nat) (kind1 : Int) (doc2 : Int) : ∀ r, Forest_bare_m fu kind1 doc2 = some r → DC laidL Tryz.prog 55 [.v (.int .i64 kind1), .v (.int .i64 doc2)] (.agg (cNode r)) := by
  intro r hr
  refine fc_intro (args := [.v (.int .i64 kind1), .v (.int .i64 doc2)]) (S := []) (N0 := []) (post := fun r p S => p = .agg (cNode r) ∧ S = []) Tryz.func55 rfl rfl hr fun w0 X X0 σ0 _ => ?_
  refine pw_seq ?_
  refine pw_region ?_
  refine po_alloc (T := tab) 4 rfl rfl rfl rfl rfl rfl rfl rfl rfl ?_
  refine po_nil ?_
  refine pn_seq ?_
  refine pw_seq ?_
  refine pw_region ?_
  refine po_evs (T := tab) 2 rfl rfl ?_
  refine po_build (T := tab) rfl rfl rfl rfl rfl rfl rfl ?_
  refine po_store (T := tab) rfl rfl rfl rfl rfl rfl rfl rfl rfl rfl rfl rfl ?_
  refine po_nil ?_
  refine pn_seq ?_
  refine pw_coeS 4 [.v (.int .i64 kind1), .v (.string ⟨⟨[]⟩⟩), .v (.string ⟨⟨[]⟩⟩), .v (.string ⟨⟨[]⟩⟩), .sl 2 false ([].map cAttr), .v (.int .i64 (-1)), .sl 1 false ([].map cInt_i64), .v (.int .i64 (-1)), .v (.int .i64 (-1)), .v (.int .i64 doc2)] rfl ⟨.rfl, .rfl, .rfl, .rfl, .nil, .rfl, .nil, .rfl, .rfl, .rfl, trivial⟩ rfl ?_
  exact pw_retN (T := tab) rfl rfl rfl ⟨rfl, rfl⟩ trivial rfl

def Name_small_m (_fu : Nat) (c1 : Int) : Option Bool := cnd (decide (c1 ≥ 97)) (some (decide (c1 ≤ 122))) (some false)

set_option maxRecDepth 100000 in
theorem Name_small_ok (fu : Nat) (c1 : Int) : ∀ r, Name_small_m fu c1 = some r → DC laidL Tryz.prog 80 [.v (.int .i32 c1)] (.v (.bool r)) := by
  intro r hr
  refine fc_intro (args := [.v (.int .i32 c1)]) (S := []) (N0 := []) (post := fun r p S => p = .v (.bool r) ∧ S = []) Tryz.func80 rfl rfl hr fun w0 X X0 σ0 _ => ?_
  refine pw_seq ?_
  refine pw_region ?_
  refine po_evs (T := tab) 1 rfl rfl ?_
  refine po_nil ?_
  refine pn_seq ?_
  refine pw_seq ?_
  refine pw_region ?_
  refine po_evs (T := tab) 3 rfl rfl ?_
  refine po_split (j := 5) rfl ?_ ?_
  · refine po_evs (T := tab) 4 rfl rfl ?_
    refine po_nil ?_
    refine pn_seq ?_
    exact pw_retN (T := tab) rfl rfl rfl ⟨rfl, rfl⟩ trivial rfl
  · refine po_evs (T := tab) 4 rfl rfl ?_
    refine po_nil ?_
    refine pn_seq ?_
    exact pw_retN (T := tab) rfl rfl rfl ⟨rfl, rfl⟩ trivial rfl

def Name_capital_m (_fu : Nat) (c1 : Int) : Option Bool := cnd (decide (c1 ≥ 65)) (some (decide (c1 ≤ 90))) (some false)

set_option maxRecDepth 100000 in
theorem Name_capital_ok (fu : Nat) (c1 : Int) : ∀ r, Name_capital_m fu c1 = some r → DC laidL Tryz.prog 82 [.v (.int .i32 c1)] (.v (.bool r)) := by
  intro r hr
  refine fc_intro (args := [.v (.int .i32 c1)]) (S := []) (N0 := []) (post := fun r p S => p = .v (.bool r) ∧ S = []) Tryz.func82 rfl rfl hr fun w0 X X0 σ0 _ => ?_
  refine pw_seq ?_
  refine pw_region ?_
  refine po_evs (T := tab) 1 rfl rfl ?_
  refine po_nil ?_
  refine pn_seq ?_
  refine pw_seq ?_
  refine pw_region ?_
  refine po_evs (T := tab) 3 rfl rfl ?_
  refine po_split (j := 5) rfl ?_ ?_
  · refine po_evs (T := tab) 4 rfl rfl ?_
    refine po_nil ?_
    refine pn_seq ?_
    exact pw_retN (T := tab) rfl rfl rfl ⟨rfl, rfl⟩ trivial rfl
  · refine po_evs (T := tab) 4 rfl rfl ?_
    refine po_nil ?_
    refine pn_seq ?_
    exact pw_retN (T := tab) rfl rfl rfl ⟨rfl, rfl⟩ trivial rfl

def Name_sign_j1 (c1 : Int) (x_ : Unit) : Option Bool := cnd (c1 == 45) (some true) (cnd (c1 == 95) (some true) (some (c1 == 46)))

def Name_sign_m (fu : Nat) (c1 : Int) : Option Bool := bnd (Name_small_m fu c1) fun r2 => cnd r2 (cnd r2 (some true) ((Name_sign_j1 c1) ())) (bnd (Name_capital_m fu c1) fun r3 => cnd r3 (cnd r3 (some true) ((Name_sign_j1 c1) ())) (cnd (decide (c1 ≥ 48)) (cnd (decide (c1 ≤ 57)) (some true) ((Name_sign_j1 c1) ())) ((Name_sign_j1 c1) ())))

set_option maxHeartbeats 10000000 in
set_option maxRecDepth 100000 in
theorem Name_sign_ok (fu : Nat) (c1 : Int) : ∀ r, Name_sign_m fu c1 = some r → DC laidL Tryz.prog 100 [.v (.int .i32 c1)] (.v (.bool r)) := by
  intro r hr
  refine fc_intro (args := [.v (.int .i32 c1)]) (S := []) (N0 := []) (post := fun r p S => p = .v (.bool r) ∧ S = []) Tryz.func100 rfl rfl hr fun w0 X X0 σ0 _ => ?_
  refine pw_seq ?_
  refine pw_region ?_
  refine po_evs (T := tab) 1 rfl rfl ?_
  refine po_nil ?_
  refine pn_seq ?_
  refine pw_seq ?_
  refine pw_joinK (Name_sign_j1 c1) (fun (_ : Unit) => [(0, .v (.int .i32 c1))]) (fun (_ : Unit) => []) ?_ fun hj1 => ?_
  · rintro _
    refine pn_seq ?_
    refine pw_seq ?_
    refine pw_region ?_
    refine po_evs (T := tab) 3 rfl rfl ?_
    refine po_split (j := 16) rfl ?_ ?_
    · refine po_evs (T := tab) 8 rfl rfl ?_
      refine po_nil ?_
      refine pn_seq ?_
      exact pw_retN (T := tab) rfl rfl rfl ⟨rfl, rfl⟩ trivial rfl
    · refine po_evs (T := tab) 4 rfl rfl ?_
      refine po_split (j := 20) rfl ?_ ?_
      · refine po_evs (T := tab) 4 rfl rfl ?_
        refine po_nil ?_
        refine pn_seq ?_
        exact pw_retN (T := tab) rfl rfl rfl ⟨rfl, rfl⟩ trivial rfl
      · refine po_evs (T := tab) 4 rfl rfl ?_
        refine po_nil ?_
        refine pn_seq ?_
        exact pw_retN (T := tab) rfl rfl rfl ⟨rfl, rfl⟩ trivial rfl
  · refine pw_block ?_
    refine pw_seq ?_
    refine pw_seq ?_
    refine pw_region ?_
    refine po_evs (T := tab) 1 rfl rfl ?_
    refine po_call (enc := fun (r2 : Bool) => .v (.bool r2)) (qs := [.v (.int .i32 c1)]) (Name_small_ok fu c1) rfl rfl ⟨⟨_, rfl, .rfl⟩, trivial⟩ (fun _ => rfl) call80 rfl rfl fun r2 hr2 => ?_
    refine po_evs (T := tab) 1 rfl rfl ?_
    refine po_nil ?_
    refine pn_seq ?_
    refine pw_cnd rfl ?_ ?_
    · refine pw_skip ?_
      refine pn_seq ?_
      refine pw_cnd rfl ?_ ?_
      · refine pw_seq ?_
        refine pw_region ?_
        refine po_evs (T := tab) 1 rfl rfl ?_
        refine po_nil ?_
        refine pn_seq ?_
        exact pw_retN (T := tab) rfl rfl rfl ⟨rfl, rfl⟩ trivial rfl
      · refine pw_skip ?_
        refine pn_block ?_
        exact pn_sub' (hj1 ()) ⟨rfl, trivial⟩ trivial rfl
    · refine pw_seq ?_
      refine pw_region ?_
      refine po_evs (T := tab) 1 rfl rfl ?_
      refine po_call (enc := fun (r3 : Bool) => .v (.bool r3)) (qs := [.v (.int .i32 c1)]) (Name_capital_ok fu c1) rfl rfl ⟨⟨_, rfl, .rfl⟩, trivial⟩ (fun _ => rfl) call82 rfl rfl fun r3 hr3 => ?_
      refine po_evs (T := tab) 1 rfl rfl ?_
      refine po_nil ?_
      refine pn_seq ?_
      refine pw_cnd rfl ?_ ?_
      · refine pw_skip ?_
        refine pn_seq ?_
        refine pw_cnd rfl ?_ ?_
        · refine pw_seq ?_
          refine pw_region ?_
          refine po_evs (T := tab) 1 rfl rfl ?_
          refine po_nil ?_
          refine pn_seq ?_
          exact pw_retN (T := tab) rfl rfl rfl ⟨rfl, rfl⟩ trivial rfl
        · refine pw_skip ?_
          refine pn_block ?_
          exact pn_sub' (hj1 ()) ⟨rfl, trivial⟩ trivial rfl
      · refine pw_region ?_
        refine po_evs (T := tab) 3 rfl rfl ?_
        refine po_split (j := 10) rfl ?_ ?_
        · refine po_evs (T := tab) 4 rfl rfl ?_
          refine po_nil ?_
          refine pn_seq ?_
          refine pw_cnd rfl ?_ ?_
          · refine pw_seq ?_
            refine pw_region ?_
            refine po_evs (T := tab) 1 rfl rfl ?_
            refine po_nil ?_
            refine pn_seq ?_
            exact pw_retN (T := tab) rfl rfl rfl ⟨rfl, rfl⟩ trivial rfl
          · refine pw_skip ?_
            refine pn_block ?_
            exact pn_sub' (hj1 ()) ⟨rfl, trivial⟩ trivial rfl
        · refine po_evs (T := tab) 4 rfl rfl ?_
          refine po_nil ?_
          refine pn_seq ?_
          refine pw_else rfl ?_
          refine pw_skip ?_
          refine pn_block ?_
          exact pn_sub' (hj1 ()) ⟨rfl, trivial⟩ trivial rfl

def Name_Right_1_m (fu : Nat) (c1 : Int) : Option Bool := bnd (Name_sign_m fu c1) fun r2 => some (!r2)

set_option maxRecDepth 100000 in
theorem Name_Right_1_ok (fu : Nat) (c1 : Int) : ∀ r, Name_Right_1_m fu c1 = some r → DC laidL Tryz.prog 99 [.v (.int .i32 c1)] (.v (.bool r)) := by
  intro r hr
  refine fc_intro (args := [.v (.int .i32 c1)]) (S := []) (N0 := []) (post := fun r p S => p = .v (.bool r) ∧ S = []) Tryz.func99 rfl rfl hr fun w0 X X0 σ0 _ => ?_
  refine pw_seq ?_
  refine pw_region ?_
  refine po_evs (T := tab) 1 rfl rfl ?_
  refine po_nil ?_
  refine pn_seq ?_
  refine pw_seq ?_
  refine pw_region ?_
  refine po_evs (T := tab) 1 rfl rfl ?_
  refine po_call (enc := fun (r2 : Bool) => .v (.bool r2)) (qs := [.v (.int .i32 c1)]) (Name_sign_ok fu c1) rfl rfl ⟨⟨_, rfl, .rfl⟩, trivial⟩ (fun _ => rfl) call100 rfl rfl fun r2 hr2 => ?_
  refine po_evs (T := tab) 2 rfl rfl ?_
  refine po_nil ?_
  refine pn_seq ?_
  exact pw_retN (T := tab) rfl rfl rfl ⟨rfl, rfl⟩ trivial rfl

def Strings_indexFunc_l1 (t1 : Int → Option Bool) (s1 : Bs) (truth2 : Bool) : Nat → Nat → Option Int
  | 0, _ => none
  | k1 + 1, p3 => cnd (decide (p3 < s1.length)) (bnd (t1 (decRune s1 p3)) fun r4 => cnd (r4 == truth2) (some ((p3 : Nat) : Int)) ((Strings_indexFunc_l1 t1 s1 truth2 k1) (p3 + decSize s1 p3))) (some (-1))

def Strings_indexFunc_m (fu : Nat) (t1 : Int → Option Bool) (s1 : Bs) (truth2 : Bool) : Option Int := (Strings_indexFunc_l1 t1 s1 truth2) fu 0

set_option maxHeartbeats 10000000 in
set_option maxRecDepth 100000 in
theorem Strings_indexFunc_ok (fu : Nat) (s1 : Bs) (truth2 : Bool) : ∀ r, Strings_indexFunc_m fu (fun (z1 : Int) => Name_Right_1_m fu z1) s1 truth2 = some r → DC laidL Tryz.prog 104 [.v (.string ⟨⟨s1⟩⟩), .fn (.func 99) [] [], .v (.bool truth2)] (.v (.int .i64 r)) := by
  intro r hr
  refine fc_intro (args := [.v (.string ⟨⟨s1⟩⟩), .fn (.func 99) [] [], .v (.bool truth2)]) (S := []) (N0 := []) (post := fun r p S => p = .v (.int .i64 r) ∧ S = []) Tryz.func104 rfl rfl hr fun w0 X X0 σ0 _ => ?_
  refine pw_seq ?_
  refine pw_region ?_
  refine po_evs (T := tab) 1 rfl rfl ?_
  refine po_nil ?_
  refine pn_seq ?_
  refine pw_seq ?_
  refine pw_seq ?_
  refine pw_region ?_
  refine po_evs (T := tab) 1 rfl rfl ?_
  refine po_range (T := tab) 10 rfl rfl rfl rfl rfl rfl rfl rfl rfl ?_
  refine po_nil ?_
  refine pn_seq ?_
  refine pw_block ?_
  refine pw_loop' (Strings_indexFunc_l1 (fun (z1 : Int) => Name_Right_1_m fu z1) s1 truth2) (fun (p3 : Nat) => [(1, .fn (.func 99) [] []), (2, .v (.bool truth2)), (10, .loc 10 0)]) (fun (p3 : Nat) => [(10, .siter ⟨⟨s1⟩⟩ p3)]) fu 0 (fun _ => rfl) ⟨rfl, rfl, rfl, trivial⟩ ⟨rfl, trivial⟩ rfl ?_
  rintro k1 p3
  refine pw_seq ?_
  refine pw_region ?_
  refine po_next 10 rfl rfl rfl rfl rfl rfl rfl ?_ ?_
  · refine po_evs (T := tab) 1 rfl rfl ?_
    refine po_nil ?_
    refine pn_seq ?_
    refine pw_seq ?_
    refine pw_then rfl ?_
    refine pw_skip ?_
    refine pn_seq ?_
    refine pw_block ?_
    refine pw_seq ?_
    refine pw_region ?_
    refine po_evs (T := tab) 4 rfl rfl ?_
    refine po_nil ?_
    refine pn_seq ?_
    refine pw_seq ?_
    refine pw_region ?_
    refine po_evs (T := tab) 2 rfl rfl ?_
    refine po_callv (enc := fun (r4 : Bool) => .v (.bool r4)) (first := []) (cap := []) (qs := [.v (.int .i32 (decRune s1 p3))]) (Sc := []) (Name_Right_1_ok fu (decRune s1 p3)) (subS_of trivial rfl) rfl rfl rfl rfl ⟨⟨_, rfl, .rfl⟩, trivial⟩ (fun _ => rfl) call99 rfl rfl fun r4 hr4 => ?_
    refine po_evs (T := tab) 2 rfl rfl ?_
    refine po_nil ?_
    refine pn_seq ?_
    refine pw_cnd rfl ?_ ?_
    · refine pw_seq ?_
      refine pw_region ?_
      refine po_evs (T := tab) 2 rfl rfl ?_
      refine po_nil ?_
      refine pn_seq ?_
      exact pw_retN (T := tab) rfl rfl rfl ⟨rfl, rfl⟩ trivial rfl
    · refine pw_skip ?_
      refine pn_block ?_
      exact pn_iter' (p3 + decSize s1 p3) ⟨rfl, rfl, rfl, trivial⟩ ⟨rfl, trivial⟩ rfl
  · refine po_evs (T := tab) 1 rfl rfl ?_
    refine po_nil ?_
    refine pn_seq ?_
    refine pw_seq ?_
    refine pw_else rfl ?_
    refine pw_exit rfl ?_
    refine pn_seq ?_
    refine pw_seq ?_
    refine pw_region ?_
    refine po_evs (T := tab) 1 rfl rfl ?_
    refine po_nil ?_
    refine pn_seq ?_
    exact pw_retN (T := tab) rfl rfl rfl ⟨rfl, rfl⟩ trivial rfl

def Strings_IndexFunc_m (fu : Nat) (t1 : Int → Option Bool) (s1 : Bs) : Option Int := bnd (Strings_indexFunc_m fu t1 s1 true) fun r2 => some r2

set_option maxRecDepth 100000 in
theorem Strings_IndexFunc_ok (fu : Nat) (s1 : Bs) : ∀ r, Strings_IndexFunc_m fu (fun (z1 : Int) => Name_Right_1_m fu z1) s1 = some r → DC laidL Tryz.prog 89 [.v (.string ⟨⟨s1⟩⟩), .fn (.func 99) [] []] (.v (.int .i64 r)) := by
  intro r hr
  refine fc_intro (args := [.v (.string ⟨⟨s1⟩⟩), .fn (.func 99) [] []]) (S := []) (N0 := []) (post := fun r p S => p = .v (.int .i64 r) ∧ S = []) Tryz.func89 rfl rfl hr fun w0 X X0 σ0 _ => ?_
  refine pw_seq ?_
  refine pw_region ?_
  refine po_evs (T := tab) 1 rfl rfl ?_
  refine po_nil ?_
  refine pn_seq ?_
  refine pw_seq ?_
  refine pw_region ?_
  refine po_evs (T := tab) 2 rfl rfl ?_
  refine po_call (enc := fun (r2 : Int) => .v (.int .i64 r2)) (qs := [.v (.string ⟨⟨s1⟩⟩), .fn (.func 99) [] [], .v (.bool true)]) (Strings_indexFunc_ok fu s1 true) rfl rfl ⟨⟨_, rfl, .rfl⟩, ⟨_, rfl, .rfl⟩, ⟨_, rfl, .rfl⟩, trivial⟩ (fun _ => rfl) call104 rfl rfl fun r2 hr2 => ?_
  refine po_evs (T := tab) 1 rfl rfl ?_
  refine po_nil ?_
  refine pn_seq ?_
  exact pw_retN (T := tab) rfl rfl rfl ⟨rfl, rfl⟩ trivial rfl

def Strings_ContainsFunc_m (fu : Nat) (t1 : Int → Option Bool) (s1 : Bs) : Option Bool := bnd (Strings_IndexFunc_m fu t1 s1) fun r2 => some (decide (r2 ≥ 0))

set_option maxRecDepth 100000 in
theorem Strings_ContainsFunc_ok (fu : Nat) (s1 : Bs) : ∀ r, Strings_ContainsFunc_m fu (fun (z1 : Int) => Name_Right_1_m fu z1) s1 = some r → DC laidL Tryz.prog 81 [.v (.string ⟨⟨s1⟩⟩), .fn (.func 99) [] []] (.v (.bool r)) := by
  intro r hr
  refine fc_intro (args := [.v (.string ⟨⟨s1⟩⟩), .fn (.func 99) [] []]) (S := []) (N0 := []) (post := fun r p S => p = .v (.bool r) ∧ S = []) Tryz.func81 rfl rfl hr fun w0 X X0 σ0 _ => ?_
  refine pw_seq ?_
  refine pw_region ?_
  refine po_evs (T := tab) 1 rfl rfl ?_
  refine po_nil ?_
  refine pn_seq ?_
  refine pw_seq ?_
  refine pw_region ?_
  refine po_evs (T := tab) 2 rfl rfl ?_
  refine po_call (enc := fun (r2 : Int) => .v (.int .i64 r2)) (qs := [.v (.string ⟨⟨s1⟩⟩), .fn (.func 99) [] []]) (Strings_IndexFunc_ok fu s1) rfl rfl ⟨⟨_, rfl, .rfl⟩, ⟨_, rfl, .rfl⟩, trivial⟩ (fun _ => rfl) call89 rfl rfl fun r2 hr2 => ?_
  refine po_evs (T := tab) 2 rfl rfl ?_
  refine po_nil ?_
  refine pn_seq ?_
  exact pw_retN (T := tab) rfl rfl rfl ⟨rfl, rfl⟩ trivial rfl

def Name_Right_m (fu : Nat) (s1 : Bs) : Option Bool := cnd (decide (((s1.length : Nat) : Int) < 1)) (some false) (cnd (decide (((s1.length : Nat) : Int) > 40)) (some false) (bnd (Strings_ContainsFunc_m fu (fun (z1 : Int) => Name_Right_1_m fu z1) s1) fun r2 => cnd r2 (some false) (bnd (chr s1 0) fun b3 => bnd (rng .i32 b3) fun i4 => bnd (Name_small_m fu i4) fun r5 => cnd r5 (some true) (bnd (Name_capital_m fu i4) fun r6 => cnd r6 (some true) (some (i4 == 95))))))

set_option maxHeartbeats 10000000 in
set_option maxRecDepth 100000 in
theorem Name_Right_ok (fu : Nat) (s1 : Bs) : ∀ r, Name_Right_m fu s1 = some r → DC laidL Tryz.prog 78 [.v (.string ⟨⟨s1⟩⟩)] (.v (.bool r)) := by
  intro r hr
  refine fc_intro (args := [.v (.string ⟨⟨s1⟩⟩)]) (S := []) (N0 := []) (post := fun r p S => p = .v (.bool r) ∧ S = []) Tryz.func78 rfl rfl hr fun w0 X X0 σ0 _ => ?_
  refine pw_seq ?_
  refine pw_region ?_
  refine po_evs (T := tab) 1 rfl rfl ?_
  refine po_nil ?_
  refine pn_seq ?_
  refine pw_seq ?_
  refine pw_seq ?_
  refine pw_region ?_
  refine po_evs (T := tab) 4 rfl rfl ?_
  refine po_split (j := 7) rfl ?_ ?_
  · refine po_evs (T := tab) 8 rfl rfl ?_
    refine po_nil ?_
    refine pn_seq (pw_then rfl ?_)
    refine pw_seq ?_
    refine pw_region ?_
    refine po_evs (T := tab) 1 rfl rfl ?_
    refine po_nil ?_
    refine pn_seq ?_
    exact pw_retN (T := tab) rfl rfl rfl ⟨rfl, rfl⟩ trivial rfl
  · refine po_evs (T := tab) 5 rfl rfl ?_
    refine po_split (j := 12) rfl ?_ ?_
    · refine po_evs (T := tab) 3 rfl rfl ?_
      refine po_nil ?_
      refine pn_seq (pw_then rfl ?_)
      refine pw_seq ?_
      refine pw_region ?_
      refine po_evs (T := tab) 1 rfl rfl ?_
      refine po_nil ?_
      refine pn_seq ?_
      exact pw_retN (T := tab) rfl rfl rfl ⟨rfl, rfl⟩ trivial rfl
    · refine po_evs (T := tab) 1 rfl rfl ?_
      refine po_call (enc := fun (r2 : Bool) => .v (.bool r2)) (qs := [.v (.string ⟨⟨s1⟩⟩), .fn (.func 99) [] []]) (Strings_ContainsFunc_ok fu s1) rfl rfl ⟨⟨_, rfl, .rfl⟩, ⟨_, rfl, .rfl⟩, trivial⟩ (fun _ => rfl) call81 rfl rfl fun r2 hr2 => ?_
      refine po_evs (T := tab) 1 rfl rfl ?_
      refine po_nil ?_
      refine pn_seq ?_
      refine pw_cnd rfl ?_ ?_
      · refine pw_seq ?_
        refine pw_region ?_
        refine po_evs (T := tab) 1 rfl rfl ?_
        refine po_nil ?_
        refine pn_seq ?_
        exact pw_retN (T := tab) rfl rfl rfl ⟨rfl, rfl⟩ trivial rfl
      · refine pw_skip ?_
        refine pn_seq ?_
        refine pw_seq ?_
        refine pw_region ?_
        refine po_evs (T := tab) 1 rfl rfl ?_
        refine po_chr (T := tab) (s := s1) rfl rfl rfl rfl rfl rfl rfl fun b3 hb3 => ?_
        refine po_arith' (T := tab) rfl rfl rfl rfl fun i4 hi4 => ?_
        refine po_evs (T := tab) 1 rfl rfl ?_
        refine po_nil ?_
        refine pn_seq ?_
        refine pw_seq ?_
        refine pw_region ?_
        refine po_evs (T := tab) 1 rfl rfl ?_
        refine po_call (enc := fun (r5 : Bool) => .v (.bool r5)) (qs := [.v (.int .i32 i4)]) (Name_small_ok fu i4) rfl rfl ⟨⟨_, rfl, .rfl⟩, trivial⟩ (fun _ => rfl) call80 rfl rfl fun r5 hr5 => ?_
        refine po_evs (T := tab) 1 rfl rfl ?_
        refine po_split (j := 21) rfl ?_ ?_
        · refine po_evs (T := tab) 8 rfl rfl ?_
          refine po_nil ?_
          refine pn_seq ?_
          exact pw_retN (T := tab) rfl rfl rfl ⟨rfl, rfl⟩ trivial rfl
        · refine po_evs (T := tab) 1 rfl rfl ?_
          refine po_call (enc := fun (r6 : Bool) => .v (.bool r6)) (qs := [.v (.int .i32 i4)]) (Name_capital_ok fu i4) rfl rfl ⟨⟨_, rfl, .rfl⟩, trivial⟩ (fun _ => rfl) call82 rfl rfl fun r6 hr6 => ?_
          refine po_evs (T := tab) 2 rfl rfl ?_
          refine po_split (j := 25) rfl ?_ ?_
          · refine po_evs (T := tab) 4 rfl rfl ?_
            refine po_nil ?_
            refine pn_seq ?_
            exact pw_retN (T := tab) rfl rfl rfl ⟨rfl, rfl⟩ trivial rfl
          · refine po_evs (T := tab) 4 rfl rfl ?_
            refine po_nil ?_
            refine pn_seq ?_
            exact pw_retN (T := tab) rfl rfl rfl ⟨rfl, rfl⟩ trivial rfl

def Name_Small_l1 (fu : Nat) (s1 : Bs) : Nat → Int × (List Int) → Option Bs
  | 0, _ => none
  | k1 + 1, (t2, l3) => cnd (decide (t2 < (((bytesOf s1).length : Nat) : Int))) (bnd (idx l3 t2) fun y4 => bnd (rng .i32 y4) fun i5 => bnd (Name_capital_m fu i5) fun r6 => cnd r6 (bnd (rng .u8 (y4 - 65)) fun i7 => bnd (rng .u8 (i7 + 97)) fun i8 => bnd (idx l3 t2) fun y9 => bnd (rng .i64 (t2 + 1)) fun i10 => (Name_Small_l1 fu s1 k1) (i10, (l3.set (t2).toNat i8))) (bnd (rng .i64 (t2 + 1)) fun i11 => (Name_Small_l1 fu s1 k1) (i11, l3))) (some (strOf l3))

def Name_Small_m (fu : Nat) (s1 : Bs) : Option Bs := bnd (roomy 1 s1.length) fun _ => (Name_Small_l1 fu s1) fu (0, (bytesOf s1))

set_option maxHeartbeats 10000000 in
set_option maxRecDepth 100000 in
theorem Name_Small_ok (fu : Nat) (s1 : Bs) : ∀ r, Name_Small_m fu s1 = some r → DC laidL Tryz.prog 79 [.v (.string ⟨⟨s1⟩⟩)] (.v (.string ⟨⟨r⟩⟩)) := by
  intro r hr
  refine fc_intro (args := [.v (.string ⟨⟨s1⟩⟩)]) (S := []) (N0 := []) (post := fun r p S => p = .v (.string ⟨⟨r⟩⟩) ∧ S = []) Tryz.func79 rfl rfl hr fun w0 X X0 σ0 _ => ?_
  refine pw_seq ?_
  refine pw_region ?_
  refine po_evs (T := tab) 1 rfl rfl ?_
  refine po_nil ?_
  refine pn_seq ?_
  refine pw_seq ?_
  refine pw_region ?_
  refine po_evs (T := tab) 1 rfl rfl ?_
  refine po_bytes (T := tab) cInt_u8 7 (fun _ => rfl) rfl rfl rfl rfl rfl rfl rfl rfl rfl rfl rfl rfl ?_
  refine po_evs (T := tab) 1 rfl rfl ?_
  refine po_nil ?_
  refine pn_seq ?_
  refine pw_seq ?_
  refine pw_seq ?_
  refine pw_region ?_
  refine po_evs (T := tab) 1 rfl rfl ?_
  refine po_len_own (T := tab) cInt_u8 (bytesOf s1) rfl rfl rfl rfl rfl rfl rfl rfl rfl ?_
  refine po_evs (T := tab) 1 rfl rfl ?_
  refine po_nil ?_
  refine pn_seq ?_
  refine pw_block ?_
  refine pw_loop' (Name_Small_l1 fu s1) (fun ((t2, l3) : Int × (List Int)) => [(3, .own 7), (8, .own 7), (9, .v (.int .i64 (((bytesOf s1).length : Nat) : Int))), (10, .v (.int .i64 t2))]) (fun ((t2, l3) : Int × (List Int)) => [(7, .arr 1000005 1 (l3.map cInt_u8))]) fu (0, (bytesOf s1)) (fun _ => rfl) ⟨rfl, rfl, rfl, rfl, trivial⟩ ⟨rfl, trivial⟩ rfl ?_
  rintro k1 ⟨t2, l3⟩
  refine pw_seq ?_
  refine pw_region ?_
  refine po_evs (T := tab) 1 rfl rfl ?_
  refine po_nil ?_
  refine pn_seq ?_
  refine pw_seq ?_
  refine pw_cnd rfl ?_ ?_
  · refine pw_skip ?_
    refine pn_seq ?_
    refine pw_seq ?_
    refine pw_block ?_
    refine pw_seq ?_
    refine pw_region ?_
    refine po_evs (T := tab) 1 rfl rfl ?_
    refine po_idx_own (T := tab) cInt_u8 l3 rfl rfl rfl rfl rfl rfl rfl rfl fun y4 hy4 => ?_
    refine po_load_ela (T := tab) cInt_u8 l3 y4 (idx_at hy4) rfl rfl rfl rfl rfl rfl rfl rfl ?_
    refine po_evs (T := tab) 2 rfl rfl ?_
    refine po_nil ?_
    refine pn_seq ?_
    refine pw_seq ?_
    refine pw_region ?_
    refine po_evs (T := tab) 1 rfl rfl ?_
    refine po_arith' (T := tab) rfl rfl rfl rfl fun i5 hi5 => ?_
    refine po_call (enc := fun (r6 : Bool) => .v (.bool r6)) (qs := [.v (.int .i32 i5)]) (Name_capital_ok fu i5) rfl rfl ⟨⟨_, rfl, .rfl⟩, trivial⟩ (fun _ => rfl) call82 rfl rfl fun r6 hr6 => ?_
    refine po_nil ?_
    refine pn_seq ?_
    refine pw_cnd rfl ?_ ?_
    · refine pw_region ?_
      refine po_evs (T := tab) 3 rfl rfl ?_
      refine po_arith' (T := tab) rfl rfl rfl rfl fun i7 hi7 => ?_
      refine po_arith' (T := tab) rfl rfl rfl rfl fun i8 hi8 => ?_
      refine po_idx_own (T := tab) cInt_u8 l3 rfl rfl rfl rfl rfl rfl rfl rfl fun y9 hy9 => ?_
      refine po_store_ela (T := tab) cInt_u8 l3 y9 i8 (idx_at hy9) rfl rfl rfl rfl rfl rfl rfl rfl rfl rfl rfl rfl rfl ?_
      refine po_nil ?_
      refine pn_block ?_
      refine pn_seq ?_
      refine pw_region ?_
      refine po_arith' (T := tab) rfl rfl rfl rfl fun i10 hi10 => ?_
      refine po_evs (T := tab) 1 rfl rfl ?_
      refine po_nil ?_
      exact pn_iter' (i10, (l3.set (t2).toNat i8)) ⟨rfl, rfl, rfl, rfl, trivial⟩ ⟨rfl, trivial⟩ rfl
    · refine pw_skip ?_
      refine pn_block ?_
      refine pn_seq ?_
      refine pw_region ?_
      refine po_arith' (T := tab) rfl rfl rfl rfl fun i11 hi11 => ?_
      refine po_evs (T := tab) 1 rfl rfl ?_
      refine po_nil ?_
      exact pn_iter' (i11, l3) ⟨rfl, rfl, rfl, rfl, trivial⟩ ⟨rfl, trivial⟩ rfl
  · refine pw_exit rfl ?_
    refine pn_seq ?_
    refine pw_seq ?_
    refine pw_region ?_
    refine po_evs (T := tab) 1 rfl rfl ?_
    refine po_str (T := tab) cInt_u8 l3 (fun _ => rfl) rfl rfl rfl rfl rfl rfl rfl rfl rfl ?_
    refine po_evs (T := tab) 1 rfl rfl ?_
    refine po_nil ?_
    refine pn_seq ?_
    exact pw_retN (T := tab) rfl rfl rfl ⟨rfl, rfl⟩ trivial rfl

def Name_Fit_m (fu : Nat) (s1 : Bs) : Option (Bs × Int) := bnd (Name_Right_m fu s1) fun r2 => cnd (!r2) (some ([], 4)) (bnd (Name_Small_m fu s1) fun r3 => some (r3, 0))

set_option maxRecDepth 100000 in
theorem Name_Fit_ok (fu : Nat) (s1 : Bs) : ∀ r, Name_Fit_m fu s1 = some r → DC laidL Tryz.prog 56 [.v (.string ⟨⟨s1⟩⟩)] (.tup [.v (.string ⟨⟨r.1⟩⟩), .v (.int .i64 r.2)]) := by
  intro r hr
  refine fc_intro (args := [.v (.string ⟨⟨s1⟩⟩)]) (S := []) (N0 := []) (post := fun r p S => p = .tup [.v (.string ⟨⟨r.1⟩⟩), .v (.int .i64 r.2)] ∧ S = []) Tryz.func56 rfl rfl hr fun w0 X X0 σ0 _ => ?_
  refine pw_seq ?_
  refine pw_region ?_
  refine po_evs (T := tab) 2 rfl rfl ?_
  refine po_nil ?_
  refine pn_seq ?_
  refine pw_seq ?_
  refine pw_seq ?_
  refine pw_region ?_
  refine po_evs (T := tab) 1 rfl rfl ?_
  refine po_call (enc := fun (r2 : Bool) => .v (.bool r2)) (qs := [.v (.string ⟨⟨s1⟩⟩)]) (Name_Right_ok fu s1) rfl rfl ⟨⟨_, rfl, .rfl⟩, trivial⟩ (fun _ => rfl) call78 rfl rfl fun r2 hr2 => ?_
  refine po_evs (T := tab) 1 rfl rfl ?_
  refine po_nil ?_
  refine pn_seq ?_
  refine pw_cnd rfl ?_ ?_
  · refine pw_seq ?_
    refine pw_region ?_
    refine po_evs (T := tab) 2 rfl rfl ?_
    refine po_nil ?_
    refine pn_seq ?_
    exact pw_retN (T := tab) rfl rfl rfl ⟨rfl, rfl⟩ trivial rfl
  · refine pw_skip ?_
    refine pn_seq ?_
    refine pw_seq ?_
    refine pw_region ?_
    refine po_evs (T := tab) 1 rfl rfl ?_
    refine po_call (enc := fun (r3 : Bs) => .v (.string ⟨⟨r3⟩⟩)) (qs := [.v (.string ⟨⟨s1⟩⟩)]) (Name_Small_ok fu s1) rfl rfl ⟨⟨_, rfl, .rfl⟩, trivial⟩ (fun _ => rfl) call79 rfl rfl fun r3 hr3 => ?_
    refine po_evs (T := tab) 2 rfl rfl ?_
    refine po_nil ?_
    refine pn_seq ?_
    exact pw_retN (T := tab) rfl rfl rfl ⟨rfl, rfl⟩ trivial rfl

def Attr_Right_1_m (fu : Nat) (a1 : Attr) : Option Bool := bnd (Name_Fit_m fu a1.Name) fun r2 => cnd (r2.2 != 0) (some true) (cnd (!(r2.1 == a1.Name)) (some true) (some (decide (((a1.Value.length : Nat) : Int) > 200))))

set_option maxRecDepth 100000 in
theorem Attr_Right_1_ok (fu : Nat) (a1 : Attr) : ∀ r, Attr_Right_1_m fu a1 = some r → DC laidL Tryz.prog 86 [.agg (cAttr a1)] (.v (.bool r)) := by
  intro r hr
  refine fc_intro (args := [.agg (cAttr a1)]) (S := []) (N0 := []) (post := fun r p S => p = .v (.bool r) ∧ S = []) Tryz.func86 rfl rfl hr fun w0 X X0 σ0 _ => ?_
  refine pw_seq ?_
  refine pw_region ?_
  refine po_box  1 rfl rfl rfl rfl rfl rfl rfl rfl rfl rfl ?_
  refine po_evs (T := tab) 1 rfl rfl ?_
  refine po_nil ?_
  refine pn_seq ?_
  refine pw_seq ?_
  refine pw_region ?_
  refine po_evs (T := tab) 2 rfl rfl ?_
  refine po_call (enc := fun (r2 : (Bs × Int)) => .tup [.v (.string ⟨⟨r2.1⟩⟩), .v (.int .i64 r2.2)]) (qs := [.v (.string ⟨⟨a1.Name⟩⟩)]) (Name_Fit_ok fu a1.Name) rfl rfl ⟨⟨_, rfl, .rfl⟩, trivial⟩ (fun _ => rfl) call56 rfl rfl fun r2 hr2 => ?_
  refine po_evs (T := tab) 5 rfl rfl ?_
  refine po_nil ?_
  refine pn_seq ?_
  refine pw_seq ?_
  refine pw_region ?_
  refine po_evs (T := tab) 3 rfl rfl ?_
  refine po_split (j := 13) rfl ?_ ?_
  · refine po_evs (T := tab) 12 rfl rfl ?_
    refine po_nil ?_
    refine pn_seq ?_
    exact pw_retN (T := tab) rfl rfl rfl ⟨rfl, rfl⟩ trivial rfl
  · refine po_evs (T := tab) 6 rfl rfl ?_
    refine po_split (j := 19) rfl ?_ ?_
    · refine po_evs (T := tab) 6 rfl rfl ?_
      refine po_nil ?_
      refine pn_seq ?_
      exact pw_retN (T := tab) rfl rfl rfl ⟨rfl, rfl⟩ trivial rfl
    · refine po_evs (T := tab) 6 rfl rfl ?_
      refine po_nil ?_
      refine pn_seq ?_
      exact pw_retN (T := tab) rfl rfl rfl ⟨rfl, rfl⟩ trivial rfl

def Slices_IndexFunc_apiAttr_l1 (t1 : Attr → Option Bool) (s1 : (List Attr)) : Nat → Int → Option Int
  | 0, _ => none
  | k1 + 1, t2 => cnd (decide (t2 < ((s1.length : Nat) : Int))) (bnd (idx s1 t2) fun y3 => bnd (t1 y3) fun r4 => cnd r4 (some t2) (bnd (rng .i64 (t2 + 1)) fun i5 => (Slices_IndexFunc_apiAttr_l1 t1 s1 k1) i5)) (some (-1))

def Slices_IndexFunc_apiAttr_m (fu : Nat) (t1 : Attr → Option Bool) (s1 : (List Attr)) : Option Int := (Slices_IndexFunc_apiAttr_l1 t1 s1) fu 0

set_option maxHeartbeats 10000000 in
set_option maxRecDepth 100000 in
theorem Slices_IndexFunc_apiAttr_ok (fu : Nat) (s1 : (List Attr)) : ∀ r, Slices_IndexFunc_apiAttr_m fu (fun (z1 : Attr) => Attr_Right_1_m fu z1) s1 = some r → DC laidL Tryz.prog 98 [.sl 2 false (s1.map cAttr), .fn (.func 86) [] []] (.v (.int .i64 r)) := by
  intro r hr
  refine fc_intro (args := [.sl 2 false (s1.map cAttr), .fn (.func 86) [] []]) (S := []) (N0 := []) (post := fun r p S => p = .v (.int .i64 r) ∧ S = []) Tryz.func98 rfl rfl hr fun w0 X X0 σ0 _ => ?_
  refine pw_seq ?_
  refine pw_region ?_
  refine po_evs (T := tab) 1 rfl rfl ?_
  refine po_nil ?_
  refine pn_seq ?_
  refine pw_seq ?_
  refine pw_seq ?_
  refine pw_region ?_
  refine po_evs (T := tab) 1 rfl rfl ?_
  refine po_len (T := tab) cAttr s1 rfl rfl rfl rfl rfl rfl rfl rfl ?_
  refine po_evs (T := tab) 1 rfl rfl ?_
  refine po_nil ?_
  refine pn_seq ?_
  refine pw_block ?_
  refine pw_loop' (Slices_IndexFunc_apiAttr_l1 (fun (z1 : Attr) => Attr_Right_1_m fu z1) s1) (fun (t2 : Int) => [(0, .sl 2 false (s1.map cAttr)), (1, .fn (.func 86) [] []), (7, .v (.int .i64 ((s1.length : Nat) : Int))), (8, .v (.int .i64 t2))]) (fun (t2 : Int) => []) fu 0 (fun _ => rfl) ⟨rfl, rfl, rfl, rfl, trivial⟩ trivial rfl ?_
  rintro k1 t2
  refine pw_seq ?_
  refine pw_region ?_
  refine po_evs (T := tab) 1 rfl rfl ?_
  refine po_nil ?_
  refine pn_seq ?_
  refine pw_seq ?_
  refine pw_cnd rfl ?_ ?_
  · refine pw_skip ?_
    refine pn_seq ?_
    refine pw_seq ?_
    refine pw_block ?_
    refine pw_seq ?_
    refine pw_region ?_
    refine po_evs (T := tab) 2 rfl rfl ?_
    refine po_nil ?_
    refine pn_seq ?_
    refine pw_seq ?_
    refine pw_region ?_
    refine po_evs (T := tab) 3 rfl rfl ?_
    refine po_idx (T := tab) cAttr s1 rfl rfl rfl rfl rfl rfl rfl fun y3 hy3 => ?_
    refine po_evs (T := tab) 1 rfl rfl ?_
    refine po_callv (enc := fun (r4 : Bool) => .v (.bool r4)) (first := []) (cap := []) (qs := [.agg (cAttr y3)]) (Sc := []) (Attr_Right_1_ok fu y3) (subS_of trivial rfl) rfl rfl rfl rfl ⟨⟨_, rfl, .rfl⟩, trivial⟩ (fun _ => rfl) call86 rfl rfl fun r4 hr4 => ?_
    refine po_nil ?_
    refine pn_seq ?_
    refine pw_cnd rfl ?_ ?_
    · refine pw_seq ?_
      refine pw_region ?_
      refine po_evs (T := tab) 2 rfl rfl ?_
      refine po_nil ?_
      refine pn_seq ?_
      exact pw_retN (T := tab) rfl rfl rfl ⟨rfl, rfl⟩ trivial rfl
    · refine pw_skip ?_
      refine pn_block ?_
      refine pn_seq ?_
      refine pw_region ?_
      refine po_arith' (T := tab) rfl rfl rfl rfl fun i5 hi5 => ?_
      refine po_evs (T := tab) 1 rfl rfl ?_
      refine po_nil ?_
      exact pn_iter' i5 ⟨rfl, rfl, rfl, rfl, trivial⟩ trivial rfl
  · refine pw_exit rfl ?_
    refine pn_seq ?_
    refine pw_seq ?_
    refine pw_region ?_
    refine po_evs (T := tab) 1 rfl rfl ?_
    refine po_nil ?_
    refine pn_seq ?_
    exact pw_retN (T := tab) rfl rfl rfl ⟨rfl, rfl⟩ trivial rfl

def Slices_ContainsFunc_apiAttr_m (fu : Nat) (t1 : Attr → Option Bool) (s1 : (List Attr)) : Option Bool := bnd (Slices_IndexFunc_apiAttr_m fu t1 s1) fun r2 => some (decide (r2 ≥ 0))

set_option maxRecDepth 100000 in
theorem Slices_ContainsFunc_apiAttr_ok (fu : Nat) (s1 : (List Attr)) : ∀ r, Slices_ContainsFunc_apiAttr_m fu (fun (z1 : Attr) => Attr_Right_1_m fu z1) s1 = some r → DC laidL Tryz.prog 76 [.sl 2 false (s1.map cAttr), .fn (.func 86) [] []] (.v (.bool r)) := by
  intro r hr
  refine fc_intro (args := [.sl 2 false (s1.map cAttr), .fn (.func 86) [] []]) (S := []) (N0 := []) (post := fun r p S => p = .v (.bool r) ∧ S = []) Tryz.func76 rfl rfl hr fun w0 X X0 σ0 _ => ?_
  refine pw_seq ?_
  refine pw_region ?_
  refine po_evs (T := tab) 1 rfl rfl ?_
  refine po_nil ?_
  refine pn_seq ?_
  refine pw_seq ?_
  refine pw_region ?_
  refine po_evs (T := tab) 2 rfl rfl ?_
  refine po_call (enc := fun (r2 : Int) => .v (.int .i64 r2)) (qs := [.sl 2 false (s1.map cAttr), .fn (.func 86) [] []]) (Slices_IndexFunc_apiAttr_ok fu s1) rfl rfl ⟨⟨_, rfl, .rfl⟩, ⟨_, rfl, .rfl⟩, trivial⟩ (fun _ => rfl) call98 rfl rfl fun r2 hr2 => ?_
  refine po_evs (T := tab) 2 rfl rfl ?_
  refine po_nil ?_
  refine pn_seq ?_
  exact pw_retN (T := tab) rfl rfl rfl ⟨rfl, rfl⟩ trivial rfl

def Attr_table_l1 (l1 : (List Attr)) : Nat → Int × (List (Bs × Attr)) → Option (List (Bs × Attr))
  | 0, _ => none
  | k1 + 1, (t2, l3) => cnd (decide (t2 < ((l1.length : Nat) : Int))) (bnd (idx l1 t2) fun y4 => bnd (rng .i64 (t2 + 1)) fun i5 => (Attr_table_l1 l1 k1) (i5, (mput l3 y4.Name y4))) (some l3)

def Attr_table_m (fu : Nat) (l1 : (List Attr)) : Option (List (Bs × Attr)) := (Attr_table_l1 l1) fu (0, ([] : (List (Bs × Attr))))

set_option maxHeartbeats 10000000 in
set_option maxRecDepth 100000 in
theorem Attr_table_ok (fu : Nat) (l1 : (List Attr)) : ∀ r, Attr_table_m fu l1 = some r → FC laidL Tryz.prog 75 [.sl 2 false (l1.map cAttr)] [] [] fun p S' => p = .own 6 ∧ S' = [(6, .mp (r.map fun p : Bs × Attr => (keyS p.1, .agg (cAttr p.2))))] := by
  intro r hr
  refine fc_intro (args := [.sl 2 false (l1.map cAttr)]) (S := []) (N0 := []) (post := fun r p S => p = .own 6 ∧ S = [(6, .mp (r.map fun p : Bs × Attr => (keyS p.1, .agg (cAttr p.2))))]) Tryz.func75 rfl rfl hr fun w0 X X0 σ0 _ => ?_
  refine pw_seq ?_
  refine pw_region ?_
  refine po_evs (T := tab) 1 rfl rfl ?_
  refine po_nil ?_
  refine pn_seq ?_
  refine pw_seq ?_
  refine pw_region ?_
  refine po_makeMap 6 rfl rfl rfl rfl rfl rfl rfl ?_
  refine po_evs (T := tab) 1 rfl rfl ?_
  refine po_nil ?_
  refine pn_seq ?_
  refine pw_seq ?_
  refine pw_seq ?_
  refine pw_region ?_
  refine po_evs (T := tab) 1 rfl rfl ?_
  refine po_len (T := tab) cAttr l1 rfl rfl rfl rfl rfl rfl rfl rfl ?_
  refine po_evs (T := tab) 1 rfl rfl ?_
  refine po_nil ?_
  refine pn_seq ?_
  refine pw_block ?_
  refine pw_loop' (Attr_table_l1 l1) (fun ((t2, l3) : Int × (List (Bs × Attr))) => [(3, .own 6), (7, .sl 2 false (l1.map cAttr)), (8, .v (.int .i64 ((l1.length : Nat) : Int))), (9, .v (.int .i64 t2))]) (fun ((t2, l3) : Int × (List (Bs × Attr))) => [(6, .mp (l3.map fun p : Bs × Attr => (keyS p.1, .agg (cAttr p.2))))]) fu (0, ([] : (List (Bs × Attr)))) (fun _ => rfl) ⟨rfl, rfl, rfl, rfl, trivial⟩ ⟨rfl, trivial⟩ rfl ?_
  rintro k1 ⟨t2, l3⟩
  refine pw_seq ?_
  refine pw_region ?_
  refine po_evs (T := tab) 1 rfl rfl ?_
  refine po_nil ?_
  refine pn_seq ?_
  refine pw_seq ?_
  refine pw_cnd rfl ?_ ?_
  · refine pw_skip ?_
    refine pn_seq ?_
    refine pw_seq ?_
    refine pw_block ?_
    refine pw_seq ?_
    refine pw_region ?_
    refine po_idx (T := tab) cAttr l1 rfl rfl rfl rfl rfl rfl rfl fun y4 hy4 => ?_
    refine po_evs (T := tab) 1 rfl rfl ?_
    refine po_alloc (T := tab) 5 rfl rfl rfl rfl rfl rfl rfl rfl rfl ?_
    refine po_store (T := tab) rfl rfl rfl rfl rfl rfl rfl rfl rfl rfl rfl rfl ?_
    refine po_nil ?_
    refine pn_seq ?_
    refine pw_region ?_
    refine po_evs (T := tab) 4 rfl rfl ?_
    refine po_mapUpdate keyS_enc (fun v => .agg (cAttr v)) l3 y4.Name y4 Tryz.underlying119 Tryz.underlying9 rfl rfl rfl rfl rfl rfl rfl rfl rfl ?_
    refine po_nil ?_
    refine pn_block ?_
    refine pn_seq ?_
    refine pw_region ?_
    refine po_arith' (T := tab) rfl rfl rfl rfl fun i5 hi5 => ?_
    refine po_evs (T := tab) 1 rfl rfl ?_
    refine po_nil ?_
    exact pn_iter' (i5, (mput l3 y4.Name y4)) ⟨rfl, rfl, rfl, rfl, trivial⟩ ⟨rfl, trivial⟩ rfl
  · refine pw_exit rfl ?_
    refine pn_seq ?_
    refine pw_seq ?_
    refine pw_region ?_
    refine po_evs (T := tab) 2 rfl rfl ?_
    refine po_nil ?_
    refine pn_seq ?_
    exact pw_retN (T := tab) rfl rfl rfl ⟨rfl, rfl⟩ ⟨rfl, trivial⟩ rfl

def Attr_Right_m (fu : Nat) (l1 : (List Attr)) : Option Bool := cnd (decide (((l1.length : Nat) : Int) ≤ 40)) (bnd (Slices_ContainsFunc_apiAttr_m fu (fun (z1 : Attr) => Attr_Right_1_m fu z1) l1) fun r2 => cnd (!r2) (bnd (Attr_table_m fu l1) fun r3 => some (((r3.length : Nat) : Int) == ((l1.length : Nat) : Int))) (some false)) (some false)

set_option maxRecDepth 100000 in
theorem Attr_Right_ok (fu : Nat) (l1 : (List Attr)) : ∀ r, Attr_Right_m fu l1 = some r → DC laidL Tryz.prog 58 [.sl 2 false (l1.map cAttr)] (.v (.bool r)) := by
  intro r hr
  refine fc_intro (args := [.sl 2 false (l1.map cAttr)]) (S := []) (N0 := []) (post := fun r p S => p = .v (.bool r) ∧ S = []) Tryz.func58 rfl rfl hr fun w0 X X0 σ0 _ => ?_
  refine pw_seq ?_
  refine pw_region ?_
  refine po_evs (T := tab) 1 rfl rfl ?_
  refine po_nil ?_
  refine pn_seq ?_
  refine pw_seq ?_
  refine pw_region ?_
  refine po_evs (T := tab) 1 rfl rfl ?_
  refine po_nil ?_
  refine pn_seq ?_
  refine pw_seq ?_
  refine pw_region ?_
  refine po_evs (T := tab) 1 rfl rfl ?_
  refine po_len (T := tab) cAttr l1 rfl rfl rfl rfl rfl rfl rfl rfl ?_
  refine po_evs (T := tab) 2 rfl rfl ?_
  refine po_split (j := 7) rfl ?_ ?_
  · refine po_evs (T := tab) 2 rfl rfl ?_
    refine po_call (enc := fun (r2 : Bool) => .v (.bool r2)) (qs := [.sl 2 false (l1.map cAttr), .fn (.func 86) [] []]) (Slices_ContainsFunc_apiAttr_ok fu l1) rfl rfl ⟨⟨_, rfl, .rfl⟩, ⟨_, rfl, .rfl⟩, trivial⟩ (fun _ => rfl) call76 rfl rfl fun r2 hr2 => ?_
    refine po_evs (T := tab) 3 rfl rfl ?_
    refine po_split (j := 13) rfl ?_ ?_
    · refine po_evs (T := tab) 1 rfl rfl ?_
      refine po_turn [2150] (enc := fun (r3 : (List (Bs × Attr))) => .own 2150) (Sr := fun (r3 : (List (Bs × Attr))) => [(2150, .mp (r3.map fun p : Bs × Attr => (keyS p.1, .agg (cAttr p.2))))]) (first := []) (cap := []) (qs := [.sl 2 false (l1.map cAttr)]) (Sc := []) (N0 := []) (NR := [2150]) (fun r3 hr3 => fc_ren [(6, 2150)] [6] (Attr_table_ok fu l1 _ hr3) rfl rfl rfl rfl rfl rfl) trivial (fun _ => rfl) rfl rfl rfl rfl rfl rfl rfl (fun _ => rfl) (fun _ => rfl) rfl rfl rfl ⟨⟨_, rfl, .rfl⟩, trivial⟩ call75 rfl rfl fun r3 hr3 => ?_
      refine po_len_map (keyS) (fun v => .agg (cAttr v)) r3 Tryz.underlying119 rfl rfl rfl rfl rfl rfl rfl rfl ?_
      refine po_evs (T := tab) 1 rfl rfl ?_
      refine po_len (T := tab) cAttr l1 rfl rfl rfl rfl rfl rfl rfl rfl ?_
      refine po_evs (T := tab) 3 rfl rfl ?_
      refine po_nil ?_
      refine pn_seq ?_
      exact pw_retN (T := tab) rfl rfl rfl ⟨rfl, rfl⟩ trivial rfl
    · refine po_evs (T := tab) 8 rfl rfl ?_
      refine po_nil ?_
      refine pn_seq ?_
      exact pw_retN (T := tab) rfl rfl rfl ⟨rfl, rfl⟩ trivial rfl
  · refine po_evs (T := tab) 14 rfl rfl ?_
    refine po_nil ?_
    refine pn_seq ?_
    exact pw_retN (T := tab) rfl rfl rfl ⟨rfl, rfl⟩ trivial rfl

set_option maxHeartbeats 10000000 in
set_option maxRecDepth 100000 in
theorem Strings_indexFunc_i2_ok (fu : Nat) (s1 : Bs) (truth2 : Bool) : ∀ r, Strings_indexFunc_m fu (fun (z1 : Int) => Name_capital_m fu z1) s1 truth2 = some r → DC laidL Tryz.prog 104 [.v (.string ⟨⟨s1⟩⟩), .fn (.func 82) [] [], .v (.bool truth2)] (.v (.int .i64 r)) := by
  intro r hr
  refine fc_intro (args := [.v (.string ⟨⟨s1⟩⟩), .fn (.func 82) [] [], .v (.bool truth2)]) (S := []) (N0 := []) (post := fun r p S => p = .v (.int .i64 r) ∧ S = []) Tryz.func104 rfl rfl hr fun w0 X X0 σ0 _ => ?_
  refine pw_seq ?_
  refine pw_region ?_
  refine po_evs (T := tab) 1 rfl rfl ?_
  refine po_nil ?_
  refine pn_seq ?_
  refine pw_seq ?_
  refine pw_seq ?_
  refine pw_region ?_
  refine po_evs (T := tab) 1 rfl rfl ?_
  refine po_range (T := tab) 10 rfl rfl rfl rfl rfl rfl rfl rfl rfl ?_
  refine po_nil ?_
  refine pn_seq ?_
  refine pw_block ?_
  refine pw_loop' (Strings_indexFunc_l1 (fun (z1 : Int) => Name_capital_m fu z1) s1 truth2) (fun (p3 : Nat) => [(1, .fn (.func 82) [] []), (2, .v (.bool truth2)), (10, .loc 10 0)]) (fun (p3 : Nat) => [(10, .siter ⟨⟨s1⟩⟩ p3)]) fu 0 (fun _ => rfl) ⟨rfl, rfl, rfl, trivial⟩ ⟨rfl, trivial⟩ rfl ?_
  rintro k1 p3
  refine pw_seq ?_
  refine pw_region ?_
  refine po_next 10 rfl rfl rfl rfl rfl rfl rfl ?_ ?_
  · refine po_evs (T := tab) 1 rfl rfl ?_
    refine po_nil ?_
    refine pn_seq ?_
    refine pw_seq ?_
    refine pw_then rfl ?_
    refine pw_skip ?_
    refine pn_seq ?_
    refine pw_block ?_
    refine pw_seq ?_
    refine pw_region ?_
    refine po_evs (T := tab) 4 rfl rfl ?_
    refine po_nil ?_
    refine pn_seq ?_
    refine pw_seq ?_
    refine pw_region ?_
    refine po_evs (T := tab) 2 rfl rfl ?_
    refine po_callv (enc := fun (r4 : Bool) => .v (.bool r4)) (first := []) (cap := []) (qs := [.v (.int .i32 (decRune s1 p3))]) (Sc := []) (Name_capital_ok fu (decRune s1 p3)) (subS_of trivial rfl) rfl rfl rfl rfl ⟨⟨_, rfl, .rfl⟩, trivial⟩ (fun _ => rfl) call82 rfl rfl fun r4 hr4 => ?_
    refine po_evs (T := tab) 2 rfl rfl ?_
    refine po_nil ?_
    refine pn_seq ?_
    refine pw_cnd rfl ?_ ?_
    · refine pw_seq ?_
      refine pw_region ?_
      refine po_evs (T := tab) 2 rfl rfl ?_
      refine po_nil ?_
      refine pn_seq ?_
      exact pw_retN (T := tab) rfl rfl rfl ⟨rfl, rfl⟩ trivial rfl
    · refine pw_skip ?_
      refine pn_block ?_
      exact pn_iter' (p3 + decSize s1 p3) ⟨rfl, rfl, rfl, trivial⟩ ⟨rfl, trivial⟩ rfl
  · refine po_evs (T := tab) 1 rfl rfl ?_
    refine po_nil ?_
    refine pn_seq ?_
    refine pw_seq ?_
    refine pw_else rfl ?_
    refine pw_exit rfl ?_
    refine pn_seq ?_
    refine pw_seq ?_
    refine pw_region ?_
    refine po_evs (T := tab) 1 rfl rfl ?_
    refine po_nil ?_
    refine pn_seq ?_
    exact pw_retN (T := tab) rfl rfl rfl ⟨rfl, rfl⟩ trivial rfl

set_option maxRecDepth 100000 in
theorem Strings_IndexFunc_i2_ok (fu : Nat) (s1 : Bs) : ∀ r, Strings_IndexFunc_m fu (fun (z1 : Int) => Name_capital_m fu z1) s1 = some r → DC laidL Tryz.prog 89 [.v (.string ⟨⟨s1⟩⟩), .fn (.func 82) [] []] (.v (.int .i64 r)) := by
  intro r hr
  refine fc_intro (args := [.v (.string ⟨⟨s1⟩⟩), .fn (.func 82) [] []]) (S := []) (N0 := []) (post := fun r p S => p = .v (.int .i64 r) ∧ S = []) Tryz.func89 rfl rfl hr fun w0 X X0 σ0 _ => ?_
  refine pw_seq ?_
  refine pw_region ?_
  refine po_evs (T := tab) 1 rfl rfl ?_
  refine po_nil ?_
  refine pn_seq ?_
  refine pw_seq ?_
  refine pw_region ?_
  refine po_evs (T := tab) 2 rfl rfl ?_
  refine po_call (enc := fun (r2 : Int) => .v (.int .i64 r2)) (qs := [.v (.string ⟨⟨s1⟩⟩), .fn (.func 82) [] [], .v (.bool true)]) (Strings_indexFunc_i2_ok fu s1 true) rfl rfl ⟨⟨_, rfl, .rfl⟩, ⟨_, rfl, .rfl⟩, ⟨_, rfl, .rfl⟩, trivial⟩ (fun _ => rfl) call104 rfl rfl fun r2 hr2 => ?_
  refine po_evs (T := tab) 1 rfl rfl ?_
  refine po_nil ?_
  refine pn_seq ?_
  exact pw_retN (T := tab) rfl rfl rfl ⟨rfl, rfl⟩ trivial rfl

set_option maxRecDepth 100000 in
theorem Strings_ContainsFunc_i2_ok (fu : Nat) (s1 : Bs) : ∀ r, Strings_ContainsFunc_m fu (fun (z1 : Int) => Name_capital_m fu z1) s1 = some r → DC laidL Tryz.prog 81 [.v (.string ⟨⟨s1⟩⟩), .fn (.func 82) [] []] (.v (.bool r)) := by
  intro r hr
  refine fc_intro (args := [.v (.string ⟨⟨s1⟩⟩), .fn (.func 82) [] []]) (S := []) (N0 := []) (post := fun r p S => p = .v (.bool r) ∧ S = []) Tryz.func81 rfl rfl hr fun w0 X X0 σ0 _ => ?_
  refine pw_seq ?_
  refine pw_region ?_
  refine po_evs (T := tab) 1 rfl rfl ?_
  refine po_nil ?_
  refine pn_seq ?_
  refine pw_seq ?_
  refine pw_region ?_
  refine po_evs (T := tab) 2 rfl rfl ?_
  refine po_call (enc := fun (r2 : Int) => .v (.int .i64 r2)) (qs := [.v (.string ⟨⟨s1⟩⟩), .fn (.func 82) [] []]) (Strings_IndexFunc_i2_ok fu s1) rfl rfl ⟨⟨_, rfl, .rfl⟩, ⟨_, rfl, .rfl⟩, trivial⟩ (fun _ => rfl) call89 rfl rfl fun r2 hr2 => ?_
  refine po_evs (T := tab) 2 rfl rfl ?_
  refine po_nil ?_
  refine pn_seq ?_
  exact pw_retN (T := tab) rfl rfl rfl ⟨rfl, rfl⟩ trivial rfl

def Name_reserved_m (_fu : Nat) : Option (List Bs) := some [[97, 110, 110, 111, 116, 97, 116, 105, 111, 110, 45, 120, 109, 108], [99, 111, 108, 111, 114, 45, 112, 114, 111, 102, 105, 108, 101], [102, 111, 110, 116, 45, 102, 97, 99, 101], [102, 111, 110, 116, 45, 102, 97, 99, 101, 45, 115, 114, 99], [102, 111, 110, 116, 45, 102, 97, 99, 101, 45, 117, 114, 105], [102, 111, 110, 116, 45, 102, 97, 99, 101, 45, 102, 111, 114, 109, 97, 116], [102, 111, 110, 116, 45, 102, 97, 99, 101, 45, 110, 97, 109, 101], [109, 105, 115, 115, 105, 110, 103, 45, 103, 108, 121, 112, 104]]

set_option maxRecDepth 100000 in
theorem Name_reserved_ok (fu : Nat) : ∀ r, Name_reserved_m fu = some r → DC laidL Tryz.prog 85 [] (.sl 1 false (r.map cStr)) := by
  intro r hr
  refine fc_intro (args := []) (S := []) (N0 := []) (post := fun r p S => p = .sl 1 false (r.map cStr) ∧ S = []) Tryz.func85 rfl rfl hr fun w0 X X0 σ0 _ => ?_
  refine pw_seq ?_
  refine pw_region ?_
  refine po_evs (T := tab) 1 rfl rfl ?_
  refine po_nil ?_
  refine pn_seq ?_
  refine pw_seq ?_
  refine pw_region ?_
  refine po_lit (T := tab) (rows := [[97, 110, 110, 111, 116, 97, 116, 105, 111, 110, 45, 120, 109, 108], [99, 111, 108, 111, 114, 45, 112, 114, 111, 102, 105, 108, 101], [102, 111, 110, 116, 45, 102, 97, 99, 101], [102, 111, 110, 116, 45, 102, 97, 99, 101, 45, 115, 114, 99], [102, 111, 110, 116, 45, 102, 97, 99, 101, 45, 117, 114, 105], [102, 111, 110, 116, 45, 102, 97, 99, 101, 45, 102, 111, 114, 109, 97, 116], [102, 111, 110, 116, 45, 102, 97, 99, 101, 45, 110, 97, 109, 101], [109, 105, 115, 115, 105, 110, 103, 45, 103, 108, 121, 112, 104]].map cStr) 1 rfl rfl rfl rfl rfl rfl rfl rfl rfl rfl rfl rfl rfl rfl ?_
  refine po_evs (T := tab) 1 rfl rfl ?_
  refine po_nil ?_
  refine pn_seq ?_
  refine pw_freeze 1 rfl rfl rfl ?_
  exact pw_retN (T := tab) rfl rfl rfl ⟨rfl, rfl⟩ trivial rfl

def Slices_Index_string_l1 (s1 : (List Bs)) (v2 : Bs) : Nat → Int → Option Int
  | 0, _ => none
  | k1 + 1, t3 => cnd (decide (t3 < ((s1.length : Nat) : Int))) (bnd (idx s1 t3) fun y4 => cnd (v2 == y4) (some t3) (bnd (rng .i64 (t3 + 1)) fun i5 => (Slices_Index_string_l1 s1 v2 k1) i5)) (some (-1))

def Slices_Index_string_m (fu : Nat) (s1 : (List Bs)) (v2 : Bs) : Option Int := (Slices_Index_string_l1 s1 v2) fu 0

set_option maxHeartbeats 10000000 in
set_option maxRecDepth 100000 in
theorem Slices_Index_string_ok (fu : Nat) (s1 : (List Bs)) (v2 : Bs) : ∀ r, Slices_Index_string_m fu s1 v2 = some r → DC laidL Tryz.prog 102 [.sl 1 false (s1.map cStr), .v (.string ⟨⟨v2⟩⟩)] (.v (.int .i64 r)) := by
  intro r hr
  refine fc_intro (args := [.sl 1 false (s1.map cStr), .v (.string ⟨⟨v2⟩⟩)]) (S := []) (N0 := []) (post := fun r p S => p = .v (.int .i64 r) ∧ S = []) Tryz.func102 rfl rfl hr fun w0 X X0 σ0 _ => ?_
  refine pw_seq ?_
  refine pw_region ?_
  refine po_evs (T := tab) 1 rfl rfl ?_
  refine po_nil ?_
  refine pn_seq ?_
  refine pw_seq ?_
  refine pw_seq ?_
  refine pw_region ?_
  refine po_evs (T := tab) 1 rfl rfl ?_
  refine po_len (T := tab) cStr s1 rfl rfl rfl rfl rfl rfl rfl rfl ?_
  refine po_evs (T := tab) 1 rfl rfl ?_
  refine po_nil ?_
  refine pn_seq ?_
  refine pw_block ?_
  refine pw_loop' (Slices_Index_string_l1 s1 v2) (fun (t3 : Int) => [(0, .sl 1 false (s1.map cStr)), (1, .v (.string ⟨⟨v2⟩⟩)), (7, .v (.int .i64 ((s1.length : Nat) : Int))), (8, .v (.int .i64 t3))]) (fun (t3 : Int) => []) fu 0 (fun _ => rfl) ⟨rfl, rfl, rfl, rfl, trivial⟩ trivial rfl ?_
  rintro k1 t3
  refine pw_seq ?_
  refine pw_region ?_
  refine po_evs (T := tab) 1 rfl rfl ?_
  refine po_nil ?_
  refine pn_seq ?_
  refine pw_seq ?_
  refine pw_cnd rfl ?_ ?_
  · refine pw_skip ?_
    refine pn_seq ?_
    refine pw_seq ?_
    refine pw_block ?_
    refine pw_seq ?_
    refine pw_region ?_
    refine po_evs (T := tab) 2 rfl rfl ?_
    refine po_nil ?_
    refine pn_seq ?_
    refine pw_seq ?_
    refine pw_region ?_
    refine po_evs (T := tab) 3 rfl rfl ?_
    refine po_idx (T := tab) cStr s1 rfl rfl rfl rfl rfl rfl rfl fun y4 hy4 => ?_
    refine po_evs (T := tab) 2 rfl rfl ?_
    refine po_nil ?_
    refine pn_seq ?_
    refine pw_cnd rfl ?_ ?_
    · refine pw_seq ?_
      refine pw_region ?_
      refine po_evs (T := tab) 2 rfl rfl ?_
      refine po_nil ?_
      refine pn_seq ?_
      exact pw_retN (T := tab) rfl rfl rfl ⟨rfl, rfl⟩ trivial rfl
    · refine pw_skip ?_
      refine pn_block ?_
      refine pn_seq ?_
      refine pw_region ?_
      refine po_arith' (T := tab) rfl rfl rfl rfl fun i5 hi5 => ?_
      refine po_evs (T := tab) 1 rfl rfl ?_
      refine po_nil ?_
      exact pn_iter' i5 ⟨rfl, rfl, rfl, rfl, trivial⟩ trivial rfl
  · refine pw_exit rfl ?_
    refine pn_seq ?_
    refine pw_seq ?_
    refine pw_region ?_
    refine po_evs (T := tab) 1 rfl rfl ?_
    refine po_nil ?_
    refine pn_seq ?_
    exact pw_retN (T := tab) rfl rfl rfl ⟨rfl, rfl⟩ trivial rfl

def Slices_Contains_string_m (fu : Nat) (s1 : (List Bs)) (v2 : Bs) : Option Bool := bnd (Slices_Index_string_m fu s1 v2) fun r3 => some (decide (r3 ≥ 0))

set_option maxRecDepth 100000 in
theorem Slices_Contains_string_ok (fu : Nat) (s1 : (List Bs)) (v2 : Bs) : ∀ r, Slices_Contains_string_m fu s1 v2 = some r → DC laidL Tryz.prog 84 [.sl 1 false (s1.map cStr), .v (.string ⟨⟨v2⟩⟩)] (.v (.bool r)) := by
  intro r hr
  refine fc_intro (args := [.sl 1 false (s1.map cStr), .v (.string ⟨⟨v2⟩⟩)]) (S := []) (N0 := []) (post := fun r p S => p = .v (.bool r) ∧ S = []) Tryz.func84 rfl rfl hr fun w0 X X0 σ0 _ => ?_
  refine pw_seq ?_
  refine pw_region ?_
  refine po_evs (T := tab) 1 rfl rfl ?_
  refine po_nil ?_
  refine pn_seq ?_
  refine pw_seq ?_
  refine pw_region ?_
  refine po_evs (T := tab) 2 rfl rfl ?_
  refine po_call (enc := fun (r3 : Int) => .v (.int .i64 r3)) (qs := [.sl 1 false (s1.map cStr), .v (.string ⟨⟨v2⟩⟩)]) (Slices_Index_string_ok fu s1 v2) rfl rfl ⟨⟨_, rfl, .rfl⟩, ⟨_, rfl, .rfl⟩, trivial⟩ (fun _ => rfl) call102 rfl rfl fun r3 hr3 => ?_
  refine po_evs (T := tab) 2 rfl rfl ?_
  refine po_nil ?_
  refine pn_seq ?_
  exact pw_retN (T := tab) rfl rfl rfl ⟨rfl, rfl⟩ trivial rfl

def Name_Custom_m (fu : Nat) (s1 : Bs) : Option Bool := bnd (Name_Right_m fu s1) fun r2 => cnd r2 (bnd (chr s1 0) fun b3 => bnd (rng .i32 b3) fun i4 => bnd (Name_small_m fu i4) fun r5 => cnd r5 (bnd (Strings_ContainsFunc_m fu (fun (z1 : Int) => Name_capital_m fu z1) s1) fun r6 => cnd (!r6) (bnd (hasByte_m fu s1 45) fun r7 => cnd r7 (bnd (Name_reserved_m fu) fun r8 => bnd (Slices_Contains_string_m fu r8 s1) fun r9 => some (!r9)) (some false)) (some false)) (some false)) (some false)

set_option maxHeartbeats 10000000 in
set_option maxRecDepth 100000 in
theorem Name_Custom_ok (fu : Nat) (s1 : Bs) : ∀ r, Name_Custom_m fu s1 = some r → DC laidL Tryz.prog 57 [.v (.string ⟨⟨s1⟩⟩)] (.v (.bool r)) := by
  intro r hr
  refine fc_intro (args := [.v (.string ⟨⟨s1⟩⟩)]) (S := []) (N0 := []) (post := fun r p S => p = .v (.bool r) ∧ S = []) Tryz.func57 rfl rfl hr fun w0 X X0 σ0 _ => ?_
  refine pw_seq ?_
  refine pw_region ?_
  refine po_evs (T := tab) 1 rfl rfl ?_
  refine po_nil ?_
  refine pn_seq ?_
  refine pw_seq ?_
  refine pw_region ?_
  refine po_evs (T := tab) 1 rfl rfl ?_
  refine po_call (enc := fun (r2 : Bool) => .v (.bool r2)) (qs := [.v (.string ⟨⟨s1⟩⟩)]) (Name_Right_ok fu s1) rfl rfl ⟨⟨_, rfl, .rfl⟩, trivial⟩ (fun _ => rfl) call78 rfl rfl fun r2 hr2 => ?_
  refine po_evs (T := tab) 1 rfl rfl ?_
  refine po_split (j := 5) rfl ?_ ?_
  · refine po_evs (T := tab) 1 rfl rfl ?_
    refine po_chr (T := tab) (s := s1) rfl rfl rfl rfl rfl rfl rfl fun b3 hb3 => ?_
    refine po_arith' (T := tab) rfl rfl rfl rfl fun i4 hi4 => ?_
    refine po_call (enc := fun (r5 : Bool) => .v (.bool r5)) (qs := [.v (.int .i32 i4)]) (Name_small_ok fu i4) rfl rfl ⟨⟨_, rfl, .rfl⟩, trivial⟩ (fun _ => rfl) call80 rfl rfl fun r5 hr5 => ?_
    refine po_evs (T := tab) 2 rfl rfl ?_
    refine po_split (j := 11) rfl ?_ ?_
    · refine po_evs (T := tab) 1 rfl rfl ?_
      refine po_call (enc := fun (r6 : Bool) => .v (.bool r6)) (qs := [.v (.string ⟨⟨s1⟩⟩), .fn (.func 82) [] []]) (Strings_ContainsFunc_i2_ok fu s1) rfl rfl ⟨⟨_, rfl, .rfl⟩, ⟨_, rfl, .rfl⟩, trivial⟩ (fun _ => rfl) call81 rfl rfl fun r6 hr6 => ?_
      refine po_evs (T := tab) 3 rfl rfl ?_
      refine po_split (j := 16) rfl ?_ ?_
      · refine po_evs (T := tab) 1 rfl rfl ?_
        refine po_call (enc := fun r => .v (.bool r)) (qs := [.v (.string ⟨⟨s1⟩⟩), .v (.string ⟨⟨[45]⟩⟩)]) (hasByte_ok fu s1 45) rfl rfl ⟨⟨_, rfl, .rfl⟩, ⟨_, rfl, .rfl⟩, trivial⟩ (fun _ => rfl) call83 rfl rfl fun r7 hr7 => ?_
        refine po_evs (T := tab) 2 rfl rfl ?_
        refine po_split (j := 20) rfl ?_ ?_
        · refine po_call (enc := fun (r8 : (List Bs)) => .sl 1 false (r8.map cStr)) (qs := []) (Name_reserved_ok fu) rfl rfl trivial (fun _ => rfl) call85 rfl rfl fun r8 hr8 => ?_
          refine po_evs (T := tab) 1 rfl rfl ?_
          refine po_call (enc := fun (r9 : Bool) => .v (.bool r9)) (qs := [.sl 1 false (r8.map cStr), .v (.string ⟨⟨s1⟩⟩)]) (Slices_Contains_string_ok fu r8 s1) rfl rfl ⟨⟨_, rfl, .rfl⟩, ⟨_, rfl, .rfl⟩, trivial⟩ (fun _ => rfl) call84 rfl rfl fun r9 hr9 => ?_
          refine po_evs (T := tab) 3 rfl rfl ?_
          refine po_nil ?_
          refine pn_seq ?_
          exact pw_retN (T := tab) rfl rfl rfl ⟨rfl, rfl⟩ trivial rfl
        · refine po_evs (T := tab) 6 rfl rfl ?_
          refine po_nil ?_
          refine pn_seq ?_
          exact pw_retN (T := tab) rfl rfl rfl ⟨rfl, rfl⟩ trivial rfl
      · refine po_evs (T := tab) 10 rfl rfl ?_
        refine po_nil ?_
        refine pn_seq ?_
        exact pw_retN (T := tab) rfl rfl rfl ⟨rfl, rfl⟩ trivial rfl
    · refine po_evs (T := tab) 15 rfl rfl ?_
      refine po_nil ?_
      refine pn_seq ?_
      exact pw_retN (T := tab) rfl rfl rfl ⟨rfl, rfl⟩ trivial rfl
  · refine po_evs (T := tab) 21 rfl rfl ?_
    refine po_nil ?_
    refine pn_seq ?_
    exact pw_retN (T := tab) rfl rfl rfl ⟨rfl, rfl⟩ trivial rfl

def Forest_named_j1 (x1 : Node) (c6 : Bs) : Option Bool := cnd (x1.Name == ([] : Bs)) (cnd (x1.Is == ([] : Bs)) (cnd (c6 == ([] : Bs)) (some (((x1.Attrs.length : Nat) : Int) == 0)) (some false)) (some false)) (some false)

def Forest_named_m (fu : Nat) (x1 : Node) : Option Bool := cnd (x1.Kind == 1) (bnd (Name_Fit_m fu x1.Name) fun r2 => cnd (r2.2 == 0) (cnd (r2.1 == x1.Name) (cnd (x1.Is == ([] : Bs)) (cnd (x1.Data == ([] : Bs)) (bnd (Attr_Right_m fu x1.Attrs) fun r3 => some r3) (some false)) (bnd (Name_Custom_m fu x1.Is) fun r4 => cnd r4 (cnd (x1.Data == ([] : Bs)) (bnd (Attr_Right_m fu x1.Attrs) fun r5 => some r5) (some false)) (some false))) (some false)) (some false)) (cnd (x1.Kind == 2) (cnd (decide (((x1.Data.length : Nat) : Int) > 200)) (some false) ((Forest_named_j1 x1) [])) (cnd (x1.Kind == 0) (cnd (x1.Kind == 0) ((Forest_named_j1 x1) x1.Data) (some false)) (cnd (x1.Kind == 3) (cnd (x1.Kind == 3) ((Forest_named_j1 x1) x1.Data) (some false)) (cnd (x1.Kind == 4) ((Forest_named_j1 x1) x1.Data) (some false)))))

set_option maxHeartbeats 10000000 in
set_option maxRecDepth 100000 in
theorem Forest_named_ok (fu : Nat) (x1 : Node) : ∀ r, Forest_named_m fu x1 = some r → DC laidL Tryz.prog 34 [.agg (cNode x1)] (.v (.bool r)) := by
  intro r hr
  refine fc_intro (args := [.agg (cNode x1)]) (S := []) (N0 := []) (post := fun r p S => p = .v (.bool r) ∧ S = []) Tryz.func34 rfl rfl hr fun w0 X X0 σ0 _ => ?_
  refine pw_seq ?_
  refine pw_region ?_
  refine po_box  1 rfl rfl rfl rfl rfl rfl rfl rfl rfl rfl ?_
  refine po_evs (T := tab) 1 rfl rfl ?_
  refine po_nil ?_
  refine pn_seq ?_
  refine pw_seq ?_
  refine pw_seq ?_
  refine pw_region ?_
  refine po_evs (T := tab) 2 rfl rfl ?_
  refine po_nil ?_
  refine pn_seq ?_
  refine pw_block ?_
  refine pw_seq ?_
  refine pw_joinK (Forest_named_j1 x1) (fun (c6 : Bs) => [(1, .loc 1 0)]) (fun (c6 : Bs) => [(1, .box 37 [.v (.int .i64 x1.Kind), .v (.string ⟨⟨x1.Name⟩⟩), .v (.string ⟨⟨x1.Is⟩⟩), .v (.string ⟨⟨c6⟩⟩), .sl 2 false (x1.Attrs.map cAttr), .v (.int .i64 x1.Parent), .sl 1 false (x1.Kids.map cInt_i64), .v (.int .i64 x1.Host), .v (.int .i64 x1.Under), .v (.int .i64 x1.Doc)])]) ?_ fun hj1 => ?_
  · rintro c6
    refine pn_seq ?_
    refine pw_seq ?_
    refine pw_seq ?_
    refine pw_region ?_
    refine po_evs (T := tab) 4 rfl rfl ?_
    refine po_split (j := 57) rfl ?_ ?_
    · refine po_evs (T := tab) 5 rfl rfl ?_
      refine po_split (j := 62) rfl ?_ ?_
      · refine po_evs (T := tab) 5 rfl rfl ?_
        refine po_split (j := 67) rfl ?_ ?_
        · refine po_evs (T := tab) 2 rfl rfl ?_
          refine po_len (T := tab) cAttr x1.Attrs rfl rfl rfl rfl rfl rfl rfl rfl ?_
          refine po_evs (T := tab) 3 rfl rfl ?_
          refine po_nil ?_
          refine pn_seq ?_
          exact pw_retN (T := tab) rfl rfl rfl ⟨rfl, rfl⟩ trivial rfl
        · refine po_evs (T := tab) 6 rfl rfl ?_
          refine po_nil ?_
          refine pn_seq ?_
          exact pw_retN (T := tab) rfl rfl rfl ⟨rfl, rfl⟩ trivial rfl
      · refine po_evs (T := tab) 11 rfl rfl ?_
        refine po_nil ?_
        refine pn_seq ?_
        exact pw_retN (T := tab) rfl rfl rfl ⟨rfl, rfl⟩ trivial rfl
    · refine po_evs (T := tab) 16 rfl rfl ?_
      refine po_nil ?_
      refine pn_seq ?_
      exact pw_retN (T := tab) rfl rfl rfl ⟨rfl, rfl⟩ trivial rfl
  · refine pw_block ?_
    refine pw_seq ?_
    refine pw_block ?_
    refine pw_seq ?_
    refine pw_block ?_
    refine pw_seq ?_
    refine pw_seq ?_
    refine pw_seq ?_
    refine pw_region ?_
    refine po_evs (T := tab) 2 rfl rfl ?_
    refine po_nil ?_
    refine pn_seq ?_
    refine pw_cnd rfl ?_ ?_
    · refine pw_exit rfl ?_
      refine pn_seq ?_
      refine pw_seq ?_
      refine pw_seq ?_
      refine pw_region ?_
      refine po_evs (T := tab) 2 rfl rfl ?_
      refine po_call (enc := fun (r2 : (Bs × Int)) => .tup [.v (.string ⟨⟨r2.1⟩⟩), .v (.int .i64 r2.2)]) (qs := [.v (.string ⟨⟨x1.Name⟩⟩)]) (Name_Fit_ok fu x1.Name) rfl rfl ⟨⟨_, rfl, .rfl⟩, trivial⟩ (fun _ => rfl) call56 rfl rfl fun r2 hr2 => ?_
      refine po_evs (T := tab) 5 rfl rfl ?_
      refine po_nil ?_
      refine pn_seq ?_
      refine pw_seq ?_
      refine pw_region ?_
      refine po_evs (T := tab) 3 rfl rfl ?_
      refine po_split (j := 23) rfl ?_ ?_
      · refine po_evs (T := tab) 6 rfl rfl ?_
        refine po_split (j := 29) rfl ?_ ?_
        · refine po_evs (T := tab) 4 rfl rfl ?_
          refine po_split (j := 33) rfl ?_ ?_
          · refine po_evs (T := tab) 11 rfl rfl ?_
            refine po_split (j := 44) rfl ?_ ?_
            · refine po_evs (T := tab) 2 rfl rfl ?_
              refine po_call (enc := fun (r3 : Bool) => .v (.bool r3)) (qs := [.sl 2 false (x1.Attrs.map cAttr)]) (Attr_Right_ok fu x1.Attrs) rfl rfl ⟨⟨_, rfl, .rfl⟩, trivial⟩ (fun _ => rfl) call58 rfl rfl fun r3 hr3 => ?_
              refine po_evs (T := tab) 2 rfl rfl ?_
              refine po_nil ?_
              refine pn_seq ?_
              exact pw_retN (T := tab) rfl rfl rfl ⟨rfl, rfl⟩ trivial rfl
            · refine po_evs (T := tab) 5 rfl rfl ?_
              refine po_nil ?_
              refine pn_seq ?_
              exact pw_retN (T := tab) rfl rfl rfl ⟨rfl, rfl⟩ trivial rfl
          · refine po_evs (T := tab) 2 rfl rfl ?_
            refine po_call (enc := fun (r4 : Bool) => .v (.bool r4)) (qs := [.v (.string ⟨⟨x1.Is⟩⟩)]) (Name_Custom_ok fu x1.Is) rfl rfl ⟨⟨_, rfl, .rfl⟩, trivial⟩ (fun _ => rfl) call57 rfl rfl fun r4 hr4 => ?_
            refine po_evs (T := tab) 3 rfl rfl ?_
            refine po_split (j := 39) rfl ?_ ?_
            · refine po_evs (T := tab) 5 rfl rfl ?_
              refine po_split (j := 44) rfl ?_ ?_
              · refine po_evs (T := tab) 2 rfl rfl ?_
                refine po_call (enc := fun (r5 : Bool) => .v (.bool r5)) (qs := [.sl 2 false (x1.Attrs.map cAttr)]) (Attr_Right_ok fu x1.Attrs) rfl rfl ⟨⟨_, rfl, .rfl⟩, trivial⟩ (fun _ => rfl) call58 rfl rfl fun r5 hr5 => ?_
                refine po_evs (T := tab) 2 rfl rfl ?_
                refine po_nil ?_
                refine pn_seq ?_
                exact pw_retN (T := tab) rfl rfl rfl ⟨rfl, rfl⟩ trivial rfl
              · refine po_evs (T := tab) 5 rfl rfl ?_
                refine po_nil ?_
                refine pn_seq ?_
                exact pw_retN (T := tab) rfl rfl rfl ⟨rfl, rfl⟩ trivial rfl
            · refine po_evs (T := tab) 10 rfl rfl ?_
              refine po_nil ?_
              refine pn_seq ?_
              exact pw_retN (T := tab) rfl rfl rfl ⟨rfl, rfl⟩ trivial rfl
        · refine po_evs (T := tab) 20 rfl rfl ?_
          refine po_nil ?_
          refine pn_seq ?_
          exact pw_retN (T := tab) rfl rfl rfl ⟨rfl, rfl⟩ trivial rfl
      · refine po_evs (T := tab) 26 rfl rfl ?_
        refine po_nil ?_
        refine pn_seq ?_
        exact pw_retN (T := tab) rfl rfl rfl ⟨rfl, rfl⟩ trivial rfl
    · refine pw_skip ?_
      refine pn_seq ?_
      refine pw_seq ?_
      refine pw_seq ?_
      refine pw_region ?_
      refine po_evs (T := tab) 2 rfl rfl ?_
      refine po_nil ?_
      refine pn_seq ?_
      refine pw_cnd rfl ?_ ?_
      · refine pw_exit rfl ?_
        refine pn_seq ?_
        refine pw_seq ?_
        refine pw_seq ?_
        refine pw_region ?_
        refine po_evs (T := tab) 4 rfl rfl ?_
        refine po_nil ?_
        refine pn_seq ?_
        refine pw_cnd rfl ?_ ?_
        · refine pw_seq ?_
          refine pw_region ?_
          refine po_evs (T := tab) 1 rfl rfl ?_
          refine po_nil ?_
          refine pn_seq ?_
          exact pw_retN (T := tab) rfl rfl rfl ⟨rfl, rfl⟩ trivial rfl
        · refine pw_skip ?_
          refine pn_seq ?_
          refine pw_region ?_
          refine po_evs (T := tab) 1 rfl rfl ?_
          refine po_store (T := tab) rfl rfl rfl rfl rfl rfl rfl rfl rfl rfl rfl rfl ?_
          refine po_nil ?_
          refine pn_block ?_
          exact pn_sub' (hj1 []) ⟨rfl, trivial⟩ ⟨rfl, trivial⟩ rfl
      · refine pw_skip ?_
        refine pn_seq ?_
        refine pw_seq ?_
        refine pw_seq ?_
        refine pw_region ?_
        refine po_evs (T := tab) 2 rfl rfl ?_
        refine po_nil ?_
        refine pn_seq ?_
        refine pw_cnd rfl ?_ ?_
        · refine pw_skip ?_
          refine pn_seq ?_
          refine pw_cnd rfl ?_ ?_
          · refine pw_exit rfl ?_
            exact pn_sub' (hj1 x1.Data) ⟨rfl, trivial⟩ ⟨rfl, trivial⟩ rfl
          · refine pw_skip ?_
            refine pn_seq ?_
            refine pw_exit rfl ?_
            refine pn_seq ?_
            refine pw_seq ?_
            refine pw_region ?_
            refine po_evs (T := tab) 1 rfl rfl ?_
            refine po_nil ?_
            refine pn_seq ?_
            exact pw_retN (T := tab) rfl rfl rfl ⟨rfl, rfl⟩ trivial rfl
        · refine pw_seq ?_
          refine pw_region ?_
          refine po_evs (T := tab) 2 rfl rfl ?_
          refine po_nil ?_
          refine pn_seq ?_
          refine pw_cnd rfl ?_ ?_
          · refine pw_skip ?_
            refine pn_seq ?_
            refine pw_cnd rfl ?_ ?_
            · refine pw_exit rfl ?_
              exact pn_sub' (hj1 x1.Data) ⟨rfl, trivial⟩ ⟨rfl, trivial⟩ rfl
            · refine pw_skip ?_
              refine pn_seq ?_
              refine pw_exit rfl ?_
              refine pn_seq ?_
              refine pw_seq ?_
              refine pw_region ?_
              refine po_evs (T := tab) 1 rfl rfl ?_
              refine po_nil ?_
              refine pn_seq ?_
              exact pw_retN (T := tab) rfl rfl rfl ⟨rfl, rfl⟩ trivial rfl
          · refine pw_region ?_
            refine po_evs (T := tab) 2 rfl rfl ?_
            refine po_nil ?_
            refine pn_seq ?_
            refine pw_cnd rfl ?_ ?_
            · refine pw_exit rfl ?_
              exact pn_sub' (hj1 x1.Data) ⟨rfl, trivial⟩ ⟨rfl, trivial⟩ rfl
            · refine pw_skip ?_
              refine pn_seq ?_
              refine pw_exit rfl ?_
              refine pn_seq ?_
              refine pw_seq ?_
              refine pw_region ?_
              refine po_evs (T := tab) 1 rfl rfl ?_
              refine po_nil ?_
              refine pn_seq ?_
              exact pw_retN (T := tab) rfl rfl rfl ⟨rfl, rfl⟩ trivial rfl

def Forest_view_there_m (_fu : Nat) (v1 : Forest_view) (n2 : Int) : Option Bool := cnd (decide (n2 ≥ 0)) (some (decide (n2 < ((v1.Forest.Nodes.length : Nat) : Int)))) (some false)

set_option maxRecDepth 100000 in
theorem Forest_view_there_ok (fu : Nat) (v1 : Forest_view) (n2 : Int) : ∀ r, Forest_view_there_m fu v1 n2 = some r → DC laidL Tryz.prog 60 [.agg (cForest_view v1), .v (.int .i64 n2)] (.v (.bool r)) := by
  intro r hr
  refine fc_intro (args := [.agg (cForest_view v1), .v (.int .i64 n2)]) (S := []) (N0 := []) (post := fun r p S => p = .v (.bool r) ∧ S = []) Tryz.func60 rfl rfl hr fun w0 X X0 σ0 _ => ?_
  refine pw_seq ?_
  refine pw_region ?_
  refine po_box  2 rfl rfl rfl rfl rfl rfl rfl rfl rfl rfl ?_
  refine po_evs (T := tab) 1 rfl rfl ?_
  refine po_nil ?_
  refine pn_seq ?_
  refine pw_seq ?_
  refine pw_region ?_
  refine po_evs (T := tab) 3 rfl rfl ?_
  refine po_split (j := 7) rfl ?_ ?_
  · refine po_evs (T := tab) 4 rfl rfl ?_
    refine po_len (T := tab) cNode v1.Forest.Nodes rfl rfl rfl rfl rfl rfl rfl rfl ?_
    refine po_evs (T := tab) 3 rfl rfl ?_
    refine po_nil ?_
    refine pn_seq ?_
    exact pw_retN (T := tab) rfl rfl rfl ⟨rfl, rfl⟩ trivial rfl
  · refine po_evs (T := tab) 8 rfl rfl ?_
    refine po_nil ?_
    refine pn_seq ?_
    exact pw_retN (T := tab) rfl rfl rfl ⟨rfl, rfl⟩ trivial rfl

def Forest_view_is_m (fu : Nat) (v1 : Forest_view) (n2 : Int) (kind3 : Int) : Option Bool := bnd (Forest_view_there_m fu v1 n2) fun r4 => cnd r4 (bnd (idx v1.Forest.Nodes n2) fun y5 => some (y5.Kind == kind3)) (some false)

set_option maxRecDepth 100000 in
theorem Forest_view_is_ok (fu : Nat) (v1 : Forest_view) (n2 : Int) (kind3 : Int) : ∀ r, Forest_view_is_m fu v1 n2 kind3 = some r → DC laidL Tryz.prog 59 [.agg (cForest_view v1), .v (.int .i64 n2), .v (.int .i64 kind3)] (.v (.bool r)) := by
  intro r hr
  refine fc_intro (args := [.agg (cForest_view v1), .v (.int .i64 n2), .v (.int .i64 kind3)]) (S := []) (N0 := []) (post := fun r p S => p = .v (.bool r) ∧ S = []) Tryz.func59 rfl rfl hr fun w0 X X0 σ0 _ => ?_
  refine pw_seq ?_
  refine pw_region ?_
  refine po_box  3 rfl rfl rfl rfl rfl rfl rfl rfl rfl rfl ?_
  refine po_evs (T := tab) 1 rfl rfl ?_
  refine po_nil ?_
  refine pn_seq ?_
  refine pw_seq ?_
  refine pw_region ?_
  refine po_evs (T := tab) 2 rfl rfl ?_
  refine po_call (enc := fun (r4 : Bool) => .v (.bool r4)) (qs := [.agg (cForest_view v1), .v (.int .i64 n2)]) (Forest_view_there_ok fu v1 n2) rfl rfl ⟨⟨_, rfl, .rfl⟩, ⟨_, rfl, .rfl⟩, trivial⟩ (fun _ => rfl) call60 rfl rfl fun r4 hr4 => ?_
  refine po_evs (T := tab) 1 rfl rfl ?_
  refine po_split (j := 10) rfl ?_ ?_
  · refine po_evs (T := tab) 4 rfl rfl ?_
    refine po_idx (T := tab) cNode v1.Forest.Nodes rfl rfl rfl rfl rfl rfl rfl fun y5 hy5 => ?_
    refine po_evs (T := tab) 6 rfl rfl ?_
    refine po_nil ?_
    refine pn_seq ?_
    exact pw_retN (T := tab) rfl rfl rfl ⟨rfl, rfl⟩ trivial rfl
  · refine po_evs (T := tab) 11 rfl rfl ?_
    refine po_nil ?_
    refine pn_seq ?_
    exact pw_retN (T := tab) rfl rfl rfl ⟨rfl, rfl⟩ trivial rfl

def Forest_view_owned_m (fu : Nat) (v1 : Forest_view) (n2 : Int) : Option Bool := bnd (idx v1.Forest.Nodes n2) fun y3 => bnd (Forest_view_is_m fu v1 y3.Doc 0) fun r4 => cnd r4 (cnd (y3.Kind != 0) (some true) (some (y3.Doc == n2))) (some false)

set_option maxRecDepth 100000 in
theorem Forest_view_owned_ok (fu : Nat) (v1 : Forest_view) (n2 : Int) : ∀ r, Forest_view_owned_m fu v1 n2 = some r → DC laidL Tryz.prog 35 [.agg (cForest_view v1), .v (.int .i64 n2)] (.v (.bool r)) := by
  intro r hr
  refine fc_intro (args := [.agg (cForest_view v1), .v (.int .i64 n2)]) (S := []) (N0 := []) (post := fun r p S => p = .v (.bool r) ∧ S = []) Tryz.func35 rfl rfl hr fun w0 X X0 σ0 _ => ?_
  refine pw_seq ?_
  refine pw_region ?_
  refine po_box  2 rfl rfl rfl rfl rfl rfl rfl rfl rfl rfl ?_
  refine po_evs (T := tab) 1 rfl rfl ?_
  refine po_nil ?_
  refine pn_seq ?_
  refine pw_seq ?_
  refine pw_region ?_
  refine po_evs (T := tab) 4 rfl rfl ?_
  refine po_idx (T := tab) cNode v1.Forest.Nodes rfl rfl rfl rfl rfl rfl rfl fun y3 hy3 => ?_
  refine po_evs (T := tab) 1 rfl rfl ?_
  refine po_alloc (T := tab) 5 rfl rfl rfl rfl rfl rfl rfl rfl rfl ?_
  refine po_store (T := tab) rfl rfl rfl rfl rfl rfl rfl rfl rfl rfl rfl rfl ?_
  refine po_nil ?_
  refine pn_seq ?_
  refine pw_seq ?_
  refine pw_region ?_
  refine po_evs (T := tab) 3 rfl rfl ?_
  refine po_call (enc := fun (r4 : Bool) => .v (.bool r4)) (qs := [.agg (cForest_view v1), .v (.int .i64 y3.Doc), .v (.int .i64 0)]) (Forest_view_is_ok fu v1 y3.Doc 0) rfl rfl ⟨⟨_, rfl, .rfl⟩, ⟨_, rfl, .rfl⟩, ⟨_, rfl, .rfl⟩, trivial⟩ (fun _ => rfl) call59 rfl rfl fun r4 hr4 => ?_
  refine po_evs (T := tab) 1 rfl rfl ?_
  refine po_split (j := 16) rfl ?_ ?_
  · refine po_evs (T := tab) 4 rfl rfl ?_
    refine po_split (j := 20) rfl ?_ ?_
    · refine po_evs (T := tab) 7 rfl rfl ?_
      refine po_nil ?_
      refine pn_seq ?_
      exact pw_retN (T := tab) rfl rfl rfl ⟨rfl, rfl⟩ trivial rfl
    · refine po_evs (T := tab) 7 rfl rfl ?_
      refine po_nil ?_
      refine pn_seq ?_
      exact pw_retN (T := tab) rfl rfl rfl ⟨rfl, rfl⟩ trivial rfl
  · refine po_evs (T := tab) 11 rfl rfl ?_
    refine po_nil ?_
    refine pn_seq ?_
    exact pw_retN (T := tab) rfl rfl rfl ⟨rfl, rfl⟩ trivial rfl

def Forest_holder_m (_fu : Nat) (kind1 : Int) : Option Bool := cnd (kind1 == 0) (cnd (kind1 == 0) (some true) (some false)) (cnd (kind1 == 1) (cnd (kind1 == 1) (some true) (some false)) (cnd (kind1 == 3) (cnd (kind1 == 3) (some true) (some false)) (cnd (kind1 == 4) (some true) (some false))))

set_option maxHeartbeats 10000000 in
set_option maxRecDepth 100000 in
theorem Forest_holder_ok (fu : Nat) (kind1 : Int) : ∀ r, Forest_holder_m fu kind1 = some r → DC laidL Tryz.prog 61 [.v (.int .i64 kind1)] (.v (.bool r)) := by
  intro r hr
  refine fc_intro (args := [.v (.int .i64 kind1)]) (S := []) (N0 := []) (post := fun r p S => p = .v (.bool r) ∧ S = []) Tryz.func61 rfl rfl hr fun w0 X X0 σ0 _ => ?_
  refine pw_seq ?_
  refine pw_region ?_
  refine po_evs (T := tab) 1 rfl rfl ?_
  refine po_nil ?_
  refine pn_seq ?_
  refine pw_seq ?_
  refine pw_seq ?_
  refine pw_region ?_
  refine po_evs (T := tab) 1 rfl rfl ?_
  refine po_nil ?_
  refine pn_seq ?_
  refine pw_block ?_
  refine pw_seq ?_
  refine pw_seq ?_
  refine pw_region ?_
  refine po_evs (T := tab) 2 rfl rfl ?_
  refine po_nil ?_
  refine pn_seq ?_
  refine pw_cnd rfl ?_ ?_
  · refine pw_skip ?_
    refine pn_seq ?_
    refine pw_cnd rfl ?_ ?_
    · refine pw_seq ?_
      refine pw_region ?_
      refine po_evs (T := tab) 1 rfl rfl ?_
      refine po_nil ?_
      refine pn_seq ?_
      exact pw_retN (T := tab) rfl rfl rfl ⟨rfl, rfl⟩ trivial rfl
    · refine pw_skip ?_
      refine pn_block ?_
      refine pn_seq ?_
      refine pw_seq ?_
      refine pw_region ?_
      refine po_evs (T := tab) 1 rfl rfl ?_
      refine po_nil ?_
      refine pn_seq ?_
      exact pw_retN (T := tab) rfl rfl rfl ⟨rfl, rfl⟩ trivial rfl
  · refine pw_seq ?_
    refine pw_region ?_
    refine po_evs (T := tab) 2 rfl rfl ?_
    refine po_nil ?_
    refine pn_seq ?_
    refine pw_cnd rfl ?_ ?_
    · refine pw_skip ?_
      refine pn_seq ?_
      refine pw_cnd rfl ?_ ?_
      · refine pw_seq ?_
        refine pw_region ?_
        refine po_evs (T := tab) 1 rfl rfl ?_
        refine po_nil ?_
        refine pn_seq ?_
        exact pw_retN (T := tab) rfl rfl rfl ⟨rfl, rfl⟩ trivial rfl
      · refine pw_skip ?_
        refine pn_block ?_
        refine pn_seq ?_
        refine pw_seq ?_
        refine pw_region ?_
        refine po_evs (T := tab) 1 rfl rfl ?_
        refine po_nil ?_
        refine pn_seq ?_
        exact pw_retN (T := tab) rfl rfl rfl ⟨rfl, rfl⟩ trivial rfl
    · refine pw_seq ?_
      refine pw_region ?_
      refine po_evs (T := tab) 2 rfl rfl ?_
      refine po_nil ?_
      refine pn_seq ?_
      refine pw_cnd rfl ?_ ?_
      · refine pw_skip ?_
        refine pn_seq ?_
        refine pw_cnd rfl ?_ ?_
        · refine pw_seq ?_
          refine pw_region ?_
          refine po_evs (T := tab) 1 rfl rfl ?_
          refine po_nil ?_
          refine pn_seq ?_
          exact pw_retN (T := tab) rfl rfl rfl ⟨rfl, rfl⟩ trivial rfl
        · refine pw_skip ?_
          refine pn_block ?_
          refine pn_seq ?_
          refine pw_seq ?_
          refine pw_region ?_
          refine po_evs (T := tab) 1 rfl rfl ?_
          refine po_nil ?_
          refine pn_seq ?_
          exact pw_retN (T := tab) rfl rfl rfl ⟨rfl, rfl⟩ trivial rfl
      · refine pw_region ?_
        refine po_evs (T := tab) 2 rfl rfl ?_
        refine po_nil ?_
        refine pn_seq ?_
        refine pw_cnd rfl ?_ ?_
        · refine pw_seq ?_
          refine pw_region ?_
          refine po_evs (T := tab) 1 rfl rfl ?_
          refine po_nil ?_
          refine pn_seq ?_
          exact pw_retN (T := tab) rfl rfl rfl ⟨rfl, rfl⟩ trivial rfl
        · refine pw_skip ?_
          refine pn_block ?_
          refine pn_seq ?_
          refine pw_seq ?_
          refine pw_region ?_
          refine po_evs (T := tab) 1 rfl rfl ?_
          refine po_nil ?_
          refine pn_seq ?_
          exact pw_retN (T := tab) rfl rfl rfl ⟨rfl, rfl⟩ trivial rfl

def Slices_Index_int_l1 (s1 : (List Int)) (v2 : Int) : Nat → Int → Option Int
  | 0, _ => none
  | k1 + 1, t3 => cnd (decide (t3 < ((s1.length : Nat) : Int))) (bnd (idx s1 t3) fun y4 => cnd (v2 == y4) (some t3) (bnd (rng .i64 (t3 + 1)) fun i5 => (Slices_Index_int_l1 s1 v2 k1) i5)) (some (-1))

def Slices_Index_int_m (fu : Nat) (s1 : (List Int)) (v2 : Int) : Option Int := (Slices_Index_int_l1 s1 v2) fu 0

set_option maxHeartbeats 10000000 in
set_option maxRecDepth 100000 in
theorem Slices_Index_int_ok (fu : Nat) (s1 : (List Int)) (v2 : Int) : ∀ r, Slices_Index_int_m fu s1 v2 = some r → DC laidL Tryz.prog 87 [.sl 1 false (s1.map cInt_i64), .v (.int .i64 v2)] (.v (.int .i64 r)) := by
  intro r hr
  refine fc_intro (args := [.sl 1 false (s1.map cInt_i64), .v (.int .i64 v2)]) (S := []) (N0 := []) (post := fun r p S => p = .v (.int .i64 r) ∧ S = []) Tryz.func87 rfl rfl hr fun w0 X X0 σ0 _ => ?_
  refine pw_seq ?_
  refine pw_region ?_
  refine po_evs (T := tab) 1 rfl rfl ?_
  refine po_nil ?_
  refine pn_seq ?_
  refine pw_seq ?_
  refine pw_seq ?_
  refine pw_region ?_
  refine po_evs (T := tab) 1 rfl rfl ?_
  refine po_len (T := tab) cInt_i64 s1 rfl rfl rfl rfl rfl rfl rfl rfl ?_
  refine po_evs (T := tab) 1 rfl rfl ?_
  refine po_nil ?_
  refine pn_seq ?_
  refine pw_block ?_
  refine pw_loop' (Slices_Index_int_l1 s1 v2) (fun (t3 : Int) => [(0, .sl 1 false (s1.map cInt_i64)), (1, .v (.int .i64 v2)), (7, .v (.int .i64 ((s1.length : Nat) : Int))), (8, .v (.int .i64 t3))]) (fun (t3 : Int) => []) fu 0 (fun _ => rfl) ⟨rfl, rfl, rfl, rfl, trivial⟩ trivial rfl ?_
  rintro k1 t3
  refine pw_seq ?_
  refine pw_region ?_
  refine po_evs (T := tab) 1 rfl rfl ?_
  refine po_nil ?_
  refine pn_seq ?_
  refine pw_seq ?_
  refine pw_cnd rfl ?_ ?_
  · refine pw_skip ?_
    refine pn_seq ?_
    refine pw_seq ?_
    refine pw_block ?_
    refine pw_seq ?_
    refine pw_region ?_
    refine po_evs (T := tab) 2 rfl rfl ?_
    refine po_nil ?_
    refine pn_seq ?_
    refine pw_seq ?_
    refine pw_region ?_
    refine po_evs (T := tab) 3 rfl rfl ?_
    refine po_idx (T := tab) cInt_i64 s1 rfl rfl rfl rfl rfl rfl rfl fun y4 hy4 => ?_
    refine po_evs (T := tab) 2 rfl rfl ?_
    refine po_nil ?_
    refine pn_seq ?_
    refine pw_cnd rfl ?_ ?_
    · refine pw_seq ?_
      refine pw_region ?_
      refine po_evs (T := tab) 2 rfl rfl ?_
      refine po_nil ?_
      refine pn_seq ?_
      exact pw_retN (T := tab) rfl rfl rfl ⟨rfl, rfl⟩ trivial rfl
    · refine pw_skip ?_
      refine pn_block ?_
      refine pn_seq ?_
      refine pw_region ?_
      refine po_arith' (T := tab) rfl rfl rfl rfl fun i5 hi5 => ?_
      refine po_evs (T := tab) 1 rfl rfl ?_
      refine po_nil ?_
      exact pn_iter' i5 ⟨rfl, rfl, rfl, rfl, trivial⟩ trivial rfl
  · refine pw_exit rfl ?_
    refine pn_seq ?_
    refine pw_seq ?_
    refine pw_region ?_
    refine po_evs (T := tab) 1 rfl rfl ?_
    refine po_nil ?_
    refine pn_seq ?_
    exact pw_retN (T := tab) rfl rfl rfl ⟨rfl, rfl⟩ trivial rfl

def Slices_Contains_int_m (fu : Nat) (s1 : (List Int)) (v2 : Int) : Option Bool := bnd (Slices_Index_int_m fu s1 v2) fun r3 => some (decide (r3 ≥ 0))

set_option maxRecDepth 100000 in
theorem Slices_Contains_int_ok (fu : Nat) (s1 : (List Int)) (v2 : Int) : ∀ r, Slices_Contains_int_m fu s1 v2 = some r → DC laidL Tryz.prog 62 [.sl 1 false (s1.map cInt_i64), .v (.int .i64 v2)] (.v (.bool r)) := by
  intro r hr
  refine fc_intro (args := [.sl 1 false (s1.map cInt_i64), .v (.int .i64 v2)]) (S := []) (N0 := []) (post := fun r p S => p = .v (.bool r) ∧ S = []) Tryz.func62 rfl rfl hr fun w0 X X0 σ0 _ => ?_
  refine pw_seq ?_
  refine pw_region ?_
  refine po_evs (T := tab) 1 rfl rfl ?_
  refine po_nil ?_
  refine pn_seq ?_
  refine pw_seq ?_
  refine pw_region ?_
  refine po_evs (T := tab) 2 rfl rfl ?_
  refine po_call (enc := fun (r3 : Int) => .v (.int .i64 r3)) (qs := [.sl 1 false (s1.map cInt_i64), .v (.int .i64 v2)]) (Slices_Index_int_ok fu s1 v2) rfl rfl ⟨⟨_, rfl, .rfl⟩, ⟨_, rfl, .rfl⟩, trivial⟩ (fun _ => rfl) call87 rfl rfl fun r3 hr3 => ?_
  refine po_evs (T := tab) 2 rfl rfl ?_
  refine po_nil ?_
  refine pn_seq ?_
  exact pw_retN (T := tab) rfl rfl rfl ⟨rfl, rfl⟩ trivial rfl

def Forest_view_hung_j1 (fu : Nat) (v1 : Forest_view) (n2 : Int) (y3 : Node) (below4 : Bool) : Option Bool := cnd below4 (bnd (Forest_view_there_m fu v1 y3.Parent) fun r5 => cnd r5 (bnd (idx v1.Forest.Nodes y3.Parent) fun y6 => bnd (Forest_holder_m fu y6.Kind) fun r7 => cnd r7 (bnd (idx v1.Forest.Nodes y3.Parent) fun y8 => bnd (Slices_Contains_int_m fu y8.Kids n2) fun r9 => some r9) (some false)) (some false)) (some false)

def Forest_view_hung_m (fu : Nat) (v1 : Forest_view) (n2 : Int) : Option Bool := bnd (idx v1.Forest.Nodes n2) fun y3 => cnd (y3.Parent == (-1)) (some true) (cnd (y3.Kind == 1) ((Forest_view_hung_j1 fu v1 n2 y3) true) ((Forest_view_hung_j1 fu v1 n2 y3) (y3.Kind == 2)))

set_option maxHeartbeats 10000000 in
set_option maxRecDepth 100000 in
theorem Forest_view_hung_ok (fu : Nat) (v1 : Forest_view) (n2 : Int) : ∀ r, Forest_view_hung_m fu v1 n2 = some r → DC laidL Tryz.prog 36 [.agg (cForest_view v1), .v (.int .i64 n2)] (.v (.bool r)) := by
  intro r hr
  refine fc_intro (args := [.agg (cForest_view v1), .v (.int .i64 n2)]) (S := []) (N0 := []) (post := fun r p S => p = .v (.bool r) ∧ S = []) Tryz.func36 rfl rfl hr fun w0 X X0 σ0 _ => ?_
  refine pw_seq ?_
  refine pw_region ?_
  refine po_box  2 rfl rfl rfl rfl rfl rfl rfl rfl rfl rfl ?_
  refine po_evs (T := tab) 1 rfl rfl ?_
  refine po_nil ?_
  refine pn_seq ?_
  refine pw_seq ?_
  refine pw_region ?_
  refine po_evs (T := tab) 4 rfl rfl ?_
  refine po_idx (T := tab) cNode v1.Forest.Nodes rfl rfl rfl rfl rfl rfl rfl fun y3 hy3 => ?_
  refine po_evs (T := tab) 1 rfl rfl ?_
  refine po_alloc (T := tab) 5 rfl rfl rfl rfl rfl rfl rfl rfl rfl ?_
  refine po_store (T := tab) rfl rfl rfl rfl rfl rfl rfl rfl rfl rfl rfl rfl ?_
  refine po_nil ?_
  refine pn_seq ?_
  refine pw_seq ?_
  refine pw_seq ?_
  refine pw_region ?_
  refine po_evs (T := tab) 3 rfl rfl ?_
  refine po_nil ?_
  refine pn_seq ?_
  refine pw_cnd rfl ?_ ?_
  · refine pw_seq ?_
    refine pw_region ?_
    refine po_evs (T := tab) 1 rfl rfl ?_
    refine po_nil ?_
    refine pn_seq ?_
    exact pw_retN (T := tab) rfl rfl rfl ⟨rfl, rfl⟩ trivial rfl
  · refine pw_skip ?_
    refine pn_seq ?_
    refine pw_seq ?_
    refine pw_region ?_
    refine po_joinK (Forest_view_hung_j1 fu v1 n2 y3) (fun (below4 : Bool) => [(1, .v (.int .i64 n2)), (2, .loc 2 0), (5, .loc 5 0), (6, .v (.bool below4))]) (fun (below4 : Bool) => [(5, .box 37 [.v (.int .i64 y3.Kind), .v (.string ⟨⟨y3.Name⟩⟩), .v (.string ⟨⟨y3.Is⟩⟩), .v (.string ⟨⟨y3.Data⟩⟩), .sl 2 false (y3.Attrs.map cAttr), .v (.int .i64 y3.Parent), .sl 1 false (y3.Kids.map cInt_i64), .v (.int .i64 y3.Host), .v (.int .i64 y3.Under), .v (.int .i64 y3.Doc)]), (2, .box 48 [.sl 10 false (v1.Forest.Nodes.map cNode), .v (.int .i64 v1.Forest.Most)])]) ?_ fun hj1 => ?_
    · rintro below4
      refine pn_seq ?_
      refine pw_seq ?_
      refine pw_region ?_
      refine po_evs (T := tab) 2 rfl rfl ?_
      refine po_split (j := 25) rfl ?_ ?_
      · refine po_evs (T := tab) 3 rfl rfl ?_
        refine po_call (enc := fun (r5 : Bool) => .v (.bool r5)) (qs := [.agg (cForest_view v1), .v (.int .i64 y3.Parent)]) (Forest_view_there_ok fu v1 y3.Parent) rfl rfl ⟨⟨_, rfl, .rfl⟩, ⟨_, rfl, .rfl⟩, trivial⟩ (fun _ => rfl) call60 rfl rfl fun r5 hr5 => ?_
        refine po_evs (T := tab) 2 rfl rfl ?_
        refine po_split (j := 31) rfl ?_ ?_
        · refine po_evs (T := tab) 5 rfl rfl ?_
          refine po_idx (T := tab) cNode v1.Forest.Nodes rfl rfl rfl rfl rfl rfl rfl fun y6 hy6 => ?_
          refine po_evs (T := tab) 2 rfl rfl ?_
          refine po_call (enc := fun (r7 : Bool) => .v (.bool r7)) (qs := [.v (.int .i64 y6.Kind)]) (Forest_holder_ok fu y6.Kind) rfl rfl ⟨⟨_, rfl, .rfl⟩, trivial⟩ (fun _ => rfl) call61 rfl rfl fun r7 hr7 => ?_
          refine po_evs (T := tab) 2 rfl rfl ?_
          refine po_split (j := 42) rfl ?_ ?_
          · refine po_evs (T := tab) 5 rfl rfl ?_
            refine po_idx (T := tab) cNode v1.Forest.Nodes rfl rfl rfl rfl rfl rfl rfl fun y8 hy8 => ?_
            refine po_evs (T := tab) 3 rfl rfl ?_
            refine po_call (enc := fun (r9 : Bool) => .v (.bool r9)) (qs := [.sl 1 false (y8.Kids.map cInt_i64), .v (.int .i64 n2)]) (Slices_Contains_int_ok fu y8.Kids n2) rfl rfl ⟨⟨_, rfl, .rfl⟩, ⟨_, rfl, .rfl⟩, trivial⟩ (fun _ => rfl) call62 rfl rfl fun r9 hr9 => ?_
            refine po_evs (T := tab) 2 rfl rfl ?_
            refine po_nil ?_
            refine pn_seq ?_
            exact pw_retN (T := tab) rfl rfl rfl ⟨rfl, rfl⟩ trivial rfl
          · refine po_evs (T := tab) 12 rfl rfl ?_
            refine po_nil ?_
            refine pn_seq ?_
            exact pw_retN (T := tab) rfl rfl rfl ⟨rfl, rfl⟩ trivial rfl
        · refine po_evs (T := tab) 23 rfl rfl ?_
          refine po_nil ?_
          refine pn_seq ?_
          exact pw_retN (T := tab) rfl rfl rfl ⟨rfl, rfl⟩ trivial rfl
      · refine po_evs (T := tab) 29 rfl rfl ?_
        refine po_nil ?_
        refine pn_seq ?_
        exact pw_retN (T := tab) rfl rfl rfl ⟨rfl, rfl⟩ trivial rfl
    · refine po_evs (T := tab) 4 rfl rfl ?_
      refine po_split (j := 19) rfl ?_ ?_
      · refine po_evs (T := tab) 5 rfl rfl ?_
        refine po_nil ?_
        exact pn_sub' (hj1 true) ⟨rfl, rfl, rfl, rfl, trivial⟩ ⟨rfl, rfl, trivial⟩ rfl
      · refine po_evs (T := tab) 5 rfl rfl ?_
        refine po_nil ?_
        exact pn_sub' (hj1 (y3.Kind == 2)) ⟨rfl, rfl, rfl, rfl, trivial⟩ ⟨rfl, rfl, trivial⟩ rfl

def Forest_view_bears_l1 (fu : Nat) (v1 : Forest_view) (n2 : Int) (y3 : Node) : Nat → Int × Int × (List (Int × Int)) → Option Bool
  | 0, _ => none
  | k1 + 1, (elems4, t5, l6) => cnd (decide (t5 < ((y3.Kids.length : Nat) : Int))) (bnd (idx y3.Kids t5) fun y7 => bnd (Forest_view_there_m fu v1 y7) fun r8 => cnd (!r8) (some false) (cnd (decide ((mget l6 y7 0) > 0)) (some false) (bnd (idx v1.Forest.Nodes y7) fun y9 => cnd (y9.Parent != n2) (some false) (bnd (idx v1.Forest.Nodes y7) fun y10 => cnd (y10.Doc != y3.Doc) (some false) (bnd (rng .i64 ((mget l6 y7 0) + 1)) fun i11 => bnd (idx v1.Forest.Nodes y7) fun y12 => cnd (y12.Kind == 1) (bnd (rng .i64 (elems4 + 1)) fun i13 => bnd (rng .i64 (t5 + 1)) fun i14 => (Forest_view_bears_l1 fu v1 n2 y3 k1) (i13, i14, (mput l6 y7 i11))) (cnd (y12.Kind == 2) (cnd (y3.Kind == 0) (some false) (bnd (rng .i64 (t5 + 1)) fun i15 => (Forest_view_bears_l1 fu v1 n2 y3 k1) (elems4, i15, (mput l6 y7 i11)))) (some false))))))) (bnd (Forest_holder_m fu y3.Kind) fun r16 => cnd r16 (cnd (y3.Kind != 0) (some true) (some (decide (elems4 ≤ 1)))) (cnd (((y3.Kids.length : Nat) : Int) == 0) (cnd (y3.Kind != 0) (some true) (some (decide (elems4 ≤ 1)))) (some false)))

def Forest_view_bears_m (fu : Nat) (v1 : Forest_view) (n2 : Int) : Option Bool := bnd (idx v1.Forest.Nodes n2) fun y3 => (Forest_view_bears_l1 fu v1 n2 y3) fu (0, 0, ([] : (List (Int × Int))))

set_option maxHeartbeats 10000000 in
set_option maxRecDepth 100000 in
theorem Forest_view_bears_ok (fu : Nat) (v1 : Forest_view) (n2 : Int) : ∀ r, Forest_view_bears_m fu v1 n2 = some r → DC laidL Tryz.prog 37 [.agg (cForest_view v1), .v (.int .i64 n2)] (.v (.bool r)) := by
  intro r hr
  refine fc_intro (args := [.agg (cForest_view v1), .v (.int .i64 n2)]) (S := []) (N0 := []) (post := fun r p S => p = .v (.bool r) ∧ S = []) Tryz.func37 rfl rfl hr fun w0 X X0 σ0 _ => ?_
  refine pw_seq ?_
  refine pw_region ?_
  refine po_box  2 rfl rfl rfl rfl rfl rfl rfl rfl rfl rfl ?_
  refine po_evs (T := tab) 1 rfl rfl ?_
  refine po_nil ?_
  refine pn_seq ?_
  refine pw_seq ?_
  refine pw_region ?_
  refine po_evs (T := tab) 4 rfl rfl ?_
  refine po_idx (T := tab) cNode v1.Forest.Nodes rfl rfl rfl rfl rfl rfl rfl fun y3 hy3 => ?_
  refine po_evs (T := tab) 1 rfl rfl ?_
  refine po_alloc (T := tab) 5 rfl rfl rfl rfl rfl rfl rfl rfl rfl ?_
  refine po_store (T := tab) rfl rfl rfl rfl rfl rfl rfl rfl rfl rfl rfl rfl ?_
  refine po_nil ?_
  refine pn_seq ?_
  refine pw_seq ?_
  refine pw_region ?_
  refine po_makeMap 16 rfl rfl rfl rfl rfl rfl rfl ?_
  refine po_evs (T := tab) 1 rfl rfl ?_
  refine po_nil ?_
  refine pn_seq ?_
  refine pw_seq ?_
  refine pw_region ?_
  refine po_evs (T := tab) 1 rfl rfl ?_
  refine po_nil ?_
  refine pn_seq ?_
  refine pw_seq ?_
  refine pw_seq ?_
  refine pw_region ?_
  refine po_evs (T := tab) 2 rfl rfl ?_
  refine po_len (T := tab) cInt_i64 y3.Kids rfl rfl rfl rfl rfl rfl rfl rfl ?_
  refine po_evs (T := tab) 1 rfl rfl ?_
  refine po_nil ?_
  refine pn_seq ?_
  refine pw_block ?_
  refine pw_loop' (Forest_view_bears_l1 fu v1 n2 y3) (fun ((elems4, t5, l6) : Int × Int × (List (Int × Int))) => [(1, .v (.int .i64 n2)), (2, .loc 2 0), (5, .loc 5 0), (6, .own 16), (7, .v (.int .i64 elems4)), (18, .sl 1 false (y3.Kids.map cInt_i64)), (19, .v (.int .i64 ((y3.Kids.length : Nat) : Int))), (20, .v (.int .i64 t5))]) (fun ((elems4, t5, l6) : Int × Int × (List (Int × Int))) => [(16, .mp (l6.map fun p : Int × Int => (keyI .i64 p.1, .v (.int .i64 p.2)))), (5, .box 37 [.v (.int .i64 y3.Kind), .v (.string ⟨⟨y3.Name⟩⟩), .v (.string ⟨⟨y3.Is⟩⟩), .v (.string ⟨⟨y3.Data⟩⟩), .sl 2 false (y3.Attrs.map cAttr), .v (.int .i64 y3.Parent), .sl 1 false (y3.Kids.map cInt_i64), .v (.int .i64 y3.Host), .v (.int .i64 y3.Under), .v (.int .i64 y3.Doc)]), (2, .box 48 [.sl 10 false (v1.Forest.Nodes.map cNode), .v (.int .i64 v1.Forest.Most)])]) fu (0, 0, ([] : (List (Int × Int)))) (fun _ => rfl) ⟨rfl, rfl, rfl, rfl, rfl, rfl, rfl, rfl, trivial⟩ ⟨rfl, rfl, rfl, trivial⟩ rfl ?_
  rintro k1 ⟨elems4, t5, l6⟩
  refine pw_seq ?_
  refine pw_region ?_
  refine po_evs (T := tab) 1 rfl rfl ?_
  refine po_nil ?_
  refine pn_seq ?_
  refine pw_seq ?_
  refine pw_cnd rfl ?_ ?_
  · refine pw_skip ?_
    refine pn_seq ?_
    refine pw_seq ?_
    refine pw_block ?_
    refine pw_seq ?_
    refine pw_region ?_
    refine po_idx (T := tab) cInt_i64 y3.Kids rfl rfl rfl rfl rfl rfl rfl fun y7 hy7 => ?_
    refine po_evs (T := tab) 2 rfl rfl ?_
    refine po_nil ?_
    refine pn_seq ?_
    refine pw_seq ?_
    refine pw_seq ?_
    refine pw_sub' (E' := [(1, .v (.int .i64 n2)), (2, .loc 2 0), (5, .loc 5 0), (6, .own 16), (7, .v (.int .i64 elems4)), (18, .sl 1 false (y3.Kids.map cInt_i64)), (19, .v (.int .i64 ((y3.Kids.length : Nat) : Int))), (20, .v (.int .i64 t5)), (9, .v (.int .i64 y7))]) (S' := [(16, .mp (l6.map fun p : Int × Int => (keyI .i64 p.1, .v (.int .i64 p.2)))), (5, .box 37 [.v (.int .i64 y3.Kind), .v (.string ⟨⟨y3.Name⟩⟩), .v (.string ⟨⟨y3.Is⟩⟩), .v (.string ⟨⟨y3.Data⟩⟩), .sl 2 false (y3.Attrs.map cAttr), .v (.int .i64 y3.Parent), .sl 1 false (y3.Kids.map cInt_i64), .v (.int .i64 y3.Host), .v (.int .i64 y3.Under), .v (.int .i64 y3.Doc)]), (2, .box 48 [.sl 10 false (v1.Forest.Nodes.map cNode), .v (.int .i64 v1.Forest.Most)])]) ?_ ⟨rfl, rfl, rfl, rfl, rfl, rfl, rfl, rfl, rfl, trivial⟩ ⟨rfl, rfl, rfl, trivial⟩ rfl
    refine pw_drawV [0, 0, 3, 7, 15, 31, 31, 127, 255, 511, 1023, 2047, 4095, 8191, 2047, 32767, 65535, 131071, 2047, 524287, 1048575, 2097151, 4194303, 8388607, 16777215, 4194303, 67108863, 134217727, 268435455, 4194303, 541065215, 2147483647, 4294967295] mixed (by kernel_rfl) (by kernel_rfl) rfl rfl ?_
    refine pdv_step0 [4, 5] [48] [] [2] [2] [(24, .agg (cForest_view v1))] [(2, .box 48 [.sl 10 false (v1.Forest.Nodes.map cNode), .v (.int .i64 v1.Forest.Most)])] rfl rfl rfl rfl (by kernel_rfl) (by kernel_rfl) (by kernel_rfl) ⟨rfl, trivial⟩ (fun w0 X X0 σ0 _ => by refine po_evs (T := tab) 1 rfl rfl ?_; refine po_nil ?_; exact pn_end0 ⟨rfl, trivial⟩ ⟨rfl, trivial⟩ rfl) ?_
    refine pdv_step0 [18] [50] [] [] [] [(25, .v (.int .i64 y7))] [] rfl rfl rfl rfl (by kernel_rfl) (by kernel_rfl) (by kernel_rfl) trivial (fun w0 X X0 σ0 _ => by refine po_evs (T := tab) 1 rfl rfl ?_; refine po_nil ?_; exact pn_end0 ⟨rfl, trivial⟩ trivial rfl) ?_
    refine pdv_step (M := (Forest_view_there_m fu v1 y7)) (ment := [(52, [])]) [48, 50] [52] [] [] [] (fun r8 => [(26, .v (.bool r8))]) (fun r8 => []) rfl rfl (fun _ => rfl) (fun _ => rfl) (by kernel_rfl) (by kernel_rfl) (fun _ => by kernel_rfl) (fun _ => trivial) (fun w0 X X0 σ0 _ => by refine po_call (enc := fun (r8 : Bool) => .v (.bool r8)) (qs := [.agg (cForest_view v1), .v (.int .i64 y7)]) (Forest_view_there_ok fu v1 y7) rfl rfl ⟨⟨_, rfl, .rfl⟩, ⟨_, rfl, .rfl⟩, trivial⟩ (fun _ => rfl) call60 rfl rfl fun r8 hr8 => ?_; refine po_nil ?_; exact pn_end ⟨rfl, trivial⟩ trivial rfl) fun r8 hr8 => ?_
    refine pdv_step0 [52] [54] [] [] [] [(27, .v (.bool (!r8)))] [] rfl rfl rfl rfl (by kernel_rfl) (by kernel_rfl) (by kernel_rfl) trivial (fun w0 X X0 σ0 _ => by refine po_evs (T := tab) 1 rfl rfl ?_; refine po_nil ?_; exact pn_end0 ⟨rfl, trivial⟩ trivial rfl) ?_
    refine pdv_step0 [54] [56] [] [] [] [(28, .v (.bool (!r8)))] [] rfl rfl rfl rfl (by kernel_rfl) (by kernel_rfl) (by kernel_rfl) trivial (fun w0 X X0 σ0 _ => by refine po_evs (T := tab) 1 rfl rfl ?_; refine po_nil ?_; exact pn_end0 ⟨rfl, trivial⟩ trivial rfl) ?_
    refine pdv_split (t := 28) rfl ?_ ?_
    · refine pdv_step0 [56] [58] [] [] [] [(29, .tup [])] [] rfl rfl rfl rfl (by kernel_rfl) (by kernel_rfl) (by kernel_rfl) trivial (fun w0 X X0 σ0 _ => by refine po_evs (T := tab) 1 rfl rfl ?_; refine po_nil ?_; exact pn_end0 ⟨rfl, trivial⟩ trivial rfl) ?_
      refine pdv_step0 [56] [60] [] [] [] [(30, .tup [])] [] rfl rfl rfl rfl (by kernel_rfl) (by kernel_rfl) (by kernel_rfl) trivial (fun w0 X X0 σ0 _ => by refine po_evs (T := tab) 1 rfl rfl ?_; refine po_nil ?_; exact pn_end0 ⟨rfl, trivial⟩ trivial rfl) ?_
      refine pdv_step0 [56] [62] [] [] [] [(31, .tup [])] [] rfl rfl rfl rfl (by kernel_rfl) (by kernel_rfl) (by kernel_rfl) trivial (fun w0 X X0 σ0 _ => by refine po_evs (T := tab) 1 rfl rfl ?_; refine po_nil ?_; exact pn_end0 ⟨rfl, trivial⟩ trivial rfl) ?_
      refine pdv_step0 [56] [64] [] [] [] [(32, .tup [])] [] rfl rfl rfl rfl (by kernel_rfl) (by kernel_rfl) (by kernel_rfl) trivial (fun w0 X X0 σ0 _ => by refine po_evs (T := tab) 1 rfl rfl ?_; refine po_nil ?_; exact pn_end0 ⟨rfl, trivial⟩ trivial rfl) ?_
      refine pdv_step0 [56, 64] [66] [] [] [] [(33, .v (.bool true))] [] rfl rfl rfl rfl (by kernel_rfl) (by kernel_rfl) (by kernel_rfl) trivial (fun w0 X X0 σ0 _ => by refine po_evs (T := tab) 1 rfl rfl ?_; refine po_nil ?_; exact pn_end0 ⟨rfl, trivial⟩ trivial rfl) ?_
      refine pdv_step0 [66] [68] [] [] [] [(34, .v (.bool true))] [] rfl rfl rfl rfl (by kernel_rfl) (by kernel_rfl) (by kernel_rfl) trivial (fun w0 X X0 σ0 _ => by refine po_evs (T := tab) 1 rfl rfl ?_; refine po_nil ?_; exact pn_end0 ⟨rfl, trivial⟩ trivial rfl) ?_
      refine pdv_step0 [68] [70] [] [] [] [(35, .tup [])] [] rfl rfl rfl rfl (by kernel_rfl) (by kernel_rfl) (by kernel_rfl) trivial (fun w0 X X0 σ0 _ => by refine po_evs (T := tab) 1 rfl rfl ?_; refine po_nil ?_; exact pn_end0 ⟨rfl, trivial⟩ trivial rfl) ?_
      refine pdv_step0 [68] [72] [] [] [] [(36, .tup [])] [] rfl rfl rfl rfl (by kernel_rfl) (by kernel_rfl) (by kernel_rfl) trivial (fun w0 X X0 σ0 _ => by refine po_evs (T := tab) 1 rfl rfl ?_; refine po_nil ?_; exact pn_end0 ⟨rfl, trivial⟩ trivial rfl) ?_
      refine pdv_step0 [68] [74] [] [] [] [(37, .tup [])] [] rfl rfl rfl rfl (by kernel_rfl) (by kernel_rfl) (by kernel_rfl) trivial (fun w0 X X0 σ0 _ => by refine po_evs (T := tab) 1 rfl rfl ?_; refine po_nil ?_; exact pn_end0 ⟨rfl, trivial⟩ trivial rfl) ?_
      refine pdv_step0 [68] [76] [] [] [] [(38, .tup [])] [] rfl rfl rfl rfl (by kernel_rfl) (by kernel_rfl) (by kernel_rfl) trivial (fun w0 X X0 σ0 _ => by refine po_evs (T := tab) 1 rfl rfl ?_; refine po_nil ?_; exact pn_end0 ⟨rfl, trivial⟩ trivial rfl) ?_
      refine pdv_step0 [68] [78] [] [] [] [(39, .tup [])] [] rfl rfl rfl rfl (by kernel_rfl) (by kernel_rfl) (by kernel_rfl) trivial (fun w0 X X0 σ0 _ => by refine po_evs (T := tab) 1 rfl rfl ?_; refine po_nil ?_; exact pn_end0 ⟨rfl, trivial⟩ trivial rfl) ?_
      refine pdv_step0 [68] [80] [] [] [] [(40, .tup [])] [] rfl rfl rfl rfl (by kernel_rfl) (by kernel_rfl) (by kernel_rfl) trivial (fun w0 X X0 σ0 _ => by refine po_evs (T := tab) 1 rfl rfl ?_; refine po_nil ?_; exact pn_end0 ⟨rfl, trivial⟩ trivial rfl) ?_
      refine pdv_step0 [68] [82] [] [] [] [(41, .tup [])] [] rfl rfl rfl rfl (by kernel_rfl) (by kernel_rfl) (by kernel_rfl) trivial (fun w0 X X0 σ0 _ => by refine po_evs (T := tab) 1 rfl rfl ?_; refine po_nil ?_; exact pn_end0 ⟨rfl, trivial⟩ trivial rfl) ?_
      refine pdv_step0 [68] [84] [] [] [] [(42, .tup [])] [] rfl rfl rfl rfl (by kernel_rfl) (by kernel_rfl) (by kernel_rfl) trivial (fun w0 X X0 σ0 _ => by refine po_evs (T := tab) 1 rfl rfl ?_; refine po_nil ?_; exact pn_end0 ⟨rfl, trivial⟩ trivial rfl) ?_
      refine pdv_step0 [68] [86] [] [] [] [(43, .tup [])] [] rfl rfl rfl rfl (by kernel_rfl) (by kernel_rfl) (by kernel_rfl) trivial (fun w0 X X0 σ0 _ => by refine po_evs (T := tab) 1 rfl rfl ?_; refine po_nil ?_; exact pn_end0 ⟨rfl, trivial⟩ trivial rfl) ?_
      refine pdv_step0 [68, 86] [88] [] [] [] [(44, .v (.bool true))] [] rfl rfl rfl rfl (by kernel_rfl) (by kernel_rfl) (by kernel_rfl) trivial (fun w0 X X0 σ0 _ => by refine po_evs (T := tab) 1 rfl rfl ?_; refine po_nil ?_; exact pn_end0 ⟨rfl, trivial⟩ trivial rfl) ?_
      refine pdv_step0 [88] [90] [] [] [] [(45, .v (.bool true))] [] rfl rfl rfl rfl (by kernel_rfl) (by kernel_rfl) (by kernel_rfl) trivial (fun w0 X X0 σ0 _ => by refine po_evs (T := tab) 1 rfl rfl ?_; refine po_nil ?_; exact pn_end0 ⟨rfl, trivial⟩ trivial rfl) ?_
      refine pdv_step0 [90] [92] [] [] [] [(46, .tup [])] [] rfl rfl rfl rfl (by kernel_rfl) (by kernel_rfl) (by kernel_rfl) trivial (fun w0 X X0 σ0 _ => by refine po_evs (T := tab) 1 rfl rfl ?_; refine po_nil ?_; exact pn_end0 ⟨rfl, trivial⟩ trivial rfl) ?_
      refine pdv_step0 [90] [94] [] [] [] [(47, .tup [])] [] rfl rfl rfl rfl (by kernel_rfl) (by kernel_rfl) (by kernel_rfl) trivial (fun w0 X X0 σ0 _ => by refine po_evs (T := tab) 1 rfl rfl ?_; refine po_nil ?_; exact pn_end0 ⟨rfl, trivial⟩ trivial rfl) ?_
      refine pdv_step0 [90] [96] [] [] [] [(48, .tup [])] [] rfl rfl rfl rfl (by kernel_rfl) (by kernel_rfl) (by kernel_rfl) trivial (fun w0 X X0 σ0 _ => by refine po_evs (T := tab) 1 rfl rfl ?_; refine po_nil ?_; exact pn_end0 ⟨rfl, trivial⟩ trivial rfl) ?_
      refine pdv_step0 [90] [98] [] [] [] [(49, .tup [])] [] rfl rfl rfl rfl (by kernel_rfl) (by kernel_rfl) (by kernel_rfl) trivial (fun w0 X X0 σ0 _ => by refine po_evs (T := tab) 1 rfl rfl ?_; refine po_nil ?_; exact pn_end0 ⟨rfl, trivial⟩ trivial rfl) ?_
      refine pdv_step0 [90] [100] [] [] [] [(50, .tup [])] [] rfl rfl rfl rfl (by kernel_rfl) (by kernel_rfl) (by kernel_rfl) trivial (fun w0 X X0 σ0 _ => by refine po_evs (T := tab) 1 rfl rfl ?_; refine po_nil ?_; exact pn_end0 ⟨rfl, trivial⟩ trivial rfl) ?_
      refine pdv_step0 [90] [102] [] [] [] [(51, .tup [])] [] rfl rfl rfl rfl (by kernel_rfl) (by kernel_rfl) (by kernel_rfl) trivial (fun w0 X X0 σ0 _ => by refine po_evs (T := tab) 1 rfl rfl ?_; refine po_nil ?_; exact pn_end0 ⟨rfl, trivial⟩ trivial rfl) ?_
      refine pdv_step0 [90] [104] [] [] [] [(52, .tup [])] [] rfl rfl rfl rfl (by kernel_rfl) (by kernel_rfl) (by kernel_rfl) trivial (fun w0 X X0 σ0 _ => by refine po_evs (T := tab) 1 rfl rfl ?_; refine po_nil ?_; exact pn_end0 ⟨rfl, trivial⟩ trivial rfl) ?_
      refine pdv_step0 [90] [106] [] [] [] [(53, .tup [])] [] rfl rfl rfl rfl (by kernel_rfl) (by kernel_rfl) (by kernel_rfl) trivial (fun w0 X X0 σ0 _ => by refine po_evs (T := tab) 1 rfl rfl ?_; refine po_nil ?_; exact pn_end0 ⟨rfl, trivial⟩ trivial rfl) ?_
      refine pdv_step0 [90] [108] [] [] [] [(54, .tup [])] [] rfl rfl rfl rfl (by kernel_rfl) (by kernel_rfl) (by kernel_rfl) trivial (fun w0 X X0 σ0 _ => by refine po_evs (T := tab) 1 rfl rfl ?_; refine po_nil ?_; exact pn_end0 ⟨rfl, trivial⟩ trivial rfl) ?_
      refine pdv_step0 [90] [110] [] [] [] [(55, .tup [])] [] rfl rfl rfl rfl (by kernel_rfl) (by kernel_rfl) (by kernel_rfl) trivial (fun w0 X X0 σ0 _ => by refine po_evs (T := tab) 1 rfl rfl ?_; refine po_nil ?_; exact pn_end0 ⟨rfl, trivial⟩ trivial rfl) ?_
      refine pdv_step0 [90, 110] [112] [] [] [] [(56, .v (.bool true))] [] rfl rfl rfl rfl (by kernel_rfl) (by kernel_rfl) (by kernel_rfl) trivial (fun w0 X X0 σ0 _ => by refine po_evs (T := tab) 1 rfl rfl ?_; refine po_nil ?_; exact pn_end0 ⟨rfl, trivial⟩ trivial rfl) ?_
      refine pdv_nil rfl rfl ?_
      refine pn_seq (pw_then rfl ?_)
      refine pw_seq ?_
      refine pw_region ?_
      refine po_evs (T := tab) 1 rfl rfl ?_
      refine po_nil ?_
      refine pn_seq ?_
      exact pw_retN (T := tab) rfl rfl rfl ⟨rfl, rfl⟩ trivial rfl
    · refine pdv_step0 [12, 56] [58] [] [16] [] [(29, .own 16)] [] rfl rfl rfl rfl (by kernel_rfl) (by kernel_rfl) (by kernel_rfl) trivial (fun w0 X X0 σ0 _ => by refine po_evs (T := tab) 1 rfl rfl ?_; refine po_nil ?_; exact pn_end0 ⟨rfl, trivial⟩ trivial rfl) ?_
      refine pdv_step0 [18, 56] [60] [] [] [] [(30, .v (.int .i64 y7))] [] rfl rfl rfl rfl (by kernel_rfl) (by kernel_rfl) (by kernel_rfl) trivial (fun w0 X X0 σ0 _ => by refine po_evs (T := tab) 1 rfl rfl ?_; refine po_nil ?_; exact pn_end0 ⟨rfl, trivial⟩ trivial rfl) ?_
      refine pdv_step0 [33, 56, 58, 60] [62] [] [16] [16] [(31, .v (.int .i64 (mget l6 y7 0)))] [(16, .mp (l6.map fun p : Int × Int => (keyI .i64 p.1, .v (.int .i64 p.2))))] rfl rfl rfl rfl (by kernel_rfl) (by kernel_rfl) (by kernel_rfl) ⟨rfl, trivial⟩ (fun w0 X X0 σ0 _ => by refine po_lookup (T := tab) (keyI_enc .i64) (fun v => .v (.int .i64 v)) l6 y7 0 Tryz.underlying109 Tryz.underlying3 rfl rfl rfl rfl rfl rfl rfl rfl rfl rfl ?_; refine po_nil ?_; exact pn_end0 ⟨rfl, trivial⟩ ⟨rfl, trivial⟩ rfl) ?_
      refine pdv_step0 [56, 62] [64] [] [] [] [(32, .v (.bool (decide ((mget l6 y7 0) > 0))))] [] rfl rfl rfl rfl (by kernel_rfl) (by kernel_rfl) (by kernel_rfl) trivial (fun w0 X X0 σ0 _ => by refine po_evs (T := tab) 1 rfl rfl ?_; refine po_nil ?_; exact pn_end0 ⟨rfl, trivial⟩ trivial rfl) ?_
      refine pdv_step0 [56, 64] [66] [] [] [] [(33, .v (.bool (decide ((mget l6 y7 0) > 0))))] [] rfl rfl rfl rfl (by kernel_rfl) (by kernel_rfl) (by kernel_rfl) trivial (fun w0 X X0 σ0 _ => by refine po_evs (T := tab) 1 rfl rfl ?_; refine po_nil ?_; exact pn_end0 ⟨rfl, trivial⟩ trivial rfl) ?_
      refine pdv_step0 [66] [68] [] [] [] [(34, .v (.bool (decide ((mget l6 y7 0) > 0))))] [] rfl rfl rfl rfl (by kernel_rfl) (by kernel_rfl) (by kernel_rfl) trivial (fun w0 X X0 σ0 _ => by refine po_evs (T := tab) 1 rfl rfl ?_; refine po_nil ?_; exact pn_end0 ⟨rfl, trivial⟩ trivial rfl) ?_
      refine pdv_split (t := 34) rfl ?_ ?_
      · refine pdv_step0 [68] [70] [] [] [] [(35, .tup [])] [] rfl rfl rfl rfl (by kernel_rfl) (by kernel_rfl) (by kernel_rfl) trivial (fun w0 X X0 σ0 _ => by refine po_evs (T := tab) 1 rfl rfl ?_; refine po_nil ?_; exact pn_end0 ⟨rfl, trivial⟩ trivial rfl) ?_
        refine pdv_step0 [68] [72] [] [] [] [(36, .tup [])] [] rfl rfl rfl rfl (by kernel_rfl) (by kernel_rfl) (by kernel_rfl) trivial (fun w0 X X0 σ0 _ => by refine po_evs (T := tab) 1 rfl rfl ?_; refine po_nil ?_; exact pn_end0 ⟨rfl, trivial⟩ trivial rfl) ?_
        refine pdv_step0 [68] [74] [] [] [] [(37, .tup [])] [] rfl rfl rfl rfl (by kernel_rfl) (by kernel_rfl) (by kernel_rfl) trivial (fun w0 X X0 σ0 _ => by refine po_evs (T := tab) 1 rfl rfl ?_; refine po_nil ?_; exact pn_end0 ⟨rfl, trivial⟩ trivial rfl) ?_
        refine pdv_step0 [68] [76] [] [] [] [(38, .tup [])] [] rfl rfl rfl rfl (by kernel_rfl) (by kernel_rfl) (by kernel_rfl) trivial (fun w0 X X0 σ0 _ => by refine po_evs (T := tab) 1 rfl rfl ?_; refine po_nil ?_; exact pn_end0 ⟨rfl, trivial⟩ trivial rfl) ?_
        refine pdv_step0 [68] [78] [] [] [] [(39, .tup [])] [] rfl rfl rfl rfl (by kernel_rfl) (by kernel_rfl) (by kernel_rfl) trivial (fun w0 X X0 σ0 _ => by refine po_evs (T := tab) 1 rfl rfl ?_; refine po_nil ?_; exact pn_end0 ⟨rfl, trivial⟩ trivial rfl) ?_
        refine pdv_step0 [68] [80] [] [] [] [(40, .tup [])] [] rfl rfl rfl rfl (by kernel_rfl) (by kernel_rfl) (by kernel_rfl) trivial (fun w0 X X0 σ0 _ => by refine po_evs (T := tab) 1 rfl rfl ?_; refine po_nil ?_; exact pn_end0 ⟨rfl, trivial⟩ trivial rfl) ?_
        refine pdv_step0 [68] [82] [] [] [] [(41, .tup [])] [] rfl rfl rfl rfl (by kernel_rfl) (by kernel_rfl) (by kernel_rfl) trivial (fun w0 X X0 σ0 _ => by refine po_evs (T := tab) 1 rfl rfl ?_; refine po_nil ?_; exact pn_end0 ⟨rfl, trivial⟩ trivial rfl) ?_
        refine pdv_step0 [68] [84] [] [] [] [(42, .tup [])] [] rfl rfl rfl rfl (by kernel_rfl) (by kernel_rfl) (by kernel_rfl) trivial (fun w0 X X0 σ0 _ => by refine po_evs (T := tab) 1 rfl rfl ?_; refine po_nil ?_; exact pn_end0 ⟨rfl, trivial⟩ trivial rfl) ?_
        refine pdv_step0 [68] [86] [] [] [] [(43, .tup [])] [] rfl rfl rfl rfl (by kernel_rfl) (by kernel_rfl) (by kernel_rfl) trivial (fun w0 X X0 σ0 _ => by refine po_evs (T := tab) 1 rfl rfl ?_; refine po_nil ?_; exact pn_end0 ⟨rfl, trivial⟩ trivial rfl) ?_
        refine pdv_step0 [68, 86] [88] [] [] [] [(44, .v (.bool true))] [] rfl rfl rfl rfl (by kernel_rfl) (by kernel_rfl) (by kernel_rfl) trivial (fun w0 X X0 σ0 _ => by refine po_evs (T := tab) 1 rfl rfl ?_; refine po_nil ?_; exact pn_end0 ⟨rfl, trivial⟩ trivial rfl) ?_
        refine pdv_step0 [88] [90] [] [] [] [(45, .v (.bool true))] [] rfl rfl rfl rfl (by kernel_rfl) (by kernel_rfl) (by kernel_rfl) trivial (fun w0 X X0 σ0 _ => by refine po_evs (T := tab) 1 rfl rfl ?_; refine po_nil ?_; exact pn_end0 ⟨rfl, trivial⟩ trivial rfl) ?_
        refine pdv_step0 [90] [92] [] [] [] [(46, .tup [])] [] rfl rfl rfl rfl (by kernel_rfl) (by kernel_rfl) (by kernel_rfl) trivial (fun w0 X X0 σ0 _ => by refine po_evs (T := tab) 1 rfl rfl ?_; refine po_nil ?_; exact pn_end0 ⟨rfl, trivial⟩ trivial rfl) ?_
        refine pdv_step0 [90] [94] [] [] [] [(47, .tup [])] [] rfl rfl rfl rfl (by kernel_rfl) (by kernel_rfl) (by kernel_rfl) trivial (fun w0 X X0 σ0 _ => by refine po_evs (T := tab) 1 rfl rfl ?_; refine po_nil ?_; exact pn_end0 ⟨rfl, trivial⟩ trivial rfl) ?_
        refine pdv_step0 [90] [96] [] [] [] [(48, .tup [])] [] rfl rfl rfl rfl (by kernel_rfl) (by kernel_rfl) (by kernel_rfl) trivial (fun w0 X X0 σ0 _ => by refine po_evs (T := tab) 1 rfl rfl ?_; refine po_nil ?_; exact pn_end0 ⟨rfl, trivial⟩ trivial rfl) ?_
        refine pdv_step0 [90] [98] [] [] [] [(49, .tup [])] [] rfl rfl rfl rfl (by kernel_rfl) (by kernel_rfl) (by kernel_rfl) trivial (fun w0 X X0 σ0 _ => by refine po_evs (T := tab) 1 rfl rfl ?_; refine po_nil ?_; exact pn_end0 ⟨rfl, trivial⟩ trivial rfl) ?_
        refine pdv_step0 [90] [100] [] [] [] [(50, .tup [])] [] rfl rfl rfl rfl (by kernel_rfl) (by kernel_rfl) (by kernel_rfl) trivial (fun w0 X X0 σ0 _ => by refine po_evs (T := tab) 1 rfl rfl ?_; refine po_nil ?_; exact pn_end0 ⟨rfl, trivial⟩ trivial rfl) ?_
        refine pdv_step0 [90] [102] [] [] [] [(51, .tup [])] [] rfl rfl rfl rfl (by kernel_rfl) (by kernel_rfl) (by kernel_rfl) trivial (fun w0 X X0 σ0 _ => by refine po_evs (T := tab) 1 rfl rfl ?_; refine po_nil ?_; exact pn_end0 ⟨rfl, trivial⟩ trivial rfl) ?_
        refine pdv_step0 [90] [104] [] [] [] [(52, .tup [])] [] rfl rfl rfl rfl (by kernel_rfl) (by kernel_rfl) (by kernel_rfl) trivial (fun w0 X X0 σ0 _ => by refine po_evs (T := tab) 1 rfl rfl ?_; refine po_nil ?_; exact pn_end0 ⟨rfl, trivial⟩ trivial rfl) ?_
        refine pdv_step0 [90] [106] [] [] [] [(53, .tup [])] [] rfl rfl rfl rfl (by kernel_rfl) (by kernel_rfl) (by kernel_rfl) trivial (fun w0 X X0 σ0 _ => by refine po_evs (T := tab) 1 rfl rfl ?_; refine po_nil ?_; exact pn_end0 ⟨rfl, trivial⟩ trivial rfl) ?_
        refine pdv_step0 [90] [108] [] [] [] [(54, .tup [])] [] rfl rfl rfl rfl (by kernel_rfl) (by kernel_rfl) (by kernel_rfl) trivial (fun w0 X X0 σ0 _ => by refine po_evs (T := tab) 1 rfl rfl ?_; refine po_nil ?_; exact pn_end0 ⟨rfl, trivial⟩ trivial rfl) ?_
        refine pdv_step0 [90] [110] [] [] [] [(55, .tup [])] [] rfl rfl rfl rfl (by kernel_rfl) (by kernel_rfl) (by kernel_rfl) trivial (fun w0 X X0 σ0 _ => by refine po_evs (T := tab) 1 rfl rfl ?_; refine po_nil ?_; exact pn_end0 ⟨rfl, trivial⟩ trivial rfl) ?_
        refine pdv_step0 [90, 110] [112] [] [] [] [(56, .v (.bool true))] [] rfl rfl rfl rfl (by kernel_rfl) (by kernel_rfl) (by kernel_rfl) trivial (fun w0 X X0 σ0 _ => by refine po_evs (T := tab) 1 rfl rfl ?_; refine po_nil ?_; exact pn_end0 ⟨rfl, trivial⟩ trivial rfl) ?_
        refine pdv_nil rfl rfl ?_
        refine pn_seq (pw_then rfl ?_)
        refine pw_seq ?_
        refine pw_region ?_
        refine po_evs (T := tab) 1 rfl rfl ?_
        refine po_nil ?_
        refine pn_seq ?_
        exact pw_retN (T := tab) rfl rfl rfl ⟨rfl, rfl⟩ trivial rfl
      · refine pdv_step0 [4, 68] [70] [] [2] [] [(35, .loc 2 0)] [] rfl rfl rfl rfl (by kernel_rfl) (by kernel_rfl) (by kernel_rfl) trivial (fun w0 X X0 σ0 _ => by refine po_evs (T := tab) 1 rfl rfl ?_; refine po_nil ?_; exact pn_end0 ⟨rfl, trivial⟩ trivial rfl) ?_
        refine pdv_step0 [68, 70] [72] [] [2] [] [(36, .loc 2 0)] [] rfl rfl rfl rfl (by kernel_rfl) (by kernel_rfl) (by kernel_rfl) trivial (fun w0 X X0 σ0 _ => by refine po_evs (T := tab) 1 rfl rfl ?_; refine po_nil ?_; exact pn_end0 ⟨rfl, trivial⟩ trivial rfl) ?_
        refine pdv_step0 [5, 68, 72] [74] [] [2] [2] [(37, .sl 10 false (v1.Forest.Nodes.map cNode))] [(2, .box 48 [.sl 10 false (v1.Forest.Nodes.map cNode), .v (.int .i64 v1.Forest.Most)])] rfl rfl rfl rfl (by kernel_rfl) (by kernel_rfl) (by kernel_rfl) ⟨rfl, trivial⟩ (fun w0 X X0 σ0 _ => by refine po_evs (T := tab) 1 rfl rfl ?_; refine po_nil ?_; exact pn_end0 ⟨rfl, trivial⟩ ⟨rfl, trivial⟩ rfl) ?_
        refine pdv_step0 [18, 68] [76] [] [] [] [(38, .v (.int .i64 y7))] [] rfl rfl rfl rfl (by kernel_rfl) (by kernel_rfl) (by kernel_rfl) trivial (fun w0 X X0 σ0 _ => by refine po_evs (T := tab) 1 rfl rfl ?_; refine po_nil ?_; exact pn_end0 ⟨rfl, trivial⟩ trivial rfl) ?_
        refine pdv_step (M := (idx v1.Forest.Nodes y7)) (ment := [(78, [])]) [68, 74, 76] [78] [] [] [] (fun y9 => [(39, .el (cNode y9) 0)]) (fun y9 => []) rfl rfl (fun _ => rfl) (fun _ => rfl) (by kernel_rfl) (by kernel_rfl) (fun _ => by kernel_rfl) (fun _ => trivial) (fun w0 X X0 σ0 _ => by refine po_idx (T := tab) cNode v1.Forest.Nodes rfl rfl rfl rfl rfl rfl rfl fun y9 hy9 => ?_; refine po_nil ?_; exact pn_end ⟨rfl, trivial⟩ trivial rfl) fun y9 hy9 => ?_
        refine pdv_step0 [68, 78] [80] [] [] [] [(40, .el (cNode y9) 5)] [] rfl rfl rfl rfl (by kernel_rfl) (by kernel_rfl) (by kernel_rfl) trivial (fun w0 X X0 σ0 _ => by refine po_evs (T := tab) 1 rfl rfl ?_; refine po_nil ?_; exact pn_end0 ⟨rfl, trivial⟩ trivial rfl) ?_
        refine pdv_step0 [68, 80] [82] [] [] [] [(41, .v (.int .i64 y9.Parent))] [] rfl rfl rfl rfl (by kernel_rfl) (by kernel_rfl) (by kernel_rfl) trivial (fun w0 X X0 σ0 _ => by refine po_evs (T := tab) 1 rfl rfl ?_; refine po_nil ?_; exact pn_end0 ⟨rfl, trivial⟩ trivial rfl) ?_
        refine pdv_step0 [2, 68] [84] [] [] [] [(42, .v (.int .i64 n2))] [] rfl rfl rfl rfl (by kernel_rfl) (by kernel_rfl) (by kernel_rfl) trivial (fun w0 X X0 σ0 _ => by refine po_evs (T := tab) 1 rfl rfl ?_; refine po_nil ?_; exact pn_end0 ⟨rfl, trivial⟩ trivial rfl) ?_
        refine pdv_step0 [68, 82, 84] [86] [] [] [] [(43, .v (.bool (y9.Parent != n2)))] [] rfl rfl rfl rfl (by kernel_rfl) (by kernel_rfl) (by kernel_rfl) trivial (fun w0 X X0 σ0 _ => by refine po_evs (T := tab) 1 rfl rfl ?_; refine po_nil ?_; exact pn_end0 ⟨rfl, trivial⟩ trivial rfl) ?_
        refine pdv_step0 [68, 86] [88] [] [] [] [(44, .v (.bool (y9.Parent != n2)))] [] rfl rfl rfl rfl (by kernel_rfl) (by kernel_rfl) (by kernel_rfl) trivial (fun w0 X X0 σ0 _ => by refine po_evs (T := tab) 1 rfl rfl ?_; refine po_nil ?_; exact pn_end0 ⟨rfl, trivial⟩ trivial rfl) ?_
        refine pdv_step0 [88] [90] [] [] [] [(45, .v (.bool (y9.Parent != n2)))] [] rfl rfl rfl rfl (by kernel_rfl) (by kernel_rfl) (by kernel_rfl) trivial (fun w0 X X0 σ0 _ => by refine po_evs (T := tab) 1 rfl rfl ?_; refine po_nil ?_; exact pn_end0 ⟨rfl, trivial⟩ trivial rfl) ?_
        refine pdv_split (t := 45) rfl ?_ ?_
        · refine pdv_step0 [90] [92] [] [] [] [(46, .tup [])] [] rfl rfl rfl rfl (by kernel_rfl) (by kernel_rfl) (by kernel_rfl) trivial (fun w0 X X0 σ0 _ => by refine po_evs (T := tab) 1 rfl rfl ?_; refine po_nil ?_; exact pn_end0 ⟨rfl, trivial⟩ trivial rfl) ?_
          refine pdv_step0 [90] [94] [] [] [] [(47, .tup [])] [] rfl rfl rfl rfl (by kernel_rfl) (by kernel_rfl) (by kernel_rfl) trivial (fun w0 X X0 σ0 _ => by refine po_evs (T := tab) 1 rfl rfl ?_; refine po_nil ?_; exact pn_end0 ⟨rfl, trivial⟩ trivial rfl) ?_
          refine pdv_step0 [90] [96] [] [] [] [(48, .tup [])] [] rfl rfl rfl rfl (by kernel_rfl) (by kernel_rfl) (by kernel_rfl) trivial (fun w0 X X0 σ0 _ => by refine po_evs (T := tab) 1 rfl rfl ?_; refine po_nil ?_; exact pn_end0 ⟨rfl, trivial⟩ trivial rfl) ?_
          refine pdv_step0 [90] [98] [] [] [] [(49, .tup [])] [] rfl rfl rfl rfl (by kernel_rfl) (by kernel_rfl) (by kernel_rfl) trivial (fun w0 X X0 σ0 _ => by refine po_evs (T := tab) 1 rfl rfl ?_; refine po_nil ?_; exact pn_end0 ⟨rfl, trivial⟩ trivial rfl) ?_
          refine pdv_step0 [90] [100] [] [] [] [(50, .tup [])] [] rfl rfl rfl rfl (by kernel_rfl) (by kernel_rfl) (by kernel_rfl) trivial (fun w0 X X0 σ0 _ => by refine po_evs (T := tab) 1 rfl rfl ?_; refine po_nil ?_; exact pn_end0 ⟨rfl, trivial⟩ trivial rfl) ?_
          refine pdv_step0 [90] [102] [] [] [] [(51, .tup [])] [] rfl rfl rfl rfl (by kernel_rfl) (by kernel_rfl) (by kernel_rfl) trivial (fun w0 X X0 σ0 _ => by refine po_evs (T := tab) 1 rfl rfl ?_; refine po_nil ?_; exact pn_end0 ⟨rfl, trivial⟩ trivial rfl) ?_
          refine pdv_step0 [90] [104] [] [] [] [(52, .tup [])] [] rfl rfl rfl rfl (by kernel_rfl) (by kernel_rfl) (by kernel_rfl) trivial (fun w0 X X0 σ0 _ => by refine po_evs (T := tab) 1 rfl rfl ?_; refine po_nil ?_; exact pn_end0 ⟨rfl, trivial⟩ trivial rfl) ?_
          refine pdv_step0 [90] [106] [] [] [] [(53, .tup [])] [] rfl rfl rfl rfl (by kernel_rfl) (by kernel_rfl) (by kernel_rfl) trivial (fun w0 X X0 σ0 _ => by refine po_evs (T := tab) 1 rfl rfl ?_; refine po_nil ?_; exact pn_end0 ⟨rfl, trivial⟩ trivial rfl) ?_
          refine pdv_step0 [90] [108] [] [] [] [(54, .tup [])] [] rfl rfl rfl rfl (by kernel_rfl) (by kernel_rfl) (by kernel_rfl) trivial (fun w0 X X0 σ0 _ => by refine po_evs (T := tab) 1 rfl rfl ?_; refine po_nil ?_; exact pn_end0 ⟨rfl, trivial⟩ trivial rfl) ?_
          refine pdv_step0 [90] [110] [] [] [] [(55, .tup [])] [] rfl rfl rfl rfl (by kernel_rfl) (by kernel_rfl) (by kernel_rfl) trivial (fun w0 X X0 σ0 _ => by refine po_evs (T := tab) 1 rfl rfl ?_; refine po_nil ?_; exact pn_end0 ⟨rfl, trivial⟩ trivial rfl) ?_
          refine pdv_step0 [90, 110] [112] [] [] [] [(56, .v (.bool true))] [] rfl rfl rfl rfl (by kernel_rfl) (by kernel_rfl) (by kernel_rfl) trivial (fun w0 X X0 σ0 _ => by refine po_evs (T := tab) 1 rfl rfl ?_; refine po_nil ?_; exact pn_end0 ⟨rfl, trivial⟩ trivial rfl) ?_
          refine pdv_nil rfl rfl ?_
          refine pn_seq (pw_then rfl ?_)
          refine pw_seq ?_
          refine pw_region ?_
          refine po_evs (T := tab) 1 rfl rfl ?_
          refine po_nil ?_
          refine pn_seq ?_
          exact pw_retN (T := tab) rfl rfl rfl ⟨rfl, rfl⟩ trivial rfl
        · refine pdv_step0 [4, 90] [92] [] [2] [] [(46, .loc 2 0)] [] rfl rfl rfl rfl (by kernel_rfl) (by kernel_rfl) (by kernel_rfl) trivial (fun w0 X X0 σ0 _ => by refine po_evs (T := tab) 1 rfl rfl ?_; refine po_nil ?_; exact pn_end0 ⟨rfl, trivial⟩ trivial rfl) ?_
          refine pdv_step0 [90, 92] [94] [] [2] [] [(47, .loc 2 0)] [] rfl rfl rfl rfl (by kernel_rfl) (by kernel_rfl) (by kernel_rfl) trivial (fun w0 X X0 σ0 _ => by refine po_evs (T := tab) 1 rfl rfl ?_; refine po_nil ?_; exact pn_end0 ⟨rfl, trivial⟩ trivial rfl) ?_
          refine pdv_step0 [5, 90, 94] [96] [] [2] [2] [(48, .sl 10 false (v1.Forest.Nodes.map cNode))] [(2, .box 48 [.sl 10 false (v1.Forest.Nodes.map cNode), .v (.int .i64 v1.Forest.Most)])] rfl rfl rfl rfl (by kernel_rfl) (by kernel_rfl) (by kernel_rfl) ⟨rfl, trivial⟩ (fun w0 X X0 σ0 _ => by refine po_evs (T := tab) 1 rfl rfl ?_; refine po_nil ?_; exact pn_end0 ⟨rfl, trivial⟩ ⟨rfl, trivial⟩ rfl) ?_
          refine pdv_step0 [18, 90] [98] [] [] [] [(49, .v (.int .i64 y7))] [] rfl rfl rfl rfl (by kernel_rfl) (by kernel_rfl) (by kernel_rfl) trivial (fun w0 X X0 σ0 _ => by refine po_evs (T := tab) 1 rfl rfl ?_; refine po_nil ?_; exact pn_end0 ⟨rfl, trivial⟩ trivial rfl) ?_
          refine pdv_step (M := (idx v1.Forest.Nodes y7)) (ment := [(100, [])]) [90, 96, 98] [100] [] [] [] (fun y10 => [(50, .el (cNode y10) 0)]) (fun y10 => []) rfl rfl (fun _ => rfl) (fun _ => rfl) (by kernel_rfl) (by kernel_rfl) (fun _ => by kernel_rfl) (fun _ => trivial) (fun w0 X X0 σ0 _ => by refine po_idx (T := tab) cNode v1.Forest.Nodes rfl rfl rfl rfl rfl rfl rfl fun y10 hy10 => ?_; refine po_nil ?_; exact pn_end ⟨rfl, trivial⟩ trivial rfl) fun y10 hy10 => ?_
          refine pdv_step0 [90, 100] [102] [] [] [] [(51, .el (cNode y10) 9)] [] rfl rfl rfl rfl (by kernel_rfl) (by kernel_rfl) (by kernel_rfl) trivial (fun w0 X X0 σ0 _ => by refine po_evs (T := tab) 1 rfl rfl ?_; refine po_nil ?_; exact pn_end0 ⟨rfl, trivial⟩ trivial rfl) ?_
          refine pdv_step0 [90, 102] [104] [] [] [] [(52, .v (.int .i64 y10.Doc))] [] rfl rfl rfl rfl (by kernel_rfl) (by kernel_rfl) (by kernel_rfl) trivial (fun w0 X X0 σ0 _ => by refine po_evs (T := tab) 1 rfl rfl ?_; refine po_nil ?_; exact pn_end0 ⟨rfl, trivial⟩ trivial rfl) ?_
          refine pdv_step0 [10, 90] [106] [] [5] [] [(53, .loc 5 9)] [] rfl rfl rfl rfl (by kernel_rfl) (by kernel_rfl) (by kernel_rfl) trivial (fun w0 X X0 σ0 _ => by refine po_evs (T := tab) 1 rfl rfl ?_; refine po_nil ?_; exact pn_end0 ⟨rfl, trivial⟩ trivial rfl) ?_
          refine pdv_step0 [11, 90, 106] [108] [] [5] [5] [(54, .v (.int .i64 y3.Doc))] [(5, .box 37 [.v (.int .i64 y3.Kind), .v (.string ⟨⟨y3.Name⟩⟩), .v (.string ⟨⟨y3.Is⟩⟩), .v (.string ⟨⟨y3.Data⟩⟩), .sl 2 false (y3.Attrs.map cAttr), .v (.int .i64 y3.Parent), .sl 1 false (y3.Kids.map cInt_i64), .v (.int .i64 y3.Host), .v (.int .i64 y3.Under), .v (.int .i64 y3.Doc)])] rfl rfl rfl rfl (by kernel_rfl) (by kernel_rfl) (by kernel_rfl) ⟨rfl, trivial⟩ (fun w0 X X0 σ0 _ => by refine po_evs (T := tab) 1 rfl rfl ?_; refine po_nil ?_; exact pn_end0 ⟨rfl, trivial⟩ ⟨rfl, trivial⟩ rfl) ?_
          refine pdv_step0 [90, 104, 108] [110] [] [] [] [(55, .v (.bool (y10.Doc != y3.Doc)))] [] rfl rfl rfl rfl (by kernel_rfl) (by kernel_rfl) (by kernel_rfl) trivial (fun w0 X X0 σ0 _ => by refine po_evs (T := tab) 1 rfl rfl ?_; refine po_nil ?_; exact pn_end0 ⟨rfl, trivial⟩ trivial rfl) ?_
          refine pdv_step0 [90, 110] [112] [] [] [] [(56, .v (.bool (y10.Doc != y3.Doc)))] [] rfl rfl rfl rfl (by kernel_rfl) (by kernel_rfl) (by kernel_rfl) trivial (fun w0 X X0 σ0 _ => by refine po_evs (T := tab) 1 rfl rfl ?_; refine po_nil ?_; exact pn_end0 ⟨rfl, trivial⟩ trivial rfl) ?_
          refine pdv_nil rfl rfl ?_
          refine pn_seq ?_
          refine pw_cnd rfl ?_ ?_
          · refine pw_seq ?_
            refine pw_region ?_
            refine po_evs (T := tab) 1 rfl rfl ?_
            refine po_nil ?_
            refine pn_seq ?_
            exact pw_retN (T := tab) rfl rfl rfl ⟨rfl, rfl⟩ trivial rfl
          · refine pw_skip ?_
            refine pn_seq ?_
            refine pw_seq ?_
            refine pw_region ?_
            refine po_evs (T := tab) 2 rfl rfl ?_
            refine po_lookup (T := tab) (keyI_enc .i64) (fun v => .v (.int .i64 v)) l6 y7 0 Tryz.underlying109 Tryz.underlying3 rfl rfl rfl rfl rfl rfl rfl rfl rfl rfl ?_
            refine po_arith' (T := tab) rfl rfl rfl rfl fun i11 hi11 => ?_
            refine po_mapUpdate (keyI_enc .i64) (fun v => .v (.int .i64 v)) l6 y7 i11 Tryz.underlying109 Tryz.underlying3 rfl rfl rfl rfl rfl rfl rfl rfl rfl ?_
            refine po_nil ?_
            refine pn_seq ?_
            refine pw_seq ?_
            refine pw_region ?_
            refine po_evs (T := tab) 4 rfl rfl ?_
            refine po_idx (T := tab) cNode v1.Forest.Nodes rfl rfl rfl rfl rfl rfl rfl fun y12 hy12 => ?_
            refine po_evs (T := tab) 2 rfl rfl ?_
            refine po_nil ?_
            refine pn_seq ?_
            refine pw_block ?_
            refine pw_seq ?_
            refine pw_region ?_
            refine po_evs (T := tab) 2 rfl rfl ?_
            refine po_nil ?_
            refine pn_seq ?_
            refine pw_cnd rfl ?_ ?_
            · refine pw_region ?_
              refine po_evs (T := tab) 1 rfl rfl ?_
              refine po_arith' (T := tab) rfl rfl rfl rfl fun i13 hi13 => ?_
              refine po_evs (T := tab) 1 rfl rfl ?_
              refine po_nil ?_
              refine pn_block ?_
              refine pn_block ?_
              refine pn_seq ?_
              refine pw_region ?_
              refine po_arith' (T := tab) rfl rfl rfl rfl fun i14 hi14 => ?_
              refine po_evs (T := tab) 1 rfl rfl ?_
              refine po_nil ?_
              exact pn_iter' (i13, i14, (mput l6 y7 i11)) ⟨rfl, rfl, rfl, rfl, rfl, rfl, rfl, rfl, trivial⟩ ⟨rfl, rfl, rfl, trivial⟩ rfl
            · refine pw_seq ?_
              refine pw_region ?_
              refine po_evs (T := tab) 2 rfl rfl ?_
              refine po_nil ?_
              refine pn_seq ?_
              refine pw_cnd rfl ?_ ?_
              · refine pw_seq ?_
                refine pw_region ?_
                refine po_evs (T := tab) 3 rfl rfl ?_
                refine po_nil ?_
                refine pn_seq ?_
                refine pw_cnd rfl ?_ ?_
                · refine pw_seq ?_
                  refine pw_region ?_
                  refine po_evs (T := tab) 1 rfl rfl ?_
                  refine po_nil ?_
                  refine pn_seq ?_
                  exact pw_retN (T := tab) rfl rfl rfl ⟨rfl, rfl⟩ trivial rfl
                · refine pw_skip ?_
                  refine pn_block ?_
                  refine pn_block ?_
                  refine pn_seq ?_
                  refine pw_region ?_
                  refine po_arith' (T := tab) rfl rfl rfl rfl fun i15 hi15 => ?_
                  refine po_evs (T := tab) 1 rfl rfl ?_
                  refine po_nil ?_
                  exact pn_iter' (elems4, i15, (mput l6 y7 i11)) ⟨rfl, rfl, rfl, rfl, rfl, rfl, rfl, rfl, trivial⟩ ⟨rfl, rfl, rfl, trivial⟩ rfl
              · refine pw_seq ?_
                refine pw_region ?_
                refine po_evs (T := tab) 1 rfl rfl ?_
                refine po_nil ?_
                refine pn_seq ?_
                exact pw_retN (T := tab) rfl rfl rfl ⟨rfl, rfl⟩ trivial rfl
  · refine pw_exit rfl ?_
    refine pn_seq ?_
    refine pw_seq ?_
    refine pw_region ?_
    refine po_evs (T := tab) 2 rfl rfl ?_
    refine po_call (enc := fun (r16 : Bool) => .v (.bool r16)) (qs := [.v (.int .i64 y3.Kind)]) (Forest_holder_ok fu y3.Kind) rfl rfl ⟨⟨_, rfl, .rfl⟩, trivial⟩ (fun _ => rfl) call61 rfl rfl fun r16 hr16 => ?_
    refine po_evs (T := tab) 1 rfl rfl ?_
    refine po_split (j := 81) rfl ?_ ?_
    · refine po_evs (T := tab) 10 rfl rfl ?_
      refine po_split (j := 91) rfl ?_ ?_
      · refine po_evs (T := tab) 5 rfl rfl ?_
        refine po_nil ?_
        refine pn_seq ?_
        exact pw_retN (T := tab) rfl rfl rfl ⟨rfl, rfl⟩ trivial rfl
      · refine po_evs (T := tab) 5 rfl rfl ?_
        refine po_nil ?_
        refine pn_seq ?_
        exact pw_retN (T := tab) rfl rfl rfl ⟨rfl, rfl⟩ trivial rfl
    · refine po_evs (T := tab) 2 rfl rfl ?_
      refine po_len (T := tab) cInt_i64 y3.Kids rfl rfl rfl rfl rfl rfl rfl rfl ?_
      refine po_evs (T := tab) 3 rfl rfl ?_
      refine po_split (j := 87) rfl ?_ ?_
      · refine po_evs (T := tab) 4 rfl rfl ?_
        refine po_split (j := 91) rfl ?_ ?_
        · refine po_evs (T := tab) 5 rfl rfl ?_
          refine po_nil ?_
          refine pn_seq ?_
          exact pw_retN (T := tab) rfl rfl rfl ⟨rfl, rfl⟩ trivial rfl
        · refine po_evs (T := tab) 5 rfl rfl ?_
          refine po_nil ?_
          refine pn_seq ?_
          exact pw_retN (T := tab) rfl rfl rfl ⟨rfl, rfl⟩ trivial rfl
      · refine po_evs (T := tab) 9 rfl rfl ?_
        refine po_nil ?_
        refine pn_seq ?_
        exact pw_retN (T := tab) rfl rfl rfl ⟨rfl, rfl⟩ trivial rfl

def Forest_view_shaded_j2 (host7 : Bool) (under10 : Bool) : Option Bool := cnd host7 (some under10) (some false)

def Forest_view_shaded_j1 (fu : Nat) (v1 : Forest_view) (n2 : Int) (y3 : Node) (host7 : Bool) : Option Bool := cnd (y3.Under == (-1)) ((Forest_view_shaded_j2 host7) true) (cnd (y3.Kind == 1) (bnd (Forest_view_is_m fu v1 y3.Under 4) fun r8 => cnd r8 (bnd (idx v1.Forest.Nodes y3.Under) fun y9 => (Forest_view_shaded_j2 host7) (y9.Host == n2)) ((Forest_view_shaded_j2 host7) false)) ((Forest_view_shaded_j2 host7) false))

def Forest_view_shaded_m (fu : Nat) (v1 : Forest_view) (n2 : Int) : Option Bool := bnd (idx v1.Forest.Nodes n2) fun y3 => cnd (y3.Kind == 4) (bnd (Forest_view_is_m fu v1 y3.Host 1) fun r4 => cnd r4 (bnd (idx v1.Forest.Nodes y3.Host) fun y5 => cnd (y5.Under == n2) (bnd (idx v1.Forest.Nodes y3.Host) fun y6 => (Forest_view_shaded_j1 fu v1 n2 y3) (y6.Doc == y3.Doc)) ((Forest_view_shaded_j1 fu v1 n2 y3) false)) ((Forest_view_shaded_j1 fu v1 n2 y3) false)) ((Forest_view_shaded_j1 fu v1 n2 y3) (y3.Host == (-1)))

set_option maxHeartbeats 10000000 in
set_option maxRecDepth 100000 in
theorem Forest_view_shaded_ok (fu : Nat) (v1 : Forest_view) (n2 : Int) : ∀ r, Forest_view_shaded_m fu v1 n2 = some r → DC laidL Tryz.prog 38 [.agg (cForest_view v1), .v (.int .i64 n2)] (.v (.bool r)) := by
  intro r hr
  refine fc_intro (args := [.agg (cForest_view v1), .v (.int .i64 n2)]) (S := []) (N0 := []) (post := fun r p S => p = .v (.bool r) ∧ S = []) Tryz.func38 rfl rfl hr fun w0 X X0 σ0 _ => ?_
  refine pw_seq ?_
  refine pw_region ?_
  refine po_box  2 rfl rfl rfl rfl rfl rfl rfl rfl rfl rfl ?_
  refine po_evs (T := tab) 1 rfl rfl ?_
  refine po_nil ?_
  refine pn_seq ?_
  refine pw_seq ?_
  refine pw_region ?_
  refine po_evs (T := tab) 4 rfl rfl ?_
  refine po_idx (T := tab) cNode v1.Forest.Nodes rfl rfl rfl rfl rfl rfl rfl fun y3 hy3 => ?_
  refine po_evs (T := tab) 1 rfl rfl ?_
  refine po_alloc (T := tab) 5 rfl rfl rfl rfl rfl rfl rfl rfl rfl ?_
  refine po_store (T := tab) rfl rfl rfl rfl rfl rfl rfl rfl rfl rfl rfl rfl ?_
  refine po_nil ?_
  refine pn_seq ?_
  refine pw_seq ?_
  refine pw_region ?_
  refine po_evs (T := tab) 4 rfl rfl ?_
  refine po_nil ?_
  refine pn_seq ?_
  refine pw_seq ?_
  refine pw_seq ?_
  refine pw_region ?_
  refine po_evs (T := tab) 3 rfl rfl ?_
  refine po_nil ?_
  refine pn_seq ?_
  refine pw_joinK (Forest_view_shaded_j1 fu v1 n2 y3) (fun (host7 : Bool) => [(1, .v (.int .i64 n2)), (2, .loc 2 0), (5, .loc 5 0), (6, .v (.bool host7))]) (fun (host7 : Bool) => [(5, .box 37 [.v (.int .i64 y3.Kind), .v (.string ⟨⟨y3.Name⟩⟩), .v (.string ⟨⟨y3.Is⟩⟩), .v (.string ⟨⟨y3.Data⟩⟩), .sl 2 false (y3.Attrs.map cAttr), .v (.int .i64 y3.Parent), .sl 1 false (y3.Kids.map cInt_i64), .v (.int .i64 y3.Host), .v (.int .i64 y3.Under), .v (.int .i64 y3.Doc)]), (2, .box 48 [.sl 10 false (v1.Forest.Nodes.map cNode), .v (.int .i64 v1.Forest.Most)])]) ?_ fun hj1 => ?_
  · rintro host7
    refine pn_seq ?_
    refine pw_seq ?_
    refine pw_region ?_
    refine po_joinK (Forest_view_shaded_j2 host7) (fun (under10 : Bool) => [(6, .v (.bool host7)), (7, .v (.bool under10))]) (fun (under10 : Bool) => []) ?_ fun hj2 => ?_
    · rintro under10
      refine pn_seq ?_
      refine pw_seq ?_
      refine pw_region ?_
      refine po_evs (T := tab) 2 rfl rfl ?_
      refine po_split (j := 76) rfl ?_ ?_
      · refine po_evs (T := tab) 3 rfl rfl ?_
        refine po_nil ?_
        refine pn_seq ?_
        exact pw_retN (T := tab) rfl rfl rfl ⟨rfl, rfl⟩ trivial rfl
      · refine po_evs (T := tab) 3 rfl rfl ?_
        refine po_nil ?_
        refine pn_seq ?_
        exact pw_retN (T := tab) rfl rfl rfl ⟨rfl, rfl⟩ trivial rfl
    · refine po_evs (T := tab) 4 rfl rfl ?_
      refine po_split (j := 52) rfl ?_ ?_
      · refine po_evs (T := tab) 23 rfl rfl ?_
        refine po_nil ?_
        exact pn_sub' (hj2 true) ⟨rfl, rfl, trivial⟩ trivial rfl
      · refine po_evs (T := tab) 4 rfl rfl ?_
        refine po_split (j := 56) rfl ?_ ?_
        · refine po_evs (T := tab) 3 rfl rfl ?_
          refine po_call (enc := fun (r8 : Bool) => .v (.bool r8)) (qs := [.agg (cForest_view v1), .v (.int .i64 y3.Under), .v (.int .i64 4)]) (Forest_view_is_ok fu v1 y3.Under 4) rfl rfl ⟨⟨_, rfl, .rfl⟩, ⟨_, rfl, .rfl⟩, ⟨_, rfl, .rfl⟩, trivial⟩ (fun _ => rfl) call59 rfl rfl fun r8 hr8 => ?_
          refine po_evs (T := tab) 2 rfl rfl ?_
          refine po_split (j := 62) rfl ?_ ?_
          · refine po_evs (T := tab) 5 rfl rfl ?_
            refine po_idx (T := tab) cNode v1.Forest.Nodes rfl rfl rfl rfl rfl rfl rfl fun y9 hy9 => ?_
            refine po_evs (T := tab) 7 rfl rfl ?_
            refine po_nil ?_
            exact pn_sub' (hj2 (y9.Host == n2)) ⟨rfl, rfl, trivial⟩ trivial rfl
          · refine po_evs (T := tab) 13 rfl rfl ?_
            refine po_nil ?_
            exact pn_sub' (hj2 false) ⟨rfl, rfl, trivial⟩ trivial rfl
        · refine po_evs (T := tab) 19 rfl rfl ?_
          refine po_nil ?_
          exact pn_sub' (hj2 false) ⟨rfl, rfl, trivial⟩ trivial rfl
  · refine pw_cnd rfl ?_ ?_
    · refine pw_draw mixed (by kernel_rfl) ?_
      refine pd_evs (T := tab) 3 rfl rfl ?_
      refine pd_call (enc := fun (r4 : Bool) => .v (.bool r4)) (qs := [.agg (cForest_view v1), .v (.int .i64 y3.Host), .v (.int .i64 1)]) (Forest_view_is_ok fu v1 y3.Host 1) rfl rfl ⟨⟨_, rfl, .rfl⟩, ⟨_, rfl, .rfl⟩, ⟨_, rfl, .rfl⟩, trivial⟩ (fun _ => rfl) call59 rfl rfl fun r4 hr4 => ?_
      refine pd_evs (T := tab) 1 rfl rfl ?_
      refine pd_split (j := 24) rfl ?_ ?_
      · refine pd_evs (T := tab) 5 rfl rfl ?_
        refine pd_idx (T := tab) cNode v1.Forest.Nodes rfl rfl rfl rfl rfl rfl rfl fun y5 hy5 => ?_
        refine pd_evs (T := tab) 6 rfl rfl ?_
        refine pd_split (j := 36) rfl ?_ ?_
        · refine pd_evs (T := tab) 5 rfl rfl ?_
          refine pd_idx (T := tab) cNode v1.Forest.Nodes rfl rfl rfl rfl rfl rfl rfl fun y6 hy6 => ?_
          refine pd_evs (T := tab) 7 rfl rfl ?_
          refine pd_nil ?_
          exact pn_sub' (hj1 (y6.Doc == y3.Doc)) ⟨rfl, rfl, rfl, rfl, trivial⟩ ⟨rfl, rfl, trivial⟩ rfl
        · refine pd_evs (T := tab) 13 rfl rfl ?_
          refine pd_nil ?_
          exact pn_sub' (hj1 false) ⟨rfl, rfl, rfl, rfl, trivial⟩ ⟨rfl, rfl, trivial⟩ rfl
      · refine pd_evs (T := tab) 25 rfl rfl ?_
        refine pd_nil ?_
        exact pn_sub' (hj1 false) ⟨rfl, rfl, rfl, rfl, trivial⟩ ⟨rfl, rfl, trivial⟩ rfl
    · refine pw_skip ?_
      exact pn_sub' (hj1 (y3.Host == (-1))) ⟨rfl, rfl, rfl, rfl, trivial⟩ ⟨rfl, rfl, trivial⟩ rfl

def Forest_view_up_m (_fu : Nat) (v1 : Forest_view) (n2 : Int) : Option Int := bnd (idx v1.Forest.Nodes n2) fun y3 => cnd (y3.Parent != (-1)) (some y3.Parent) (bnd (idx v1.Forest.Nodes n2) fun y4 => some y4.Host)

set_option maxRecDepth 100000 in
theorem Forest_view_up_ok (fu : Nat) (v1 : Forest_view) (n2 : Int) : ∀ r, Forest_view_up_m fu v1 n2 = some r → DC laidL Tryz.prog 63 [.agg (cForest_view v1), .v (.int .i64 n2)] (.v (.int .i64 r)) := by
  intro r hr
  refine fc_intro (args := [.agg (cForest_view v1), .v (.int .i64 n2)]) (S := []) (N0 := []) (post := fun r p S => p = .v (.int .i64 r) ∧ S = []) Tryz.func63 rfl rfl hr fun w0 X X0 σ0 _ => ?_
  refine pw_seq ?_
  refine pw_region ?_
  refine po_box  2 rfl rfl rfl rfl rfl rfl rfl rfl rfl rfl ?_
  refine po_evs (T := tab) 1 rfl rfl ?_
  refine po_nil ?_
  refine pn_seq ?_
  refine pw_seq ?_
  refine pw_seq ?_
  refine pw_region ?_
  refine po_evs (T := tab) 4 rfl rfl ?_
  refine po_idx (T := tab) cNode v1.Forest.Nodes rfl rfl rfl rfl rfl rfl rfl fun y3 hy3 => ?_
  refine po_evs (T := tab) 3 rfl rfl ?_
  refine po_nil ?_
  refine pn_seq ?_
  refine pw_seq ?_
  refine pw_region ?_
  refine po_evs (T := tab) 2 rfl rfl ?_
  refine po_nil ?_
  refine pn_seq ?_
  refine pw_cnd rfl ?_ ?_
  · refine pw_seq ?_
    refine pw_region ?_
    refine po_evs (T := tab) 2 rfl rfl ?_
    refine po_nil ?_
    refine pn_seq ?_
    exact pw_retN (T := tab) rfl rfl rfl ⟨rfl, rfl⟩ trivial rfl
  · refine pw_skip ?_
    refine pn_seq ?_
    refine pw_seq ?_
    refine pw_region ?_
    refine po_evs (T := tab) 4 rfl rfl ?_
    refine po_idx (T := tab) cNode v1.Forest.Nodes rfl rfl rfl rfl rfl rfl rfl fun y4 hy4 => ?_
    refine po_evs (T := tab) 3 rfl rfl ?_
    refine po_nil ?_
    refine pn_seq ?_
    exact pw_retN (T := tab) rfl rfl rfl ⟨rfl, rfl⟩ trivial rfl

def Forest_view_ends_l1 (fu : Nat) (v1 : Forest_view) : Nat → Int × Int → Option Bool
  | 0, _ => none
  | k1 + 1, (n3, t4) => cnd (decide (t4 < ((v1.Forest.Nodes.length : Nat) : Int))) (bnd (Forest_view_up_m fu v1 n3) fun r5 => cnd (r5 == (-1)) (some true) (bnd (rng .i64 (t4 + 1)) fun i6 => (Forest_view_ends_l1 fu v1 k1) (r5, i6))) (some false)

def Forest_view_ends_m (fu : Nat) (v1 : Forest_view) (n2 : Int) : Option Bool := (Forest_view_ends_l1 fu v1) fu (n2, 0)

set_option maxHeartbeats 10000000 in
set_option maxRecDepth 100000 in
theorem Forest_view_ends_ok (fu : Nat) (v1 : Forest_view) (n2 : Int) : ∀ r, Forest_view_ends_m fu v1 n2 = some r → DC laidL Tryz.prog 39 [.agg (cForest_view v1), .v (.int .i64 n2)] (.v (.bool r)) := by
  intro r hr
  refine fc_intro (args := [.agg (cForest_view v1), .v (.int .i64 n2)]) (S := []) (N0 := []) (post := fun r p S => p = .v (.bool r) ∧ S = []) Tryz.func39 rfl rfl hr fun w0 X X0 σ0 _ => ?_
  refine pw_seq ?_
  refine pw_region ?_
  refine po_box  2 rfl rfl rfl rfl rfl rfl rfl rfl rfl rfl ?_
  refine po_evs (T := tab) 1 rfl rfl ?_
  refine po_nil ?_
  refine pn_seq ?_
  refine pw_seq ?_
  refine pw_seq ?_
  refine pw_region ?_
  refine po_evs (T := tab) 3 rfl rfl ?_
  refine po_len (T := tab) cNode v1.Forest.Nodes rfl rfl rfl rfl rfl rfl rfl rfl ?_
  refine po_evs (T := tab) 1 rfl rfl ?_
  refine po_nil ?_
  refine pn_seq ?_
  refine pw_block ?_
  refine pw_loop' (Forest_view_ends_l1 fu v1) (fun ((n3, t4) : Int × Int) => [(1, .v (.int .i64 n3)), (2, .loc 2 0), (8, .v (.int .i64 ((v1.Forest.Nodes.length : Nat) : Int))), (9, .v (.int .i64 t4))]) (fun ((n3, t4) : Int × Int) => [(2, .box 48 [.sl 10 false (v1.Forest.Nodes.map cNode), .v (.int .i64 v1.Forest.Most)])]) fu (n2, 0) (fun _ => rfl) ⟨rfl, rfl, rfl, rfl, trivial⟩ ⟨rfl, trivial⟩ rfl ?_
  rintro k1 ⟨n3, t4⟩
  refine pw_seq ?_
  refine pw_region ?_
  refine po_evs (T := tab) 1 rfl rfl ?_
  refine po_nil ?_
  refine pn_seq ?_
  refine pw_seq ?_
  refine pw_cnd rfl ?_ ?_
  · refine pw_skip ?_
    refine pn_seq ?_
    refine pw_seq ?_
    refine pw_block ?_
    refine pw_seq ?_
    refine pw_region ?_
    refine po_evs (T := tab) 2 rfl rfl ?_
    refine po_call (enc := fun (r5 : Int) => .v (.int .i64 r5)) (qs := [.agg (cForest_view v1), .v (.int .i64 n3)]) (Forest_view_up_ok fu v1 n3) rfl rfl ⟨⟨_, rfl, .rfl⟩, ⟨_, rfl, .rfl⟩, trivial⟩ (fun _ => rfl) call63 rfl rfl fun r5 hr5 => ?_
    refine po_evs (T := tab) 1 rfl rfl ?_
    refine po_nil ?_
    refine pn_seq ?_
    refine pw_seq ?_
    refine pw_region ?_
    refine po_evs (T := tab) 2 rfl rfl ?_
    refine po_nil ?_
    refine pn_seq ?_
    refine pw_cnd rfl ?_ ?_
    · refine pw_seq ?_
      refine pw_region ?_
      refine po_evs (T := tab) 1 rfl rfl ?_
      refine po_nil ?_
      refine pn_seq ?_
      exact pw_retN (T := tab) rfl rfl rfl ⟨rfl, rfl⟩ trivial rfl
    · refine pw_skip ?_
      refine pn_block ?_
      refine pn_seq ?_
      refine pw_region ?_
      refine po_arith' (T := tab) rfl rfl rfl rfl fun i6 hi6 => ?_
      refine po_evs (T := tab) 1 rfl rfl ?_
      refine po_nil ?_
      exact pn_iter' (r5, i6) ⟨rfl, rfl, rfl, rfl, trivial⟩ ⟨rfl, trivial⟩ rfl
  · refine pw_exit rfl ?_
    refine pn_seq ?_
    refine pw_seq ?_
    refine pw_region ?_
    refine po_evs (T := tab) 1 rfl rfl ?_
    refine po_nil ?_
    refine pn_seq ?_
    exact pw_retN (T := tab) rfl rfl rfl ⟨rfl, rfl⟩ trivial rfl

def Forest_view_right_l2 (fu : Nat) (v1 : Forest_view) : Nat → Int → Option Bool
  | 0, _ => none
  | k2 + 1, t11 => cnd (decide (t11 < ((v1.Forest.Nodes.length : Nat) : Int))) (bnd (Forest_view_ends_m fu v1 t11) fun r12 => cnd (!r12) (some false) (bnd (rng .i64 (t11 + 1)) fun i13 => (Forest_view_right_l2 fu v1 k2) i13)) (some true)

def Forest_view_right_l1 (fu : Nat) (v1 : Forest_view) : Nat → Int → Option Bool
  | 0, _ => none
  | k1 + 1, t3 => cnd (decide (t3 < ((v1.Forest.Nodes.length : Nat) : Int))) (bnd (idx v1.Forest.Nodes t3) fun y4 => bnd (Forest_named_m fu y4) fun r5 => cnd (!r5) (some false) (bnd (Forest_view_owned_m fu v1 t3) fun r6 => cnd (!r6) (some false) (bnd (Forest_view_hung_m fu v1 t3) fun r7 => cnd (!r7) (some false) (bnd (Forest_view_bears_m fu v1 t3) fun r8 => cnd (!r8) (some false) (bnd (Forest_view_shaded_m fu v1 t3) fun r9 => cnd (!r9) (some false) (bnd (rng .i64 (t3 + 1)) fun i10 => (Forest_view_right_l1 fu v1 k1) i10)))))) ((Forest_view_right_l2 fu v1) fu 0)

def Forest_view_right_m (fu : Nat) (v1 : Forest_view) : Option Bool := cnd (decide (v1.Forest.Most < 1)) (some false) (cnd (decide (v1.Forest.Most > 400)) (some false) (cnd (decide (((v1.Forest.Nodes.length : Nat) : Int) < 1)) (some false) (cnd (decide (((v1.Forest.Nodes.length : Nat) : Int) > v1.Forest.Most)) (some false) (bnd (idx v1.Forest.Nodes 0) fun y2 => cnd (y2.Kind != 0) (some false) ((Forest_view_right_l1 fu v1) fu 0)))))

set_option maxHeartbeats 10000000 in
set_option maxRecDepth 100000 in
theorem Forest_view_right_ok (fu : Nat) (v1 : Forest_view) : ∀ r, Forest_view_right_m fu v1 = some r → DC laidL Tryz.prog 17 [.agg (cForest_view v1)] (.v (.bool r)) := by
  intro r hr
  refine fc_intro (args := [.agg (cForest_view v1)]) (S := []) (N0 := []) (post := fun r p S => p = .v (.bool r) ∧ S = []) Tryz.func17 rfl rfl hr fun w0 X X0 σ0 _ => ?_
  refine pw_seq ?_
  refine pw_region ?_
  refine po_box  1 rfl rfl rfl rfl rfl rfl rfl rfl rfl rfl ?_
  refine po_evs (T := tab) 1 rfl rfl ?_
  refine po_nil ?_
  refine pn_seq ?_
  refine pw_seq ?_
  refine pw_seq ?_
  refine pw_region ?_
  refine po_evs (T := tab) 5 rfl rfl ?_
  refine po_split (j := 10) rfl ?_ ?_
  · refine po_evs (T := tab) 31 rfl rfl ?_
    refine po_nil ?_
    refine pn_seq (pw_then rfl ?_)
    refine pw_seq ?_
    refine pw_region ?_
    refine po_evs (T := tab) 1 rfl rfl ?_
    refine po_nil ?_
    refine pn_seq ?_
    exact pw_retN (T := tab) rfl rfl rfl ⟨rfl, rfl⟩ trivial rfl
  · refine po_evs (T := tab) 6 rfl rfl ?_
    refine po_split (j := 16) rfl ?_ ?_
    · refine po_evs (T := tab) 25 rfl rfl ?_
      refine po_nil ?_
      refine pn_seq (pw_then rfl ?_)
      refine pw_seq ?_
      refine pw_region ?_
      refine po_evs (T := tab) 1 rfl rfl ?_
      refine po_nil ?_
      refine pn_seq ?_
      exact pw_retN (T := tab) rfl rfl rfl ⟨rfl, rfl⟩ trivial rfl
    · refine po_evs (T := tab) 3 rfl rfl ?_
      refine po_len (T := tab) cNode v1.Forest.Nodes rfl rfl rfl rfl rfl rfl rfl rfl ?_
      refine po_evs (T := tab) 3 rfl rfl ?_
      refine po_split (j := 23) rfl ?_ ?_
      · refine po_evs (T := tab) 18 rfl rfl ?_
        refine po_nil ?_
        refine pn_seq (pw_then rfl ?_)
        refine pw_seq ?_
        refine pw_region ?_
        refine po_evs (T := tab) 1 rfl rfl ?_
        refine po_nil ?_
        refine pn_seq ?_
        exact pw_retN (T := tab) rfl rfl rfl ⟨rfl, rfl⟩ trivial rfl
      · refine po_evs (T := tab) 3 rfl rfl ?_
        refine po_len (T := tab) cNode v1.Forest.Nodes rfl rfl rfl rfl rfl rfl rfl rfl ?_
        refine po_evs (T := tab) 6 rfl rfl ?_
        refine po_split (j := 33) rfl ?_ ?_
        · refine po_evs (T := tab) 8 rfl rfl ?_
          refine po_nil ?_
          refine pn_seq (pw_then rfl ?_)
          refine pw_seq ?_
          refine pw_region ?_
          refine po_evs (T := tab) 1 rfl rfl ?_
          refine po_nil ?_
          refine pn_seq ?_
          exact pw_retN (T := tab) rfl rfl rfl ⟨rfl, rfl⟩ trivial rfl
        · refine po_evs (T := tab) 3 rfl rfl ?_
          refine po_idx (T := tab) cNode v1.Forest.Nodes rfl rfl rfl rfl rfl rfl rfl fun y2 hy2 => ?_
          refine po_evs (T := tab) 4 rfl rfl ?_
          refine po_nil ?_
          refine pn_seq ?_
          refine pw_cnd rfl ?_ ?_
          · refine pw_seq ?_
            refine pw_region ?_
            refine po_evs (T := tab) 1 rfl rfl ?_
            refine po_nil ?_
            refine pn_seq ?_
            exact pw_retN (T := tab) rfl rfl rfl ⟨rfl, rfl⟩ trivial rfl
          · refine pw_skip ?_
            refine pn_seq ?_
            refine pw_seq ?_
            refine pw_seq ?_
            refine pw_region ?_
            refine po_evs (T := tab) 3 rfl rfl ?_
            refine po_len (T := tab) cNode v1.Forest.Nodes rfl rfl rfl rfl rfl rfl rfl rfl ?_
            refine po_evs (T := tab) 1 rfl rfl ?_
            refine po_nil ?_
            refine pn_seq ?_
            refine pw_block ?_
            refine pw_loop' (Forest_view_right_l1 fu v1) (fun (t3 : Int) => [(1, .loc 1 0), (44, .sl 10 false (v1.Forest.Nodes.map cNode)), (45, .v (.int .i64 ((v1.Forest.Nodes.length : Nat) : Int))), (46, .v (.int .i64 t3))]) (fun (t3 : Int) => [(1, .box 48 [.sl 10 false (v1.Forest.Nodes.map cNode), .v (.int .i64 v1.Forest.Most)])]) fu 0 (fun _ => rfl) ⟨rfl, rfl, rfl, rfl, trivial⟩ ⟨rfl, trivial⟩ rfl ?_
            rintro k1 t3
            refine pw_seq ?_
            refine pw_region ?_
            refine po_evs (T := tab) 1 rfl rfl ?_
            refine po_nil ?_
            refine pn_seq ?_
            refine pw_seq ?_
            refine pw_cnd rfl ?_ ?_
            · refine pw_skip ?_
              refine pn_seq ?_
              refine pw_seq ?_
              refine pw_block ?_
              refine pw_seq ?_
              refine pw_region ?_
              refine po_evs (T := tab) 1 rfl rfl ?_
              refine po_idx (T := tab) cNode v1.Forest.Nodes rfl rfl rfl rfl rfl rfl rfl fun y4 hy4 => ?_
              refine po_evs (T := tab) 1 rfl rfl ?_
              refine po_alloc (T := tab) 4 rfl rfl rfl rfl rfl rfl rfl rfl rfl ?_
              refine po_evs (T := tab) 1 rfl rfl ?_
              refine po_store (T := tab) rfl rfl rfl rfl rfl rfl rfl rfl rfl rfl rfl rfl ?_
              refine po_nil ?_
              refine pn_seq ?_
              refine pw_seq ?_
              refine pw_region ?_
              refine po_evs (T := tab) 1 rfl rfl ?_
              refine po_call (enc := fun (r5 : Bool) => .v (.bool r5)) (qs := [.agg (cNode y4)]) (Forest_named_ok fu y4) rfl rfl ⟨⟨_, rfl, .rfl⟩, trivial⟩ (fun _ => rfl) call34 rfl rfl fun r5 hr5 => ?_
              refine po_evs (T := tab) 2 rfl rfl ?_
              refine po_split (j := 54) rfl ?_ ?_
              · refine po_evs (T := tab) 23 rfl rfl ?_
                refine po_nil ?_
                refine pn_seq (pw_then rfl ?_)
                refine pw_seq ?_
                refine pw_region ?_
                refine po_evs (T := tab) 1 rfl rfl ?_
                refine po_nil ?_
                refine pn_seq ?_
                exact pw_retN (T := tab) rfl rfl rfl ⟨rfl, rfl⟩ trivial rfl
              · refine po_evs (T := tab) 2 rfl rfl ?_
                refine po_call (enc := fun (r6 : Bool) => .v (.bool r6)) (qs := [.agg (cForest_view v1), .v (.int .i64 t3)]) (Forest_view_owned_ok fu v1 t3) rfl rfl ⟨⟨_, rfl, .rfl⟩, ⟨_, rfl, .rfl⟩, trivial⟩ (fun _ => rfl) call35 rfl rfl fun r6 hr6 => ?_
                refine po_evs (T := tab) 3 rfl rfl ?_
                refine po_split (j := 60) rfl ?_ ?_
                · refine po_evs (T := tab) 17 rfl rfl ?_
                  refine po_nil ?_
                  refine pn_seq (pw_then rfl ?_)
                  refine pw_seq ?_
                  refine pw_region ?_
                  refine po_evs (T := tab) 1 rfl rfl ?_
                  refine po_nil ?_
                  refine pn_seq ?_
                  exact pw_retN (T := tab) rfl rfl rfl ⟨rfl, rfl⟩ trivial rfl
                · refine po_evs (T := tab) 2 rfl rfl ?_
                  refine po_call (enc := fun (r7 : Bool) => .v (.bool r7)) (qs := [.agg (cForest_view v1), .v (.int .i64 t3)]) (Forest_view_hung_ok fu v1 t3) rfl rfl ⟨⟨_, rfl, .rfl⟩, ⟨_, rfl, .rfl⟩, trivial⟩ (fun _ => rfl) call36 rfl rfl fun r7 hr7 => ?_
                  refine po_evs (T := tab) 3 rfl rfl ?_
                  refine po_split (j := 66) rfl ?_ ?_
                  · refine po_evs (T := tab) 11 rfl rfl ?_
                    refine po_nil ?_
                    refine pn_seq (pw_then rfl ?_)
                    refine pw_seq ?_
                    refine pw_region ?_
                    refine po_evs (T := tab) 1 rfl rfl ?_
                    refine po_nil ?_
                    refine pn_seq ?_
                    exact pw_retN (T := tab) rfl rfl rfl ⟨rfl, rfl⟩ trivial rfl
                  · refine po_evs (T := tab) 2 rfl rfl ?_
                    refine po_call (enc := fun (r8 : Bool) => .v (.bool r8)) (qs := [.agg (cForest_view v1), .v (.int .i64 t3)]) (Forest_view_bears_ok fu v1 t3) rfl rfl ⟨⟨_, rfl, .rfl⟩, ⟨_, rfl, .rfl⟩, trivial⟩ (fun _ => rfl) call37 rfl rfl fun r8 hr8 => ?_
                    refine po_evs (T := tab) 3 rfl rfl ?_
                    refine po_split (j := 72) rfl ?_ ?_
                    · refine po_evs (T := tab) 5 rfl rfl ?_
                      refine po_nil ?_
                      refine pn_seq (pw_then rfl ?_)
                      refine pw_seq ?_
                      refine pw_region ?_
                      refine po_evs (T := tab) 1 rfl rfl ?_
                      refine po_nil ?_
                      refine pn_seq ?_
                      exact pw_retN (T := tab) rfl rfl rfl ⟨rfl, rfl⟩ trivial rfl
                    · refine po_evs (T := tab) 2 rfl rfl ?_
                      refine po_call (enc := fun (r9 : Bool) => .v (.bool r9)) (qs := [.agg (cForest_view v1), .v (.int .i64 t3)]) (Forest_view_shaded_ok fu v1 t3) rfl rfl ⟨⟨_, rfl, .rfl⟩, ⟨_, rfl, .rfl⟩, trivial⟩ (fun _ => rfl) call38 rfl rfl fun r9 hr9 => ?_
                      refine po_evs (T := tab) 2 rfl rfl ?_
                      refine po_nil ?_
                      refine pn_seq ?_
                      refine pw_cnd rfl ?_ ?_
                      · refine pw_seq ?_
                        refine pw_region ?_
                        refine po_evs (T := tab) 1 rfl rfl ?_
                        refine po_nil ?_
                        refine pn_seq ?_
                        exact pw_retN (T := tab) rfl rfl rfl ⟨rfl, rfl⟩ trivial rfl
                      · refine pw_skip ?_
                        refine pn_block ?_
                        refine pn_seq ?_
                        refine pw_region ?_
                        refine po_arith' (T := tab) rfl rfl rfl rfl fun i10 hi10 => ?_
                        refine po_evs (T := tab) 1 rfl rfl ?_
                        refine po_nil ?_
                        exact pn_iter' i10 ⟨rfl, rfl, rfl, rfl, trivial⟩ ⟨rfl, trivial⟩ rfl
            · refine pw_exit rfl ?_
              refine pn_seq ?_
              refine pw_seq ?_
              refine pw_seq ?_
              refine pw_region ?_
              refine po_evs (T := tab) 3 rfl rfl ?_
              refine po_len (T := tab) cNode v1.Forest.Nodes rfl rfl rfl rfl rfl rfl rfl rfl ?_
              refine po_evs (T := tab) 1 rfl rfl ?_
              refine po_nil ?_
              refine pn_seq ?_
              refine pw_block ?_
              refine pw_loop' (Forest_view_right_l2 fu v1) (fun (t11 : Int) => [(1, .loc 1 0), (82, .v (.int .i64 ((v1.Forest.Nodes.length : Nat) : Int))), (83, .v (.int .i64 t11))]) (fun (t11 : Int) => [(1, .box 48 [.sl 10 false (v1.Forest.Nodes.map cNode), .v (.int .i64 v1.Forest.Most)])]) fu 0 (fun _ => rfl) ⟨rfl, rfl, rfl, trivial⟩ ⟨rfl, trivial⟩ rfl ?_
              rintro k2 t11
              refine pw_seq ?_
              refine pw_region ?_
              refine po_evs (T := tab) 1 rfl rfl ?_
              refine po_nil ?_
              refine pn_seq ?_
              refine pw_seq ?_
              refine pw_cnd rfl ?_ ?_
              · refine pw_skip ?_
                refine pn_seq ?_
                refine pw_seq ?_
                refine pw_block ?_
                refine pw_seq ?_
                refine pw_region ?_
                refine po_evs (T := tab) 2 rfl rfl ?_
                refine po_nil ?_
                refine pn_seq ?_
                refine pw_seq ?_
                refine pw_region ?_
                refine po_evs (T := tab) 2 rfl rfl ?_
                refine po_call (enc := fun (r12 : Bool) => .v (.bool r12)) (qs := [.agg (cForest_view v1), .v (.int .i64 t11)]) (Forest_view_ends_ok fu v1 t11) rfl rfl ⟨⟨_, rfl, .rfl⟩, ⟨_, rfl, .rfl⟩, trivial⟩ (fun _ => rfl) call39 rfl rfl fun r12 hr12 => ?_
                refine po_evs (T := tab) 1 rfl rfl ?_
                refine po_nil ?_
                refine pn_seq ?_
                refine pw_cnd rfl ?_ ?_
                · refine pw_seq ?_
                  refine pw_region ?_
                  refine po_evs (T := tab) 1 rfl rfl ?_
                  refine po_nil ?_
                  refine pn_seq ?_
                  exact pw_retN (T := tab) rfl rfl rfl ⟨rfl, rfl⟩ trivial rfl
                · refine pw_skip ?_
                  refine pn_block ?_
                  refine pn_seq ?_
                  refine pw_region ?_
                  refine po_arith' (T := tab) rfl rfl rfl rfl fun i13 hi13 => ?_
                  refine po_evs (T := tab) 1 rfl rfl ?_
                  refine po_nil ?_
                  exact pn_iter' i13 ⟨rfl, rfl, rfl, trivial⟩ ⟨rfl, trivial⟩ rfl
              · refine pw_exit rfl ?_
                refine pn_seq ?_
                refine pw_seq ?_
                refine pw_region ?_
                refine po_evs (T := tab) 1 rfl rfl ?_
                refine po_nil ?_
                refine pn_seq ?_
                exact pw_retN (T := tab) rfl rfl rfl ⟨rfl, rfl⟩ trivial rfl

def Forest_Right_m (fu : Nat) (f1 : Forest) : Option Bool := bnd (Forest_view_right_m fu (⟨(⟨f1.Nodes, f1.Most⟩ : Forest)⟩ : Forest_view)) fun r2 => some r2

set_option maxRecDepth 100000 in
theorem Forest_Right_ok (fu : Nat) (f1 : Forest) : ∀ r, Forest_Right_m fu f1 = some r → DC laidL Tryz.prog 8 [.agg (cForest f1)] (.v (.bool r)) := by
  intro r hr
  refine fc_intro (args := [.agg (cForest f1)]) (S := []) (N0 := []) (post := fun r p S => p = .v (.bool r) ∧ S = []) Tryz.func8 rfl rfl hr fun w0 X X0 σ0 _ => ?_
  refine pw_seq ?_
  refine pw_region ?_
  refine po_box  1 rfl rfl rfl rfl rfl rfl rfl rfl rfl rfl ?_
  refine po_evs (T := tab) 1 rfl rfl ?_
  refine po_nil ?_
  refine pn_seq ?_
  refine pw_seq ?_
  refine pw_region ?_
  refine po_evs (T := tab) 1 rfl rfl ?_
  refine po_build (T := tab) rfl rfl rfl rfl rfl rfl rfl ?_
  refine po_call (enc := fun (r2 : Bool) => .v (.bool r2)) (qs := [.agg (cForest_view (⟨(⟨f1.Nodes, f1.Most⟩ : Forest)⟩ : Forest_view))]) (Forest_view_right_ok fu (⟨(⟨f1.Nodes, f1.Most⟩ : Forest)⟩ : Forest_view)) rfl rfl ⟨⟨_, rfl, .rfl⟩, trivial⟩ (fun _ => rfl) call17 rfl rfl fun r2 hr2 => ?_
  refine po_evs (T := tab) 1 rfl rfl ?_
  refine po_nil ?_
  refine pn_seq ?_
  exact pw_retN (T := tab) rfl rfl rfl ⟨rfl, rfl⟩ trivial rfl

def Forest_New_m (fu : Nat) (most1 : Int) : Option (Forest × Int) := bnd (Forest_bare_m fu 0 0) fun r2 => bnd (Forest_Right_m fu (⟨[r2], most1⟩ : Forest)) fun r3 => cnd (!r3) (some ((⟨[], 0⟩ : Forest), 1)) (some ((⟨[r2], most1⟩ : Forest), 0))

set_option maxRecDepth 100000 in
theorem Forest_New_ok (fu : Nat) (most1 : Int) : ∀ r, Forest_New_m fu most1 = some r → DC laidL Tryz.prog 33 [.v (.int .i64 most1)] (.tup [.agg (cForest r.1), .v (.int .i64 r.2)]) := by
  intro r hr
  refine fc_intro (args := [.v (.int .i64 most1)]) (S := []) (N0 := []) (post := fun r p S => p = .tup [.agg (cForest r.1), .v (.int .i64 r.2)] ∧ S = []) Tryz.func33 rfl rfl hr fun w0 X X0 σ0 _ => ?_
  refine pw_seq ?_
  refine pw_region ?_
  refine po_alloc (T := tab) 2 rfl rfl rfl rfl rfl rfl rfl rfl rfl ?_
  refine po_evs (T := tab) 1 rfl rfl ?_
  refine po_nil ?_
  refine pn_seq ?_
  refine pw_seq ?_
  refine pw_region ?_
  refine po_call (enc := fun (r2 : Node) => .agg (cNode r2)) (qs := [.v (.int .i64 0), .v (.int .i64 0)]) (Forest_bare_ok fu 0 0) rfl rfl ⟨⟨_, rfl, .rfl⟩, ⟨_, rfl, .rfl⟩, trivial⟩ (fun _ => rfl) call55 rfl rfl fun r2 hr2 => ?_
  refine po_lit (T := tab) (rows := [r2].map cNode) 6 rfl rfl rfl rfl rfl rfl rfl rfl rfl rfl rfl rfl rfl rfl ?_
  refine po_evs (T := tab) 1 rfl rfl ?_
  refine po_build (T := tab) rfl rfl rfl rfl rfl rfl rfl ?_
  refine po_alloc (T := tab) 4 rfl rfl rfl rfl rfl rfl rfl rfl rfl ?_
  refine po_store (T := tab) rfl rfl rfl rfl rfl rfl rfl rfl rfl rfl rfl rfl ?_
  refine po_nil ?_
  refine pn_seq ?_
  refine pw_seq ?_
  refine pw_seq ?_
  refine pw_region ?_
  refine po_evs (T := tab) 1 rfl rfl ?_
  refine po_freeze 6 rfl rfl rfl ?_
  refine po_call (enc := fun (r3 : Bool) => .v (.bool r3)) (qs := [.agg (cForest (⟨[r2], most1⟩ : Forest))]) (Forest_Right_ok fu (⟨[r2], most1⟩ : Forest)) rfl rfl ⟨⟨_, rfl, .rfl⟩, trivial⟩ (fun _ => rfl) call8 rfl rfl fun r3 hr3 => ?_
  refine po_evs (T := tab) 1 rfl rfl ?_
  refine po_nil ?_
  refine pn_seq ?_
  refine pw_cnd rfl ?_ ?_
  · refine pw_seq ?_
    refine pw_region ?_
    refine po_build (T := tab) rfl rfl rfl rfl rfl rfl rfl ?_
    refine po_store (T := tab) rfl rfl rfl rfl rfl rfl rfl rfl rfl rfl rfl rfl ?_
    refine po_evs (T := tab) 1 rfl rfl ?_
    refine po_nil ?_
    refine pn_seq ?_
    refine pw_coeS 2 [.sl 10 false ([].map cNode), .v (.int .i64 0)] rfl ⟨.nil, .rfl, trivial⟩ rfl ?_
    exact pw_retN (T := tab) rfl rfl rfl ⟨rfl, rfl⟩ trivial rfl
  · refine pw_skip ?_
    refine pn_seq ?_
    refine pw_seq ?_
    refine pw_region ?_
    refine po_evs (T := tab) 1 rfl rfl ?_
    refine po_store (T := tab) rfl rfl rfl rfl rfl rfl rfl rfl rfl rfl rfl rfl ?_
    refine po_evs (T := tab) 1 rfl rfl ?_
    refine po_nil ?_
    refine pn_seq ?_
    exact pw_retN (T := tab) rfl rfl rfl ⟨rfl, rfl⟩ trivial rfl

def Slices_Clone_apiNode_m (_fu : Nat) (s1 : (List Node)) : Option (List Node) := bnd (roomy 136 (([] : List Node).length + s1.length)) fun _ => some (([] : List Node) ++ s1)

set_option maxRecDepth 100000 in
theorem Slices_Clone_apiNode_ok (fu : Nat) (s1 : (List Node)) : ∀ r, Slices_Clone_apiNode_m fu s1 = some r → FC laidL Tryz.prog 18 [.sl 10 false (s1.map cNode)] [] [] fun p S' => p = .own 5 ∧ S' = [(5, .arr 37 10 (r.map cNode))] := by
  intro r hr
  refine fc_intro (args := [.sl 10 false (s1.map cNode)]) (S := []) (N0 := []) (post := fun r p S => p = .own 5 ∧ S = [(5, .arr 37 10 (r.map cNode))]) Tryz.func18 rfl rfl hr fun w0 X X0 σ0 _ => ?_
  refine pw_seq ?_
  refine pw_region ?_
  refine po_evs (T := tab) 1 rfl rfl ?_
  refine po_nil ?_
  refine pn_seq ?_
  refine pw_seq ?_
  refine pw_seq ?_
  refine pw_region ?_
  refine po_evs (T := tab) 1 rfl rfl ?_
  refine po_isnil (T := tab) rfl rfl rfl rfl rfl rfl fun b hb => ?_
  cases b
  · refine po_nil ?_
    refine pn_seq ?_
    refine pw_else rfl ?_
    refine pw_skip ?_
    refine pn_seq ?_
    refine pw_seq ?_
    refine pw_region ?_
    refine po_lit (T := tab) (rows := ([] : List Node).map cNode) 5 rfl rfl rfl rfl rfl rfl rfl rfl rfl rfl rfl rfl rfl rfl ?_
    refine po_evs (T := tab) 1 rfl rfl ?_
    refine po_append (T := tab) cNode ([] : List Node) s1 rfl rfl rfl rfl rfl rfl rfl rfl rfl rfl rfl rfl rfl rfl (cNode_one _) rfl rfl rfl rfl rfl ?_
    refine po_evs (T := tab) 1 rfl rfl ?_
    refine po_nil ?_
    refine pn_seq ?_
    exact pw_retN (T := tab) rfl rfl rfl ⟨rfl, rfl⟩ ⟨rfl, trivial⟩ rfl
  · have h0 : s1 = [] := List.map_eq_nil_iff.1 (hb rfl)
    refine po_conv (m' := some ([] : List Node)) (by subst h0; rfl) ?_
    refine po_nil ?_
    refine pn_seq ?_
    refine pw_then rfl ?_
    refine pw_seq ?_
    refine pw_region ?_
    refine po_evs (T := tab) 1 rfl rfl ?_
    refine po_nil ?_
    refine pn_seq ?_
    refine pw_own_nil 5 37 10 2 rfl rfl rfl rfl ?_
    exact pw_retN (T := tab) rfl rfl rfl ⟨rfl, rfl⟩ ⟨rfl, trivial⟩ rfl

def Internal_stringslite_HasPrefix_m (_fu : Nat) (s1 : Bs) (prefix2 : Bs) : Option Bool := cnd (decide (((s1.length : Nat) : Int) ≥ ((prefix2.length : Nat) : Int))) (bnd (piece s1 0 ((prefix2.length : Nat) : Int)) fun s3 => some (s3 == prefix2)) (some false)

set_option maxRecDepth 100000 in
theorem Internal_stringslite_HasPrefix_ok (fu : Nat) (s1 : Bs) (prefix2 : Bs) : ∀ r, Internal_stringslite_HasPrefix_m fu s1 prefix2 = some r → DC laidL Tryz.prog 103 [.v (.string ⟨⟨s1⟩⟩), .v (.string ⟨⟨prefix2⟩⟩)] (.v (.bool r)) := by
  intro r hr
  refine fc_intro (args := [.v (.string ⟨⟨s1⟩⟩), .v (.string ⟨⟨prefix2⟩⟩)]) (S := []) (N0 := []) (post := fun r p S => p = .v (.bool r) ∧ S = []) Tryz.func103 rfl rfl hr fun w0 X X0 σ0 _ => ?_
  refine pw_seq ?_
  refine pw_region ?_
  refine po_evs (T := tab) 1 rfl rfl ?_
  refine po_nil ?_
  refine pn_seq ?_
  refine pw_seq ?_
  refine pw_region ?_
  refine po_evs (T := tab) 6 rfl rfl ?_
  refine po_split (j := 10) rfl ?_ ?_
  · refine po_evs (T := tab) 3 rfl rfl ?_
    refine po_sub (T := tab) rfl rfl rfl rfl rfl rfl rfl rfl fun s3 hs3 => ?_
    refine po_evs (T := tab) 4 rfl rfl ?_
    refine po_nil ?_
    refine pn_seq ?_
    exact pw_retN (T := tab) rfl rfl rfl ⟨rfl, rfl⟩ trivial rfl
  · refine po_evs (T := tab) 8 rfl rfl ?_
    refine po_nil ?_
    refine pn_seq ?_
    exact pw_retN (T := tab) rfl rfl rfl ⟨rfl, rfl⟩ trivial rfl

def Internal_stringslite_CutPrefix_m (fu : Nat) (s1 : Bs) (prefix2 : Bs) : Option (Bs × Bool) := bnd (Internal_stringslite_HasPrefix_m fu s1 prefix2) fun r3 => cnd (!r3) (some (s1, false)) (bnd (piece s1 ((prefix2.length : Nat) : Int) ((s1.length : Nat) : Int)) fun s4 => some (s4, true))

set_option maxRecDepth 100000 in
theorem Internal_stringslite_CutPrefix_ok (fu : Nat) (s1 : Bs) (prefix2 : Bs) : ∀ r, Internal_stringslite_CutPrefix_m fu s1 prefix2 = some r → DC laidL Tryz.prog 88 [.v (.string ⟨⟨s1⟩⟩), .v (.string ⟨⟨prefix2⟩⟩)] (.tup [.v (.string ⟨⟨r.1⟩⟩), .v (.bool r.2)]) := by
  intro r hr
  refine fc_intro (args := [.v (.string ⟨⟨s1⟩⟩), .v (.string ⟨⟨prefix2⟩⟩)]) (S := []) (N0 := []) (post := fun r p S => p = .tup [.v (.string ⟨⟨r.1⟩⟩), .v (.bool r.2)] ∧ S = []) Tryz.func88 rfl rfl hr fun w0 X X0 σ0 _ => ?_
  refine pw_seq ?_
  refine pw_region ?_
  refine po_evs (T := tab) 2 rfl rfl ?_
  refine po_nil ?_
  refine pn_seq ?_
  refine pw_seq ?_
  refine pw_seq ?_
  refine pw_region ?_
  refine po_evs (T := tab) 2 rfl rfl ?_
  refine po_call (enc := fun (r3 : Bool) => .v (.bool r3)) (qs := [.v (.string ⟨⟨s1⟩⟩), .v (.string ⟨⟨prefix2⟩⟩)]) (Internal_stringslite_HasPrefix_ok fu s1 prefix2) rfl rfl ⟨⟨_, rfl, .rfl⟩, ⟨_, rfl, .rfl⟩, trivial⟩ (fun _ => rfl) call103 rfl rfl fun r3 hr3 => ?_
  refine po_evs (T := tab) 1 rfl rfl ?_
  refine po_nil ?_
  refine pn_seq ?_
  refine pw_cnd rfl ?_ ?_
  · refine pw_seq ?_
    refine pw_region ?_
    refine po_evs (T := tab) 3 rfl rfl ?_
    refine po_nil ?_
    refine pn_seq ?_
    exact pw_retN (T := tab) rfl rfl rfl ⟨rfl, rfl⟩ trivial rfl
  · refine pw_skip ?_
    refine pn_seq ?_
    refine pw_seq ?_
    refine pw_region ?_
    refine po_evs (T := tab) 3 rfl rfl ?_
    refine po_sub (T := tab) rfl rfl rfl rfl rfl rfl rfl rfl fun s4 hs4 => ?_
    refine po_evs (T := tab) 2 rfl rfl ?_
    refine po_nil ?_
    refine pn_seq ?_
    exact pw_retN (T := tab) rfl rfl rfl ⟨rfl, rfl⟩ trivial rfl

def Strings_CutPrefix_m (fu : Nat) (s1 : Bs) (prefix2 : Bs) : Option (Bs × Bool) := bnd (Internal_stringslite_CutPrefix_m fu s1 prefix2) fun r3 => some (r3.1, r3.2)

set_option maxRecDepth 100000 in
theorem Strings_CutPrefix_ok (fu : Nat) (s1 : Bs) (prefix2 : Bs) : ∀ r, Strings_CutPrefix_m fu s1 prefix2 = some r → DC laidL Tryz.prog 64 [.v (.string ⟨⟨s1⟩⟩), .v (.string ⟨⟨prefix2⟩⟩)] (.tup [.v (.string ⟨⟨r.1⟩⟩), .v (.bool r.2)]) := by
  intro r hr
  refine fc_intro (args := [.v (.string ⟨⟨s1⟩⟩), .v (.string ⟨⟨prefix2⟩⟩)]) (S := []) (N0 := []) (post := fun r p S => p = .tup [.v (.string ⟨⟨r.1⟩⟩), .v (.bool r.2)] ∧ S = []) Tryz.func64 rfl rfl hr fun w0 X X0 σ0 _ => ?_
  refine pw_seq ?_
  refine pw_region ?_
  refine po_evs (T := tab) 2 rfl rfl ?_
  refine po_nil ?_
  refine pn_seq ?_
  refine pw_seq ?_
  refine pw_region ?_
  refine po_evs (T := tab) 2 rfl rfl ?_
  refine po_call (enc := fun (r3 : (Bs × Bool)) => .tup [.v (.string ⟨⟨r3.1⟩⟩), .v (.bool r3.2)]) (qs := [.v (.string ⟨⟨s1⟩⟩), .v (.string ⟨⟨prefix2⟩⟩)]) (Internal_stringslite_CutPrefix_ok fu s1 prefix2) rfl rfl ⟨⟨_, rfl, .rfl⟩, ⟨_, rfl, .rfl⟩, trivial⟩ (fun _ => rfl) call88 rfl rfl fun r3 hr3 => ?_
  refine po_evs (T := tab) 4 rfl rfl ?_
  refine po_nil ?_
  refine pn_seq ?_
  exact pw_retN (T := tab) rfl rfl rfl ⟨rfl, rfl⟩ trivial rfl

def Print_reader_take_m (fu : Nat) (w1 : Bs) (c4 : Bs) : Option (Bool × Bs) := bnd (Strings_CutPrefix_m fu c4 w1) fun r7 => cnd r7.2 (some (r7.2, r7.1)) (some (r7.2, c4))

set_option maxRecDepth 100000 in
theorem Print_reader_take_ok (fu : Nat) (w1 : Bs) (c2 : Int) (c3 : Int) (c4 : Bs) (c5 : Bool) (l6 : (List (Node × Bool))) : ∀ r, Print_reader_take_m fu w1 c4 = some r → FC laidL Tryz.prog 40 [.loc 900000 0, .v (.string ⟨⟨w1⟩⟩)] [(900000, .box 52 [.own 900001, .v (.int .i64 c2), .v (.int .i64 c3), .v (.string ⟨⟨c4⟩⟩), .v (.bool c5)]), (900001, .tre 37 10 6 3 (l6.map fun x : Node × Bool => (cNode x.1, x.2)))] [900000, 900001] fun p S' => p = .v (.bool r.1) ∧ S' = [(900000, .box 52 [.own 900001, .v (.int .i64 c2), .v (.int .i64 c3), .v (.string ⟨⟨r.2⟩⟩), .v (.bool c5)]), (900001, .tre 37 10 6 3 (l6.map fun x : Node × Bool => (cNode x.1, x.2)))] := by
  intro r hr
  refine fc_intro (args := [.loc 900000 0, .v (.string ⟨⟨w1⟩⟩)]) (S := [(900000, .box 52 [.own 900001, .v (.int .i64 c2), .v (.int .i64 c3), .v (.string ⟨⟨c4⟩⟩), .v (.bool c5)]), (900001, .tre 37 10 6 3 (l6.map fun x : Node × Bool => (cNode x.1, x.2)))]) (N0 := [900000, 900001]) (post := fun r p S => p = .v (.bool r.1) ∧ S = [(900000, .box 52 [.own 900001, .v (.int .i64 c2), .v (.int .i64 c3), .v (.string ⟨⟨r.2⟩⟩), .v (.bool c5)]), (900001, .tre 37 10 6 3 (l6.map fun x : Node × Bool => (cNode x.1, x.2)))]) Tryz.func40 rfl rfl hr fun w0 X X0 σ0 _ => ?_
  refine pw_seq ?_
  refine pw_region ?_
  refine po_evs (T := tab) 1 rfl rfl ?_
  refine po_nil ?_
  refine pn_seq ?_
  refine pw_seq ?_
  refine pw_region ?_
  refine po_evs (T := tab) 5 rfl rfl ?_
  refine po_call (enc := fun (r7 : (Bs × Bool)) => .tup [.v (.string ⟨⟨r7.1⟩⟩), .v (.bool r7.2)]) (qs := [.v (.string ⟨⟨c4⟩⟩), .v (.string ⟨⟨w1⟩⟩)]) (Strings_CutPrefix_ok fu c4 w1) rfl rfl ⟨⟨_, rfl, .rfl⟩, ⟨_, rfl, .rfl⟩, trivial⟩ (fun _ => rfl) call64 rfl rfl fun r7 hr7 => ?_
  refine po_evs (T := tab) 5 rfl rfl ?_
  refine po_nil ?_
  refine pn_seq ?_
  refine pw_seq ?_
  refine pw_seq ?_
  refine pw_region ?_
  refine po_evs (T := tab) 1 rfl rfl ?_
  refine po_nil ?_
  refine pn_seq ?_
  refine pw_cnd rfl ?_ ?_
  · refine pw_region ?_
    refine po_evs (T := tab) 4 rfl rfl ?_
    refine po_store (T := tab) rfl rfl rfl rfl rfl rfl rfl rfl rfl rfl rfl rfl ?_
    refine po_nil ?_
    refine pn_seq ?_
    refine pw_seq ?_
    refine pw_region ?_
    refine po_evs (T := tab) 2 rfl rfl ?_
    refine po_nil ?_
    refine pn_seq ?_
    exact pw_retN (T := tab) rfl rfl rfl ⟨rfl, rfl⟩ ⟨rfl, rfl, trivial⟩ rfl
  · refine pw_skip ?_
    refine pn_seq ?_
    refine pw_seq ?_
    refine pw_region ?_
    refine po_evs (T := tab) 2 rfl rfl ?_
    refine po_nil ?_
    refine pn_seq ?_
    exact pw_retN (T := tab) rfl rfl rfl ⟨rfl, rfl⟩ ⟨rfl, rfl, trivial⟩ rfl

def Print_reader_word_1_m (fu : Nat) (c1 : Int) : Option Bool := bnd (cat ([97] : Bs) (encRune c1)) fun s2 => bnd (Name_Right_m fu s2) fun r3 => some (!r3)

set_option maxRecDepth 100000 in
theorem Print_reader_word_1_ok (fu : Nat) (c1 : Int) : ∀ r, Print_reader_word_1_m fu c1 = some r → DC laidL Tryz.prog 90 [.v (.int .i32 c1)] (.v (.bool r)) := by
  intro r hr
  refine fc_intro (args := [.v (.int .i32 c1)]) (S := []) (N0 := []) (post := fun r p S => p = .v (.bool r) ∧ S = []) Tryz.func90 rfl rfl hr fun w0 X X0 σ0 _ => ?_
  refine pw_seq ?_
  refine pw_region ?_
  refine po_evs (T := tab) 1 rfl rfl ?_
  refine po_nil ?_
  refine pn_seq ?_
  refine pw_seq ?_
  refine pw_region ?_
  refine po_evs (T := tab) 1 rfl rfl ?_
  refine po_rune (T := tab) rfl rfl rfl rfl rfl rfl rfl ?_
  refine po_cat rfl rfl rfl rfl rfl rfl fun s2 hs2 => ?_
  refine po_call (enc := fun (r3 : Bool) => .v (.bool r3)) (qs := [.v (.string ⟨⟨s2⟩⟩)]) (Name_Right_ok fu s2) rfl rfl ⟨⟨_, rfl, .rfl⟩, trivial⟩ (fun _ => rfl) call78 rfl rfl fun r3 hr3 => ?_
  refine po_evs (T := tab) 2 rfl rfl ?_
  refine po_nil ?_
  refine pn_seq ?_
  exact pw_retN (T := tab) rfl rfl rfl ⟨rfl, rfl⟩ trivial rfl

set_option maxHeartbeats 10000000 in
set_option maxRecDepth 100000 in
theorem Strings_indexFunc_i3_ok (fu : Nat) (s1 : Bs) (truth2 : Bool) : ∀ r, Strings_indexFunc_m fu (fun (z1 : Int) => Print_reader_word_1_m fu z1) s1 truth2 = some r → DC laidL Tryz.prog 104 [.v (.string ⟨⟨s1⟩⟩), .fn (.func 90) [] [], .v (.bool truth2)] (.v (.int .i64 r)) := by
  intro r hr
  refine fc_intro (args := [.v (.string ⟨⟨s1⟩⟩), .fn (.func 90) [] [], .v (.bool truth2)]) (S := []) (N0 := []) (post := fun r p S => p = .v (.int .i64 r) ∧ S = []) Tryz.func104 rfl rfl hr fun w0 X X0 σ0 _ => ?_
  refine pw_seq ?_
  refine pw_region ?_
  refine po_evs (T := tab) 1 rfl rfl ?_
  refine po_nil ?_
  refine pn_seq ?_
  refine pw_seq ?_
  refine pw_seq ?_
  refine pw_region ?_
  refine po_evs (T := tab) 1 rfl rfl ?_
  refine po_range (T := tab) 10 rfl rfl rfl rfl rfl rfl rfl rfl rfl ?_
  refine po_nil ?_
  refine pn_seq ?_
  refine pw_block ?_
  refine pw_loop' (Strings_indexFunc_l1 (fun (z1 : Int) => Print_reader_word_1_m fu z1) s1 truth2) (fun (p3 : Nat) => [(1, .fn (.func 90) [] []), (2, .v (.bool truth2)), (10, .loc 10 0)]) (fun (p3 : Nat) => [(10, .siter ⟨⟨s1⟩⟩ p3)]) fu 0 (fun _ => rfl) ⟨rfl, rfl, rfl, trivial⟩ ⟨rfl, trivial⟩ rfl ?_
  rintro k1 p3
  refine pw_seq ?_
  refine pw_region ?_
  refine po_next 10 rfl rfl rfl rfl rfl rfl rfl ?_ ?_
  · refine po_evs (T := tab) 1 rfl rfl ?_
    refine po_nil ?_
    refine pn_seq ?_
    refine pw_seq ?_
    refine pw_then rfl ?_
    refine pw_skip ?_
    refine pn_seq ?_
    refine pw_block ?_
    refine pw_seq ?_
    refine pw_region ?_
    refine po_evs (T := tab) 4 rfl rfl ?_
    refine po_nil ?_
    refine pn_seq ?_
    refine pw_seq ?_
    refine pw_region ?_
    refine po_evs (T := tab) 2 rfl rfl ?_
    refine po_callv (enc := fun (r4 : Bool) => .v (.bool r4)) (first := []) (cap := []) (qs := [.v (.int .i32 (decRune s1 p3))]) (Sc := []) (Print_reader_word_1_ok fu (decRune s1 p3)) (subS_of trivial rfl) rfl rfl rfl rfl ⟨⟨_, rfl, .rfl⟩, trivial⟩ (fun _ => rfl) call90 rfl rfl fun r4 hr4 => ?_
    refine po_evs (T := tab) 2 rfl rfl ?_
    refine po_nil ?_
    refine pn_seq ?_
    refine pw_cnd rfl ?_ ?_
    · refine pw_seq ?_
      refine pw_region ?_
      refine po_evs (T := tab) 2 rfl rfl ?_
      refine po_nil ?_
      refine pn_seq ?_
      exact pw_retN (T := tab) rfl rfl rfl ⟨rfl, rfl⟩ trivial rfl
    · refine pw_skip ?_
      refine pn_block ?_
      exact pn_iter' (p3 + decSize s1 p3) ⟨rfl, rfl, rfl, trivial⟩ ⟨rfl, trivial⟩ rfl
  · refine po_evs (T := tab) 1 rfl rfl ?_
    refine po_nil ?_
    refine pn_seq ?_
    refine pw_seq ?_
    refine pw_else rfl ?_
    refine pw_exit rfl ?_
    refine pn_seq ?_
    refine pw_seq ?_
    refine pw_region ?_
    refine po_evs (T := tab) 1 rfl rfl ?_
    refine po_nil ?_
    refine pn_seq ?_
    exact pw_retN (T := tab) rfl rfl rfl ⟨rfl, rfl⟩ trivial rfl

set_option maxRecDepth 100000 in
theorem Strings_IndexFunc_i3_ok (fu : Nat) (s1 : Bs) : ∀ r, Strings_IndexFunc_m fu (fun (z1 : Int) => Print_reader_word_1_m fu z1) s1 = some r → DC laidL Tryz.prog 89 [.v (.string ⟨⟨s1⟩⟩), .fn (.func 90) [] []] (.v (.int .i64 r)) := by
  intro r hr
  refine fc_intro (args := [.v (.string ⟨⟨s1⟩⟩), .fn (.func 90) [] []]) (S := []) (N0 := []) (post := fun r p S => p = .v (.int .i64 r) ∧ S = []) Tryz.func89 rfl rfl hr fun w0 X X0 σ0 _ => ?_
  refine pw_seq ?_
  refine pw_region ?_
  refine po_evs (T := tab) 1 rfl rfl ?_
  refine po_nil ?_
  refine pn_seq ?_
  refine pw_seq ?_
  refine pw_region ?_
  refine po_evs (T := tab) 2 rfl rfl ?_
  refine po_call (enc := fun (r2 : Int) => .v (.int .i64 r2)) (qs := [.v (.string ⟨⟨s1⟩⟩), .fn (.func 90) [] [], .v (.bool true)]) (Strings_indexFunc_i3_ok fu s1 true) rfl rfl ⟨⟨_, rfl, .rfl⟩, ⟨_, rfl, .rfl⟩, ⟨_, rfl, .rfl⟩, trivial⟩ (fun _ => rfl) call104 rfl rfl fun r2 hr2 => ?_
  refine po_evs (T := tab) 1 rfl rfl ?_
  refine po_nil ?_
  refine pn_seq ?_
  exact pw_retN (T := tab) rfl rfl rfl ⟨rfl, rfl⟩ trivial rfl

def Print_reader_word_m (fu : Nat) (c3 : Bs) : Option (Bs × Bs) := bnd (Strings_IndexFunc_m fu (fun (z1 : Int) => Print_reader_word_1_m fu z1) c3) fun r6 => cnd (decide (r6 < 0)) (bnd (piece c3 0 ((c3.length : Nat) : Int)) fun s7 => bnd (piece c3 ((c3.length : Nat) : Int) ((c3.length : Nat) : Int)) fun s8 => some (s7, s8)) (bnd (piece c3 0 r6) fun s9 => bnd (piece c3 r6 ((c3.length : Nat) : Int)) fun s10 => some (s9, s10))

set_option maxHeartbeats 10000000 in
set_option maxRecDepth 100000 in
theorem Print_reader_word_ok (fu : Nat) (c1 : Int) (c2 : Int) (c3 : Bs) (c4 : Bool) (l5 : (List (Node × Bool))) : ∀ r, Print_reader_word_m fu c3 = some r → FC laidL Tryz.prog 65 [.loc 900000 0] [(900000, .box 52 [.own 900001, .v (.int .i64 c1), .v (.int .i64 c2), .v (.string ⟨⟨c3⟩⟩), .v (.bool c4)]), (900001, .tre 37 10 6 3 (l5.map fun x : Node × Bool => (cNode x.1, x.2)))] [900000, 900001] fun p S' => p = .v (.string ⟨⟨r.1⟩⟩) ∧ S' = [(900000, .box 52 [.own 900001, .v (.int .i64 c1), .v (.int .i64 c2), .v (.string ⟨⟨r.2⟩⟩), .v (.bool c4)]), (900001, .tre 37 10 6 3 (l5.map fun x : Node × Bool => (cNode x.1, x.2)))] := by
  intro r hr
  refine fc_intro (args := [.loc 900000 0]) (S := [(900000, .box 52 [.own 900001, .v (.int .i64 c1), .v (.int .i64 c2), .v (.string ⟨⟨c3⟩⟩), .v (.bool c4)]), (900001, .tre 37 10 6 3 (l5.map fun x : Node × Bool => (cNode x.1, x.2)))]) (N0 := [900000, 900001]) (post := fun r p S => p = .v (.string ⟨⟨r.1⟩⟩) ∧ S = [(900000, .box 52 [.own 900001, .v (.int .i64 c1), .v (.int .i64 c2), .v (.string ⟨⟨r.2⟩⟩), .v (.bool c4)]), (900001, .tre 37 10 6 3 (l5.map fun x : Node × Bool => (cNode x.1, x.2)))]) Tryz.func65 rfl rfl hr fun w0 X X0 σ0 _ => ?_
  refine pw_seq ?_
  refine pw_region ?_
  refine po_evs (T := tab) 1 rfl rfl ?_
  refine po_nil ?_
  refine pn_seq ?_
  refine pw_seq ?_
  refine pw_region ?_
  refine po_evs (T := tab) 4 rfl rfl ?_
  refine po_call (enc := fun (r6 : Int) => .v (.int .i64 r6)) (qs := [.v (.string ⟨⟨c3⟩⟩), .fn (.func 90) [] []]) (Strings_IndexFunc_i3_ok fu c3) rfl rfl ⟨⟨_, rfl, .rfl⟩, ⟨_, rfl, .rfl⟩, trivial⟩ (fun _ => rfl) call89 rfl rfl fun r6 hr6 => ?_
  refine po_evs (T := tab) 1 rfl rfl ?_
  refine po_nil ?_
  refine pn_seq ?_
  refine pw_seq ?_
  refine pw_seq ?_
  refine pw_region ?_
  refine po_evs (T := tab) 2 rfl rfl ?_
  refine po_nil ?_
  refine pn_seq ?_
  refine pw_cnd rfl ?_ ?_
  · refine pw_region ?_
    refine po_evs (T := tab) 6 rfl rfl ?_
    refine po_nil ?_
    refine pn_seq ?_
    refine pw_seq ?_
    refine pw_region ?_
    refine po_evs (T := tab) 5 rfl rfl ?_
    refine po_sub (T := tab) rfl rfl rfl rfl rfl rfl rfl rfl fun s7 hs7 => ?_
    refine po_evs (T := tab) 1 rfl rfl ?_
    refine po_nil ?_
    refine pn_seq ?_
    refine pw_seq ?_
    refine pw_region ?_
    refine po_evs (T := tab) 6 rfl rfl ?_
    refine po_sub (T := tab) rfl rfl rfl rfl rfl rfl rfl rfl fun s8 hs8 => ?_
    refine po_evs (T := tab) 2 rfl rfl ?_
    refine po_store (T := tab) rfl rfl rfl rfl rfl rfl rfl rfl rfl rfl rfl rfl ?_
    refine po_nil ?_
    refine pn_seq ?_
    refine pw_seq ?_
    refine pw_region ?_
    refine po_evs (T := tab) 2 rfl rfl ?_
    refine po_nil ?_
    refine pn_seq ?_
    exact pw_retN (T := tab) rfl rfl rfl ⟨rfl, rfl⟩ ⟨rfl, rfl, trivial⟩ rfl
  · refine pw_skip ?_
    refine pn_seq ?_
    refine pw_seq ?_
    refine pw_region ?_
    refine po_evs (T := tab) 5 rfl rfl ?_
    refine po_sub (T := tab) rfl rfl rfl rfl rfl rfl rfl rfl fun s9 hs9 => ?_
    refine po_evs (T := tab) 1 rfl rfl ?_
    refine po_nil ?_
    refine pn_seq ?_
    refine pw_seq ?_
    refine pw_region ?_
    refine po_evs (T := tab) 6 rfl rfl ?_
    refine po_sub (T := tab) rfl rfl rfl rfl rfl rfl rfl rfl fun s10 hs10 => ?_
    refine po_evs (T := tab) 2 rfl rfl ?_
    refine po_store (T := tab) rfl rfl rfl rfl rfl rfl rfl rfl rfl rfl rfl rfl ?_
    refine po_nil ?_
    refine pn_seq ?_
    refine pw_seq ?_
    refine pw_region ?_
    refine po_evs (T := tab) 2 rfl rfl ?_
    refine po_nil ?_
    refine pn_seq ?_
    exact pw_retN (T := tab) rfl rfl rfl ⟨rfl, rfl⟩ ⟨rfl, rfl, trivial⟩ rfl

def Print_reader_must_m (fu : Nat) (w1 : Bs) (c4 : Bs) (c5 : Bool) : Option (Bs × Bool) := bnd (Print_reader_take_m fu w1 c4) fun r7 => cnd (!r7.1) (some (r7.2, true)) (some (r7.2, c5))

set_option maxRecDepth 100000 in
theorem Print_reader_must_ok (fu : Nat) (w1 : Bs) (c2 : Int) (c3 : Int) (c4 : Bs) (c5 : Bool) (l6 : (List (Node × Bool))) : ∀ r, Print_reader_must_m fu w1 c4 c5 = some r → FC laidL Tryz.prog 66 [.loc 900000 0, .v (.string ⟨⟨w1⟩⟩)] [(900000, .box 52 [.own 900001, .v (.int .i64 c2), .v (.int .i64 c3), .v (.string ⟨⟨c4⟩⟩), .v (.bool c5)]), (900001, .tre 37 10 6 3 (l6.map fun x : Node × Bool => (cNode x.1, x.2)))] [900000, 900001] fun p S' => p = .tup [] ∧ S' = [(900000, .box 52 [.own 900001, .v (.int .i64 c2), .v (.int .i64 c3), .v (.string ⟨⟨r.1⟩⟩), .v (.bool r.2)]), (900001, .tre 37 10 6 3 (l6.map fun x : Node × Bool => (cNode x.1, x.2)))] := by
  intro r hr
  refine fc_intro (args := [.loc 900000 0, .v (.string ⟨⟨w1⟩⟩)]) (S := [(900000, .box 52 [.own 900001, .v (.int .i64 c2), .v (.int .i64 c3), .v (.string ⟨⟨c4⟩⟩), .v (.bool c5)]), (900001, .tre 37 10 6 3 (l6.map fun x : Node × Bool => (cNode x.1, x.2)))]) (N0 := [900000, 900001]) (post := fun r p S => p = .tup [] ∧ S = [(900000, .box 52 [.own 900001, .v (.int .i64 c2), .v (.int .i64 c3), .v (.string ⟨⟨r.1⟩⟩), .v (.bool r.2)]), (900001, .tre 37 10 6 3 (l6.map fun x : Node × Bool => (cNode x.1, x.2)))]) Tryz.func66 rfl rfl hr fun w0 X X0 σ0 _ => ?_
  refine pw_seq ?_
  refine pw_region ?_
  refine po_evs (T := tab) 2 rfl rfl ?_
  refine po_turn [] (enc := fun (r7 : (Bool × Bs)) => .v (.bool r7.1)) (Sr := fun (r7 : (Bool × Bs)) => [(900000, .box 52 [.own 900001, .v (.int .i64 c2), .v (.int .i64 c3), .v (.string ⟨⟨r7.2⟩⟩), .v (.bool c5)]), (900001, .tre 37 10 6 3 (l6.map fun x : Node × Bool => (cNode x.1, x.2)))]) (first := []) (cap := []) (qs := [.loc 900000 0, .v (.string ⟨⟨w1⟩⟩)]) (Sc := [(900000, .box 52 [.own 900001, .v (.int .i64 c2), .v (.int .i64 c3), .v (.string ⟨⟨c4⟩⟩), .v (.bool c5)]), (900001, .tre 37 10 6 3 (l6.map fun x : Node × Bool => (cNode x.1, x.2)))]) (N0 := [900000, 900001]) (NR := [900000, 900001]) (fun r7 hr7 => fc_ren [(900000, 900000), (900001, 900001)] [900000, 900001] (Print_reader_take_ok fu w1 c2 c3 c4 c5 l6 _ hr7) rfl rfl rfl rfl rfl rfl) ⟨rfl, rfl, trivial⟩ (fun _ => rfl) rfl rfl rfl rfl rfl rfl rfl (fun _ => rfl) (fun _ => rfl) rfl rfl rfl ⟨⟨_, rfl, .rfl⟩, ⟨_, rfl, .rfl⟩, trivial⟩ call40 rfl rfl fun r7 hr7 => ?_
  refine po_evs (T := tab) 1 rfl rfl ?_
  refine po_nil ?_
  refine pn_seq ?_
  refine pw_cnd rfl ?_ ?_
  · refine pw_region ?_
    refine po_evs (T := tab) 3 rfl rfl ?_
    refine po_store (T := tab) rfl rfl rfl rfl rfl rfl rfl rfl rfl rfl rfl rfl ?_
    refine po_nil ?_
    exact pn_retN (T := tab) rfl rfl rfl ⟨rfl, rfl⟩ ⟨rfl, rfl, trivial⟩ rfl
  · refine pw_skip ?_
    exact pn_retN (T := tab) rfl rfl rfl ⟨rfl, rfl⟩ ⟨rfl, rfl, trivial⟩ rfl

def Print_reader_add_m (_fu : Nat) (x1 : Int) (x2 : Bs) (x3 : Bs) (x4 : Bs) (x5 : (List Attr)) (c11 : Int) (l14 : (List (Node × Bool))) : Option (Int × (List (Node × Bool))) := bnd (roomy 136 (l14.length + 1)) fun _ => bnd (rng .i64 ((((l14 ++ [((⟨x1, x2, x3, x4, x5, (-1), [], (-1), (-1), c11⟩ : Node), true)]).length : Nat) : Int) - 1)) fun i15 => some (i15, (l14 ++ [((⟨x1, x2, x3, x4, x5, (-1), [], (-1), (-1), c11⟩ : Node), true)]))

set_option maxHeartbeats 10000000 in
set_option maxRecDepth 100000 in
theorem Print_reader_add_ok (fu : Nat) (x1 : Int) (x2 : Bs) (x3 : Bs) (x4 : Bs) (x5 : (List Attr)) (x6 : Int) (x7 : Int) (x8 : Int) (x9 : Int) (c10 : Int) (c11 : Int) (c12 : Bs) (c13 : Bool) (l14 : (List (Node × Bool))) : ∀ r, Print_reader_add_m fu x1 x2 x3 x4 x5 c11 l14 = some r → FC laidL Tryz.prog 42 [.loc 900000 0, .agg [.v (.int .i64 x1), .v (.string ⟨⟨x2⟩⟩), .v (.string ⟨⟨x3⟩⟩), .v (.string ⟨⟨x4⟩⟩), .sl 2 false (x5.map cAttr), .v (.int .i64 x6), .v (.slice none 0 0), .v (.int .i64 x7), .v (.int .i64 x8), .v (.int .i64 x9)]] [(900000, .box 52 [.own 900001, .v (.int .i64 c10), .v (.int .i64 c11), .v (.string ⟨⟨c12⟩⟩), .v (.bool c13)]), (900001, .tre 37 10 6 3 (l14.map fun x : Node × Bool => (cNode x.1, x.2)))] [900000] fun p S' => p = .v (.int .i64 r.1) ∧ S' = [(900000, .box 52 [.own 900001, .v (.int .i64 c10), .v (.int .i64 c11), .v (.string ⟨⟨c12⟩⟩), .v (.bool c13)]), (900001, .tre 37 10 6 3 (r.2.map fun x : Node × Bool => (cNode x.1, x.2)))] := by
  intro r hr
  refine fc_intro (args := [.loc 900000 0, .agg [.v (.int .i64 x1), .v (.string ⟨⟨x2⟩⟩), .v (.string ⟨⟨x3⟩⟩), .v (.string ⟨⟨x4⟩⟩), .sl 2 false (x5.map cAttr), .v (.int .i64 x6), .v (.slice none 0 0), .v (.int .i64 x7), .v (.int .i64 x8), .v (.int .i64 x9)]]) (S := [(900000, .box 52 [.own 900001, .v (.int .i64 c10), .v (.int .i64 c11), .v (.string ⟨⟨c12⟩⟩), .v (.bool c13)]), (900001, .tre 37 10 6 3 (l14.map fun x : Node × Bool => (cNode x.1, x.2)))]) (N0 := [900000]) (post := fun r p S => p = .v (.int .i64 r.1) ∧ S = [(900000, .box 52 [.own 900001, .v (.int .i64 c10), .v (.int .i64 c11), .v (.string ⟨⟨c12⟩⟩), .v (.bool c13)]), (900001, .tre 37 10 6 3 (r.2.map fun x : Node × Bool => (cNode x.1, x.2)))]) Tryz.func42 rfl rfl hr fun w0 X X0 σ0 _ => ?_
  refine pw_seq ?_
  refine pw_region ?_
  refine po_box  3 rfl rfl rfl rfl rfl rfl rfl rfl rfl rfl ?_
  refine po_evs (T := tab) 1 rfl rfl ?_
  refine po_nil ?_
  refine pn_seq ?_
  refine pw_seq ?_
  refine pw_sub' (E' := [(0, .loc 900000 0), (3, .loc 3 0)]) (S' := [(3, .box 37 [.v (.int .i64 x1), .v (.string ⟨⟨x2⟩⟩), .v (.string ⟨⟨x3⟩⟩), .v (.string ⟨⟨x4⟩⟩), .sl 2 false (x5.map cAttr), .v (.int .i64 x6), .v (.slice none 0 0), .v (.int .i64 x7), .v (.int .i64 x8), .v (.int .i64 x9)]), (900000, .box 52 [.own 900001, .v (.int .i64 c10), .v (.int .i64 c11), .v (.string ⟨⟨c12⟩⟩), .v (.bool c13)]), (900001, .tre 37 10 6 3 (l14.map fun x : Node × Bool => (cNode x.1, x.2)))]) ?_ ⟨rfl, rfl, trivial⟩ ⟨rfl, rfl, rfl, trivial⟩ rfl
  refine pw_drawV [0, 1, 3, 7, 0, 16, 48, 112, 240, 496, 1023, 2047] mixed (by kernel_rfl) (by kernel_rfl) rfl rfl ?_
  refine pdv_step0 [0] [10] [] [900000] [] [(5, .loc 900000 0)] [] rfl rfl rfl rfl (by kernel_rfl) (by kernel_rfl) (by kernel_rfl) trivial (fun w0 X X0 σ0 _ => by refine po_evs (T := tab) 1 rfl rfl ?_; refine po_nil ?_; exact pn_end0 ⟨rfl, trivial⟩ trivial rfl) ?_
  refine pdv_step0 [10] [12] [] [900000] [] [(6, .loc 900000 0)] [] rfl rfl rfl rfl (by kernel_rfl) (by kernel_rfl) (by kernel_rfl) trivial (fun w0 X X0 σ0 _ => by refine po_evs (T := tab) 1 rfl rfl ?_; refine po_nil ?_; exact pn_end0 ⟨rfl, trivial⟩ trivial rfl) ?_
  refine pdv_step0 [12] [14] [] [900000] [] [(7, .loc 900000 2)] [] rfl rfl rfl rfl (by kernel_rfl) (by kernel_rfl) (by kernel_rfl) trivial (fun w0 X X0 σ0 _ => by refine po_evs (T := tab) 1 rfl rfl ?_; refine po_nil ?_; exact pn_end0 ⟨rfl, trivial⟩ trivial rfl) ?_
  refine pdv_step0 [14, 1800001] [16] [] [900000, 900001] [900000] [(8, .v (.int .i64 c11))] [(900000, .box 52 [.own 900001, .v (.int .i64 c10), .v (.int .i64 c11), .v (.string ⟨⟨c12⟩⟩), .v (.bool c13)])] rfl rfl rfl rfl (by kernel_rfl) (by kernel_rfl) (by kernel_rfl) ⟨rfl, trivial⟩ (fun w0 X X0 σ0 _ => by refine po_evs (T := tab) 1 rfl rfl ?_; refine po_nil ?_; exact pn_end0 ⟨rfl, trivial⟩ ⟨rfl, trivial⟩ rfl) ?_
  refine pdv_step0 [6] [18] [] [3] [] [(9, .loc 3 5)] [] rfl rfl rfl rfl (by kernel_rfl) (by kernel_rfl) (by kernel_rfl) trivial (fun w0 X X0 σ0 _ => by refine po_evs (T := tab) 1 rfl rfl ?_; refine po_nil ?_; exact pn_end0 ⟨rfl, trivial⟩ trivial rfl) ?_
  refine pdv_step0 [7, 18] [7] [] [3] [] [] [(3, .box 37 [.v (.int .i64 x1), .v (.string ⟨⟨x2⟩⟩), .v (.string ⟨⟨x3⟩⟩), .v (.string ⟨⟨x4⟩⟩), .sl 2 false (x5.map cAttr), .v (.int .i64 (-1)), .v (.slice none 0 0), .v (.int .i64 x7), .v (.int .i64 x8), .v (.int .i64 x9)])] rfl rfl rfl rfl (by kernel_rfl) (by kernel_rfl) (by kernel_rfl) trivial (fun w0 X X0 σ0 _ => by refine po_store (T := tab) rfl rfl rfl rfl rfl rfl rfl rfl rfl rfl rfl rfl ?_; refine po_nil ?_; exact pn_end0 trivial ⟨rfl, trivial⟩ rfl) ?_
  refine pdv_step0 [6] [20] [] [3] [] [(10, .loc 3 7)] [] rfl rfl rfl rfl (by kernel_rfl) (by kernel_rfl) (by kernel_rfl) trivial (fun w0 X X0 σ0 _ => by refine po_evs (T := tab) 1 rfl rfl ?_; refine po_nil ?_; exact pn_end0 ⟨rfl, trivial⟩ trivial rfl) ?_
  refine pdv_step0 [7, 20] [7] [] [3] [] [] [(3, .box 37 [.v (.int .i64 x1), .v (.string ⟨⟨x2⟩⟩), .v (.string ⟨⟨x3⟩⟩), .v (.string ⟨⟨x4⟩⟩), .sl 2 false (x5.map cAttr), .v (.int .i64 (-1)), .v (.slice none 0 0), .v (.int .i64 (-1)), .v (.int .i64 x8), .v (.int .i64 x9)])] rfl rfl rfl rfl (by kernel_rfl) (by kernel_rfl) (by kernel_rfl) trivial (fun w0 X X0 σ0 _ => by refine po_store (T := tab) rfl rfl rfl rfl rfl rfl rfl rfl rfl rfl rfl rfl ?_; refine po_nil ?_; exact pn_end0 trivial ⟨rfl, trivial⟩ rfl) ?_
  refine pdv_step0 [6] [22] [] [3] [] [(11, .loc 3 8)] [] rfl rfl rfl rfl (by kernel_rfl) (by kernel_rfl) (by kernel_rfl) trivial (fun w0 X X0 σ0 _ => by refine po_evs (T := tab) 1 rfl rfl ?_; refine po_nil ?_; exact pn_end0 ⟨rfl, trivial⟩ trivial rfl) ?_
  refine pdv_step0 [7, 22] [7] [] [3] [] [] [(3, .box 37 [.v (.int .i64 x1), .v (.string ⟨⟨x2⟩⟩), .v (.string ⟨⟨x3⟩⟩), .v (.string ⟨⟨x4⟩⟩), .sl 2 false (x5.map cAttr), .v (.int .i64 (-1)), .v (.slice none 0 0), .v (.int .i64 (-1)), .v (.int .i64 (-1)), .v (.int .i64 x9)])] rfl rfl rfl rfl (by kernel_rfl) (by kernel_rfl) (by kernel_rfl) trivial (fun w0 X X0 σ0 _ => by refine po_store (T := tab) rfl rfl rfl rfl rfl rfl rfl rfl rfl rfl rfl rfl ?_; refine po_nil ?_; exact pn_end0 trivial ⟨rfl, trivial⟩ rfl) ?_
  refine pdv_step0 [6] [24] [] [3] [] [(12, .loc 3 9)] [] rfl rfl rfl rfl (by kernel_rfl) (by kernel_rfl) (by kernel_rfl) trivial (fun w0 X X0 σ0 _ => by refine po_evs (T := tab) 1 rfl rfl ?_; refine po_nil ?_; exact pn_end0 ⟨rfl, trivial⟩ trivial rfl) ?_
  refine pdv_step0 [7, 16, 24] [7] [] [3] [] [] [(3, .box 37 [.v (.int .i64 x1), .v (.string ⟨⟨x2⟩⟩), .v (.string ⟨⟨x3⟩⟩), .v (.string ⟨⟨x4⟩⟩), .sl 2 false (x5.map cAttr), .v (.int .i64 (-1)), .v (.slice none 0 0), .v (.int .i64 (-1)), .v (.int .i64 (-1)), .v (.int .i64 c11)])] rfl rfl rfl rfl (by kernel_rfl) (by kernel_rfl) (by kernel_rfl) trivial (fun w0 X X0 σ0 _ => by refine po_store (T := tab) rfl rfl rfl rfl rfl rfl rfl rfl rfl rfl rfl rfl ?_; refine po_nil ?_; exact pn_end0 trivial ⟨rfl, trivial⟩ rfl) ?_
  refine pdv_nil rfl rfl ?_
  refine pn_seq ?_
  refine pw_seq ?_
  refine pw_sub' (E' := [(0, .loc 900000 0), (3, .loc 3 0)]) (S' := [(3, .box 37 [.v (.int .i64 x1), .v (.string ⟨⟨x2⟩⟩), .v (.string ⟨⟨x3⟩⟩), .v (.string ⟨⟨x4⟩⟩), .sl 2 false (x5.map cAttr), .v (.int .i64 (-1)), .v (.slice none 0 0), .v (.int .i64 (-1)), .v (.int .i64 (-1)), .v (.int .i64 c11)]), (900000, .box 52 [.own 900001, .v (.int .i64 c10), .v (.int .i64 c11), .v (.string ⟨⟨c12⟩⟩), .v (.bool c13)]), (900001, .tre 37 10 6 3 (l14.map fun x : Node × Bool => (cNode x.1, x.2)))]) ?_ ⟨rfl, rfl, trivial⟩ ⟨rfl, rfl, rfl, trivial⟩ rfl
  refine pw_drawV [0, 0, 2, 6, 14, 30, 0, 64, 254, 511, 1023, 2047, 4095] mixed (by kernel_rfl) (by kernel_rfl) rfl rfl ?_
  refine pdv_step0 [0] [26] [] [900000] [] [(13, .loc 900000 0)] [] rfl rfl rfl rfl (by kernel_rfl) (by kernel_rfl) (by kernel_rfl) trivial (fun w0 X X0 σ0 _ => by refine po_evs (T := tab) 1 rfl rfl ?_; refine po_nil ?_; exact pn_end0 ⟨rfl, trivial⟩ trivial rfl) ?_
  refine pdv_step0 [0] [28] [] [900000] [] [(14, .loc 900000 0)] [] rfl rfl rfl rfl (by kernel_rfl) (by kernel_rfl) (by kernel_rfl) trivial (fun w0 X X0 σ0 _ => by refine po_evs (T := tab) 1 rfl rfl ?_; refine po_nil ?_; exact pn_end0 ⟨rfl, trivial⟩ trivial rfl) ?_
  refine pdv_step0 [28] [30] [] [900000] [] [(15, .loc 900000 0)] [] rfl rfl rfl rfl (by kernel_rfl) (by kernel_rfl) (by kernel_rfl) trivial (fun w0 X X0 σ0 _ => by refine po_evs (T := tab) 1 rfl rfl ?_; refine po_nil ?_; exact pn_end0 ⟨rfl, trivial⟩ trivial rfl) ?_
  refine pdv_step0 [30] [32] [] [900000] [] [(16, .loc 900000 0)] [] rfl rfl rfl rfl (by kernel_rfl) (by kernel_rfl) (by kernel_rfl) trivial (fun w0 X X0 σ0 _ => by refine po_evs (T := tab) 1 rfl rfl ?_; refine po_nil ?_; exact pn_end0 ⟨rfl, trivial⟩ trivial rfl) ?_
  refine pdv_step0 [32] [34] [] [900000] [] [(17, .loc 900000 0)] [] rfl rfl rfl rfl (by kernel_rfl) (by kernel_rfl) (by kernel_rfl) trivial (fun w0 X X0 σ0 _ => by refine po_evs (T := tab) 1 rfl rfl ?_; refine po_nil ?_; exact pn_end0 ⟨rfl, trivial⟩ trivial rfl) ?_
  refine pdv_step0 [34, 1800001] [36] [] [900000, 900001] [900000] [(18, .own 900001)] [(900000, .box 52 [.own 900001, .v (.int .i64 c10), .v (.int .i64 c11), .v (.string ⟨⟨c12⟩⟩), .v (.bool c13)])] rfl rfl rfl rfl (by kernel_rfl) (by kernel_rfl) (by kernel_rfl) ⟨rfl, trivial⟩ (fun w0 X X0 σ0 _ => by refine po_evs (T := tab) 1 rfl rfl ?_; refine po_nil ?_; exact pn_end0 ⟨rfl, trivial⟩ ⟨rfl, trivial⟩ rfl) ?_
  refine pdv_step0 [6, 7] [38] [] [3] [3] [(19, .agg [.v (.int .i64 x1), .v (.string ⟨⟨x2⟩⟩), .v (.string ⟨⟨x3⟩⟩), .v (.string ⟨⟨x4⟩⟩), .sl 2 false (x5.map cAttr), .v (.int .i64 (-1)), .v (.slice none 0 0), .v (.int .i64 (-1)), .v (.int .i64 (-1)), .v (.int .i64 c11)])] [(3, .box 37 [.v (.int .i64 x1), .v (.string ⟨⟨x2⟩⟩), .v (.string ⟨⟨x3⟩⟩), .v (.string ⟨⟨x4⟩⟩), .sl 2 false (x5.map cAttr), .v (.int .i64 (-1)), .v (.slice none 0 0), .v (.int .i64 (-1)), .v (.int .i64 (-1)), .v (.int .i64 c11)])] rfl rfl rfl rfl (by kernel_rfl) (by kernel_rfl) (by kernel_rfl) ⟨rfl, trivial⟩ (fun w0 X X0 σ0 _ => by refine po_evs (T := tab) 1 rfl rfl ?_; refine po_nil ?_; exact pn_end0 ⟨rfl, trivial⟩ ⟨rfl, trivial⟩ rfl) ?_
  refine pdv_step0 [38] [40, 41] [20] [] [] [(20, .own 20)] [(20, .arr 37 10 [[.v (.int .i64 x1), .v (.string ⟨⟨x2⟩⟩), .v (.string ⟨⟨x3⟩⟩), .v (.string ⟨⟨x4⟩⟩), .sl 2 false (x5.map cAttr), .v (.int .i64 (-1)), .v (.slice none 0 0), .v (.int .i64 (-1)), .v (.int .i64 (-1)), .v (.int .i64 c11)]])] rfl rfl rfl rfl (by kernel_rfl) (by kernel_rfl) (by kernel_rfl) trivial (fun w0 X X0 σ0 _ => by refine po_lit (T := tab) (rows := [[.v (.int .i64 x1), .v (.string ⟨⟨x2⟩⟩), .v (.string ⟨⟨x3⟩⟩), .v (.string ⟨⟨x4⟩⟩), .sl 2 false (x5.map cAttr), .v (.int .i64 (-1)), .v (.slice none 0 0), .v (.int .i64 (-1)), .v (.int .i64 (-1)), .v (.int .i64 c11)]]) 20 rfl rfl rfl rfl rfl rfl rfl rfl rfl rfl rfl rfl rfl rfl ?_; refine po_nil ?_; exact pn_end0 ⟨rfl, trivial⟩ ⟨rfl, trivial⟩ rfl) ?_
  refine pdv_step (M := (roomy 136 (l14.length + 1))) (ment := [(42, [900001]), (36, []), (1800001, []), (1800003, [])]) [36, 40, 41, 1800001, 1800003] [42, 36, 1800001, 1800003] [900001] [20, 900000] [20] (fun _ => [(21, .own 900001)]) (fun _ => [(900000, .box 52 [.junk, .v (.int .i64 c10), .v (.int .i64 c11), .v (.string ⟨⟨c12⟩⟩), .v (.bool c13)]), (900001, .tre 37 10 6 3 ((l14 ++ [((⟨x1, x2, x3, x4, x5, (-1), [], (-1), (-1), c11⟩ : Node), true)]).map fun x : Node × Bool => (cNode x.1, x.2))), (20, .arr 37 10 [[.v (.int .i64 x1), .v (.string ⟨⟨x2⟩⟩), .v (.string ⟨⟨x3⟩⟩), .v (.string ⟨⟨x4⟩⟩), .sl 2 false (x5.map cAttr), .v (.int .i64 (-1)), .v (.slice none 0 0), .v (.int .i64 (-1)), .v (.int .i64 (-1)), .v (.int .i64 c11)]])]) rfl rfl (fun _ => rfl) (fun _ => rfl) (by kernel_rfl) (by kernel_rfl) (fun _ => by kernel_rfl) (fun _ => ⟨rfl, trivial⟩) (fun w0 X X0 σ0 _ => by refine po_append_tre (T := tab) l14.length [.v (.int .i64 x1), .v (.string ⟨⟨x2⟩⟩), .v (.string ⟨⟨x3⟩⟩), .v (.string ⟨⟨x4⟩⟩), .sl 2 false (x5.map cAttr), .v (.int .i64 (-1)), .v (.slice none 0 0), .v (.int .i64 (-1)), .v (.int .i64 (-1)), .v (.int .i64 c11)] (cNode (⟨x1, x2, x3, x4, x5, (-1), [], (-1), (-1), c11⟩ : Node), true) 1 (by simp) (app_rows (fun x : Node × Bool => (cNode x.1, x.2)) l14 ((⟨x1, x2, x3, x4, x5, (-1), [], (-1), (-1), c11⟩ : Node), true)) (.inr ⟨rfl, rfl, rfl⟩) rfl rfl rfl rfl rfl rfl rfl rfl rfl rfl rfl rfl rfl rfl rfl rfl rfl rfl rfl rfl ?_; refine po_nil ?_; exact pn_end ⟨rfl, trivial⟩ ⟨rfl, rfl, rfl, trivial⟩ rfl) fun _ h0 => ?_
  refine pdv_step0 [26] [44] [] [900000] [] [(22, .loc 900000 0)] [] rfl rfl rfl rfl (by kernel_rfl) (by kernel_rfl) (by kernel_rfl) trivial (fun w0 X X0 σ0 _ => by refine po_evs (T := tab) 1 rfl rfl ?_; refine po_nil ?_; exact pn_end0 ⟨rfl, trivial⟩ trivial rfl) ?_
  refine pdv_step0 [44] [46] [] [900000] [] [(23, .loc 900000 0)] [] rfl rfl rfl rfl (by kernel_rfl) (by kernel_rfl) (by kernel_rfl) trivial (fun w0 X X0 σ0 _ => by refine po_evs (T := tab) 1 rfl rfl ?_; refine po_nil ?_; exact pn_end0 ⟨rfl, trivial⟩ trivial rfl) ?_
  refine pdv_step0 [46] [48] [] [900000] [] [(24, .loc 900000 0)] [] rfl rfl rfl rfl (by kernel_rfl) (by kernel_rfl) (by kernel_rfl) trivial (fun w0 X X0 σ0 _ => by refine po_evs (T := tab) 1 rfl rfl ?_; refine po_nil ?_; exact pn_end0 ⟨rfl, trivial⟩ trivial rfl) ?_
  refine pdv_step0 [42, 48, 1800001, 1800003] [1800001] [] [900000, 900001] [900001] [] [(900000, .box 52 [.own 900001, .v (.int .i64 c10), .v (.int .i64 c11), .v (.string ⟨⟨c12⟩⟩), .v (.bool c13)]), (900001, .tre 37 10 6 3 ((l14 ++ [((⟨x1, x2, x3, x4, x5, (-1), [], (-1), (-1), c11⟩ : Node), true)]).map fun x : Node × Bool => (cNode x.1, x.2)))] rfl rfl rfl rfl (by kernel_rfl) (by kernel_rfl) (by kernel_rfl) ⟨rfl, trivial⟩ (fun w0 X X0 σ0 _ => by refine po_store (T := tab) rfl rfl rfl rfl rfl rfl rfl rfl rfl rfl rfl rfl ?_; refine po_nil ?_; exact pn_end0 trivial ⟨rfl, rfl, trivial⟩ rfl) ?_
  refine pdv_nil rfl rfl ?_
  refine pn_seq ?_
  refine pw_seq ?_
  refine pw_region ?_
  refine po_evs (T := tab) 5 rfl rfl ?_
  refine po_len_tre (T := tab) (l := (l14 ++ [((⟨x1, x2, x3, x4, x5, (-1), [], (-1), (-1), c11⟩ : Node), true)]).length) rfl rfl rfl rfl rfl rfl rfl (by simp) rfl rfl ?_
  refine po_arith' (T := tab) rfl rfl rfl rfl fun i15 hi15 => ?_
  refine po_evs (T := tab) 1 rfl rfl ?_
  refine po_nil ?_
  refine pn_seq ?_
  exact pw_retN (T := tab) rfl rfl rfl ⟨rfl, rfl⟩ ⟨rfl, rfl, trivial⟩ rfl

def Strings_Builder_String_m (_fu : Nat) (l1 : (List Int)) : Option Bs := some (strOf l1)

set_option maxRecDepth 100000 in
theorem Strings_Builder_String_ok (fu : Nat) (l1 : (List Int)) : ∀ r, Strings_Builder_String_m fu l1 = some r → FC laidL Tryz.prog 21 [.loc 900000 0] [(900000, .box 58 [.nloc 900000 0, .ownb 900001]), (900001, .arr 5 1 (l1.map cInt_u8))] [900000, 900001] fun p S' => p = .v (.string ⟨⟨r⟩⟩) ∧ S' = [(900000, .box 58 [.nloc 900000 0, .junk])] := by
  intro r hr
  refine fc_intro (args := [.loc 900000 0]) (S := [(900000, .box 58 [.nloc 900000 0, .ownb 900001]), (900001, .arr 5 1 (l1.map cInt_u8))]) (N0 := [900000, 900001]) (post := fun r p S => p = .v (.string ⟨⟨r⟩⟩) ∧ S = [(900000, .box 58 [.nloc 900000 0, .junk])]) Tryz.func21 rfl rfl hr fun w0 X X0 σ0 _ => ?_
  refine pw_seq ?_
  refine pw_region ?_
  refine po_evs (T := tab) 1 rfl rfl ?_
  refine po_nil ?_
  refine pn_seq ?_
  refine pw_seq ?_
  refine pw_sub' (E' := [(0, .loc 900000 0)]) (S' := [(900000, .box 58 [.nloc 900000 0, .ownb 900001]), (900001, .arr 5 1 (l1.map cInt_u8))]) ?_ ⟨rfl, trivial⟩ ⟨rfl, rfl, trivial⟩ rfl
  refine pw_drawV [0, 1, 3, 7, 15, 0, 32, 96, 224, 480, 1023, 2047] mixed (by kernel_rfl) (by kernel_rfl) rfl rfl ?_
  refine pdv_step0 [0] [6] [] [900000] [] [(3, .loc 900000 0)] [] rfl rfl rfl rfl (by kernel_rfl) (by kernel_rfl) (by kernel_rfl) trivial (fun w0 X X0 σ0 _ => by refine po_evs (T := tab) 1 rfl rfl ?_; refine po_nil ?_; exact pn_end0 ⟨rfl, trivial⟩ trivial rfl) ?_
  refine pdv_step0 [6] [8] [] [900000] [] [(4, .loc 900000 0)] [] rfl rfl rfl rfl (by kernel_rfl) (by kernel_rfl) (by kernel_rfl) trivial (fun w0 X X0 σ0 _ => by refine po_evs (T := tab) 1 rfl rfl ?_; refine po_nil ?_; exact pn_end0 ⟨rfl, trivial⟩ trivial rfl) ?_
  refine pdv_step0 [8] [10] [] [900000] [] [(5, .loc 900000 1)] [] rfl rfl rfl rfl (by kernel_rfl) (by kernel_rfl) (by kernel_rfl) trivial (fun w0 X X0 σ0 _ => by refine po_evs (T := tab) 1 rfl rfl ?_; refine po_nil ?_; exact pn_end0 ⟨rfl, trivial⟩ trivial rfl) ?_
  refine pdv_step0 [10, 1800001] [12] [] [900000, 900001] [900000] [(6, .ownb 900001)] [(900000, .box 58 [.nloc 900000 0, .ownb 900001])] rfl rfl rfl rfl (by kernel_rfl) (by kernel_rfl) (by kernel_rfl) ⟨rfl, trivial⟩ (fun w0 X X0 σ0 _ => by refine po_evs (T := tab) 1 rfl rfl ?_; refine po_nil ?_; exact pn_end0 ⟨rfl, trivial⟩ ⟨rfl, trivial⟩ rfl) ?_
  refine pdv_step0 [12, 1800003] [14] [] [900001] [900001] [(7, .dat 900001)] [(900001, .arr 5 1 (l1.map cInt_u8))] rfl rfl rfl rfl (by kernel_rfl) (by kernel_rfl) (by kernel_rfl) ⟨rfl, trivial⟩ (fun w0 X X0 σ0 _ => by refine po_sliceData rfl rfl rfl rfl rfl rfl ?_; refine po_nil ?_; exact pn_end0 ⟨rfl, trivial⟩ ⟨rfl, trivial⟩ rfl) ?_
  refine pdv_step0 [0] [16] [] [900000] [] [(8, .loc 900000 0)] [] rfl rfl rfl rfl (by kernel_rfl) (by kernel_rfl) (by kernel_rfl) trivial (fun w0 X X0 σ0 _ => by refine po_evs (T := tab) 1 rfl rfl ?_; refine po_nil ?_; exact pn_end0 ⟨rfl, trivial⟩ trivial rfl) ?_
  refine pdv_step0 [16] [18] [] [900000] [] [(9, .loc 900000 0)] [] rfl rfl rfl rfl (by kernel_rfl) (by kernel_rfl) (by kernel_rfl) trivial (fun w0 X X0 σ0 _ => by refine po_evs (T := tab) 1 rfl rfl ?_; refine po_nil ?_; exact pn_end0 ⟨rfl, trivial⟩ trivial rfl) ?_
  refine pdv_step0 [18] [20] [] [900000] [] [(10, .loc 900000 1)] [] rfl rfl rfl rfl (by kernel_rfl) (by kernel_rfl) (by kernel_rfl) trivial (fun w0 X X0 σ0 _ => by refine po_evs (T := tab) 1 rfl rfl ?_; refine po_nil ?_; exact pn_end0 ⟨rfl, trivial⟩ trivial rfl) ?_
  refine pdv_step0 [20, 1800001] [22] [] [900000, 900001] [900000] [(11, .ownb 900001)] [(900000, .box 58 [.nloc 900000 0, .ownb 900001])] rfl rfl rfl rfl (by kernel_rfl) (by kernel_rfl) (by kernel_rfl) ⟨rfl, trivial⟩ (fun w0 X X0 σ0 _ => by refine po_evs (T := tab) 1 rfl rfl ?_; refine po_nil ?_; exact pn_end0 ⟨rfl, trivial⟩ ⟨rfl, trivial⟩ rfl) ?_
  refine pdv_step0 [22, 1800003] [24, 22] [] [900001] [900001] [(12, .v (.int .i64 ((l1.length : Nat) : Int))), (11, .own 900001)] [(900001, .arr 5 1 (l1.map cInt_u8))] rfl rfl rfl rfl (by kernel_rfl) (by kernel_rfl) (by kernel_rfl) ⟨rfl, trivial⟩ (fun w0 X X0 σ0 _ => by refine po_coe 11 (q := .own 900001) rfl .ownb ?_; refine po_len_own (T := tab) cInt_u8 l1 rfl rfl rfl rfl rfl rfl rfl rfl rfl ?_; refine po_nil ?_; exact pn_end0 ⟨rfl, rfl, trivial⟩ ⟨rfl, trivial⟩ rfl) ?_
  refine pdv_step0 [12, 14, 22, 24, 1800001, 1800003] [26, 12, 14, 22, 1800001, 1800003] [] [900000, 900001] [] [(13, .v (.string ⟨⟨(strOf l1)⟩⟩)), (11, .sl 1 false (l1.map cInt_u8))] [(900000, .box 58 [.nloc 900000 0, .junk])] rfl rfl rfl rfl (by kernel_rfl) (by kernel_rfl) (by kernel_rfl) trivial (fun w0 X X0 σ0 _ => by refine po_usString cInt_u8 l1 (fun _ => rfl) rfl rfl rfl rfl rfl rfl rfl Tryz.underlying85 (by kernel_rfl) rfl rfl rfl rfl ?_; refine po_nil ?_; exact pn_end0 ⟨rfl, rfl, trivial⟩ ⟨rfl, trivial⟩ rfl) ?_
  refine pdv_step0 [26] [4] [] [] [] [(2, .v (.string ⟨⟨(strOf l1)⟩⟩))] [] rfl rfl rfl rfl (by kernel_rfl) (by kernel_rfl) (by kernel_rfl) trivial (fun w0 X X0 σ0 _ => by refine po_evs (T := tab) 1 rfl rfl ?_; refine po_nil ?_; exact pn_end0 ⟨rfl, trivial⟩ trivial rfl) ?_
  refine pdv_nil rfl rfl ?_
  refine pn_seq ?_
  exact pw_retN (T := tab) rfl rfl rfl ⟨rfl, rfl⟩ ⟨rfl, trivial⟩ rfl

def Strings_Builder_copyCheck_m (_fu : Nat) : Option Unit := some ()

set_option maxRecDepth 100000 in
theorem Strings_Builder_copyCheck_ok (fu : Nat) (l1 : (List Int)) : ∀ r, Strings_Builder_copyCheck_m fu = some r → FC laidL Tryz.prog 68 [.loc 900000 0] [(900000, .box 58 [.nloc 900000 0, .ownb 900001]), (900001, .arr 5 1 (l1.map cInt_u8))] [900000, 900001] fun p S' => p = .tup [] ∧ S' = [(900000, .box 58 [.nloc 900000 0, .ownb 900001]), (900001, .arr 5 1 (l1.map cInt_u8))] := by
  intro r hr
  refine fc_intro (args := [.loc 900000 0]) (S := [(900000, .box 58 [.nloc 900000 0, .ownb 900001]), (900001, .arr 5 1 (l1.map cInt_u8))]) (N0 := [900000, 900001]) (post := fun r p S => p = .tup [] ∧ S = [(900000, .box 58 [.nloc 900000 0, .ownb 900001]), (900001, .arr 5 1 (l1.map cInt_u8))]) Tryz.func68 rfl rfl hr fun w0 X X0 σ0 _ => ?_
  refine pw_seq ?_
  refine pw_region ?_
  refine po_evs (T := tab) 3 rfl rfl ?_
  refine po_nsplit 900000 0 rfl rfl rfl rfl rfl rfl ?_ ?_
  · refine po_evs (T := tab) 1 rfl rfl ?_
    refine po_ptr (T := tab) Tryz.underlying55 rfl rfl rfl rfl rfl rfl rfl rfl ?_
    refine po_nil ?_
    refine pn_seq ?_
    refine pw_then rfl ?_
    refine pw_region ?_
    refine po_evs (T := tab) 2 rfl rfl ?_
    refine po_noescape (T := tab) Tryz.underlying55 Tryz.underlying131 rfl rfl Tryz.func91 rfl rfl rfl rfl rfl rfl rfl rfl rfl (by kernel_rfl) rfl rfl rfl rfl rfl rfl rfl rfl rfl rfl rfl ?_
    refine po_evs (T := tab) 2 rfl rfl ?_
    refine po_store (T := tab) rfl rfl rfl rfl rfl rfl rfl rfl rfl rfl rfl rfl ?_
    refine po_nil ?_
    refine pn_coeS 900000 [.nloc 900000 0, .ownb 900001] rfl ⟨.nloc1, .rfl, trivial⟩ rfl ?_
    exact pn_retN (T := tab) rfl rfl rfl ⟨rfl, rfl⟩ ⟨rfl, rfl, trivial⟩ rfl
  · refine po_evs (T := tab) 1 rfl rfl ?_
    refine po_ptr (T := tab) Tryz.underlying55 rfl rfl rfl rfl rfl rfl rfl rfl ?_
    refine po_nil ?_
    refine pn_seq ?_
    refine pw_else rfl ?_
    refine pw_seq ?_
    refine pw_region ?_
    refine po_evs (T := tab) 5 rfl rfl ?_
    refine po_ptr (T := tab) Tryz.underlying55 rfl rfl rfl rfl rfl rfl rfl rfl ?_
    refine po_nil ?_
    refine pn_seq ?_
    refine pw_else rfl ?_
    refine pw_skip ?_
    refine pn_coeS 900000 [.nloc 900000 0, .ownb 900001] rfl ⟨.nloc1, .rfl, trivial⟩ rfl ?_
    exact pn_retN (T := tab) rfl rfl rfl ⟨rfl, rfl⟩ ⟨rfl, rfl, trivial⟩ rfl

def Strings_Builder_WriteByte_m (fu : Nat) (c1 : Int) (l2 : (List Int)) : Option (Bool × (List Int)) := bnd (Strings_Builder_copyCheck_m fu) fun r3 => bnd (roomy 1 (l2.length + ([c1] : List Int).length)) fun _ => some (false, (l2 ++ [c1]))

set_option maxRecDepth 100000 in
theorem Strings_Builder_WriteByte_ok (fu : Nat) (c1 : Int) (l2 : (List Int)) : ∀ r, Strings_Builder_WriteByte_m fu c1 l2 = some r → FC laidL Tryz.prog 67 [.loc 900000 0, .v (.int .u8 c1)] [(900000, .box 58 [.nloc 900000 0, .ownb 900001]), (900001, .arr 5 1 (l2.map cInt_u8))] [900000] fun p S' => p = .err r.1 ∧ S' = [(900000, .box 58 [.nloc 900000 0, .ownb 900001]), (900001, .arr 5 1 (r.2.map cInt_u8))] := by
  intro r hr
  refine fc_intro (args := [.loc 900000 0, .v (.int .u8 c1)]) (S := [(900000, .box 58 [.nloc 900000 0, .ownb 900001]), (900001, .arr 5 1 (l2.map cInt_u8))]) (N0 := [900000]) (post := fun r p S => p = .err r.1 ∧ S = [(900000, .box 58 [.nloc 900000 0, .ownb 900001]), (900001, .arr 5 1 (r.2.map cInt_u8))]) Tryz.func67 rfl rfl hr fun w0 X X0 σ0 _ => ?_
  refine pw_seq ?_
  refine pw_region ?_
  refine po_evs (T := tab) 1 rfl rfl ?_
  refine po_nil ?_
  refine pn_seq ?_
  refine pw_seq ?_
  refine pw_region ?_
  refine po_evs (T := tab) 1 rfl rfl ?_
  refine po_callv (enc := fun (r3 : Unit) => .tup []) (first := []) (cap := []) (qs := [.loc 900000 0]) (Sc := [(900000, .box 58 [.nloc 900000 0, .ownb 900001]), (900001, .arr 5 1 (l2.map cInt_u8))]) (fun r3 hr3 => fc_ren [(900000, 900000), (900001, 900001)] [900000, 900001] (Strings_Builder_copyCheck_ok fu l2 _ hr3) rfl rfl rfl rfl rfl rfl) (subS_of ⟨rfl, rfl, trivial⟩ rfl) rfl rfl rfl rfl ⟨⟨_, rfl, .rfl⟩, trivial⟩ (fun _ => rfl) call68 rfl rfl fun r3 hr3 => ?_
  refine po_nil ?_
  refine pn_seq ?_
  refine pw_seq ?_
  refine pw_region ?_
  refine po_evs (T := tab) 6 rfl rfl ?_
  refine po_lit (T := tab) (rows := [c1].map cInt_u8) 13 rfl rfl rfl rfl rfl rfl rfl rfl rfl rfl rfl rfl rfl rfl ?_
  refine po_coe 11 (q := .own 900001) rfl .ownb ?_
  refine po_append (T := tab) cInt_u8 l2 ([c1] : List Int) rfl rfl rfl rfl rfl rfl rfl rfl rfl rfl rfl rfl rfl rfl (cInt_u8_one _) rfl rfl rfl rfl rfl ?_
  refine po_toB 900001 14 rfl rfl (by simp) ?_
  refine po_evs (T := tab) 2 rfl rfl ?_
  refine po_store (T := tab) rfl rfl rfl rfl rfl rfl rfl rfl rfl rfl rfl rfl ?_
  refine po_nil ?_
  refine pn_seq ?_
  refine pw_seq ?_
  refine pw_region ?_
  refine po_evs (T := tab) 1 rfl rfl ?_
  refine po_nil ?_
  refine pn_seq ?_
  refine pw_coe 4 (q := .err false) rfl .err0 ?_
  exact pw_retN (T := tab) rfl rfl rfl ⟨rfl, rfl⟩ ⟨rfl, rfl, trivial⟩ rfl

def Print_reader_quoted_j1 (fu : Nat) (r6 : (Bs × Bool)) (l8 : (List Int)) (rc1 : (Int × (List Int)) → Option (Bs × Bs × Bool)) (i20 : Int) : Option (Bs × Bs × Bool) := bnd (chr r6.1 i20) fun b21 => bnd (Strings_Builder_WriteByte_m fu b21 l8) fun r22 => bnd (rng .i64 (i20 + 1)) fun i23 => rc1 (i23, r22.2)

def Print_reader_quoted_l1 (fu : Nat) (r6 : (Bs × Bool)) : Nat → Int × (List Int) → Option (Bs × Bs × Bool)
  | 0, _ => none
  | k1 + 1, (i7, l8) => cnd (decide (i7 < ((r6.1.length : Nat) : Int))) (bnd (chr r6.1 i7) fun b9 => cnd (b9 == 34) (bnd (rng .i64 (i7 + 1)) fun i15 => bnd (piece r6.1 i15 ((r6.1.length : Nat) : Int)) fun s16 => bnd (Strings_Builder_String_m fu l8) fun r17 => some (r17, s16, r6.2)) (cnd (b9 == 92) (bnd (rng .i64 (i7 + 1)) fun i10 => cnd (decide (i10 < ((r6.1.length : Nat) : Int))) (bnd (rng .i64 (i7 + 1)) fun i11 => bnd (chr r6.1 i11) fun b12 => cnd (b12 == 92) (bnd (rng .i64 (i7 + 1)) fun i18 => (Print_reader_quoted_j1 fu r6 l8 (Print_reader_quoted_l1 fu r6 k1)) i18) (bnd (rng .i64 (i7 + 1)) fun i13 => bnd (chr r6.1 i13) fun b14 => cnd (b14 == 34) (bnd (rng .i64 (i7 + 1)) fun i19 => (Print_reader_quoted_j1 fu r6 l8 (Print_reader_quoted_l1 fu r6 k1)) i19) (cnd (b9 != 92) ((Print_reader_quoted_j1 fu r6 l8 (Print_reader_quoted_l1 fu r6 k1)) i7) (some ([], r6.1, true))))) (cnd (b9 != 92) ((Print_reader_quoted_j1 fu r6 l8 (Print_reader_quoted_l1 fu r6 k1)) i7) (some ([], r6.1, true)))) (cnd (b9 != 92) ((Print_reader_quoted_j1 fu r6 l8 (Print_reader_quoted_l1 fu r6 k1)) i7) (some ([], r6.1, true))))) (some ([], r6.1, true))

def Print_reader_quoted_m (fu : Nat) (c3 : Bs) (c4 : Bool) : Option (Bs × Bs × Bool) := bnd (Print_reader_must_m fu [34] c3 c4) fun r6 => (Print_reader_quoted_l1 fu r6) fu (0, [])

set_option maxHeartbeats 10000000 in
set_option maxRecDepth 100000 in
theorem Print_reader_quoted_ok (fu : Nat) (c1 : Int) (c2 : Int) (c3 : Bs) (c4 : Bool) (l5 : (List (Node × Bool))) : ∀ r, Print_reader_quoted_m fu c3 c4 = some r → FC laidL Tryz.prog 44 [.loc 900000 0] [(900000, .box 52 [.own 900001, .v (.int .i64 c1), .v (.int .i64 c2), .v (.string ⟨⟨c3⟩⟩), .v (.bool c4)]), (900001, .tre 37 10 6 3 (l5.map fun x : Node × Bool => (cNode x.1, x.2)))] [900000, 900001] fun p S' => p = .v (.string ⟨⟨r.1⟩⟩) ∧ S' = [(900000, .box 52 [.own 900001, .v (.int .i64 c1), .v (.int .i64 c2), .v (.string ⟨⟨r.2.1⟩⟩), .v (.bool r.2.2)]), (900001, .tre 37 10 6 3 (l5.map fun x : Node × Bool => (cNode x.1, x.2)))] := by
  intro r hr
  refine fc_intro (args := [.loc 900000 0]) (S := [(900000, .box 52 [.own 900001, .v (.int .i64 c1), .v (.int .i64 c2), .v (.string ⟨⟨c3⟩⟩), .v (.bool c4)]), (900001, .tre 37 10 6 3 (l5.map fun x : Node × Bool => (cNode x.1, x.2)))]) (N0 := [900000, 900001]) (post := fun r p S => p = .v (.string ⟨⟨r.1⟩⟩) ∧ S = [(900000, .box 52 [.own 900001, .v (.int .i64 c1), .v (.int .i64 c2), .v (.string ⟨⟨r.2.1⟩⟩), .v (.bool r.2.2)]), (900001, .tre 37 10 6 3 (l5.map fun x : Node × Bool => (cNode x.1, x.2)))]) Tryz.func44 rfl rfl hr fun w0 X X0 σ0 _ => ?_
  refine pw_seq ?_
  refine pw_region ?_
  refine po_evs (T := tab) 1 rfl rfl ?_
  refine po_nil ?_
  refine pn_seq ?_
  refine pw_seq ?_
  refine pw_region ?_
  refine po_evs (T := tab) 1 rfl rfl ?_
  refine po_turn [] (enc := fun (r6 : (Bs × Bool)) => .tup []) (Sr := fun (r6 : (Bs × Bool)) => [(900000, .box 52 [.own 900001, .v (.int .i64 c1), .v (.int .i64 c2), .v (.string ⟨⟨r6.1⟩⟩), .v (.bool r6.2)]), (900001, .tre 37 10 6 3 (l5.map fun x : Node × Bool => (cNode x.1, x.2)))]) (first := []) (cap := []) (qs := [.loc 900000 0, .v (.string ⟨⟨[34]⟩⟩)]) (Sc := [(900000, .box 52 [.own 900001, .v (.int .i64 c1), .v (.int .i64 c2), .v (.string ⟨⟨c3⟩⟩), .v (.bool c4)]), (900001, .tre 37 10 6 3 (l5.map fun x : Node × Bool => (cNode x.1, x.2)))]) (N0 := [900000, 900001]) (NR := [900000, 900001]) (fun r6 hr6 => fc_ren [(900000, 900000), (900001, 900001)] [900000, 900001] (Print_reader_must_ok fu [34] c1 c2 c3 c4 l5 _ hr6) rfl rfl rfl rfl rfl rfl) ⟨rfl, rfl, trivial⟩ (fun _ => rfl) rfl rfl rfl rfl rfl rfl rfl (fun _ => rfl) (fun _ => rfl) rfl rfl rfl ⟨⟨_, rfl, .rfl⟩, ⟨_, rfl, .rfl⟩, trivial⟩ call66 rfl rfl fun r6 hr6 => ?_
  refine po_nil ?_
  refine pn_seq ?_
  refine pw_seq ?_
  refine pw_region ?_
  refine po_alloc (T := tab) 3 rfl rfl rfl rfl rfl rfl rfl rfl rfl ?_
  refine po_coeS 3 [.nloc 3 0, .v (.slice none 0 0)] rfl ⟨.nloc0, .rfl, trivial⟩ rfl ?_
  refine po_ownb_nilS 5030 5 1 3 1 rfl rfl rfl rfl rfl rfl ?_
  refine po_nil ?_
  refine pn_seq ?_
  refine pw_seq ?_
  refine pw_seq ?_
  refine pw_region ?_
  refine po_evs (T := tab) 1 rfl rfl ?_
  refine po_nil ?_
  refine pn_seq ?_
  refine pw_block ?_
  refine pw_loop' (Print_reader_quoted_l1 fu r6) (fun ((i7, l8) : Int × (List Int)) => [(0, .loc 900000 0), (3, .loc 3 0), (4, .v (.int .i64 i7))]) (fun ((i7, l8) : Int × (List Int)) => [(5030, .arr 5 1 (l8.map cInt_u8)), (3, .box 58 [.nloc 3 0, .ownb 5030]), (900000, .box 52 [.own 900001, .v (.int .i64 c1), .v (.int .i64 c2), .v (.string ⟨⟨r6.1⟩⟩), .v (.bool r6.2)]), (900001, .tre 37 10 6 3 (l5.map fun x : Node × Bool => (cNode x.1, x.2)))]) fu (0, []) (fun _ => rfl) ⟨rfl, rfl, rfl, trivial⟩ ⟨rfl, rfl, rfl, rfl, trivial⟩ rfl ?_
  rintro k1 ⟨i7, l8⟩
  refine pw_seq ?_
  refine pw_seq ?_
  refine pw_region ?_
  refine po_evs (T := tab) 7 rfl rfl ?_
  refine po_nil ?_
  refine pn_seq ?_
  refine pw_cnd rfl ?_ ?_
  · refine pw_skip ?_
    refine pn_seq ?_
    refine pw_seq ?_
    refine pw_block ?_
    refine pw_seq ?_
    refine pw_region ?_
    refine po_evs (T := tab) 5 rfl rfl ?_
    refine po_chr (T := tab) (s := r6.1) rfl rfl rfl rfl rfl rfl rfl fun b9 hb9 => ?_
    refine po_evs (T := tab) 1 rfl rfl ?_
    refine po_nil ?_
    refine pn_seq ?_
    refine pw_block ?_
    refine pw_seq ?_
    refine pw_block ?_
    refine pw_seq ?_
    refine pw_joinK (Print_reader_quoted_j1 fu r6 l8 (Print_reader_quoted_l1 fu r6 k1)) (fun (i20 : Int) => [(0, .loc 900000 0), (3, .loc 3 0), (4, .v (.int .i64 i20))]) (fun (i20 : Int) => [(5030, .arr 5 1 (l8.map cInt_u8)), (3, .box 58 [.nloc 3 0, .ownb 5030]), (900000, .box 52 [.own 900001, .v (.int .i64 c1), .v (.int .i64 c2), .v (.string ⟨⟨r6.1⟩⟩), .v (.bool r6.2)]), (900001, .tre 37 10 6 3 (l5.map fun x : Node × Bool => (cNode x.1, x.2)))]) ?_ fun hj1 => ?_
    · rintro i20
      refine pn_seq ?_
      refine pw_seq ?_
      refine pw_region ?_
      refine po_evs (T := tab) 5 rfl rfl ?_
      refine po_chr (T := tab) (s := r6.1) rfl rfl rfl rfl rfl rfl rfl fun b21 hb21 => ?_
      refine po_turn [5030] (enc := fun (r22 : (Bool × (List Int))) => .err r22.1) (Sr := fun (r22 : (Bool × (List Int))) => [(3, .box 58 [.nloc 3 0, .ownb 5030]), (5030, .arr 5 1 (r22.2.map cInt_u8))]) (first := []) (cap := []) (qs := [.loc 3 0, .v (.int .u8 b21)]) (Sc := [(3, .box 58 [.nloc 3 0, .ownb 5030]), (5030, .arr 5 1 (l8.map cInt_u8))]) (N0 := [3]) (NR := [3, 5030]) (fun r22 hr22 => fc_ren [(900000, 3), (900001, 5030)] [900000, 900001] (Strings_Builder_WriteByte_ok fu b21 l8 _ hr22) rfl rfl rfl rfl rfl rfl) ⟨rfl, rfl, trivial⟩ (fun _ => rfl) rfl rfl rfl rfl rfl rfl rfl (fun _ => rfl) (fun _ => rfl) rfl rfl rfl ⟨⟨_, rfl, .rfl⟩, ⟨_, rfl, .rfl⟩, trivial⟩ call67 rfl rfl fun r22 hr22 => ?_
      refine po_nil ?_
      refine pn_seq ?_
      refine pw_exit rfl ?_
      refine pn_block ?_
      refine pn_seq ?_
      refine pw_region ?_
      refine po_evs (T := tab) 1 rfl rfl ?_
      refine po_arith' (T := tab) rfl rfl rfl rfl fun i23 hi23 => ?_
      refine po_evs (T := tab) 1 rfl rfl ?_
      refine po_nil ?_
      exact pn_iter' (i23, r22.2) ⟨rfl, rfl, rfl, trivial⟩ ⟨rfl, rfl, rfl, rfl, trivial⟩ rfl
    · refine pw_block ?_
      refine pw_seq ?_
      refine pw_block ?_
      refine pw_seq ?_
      refine pw_block ?_
      refine pw_seq ?_
      refine pw_seq ?_
      refine pw_seq ?_
      refine pw_region ?_
      refine po_evs (T := tab) 3 rfl rfl ?_
      refine po_nil ?_
      refine pn_seq ?_
      refine pw_cnd rfl ?_ ?_
      · refine pw_exit rfl ?_
        refine pn_seq ?_
        refine pw_seq ?_
        refine pw_seq ?_
        refine pw_region ?_
        refine po_evs (T := tab) 6 rfl rfl ?_
        refine po_arith' (T := tab) rfl rfl rfl rfl fun i15 hi15 => ?_
        refine po_sub (T := tab) rfl rfl rfl rfl rfl rfl rfl rfl fun s16 hs16 => ?_
        refine po_evs (T := tab) 2 rfl rfl ?_
        refine po_store (T := tab) rfl rfl rfl rfl rfl rfl rfl rfl rfl rfl rfl rfl ?_
        refine po_nil ?_
        refine pn_seq ?_
        refine pw_seq ?_
        refine pw_region ?_
        refine po_turn [] (enc := fun (r17 : Bs) => .v (.string ⟨⟨r17⟩⟩)) (Sr := fun (r17 : Bs) => [(3, .box 58 [.nloc 3 0, .junk])]) (first := []) (cap := []) (qs := [.loc 3 0]) (Sc := [(3, .box 58 [.nloc 3 0, .ownb 5030]), (5030, .arr 5 1 (l8.map cInt_u8))]) (N0 := [3, 5030]) (NR := [3]) (fun r17 hr17 => fc_ren [(900000, 3), (900001, 5030)] [900000, 900001] (Strings_Builder_String_ok fu l8 _ hr17) rfl rfl rfl rfl rfl rfl) ⟨rfl, rfl, trivial⟩ (fun _ => rfl) rfl rfl rfl rfl rfl rfl rfl (fun _ => rfl) (fun _ => rfl) rfl rfl rfl ⟨⟨_, rfl, .rfl⟩, trivial⟩ call21 rfl rfl fun r17 hr17 => ?_
        refine po_evs (T := tab) 1 rfl rfl ?_
        refine po_nil ?_
        refine pn_seq ?_
        exact pw_retN (T := tab) rfl rfl rfl ⟨rfl, rfl⟩ ⟨rfl, rfl, trivial⟩ rfl
      · refine pw_skip ?_
        refine pn_seq ?_
        refine pw_seq ?_
        refine pw_seq ?_
        refine pw_region ?_
        refine po_evs (T := tab) 3 rfl rfl ?_
        refine po_split (j := 29) rfl ?_ ?_
        · refine po_evs (T := tab) 1 rfl rfl ?_
          refine po_arith' (T := tab) rfl rfl rfl rfl fun i10 hi10 => ?_
          refine po_evs (T := tab) 8 rfl rfl ?_
          refine po_split (j := 39) rfl ?_ ?_
          · refine po_evs (T := tab) 5 rfl rfl ?_
            refine po_arith' (T := tab) rfl rfl rfl rfl fun i11 hi11 => ?_
            refine po_chr (T := tab) (s := r6.1) rfl rfl rfl rfl rfl rfl rfl fun b12 hb12 => ?_
            refine po_evs (T := tab) 2 rfl rfl ?_
            refine po_split (j := 48) rfl ?_ ?_
            · refine po_evs (T := tab) 11 rfl rfl ?_
              refine po_nil ?_
              refine pn_seq (pw_then rfl ?_)
              refine pw_exit rfl ?_
              refine pn_seq ?_
              refine pw_region ?_
              refine po_evs (T := tab) 1 rfl rfl ?_
              refine po_arith' (T := tab) rfl rfl rfl rfl fun i18 hi18 => ?_
              refine po_evs (T := tab) 1 rfl rfl ?_
              refine po_nil ?_
              refine pn_block ?_
              exact pn_sub' (hj1 i18) ⟨rfl, rfl, rfl, trivial⟩ ⟨rfl, rfl, rfl, rfl, trivial⟩ rfl
            · refine po_evs (T := tab) 5 rfl rfl ?_
              refine po_arith' (T := tab) rfl rfl rfl rfl fun i13 hi13 => ?_
              refine po_chr (T := tab) (s := r6.1) rfl rfl rfl rfl rfl rfl rfl fun b14 hb14 => ?_
              refine po_evs (T := tab) 4 rfl rfl ?_
              refine po_nil ?_
              refine pn_seq ?_
              refine pw_cnd rfl ?_ ?_
              · refine pw_exit rfl ?_
                refine pn_seq ?_
                refine pw_region ?_
                refine po_evs (T := tab) 1 rfl rfl ?_
                refine po_arith' (T := tab) rfl rfl rfl rfl fun i19 hi19 => ?_
                refine po_evs (T := tab) 1 rfl rfl ?_
                refine po_nil ?_
                refine pn_block ?_
                exact pn_sub' (hj1 i19) ⟨rfl, rfl, rfl, trivial⟩ ⟨rfl, rfl, rfl, rfl, trivial⟩ rfl
              · refine pw_skip ?_
                refine pn_seq ?_
                refine pw_seq ?_
                refine pw_region ?_
                refine po_evs (T := tab) 3 rfl rfl ?_
                refine po_nil ?_
                refine pn_seq ?_
                refine pw_cnd rfl ?_ ?_
                · refine pw_exit rfl ?_
                  exact pn_sub' (hj1 i7) ⟨rfl, rfl, rfl, trivial⟩ ⟨rfl, rfl, rfl, rfl, trivial⟩ rfl
                · refine pw_skip ?_
                  refine pn_seq ?_
                  refine pw_exit rfl ?_
                  refine pn_seq ?_
                  refine pw_seq ?_
                  refine pw_seq ?_
                  refine pw_region ?_
                  refine po_evs (T := tab) 3 rfl rfl ?_
                  refine po_store (T := tab) rfl rfl rfl rfl rfl rfl rfl rfl rfl rfl rfl rfl ?_
                  refine po_nil ?_
                  refine pn_seq ?_
                  refine pw_seq ?_
                  refine pw_region ?_
                  refine po_evs (T := tab) 1 rfl rfl ?_
                  refine po_nil ?_
                  refine pn_seq ?_
                  exact pw_retN (T := tab) rfl rfl rfl ⟨rfl, rfl⟩ ⟨rfl, rfl, trivial⟩ rfl
          · refine po_evs (T := tab) 20 rfl rfl ?_
            refine po_nil ?_
            refine pn_seq (pw_else rfl ?_)
            refine pw_skip ?_
            refine pn_seq ?_
            refine pw_seq ?_
            refine pw_region ?_
            refine po_evs (T := tab) 3 rfl rfl ?_
            refine po_nil ?_
            refine pn_seq ?_
            refine pw_cnd rfl ?_ ?_
            · refine pw_exit rfl ?_
              exact pn_sub' (hj1 i7) ⟨rfl, rfl, rfl, trivial⟩ ⟨rfl, rfl, rfl, rfl, trivial⟩ rfl
            · refine pw_skip ?_
              refine pn_seq ?_
              refine pw_exit rfl ?_
              refine pn_seq ?_
              refine pw_seq ?_
              refine pw_seq ?_
              refine pw_region ?_
              refine po_evs (T := tab) 3 rfl rfl ?_
              refine po_store (T := tab) rfl rfl rfl rfl rfl rfl rfl rfl rfl rfl rfl rfl ?_
              refine po_nil ?_
              refine pn_seq ?_
              refine pw_seq ?_
              refine pw_region ?_
              refine po_evs (T := tab) 1 rfl rfl ?_
              refine po_nil ?_
              refine pn_seq ?_
              exact pw_retN (T := tab) rfl rfl rfl ⟨rfl, rfl⟩ ⟨rfl, rfl, trivial⟩ rfl
        · refine po_evs (T := tab) 30 rfl rfl ?_
          refine po_nil ?_
          refine pn_seq (pw_else rfl ?_)
          refine pw_skip ?_
          refine pn_seq ?_
          refine pw_seq ?_
          refine pw_region ?_
          refine po_evs (T := tab) 3 rfl rfl ?_
          refine po_nil ?_
          refine pn_seq ?_
          refine pw_cnd rfl ?_ ?_
          · refine pw_exit rfl ?_
            exact pn_sub' (hj1 i7) ⟨rfl, rfl, rfl, trivial⟩ ⟨rfl, rfl, rfl, rfl, trivial⟩ rfl
          · refine pw_skip ?_
            refine pn_seq ?_
            refine pw_exit rfl ?_
            refine pn_seq ?_
            refine pw_seq ?_
            refine pw_seq ?_
            refine pw_region ?_
            refine po_evs (T := tab) 3 rfl rfl ?_
            refine po_store (T := tab) rfl rfl rfl rfl rfl rfl rfl rfl rfl rfl rfl rfl ?_
            refine po_nil ?_
            refine pn_seq ?_
            refine pw_seq ?_
            refine pw_region ?_
            refine po_evs (T := tab) 1 rfl rfl ?_
            refine po_nil ?_
            refine pn_seq ?_
            exact pw_retN (T := tab) rfl rfl rfl ⟨rfl, rfl⟩ ⟨rfl, rfl, trivial⟩ rfl
  · refine pw_exit rfl ?_
    refine pn_seq ?_
    refine pw_seq ?_
    refine pw_region ?_
    refine po_evs (T := tab) 3 rfl rfl ?_
    refine po_store (T := tab) rfl rfl rfl rfl rfl rfl rfl rfl rfl rfl rfl rfl ?_
    refine po_nil ?_
    refine pn_seq ?_
    refine pw_seq ?_
    refine pw_region ?_
    refine po_evs (T := tab) 1 rfl rfl ?_
    refine po_nil ?_
    refine pn_seq ?_
    exact pw_retN (T := tab) rfl rfl rfl ⟨rfl, rfl⟩ ⟨rfl, rfl, trivial⟩ rfl

def Print_reader_kids_j1 (sg44 : Int → Int → Bs → Bool → (List (Node × Bool)) → Option (Int × Bs × Bool × (List (Node × Bool)))) (n1 : Int) (c3 : Int) (c4 : Int) (c9 : Bool) (l10 : (List (Node × Bool))) (r11 : (Bool × Bs)) (rc1 : (Bs × Bool × (List (Node × Bool))) → Option (Bs × Bool × (List (Node × Bool)))) (x_ : Unit) : Option (Bs × Bool × (List (Node × Bool))) := bnd (sg44 c3 c4 r11.2 c9 l10) fun r14 => bnd (idx r14.2.2.2 n1) fun y15 => bnd (ownOf y15.2) fun _ => bnd (roomy 8 (y15.1.Kids.length + ([r14.1] : List Int).length)) fun _ => bnd (idx r14.2.2.2 n1) fun y16 => bnd (idx (r14.2.2.2.set (n1).toNat ((⟨y15.1.Kind, y15.1.Name, y15.1.Is, y15.1.Data, y15.1.Attrs, y15.1.Parent, (y15.1.Kids ++ [r14.1]), y15.1.Host, y15.1.Under, y15.1.Doc⟩ : Node), true)) r14.1) fun y17 => rc1 (r14.2.1, r14.2.2.1, ((r14.2.2.2.set (n1).toNat ((⟨y15.1.Kind, y15.1.Name, y15.1.Is, y15.1.Data, y15.1.Attrs, y15.1.Parent, (y15.1.Kids ++ [r14.1]), y15.1.Host, y15.1.Under, y15.1.Doc⟩ : Node), true)).set (r14.1).toNat ((⟨y17.1.Kind, y17.1.Name, y17.1.Is, y17.1.Data, y17.1.Attrs, n1, y17.1.Kids, y17.1.Host, y17.1.Under, y17.1.Doc⟩ : Node), y17.2)))

def Print_reader_kids_l1 (sg44 : Int → Int → Bs → Bool → (List (Node × Bool)) → Option (Int × Bs × Bool × (List (Node × Bool)))) (fu : Nat) (n1 : Int) (end2 : Bs) (c3 : Int) (c4 : Int) : Nat → Bs × Bool × (List (Node × Bool)) → Option (Bs × Bool × (List (Node × Bool)))
  | 0, _ => none
  | k1 + 1, (c8, c9, l10) => cnd (!c9) (bnd (Print_reader_take_m fu end2 c8) fun r11 => cnd (!r11.1) (cnd (((r11.2.length : Nat) : Int) == 0) (some (r11.2, true, l10)) (bnd (chr r11.2 0) fun b12 => cnd (b12 != 60) (bnd (chr r11.2 0) fun b13 => cnd (b13 != 34) (some (r11.2, true, l10)) (cnd (decide (((l10.length : Nat) : Int) > 400)) (some (r11.2, true, l10)) ((Print_reader_kids_j1 sg44 n1 c3 c4 c9 l10 r11 (Print_reader_kids_l1 sg44 fu n1 end2 c3 c4 k1)) ()))) (cnd (decide (((l10.length : Nat) : Int) > 400)) (some (r11.2, true, l10)) ((Print_reader_kids_j1 sg44 n1 c3 c4 c9 l10 r11 (Print_reader_kids_l1 sg44 fu n1 end2 c3 c4 k1)) ())))) (some (r11.2, c9, l10))) (some (c8, c9, l10))

def Print_reader_kids_m (sg44 : Int → Int → Bs → Bool → (List (Node × Bool)) → Option (Int × Bs × Bool × (List (Node × Bool)))) (fu : Nat) (n1 : Int) (end2 : Bs) (c3 : Int) (c4 : Int) (c5 : Bs) (c6 : Bool) (l7 : (List (Node × Bool))) : Option (Bs × Bool × (List (Node × Bool))) := (Print_reader_kids_l1 sg44 fu n1 end2 c3 c4) fu (c5, c6, l7)

set_option maxHeartbeats 10000000 in
set_option maxRecDepth 100000 in
theorem Print_reader_kids_i2_ok (sg44 : Int → Int → Bs → Bool → (List (Node × Bool)) → Option (Int × Bs × Bool × (List (Node × Bool)))) (ih44 : ∀ (c1 : Int) (c2 : Int) (c3 : Bs) (c4 : Bool) (l5 : (List (Node × Bool))) r, sg44 c1 c2 c3 c4 l5 = some r → FC laidL Tryz.prog 19 [.loc 900000 0] [(900000, .box 52 [.own 900001, .v (.int .i64 c1), .v (.int .i64 c2), .v (.string ⟨⟨c3⟩⟩), .v (.bool c4)]), (900001, .tre 37 10 6 3 (l5.map fun x : Node × Bool => (cNode x.1, x.2)))] [900000] fun p S' => p = .v (.int .i64 r.1) ∧ S' = [(900000, .box 52 [.own 900001, .v (.int .i64 c1), .v (.int .i64 c2), .v (.string ⟨⟨r.2.1⟩⟩), .v (.bool r.2.2.1)]), (900001, .tre 37 10 6 3 (r.2.2.2.map fun x : Node × Bool => (cNode x.1, x.2)))]) (fu : Nat) (n1 : Int) (end2 : Bs) (c3 : Int) (c4 : Int) (c5 : Bs) (c6 : Bool) (l7 : (List (Node × Bool))) : ∀ r, Print_reader_kids_m sg44 fu n1 end2 c3 c4 c5 c6 l7 = some r → FC laidL Tryz.prog 43 [.loc 900000 0, .v (.int .i64 n1), .v (.string ⟨⟨end2⟩⟩)] [(900000, .box 52 [.own 900001, .v (.int .i64 c3), .v (.int .i64 c4), .v (.string ⟨⟨c5⟩⟩), .v (.bool c6)]), (900001, .tre 37 10 6 3 (l7.map fun x : Node × Bool => (cNode x.1, x.2)))] [900000] fun p S' => p = .tup [] ∧ S' = [(900000, .box 52 [.own 900001, .v (.int .i64 c3), .v (.int .i64 c4), .v (.string ⟨⟨r.1⟩⟩), .v (.bool r.2.1)]), (900001, .tre 37 10 6 3 (r.2.2.map fun x : Node × Bool => (cNode x.1, x.2)))] := by
  intro r hr
  refine fc_intro (args := [.loc 900000 0, .v (.int .i64 n1), .v (.string ⟨⟨end2⟩⟩)]) (S := [(900000, .box 52 [.own 900001, .v (.int .i64 c3), .v (.int .i64 c4), .v (.string ⟨⟨c5⟩⟩), .v (.bool c6)]), (900001, .tre 37 10 6 3 (l7.map fun x : Node × Bool => (cNode x.1, x.2)))]) (N0 := [900000]) (post := fun r p S => p = .tup [] ∧ S = [(900000, .box 52 [.own 900001, .v (.int .i64 c3), .v (.int .i64 c4), .v (.string ⟨⟨r.1⟩⟩), .v (.bool r.2.1)]), (900001, .tre 37 10 6 3 (r.2.2.map fun x : Node × Bool => (cNode x.1, x.2)))]) Tryz.func43 rfl rfl hr fun w0 X X0 σ0 _ => ?_
  refine pw_block ?_
  refine pw_loop' (Print_reader_kids_l1 sg44 fu n1 end2 c3 c4) (fun ((c8, c9, l10) : Bs × Bool × (List (Node × Bool))) => [(0, .loc 900000 0), (1, .v (.int .i64 n1)), (2, .v (.string ⟨⟨end2⟩⟩))]) (fun ((c8, c9, l10) : Bs × Bool × (List (Node × Bool))) => [(900000, .box 52 [.own 900001, .v (.int .i64 c3), .v (.int .i64 c4), .v (.string ⟨⟨c8⟩⟩), .v (.bool c9)]), (900001, .tre 37 10 6 3 (l10.map fun x : Node × Bool => (cNode x.1, x.2)))]) fu (c5, c6, l7) (fun _ => rfl) ⟨rfl, rfl, rfl, trivial⟩ ⟨rfl, rfl, trivial⟩ rfl ?_
  rintro k1 ⟨c8, c9, l10⟩
  refine pw_seq ?_
  refine pw_seq ?_
  refine pw_region ?_
  refine po_evs (T := tab) 6 rfl rfl ?_
  refine po_split (j := 12) rfl ?_ ?_
  · refine po_evs (T := tab) 2 rfl rfl ?_
    refine po_turn [] (enc := fun (r11 : (Bool × Bs)) => .v (.bool r11.1)) (Sr := fun (r11 : (Bool × Bs)) => [(900000, .box 52 [.own 900001, .v (.int .i64 c3), .v (.int .i64 c4), .v (.string ⟨⟨r11.2⟩⟩), .v (.bool c9)]), (900001, .tre 37 10 6 3 (l10.map fun x : Node × Bool => (cNode x.1, x.2)))]) (first := []) (cap := []) (qs := [.loc 900000 0, .v (.string ⟨⟨end2⟩⟩)]) (Sc := [(900000, .box 52 [.own 900001, .v (.int .i64 c3), .v (.int .i64 c4), .v (.string ⟨⟨c8⟩⟩), .v (.bool c9)]), (900001, .tre 37 10 6 3 (l10.map fun x : Node × Bool => (cNode x.1, x.2)))]) (N0 := [900000, 900001]) (NR := [900000, 900001]) (fun r11 hr11 => fc_ren [(900000, 900000), (900001, 900001)] [900000, 900001] (Print_reader_take_ok fu end2 c3 c4 c8 c9 l10 _ hr11) rfl rfl rfl rfl rfl rfl) ⟨rfl, rfl, trivial⟩ (fun _ => rfl) rfl rfl rfl rfl rfl rfl rfl (fun _ => rfl) (fun _ => rfl) rfl rfl rfl ⟨⟨_, rfl, .rfl⟩, ⟨_, rfl, .rfl⟩, trivial⟩ call40 rfl rfl fun r11 hr11 => ?_
    refine po_evs (T := tab) 2 rfl rfl ?_
    refine po_nil ?_
    refine pn_seq ?_
    refine pw_cnd rfl ?_ ?_
    · refine pw_skip ?_
      refine pn_seq ?_
      refine pw_block ?_
      refine pw_seq ?_
      refine pw_seq ?_
      refine pw_region ?_
      refine po_joinB (Print_reader_kids_j1 sg44 n1 c3 c4 c9 l10 r11 (Print_reader_kids_l1 sg44 fu n1 end2 c3 c4 k1)) (fun (_ : Unit) => [(0, .loc 900000 0), (1, .v (.int .i64 n1)), (2, .v (.string ⟨⟨end2⟩⟩))]) (fun (_ : Unit) => [(900000, .box 52 [.own 900001, .v (.int .i64 c3), .v (.int .i64 c4), .v (.string ⟨⟨r11.2⟩⟩), .v (.bool c9)]), (900001, .tre 37 10 6 3 (l10.map fun x : Node × Bool => (cNode x.1, x.2)))]) ?_ fun hj1 => ?_
      · rintro _
        refine pn_seq ?_
        refine pw_seq ?_
        refine pw_region ?_
        refine po_evs (T := tab) 1 rfl rfl ?_
        refine po_turn [900001] (enc := fun (r14 : (Int × Bs × Bool × (List (Node × Bool)))) => .v (.int .i64 r14.1)) (Sr := fun (r14 : (Int × Bs × Bool × (List (Node × Bool)))) => [(900000, .box 52 [.own 900001, .v (.int .i64 c3), .v (.int .i64 c4), .v (.string ⟨⟨r14.2.1⟩⟩), .v (.bool r14.2.2.1)]), (900001, .tre 37 10 6 3 (r14.2.2.2.map fun x : Node × Bool => (cNode x.1, x.2)))]) (first := []) (cap := []) (qs := [.loc 900000 0]) (Sc := [(900000, .box 52 [.own 900001, .v (.int .i64 c3), .v (.int .i64 c4), .v (.string ⟨⟨r11.2⟩⟩), .v (.bool c9)]), (900001, .tre 37 10 6 3 (l10.map fun x : Node × Bool => (cNode x.1, x.2)))]) (N0 := [900000]) (NR := [900000, 900001]) (fun r14 hr14 => fc_ren [(900000, 900000), (900001, 900001)] [900000, 900001] (ih44 c3 c4 r11.2 c9 l10 _ hr14) rfl rfl rfl rfl rfl rfl) ⟨rfl, rfl, trivial⟩ (fun _ => rfl) rfl rfl rfl rfl rfl rfl rfl (fun _ => rfl) (fun _ => rfl) rfl rfl rfl ⟨⟨_, rfl, .rfl⟩, trivial⟩ call19 rfl rfl fun r14 hr14 => ?_
        refine po_evs (T := tab) 1 rfl rfl ?_
        refine po_nil ?_
        refine pn_seq ?_
        refine pw_seq ?_
        refine pw_sub' (E' := [(0, .loc 900000 0), (1, .v (.int .i64 n1)), (2, .v (.string ⟨⟨end2⟩⟩)), (6, .v (.int .i64 r14.1))]) (S' := [(900000, .box 52 [.own 900001, .v (.int .i64 c3), .v (.int .i64 c4), .v (.string ⟨⟨r14.2.1⟩⟩), .v (.bool r14.2.2.1)]), (900001, .tre 37 10 6 3 (r14.2.2.2.map fun x : Node × Bool => (cNode x.1, x.2)))]) ?_ ⟨rfl, rfl, rfl, rfl, trivial⟩ ⟨rfl, rfl, trivial⟩ rfl
        refine pw_drawV [0, 1, 3, 7, 15, 0, 0, 64, 192, 448, 960, 0, 4032, 8128, 16320, 0, 32768, 131008, 262143, 524287, 1048575] mixed (by kernel_rfl) (by kernel_rfl) rfl rfl ?_
        refine pdv_step0 [0] [108] [] [900000] [] [(54, .loc 900000 0)] [] rfl rfl rfl rfl (by kernel_rfl) (by kernel_rfl) (by kernel_rfl) trivial (fun w0 X X0 σ0 _ => by refine po_evs (T := tab) 1 rfl rfl ?_; refine po_nil ?_; exact pn_end0 ⟨rfl, trivial⟩ trivial rfl) ?_
        refine pdv_step0 [108] [110] [] [900000] [] [(55, .loc 900000 0)] [] rfl rfl rfl rfl (by kernel_rfl) (by kernel_rfl) (by kernel_rfl) trivial (fun w0 X X0 σ0 _ => by refine po_evs (T := tab) 1 rfl rfl ?_; refine po_nil ?_; exact pn_end0 ⟨rfl, trivial⟩ trivial rfl) ?_
        refine pdv_step0 [110] [112] [] [900000] [] [(56, .loc 900000 0)] [] rfl rfl rfl rfl (by kernel_rfl) (by kernel_rfl) (by kernel_rfl) trivial (fun w0 X X0 σ0 _ => by refine po_evs (T := tab) 1 rfl rfl ?_; refine po_nil ?_; exact pn_end0 ⟨rfl, trivial⟩ trivial rfl) ?_
        refine pdv_step0 [112] [114] [] [900000] [] [(57, .loc 900000 0)] [] rfl rfl rfl rfl (by kernel_rfl) (by kernel_rfl) (by kernel_rfl) trivial (fun w0 X X0 σ0 _ => by refine po_evs (T := tab) 1 rfl rfl ?_; refine po_nil ?_; exact pn_end0 ⟨rfl, trivial⟩ trivial rfl) ?_
        refine pdv_step0 [114, 1800001] [116] [] [900000, 900001] [900000] [(58, .own 900001)] [(900000, .box 52 [.own 900001, .v (.int .i64 c3), .v (.int .i64 c4), .v (.string ⟨⟨r14.2.1⟩⟩), .v (.bool r14.2.2.1)])] rfl rfl rfl rfl (by kernel_rfl) (by kernel_rfl) (by kernel_rfl) ⟨rfl, trivial⟩ (fun w0 X X0 σ0 _ => by refine po_evs (T := tab) 1 rfl rfl ?_; refine po_nil ?_; exact pn_end0 ⟨rfl, trivial⟩ ⟨rfl, trivial⟩ rfl) ?_
        refine pdv_step0 [2] [118] [] [] [] [(59, .v (.int .i64 n1))] [] rfl rfl rfl rfl (by kernel_rfl) (by kernel_rfl) (by kernel_rfl) trivial (fun w0 X X0 σ0 _ => by refine po_evs (T := tab) 1 rfl rfl ?_; refine po_nil ?_; exact pn_end0 ⟨rfl, trivial⟩ trivial rfl) ?_
        refine pdv_step0 [0] [120] [] [900000] [] [(60, .loc 900000 0)] [] rfl rfl rfl rfl (by kernel_rfl) (by kernel_rfl) (by kernel_rfl) trivial (fun w0 X X0 σ0 _ => by refine po_evs (T := tab) 1 rfl rfl ?_; refine po_nil ?_; exact pn_end0 ⟨rfl, trivial⟩ trivial rfl) ?_
        refine pdv_step0 [120] [122] [] [900000] [] [(61, .loc 900000 0)] [] rfl rfl rfl rfl (by kernel_rfl) (by kernel_rfl) (by kernel_rfl) trivial (fun w0 X X0 σ0 _ => by refine po_evs (T := tab) 1 rfl rfl ?_; refine po_nil ?_; exact pn_end0 ⟨rfl, trivial⟩ trivial rfl) ?_
        refine pdv_step0 [122] [124] [] [900000] [] [(62, .loc 900000 0)] [] rfl rfl rfl rfl (by kernel_rfl) (by kernel_rfl) (by kernel_rfl) trivial (fun w0 X X0 σ0 _ => by refine po_evs (T := tab) 1 rfl rfl ?_; refine po_nil ?_; exact pn_end0 ⟨rfl, trivial⟩ trivial rfl) ?_
        refine pdv_step0 [124] [126] [] [900000] [] [(63, .loc 900000 0)] [] rfl rfl rfl rfl (by kernel_rfl) (by kernel_rfl) (by kernel_rfl) trivial (fun w0 X X0 σ0 _ => by refine po_evs (T := tab) 1 rfl rfl ?_; refine po_nil ?_; exact pn_end0 ⟨rfl, trivial⟩ trivial rfl) ?_
        refine pdv_step0 [126, 1800001] [128] [] [900000, 900001] [900000] [(64, .own 900001)] [(900000, .box 52 [.own 900001, .v (.int .i64 c3), .v (.int .i64 c4), .v (.string ⟨⟨r14.2.1⟩⟩), .v (.bool r14.2.2.1)])] rfl rfl rfl rfl (by kernel_rfl) (by kernel_rfl) (by kernel_rfl) ⟨rfl, trivial⟩ (fun w0 X X0 σ0 _ => by refine po_evs (T := tab) 1 rfl rfl ?_; refine po_nil ?_; exact pn_end0 ⟨rfl, trivial⟩ ⟨rfl, trivial⟩ rfl) ?_
        refine pdv_step0 [2] [130] [] [] [] [(65, .v (.int .i64 n1))] [] rfl rfl rfl rfl (by kernel_rfl) (by kernel_rfl) (by kernel_rfl) trivial (fun w0 X X0 σ0 _ => by refine po_evs (T := tab) 1 rfl rfl ?_; refine po_nil ?_; exact pn_end0 ⟨rfl, trivial⟩ trivial rfl) ?_
        refine pdv_step (M := (idx r14.2.2.2 n1)) (ment := [(132, [900001])]) [128, 130, 1800003] [132] [] [900001] [900001] (fun y15 => [(66, .ela 900001 10 (n1).toNat 0)]) (fun y15 => [(900001, .tre 37 10 6 3 (r14.2.2.2.map fun x : Node × Bool => (cNode x.1, x.2)))]) rfl rfl (fun _ => rfl) (fun _ => rfl) (by kernel_rfl) (by kernel_rfl) (fun _ => by kernel_rfl) (fun _ => ⟨rfl, trivial⟩) (fun w0 X X0 σ0 _ => by refine po_idx_tre (T := tab) r14.2.2.2 (by simp) rfl rfl rfl rfl rfl rfl rfl rfl fun y15 hy15 => ?_; refine po_nil ?_; exact pn_end ⟨rfl, trivial⟩ ⟨rfl, trivial⟩ rfl) fun y15 hy15 => ?_
        refine pdv_step0 [132] [134] [] [900001] [] [(67, .ela 900001 10 (n1).toNat 6)] [] rfl rfl rfl rfl (by kernel_rfl) (by kernel_rfl) (by kernel_rfl) trivial (fun w0 X X0 σ0 _ => by refine po_evs (T := tab) 1 rfl rfl ?_; refine po_nil ?_; exact pn_end0 ⟨rfl, trivial⟩ trivial rfl) ?_
        refine pdv_step (M := (ownOf y15.2)) (ment := [(136, [700068]), (1800003, []), (1400137, [])]) [134, 1800003] [136, 1800003, 1400137] [700068] [900001] [] (fun _ => [(68, .own 700068)]) (fun _ => [(900001, .tre 37 10 6 3 ((r14.2.2.2.map fun x : Node × Bool => (cNode x.1, x.2)).set (n1).toNat ((cNode y15.1).set 6 .junk, false))), (700068, .arr 3 1 (y15.1.Kids.map cInt_i64))]) rfl rfl (fun _ => rfl) (fun _ => rfl) (by kernel_rfl) (by kernel_rfl) (fun _ => by kernel_rfl) (fun _ => trivial) (fun w0 X X0 σ0 _ => by refine po_take (T := tab) 700068 (tre_at (f := fun x : Node × Bool => (cNode x.1, x.2)) (idx_at hy15)) rfl rfl rfl rfl rfl rfl rfl rfl rfl rfl rfl rfl rfl ?_; refine po_nil ?_; exact pn_end ⟨rfl, trivial⟩ ⟨rfl, rfl, trivial⟩ rfl) fun _ h0 => ?_
        refine pdv_step0 [12] [138] [] [] [] [(69, .v (.int .i64 r14.1))] [] rfl rfl rfl rfl (by kernel_rfl) (by kernel_rfl) (by kernel_rfl) trivial (fun w0 X X0 σ0 _ => by refine po_evs (T := tab) 1 rfl rfl ?_; refine po_nil ?_; exact pn_end0 ⟨rfl, trivial⟩ trivial rfl) ?_
        refine pdv_step0 [138] [140, 141] [70] [] [] [(70, .own 70)] [(70, .arr 3 1 ([r14.1].map cInt_i64))] rfl rfl rfl rfl (by kernel_rfl) (by kernel_rfl) (by kernel_rfl) trivial (fun w0 X X0 σ0 _ => by refine po_lit (T := tab) (rows := [r14.1].map cInt_i64) 70 rfl rfl rfl rfl rfl rfl rfl rfl rfl rfl rfl rfl rfl rfl ?_; refine po_nil ?_; exact pn_end0 ⟨rfl, trivial⟩ ⟨rfl, trivial⟩ rfl) ?_
        refine pdv_step (M := (roomy 8 (y15.1.Kids.length + ([r14.1] : List Int).length))) (ment := [(142, [700068]), (136, []), (1400137, [])]) [136, 140, 141, 1400137] [142, 136, 1400137] [700068] [70] [70] (fun _ => [(71, .own 700068)]) (fun _ => [(700068, .arr 3 1 ((y15.1.Kids ++ [r14.1]).map cInt_i64)), (70, .arr 3 1 ([r14.1].map cInt_i64))]) rfl rfl (fun _ => rfl) (fun _ => rfl) (by kernel_rfl) (by kernel_rfl) (fun _ => by kernel_rfl) (fun _ => ⟨rfl, trivial⟩) (fun w0 X X0 σ0 _ => by refine po_append (T := tab) cInt_i64 y15.1.Kids ([r14.1] : List Int) rfl rfl rfl rfl rfl rfl rfl rfl rfl rfl rfl rfl rfl rfl (cInt_i64_one _) rfl rfl rfl rfl rfl ?_; refine po_nil ?_; exact pn_end ⟨rfl, trivial⟩ ⟨rfl, rfl, trivial⟩ rfl) fun _ h0 => ?_
        refine pdv_step (M := (idx r14.2.2.2 n1)) (ment := [(144, [900001])]) [116, 118, 1800003] [144] [] [900001] [900001] (fun y16 => [(72, .ela 900001 10 (n1).toNat 0)]) (fun y16 => [(900001, .tre 37 10 6 3 ((r14.2.2.2.map fun x : Node × Bool => (cNode x.1, x.2)).set (n1).toNat ((cNode y15.1).set 6 .junk, false)))]) rfl rfl (fun _ => rfl) (fun _ => rfl) (by kernel_rfl) (by kernel_rfl) (fun _ => by kernel_rfl) (fun _ => ⟨rfl, trivial⟩) (fun w0 X X0 σ0 _ => by refine po_idx_tre (T := tab) r14.2.2.2 (by simp) rfl rfl rfl rfl rfl rfl rfl rfl fun y16 hy16 => ?_; refine po_nil ?_; exact pn_end ⟨rfl, trivial⟩ ⟨rfl, trivial⟩ rfl) fun y16 hy16 => ?_
        refine pdv_step0 [144] [146] [] [900001] [] [(73, .ela 900001 10 (n1).toNat 6)] [] rfl rfl rfl rfl (by kernel_rfl) (by kernel_rfl) (by kernel_rfl) trivial (fun w0 X X0 σ0 _ => by refine po_evs (T := tab) 1 rfl rfl ?_; refine po_nil ?_; exact pn_end0 ⟨rfl, trivial⟩ trivial rfl) ?_
        refine pdv_step0 [142, 146, 1400137, 1800003] [142, 1400137, 1800003] [] [700068, 900001] [] [] [(900001, .tre 37 10 6 3 ((r14.2.2.2.set (n1).toNat ((⟨y15.1.Kind, y15.1.Name, y15.1.Is, y15.1.Data, y15.1.Attrs, y15.1.Parent, (y15.1.Kids ++ [r14.1]), y15.1.Host, y15.1.Under, y15.1.Doc⟩ : Node), true)).map fun x : Node × Bool => (cNode x.1, x.2)))] rfl rfl rfl rfl (by kernel_rfl) (by kernel_rfl) (by kernel_rfl) trivial (fun w0 X X0 σ0 _ => by refine po_give (T := tab) (hole_at (idx_at hy16)) (hole_set (f := fun x : Node × Bool => (cNode x.1, x.2)) (((⟨y15.1.Kind, y15.1.Name, y15.1.Is, y15.1.Data, y15.1.Attrs, y15.1.Parent, (y15.1.Kids ++ [r14.1]), y15.1.Host, y15.1.Under, y15.1.Doc⟩ : Node), true) : Node × Bool) (by rfl)) rfl rfl rfl rfl rfl rfl rfl rfl rfl rfl rfl ?_; refine po_nil ?_; exact pn_end0 trivial ⟨rfl, trivial⟩ rfl) ?_
        refine pdv_nil rfl rfl ?_
        refine pn_seq ?_
        refine pw_region ?_
        refine po_evs (T := tab) 7 rfl rfl ?_
        refine po_idx_tre (T := tab) (r14.2.2.2.set (n1).toNat ((⟨y15.1.Kind, y15.1.Name, y15.1.Is, y15.1.Data, y15.1.Attrs, y15.1.Parent, (y15.1.Kids ++ [r14.1]), y15.1.Host, y15.1.Under, y15.1.Doc⟩ : Node), true)) (by simp) rfl rfl rfl rfl rfl rfl rfl rfl fun y17 hy17 => ?_
        refine po_evs (T := tab) 1 rfl rfl ?_
        refine po_store_tre (T := tab) (fun x : Node × Bool => (cNode x.1, x.2)) (r14.2.2.2.set (n1).toNat ((⟨y15.1.Kind, y15.1.Name, y15.1.Is, y15.1.Data, y15.1.Attrs, y15.1.Parent, (y15.1.Kids ++ [r14.1]), y15.1.Host, y15.1.Under, y15.1.Doc⟩ : Node), true)) y17 (((⟨y17.1.Kind, y17.1.Name, y17.1.Is, y17.1.Data, y17.1.Attrs, n1, y17.1.Kids, y17.1.Host, y17.1.Under, y17.1.Doc⟩ : Node), y17.2) : Node × Bool) (idx_at hy17) rfl rfl rfl rfl rfl rfl rfl rfl rfl rfl rfl rfl rfl rfl rfl ?_
        refine po_nil ?_
        refine pn_block ?_
        exact pn_iter' (r14.2.1, r14.2.2.1, ((r14.2.2.2.set (n1).toNat ((⟨y15.1.Kind, y15.1.Name, y15.1.Is, y15.1.Data, y15.1.Attrs, y15.1.Parent, (y15.1.Kids ++ [r14.1]), y15.1.Host, y15.1.Under, y15.1.Doc⟩ : Node), true)).set (r14.1).toNat ((⟨y17.1.Kind, y17.1.Name, y17.1.Is, y17.1.Data, y17.1.Attrs, n1, y17.1.Kids, y17.1.Host, y17.1.Under, y17.1.Doc⟩ : Node), y17.2))) ⟨rfl, rfl, rfl, trivial⟩ ⟨rfl, rfl, trivial⟩ rfl
      · refine po_evs (T := tab) 7 rfl rfl ?_
        refine po_split (j := 24) rfl ?_ ?_
        · refine po_evs (T := tab) 24 rfl rfl ?_
          refine po_nil ?_
          refine pn_seq (pw_then rfl ?_)
          refine pw_seq ?_
          refine pw_region ?_
          refine po_evs (T := tab) 3 rfl rfl ?_
          refine po_store (T := tab) rfl rfl rfl rfl rfl rfl rfl rfl rfl rfl rfl rfl ?_
          refine po_nil ?_
          refine pn_seq ?_
          exact pw_retN (T := tab) rfl rfl rfl ⟨rfl, rfl⟩ ⟨rfl, rfl, trivial⟩ rfl
        · refine po_evs (T := tab) 4 rfl rfl ?_
          refine po_chr (T := tab) (s := r11.2) rfl rfl rfl rfl rfl rfl rfl fun b12 hb12 => ?_
          refine po_evs (T := tab) 2 rfl rfl ?_
          refine po_split (j := 31) rfl ?_ ?_
          · refine po_evs (T := tab) 4 rfl rfl ?_
            refine po_chr (T := tab) (s := r11.2) rfl rfl rfl rfl rfl rfl rfl fun b13 hb13 => ?_
            refine po_evs (T := tab) 4 rfl rfl ?_
            refine po_split (j := 40) rfl ?_ ?_
            · refine po_evs (T := tab) 8 rfl rfl ?_
              refine po_nil ?_
              refine pn_seq (pw_then rfl ?_)
              refine pw_seq ?_
              refine pw_region ?_
              refine po_evs (T := tab) 3 rfl rfl ?_
              refine po_store (T := tab) rfl rfl rfl rfl rfl rfl rfl rfl rfl rfl rfl rfl ?_
              refine po_nil ?_
              refine pn_seq ?_
              exact pw_retN (T := tab) rfl rfl rfl ⟨rfl, rfl⟩ ⟨rfl, rfl, trivial⟩ rfl
            · refine po_evs (T := tab) 5 rfl rfl ?_
              refine po_len_tre (T := tab) (l := l10.length) rfl rfl rfl rfl rfl rfl rfl (by simp) rfl rfl ?_
              refine po_evs (T := tab) 2 rfl rfl ?_
              refine po_nil ?_
              refine pn_seq ?_
              refine pw_cnd rfl ?_ ?_
              · refine pw_seq ?_
                refine pw_region ?_
                refine po_evs (T := tab) 3 rfl rfl ?_
                refine po_store (T := tab) rfl rfl rfl rfl rfl rfl rfl rfl rfl rfl rfl rfl ?_
                refine po_nil ?_
                refine pn_seq ?_
                exact pw_retN (T := tab) rfl rfl rfl ⟨rfl, rfl⟩ ⟨rfl, rfl, trivial⟩ rfl
              · refine pw_skip ?_
                exact pn_sub' (hj1 ()) ⟨rfl, rfl, rfl, trivial⟩ ⟨rfl, rfl, trivial⟩ rfl
          · refine po_evs (T := tab) 14 rfl rfl ?_
            refine po_len_tre (T := tab) (l := l10.length) rfl rfl rfl rfl rfl rfl rfl (by simp) rfl rfl ?_
            refine po_evs (T := tab) 2 rfl rfl ?_
            refine po_nil ?_
            refine pn_seq ?_
            refine pw_cnd rfl ?_ ?_
            · refine pw_seq ?_
              refine pw_region ?_
              refine po_evs (T := tab) 3 rfl rfl ?_
              refine po_store (T := tab) rfl rfl rfl rfl rfl rfl rfl rfl rfl rfl rfl rfl ?_
              refine po_nil ?_
              refine pn_seq ?_
              exact pw_retN (T := tab) rfl rfl rfl ⟨rfl, rfl⟩ ⟨rfl, rfl, trivial⟩ rfl
            · refine pw_skip ?_
              exact pn_sub' (hj1 ()) ⟨rfl, rfl, rfl, trivial⟩ ⟨rfl, rfl, trivial⟩ rfl
    · refine pw_exit rfl ?_
      exact pn_retN (T := tab) rfl rfl rfl ⟨rfl, rfl⟩ ⟨rfl, rfl, trivial⟩ rfl
  · refine po_evs (T := tab) 5 rfl rfl ?_
    refine po_nil ?_
    refine pn_seq (pw_else rfl ?_)
    refine pw_exit rfl ?_
    exact pn_retN (T := tab) rfl rfl rfl ⟨rfl, rfl⟩ ⟨rfl, rfl, trivial⟩ rfl

def Print_reader_elem_j2 (sg44 : Int → Int → Bs → Bool → (List (Node × Bool)) → Option (Int × Bs × Bool × (List (Node × Bool)))) (fu : Nat) (c1 : Int) (c2 : Int) (l5 : (List (Node × Bool))) (r6 : (Bs × Bs)) (c11 : Bs) (x_ : Bs × Bool × (List Attr)) : Option (Int × Bs × Bool × (List (Node × Bool))) := match x_ with
  | (c19, c20, l21) => bnd (Print_reader_must_m fu [62] c19 c20) fun r22 => bnd (Print_reader_add_m fu 1 r6.1 c11 [] l21 c2 l5) fun r23 => cnd (!r22.2) (bnd (Print_reader_take_m fu [123] r22.1) fun r24 => cnd r24.1 (bnd (Print_reader_add_m fu 4 [] [] [] [] c2 r23.2) fun r25 => bnd (idx r25.2 r25.1) fun y26 => bnd (idx (r25.2.set (r25.1).toNat ((⟨y26.1.Kind, y26.1.Name, y26.1.Is, y26.1.Data, y26.1.Attrs, y26.1.Parent, y26.1.Kids, r23.1, y26.1.Under, y26.1.Doc⟩ : Node), y26.2)) r23.1) fun y27 => bnd (Print_reader_kids_m sg44 fu r25.1 [125] c1 c2 r24.2 r22.2 ((r25.2.set (r25.1).toNat ((⟨y26.1.Kind, y26.1.Name, y26.1.Is, y26.1.Data, y26.1.Attrs, y26.1.Parent, y26.1.Kids, r23.1, y26.1.Under, y26.1.Doc⟩ : Node), y26.2)).set (r23.1).toNat ((⟨y27.1.Kind, y27.1.Name, y27.1.Is, y27.1.Data, y27.1.Attrs, y27.1.Parent, y27.1.Kids, y27.1.Host, r25.1, y27.1.Doc⟩ : Node), y27.2))) fun r28 => bnd (cat ([60, 47] : Bs) r6.1) fun s29 => bnd (cat s29 ([62] : Bs)) fun s30 => bnd (Print_reader_kids_m sg44 fu r23.1 s30 c1 c2 r28.1 r28.2.1 r28.2.2) fun r31 => some (r23.1, r31.1, r31.2.1, r31.2.2)) (bnd (cat ([60, 47] : Bs) r6.1) fun s32 => bnd (cat s32 ([62] : Bs)) fun s33 => bnd (Print_reader_kids_m sg44 fu r23.1 s33 c1 c2 r24.2 r22.2 r23.2) fun r34 => some (r23.1, r34.1, r34.2.1, r34.2.2))) (bnd (cat ([60, 47] : Bs) r6.1) fun s35 => bnd (cat s35 ([62] : Bs)) fun s36 => bnd (Print_reader_kids_m sg44 fu r23.1 s36 c1 c2 r22.1 r22.2 r23.2) fun r37 => some (r23.1, r37.1, r37.2.1, r37.2.2))

def Print_reader_elem_l1 (sg44 : Int → Int → Bs → Bool → (List (Node × Bool)) → Option (Int × Bs × Bool × (List (Node × Bool)))) (fu : Nat) (c1 : Int) (c2 : Int) (l5 : (List (Node × Bool))) (r6 : (Bs × Bs)) (c11 : Bs) : Nat → Bs × Bool × (List Attr) → Option (Int × Bs × Bool × (List (Node × Bool)))
  | 0, _ => none
  | k1 + 1, (c12, c13, l14) => cnd (!c13) (bnd (Print_reader_take_m fu [32] c12) fun r15 => cnd r15.1 (bnd (Print_reader_word_m fu r15.2) fun r16 => bnd (Print_reader_must_m fu [61] r16.2 c13) fun r17 => bnd (Print_reader_quoted_m fu r17.1 r17.2) fun r18 => bnd (roomy 32 (l14.length + ([(⟨r16.1, r18.1⟩ : Attr)] : List Attr).length)) fun _ => (Print_reader_elem_l1 sg44 fu c1 c2 l5 r6 c11 k1) (r18.2.1, r18.2.2, (l14 ++ [(⟨r16.1, r18.1⟩ : Attr)]))) ((Print_reader_elem_j2 sg44 fu c1 c2 l5 r6 c11) (r15.2, c13, l14))) ((Print_reader_elem_j2 sg44 fu c1 c2 l5 r6 c11) (c12, c13, l14))

def Print_reader_elem_j1 (sg44 : Int → Int → Bs → Bool → (List (Node × Bool)) → Option (Int × Bs × Bool × (List (Node × Bool)))) (fu : Nat) (c1 : Int) (c2 : Int) (l5 : (List (Node × Bool))) (r6 : (Bs × Bs)) (x_ : Bs × Bool × Bs) : Option (Int × Bs × Bool × (List (Node × Bool))) := match x_ with
  | (c9, c10, c11) => (Print_reader_elem_l1 sg44 fu c1 c2 l5 r6 c11) fu (c9, c10, [])

def Print_reader_elem_m (sg44 : Int → Int → Bs → Bool → (List (Node × Bool)) → Option (Int × Bs × Bool × (List (Node × Bool)))) (fu : Nat) (c1 : Int) (c2 : Int) (c3 : Bs) (c4 : Bool) (l5 : (List (Node × Bool))) : Option (Int × Bs × Bool × (List (Node × Bool))) := bnd (Print_reader_word_m fu c3) fun r6 => bnd (Print_reader_take_m fu [33] r6.2) fun r7 => cnd r7.1 (bnd (Print_reader_word_m fu r7.2) fun r8 => cnd c4 ((Print_reader_elem_j1 sg44 fu c1 c2 l5 r6) (r8.2, true, r8.1)) ((Print_reader_elem_j1 sg44 fu c1 c2 l5 r6) (r8.2, (r8.1 == ([] : Bs)), r8.1))) ((Print_reader_elem_j1 sg44 fu c1 c2 l5 r6) (r7.2, c4, []))

end Go.Proofs.YtkngnghbnhgfjaaGreat
