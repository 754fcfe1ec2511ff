/- Models and proofs, printed by emit2.py. -/
import Derived.Test.YtcaepigodglihaaData
namespace Go.Proofs.Ytcaepigodglihaa
open Go Go.Pw
set_option linter.unusedVariables false

def Forest_bare_m (_fu : Nat) (kind1 : Int) (doc2 : Int) : Option Node := some (⟨kind1, [], [], [], [], (-1), [], (-1), (-1), doc2⟩ : Node)

set_option maxRecDepth 100000 in
theorem Forest_bare_ok (fu : Nat) (kind1 : Int) (doc2 : Int) : ∀ r, Forest_bare_m fu kind1 doc2 = some r → DC Try.prog 57 [.v (.int .i64 kind1), .v (.int .i64 doc2)] (.agg (cNode r)) := by
  intro r hr
  refine fc_intro (args := [.v (.int .i64 kind1), .v (.int .i64 doc2)]) (S := []) (N0 := []) (post := fun r p S => p = .agg (cNode r) ∧ S = []) Try.func57 rfl rfl hr fun w0 X X0 σ0 => ?_
  refine pw_seq ?_
  refine pw_region ?_
  refine po_alloc (T := tab) 4 rfl rfl rfl rfl rfl rfl rfl rfl rfl ?_
  refine po_nil ?_
  refine pn_seq ?_
  refine pw_seq ?_
  refine pw_region ?_
  refine po_evs (T := tab) 2 rfl rfl ?_
  refine po_build (T := tab) rfl rfl rfl rfl rfl rfl rfl ?_
  refine po_store (T := tab) rfl rfl rfl rfl rfl rfl rfl rfl rfl rfl rfl rfl ?_
  refine po_nil ?_
  refine pn_seq ?_
  refine pw_coeS 4 [.v (.int .i64 kind1), .v (.string ⟨⟨[]⟩⟩), .v (.string ⟨⟨[]⟩⟩), .v (.string ⟨⟨[]⟩⟩), .sl 2 false ([].map cAttr), .v (.int .i64 (-1)), .sl 1 false ([].map cInt_i64), .v (.int .i64 (-1)), .v (.int .i64 (-1)), .v (.int .i64 doc2)] rfl ⟨.rfl, .rfl, .rfl, .rfl, .nil, .rfl, .nil, .rfl, .rfl, .rfl, trivial⟩ rfl ?_
  exact pw_retN (T := tab) rfl rfl rfl ⟨rfl, rfl⟩ trivial rfl

def Name_small_m (_fu : Nat) (c1 : Int) : Option Bool := cnd (decide (c1 ≥ 97)) (some (decide (c1 ≤ 122))) (some false)

set_option maxRecDepth 100000 in
theorem Name_small_ok (fu : Nat) (c1 : Int) : ∀ r, Name_small_m fu c1 = some r → DC Try.prog 99 [.v (.int .i32 c1)] (.v (.bool r)) := by
  intro r hr
  refine fc_intro (args := [.v (.int .i32 c1)]) (S := []) (N0 := []) (post := fun r p S => p = .v (.bool r) ∧ S = []) Try.func99 rfl rfl hr fun w0 X X0 σ0 => ?_
  refine pw_seq ?_
  refine pw_region ?_
  refine po_evs (T := tab) 1 rfl rfl ?_
  refine po_nil ?_
  refine pn_seq ?_
  refine pw_seq ?_
  refine pw_region ?_
  refine po_evs (T := tab) 3 rfl rfl ?_
  refine po_split (j := 5) rfl ?_ ?_
  · refine po_evs (T := tab) 4 rfl rfl ?_
    refine po_nil ?_
    refine pn_seq ?_
    exact pw_retN (T := tab) rfl rfl rfl ⟨rfl, rfl⟩ trivial rfl
  · refine po_evs (T := tab) 4 rfl rfl ?_
    refine po_nil ?_
    refine pn_seq ?_
    exact pw_retN (T := tab) rfl rfl rfl ⟨rfl, rfl⟩ trivial rfl

def Name_capital_m (_fu : Nat) (c1 : Int) : Option Bool := cnd (decide (c1 ≥ 65)) (some (decide (c1 ≤ 90))) (some false)

set_option maxRecDepth 100000 in
theorem Name_capital_ok (fu : Nat) (c1 : Int) : ∀ r, Name_capital_m fu c1 = some r → DC Try.prog 101 [.v (.int .i32 c1)] (.v (.bool r)) := by
  intro r hr
  refine fc_intro (args := [.v (.int .i32 c1)]) (S := []) (N0 := []) (post := fun r p S => p = .v (.bool r) ∧ S = []) Try.func101 rfl rfl hr fun w0 X X0 σ0 => ?_
  refine pw_seq ?_
  refine pw_region ?_
  refine po_evs (T := tab) 1 rfl rfl ?_
  refine po_nil ?_
  refine pn_seq ?_
  refine pw_seq ?_
  refine pw_region ?_
  refine po_evs (T := tab) 3 rfl rfl ?_
  refine po_split (j := 5) rfl ?_ ?_
  · refine po_evs (T := tab) 4 rfl rfl ?_
    refine po_nil ?_
    refine pn_seq ?_
    exact pw_retN (T := tab) rfl rfl rfl ⟨rfl, rfl⟩ trivial rfl
  · refine po_evs (T := tab) 4 rfl rfl ?_
    refine po_nil ?_
    refine pn_seq ?_
    exact pw_retN (T := tab) rfl rfl rfl ⟨rfl, rfl⟩ trivial rfl

def Name_sign_j1 (c1 : Int) (x_ : Unit) : Option Bool := cnd (c1 == 45) (some true) (cnd (c1 == 95) (some true) (some (c1 == 46)))

def Name_sign_m (fu : Nat) (c1 : Int) : Option Bool := bnd (Name_small_m fu c1) fun r2 => cnd r2 (cnd r2 (some true) ((Name_sign_j1 c1) ())) (bnd (Name_capital_m fu c1) fun r3 => cnd r3 (cnd r3 (some true) ((Name_sign_j1 c1) ())) (cnd (decide (c1 ≥ 48)) (cnd (decide (c1 ≤ 57)) (some true) ((Name_sign_j1 c1) ())) ((Name_sign_j1 c1) ())))

set_option maxHeartbeats 10000000 in
set_option maxRecDepth 100000 in
theorem Name_sign_ok (fu : Nat) (c1 : Int) : ∀ r, Name_sign_m fu c1 = some r → DC Try.prog 118 [.v (.int .i32 c1)] (.v (.bool r)) := by
  intro r hr
  refine fc_intro (args := [.v (.int .i32 c1)]) (S := []) (N0 := []) (post := fun r p S => p = .v (.bool r) ∧ S = []) Try.func118 rfl rfl hr fun w0 X X0 σ0 => ?_
  refine pw_seq ?_
  refine pw_region ?_
  refine po_evs (T := tab) 1 rfl rfl ?_
  refine po_nil ?_
  refine pn_seq ?_
  refine pw_seq ?_
  refine pw_joinK (Name_sign_j1 c1) (fun (_ : Unit) => [(0, .v (.int .i32 c1))]) (fun (_ : Unit) => []) ?_ fun hj1 => ?_
  · rintro _
    refine pn_seq ?_
    refine pw_seq ?_
    refine pw_region ?_
    refine po_evs (T := tab) 3 rfl rfl ?_
    refine po_split (j := 16) rfl ?_ ?_
    · refine po_evs (T := tab) 8 rfl rfl ?_
      refine po_nil ?_
      refine pn_seq ?_
      exact pw_retN (T := tab) rfl rfl rfl ⟨rfl, rfl⟩ trivial rfl
    · refine po_evs (T := tab) 4 rfl rfl ?_
      refine po_split (j := 20) rfl ?_ ?_
      · refine po_evs (T := tab) 4 rfl rfl ?_
        refine po_nil ?_
        refine pn_seq ?_
        exact pw_retN (T := tab) rfl rfl rfl ⟨rfl, rfl⟩ trivial rfl
      · refine po_evs (T := tab) 4 rfl rfl ?_
        refine po_nil ?_
        refine pn_seq ?_
        exact pw_retN (T := tab) rfl rfl rfl ⟨rfl, rfl⟩ trivial rfl
  · refine pw_block ?_
    refine pw_seq ?_
    refine pw_seq ?_
    refine pw_region ?_
    refine po_evs (T := tab) 1 rfl rfl ?_
    refine po_call (enc := fun (r2 : Bool) => .v (.bool r2)) (qs := [.v (.int .i32 c1)]) (Name_small_ok fu c1) rfl rfl ⟨⟨_, rfl, .rfl⟩, trivial⟩ (fun _ => rfl) call99 rfl rfl fun r2 hr2 => ?_
    refine po_evs (T := tab) 1 rfl rfl ?_
    refine po_nil ?_
    refine pn_seq ?_
    refine pw_cnd rfl ?_ ?_
    · refine pw_skip ?_
      refine pn_seq ?_
      refine pw_cnd rfl ?_ ?_
      · refine pw_seq ?_
        refine pw_region ?_
        refine po_evs (T := tab) 1 rfl rfl ?_
        refine po_nil ?_
        refine pn_seq ?_
        exact pw_retN (T := tab) rfl rfl rfl ⟨rfl, rfl⟩ trivial rfl
      · refine pw_skip ?_
        refine pn_block ?_
        exact pn_sub' (hj1 ()) ⟨rfl, trivial⟩ trivial rfl
    · refine pw_seq ?_
      refine pw_region ?_
      refine po_evs (T := tab) 1 rfl rfl ?_
      refine po_call (enc := fun (r3 : Bool) => .v (.bool r3)) (qs := [.v (.int .i32 c1)]) (Name_capital_ok fu c1) rfl rfl ⟨⟨_, rfl, .rfl⟩, trivial⟩ (fun _ => rfl) call101 rfl rfl fun r3 hr3 => ?_
      refine po_evs (T := tab) 1 rfl rfl ?_
      refine po_nil ?_
      refine pn_seq ?_
      refine pw_cnd rfl ?_ ?_
      · refine pw_skip ?_
        refine pn_seq ?_
        refine pw_cnd rfl ?_ ?_
        · refine pw_seq ?_
          refine pw_region ?_
          refine po_evs (T := tab) 1 rfl rfl ?_
          refine po_nil ?_
          refine pn_seq ?_
          exact pw_retN (T := tab) rfl rfl rfl ⟨rfl, rfl⟩ trivial rfl
        · refine pw_skip ?_
          refine pn_block ?_
          exact pn_sub' (hj1 ()) ⟨rfl, trivial⟩ trivial rfl
      · refine pw_region ?_
        refine po_evs (T := tab) 3 rfl rfl ?_
        refine po_split (j := 10) rfl ?_ ?_
        · refine po_evs (T := tab) 4 rfl rfl ?_
          refine po_nil ?_
          refine pn_seq ?_
          refine pw_cnd rfl ?_ ?_
          · refine pw_seq ?_
            refine pw_region ?_
            refine po_evs (T := tab) 1 rfl rfl ?_
            refine po_nil ?_
            refine pn_seq ?_
            exact pw_retN (T := tab) rfl rfl rfl ⟨rfl, rfl⟩ trivial rfl
          · refine pw_skip ?_
            refine pn_block ?_
            exact pn_sub' (hj1 ()) ⟨rfl, trivial⟩ trivial rfl
        · refine po_evs (T := tab) 4 rfl rfl ?_
          refine po_nil ?_
          refine pn_seq ?_
          refine pw_else rfl ?_
          refine pw_skip ?_
          refine pn_block ?_
          exact pn_sub' (hj1 ()) ⟨rfl, trivial⟩ trivial rfl

def Name_Right_1_m (fu : Nat) (c1 : Int) : Option Bool := bnd (Name_sign_m fu c1) fun r2 => some (!r2)

set_option maxRecDepth 100000 in
theorem Name_Right_1_ok (fu : Nat) (c1 : Int) : ∀ r, Name_Right_1_m fu c1 = some r → DC Try.prog 117 [.v (.int .i32 c1)] (.v (.bool r)) := by
  intro r hr
  refine fc_intro (args := [.v (.int .i32 c1)]) (S := []) (N0 := []) (post := fun r p S => p = .v (.bool r) ∧ S = []) Try.func117 rfl rfl hr fun w0 X X0 σ0 => ?_
  refine pw_seq ?_
  refine pw_region ?_
  refine po_evs (T := tab) 1 rfl rfl ?_
  refine po_nil ?_
  refine pn_seq ?_
  refine pw_seq ?_
  refine pw_region ?_
  refine po_evs (T := tab) 1 rfl rfl ?_
  refine po_call (enc := fun (r2 : Bool) => .v (.bool r2)) (qs := [.v (.int .i32 c1)]) (Name_sign_ok fu c1) rfl rfl ⟨⟨_, rfl, .rfl⟩, trivial⟩ (fun _ => rfl) call118 rfl rfl fun r2 hr2 => ?_
  refine po_evs (T := tab) 2 rfl rfl ?_
  refine po_nil ?_
  refine pn_seq ?_
  exact pw_retN (T := tab) rfl rfl rfl ⟨rfl, rfl⟩ trivial rfl

def Strings_indexFunc_l1 (t1 : Int → Option Bool) (s1 : Bs) (truth2 : Bool) : Nat → Nat → Option Int
  | 0, _ => none
  | k1 + 1, p3 => cnd (decide (p3 < s1.length)) (bnd (t1 (decRune s1 p3)) fun r4 => cnd (r4 == truth2) (some ((p3 : Nat) : Int)) ((Strings_indexFunc_l1 t1 s1 truth2 k1) (p3 + decSize s1 p3))) (some (-1))

def Strings_indexFunc_m (fu : Nat) (t1 : Int → Option Bool) (s1 : Bs) (truth2 : Bool) : Option Int := (Strings_indexFunc_l1 t1 s1 truth2) fu 0

set_option maxHeartbeats 10000000 in
set_option maxRecDepth 100000 in
theorem Strings_indexFunc_ok (fu : Nat) (s1 : Bs) (truth2 : Bool) : ∀ r, Strings_indexFunc_m fu (fun (z1 : Int) => Name_Right_1_m fu z1) s1 truth2 = some r → DC Try.prog 123 [.v (.string ⟨⟨s1⟩⟩), .fn (.func 117) [] [], .v (.bool truth2)] (.v (.int .i64 r)) := by
  intro r hr
  refine fc_intro (args := [.v (.string ⟨⟨s1⟩⟩), .fn (.func 117) [] [], .v (.bool truth2)]) (S := []) (N0 := []) (post := fun r p S => p = .v (.int .i64 r) ∧ S = []) Try.func123 rfl rfl hr fun w0 X X0 σ0 => ?_
  refine pw_seq ?_
  refine pw_region ?_
  refine po_evs (T := tab) 1 rfl rfl ?_
  refine po_nil ?_
  refine pn_seq ?_
  refine pw_seq ?_
  refine pw_seq ?_
  refine pw_region ?_
  refine po_evs (T := tab) 1 rfl rfl ?_
  refine po_range (T := tab) 10 rfl rfl rfl rfl rfl rfl rfl rfl rfl ?_
  refine po_nil ?_
  refine pn_seq ?_
  refine pw_block ?_
  refine pw_loop' (Strings_indexFunc_l1 (fun (z1 : Int) => Name_Right_1_m fu z1) s1 truth2) (fun (p3 : Nat) => [(1, .fn (.func 117) [] []), (2, .v (.bool truth2)), (10, .loc 10 0)]) (fun (p3 : Nat) => [(10, .siter ⟨⟨s1⟩⟩ p3)]) fu 0 (fun _ => rfl) ⟨rfl, rfl, rfl, trivial⟩ ⟨rfl, trivial⟩ rfl ?_
  rintro k1 p3
  refine pw_seq ?_
  refine pw_region ?_
  refine po_next 10 rfl rfl rfl rfl rfl rfl rfl ?_ ?_
  · refine po_evs (T := tab) 1 rfl rfl ?_
    refine po_nil ?_
    refine pn_seq ?_
    refine pw_seq ?_
    refine pw_then rfl ?_
    refine pw_skip ?_
    refine pn_seq ?_
    refine pw_block ?_
    refine pw_seq ?_
    refine pw_region ?_
    refine po_evs (T := tab) 4 rfl rfl ?_
    refine po_nil ?_
    refine pn_seq ?_
    refine pw_seq ?_
    refine pw_region ?_
    refine po_evs (T := tab) 2 rfl rfl ?_
    refine po_callv (enc := fun (r4 : Bool) => .v (.bool r4)) (first := []) (cap := []) (qs := [.v (.int .i32 (decRune s1 p3))]) (Sc := []) (Name_Right_1_ok fu (decRune s1 p3)) (subS_of trivial rfl) rfl rfl rfl rfl ⟨⟨_, rfl, .rfl⟩, trivial⟩ (fun _ => rfl) call117 rfl rfl fun r4 hr4 => ?_
    refine po_evs (T := tab) 2 rfl rfl ?_
    refine po_nil ?_
    refine pn_seq ?_
    refine pw_cnd rfl ?_ ?_
    · refine pw_seq ?_
      refine pw_region ?_
      refine po_evs (T := tab) 2 rfl rfl ?_
      refine po_nil ?_
      refine pn_seq ?_
      exact pw_retN (T := tab) rfl rfl rfl ⟨rfl, rfl⟩ trivial rfl
    · refine pw_skip ?_
      refine pn_block ?_
      exact pn_iter' (p3 + decSize s1 p3) ⟨rfl, rfl, rfl, trivial⟩ ⟨rfl, trivial⟩ rfl
  · refine po_evs (T := tab) 1 rfl rfl ?_
    refine po_nil ?_
    refine pn_seq ?_
    refine pw_seq ?_
    refine pw_else rfl ?_
    refine pw_exit rfl ?_
    refine pn_seq ?_
    refine pw_seq ?_
    refine pw_region ?_
    refine po_evs (T := tab) 1 rfl rfl ?_
    refine po_nil ?_
    refine pn_seq ?_
    exact pw_retN (T := tab) rfl rfl rfl ⟨rfl, rfl⟩ trivial rfl

def Strings_IndexFunc_m (fu : Nat) (t1 : Int → Option Bool) (s1 : Bs) : Option Int := bnd (Strings_indexFunc_m fu t1 s1 true) fun r2 => some r2

set_option maxRecDepth 100000 in
theorem Strings_IndexFunc_ok (fu : Nat) (s1 : Bs) : ∀ r, Strings_IndexFunc_m fu (fun (z1 : Int) => Name_Right_1_m fu z1) s1 = some r → DC Try.prog 119 [.v (.string ⟨⟨s1⟩⟩), .fn (.func 117) [] []] (.v (.int .i64 r)) := by
  intro r hr
  refine fc_intro (args := [.v (.string ⟨⟨s1⟩⟩), .fn (.func 117) [] []]) (S := []) (N0 := []) (post := fun r p S => p = .v (.int .i64 r) ∧ S = []) Try.func119 rfl rfl hr fun w0 X X0 σ0 => ?_
  refine pw_seq ?_
  refine pw_region ?_
  refine po_evs (T := tab) 1 rfl rfl ?_
  refine po_nil ?_
  refine pn_seq ?_
  refine pw_seq ?_
  refine pw_region ?_
  refine po_evs (T := tab) 2 rfl rfl ?_
  refine po_call (enc := fun (r2 : Int) => .v (.int .i64 r2)) (qs := [.v (.string ⟨⟨s1⟩⟩), .fn (.func 117) [] [], .v (.bool true)]) (Strings_indexFunc_ok fu s1 true) rfl rfl ⟨⟨_, rfl, .rfl⟩, ⟨_, rfl, .rfl⟩, ⟨_, rfl, .rfl⟩, trivial⟩ (fun _ => rfl) call123 rfl rfl fun r2 hr2 => ?_
  refine po_evs (T := tab) 1 rfl rfl ?_
  refine po_nil ?_
  refine pn_seq ?_
  exact pw_retN (T := tab) rfl rfl rfl ⟨rfl, rfl⟩ trivial rfl

def Strings_ContainsFunc_m (fu : Nat) (t1 : Int → Option Bool) (s1 : Bs) : Option Bool := bnd (Strings_IndexFunc_m fu t1 s1) fun r2 => some (decide (r2 ≥ 0))

set_option maxRecDepth 100000 in
theorem Strings_ContainsFunc_ok (fu : Nat) (s1 : Bs) : ∀ r, Strings_ContainsFunc_m fu (fun (z1 : Int) => Name_Right_1_m fu z1) s1 = some r → DC Try.prog 100 [.v (.string ⟨⟨s1⟩⟩), .fn (.func 117) [] []] (.v (.bool r)) := by
  intro r hr
  refine fc_intro (args := [.v (.string ⟨⟨s1⟩⟩), .fn (.func 117) [] []]) (S := []) (N0 := []) (post := fun r p S => p = .v (.bool r) ∧ S = []) Try.func100 rfl rfl hr fun w0 X X0 σ0 => ?_
  refine pw_seq ?_
  refine pw_region ?_
  refine po_evs (T := tab) 1 rfl rfl ?_
  refine po_nil ?_
  refine pn_seq ?_
  refine pw_seq ?_
  refine pw_region ?_
  refine po_evs (T := tab) 2 rfl rfl ?_
  refine po_call (enc := fun (r2 : Int) => .v (.int .i64 r2)) (qs := [.v (.string ⟨⟨s1⟩⟩), .fn (.func 117) [] []]) (Strings_IndexFunc_ok fu s1) rfl rfl ⟨⟨_, rfl, .rfl⟩, ⟨_, rfl, .rfl⟩, trivial⟩ (fun _ => rfl) call119 rfl rfl fun r2 hr2 => ?_
  refine po_evs (T := tab) 2 rfl rfl ?_
  refine po_nil ?_
  refine pn_seq ?_
  exact pw_retN (T := tab) rfl rfl rfl ⟨rfl, rfl⟩ trivial rfl

def Name_Right_m (fu : Nat) (s1 : Bs) : Option Bool := cnd (decide (((s1.length : Nat) : Int) < 1)) (some false) (cnd (decide (((s1.length : Nat) : Int) > 40)) (some false) (bnd (Strings_ContainsFunc_m fu (fun (z1 : Int) => Name_Right_1_m fu z1) s1) fun r2 => cnd r2 (some false) (bnd (chr s1 0) fun b3 => bnd (rng .i32 b3) fun i4 => bnd (Name_small_m fu i4) fun r5 => cnd r5 (some true) (bnd (Name_capital_m fu i4) fun r6 => cnd r6 (some true) (some (i4 == 95))))))

set_option maxHeartbeats 10000000 in
set_option maxRecDepth 100000 in
theorem Name_Right_ok (fu : Nat) (s1 : Bs) : ∀ r, Name_Right_m fu s1 = some r → DC Try.prog 98 [.v (.string ⟨⟨s1⟩⟩)] (.v (.bool r)) := by
  intro r hr
  refine fc_intro (args := [.v (.string ⟨⟨s1⟩⟩)]) (S := []) (N0 := []) (post := fun r p S => p = .v (.bool r) ∧ S = []) Try.func98 rfl rfl hr fun w0 X X0 σ0 => ?_
  refine pw_seq ?_
  refine pw_region ?_
  refine po_evs (T := tab) 1 rfl rfl ?_
  refine po_nil ?_
  refine pn_seq ?_
  refine pw_seq ?_
  refine pw_seq ?_
  refine pw_region ?_
  refine po_evs (T := tab) 4 rfl rfl ?_
  refine po_split (j := 7) rfl ?_ ?_
  · refine po_evs (T := tab) 8 rfl rfl ?_
    refine po_nil ?_
    refine pn_seq (pw_then rfl ?_)
    refine pw_seq ?_
    refine pw_region ?_
    refine po_evs (T := tab) 1 rfl rfl ?_
    refine po_nil ?_
    refine pn_seq ?_
    exact pw_retN (T := tab) rfl rfl rfl ⟨rfl, rfl⟩ trivial rfl
  · refine po_evs (T := tab) 5 rfl rfl ?_
    refine po_split (j := 12) rfl ?_ ?_
    · refine po_evs (T := tab) 3 rfl rfl ?_
      refine po_nil ?_
      refine pn_seq (pw_then rfl ?_)
      refine pw_seq ?_
      refine pw_region ?_
      refine po_evs (T := tab) 1 rfl rfl ?_
      refine po_nil ?_
      refine pn_seq ?_
      exact pw_retN (T := tab) rfl rfl rfl ⟨rfl, rfl⟩ trivial rfl
    · refine po_evs (T := tab) 1 rfl rfl ?_
      refine po_call (enc := fun (r2 : Bool) => .v (.bool r2)) (qs := [.v (.string ⟨⟨s1⟩⟩), .fn (.func 117) [] []]) (Strings_ContainsFunc_ok fu s1) rfl rfl ⟨⟨_, rfl, .rfl⟩, ⟨_, rfl, .rfl⟩, trivial⟩ (fun _ => rfl) call100 rfl rfl fun r2 hr2 => ?_
      refine po_evs (T := tab) 1 rfl rfl ?_
      refine po_nil ?_
      refine pn_seq ?_
      refine pw_cnd rfl ?_ ?_
      · refine pw_seq ?_
        refine pw_region ?_
        refine po_evs (T := tab) 1 rfl rfl ?_
        refine po_nil ?_
        refine pn_seq ?_
        exact pw_retN (T := tab) rfl rfl rfl ⟨rfl, rfl⟩ trivial rfl
      · refine pw_skip ?_
        refine pn_seq ?_
        refine pw_seq ?_
        refine pw_region ?_
        refine po_evs (T := tab) 1 rfl rfl ?_
        refine po_chr (T := tab) (s := s1) rfl rfl rfl rfl rfl rfl rfl fun b3 hb3 => ?_
        refine po_arith' (T := tab) rfl rfl rfl rfl fun i4 hi4 => ?_
        refine po_evs (T := tab) 1 rfl rfl ?_
        refine po_nil ?_
        refine pn_seq ?_
        refine pw_seq ?_
        refine pw_region ?_
        refine po_evs (T := tab) 1 rfl rfl ?_
        refine po_call (enc := fun (r5 : Bool) => .v (.bool r5)) (qs := [.v (.int .i32 i4)]) (Name_small_ok fu i4) rfl rfl ⟨⟨_, rfl, .rfl⟩, trivial⟩ (fun _ => rfl) call99 rfl rfl fun r5 hr5 => ?_
        refine po_evs (T := tab) 1 rfl rfl ?_
        refine po_split (j := 21) rfl ?_ ?_
        · refine po_evs (T := tab) 8 rfl rfl ?_
          refine po_nil ?_
          refine pn_seq ?_
          exact pw_retN (T := tab) rfl rfl rfl ⟨rfl, rfl⟩ trivial rfl
        · refine po_evs (T := tab) 1 rfl rfl ?_
          refine po_call (enc := fun (r6 : Bool) => .v (.bool r6)) (qs := [.v (.int .i32 i4)]) (Name_capital_ok fu i4) rfl rfl ⟨⟨_, rfl, .rfl⟩, trivial⟩ (fun _ => rfl) call101 rfl rfl fun r6 hr6 => ?_
          refine po_evs (T := tab) 2 rfl rfl ?_
          refine po_split (j := 25) rfl ?_ ?_
          · refine po_evs (T := tab) 4 rfl rfl ?_
            refine po_nil ?_
            refine pn_seq ?_
            exact pw_retN (T := tab) rfl rfl rfl ⟨rfl, rfl⟩ trivial rfl
          · refine po_evs (T := tab) 4 rfl rfl ?_
            refine po_nil ?_
            refine pn_seq ?_
            exact pw_retN (T := tab) rfl rfl rfl ⟨rfl, rfl⟩ trivial rfl

def Name_Small_l1 (fu : Nat) (s1 : Bs) : Nat → Int × (List Int) → Option Bs
  | 0, _ => none
  | k1 + 1, (t2, l3) => cnd (decide (t2 < (((bytesOf s1).length : Nat) : Int))) (bnd (idx l3 t2) fun y4 => bnd (rng .i32 y4) fun i5 => bnd (Name_capital_m fu i5) fun r6 => cnd r6 (bnd (rng .u8 (y4 - 65)) fun i7 => bnd (rng .u8 (i7 + 97)) fun i8 => bnd (idx l3 t2) fun y9 => bnd (rng .i64 (t2 + 1)) fun i10 => (Name_Small_l1 fu s1 k1) (i10, (l3.set (t2).toNat i8))) (bnd (rng .i64 (t2 + 1)) fun i11 => (Name_Small_l1 fu s1 k1) (i11, l3))) (some (strOf l3))

def Name_Small_m (fu : Nat) (s1 : Bs) : Option Bs := bnd (roomy 1 s1.length) fun _ => (Name_Small_l1 fu s1) fu (0, (bytesOf s1))

set_option maxHeartbeats 10000000 in
set_option maxRecDepth 100000 in
theorem Name_Small_ok (fu : Nat) (s1 : Bs) : ∀ r, Name_Small_m fu s1 = some r → DC Try.prog 113 [.v (.string ⟨⟨s1⟩⟩)] (.v (.string ⟨⟨r⟩⟩)) := by
  intro r hr
  refine fc_intro (args := [.v (.string ⟨⟨s1⟩⟩)]) (S := []) (N0 := []) (post := fun r p S => p = .v (.string ⟨⟨r⟩⟩) ∧ S = []) Try.func113 rfl rfl hr fun w0 X X0 σ0 => ?_
  refine pw_seq ?_
  refine pw_region ?_
  refine po_evs (T := tab) 1 rfl rfl ?_
  refine po_nil ?_
  refine pn_seq ?_
  refine pw_seq ?_
  refine pw_region ?_
  refine po_evs (T := tab) 1 rfl rfl ?_
  refine po_bytes (T := tab) cInt_u8 7 (fun _ => rfl) rfl rfl rfl rfl rfl rfl rfl rfl rfl rfl rfl rfl ?_
  refine po_evs (T := tab) 1 rfl rfl ?_
  refine po_nil ?_
  refine pn_seq ?_
  refine pw_seq ?_
  refine pw_seq ?_
  refine pw_region ?_
  refine po_evs (T := tab) 1 rfl rfl ?_
  refine po_len_own (T := tab) cInt_u8 (bytesOf s1) rfl rfl rfl rfl rfl rfl rfl rfl rfl ?_
  refine po_evs (T := tab) 1 rfl rfl ?_
  refine po_nil ?_
  refine pn_seq ?_
  refine pw_block ?_
  refine pw_loop' (Name_Small_l1 fu s1) (fun ((t2, l3) : Int × (List Int)) => [(3, .own 7), (8, .own 7), (9, .v (.int .i64 (((bytesOf s1).length : Nat) : Int))), (10, .v (.int .i64 t2))]) (fun ((t2, l3) : Int × (List Int)) => [(7, .arr 1000005 1 (l3.map cInt_u8))]) fu (0, (bytesOf s1)) (fun _ => rfl) ⟨rfl, rfl, rfl, rfl, trivial⟩ ⟨rfl, trivial⟩ rfl ?_
  rintro k1 ⟨t2, l3⟩
  refine pw_seq ?_
  refine pw_region ?_
  refine po_evs (T := tab) 1 rfl rfl ?_
  refine po_nil ?_
  refine pn_seq ?_
  refine pw_seq ?_
  refine pw_cnd rfl ?_ ?_
  · refine pw_skip ?_
    refine pn_seq ?_
    refine pw_seq ?_
    refine pw_block ?_
    refine pw_seq ?_
    refine pw_region ?_
    refine po_evs (T := tab) 1 rfl rfl ?_
    refine po_idx_own (T := tab) cInt_u8 l3 rfl rfl rfl rfl rfl rfl rfl rfl fun y4 hy4 => ?_
    refine po_load_ela (T := tab) cInt_u8 l3 y4 (idx_at hy4) rfl rfl rfl rfl rfl rfl rfl rfl ?_
    refine po_evs (T := tab) 2 rfl rfl ?_
    refine po_nil ?_
    refine pn_seq ?_
    refine pw_seq ?_
    refine pw_region ?_
    refine po_evs (T := tab) 1 rfl rfl ?_
    refine po_arith' (T := tab) rfl rfl rfl rfl fun i5 hi5 => ?_
    refine po_call (enc := fun (r6 : Bool) => .v (.bool r6)) (qs := [.v (.int .i32 i5)]) (Name_capital_ok fu i5) rfl rfl ⟨⟨_, rfl, .rfl⟩, trivial⟩ (fun _ => rfl) call101 rfl rfl fun r6 hr6 => ?_
    refine po_nil ?_
    refine pn_seq ?_
    refine pw_cnd rfl ?_ ?_
    · refine pw_region ?_
      refine po_evs (T := tab) 3 rfl rfl ?_
      refine po_arith' (T := tab) rfl rfl rfl rfl fun i7 hi7 => ?_
      refine po_arith' (T := tab) rfl rfl rfl rfl fun i8 hi8 => ?_
      refine po_idx_own (T := tab) cInt_u8 l3 rfl rfl rfl rfl rfl rfl rfl rfl fun y9 hy9 => ?_
      refine po_store_ela (T := tab) cInt_u8 l3 y9 i8 (idx_at hy9) rfl rfl rfl rfl rfl rfl rfl rfl rfl rfl rfl rfl rfl ?_
      refine po_nil ?_
      refine pn_block ?_
      refine pn_seq ?_
      refine pw_region ?_
      refine po_arith' (T := tab) rfl rfl rfl rfl fun i10 hi10 => ?_
      refine po_evs (T := tab) 1 rfl rfl ?_
      refine po_nil ?_
      exact pn_iter' (i10, (l3.set (t2).toNat i8)) ⟨rfl, rfl, rfl, rfl, trivial⟩ ⟨rfl, trivial⟩ rfl
    · refine pw_skip ?_
      refine pn_block ?_
      refine pn_seq ?_
      refine pw_region ?_
      refine po_arith' (T := tab) rfl rfl rfl rfl fun i11 hi11 => ?_
      refine po_evs (T := tab) 1 rfl rfl ?_
      refine po_nil ?_
      exact pn_iter' (i11, l3) ⟨rfl, rfl, rfl, rfl, trivial⟩ ⟨rfl, trivial⟩ rfl
  · refine pw_exit rfl ?_
    refine pn_seq ?_
    refine pw_seq ?_
    refine pw_region ?_
    refine po_evs (T := tab) 1 rfl rfl ?_
    refine po_str (T := tab) cInt_u8 l3 (fun _ => rfl) rfl rfl rfl rfl rfl rfl rfl rfl rfl ?_
    refine po_evs (T := tab) 1 rfl rfl ?_
    refine po_nil ?_
    refine pn_seq ?_
    exact pw_retN (T := tab) rfl rfl rfl ⟨rfl, rfl⟩ trivial rfl

def Name_Fit_m (fu : Nat) (s1 : Bs) : Option (Bs × Int) := bnd (Name_Right_m fu s1) fun r2 => cnd (!r2) (some ([], 4)) (bnd (Name_Small_m fu s1) fun r3 => some (r3, 0))

set_option maxRecDepth 100000 in
theorem Name_Fit_ok (fu : Nat) (s1 : Bs) : ∀ r, Name_Fit_m fu s1 = some r → DC Try.prog 91 [.v (.string ⟨⟨s1⟩⟩)] (.tup [.v (.string ⟨⟨r.1⟩⟩), .v (.int .i64 r.2)]) := by
  intro r hr
  refine fc_intro (args := [.v (.string ⟨⟨s1⟩⟩)]) (S := []) (N0 := []) (post := fun r p S => p = .tup [.v (.string ⟨⟨r.1⟩⟩), .v (.int .i64 r.2)] ∧ S = []) Try.func91 rfl rfl hr fun w0 X X0 σ0 => ?_
  refine pw_seq ?_
  refine pw_region ?_
  refine po_evs (T := tab) 2 rfl rfl ?_
  refine po_nil ?_
  refine pn_seq ?_
  refine pw_seq ?_
  refine pw_seq ?_
  refine pw_region ?_
  refine po_evs (T := tab) 1 rfl rfl ?_
  refine po_call (enc := fun (r2 : Bool) => .v (.bool r2)) (qs := [.v (.string ⟨⟨s1⟩⟩)]) (Name_Right_ok fu s1) rfl rfl ⟨⟨_, rfl, .rfl⟩, trivial⟩ (fun _ => rfl) call98 rfl rfl fun r2 hr2 => ?_
  refine po_evs (T := tab) 1 rfl rfl ?_
  refine po_nil ?_
  refine pn_seq ?_
  refine pw_cnd rfl ?_ ?_
  · refine pw_seq ?_
    refine pw_region ?_
    refine po_evs (T := tab) 2 rfl rfl ?_
    refine po_nil ?_
    refine pn_seq ?_
    exact pw_retN (T := tab) rfl rfl rfl ⟨rfl, rfl⟩ trivial rfl
  · refine pw_skip ?_
    refine pn_seq ?_
    refine pw_seq ?_
    refine pw_region ?_
    refine po_evs (T := tab) 1 rfl rfl ?_
    refine po_call (enc := fun (r3 : Bs) => .v (.string ⟨⟨r3⟩⟩)) (qs := [.v (.string ⟨⟨s1⟩⟩)]) (Name_Small_ok fu s1) rfl rfl ⟨⟨_, rfl, .rfl⟩, trivial⟩ (fun _ => rfl) call113 rfl rfl fun r3 hr3 => ?_
    refine po_evs (T := tab) 2 rfl rfl ?_
    refine po_nil ?_
    refine pn_seq ?_
    exact pw_retN (T := tab) rfl rfl rfl ⟨rfl, rfl⟩ trivial rfl

def Attr_Right_1_m (fu : Nat) (a1 : Attr) : Option Bool := bnd (Name_Fit_m fu a1.Name) fun r2 => cnd (r2.2 != 0) (some true) (cnd (!(r2.1 == a1.Name)) (some true) (some (decide (((a1.Value.length : Nat) : Int) > 200))))

set_option maxRecDepth 100000 in
theorem Attr_Right_1_ok (fu : Nat) (a1 : Attr) : ∀ r, Attr_Right_1_m fu a1 = some r → DC Try.prog 114 [.agg (cAttr a1)] (.v (.bool r)) := by
  intro r hr
  refine fc_intro (args := [.agg (cAttr a1)]) (S := []) (N0 := []) (post := fun r p S => p = .v (.bool r) ∧ S = []) Try.func114 rfl rfl hr fun w0 X X0 σ0 => ?_
  refine pw_seq ?_
  refine pw_region ?_
  refine po_box  1 rfl rfl rfl rfl rfl rfl rfl rfl rfl rfl ?_
  refine po_evs (T := tab) 1 rfl rfl ?_
  refine po_nil ?_
  refine pn_seq ?_
  refine pw_seq ?_
  refine pw_region ?_
  refine po_evs (T := tab) 2 rfl rfl ?_
  refine po_call (enc := fun (r2 : (Bs × Int)) => .tup [.v (.string ⟨⟨r2.1⟩⟩), .v (.int .i64 r2.2)]) (qs := [.v (.string ⟨⟨a1.Name⟩⟩)]) (Name_Fit_ok fu a1.Name) rfl rfl ⟨⟨_, rfl, .rfl⟩, trivial⟩ (fun _ => rfl) call91 rfl rfl fun r2 hr2 => ?_
  refine po_evs (T := tab) 5 rfl rfl ?_
  refine po_nil ?_
  refine pn_seq ?_
  refine pw_seq ?_
  refine pw_region ?_
  refine po_evs (T := tab) 3 rfl rfl ?_
  refine po_split (j := 13) rfl ?_ ?_
  · refine po_evs (T := tab) 12 rfl rfl ?_
    refine po_nil ?_
    refine pn_seq ?_
    exact pw_retN (T := tab) rfl rfl rfl ⟨rfl, rfl⟩ trivial rfl
  · refine po_evs (T := tab) 6 rfl rfl ?_
    refine po_split (j := 19) rfl ?_ ?_
    · refine po_evs (T := tab) 6 rfl rfl ?_
      refine po_nil ?_
      refine pn_seq ?_
      exact pw_retN (T := tab) rfl rfl rfl ⟨rfl, rfl⟩ trivial rfl
    · refine po_evs (T := tab) 6 rfl rfl ?_
      refine po_nil ?_
      refine pn_seq ?_
      exact pw_retN (T := tab) rfl rfl rfl ⟨rfl, rfl⟩ trivial rfl

def Slices_IndexFunc_apiAttr_l1 (t1 : Attr → Option Bool) (s1 : (List Attr)) : Nat → Int → Option Int
  | 0, _ => none
  | k1 + 1, t2 => cnd (decide (t2 < ((s1.length : Nat) : Int))) (bnd (idx s1 t2) fun y3 => bnd (t1 y3) fun r4 => cnd r4 (some t2) (bnd (rng .i64 (t2 + 1)) fun i5 => (Slices_IndexFunc_apiAttr_l1 t1 s1 k1) i5)) (some (-1))

def Slices_IndexFunc_apiAttr_m (fu : Nat) (t1 : Attr → Option Bool) (s1 : (List Attr)) : Option Int := (Slices_IndexFunc_apiAttr_l1 t1 s1) fu 0

set_option maxHeartbeats 10000000 in
set_option maxRecDepth 100000 in
theorem Slices_IndexFunc_apiAttr_ok (fu : Nat) (s1 : (List Attr)) : ∀ r, Slices_IndexFunc_apiAttr_m fu (fun (z1 : Attr) => Attr_Right_1_m fu z1) s1 = some r → DC Try.prog 122 [.sl 2 false (s1.map cAttr), .fn (.func 114) [] []] (.v (.int .i64 r)) := by
  intro r hr
  refine fc_intro (args := [.sl 2 false (s1.map cAttr), .fn (.func 114) [] []]) (S := []) (N0 := []) (post := fun r p S => p = .v (.int .i64 r) ∧ S = []) Try.func122 rfl rfl hr fun w0 X X0 σ0 => ?_
  refine pw_seq ?_
  refine pw_region ?_
  refine po_evs (T := tab) 1 rfl rfl ?_
  refine po_nil ?_
  refine pn_seq ?_
  refine pw_seq ?_
  refine pw_seq ?_
  refine pw_region ?_
  refine po_evs (T := tab) 1 rfl rfl ?_
  refine po_len (T := tab) cAttr s1 rfl rfl rfl rfl rfl rfl rfl rfl ?_
  refine po_evs (T := tab) 1 rfl rfl ?_
  refine po_nil ?_
  refine pn_seq ?_
  refine pw_block ?_
  refine pw_loop' (Slices_IndexFunc_apiAttr_l1 (fun (z1 : Attr) => Attr_Right_1_m fu z1) s1) (fun (t2 : Int) => [(0, .sl 2 false (s1.map cAttr)), (1, .fn (.func 114) [] []), (7, .v (.int .i64 ((s1.length : Nat) : Int))), (8, .v (.int .i64 t2))]) (fun (t2 : Int) => []) fu 0 (fun _ => rfl) ⟨rfl, rfl, rfl, rfl, trivial⟩ trivial rfl ?_
  rintro k1 t2
  refine pw_seq ?_
  refine pw_region ?_
  refine po_evs (T := tab) 1 rfl rfl ?_
  refine po_nil ?_
  refine pn_seq ?_
  refine pw_seq ?_
  refine pw_cnd rfl ?_ ?_
  · refine pw_skip ?_
    refine pn_seq ?_
    refine pw_seq ?_
    refine pw_block ?_
    refine pw_seq ?_
    refine pw_region ?_
    refine po_evs (T := tab) 2 rfl rfl ?_
    refine po_nil ?_
    refine pn_seq ?_
    refine pw_seq ?_
    refine pw_region ?_
    refine po_evs (T := tab) 3 rfl rfl ?_
    refine po_idx (T := tab) cAttr s1 rfl rfl rfl rfl rfl rfl rfl fun y3 hy3 => ?_
    refine po_evs (T := tab) 1 rfl rfl ?_
    refine po_callv (enc := fun (r4 : Bool) => .v (.bool r4)) (first := []) (cap := []) (qs := [.agg (cAttr y3)]) (Sc := []) (Attr_Right_1_ok fu y3) (subS_of trivial rfl) rfl rfl rfl rfl ⟨⟨_, rfl, .rfl⟩, trivial⟩ (fun _ => rfl) call114 rfl rfl fun r4 hr4 => ?_
    refine po_nil ?_
    refine pn_seq ?_
    refine pw_cnd rfl ?_ ?_
    · refine pw_seq ?_
      refine pw_region ?_
      refine po_evs (T := tab) 2 rfl rfl ?_
      refine po_nil ?_
      refine pn_seq ?_
      exact pw_retN (T := tab) rfl rfl rfl ⟨rfl, rfl⟩ trivial rfl
    · refine pw_skip ?_
      refine pn_block ?_
      refine pn_seq ?_
      refine pw_region ?_
      refine po_arith' (T := tab) rfl rfl rfl rfl fun i5 hi5 => ?_
      refine po_evs (T := tab) 1 rfl rfl ?_
      refine po_nil ?_
      exact pn_iter' i5 ⟨rfl, rfl, rfl, rfl, trivial⟩ trivial rfl
  · refine pw_exit rfl ?_
    refine pn_seq ?_
    refine pw_seq ?_
    refine pw_region ?_
    refine po_evs (T := tab) 1 rfl rfl ?_
    refine po_nil ?_
    refine pn_seq ?_
    exact pw_retN (T := tab) rfl rfl rfl ⟨rfl, rfl⟩ trivial rfl

def Slices_ContainsFunc_apiAttr_m (fu : Nat) (t1 : Attr → Option Bool) (s1 : (List Attr)) : Option Bool := bnd (Slices_IndexFunc_apiAttr_m fu t1 s1) fun r2 => some (decide (r2 ≥ 0))

set_option maxRecDepth 100000 in
theorem Slices_ContainsFunc_apiAttr_ok (fu : Nat) (s1 : (List Attr)) : ∀ r, Slices_ContainsFunc_apiAttr_m fu (fun (z1 : Attr) => Attr_Right_1_m fu z1) s1 = some r → DC Try.prog 115 [.sl 2 false (s1.map cAttr), .fn (.func 114) [] []] (.v (.bool r)) := by
  intro r hr
  refine fc_intro (args := [.sl 2 false (s1.map cAttr), .fn (.func 114) [] []]) (S := []) (N0 := []) (post := fun r p S => p = .v (.bool r) ∧ S = []) Try.func115 rfl rfl hr fun w0 X X0 σ0 => ?_
  refine pw_seq ?_
  refine pw_region ?_
  refine po_evs (T := tab) 1 rfl rfl ?_
  refine po_nil ?_
  refine pn_seq ?_
  refine pw_seq ?_
  refine pw_region ?_
  refine po_evs (T := tab) 2 rfl rfl ?_
  refine po_call (enc := fun (r2 : Int) => .v (.int .i64 r2)) (qs := [.sl 2 false (s1.map cAttr), .fn (.func 114) [] []]) (Slices_IndexFunc_apiAttr_ok fu s1) rfl rfl ⟨⟨_, rfl, .rfl⟩, ⟨_, rfl, .rfl⟩, trivial⟩ (fun _ => rfl) call122 rfl rfl fun r2 hr2 => ?_
  refine po_evs (T := tab) 2 rfl rfl ?_
  refine po_nil ?_
  refine pn_seq ?_
  exact pw_retN (T := tab) rfl rfl rfl ⟨rfl, rfl⟩ trivial rfl

def Attr_table_l1 (l1 : (List Attr)) : Nat → Int × (List (Bs × Attr)) → Option (List (Bs × Attr))
  | 0, _ => none
  | k1 + 1, (t2, l3) => cnd (decide (t2 < ((l1.length : Nat) : Int))) (bnd (idx l1 t2) fun y4 => bnd (rng .i64 (t2 + 1)) fun i5 => (Attr_table_l1 l1 k1) (i5, (mput l3 y4.Name y4))) (some l3)

def Attr_table_m (fu : Nat) (l1 : (List Attr)) : Option (List (Bs × Attr)) := (Attr_table_l1 l1) fu (0, ([] : (List (Bs × Attr))))

set_option maxHeartbeats 10000000 in
set_option maxRecDepth 100000 in
theorem Attr_table_ok (fu : Nat) (l1 : (List Attr)) : ∀ r, Attr_table_m fu l1 = some r → FC Try.prog 116 [.sl 2 false (l1.map cAttr)] [] [] fun p S' => p = .own 6 ∧ S' = [(6, .mp (r.map fun p => (keyS p.1, .agg (cAttr p.2))))] := by
  intro r hr
  refine fc_intro (args := [.sl 2 false (l1.map cAttr)]) (S := []) (N0 := []) (post := fun r p S => p = .own 6 ∧ S = [(6, .mp (r.map fun p => (keyS p.1, .agg (cAttr p.2))))]) Try.func116 rfl rfl hr fun w0 X X0 σ0 => ?_
  refine pw_seq ?_
  refine pw_region ?_
  refine po_evs (T := tab) 1 rfl rfl ?_
  refine po_nil ?_
  refine pn_seq ?_
  refine pw_seq ?_
  refine pw_region ?_
  refine po_makeMap 6 rfl rfl rfl rfl rfl rfl rfl ?_
  refine po_evs (T := tab) 1 rfl rfl ?_
  refine po_nil ?_
  refine pn_seq ?_
  refine pw_seq ?_
  refine pw_seq ?_
  refine pw_region ?_
  refine po_evs (T := tab) 1 rfl rfl ?_
  refine po_len (T := tab) cAttr l1 rfl rfl rfl rfl rfl rfl rfl rfl ?_
  refine po_evs (T := tab) 1 rfl rfl ?_
  refine po_nil ?_
  refine pn_seq ?_
  refine pw_block ?_
  refine pw_loop' (Attr_table_l1 l1) (fun ((t2, l3) : Int × (List (Bs × Attr))) => [(3, .own 6), (7, .sl 2 false (l1.map cAttr)), (8, .v (.int .i64 ((l1.length : Nat) : Int))), (9, .v (.int .i64 t2))]) (fun ((t2, l3) : Int × (List (Bs × Attr))) => [(6, .mp (l3.map fun p => (keyS p.1, .agg (cAttr p.2))))]) fu (0, ([] : (List (Bs × Attr)))) (fun _ => rfl) ⟨rfl, rfl, rfl, rfl, trivial⟩ ⟨rfl, trivial⟩ rfl ?_
  rintro k1 ⟨t2, l3⟩
  refine pw_seq ?_
  refine pw_region ?_
  refine po_evs (T := tab) 1 rfl rfl ?_
  refine po_nil ?_
  refine pn_seq ?_
  refine pw_seq ?_
  refine pw_cnd rfl ?_ ?_
  · refine pw_skip ?_
    refine pn_seq ?_
    refine pw_seq ?_
    refine pw_block ?_
    refine pw_seq ?_
    refine pw_region ?_
    refine po_idx (T := tab) cAttr l1 rfl rfl rfl rfl rfl rfl rfl fun y4 hy4 => ?_
    refine po_evs (T := tab) 1 rfl rfl ?_
    refine po_alloc (T := tab) 5 rfl rfl rfl rfl rfl rfl rfl rfl rfl ?_
    refine po_store (T := tab) rfl rfl rfl rfl rfl rfl rfl rfl rfl rfl rfl rfl ?_
    refine po_nil ?_
    refine pn_seq ?_
    refine pw_region ?_
    refine po_evs (T := tab) 4 rfl rfl ?_
    refine po_mapUpdate keyS_enc (fun v => .agg (cAttr v)) l3 y4.Name y4 Try.underlying101 Try.underlying9 rfl rfl rfl rfl rfl rfl rfl rfl rfl ?_
    refine po_nil ?_
    refine pn_block ?_
    refine pn_seq ?_
    refine pw_region ?_
    refine po_arith' (T := tab) rfl rfl rfl rfl fun i5 hi5 => ?_
    refine po_evs (T := tab) 1 rfl rfl ?_
    refine po_nil ?_
    exact pn_iter' (i5, (mput l3 y4.Name y4)) ⟨rfl, rfl, rfl, rfl, trivial⟩ ⟨rfl, trivial⟩ rfl
  · refine pw_exit rfl ?_
    refine pn_seq ?_
    refine pw_seq ?_
    refine pw_region ?_
    refine po_evs (T := tab) 2 rfl rfl ?_
    refine po_nil ?_
    refine pn_seq ?_
    exact pw_retN (T := tab) rfl rfl rfl ⟨rfl, rfl⟩ ⟨rfl, trivial⟩ rfl

def Attr_Right_m (fu : Nat) (l1 : (List Attr)) : Option Bool := cnd (decide (((l1.length : Nat) : Int) ≤ 40)) (bnd (Slices_ContainsFunc_apiAttr_m fu (fun (z1 : Attr) => Attr_Right_1_m fu z1) l1) fun r2 => cnd (!r2) (bnd (Attr_table_m fu l1) fun r3 => some (((r3.length : Nat) : Int) == ((l1.length : Nat) : Int))) (some false)) (some false)

set_option maxRecDepth 100000 in
theorem Attr_Right_ok (fu : Nat) (l1 : (List Attr)) : ∀ r, Attr_Right_m fu l1 = some r → DC Try.prog 92 [.sl 2 false (l1.map cAttr)] (.v (.bool r)) := by
  intro r hr
  refine fc_intro (args := [.sl 2 false (l1.map cAttr)]) (S := []) (N0 := []) (post := fun r p S => p = .v (.bool r) ∧ S = []) Try.func92 rfl rfl hr fun w0 X X0 σ0 => ?_
  refine pw_seq ?_
  refine pw_region ?_
  refine po_evs (T := tab) 1 rfl rfl ?_
  refine po_nil ?_
  refine pn_seq ?_
  refine pw_seq ?_
  refine pw_region ?_
  refine po_evs (T := tab) 1 rfl rfl ?_
  refine po_nil ?_
  refine pn_seq ?_
  refine pw_seq ?_
  refine pw_region ?_
  refine po_evs (T := tab) 1 rfl rfl ?_
  refine po_len (T := tab) cAttr l1 rfl rfl rfl rfl rfl rfl rfl rfl ?_
  refine po_evs (T := tab) 2 rfl rfl ?_
  refine po_split (j := 7) rfl ?_ ?_
  · refine po_evs (T := tab) 2 rfl rfl ?_
    refine po_call (enc := fun (r2 : Bool) => .v (.bool r2)) (qs := [.sl 2 false (l1.map cAttr), .fn (.func 114) [] []]) (Slices_ContainsFunc_apiAttr_ok fu l1) rfl rfl ⟨⟨_, rfl, .rfl⟩, ⟨_, rfl, .rfl⟩, trivial⟩ (fun _ => rfl) call115 rfl rfl fun r2 hr2 => ?_
    refine po_evs (T := tab) 3 rfl rfl ?_
    refine po_split (j := 13) rfl ?_ ?_
    · refine po_evs (T := tab) 1 rfl rfl ?_
      refine po_turn [2150] (enc := fun (r3 : (List (Bs × Attr))) => .own 2150) (Sr := fun (r3 : (List (Bs × Attr))) => [(2150, .mp (r3.map fun p => (keyS p.1, .agg (cAttr p.2))))]) (first := []) (cap := []) (qs := [.sl 2 false (l1.map cAttr)]) (Sc := []) (N0 := []) (NR := [2150]) (fun r3 hr3 => fc_ren [(6, 2150)] [6] (Attr_table_ok fu l1 _ hr3) rfl rfl rfl rfl rfl rfl) trivial (fun _ => rfl) rfl rfl rfl rfl rfl rfl rfl (fun _ => rfl) (fun _ => rfl) rfl rfl rfl ⟨⟨_, rfl, .rfl⟩, trivial⟩ call116 rfl rfl fun r3 hr3 => ?_
      refine po_len_map (keyS) (fun v => .agg (cAttr v)) r3 Try.underlying101 rfl rfl rfl rfl rfl rfl rfl rfl ?_
      refine po_evs (T := tab) 1 rfl rfl ?_
      refine po_len (T := tab) cAttr l1 rfl rfl rfl rfl rfl rfl rfl rfl ?_
      refine po_evs (T := tab) 3 rfl rfl ?_
      refine po_nil ?_
      refine pn_seq ?_
      exact pw_retN (T := tab) rfl rfl rfl ⟨rfl, rfl⟩ trivial rfl
    · refine po_evs (T := tab) 8 rfl rfl ?_
      refine po_nil ?_
      refine pn_seq ?_
      exact pw_retN (T := tab) rfl rfl rfl ⟨rfl, rfl⟩ trivial rfl
  · refine po_evs (T := tab) 14 rfl rfl ?_
    refine po_nil ?_
    refine pn_seq ?_
    exact pw_retN (T := tab) rfl rfl rfl ⟨rfl, rfl⟩ trivial rfl

set_option maxHeartbeats 10000000 in
set_option maxRecDepth 100000 in
theorem Strings_indexFunc_i2_ok (fu : Nat) (s1 : Bs) (truth2 : Bool) : ∀ r, Strings_indexFunc_m fu (fun (z1 : Int) => Name_capital_m fu z1) s1 truth2 = some r → DC Try.prog 123 [.v (.string ⟨⟨s1⟩⟩), .fn (.func 101) [] [], .v (.bool truth2)] (.v (.int .i64 r)) := by
  intro r hr
  refine fc_intro (args := [.v (.string ⟨⟨s1⟩⟩), .fn (.func 101) [] [], .v (.bool truth2)]) (S := []) (N0 := []) (post := fun r p S => p = .v (.int .i64 r) ∧ S = []) Try.func123 rfl rfl hr fun w0 X X0 σ0 => ?_
  refine pw_seq ?_
  refine pw_region ?_
  refine po_evs (T := tab) 1 rfl rfl ?_
  refine po_nil ?_
  refine pn_seq ?_
  refine pw_seq ?_
  refine pw_seq ?_
  refine pw_region ?_
  refine po_evs (T := tab) 1 rfl rfl ?_
  refine po_range (T := tab) 10 rfl rfl rfl rfl rfl rfl rfl rfl rfl ?_
  refine po_nil ?_
  refine pn_seq ?_
  refine pw_block ?_
  refine pw_loop' (Strings_indexFunc_l1 (fun (z1 : Int) => Name_capital_m fu z1) s1 truth2) (fun (p3 : Nat) => [(1, .fn (.func 101) [] []), (2, .v (.bool truth2)), (10, .loc 10 0)]) (fun (p3 : Nat) => [(10, .siter ⟨⟨s1⟩⟩ p3)]) fu 0 (fun _ => rfl) ⟨rfl, rfl, rfl, trivial⟩ ⟨rfl, trivial⟩ rfl ?_
  rintro k1 p3
  refine pw_seq ?_
  refine pw_region ?_
  refine po_next 10 rfl rfl rfl rfl rfl rfl rfl ?_ ?_
  · refine po_evs (T := tab) 1 rfl rfl ?_
    refine po_nil ?_
    refine pn_seq ?_
    refine pw_seq ?_
    refine pw_then rfl ?_
    refine pw_skip ?_
    refine pn_seq ?_
    refine pw_block ?_
    refine pw_seq ?_
    refine pw_region ?_
    refine po_evs (T := tab) 4 rfl rfl ?_
    refine po_nil ?_
    refine pn_seq ?_
    refine pw_seq ?_
    refine pw_region ?_
    refine po_evs (T := tab) 2 rfl rfl ?_
    refine po_callv (enc := fun (r4 : Bool) => .v (.bool r4)) (first := []) (cap := []) (qs := [.v (.int .i32 (decRune s1 p3))]) (Sc := []) (Name_capital_ok fu (decRune s1 p3)) (subS_of trivial rfl) rfl rfl rfl rfl ⟨⟨_, rfl, .rfl⟩, trivial⟩ (fun _ => rfl) call101 rfl rfl fun r4 hr4 => ?_
    refine po_evs (T := tab) 2 rfl rfl ?_
    refine po_nil ?_
    refine pn_seq ?_
    refine pw_cnd rfl ?_ ?_
    · refine pw_seq ?_
      refine pw_region ?_
      refine po_evs (T := tab) 2 rfl rfl ?_
      refine po_nil ?_
      refine pn_seq ?_
      exact pw_retN (T := tab) rfl rfl rfl ⟨rfl, rfl⟩ trivial rfl
    · refine pw_skip ?_
      refine pn_block ?_
      exact pn_iter' (p3 + decSize s1 p3) ⟨rfl, rfl, rfl, trivial⟩ ⟨rfl, trivial⟩ rfl
  · refine po_evs (T := tab) 1 rfl rfl ?_
    refine po_nil ?_
    refine pn_seq ?_
    refine pw_seq ?_
    refine pw_else rfl ?_
    refine pw_exit rfl ?_
    refine pn_seq ?_
    refine pw_seq ?_
    refine pw_region ?_
    refine po_evs (T := tab) 1 rfl rfl ?_
    refine po_nil ?_
    refine pn_seq ?_
    exact pw_retN (T := tab) rfl rfl rfl ⟨rfl, rfl⟩ trivial rfl

set_option maxRecDepth 100000 in
theorem Strings_IndexFunc_i2_ok (fu : Nat) (s1 : Bs) : ∀ r, Strings_IndexFunc_m fu (fun (z1 : Int) => Name_capital_m fu z1) s1 = some r → DC Try.prog 119 [.v (.string ⟨⟨s1⟩⟩), .fn (.func 101) [] []] (.v (.int .i64 r)) := by
  intro r hr
  refine fc_intro (args := [.v (.string ⟨⟨s1⟩⟩), .fn (.func 101) [] []]) (S := []) (N0 := []) (post := fun r p S => p = .v (.int .i64 r) ∧ S = []) Try.func119 rfl rfl hr fun w0 X X0 σ0 => ?_
  refine pw_seq ?_
  refine pw_region ?_
  refine po_evs (T := tab) 1 rfl rfl ?_
  refine po_nil ?_
  refine pn_seq ?_
  refine pw_seq ?_
  refine pw_region ?_
  refine po_evs (T := tab) 2 rfl rfl ?_
  refine po_call (enc := fun (r2 : Int) => .v (.int .i64 r2)) (qs := [.v (.string ⟨⟨s1⟩⟩), .fn (.func 101) [] [], .v (.bool true)]) (Strings_indexFunc_i2_ok fu s1 true) rfl rfl ⟨⟨_, rfl, .rfl⟩, ⟨_, rfl, .rfl⟩, ⟨_, rfl, .rfl⟩, trivial⟩ (fun _ => rfl) call123 rfl rfl fun r2 hr2 => ?_
  refine po_evs (T := tab) 1 rfl rfl ?_
  refine po_nil ?_
  refine pn_seq ?_
  exact pw_retN (T := tab) rfl rfl rfl ⟨rfl, rfl⟩ trivial rfl

set_option maxRecDepth 100000 in
theorem Strings_ContainsFunc_i2_ok (fu : Nat) (s1 : Bs) : ∀ r, Strings_ContainsFunc_m fu (fun (z1 : Int) => Name_capital_m fu z1) s1 = some r → DC Try.prog 100 [.v (.string ⟨⟨s1⟩⟩), .fn (.func 101) [] []] (.v (.bool r)) := by
  intro r hr
  refine fc_intro (args := [.v (.string ⟨⟨s1⟩⟩), .fn (.func 101) [] []]) (S := []) (N0 := []) (post := fun r p S => p = .v (.bool r) ∧ S = []) Try.func100 rfl rfl hr fun w0 X X0 σ0 => ?_
  refine pw_seq ?_
  refine pw_region ?_
  refine po_evs (T := tab) 1 rfl rfl ?_
  refine po_nil ?_
  refine pn_seq ?_
  refine pw_seq ?_
  refine pw_region ?_
  refine po_evs (T := tab) 2 rfl rfl ?_
  refine po_call (enc := fun (r2 : Int) => .v (.int .i64 r2)) (qs := [.v (.string ⟨⟨s1⟩⟩), .fn (.func 101) [] []]) (Strings_IndexFunc_i2_ok fu s1) rfl rfl ⟨⟨_, rfl, .rfl⟩, ⟨_, rfl, .rfl⟩, trivial⟩ (fun _ => rfl) call119 rfl rfl fun r2 hr2 => ?_
  refine po_evs (T := tab) 2 rfl rfl ?_
  refine po_nil ?_
  refine pn_seq ?_
  exact pw_retN (T := tab) rfl rfl rfl ⟨rfl, rfl⟩ trivial rfl

def Name_reserved_m (_fu : Nat) : Option (List Bs) := some [[97, 110, 110, 111, 116, 97, 116, 105, 111, 110, 45, 120, 109, 108], [99, 111, 108, 111, 114, 45, 112, 114, 111, 102, 105, 108, 101], [102, 111, 110, 116, 45, 102, 97, 99, 101], [102, 111, 110, 116, 45, 102, 97, 99, 101, 45, 115, 114, 99], [102, 111, 110, 116, 45, 102, 97, 99, 101, 45, 117, 114, 105], [102, 111, 110, 116, 45, 102, 97, 99, 101, 45, 102, 111, 114, 109, 97, 116], [102, 111, 110, 116, 45, 102, 97, 99, 101, 45, 110, 97, 109, 101], [109, 105, 115, 115, 105, 110, 103, 45, 103, 108, 121, 112, 104]]

set_option maxRecDepth 100000 in
theorem Name_reserved_ok (fu : Nat) : ∀ r, Name_reserved_m fu = some r → DC Try.prog 103 [] (.sl 1 false (r.map cStr)) := by
  intro r hr
  refine fc_intro (args := []) (S := []) (N0 := []) (post := fun r p S => p = .sl 1 false (r.map cStr) ∧ S = []) Try.func103 rfl rfl hr fun w0 X X0 σ0 => ?_
  refine pw_seq ?_
  refine pw_region ?_
  refine po_evs (T := tab) 1 rfl rfl ?_
  refine po_nil ?_
  refine pn_seq ?_
  refine pw_seq ?_
  refine pw_region ?_
  refine po_lit (T := tab) (rows := [[97, 110, 110, 111, 116, 97, 116, 105, 111, 110, 45, 120, 109, 108], [99, 111, 108, 111, 114, 45, 112, 114, 111, 102, 105, 108, 101], [102, 111, 110, 116, 45, 102, 97, 99, 101], [102, 111, 110, 116, 45, 102, 97, 99, 101, 45, 115, 114, 99], [102, 111, 110, 116, 45, 102, 97, 99, 101, 45, 117, 114, 105], [102, 111, 110, 116, 45, 102, 97, 99, 101, 45, 102, 111, 114, 109, 97, 116], [102, 111, 110, 116, 45, 102, 97, 99, 101, 45, 110, 97, 109, 101], [109, 105, 115, 115, 105, 110, 103, 45, 103, 108, 121, 112, 104]].map cStr) 1 rfl rfl rfl rfl rfl rfl rfl rfl rfl rfl rfl rfl rfl rfl ?_
  refine po_evs (T := tab) 1 rfl rfl ?_
  refine po_nil ?_
  refine pn_seq ?_
  refine pw_freeze 1 rfl rfl rfl ?_
  exact pw_retN (T := tab) rfl rfl rfl ⟨rfl, rfl⟩ trivial rfl

def Slices_Index_string_l1 (s1 : (List Bs)) (v2 : Bs) : Nat → Int → Option Int
  | 0, _ => none
  | k1 + 1, t3 => cnd (decide (t3 < ((s1.length : Nat) : Int))) (bnd (idx s1 t3) fun y4 => cnd (v2 == y4) (some t3) (bnd (rng .i64 (t3 + 1)) fun i5 => (Slices_Index_string_l1 s1 v2 k1) i5)) (some (-1))

def Slices_Index_string_m (fu : Nat) (s1 : (List Bs)) (v2 : Bs) : Option Int := (Slices_Index_string_l1 s1 v2) fu 0

set_option maxHeartbeats 10000000 in
set_option maxRecDepth 100000 in
theorem Slices_Index_string_ok (fu : Nat) (s1 : (List Bs)) (v2 : Bs) : ∀ r, Slices_Index_string_m fu s1 v2 = some r → DC Try.prog 104 [.sl 1 false (s1.map cStr), .v (.string ⟨⟨v2⟩⟩)] (.v (.int .i64 r)) := by
  intro r hr
  refine fc_intro (args := [.sl 1 false (s1.map cStr), .v (.string ⟨⟨v2⟩⟩)]) (S := []) (N0 := []) (post := fun r p S => p = .v (.int .i64 r) ∧ S = []) Try.func104 rfl rfl hr fun w0 X X0 σ0 => ?_
  refine pw_seq ?_
  refine pw_region ?_
  refine po_evs (T := tab) 1 rfl rfl ?_
  refine po_nil ?_
  refine pn_seq ?_
  refine pw_seq ?_
  refine pw_seq ?_
  refine pw_region ?_
  refine po_evs (T := tab) 1 rfl rfl ?_
  refine po_len (T := tab) cStr s1 rfl rfl rfl rfl rfl rfl rfl rfl ?_
  refine po_evs (T := tab) 1 rfl rfl ?_
  refine po_nil ?_
  refine pn_seq ?_
  refine pw_block ?_
  refine pw_loop' (Slices_Index_string_l1 s1 v2) (fun (t3 : Int) => [(0, .sl 1 false (s1.map cStr)), (1, .v (.string ⟨⟨v2⟩⟩)), (7, .v (.int .i64 ((s1.length : Nat) : Int))), (8, .v (.int .i64 t3))]) (fun (t3 : Int) => []) fu 0 (fun _ => rfl) ⟨rfl, rfl, rfl, rfl, trivial⟩ trivial rfl ?_
  rintro k1 t3
  refine pw_seq ?_
  refine pw_region ?_
  refine po_evs (T := tab) 1 rfl rfl ?_
  refine po_nil ?_
  refine pn_seq ?_
  refine pw_seq ?_
  refine pw_cnd rfl ?_ ?_
  · refine pw_skip ?_
    refine pn_seq ?_
    refine pw_seq ?_
    refine pw_block ?_
    refine pw_seq ?_
    refine pw_region ?_
    refine po_evs (T := tab) 2 rfl rfl ?_
    refine po_nil ?_
    refine pn_seq ?_
    refine pw_seq ?_
    refine pw_region ?_
    refine po_evs (T := tab) 3 rfl rfl ?_
    refine po_idx (T := tab) cStr s1 rfl rfl rfl rfl rfl rfl rfl fun y4 hy4 => ?_
    refine po_evs (T := tab) 2 rfl rfl ?_
    refine po_nil ?_
    refine pn_seq ?_
    refine pw_cnd rfl ?_ ?_
    · refine pw_seq ?_
      refine pw_region ?_
      refine po_evs (T := tab) 2 rfl rfl ?_
      refine po_nil ?_
      refine pn_seq ?_
      exact pw_retN (T := tab) rfl rfl rfl ⟨rfl, rfl⟩ trivial rfl
    · refine pw_skip ?_
      refine pn_block ?_
      refine pn_seq ?_
      refine pw_region ?_
      refine po_arith' (T := tab) rfl rfl rfl rfl fun i5 hi5 => ?_
      refine po_evs (T := tab) 1 rfl rfl ?_
      refine po_nil ?_
      exact pn_iter' i5 ⟨rfl, rfl, rfl, rfl, trivial⟩ trivial rfl
  · refine pw_exit rfl ?_
    refine pn_seq ?_
    refine pw_seq ?_
    refine pw_region ?_
    refine po_evs (T := tab) 1 rfl rfl ?_
    refine po_nil ?_
    refine pn_seq ?_
    exact pw_retN (T := tab) rfl rfl rfl ⟨rfl, rfl⟩ trivial rfl

def Slices_Contains_string_m (fu : Nat) (s1 : (List Bs)) (v2 : Bs) : Option Bool := bnd (Slices_Index_string_m fu s1 v2) fun r3 => some (decide (r3 ≥ 0))

set_option maxRecDepth 100000 in
theorem Slices_Contains_string_ok (fu : Nat) (s1 : (List Bs)) (v2 : Bs) : ∀ r, Slices_Contains_string_m fu s1 v2 = some r → DC Try.prog 71 [.sl 1 false (s1.map cStr), .v (.string ⟨⟨v2⟩⟩)] (.v (.bool r)) := by
  intro r hr
  refine fc_intro (args := [.sl 1 false (s1.map cStr), .v (.string ⟨⟨v2⟩⟩)]) (S := []) (N0 := []) (post := fun r p S => p = .v (.bool r) ∧ S = []) Try.func71 rfl rfl hr fun w0 X X0 σ0 => ?_
  refine pw_seq ?_
  refine pw_region ?_
  refine po_evs (T := tab) 1 rfl rfl ?_
  refine po_nil ?_
  refine pn_seq ?_
  refine pw_seq ?_
  refine pw_region ?_
  refine po_evs (T := tab) 2 rfl rfl ?_
  refine po_call (enc := fun (r3 : Int) => .v (.int .i64 r3)) (qs := [.sl 1 false (s1.map cStr), .v (.string ⟨⟨v2⟩⟩)]) (Slices_Index_string_ok fu s1 v2) rfl rfl ⟨⟨_, rfl, .rfl⟩, ⟨_, rfl, .rfl⟩, trivial⟩ (fun _ => rfl) call104 rfl rfl fun r3 hr3 => ?_
  refine po_evs (T := tab) 2 rfl rfl ?_
  refine po_nil ?_
  refine pn_seq ?_
  exact pw_retN (T := tab) rfl rfl rfl ⟨rfl, rfl⟩ trivial rfl

def Name_Custom_m (fu : Nat) (s1 : Bs) : Option Bool := bnd (Name_Right_m fu s1) fun r2 => cnd r2 (bnd (chr s1 0) fun b3 => bnd (rng .i32 b3) fun i4 => bnd (Name_small_m fu i4) fun r5 => cnd r5 (bnd (Strings_ContainsFunc_m fu (fun (z1 : Int) => Name_capital_m fu z1) s1) fun r6 => cnd (!r6) (bnd (hasByte_m fu s1 45) fun r7 => cnd r7 (bnd (Name_reserved_m fu) fun r8 => bnd (Slices_Contains_string_m fu r8 s1) fun r9 => some (!r9)) (some false)) (some false)) (some false)) (some false)

set_option maxHeartbeats 10000000 in
set_option maxRecDepth 100000 in
theorem Name_Custom_ok (fu : Nat) (s1 : Bs) : ∀ r, Name_Custom_m fu s1 = some r → DC Try.prog 70 [.v (.string ⟨⟨s1⟩⟩)] (.v (.bool r)) := by
  intro r hr
  refine fc_intro (args := [.v (.string ⟨⟨s1⟩⟩)]) (S := []) (N0 := []) (post := fun r p S => p = .v (.bool r) ∧ S = []) Try.func70 rfl rfl hr fun w0 X X0 σ0 => ?_
  refine pw_seq ?_
  refine pw_region ?_
  refine po_evs (T := tab) 1 rfl rfl ?_
  refine po_nil ?_
  refine pn_seq ?_
  refine pw_seq ?_
  refine pw_region ?_
  refine po_evs (T := tab) 1 rfl rfl ?_
  refine po_call (enc := fun (r2 : Bool) => .v (.bool r2)) (qs := [.v (.string ⟨⟨s1⟩⟩)]) (Name_Right_ok fu s1) rfl rfl ⟨⟨_, rfl, .rfl⟩, trivial⟩ (fun _ => rfl) call98 rfl rfl fun r2 hr2 => ?_
  refine po_evs (T := tab) 1 rfl rfl ?_
  refine po_split (j := 5) rfl ?_ ?_
  · refine po_evs (T := tab) 1 rfl rfl ?_
    refine po_chr (T := tab) (s := s1) rfl rfl rfl rfl rfl rfl rfl fun b3 hb3 => ?_
    refine po_arith' (T := tab) rfl rfl rfl rfl fun i4 hi4 => ?_
    refine po_call (enc := fun (r5 : Bool) => .v (.bool r5)) (qs := [.v (.int .i32 i4)]) (Name_small_ok fu i4) rfl rfl ⟨⟨_, rfl, .rfl⟩, trivial⟩ (fun _ => rfl) call99 rfl rfl fun r5 hr5 => ?_
    refine po_evs (T := tab) 2 rfl rfl ?_
    refine po_split (j := 11) rfl ?_ ?_
    · refine po_evs (T := tab) 1 rfl rfl ?_
      refine po_call (enc := fun (r6 : Bool) => .v (.bool r6)) (qs := [.v (.string ⟨⟨s1⟩⟩), .fn (.func 101) [] []]) (Strings_ContainsFunc_i2_ok fu s1) rfl rfl ⟨⟨_, rfl, .rfl⟩, ⟨_, rfl, .rfl⟩, trivial⟩ (fun _ => rfl) call100 rfl rfl fun r6 hr6 => ?_
      refine po_evs (T := tab) 3 rfl rfl ?_
      refine po_split (j := 16) rfl ?_ ?_
      · refine po_evs (T := tab) 1 rfl rfl ?_
        refine po_call (enc := fun r => .v (.bool r)) (qs := [.v (.string ⟨⟨s1⟩⟩), .v (.string ⟨⟨[45]⟩⟩)]) (hasByte_ok fu s1 45) rfl rfl ⟨⟨_, rfl, .rfl⟩, ⟨_, rfl, .rfl⟩, trivial⟩ (fun _ => rfl) call102 rfl rfl fun r7 hr7 => ?_
        refine po_evs (T := tab) 2 rfl rfl ?_
        refine po_split (j := 20) rfl ?_ ?_
        · refine po_call (enc := fun (r8 : (List Bs)) => .sl 1 false (r8.map cStr)) (qs := []) (Name_reserved_ok fu) rfl rfl trivial (fun _ => rfl) call103 rfl rfl fun r8 hr8 => ?_
          refine po_evs (T := tab) 1 rfl rfl ?_
          refine po_call (enc := fun (r9 : Bool) => .v (.bool r9)) (qs := [.sl 1 false (r8.map cStr), .v (.string ⟨⟨s1⟩⟩)]) (Slices_Contains_string_ok fu r8 s1) rfl rfl ⟨⟨_, rfl, .rfl⟩, ⟨_, rfl, .rfl⟩, trivial⟩ (fun _ => rfl) call71 rfl rfl fun r9 hr9 => ?_
          refine po_evs (T := tab) 3 rfl rfl ?_
          refine po_nil ?_
          refine pn_seq ?_
          exact pw_retN (T := tab) rfl rfl rfl ⟨rfl, rfl⟩ trivial rfl
        · refine po_evs (T := tab) 6 rfl rfl ?_
          refine po_nil ?_
          refine pn_seq ?_
          exact pw_retN (T := tab) rfl rfl rfl ⟨rfl, rfl⟩ trivial rfl
      · refine po_evs (T := tab) 10 rfl rfl ?_
        refine po_nil ?_
        refine pn_seq ?_
        exact pw_retN (T := tab) rfl rfl rfl ⟨rfl, rfl⟩ trivial rfl
    · refine po_evs (T := tab) 15 rfl rfl ?_
      refine po_nil ?_
      refine pn_seq ?_
      exact pw_retN (T := tab) rfl rfl rfl ⟨rfl, rfl⟩ trivial rfl
  · refine po_evs (T := tab) 21 rfl rfl ?_
    refine po_nil ?_
    refine pn_seq ?_
    exact pw_retN (T := tab) rfl rfl rfl ⟨rfl, rfl⟩ trivial rfl

def Forest_named_j1 (x1 : Node) (c6 : Bs) : Option Bool := cnd (x1.Name == ([] : Bs)) (cnd (x1.Is == ([] : Bs)) (cnd (c6 == ([] : Bs)) (some (((x1.Attrs.length : Nat) : Int) == 0)) (some false)) (some false)) (some false)

def Forest_named_m (fu : Nat) (x1 : Node) : Option Bool := cnd (x1.Kind == 1) (bnd (Name_Fit_m fu x1.Name) fun r2 => cnd (r2.2 == 0) (cnd (r2.1 == x1.Name) (cnd (x1.Is == ([] : Bs)) (cnd (x1.Data == ([] : Bs)) (bnd (Attr_Right_m fu x1.Attrs) fun r3 => some r3) (some false)) (bnd (Name_Custom_m fu x1.Is) fun r4 => cnd r4 (cnd (x1.Data == ([] : Bs)) (bnd (Attr_Right_m fu x1.Attrs) fun r5 => some r5) (some false)) (some false))) (some false)) (some false)) (cnd (x1.Kind == 2) (cnd (decide (((x1.Data.length : Nat) : Int) > 200)) (some false) ((Forest_named_j1 x1) [])) (cnd (x1.Kind == 0) (cnd (x1.Kind == 0) ((Forest_named_j1 x1) x1.Data) (some false)) (cnd (x1.Kind == 3) (cnd (x1.Kind == 3) ((Forest_named_j1 x1) x1.Data) (some false)) (cnd (x1.Kind == 4) ((Forest_named_j1 x1) x1.Data) (some false)))))

set_option maxHeartbeats 10000000 in
set_option maxRecDepth 100000 in
theorem Forest_named_ok (fu : Nat) (x1 : Node) : ∀ r, Forest_named_m fu x1 = some r → DC Try.prog 60 [.agg (cNode x1)] (.v (.bool r)) := by
  intro r hr
  refine fc_intro (args := [.agg (cNode x1)]) (S := []) (N0 := []) (post := fun r p S => p = .v (.bool r) ∧ S = []) Try.func60 rfl rfl hr fun w0 X X0 σ0 => ?_
  refine pw_seq ?_
  refine pw_region ?_
  refine po_box  1 rfl rfl rfl rfl rfl rfl rfl rfl rfl rfl ?_
  refine po_evs (T := tab) 1 rfl rfl ?_
  refine po_nil ?_
  refine pn_seq ?_
  refine pw_seq ?_
  refine pw_seq ?_
  refine pw_region ?_
  refine po_evs (T := tab) 2 rfl rfl ?_
  refine po_nil ?_
  refine pn_seq ?_
  refine pw_block ?_
  refine pw_seq ?_
  refine pw_joinK (Forest_named_j1 x1) (fun (c6 : Bs) => [(1, .loc 1 0)]) (fun (c6 : Bs) => [(1, .box [.v (.int .i64 x1.Kind), .v (.string ⟨⟨x1.Name⟩⟩), .v (.string ⟨⟨x1.Is⟩⟩), .v (.string ⟨⟨c6⟩⟩), .sl 2 false (x1.Attrs.map cAttr), .v (.int .i64 x1.Parent), .sl 1 false (x1.Kids.map cInt_i64), .v (.int .i64 x1.Host), .v (.int .i64 x1.Under), .v (.int .i64 x1.Doc)])]) ?_ fun hj1 => ?_
  · rintro c6
    refine pn_seq ?_
    refine pw_seq ?_
    refine pw_seq ?_
    refine pw_region ?_
    refine po_evs (T := tab) 4 rfl rfl ?_
    refine po_split (j := 57) rfl ?_ ?_
    · refine po_evs (T := tab) 5 rfl rfl ?_
      refine po_split (j := 62) rfl ?_ ?_
      · refine po_evs (T := tab) 5 rfl rfl ?_
        refine po_split (j := 67) rfl ?_ ?_
        · refine po_evs (T := tab) 2 rfl rfl ?_
          refine po_len (T := tab) cAttr x1.Attrs rfl rfl rfl rfl rfl rfl rfl rfl ?_
          refine po_evs (T := tab) 3 rfl rfl ?_
          refine po_nil ?_
          refine pn_seq ?_
          exact pw_retN (T := tab) rfl rfl rfl ⟨rfl, rfl⟩ trivial rfl
        · refine po_evs (T := tab) 6 rfl rfl ?_
          refine po_nil ?_
          refine pn_seq ?_
          exact pw_retN (T := tab) rfl rfl rfl ⟨rfl, rfl⟩ trivial rfl
      · refine po_evs (T := tab) 11 rfl rfl ?_
        refine po_nil ?_
        refine pn_seq ?_
        exact pw_retN (T := tab) rfl rfl rfl ⟨rfl, rfl⟩ trivial rfl
    · refine po_evs (T := tab) 16 rfl rfl ?_
      refine po_nil ?_
      refine pn_seq ?_
      exact pw_retN (T := tab) rfl rfl rfl ⟨rfl, rfl⟩ trivial rfl
  · refine pw_block ?_
    refine pw_seq ?_
    refine pw_block ?_
    refine pw_seq ?_
    refine pw_block ?_
    refine pw_seq ?_
    refine pw_seq ?_
    refine pw_seq ?_
    refine pw_region ?_
    refine po_evs (T := tab) 2 rfl rfl ?_
    refine po_nil ?_
    refine pn_seq ?_
    refine pw_cnd rfl ?_ ?_
    · refine pw_exit rfl ?_
      refine pn_seq ?_
      refine pw_seq ?_
      refine pw_seq ?_
      refine pw_region ?_
      refine po_evs (T := tab) 2 rfl rfl ?_
      refine po_call (enc := fun (r2 : (Bs × Int)) => .tup [.v (.string ⟨⟨r2.1⟩⟩), .v (.int .i64 r2.2)]) (qs := [.v (.string ⟨⟨x1.Name⟩⟩)]) (Name_Fit_ok fu x1.Name) rfl rfl ⟨⟨_, rfl, .rfl⟩, trivial⟩ (fun _ => rfl) call91 rfl rfl fun r2 hr2 => ?_
      refine po_evs (T := tab) 5 rfl rfl ?_
      refine po_nil ?_
      refine pn_seq ?_
      refine pw_seq ?_
      refine pw_region ?_
      refine po_evs (T := tab) 3 rfl rfl ?_
      refine po_split (j := 23) rfl ?_ ?_
      · refine po_evs (T := tab) 6 rfl rfl ?_
        refine po_split (j := 29) rfl ?_ ?_
        · refine po_evs (T := tab) 4 rfl rfl ?_
          refine po_split (j := 33) rfl ?_ ?_
          · refine po_evs (T := tab) 11 rfl rfl ?_
            refine po_split (j := 44) rfl ?_ ?_
            · refine po_evs (T := tab) 2 rfl rfl ?_
              refine po_call (enc := fun (r3 : Bool) => .v (.bool r3)) (qs := [.sl 2 false (x1.Attrs.map cAttr)]) (Attr_Right_ok fu x1.Attrs) rfl rfl ⟨⟨_, rfl, .rfl⟩, trivial⟩ (fun _ => rfl) call92 rfl rfl fun r3 hr3 => ?_
              refine po_evs (T := tab) 2 rfl rfl ?_
              refine po_nil ?_
              refine pn_seq ?_
              exact pw_retN (T := tab) rfl rfl rfl ⟨rfl, rfl⟩ trivial rfl
            · refine po_evs (T := tab) 5 rfl rfl ?_
              refine po_nil ?_
              refine pn_seq ?_
              exact pw_retN (T := tab) rfl rfl rfl ⟨rfl, rfl⟩ trivial rfl
          · refine po_evs (T := tab) 2 rfl rfl ?_
            refine po_call (enc := fun (r4 : Bool) => .v (.bool r4)) (qs := [.v (.string ⟨⟨x1.Is⟩⟩)]) (Name_Custom_ok fu x1.Is) rfl rfl ⟨⟨_, rfl, .rfl⟩, trivial⟩ (fun _ => rfl) call70 rfl rfl fun r4 hr4 => ?_
            refine po_evs (T := tab) 3 rfl rfl ?_
            refine po_split (j := 39) rfl ?_ ?_
            · refine po_evs (T := tab) 5 rfl rfl ?_
              refine po_split (j := 44) rfl ?_ ?_
              · refine po_evs (T := tab) 2 rfl rfl ?_
                refine po_call (enc := fun (r5 : Bool) => .v (.bool r5)) (qs := [.sl 2 false (x1.Attrs.map cAttr)]) (Attr_Right_ok fu x1.Attrs) rfl rfl ⟨⟨_, rfl, .rfl⟩, trivial⟩ (fun _ => rfl) call92 rfl rfl fun r5 hr5 => ?_
                refine po_evs (T := tab) 2 rfl rfl ?_
                refine po_nil ?_
                refine pn_seq ?_
                exact pw_retN (T := tab) rfl rfl rfl ⟨rfl, rfl⟩ trivial rfl
              · refine po_evs (T := tab) 5 rfl rfl ?_
                refine po_nil ?_
                refine pn_seq ?_
                exact pw_retN (T := tab) rfl rfl rfl ⟨rfl, rfl⟩ trivial rfl
            · refine po_evs (T := tab) 10 rfl rfl ?_
              refine po_nil ?_
              refine pn_seq ?_
              exact pw_retN (T := tab) rfl rfl rfl ⟨rfl, rfl⟩ trivial rfl
        · refine po_evs (T := tab) 20 rfl rfl ?_
          refine po_nil ?_
          refine pn_seq ?_
          exact pw_retN (T := tab) rfl rfl rfl ⟨rfl, rfl⟩ trivial rfl
      · refine po_evs (T := tab) 26 rfl rfl ?_
        refine po_nil ?_
        refine pn_seq ?_
        exact pw_retN (T := tab) rfl rfl rfl ⟨rfl, rfl⟩ trivial rfl
    · refine pw_skip ?_
      refine pn_seq ?_
      refine pw_seq ?_
      refine pw_seq ?_
      refine pw_region ?_
      refine po_evs (T := tab) 2 rfl rfl ?_
      refine po_nil ?_
      refine pn_seq ?_
      refine pw_cnd rfl ?_ ?_
      · refine pw_exit rfl ?_
        refine pn_seq ?_
        refine pw_seq ?_
        refine pw_seq ?_
        refine pw_region ?_
        refine po_evs (T := tab) 4 rfl rfl ?_
        refine po_nil ?_
        refine pn_seq ?_
        refine pw_cnd rfl ?_ ?_
        · refine pw_seq ?_
          refine pw_region ?_
          refine po_evs (T := tab) 1 rfl rfl ?_
          refine po_nil ?_
          refine pn_seq ?_
          exact pw_retN (T := tab) rfl rfl rfl ⟨rfl, rfl⟩ trivial rfl
        · refine pw_skip ?_
          refine pn_seq ?_
          refine pw_region ?_
          refine po_evs (T := tab) 1 rfl rfl ?_
          refine po_store (T := tab) rfl rfl rfl rfl rfl rfl rfl rfl rfl rfl rfl rfl ?_
          refine po_nil ?_
          refine pn_block ?_
          exact pn_sub' (hj1 []) ⟨rfl, trivial⟩ ⟨rfl, trivial⟩ rfl
      · refine pw_skip ?_
        refine pn_seq ?_
        refine pw_seq ?_
        refine pw_seq ?_
        refine pw_region ?_
        refine po_evs (T := tab) 2 rfl rfl ?_
        refine po_nil ?_
        refine pn_seq ?_
        refine pw_cnd rfl ?_ ?_
        · refine pw_skip ?_
          refine pn_seq ?_
          refine pw_cnd rfl ?_ ?_
          · refine pw_exit rfl ?_
            exact pn_sub' (hj1 x1.Data) ⟨rfl, trivial⟩ ⟨rfl, trivial⟩ rfl
          · refine pw_skip ?_
            refine pn_seq ?_
            refine pw_exit rfl ?_
            refine pn_seq ?_
            refine pw_seq ?_
            refine pw_region ?_
            refine po_evs (T := tab) 1 rfl rfl ?_
            refine po_nil ?_
            refine pn_seq ?_
            exact pw_retN (T := tab) rfl rfl rfl ⟨rfl, rfl⟩ trivial rfl
        · refine pw_seq ?_
          refine pw_region ?_
          refine po_evs (T := tab) 2 rfl rfl ?_
          refine po_nil ?_
          refine pn_seq ?_
          refine pw_cnd rfl ?_ ?_
          · refine pw_skip ?_
            refine pn_seq ?_
            refine pw_cnd rfl ?_ ?_
            · refine pw_exit rfl ?_
              exact pn_sub' (hj1 x1.Data) ⟨rfl, trivial⟩ ⟨rfl, trivial⟩ rfl
            · refine pw_skip ?_
              refine pn_seq ?_
              refine pw_exit rfl ?_
              refine pn_seq ?_
              refine pw_seq ?_
              refine pw_region ?_
              refine po_evs (T := tab) 1 rfl rfl ?_
              refine po_nil ?_
              refine pn_seq ?_
              exact pw_retN (T := tab) rfl rfl rfl ⟨rfl, rfl⟩ trivial rfl
          · refine pw_region ?_
            refine po_evs (T := tab) 2 rfl rfl ?_
            refine po_nil ?_
            refine pn_seq ?_
            refine pw_cnd rfl ?_ ?_
            · refine pw_exit rfl ?_
              exact pn_sub' (hj1 x1.Data) ⟨rfl, trivial⟩ ⟨rfl, trivial⟩ rfl
            · refine pw_skip ?_
              refine pn_seq ?_
              refine pw_exit rfl ?_
              refine pn_seq ?_
              refine pw_seq ?_
              refine pw_region ?_
              refine po_evs (T := tab) 1 rfl rfl ?_
              refine po_nil ?_
              refine pn_seq ?_
              exact pw_retN (T := tab) rfl rfl rfl ⟨rfl, rfl⟩ trivial rfl

def Forest_view_there_m (_fu : Nat) (v1 : Forest_view) (n2 : Int) : Option Bool := cnd (decide (n2 ≥ 0)) (some (decide (n2 < ((v1.Forest.Nodes.length : Nat) : Int)))) (some false)

set_option maxRecDepth 100000 in
theorem Forest_view_there_ok (fu : Nat) (v1 : Forest_view) (n2 : Int) : ∀ r, Forest_view_there_m fu v1 n2 = some r → DC Try.prog 93 [.agg (cForest_view v1), .v (.int .i64 n2)] (.v (.bool r)) := by
  intro r hr
  refine fc_intro (args := [.agg (cForest_view v1), .v (.int .i64 n2)]) (S := []) (N0 := []) (post := fun r p S => p = .v (.bool r) ∧ S = []) Try.func93 rfl rfl hr fun w0 X X0 σ0 => ?_
  refine pw_seq ?_
  refine pw_region ?_
  refine po_box  2 rfl rfl rfl rfl rfl rfl rfl rfl rfl rfl ?_
  refine po_evs (T := tab) 1 rfl rfl ?_
  refine po_nil ?_
  refine pn_seq ?_
  refine pw_seq ?_
  refine pw_region ?_
  refine po_evs (T := tab) 3 rfl rfl ?_
  refine po_split (j := 7) rfl ?_ ?_
  · refine po_evs (T := tab) 4 rfl rfl ?_
    refine po_len (T := tab) cNode v1.Forest.Nodes rfl rfl rfl rfl rfl rfl rfl rfl ?_
    refine po_evs (T := tab) 3 rfl rfl ?_
    refine po_nil ?_
    refine pn_seq ?_
    exact pw_retN (T := tab) rfl rfl rfl ⟨rfl, rfl⟩ trivial rfl
  · refine po_evs (T := tab) 8 rfl rfl ?_
    refine po_nil ?_
    refine pn_seq ?_
    exact pw_retN (T := tab) rfl rfl rfl ⟨rfl, rfl⟩ trivial rfl

def Forest_view_is_m (fu : Nat) (v1 : Forest_view) (n2 : Int) (kind3 : Int) : Option Bool := bnd (Forest_view_there_m fu v1 n2) fun r4 => cnd r4 (bnd (idx v1.Forest.Nodes n2) fun y5 => some (y5.Kind == kind3)) (some false)

set_option maxRecDepth 100000 in
theorem Forest_view_is_ok (fu : Nat) (v1 : Forest_view) (n2 : Int) (kind3 : Int) : ∀ r, Forest_view_is_m fu v1 n2 kind3 = some r → DC Try.prog 61 [.agg (cForest_view v1), .v (.int .i64 n2), .v (.int .i64 kind3)] (.v (.bool r)) := by
  intro r hr
  refine fc_intro (args := [.agg (cForest_view v1), .v (.int .i64 n2), .v (.int .i64 kind3)]) (S := []) (N0 := []) (post := fun r p S => p = .v (.bool r) ∧ S = []) Try.func61 rfl rfl hr fun w0 X X0 σ0 => ?_
  refine pw_seq ?_
  refine pw_region ?_
  refine po_box  3 rfl rfl rfl rfl rfl rfl rfl rfl rfl rfl ?_
  refine po_evs (T := tab) 1 rfl rfl ?_
  refine po_nil ?_
  refine pn_seq ?_
  refine pw_seq ?_
  refine pw_region ?_
  refine po_evs (T := tab) 2 rfl rfl ?_
  refine po_call (enc := fun (r4 : Bool) => .v (.bool r4)) (qs := [.agg (cForest_view v1), .v (.int .i64 n2)]) (Forest_view_there_ok fu v1 n2) rfl rfl ⟨⟨_, rfl, .rfl⟩, ⟨_, rfl, .rfl⟩, trivial⟩ (fun _ => rfl) call93 rfl rfl fun r4 hr4 => ?_
  refine po_evs (T := tab) 1 rfl rfl ?_
  refine po_split (j := 10) rfl ?_ ?_
  · refine po_evs (T := tab) 4 rfl rfl ?_
    refine po_idx (T := tab) cNode v1.Forest.Nodes rfl rfl rfl rfl rfl rfl rfl fun y5 hy5 => ?_
    refine po_evs (T := tab) 6 rfl rfl ?_
    refine po_nil ?_
    refine pn_seq ?_
    exact pw_retN (T := tab) rfl rfl rfl ⟨rfl, rfl⟩ trivial rfl
  · refine po_evs (T := tab) 11 rfl rfl ?_
    refine po_nil ?_
    refine pn_seq ?_
    exact pw_retN (T := tab) rfl rfl rfl ⟨rfl, rfl⟩ trivial rfl

def Forest_view_owned_m (fu : Nat) (v1 : Forest_view) (n2 : Int) : Option Bool := bnd (idx v1.Forest.Nodes n2) fun y3 => bnd (Forest_view_is_m fu v1 y3.Doc 0) fun r4 => cnd r4 (cnd (y3.Kind != 0) (some true) (some (y3.Doc == n2))) (some false)

set_option maxRecDepth 100000 in
theorem Forest_view_owned_ok (fu : Nat) (v1 : Forest_view) (n2 : Int) : ∀ r, Forest_view_owned_m fu v1 n2 = some r → DC Try.prog 86 [.agg (cForest_view v1), .v (.int .i64 n2)] (.v (.bool r)) := by
  intro r hr
  refine fc_intro (args := [.agg (cForest_view v1), .v (.int .i64 n2)]) (S := []) (N0 := []) (post := fun r p S => p = .v (.bool r) ∧ S = []) Try.func86 rfl rfl hr fun w0 X X0 σ0 => ?_
  refine pw_seq ?_
  refine pw_region ?_
  refine po_box  2 rfl rfl rfl rfl rfl rfl rfl rfl rfl rfl ?_
  refine po_evs (T := tab) 1 rfl rfl ?_
  refine po_nil ?_
  refine pn_seq ?_
  refine pw_seq ?_
  refine pw_region ?_
  refine po_evs (T := tab) 4 rfl rfl ?_
  refine po_idx (T := tab) cNode v1.Forest.Nodes rfl rfl rfl rfl rfl rfl rfl fun y3 hy3 => ?_
  refine po_evs (T := tab) 1 rfl rfl ?_
  refine po_alloc (T := tab) 5 rfl rfl rfl rfl rfl rfl rfl rfl rfl ?_
  refine po_store (T := tab) rfl rfl rfl rfl rfl rfl rfl rfl rfl rfl rfl rfl ?_
  refine po_nil ?_
  refine pn_seq ?_
  refine pw_seq ?_
  refine pw_region ?_
  refine po_evs (T := tab) 3 rfl rfl ?_
  refine po_call (enc := fun (r4 : Bool) => .v (.bool r4)) (qs := [.agg (cForest_view v1), .v (.int .i64 y3.Doc), .v (.int .i64 0)]) (Forest_view_is_ok fu v1 y3.Doc 0) rfl rfl ⟨⟨_, rfl, .rfl⟩, ⟨_, rfl, .rfl⟩, ⟨_, rfl, .rfl⟩, trivial⟩ (fun _ => rfl) call61 rfl rfl fun r4 hr4 => ?_
  refine po_evs (T := tab) 1 rfl rfl ?_
  refine po_split (j := 16) rfl ?_ ?_
  · refine po_evs (T := tab) 4 rfl rfl ?_
    refine po_split (j := 20) rfl ?_ ?_
    · refine po_evs (T := tab) 7 rfl rfl ?_
      refine po_nil ?_
      refine pn_seq ?_
      exact pw_retN (T := tab) rfl rfl rfl ⟨rfl, rfl⟩ trivial rfl
    · refine po_evs (T := tab) 7 rfl rfl ?_
      refine po_nil ?_
      refine pn_seq ?_
      exact pw_retN (T := tab) rfl rfl rfl ⟨rfl, rfl⟩ trivial rfl
  · refine po_evs (T := tab) 11 rfl rfl ?_
    refine po_nil ?_
    refine pn_seq ?_
    exact pw_retN (T := tab) rfl rfl rfl ⟨rfl, rfl⟩ trivial rfl

def Forest_holder_m (_fu : Nat) (kind1 : Int) : Option Bool := cnd (kind1 == 0) (cnd (kind1 == 0) (some true) (some false)) (cnd (kind1 == 1) (cnd (kind1 == 1) (some true) (some false)) (cnd (kind1 == 3) (cnd (kind1 == 3) (some true) (some false)) (cnd (kind1 == 4) (some true) (some false))))

set_option maxHeartbeats 10000000 in
set_option maxRecDepth 100000 in
theorem Forest_holder_ok (fu : Nat) (kind1 : Int) : ∀ r, Forest_holder_m fu kind1 = some r → DC Try.prog 110 [.v (.int .i64 kind1)] (.v (.bool r)) := by
  intro r hr
  refine fc_intro (args := [.v (.int .i64 kind1)]) (S := []) (N0 := []) (post := fun r p S => p = .v (.bool r) ∧ S = []) Try.func110 rfl rfl hr fun w0 X X0 σ0 => ?_
  refine pw_seq ?_
  refine pw_region ?_
  refine po_evs (T := tab) 1 rfl rfl ?_
  refine po_nil ?_
  refine pn_seq ?_
  refine pw_seq ?_
  refine pw_seq ?_
  refine pw_region ?_
  refine po_evs (T := tab) 1 rfl rfl ?_
  refine po_nil ?_
  refine pn_seq ?_
  refine pw_block ?_
  refine pw_seq ?_
  refine pw_seq ?_
  refine pw_region ?_
  refine po_evs (T := tab) 2 rfl rfl ?_
  refine po_nil ?_
  refine pn_seq ?_
  refine pw_cnd rfl ?_ ?_
  · refine pw_skip ?_
    refine pn_seq ?_
    refine pw_cnd rfl ?_ ?_
    · refine pw_seq ?_
      refine pw_region ?_
      refine po_evs (T := tab) 1 rfl rfl ?_
      refine po_nil ?_
      refine pn_seq ?_
      exact pw_retN (T := tab) rfl rfl rfl ⟨rfl, rfl⟩ trivial rfl
    · refine pw_skip ?_
      refine pn_block ?_
      refine pn_seq ?_
      refine pw_seq ?_
      refine pw_region ?_
      refine po_evs (T := tab) 1 rfl rfl ?_
      refine po_nil ?_
      refine pn_seq ?_
      exact pw_retN (T := tab) rfl rfl rfl ⟨rfl, rfl⟩ trivial rfl
  · refine pw_seq ?_
    refine pw_region ?_
    refine po_evs (T := tab) 2 rfl rfl ?_
    refine po_nil ?_
    refine pn_seq ?_
    refine pw_cnd rfl ?_ ?_
    · refine pw_skip ?_
      refine pn_seq ?_
      refine pw_cnd rfl ?_ ?_
      · refine pw_seq ?_
        refine pw_region ?_
        refine po_evs (T := tab) 1 rfl rfl ?_
        refine po_nil ?_
        refine pn_seq ?_
        exact pw_retN (T := tab) rfl rfl rfl ⟨rfl, rfl⟩ trivial rfl
      · refine pw_skip ?_
        refine pn_block ?_
        refine pn_seq ?_
        refine pw_seq ?_
        refine pw_region ?_
        refine po_evs (T := tab) 1 rfl rfl ?_
        refine po_nil ?_
        refine pn_seq ?_
        exact pw_retN (T := tab) rfl rfl rfl ⟨rfl, rfl⟩ trivial rfl
    · refine pw_seq ?_
      refine pw_region ?_
      refine po_evs (T := tab) 2 rfl rfl ?_
      refine po_nil ?_
      refine pn_seq ?_
      refine pw_cnd rfl ?_ ?_
      · refine pw_skip ?_
        refine pn_seq ?_
        refine pw_cnd rfl ?_ ?_
        · refine pw_seq ?_
          refine pw_region ?_
          refine po_evs (T := tab) 1 rfl rfl ?_
          refine po_nil ?_
          refine pn_seq ?_
          exact pw_retN (T := tab) rfl rfl rfl ⟨rfl, rfl⟩ trivial rfl
        · refine pw_skip ?_
          refine pn_block ?_
          refine pn_seq ?_
          refine pw_seq ?_
          refine pw_region ?_
          refine po_evs (T := tab) 1 rfl rfl ?_
          refine po_nil ?_
          refine pn_seq ?_
          exact pw_retN (T := tab) rfl rfl rfl ⟨rfl, rfl⟩ trivial rfl
      · refine pw_region ?_
        refine po_evs (T := tab) 2 rfl rfl ?_
        refine po_nil ?_
        refine pn_seq ?_
        refine pw_cnd rfl ?_ ?_
        · refine pw_seq ?_
          refine pw_region ?_
          refine po_evs (T := tab) 1 rfl rfl ?_
          refine po_nil ?_
          refine pn_seq ?_
          exact pw_retN (T := tab) rfl rfl rfl ⟨rfl, rfl⟩ trivial rfl
        · refine pw_skip ?_
          refine pn_block ?_
          refine pn_seq ?_
          refine pw_seq ?_
          refine pw_region ?_
          refine po_evs (T := tab) 1 rfl rfl ?_
          refine po_nil ?_
          refine pn_seq ?_
          exact pw_retN (T := tab) rfl rfl rfl ⟨rfl, rfl⟩ trivial rfl

def Slices_Index_int_l1 (s1 : (List Int)) (v2 : Int) : Nat → Int → Option Int
  | 0, _ => none
  | k1 + 1, t3 => cnd (decide (t3 < ((s1.length : Nat) : Int))) (bnd (idx s1 t3) fun y4 => cnd (v2 == y4) (some t3) (bnd (rng .i64 (t3 + 1)) fun i5 => (Slices_Index_int_l1 s1 v2 k1) i5)) (some (-1))

def Slices_Index_int_m (fu : Nat) (s1 : (List Int)) (v2 : Int) : Option Int := (Slices_Index_int_l1 s1 v2) fu 0

set_option maxHeartbeats 10000000 in
set_option maxRecDepth 100000 in
theorem Slices_Index_int_ok (fu : Nat) (s1 : (List Int)) (v2 : Int) : ∀ r, Slices_Index_int_m fu s1 v2 = some r → DC Try.prog 67 [.sl 1 false (s1.map cInt_i64), .v (.int .i64 v2)] (.v (.int .i64 r)) := by
  intro r hr
  refine fc_intro (args := [.sl 1 false (s1.map cInt_i64), .v (.int .i64 v2)]) (S := []) (N0 := []) (post := fun r p S => p = .v (.int .i64 r) ∧ S = []) Try.func67 rfl rfl hr fun w0 X X0 σ0 => ?_
  refine pw_seq ?_
  refine pw_region ?_
  refine po_evs (T := tab) 1 rfl rfl ?_
  refine po_nil ?_
  refine pn_seq ?_
  refine pw_seq ?_
  refine pw_seq ?_
  refine pw_region ?_
  refine po_evs (T := tab) 1 rfl rfl ?_
  refine po_len (T := tab) cInt_i64 s1 rfl rfl rfl rfl rfl rfl rfl rfl ?_
  refine po_evs (T := tab) 1 rfl rfl ?_
  refine po_nil ?_
  refine pn_seq ?_
  refine pw_block ?_
  refine pw_loop' (Slices_Index_int_l1 s1 v2) (fun (t3 : Int) => [(0, .sl 1 false (s1.map cInt_i64)), (1, .v (.int .i64 v2)), (7, .v (.int .i64 ((s1.length : Nat) : Int))), (8, .v (.int .i64 t3))]) (fun (t3 : Int) => []) fu 0 (fun _ => rfl) ⟨rfl, rfl, rfl, rfl, trivial⟩ trivial rfl ?_
  rintro k1 t3
  refine pw_seq ?_
  refine pw_region ?_
  refine po_evs (T := tab) 1 rfl rfl ?_
  refine po_nil ?_
  refine pn_seq ?_
  refine pw_seq ?_
  refine pw_cnd rfl ?_ ?_
  · refine pw_skip ?_
    refine pn_seq ?_
    refine pw_seq ?_
    refine pw_block ?_
    refine pw_seq ?_
    refine pw_region ?_
    refine po_evs (T := tab) 2 rfl rfl ?_
    refine po_nil ?_
    refine pn_seq ?_
    refine pw_seq ?_
    refine pw_region ?_
    refine po_evs (T := tab) 3 rfl rfl ?_
    refine po_idx (T := tab) cInt_i64 s1 rfl rfl rfl rfl rfl rfl rfl fun y4 hy4 => ?_
    refine po_evs (T := tab) 2 rfl rfl ?_
    refine po_nil ?_
    refine pn_seq ?_
    refine pw_cnd rfl ?_ ?_
    · refine pw_seq ?_
      refine pw_region ?_
      refine po_evs (T := tab) 2 rfl rfl ?_
      refine po_nil ?_
      refine pn_seq ?_
      exact pw_retN (T := tab) rfl rfl rfl ⟨rfl, rfl⟩ trivial rfl
    · refine pw_skip ?_
      refine pn_block ?_
      refine pn_seq ?_
      refine pw_region ?_
      refine po_arith' (T := tab) rfl rfl rfl rfl fun i5 hi5 => ?_
      refine po_evs (T := tab) 1 rfl rfl ?_
      refine po_nil ?_
      exact pn_iter' i5 ⟨rfl, rfl, rfl, rfl, trivial⟩ trivial rfl
  · refine pw_exit rfl ?_
    refine pn_seq ?_
    refine pw_seq ?_
    refine pw_region ?_
    refine po_evs (T := tab) 1 rfl rfl ?_
    refine po_nil ?_
    refine pn_seq ?_
    exact pw_retN (T := tab) rfl rfl rfl ⟨rfl, rfl⟩ trivial rfl

def Slices_Contains_int_m (fu : Nat) (s1 : (List Int)) (v2 : Int) : Option Bool := bnd (Slices_Index_int_m fu s1 v2) fun r3 => some (decide (r3 ≥ 0))

set_option maxRecDepth 100000 in
theorem Slices_Contains_int_ok (fu : Nat) (s1 : (List Int)) (v2 : Int) : ∀ r, Slices_Contains_int_m fu s1 v2 = some r → DC Try.prog 111 [.sl 1 false (s1.map cInt_i64), .v (.int .i64 v2)] (.v (.bool r)) := by
  intro r hr
  refine fc_intro (args := [.sl 1 false (s1.map cInt_i64), .v (.int .i64 v2)]) (S := []) (N0 := []) (post := fun r p S => p = .v (.bool r) ∧ S = []) Try.func111 rfl rfl hr fun w0 X X0 σ0 => ?_
  refine pw_seq ?_
  refine pw_region ?_
  refine po_evs (T := tab) 1 rfl rfl ?_
  refine po_nil ?_
  refine pn_seq ?_
  refine pw_seq ?_
  refine pw_region ?_
  refine po_evs (T := tab) 2 rfl rfl ?_
  refine po_call (enc := fun (r3 : Int) => .v (.int .i64 r3)) (qs := [.sl 1 false (s1.map cInt_i64), .v (.int .i64 v2)]) (Slices_Index_int_ok fu s1 v2) rfl rfl ⟨⟨_, rfl, .rfl⟩, ⟨_, rfl, .rfl⟩, trivial⟩ (fun _ => rfl) call67 rfl rfl fun r3 hr3 => ?_
  refine po_evs (T := tab) 2 rfl rfl ?_
  refine po_nil ?_
  refine pn_seq ?_
  exact pw_retN (T := tab) rfl rfl rfl ⟨rfl, rfl⟩ trivial rfl

def Forest_view_hung_j1 (fu : Nat) (v1 : Forest_view) (n2 : Int) (y3 : Node) (below4 : Bool) : Option Bool := cnd below4 (bnd (Forest_view_there_m fu v1 y3.Parent) fun r5 => cnd r5 (bnd (idx v1.Forest.Nodes y3.Parent) fun y6 => bnd (Forest_holder_m fu y6.Kind) fun r7 => cnd r7 (bnd (idx v1.Forest.Nodes y3.Parent) fun y8 => bnd (Slices_Contains_int_m fu y8.Kids n2) fun r9 => some r9) (some false)) (some false)) (some false)

def Forest_view_hung_m (fu : Nat) (v1 : Forest_view) (n2 : Int) : Option Bool := bnd (idx v1.Forest.Nodes n2) fun y3 => cnd (y3.Parent == (-1)) (some true) (cnd (y3.Kind == 1) ((Forest_view_hung_j1 fu v1 n2 y3) true) ((Forest_view_hung_j1 fu v1 n2 y3) (y3.Kind == 2)))

set_option maxHeartbeats 10000000 in
set_option maxRecDepth 100000 in
theorem Forest_view_hung_ok (fu : Nat) (v1 : Forest_view) (n2 : Int) : ∀ r, Forest_view_hung_m fu v1 n2 = some r → DC Try.prog 87 [.agg (cForest_view v1), .v (.int .i64 n2)] (.v (.bool r)) := by
  intro r hr
  refine fc_intro (args := [.agg (cForest_view v1), .v (.int .i64 n2)]) (S := []) (N0 := []) (post := fun r p S => p = .v (.bool r) ∧ S = []) Try.func87 rfl rfl hr fun w0 X X0 σ0 => ?_
  refine pw_seq ?_
  refine pw_region ?_
  refine po_box  2 rfl rfl rfl rfl rfl rfl rfl rfl rfl rfl ?_
  refine po_evs (T := tab) 1 rfl rfl ?_
  refine po_nil ?_
  refine pn_seq ?_
  refine pw_seq ?_
  refine pw_region ?_
  refine po_evs (T := tab) 4 rfl rfl ?_
  refine po_idx (T := tab) cNode v1.Forest.Nodes rfl rfl rfl rfl rfl rfl rfl fun y3 hy3 => ?_
  refine po_evs (T := tab) 1 rfl rfl ?_
  refine po_alloc (T := tab) 5 rfl rfl rfl rfl rfl rfl rfl rfl rfl ?_
  refine po_store (T := tab) rfl rfl rfl rfl rfl rfl rfl rfl rfl rfl rfl rfl ?_
  refine po_nil ?_
  refine pn_seq ?_
  refine pw_seq ?_
  refine pw_seq ?_
  refine pw_region ?_
  refine po_evs (T := tab) 3 rfl rfl ?_
  refine po_nil ?_
  refine pn_seq ?_
  refine pw_cnd rfl ?_ ?_
  · refine pw_seq ?_
    refine pw_region ?_
    refine po_evs (T := tab) 1 rfl rfl ?_
    refine po_nil ?_
    refine pn_seq ?_
    exact pw_retN (T := tab) rfl rfl rfl ⟨rfl, rfl⟩ trivial rfl
  · refine pw_skip ?_
    refine pn_seq ?_
    refine pw_seq ?_
    refine pw_region ?_
    refine po_joinK (Forest_view_hung_j1 fu v1 n2 y3) (fun (below4 : Bool) => [(1, .v (.int .i64 n2)), (2, .loc 2 0), (5, .loc 5 0), (6, .v (.bool below4))]) (fun (below4 : Bool) => [(5, .box [.v (.int .i64 y3.Kind), .v (.string ⟨⟨y3.Name⟩⟩), .v (.string ⟨⟨y3.Is⟩⟩), .v (.string ⟨⟨y3.Data⟩⟩), .sl 2 false (y3.Attrs.map cAttr), .v (.int .i64 y3.Parent), .sl 1 false (y3.Kids.map cInt_i64), .v (.int .i64 y3.Host), .v (.int .i64 y3.Under), .v (.int .i64 y3.Doc)]), (2, .box [.sl 10 false (v1.Forest.Nodes.map cNode), .v (.int .i64 v1.Forest.Most)])]) ?_ fun hj1 => ?_
    · rintro below4
      refine pn_seq ?_
      refine pw_seq ?_
      refine pw_region ?_
      refine po_evs (T := tab) 2 rfl rfl ?_
      refine po_split (j := 25) rfl ?_ ?_
      · refine po_evs (T := tab) 3 rfl rfl ?_
        refine po_call (enc := fun (r5 : Bool) => .v (.bool r5)) (qs := [.agg (cForest_view v1), .v (.int .i64 y3.Parent)]) (Forest_view_there_ok fu v1 y3.Parent) rfl rfl ⟨⟨_, rfl, .rfl⟩, ⟨_, rfl, .rfl⟩, trivial⟩ (fun _ => rfl) call93 rfl rfl fun r5 hr5 => ?_
        refine po_evs (T := tab) 2 rfl rfl ?_
        refine po_split (j := 31) rfl ?_ ?_
        · refine po_evs (T := tab) 5 rfl rfl ?_
          refine po_idx (T := tab) cNode v1.Forest.Nodes rfl rfl rfl rfl rfl rfl rfl fun y6 hy6 => ?_
          refine po_evs (T := tab) 2 rfl rfl ?_
          refine po_call (enc := fun (r7 : Bool) => .v (.bool r7)) (qs := [.v (.int .i64 y6.Kind)]) (Forest_holder_ok fu y6.Kind) rfl rfl ⟨⟨_, rfl, .rfl⟩, trivial⟩ (fun _ => rfl) call110 rfl rfl fun r7 hr7 => ?_
          refine po_evs (T := tab) 2 rfl rfl ?_
          refine po_split (j := 42) rfl ?_ ?_
          · refine po_evs (T := tab) 5 rfl rfl ?_
            refine po_idx (T := tab) cNode v1.Forest.Nodes rfl rfl rfl rfl rfl rfl rfl fun y8 hy8 => ?_
            refine po_evs (T := tab) 3 rfl rfl ?_
            refine po_call (enc := fun (r9 : Bool) => .v (.bool r9)) (qs := [.sl 1 false (y8.Kids.map cInt_i64), .v (.int .i64 n2)]) (Slices_Contains_int_ok fu y8.Kids n2) rfl rfl ⟨⟨_, rfl, .rfl⟩, ⟨_, rfl, .rfl⟩, trivial⟩ (fun _ => rfl) call111 rfl rfl fun r9 hr9 => ?_
            refine po_evs (T := tab) 2 rfl rfl ?_
            refine po_nil ?_
            refine pn_seq ?_
            exact pw_retN (T := tab) rfl rfl rfl ⟨rfl, rfl⟩ trivial rfl
          · refine po_evs (T := tab) 12 rfl rfl ?_
            refine po_nil ?_
            refine pn_seq ?_
            exact pw_retN (T := tab) rfl rfl rfl ⟨rfl, rfl⟩ trivial rfl
        · refine po_evs (T := tab) 23 rfl rfl ?_
          refine po_nil ?_
          refine pn_seq ?_
          exact pw_retN (T := tab) rfl rfl rfl ⟨rfl, rfl⟩ trivial rfl
      · refine po_evs (T := tab) 29 rfl rfl ?_
        refine po_nil ?_
        refine pn_seq ?_
        exact pw_retN (T := tab) rfl rfl rfl ⟨rfl, rfl⟩ trivial rfl
    · refine po_evs (T := tab) 4 rfl rfl ?_
      refine po_split (j := 19) rfl ?_ ?_
      · refine po_evs (T := tab) 5 rfl rfl ?_
        refine po_nil ?_
        exact pn_sub' (hj1 true) ⟨rfl, rfl, rfl, rfl, trivial⟩ ⟨rfl, rfl, trivial⟩ rfl
      · refine po_evs (T := tab) 5 rfl rfl ?_
        refine po_nil ?_
        exact pn_sub' (hj1 (y3.Kind == 2)) ⟨rfl, rfl, rfl, rfl, trivial⟩ ⟨rfl, rfl, trivial⟩ rfl

def Forest_view_bears_l1 (fu : Nat) (v1 : Forest_view) (n2 : Int) (y3 : Node) : Nat → Int × Int × (List (Int × Int)) → Option Bool
  | 0, _ => none
  | k1 + 1, (elems4, t5, l6) => cnd (decide (t5 < ((y3.Kids.length : Nat) : Int))) (bnd (idx y3.Kids t5) fun y7 => bnd (Forest_view_there_m fu v1 y7) fun r8 => cnd (!r8) (some false) (cnd (decide ((mget l6 y7 0) > 0)) (some false) (bnd (idx v1.Forest.Nodes y7) fun y9 => cnd (y9.Parent != n2) (some false) (bnd (idx v1.Forest.Nodes y7) fun y10 => cnd (y10.Doc != y3.Doc) (some false) (bnd (rng .i64 ((mget l6 y7 0) + 1)) fun i11 => bnd (idx v1.Forest.Nodes y7) fun y12 => cnd (y12.Kind == 1) (bnd (rng .i64 (elems4 + 1)) fun i13 => bnd (rng .i64 (t5 + 1)) fun i14 => (Forest_view_bears_l1 fu v1 n2 y3 k1) (i13, i14, (mput l6 y7 i11))) (cnd (y12.Kind == 2) (cnd (y3.Kind == 0) (some false) (bnd (rng .i64 (t5 + 1)) fun i15 => (Forest_view_bears_l1 fu v1 n2 y3 k1) (elems4, i15, (mput l6 y7 i11)))) (some false))))))) (bnd (Forest_holder_m fu y3.Kind) fun r16 => cnd r16 (cnd (y3.Kind != 0) (some true) (some (decide (elems4 ≤ 1)))) (cnd (((y3.Kids.length : Nat) : Int) == 0) (cnd (y3.Kind != 0) (some true) (some (decide (elems4 ≤ 1)))) (some false)))

def Forest_view_bears_m (fu : Nat) (v1 : Forest_view) (n2 : Int) : Option Bool := bnd (idx v1.Forest.Nodes n2) fun y3 => (Forest_view_bears_l1 fu v1 n2 y3) fu (0, 0, ([] : (List (Int × Int))))

set_option maxHeartbeats 10000000 in
set_option maxRecDepth 100000 in
theorem Forest_view_bears_ok (fu : Nat) (v1 : Forest_view) (n2 : Int) : ∀ r, Forest_view_bears_m fu v1 n2 = some r → DC Try.prog 88 [.agg (cForest_view v1), .v (.int .i64 n2)] (.v (.bool r)) := by
  intro r hr
  refine fc_intro (args := [.agg (cForest_view v1), .v (.int .i64 n2)]) (S := []) (N0 := []) (post := fun r p S => p = .v (.bool r) ∧ S = []) Try.func88 rfl rfl hr fun w0 X X0 σ0 => ?_
  refine pw_seq ?_
  refine pw_region ?_
  refine po_box  2 rfl rfl rfl rfl rfl rfl rfl rfl rfl rfl ?_
  refine po_evs (T := tab) 1 rfl rfl ?_
  refine po_nil ?_
  refine pn_seq ?_
  refine pw_seq ?_
  refine pw_region ?_
  refine po_evs (T := tab) 4 rfl rfl ?_
  refine po_idx (T := tab) cNode v1.Forest.Nodes rfl rfl rfl rfl rfl rfl rfl fun y3 hy3 => ?_
  refine po_evs (T := tab) 1 rfl rfl ?_
  refine po_alloc (T := tab) 5 rfl rfl rfl rfl rfl rfl rfl rfl rfl ?_
  refine po_store (T := tab) rfl rfl rfl rfl rfl rfl rfl rfl rfl rfl rfl rfl ?_
  refine po_nil ?_
  refine pn_seq ?_
  refine pw_seq ?_
  refine pw_region ?_
  refine po_makeMap 16 rfl rfl rfl rfl rfl rfl rfl ?_
  refine po_evs (T := tab) 1 rfl rfl ?_
  refine po_nil ?_
  refine pn_seq ?_
  refine pw_seq ?_
  refine pw_region ?_
  refine po_evs (T := tab) 1 rfl rfl ?_
  refine po_nil ?_
  refine pn_seq ?_
  refine pw_seq ?_
  refine pw_seq ?_
  refine pw_region ?_
  refine po_evs (T := tab) 2 rfl rfl ?_
  refine po_len (T := tab) cInt_i64 y3.Kids rfl rfl rfl rfl rfl rfl rfl rfl ?_
  refine po_evs (T := tab) 1 rfl rfl ?_
  refine po_nil ?_
  refine pn_seq ?_
  refine pw_block ?_
  refine pw_loop' (Forest_view_bears_l1 fu v1 n2 y3) (fun ((elems4, t5, l6) : Int × Int × (List (Int × Int))) => [(1, .v (.int .i64 n2)), (2, .loc 2 0), (5, .loc 5 0), (6, .own 16), (7, .v (.int .i64 elems4)), (18, .sl 1 false (y3.Kids.map cInt_i64)), (19, .v (.int .i64 ((y3.Kids.length : Nat) : Int))), (20, .v (.int .i64 t5))]) (fun ((elems4, t5, l6) : Int × Int × (List (Int × Int))) => [(16, .mp (l6.map fun p => (keyI .i64 p.1, .v (.int .i64 p.2)))), (5, .box [.v (.int .i64 y3.Kind), .v (.string ⟨⟨y3.Name⟩⟩), .v (.string ⟨⟨y3.Is⟩⟩), .v (.string ⟨⟨y3.Data⟩⟩), .sl 2 false (y3.Attrs.map cAttr), .v (.int .i64 y3.Parent), .sl 1 false (y3.Kids.map cInt_i64), .v (.int .i64 y3.Host), .v (.int .i64 y3.Under), .v (.int .i64 y3.Doc)]), (2, .box [.sl 10 false (v1.Forest.Nodes.map cNode), .v (.int .i64 v1.Forest.Most)])]) fu (0, 0, ([] : (List (Int × Int)))) (fun _ => rfl) ⟨rfl, rfl, rfl, rfl, rfl, rfl, rfl, rfl, trivial⟩ ⟨rfl, rfl, rfl, trivial⟩ rfl ?_
  rintro k1 ⟨elems4, t5, l6⟩
  refine pw_seq ?_
  refine pw_region ?_
  refine po_evs (T := tab) 1 rfl rfl ?_
  refine po_nil ?_
  refine pn_seq ?_
  refine pw_seq ?_
  refine pw_cnd rfl ?_ ?_
  · refine pw_skip ?_
    refine pn_seq ?_
    refine pw_seq ?_
    refine pw_block ?_
    refine pw_seq ?_
    refine pw_region ?_
    refine po_idx (T := tab) cInt_i64 y3.Kids rfl rfl rfl rfl rfl rfl rfl fun y7 hy7 => ?_
    refine po_evs (T := tab) 2 rfl rfl ?_
    refine po_nil ?_
    refine pn_seq ?_
    refine pw_seq ?_
    refine pw_seq ?_
    refine pw_sub' (E' := [(1, .v (.int .i64 n2)), (2, .loc 2 0), (5, .loc 5 0), (6, .own 16), (7, .v (.int .i64 elems4)), (18, .sl 1 false (y3.Kids.map cInt_i64)), (19, .v (.int .i64 ((y3.Kids.length : Nat) : Int))), (20, .v (.int .i64 t5)), (9, .v (.int .i64 y7))]) (S' := [(16, .mp (l6.map fun p => (keyI .i64 p.1, .v (.int .i64 p.2)))), (5, .box [.v (.int .i64 y3.Kind), .v (.string ⟨⟨y3.Name⟩⟩), .v (.string ⟨⟨y3.Is⟩⟩), .v (.string ⟨⟨y3.Data⟩⟩), .sl 2 false (y3.Attrs.map cAttr), .v (.int .i64 y3.Parent), .sl 1 false (y3.Kids.map cInt_i64), .v (.int .i64 y3.Host), .v (.int .i64 y3.Under), .v (.int .i64 y3.Doc)]), (2, .box [.sl 10 false (v1.Forest.Nodes.map cNode), .v (.int .i64 v1.Forest.Most)])]) ?_ ⟨rfl, rfl, rfl, rfl, rfl, rfl, rfl, rfl, rfl, trivial⟩ ⟨rfl, rfl, rfl, trivial⟩ rfl
    refine pw_drawV [0, 0, 3, 7, 15, 31, 31, 127, 255, 511, 1023, 2047, 4095, 8191, 2047, 32767, 65535, 131071, 2047, 524287, 1048575, 2097151, 4194303, 8388607, 16777215, 4194303, 67108863, 134217727, 268435455, 4194303, 541065215, 2147483647, 4294967295] mixed (by kernel_rfl) (by kernel_rfl) rfl rfl ?_
    refine pdv_step0 [4, 5] [48] [] [2] [2] [(24, .agg (cForest_view v1))] [(2, .box [.sl 10 false (v1.Forest.Nodes.map cNode), .v (.int .i64 v1.Forest.Most)])] rfl rfl rfl rfl (by kernel_rfl) (by kernel_rfl) (by kernel_rfl) ⟨rfl, trivial⟩ (fun w0 X X0 σ0 => by refine po_evs (T := tab) 1 rfl rfl ?_; refine po_nil ?_; exact pn_end0 ⟨rfl, trivial⟩ ⟨rfl, trivial⟩ rfl) ?_
    refine pdv_step0 [18] [50] [] [] [] [(25, .v (.int .i64 y7))] [] rfl rfl rfl rfl (by kernel_rfl) (by kernel_rfl) (by kernel_rfl) trivial (fun w0 X X0 σ0 => by refine po_evs (T := tab) 1 rfl rfl ?_; refine po_nil ?_; exact pn_end0 ⟨rfl, trivial⟩ trivial rfl) ?_
    refine pdv_step (M := (Forest_view_there_m fu v1 y7)) (ment := [(52, [])]) [48, 50] [52] [] [] [] (fun r8 => [(26, .v (.bool r8))]) (fun r8 => []) rfl rfl (fun _ => rfl) (fun _ => rfl) (by kernel_rfl) (by kernel_rfl) (fun _ => by kernel_rfl) (fun _ => trivial) (fun w0 X X0 σ0 => by refine po_call (enc := fun (r8 : Bool) => .v (.bool r8)) (qs := [.agg (cForest_view v1), .v (.int .i64 y7)]) (Forest_view_there_ok fu v1 y7) rfl rfl ⟨⟨_, rfl, .rfl⟩, ⟨_, rfl, .rfl⟩, trivial⟩ (fun _ => rfl) call93 rfl rfl fun r8 hr8 => ?_; refine po_nil ?_; exact pn_end ⟨rfl, trivial⟩ trivial rfl) fun r8 hr8 => ?_
    refine pdv_step0 [52] [54] [] [] [] [(27, .v (.bool (!r8)))] [] rfl rfl rfl rfl (by kernel_rfl) (by kernel_rfl) (by kernel_rfl) trivial (fun w0 X X0 σ0 => by refine po_evs (T := tab) 1 rfl rfl ?_; refine po_nil ?_; exact pn_end0 ⟨rfl, trivial⟩ trivial rfl) ?_
    refine pdv_step0 [54] [56] [] [] [] [(28, .v (.bool (!r8)))] [] rfl rfl rfl rfl (by kernel_rfl) (by kernel_rfl) (by kernel_rfl) trivial (fun w0 X X0 σ0 => by refine po_evs (T := tab) 1 rfl rfl ?_; refine po_nil ?_; exact pn_end0 ⟨rfl, trivial⟩ trivial rfl) ?_
    refine pdv_split (t := 28) rfl ?_ ?_
    · refine pdv_step0 [56] [58] [] [] [] [(29, .tup [])] [] rfl rfl rfl rfl (by kernel_rfl) (by kernel_rfl) (by kernel_rfl) trivial (fun w0 X X0 σ0 => by refine po_evs (T := tab) 1 rfl rfl ?_; refine po_nil ?_; exact pn_end0 ⟨rfl, trivial⟩ trivial rfl) ?_
      refine pdv_step0 [56] [60] [] [] [] [(30, .tup [])] [] rfl rfl rfl rfl (by kernel_rfl) (by kernel_rfl) (by kernel_rfl) trivial (fun w0 X X0 σ0 => by refine po_evs (T := tab) 1 rfl rfl ?_; refine po_nil ?_; exact pn_end0 ⟨rfl, trivial⟩ trivial rfl) ?_
      refine pdv_step0 [56] [62] [] [] [] [(31, .tup [])] [] rfl rfl rfl rfl (by kernel_rfl) (by kernel_rfl) (by kernel_rfl) trivial (fun w0 X X0 σ0 => by refine po_evs (T := tab) 1 rfl rfl ?_; refine po_nil ?_; exact pn_end0 ⟨rfl, trivial⟩ trivial rfl) ?_
      refine pdv_step0 [56] [64] [] [] [] [(32, .tup [])] [] rfl rfl rfl rfl (by kernel_rfl) (by kernel_rfl) (by kernel_rfl) trivial (fun w0 X X0 σ0 => by refine po_evs (T := tab) 1 rfl rfl ?_; refine po_nil ?_; exact pn_end0 ⟨rfl, trivial⟩ trivial rfl) ?_
      refine pdv_step0 [56, 64] [66] [] [] [] [(33, .v (.bool true))] [] rfl rfl rfl rfl (by kernel_rfl) (by kernel_rfl) (by kernel_rfl) trivial (fun w0 X X0 σ0 => by refine po_evs (T := tab) 1 rfl rfl ?_; refine po_nil ?_; exact pn_end0 ⟨rfl, trivial⟩ trivial rfl) ?_
      refine pdv_step0 [66] [68] [] [] [] [(34, .v (.bool true))] [] rfl rfl rfl rfl (by kernel_rfl) (by kernel_rfl) (by kernel_rfl) trivial (fun w0 X X0 σ0 => by refine po_evs (T := tab) 1 rfl rfl ?_; refine po_nil ?_; exact pn_end0 ⟨rfl, trivial⟩ trivial rfl) ?_
      refine pdv_step0 [68] [70] [] [] [] [(35, .tup [])] [] rfl rfl rfl rfl (by kernel_rfl) (by kernel_rfl) (by kernel_rfl) trivial (fun w0 X X0 σ0 => by refine po_evs (T := tab) 1 rfl rfl ?_; refine po_nil ?_; exact pn_end0 ⟨rfl, trivial⟩ trivial rfl) ?_
      refine pdv_step0 [68] [72] [] [] [] [(36, .tup [])] [] rfl rfl rfl rfl (by kernel_rfl) (by kernel_rfl) (by kernel_rfl) trivial (fun w0 X X0 σ0 => by refine po_evs (T := tab) 1 rfl rfl ?_; refine po_nil ?_; exact pn_end0 ⟨rfl, trivial⟩ trivial rfl) ?_
      refine pdv_step0 [68] [74] [] [] [] [(37, .tup [])] [] rfl rfl rfl rfl (by kernel_rfl) (by kernel_rfl) (by kernel_rfl) trivial (fun w0 X X0 σ0 => by refine po_evs (T := tab) 1 rfl rfl ?_; refine po_nil ?_; exact pn_end0 ⟨rfl, trivial⟩ trivial rfl) ?_
      refine pdv_step0 [68] [76] [] [] [] [(38, .tup [])] [] rfl rfl rfl rfl (by kernel_rfl) (by kernel_rfl) (by kernel_rfl) trivial (fun w0 X X0 σ0 => by refine po_evs (T := tab) 1 rfl rfl ?_; refine po_nil ?_; exact pn_end0 ⟨rfl, trivial⟩ trivial rfl) ?_
      refine pdv_step0 [68] [78] [] [] [] [(39, .tup [])] [] rfl rfl rfl rfl (by kernel_rfl) (by kernel_rfl) (by kernel_rfl) trivial (fun w0 X X0 σ0 => by refine po_evs (T := tab) 1 rfl rfl ?_; refine po_nil ?_; exact pn_end0 ⟨rfl, trivial⟩ trivial rfl) ?_
      refine pdv_step0 [68] [80] [] [] [] [(40, .tup [])] [] rfl rfl rfl rfl (by kernel_rfl) (by kernel_rfl) (by kernel_rfl) trivial (fun w0 X X0 σ0 => by refine po_evs (T := tab) 1 rfl rfl ?_; refine po_nil ?_; exact pn_end0 ⟨rfl, trivial⟩ trivial rfl) ?_
      refine pdv_step0 [68] [82] [] [] [] [(41, .tup [])] [] rfl rfl rfl rfl (by kernel_rfl) (by kernel_rfl) (by kernel_rfl) trivial (fun w0 X X0 σ0 => by refine po_evs (T := tab) 1 rfl rfl ?_; refine po_nil ?_; exact pn_end0 ⟨rfl, trivial⟩ trivial rfl) ?_
      refine pdv_step0 [68] [84] [] [] [] [(42, .tup [])] [] rfl rfl rfl rfl (by kernel_rfl) (by kernel_rfl) (by kernel_rfl) trivial (fun w0 X X0 σ0 => by refine po_evs (T := tab) 1 rfl rfl ?_; refine po_nil ?_; exact pn_end0 ⟨rfl, trivial⟩ trivial rfl) ?_
      refine pdv_step0 [68] [86] [] [] [] [(43, .tup [])] [] rfl rfl rfl rfl (by kernel_rfl) (by kernel_rfl) (by kernel_rfl) trivial (fun w0 X X0 σ0 => by refine po_evs (T := tab) 1 rfl rfl ?_; refine po_nil ?_; exact pn_end0 ⟨rfl, trivial⟩ trivial rfl) ?_
      refine pdv_step0 [68, 86] [88] [] [] [] [(44, .v (.bool true))] [] rfl rfl rfl rfl (by kernel_rfl) (by kernel_rfl) (by kernel_rfl) trivial (fun w0 X X0 σ0 => by refine po_evs (T := tab) 1 rfl rfl ?_; refine po_nil ?_; exact pn_end0 ⟨rfl, trivial⟩ trivial rfl) ?_
      refine pdv_step0 [88] [90] [] [] [] [(45, .v (.bool true))] [] rfl rfl rfl rfl (by kernel_rfl) (by kernel_rfl) (by kernel_rfl) trivial (fun w0 X X0 σ0 => by refine po_evs (T := tab) 1 rfl rfl ?_; refine po_nil ?_; exact pn_end0 ⟨rfl, trivial⟩ trivial rfl) ?_
      refine pdv_step0 [90] [92] [] [] [] [(46, .tup [])] [] rfl rfl rfl rfl (by kernel_rfl) (by kernel_rfl) (by kernel_rfl) trivial (fun w0 X X0 σ0 => by refine po_evs (T := tab) 1 rfl rfl ?_; refine po_nil ?_; exact pn_end0 ⟨rfl, trivial⟩ trivial rfl) ?_
      refine pdv_step0 [90] [94] [] [] [] [(47, .tup [])] [] rfl rfl rfl rfl (by kernel_rfl) (by kernel_rfl) (by kernel_rfl) trivial (fun w0 X X0 σ0 => by refine po_evs (T := tab) 1 rfl rfl ?_; refine po_nil ?_; exact pn_end0 ⟨rfl, trivial⟩ trivial rfl) ?_
      refine pdv_step0 [90] [96] [] [] [] [(48, .tup [])] [] rfl rfl rfl rfl (by kernel_rfl) (by kernel_rfl) (by kernel_rfl) trivial (fun w0 X X0 σ0 => by refine po_evs (T := tab) 1 rfl rfl ?_; refine po_nil ?_; exact pn_end0 ⟨rfl, trivial⟩ trivial rfl) ?_
      refine pdv_step0 [90] [98] [] [] [] [(49, .tup [])] [] rfl rfl rfl rfl (by kernel_rfl) (by kernel_rfl) (by kernel_rfl) trivial (fun w0 X X0 σ0 => by refine po_evs (T := tab) 1 rfl rfl ?_; refine po_nil ?_; exact pn_end0 ⟨rfl, trivial⟩ trivial rfl) ?_
      refine pdv_step0 [90] [100] [] [] [] [(50, .tup [])] [] rfl rfl rfl rfl (by kernel_rfl) (by kernel_rfl) (by kernel_rfl) trivial (fun w0 X X0 σ0 => by refine po_evs (T := tab) 1 rfl rfl ?_; refine po_nil ?_; exact pn_end0 ⟨rfl, trivial⟩ trivial rfl) ?_
      refine pdv_step0 [90] [102] [] [] [] [(51, .tup [])] [] rfl rfl rfl rfl (by kernel_rfl) (by kernel_rfl) (by kernel_rfl) trivial (fun w0 X X0 σ0 => by refine po_evs (T := tab) 1 rfl rfl ?_; refine po_nil ?_; exact pn_end0 ⟨rfl, trivial⟩ trivial rfl) ?_
      refine pdv_step0 [90] [104] [] [] [] [(52, .tup [])] [] rfl rfl rfl rfl (by kernel_rfl) (by kernel_rfl) (by kernel_rfl) trivial (fun w0 X X0 σ0 => by refine po_evs (T := tab) 1 rfl rfl ?_; refine po_nil ?_; exact pn_end0 ⟨rfl, trivial⟩ trivial rfl) ?_
      refine pdv_step0 [90] [106] [] [] [] [(53, .tup [])] [] rfl rfl rfl rfl (by kernel_rfl) (by kernel_rfl) (by kernel_rfl) trivial (fun w0 X X0 σ0 => by refine po_evs (T := tab) 1 rfl rfl ?_; refine po_nil ?_; exact pn_end0 ⟨rfl, trivial⟩ trivial rfl) ?_
      refine pdv_step0 [90] [108] [] [] [] [(54, .tup [])] [] rfl rfl rfl rfl (by kernel_rfl) (by kernel_rfl) (by kernel_rfl) trivial (fun w0 X X0 σ0 => by refine po_evs (T := tab) 1 rfl rfl ?_; refine po_nil ?_; exact pn_end0 ⟨rfl, trivial⟩ trivial rfl) ?_
      refine pdv_step0 [90] [110] [] [] [] [(55, .tup [])] [] rfl rfl rfl rfl (by kernel_rfl) (by kernel_rfl) (by kernel_rfl) trivial (fun w0 X X0 σ0 => by refine po_evs (T := tab) 1 rfl rfl ?_; refine po_nil ?_; exact pn_end0 ⟨rfl, trivial⟩ trivial rfl) ?_
      refine pdv_step0 [90, 110] [112] [] [] [] [(56, .v (.bool true))] [] rfl rfl rfl rfl (by kernel_rfl) (by kernel_rfl) (by kernel_rfl) trivial (fun w0 X X0 σ0 => by refine po_evs (T := tab) 1 rfl rfl ?_; refine po_nil ?_; exact pn_end0 ⟨rfl, trivial⟩ trivial rfl) ?_
      refine pdv_nil rfl rfl ?_
      refine pn_seq (pw_then rfl ?_)
      refine pw_seq ?_
      refine pw_region ?_
      refine po_evs (T := tab) 1 rfl rfl ?_
      refine po_nil ?_
      refine pn_seq ?_
      exact pw_retN (T := tab) rfl rfl rfl ⟨rfl, rfl⟩ trivial rfl
    · refine pdv_step0 [12, 56] [58] [] [16] [] [(29, .own 16)] [] rfl rfl rfl rfl (by kernel_rfl) (by kernel_rfl) (by kernel_rfl) trivial (fun w0 X X0 σ0 => by refine po_evs (T := tab) 1 rfl rfl ?_; refine po_nil ?_; exact pn_end0 ⟨rfl, trivial⟩ trivial rfl) ?_
      refine pdv_step0 [18, 56] [60] [] [] [] [(30, .v (.int .i64 y7))] [] rfl rfl rfl rfl (by kernel_rfl) (by kernel_rfl) (by kernel_rfl) trivial (fun w0 X X0 σ0 => by refine po_evs (T := tab) 1 rfl rfl ?_; refine po_nil ?_; exact pn_end0 ⟨rfl, trivial⟩ trivial rfl) ?_
      refine pdv_step0 [33, 56, 58, 60] [62] [] [16] [16] [(31, .v (.int .i64 (mget l6 y7 0)))] [(16, .mp (l6.map fun p => (keyI .i64 p.1, .v (.int .i64 p.2))))] rfl rfl rfl rfl (by kernel_rfl) (by kernel_rfl) (by kernel_rfl) ⟨rfl, trivial⟩ (fun w0 X X0 σ0 => by refine po_lookup (T := tab) (keyI_enc .i64) (fun v => .v (.int .i64 v)) l6 y7 0 Try.underlying98 Try.underlying3 rfl rfl rfl rfl rfl rfl rfl rfl rfl rfl ?_; refine po_nil ?_; exact pn_end0 ⟨rfl, trivial⟩ ⟨rfl, trivial⟩ rfl) ?_
      refine pdv_step0 [56, 62] [64] [] [] [] [(32, .v (.bool (decide ((mget l6 y7 0) > 0))))] [] rfl rfl rfl rfl (by kernel_rfl) (by kernel_rfl) (by kernel_rfl) trivial (fun w0 X X0 σ0 => by refine po_evs (T := tab) 1 rfl rfl ?_; refine po_nil ?_; exact pn_end0 ⟨rfl, trivial⟩ trivial rfl) ?_
      refine pdv_step0 [56, 64] [66] [] [] [] [(33, .v (.bool (decide ((mget l6 y7 0) > 0))))] [] rfl rfl rfl rfl (by kernel_rfl) (by kernel_rfl) (by kernel_rfl) trivial (fun w0 X X0 σ0 => by refine po_evs (T := tab) 1 rfl rfl ?_; refine po_nil ?_; exact pn_end0 ⟨rfl, trivial⟩ trivial rfl) ?_
      refine pdv_step0 [66] [68] [] [] [] [(34, .v (.bool (decide ((mget l6 y7 0) > 0))))] [] rfl rfl rfl rfl (by kernel_rfl) (by kernel_rfl) (by kernel_rfl) trivial (fun w0 X X0 σ0 => by refine po_evs (T := tab) 1 rfl rfl ?_; refine po_nil ?_; exact pn_end0 ⟨rfl, trivial⟩ trivial rfl) ?_
      refine pdv_split (t := 34) rfl ?_ ?_
      · refine pdv_step0 [68] [70] [] [] [] [(35, .tup [])] [] rfl rfl rfl rfl (by kernel_rfl) (by kernel_rfl) (by kernel_rfl) trivial (fun w0 X X0 σ0 => by refine po_evs (T := tab) 1 rfl rfl ?_; refine po_nil ?_; exact pn_end0 ⟨rfl, trivial⟩ trivial rfl) ?_
        refine pdv_step0 [68] [72] [] [] [] [(36, .tup [])] [] rfl rfl rfl rfl (by kernel_rfl) (by kernel_rfl) (by kernel_rfl) trivial (fun w0 X X0 σ0 => by refine po_evs (T := tab) 1 rfl rfl ?_; refine po_nil ?_; exact pn_end0 ⟨rfl, trivial⟩ trivial rfl) ?_
        refine pdv_step0 [68] [74] [] [] [] [(37, .tup [])] [] rfl rfl rfl rfl (by kernel_rfl) (by kernel_rfl) (by kernel_rfl) trivial (fun w0 X X0 σ0 => by refine po_evs (T := tab) 1 rfl rfl ?_; refine po_nil ?_; exact pn_end0 ⟨rfl, trivial⟩ trivial rfl) ?_
        refine pdv_step0 [68] [76] [] [] [] [(38, .tup [])] [] rfl rfl rfl rfl (by kernel_rfl) (by kernel_rfl) (by kernel_rfl) trivial (fun w0 X X0 σ0 => by refine po_evs (T := tab) 1 rfl rfl ?_; refine po_nil ?_; exact pn_end0 ⟨rfl, trivial⟩ trivial rfl) ?_
        refine pdv_step0 [68] [78] [] [] [] [(39, .tup [])] [] rfl rfl rfl rfl (by kernel_rfl) (by kernel_rfl) (by kernel_rfl) trivial (fun w0 X X0 σ0 => by refine po_evs (T := tab) 1 rfl rfl ?_; refine po_nil ?_; exact pn_end0 ⟨rfl, trivial⟩ trivial rfl) ?_
        refine pdv_step0 [68] [80] [] [] [] [(40, .tup [])] [] rfl rfl rfl rfl (by kernel_rfl) (by kernel_rfl) (by kernel_rfl) trivial (fun w0 X X0 σ0 => by refine po_evs (T := tab) 1 rfl rfl ?_; refine po_nil ?_; exact pn_end0 ⟨rfl, trivial⟩ trivial rfl) ?_
        refine pdv_step0 [68] [82] [] [] [] [(41, .tup [])] [] rfl rfl rfl rfl (by kernel_rfl) (by kernel_rfl) (by kernel_rfl) trivial (fun w0 X X0 σ0 => by refine po_evs (T := tab) 1 rfl rfl ?_; refine po_nil ?_; exact pn_end0 ⟨rfl, trivial⟩ trivial rfl) ?_
        refine pdv_step0 [68] [84] [] [] [] [(42, .tup [])] [] rfl rfl rfl rfl (by kernel_rfl) (by kernel_rfl) (by kernel_rfl) trivial (fun w0 X X0 σ0 => by refine po_evs (T := tab) 1 rfl rfl ?_; refine po_nil ?_; exact pn_end0 ⟨rfl, trivial⟩ trivial rfl) ?_
        refine pdv_step0 [68] [86] [] [] [] [(43, .tup [])] [] rfl rfl rfl rfl (by kernel_rfl) (by kernel_rfl) (by kernel_rfl) trivial (fun w0 X X0 σ0 => by refine po_evs (T := tab) 1 rfl rfl ?_; refine po_nil ?_; exact pn_end0 ⟨rfl, trivial⟩ trivial rfl) ?_
        refine pdv_step0 [68, 86] [88] [] [] [] [(44, .v (.bool true))] [] rfl rfl rfl rfl (by kernel_rfl) (by kernel_rfl) (by kernel_rfl) trivial (fun w0 X X0 σ0 => by refine po_evs (T := tab) 1 rfl rfl ?_; refine po_nil ?_; exact pn_end0 ⟨rfl, trivial⟩ trivial rfl) ?_
        refine pdv_step0 [88] [90] [] [] [] [(45, .v (.bool true))] [] rfl rfl rfl rfl (by kernel_rfl) (by kernel_rfl) (by kernel_rfl) trivial (fun w0 X X0 σ0 => by refine po_evs (T := tab) 1 rfl rfl ?_; refine po_nil ?_; exact pn_end0 ⟨rfl, trivial⟩ trivial rfl) ?_
        refine pdv_step0 [90] [92] [] [] [] [(46, .tup [])] [] rfl rfl rfl rfl (by kernel_rfl) (by kernel_rfl) (by kernel_rfl) trivial (fun w0 X X0 σ0 => by refine po_evs (T := tab) 1 rfl rfl ?_; refine po_nil ?_; exact pn_end0 ⟨rfl, trivial⟩ trivial rfl) ?_
        refine pdv_step0 [90] [94] [] [] [] [(47, .tup [])] [] rfl rfl rfl rfl (by kernel_rfl) (by kernel_rfl) (by kernel_rfl) trivial (fun w0 X X0 σ0 => by refine po_evs (T := tab) 1 rfl rfl ?_; refine po_nil ?_; exact pn_end0 ⟨rfl, trivial⟩ trivial rfl) ?_
        refine pdv_step0 [90] [96] [] [] [] [(48, .tup [])] [] rfl rfl rfl rfl (by kernel_rfl) (by kernel_rfl) (by kernel_rfl) trivial (fun w0 X X0 σ0 => by refine po_evs (T := tab) 1 rfl rfl ?_; refine po_nil ?_; exact pn_end0 ⟨rfl, trivial⟩ trivial rfl) ?_
        refine pdv_step0 [90] [98] [] [] [] [(49, .tup [])] [] rfl rfl rfl rfl (by kernel_rfl) (by kernel_rfl) (by kernel_rfl) trivial (fun w0 X X0 σ0 => by refine po_evs (T := tab) 1 rfl rfl ?_; refine po_nil ?_; exact pn_end0 ⟨rfl, trivial⟩ trivial rfl) ?_
        refine pdv_step0 [90] [100] [] [] [] [(50, .tup [])] [] rfl rfl rfl rfl (by kernel_rfl) (by kernel_rfl) (by kernel_rfl) trivial (fun w0 X X0 σ0 => by refine po_evs (T := tab) 1 rfl rfl ?_; refine po_nil ?_; exact pn_end0 ⟨rfl, trivial⟩ trivial rfl) ?_
        refine pdv_step0 [90] [102] [] [] [] [(51, .tup [])] [] rfl rfl rfl rfl (by kernel_rfl) (by kernel_rfl) (by kernel_rfl) trivial (fun w0 X X0 σ0 => by refine po_evs (T := tab) 1 rfl rfl ?_; refine po_nil ?_; exact pn_end0 ⟨rfl, trivial⟩ trivial rfl) ?_
        refine pdv_step0 [90] [104] [] [] [] [(52, .tup [])] [] rfl rfl rfl rfl (by kernel_rfl) (by kernel_rfl) (by kernel_rfl) trivial (fun w0 X X0 σ0 => by refine po_evs (T := tab) 1 rfl rfl ?_; refine po_nil ?_; exact pn_end0 ⟨rfl, trivial⟩ trivial rfl) ?_
        refine pdv_step0 [90] [106] [] [] [] [(53, .tup [])] [] rfl rfl rfl rfl (by kernel_rfl) (by kernel_rfl) (by kernel_rfl) trivial (fun w0 X X0 σ0 => by refine po_evs (T := tab) 1 rfl rfl ?_; refine po_nil ?_; exact pn_end0 ⟨rfl, trivial⟩ trivial rfl) ?_
        refine pdv_step0 [90] [108] [] [] [] [(54, .tup [])] [] rfl rfl rfl rfl (by kernel_rfl) (by kernel_rfl) (by kernel_rfl) trivial (fun w0 X X0 σ0 => by refine po_evs (T := tab) 1 rfl rfl ?_; refine po_nil ?_; exact pn_end0 ⟨rfl, trivial⟩ trivial rfl) ?_
        refine pdv_step0 [90] [110] [] [] [] [(55, .tup [])] [] rfl rfl rfl rfl (by kernel_rfl) (by kernel_rfl) (by kernel_rfl) trivial (fun w0 X X0 σ0 => by refine po_evs (T := tab) 1 rfl rfl ?_; refine po_nil ?_; exact pn_end0 ⟨rfl, trivial⟩ trivial rfl) ?_
        refine pdv_step0 [90, 110] [112] [] [] [] [(56, .v (.bool true))] [] rfl rfl rfl rfl (by kernel_rfl) (by kernel_rfl) (by kernel_rfl) trivial (fun w0 X X0 σ0 => by refine po_evs (T := tab) 1 rfl rfl ?_; refine po_nil ?_; exact pn_end0 ⟨rfl, trivial⟩ trivial rfl) ?_
        refine pdv_nil rfl rfl ?_
        refine pn_seq (pw_then rfl ?_)
        refine pw_seq ?_
        refine pw_region ?_
        refine po_evs (T := tab) 1 rfl rfl ?_
        refine po_nil ?_
        refine pn_seq ?_
        exact pw_retN (T := tab) rfl rfl rfl ⟨rfl, rfl⟩ trivial rfl
      · refine pdv_step0 [4, 68] [70] [] [2] [] [(35, .loc 2 0)] [] rfl rfl rfl rfl (by kernel_rfl) (by kernel_rfl) (by kernel_rfl) trivial (fun w0 X X0 σ0 => by refine po_evs (T := tab) 1 rfl rfl ?_; refine po_nil ?_; exact pn_end0 ⟨rfl, trivial⟩ trivial rfl) ?_
        refine pdv_step0 [68, 70] [72] [] [2] [] [(36, .loc 2 0)] [] rfl rfl rfl rfl (by kernel_rfl) (by kernel_rfl) (by kernel_rfl) trivial (fun w0 X X0 σ0 => by refine po_evs (T := tab) 1 rfl rfl ?_; refine po_nil ?_; exact pn_end0 ⟨rfl, trivial⟩ trivial rfl) ?_
        refine pdv_step0 [5, 68, 72] [74] [] [2] [2] [(37, .sl 10 false (v1.Forest.Nodes.map cNode))] [(2, .box [.sl 10 false (v1.Forest.Nodes.map cNode), .v (.int .i64 v1.Forest.Most)])] rfl rfl rfl rfl (by kernel_rfl) (by kernel_rfl) (by kernel_rfl) ⟨rfl, trivial⟩ (fun w0 X X0 σ0 => by refine po_evs (T := tab) 1 rfl rfl ?_; refine po_nil ?_; exact pn_end0 ⟨rfl, trivial⟩ ⟨rfl, trivial⟩ rfl) ?_
        refine pdv_step0 [18, 68] [76] [] [] [] [(38, .v (.int .i64 y7))] [] rfl rfl rfl rfl (by kernel_rfl) (by kernel_rfl) (by kernel_rfl) trivial (fun w0 X X0 σ0 => by refine po_evs (T := tab) 1 rfl rfl ?_; refine po_nil ?_; exact pn_end0 ⟨rfl, trivial⟩ trivial rfl) ?_
        refine pdv_step (M := (idx v1.Forest.Nodes y7)) (ment := [(78, [])]) [68, 74, 76] [78] [] [] [] (fun y9 => [(39, .el (cNode y9) 0)]) (fun y9 => []) rfl rfl (fun _ => rfl) (fun _ => rfl) (by kernel_rfl) (by kernel_rfl) (fun _ => by kernel_rfl) (fun _ => trivial) (fun w0 X X0 σ0 => by refine po_idx (T := tab) cNode v1.Forest.Nodes rfl rfl rfl rfl rfl rfl rfl fun y9 hy9 => ?_; refine po_nil ?_; exact pn_end ⟨rfl, trivial⟩ trivial rfl) fun y9 hy9 => ?_
        refine pdv_step0 [68, 78] [80] [] [] [] [(40, .el (cNode y9) 5)] [] rfl rfl rfl rfl (by kernel_rfl) (by kernel_rfl) (by kernel_rfl) trivial (fun w0 X X0 σ0 => by refine po_evs (T := tab) 1 rfl rfl ?_; refine po_nil ?_; exact pn_end0 ⟨rfl, trivial⟩ trivial rfl) ?_
        refine pdv_step0 [68, 80] [82] [] [] [] [(41, .v (.int .i64 y9.Parent))] [] rfl rfl rfl rfl (by kernel_rfl) (by kernel_rfl) (by kernel_rfl) trivial (fun w0 X X0 σ0 => by refine po_evs (T := tab) 1 rfl rfl ?_; refine po_nil ?_; exact pn_end0 ⟨rfl, trivial⟩ trivial rfl) ?_
        refine pdv_step0 [2, 68] [84] [] [] [] [(42, .v (.int .i64 n2))] [] rfl rfl rfl rfl (by kernel_rfl) (by kernel_rfl) (by kernel_rfl) trivial (fun w0 X X0 σ0 => by refine po_evs (T := tab) 1 rfl rfl ?_; refine po_nil ?_; exact pn_end0 ⟨rfl, trivial⟩ trivial rfl) ?_
        refine pdv_step0 [68, 82, 84] [86] [] [] [] [(43, .v (.bool (y9.Parent != n2)))] [] rfl rfl rfl rfl (by kernel_rfl) (by kernel_rfl) (by kernel_rfl) trivial (fun w0 X X0 σ0 => by refine po_evs (T := tab) 1 rfl rfl ?_; refine po_nil ?_; exact pn_end0 ⟨rfl, trivial⟩ trivial rfl) ?_
        refine pdv_step0 [68, 86] [88] [] [] [] [(44, .v (.bool (y9.Parent != n2)))] [] rfl rfl rfl rfl (by kernel_rfl) (by kernel_rfl) (by kernel_rfl) trivial (fun w0 X X0 σ0 => by refine po_evs (T := tab) 1 rfl rfl ?_; refine po_nil ?_; exact pn_end0 ⟨rfl, trivial⟩ trivial rfl) ?_
        refine pdv_step0 [88] [90] [] [] [] [(45, .v (.bool (y9.Parent != n2)))] [] rfl rfl rfl rfl (by kernel_rfl) (by kernel_rfl) (by kernel_rfl) trivial (fun w0 X X0 σ0 => by refine po_evs (T := tab) 1 rfl rfl ?_; refine po_nil ?_; exact pn_end0 ⟨rfl, trivial⟩ trivial rfl) ?_
        refine pdv_split (t := 45) rfl ?_ ?_
        · refine pdv_step0 [90] [92] [] [] [] [(46, .tup [])] [] rfl rfl rfl rfl (by kernel_rfl) (by kernel_rfl) (by kernel_rfl) trivial (fun w0 X X0 σ0 => by refine po_evs (T := tab) 1 rfl rfl ?_; refine po_nil ?_; exact pn_end0 ⟨rfl, trivial⟩ trivial rfl) ?_
          refine pdv_step0 [90] [94] [] [] [] [(47, .tup [])] [] rfl rfl rfl rfl (by kernel_rfl) (by kernel_rfl) (by kernel_rfl) trivial (fun w0 X X0 σ0 => by refine po_evs (T := tab) 1 rfl rfl ?_; refine po_nil ?_; exact pn_end0 ⟨rfl, trivial⟩ trivial rfl) ?_
          refine pdv_step0 [90] [96] [] [] [] [(48, .tup [])] [] rfl rfl rfl rfl (by kernel_rfl) (by kernel_rfl) (by kernel_rfl) trivial (fun w0 X X0 σ0 => by refine po_evs (T := tab) 1 rfl rfl ?_; refine po_nil ?_; exact pn_end0 ⟨rfl, trivial⟩ trivial rfl) ?_
          refine pdv_step0 [90] [98] [] [] [] [(49, .tup [])] [] rfl rfl rfl rfl (by kernel_rfl) (by kernel_rfl) (by kernel_rfl) trivial (fun w0 X X0 σ0 => by refine po_evs (T := tab) 1 rfl rfl ?_; refine po_nil ?_; exact pn_end0 ⟨rfl, trivial⟩ trivial rfl) ?_
          refine pdv_step0 [90] [100] [] [] [] [(50, .tup [])] [] rfl rfl rfl rfl (by kernel_rfl) (by kernel_rfl) (by kernel_rfl) trivial (fun w0 X X0 σ0 => by refine po_evs (T := tab) 1 rfl rfl ?_; refine po_nil ?_; exact pn_end0 ⟨rfl, trivial⟩ trivial rfl) ?_
          refine pdv_step0 [90] [102] [] [] [] [(51, .tup [])] [] rfl rfl rfl rfl (by kernel_rfl) (by kernel_rfl) (by kernel_rfl) trivial (fun w0 X X0 σ0 => by refine po_evs (T := tab) 1 rfl rfl ?_; refine po_nil ?_; exact pn_end0 ⟨rfl, trivial⟩ trivial rfl) ?_
          refine pdv_step0 [90] [104] [] [] [] [(52, .tup [])] [] rfl rfl rfl rfl (by kernel_rfl) (by kernel_rfl) (by kernel_rfl) trivial (fun w0 X X0 σ0 => by refine po_evs (T := tab) 1 rfl rfl ?_; refine po_nil ?_; exact pn_end0 ⟨rfl, trivial⟩ trivial rfl) ?_
          refine pdv_step0 [90] [106] [] [] [] [(53, .tup [])] [] rfl rfl rfl rfl (by kernel_rfl) (by kernel_rfl) (by kernel_rfl) trivial (fun w0 X X0 σ0 => by refine po_evs (T := tab) 1 rfl rfl ?_; refine po_nil ?_; exact pn_end0 ⟨rfl, trivial⟩ trivial rfl) ?_
          refine pdv_step0 [90] [108] [] [] [] [(54, .tup [])] [] rfl rfl rfl rfl (by kernel_rfl) (by kernel_rfl) (by kernel_rfl) trivial (fun w0 X X0 σ0 => by refine po_evs (T := tab) 1 rfl rfl ?_; refine po_nil ?_; exact pn_end0 ⟨rfl, trivial⟩ trivial rfl) ?_
          refine pdv_step0 [90] [110] [] [] [] [(55, .tup [])] [] rfl rfl rfl rfl (by kernel_rfl) (by kernel_rfl) (by kernel_rfl) trivial (fun w0 X X0 σ0 => by refine po_evs (T := tab) 1 rfl rfl ?_; refine po_nil ?_; exact pn_end0 ⟨rfl, trivial⟩ trivial rfl) ?_
          refine pdv_step0 [90, 110] [112] [] [] [] [(56, .v (.bool true))] [] rfl rfl rfl rfl (by kernel_rfl) (by kernel_rfl) (by kernel_rfl) trivial (fun w0 X X0 σ0 => by refine po_evs (T := tab) 1 rfl rfl ?_; refine po_nil ?_; exact pn_end0 ⟨rfl, trivial⟩ trivial rfl) ?_
          refine pdv_nil rfl rfl ?_
          refine pn_seq (pw_then rfl ?_)
          refine pw_seq ?_
          refine pw_region ?_
          refine po_evs (T := tab) 1 rfl rfl ?_
          refine po_nil ?_
          refine pn_seq ?_
          exact pw_retN (T := tab) rfl rfl rfl ⟨rfl, rfl⟩ trivial rfl
        · refine pdv_step0 [4, 90] [92] [] [2] [] [(46, .loc 2 0)] [] rfl rfl rfl rfl (by kernel_rfl) (by kernel_rfl) (by kernel_rfl) trivial (fun w0 X X0 σ0 => by refine po_evs (T := tab) 1 rfl rfl ?_; refine po_nil ?_; exact pn_end0 ⟨rfl, trivial⟩ trivial rfl) ?_
          refine pdv_step0 [90, 92] [94] [] [2] [] [(47, .loc 2 0)] [] rfl rfl rfl rfl (by kernel_rfl) (by kernel_rfl) (by kernel_rfl) trivial (fun w0 X X0 σ0 => by refine po_evs (T := tab) 1 rfl rfl ?_; refine po_nil ?_; exact pn_end0 ⟨rfl, trivial⟩ trivial rfl) ?_
          refine pdv_step0 [5, 90, 94] [96] [] [2] [2] [(48, .sl 10 false (v1.Forest.Nodes.map cNode))] [(2, .box [.sl 10 false (v1.Forest.Nodes.map cNode), .v (.int .i64 v1.Forest.Most)])] rfl rfl rfl rfl (by kernel_rfl) (by kernel_rfl) (by kernel_rfl) ⟨rfl, trivial⟩ (fun w0 X X0 σ0 => by refine po_evs (T := tab) 1 rfl rfl ?_; refine po_nil ?_; exact pn_end0 ⟨rfl, trivial⟩ ⟨rfl, trivial⟩ rfl) ?_
          refine pdv_step0 [18, 90] [98] [] [] [] [(49, .v (.int .i64 y7))] [] rfl rfl rfl rfl (by kernel_rfl) (by kernel_rfl) (by kernel_rfl) trivial (fun w0 X X0 σ0 => by refine po_evs (T := tab) 1 rfl rfl ?_; refine po_nil ?_; exact pn_end0 ⟨rfl, trivial⟩ trivial rfl) ?_
          refine pdv_step (M := (idx v1.Forest.Nodes y7)) (ment := [(100, [])]) [90, 96, 98] [100] [] [] [] (fun y10 => [(50, .el (cNode y10) 0)]) (fun y10 => []) rfl rfl (fun _ => rfl) (fun _ => rfl) (by kernel_rfl) (by kernel_rfl) (fun _ => by kernel_rfl) (fun _ => trivial) (fun w0 X X0 σ0 => by refine po_idx (T := tab) cNode v1.Forest.Nodes rfl rfl rfl rfl rfl rfl rfl fun y10 hy10 => ?_; refine po_nil ?_; exact pn_end ⟨rfl, trivial⟩ trivial rfl) fun y10 hy10 => ?_
          refine pdv_step0 [90, 100] [102] [] [] [] [(51, .el (cNode y10) 9)] [] rfl rfl rfl rfl (by kernel_rfl) (by kernel_rfl) (by kernel_rfl) trivial (fun w0 X X0 σ0 => by refine po_evs (T := tab) 1 rfl rfl ?_; refine po_nil ?_; exact pn_end0 ⟨rfl, trivial⟩ trivial rfl) ?_
          refine pdv_step0 [90, 102] [104] [] [] [] [(52, .v (.int .i64 y10.Doc))] [] rfl rfl rfl rfl (by kernel_rfl) (by kernel_rfl) (by kernel_rfl) trivial (fun w0 X X0 σ0 => by refine po_evs (T := tab) 1 rfl rfl ?_; refine po_nil ?_; exact pn_end0 ⟨rfl, trivial⟩ trivial rfl) ?_
          refine pdv_step0 [10, 90] [106] [] [5] [] [(53, .loc 5 9)] [] rfl rfl rfl rfl (by kernel_rfl) (by kernel_rfl) (by kernel_rfl) trivial (fun w0 X X0 σ0 => by refine po_evs (T := tab) 1 rfl rfl ?_; refine po_nil ?_; exact pn_end0 ⟨rfl, trivial⟩ trivial rfl) ?_
          refine pdv_step0 [11, 90, 106] [108] [] [5] [5] [(54, .v (.int .i64 y3.Doc))] [(5, .box [.v (.int .i64 y3.Kind), .v (.string ⟨⟨y3.Name⟩⟩), .v (.string ⟨⟨y3.Is⟩⟩), .v (.string ⟨⟨y3.Data⟩⟩), .sl 2 false (y3.Attrs.map cAttr), .v (.int .i64 y3.Parent), .sl 1 false (y3.Kids.map cInt_i64), .v (.int .i64 y3.Host), .v (.int .i64 y3.Under), .v (.int .i64 y3.Doc)])] rfl rfl rfl rfl (by kernel_rfl) (by kernel_rfl) (by kernel_rfl) ⟨rfl, trivial⟩ (fun w0 X X0 σ0 => by refine po_evs (T := tab) 1 rfl rfl ?_; refine po_nil ?_; exact pn_end0 ⟨rfl, trivial⟩ ⟨rfl, trivial⟩ rfl) ?_
          refine pdv_step0 [90, 104, 108] [110] [] [] [] [(55, .v (.bool (y10.Doc != y3.Doc)))] [] rfl rfl rfl rfl (by kernel_rfl) (by kernel_rfl) (by kernel_rfl) trivial (fun w0 X X0 σ0 => by refine po_evs (T := tab) 1 rfl rfl ?_; refine po_nil ?_; exact pn_end0 ⟨rfl, trivial⟩ trivial rfl) ?_
          refine pdv_step0 [90, 110] [112] [] [] [] [(56, .v (.bool (y10.Doc != y3.Doc)))] [] rfl rfl rfl rfl (by kernel_rfl) (by kernel_rfl) (by kernel_rfl) trivial (fun w0 X X0 σ0 => by refine po_evs (T := tab) 1 rfl rfl ?_; refine po_nil ?_; exact pn_end0 ⟨rfl, trivial⟩ trivial rfl) ?_
          refine pdv_nil rfl rfl ?_
          refine pn_seq ?_
          refine pw_cnd rfl ?_ ?_
          · refine pw_seq ?_
            refine pw_region ?_
            refine po_evs (T := tab) 1 rfl rfl ?_
            refine po_nil ?_
            refine pn_seq ?_
            exact pw_retN (T := tab) rfl rfl rfl ⟨rfl, rfl⟩ trivial rfl
          · refine pw_skip ?_
            refine pn_seq ?_
            refine pw_seq ?_
            refine pw_region ?_
            refine po_evs (T := tab) 2 rfl rfl ?_
            refine po_lookup (T := tab) (keyI_enc .i64) (fun v => .v (.int .i64 v)) l6 y7 0 Try.underlying98 Try.underlying3 rfl rfl rfl rfl rfl rfl rfl rfl rfl rfl ?_
            refine po_arith' (T := tab) rfl rfl rfl rfl fun i11 hi11 => ?_
            refine po_mapUpdate (keyI_enc .i64) (fun v => .v (.int .i64 v)) l6 y7 i11 Try.underlying98 Try.underlying3 rfl rfl rfl rfl rfl rfl rfl rfl rfl ?_
            refine po_nil ?_
            refine pn_seq ?_
            refine pw_seq ?_
            refine pw_region ?_
            refine po_evs (T := tab) 4 rfl rfl ?_
            refine po_idx (T := tab) cNode v1.Forest.Nodes rfl rfl rfl rfl rfl rfl rfl fun y12 hy12 => ?_
            refine po_evs (T := tab) 2 rfl rfl ?_
            refine po_nil ?_
            refine pn_seq ?_
            refine pw_block ?_
            refine pw_seq ?_
            refine pw_region ?_
            refine po_evs (T := tab) 2 rfl rfl ?_
            refine po_nil ?_
            refine pn_seq ?_
            refine pw_cnd rfl ?_ ?_
            · refine pw_region ?_
              refine po_evs (T := tab) 1 rfl rfl ?_
              refine po_arith' (T := tab) rfl rfl rfl rfl fun i13 hi13 => ?_
              refine po_evs (T := tab) 1 rfl rfl ?_
              refine po_nil ?_
              refine pn_block ?_
              refine pn_block ?_
              refine pn_seq ?_
              refine pw_region ?_
              refine po_arith' (T := tab) rfl rfl rfl rfl fun i14 hi14 => ?_
              refine po_evs (T := tab) 1 rfl rfl ?_
              refine po_nil ?_
              exact pn_iter' (i13, i14, (mput l6 y7 i11)) ⟨rfl, rfl, rfl, rfl, rfl, rfl, rfl, rfl, trivial⟩ ⟨rfl, rfl, rfl, trivial⟩ rfl
            · refine pw_seq ?_
              refine pw_region ?_
              refine po_evs (T := tab) 2 rfl rfl ?_
              refine po_nil ?_
              refine pn_seq ?_
              refine pw_cnd rfl ?_ ?_
              · refine pw_seq ?_
                refine pw_region ?_
                refine po_evs (T := tab) 3 rfl rfl ?_
                refine po_nil ?_
                refine pn_seq ?_
                refine pw_cnd rfl ?_ ?_
                · refine pw_seq ?_
                  refine pw_region ?_
                  refine po_evs (T := tab) 1 rfl rfl ?_
                  refine po_nil ?_
                  refine pn_seq ?_
                  exact pw_retN (T := tab) rfl rfl rfl ⟨rfl, rfl⟩ trivial rfl
                · refine pw_skip ?_
                  refine pn_block ?_
                  refine pn_block ?_
                  refine pn_seq ?_
                  refine pw_region ?_
                  refine po_arith' (T := tab) rfl rfl rfl rfl fun i15 hi15 => ?_
                  refine po_evs (T := tab) 1 rfl rfl ?_
                  refine po_nil ?_
                  exact pn_iter' (elems4, i15, (mput l6 y7 i11)) ⟨rfl, rfl, rfl, rfl, rfl, rfl, rfl, rfl, trivial⟩ ⟨rfl, rfl, rfl, trivial⟩ rfl
              · refine pw_seq ?_
                refine pw_region ?_
                refine po_evs (T := tab) 1 rfl rfl ?_
                refine po_nil ?_
                refine pn_seq ?_
                exact pw_retN (T := tab) rfl rfl rfl ⟨rfl, rfl⟩ trivial rfl
  · refine pw_exit rfl ?_
    refine pn_seq ?_
    refine pw_seq ?_
    refine pw_region ?_
    refine po_evs (T := tab) 2 rfl rfl ?_
    refine po_call (enc := fun (r16 : Bool) => .v (.bool r16)) (qs := [.v (.int .i64 y3.Kind)]) (Forest_holder_ok fu y3.Kind) rfl rfl ⟨⟨_, rfl, .rfl⟩, trivial⟩ (fun _ => rfl) call110 rfl rfl fun r16 hr16 => ?_
    refine po_evs (T := tab) 1 rfl rfl ?_
    refine po_split (j := 81) rfl ?_ ?_
    · refine po_evs (T := tab) 10 rfl rfl ?_
      refine po_split (j := 91) rfl ?_ ?_
      · refine po_evs (T := tab) 5 rfl rfl ?_
        refine po_nil ?_
        refine pn_seq ?_
        exact pw_retN (T := tab) rfl rfl rfl ⟨rfl, rfl⟩ trivial rfl
      · refine po_evs (T := tab) 5 rfl rfl ?_
        refine po_nil ?_
        refine pn_seq ?_
        exact pw_retN (T := tab) rfl rfl rfl ⟨rfl, rfl⟩ trivial rfl
    · refine po_evs (T := tab) 2 rfl rfl ?_
      refine po_len (T := tab) cInt_i64 y3.Kids rfl rfl rfl rfl rfl rfl rfl rfl ?_
      refine po_evs (T := tab) 3 rfl rfl ?_
      refine po_split (j := 87) rfl ?_ ?_
      · refine po_evs (T := tab) 4 rfl rfl ?_
        refine po_split (j := 91) rfl ?_ ?_
        · refine po_evs (T := tab) 5 rfl rfl ?_
          refine po_nil ?_
          refine pn_seq ?_
          exact pw_retN (T := tab) rfl rfl rfl ⟨rfl, rfl⟩ trivial rfl
        · refine po_evs (T := tab) 5 rfl rfl ?_
          refine po_nil ?_
          refine pn_seq ?_
          exact pw_retN (T := tab) rfl rfl rfl ⟨rfl, rfl⟩ trivial rfl
      · refine po_evs (T := tab) 9 rfl rfl ?_
        refine po_nil ?_
        refine pn_seq ?_
        exact pw_retN (T := tab) rfl rfl rfl ⟨rfl, rfl⟩ trivial rfl

def Forest_view_shaded_j2 (host7 : Bool) (under10 : Bool) : Option Bool := cnd host7 (some under10) (some false)

def Forest_view_shaded_j1 (fu : Nat) (v1 : Forest_view) (n2 : Int) (y3 : Node) (host7 : Bool) : Option Bool := cnd (y3.Under == (-1)) ((Forest_view_shaded_j2 host7) true) (cnd (y3.Kind == 1) (bnd (Forest_view_is_m fu v1 y3.Under 4) fun r8 => cnd r8 (bnd (idx v1.Forest.Nodes y3.Under) fun y9 => (Forest_view_shaded_j2 host7) (y9.Host == n2)) ((Forest_view_shaded_j2 host7) false)) ((Forest_view_shaded_j2 host7) false))

def Forest_view_shaded_m (fu : Nat) (v1 : Forest_view) (n2 : Int) : Option Bool := bnd (idx v1.Forest.Nodes n2) fun y3 => cnd (y3.Kind == 4) (bnd (Forest_view_is_m fu v1 y3.Host 1) fun r4 => cnd r4 (bnd (idx v1.Forest.Nodes y3.Host) fun y5 => cnd (y5.Under == n2) (bnd (idx v1.Forest.Nodes y3.Host) fun y6 => (Forest_view_shaded_j1 fu v1 n2 y3) (y6.Doc == y3.Doc)) ((Forest_view_shaded_j1 fu v1 n2 y3) false)) ((Forest_view_shaded_j1 fu v1 n2 y3) false)) ((Forest_view_shaded_j1 fu v1 n2 y3) (y3.Host == (-1)))

set_option maxHeartbeats 10000000 in
set_option maxRecDepth 100000 in
theorem Forest_view_shaded_ok (fu : Nat) (v1 : Forest_view) (n2 : Int) : ∀ r, Forest_view_shaded_m fu v1 n2 = some r → DC Try.prog 89 [.agg (cForest_view v1), .v (.int .i64 n2)] (.v (.bool r)) := by
  intro r hr
  refine fc_intro (args := [.agg (cForest_view v1), .v (.int .i64 n2)]) (S := []) (N0 := []) (post := fun r p S => p = .v (.bool r) ∧ S = []) Try.func89 rfl rfl hr fun w0 X X0 σ0 => ?_
  refine pw_seq ?_
  refine pw_region ?_
  refine po_box  2 rfl rfl rfl rfl rfl rfl rfl rfl rfl rfl ?_
  refine po_evs (T := tab) 1 rfl rfl ?_
  refine po_nil ?_
  refine pn_seq ?_
  refine pw_seq ?_
  refine pw_region ?_
  refine po_evs (T := tab) 4 rfl rfl ?_
  refine po_idx (T := tab) cNode v1.Forest.Nodes rfl rfl rfl rfl rfl rfl rfl fun y3 hy3 => ?_
  refine po_evs (T := tab) 1 rfl rfl ?_
  refine po_alloc (T := tab) 5 rfl rfl rfl rfl rfl rfl rfl rfl rfl ?_
  refine po_store (T := tab) rfl rfl rfl rfl rfl rfl rfl rfl rfl rfl rfl rfl ?_
  refine po_nil ?_
  refine pn_seq ?_
  refine pw_seq ?_
  refine pw_region ?_
  refine po_evs (T := tab) 4 rfl rfl ?_
  refine po_nil ?_
  refine pn_seq ?_
  refine pw_seq ?_
  refine pw_seq ?_
  refine pw_region ?_
  refine po_evs (T := tab) 3 rfl rfl ?_
  refine po_nil ?_
  refine pn_seq ?_
  refine pw_joinK (Forest_view_shaded_j1 fu v1 n2 y3) (fun (host7 : Bool) => [(1, .v (.int .i64 n2)), (2, .loc 2 0), (5, .loc 5 0), (6, .v (.bool host7))]) (fun (host7 : Bool) => [(5, .box [.v (.int .i64 y3.Kind), .v (.string ⟨⟨y3.Name⟩⟩), .v (.string ⟨⟨y3.Is⟩⟩), .v (.string ⟨⟨y3.Data⟩⟩), .sl 2 false (y3.Attrs.map cAttr), .v (.int .i64 y3.Parent), .sl 1 false (y3.Kids.map cInt_i64), .v (.int .i64 y3.Host), .v (.int .i64 y3.Under), .v (.int .i64 y3.Doc)]), (2, .box [.sl 10 false (v1.Forest.Nodes.map cNode), .v (.int .i64 v1.Forest.Most)])]) ?_ fun hj1 => ?_
  · rintro host7
    refine pn_seq ?_
    refine pw_seq ?_
    refine pw_region ?_
    refine po_joinK (Forest_view_shaded_j2 host7) (fun (under10 : Bool) => [(6, .v (.bool host7)), (7, .v (.bool under10))]) (fun (under10 : Bool) => []) ?_ fun hj2 => ?_
    · rintro under10
      refine pn_seq ?_
      refine pw_seq ?_
      refine pw_region ?_
      refine po_evs (T := tab) 2 rfl rfl ?_
      refine po_split (j := 76) rfl ?_ ?_
      · refine po_evs (T := tab) 3 rfl rfl ?_
        refine po_nil ?_
        refine pn_seq ?_
        exact pw_retN (T := tab) rfl rfl rfl ⟨rfl, rfl⟩ trivial rfl
      · refine po_evs (T := tab) 3 rfl rfl ?_
        refine po_nil ?_
        refine pn_seq ?_
        exact pw_retN (T := tab) rfl rfl rfl ⟨rfl, rfl⟩ trivial rfl
    · refine po_evs (T := tab) 4 rfl rfl ?_
      refine po_split (j := 52) rfl ?_ ?_
      · refine po_evs (T := tab) 23 rfl rfl ?_
        refine po_nil ?_
        exact pn_sub' (hj2 true) ⟨rfl, rfl, trivial⟩ trivial rfl
      · refine po_evs (T := tab) 4 rfl rfl ?_
        refine po_split (j := 56) rfl ?_ ?_
        · refine po_evs (T := tab) 3 rfl rfl ?_
          refine po_call (enc := fun (r8 : Bool) => .v (.bool r8)) (qs := [.agg (cForest_view v1), .v (.int .i64 y3.Under), .v (.int .i64 4)]) (Forest_view_is_ok fu v1 y3.Under 4) rfl rfl ⟨⟨_, rfl, .rfl⟩, ⟨_, rfl, .rfl⟩, ⟨_, rfl, .rfl⟩, trivial⟩ (fun _ => rfl) call61 rfl rfl fun r8 hr8 => ?_
          refine po_evs (T := tab) 2 rfl rfl ?_
          refine po_split (j := 62) rfl ?_ ?_
          · refine po_evs (T := tab) 5 rfl rfl ?_
            refine po_idx (T := tab) cNode v1.Forest.Nodes rfl rfl rfl rfl rfl rfl rfl fun y9 hy9 => ?_
            refine po_evs (T := tab) 7 rfl rfl ?_
            refine po_nil ?_
            exact pn_sub' (hj2 (y9.Host == n2)) ⟨rfl, rfl, trivial⟩ trivial rfl
          · refine po_evs (T := tab) 13 rfl rfl ?_
            refine po_nil ?_
            exact pn_sub' (hj2 false) ⟨rfl, rfl, trivial⟩ trivial rfl
        · refine po_evs (T := tab) 19 rfl rfl ?_
          refine po_nil ?_
          exact pn_sub' (hj2 false) ⟨rfl, rfl, trivial⟩ trivial rfl
  · refine pw_cnd rfl ?_ ?_
    · refine pw_draw mixed (by kernel_rfl) ?_
      refine pd_evs (T := tab) 3 rfl rfl ?_
      refine pd_call (enc := fun (r4 : Bool) => .v (.bool r4)) (qs := [.agg (cForest_view v1), .v (.int .i64 y3.Host), .v (.int .i64 1)]) (Forest_view_is_ok fu v1 y3.Host 1) rfl rfl ⟨⟨_, rfl, .rfl⟩, ⟨_, rfl, .rfl⟩, ⟨_, rfl, .rfl⟩, trivial⟩ (fun _ => rfl) call61 rfl rfl fun r4 hr4 => ?_
      refine pd_evs (T := tab) 1 rfl rfl ?_
      refine pd_split (j := 24) rfl ?_ ?_
      · refine pd_evs (T := tab) 5 rfl rfl ?_
        refine pd_idx (T := tab) cNode v1.Forest.Nodes rfl rfl rfl rfl rfl rfl rfl fun y5 hy5 => ?_
        refine pd_evs (T := tab) 6 rfl rfl ?_
        refine pd_split (j := 36) rfl ?_ ?_
        · refine pd_evs (T := tab) 5 rfl rfl ?_
          refine pd_idx (T := tab) cNode v1.Forest.Nodes rfl rfl rfl rfl rfl rfl rfl fun y6 hy6 => ?_
          refine pd_evs (T := tab) 7 rfl rfl ?_
          refine pd_nil ?_
          exact pn_sub' (hj1 (y6.Doc == y3.Doc)) ⟨rfl, rfl, rfl, rfl, trivial⟩ ⟨rfl, rfl, trivial⟩ rfl
        · refine pd_evs (T := tab) 13 rfl rfl ?_
          refine pd_nil ?_
          exact pn_sub' (hj1 false) ⟨rfl, rfl, rfl, rfl, trivial⟩ ⟨rfl, rfl, trivial⟩ rfl
      · refine pd_evs (T := tab) 25 rfl rfl ?_
        refine pd_nil ?_
        exact pn_sub' (hj1 false) ⟨rfl, rfl, rfl, rfl, trivial⟩ ⟨rfl, rfl, trivial⟩ rfl
    · refine pw_skip ?_
      exact pn_sub' (hj1 (y3.Host == (-1))) ⟨rfl, rfl, rfl, rfl, trivial⟩ ⟨rfl, rfl, trivial⟩ rfl

def Forest_view_up_m (_fu : Nat) (v1 : Forest_view) (n2 : Int) : Option Int := bnd (idx v1.Forest.Nodes n2) fun y3 => cnd (y3.Parent != (-1)) (some y3.Parent) (bnd (idx v1.Forest.Nodes n2) fun y4 => some y4.Host)

set_option maxRecDepth 100000 in
theorem Forest_view_up_ok (fu : Nat) (v1 : Forest_view) (n2 : Int) : ∀ r, Forest_view_up_m fu v1 n2 = some r → DC Try.prog 112 [.agg (cForest_view v1), .v (.int .i64 n2)] (.v (.int .i64 r)) := by
  intro r hr
  refine fc_intro (args := [.agg (cForest_view v1), .v (.int .i64 n2)]) (S := []) (N0 := []) (post := fun r p S => p = .v (.int .i64 r) ∧ S = []) Try.func112 rfl rfl hr fun w0 X X0 σ0 => ?_
  refine pw_seq ?_
  refine pw_region ?_
  refine po_box  2 rfl rfl rfl rfl rfl rfl rfl rfl rfl rfl ?_
  refine po_evs (T := tab) 1 rfl rfl ?_
  refine po_nil ?_
  refine pn_seq ?_
  refine pw_seq ?_
  refine pw_seq ?_
  refine pw_region ?_
  refine po_evs (T := tab) 4 rfl rfl ?_
  refine po_idx (T := tab) cNode v1.Forest.Nodes rfl rfl rfl rfl rfl rfl rfl fun y3 hy3 => ?_
  refine po_evs (T := tab) 3 rfl rfl ?_
  refine po_nil ?_
  refine pn_seq ?_
  refine pw_seq ?_
  refine pw_region ?_
  refine po_evs (T := tab) 2 rfl rfl ?_
  refine po_nil ?_
  refine pn_seq ?_
  refine pw_cnd rfl ?_ ?_
  · refine pw_seq ?_
    refine pw_region ?_
    refine po_evs (T := tab) 2 rfl rfl ?_
    refine po_nil ?_
    refine pn_seq ?_
    exact pw_retN (T := tab) rfl rfl rfl ⟨rfl, rfl⟩ trivial rfl
  · refine pw_skip ?_
    refine pn_seq ?_
    refine pw_seq ?_
    refine pw_region ?_
    refine po_evs (T := tab) 4 rfl rfl ?_
    refine po_idx (T := tab) cNode v1.Forest.Nodes rfl rfl rfl rfl rfl rfl rfl fun y4 hy4 => ?_
    refine po_evs (T := tab) 3 rfl rfl ?_
    refine po_nil ?_
    refine pn_seq ?_
    exact pw_retN (T := tab) rfl rfl rfl ⟨rfl, rfl⟩ trivial rfl

def Forest_view_ends_l1 (fu : Nat) (v1 : Forest_view) : Nat → Int × Int → Option Bool
  | 0, _ => none
  | k1 + 1, (n3, t4) => cnd (decide (t4 < ((v1.Forest.Nodes.length : Nat) : Int))) (bnd (Forest_view_up_m fu v1 n3) fun r5 => cnd (r5 == (-1)) (some true) (bnd (rng .i64 (t4 + 1)) fun i6 => (Forest_view_ends_l1 fu v1 k1) (r5, i6))) (some false)

def Forest_view_ends_m (fu : Nat) (v1 : Forest_view) (n2 : Int) : Option Bool := (Forest_view_ends_l1 fu v1) fu (n2, 0)

set_option maxHeartbeats 10000000 in
set_option maxRecDepth 100000 in
theorem Forest_view_ends_ok (fu : Nat) (v1 : Forest_view) (n2 : Int) : ∀ r, Forest_view_ends_m fu v1 n2 = some r → DC Try.prog 90 [.agg (cForest_view v1), .v (.int .i64 n2)] (.v (.bool r)) := by
  intro r hr
  refine fc_intro (args := [.agg (cForest_view v1), .v (.int .i64 n2)]) (S := []) (N0 := []) (post := fun r p S => p = .v (.bool r) ∧ S = []) Try.func90 rfl rfl hr fun w0 X X0 σ0 => ?_
  refine pw_seq ?_
  refine pw_region ?_
  refine po_box  2 rfl rfl rfl rfl rfl rfl rfl rfl rfl rfl ?_
  refine po_evs (T := tab) 1 rfl rfl ?_
  refine po_nil ?_
  refine pn_seq ?_
  refine pw_seq ?_
  refine pw_seq ?_
  refine pw_region ?_
  refine po_evs (T := tab) 3 rfl rfl ?_
  refine po_len (T := tab) cNode v1.Forest.Nodes rfl rfl rfl rfl rfl rfl rfl rfl ?_
  refine po_evs (T := tab) 1 rfl rfl ?_
  refine po_nil ?_
  refine pn_seq ?_
  refine pw_block ?_
  refine pw_loop' (Forest_view_ends_l1 fu v1) (fun ((n3, t4) : Int × Int) => [(1, .v (.int .i64 n3)), (2, .loc 2 0), (8, .v (.int .i64 ((v1.Forest.Nodes.length : Nat) : Int))), (9, .v (.int .i64 t4))]) (fun ((n3, t4) : Int × Int) => [(2, .box [.sl 10 false (v1.Forest.Nodes.map cNode), .v (.int .i64 v1.Forest.Most)])]) fu (n2, 0) (fun _ => rfl) ⟨rfl, rfl, rfl, rfl, trivial⟩ ⟨rfl, trivial⟩ rfl ?_
  rintro k1 ⟨n3, t4⟩
  refine pw_seq ?_
  refine pw_region ?_
  refine po_evs (T := tab) 1 rfl rfl ?_
  refine po_nil ?_
  refine pn_seq ?_
  refine pw_seq ?_
  refine pw_cnd rfl ?_ ?_
  · refine pw_skip ?_
    refine pn_seq ?_
    refine pw_seq ?_
    refine pw_block ?_
    refine pw_seq ?_
    refine pw_region ?_
    refine po_evs (T := tab) 2 rfl rfl ?_
    refine po_call (enc := fun (r5 : Int) => .v (.int .i64 r5)) (qs := [.agg (cForest_view v1), .v (.int .i64 n3)]) (Forest_view_up_ok fu v1 n3) rfl rfl ⟨⟨_, rfl, .rfl⟩, ⟨_, rfl, .rfl⟩, trivial⟩ (fun _ => rfl) call112 rfl rfl fun r5 hr5 => ?_
    refine po_evs (T := tab) 1 rfl rfl ?_
    refine po_nil ?_
    refine pn_seq ?_
    refine pw_seq ?_
    refine pw_region ?_
    refine po_evs (T := tab) 2 rfl rfl ?_
    refine po_nil ?_
    refine pn_seq ?_
    refine pw_cnd rfl ?_ ?_
    · refine pw_seq ?_
      refine pw_region ?_
      refine po_evs (T := tab) 1 rfl rfl ?_
      refine po_nil ?_
      refine pn_seq ?_
      exact pw_retN (T := tab) rfl rfl rfl ⟨rfl, rfl⟩ trivial rfl
    · refine pw_skip ?_
      refine pn_block ?_
      refine pn_seq ?_
      refine pw_region ?_
      refine po_arith' (T := tab) rfl rfl rfl rfl fun i6 hi6 => ?_
      refine po_evs (T := tab) 1 rfl rfl ?_
      refine po_nil ?_
      exact pn_iter' (r5, i6) ⟨rfl, rfl, rfl, rfl, trivial⟩ ⟨rfl, trivial⟩ rfl
  · refine pw_exit rfl ?_
    refine pn_seq ?_
    refine pw_seq ?_
    refine pw_region ?_
    refine po_evs (T := tab) 1 rfl rfl ?_
    refine po_nil ?_
    refine pn_seq ?_
    exact pw_retN (T := tab) rfl rfl rfl ⟨rfl, rfl⟩ trivial rfl

def Forest_view_right_l2 (fu : Nat) (v1 : Forest_view) : Nat → Int → Option Bool
  | 0, _ => none
  | k2 + 1, t11 => cnd (decide (t11 < ((v1.Forest.Nodes.length : Nat) : Int))) (bnd (Forest_view_ends_m fu v1 t11) fun r12 => cnd (!r12) (some false) (bnd (rng .i64 (t11 + 1)) fun i13 => (Forest_view_right_l2 fu v1 k2) i13)) (some true)

def Forest_view_right_l1 (fu : Nat) (v1 : Forest_view) : Nat → Int → Option Bool
  | 0, _ => none
  | k1 + 1, t3 => cnd (decide (t3 < ((v1.Forest.Nodes.length : Nat) : Int))) (bnd (idx v1.Forest.Nodes t3) fun y4 => bnd (Forest_named_m fu y4) fun r5 => cnd (!r5) (some false) (bnd (Forest_view_owned_m fu v1 t3) fun r6 => cnd (!r6) (some false) (bnd (Forest_view_hung_m fu v1 t3) fun r7 => cnd (!r7) (some false) (bnd (Forest_view_bears_m fu v1 t3) fun r8 => cnd (!r8) (some false) (bnd (Forest_view_shaded_m fu v1 t3) fun r9 => cnd (!r9) (some false) (bnd (rng .i64 (t3 + 1)) fun i10 => (Forest_view_right_l1 fu v1 k1) i10)))))) ((Forest_view_right_l2 fu v1) fu 0)

def Forest_view_right_m (fu : Nat) (v1 : Forest_view) : Option Bool := cnd (decide (v1.Forest.Most < 1)) (some false) (cnd (decide (v1.Forest.Most > 400)) (some false) (cnd (decide (((v1.Forest.Nodes.length : Nat) : Int) < 1)) (some false) (cnd (decide (((v1.Forest.Nodes.length : Nat) : Int) > v1.Forest.Most)) (some false) (bnd (idx v1.Forest.Nodes 0) fun y2 => cnd (y2.Kind != 0) (some false) ((Forest_view_right_l1 fu v1) fu 0)))))

set_option maxHeartbeats 10000000 in
set_option maxRecDepth 100000 in
theorem Forest_view_right_ok (fu : Nat) (v1 : Forest_view) : ∀ r, Forest_view_right_m fu v1 = some r → DC Try.prog 59 [.agg (cForest_view v1)] (.v (.bool r)) := by
  intro r hr
  refine fc_intro (args := [.agg (cForest_view v1)]) (S := []) (N0 := []) (post := fun r p S => p = .v (.bool r) ∧ S = []) Try.func59 rfl rfl hr fun w0 X X0 σ0 => ?_
  refine pw_seq ?_
  refine pw_region ?_
  refine po_box  1 rfl rfl rfl rfl rfl rfl rfl rfl rfl rfl ?_
  refine po_evs (T := tab) 1 rfl rfl ?_
  refine po_nil ?_
  refine pn_seq ?_
  refine pw_seq ?_
  refine pw_seq ?_
  refine pw_region ?_
  refine po_evs (T := tab) 5 rfl rfl ?_
  refine po_split (j := 10) rfl ?_ ?_
  · refine po_evs (T := tab) 31 rfl rfl ?_
    refine po_nil ?_
    refine pn_seq (pw_then rfl ?_)
    refine pw_seq ?_
    refine pw_region ?_
    refine po_evs (T := tab) 1 rfl rfl ?_
    refine po_nil ?_
    refine pn_seq ?_
    exact pw_retN (T := tab) rfl rfl rfl ⟨rfl, rfl⟩ trivial rfl
  · refine po_evs (T := tab) 6 rfl rfl ?_
    refine po_split (j := 16) rfl ?_ ?_
    · refine po_evs (T := tab) 25 rfl rfl ?_
      refine po_nil ?_
      refine pn_seq (pw_then rfl ?_)
      refine pw_seq ?_
      refine pw_region ?_
      refine po_evs (T := tab) 1 rfl rfl ?_
      refine po_nil ?_
      refine pn_seq ?_
      exact pw_retN (T := tab) rfl rfl rfl ⟨rfl, rfl⟩ trivial rfl
    · refine po_evs (T := tab) 3 rfl rfl ?_
      refine po_len (T := tab) cNode v1.Forest.Nodes rfl rfl rfl rfl rfl rfl rfl rfl ?_
      refine po_evs (T := tab) 3 rfl rfl ?_
      refine po_split (j := 23) rfl ?_ ?_
      · refine po_evs (T := tab) 18 rfl rfl ?_
        refine po_nil ?_
        refine pn_seq (pw_then rfl ?_)
        refine pw_seq ?_
        refine pw_region ?_
        refine po_evs (T := tab) 1 rfl rfl ?_
        refine po_nil ?_
        refine pn_seq ?_
        exact pw_retN (T := tab) rfl rfl rfl ⟨rfl, rfl⟩ trivial rfl
      · refine po_evs (T := tab) 3 rfl rfl ?_
        refine po_len (T := tab) cNode v1.Forest.Nodes rfl rfl rfl rfl rfl rfl rfl rfl ?_
        refine po_evs (T := tab) 6 rfl rfl ?_
        refine po_split (j := 33) rfl ?_ ?_
        · refine po_evs (T := tab) 8 rfl rfl ?_
          refine po_nil ?_
          refine pn_seq (pw_then rfl ?_)
          refine pw_seq ?_
          refine pw_region ?_
          refine po_evs (T := tab) 1 rfl rfl ?_
          refine po_nil ?_
          refine pn_seq ?_
          exact pw_retN (T := tab) rfl rfl rfl ⟨rfl, rfl⟩ trivial rfl
        · refine po_evs (T := tab) 3 rfl rfl ?_
          refine po_idx (T := tab) cNode v1.Forest.Nodes rfl rfl rfl rfl rfl rfl rfl fun y2 hy2 => ?_
          refine po_evs (T := tab) 4 rfl rfl ?_
          refine po_nil ?_
          refine pn_seq ?_
          refine pw_cnd rfl ?_ ?_
          · refine pw_seq ?_
            refine pw_region ?_
            refine po_evs (T := tab) 1 rfl rfl ?_
            refine po_nil ?_
            refine pn_seq ?_
            exact pw_retN (T := tab) rfl rfl rfl ⟨rfl, rfl⟩ trivial rfl
          · refine pw_skip ?_
            refine pn_seq ?_
            refine pw_seq ?_
            refine pw_seq ?_
            refine pw_region ?_
            refine po_evs (T := tab) 3 rfl rfl ?_
            refine po_len (T := tab) cNode v1.Forest.Nodes rfl rfl rfl rfl rfl rfl rfl rfl ?_
            refine po_evs (T := tab) 1 rfl rfl ?_
            refine po_nil ?_
            refine pn_seq ?_
            refine pw_block ?_
            refine pw_loop' (Forest_view_right_l1 fu v1) (fun (t3 : Int) => [(1, .loc 1 0), (44, .sl 10 false (v1.Forest.Nodes.map cNode)), (45, .v (.int .i64 ((v1.Forest.Nodes.length : Nat) : Int))), (46, .v (.int .i64 t3))]) (fun (t3 : Int) => [(1, .box [.sl 10 false (v1.Forest.Nodes.map cNode), .v (.int .i64 v1.Forest.Most)])]) fu 0 (fun _ => rfl) ⟨rfl, rfl, rfl, rfl, trivial⟩ ⟨rfl, trivial⟩ rfl ?_
            rintro k1 t3
            refine pw_seq ?_
            refine pw_region ?_
            refine po_evs (T := tab) 1 rfl rfl ?_
            refine po_nil ?_
            refine pn_seq ?_
            refine pw_seq ?_
            refine pw_cnd rfl ?_ ?_
            · refine pw_skip ?_
              refine pn_seq ?_
              refine pw_seq ?_
              refine pw_block ?_
              refine pw_seq ?_
              refine pw_region ?_
              refine po_evs (T := tab) 1 rfl rfl ?_
              refine po_idx (T := tab) cNode v1.Forest.Nodes rfl rfl rfl rfl rfl rfl rfl fun y4 hy4 => ?_
              refine po_evs (T := tab) 1 rfl rfl ?_
              refine po_alloc (T := tab) 4 rfl rfl rfl rfl rfl rfl rfl rfl rfl ?_
              refine po_evs (T := tab) 1 rfl rfl ?_
              refine po_store (T := tab) rfl rfl rfl rfl rfl rfl rfl rfl rfl rfl rfl rfl ?_
              refine po_nil ?_
              refine pn_seq ?_
              refine pw_seq ?_
              refine pw_region ?_
              refine po_evs (T := tab) 1 rfl rfl ?_
              refine po_call (enc := fun (r5 : Bool) => .v (.bool r5)) (qs := [.agg (cNode y4)]) (Forest_named_ok fu y4) rfl rfl ⟨⟨_, rfl, .rfl⟩, trivial⟩ (fun _ => rfl) call60 rfl rfl fun r5 hr5 => ?_
              refine po_evs (T := tab) 2 rfl rfl ?_
              refine po_split (j := 54) rfl ?_ ?_
              · refine po_evs (T := tab) 23 rfl rfl ?_
                refine po_nil ?_
                refine pn_seq (pw_then rfl ?_)
                refine pw_seq ?_
                refine pw_region ?_
                refine po_evs (T := tab) 1 rfl rfl ?_
                refine po_nil ?_
                refine pn_seq ?_
                exact pw_retN (T := tab) rfl rfl rfl ⟨rfl, rfl⟩ trivial rfl
              · refine po_evs (T := tab) 2 rfl rfl ?_
                refine po_call (enc := fun (r6 : Bool) => .v (.bool r6)) (qs := [.agg (cForest_view v1), .v (.int .i64 t3)]) (Forest_view_owned_ok fu v1 t3) rfl rfl ⟨⟨_, rfl, .rfl⟩, ⟨_, rfl, .rfl⟩, trivial⟩ (fun _ => rfl) call86 rfl rfl fun r6 hr6 => ?_
                refine po_evs (T := tab) 3 rfl rfl ?_
                refine po_split (j := 60) rfl ?_ ?_
                · refine po_evs (T := tab) 17 rfl rfl ?_
                  refine po_nil ?_
                  refine pn_seq (pw_then rfl ?_)
                  refine pw_seq ?_
                  refine pw_region ?_
                  refine po_evs (T := tab) 1 rfl rfl ?_
                  refine po_nil ?_
                  refine pn_seq ?_
                  exact pw_retN (T := tab) rfl rfl rfl ⟨rfl, rfl⟩ trivial rfl
                · refine po_evs (T := tab) 2 rfl rfl ?_
                  refine po_call (enc := fun (r7 : Bool) => .v (.bool r7)) (qs := [.agg (cForest_view v1), .v (.int .i64 t3)]) (Forest_view_hung_ok fu v1 t3) rfl rfl ⟨⟨_, rfl, .rfl⟩, ⟨_, rfl, .rfl⟩, trivial⟩ (fun _ => rfl) call87 rfl rfl fun r7 hr7 => ?_
                  refine po_evs (T := tab) 3 rfl rfl ?_
                  refine po_split (j := 66) rfl ?_ ?_
                  · refine po_evs (T := tab) 11 rfl rfl ?_
                    refine po_nil ?_
                    refine pn_seq (pw_then rfl ?_)
                    refine pw_seq ?_
                    refine pw_region ?_
                    refine po_evs (T := tab) 1 rfl rfl ?_
                    refine po_nil ?_
                    refine pn_seq ?_
                    exact pw_retN (T := tab) rfl rfl rfl ⟨rfl, rfl⟩ trivial rfl
                  · refine po_evs (T := tab) 2 rfl rfl ?_
                    refine po_call (enc := fun (r8 : Bool) => .v (.bool r8)) (qs := [.agg (cForest_view v1), .v (.int .i64 t3)]) (Forest_view_bears_ok fu v1 t3) rfl rfl ⟨⟨_, rfl, .rfl⟩, ⟨_, rfl, .rfl⟩, trivial⟩ (fun _ => rfl) call88 rfl rfl fun r8 hr8 => ?_
                    refine po_evs (T := tab) 3 rfl rfl ?_
                    refine po_split (j := 72) rfl ?_ ?_
                    · refine po_evs (T := tab) 5 rfl rfl ?_
                      refine po_nil ?_
                      refine pn_seq (pw_then rfl ?_)
                      refine pw_seq ?_
                      refine pw_region ?_
                      refine po_evs (T := tab) 1 rfl rfl ?_
                      refine po_nil ?_
                      refine pn_seq ?_
                      exact pw_retN (T := tab) rfl rfl rfl ⟨rfl, rfl⟩ trivial rfl
                    · refine po_evs (T := tab) 2 rfl rfl ?_
                      refine po_call (enc := fun (r9 : Bool) => .v (.bool r9)) (qs := [.agg (cForest_view v1), .v (.int .i64 t3)]) (Forest_view_shaded_ok fu v1 t3) rfl rfl ⟨⟨_, rfl, .rfl⟩, ⟨_, rfl, .rfl⟩, trivial⟩ (fun _ => rfl) call89 rfl rfl fun r9 hr9 => ?_
                      refine po_evs (T := tab) 2 rfl rfl ?_
                      refine po_nil ?_
                      refine pn_seq ?_
                      refine pw_cnd rfl ?_ ?_
                      · refine pw_seq ?_
                        refine pw_region ?_
                        refine po_evs (T := tab) 1 rfl rfl ?_
                        refine po_nil ?_
                        refine pn_seq ?_
                        exact pw_retN (T := tab) rfl rfl rfl ⟨rfl, rfl⟩ trivial rfl
                      · refine pw_skip ?_
                        refine pn_block ?_
                        refine pn_seq ?_
                        refine pw_region ?_
                        refine po_arith' (T := tab) rfl rfl rfl rfl fun i10 hi10 => ?_
                        refine po_evs (T := tab) 1 rfl rfl ?_
                        refine po_nil ?_
                        exact pn_iter' i10 ⟨rfl, rfl, rfl, rfl, trivial⟩ ⟨rfl, trivial⟩ rfl
            · refine pw_exit rfl ?_
              refine pn_seq ?_
              refine pw_seq ?_
              refine pw_seq ?_
              refine pw_region ?_
              refine po_evs (T := tab) 3 rfl rfl ?_
              refine po_len (T := tab) cNode v1.Forest.Nodes rfl rfl rfl rfl rfl rfl rfl rfl ?_
              refine po_evs (T := tab) 1 rfl rfl ?_
              refine po_nil ?_
              refine pn_seq ?_
              refine pw_block ?_
              refine pw_loop' (Forest_view_right_l2 fu v1) (fun (t11 : Int) => [(1, .loc 1 0), (82, .v (.int .i64 ((v1.Forest.Nodes.length : Nat) : Int))), (83, .v (.int .i64 t11))]) (fun (t11 : Int) => [(1, .box [.sl 10 false (v1.Forest.Nodes.map cNode), .v (.int .i64 v1.Forest.Most)])]) fu 0 (fun _ => rfl) ⟨rfl, rfl, rfl, trivial⟩ ⟨rfl, trivial⟩ rfl ?_
              rintro k2 t11
              refine pw_seq ?_
              refine pw_region ?_
              refine po_evs (T := tab) 1 rfl rfl ?_
              refine po_nil ?_
              refine pn_seq ?_
              refine pw_seq ?_
              refine pw_cnd rfl ?_ ?_
              · refine pw_skip ?_
                refine pn_seq ?_
                refine pw_seq ?_
                refine pw_block ?_
                refine pw_seq ?_
                refine pw_region ?_
                refine po_evs (T := tab) 2 rfl rfl ?_
                refine po_nil ?_
                refine pn_seq ?_
                refine pw_seq ?_
                refine pw_region ?_
                refine po_evs (T := tab) 2 rfl rfl ?_
                refine po_call (enc := fun (r12 : Bool) => .v (.bool r12)) (qs := [.agg (cForest_view v1), .v (.int .i64 t11)]) (Forest_view_ends_ok fu v1 t11) rfl rfl ⟨⟨_, rfl, .rfl⟩, ⟨_, rfl, .rfl⟩, trivial⟩ (fun _ => rfl) call90 rfl rfl fun r12 hr12 => ?_
                refine po_evs (T := tab) 1 rfl rfl ?_
                refine po_nil ?_
                refine pn_seq ?_
                refine pw_cnd rfl ?_ ?_
                · refine pw_seq ?_
                  refine pw_region ?_
                  refine po_evs (T := tab) 1 rfl rfl ?_
                  refine po_nil ?_
                  refine pn_seq ?_
                  exact pw_retN (T := tab) rfl rfl rfl ⟨rfl, rfl⟩ trivial rfl
                · refine pw_skip ?_
                  refine pn_block ?_
                  refine pn_seq ?_
                  refine pw_region ?_
                  refine po_arith' (T := tab) rfl rfl rfl rfl fun i13 hi13 => ?_
                  refine po_evs (T := tab) 1 rfl rfl ?_
                  refine po_nil ?_
                  exact pn_iter' i13 ⟨rfl, rfl, rfl, trivial⟩ ⟨rfl, trivial⟩ rfl
              · refine pw_exit rfl ?_
                refine pn_seq ?_
                refine pw_seq ?_
                refine pw_region ?_
                refine po_evs (T := tab) 1 rfl rfl ?_
                refine po_nil ?_
                refine pn_seq ?_
                exact pw_retN (T := tab) rfl rfl rfl ⟨rfl, rfl⟩ trivial rfl

def Forest_Right_m (fu : Nat) (f1 : Forest) : Option Bool := bnd (Forest_view_right_m fu (⟨(⟨f1.Nodes, f1.Most⟩ : Forest)⟩ : Forest_view)) fun r2 => some r2

set_option maxRecDepth 100000 in
theorem Forest_Right_ok (fu : Nat) (f1 : Forest) : ∀ r, Forest_Right_m fu f1 = some r → DC Try.prog 19 [.agg (cForest f1)] (.v (.bool r)) := by
  intro r hr
  refine fc_intro (args := [.agg (cForest f1)]) (S := []) (N0 := []) (post := fun r p S => p = .v (.bool r) ∧ S = []) Try.func19 rfl rfl hr fun w0 X X0 σ0 => ?_
  refine pw_seq ?_
  refine pw_region ?_
  refine po_box  1 rfl rfl rfl rfl rfl rfl rfl rfl rfl rfl ?_
  refine po_evs (T := tab) 1 rfl rfl ?_
  refine po_nil ?_
  refine pn_seq ?_
  refine pw_seq ?_
  refine pw_region ?_
  refine po_evs (T := tab) 1 rfl rfl ?_
  refine po_build (T := tab) rfl rfl rfl rfl rfl rfl rfl ?_
  refine po_call (enc := fun (r2 : Bool) => .v (.bool r2)) (qs := [.agg (cForest_view (⟨(⟨f1.Nodes, f1.Most⟩ : Forest)⟩ : Forest_view))]) (Forest_view_right_ok fu (⟨(⟨f1.Nodes, f1.Most⟩ : Forest)⟩ : Forest_view)) rfl rfl ⟨⟨_, rfl, .rfl⟩, trivial⟩ (fun _ => rfl) call59 rfl rfl fun r2 hr2 => ?_
  refine po_evs (T := tab) 1 rfl rfl ?_
  refine po_nil ?_
  refine pn_seq ?_
  exact pw_retN (T := tab) rfl rfl rfl ⟨rfl, rfl⟩ trivial rfl

def Forest_New_m (fu : Nat) (most1 : Int) : Option (Forest × Int) := bnd (Forest_bare_m fu 0 0) fun r2 => bnd (Forest_Right_m fu (⟨[r2], most1⟩ : Forest)) fun r3 => cnd (!r3) (some ((⟨[], 0⟩ : Forest), 1)) (some ((⟨[r2], most1⟩ : Forest), 0))

set_option maxRecDepth 100000 in
theorem Forest_New_ok (fu : Nat) (most1 : Int) : ∀ r, Forest_New_m fu most1 = some r → DC Try.prog 17 [.v (.int .i64 most1)] (.tup [.agg (cForest r.1), .v (.int .i64 r.2)]) := by
  intro r hr
  refine fc_intro (args := [.v (.int .i64 most1)]) (S := []) (N0 := []) (post := fun r p S => p = .tup [.agg (cForest r.1), .v (.int .i64 r.2)] ∧ S = []) Try.func17 rfl rfl hr fun w0 X X0 σ0 => ?_
  refine pw_seq ?_
  refine pw_region ?_
  refine po_alloc (T := tab) 2 rfl rfl rfl rfl rfl rfl rfl rfl rfl ?_
  refine po_evs (T := tab) 1 rfl rfl ?_
  refine po_nil ?_
  refine pn_seq ?_
  refine pw_seq ?_
  refine pw_region ?_
  refine po_call (enc := fun (r2 : Node) => .agg (cNode r2)) (qs := [.v (.int .i64 0), .v (.int .i64 0)]) (Forest_bare_ok fu 0 0) rfl rfl ⟨⟨_, rfl, .rfl⟩, ⟨_, rfl, .rfl⟩, trivial⟩ (fun _ => rfl) call57 rfl rfl fun r2 hr2 => ?_
  refine po_lit (T := tab) (rows := [r2].map cNode) 6 rfl rfl rfl rfl rfl rfl rfl rfl rfl rfl rfl rfl rfl rfl ?_
  refine po_evs (T := tab) 1 rfl rfl ?_
  refine po_build (T := tab) rfl rfl rfl rfl rfl rfl rfl ?_
  refine po_alloc (T := tab) 4 rfl rfl rfl rfl rfl rfl rfl rfl rfl ?_
  refine po_store (T := tab) rfl rfl rfl rfl rfl rfl rfl rfl rfl rfl rfl rfl ?_
  refine po_nil ?_
  refine pn_seq ?_
  refine pw_seq ?_
  refine pw_seq ?_
  refine pw_region ?_
  refine po_evs (T := tab) 1 rfl rfl ?_
  refine po_freeze 6 rfl rfl rfl ?_
  refine po_call (enc := fun (r3 : Bool) => .v (.bool r3)) (qs := [.agg (cForest (⟨[r2], most1⟩ : Forest))]) (Forest_Right_ok fu (⟨[r2], most1⟩ : Forest)) rfl rfl ⟨⟨_, rfl, .rfl⟩, trivial⟩ (fun _ => rfl) call19 rfl rfl fun r3 hr3 => ?_
  refine po_evs (T := tab) 1 rfl rfl ?_
  refine po_nil ?_
  refine pn_seq ?_
  refine pw_cnd rfl ?_ ?_
  · refine pw_seq ?_
    refine pw_region ?_
    refine po_build (T := tab) rfl rfl rfl rfl rfl rfl rfl ?_
    refine po_store (T := tab) rfl rfl rfl rfl rfl rfl rfl rfl rfl rfl rfl rfl ?_
    refine po_evs (T := tab) 1 rfl rfl ?_
    refine po_nil ?_
    refine pn_seq ?_
    refine pw_coeS 2 [.sl 10 false ([].map cNode), .v (.int .i64 0)] rfl ⟨.nil, .rfl, trivial⟩ rfl ?_
    exact pw_retN (T := tab) rfl rfl rfl ⟨rfl, rfl⟩ trivial rfl
  · refine pw_skip ?_
    refine pn_seq ?_
    refine pw_seq ?_
    refine pw_region ?_
    refine po_evs (T := tab) 1 rfl rfl ?_
    refine po_store (T := tab) rfl rfl rfl rfl rfl rfl rfl rfl rfl rfl rfl rfl ?_
    refine po_evs (T := tab) 1 rfl rfl ?_
    refine po_nil ?_
    refine pn_seq ?_
    exact pw_retN (T := tab) rfl rfl rfl ⟨rfl, rfl⟩ trivial rfl

def Slices_Clone_apiAttr_m (_fu : Nat) (s1 : (List Attr)) : Option (List Attr) := bnd (roomy 32 (([] : List Attr).length + s1.length)) fun _ => some (([] : List Attr) ++ s1)

set_option maxRecDepth 100000 in
theorem Slices_Clone_apiAttr_ok (fu : Nat) (s1 : (List Attr)) : ∀ r, Slices_Clone_apiAttr_m fu s1 = some r → FC Try.prog 58 [.sl 2 false (s1.map cAttr)] [] [] fun p S' => p = .own 5 ∧ S' = [(5, .arr 61 2 (r.map cAttr))] := by
  intro r hr
  refine fc_intro (args := [.sl 2 false (s1.map cAttr)]) (S := []) (N0 := []) (post := fun r p S => p = .own 5 ∧ S = [(5, .arr 61 2 (r.map cAttr))]) Try.func58 rfl rfl hr fun w0 X X0 σ0 => ?_
  refine pw_seq ?_
  refine pw_region ?_
  refine po_evs (T := tab) 1 rfl rfl ?_
  refine po_nil ?_
  refine pn_seq ?_
  refine pw_seq ?_
  refine pw_seq ?_
  refine pw_region ?_
  refine po_evs (T := tab) 1 rfl rfl ?_
  refine po_isnil (T := tab) rfl rfl rfl rfl rfl rfl fun b hb => ?_
  cases b
  · refine po_nil ?_
    refine pn_seq ?_
    refine pw_else rfl ?_
    refine pw_skip ?_
    refine pn_seq ?_
    refine pw_seq ?_
    refine pw_region ?_
    refine po_lit (T := tab) (rows := ([] : List Attr).map cAttr) 5 rfl rfl rfl rfl rfl rfl rfl rfl rfl rfl rfl rfl rfl rfl ?_
    refine po_evs (T := tab) 1 rfl rfl ?_
    refine po_append (T := tab) cAttr ([] : List Attr) s1 rfl rfl rfl rfl rfl rfl rfl rfl rfl rfl rfl rfl rfl rfl (cAttr_one _) rfl rfl rfl rfl rfl ?_
    refine po_evs (T := tab) 1 rfl rfl ?_
    refine po_nil ?_
    refine pn_seq ?_
    exact pw_retN (T := tab) rfl rfl rfl ⟨rfl, rfl⟩ ⟨rfl, trivial⟩ rfl
  · have h0 : s1 = [] := List.map_eq_nil_iff.1 (hb rfl)
    refine po_conv (m' := some ([] : List Attr)) (by subst h0; rfl) ?_
    refine po_nil ?_
    refine pn_seq ?_
    refine pw_then rfl ?_
    refine pw_seq ?_
    refine pw_region ?_
    refine po_evs (T := tab) 1 rfl rfl ?_
    refine po_nil ?_
    refine pn_seq ?_
    refine pw_own_nil 5 61 2 2 rfl rfl rfl rfl ?_
    exact pw_retN (T := tab) rfl rfl rfl ⟨rfl, rfl⟩ ⟨rfl, trivial⟩ rfl

def Slices_Clone_apiNode_m (_fu : Nat) (s1 : (List Node)) : Option (List Node) := bnd (roomy 136 (([] : List Node).length + s1.length)) fun _ => some (([] : List Node) ++ s1)

set_option maxRecDepth 100000 in
theorem Slices_Clone_apiNode_ok (fu : Nat) (s1 : (List Node)) : ∀ r, Slices_Clone_apiNode_m fu s1 = some r → FC Try.prog 62 [.sl 10 false (s1.map cNode)] [] [] fun p S' => p = .own 5 ∧ S' = [(5, .arr 28 10 (r.map cNode))] := by
  intro r hr
  refine fc_intro (args := [.sl 10 false (s1.map cNode)]) (S := []) (N0 := []) (post := fun r p S => p = .own 5 ∧ S = [(5, .arr 28 10 (r.map cNode))]) Try.func62 rfl rfl hr fun w0 X X0 σ0 => ?_
  refine pw_seq ?_
  refine pw_region ?_
  refine po_evs (T := tab) 1 rfl rfl ?_
  refine po_nil ?_
  refine pn_seq ?_
  refine pw_seq ?_
  refine pw_seq ?_
  refine pw_region ?_
  refine po_evs (T := tab) 1 rfl rfl ?_
  refine po_isnil (T := tab) rfl rfl rfl rfl rfl rfl fun b hb => ?_
  cases b
  · refine po_nil ?_
    refine pn_seq ?_
    refine pw_else rfl ?_
    refine pw_skip ?_
    refine pn_seq ?_
    refine pw_seq ?_
    refine pw_region ?_
    refine po_lit (T := tab) (rows := ([] : List Node).map cNode) 5 rfl rfl rfl rfl rfl rfl rfl rfl rfl rfl rfl rfl rfl rfl ?_
    refine po_evs (T := tab) 1 rfl rfl ?_
    refine po_append (T := tab) cNode ([] : List Node) s1 rfl rfl rfl rfl rfl rfl rfl rfl rfl rfl rfl rfl rfl rfl (cNode_one _) rfl rfl rfl rfl rfl ?_
    refine po_evs (T := tab) 1 rfl rfl ?_
    refine po_nil ?_
    refine pn_seq ?_
    exact pw_retN (T := tab) rfl rfl rfl ⟨rfl, rfl⟩ ⟨rfl, trivial⟩ rfl
  · have h0 : s1 = [] := List.map_eq_nil_iff.1 (hb rfl)
    refine po_conv (m' := some ([] : List Node)) (by subst h0; rfl) ?_
    refine po_nil ?_
    refine pn_seq ?_
    refine pw_then rfl ?_
    refine pw_seq ?_
    refine pw_region ?_
    refine po_evs (T := tab) 1 rfl rfl ?_
    refine po_nil ?_
    refine pn_seq ?_
    refine pw_own_nil 5 28 10 2 rfl rfl rfl rfl ?_
    exact pw_retN (T := tab) rfl rfl rfl ⟨rfl, rfl⟩ ⟨rfl, trivial⟩ rfl

def Forest_Make_j1 (fu : Nat) (f1 : Forest) (n2 : Node) (r3 : Node) (c4 : Int) : Option (Forest × Int × Int) := bnd (Slices_Clone_apiAttr_m fu n2.Attrs) fun r5 => bnd (Forest_view_right_m fu (⟨(⟨f1.Nodes, f1.Most⟩ : Forest)⟩ : Forest_view)) fun r6 => cnd (!r6) (some (f1, (-1), 1)) (bnd (Forest_named_m fu (⟨r3.Kind, n2.Name, n2.Is, n2.Data, r5, r3.Parent, r3.Kids, r3.Host, r3.Under, c4⟩ : Node)) fun r7 => cnd (!r7) (some (f1, (-1), 1)) (cnd (r3.Kind == 4) (some (f1, (-1), 1)) (cnd (r3.Kind != 0) (bnd (Forest_view_is_m fu (⟨(⟨f1.Nodes, f1.Most⟩ : Forest)⟩ : Forest_view) c4 0) fun r8 => cnd (!r8) (some (f1, (-1), 1)) (cnd (((f1.Nodes.length : Nat) : Int) == f1.Most) (some (f1, (-1), 8)) (bnd (Slices_Clone_apiNode_m fu f1.Nodes) fun r9 => bnd (roomy 136 (r9.length + ([(⟨r3.Kind, n2.Name, n2.Is, n2.Data, r5, r3.Parent, r3.Kids, r3.Host, r3.Under, c4⟩ : Node)] : List Node).length)) fun _ => some ((⟨(r9 ++ [(⟨r3.Kind, n2.Name, n2.Is, n2.Data, r5, r3.Parent, r3.Kids, r3.Host, r3.Under, c4⟩ : Node)]), f1.Most⟩ : Forest), ((f1.Nodes.length : Nat) : Int), 0)))) (cnd (((f1.Nodes.length : Nat) : Int) == f1.Most) (some (f1, (-1), 8)) (bnd (Slices_Clone_apiNode_m fu f1.Nodes) fun r10 => bnd (roomy 136 (r10.length + ([(⟨r3.Kind, n2.Name, n2.Is, n2.Data, r5, r3.Parent, r3.Kids, r3.Host, r3.Under, c4⟩ : Node)] : List Node).length)) fun _ => some ((⟨(r10 ++ [(⟨r3.Kind, n2.Name, n2.Is, n2.Data, r5, r3.Parent, r3.Kids, r3.Host, r3.Under, c4⟩ : Node)]), f1.Most⟩ : Forest), ((f1.Nodes.length : Nat) : Int), 0))))))

def Forest_Make_m (fu : Nat) (f1 : Forest) (n2 : Node) : Option (Forest × Int × Int) := bnd (Forest_bare_m fu n2.Kind n2.Doc) fun r3 => cnd (n2.Kind == 0) ((Forest_Make_j1 fu f1 n2 r3) ((f1.Nodes.length : Nat) : Int)) ((Forest_Make_j1 fu f1 n2 r3) r3.Doc)

set_option maxHeartbeats 10000000 in
set_option maxRecDepth 100000 in
theorem Forest_Make_ok (fu : Nat) (f1 : Forest) (n2 : Node) : ∀ r, Forest_Make_m fu f1 n2 = some r → DC Try.prog 18 [.agg (cForest f1), .agg (cNode n2)] (.tup [.agg (cForest r.1), .v (.int .i64 r.2.1), .v (.int .i64 r.2.2)]) := by
  intro r hr
  refine fc_intro (args := [.agg (cForest f1), .agg (cNode n2)]) (S := []) (N0 := []) (post := fun r p S => p = .tup [.agg (cForest r.1), .v (.int .i64 r.2.1), .v (.int .i64 r.2.2)] ∧ S = []) Try.func18 rfl rfl hr fun w0 X X0 σ0 => ?_
  refine pw_seq ?_
  refine pw_region ?_
  refine po_box  2 rfl rfl rfl rfl rfl rfl rfl rfl rfl rfl ?_
  refine po_box  3 rfl rfl rfl rfl rfl rfl rfl rfl rfl rfl ?_
  refine po_alloc (T := tab) 4 rfl rfl rfl rfl rfl rfl rfl rfl rfl ?_
  refine po_evs (T := tab) 2 rfl rfl ?_
  refine po_nil ?_
  refine pn_seq ?_
  refine pw_seq ?_
  refine pw_region ?_
  refine po_evs (T := tab) 2 rfl rfl ?_
  refine po_len (T := tab) cNode f1.Nodes rfl rfl rfl rfl rfl rfl rfl rfl ?_
  refine po_evs (T := tab) 1 rfl rfl ?_
  refine po_nil ?_
  refine pn_seq ?_
  refine pw_seq ?_
  refine pw_region ?_
  refine po_evs (T := tab) 4 rfl rfl ?_
  refine po_call (enc := fun (r3 : Node) => .agg (cNode r3)) (qs := [.v (.int .i64 n2.Kind), .v (.int .i64 n2.Doc)]) (Forest_bare_ok fu n2.Kind n2.Doc) rfl rfl ⟨⟨_, rfl, .rfl⟩, ⟨_, rfl, .rfl⟩, trivial⟩ (fun _ => rfl) call57 rfl rfl fun r3 hr3 => ?_
  refine po_alloc (T := tab) 8 rfl rfl rfl rfl rfl rfl rfl rfl rfl ?_
  refine po_store (T := tab) rfl rfl rfl rfl rfl rfl rfl rfl rfl rfl rfl rfl ?_
  refine po_nil ?_
  refine pn_seq ?_
  refine pw_seq ?_
  refine pw_seq ?_
  refine pw_region ?_
  refine po_evs (T := tab) 3 rfl rfl ?_
  refine po_nil ?_
  refine pn_seq ?_
  refine pw_joinK (Forest_Make_j1 fu f1 n2 r3) (fun (c4 : Int) => [(2, .loc 2 0), (3, .loc 3 0), (4, .loc 4 0), (7, .v (.int .i64 ((f1.Nodes.length : Nat) : Int))), (8, .loc 8 0)]) (fun (c4 : Int) => [(8, .box [.v (.int .i64 r3.Kind), .v (.string ⟨⟨r3.Name⟩⟩), .v (.string ⟨⟨r3.Is⟩⟩), .v (.string ⟨⟨r3.Data⟩⟩), .sl 2 false (r3.Attrs.map cAttr), .v (.int .i64 r3.Parent), .sl 1 false (r3.Kids.map cInt_i64), .v (.int .i64 r3.Host), .v (.int .i64 r3.Under), .v (.int .i64 c4)]), (4, .box [.v (.slice none 0 0), .v (.int .i64 0)]), (3, .box [.v (.int .i64 n2.Kind), .v (.string ⟨⟨n2.Name⟩⟩), .v (.string ⟨⟨n2.Is⟩⟩), .v (.string ⟨⟨n2.Data⟩⟩), .sl 2 false (n2.Attrs.map cAttr), .v (.int .i64 n2.Parent), .sl 1 false (n2.Kids.map cInt_i64), .v (.int .i64 n2.Host), .v (.int .i64 n2.Under), .v (.int .i64 n2.Doc)]), (2, .box [.sl 10 false (f1.Nodes.map cNode), .v (.int .i64 f1.Most)])]) ?_ fun hj1 => ?_
  · rintro c4
    refine pn_seq ?_
    refine pw_seq ?_
    refine pw_sub' (E' := [(2, .loc 2 0), (3, .loc 3 0), (4, .loc 4 0), (7, .v (.int .i64 ((f1.Nodes.length : Nat) : Int))), (8, .loc 8 0)]) (S' := [(8, .box [.v (.int .i64 r3.Kind), .v (.string ⟨⟨r3.Name⟩⟩), .v (.string ⟨⟨r3.Is⟩⟩), .v (.string ⟨⟨r3.Data⟩⟩), .sl 2 false (r3.Attrs.map cAttr), .v (.int .i64 r3.Parent), .sl 1 false (r3.Kids.map cInt_i64), .v (.int .i64 r3.Host), .v (.int .i64 r3.Under), .v (.int .i64 c4)]), (4, .box [.v (.slice none 0 0), .v (.int .i64 0)]), (3, .box [.v (.int .i64 n2.Kind), .v (.string ⟨⟨n2.Name⟩⟩), .v (.string ⟨⟨n2.Is⟩⟩), .v (.string ⟨⟨n2.Data⟩⟩), .sl 2 false (n2.Attrs.map cAttr), .v (.int .i64 n2.Parent), .sl 1 false (n2.Kids.map cInt_i64), .v (.int .i64 n2.Host), .v (.int .i64 n2.Under), .v (.int .i64 n2.Doc)]), (2, .box [.sl 10 false (f1.Nodes.map cNode), .v (.int .i64 f1.Most)])]) ?_ ⟨rfl, rfl, rfl, rfl, rfl, trivial⟩ ⟨rfl, rfl, rfl, rfl, trivial⟩ rfl
    refine pw_drawV [0, 1, 0, 4, 0, 16, 0, 64, 192, 3, 963, 1999, 4047, 8191, 16383, 32767, 65535] mixed (by kernel_rfl) (by kernel_rfl) rfl rfl ?_
    refine pdv_step0 [6] [46] [] [3] [] [(23, .loc 3 1)] [] rfl rfl rfl rfl (by kernel_rfl) (by kernel_rfl) (by kernel_rfl) trivial (fun w0 X X0 σ0 => by refine po_evs (T := tab) 1 rfl rfl ?_; refine po_nil ?_; exact pn_end0 ⟨rfl, trivial⟩ trivial rfl) ?_
    refine pdv_step0 [7, 46] [48] [] [3] [3] [(24, .v (.string ⟨⟨n2.Name⟩⟩))] [(3, .box [.v (.int .i64 n2.Kind), .v (.string ⟨⟨n2.Name⟩⟩), .v (.string ⟨⟨n2.Is⟩⟩), .v (.string ⟨⟨n2.Data⟩⟩), .sl 2 false (n2.Attrs.map cAttr), .v (.int .i64 n2.Parent), .sl 1 false (n2.Kids.map cInt_i64), .v (.int .i64 n2.Host), .v (.int .i64 n2.Under), .v (.int .i64 n2.Doc)])] rfl rfl rfl rfl (by kernel_rfl) (by kernel_rfl) (by kernel_rfl) ⟨rfl, trivial⟩ (fun w0 X X0 σ0 => by refine po_evs (T := tab) 1 rfl rfl ?_; refine po_nil ?_; exact pn_end0 ⟨rfl, trivial⟩ ⟨rfl, trivial⟩ rfl) ?_
    refine pdv_step0 [6] [50] [] [3] [] [(25, .loc 3 2)] [] rfl rfl rfl rfl (by kernel_rfl) (by kernel_rfl) (by kernel_rfl) trivial (fun w0 X X0 σ0 => by refine po_evs (T := tab) 1 rfl rfl ?_; refine po_nil ?_; exact pn_end0 ⟨rfl, trivial⟩ trivial rfl) ?_
    refine pdv_step0 [7, 50] [52] [] [3] [3] [(26, .v (.string ⟨⟨n2.Is⟩⟩))] [(3, .box [.v (.int .i64 n2.Kind), .v (.string ⟨⟨n2.Name⟩⟩), .v (.string ⟨⟨n2.Is⟩⟩), .v (.string ⟨⟨n2.Data⟩⟩), .sl 2 false (n2.Attrs.map cAttr), .v (.int .i64 n2.Parent), .sl 1 false (n2.Kids.map cInt_i64), .v (.int .i64 n2.Host), .v (.int .i64 n2.Under), .v (.int .i64 n2.Doc)])] rfl rfl rfl rfl (by kernel_rfl) (by kernel_rfl) (by kernel_rfl) ⟨rfl, trivial⟩ (fun w0 X X0 σ0 => by refine po_evs (T := tab) 1 rfl rfl ?_; refine po_nil ?_; exact pn_end0 ⟨rfl, trivial⟩ ⟨rfl, trivial⟩ rfl) ?_
    refine pdv_step0 [6] [54] [] [3] [] [(27, .loc 3 3)] [] rfl rfl rfl rfl (by kernel_rfl) (by kernel_rfl) (by kernel_rfl) trivial (fun w0 X X0 σ0 => by refine po_evs (T := tab) 1 rfl rfl ?_; refine po_nil ?_; exact pn_end0 ⟨rfl, trivial⟩ trivial rfl) ?_
    refine pdv_step0 [7, 54] [56] [] [3] [3] [(28, .v (.string ⟨⟨n2.Data⟩⟩))] [(3, .box [.v (.int .i64 n2.Kind), .v (.string ⟨⟨n2.Name⟩⟩), .v (.string ⟨⟨n2.Is⟩⟩), .v (.string ⟨⟨n2.Data⟩⟩), .sl 2 false (n2.Attrs.map cAttr), .v (.int .i64 n2.Parent), .sl 1 false (n2.Kids.map cInt_i64), .v (.int .i64 n2.Host), .v (.int .i64 n2.Under), .v (.int .i64 n2.Doc)])] rfl rfl rfl rfl (by kernel_rfl) (by kernel_rfl) (by kernel_rfl) ⟨rfl, trivial⟩ (fun w0 X X0 σ0 => by refine po_evs (T := tab) 1 rfl rfl ?_; refine po_nil ?_; exact pn_end0 ⟨rfl, trivial⟩ ⟨rfl, trivial⟩ rfl) ?_
    refine pdv_step0 [6] [58] [] [3] [] [(29, .loc 3 4)] [] rfl rfl rfl rfl (by kernel_rfl) (by kernel_rfl) (by kernel_rfl) trivial (fun w0 X X0 σ0 => by refine po_evs (T := tab) 1 rfl rfl ?_; refine po_nil ?_; exact pn_end0 ⟨rfl, trivial⟩ trivial rfl) ?_
    refine pdv_step0 [7, 58] [60] [] [3] [3] [(30, .sl 2 false (n2.Attrs.map cAttr))] [(3, .box [.v (.int .i64 n2.Kind), .v (.string ⟨⟨n2.Name⟩⟩), .v (.string ⟨⟨n2.Is⟩⟩), .v (.string ⟨⟨n2.Data⟩⟩), .sl 2 false (n2.Attrs.map cAttr), .v (.int .i64 n2.Parent), .sl 1 false (n2.Kids.map cInt_i64), .v (.int .i64 n2.Host), .v (.int .i64 n2.Under), .v (.int .i64 n2.Doc)])] rfl rfl rfl rfl (by kernel_rfl) (by kernel_rfl) (by kernel_rfl) ⟨rfl, trivial⟩ (fun w0 X X0 σ0 => by refine po_evs (T := tab) 1 rfl rfl ?_; refine po_nil ?_; exact pn_end0 ⟨rfl, trivial⟩ ⟨rfl, trivial⟩ rfl) ?_
    refine pdv_step (M := (Slices_Clone_apiAttr_m fu n2.Attrs)) (ment := [(62, [2310]), (4621, [])]) [60] [62, 4621] [2310] [] [] (fun r5 => [(31, .own 2310)]) (fun r5 => [(2310, .arr 61 2 (r5.map cAttr))]) rfl rfl (fun _ => rfl) (fun _ => rfl) (by kernel_rfl) (by kernel_rfl) (fun _ => by kernel_rfl) (fun _ => trivial) (fun w0 X X0 σ0 => by refine po_turn [2310] (enc := fun (r5 : (List Attr)) => .own 2310) (Sr := fun (r5 : (List Attr)) => [(2310, .arr 61 2 (r5.map cAttr))]) (first := []) (cap := []) (qs := [.sl 2 false (n2.Attrs.map cAttr)]) (Sc := []) (N0 := []) (NR := [2310]) (fun r5 hr5 => fc_ren [(5, 2310)] [5] (Slices_Clone_apiAttr_ok fu n2.Attrs _ hr5) rfl rfl rfl rfl rfl rfl) trivial (fun _ => rfl) rfl rfl rfl rfl rfl rfl rfl (fun _ => rfl) (fun _ => rfl) rfl rfl rfl ⟨⟨_, rfl, .rfl⟩, trivial⟩ call58 rfl rfl fun r5 hr5 => ?_; refine po_nil ?_; exact pn_end ⟨rfl, trivial⟩ ⟨rfl, trivial⟩ rfl) fun r5 hr5 => ?_
    refine pdv_step0 [16] [64] [] [8] [] [(32, .loc 8 1)] [] rfl rfl rfl rfl (by kernel_rfl) (by kernel_rfl) (by kernel_rfl) trivial (fun w0 X X0 σ0 => by refine po_evs (T := tab) 1 rfl rfl ?_; refine po_nil ?_; exact pn_end0 ⟨rfl, trivial⟩ trivial rfl) ?_
    refine pdv_step0 [17, 48, 64] [17] [] [8] [] [] [(8, .box [.v (.int .i64 r3.Kind), .v (.string ⟨⟨n2.Name⟩⟩), .v (.string ⟨⟨r3.Is⟩⟩), .v (.string ⟨⟨r3.Data⟩⟩), .sl 2 false (r3.Attrs.map cAttr), .v (.int .i64 r3.Parent), .sl 1 false (r3.Kids.map cInt_i64), .v (.int .i64 r3.Host), .v (.int .i64 r3.Under), .v (.int .i64 c4)])] rfl rfl rfl rfl (by kernel_rfl) (by kernel_rfl) (by kernel_rfl) trivial (fun w0 X X0 σ0 => by refine po_store (T := tab) rfl rfl rfl rfl rfl rfl rfl rfl rfl rfl rfl rfl ?_; refine po_nil ?_; exact pn_end0 trivial ⟨rfl, trivial⟩ rfl) ?_
    refine pdv_step0 [16] [66] [] [8] [] [(33, .loc 8 2)] [] rfl rfl rfl rfl (by kernel_rfl) (by kernel_rfl) (by kernel_rfl) trivial (fun w0 X X0 σ0 => by refine po_evs (T := tab) 1 rfl rfl ?_; refine po_nil ?_; exact pn_end0 ⟨rfl, trivial⟩ trivial rfl) ?_
    refine pdv_step0 [17, 52, 66] [17] [] [8] [] [] [(8, .box [.v (.int .i64 r3.Kind), .v (.string ⟨⟨n2.Name⟩⟩), .v (.string ⟨⟨n2.Is⟩⟩), .v (.string ⟨⟨r3.Data⟩⟩), .sl 2 false (r3.Attrs.map cAttr), .v (.int .i64 r3.Parent), .sl 1 false (r3.Kids.map cInt_i64), .v (.int .i64 r3.Host), .v (.int .i64 r3.Under), .v (.int .i64 c4)])] rfl rfl rfl rfl (by kernel_rfl) (by kernel_rfl) (by kernel_rfl) trivial (fun w0 X X0 σ0 => by refine po_store (T := tab) rfl rfl rfl rfl rfl rfl rfl rfl rfl rfl rfl rfl ?_; refine po_nil ?_; exact pn_end0 trivial ⟨rfl, trivial⟩ rfl) ?_
    refine pdv_step0 [16] [68] [] [8] [] [(34, .loc 8 3)] [] rfl rfl rfl rfl (by kernel_rfl) (by kernel_rfl) (by kernel_rfl) trivial (fun w0 X X0 σ0 => by refine po_evs (T := tab) 1 rfl rfl ?_; refine po_nil ?_; exact pn_end0 ⟨rfl, trivial⟩ trivial rfl) ?_
    refine pdv_step0 [17, 56, 68] [17] [] [8] [] [] [(8, .box [.v (.int .i64 r3.Kind), .v (.string ⟨⟨n2.Name⟩⟩), .v (.string ⟨⟨n2.Is⟩⟩), .v (.string ⟨⟨n2.Data⟩⟩), .sl 2 false (r3.Attrs.map cAttr), .v (.int .i64 r3.Parent), .sl 1 false (r3.Kids.map cInt_i64), .v (.int .i64 r3.Host), .v (.int .i64 r3.Under), .v (.int .i64 c4)])] rfl rfl rfl rfl (by kernel_rfl) (by kernel_rfl) (by kernel_rfl) trivial (fun w0 X X0 σ0 => by refine po_store (T := tab) rfl rfl rfl rfl rfl rfl rfl rfl rfl rfl rfl rfl ?_; refine po_nil ?_; exact pn_end0 trivial ⟨rfl, trivial⟩ rfl) ?_
    refine pdv_step0 [16] [70] [] [8] [] [(35, .loc 8 4)] [] rfl rfl rfl rfl (by kernel_rfl) (by kernel_rfl) (by kernel_rfl) trivial (fun w0 X X0 σ0 => by refine po_evs (T := tab) 1 rfl rfl ?_; refine po_nil ?_; exact pn_end0 ⟨rfl, trivial⟩ trivial rfl) ?_
    refine pdv_step0 [17, 62, 70, 4621] [17] [] [8, 2310] [2310] [] [(8, .box [.v (.int .i64 r3.Kind), .v (.string ⟨⟨n2.Name⟩⟩), .v (.string ⟨⟨n2.Is⟩⟩), .v (.string ⟨⟨n2.Data⟩⟩), .own 2310, .v (.int .i64 r3.Parent), .sl 1 false (r3.Kids.map cInt_i64), .v (.int .i64 r3.Host), .v (.int .i64 r3.Under), .v (.int .i64 c4)]), (2310, .arr 61 2 (r5.map cAttr))] rfl rfl rfl rfl (by kernel_rfl) (by kernel_rfl) (by kernel_rfl) ⟨rfl, trivial⟩ (fun w0 X X0 σ0 => by refine po_store (T := tab) rfl rfl rfl rfl rfl rfl rfl rfl rfl rfl rfl rfl ?_; refine po_nil ?_; exact pn_end0 trivial ⟨rfl, rfl, trivial⟩ rfl) ?_
    refine pdv_nil rfl rfl ?_
    refine pn_seq ?_
    refine pw_seq ?_
    refine pw_region ?_
    refine po_evs (T := tab) 1 rfl rfl ?_
    refine po_build (T := tab) rfl rfl rfl rfl rfl rfl rfl ?_
    refine po_alloc (T := tab) 9 rfl rfl rfl rfl rfl rfl rfl rfl rfl ?_
    refine po_store (T := tab) rfl rfl rfl rfl rfl rfl rfl rfl rfl rfl rfl rfl ?_
    refine po_nil ?_
    refine pn_seq ?_
    refine pw_seq ?_
    refine pw_block ?_
    refine pw_seq ?_
    refine pw_region ?_
    refine po_evs (T := tab) 1 rfl rfl ?_
    refine po_call (enc := fun (r6 : Bool) => .v (.bool r6)) (qs := [.agg (cForest_view (⟨(⟨f1.Nodes, f1.Most⟩ : Forest)⟩ : Forest_view))]) (Forest_view_right_ok fu (⟨(⟨f1.Nodes, f1.Most⟩ : Forest)⟩ : Forest_view)) rfl rfl ⟨⟨_, rfl, .rfl⟩, trivial⟩ (fun _ => rfl) call59 rfl rfl fun r6 hr6 => ?_
    refine po_evs (T := tab) 2 rfl rfl ?_
    refine po_split (j := 42) rfl ?_ ?_
    · refine po_evs (T := tab) 22 rfl rfl ?_
      refine po_nil ?_
      refine pn_seq (pw_then rfl ?_)
      refine pw_seq ?_
      refine pw_region ?_
      refine po_evs (T := tab) 1 rfl rfl ?_
      refine po_store (T := tab) rfl rfl rfl rfl rfl rfl rfl rfl rfl rfl rfl rfl ?_
      refine po_evs (T := tab) 2 rfl rfl ?_
      refine po_nil ?_
      refine pn_seq ?_
      exact pw_retN (T := tab) rfl rfl rfl ⟨rfl, rfl⟩ trivial rfl
    · refine po_evs (T := tab) 1 rfl rfl ?_
      refine po_freeze 2310 rfl rfl rfl ?_
      refine po_call (enc := fun (r7 : Bool) => .v (.bool r7)) (qs := [.agg (cNode (⟨r3.Kind, n2.Name, n2.Is, n2.Data, r5, r3.Parent, r3.Kids, r3.Host, r3.Under, c4⟩ : Node))]) (Forest_named_ok fu (⟨r3.Kind, n2.Name, n2.Is, n2.Data, r5, r3.Parent, r3.Kids, r3.Host, r3.Under, c4⟩ : Node)) rfl rfl ⟨⟨_, rfl, .rfl⟩, trivial⟩ (fun _ => rfl) call60 rfl rfl fun r7 hr7 => ?_
      refine po_evs (T := tab) 3 rfl rfl ?_
      refine po_split (j := 47) rfl ?_ ?_
      · refine po_evs (T := tab) 17 rfl rfl ?_
        refine po_nil ?_
        refine pn_seq (pw_then rfl ?_)
        refine pw_seq ?_
        refine pw_region ?_
        refine po_evs (T := tab) 1 rfl rfl ?_
        refine po_store (T := tab) rfl rfl rfl rfl rfl rfl rfl rfl rfl rfl rfl rfl ?_
        refine po_evs (T := tab) 2 rfl rfl ?_
        refine po_nil ?_
        refine pn_seq ?_
        exact pw_retN (T := tab) rfl rfl rfl ⟨rfl, rfl⟩ trivial rfl
      · refine po_evs (T := tab) 5 rfl rfl ?_
        refine po_split (j := 52) rfl ?_ ?_
        · refine po_evs (T := tab) 12 rfl rfl ?_
          refine po_nil ?_
          refine pn_seq (pw_then rfl ?_)
          refine pw_seq ?_
          refine pw_region ?_
          refine po_evs (T := tab) 1 rfl rfl ?_
          refine po_store (T := tab) rfl rfl rfl rfl rfl rfl rfl rfl rfl rfl rfl rfl ?_
          refine po_evs (T := tab) 2 rfl rfl ?_
          refine po_nil ?_
          refine pn_seq ?_
          exact pw_retN (T := tab) rfl rfl rfl ⟨rfl, rfl⟩ trivial rfl
        · refine po_evs (T := tab) 4 rfl rfl ?_
          refine po_split (j := 56) rfl ?_ ?_
          · refine po_evs (T := tab) 3 rfl rfl ?_
            refine po_call (enc := fun (r8 : Bool) => .v (.bool r8)) (qs := [.agg (cForest_view (⟨(⟨f1.Nodes, f1.Most⟩ : Forest)⟩ : Forest_view)), .v (.int .i64 c4), .v (.int .i64 0)]) (Forest_view_is_ok fu (⟨(⟨f1.Nodes, f1.Most⟩ : Forest)⟩ : Forest_view) c4 0) rfl rfl ⟨⟨_, rfl, .rfl⟩, ⟨_, rfl, .rfl⟩, ⟨_, rfl, .rfl⟩, trivial⟩ (fun _ => rfl) call61 rfl rfl fun r8 hr8 => ?_
            refine po_evs (T := tab) 4 rfl rfl ?_
            refine po_nil ?_
            refine pn_seq ?_
            refine pw_cnd rfl ?_ ?_
            · refine pw_seq ?_
              refine pw_region ?_
              refine po_evs (T := tab) 1 rfl rfl ?_
              refine po_store (T := tab) rfl rfl rfl rfl rfl rfl rfl rfl rfl rfl rfl rfl ?_
              refine po_evs (T := tab) 2 rfl rfl ?_
              refine po_nil ?_
              refine pn_seq ?_
              exact pw_retN (T := tab) rfl rfl rfl ⟨rfl, rfl⟩ trivial rfl
            · refine pw_seq ?_
              refine pw_region ?_
              refine po_evs (T := tab) 5 rfl rfl ?_
              refine po_nil ?_
              refine pn_seq ?_
              refine pw_cnd rfl ?_ ?_
              · refine pw_seq ?_
                refine pw_region ?_
                refine po_evs (T := tab) 1 rfl rfl ?_
                refine po_store (T := tab) rfl rfl rfl rfl rfl rfl rfl rfl rfl rfl rfl rfl ?_
                refine po_evs (T := tab) 2 rfl rfl ?_
                refine po_nil ?_
                refine pn_seq ?_
                exact pw_retN (T := tab) rfl rfl rfl ⟨rfl, rfl⟩ trivial rfl
              · refine pw_skip ?_
                refine pn_block ?_
                refine pn_seq ?_
                refine pw_seq ?_
                refine pw_sub' (E' := [(2, .loc 2 0), (4, .loc 4 0), (7, .v (.int .i64 ((f1.Nodes.length : Nat) : Int))), (8, .loc 8 0)]) (S' := [(8, .box [.v (.int .i64 r3.Kind), .v (.string ⟨⟨n2.Name⟩⟩), .v (.string ⟨⟨n2.Is⟩⟩), .v (.string ⟨⟨n2.Data⟩⟩), .sl 2 false (r5.map cAttr), .v (.int .i64 r3.Parent), .sl 1 false (r3.Kids.map cInt_i64), .v (.int .i64 r3.Host), .v (.int .i64 r3.Under), .v (.int .i64 c4)]), (4, .box [.v (.slice none 0 0), .v (.int .i64 0)]), (2, .box [.sl 10 false (f1.Nodes.map cNode), .v (.int .i64 f1.Most)])]) ?_ ⟨rfl, rfl, rfl, rfl, trivial⟩ ⟨rfl, rfl, rfl, trivial⟩ rfl
                refine pw_drawV [0, 1, 3, 0, 8, 31, 63, 127] mixed (by kernel_rfl) (by kernel_rfl) rfl rfl ?_
                refine pdv_step0 [4] [142] [] [2] [] [(71, .loc 2 0)] [] rfl rfl rfl rfl (by kernel_rfl) (by kernel_rfl) (by kernel_rfl) trivial (fun w0 X X0 σ0 => by refine po_evs (T := tab) 1 rfl rfl ?_; refine po_nil ?_; exact pn_end0 ⟨rfl, trivial⟩ trivial rfl) ?_
                refine pdv_step0 [5, 142] [144] [] [2] [2] [(72, .sl 10 false (f1.Nodes.map cNode))] [(2, .box [.sl 10 false (f1.Nodes.map cNode), .v (.int .i64 f1.Most)])] rfl rfl rfl rfl (by kernel_rfl) (by kernel_rfl) (by kernel_rfl) ⟨rfl, trivial⟩ (fun w0 X X0 σ0 => by refine po_evs (T := tab) 1 rfl rfl ?_; refine po_nil ?_; exact pn_end0 ⟨rfl, trivial⟩ ⟨rfl, trivial⟩ rfl) ?_
                refine pdv_step (M := (Slices_Clone_apiNode_m fu f1.Nodes)) (ment := [(146, [2730]), (5461, [])]) [144] [146, 5461] [2730] [] [] (fun r9 => [(73, .own 2730)]) (fun r9 => [(2730, .arr 28 10 (r9.map cNode))]) rfl rfl (fun _ => rfl) (fun _ => rfl) (by kernel_rfl) (by kernel_rfl) (fun _ => by kernel_rfl) (fun _ => trivial) (fun w0 X X0 σ0 => by refine po_turn [2730] (enc := fun (r9 : (List Node)) => .own 2730) (Sr := fun (r9 : (List Node)) => [(2730, .arr 28 10 (r9.map cNode))]) (first := []) (cap := []) (qs := [.sl 10 false (f1.Nodes.map cNode)]) (Sc := []) (N0 := []) (NR := [2730]) (fun r9 hr9 => fc_ren [(5, 2730)] [5] (Slices_Clone_apiNode_ok fu f1.Nodes _ hr9) rfl rfl rfl rfl rfl rfl) trivial (fun _ => rfl) rfl rfl rfl rfl rfl rfl rfl (fun _ => rfl) (fun _ => rfl) rfl rfl rfl ⟨⟨_, rfl, .rfl⟩, trivial⟩ call62 rfl rfl fun r9 hr9 => ?_; refine po_nil ?_; exact pn_end ⟨rfl, trivial⟩ ⟨rfl, trivial⟩ rfl) fun r9 hr9 => ?_
                refine pdv_step0 [16, 17] [148] [] [8] [8] [(74, .agg [.v (.int .i64 r3.Kind), .v (.string ⟨⟨n2.Name⟩⟩), .v (.string ⟨⟨n2.Is⟩⟩), .v (.string ⟨⟨n2.Data⟩⟩), .sl 2 false (r5.map cAttr), .v (.int .i64 r3.Parent), .sl 1 false (r3.Kids.map cInt_i64), .v (.int .i64 r3.Host), .v (.int .i64 r3.Under), .v (.int .i64 c4)])] [(8, .box [.v (.int .i64 r3.Kind), .v (.string ⟨⟨n2.Name⟩⟩), .v (.string ⟨⟨n2.Is⟩⟩), .v (.string ⟨⟨n2.Data⟩⟩), .sl 2 false (r5.map cAttr), .v (.int .i64 r3.Parent), .sl 1 false (r3.Kids.map cInt_i64), .v (.int .i64 r3.Host), .v (.int .i64 r3.Under), .v (.int .i64 c4)])] rfl rfl rfl rfl (by kernel_rfl) (by kernel_rfl) (by kernel_rfl) ⟨rfl, trivial⟩ (fun w0 X X0 σ0 => by refine po_evs (T := tab) 1 rfl rfl ?_; refine po_nil ?_; exact pn_end0 ⟨rfl, trivial⟩ ⟨rfl, trivial⟩ rfl) ?_
                refine pdv_step0 [148] [150, 151] [75] [] [] [(75, .own 75)] [(75, .arr 28 10 ([(⟨r3.Kind, n2.Name, n2.Is, n2.Data, r5, r3.Parent, r3.Kids, r3.Host, r3.Under, c4⟩ : Node)].map cNode))] rfl rfl rfl rfl (by kernel_rfl) (by kernel_rfl) (by kernel_rfl) trivial (fun w0 X X0 σ0 => by refine po_lit (T := tab) (rows := [(⟨r3.Kind, n2.Name, n2.Is, n2.Data, r5, r3.Parent, r3.Kids, r3.Host, r3.Under, c4⟩ : Node)].map cNode) 75 rfl rfl rfl rfl rfl rfl rfl rfl rfl rfl rfl rfl rfl rfl ?_; refine po_nil ?_; exact pn_end0 ⟨rfl, trivial⟩ ⟨rfl, trivial⟩ rfl) ?_
                refine pdv_step (M := (roomy 136 (r9.length + ([(⟨r3.Kind, n2.Name, n2.Is, n2.Data, r5, r3.Parent, r3.Kids, r3.Host, r3.Under, c4⟩ : Node)] : List Node).length))) (ment := [(152, [2730]), (146, []), (5461, [])]) [146, 150, 151, 5461] [152, 146, 5461] [2730] [75] [75] (fun _ => [(76, .own 2730)]) (fun _ => [(2730, .arr 28 10 ((r9 ++ [(⟨r3.Kind, n2.Name, n2.Is, n2.Data, r5, r3.Parent, r3.Kids, r3.Host, r3.Under, c4⟩ : Node)]).map cNode)), (75, .arr 28 10 ([(⟨r3.Kind, n2.Name, n2.Is, n2.Data, r5, r3.Parent, r3.Kids, r3.Host, r3.Under, c4⟩ : Node)].map cNode))]) rfl rfl (fun _ => rfl) (fun _ => rfl) (by kernel_rfl) (by kernel_rfl) (fun _ => by kernel_rfl) (fun _ => ⟨rfl, trivial⟩) (fun w0 X X0 σ0 => by refine po_append (T := tab) cNode r9 ([(⟨r3.Kind, n2.Name, n2.Is, n2.Data, r5, r3.Parent, r3.Kids, r3.Host, r3.Under, c4⟩ : Node)] : List Node) rfl rfl rfl rfl rfl rfl rfl rfl rfl rfl rfl rfl rfl rfl (cNode_one _) rfl rfl rfl rfl rfl ?_; refine po_nil ?_; exact pn_end ⟨rfl, trivial⟩ ⟨rfl, rfl, trivial⟩ rfl) fun _ h0 => ?_
                refine pdv_step0 [4] [154] [] [2] [] [(77, .loc 2 0)] [] rfl rfl rfl rfl (by kernel_rfl) (by kernel_rfl) (by kernel_rfl) trivial (fun w0 X X0 σ0 => by refine po_evs (T := tab) 1 rfl rfl ?_; refine po_nil ?_; exact pn_end0 ⟨rfl, trivial⟩ trivial rfl) ?_
                refine pdv_step0 [5, 152, 154, 5461] [5] [] [2, 2730] [2730] [] [(2, .box [.own 2730, .v (.int .i64 f1.Most)]), (2730, .arr 28 10 ((r9 ++ [(⟨r3.Kind, n2.Name, n2.Is, n2.Data, r5, r3.Parent, r3.Kids, r3.Host, r3.Under, c4⟩ : Node)]).map cNode))] rfl rfl rfl rfl (by kernel_rfl) (by kernel_rfl) (by kernel_rfl) ⟨rfl, trivial⟩ (fun w0 X X0 σ0 => by refine po_store (T := tab) rfl rfl rfl rfl rfl rfl rfl rfl rfl rfl rfl rfl ?_; refine po_nil ?_; exact pn_end0 trivial ⟨rfl, rfl, trivial⟩ rfl) ?_
                refine pdv_nil rfl rfl ?_
                refine pn_seq ?_
                refine pw_seq ?_
                refine pw_region ?_
                refine po_evs (T := tab) 2 rfl rfl ?_
                refine po_store (T := tab) rfl rfl rfl rfl rfl rfl rfl rfl rfl rfl rfl rfl ?_
                refine po_evs (T := tab) 2 rfl rfl ?_
                refine po_nil ?_
                refine pn_seq ?_
                refine pw_freeze 2730 rfl rfl rfl ?_
                exact pw_retN (T := tab) rfl rfl rfl ⟨rfl, rfl⟩ trivial rfl
          · refine po_evs (T := tab) 8 rfl rfl ?_
            refine po_nil ?_
            refine pn_seq (pw_else rfl ?_)
            refine pw_seq ?_
            refine pw_region ?_
            refine po_evs (T := tab) 5 rfl rfl ?_
            refine po_nil ?_
            refine pn_seq ?_
            refine pw_cnd rfl ?_ ?_
            · refine pw_seq ?_
              refine pw_region ?_
              refine po_evs (T := tab) 1 rfl rfl ?_
              refine po_store (T := tab) rfl rfl rfl rfl rfl rfl rfl rfl rfl rfl rfl rfl ?_
              refine po_evs (T := tab) 2 rfl rfl ?_
              refine po_nil ?_
              refine pn_seq ?_
              exact pw_retN (T := tab) rfl rfl rfl ⟨rfl, rfl⟩ trivial rfl
            · refine pw_skip ?_
              refine pn_block ?_
              refine pn_seq ?_
              refine pw_seq ?_
              refine pw_sub' (E' := [(2, .loc 2 0), (4, .loc 4 0), (7, .v (.int .i64 ((f1.Nodes.length : Nat) : Int))), (8, .loc 8 0)]) (S' := [(8, .box [.v (.int .i64 r3.Kind), .v (.string ⟨⟨n2.Name⟩⟩), .v (.string ⟨⟨n2.Is⟩⟩), .v (.string ⟨⟨n2.Data⟩⟩), .sl 2 false (r5.map cAttr), .v (.int .i64 r3.Parent), .sl 1 false (r3.Kids.map cInt_i64), .v (.int .i64 r3.Host), .v (.int .i64 r3.Under), .v (.int .i64 c4)]), (4, .box [.v (.slice none 0 0), .v (.int .i64 0)]), (2, .box [.sl 10 false (f1.Nodes.map cNode), .v (.int .i64 f1.Most)])]) ?_ ⟨rfl, rfl, rfl, rfl, trivial⟩ ⟨rfl, rfl, rfl, trivial⟩ rfl
              refine pw_drawV [0, 1, 3, 0, 8, 31, 63, 127] mixed (by kernel_rfl) (by kernel_rfl) rfl rfl ?_
              refine pdv_step0 [4] [142] [] [2] [] [(71, .loc 2 0)] [] rfl rfl rfl rfl (by kernel_rfl) (by kernel_rfl) (by kernel_rfl) trivial (fun w0 X X0 σ0 => by refine po_evs (T := tab) 1 rfl rfl ?_; refine po_nil ?_; exact pn_end0 ⟨rfl, trivial⟩ trivial rfl) ?_
              refine pdv_step0 [5, 142] [144] [] [2] [2] [(72, .sl 10 false (f1.Nodes.map cNode))] [(2, .box [.sl 10 false (f1.Nodes.map cNode), .v (.int .i64 f1.Most)])] rfl rfl rfl rfl (by kernel_rfl) (by kernel_rfl) (by kernel_rfl) ⟨rfl, trivial⟩ (fun w0 X X0 σ0 => by refine po_evs (T := tab) 1 rfl rfl ?_; refine po_nil ?_; exact pn_end0 ⟨rfl, trivial⟩ ⟨rfl, trivial⟩ rfl) ?_
              refine pdv_step (M := (Slices_Clone_apiNode_m fu f1.Nodes)) (ment := [(146, [2730]), (5461, [])]) [144] [146, 5461] [2730] [] [] (fun r10 => [(73, .own 2730)]) (fun r10 => [(2730, .arr 28 10 (r10.map cNode))]) rfl rfl (fun _ => rfl) (fun _ => rfl) (by kernel_rfl) (by kernel_rfl) (fun _ => by kernel_rfl) (fun _ => trivial) (fun w0 X X0 σ0 => by refine po_turn [2730] (enc := fun (r10 : (List Node)) => .own 2730) (Sr := fun (r10 : (List Node)) => [(2730, .arr 28 10 (r10.map cNode))]) (first := []) (cap := []) (qs := [.sl 10 false (f1.Nodes.map cNode)]) (Sc := []) (N0 := []) (NR := [2730]) (fun r10 hr10 => fc_ren [(5, 2730)] [5] (Slices_Clone_apiNode_ok fu f1.Nodes _ hr10) rfl rfl rfl rfl rfl rfl) trivial (fun _ => rfl) rfl rfl rfl rfl rfl rfl rfl (fun _ => rfl) (fun _ => rfl) rfl rfl rfl ⟨⟨_, rfl, .rfl⟩, trivial⟩ call62 rfl rfl fun r10 hr10 => ?_; refine po_nil ?_; exact pn_end ⟨rfl, trivial⟩ ⟨rfl, trivial⟩ rfl) fun r10 hr10 => ?_
              refine pdv_step0 [16, 17] [148] [] [8] [8] [(74, .agg [.v (.int .i64 r3.Kind), .v (.string ⟨⟨n2.Name⟩⟩), .v (.string ⟨⟨n2.Is⟩⟩), .v (.string ⟨⟨n2.Data⟩⟩), .sl 2 false (r5.map cAttr), .v (.int .i64 r3.Parent), .sl 1 false (r3.Kids.map cInt_i64), .v (.int .i64 r3.Host), .v (.int .i64 r3.Under), .v (.int .i64 c4)])] [(8, .box [.v (.int .i64 r3.Kind), .v (.string ⟨⟨n2.Name⟩⟩), .v (.string ⟨⟨n2.Is⟩⟩), .v (.string ⟨⟨n2.Data⟩⟩), .sl 2 false (r5.map cAttr), .v (.int .i64 r3.Parent), .sl 1 false (r3.Kids.map cInt_i64), .v (.int .i64 r3.Host), .v (.int .i64 r3.Under), .v (.int .i64 c4)])] rfl rfl rfl rfl (by kernel_rfl) (by kernel_rfl) (by kernel_rfl) ⟨rfl, trivial⟩ (fun w0 X X0 σ0 => by refine po_evs (T := tab) 1 rfl rfl ?_; refine po_nil ?_; exact pn_end0 ⟨rfl, trivial⟩ ⟨rfl, trivial⟩ rfl) ?_
              refine pdv_step0 [148] [150, 151] [75] [] [] [(75, .own 75)] [(75, .arr 28 10 ([(⟨r3.Kind, n2.Name, n2.Is, n2.Data, r5, r3.Parent, r3.Kids, r3.Host, r3.Under, c4⟩ : Node)].map cNode))] rfl rfl rfl rfl (by kernel_rfl) (by kernel_rfl) (by kernel_rfl) trivial (fun w0 X X0 σ0 => by refine po_lit (T := tab) (rows := [(⟨r3.Kind, n2.Name, n2.Is, n2.Data, r5, r3.Parent, r3.Kids, r3.Host, r3.Under, c4⟩ : Node)].map cNode) 75 rfl rfl rfl rfl rfl rfl rfl rfl rfl rfl rfl rfl rfl rfl ?_; refine po_nil ?_; exact pn_end0 ⟨rfl, trivial⟩ ⟨rfl, trivial⟩ rfl) ?_
              refine pdv_step (M := (roomy 136 (r10.length + ([(⟨r3.Kind, n2.Name, n2.Is, n2.Data, r5, r3.Parent, r3.Kids, r3.Host, r3.Under, c4⟩ : Node)] : List Node).length))) (ment := [(152, [2730]), (146, []), (5461, [])]) [146, 150, 151, 5461] [152, 146, 5461] [2730] [75] [75] (fun _ => [(76, .own 2730)]) (fun _ => [(2730, .arr 28 10 ((r10 ++ [(⟨r3.Kind, n2.Name, n2.Is, n2.Data, r5, r3.Parent, r3.Kids, r3.Host, r3.Under, c4⟩ : Node)]).map cNode)), (75, .arr 28 10 ([(⟨r3.Kind, n2.Name, n2.Is, n2.Data, r5, r3.Parent, r3.Kids, r3.Host, r3.Under, c4⟩ : Node)].map cNode))]) rfl rfl (fun _ => rfl) (fun _ => rfl) (by kernel_rfl) (by kernel_rfl) (fun _ => by kernel_rfl) (fun _ => ⟨rfl, trivial⟩) (fun w0 X X0 σ0 => by refine po_append (T := tab) cNode r10 ([(⟨r3.Kind, n2.Name, n2.Is, n2.Data, r5, r3.Parent, r3.Kids, r3.Host, r3.Under, c4⟩ : Node)] : List Node) rfl rfl rfl rfl rfl rfl rfl rfl rfl rfl rfl rfl rfl rfl (cNode_one _) rfl rfl rfl rfl rfl ?_; refine po_nil ?_; exact pn_end ⟨rfl, trivial⟩ ⟨rfl, rfl, trivial⟩ rfl) fun _ h0 => ?_
              refine pdv_step0 [4] [154] [] [2] [] [(77, .loc 2 0)] [] rfl rfl rfl rfl (by kernel_rfl) (by kernel_rfl) (by kernel_rfl) trivial (fun w0 X X0 σ0 => by refine po_evs (T := tab) 1 rfl rfl ?_; refine po_nil ?_; exact pn_end0 ⟨rfl, trivial⟩ trivial rfl) ?_
              refine pdv_step0 [5, 152, 154, 5461] [5] [] [2, 2730] [2730] [] [(2, .box [.own 2730, .v (.int .i64 f1.Most)]), (2730, .arr 28 10 ((r10 ++ [(⟨r3.Kind, n2.Name, n2.Is, n2.Data, r5, r3.Parent, r3.Kids, r3.Host, r3.Under, c4⟩ : Node)]).map cNode))] rfl rfl rfl rfl (by kernel_rfl) (by kernel_rfl) (by kernel_rfl) ⟨rfl, trivial⟩ (fun w0 X X0 σ0 => by refine po_store (T := tab) rfl rfl rfl rfl rfl rfl rfl rfl rfl rfl rfl rfl ?_; refine po_nil ?_; exact pn_end0 trivial ⟨rfl, rfl, trivial⟩ rfl) ?_
              refine pdv_nil rfl rfl ?_
              refine pn_seq ?_
              refine pw_seq ?_
              refine pw_region ?_
              refine po_evs (T := tab) 2 rfl rfl ?_
              refine po_store (T := tab) rfl rfl rfl rfl rfl rfl rfl rfl rfl rfl rfl rfl ?_
              refine po_evs (T := tab) 2 rfl rfl ?_
              refine po_nil ?_
              refine pn_seq ?_
              refine pw_freeze 2730 rfl rfl rfl ?_
              exact pw_retN (T := tab) rfl rfl rfl ⟨rfl, rfl⟩ trivial rfl
  · refine pw_cnd rfl ?_ ?_
    · refine pw_region ?_
      refine po_evs (T := tab) 2 rfl rfl ?_
      refine po_store (T := tab) rfl rfl rfl rfl rfl rfl rfl rfl rfl rfl rfl rfl ?_
      refine po_nil ?_
      exact pn_sub' (hj1 ((f1.Nodes.length : Nat) : Int)) ⟨rfl, rfl, rfl, rfl, rfl, trivial⟩ ⟨rfl, rfl, rfl, rfl, trivial⟩ rfl
    · refine pw_skip ?_
      exact pn_sub' (hj1 r3.Doc) ⟨rfl, rfl, rfl, rfl, rfl, trivial⟩ ⟨rfl, rfl, rfl, rfl, trivial⟩ rfl

def Forest_asked_1_m (fu : Nat) (n1 : Int) (c2 : Forest_view) : Option Bool := bnd (Forest_view_there_m fu c2 n1) fun r3 => some (!r3)

set_option maxRecDepth 100000 in
theorem Forest_asked_1_ok (fu : Nat) (n1 : Int) (c2 : Forest_view) : ∀ r, Forest_asked_1_m fu n1 c2 = some r → FC Try.prog 95 [.v (.int .i64 n1), .loc 900000 0] [(900000, .box [.sl 10 false (c2.Forest.Nodes.map cNode), .v (.int .i64 c2.Forest.Most)])] [900000] fun p S' => p = .v (.bool r) ∧ S' = [(900000, .box [.sl 10 false (c2.Forest.Nodes.map cNode), .v (.int .i64 c2.Forest.Most)])] := by
  intro r hr
  refine fc_intro (args := [.v (.int .i64 n1), .loc 900000 0]) (S := [(900000, .box [.sl 10 false (c2.Forest.Nodes.map cNode), .v (.int .i64 c2.Forest.Most)])]) (N0 := [900000]) (post := fun r p S => p = .v (.bool r) ∧ S = [(900000, .box [.sl 10 false (c2.Forest.Nodes.map cNode), .v (.int .i64 c2.Forest.Most)])]) Try.func95 rfl rfl hr fun w0 X X0 σ0 => ?_
  refine pw_seq ?_
  refine pw_region ?_
  refine po_evs (T := tab) 1 rfl rfl ?_
  refine po_nil ?_
  refine pn_seq ?_
  refine pw_seq ?_
  refine pw_region ?_
  refine po_evs (T := tab) 2 rfl rfl ?_
  refine po_call (enc := fun (r3 : Bool) => .v (.bool r3)) (qs := [.agg (cForest_view c2), .v (.int .i64 n1)]) (Forest_view_there_ok fu c2 n1) rfl rfl ⟨⟨_, rfl, .rfl⟩, ⟨_, rfl, .rfl⟩, trivial⟩ (fun _ => rfl) call93 rfl rfl fun r3 hr3 => ?_
  refine po_evs (T := tab) 2 rfl rfl ?_
  refine po_nil ?_
  refine pn_seq ?_
  exact pw_retN (T := tab) rfl rfl rfl ⟨rfl, rfl⟩ ⟨rfl, trivial⟩ rfl

def Slices_IndexFunc_int_l1 (t1 : Int → Option Bool) (s1 : (List Int)) : Nat → Int → Option Int
  | 0, _ => none
  | k1 + 1, t3 => cnd (decide (t3 < ((s1.length : Nat) : Int))) (bnd (idx s1 t3) fun y4 => bnd (t1 y4) fun r5 => cnd r5 (some t3) (bnd (rng .i64 (t3 + 1)) fun i6 => (Slices_IndexFunc_int_l1 t1 s1 k1) i6)) (some (-1))

def Slices_IndexFunc_int_m (fu : Nat) (t1 : Int → Option Bool) (s1 : (List Int)) : Option Int := (Slices_IndexFunc_int_l1 t1 s1) fu 0

set_option maxHeartbeats 10000000 in
set_option maxRecDepth 100000 in
theorem Slices_IndexFunc_int_ok (fu : Nat) (s1 : (List Int)) (c2 : Forest_view) : ∀ r, Slices_IndexFunc_int_m fu (fun (z1 : Int) => Forest_asked_1_m fu z1 c2) s1 = some r → FC Try.prog 105 [.sl 1 false (s1.map cInt_i64), .fn (.func 95) [] [.loc 900000 0]] [(900000, .box [.sl 10 false (c2.Forest.Nodes.map cNode), .v (.int .i64 c2.Forest.Most)])] [900000] fun p S' => p = .v (.int .i64 r) ∧ S' = [(900000, .box [.sl 10 false (c2.Forest.Nodes.map cNode), .v (.int .i64 c2.Forest.Most)])] := by
  intro r hr
  refine fc_intro (args := [.sl 1 false (s1.map cInt_i64), .fn (.func 95) [] [.loc 900000 0]]) (S := [(900000, .box [.sl 10 false (c2.Forest.Nodes.map cNode), .v (.int .i64 c2.Forest.Most)])]) (N0 := [900000]) (post := fun r p S => p = .v (.int .i64 r) ∧ S = [(900000, .box [.sl 10 false (c2.Forest.Nodes.map cNode), .v (.int .i64 c2.Forest.Most)])]) Try.func105 rfl rfl hr fun w0 X X0 σ0 => ?_
  refine pw_seq ?_
  refine pw_region ?_
  refine po_evs (T := tab) 1 rfl rfl ?_
  refine po_nil ?_
  refine pn_seq ?_
  refine pw_seq ?_
  refine pw_seq ?_
  refine pw_region ?_
  refine po_evs (T := tab) 1 rfl rfl ?_
  refine po_len (T := tab) cInt_i64 s1 rfl rfl rfl rfl rfl rfl rfl rfl ?_
  refine po_evs (T := tab) 1 rfl rfl ?_
  refine po_nil ?_
  refine pn_seq ?_
  refine pw_block ?_
  refine pw_loop' (Slices_IndexFunc_int_l1 (fun (z1 : Int) => Forest_asked_1_m fu z1 c2) s1) (fun (t3 : Int) => [(0, .sl 1 false (s1.map cInt_i64)), (1, .fn (.func 95) [] [.loc 900000 0]), (7, .v (.int .i64 ((s1.length : Nat) : Int))), (8, .v (.int .i64 t3))]) (fun (t3 : Int) => [(900000, .box [.sl 10 false (c2.Forest.Nodes.map cNode), .v (.int .i64 c2.Forest.Most)])]) fu 0 (fun _ => rfl) ⟨rfl, rfl, rfl, rfl, trivial⟩ ⟨rfl, trivial⟩ rfl ?_
  rintro k1 t3
  refine pw_seq ?_
  refine pw_region ?_
  refine po_evs (T := tab) 1 rfl rfl ?_
  refine po_nil ?_
  refine pn_seq ?_
  refine pw_seq ?_
  refine pw_cnd rfl ?_ ?_
  · refine pw_skip ?_
    refine pn_seq ?_
    refine pw_seq ?_
    refine pw_block ?_
    refine pw_seq ?_
    refine pw_region ?_
    refine po_evs (T := tab) 2 rfl rfl ?_
    refine po_nil ?_
    refine pn_seq ?_
    refine pw_seq ?_
    refine pw_region ?_
    refine po_evs (T := tab) 3 rfl rfl ?_
    refine po_idx (T := tab) cInt_i64 s1 rfl rfl rfl rfl rfl rfl rfl fun y4 hy4 => ?_
    refine po_evs (T := tab) 1 rfl rfl ?_
    refine po_callv (enc := fun (r5 : Bool) => .v (.bool r5)) (first := []) (cap := [.loc 900000 0]) (qs := [.v (.int .i64 y4)]) (Sc := [(900000, .box [.sl 10 false (c2.Forest.Nodes.map cNode), .v (.int .i64 c2.Forest.Most)])]) (fun r5 hr5 => fc_ren [(900000, 900000)] [900000] (Forest_asked_1_ok fu y4 c2 _ hr5) rfl rfl rfl rfl rfl rfl) (subS_of ⟨rfl, trivial⟩ rfl) rfl rfl rfl rfl ⟨⟨_, rfl, .rfl⟩, trivial⟩ (fun _ => rfl) call95 rfl rfl fun r5 hr5 => ?_
    refine po_nil ?_
    refine pn_seq ?_
    refine pw_cnd rfl ?_ ?_
    · refine pw_seq ?_
      refine pw_region ?_
      refine po_evs (T := tab) 2 rfl rfl ?_
      refine po_nil ?_
      refine pn_seq ?_
      exact pw_retN (T := tab) rfl rfl rfl ⟨rfl, rfl⟩ ⟨rfl, trivial⟩ rfl
    · refine pw_skip ?_
      refine pn_block ?_
      refine pn_seq ?_
      refine pw_region ?_
      refine po_arith' (T := tab) rfl rfl rfl rfl fun i6 hi6 => ?_
      refine po_evs (T := tab) 1 rfl rfl ?_
      refine po_nil ?_
      exact pn_iter' i6 ⟨rfl, rfl, rfl, rfl, trivial⟩ ⟨rfl, trivial⟩ rfl
  · refine pw_exit rfl ?_
    refine pn_seq ?_
    refine pw_seq ?_
    refine pw_region ?_
    refine po_evs (T := tab) 1 rfl rfl ?_
    refine po_nil ?_
    refine pn_seq ?_
    exact pw_retN (T := tab) rfl rfl rfl ⟨rfl, rfl⟩ ⟨rfl, trivial⟩ rfl

def Slices_ContainsFunc_int_m (fu : Nat) (t1 : Int → Option Bool) (s1 : (List Int)) : Option Bool := bnd (Slices_IndexFunc_int_m fu t1 s1) fun r3 => some (decide (r3 ≥ 0))

set_option maxRecDepth 100000 in
theorem Slices_ContainsFunc_int_ok (fu : Nat) (s1 : (List Int)) (c2 : Forest_view) : ∀ r, Slices_ContainsFunc_int_m fu (fun (z1 : Int) => Forest_asked_1_m fu z1 c2) s1 = some r → FC Try.prog 94 [.sl 1 false (s1.map cInt_i64), .fn (.func 95) [] [.loc 900000 0]] [(900000, .box [.sl 10 false (c2.Forest.Nodes.map cNode), .v (.int .i64 c2.Forest.Most)])] [900000] fun p S' => p = .v (.bool r) ∧ S' = [(900000, .box [.sl 10 false (c2.Forest.Nodes.map cNode), .v (.int .i64 c2.Forest.Most)])] := by
  intro r hr
  refine fc_intro (args := [.sl 1 false (s1.map cInt_i64), .fn (.func 95) [] [.loc 900000 0]]) (S := [(900000, .box [.sl 10 false (c2.Forest.Nodes.map cNode), .v (.int .i64 c2.Forest.Most)])]) (N0 := [900000]) (post := fun r p S => p = .v (.bool r) ∧ S = [(900000, .box [.sl 10 false (c2.Forest.Nodes.map cNode), .v (.int .i64 c2.Forest.Most)])]) Try.func94 rfl rfl hr fun w0 X X0 σ0 => ?_
  refine pw_seq ?_
  refine pw_region ?_
  refine po_evs (T := tab) 1 rfl rfl ?_
  refine po_nil ?_
  refine pn_seq ?_
  refine pw_seq ?_
  refine pw_region ?_
  refine po_evs (T := tab) 2 rfl rfl ?_
  refine po_callv (enc := fun (r3 : Int) => .v (.int .i64 r3)) (first := []) (cap := []) (qs := [.sl 1 false (s1.map cInt_i64), .fn (.func 95) [] [.loc 900000 0]]) (Sc := [(900000, .box [.sl 10 false (c2.Forest.Nodes.map cNode), .v (.int .i64 c2.Forest.Most)])]) (fun r3 hr3 => fc_ren [(900000, 900000)] [900000] (Slices_IndexFunc_int_ok fu s1 c2 _ hr3) rfl rfl rfl rfl rfl rfl) (subS_of ⟨rfl, trivial⟩ rfl) rfl rfl rfl rfl ⟨⟨_, rfl, .rfl⟩, ⟨_, rfl, .rfl⟩, trivial⟩ (fun _ => rfl) call105 rfl rfl fun r3 hr3 => ?_
  refine po_evs (T := tab) 2 rfl rfl ?_
  refine po_nil ?_
  refine pn_seq ?_
  exact pw_retN (T := tab) rfl rfl rfl ⟨rfl, rfl⟩ ⟨rfl, trivial⟩ rfl

def Forest_asked_m (fu : Nat) (f1 : Forest) (l2 : (List Int)) : Option Bool := bnd (Forest_view_right_m fu (⟨(⟨f1.Nodes, f1.Most⟩ : Forest)⟩ : Forest_view)) fun r3 => cnd r3 (bnd (Slices_ContainsFunc_int_m fu (fun (z1 : Int) => Forest_asked_1_m fu z1 (⟨(⟨f1.Nodes, f1.Most⟩ : Forest)⟩ : Forest_view)) l2) fun r4 => some (!r4)) (some false)

set_option maxRecDepth 100000 in
theorem Forest_asked_ok (fu : Nat) (f1 : Forest) (l2 : (List Int)) : ∀ r, Forest_asked_m fu f1 l2 = some r → DC Try.prog 64 [.agg (cForest f1), .sl 1 false (l2.map cInt_i64)] (.v (.bool r)) := by
  intro r hr
  refine fc_intro (args := [.agg (cForest f1), .sl 1 false (l2.map cInt_i64)]) (S := []) (N0 := []) (post := fun r p S => p = .v (.bool r) ∧ S = []) Try.func64 rfl rfl hr fun w0 X X0 σ0 => ?_
  refine pw_seq ?_
  refine pw_region ?_
  refine po_box  2 rfl rfl rfl rfl rfl rfl rfl rfl rfl rfl ?_
  refine po_evs (T := tab) 1 rfl rfl ?_
  refine po_nil ?_
  refine pn_seq ?_
  refine pw_seq ?_
  refine pw_region ?_
  refine po_evs (T := tab) 1 rfl rfl ?_
  refine po_build (T := tab) rfl rfl rfl rfl rfl rfl rfl ?_
  refine po_alloc (T := tab) 5 rfl rfl rfl rfl rfl rfl rfl rfl rfl ?_
  refine po_store (T := tab) rfl rfl rfl rfl rfl rfl rfl rfl rfl rfl rfl rfl ?_
  refine po_nil ?_
  refine pn_seq ?_
  refine pw_seq ?_
  refine pw_region ?_
  refine po_evs (T := tab) 1 rfl rfl ?_
  refine po_call (enc := fun (r3 : Bool) => .v (.bool r3)) (qs := [.agg (cForest_view (⟨(⟨f1.Nodes, f1.Most⟩ : Forest)⟩ : Forest_view))]) (Forest_view_right_ok fu (⟨(⟨f1.Nodes, f1.Most⟩ : Forest)⟩ : Forest_view)) rfl rfl ⟨⟨_, rfl, .rfl⟩, trivial⟩ (fun _ => rfl) call59 rfl rfl fun r3 hr3 => ?_
  refine po_evs (T := tab) 1 rfl rfl ?_
  refine po_split (j := 10) rfl ?_ ?_
  · refine po_evs (T := tab) 2 rfl rfl ?_
    refine po_callv (enc := fun (r4 : Bool) => .v (.bool r4)) (first := []) (cap := []) (qs := [.sl 1 false (l2.map cInt_i64), .fn (.func 95) [] [.loc 5 0]]) (Sc := [(5, .box [.sl 10 false (f1.Nodes.map cNode), .v (.int .i64 f1.Most)])]) (fun r4 hr4 => fc_ren [(900000, 5)] [900000] (Slices_ContainsFunc_int_ok fu l2 (⟨(⟨f1.Nodes, f1.Most⟩ : Forest)⟩ : Forest_view) _ hr4) rfl rfl rfl rfl rfl rfl) (subS_of ⟨rfl, trivial⟩ rfl) rfl rfl rfl rfl ⟨⟨_, rfl, .rfl⟩, ⟨_, rfl, .rfl⟩, trivial⟩ (fun _ => rfl) call94 rfl rfl fun r4 hr4 => ?_
    refine po_evs (T := tab) 3 rfl rfl ?_
    refine po_nil ?_
    refine pn_seq ?_
    exact pw_retN (T := tab) rfl rfl rfl ⟨rfl, rfl⟩ trivial rfl
  · refine po_evs (T := tab) 6 rfl rfl ?_
    refine po_nil ?_
    refine pn_seq ?_
    exact pw_retN (T := tab) rfl rfl rfl ⟨rfl, rfl⟩ trivial rfl

def Forest_Order_l2 (l4 : (List Int)) (y7 : Int) (y9 : Node) (rc1 : ((List Int) × (List Int)) → Option (List Int)) : Nat → (List Int) → Option (List Int)
  | 0, l10 => rc1 ((l4 ++ [y7]), l10)
  | k2 + 1, l10 => bnd (y9.Kids[k2]?) fun y11 => bnd (roomy 8 (l10.length + ([y11] : List Int).length)) fun _ => (Forest_Order_l2 l4 y7 y9 rc1 k2) (l10 ++ [y11])

def Forest_Order_l1 (f1 : Forest) : Nat → (List Int) × (List Int) → Option (List Int)
  | 0, _ => none
  | k1 + 1, (l4, l5) => cnd (decide (((l5.length : Nat) : Int) > 0)) (bnd (rng .i64 (((l5.length : Nat) : Int) - 1)) fun i6 => bnd (idx l5 i6) fun y7 => bnd (piece l5 0 i6) fun l8 => bnd (roomy 8 (l4.length + ([y7] : List Int).length)) fun _ => bnd (idx f1.Nodes y7) fun y9 => (Forest_Order_l2 l4 y7 y9 (Forest_Order_l1 f1 k1)) y9.Kids.length l8) (some l4)

def Forest_Order_m (fu : Nat) (f1 : Forest) (n2 : Int) : Option (List Int) := bnd (Forest_asked_m fu f1 [n2]) fun r3 => cnd (!r3) (some []) ((Forest_Order_l1 f1) fu ([], [n2]))

set_option maxHeartbeats 10000000 in
set_option maxRecDepth 100000 in
theorem Forest_Order_ok (fu : Nat) (f1 : Forest) (n2 : Int) : ∀ r, Forest_Order_m fu f1 n2 = some r → DC Try.prog 23 [.agg (cForest f1), .v (.int .i64 n2)] (.sl 1 false (r.map cInt_i64)) := by
  intro r hr
  refine fc_intro (args := [.agg (cForest f1), .v (.int .i64 n2)]) (S := []) (N0 := []) (post := fun r p S => p = .sl 1 false (r.map cInt_i64) ∧ S = []) Try.func23 rfl rfl hr fun w0 X X0 σ0 => ?_
  refine pw_seq ?_
  refine pw_region ?_
  refine po_box  2 rfl rfl rfl rfl rfl rfl rfl rfl rfl rfl ?_
  refine po_evs (T := tab) 1 rfl rfl ?_
  refine po_nil ?_
  refine pn_seq ?_
  refine pw_seq ?_
  refine pw_seq ?_
  refine pw_region ?_
  refine po_evs (T := tab) 2 rfl rfl ?_
  refine po_lit (T := tab) (rows := [n2].map cInt_i64) 13 rfl rfl rfl rfl rfl rfl rfl rfl rfl rfl rfl rfl rfl rfl ?_
  refine po_freeze 13 rfl rfl rfl ?_
  refine po_call (enc := fun (r3 : Bool) => .v (.bool r3)) (qs := [.agg (cForest f1), .sl 1 false ([n2].map cInt_i64)]) (Forest_asked_ok fu f1 [n2]) rfl rfl ⟨⟨_, rfl, .rfl⟩, ⟨_, rfl, .rfl⟩, trivial⟩ (fun _ => rfl) call64 rfl rfl fun r3 hr3 => ?_
  refine po_evs (T := tab) 1 rfl rfl ?_
  refine po_nil ?_
  refine pn_seq ?_
  refine pw_cnd rfl ?_ ?_
  · refine pw_seq ?_
    refine pw_region ?_
    refine po_evs (T := tab) 1 rfl rfl ?_
    refine po_nil ?_
    refine pn_seq ?_
    refine pw_coe 4 (q := .sl 1 false ([].map cInt_i64)) rfl .nil ?_
    exact pw_retN (T := tab) rfl rfl rfl ⟨rfl, rfl⟩ trivial rfl
  · refine pw_skip ?_
    refine pn_seq ?_
    refine pw_seq ?_
    refine pw_region ?_
    refine po_evs (T := tab) 1 rfl rfl ?_
    refine po_nil ?_
    refine pn_seq ?_
    refine pw_seq ?_
    refine pw_seq ?_
    refine pw_region ?_
    refine po_evs (T := tab) 1 rfl rfl ?_
    refine po_lit (T := tab) (rows := [n2].map cInt_i64) 17 rfl rfl rfl rfl rfl rfl rfl rfl rfl rfl rfl rfl rfl rfl ?_
    refine po_alloc (T := tab) 6 rfl rfl rfl rfl rfl rfl rfl rfl rfl ?_
    refine po_store (T := tab) rfl rfl rfl rfl rfl rfl rfl rfl rfl rfl rfl rfl ?_
    refine po_nil ?_
    refine pn_seq ?_
    refine pw_block ?_
    refine pw_own_nil 1034 3 1 5 rfl rfl rfl rfl ?_
    refine pw_loop' (Forest_Order_l1 f1) (fun ((l4, l5) : (List Int) × (List Int)) => [(2, .loc 2 0), (5, .own 1034), (6, .loc 6 0)]) (fun ((l4, l5) : (List Int) × (List Int)) => [(1034, .arr 3 1 (l4.map cInt_i64)), (6, .box [.own 17]), (17, .arr 3 1 (l5.map cInt_i64)), (2, .box [.sl 10 false (f1.Nodes.map cNode), .v (.int .i64 f1.Most)])]) fu ([], [n2]) (fun _ => rfl) ⟨rfl, rfl, rfl, trivial⟩ ⟨rfl, rfl, rfl, rfl, trivial⟩ rfl ?_
    rintro k1 ⟨l4, l5⟩
    refine pw_seq ?_
    refine pw_seq ?_
    refine pw_region ?_
    refine po_evs (T := tab) 1 rfl rfl ?_
    refine po_len_own (T := tab) cInt_i64 l5 rfl rfl rfl rfl rfl rfl rfl rfl rfl ?_
    refine po_evs (T := tab) 1 rfl rfl ?_
    refine po_nil ?_
    refine pn_seq ?_
    refine pw_cnd rfl ?_ ?_
    · refine pw_skip ?_
      refine pn_seq ?_
      refine pw_seq ?_
      refine pw_block ?_
      refine pw_seq ?_
      refine pw_region ?_
      refine po_evs (T := tab) 1 rfl rfl ?_
      refine po_len_own (T := tab) cInt_i64 l5 rfl rfl rfl rfl rfl rfl rfl rfl rfl ?_
      refine po_arith' (T := tab) rfl rfl rfl rfl fun i6 hi6 => ?_
      refine po_evs (T := tab) 1 rfl rfl ?_
      refine po_nil ?_
      refine pn_seq ?_
      refine pw_seq ?_
      refine pw_region ?_
      refine po_evs (T := tab) 2 rfl rfl ?_
      refine po_idx_own (T := tab) cInt_i64 l5 rfl rfl rfl rfl rfl rfl rfl rfl fun y7 hy7 => ?_
      refine po_load_ela (T := tab) cInt_i64 l5 y7 (idx_at hy7) rfl rfl rfl rfl rfl rfl rfl rfl ?_
      refine po_evs (T := tab) 1 rfl rfl ?_
      refine po_nil ?_
      refine pn_seq ?_
      refine pw_seq ?_
      refine pw_region ?_
      refine po_evs (T := tab) 2 rfl rfl ?_
      refine po_own_cut (T := tab) cInt_i64 l5 rfl rfl rfl rfl rfl rfl rfl rfl rfl rfl rfl fun l8 hl8 => ?_
      refine po_store (T := tab) rfl rfl rfl rfl rfl rfl rfl rfl rfl rfl rfl rfl ?_
      refine po_nil ?_
      refine pn_seq ?_
      refine pw_seq ?_
      refine pw_region ?_
      refine po_evs (T := tab) 2 rfl rfl ?_
      refine po_lit (T := tab) (rows := [y7].map cInt_i64) 33 rfl rfl rfl rfl rfl rfl rfl rfl rfl rfl rfl rfl rfl rfl ?_
      refine po_append (T := tab) cInt_i64 l4 ([y7] : List Int) rfl rfl rfl rfl rfl rfl rfl rfl rfl rfl rfl rfl rfl rfl (cInt_i64_one _) rfl rfl rfl rfl rfl ?_
      refine po_evs (T := tab) 1 rfl rfl ?_
      refine po_nil ?_
      refine pn_seq ?_
      refine pw_seq ?_
      refine pw_region ?_
      refine po_evs (T := tab) 3 rfl rfl ?_
      refine po_idx (T := tab) cNode f1.Nodes rfl rfl rfl rfl rfl rfl rfl fun y9 hy9 => ?_
      refine po_evs (T := tab) 2 rfl rfl ?_
      refine po_backward (n := 3041) tab Try.func66 rfl rfl rfl rfl rfl rfl rfl rfl rfl rfl rfl rfl ⟨⟨_, rfl, .rfl⟩, trivial⟩ call66 rfl rfl ?_
      refine po_nil ?_
      refine pn_seq ?_
      refine pw_block ?_
      refine pw_back (T := tab) (enc := cInt_i64) (enc' := fun (y11 : Int) => .v (.int .i64 y11)) (xs := y9.Kids) (x0 := l8) (n := 3041) (tS := 26) (tE := 3) (tI := 3) (tB := 4) (tF := 65) (g := 96) (M := (Forest_Order_l2 l4 y7 y9 (Forest_Order_l1 f1 k1))) (Sf := fun (l10 : (List Int)) => [(1034, .arr 3 1 ((l4 ++ [y7]).map cInt_i64)), (17, .arr 3 1 (l10.map cInt_i64)), (6, .box [.own 17]), (2, .box [.sl 10 false (f1.Nodes.map cNode), .v (.int .i64 f1.Most)])]) (N1 := [2, 6, 1034]) (E0 := [(2, .loc 2 0), (5, .own 1034), (6, .loc 6 0)]) (E1 := fun k2 y11 => [(2, .loc 2 0), (5, .own 1034), (6, .loc 6 0), (42, .v (.int .i64 ((k2 : Nat) : Int))), (43, .v (.int .i64 y11)), (10, .v (.int .i64 y11))]) Try.func96 rfl rfl rfl call96 rfl rfl (fun _ => rfl) (fun _ => rfl) rfl rfl ⟨rfl, rfl, rfl, trivial⟩ rfl rfl ⟨rfl, rfl, rfl, rfl, trivial⟩ rfl rfl rfl rfl rfl rfl ?_ ?_ ?_
      · rintro k2 y11 l10 hy w0 X X0 σ0
        refine po_evs (T := tab) 1 rfl rfl ?_
        refine po_nil ?_
        exact pn_end0 ⟨rfl, rfl, rfl, rfl, rfl, rfl, trivial⟩ ⟨rfl, rfl, rfl, rfl, trivial⟩ rfl
      · rintro k2 y11 l10 hy w0 X X0 σ0
        refine po_known hy ?_
        refine po_evs (T := tab) 2 rfl rfl ?_
        refine po_lit (T := tab) (rows := [y11].map cInt_i64) 46 rfl rfl rfl rfl rfl rfl rfl rfl rfl rfl rfl rfl rfl rfl ?_
        refine po_append (T := tab) cInt_i64 l10 ([y11] : List Int) rfl rfl rfl rfl rfl rfl rfl rfl rfl rfl rfl rfl rfl rfl (cInt_i64_one _) rfl rfl rfl rfl rfl ?_
        refine po_store (T := tab) rfl rfl rfl rfl rfl rfl rfl rfl rfl rfl rfl rfl ?_
        refine po_nil ?_
        exact pn_iter' (l10 ++ [y11]) trivial ⟨rfl, rfl, rfl, rfl, trivial⟩ rfl
      · rintro l10
        refine pn_block ?_
        refine pn_block ?_
        refine pn_seq ?_
        refine pw_seq ?_
        refine pw_region ?_
        refine po_evs (T := tab) 1 rfl rfl ?_
        refine po_nil ?_
        refine pn_seq ?_
        refine pw_region ?_
        refine po_alloc (T := tab) 6 rfl rfl rfl rfl rfl rfl rfl rfl rfl ?_
        refine po_store (T := tab) rfl rfl rfl rfl rfl rfl rfl rfl rfl rfl rfl rfl ?_
        refine po_nil ?_
        exact pn_iter' ((l4 ++ [y7]), l10) ⟨rfl, rfl, rfl, trivial⟩ ⟨rfl, rfl, rfl, rfl, trivial⟩ rfl
    · refine pw_exit rfl ?_
      refine pn_seq ?_
      refine pw_seq ?_
      refine pw_region ?_
      refine po_evs (T := tab) 2 rfl rfl ?_
      refine po_nil ?_
      refine pn_seq ?_
      refine pw_freeze 1034 rfl rfl rfl ?_
      exact pw_retN (T := tab) rfl rfl rfl ⟨rfl, rfl⟩ trivial rfl

def Forest_root_l1 (f1 : Forest) : Nat → Int → Option Int
  | 0, _ => none
  | k1 + 1, n3 => bnd (idx f1.Nodes n3) fun y4 => cnd (y4.Parent != (-1)) (bnd (idx f1.Nodes n3) fun y5 => (Forest_root_l1 f1 k1) y5.Parent) (some n3)

def Forest_root_m (fu : Nat) (f1 : Forest) (n2 : Int) : Option Int := (Forest_root_l1 f1) fu n2

set_option maxRecDepth 100000 in
theorem Forest_root_ok (fu : Nat) (f1 : Forest) (n2 : Int) : ∀ r, Forest_root_m fu f1 n2 = some r → DC Try.prog 65 [.agg (cForest f1), .v (.int .i64 n2)] (.v (.int .i64 r)) := by
  intro r hr
  refine fc_intro (args := [.agg (cForest f1), .v (.int .i64 n2)]) (S := []) (N0 := []) (post := fun r p S => p = .v (.int .i64 r) ∧ S = []) Try.func65 rfl rfl hr fun w0 X X0 σ0 => ?_
  refine pw_seq ?_
  refine pw_region ?_
  refine po_box  2 rfl rfl rfl rfl rfl rfl rfl rfl rfl rfl ?_
  refine po_evs (T := tab) 1 rfl rfl ?_
  refine po_nil ?_
  refine pn_seq ?_
  refine pw_seq ?_
  refine pw_block ?_
  refine pw_loop' (Forest_root_l1 f1) (fun (n3 : Int) => [(1, .v (.int .i64 n3)), (2, .loc 2 0)]) (fun (n3 : Int) => [(2, .box [.sl 10 false (f1.Nodes.map cNode), .v (.int .i64 f1.Most)])]) fu n2 (fun _ => rfl) ⟨rfl, rfl, trivial⟩ ⟨rfl, trivial⟩ rfl ?_
  rintro k1 n3
  refine pw_seq ?_
  refine pw_seq ?_
  refine pw_region ?_
  refine po_evs (T := tab) 3 rfl rfl ?_
  refine po_idx (T := tab) cNode f1.Nodes rfl rfl rfl rfl rfl rfl rfl fun y4 hy4 => ?_
  refine po_evs (T := tab) 3 rfl rfl ?_
  refine po_nil ?_
  refine pn_seq ?_
  refine pw_cnd rfl ?_ ?_
  · refine pw_skip ?_
    refine pn_seq ?_
    refine pw_block ?_
    refine pw_region ?_
    refine po_evs (T := tab) 3 rfl rfl ?_
    refine po_idx (T := tab) cNode f1.Nodes rfl rfl rfl rfl rfl rfl rfl fun y5 hy5 => ?_
    refine po_evs (T := tab) 3 rfl rfl ?_
    refine po_nil ?_
    refine pn_block ?_
    exact pn_iter' y5.Parent ⟨rfl, rfl, trivial⟩ ⟨rfl, trivial⟩ rfl
  · refine pw_exit rfl ?_
    refine pn_seq ?_
    refine pw_seq ?_
    refine pw_region ?_
    refine po_evs (T := tab) 2 rfl rfl ?_
    refine po_nil ?_
    refine pn_seq ?_
    exact pw_retN (T := tab) rfl rfl rfl ⟨rfl, rfl⟩ trivial rfl

def Forest_Root_m (fu : Nat) (f1 : Forest) (n2 : Int) : Option Int := bnd (Forest_asked_m fu f1 [n2]) fun r3 => cnd (!r3) (some (-1)) (bnd (Forest_root_m fu f1 n2) fun r4 => some r4)

set_option maxRecDepth 100000 in
theorem Forest_Root_ok (fu : Nat) (f1 : Forest) (n2 : Int) : ∀ r, Forest_Root_m fu f1 n2 = some r → DC Try.prog 22 [.agg (cForest f1), .v (.int .i64 n2)] (.v (.int .i64 r)) := by
  intro r hr
  refine fc_intro (args := [.agg (cForest f1), .v (.int .i64 n2)]) (S := []) (N0 := []) (post := fun r p S => p = .v (.int .i64 r) ∧ S = []) Try.func22 rfl rfl hr fun w0 X X0 σ0 => ?_
  refine pw_seq ?_
  refine pw_region ?_
  refine po_box  2 rfl rfl rfl rfl rfl rfl rfl rfl rfl rfl ?_
  refine po_evs (T := tab) 1 rfl rfl ?_
  refine po_nil ?_
  refine pn_seq ?_
  refine pw_seq ?_
  refine pw_seq ?_
  refine pw_region ?_
  refine po_evs (T := tab) 2 rfl rfl ?_
  refine po_lit (T := tab) (rows := [n2].map cInt_i64) 7 rfl rfl rfl rfl rfl rfl rfl rfl rfl rfl rfl rfl rfl rfl ?_
  refine po_freeze 7 rfl rfl rfl ?_
  refine po_call (enc := fun (r3 : Bool) => .v (.bool r3)) (qs := [.agg (cForest f1), .sl 1 false ([n2].map cInt_i64)]) (Forest_asked_ok fu f1 [n2]) rfl rfl ⟨⟨_, rfl, .rfl⟩, ⟨_, rfl, .rfl⟩, trivial⟩ (fun _ => rfl) call64 rfl rfl fun r3 hr3 => ?_
  refine po_evs (T := tab) 1 rfl rfl ?_
  refine po_nil ?_
  refine pn_seq ?_
  refine pw_cnd rfl ?_ ?_
  · refine pw_seq ?_
    refine pw_region ?_
    refine po_evs (T := tab) 1 rfl rfl ?_
    refine po_nil ?_
    refine pn_seq ?_
    exact pw_retN (T := tab) rfl rfl rfl ⟨rfl, rfl⟩ trivial rfl
  · refine pw_skip ?_
    refine pn_seq ?_
    refine pw_seq ?_
    refine pw_region ?_
    refine po_evs (T := tab) 2 rfl rfl ?_
    refine po_call (enc := fun (r4 : Int) => .v (.int .i64 r4)) (qs := [.agg (cForest f1), .v (.int .i64 n2)]) (Forest_root_ok fu f1 n2) rfl rfl ⟨⟨_, rfl, .rfl⟩, ⟨_, rfl, .rfl⟩, trivial⟩ (fun _ => rfl) call65 rfl rfl fun r4 hr4 => ?_
    refine po_evs (T := tab) 1 rfl rfl ?_
    refine po_nil ?_
    refine pn_seq ?_
    exact pw_retN (T := tab) rfl rfl rfl ⟨rfl, rfl⟩ trivial rfl

def Forest_Holds_l1 (f1 : Forest) (a2 : Int) : Nat → Int → Option Bool
  | 0, _ => none
  | k1 + 1, b5 => cnd (b5 != (-1)) (cnd (b5 != a2) (bnd (idx f1.Nodes b5) fun y6 => (Forest_Holds_l1 f1 a2 k1) y6.Parent) (some (b5 == a2))) (some (b5 == a2))

def Forest_Holds_m (fu : Nat) (f1 : Forest) (a2 : Int) (b3 : Int) : Option Bool := bnd (Forest_asked_m fu f1 [a2, b3]) fun r4 => cnd (!r4) (some false) ((Forest_Holds_l1 f1 a2) fu b3)

set_option maxHeartbeats 10000000 in
set_option maxRecDepth 100000 in
theorem Forest_Holds_ok (fu : Nat) (f1 : Forest) (a2 : Int) (b3 : Int) : ∀ r, Forest_Holds_m fu f1 a2 b3 = some r → DC Try.prog 24 [.agg (cForest f1), .v (.int .i64 a2), .v (.int .i64 b3)] (.v (.bool r)) := by
  intro r hr
  refine fc_intro (args := [.agg (cForest f1), .v (.int .i64 a2), .v (.int .i64 b3)]) (S := []) (N0 := []) (post := fun r p S => p = .v (.bool r) ∧ S = []) Try.func24 rfl rfl hr fun w0 X X0 σ0 => ?_
  refine pw_seq ?_
  refine pw_region ?_
  refine po_box  3 rfl rfl rfl rfl rfl rfl rfl rfl rfl rfl ?_
  refine po_evs (T := tab) 1 rfl rfl ?_
  refine po_nil ?_
  refine pn_seq ?_
  refine pw_seq ?_
  refine pw_seq ?_
  refine pw_region ?_
  refine po_evs (T := tab) 3 rfl rfl ?_
  refine po_lit (T := tab) (rows := [a2, b3].map cInt_i64) 10 rfl rfl rfl rfl rfl rfl rfl rfl rfl rfl rfl rfl rfl rfl ?_
  refine po_freeze 10 rfl rfl rfl ?_
  refine po_call (enc := fun (r4 : Bool) => .v (.bool r4)) (qs := [.agg (cForest f1), .sl 1 false ([a2, b3].map cInt_i64)]) (Forest_asked_ok fu f1 [a2, b3]) rfl rfl ⟨⟨_, rfl, .rfl⟩, ⟨_, rfl, .rfl⟩, trivial⟩ (fun _ => rfl) call64 rfl rfl fun r4 hr4 => ?_
  refine po_evs (T := tab) 1 rfl rfl ?_
  refine po_nil ?_
  refine pn_seq ?_
  refine pw_cnd rfl ?_ ?_
  · refine pw_seq ?_
    refine pw_region ?_
    refine po_evs (T := tab) 1 rfl rfl ?_
    refine po_nil ?_
    refine pn_seq ?_
    exact pw_retN (T := tab) rfl rfl rfl ⟨rfl, rfl⟩ trivial rfl
  · refine pw_skip ?_
    refine pn_seq ?_
    refine pw_seq ?_
    refine pw_block ?_
    refine pw_loop' (Forest_Holds_l1 f1 a2) (fun (b5 : Int) => [(1, .v (.int .i64 a2)), (2, .v (.int .i64 b5)), (3, .loc 3 0)]) (fun (b5 : Int) => [(3, .box [.sl 10 false (f1.Nodes.map cNode), .v (.int .i64 f1.Most)])]) fu b3 (fun _ => rfl) ⟨rfl, rfl, rfl, trivial⟩ ⟨rfl, trivial⟩ rfl ?_
    rintro k1 b5
    refine pw_seq ?_
    refine pw_seq ?_
    refine pw_region ?_
    refine po_evs (T := tab) 3 rfl rfl ?_
    refine po_split (j := 15) rfl ?_ ?_
    · refine po_evs (T := tab) 4 rfl rfl ?_
      refine po_nil ?_
      refine pn_seq ?_
      refine pw_cnd rfl ?_ ?_
      · refine pw_skip ?_
        refine pn_seq ?_
        refine pw_block ?_
        refine pw_region ?_
        refine po_evs (T := tab) 3 rfl rfl ?_
        refine po_idx (T := tab) cNode f1.Nodes rfl rfl rfl rfl rfl rfl rfl fun y6 hy6 => ?_
        refine po_evs (T := tab) 3 rfl rfl ?_
        refine po_nil ?_
        refine pn_block ?_
        exact pn_iter' y6.Parent ⟨rfl, rfl, rfl, trivial⟩ ⟨rfl, trivial⟩ rfl
      · refine pw_exit rfl ?_
        refine pn_seq ?_
        refine pw_seq ?_
        refine pw_region ?_
        refine po_evs (T := tab) 4 rfl rfl ?_
        refine po_nil ?_
        refine pn_seq ?_
        exact pw_retN (T := tab) rfl rfl rfl ⟨rfl, rfl⟩ trivial rfl
    · refine po_evs (T := tab) 4 rfl rfl ?_
      refine po_nil ?_
      refine pn_seq (pw_else rfl ?_)
      refine pw_exit rfl ?_
      refine pn_seq ?_
      refine pw_seq ?_
      refine pw_region ?_
      refine po_evs (T := tab) 4 rfl rfl ?_
      refine po_nil ?_
      refine pn_seq ?_
      exact pw_retN (T := tab) rfl rfl rfl ⟨rfl, rfl⟩ trivial rfl

def Forest_Place_m (fu : Nat) (f1 : Forest) (n2 : Int) : Option Int := bnd (Forest_asked_m fu f1 [n2]) fun r3 => cnd (!r3) (some (-1)) (bnd (idx f1.Nodes n2) fun y4 => cnd (y4.Parent == (-1)) (some (-1)) (bnd (idx f1.Nodes n2) fun y5 => bnd (idx f1.Nodes y5.Parent) fun y6 => bnd (Slices_Index_int_m fu y6.Kids n2) fun r7 => some r7))

set_option maxHeartbeats 10000000 in
set_option maxRecDepth 100000 in
theorem Forest_Place_ok (fu : Nat) (f1 : Forest) (n2 : Int) : ∀ r, Forest_Place_m fu f1 n2 = some r → DC Try.prog 25 [.agg (cForest f1), .v (.int .i64 n2)] (.v (.int .i64 r)) := by
  intro r hr
  refine fc_intro (args := [.agg (cForest f1), .v (.int .i64 n2)]) (S := []) (N0 := []) (post := fun r p S => p = .v (.int .i64 r) ∧ S = []) Try.func25 rfl rfl hr fun w0 X X0 σ0 => ?_
  refine pw_seq ?_
  refine pw_region ?_
  refine po_box  2 rfl rfl rfl rfl rfl rfl rfl rfl rfl rfl ?_
  refine po_evs (T := tab) 1 rfl rfl ?_
  refine po_nil ?_
  refine pn_seq ?_
  refine pw_seq ?_
  refine pw_seq ?_
  refine pw_region ?_
  refine po_evs (T := tab) 2 rfl rfl ?_
  refine po_lit (T := tab) (rows := [n2].map cInt_i64) 7 rfl rfl rfl rfl rfl rfl rfl rfl rfl rfl rfl rfl rfl rfl ?_
  refine po_freeze 7 rfl rfl rfl ?_
  refine po_call (enc := fun (r3 : Bool) => .v (.bool r3)) (qs := [.agg (cForest f1), .sl 1 false ([n2].map cInt_i64)]) (Forest_asked_ok fu f1 [n2]) rfl rfl ⟨⟨_, rfl, .rfl⟩, ⟨_, rfl, .rfl⟩, trivial⟩ (fun _ => rfl) call64 rfl rfl fun r3 hr3 => ?_
  refine po_evs (T := tab) 2 rfl rfl ?_
  refine po_split (j := 10) rfl ?_ ?_
  · refine po_evs (T := tab) 8 rfl rfl ?_
    refine po_nil ?_
    refine pn_seq (pw_then rfl ?_)
    refine pw_seq ?_
    refine pw_region ?_
    refine po_evs (T := tab) 1 rfl rfl ?_
    refine po_nil ?_
    refine pn_seq ?_
    exact pw_retN (T := tab) rfl rfl rfl ⟨rfl, rfl⟩ trivial rfl
  · refine po_evs (T := tab) 3 rfl rfl ?_
    refine po_idx (T := tab) cNode f1.Nodes rfl rfl rfl rfl rfl rfl rfl fun y4 hy4 => ?_
    refine po_evs (T := tab) 4 rfl rfl ?_
    refine po_nil ?_
    refine pn_seq ?_
    refine pw_cnd rfl ?_ ?_
    · refine pw_seq ?_
      refine pw_region ?_
      refine po_evs (T := tab) 1 rfl rfl ?_
      refine po_nil ?_
      refine pn_seq ?_
      exact pw_retN (T := tab) rfl rfl rfl ⟨rfl, rfl⟩ trivial rfl
    · refine pw_skip ?_
      refine pn_seq ?_
      refine pw_seq ?_
      refine pw_draw mixed (by kernel_rfl) ?_
      refine pd_evs (T := tab) 5 rfl rfl ?_
      refine pd_idx (T := tab) cNode f1.Nodes rfl rfl rfl rfl rfl rfl rfl fun y5 hy5 => ?_
      refine pd_evs (T := tab) 2 rfl rfl ?_
      refine pd_idx (T := tab) cNode f1.Nodes rfl rfl rfl rfl rfl rfl rfl fun y6 hy6 => ?_
      refine pd_evs (T := tab) 3 rfl rfl ?_
      refine pd_call (enc := fun (r7 : Int) => .v (.int .i64 r7)) (qs := [.sl 1 false (y6.Kids.map cInt_i64), .v (.int .i64 n2)]) (Slices_Index_int_ok fu y6.Kids n2) rfl rfl ⟨⟨_, rfl, .rfl⟩, ⟨_, rfl, .rfl⟩, trivial⟩ (fun _ => rfl) call67 rfl rfl fun r7 hr7 => ?_
      refine pd_evs (T := tab) 1 rfl rfl ?_
      refine pd_nil ?_
      refine pn_seq ?_
      exact pw_retN (T := tab) rfl rfl rfl ⟨rfl, rfl⟩ trivial rfl

def Forest_Ahead_m (fu : Nat) (f1 : Forest) (a2 : Int) (b3 : Int) : Option Bool := bnd (Forest_asked_m fu f1 [a2, b3]) fun r4 => cnd (!r4) (some false) (bnd (Forest_root_m fu f1 a2) fun r5 => bnd (Forest_root_m fu f1 b3) fun r6 => cnd (r5 != r6) (some false) (bnd (Forest_root_m fu f1 a2) fun r7 => bnd (Forest_Order_m fu f1 r7) fun r8 => bnd (Slices_Index_int_m fu r8 a2) fun r9 => bnd (Slices_Index_int_m fu r8 b3) fun r10 => some (decide (r9 < r10))))

set_option maxHeartbeats 10000000 in
set_option maxRecDepth 100000 in
theorem Forest_Ahead_ok (fu : Nat) (f1 : Forest) (a2 : Int) (b3 : Int) : ∀ r, Forest_Ahead_m fu f1 a2 b3 = some r → DC Try.prog 26 [.agg (cForest f1), .v (.int .i64 a2), .v (.int .i64 b3)] (.v (.bool r)) := by
  intro r hr
  refine fc_intro (args := [.agg (cForest f1), .v (.int .i64 a2), .v (.int .i64 b3)]) (S := []) (N0 := []) (post := fun r p S => p = .v (.bool r) ∧ S = []) Try.func26 rfl rfl hr fun w0 X X0 σ0 => ?_
  refine pw_seq ?_
  refine pw_region ?_
  refine po_box  3 rfl rfl rfl rfl rfl rfl rfl rfl rfl rfl ?_
  refine po_evs (T := tab) 1 rfl rfl ?_
  refine po_nil ?_
  refine pn_seq ?_
  refine pw_seq ?_
  refine pw_seq ?_
  refine pw_sub' (E' := [(1, .v (.int .i64 a2)), (2, .v (.int .i64 b3)), (3, .loc 3 0)]) (S' := [(3, .box [.sl 10 false (f1.Nodes.map cNode), .v (.int .i64 f1.Most)])]) ?_ ⟨rfl, rfl, rfl, trivial⟩ ⟨rfl, trivial⟩ rfl
  refine pw_drawV [0, 0, 0, 6, 15, 31, 63, 127, 127, 511, 127, 127, 4095, 8191, 16383] mixed (by kernel_rfl) (by kernel_rfl) rfl rfl ?_
  refine pdv_step0 [6, 7] [16] [] [3] [3] [(8, .agg (cForest f1))] [(3, .box [.sl 10 false (f1.Nodes.map cNode), .v (.int .i64 f1.Most)])] rfl rfl rfl rfl (by kernel_rfl) (by kernel_rfl) (by kernel_rfl) ⟨rfl, trivial⟩ (fun w0 X X0 σ0 => by refine po_evs (T := tab) 1 rfl rfl ?_; refine po_nil ?_; exact pn_end0 ⟨rfl, trivial⟩ ⟨rfl, trivial⟩ rfl) ?_
  refine pdv_step0 [2] [18] [] [] [] [(9, .v (.int .i64 a2))] [] rfl rfl rfl rfl (by kernel_rfl) (by kernel_rfl) (by kernel_rfl) trivial (fun w0 X X0 σ0 => by refine po_evs (T := tab) 1 rfl rfl ?_; refine po_nil ?_; exact pn_end0 ⟨rfl, trivial⟩ trivial rfl) ?_
  refine pdv_step0 [4] [20] [] [] [] [(10, .v (.int .i64 b3))] [] rfl rfl rfl rfl (by kernel_rfl) (by kernel_rfl) (by kernel_rfl) trivial (fun w0 X X0 σ0 => by refine po_evs (T := tab) 1 rfl rfl ?_; refine po_nil ?_; exact pn_end0 ⟨rfl, trivial⟩ trivial rfl) ?_
  refine pdv_step0 [18, 20] [22, 23] [11] [] [] [(11, .own 11)] [(11, .arr 3 1 ([a2, b3].map cInt_i64))] rfl rfl rfl rfl (by kernel_rfl) (by kernel_rfl) (by kernel_rfl) trivial (fun w0 X X0 σ0 => by refine po_lit (T := tab) (rows := [a2, b3].map cInt_i64) 11 rfl rfl rfl rfl rfl rfl rfl rfl rfl rfl rfl rfl rfl rfl ?_; refine po_nil ?_; exact pn_end0 ⟨rfl, trivial⟩ ⟨rfl, trivial⟩ rfl) ?_
  refine pdv_step (M := (Forest_asked_m fu f1 [a2, b3])) (ment := [(24, []), (22, []), (23, [])]) [16, 22, 23] [24, 22, 23] [] [11] [] (fun r4 => [(12, .v (.bool r4)), (11, .sl 1 false ([a2, b3].map cInt_i64))]) (fun r4 => []) rfl rfl (fun _ => rfl) (fun _ => rfl) (by kernel_rfl) (by kernel_rfl) (fun _ => by kernel_rfl) (fun _ => trivial) (fun w0 X X0 σ0 => by refine po_freeze 11 rfl rfl rfl ?_; refine po_call (enc := fun (r4 : Bool) => .v (.bool r4)) (qs := [.agg (cForest f1), .sl 1 false ([a2, b3].map cInt_i64)]) (Forest_asked_ok fu f1 [a2, b3]) rfl rfl ⟨⟨_, rfl, .rfl⟩, ⟨_, rfl, .rfl⟩, trivial⟩ (fun _ => rfl) call64 rfl rfl fun r4 hr4 => ?_; refine po_nil ?_; exact pn_end ⟨rfl, rfl, trivial⟩ trivial rfl) fun r4 hr4 => ?_
  refine pdv_step0 [24] [26] [] [] [] [(13, .v (.bool (!r4)))] [] rfl rfl rfl rfl (by kernel_rfl) (by kernel_rfl) (by kernel_rfl) trivial (fun w0 X X0 σ0 => by refine po_evs (T := tab) 1 rfl rfl ?_; refine po_nil ?_; exact pn_end0 ⟨rfl, trivial⟩ trivial rfl) ?_
  refine pdv_step0 [26] [28] [] [] [] [(14, .v (.bool (!r4)))] [] rfl rfl rfl rfl (by kernel_rfl) (by kernel_rfl) (by kernel_rfl) trivial (fun w0 X X0 σ0 => by refine po_evs (T := tab) 1 rfl rfl ?_; refine po_nil ?_; exact pn_end0 ⟨rfl, trivial⟩ trivial rfl) ?_
  refine pdv_split (t := 14) rfl ?_ ?_
  · refine pdv_step0 [28] [30] [] [] [] [(15, .tup [])] [] rfl rfl rfl rfl (by kernel_rfl) (by kernel_rfl) (by kernel_rfl) trivial (fun w0 X X0 σ0 => by refine po_evs (T := tab) 1 rfl rfl ?_; refine po_nil ?_; exact pn_end0 ⟨rfl, trivial⟩ trivial rfl) ?_
    refine pdv_step0 [28] [32] [] [] [] [(16, .tup [])] [] rfl rfl rfl rfl (by kernel_rfl) (by kernel_rfl) (by kernel_rfl) trivial (fun w0 X X0 σ0 => by refine po_evs (T := tab) 1 rfl rfl ?_; refine po_nil ?_; exact pn_end0 ⟨rfl, trivial⟩ trivial rfl) ?_
    refine pdv_step0 [28] [34] [] [] [] [(17, .tup [])] [] rfl rfl rfl rfl (by kernel_rfl) (by kernel_rfl) (by kernel_rfl) trivial (fun w0 X X0 σ0 => by refine po_evs (T := tab) 1 rfl rfl ?_; refine po_nil ?_; exact pn_end0 ⟨rfl, trivial⟩ trivial rfl) ?_
    refine pdv_step0 [28] [36] [] [] [] [(18, .tup [])] [] rfl rfl rfl rfl (by kernel_rfl) (by kernel_rfl) (by kernel_rfl) trivial (fun w0 X X0 σ0 => by refine po_evs (T := tab) 1 rfl rfl ?_; refine po_nil ?_; exact pn_end0 ⟨rfl, trivial⟩ trivial rfl) ?_
    refine pdv_step0 [28] [38] [] [] [] [(19, .tup [])] [] rfl rfl rfl rfl (by kernel_rfl) (by kernel_rfl) (by kernel_rfl) trivial (fun w0 X X0 σ0 => by refine po_evs (T := tab) 1 rfl rfl ?_; refine po_nil ?_; exact pn_end0 ⟨rfl, trivial⟩ trivial rfl) ?_
    refine pdv_step0 [28] [40] [] [] [] [(20, .tup [])] [] rfl rfl rfl rfl (by kernel_rfl) (by kernel_rfl) (by kernel_rfl) trivial (fun w0 X X0 σ0 => by refine po_evs (T := tab) 1 rfl rfl ?_; refine po_nil ?_; exact pn_end0 ⟨rfl, trivial⟩ trivial rfl) ?_
    refine pdv_step0 [28] [42] [] [] [] [(21, .tup [])] [] rfl rfl rfl rfl (by kernel_rfl) (by kernel_rfl) (by kernel_rfl) trivial (fun w0 X X0 σ0 => by refine po_evs (T := tab) 1 rfl rfl ?_; refine po_nil ?_; exact pn_end0 ⟨rfl, trivial⟩ trivial rfl) ?_
    refine pdv_step0 [28, 42] [44] [] [] [] [(22, .v (.bool true))] [] rfl rfl rfl rfl (by kernel_rfl) (by kernel_rfl) (by kernel_rfl) trivial (fun w0 X X0 σ0 => by refine po_evs (T := tab) 1 rfl rfl ?_; refine po_nil ?_; exact pn_end0 ⟨rfl, trivial⟩ trivial rfl) ?_
    refine pdv_nil rfl rfl ?_
    refine pn_seq (pw_then rfl ?_)
    refine pw_seq ?_
    refine pw_region ?_
    refine po_evs (T := tab) 1 rfl rfl ?_
    refine po_nil ?_
    refine pn_seq ?_
    exact pw_retN (T := tab) rfl rfl rfl ⟨rfl, rfl⟩ trivial rfl
  · refine pdv_step0 [6, 7, 28] [30] [] [3] [3] [(15, .agg (cForest f1))] [(3, .box [.sl 10 false (f1.Nodes.map cNode), .v (.int .i64 f1.Most)])] rfl rfl rfl rfl (by kernel_rfl) (by kernel_rfl) (by kernel_rfl) ⟨rfl, trivial⟩ (fun w0 X X0 σ0 => by refine po_evs (T := tab) 1 rfl rfl ?_; refine po_nil ?_; exact pn_end0 ⟨rfl, trivial⟩ ⟨rfl, trivial⟩ rfl) ?_
    refine pdv_step0 [2, 28] [32] [] [] [] [(16, .v (.int .i64 a2))] [] rfl rfl rfl rfl (by kernel_rfl) (by kernel_rfl) (by kernel_rfl) trivial (fun w0 X X0 σ0 => by refine po_evs (T := tab) 1 rfl rfl ?_; refine po_nil ?_; exact pn_end0 ⟨rfl, trivial⟩ trivial rfl) ?_
    refine pdv_step (M := (Forest_root_m fu f1 a2)) (ment := [(34, [])]) [28, 30, 32] [34] [] [] [] (fun r5 => [(17, .v (.int .i64 r5))]) (fun r5 => []) rfl rfl (fun _ => rfl) (fun _ => rfl) (by kernel_rfl) (by kernel_rfl) (fun _ => by kernel_rfl) (fun _ => trivial) (fun w0 X X0 σ0 => by refine po_call (enc := fun (r5 : Int) => .v (.int .i64 r5)) (qs := [.agg (cForest f1), .v (.int .i64 a2)]) (Forest_root_ok fu f1 a2) rfl rfl ⟨⟨_, rfl, .rfl⟩, ⟨_, rfl, .rfl⟩, trivial⟩ (fun _ => rfl) call65 rfl rfl fun r5 hr5 => ?_; refine po_nil ?_; exact pn_end ⟨rfl, trivial⟩ trivial rfl) fun r5 hr5 => ?_
    refine pdv_step0 [6, 7, 28] [36] [] [3] [3] [(18, .agg (cForest f1))] [(3, .box [.sl 10 false (f1.Nodes.map cNode), .v (.int .i64 f1.Most)])] rfl rfl rfl rfl (by kernel_rfl) (by kernel_rfl) (by kernel_rfl) ⟨rfl, trivial⟩ (fun w0 X X0 σ0 => by refine po_evs (T := tab) 1 rfl rfl ?_; refine po_nil ?_; exact pn_end0 ⟨rfl, trivial⟩ ⟨rfl, trivial⟩ rfl) ?_
    refine pdv_step0 [4, 28] [38] [] [] [] [(19, .v (.int .i64 b3))] [] rfl rfl rfl rfl (by kernel_rfl) (by kernel_rfl) (by kernel_rfl) trivial (fun w0 X X0 σ0 => by refine po_evs (T := tab) 1 rfl rfl ?_; refine po_nil ?_; exact pn_end0 ⟨rfl, trivial⟩ trivial rfl) ?_
    refine pdv_step (M := (Forest_root_m fu f1 b3)) (ment := [(40, [])]) [28, 36, 38] [40] [] [] [] (fun r6 => [(20, .v (.int .i64 r6))]) (fun r6 => []) rfl rfl (fun _ => rfl) (fun _ => rfl) (by kernel_rfl) (by kernel_rfl) (fun _ => by kernel_rfl) (fun _ => trivial) (fun w0 X X0 σ0 => by refine po_call (enc := fun (r6 : Int) => .v (.int .i64 r6)) (qs := [.agg (cForest f1), .v (.int .i64 b3)]) (Forest_root_ok fu f1 b3) rfl rfl ⟨⟨_, rfl, .rfl⟩, ⟨_, rfl, .rfl⟩, trivial⟩ (fun _ => rfl) call65 rfl rfl fun r6 hr6 => ?_; refine po_nil ?_; exact pn_end ⟨rfl, trivial⟩ trivial rfl) fun r6 hr6 => ?_
    refine pdv_step0 [28, 34, 40] [42] [] [] [] [(21, .v (.bool (r5 != r6)))] [] rfl rfl rfl rfl (by kernel_rfl) (by kernel_rfl) (by kernel_rfl) trivial (fun w0 X X0 σ0 => by refine po_evs (T := tab) 1 rfl rfl ?_; refine po_nil ?_; exact pn_end0 ⟨rfl, trivial⟩ trivial rfl) ?_
    refine pdv_step0 [28, 42] [44] [] [] [] [(22, .v (.bool (r5 != r6)))] [] rfl rfl rfl rfl (by kernel_rfl) (by kernel_rfl) (by kernel_rfl) trivial (fun w0 X X0 σ0 => by refine po_evs (T := tab) 1 rfl rfl ?_; refine po_nil ?_; exact pn_end0 ⟨rfl, trivial⟩ trivial rfl) ?_
    refine pdv_nil rfl rfl ?_
    refine pn_seq ?_
    refine pw_cnd rfl ?_ ?_
    · refine pw_seq ?_
      refine pw_region ?_
      refine po_evs (T := tab) 1 rfl rfl ?_
      refine po_nil ?_
      refine pn_seq ?_
      exact pw_retN (T := tab) rfl rfl rfl ⟨rfl, rfl⟩ trivial rfl
    · refine pw_skip ?_
      refine pn_seq ?_
      refine pw_seq ?_
      refine pw_draw mixed (by kernel_rfl) ?_
      refine pd_evs (T := tab) 3 rfl rfl ?_
      refine pd_call (enc := fun (r7 : Int) => .v (.int .i64 r7)) (qs := [.agg (cForest f1), .v (.int .i64 a2)]) (Forest_root_ok fu f1 a2) rfl rfl ⟨⟨_, rfl, .rfl⟩, ⟨_, rfl, .rfl⟩, trivial⟩ (fun _ => rfl) call65 rfl rfl fun r7 hr7 => ?_
      refine pd_call (enc := fun (r8 : (List Int)) => .sl 1 false (r8.map cInt_i64)) (qs := [.agg (cForest f1), .v (.int .i64 r7)]) (Forest_Order_ok fu f1 r7) rfl rfl ⟨⟨_, rfl, .rfl⟩, ⟨_, rfl, .rfl⟩, trivial⟩ (fun _ => rfl) call23 rfl rfl fun r8 hr8 => ?_
      refine pd_evs (T := tab) 1 rfl rfl ?_
      refine pd_nil ?_
      refine pn_seq ?_
      refine pw_seq ?_
      refine pw_region ?_
      refine po_evs (T := tab) 2 rfl rfl ?_
      refine po_call (enc := fun (r9 : Int) => .v (.int .i64 r9)) (qs := [.sl 1 false (r8.map cInt_i64), .v (.int .i64 a2)]) (Slices_Index_int_ok fu r8 a2) rfl rfl ⟨⟨_, rfl, .rfl⟩, ⟨_, rfl, .rfl⟩, trivial⟩ (fun _ => rfl) call67 rfl rfl fun r9 hr9 => ?_
      refine po_evs (T := tab) 2 rfl rfl ?_
      refine po_call (enc := fun (r10 : Int) => .v (.int .i64 r10)) (qs := [.sl 1 false (r8.map cInt_i64), .v (.int .i64 b3)]) (Slices_Index_int_ok fu r8 b3) rfl rfl ⟨⟨_, rfl, .rfl⟩, ⟨_, rfl, .rfl⟩, trivial⟩ (fun _ => rfl) call67 rfl rfl fun r10 hr10 => ?_
      refine po_evs (T := tab) 2 rfl rfl ?_
      refine po_nil ?_
      refine pn_seq ?_
      exact pw_retN (T := tab) rfl rfl rfl ⟨rfl, rfl⟩ trivial rfl

def Instarref03_Short_l1 (f1 : Forest) : Nat → Int → Option Bool
  | 0, _ => none
  | k1 + 1, i2 => cnd (decide (i2 < ((f1.Nodes.length : Nat) : Int))) (bnd (idx f1.Nodes i2) fun y3 => cnd (decide (((y3.Kids.length : Nat) : Int) > 60)) (some false) (bnd (idx f1.Nodes i2) fun y4 => cnd (decide (((y4.Attrs.length : Nat) : Int) > 60)) (some false) (bnd (idx f1.Nodes i2) fun y5 => cnd (decide (((y5.Name.length : Nat) : Int) > 300)) (some false) (bnd (rng .i64 (i2 + 1)) fun i6 => (Instarref03_Short_l1 f1 k1) i6)))) (some true)

def Instarref03_Short_m (fu : Nat) (f1 : Forest) : Option Bool := cnd (decide (((f1.Nodes.length : Nat) : Int) > 60)) (some false) ((Instarref03_Short_l1 f1) fu 0)

set_option maxHeartbeats 10000000 in
set_option maxRecDepth 100000 in
theorem Instarref03_Short_ok (fu : Nat) (f1 : Forest) : ∀ r, Instarref03_Short_m fu f1 = some r → DC Try.prog 15 [.agg (cForest f1)] (.v (.bool r)) := by
  intro r hr
  refine fc_intro (args := [.agg (cForest f1)]) (S := []) (N0 := []) (post := fun r p S => p = .v (.bool r) ∧ S = []) Try.func15 rfl rfl hr fun w0 X X0 σ0 => ?_
  refine pw_seq ?_
  refine pw_region ?_
  refine po_box  1 rfl rfl rfl rfl rfl rfl rfl rfl rfl rfl ?_
  refine po_evs (T := tab) 1 rfl rfl ?_
  refine po_nil ?_
  refine pn_seq ?_
  refine pw_seq ?_
  refine pw_seq ?_
  refine pw_region ?_
  refine po_evs (T := tab) 2 rfl rfl ?_
  refine po_len (T := tab) cNode f1.Nodes rfl rfl rfl rfl rfl rfl rfl rfl ?_
  refine po_evs (T := tab) 1 rfl rfl ?_
  refine po_nil ?_
  refine pn_seq ?_
  refine pw_cnd rfl ?_ ?_
  · refine pw_seq ?_
    refine pw_region ?_
    refine po_evs (T := tab) 1 rfl rfl ?_
    refine po_nil ?_
    refine pn_seq ?_
    exact pw_retN (T := tab) rfl rfl rfl ⟨rfl, rfl⟩ trivial rfl
  · refine pw_skip ?_
    refine pn_seq ?_
    refine pw_seq ?_
    refine pw_seq ?_
    refine pw_region ?_
    refine po_evs (T := tab) 1 rfl rfl ?_
    refine po_nil ?_
    refine pn_seq ?_
    refine pw_block ?_
    refine pw_loop' (Instarref03_Short_l1 f1) (fun (i2 : Int) => [(1, .loc 1 0), (3, .v (.int .i64 i2))]) (fun (i2 : Int) => [(1, .box [.sl 10 false (f1.Nodes.map cNode), .v (.int .i64 f1.Most)])]) fu 0 (fun _ => rfl) ⟨rfl, rfl, trivial⟩ ⟨rfl, trivial⟩ rfl ?_
    rintro k1 i2
    refine pw_seq ?_
    refine pw_seq ?_
    refine pw_region ?_
    refine po_evs (T := tab) 3 rfl rfl ?_
    refine po_len (T := tab) cNode f1.Nodes rfl rfl rfl rfl rfl rfl rfl rfl ?_
    refine po_evs (T := tab) 1 rfl rfl ?_
    refine po_nil ?_
    refine pn_seq ?_
    refine pw_cnd rfl ?_ ?_
    · refine pw_skip ?_
      refine pn_seq ?_
      refine pw_seq ?_
      refine pw_block ?_
      refine pw_seq ?_
      refine pw_region ?_
      refine po_evs (T := tab) 3 rfl rfl ?_
      refine po_idx (T := tab) cNode f1.Nodes rfl rfl rfl rfl rfl rfl rfl fun y3 hy3 => ?_
      refine po_evs (T := tab) 2 rfl rfl ?_
      refine po_len (T := tab) cInt_i64 y3.Kids rfl rfl rfl rfl rfl rfl rfl rfl ?_
      refine po_evs (T := tab) 2 rfl rfl ?_
      refine po_split (j := 23) rfl ?_ ?_
      · refine po_evs (T := tab) 19 rfl rfl ?_
        refine po_nil ?_
        refine pn_seq (pw_then rfl ?_)
        refine pw_seq ?_
        refine pw_region ?_
        refine po_evs (T := tab) 1 rfl rfl ?_
        refine po_nil ?_
        refine pn_seq ?_
        exact pw_retN (T := tab) rfl rfl rfl ⟨rfl, rfl⟩ trivial rfl
      · refine po_evs (T := tab) 3 rfl rfl ?_
        refine po_idx (T := tab) cNode f1.Nodes rfl rfl rfl rfl rfl rfl rfl fun y4 hy4 => ?_
        refine po_evs (T := tab) 2 rfl rfl ?_
        refine po_len (T := tab) cAttr y4.Attrs rfl rfl rfl rfl rfl rfl rfl rfl ?_
        refine po_evs (T := tab) 3 rfl rfl ?_
        refine po_split (j := 33) rfl ?_ ?_
        · refine po_evs (T := tab) 9 rfl rfl ?_
          refine po_nil ?_
          refine pn_seq (pw_then rfl ?_)
          refine pw_seq ?_
          refine pw_region ?_
          refine po_evs (T := tab) 1 rfl rfl ?_
          refine po_nil ?_
          refine pn_seq ?_
          exact pw_retN (T := tab) rfl rfl rfl ⟨rfl, rfl⟩ trivial rfl
        · refine po_evs (T := tab) 3 rfl rfl ?_
          refine po_idx (T := tab) cNode f1.Nodes rfl rfl rfl rfl rfl rfl rfl fun y5 hy5 => ?_
          refine po_evs (T := tab) 5 rfl rfl ?_
          refine po_nil ?_
          refine pn_seq ?_
          refine pw_cnd rfl ?_ ?_
          · refine pw_seq ?_
            refine pw_region ?_
            refine po_evs (T := tab) 1 rfl rfl ?_
            refine po_nil ?_
            refine pn_seq ?_
            exact pw_retN (T := tab) rfl rfl rfl ⟨rfl, rfl⟩ trivial rfl
          · refine pw_skip ?_
            refine pn_block ?_
            refine pn_seq ?_
            refine pw_region ?_
            refine po_evs (T := tab) 1 rfl rfl ?_
            refine po_arith' (T := tab) rfl rfl rfl rfl fun i6 hi6 => ?_
            refine po_evs (T := tab) 1 rfl rfl ?_
            refine po_nil ?_
            exact pn_iter' i6 ⟨rfl, rfl, trivial⟩ ⟨rfl, trivial⟩ rfl
    · refine pw_exit rfl ?_
      refine pn_seq ?_
      refine pw_seq ?_
      refine pw_region ?_
      refine po_evs (T := tab) 1 rfl rfl ?_
      refine po_nil ?_
      refine pn_seq ?_
      exact pw_retN (T := tab) rfl rfl rfl ⟨rfl, rfl⟩ trivial rfl

def Instarref03_Has_l1 (l1 : (List Int)) (n2 : Int) : Nat → Int × Int → Option Int
  | 0, _ => none
  | k1 + 1, (many3, i4) => cnd (decide (i4 < ((l1.length : Nat) : Int))) (bnd (idx l1 i4) fun y5 => cnd (y5 == n2) (bnd (rng .i64 (many3 + 1)) fun i6 => bnd (rng .i64 (i4 + 1)) fun i7 => (Instarref03_Has_l1 l1 n2 k1) (i6, i7)) (bnd (rng .i64 (i4 + 1)) fun i8 => (Instarref03_Has_l1 l1 n2 k1) (many3, i8))) (some many3)

def Instarref03_Has_m (fu : Nat) (l1 : (List Int)) (n2 : Int) : Option Int := (Instarref03_Has_l1 l1 n2) fu (0, 0)

set_option maxHeartbeats 10000000 in
set_option maxRecDepth 100000 in
theorem Instarref03_Has_ok (fu : Nat) (l1 : (List Int)) (n2 : Int) : ∀ r, Instarref03_Has_m fu l1 n2 = some r → DC Try.prog 34 [.sl 1 false (l1.map cInt_i64), .v (.int .i64 n2)] (.v (.int .i64 r)) := by
  intro r hr
  refine fc_intro (args := [.sl 1 false (l1.map cInt_i64), .v (.int .i64 n2)]) (S := []) (N0 := []) (post := fun r p S => p = .v (.int .i64 r) ∧ S = []) Try.func34 rfl rfl hr fun w0 X X0 σ0 => ?_
  refine pw_seq ?_
  refine pw_region ?_
  refine po_evs (T := tab) 1 rfl rfl ?_
  refine po_nil ?_
  refine pn_seq ?_
  refine pw_seq ?_
  refine pw_region ?_
  refine po_evs (T := tab) 1 rfl rfl ?_
  refine po_nil ?_
  refine pn_seq ?_
  refine pw_seq ?_
  refine pw_seq ?_
  refine pw_region ?_
  refine po_evs (T := tab) 1 rfl rfl ?_
  refine po_nil ?_
  refine pn_seq ?_
  refine pw_block ?_
  refine pw_loop' (Instarref03_Has_l1 l1 n2) (fun ((many3, i4) : Int × Int) => [(0, .sl 1 false (l1.map cInt_i64)), (1, .v (.int .i64 n2)), (5, .v (.int .i64 many3)), (6, .v (.int .i64 i4))]) (fun ((many3, i4) : Int × Int) => []) fu (0, 0) (fun _ => rfl) ⟨rfl, rfl, rfl, rfl, trivial⟩ trivial rfl ?_
  rintro k1 ⟨many3, i4⟩
  refine pw_seq ?_
  refine pw_seq ?_
  refine pw_region ?_
  refine po_evs (T := tab) 2 rfl rfl ?_
  refine po_len (T := tab) cInt_i64 l1 rfl rfl rfl rfl rfl rfl rfl rfl ?_
  refine po_evs (T := tab) 1 rfl rfl ?_
  refine po_nil ?_
  refine pn_seq ?_
  refine pw_cnd rfl ?_ ?_
  · refine pw_skip ?_
    refine pn_seq ?_
    refine pw_seq ?_
    refine pw_block ?_
    refine pw_seq ?_
    refine pw_region ?_
    refine po_evs (T := tab) 2 rfl rfl ?_
    refine po_idx (T := tab) cInt_i64 l1 rfl rfl rfl rfl rfl rfl rfl fun y5 hy5 => ?_
    refine po_evs (T := tab) 3 rfl rfl ?_
    refine po_nil ?_
    refine pn_seq ?_
    refine pw_cnd rfl ?_ ?_
    · refine pw_region ?_
      refine po_evs (T := tab) 1 rfl rfl ?_
      refine po_arith' (T := tab) rfl rfl rfl rfl fun i6 hi6 => ?_
      refine po_evs (T := tab) 1 rfl rfl ?_
      refine po_nil ?_
      refine pn_block ?_
      refine pn_seq ?_
      refine pw_region ?_
      refine po_evs (T := tab) 1 rfl rfl ?_
      refine po_arith' (T := tab) rfl rfl rfl rfl fun i7 hi7 => ?_
      refine po_evs (T := tab) 1 rfl rfl ?_
      refine po_nil ?_
      exact pn_iter' (i6, i7) ⟨rfl, rfl, rfl, rfl, trivial⟩ trivial rfl
    · refine pw_skip ?_
      refine pn_block ?_
      refine pn_seq ?_
      refine pw_region ?_
      refine po_evs (T := tab) 1 rfl rfl ?_
      refine po_arith' (T := tab) rfl rfl rfl rfl fun i8 hi8 => ?_
      refine po_evs (T := tab) 1 rfl rfl ?_
      refine po_nil ?_
      exact pn_iter' (many3, i8) ⟨rfl, rfl, rfl, rfl, trivial⟩ trivial rfl
  · refine pw_exit rfl ?_
    refine pn_seq ?_
    refine pw_seq ?_
    refine pw_region ?_
    refine po_evs (T := tab) 2 rfl rfl ?_
    refine po_nil ?_
    refine pn_seq ?_
    exact pw_retN (T := tab) rfl rfl rfl ⟨rfl, rfl⟩ trivial rfl

def Instarref03_Ints_l1 (a1 : (List Int)) (b2 : (List Int)) : Nat → Int → Option Bool
  | 0, _ => none
  | k1 + 1, i3 => cnd (decide (i3 < ((a1.length : Nat) : Int))) (bnd (idx a1 i3) fun y4 => bnd (idx b2 i3) fun y5 => cnd (y4 != y5) (some false) (bnd (rng .i64 (i3 + 1)) fun i6 => (Instarref03_Ints_l1 a1 b2 k1) i6)) (some true)

def Instarref03_Ints_m (fu : Nat) (a1 : (List Int)) (b2 : (List Int)) : Option Bool := cnd (((a1.length : Nat) : Int) != ((b2.length : Nat) : Int)) (some false) ((Instarref03_Ints_l1 a1 b2) fu 0)

set_option maxHeartbeats 10000000 in
set_option maxRecDepth 100000 in
theorem Instarref03_Ints_ok (fu : Nat) (a1 : (List Int)) (b2 : (List Int)) : ∀ r, Instarref03_Ints_m fu a1 b2 = some r → DC Try.prog 29 [.sl 1 false (a1.map cInt_i64), .sl 1 false (b2.map cInt_i64)] (.v (.bool r)) := by
  intro r hr
  refine fc_intro (args := [.sl 1 false (a1.map cInt_i64), .sl 1 false (b2.map cInt_i64)]) (S := []) (N0 := []) (post := fun r p S => p = .v (.bool r) ∧ S = []) Try.func29 rfl rfl hr fun w0 X X0 σ0 => ?_
  refine pw_seq ?_
  refine pw_region ?_
  refine po_evs (T := tab) 1 rfl rfl ?_
  refine po_nil ?_
  refine pn_seq ?_
  refine pw_seq ?_
  refine pw_seq ?_
  refine pw_region ?_
  refine po_evs (T := tab) 1 rfl rfl ?_
  refine po_len (T := tab) cInt_i64 a1 rfl rfl rfl rfl rfl rfl rfl rfl ?_
  refine po_evs (T := tab) 1 rfl rfl ?_
  refine po_len (T := tab) cInt_i64 b2 rfl rfl rfl rfl rfl rfl rfl rfl ?_
  refine po_evs (T := tab) 1 rfl rfl ?_
  refine po_nil ?_
  refine pn_seq ?_
  refine pw_cnd rfl ?_ ?_
  · refine pw_seq ?_
    refine pw_region ?_
    refine po_evs (T := tab) 1 rfl rfl ?_
    refine po_nil ?_
    refine pn_seq ?_
    exact pw_retN (T := tab) rfl rfl rfl ⟨rfl, rfl⟩ trivial rfl
  · refine pw_skip ?_
    refine pn_seq ?_
    refine pw_seq ?_
    refine pw_seq ?_
    refine pw_region ?_
    refine po_evs (T := tab) 1 rfl rfl ?_
    refine po_nil ?_
    refine pn_seq ?_
    refine pw_block ?_
    refine pw_loop' (Instarref03_Ints_l1 a1 b2) (fun (i3 : Int) => [(0, .sl 1 false (a1.map cInt_i64)), (1, .sl 1 false (b2.map cInt_i64)), (5, .v (.int .i64 i3))]) (fun (i3 : Int) => []) fu 0 (fun _ => rfl) ⟨rfl, rfl, rfl, trivial⟩ trivial rfl ?_
    rintro k1 i3
    refine pw_seq ?_
    refine pw_seq ?_
    refine pw_region ?_
    refine po_evs (T := tab) 2 rfl rfl ?_
    refine po_len (T := tab) cInt_i64 a1 rfl rfl rfl rfl rfl rfl rfl rfl ?_
    refine po_evs (T := tab) 1 rfl rfl ?_
    refine po_nil ?_
    refine pn_seq ?_
    refine pw_cnd rfl ?_ ?_
    · refine pw_skip ?_
      refine pn_seq ?_
      refine pw_seq ?_
      refine pw_block ?_
      refine pw_seq ?_
      refine pw_draw mixed (by kernel_rfl) ?_
      refine pd_evs (T := tab) 2 rfl rfl ?_
      refine pd_idx (T := tab) cInt_i64 a1 rfl rfl rfl rfl rfl rfl rfl fun y4 hy4 => ?_
      refine pd_evs (T := tab) 3 rfl rfl ?_
      refine pd_idx (T := tab) cInt_i64 b2 rfl rfl rfl rfl rfl rfl rfl fun y5 hy5 => ?_
      refine pd_evs (T := tab) 2 rfl rfl ?_
      refine pd_nil ?_
      refine pn_seq ?_
      refine pw_cnd rfl ?_ ?_
      · refine pw_seq ?_
        refine pw_region ?_
        refine po_evs (T := tab) 1 rfl rfl ?_
        refine po_nil ?_
        refine pn_seq ?_
        exact pw_retN (T := tab) rfl rfl rfl ⟨rfl, rfl⟩ trivial rfl
      · refine pw_skip ?_
        refine pn_block ?_
        refine pn_seq ?_
        refine pw_region ?_
        refine po_evs (T := tab) 1 rfl rfl ?_
        refine po_arith' (T := tab) rfl rfl rfl rfl fun i6 hi6 => ?_
        refine po_evs (T := tab) 1 rfl rfl ?_
        refine po_nil ?_
        exact pn_iter' i6 ⟨rfl, rfl, rfl, trivial⟩ trivial rfl
    · refine pw_exit rfl ?_
      refine pn_seq ?_
      refine pw_seq ?_
      refine pw_region ?_
      refine po_evs (T := tab) 1 rfl rfl ?_
      refine po_nil ?_
      refine pn_seq ?_
      exact pw_retN (T := tab) rfl rfl rfl ⟨rfl, rfl⟩ trivial rfl

def Instarref03_Root_m : Nat → Forest → Int → Option Int
  | 0, _, _ => none
  | fu + 1, f1, n2 => bnd (idx f1.Nodes n2) fun y3 => cnd (y3.Parent == (-1)) (some n2) (bnd (idx f1.Nodes n2) fun y4 => bnd ((Instarref03_Root_m fu) f1 y4.Parent) fun r5 => some r5)

set_option maxRecDepth 100000 in
theorem Instarref03_Root_ok : ∀ (fu : Nat) (f1 : Forest) (n2 : Int) r, Instarref03_Root_m fu f1 n2 = some r → DC Try.prog 28 [.agg (cForest f1), .v (.int .i64 n2)] (.v (.int .i64 r))
  | 0, _, _, _, h => by cases h
  | fu + 1, f1, n2, r, hr => by
    have ih := Instarref03_Root_ok fu
    refine fc_intro (args := [.agg (cForest f1), .v (.int .i64 n2)]) (S := []) (N0 := []) (post := fun r p S => p = .v (.int .i64 r) ∧ S = []) Try.func28 rfl rfl hr fun w0 X X0 σ0 => ?_
    refine pw_seq ?_
    refine pw_region ?_
    refine po_box  2 rfl rfl rfl rfl rfl rfl rfl rfl rfl rfl ?_
    refine po_evs (T := tab) 1 rfl rfl ?_
    refine po_nil ?_
    refine pn_seq ?_
    refine pw_seq ?_
    refine pw_seq ?_
    refine pw_region ?_
    refine po_evs (T := tab) 3 rfl rfl ?_
    refine po_idx (T := tab) cNode f1.Nodes rfl rfl rfl rfl rfl rfl rfl fun y3 hy3 => ?_
    refine po_evs (T := tab) 3 rfl rfl ?_
    refine po_nil ?_
    refine pn_seq ?_
    refine pw_cnd rfl ?_ ?_
    · refine pw_seq ?_
      refine pw_region ?_
      refine po_evs (T := tab) 2 rfl rfl ?_
      refine po_nil ?_
      refine pn_seq ?_
      exact pw_retN (T := tab) rfl rfl rfl ⟨rfl, rfl⟩ trivial rfl
    · refine pw_skip ?_
      refine pn_seq ?_
      refine pw_seq ?_
      refine pw_draw mixed (by kernel_rfl) ?_
      refine pd_evs (T := tab) 4 rfl rfl ?_
      refine pd_idx (T := tab) cNode f1.Nodes rfl rfl rfl rfl rfl rfl rfl fun y4 hy4 => ?_
      refine pd_evs (T := tab) 2 rfl rfl ?_
      refine pd_call (enc := fun (r5 : Int) => .v (.int .i64 r5)) (qs := [.agg (cForest f1), .v (.int .i64 y4.Parent)]) (ih f1 y4.Parent) rfl rfl ⟨⟨_, rfl, .rfl⟩, ⟨_, rfl, .rfl⟩, trivial⟩ (fun _ => rfl) call28 rfl rfl fun r5 hr5 => ?_
      refine pd_evs (T := tab) 1 rfl rfl ?_
      refine pd_nil ?_
      refine pn_seq ?_
      exact pw_retN (T := tab) rfl rfl rfl ⟨rfl, rfl⟩ trivial rfl

def Instarref03_Order_l1 (sf : Forest → Int → Option (List Int)) (f1 : Forest) (n2 : Int) : Nat → Int × (List Int) → Option (List Int)
  | 0, _ => none
  | k1 + 1, (i3, l4) => bnd (idx f1.Nodes n2) fun y5 => cnd (decide (i3 < ((y5.Kids.length : Nat) : Int))) (bnd (idx f1.Nodes n2) fun y6 => bnd (idx y6.Kids i3) fun y7 => bnd (sf f1 y7) fun r8 => bnd (roomy 8 (l4.length + r8.length)) fun _ => bnd (rng .i64 (i3 + 1)) fun i9 => (Instarref03_Order_l1 sf f1 n2 k1) (i9, (l4 ++ r8))) (some l4)

def Instarref03_Order_m : Nat → Forest → Int → Option (List Int)
  | 0, _, _ => none
  | fu + 1, f1, n2 => (Instarref03_Order_l1 (Instarref03_Order_m fu) f1 n2) fu (0, [n2])

set_option maxHeartbeats 10000000 in
set_option maxRecDepth 100000 in
theorem Instarref03_Order_ok : ∀ (fu : Nat) (f1 : Forest) (n2 : Int) r, Instarref03_Order_m fu f1 n2 = some r → DC Try.prog 30 [.agg (cForest f1), .v (.int .i64 n2)] (.sl 1 false (r.map cInt_i64))
  | 0, _, _, _, h => by cases h
  | fu + 1, f1, n2, r, hr => by
    have ih := Instarref03_Order_ok fu
    refine fc_intro (args := [.agg (cForest f1), .v (.int .i64 n2)]) (S := []) (N0 := []) (post := fun r p S => p = .sl 1 false (r.map cInt_i64) ∧ S = []) Try.func30 rfl rfl hr fun w0 X X0 σ0 => ?_
    refine pw_seq ?_
    refine pw_region ?_
    refine po_box  2 rfl rfl rfl rfl rfl rfl rfl rfl rfl rfl ?_
    refine po_evs (T := tab) 1 rfl rfl ?_
    refine po_nil ?_
    refine pn_seq ?_
    refine pw_seq ?_
    refine pw_region ?_
    refine po_evs (T := tab) 1 rfl rfl ?_
    refine po_lit (T := tab) (rows := [n2].map cInt_i64) 8 rfl rfl rfl rfl rfl rfl rfl rfl rfl rfl rfl rfl rfl rfl ?_
    refine po_evs (T := tab) 1 rfl rfl ?_
    refine po_nil ?_
    refine pn_seq ?_
    refine pw_seq ?_
    refine pw_seq ?_
    refine pw_region ?_
    refine po_evs (T := tab) 1 rfl rfl ?_
    refine po_nil ?_
    refine pn_seq ?_
    refine pw_block ?_
    refine pw_loop' (Instarref03_Order_l1 (Instarref03_Order_m fu) f1 n2) (fun ((i3, l4) : Int × (List Int)) => [(1, .v (.int .i64 n2)), (2, .loc 2 0), (5, .own 8), (6, .v (.int .i64 i3))]) (fun ((i3, l4) : Int × (List Int)) => [(8, .arr 3 1 (l4.map cInt_i64)), (2, .box [.sl 10 false (f1.Nodes.map cNode), .v (.int .i64 f1.Most)])]) fu (0, [n2]) (fun _ => rfl) ⟨rfl, rfl, rfl, rfl, trivial⟩ ⟨rfl, rfl, trivial⟩ rfl ?_
    rintro k1 ⟨i3, l4⟩
    refine pw_seq ?_
    refine pw_seq ?_
    refine pw_region ?_
    refine po_evs (T := tab) 4 rfl rfl ?_
    refine po_idx (T := tab) cNode f1.Nodes rfl rfl rfl rfl rfl rfl rfl fun y5 hy5 => ?_
    refine po_evs (T := tab) 2 rfl rfl ?_
    refine po_len (T := tab) cInt_i64 y5.Kids rfl rfl rfl rfl rfl rfl rfl rfl ?_
    refine po_evs (T := tab) 1 rfl rfl ?_
    refine po_nil ?_
    refine pn_seq ?_
    refine pw_cnd rfl ?_ ?_
    · refine pw_skip ?_
      refine pn_seq ?_
      refine pw_seq ?_
      refine pw_block ?_
      refine pw_sub' (E' := [(1, .v (.int .i64 n2)), (2, .loc 2 0), (5, .own 8), (6, .v (.int .i64 i3))]) (S' := [(8, .arr 3 1 (l4.map cInt_i64)), (2, .box [.sl 10 false (f1.Nodes.map cNode), .v (.int .i64 f1.Most)])]) ?_ ⟨rfl, rfl, rfl, rfl, trivial⟩ ⟨rfl, rfl, trivial⟩ rfl
      refine pw_drawV [0, 0, 0, 4, 0, 28, 60, 124, 0, 508, 1020, 2046, 4095, 8191] mixed (by kernel_rfl) (by kernel_rfl) rfl rfl ?_
      refine pdv_step0 [10] [40] [] [8] [] [(20, .own 8)] [] rfl rfl rfl rfl (by kernel_rfl) (by kernel_rfl) (by kernel_rfl) trivial (fun w0 X X0 σ0 => by refine po_evs (T := tab) 1 rfl rfl ?_; refine po_nil ?_; exact pn_end0 ⟨rfl, trivial⟩ trivial rfl) ?_
      refine pdv_step0 [4, 5] [42] [] [2] [2] [(21, .agg (cForest f1))] [(2, .box [.sl 10 false (f1.Nodes.map cNode), .v (.int .i64 f1.Most)])] rfl rfl rfl rfl (by kernel_rfl) (by kernel_rfl) (by kernel_rfl) ⟨rfl, trivial⟩ (fun w0 X X0 σ0 => by refine po_evs (T := tab) 1 rfl rfl ?_; refine po_nil ?_; exact pn_end0 ⟨rfl, trivial⟩ ⟨rfl, trivial⟩ rfl) ?_
      refine pdv_step0 [4] [44] [] [2] [] [(22, .loc 2 0)] [] rfl rfl rfl rfl (by kernel_rfl) (by kernel_rfl) (by kernel_rfl) trivial (fun w0 X X0 σ0 => by refine po_evs (T := tab) 1 rfl rfl ?_; refine po_nil ?_; exact pn_end0 ⟨rfl, trivial⟩ trivial rfl) ?_
      refine pdv_step0 [5, 44] [46] [] [2] [2] [(23, .sl 10 false (f1.Nodes.map cNode))] [(2, .box [.sl 10 false (f1.Nodes.map cNode), .v (.int .i64 f1.Most)])] rfl rfl rfl rfl (by kernel_rfl) (by kernel_rfl) (by kernel_rfl) ⟨rfl, trivial⟩ (fun w0 X X0 σ0 => by refine po_evs (T := tab) 1 rfl rfl ?_; refine po_nil ?_; exact pn_end0 ⟨rfl, trivial⟩ ⟨rfl, trivial⟩ rfl) ?_
      refine pdv_step0 [2] [48] [] [] [] [(24, .v (.int .i64 n2))] [] rfl rfl rfl rfl (by kernel_rfl) (by kernel_rfl) (by kernel_rfl) trivial (fun w0 X X0 σ0 => by refine po_evs (T := tab) 1 rfl rfl ?_; refine po_nil ?_; exact pn_end0 ⟨rfl, trivial⟩ trivial rfl) ?_
      refine pdv_step (M := (idx f1.Nodes n2)) (ment := [(50, [])]) [46, 48] [50] [] [] [] (fun y6 => [(25, .el (cNode y6) 0)]) (fun y6 => []) rfl rfl (fun _ => rfl) (fun _ => rfl) (by kernel_rfl) (by kernel_rfl) (fun _ => by kernel_rfl) (fun _ => trivial) (fun w0 X X0 σ0 => by refine po_idx (T := tab) cNode f1.Nodes rfl rfl rfl rfl rfl rfl rfl fun y6 hy6 => ?_; refine po_nil ?_; exact pn_end ⟨rfl, trivial⟩ trivial rfl) fun y6 hy6 => ?_
      refine pdv_step0 [50] [52] [] [] [] [(26, .el (cNode y6) 6)] [] rfl rfl rfl rfl (by kernel_rfl) (by kernel_rfl) (by kernel_rfl) trivial (fun w0 X X0 σ0 => by refine po_evs (T := tab) 1 rfl rfl ?_; refine po_nil ?_; exact pn_end0 ⟨rfl, trivial⟩ trivial rfl) ?_
      refine pdv_step0 [52] [54] [] [] [] [(27, .sl 1 false (y6.Kids.map cInt_i64))] [] rfl rfl rfl rfl (by kernel_rfl) (by kernel_rfl) (by kernel_rfl) trivial (fun w0 X X0 σ0 => by refine po_evs (T := tab) 1 rfl rfl ?_; refine po_nil ?_; exact pn_end0 ⟨rfl, trivial⟩ trivial rfl) ?_
      refine pdv_step0 [12] [56] [] [] [] [(28, .v (.int .i64 i3))] [] rfl rfl rfl rfl (by kernel_rfl) (by kernel_rfl) (by kernel_rfl) trivial (fun w0 X X0 σ0 => by refine po_evs (T := tab) 1 rfl rfl ?_; refine po_nil ?_; exact pn_end0 ⟨rfl, trivial⟩ trivial rfl) ?_
      refine pdv_step (M := (idx y6.Kids i3)) (ment := [(58, [])]) [54, 56] [58] [] [] [] (fun y7 => [(29, .el (cInt_i64 y7) 0)]) (fun y7 => []) rfl rfl (fun _ => rfl) (fun _ => rfl) (by kernel_rfl) (by kernel_rfl) (fun _ => by kernel_rfl) (fun _ => trivial) (fun w0 X X0 σ0 => by refine po_idx (T := tab) cInt_i64 y6.Kids rfl rfl rfl rfl rfl rfl rfl fun y7 hy7 => ?_; refine po_nil ?_; exact pn_end ⟨rfl, trivial⟩ trivial rfl) fun y7 hy7 => ?_
      refine pdv_step0 [58] [60] [] [] [] [(30, .v (.int .i64 y7))] [] rfl rfl rfl rfl (by kernel_rfl) (by kernel_rfl) (by kernel_rfl) trivial (fun w0 X X0 σ0 => by refine po_evs (T := tab) 1 rfl rfl ?_; refine po_nil ?_; exact pn_end0 ⟨rfl, trivial⟩ trivial rfl) ?_
      refine pdv_step (M := ((Instarref03_Order_m fu) f1 y7)) (ment := [(62, [])]) [42, 60] [62] [] [] [] (fun r8 => [(31, .sl 1 false (r8.map cInt_i64))]) (fun r8 => []) rfl rfl (fun _ => rfl) (fun _ => rfl) (by kernel_rfl) (by kernel_rfl) (fun _ => by kernel_rfl) (fun _ => trivial) (fun w0 X X0 σ0 => by refine po_call (enc := fun (r8 : (List Int)) => .sl 1 false (r8.map cInt_i64)) (qs := [.agg (cForest f1), .v (.int .i64 y7)]) (ih f1 y7) rfl rfl ⟨⟨_, rfl, .rfl⟩, ⟨_, rfl, .rfl⟩, trivial⟩ (fun _ => rfl) call30 rfl rfl fun r8 hr8 => ?_; refine po_nil ?_; exact pn_end ⟨rfl, trivial⟩ trivial rfl) fun r8 hr8 => ?_
      refine pdv_step (M := (roomy 8 (l4.length + r8.length))) (ment := [(64, [8]), (10, []), (40, []), (17, [])]) [10, 17, 40, 62] [64, 10, 40, 17] [8] [] [] (fun _ => [(32, .own 8)]) (fun _ => [(8, .arr 3 1 ((l4 ++ r8).map cInt_i64))]) rfl rfl (fun _ => rfl) (fun _ => rfl) (by kernel_rfl) (by kernel_rfl) (fun _ => by kernel_rfl) (fun _ => trivial) (fun w0 X X0 σ0 => by refine po_append (T := tab) cInt_i64 l4 r8 rfl rfl rfl rfl rfl rfl rfl rfl rfl rfl rfl rfl rfl rfl (cInt_i64_one _) rfl rfl rfl rfl rfl ?_; refine po_nil ?_; exact pn_end ⟨rfl, trivial⟩ ⟨rfl, trivial⟩ rfl) fun _ h0 => ?_
      refine pdv_step0 [64] [10] [] [8] [] [(5, .own 8)] [] rfl rfl rfl rfl (by kernel_rfl) (by kernel_rfl) (by kernel_rfl) trivial (fun w0 X X0 σ0 => by refine po_evs (T := tab) 1 rfl rfl ?_; refine po_nil ?_; exact pn_end0 ⟨rfl, trivial⟩ trivial rfl) ?_
      refine pdv_nil rfl rfl ?_
      refine pn_block ?_
      refine pn_seq ?_
      refine pw_region ?_
      refine po_evs (T := tab) 1 rfl rfl ?_
      refine po_arith' (T := tab) rfl rfl rfl rfl fun i9 hi9 => ?_
      refine po_evs (T := tab) 1 rfl rfl ?_
      refine po_nil ?_
      exact pn_iter' (i9, (l4 ++ r8)) ⟨rfl, rfl, rfl, rfl, trivial⟩ ⟨rfl, rfl, trivial⟩ rfl
    · refine pw_exit rfl ?_
      refine pn_seq ?_
      refine pw_seq ?_
      refine pw_region ?_
      refine po_evs (T := tab) 2 rfl rfl ?_
      refine po_nil ?_
      refine pn_seq ?_
      refine pw_freeze 8 rfl rfl rfl ?_
      exact pw_retN (T := tab) rfl rfl rfl ⟨rfl, rfl⟩ trivial rfl

def Instarref03_Find_l1 (l1 : (List Int)) (n2 : Int) : Nat → Int → Option Int
  | 0, _ => none
  | k1 + 1, i3 => cnd (decide (i3 < ((l1.length : Nat) : Int))) (bnd (idx l1 i3) fun y4 => cnd (y4 == n2) (some i3) (bnd (rng .i64 (i3 + 1)) fun i5 => (Instarref03_Find_l1 l1 n2 k1) i5)) (some (-1))

def Instarref03_Find_m (fu : Nat) (l1 : (List Int)) (n2 : Int) : Option Int := (Instarref03_Find_l1 l1 n2) fu 0

set_option maxHeartbeats 10000000 in
set_option maxRecDepth 100000 in
theorem Instarref03_Find_ok (fu : Nat) (l1 : (List Int)) (n2 : Int) : ∀ r, Instarref03_Find_m fu l1 n2 = some r → DC Try.prog 35 [.sl 1 false (l1.map cInt_i64), .v (.int .i64 n2)] (.v (.int .i64 r)) := by
  intro r hr
  refine fc_intro (args := [.sl 1 false (l1.map cInt_i64), .v (.int .i64 n2)]) (S := []) (N0 := []) (post := fun r p S => p = .v (.int .i64 r) ∧ S = []) Try.func35 rfl rfl hr fun w0 X X0 σ0 => ?_
  refine pw_seq ?_
  refine pw_region ?_
  refine po_evs (T := tab) 1 rfl rfl ?_
  refine po_nil ?_
  refine pn_seq ?_
  refine pw_seq ?_
  refine pw_seq ?_
  refine pw_region ?_
  refine po_evs (T := tab) 1 rfl rfl ?_
  refine po_nil ?_
  refine pn_seq ?_
  refine pw_block ?_
  refine pw_loop' (Instarref03_Find_l1 l1 n2) (fun (i3 : Int) => [(0, .sl 1 false (l1.map cInt_i64)), (1, .v (.int .i64 n2)), (5, .v (.int .i64 i3))]) (fun (i3 : Int) => []) fu 0 (fun _ => rfl) ⟨rfl, rfl, rfl, trivial⟩ trivial rfl ?_
  rintro k1 i3
  refine pw_seq ?_
  refine pw_seq ?_
  refine pw_region ?_
  refine po_evs (T := tab) 2 rfl rfl ?_
  refine po_len (T := tab) cInt_i64 l1 rfl rfl rfl rfl rfl rfl rfl rfl ?_
  refine po_evs (T := tab) 1 rfl rfl ?_
  refine po_nil ?_
  refine pn_seq ?_
  refine pw_cnd rfl ?_ ?_
  · refine pw_skip ?_
    refine pn_seq ?_
    refine pw_seq ?_
    refine pw_block ?_
    refine pw_seq ?_
    refine pw_region ?_
    refine po_evs (T := tab) 2 rfl rfl ?_
    refine po_idx (T := tab) cInt_i64 l1 rfl rfl rfl rfl rfl rfl rfl fun y4 hy4 => ?_
    refine po_evs (T := tab) 3 rfl rfl ?_
    refine po_nil ?_
    refine pn_seq ?_
    refine pw_cnd rfl ?_ ?_
    · refine pw_seq ?_
      refine pw_region ?_
      refine po_evs (T := tab) 2 rfl rfl ?_
      refine po_nil ?_
      refine pn_seq ?_
      exact pw_retN (T := tab) rfl rfl rfl ⟨rfl, rfl⟩ trivial rfl
    · refine pw_skip ?_
      refine pn_block ?_
      refine pn_seq ?_
      refine pw_region ?_
      refine po_evs (T := tab) 1 rfl rfl ?_
      refine po_arith' (T := tab) rfl rfl rfl rfl fun i5 hi5 => ?_
      refine po_evs (T := tab) 1 rfl rfl ?_
      refine po_nil ?_
      exact pn_iter' i5 ⟨rfl, rfl, rfl, trivial⟩ trivial rfl
  · refine pw_exit rfl ?_
    refine pn_seq ?_
    refine pw_seq ?_
    refine pw_region ?_
    refine po_evs (T := tab) 1 rfl rfl ?_
    refine po_nil ?_
    refine pn_seq ?_
    exact pw_retN (T := tab) rfl rfl rfl ⟨rfl, rfl⟩ trivial rfl

def Instarref03_Place_m (fu : Nat) (f1 : Forest) (n2 : Int) : Option Int := bnd (idx f1.Nodes n2) fun y3 => cnd (y3.Parent == (-1)) (some (-1)) (bnd (idx f1.Nodes n2) fun y4 => bnd (idx f1.Nodes y4.Parent) fun y5 => bnd (Instarref03_Find_m fu y5.Kids n2) fun r6 => some r6)

set_option maxRecDepth 100000 in
theorem Instarref03_Place_ok (fu : Nat) (f1 : Forest) (n2 : Int) : ∀ r, Instarref03_Place_m fu f1 n2 = some r → DC Try.prog 31 [.agg (cForest f1), .v (.int .i64 n2)] (.v (.int .i64 r)) := by
  intro r hr
  refine fc_intro (args := [.agg (cForest f1), .v (.int .i64 n2)]) (S := []) (N0 := []) (post := fun r p S => p = .v (.int .i64 r) ∧ S = []) Try.func31 rfl rfl hr fun w0 X X0 σ0 => ?_
  refine pw_seq ?_
  refine pw_region ?_
  refine po_box  2 rfl rfl rfl rfl rfl rfl rfl rfl rfl rfl ?_
  refine po_evs (T := tab) 1 rfl rfl ?_
  refine po_nil ?_
  refine pn_seq ?_
  refine pw_seq ?_
  refine pw_seq ?_
  refine pw_region ?_
  refine po_evs (T := tab) 3 rfl rfl ?_
  refine po_idx (T := tab) cNode f1.Nodes rfl rfl rfl rfl rfl rfl rfl fun y3 hy3 => ?_
  refine po_evs (T := tab) 3 rfl rfl ?_
  refine po_nil ?_
  refine pn_seq ?_
  refine pw_cnd rfl ?_ ?_
  · refine pw_seq ?_
    refine pw_region ?_
    refine po_evs (T := tab) 1 rfl rfl ?_
    refine po_nil ?_
    refine pn_seq ?_
    exact pw_retN (T := tab) rfl rfl rfl ⟨rfl, rfl⟩ trivial rfl
  · refine pw_skip ?_
    refine pn_seq ?_
    refine pw_seq ?_
    refine pw_draw mixed (by kernel_rfl) ?_
    refine pd_evs (T := tab) 5 rfl rfl ?_
    refine pd_idx (T := tab) cNode f1.Nodes rfl rfl rfl rfl rfl rfl rfl fun y4 hy4 => ?_
    refine pd_evs (T := tab) 2 rfl rfl ?_
    refine pd_idx (T := tab) cNode f1.Nodes rfl rfl rfl rfl rfl rfl rfl fun y5 hy5 => ?_
    refine pd_evs (T := tab) 3 rfl rfl ?_
    refine pd_call (enc := fun (r6 : Int) => .v (.int .i64 r6)) (qs := [.sl 1 false (y5.Kids.map cInt_i64), .v (.int .i64 n2)]) (Instarref03_Find_ok fu y5.Kids n2) rfl rfl ⟨⟨_, rfl, .rfl⟩, ⟨_, rfl, .rfl⟩, trivial⟩ (fun _ => rfl) call35 rfl rfl fun r6 hr6 => ?_
    refine pd_evs (T := tab) 1 rfl rfl ?_
    refine pd_nil ?_
    refine pn_seq ?_
    exact pw_retN (T := tab) rfl rfl rfl ⟨rfl, rfl⟩ trivial rfl

def Instarref03_Holds_m (fu : Nat) (f1 : Forest) (a2 : Int) (b3 : Int) : Option Bool := bnd (Instarref03_Order_m fu f1 a2) fun r4 => bnd (Instarref03_Has_m fu r4 b3) fun r5 => some (decide (r5 > 0))

set_option maxRecDepth 100000 in
theorem Instarref03_Holds_ok (fu : Nat) (f1 : Forest) (a2 : Int) (b3 : Int) : ∀ r, Instarref03_Holds_m fu f1 a2 b3 = some r → DC Try.prog 32 [.agg (cForest f1), .v (.int .i64 a2), .v (.int .i64 b3)] (.v (.bool r)) := by
  intro r hr
  refine fc_intro (args := [.agg (cForest f1), .v (.int .i64 a2), .v (.int .i64 b3)]) (S := []) (N0 := []) (post := fun r p S => p = .v (.bool r) ∧ S = []) Try.func32 rfl rfl hr fun w0 X X0 σ0 => ?_
  refine pw_seq ?_
  refine pw_region ?_
  refine po_box  3 rfl rfl rfl rfl rfl rfl rfl rfl rfl rfl ?_
  refine po_evs (T := tab) 1 rfl rfl ?_
  refine po_nil ?_
  refine pn_seq ?_
  refine pw_seq ?_
  refine pw_region ?_
  refine po_evs (T := tab) 2 rfl rfl ?_
  refine po_call (enc := fun (r4 : (List Int)) => .sl 1 false (r4.map cInt_i64)) (qs := [.agg (cForest f1), .v (.int .i64 a2)]) (Instarref03_Order_ok fu f1 a2) rfl rfl ⟨⟨_, rfl, .rfl⟩, ⟨_, rfl, .rfl⟩, trivial⟩ (fun _ => rfl) call30 rfl rfl fun r4 hr4 => ?_
  refine po_evs (T := tab) 1 rfl rfl ?_
  refine po_call (enc := fun (r5 : Int) => .v (.int .i64 r5)) (qs := [.sl 1 false (r4.map cInt_i64), .v (.int .i64 b3)]) (Instarref03_Has_ok fu r4 b3) rfl rfl ⟨⟨_, rfl, .rfl⟩, ⟨_, rfl, .rfl⟩, trivial⟩ (fun _ => rfl) call34 rfl rfl fun r5 hr5 => ?_
  refine po_evs (T := tab) 2 rfl rfl ?_
  refine po_nil ?_
  refine pn_seq ?_
  exact pw_retN (T := tab) rfl rfl rfl ⟨rfl, rfl⟩ trivial rfl

def Instarref03_Ahead_m (fu : Nat) (f1 : Forest) (a2 : Int) (b3 : Int) : Option Bool := bnd (Instarref03_Root_m fu f1 a2) fun r4 => bnd (Instarref03_Order_m fu f1 r4) fun r5 => bnd (Instarref03_Find_m fu r5 b3) fun r6 => bnd (Instarref03_Find_m fu r5 a2) fun r7 => some (decide (r6 > r7))

set_option maxRecDepth 100000 in
theorem Instarref03_Ahead_ok (fu : Nat) (f1 : Forest) (a2 : Int) (b3 : Int) : ∀ r, Instarref03_Ahead_m fu f1 a2 b3 = some r → DC Try.prog 33 [.agg (cForest f1), .v (.int .i64 a2), .v (.int .i64 b3)] (.v (.bool r)) := by
  intro r hr
  refine fc_intro (args := [.agg (cForest f1), .v (.int .i64 a2), .v (.int .i64 b3)]) (S := []) (N0 := []) (post := fun r p S => p = .v (.bool r) ∧ S = []) Try.func33 rfl rfl hr fun w0 X X0 σ0 => ?_
  refine pw_seq ?_
  refine pw_region ?_
  refine po_box  3 rfl rfl rfl rfl rfl rfl rfl rfl rfl rfl ?_
  refine po_evs (T := tab) 1 rfl rfl ?_
  refine po_nil ?_
  refine pn_seq ?_
  refine pw_seq ?_
  refine pw_draw mixed (by kernel_rfl) ?_
  refine pd_evs (T := tab) 3 rfl rfl ?_
  refine pd_call (enc := fun (r4 : Int) => .v (.int .i64 r4)) (qs := [.agg (cForest f1), .v (.int .i64 a2)]) (Instarref03_Root_ok fu f1 a2) rfl rfl ⟨⟨_, rfl, .rfl⟩, ⟨_, rfl, .rfl⟩, trivial⟩ (fun _ => rfl) call28 rfl rfl fun r4 hr4 => ?_
  refine pd_call (enc := fun (r5 : (List Int)) => .sl 1 false (r5.map cInt_i64)) (qs := [.agg (cForest f1), .v (.int .i64 r4)]) (Instarref03_Order_ok fu f1 r4) rfl rfl ⟨⟨_, rfl, .rfl⟩, ⟨_, rfl, .rfl⟩, trivial⟩ (fun _ => rfl) call30 rfl rfl fun r5 hr5 => ?_
  refine pd_evs (T := tab) 1 rfl rfl ?_
  refine pd_nil ?_
  refine pn_seq ?_
  refine pw_seq ?_
  refine pw_region ?_
  refine po_evs (T := tab) 2 rfl rfl ?_
  refine po_call (enc := fun (r6 : Int) => .v (.int .i64 r6)) (qs := [.sl 1 false (r5.map cInt_i64), .v (.int .i64 b3)]) (Instarref03_Find_ok fu r5 b3) rfl rfl ⟨⟨_, rfl, .rfl⟩, ⟨_, rfl, .rfl⟩, trivial⟩ (fun _ => rfl) call35 rfl rfl fun r6 hr6 => ?_
  refine po_evs (T := tab) 2 rfl rfl ?_
  refine po_call (enc := fun (r7 : Int) => .v (.int .i64 r7)) (qs := [.sl 1 false (r5.map cInt_i64), .v (.int .i64 a2)]) (Instarref03_Find_ok fu r5 a2) rfl rfl ⟨⟨_, rfl, .rfl⟩, ⟨_, rfl, .rfl⟩, trivial⟩ (fun _ => rfl) call35 rfl rfl fun r7 hr7 => ?_
  refine po_evs (T := tab) 2 rfl rfl ?_
  refine po_nil ?_
  refine pn_seq ?_
  exact pw_retN (T := tab) rfl rfl rfl ⟨rfl, rfl⟩ trivial rfl

def Shade_there_1_m (_fu : Nat) (n1 : Int) (c2 : Forest) : Option Bool := cnd (decide (n1 < 0)) (some true) (some (decide (n1 ≥ ((c2.Nodes.length : Nat) : Int))))

set_option maxRecDepth 100000 in
theorem Shade_there_1_ok (fu : Nat) (n1 : Int) (c2 : Forest) : ∀ r, Shade_there_1_m fu n1 c2 = some r → FC Try.prog 97 [.v (.int .i64 n1), .loc 900000 0] [(900000, .box [.sl 10 false (c2.Nodes.map cNode), .v (.int .i64 c2.Most)])] [900000] fun p S' => p = .v (.bool r) ∧ S' = [(900000, .box [.sl 10 false (c2.Nodes.map cNode), .v (.int .i64 c2.Most)])] := by
  intro r hr
  refine fc_intro (args := [.v (.int .i64 n1), .loc 900000 0]) (S := [(900000, .box [.sl 10 false (c2.Nodes.map cNode), .v (.int .i64 c2.Most)])]) (N0 := [900000]) (post := fun r p S => p = .v (.bool r) ∧ S = [(900000, .box [.sl 10 false (c2.Nodes.map cNode), .v (.int .i64 c2.Most)])]) Try.func97 rfl rfl hr fun w0 X X0 σ0 => ?_
  refine pw_seq ?_
  refine pw_region ?_
  refine po_evs (T := tab) 1 rfl rfl ?_
  refine po_nil ?_
  refine pn_seq ?_
  refine pw_seq ?_
  refine pw_region ?_
  refine po_evs (T := tab) 3 rfl rfl ?_
  refine po_split (j := 6) rfl ?_ ?_
  · refine po_evs (T := tab) 7 rfl rfl ?_
    refine po_nil ?_
    refine pn_seq ?_
    exact pw_retN (T := tab) rfl rfl rfl ⟨rfl, rfl⟩ ⟨rfl, trivial⟩ rfl
  · refine po_evs (T := tab) 3 rfl rfl ?_
    refine po_len (T := tab) cNode c2.Nodes rfl rfl rfl rfl rfl rfl rfl rfl ?_
    refine po_evs (T := tab) 3 rfl rfl ?_
    refine po_nil ?_
    refine pn_seq ?_
    exact pw_retN (T := tab) rfl rfl rfl ⟨rfl, rfl⟩ ⟨rfl, trivial⟩ rfl

set_option maxHeartbeats 10000000 in
set_option maxRecDepth 100000 in
theorem Slices_IndexFunc_int_i2_ok (fu : Nat) (s1 : (List Int)) (c2 : Forest) : ∀ r, Slices_IndexFunc_int_m fu (fun (z1 : Int) => Shade_there_1_m fu z1 c2) s1 = some r → FC Try.prog 105 [.sl 1 false (s1.map cInt_i64), .fn (.func 97) [] [.loc 900000 0]] [(900000, .box [.sl 10 false (c2.Nodes.map cNode), .v (.int .i64 c2.Most)])] [900000] fun p S' => p = .v (.int .i64 r) ∧ S' = [(900000, .box [.sl 10 false (c2.Nodes.map cNode), .v (.int .i64 c2.Most)])] := by
  intro r hr
  refine fc_intro (args := [.sl 1 false (s1.map cInt_i64), .fn (.func 97) [] [.loc 900000 0]]) (S := [(900000, .box [.sl 10 false (c2.Nodes.map cNode), .v (.int .i64 c2.Most)])]) (N0 := [900000]) (post := fun r p S => p = .v (.int .i64 r) ∧ S = [(900000, .box [.sl 10 false (c2.Nodes.map cNode), .v (.int .i64 c2.Most)])]) Try.func105 rfl rfl hr fun w0 X X0 σ0 => ?_
  refine pw_seq ?_
  refine pw_region ?_
  refine po_evs (T := tab) 1 rfl rfl ?_
  refine po_nil ?_
  refine pn_seq ?_
  refine pw_seq ?_
  refine pw_seq ?_
  refine pw_region ?_
  refine po_evs (T := tab) 1 rfl rfl ?_
  refine po_len (T := tab) cInt_i64 s1 rfl rfl rfl rfl rfl rfl rfl rfl ?_
  refine po_evs (T := tab) 1 rfl rfl ?_
  refine po_nil ?_
  refine pn_seq ?_
  refine pw_block ?_
  refine pw_loop' (Slices_IndexFunc_int_l1 (fun (z1 : Int) => Shade_there_1_m fu z1 c2) s1) (fun (t3 : Int) => [(0, .sl 1 false (s1.map cInt_i64)), (1, .fn (.func 97) [] [.loc 900000 0]), (7, .v (.int .i64 ((s1.length : Nat) : Int))), (8, .v (.int .i64 t3))]) (fun (t3 : Int) => [(900000, .box [.sl 10 false (c2.Nodes.map cNode), .v (.int .i64 c2.Most)])]) fu 0 (fun _ => rfl) ⟨rfl, rfl, rfl, rfl, trivial⟩ ⟨rfl, trivial⟩ rfl ?_
  rintro k1 t3
  refine pw_seq ?_
  refine pw_region ?_
  refine po_evs (T := tab) 1 rfl rfl ?_
  refine po_nil ?_
  refine pn_seq ?_
  refine pw_seq ?_
  refine pw_cnd rfl ?_ ?_
  · refine pw_skip ?_
    refine pn_seq ?_
    refine pw_seq ?_
    refine pw_block ?_
    refine pw_seq ?_
    refine pw_region ?_
    refine po_evs (T := tab) 2 rfl rfl ?_
    refine po_nil ?_
    refine pn_seq ?_
    refine pw_seq ?_
    refine pw_region ?_
    refine po_evs (T := tab) 3 rfl rfl ?_
    refine po_idx (T := tab) cInt_i64 s1 rfl rfl rfl rfl rfl rfl rfl fun y4 hy4 => ?_
    refine po_evs (T := tab) 1 rfl rfl ?_
    refine po_callv (enc := fun (r5 : Bool) => .v (.bool r5)) (first := []) (cap := [.loc 900000 0]) (qs := [.v (.int .i64 y4)]) (Sc := [(900000, .box [.sl 10 false (c2.Nodes.map cNode), .v (.int .i64 c2.Most)])]) (fun r5 hr5 => fc_ren [(900000, 900000)] [900000] (Shade_there_1_ok fu y4 c2 _ hr5) rfl rfl rfl rfl rfl rfl) (subS_of ⟨rfl, trivial⟩ rfl) rfl rfl rfl rfl ⟨⟨_, rfl, .rfl⟩, trivial⟩ (fun _ => rfl) call97 rfl rfl fun r5 hr5 => ?_
    refine po_nil ?_
    refine pn_seq ?_
    refine pw_cnd rfl ?_ ?_
    · refine pw_seq ?_
      refine pw_region ?_
      refine po_evs (T := tab) 2 rfl rfl ?_
      refine po_nil ?_
      refine pn_seq ?_
      exact pw_retN (T := tab) rfl rfl rfl ⟨rfl, rfl⟩ ⟨rfl, trivial⟩ rfl
    · refine pw_skip ?_
      refine pn_block ?_
      refine pn_seq ?_
      refine pw_region ?_
      refine po_arith' (T := tab) rfl rfl rfl rfl fun i6 hi6 => ?_
      refine po_evs (T := tab) 1 rfl rfl ?_
      refine po_nil ?_
      exact pn_iter' i6 ⟨rfl, rfl, rfl, rfl, trivial⟩ ⟨rfl, trivial⟩ rfl
  · refine pw_exit rfl ?_
    refine pn_seq ?_
    refine pw_seq ?_
    refine pw_region ?_
    refine po_evs (T := tab) 1 rfl rfl ?_
    refine po_nil ?_
    refine pn_seq ?_
    exact pw_retN (T := tab) rfl rfl rfl ⟨rfl, rfl⟩ ⟨rfl, trivial⟩ rfl

end Go.Proofs.Ytcaepigodglihaa
