/- Models and proofs, printed by emit2.py. -/
import Derived.Test.YtkngnghbnhgfjaaGreatDoorData
namespace Go.Proofs.YtkngnghbnhgfjaaGreatDoor
open Go Go.Pw
set_option linter.unusedVariables false

def Internal_stringslite_HasPrefix_m (_fu : Nat) (s1 : Bs) (prefix2 : Bs) : Option Bool := cnd (decide (((s1.length : Nat) : Int) ≥ ((prefix2.length : Nat) : Int))) (bnd (piece s1 0 ((prefix2.length : Nat) : Int)) fun s3 => some (s3 == prefix2)) (some false)

set_option maxRecDepth 100000 in
theorem Internal_stringslite_HasPrefix_ok (fu : Nat) (s1 : Bs) (prefix2 : Bs) : ∀ r, Internal_stringslite_HasPrefix_m fu s1 prefix2 = some r → DC laidL Tryz.prog 66 [.v (.string ⟨⟨s1⟩⟩), .v (.string ⟨⟨prefix2⟩⟩)] (.v (.bool r)) := by
  intro r hr
  refine fc_intro (args := [.v (.string ⟨⟨s1⟩⟩), .v (.string ⟨⟨prefix2⟩⟩)]) (S := []) (N0 := []) (post := fun r p S => p = .v (.bool r) ∧ S = []) Tryz.func66 rfl rfl hr fun w0 X X0 σ0 _ => ?_
  refine pw_seq ?_
  refine pw_region ?_
  refine po_evs (T := tab) 1 rfl rfl ?_
  refine po_nil ?_
  refine pn_seq ?_
  refine pw_seq ?_
  refine pw_region ?_
  refine po_evs (T := tab) 6 rfl rfl ?_
  refine po_split (j := 10) rfl ?_ ?_
  · refine po_evs (T := tab) 3 rfl rfl ?_
    refine po_sub (T := tab) rfl rfl rfl rfl rfl rfl rfl rfl fun s3 hs3 => ?_
    refine po_evs (T := tab) 4 rfl rfl ?_
    refine po_nil ?_
    refine pn_seq ?_
    exact pw_retN (T := tab) rfl rfl rfl ⟨rfl, rfl⟩ trivial rfl
  · refine po_evs (T := tab) 8 rfl rfl ?_
    refine po_nil ?_
    refine pn_seq ?_
    exact pw_retN (T := tab) rfl rfl rfl ⟨rfl, rfl⟩ trivial rfl

def Internal_stringslite_CutPrefix_m (fu : Nat) (s1 : Bs) (prefix2 : Bs) : Option (Bs × Bool) := bnd (Internal_stringslite_HasPrefix_m fu s1 prefix2) fun r3 => cnd (!r3) (some (s1, false)) (bnd (piece s1 ((prefix2.length : Nat) : Int) ((s1.length : Nat) : Int)) fun s4 => some (s4, true))

set_option maxRecDepth 100000 in
theorem Internal_stringslite_CutPrefix_ok (fu : Nat) (s1 : Bs) (prefix2 : Bs) : ∀ r, Internal_stringslite_CutPrefix_m fu s1 prefix2 = some r → DC laidL Tryz.prog 55 [.v (.string ⟨⟨s1⟩⟩), .v (.string ⟨⟨prefix2⟩⟩)] (.tup [.v (.string ⟨⟨r.1⟩⟩), .v (.bool r.2)]) := by
  intro r hr
  refine fc_intro (args := [.v (.string ⟨⟨s1⟩⟩), .v (.string ⟨⟨prefix2⟩⟩)]) (S := []) (N0 := []) (post := fun r p S => p = .tup [.v (.string ⟨⟨r.1⟩⟩), .v (.bool r.2)] ∧ S = []) Tryz.func55 rfl rfl hr fun w0 X X0 σ0 _ => ?_
  refine pw_seq ?_
  refine pw_region ?_
  refine po_evs (T := tab) 2 rfl rfl ?_
  refine po_nil ?_
  refine pn_seq ?_
  refine pw_seq ?_
  refine pw_seq ?_
  refine pw_region ?_
  refine po_evs (T := tab) 2 rfl rfl ?_
  refine po_call (enc := fun (r3 : Bool) => .v (.bool r3)) (qs := [.v (.string ⟨⟨s1⟩⟩), .v (.string ⟨⟨prefix2⟩⟩)]) (Internal_stringslite_HasPrefix_ok fu s1 prefix2) rfl rfl ⟨⟨_, rfl, .rfl⟩, ⟨_, rfl, .rfl⟩, trivial⟩ (fun _ => rfl) call66 rfl rfl fun r3 hr3 => ?_
  refine po_evs (T := tab) 1 rfl rfl ?_
  refine po_nil ?_
  refine pn_seq ?_
  refine pw_cnd rfl ?_ ?_
  · refine pw_seq ?_
    refine pw_region ?_
    refine po_evs (T := tab) 3 rfl rfl ?_
    refine po_nil ?_
    refine pn_seq ?_
    exact pw_retN (T := tab) rfl rfl rfl ⟨rfl, rfl⟩ trivial rfl
  · refine pw_skip ?_
    refine pn_seq ?_
    refine pw_seq ?_
    refine pw_region ?_
    refine po_evs (T := tab) 3 rfl rfl ?_
    refine po_sub (T := tab) rfl rfl rfl rfl rfl rfl rfl rfl fun s4 hs4 => ?_
    refine po_evs (T := tab) 2 rfl rfl ?_
    refine po_nil ?_
    refine pn_seq ?_
    exact pw_retN (T := tab) rfl rfl rfl ⟨rfl, rfl⟩ trivial rfl

def Strings_CutPrefix_m (fu : Nat) (s1 : Bs) (prefix2 : Bs) : Option (Bs × Bool) := bnd (Internal_stringslite_CutPrefix_m fu s1 prefix2) fun r3 => some (r3.1, r3.2)

set_option maxRecDepth 100000 in
theorem Strings_CutPrefix_ok (fu : Nat) (s1 : Bs) (prefix2 : Bs) : ∀ r, Strings_CutPrefix_m fu s1 prefix2 = some r → DC laidL Tryz.prog 38 [.v (.string ⟨⟨s1⟩⟩), .v (.string ⟨⟨prefix2⟩⟩)] (.tup [.v (.string ⟨⟨r.1⟩⟩), .v (.bool r.2)]) := by
  intro r hr
  refine fc_intro (args := [.v (.string ⟨⟨s1⟩⟩), .v (.string ⟨⟨prefix2⟩⟩)]) (S := []) (N0 := []) (post := fun r p S => p = .tup [.v (.string ⟨⟨r.1⟩⟩), .v (.bool r.2)] ∧ S = []) Tryz.func38 rfl rfl hr fun w0 X X0 σ0 _ => ?_
  refine pw_seq ?_
  refine pw_region ?_
  refine po_evs (T := tab) 2 rfl rfl ?_
  refine po_nil ?_
  refine pn_seq ?_
  refine pw_seq ?_
  refine pw_region ?_
  refine po_evs (T := tab) 2 rfl rfl ?_
  refine po_call (enc := fun (r3 : (Bs × Bool)) => .tup [.v (.string ⟨⟨r3.1⟩⟩), .v (.bool r3.2)]) (qs := [.v (.string ⟨⟨s1⟩⟩), .v (.string ⟨⟨prefix2⟩⟩)]) (Internal_stringslite_CutPrefix_ok fu s1 prefix2) rfl rfl ⟨⟨_, rfl, .rfl⟩, ⟨_, rfl, .rfl⟩, trivial⟩ (fun _ => rfl) call55 rfl rfl fun r3 hr3 => ?_
  refine po_evs (T := tab) 4 rfl rfl ?_
  refine po_nil ?_
  refine pn_seq ?_
  exact pw_retN (T := tab) rfl rfl rfl ⟨rfl, rfl⟩ trivial rfl

def Internal_stringslite_Cut_m (fu : Nat) (s1 : Bs) (sep2 : Bs) : Option (Bs × Bs × Bool) := bnd (index1_m fu s1 sep2) fun r3 => cnd (decide (r3 ≥ 0)) (bnd (piece s1 0 r3) fun s4 => bnd (rng .i64 (r3 + ((sep2.length : Nat) : Int))) fun i5 => bnd (piece s1 i5 ((s1.length : Nat) : Int)) fun s6 => some (s4, s6, true)) (some (s1, [], false))

set_option maxRecDepth 100000 in
theorem Internal_stringslite_Cut_ok (fu : Nat) (s1 : Bs) (sep2 : Bs) : ∀ r, Internal_stringslite_Cut_m fu s1 sep2 = some r → DC laidL Tryz.prog 56 [.v (.string ⟨⟨s1⟩⟩), .v (.string ⟨⟨sep2⟩⟩)] (.tup [.v (.string ⟨⟨r.1⟩⟩), .v (.string ⟨⟨r.2.1⟩⟩), .v (.bool r.2.2)]) := by
  intro r hr
  refine fc_intro (args := [.v (.string ⟨⟨s1⟩⟩), .v (.string ⟨⟨sep2⟩⟩)]) (S := []) (N0 := []) (post := fun r p S => p = .tup [.v (.string ⟨⟨r.1⟩⟩), .v (.string ⟨⟨r.2.1⟩⟩), .v (.bool r.2.2)] ∧ S = []) Tryz.func56 rfl rfl hr fun w0 X X0 σ0 _ => ?_
  refine pw_seq ?_
  refine pw_region ?_
  refine po_evs (T := tab) 3 rfl rfl ?_
  refine po_nil ?_
  refine pn_seq ?_
  refine pw_seq ?_
  refine pw_seq ?_
  refine pw_region ?_
  refine po_evs (T := tab) 2 rfl rfl ?_
  refine po_call (enc := fun (r3 : Int) => .v (.int .i64 r3)) (qs := [.v (.string ⟨⟨s1⟩⟩), .v (.string ⟨⟨sep2⟩⟩)]) (index1_ok fu s1 sep2) rfl rfl ⟨⟨_, rfl, .rfl⟩, ⟨_, rfl, .rfl⟩, trivial⟩ (fun _ => rfl) call67 rfl rfl fun r3 hr3 => ?_
  refine po_evs (T := tab) 1 rfl rfl ?_
  refine po_nil ?_
  refine pn_seq ?_
  refine pw_seq ?_
  refine pw_region ?_
  refine po_evs (T := tab) 2 rfl rfl ?_
  refine po_nil ?_
  refine pn_seq ?_
  refine pw_cnd rfl ?_ ?_
  · refine pw_seq ?_
    refine pw_draw mixed (by kernel_rfl) ?_
    refine pd_evs (T := tab) 2 rfl rfl ?_
    refine pd_sub (T := tab) rfl rfl rfl rfl rfl rfl rfl rfl fun s4 hs4 => ?_
    refine pd_evs (T := tab) 4 rfl rfl ?_
    refine pd_arith (T := tab) rfl rfl rfl rfl fun i5 hi5 => ?_
    refine pd_sub (T := tab) rfl rfl rfl rfl rfl rfl rfl rfl fun s6 hs6 => ?_
    refine pd_evs (T := tab) 3 rfl rfl ?_
    refine pd_nil ?_
    refine pn_seq ?_
    exact pw_retN (T := tab) rfl rfl rfl ⟨rfl, rfl⟩ trivial rfl
  · refine pw_skip ?_
    refine pn_seq ?_
    refine pw_seq ?_
    refine pw_region ?_
    refine po_evs (T := tab) 4 rfl rfl ?_
    refine po_nil ?_
    refine pn_seq ?_
    exact pw_retN (T := tab) rfl rfl rfl ⟨rfl, rfl⟩ trivial rfl

def Strings_Cut_m (fu : Nat) (s1 : Bs) (sep2 : Bs) : Option (Bs × Bs × Bool) := bnd (Internal_stringslite_Cut_m fu s1 sep2) fun r3 => some (r3.1, r3.2.1, r3.2.2)

set_option maxRecDepth 100000 in
theorem Strings_Cut_ok (fu : Nat) (s1 : Bs) (sep2 : Bs) : ∀ r, Strings_Cut_m fu s1 sep2 = some r → DC laidL Tryz.prog 39 [.v (.string ⟨⟨s1⟩⟩), .v (.string ⟨⟨sep2⟩⟩)] (.tup [.v (.string ⟨⟨r.1⟩⟩), .v (.string ⟨⟨r.2.1⟩⟩), .v (.bool r.2.2)]) := by
  intro r hr
  refine fc_intro (args := [.v (.string ⟨⟨s1⟩⟩), .v (.string ⟨⟨sep2⟩⟩)]) (S := []) (N0 := []) (post := fun r p S => p = .tup [.v (.string ⟨⟨r.1⟩⟩), .v (.string ⟨⟨r.2.1⟩⟩), .v (.bool r.2.2)] ∧ S = []) Tryz.func39 rfl rfl hr fun w0 X X0 σ0 _ => ?_
  refine pw_seq ?_
  refine pw_region ?_
  refine po_evs (T := tab) 3 rfl rfl ?_
  refine po_nil ?_
  refine pn_seq ?_
  refine pw_seq ?_
  refine pw_region ?_
  refine po_evs (T := tab) 2 rfl rfl ?_
  refine po_call (enc := fun (r3 : (Bs × Bs × Bool)) => .tup [.v (.string ⟨⟨r3.1⟩⟩), .v (.string ⟨⟨r3.2.1⟩⟩), .v (.bool r3.2.2)]) (qs := [.v (.string ⟨⟨s1⟩⟩), .v (.string ⟨⟨sep2⟩⟩)]) (Internal_stringslite_Cut_ok fu s1 sep2) rfl rfl ⟨⟨_, rfl, .rfl⟩, ⟨_, rfl, .rfl⟩, trivial⟩ (fun _ => rfl) call56 rfl rfl fun r3 hr3 => ?_
  refine po_evs (T := tab) 6 rfl rfl ?_
  refine po_nil ?_
  refine pn_seq ?_
  exact pw_retN (T := tab) rfl rfl rfl ⟨rfl, rfl⟩ trivial rfl

def Op_words_m (fu : Nat) : Option (List Bs) := bnd (fields_m fu ([45, 32, 110, 101, 119, 32, 100, 114, 97, 102, 116, 32, 116, 101, 120, 116, 32, 102, 114, 97, 103, 32, 115, 104, 97, 100, 101, 32, 112, 117, 116, 32, 111, 117, 116, 32, 115, 119, 97, 112, 32, 115, 101, 116, 32, 117, 110, 115, 101, 116, 32, 116, 111, 103, 103, 108, 101, 32, 99, 111, 112, 121, 32, 116, 97, 107, 101, 32, 101, 109, 112, 116, 121, 32, 106, 111, 105, 110, 32, 100, 101, 102, 105, 110, 101, 32, 119, 97, 105, 116, 32, 117, 112, 103, 114, 97, 100, 101, 32, 98, 117, 105, 108, 100, 32, 115, 117, 112, 101, 114, 32, 103, 105, 118, 101, 32, 116, 104, 114, 111, 119, 32, 114, 101, 115, 101, 116, 32, 114, 101, 115, 116, 111, 114, 101, 32, 114, 101, 115, 116, 32, 104, 97, 110, 100, 112, 117, 116, 32, 104, 97, 110, 100, 111, 117, 116, 32, 104, 97, 110, 100, 115, 101, 116] : Bs)) fun r1 => some r1

set_option maxRecDepth 100000 in
theorem Op_words_ok (fu : Nat) : ∀ r, Op_words_m fu = some r → DC laidL Tryz.prog 41 [] (.sl 1 false (r.map cStr)) := by
  intro r hr
  refine fc_intro (args := []) (S := []) (N0 := []) (post := fun r p S => p = .sl 1 false (r.map cStr) ∧ S = []) Tryz.func41 rfl rfl hr fun w0 X X0 σ0 _ => ?_
  refine pw_seq ?_
  refine pw_region ?_
  refine po_evs (T := tab) 1 rfl rfl ?_
  refine po_nil ?_
  refine pn_seq ?_
  refine pw_seq ?_
  refine pw_region ?_
  refine po_call (enc := fun (r1 : (List Bs)) => .sl 1 false (r1.map cStr)) (qs := [.v (.string ⟨⟨[45, 32, 110, 101, 119, 32, 100, 114, 97, 102, 116, 32, 116, 101, 120, 116, 32, 102, 114, 97, 103, 32, 115, 104, 97, 100, 101, 32, 112, 117, 116, 32, 111, 117, 116, 32, 115, 119, 97, 112, 32, 115, 101, 116, 32, 117, 110, 115, 101, 116, 32, 116, 111, 103, 103, 108, 101, 32, 99, 111, 112, 121, 32, 116, 97, 107, 101, 32, 101, 109, 112, 116, 121, 32, 106, 111, 105, 110, 32, 100, 101, 102, 105, 110, 101, 32, 119, 97, 105, 116, 32, 117, 112, 103, 114, 97, 100, 101, 32, 98, 117, 105, 108, 100, 32, 115, 117, 112, 101, 114, 32, 103, 105, 118, 101, 32, 116, 104, 114, 111, 119, 32, 114, 101, 115, 101, 116, 32, 114, 101, 115, 116, 111, 114, 101, 32, 114, 101, 115, 116, 32, 104, 97, 110, 100, 112, 117, 116, 32, 104, 97, 110, 100, 111, 117, 116, 32, 104, 97, 110, 100, 115, 101, 116]⟩⟩)]) (fields_ok fu ([45, 32, 110, 101, 119, 32, 100, 114, 97, 102, 116, 32, 116, 101, 120, 116, 32, 102, 114, 97, 103, 32, 115, 104, 97, 100, 101, 32, 112, 117, 116, 32, 111, 117, 116, 32, 115, 119, 97, 112, 32, 115, 101, 116, 32, 117, 110, 115, 101, 116, 32, 116, 111, 103, 103, 108, 101, 32, 99, 111, 112, 121, 32, 116, 97, 107, 101, 32, 101, 109, 112, 116, 121, 32, 106, 111, 105, 110, 32, 100, 101, 102, 105, 110, 101, 32, 119, 97, 105, 116, 32, 117, 112, 103, 114, 97, 100, 101, 32, 98, 117, 105, 108, 100, 32, 115, 117, 112, 101, 114, 32, 103, 105, 118, 101, 32, 116, 104, 114, 111, 119, 32, 114, 101, 115, 101, 116, 32, 114, 101, 115, 116, 111, 114, 101, 32, 114, 101, 115, 116, 32, 104, 97, 110, 100, 112, 117, 116, 32, 104, 97, 110, 100, 111, 117, 116, 32, 104, 97, 110, 100, 115, 101, 116] : Bs)) rfl rfl ⟨⟨_, rfl, .rfl⟩, trivial⟩ (fun _ => rfl) call57 rfl rfl fun r1 hr1 => ?_
  refine po_evs (T := tab) 1 rfl rfl ?_
  refine po_nil ?_
  refine pn_seq ?_
  exact pw_retN (T := tab) rfl rfl rfl ⟨rfl, rfl⟩ trivial rfl

def Slices_Index_string_l1 (s1 : (List Bs)) (v2 : Bs) : Nat → Int → Option Int
  | 0, _ => none
  | k1 + 1, t3 => cnd (decide (t3 < ((s1.length : Nat) : Int))) (bnd (idx s1 t3) fun y4 => cnd (v2 == y4) (some t3) (bnd (rng .i64 (t3 + 1)) fun i5 => (Slices_Index_string_l1 s1 v2 k1) i5)) (some (-1))

def Slices_Index_string_m (fu : Nat) (s1 : (List Bs)) (v2 : Bs) : Option Int := (Slices_Index_string_l1 s1 v2) fu 0

set_option maxHeartbeats 10000000 in
set_option maxRecDepth 100000 in
theorem Slices_Index_string_ok (fu : Nat) (s1 : (List Bs)) (v2 : Bs) : ∀ r, Slices_Index_string_m fu s1 v2 = some r → DC laidL Tryz.prog 40 [.sl 1 false (s1.map cStr), .v (.string ⟨⟨v2⟩⟩)] (.v (.int .i64 r)) := by
  intro r hr
  refine fc_intro (args := [.sl 1 false (s1.map cStr), .v (.string ⟨⟨v2⟩⟩)]) (S := []) (N0 := []) (post := fun r p S => p = .v (.int .i64 r) ∧ S = []) Tryz.func40 rfl rfl hr fun w0 X X0 σ0 _ => ?_
  refine pw_seq ?_
  refine pw_region ?_
  refine po_evs (T := tab) 1 rfl rfl ?_
  refine po_nil ?_
  refine pn_seq ?_
  refine pw_seq ?_
  refine pw_seq ?_
  refine pw_region ?_
  refine po_evs (T := tab) 1 rfl rfl ?_
  refine po_len (T := tab) cStr s1 rfl rfl rfl rfl rfl rfl rfl rfl ?_
  refine po_evs (T := tab) 1 rfl rfl ?_
  refine po_nil ?_
  refine pn_seq ?_
  refine pw_block ?_
  refine pw_loop' (Slices_Index_string_l1 s1 v2) (fun (t3 : Int) => [(0, .sl 1 false (s1.map cStr)), (1, .v (.string ⟨⟨v2⟩⟩)), (7, .v (.int .i64 ((s1.length : Nat) : Int))), (8, .v (.int .i64 t3))]) (fun (t3 : Int) => []) fu 0 (fun _ => rfl) ⟨rfl, rfl, rfl, rfl, trivial⟩ trivial rfl ?_
  rintro k1 t3
  refine pw_seq ?_
  refine pw_region ?_
  refine po_evs (T := tab) 1 rfl rfl ?_
  refine po_nil ?_
  refine pn_seq ?_
  refine pw_seq ?_
  refine pw_cnd rfl ?_ ?_
  · refine pw_skip ?_
    refine pn_seq ?_
    refine pw_seq ?_
    refine pw_block ?_
    refine pw_seq ?_
    refine pw_region ?_
    refine po_evs (T := tab) 2 rfl rfl ?_
    refine po_nil ?_
    refine pn_seq ?_
    refine pw_seq ?_
    refine pw_region ?_
    refine po_evs (T := tab) 3 rfl rfl ?_
    refine po_idx (T := tab) cStr s1 rfl rfl rfl rfl rfl rfl rfl fun y4 hy4 => ?_
    refine po_evs (T := tab) 2 rfl rfl ?_
    refine po_nil ?_
    refine pn_seq ?_
    refine pw_cnd rfl ?_ ?_
    · refine pw_seq ?_
      refine pw_region ?_
      refine po_evs (T := tab) 2 rfl rfl ?_
      refine po_nil ?_
      refine pn_seq ?_
      exact pw_retN (T := tab) rfl rfl rfl ⟨rfl, rfl⟩ trivial rfl
    · refine pw_skip ?_
      refine pn_block ?_
      refine pn_seq ?_
      refine pw_region ?_
      refine po_arith' (T := tab) rfl rfl rfl rfl fun i5 hi5 => ?_
      refine po_evs (T := tab) 1 rfl rfl ?_
      refine po_nil ?_
      exact pn_iter' i5 ⟨rfl, rfl, rfl, rfl, trivial⟩ trivial rfl
  · refine pw_exit rfl ?_
    refine pn_seq ?_
    refine pw_seq ?_
    refine pw_region ?_
    refine po_evs (T := tab) 1 rfl rfl ?_
    refine po_nil ?_
    refine pn_seq ?_
    exact pw_retN (T := tab) rfl rfl rfl ⟨rfl, rfl⟩ trivial rfl

def Op_word_m (fu : Nat) (kind1 : Int) : Option Bs := bnd (Op_words_m fu) fun r2 => cnd (decide (kind1 > 0)) (cnd (decide (kind1 < ((r2.length : Nat) : Int))) (bnd (idx r2 kind1) fun y3 => some y3) (some [])) (some [])

set_option maxHeartbeats 10000000 in
set_option maxRecDepth 100000 in
theorem Op_word_ok (fu : Nat) (kind1 : Int) : ∀ r, Op_word_m fu kind1 = some r → DC laidL Tryz.prog 48 [.v (.int .i64 kind1)] (.v (.string ⟨⟨r⟩⟩)) := by
  intro r hr
  refine fc_intro (args := [.v (.int .i64 kind1)]) (S := []) (N0 := []) (post := fun r p S => p = .v (.string ⟨⟨r⟩⟩) ∧ S = []) Tryz.func48 rfl rfl hr fun w0 X X0 σ0 _ => ?_
  refine pw_seq ?_
  refine pw_region ?_
  refine po_evs (T := tab) 1 rfl rfl ?_
  refine po_nil ?_
  refine pn_seq ?_
  refine pw_seq ?_
  refine pw_seq ?_
  refine pw_region ?_
  refine po_call (enc := fun (r2 : (List Bs)) => .sl 1 false (r2.map cStr)) (qs := []) (Op_words_ok fu) rfl rfl trivial (fun _ => rfl) call41 rfl rfl fun r2 hr2 => ?_
  refine po_evs (T := tab) 1 rfl rfl ?_
  refine po_nil ?_
  refine pn_seq ?_
  refine pw_seq ?_
  refine pw_region ?_
  refine po_evs (T := tab) 3 rfl rfl ?_
  refine po_split (j := 7) rfl ?_ ?_
  · refine po_evs (T := tab) 2 rfl rfl ?_
    refine po_len (T := tab) cStr r2 rfl rfl rfl rfl rfl rfl rfl rfl ?_
    refine po_evs (T := tab) 2 rfl rfl ?_
    refine po_nil ?_
    refine pn_seq ?_
    refine pw_cnd rfl ?_ ?_
    · refine pw_seq ?_
      refine pw_region ?_
      refine po_evs (T := tab) 2 rfl rfl ?_
      refine po_idx (T := tab) cStr r2 rfl rfl rfl rfl rfl rfl rfl fun y3 hy3 => ?_
      refine po_evs (T := tab) 2 rfl rfl ?_
      refine po_nil ?_
      refine pn_seq ?_
      exact pw_retN (T := tab) rfl rfl rfl ⟨rfl, rfl⟩ trivial rfl
    · refine pw_skip ?_
      refine pn_seq ?_
      refine pw_seq ?_
      refine pw_region ?_
      refine po_evs (T := tab) 1 rfl rfl ?_
      refine po_nil ?_
      refine pn_seq ?_
      exact pw_retN (T := tab) rfl rfl rfl ⟨rfl, rfl⟩ trivial rfl
  · refine po_evs (T := tab) 5 rfl rfl ?_
    refine po_nil ?_
    refine pn_seq (pw_else rfl ?_)
    refine pw_skip ?_
    refine pn_seq ?_
    refine pw_seq ?_
    refine pw_region ?_
    refine po_evs (T := tab) 1 rfl rfl ?_
    refine po_nil ?_
    refine pn_seq ?_
    exact pw_retN (T := tab) rfl rfl rfl ⟨rfl, rfl⟩ trivial rfl

def Op_formOf_j4 (fu : Nat) (kind1 : Int) (t14 : Bool) : Option (Op_form × Bool) := cnd t14 (bnd (Op_word_m fu kind1) fun r15 => some ((⟨r15, [46, 46, 46, 46, 46]⟩ : Op_form), true)) (bnd (Op_word_m fu kind1) fun r16 => cnd (decide (kind1 > 0)) (some ((⟨r16, [110, 46, 46, 46, 46]⟩ : Op_form), (decide (kind1 ≤ 28)))) (some ((⟨r16, [110, 46, 46, 46, 46]⟩ : Op_form), false)))

def Op_formOf_j3 (fu : Nat) (kind1 : Int) (t6 : Bool) : Option (Op_form × Bool) := cnd t6 (bnd (Op_word_m fu kind1) fun r7 => some ((⟨r7, [110, 110, 111, 46, 46]⟩ : Op_form), true)) (cnd (kind1 == 11) (bnd (Op_word_m fu kind1) fun r8 => some ((⟨r8, [110, 105, 46, 115, 46]⟩ : Op_form), true)) (cnd (kind1 == 12) (bnd (Op_word_m fu kind1) fun r9 => some ((⟨r9, [110, 105, 110, 46, 46]⟩ : Op_form), true)) (cnd (kind1 == 13) (bnd (Op_word_m fu kind1) fun r10 => some ((⟨r10, [110, 110, 46, 46, 46]⟩ : Op_form), true)) (cnd (kind1 == 16) (bnd (Op_word_m fu kind1) fun r11 => some ((⟨r11, [105, 46, 46, 115, 115]⟩ : Op_form), true)) (cnd (kind1 == 17) (bnd (Op_word_m fu kind1) fun r12 => some ((⟨r12, [46, 46, 46, 115, 46]⟩ : Op_form), true)) (cnd (kind1 == 19) (bnd (Op_word_m fu kind1) fun r13 => some ((⟨r13, [105, 46, 46, 46, 46]⟩ : Op_form), true)) (cnd (kind1 == 20) ((Op_formOf_j4 fu kind1) (kind1 == 20)) (cnd (kind1 == 22) ((Op_formOf_j4 fu kind1) (kind1 == 22)) ((Op_formOf_j4 fu kind1) (kind1 == 25))))))))))

def Op_formOf_j2 (fu : Nat) (kind1 : Int) (t4 : Bool) : Option (Op_form × Bool) := cnd t4 (bnd (Op_word_m fu kind1) fun r5 => some ((⟨r5, [110, 46, 46, 115, 46]⟩ : Op_form), true)) (cnd (kind1 == 6) ((Op_formOf_j3 fu kind1) (kind1 == 6)) (cnd (kind1 == 8) ((Op_formOf_j3 fu kind1) (kind1 == 8)) ((Op_formOf_j3 fu kind1) (kind1 == 26))))

def Op_formOf_j1 (fu : Nat) (kind1 : Int) (t2 : Bool) : Option (Op_form × Bool) := cnd t2 (bnd (Op_word_m fu kind1) fun r3 => some ((⟨r3, [110, 46, 46, 115, 115]⟩ : Op_form), true)) (cnd (kind1 == 3) ((Op_formOf_j2 fu kind1) (kind1 == 3)) (cnd (kind1 == 10) ((Op_formOf_j2 fu kind1) (kind1 == 10)) ((Op_formOf_j2 fu kind1) (kind1 == 24))))

def Op_formOf_m (fu : Nat) (kind1 : Int) : Option (Op_form × Bool) := cnd (kind1 == 1) ((Op_formOf_j1 fu kind1) (kind1 == 1)) (cnd (kind1 == 2) ((Op_formOf_j1 fu kind1) (kind1 == 2)) (cnd (kind1 == 9) ((Op_formOf_j1 fu kind1) (kind1 == 9)) ((Op_formOf_j1 fu kind1) (kind1 == 28))))

set_option maxHeartbeats 10000000 in
set_option maxRecDepth 100000 in
theorem Op_formOf_ok (fu : Nat) (kind1 : Int) : ∀ r, Op_formOf_m fu kind1 = some r → DC laidL Tryz.prog 26 [.v (.int .i64 kind1)] (.tup [.agg (cOp_form r.1), .v (.bool r.2)]) := by
  intro r hr
  refine fc_intro (args := [.v (.int .i64 kind1)]) (S := []) (N0 := []) (post := fun r p S => p = .tup [.agg (cOp_form r.1), .v (.bool r.2)] ∧ S = []) Tryz.func26 rfl rfl hr fun w0 X X0 σ0 _ => ?_
  refine pw_seq ?_
  refine pw_region ?_
  refine po_alloc (T := tab) 2 rfl rfl rfl rfl rfl rfl rfl rfl rfl ?_
  refine po_evs (T := tab) 1 rfl rfl ?_
  refine po_nil ?_
  refine pn_seq ?_
  refine pw_seq ?_
  refine pw_seq ?_
  refine pw_region ?_
  refine po_evs (T := tab) 1 rfl rfl ?_
  refine po_nil ?_
  refine pn_seq ?_
  refine pw_block ?_
  refine pw_seq ?_
  refine pw_seq ?_
  refine pw_region ?_
  refine po_evs (T := tab) 2 rfl rfl ?_
  refine po_nil ?_
  refine pn_seq ?_
  refine pw_joinK (Op_formOf_j1 fu kind1) (fun (t2 : Bool) => [(0, .v (.int .i64 kind1)), (2, .loc 2 0), (4, .v (.int .i64 kind1)), (5, .v (.bool t2))]) (fun (t2 : Bool) => [(2, .box 47 [.v (.string ⟨⟨[]⟩⟩), .v (.string ⟨⟨[]⟩⟩)])]) ?_ fun hj1 => ?_
  · rintro t2
    refine pn_seq ?_
    refine pw_cnd rfl ?_ ?_
    · refine pw_seq ?_
      refine pw_region ?_
      refine po_evs (T := tab) 1 rfl rfl ?_
      refine po_call (enc := fun (r3 : Bs) => .v (.string ⟨⟨r3⟩⟩)) (qs := [.v (.int .i64 kind1)]) (Op_word_ok fu kind1) rfl rfl ⟨⟨_, rfl, .rfl⟩, trivial⟩ (fun _ => rfl) call48 rfl rfl fun r3 hr3 => ?_
      refine po_build (T := tab) rfl rfl rfl rfl rfl rfl rfl ?_
      refine po_store (T := tab) rfl rfl rfl rfl rfl rfl rfl rfl rfl rfl rfl rfl ?_
      refine po_evs (T := tab) 1 rfl rfl ?_
      refine po_nil ?_
      refine pn_seq ?_
      exact pw_retN (T := tab) rfl rfl rfl ⟨rfl, rfl⟩ trivial rfl
    · refine pw_seq ?_
      refine pw_seq ?_
      refine pw_region ?_
      refine po_evs (T := tab) 2 rfl rfl ?_
      refine po_nil ?_
      refine pn_seq ?_
      refine pw_joinK (Op_formOf_j2 fu kind1) (fun (t4 : Bool) => [(0, .v (.int .i64 kind1)), (2, .loc 2 0), (4, .v (.int .i64 kind1)), (13, .v (.bool t4))]) (fun (t4 : Bool) => [(2, .box 47 [.v (.string ⟨⟨[]⟩⟩), .v (.string ⟨⟨[]⟩⟩)])]) ?_ fun hj2 => ?_
      · rintro t4
        refine pn_seq ?_
        refine pw_cnd rfl ?_ ?_
        · refine pw_seq ?_
          refine pw_region ?_
          refine po_evs (T := tab) 1 rfl rfl ?_
          refine po_call (enc := fun (r5 : Bs) => .v (.string ⟨⟨r5⟩⟩)) (qs := [.v (.int .i64 kind1)]) (Op_word_ok fu kind1) rfl rfl ⟨⟨_, rfl, .rfl⟩, trivial⟩ (fun _ => rfl) call48 rfl rfl fun r5 hr5 => ?_
          refine po_build (T := tab) rfl rfl rfl rfl rfl rfl rfl ?_
          refine po_store (T := tab) rfl rfl rfl rfl rfl rfl rfl rfl rfl rfl rfl rfl ?_
          refine po_evs (T := tab) 1 rfl rfl ?_
          refine po_nil ?_
          refine pn_seq ?_
          exact pw_retN (T := tab) rfl rfl rfl ⟨rfl, rfl⟩ trivial rfl
        · refine pw_seq ?_
          refine pw_seq ?_
          refine pw_region ?_
          refine po_evs (T := tab) 2 rfl rfl ?_
          refine po_nil ?_
          refine pn_seq ?_
          refine pw_joinK (Op_formOf_j3 fu kind1) (fun (t6 : Bool) => [(0, .v (.int .i64 kind1)), (2, .loc 2 0), (4, .v (.int .i64 kind1)), (20, .v (.bool t6))]) (fun (t6 : Bool) => [(2, .box 47 [.v (.string ⟨⟨[]⟩⟩), .v (.string ⟨⟨[]⟩⟩)])]) ?_ fun hj3 => ?_
          · rintro t6
            refine pn_seq ?_
            refine pw_cnd rfl ?_ ?_
            · refine pw_seq ?_
              refine pw_region ?_
              refine po_evs (T := tab) 1 rfl rfl ?_
              refine po_call (enc := fun (r7 : Bs) => .v (.string ⟨⟨r7⟩⟩)) (qs := [.v (.int .i64 kind1)]) (Op_word_ok fu kind1) rfl rfl ⟨⟨_, rfl, .rfl⟩, trivial⟩ (fun _ => rfl) call48 rfl rfl fun r7 hr7 => ?_
              refine po_build (T := tab) rfl rfl rfl rfl rfl rfl rfl ?_
              refine po_store (T := tab) rfl rfl rfl rfl rfl rfl rfl rfl rfl rfl rfl rfl ?_
              refine po_evs (T := tab) 1 rfl rfl ?_
              refine po_nil ?_
              refine pn_seq ?_
              exact pw_retN (T := tab) rfl rfl rfl ⟨rfl, rfl⟩ trivial rfl
            · refine pw_seq ?_
              refine pw_region ?_
              refine po_evs (T := tab) 2 rfl rfl ?_
              refine po_nil ?_
              refine pn_seq ?_
              refine pw_cnd rfl ?_ ?_
              · refine pw_seq ?_
                refine pw_region ?_
                refine po_evs (T := tab) 1 rfl rfl ?_
                refine po_call (enc := fun (r8 : Bs) => .v (.string ⟨⟨r8⟩⟩)) (qs := [.v (.int .i64 kind1)]) (Op_word_ok fu kind1) rfl rfl ⟨⟨_, rfl, .rfl⟩, trivial⟩ (fun _ => rfl) call48 rfl rfl fun r8 hr8 => ?_
                refine po_build (T := tab) rfl rfl rfl rfl rfl rfl rfl ?_
                refine po_store (T := tab) rfl rfl rfl rfl rfl rfl rfl rfl rfl rfl rfl rfl ?_
                refine po_evs (T := tab) 1 rfl rfl ?_
                refine po_nil ?_
                refine pn_seq ?_
                exact pw_retN (T := tab) rfl rfl rfl ⟨rfl, rfl⟩ trivial rfl
              · refine pw_seq ?_
                refine pw_region ?_
                refine po_evs (T := tab) 2 rfl rfl ?_
                refine po_nil ?_
                refine pn_seq ?_
                refine pw_cnd rfl ?_ ?_
                · refine pw_seq ?_
                  refine pw_region ?_
                  refine po_evs (T := tab) 1 rfl rfl ?_
                  refine po_call (enc := fun (r9 : Bs) => .v (.string ⟨⟨r9⟩⟩)) (qs := [.v (.int .i64 kind1)]) (Op_word_ok fu kind1) rfl rfl ⟨⟨_, rfl, .rfl⟩, trivial⟩ (fun _ => rfl) call48 rfl rfl fun r9 hr9 => ?_
                  refine po_build (T := tab) rfl rfl rfl rfl rfl rfl rfl ?_
                  refine po_store (T := tab) rfl rfl rfl rfl rfl rfl rfl rfl rfl rfl rfl rfl ?_
                  refine po_evs (T := tab) 1 rfl rfl ?_
                  refine po_nil ?_
                  refine pn_seq ?_
                  exact pw_retN (T := tab) rfl rfl rfl ⟨rfl, rfl⟩ trivial rfl
                · refine pw_seq ?_
                  refine pw_region ?_
                  refine po_evs (T := tab) 2 rfl rfl ?_
                  refine po_nil ?_
                  refine pn_seq ?_
                  refine pw_cnd rfl ?_ ?_
                  · refine pw_seq ?_
                    refine pw_region ?_
                    refine po_evs (T := tab) 1 rfl rfl ?_
                    refine po_call (enc := fun (r10 : Bs) => .v (.string ⟨⟨r10⟩⟩)) (qs := [.v (.int .i64 kind1)]) (Op_word_ok fu kind1) rfl rfl ⟨⟨_, rfl, .rfl⟩, trivial⟩ (fun _ => rfl) call48 rfl rfl fun r10 hr10 => ?_
                    refine po_build (T := tab) rfl rfl rfl rfl rfl rfl rfl ?_
                    refine po_store (T := tab) rfl rfl rfl rfl rfl rfl rfl rfl rfl rfl rfl rfl ?_
                    refine po_evs (T := tab) 1 rfl rfl ?_
                    refine po_nil ?_
                    refine pn_seq ?_
                    exact pw_retN (T := tab) rfl rfl rfl ⟨rfl, rfl⟩ trivial rfl
                  · refine pw_seq ?_
                    refine pw_region ?_
                    refine po_evs (T := tab) 2 rfl rfl ?_
                    refine po_nil ?_
                    refine pn_seq ?_
                    refine pw_cnd rfl ?_ ?_
                    · refine pw_seq ?_
                      refine pw_region ?_
                      refine po_evs (T := tab) 1 rfl rfl ?_
                      refine po_call (enc := fun (r11 : Bs) => .v (.string ⟨⟨r11⟩⟩)) (qs := [.v (.int .i64 kind1)]) (Op_word_ok fu kind1) rfl rfl ⟨⟨_, rfl, .rfl⟩, trivial⟩ (fun _ => rfl) call48 rfl rfl fun r11 hr11 => ?_
                      refine po_build (T := tab) rfl rfl rfl rfl rfl rfl rfl ?_
                      refine po_store (T := tab) rfl rfl rfl rfl rfl rfl rfl rfl rfl rfl rfl rfl ?_
                      refine po_evs (T := tab) 1 rfl rfl ?_
                      refine po_nil ?_
                      refine pn_seq ?_
                      exact pw_retN (T := tab) rfl rfl rfl ⟨rfl, rfl⟩ trivial rfl
                    · refine pw_seq ?_
                      refine pw_region ?_
                      refine po_evs (T := tab) 2 rfl rfl ?_
                      refine po_nil ?_
                      refine pn_seq ?_
                      refine pw_cnd rfl ?_ ?_
                      · refine pw_seq ?_
                        refine pw_region ?_
                        refine po_evs (T := tab) 1 rfl rfl ?_
                        refine po_call (enc := fun (r12 : Bs) => .v (.string ⟨⟨r12⟩⟩)) (qs := [.v (.int .i64 kind1)]) (Op_word_ok fu kind1) rfl rfl ⟨⟨_, rfl, .rfl⟩, trivial⟩ (fun _ => rfl) call48 rfl rfl fun r12 hr12 => ?_
                        refine po_build (T := tab) rfl rfl rfl rfl rfl rfl rfl ?_
                        refine po_store (T := tab) rfl rfl rfl rfl rfl rfl rfl rfl rfl rfl rfl rfl ?_
                        refine po_evs (T := tab) 1 rfl rfl ?_
                        refine po_nil ?_
                        refine pn_seq ?_
                        exact pw_retN (T := tab) rfl rfl rfl ⟨rfl, rfl⟩ trivial rfl
                      · refine pw_seq ?_
                        refine pw_region ?_
                        refine po_evs (T := tab) 2 rfl rfl ?_
                        refine po_nil ?_
                        refine pn_seq ?_
                        refine pw_cnd rfl ?_ ?_
                        · refine pw_seq ?_
                          refine pw_region ?_
                          refine po_evs (T := tab) 1 rfl rfl ?_
                          refine po_call (enc := fun (r13 : Bs) => .v (.string ⟨⟨r13⟩⟩)) (qs := [.v (.int .i64 kind1)]) (Op_word_ok fu kind1) rfl rfl ⟨⟨_, rfl, .rfl⟩, trivial⟩ (fun _ => rfl) call48 rfl rfl fun r13 hr13 => ?_
                          refine po_build (T := tab) rfl rfl rfl rfl rfl rfl rfl ?_
                          refine po_store (T := tab) rfl rfl rfl rfl rfl rfl rfl rfl rfl rfl rfl rfl ?_
                          refine po_evs (T := tab) 1 rfl rfl ?_
                          refine po_nil ?_
                          refine pn_seq ?_
                          exact pw_retN (T := tab) rfl rfl rfl ⟨rfl, rfl⟩ trivial rfl
                        · refine pw_seq ?_
                          refine pw_seq ?_
                          refine pw_region ?_
                          refine po_evs (T := tab) 2 rfl rfl ?_
                          refine po_nil ?_
                          refine pn_seq ?_
                          refine pw_joinK (Op_formOf_j4 fu kind1) (fun (t14 : Bool) => [(0, .v (.int .i64 kind1)), (2, .loc 2 0), (57, .v (.bool t14))]) (fun (t14 : Bool) => [(2, .box 47 [.v (.string ⟨⟨[]⟩⟩), .v (.string ⟨⟨[]⟩⟩)])]) ?_ fun hj4 => ?_
                          · rintro t14
                            refine pn_seq ?_
                            refine pw_cnd rfl ?_ ?_
                            · refine pw_seq ?_
                              refine pw_region ?_
                              refine po_evs (T := tab) 1 rfl rfl ?_
                              refine po_call (enc := fun (r15 : Bs) => .v (.string ⟨⟨r15⟩⟩)) (qs := [.v (.int .i64 kind1)]) (Op_word_ok fu kind1) rfl rfl ⟨⟨_, rfl, .rfl⟩, trivial⟩ (fun _ => rfl) call48 rfl rfl fun r15 hr15 => ?_
                              refine po_build (T := tab) rfl rfl rfl rfl rfl rfl rfl ?_
                              refine po_store (T := tab) rfl rfl rfl rfl rfl rfl rfl rfl rfl rfl rfl rfl ?_
                              refine po_evs (T := tab) 1 rfl rfl ?_
                              refine po_nil ?_
                              refine pn_seq ?_
                              exact pw_retN (T := tab) rfl rfl rfl ⟨rfl, rfl⟩ trivial rfl
                            · refine pw_skip ?_
                              refine pn_block ?_
                              refine pn_seq ?_
                              refine pw_seq ?_
                              refine pw_region ?_
                              refine po_evs (T := tab) 1 rfl rfl ?_
                              refine po_call (enc := fun (r16 : Bs) => .v (.string ⟨⟨r16⟩⟩)) (qs := [.v (.int .i64 kind1)]) (Op_word_ok fu kind1) rfl rfl ⟨⟨_, rfl, .rfl⟩, trivial⟩ (fun _ => rfl) call48 rfl rfl fun r16 hr16 => ?_
                              refine po_build (T := tab) rfl rfl rfl rfl rfl rfl rfl ?_
                              refine po_evs (T := tab) 3 rfl rfl ?_
                              refine po_split (j := 69) rfl ?_ ?_
                              · refine po_evs (T := tab) 3 rfl rfl ?_
                                refine po_store (T := tab) rfl rfl rfl rfl rfl rfl rfl rfl rfl rfl rfl rfl ?_
                                refine po_evs (T := tab) 1 rfl rfl ?_
                                refine po_nil ?_
                                refine pn_seq ?_
                                exact pw_retN (T := tab) rfl rfl rfl ⟨rfl, rfl⟩ trivial rfl
                              · refine po_evs (T := tab) 3 rfl rfl ?_
                                refine po_store (T := tab) rfl rfl rfl rfl rfl rfl rfl rfl rfl rfl rfl rfl ?_
                                refine po_evs (T := tab) 1 rfl rfl ?_
                                refine po_nil ?_
                                refine pn_seq ?_
                                exact pw_retN (T := tab) rfl rfl rfl ⟨rfl, rfl⟩ trivial rfl
                          · refine pw_cnd rfl ?_ ?_
                            · refine pw_skip ?_
                              exact pn_sub' (hj4 (kind1 == 20)) ⟨rfl, rfl, rfl, trivial⟩ ⟨rfl, trivial⟩ rfl
                            · refine pw_seq ?_
                              refine pw_region ?_
                              refine po_evs (T := tab) 2 rfl rfl ?_
                              refine po_nil ?_
                              refine pn_seq ?_
                              refine pw_cnd rfl ?_ ?_
                              · refine pw_skip ?_
                                exact pn_sub' (hj4 (kind1 == 22)) ⟨rfl, rfl, rfl, trivial⟩ ⟨rfl, trivial⟩ rfl
                              · refine pw_region ?_
                                refine po_evs (T := tab) 2 rfl rfl ?_
                                refine po_nil ?_
                                exact pn_sub' (hj4 (kind1 == 25)) ⟨rfl, rfl, rfl, trivial⟩ ⟨rfl, trivial⟩ rfl
          · refine pw_cnd rfl ?_ ?_
            · refine pw_skip ?_
              exact pn_sub' (hj3 (kind1 == 6)) ⟨rfl, rfl, rfl, rfl, trivial⟩ ⟨rfl, trivial⟩ rfl
            · refine pw_seq ?_
              refine pw_region ?_
              refine po_evs (T := tab) 2 rfl rfl ?_
              refine po_nil ?_
              refine pn_seq ?_
              refine pw_cnd rfl ?_ ?_
              · refine pw_skip ?_
                exact pn_sub' (hj3 (kind1 == 8)) ⟨rfl, rfl, rfl, rfl, trivial⟩ ⟨rfl, trivial⟩ rfl
              · refine pw_region ?_
                refine po_evs (T := tab) 2 rfl rfl ?_
                refine po_nil ?_
                exact pn_sub' (hj3 (kind1 == 26)) ⟨rfl, rfl, rfl, rfl, trivial⟩ ⟨rfl, trivial⟩ rfl
      · refine pw_cnd rfl ?_ ?_
        · refine pw_skip ?_
          exact pn_sub' (hj2 (kind1 == 3)) ⟨rfl, rfl, rfl, rfl, trivial⟩ ⟨rfl, trivial⟩ rfl
        · refine pw_seq ?_
          refine pw_region ?_
          refine po_evs (T := tab) 2 rfl rfl ?_
          refine po_nil ?_
          refine pn_seq ?_
          refine pw_cnd rfl ?_ ?_
          · refine pw_skip ?_
            exact pn_sub' (hj2 (kind1 == 10)) ⟨rfl, rfl, rfl, rfl, trivial⟩ ⟨rfl, trivial⟩ rfl
          · refine pw_region ?_
            refine po_evs (T := tab) 2 rfl rfl ?_
            refine po_nil ?_
            exact pn_sub' (hj2 (kind1 == 24)) ⟨rfl, rfl, rfl, rfl, trivial⟩ ⟨rfl, trivial⟩ rfl
  · refine pw_cnd rfl ?_ ?_
    · refine pw_skip ?_
      exact pn_sub' (hj1 (kind1 == 1)) ⟨rfl, rfl, rfl, rfl, trivial⟩ ⟨rfl, trivial⟩ rfl
    · refine pw_seq ?_
      refine pw_region ?_
      refine po_evs (T := tab) 2 rfl rfl ?_
      refine po_nil ?_
      refine pn_seq ?_
      refine pw_cnd rfl ?_ ?_
      · refine pw_skip ?_
        exact pn_sub' (hj1 (kind1 == 2)) ⟨rfl, rfl, rfl, rfl, trivial⟩ ⟨rfl, trivial⟩ rfl
      · refine pw_seq ?_
        refine pw_region ?_
        refine po_evs (T := tab) 2 rfl rfl ?_
        refine po_nil ?_
        refine pn_seq ?_
        refine pw_cnd rfl ?_ ?_
        · refine pw_skip ?_
          exact pn_sub' (hj1 (kind1 == 9)) ⟨rfl, rfl, rfl, rfl, trivial⟩ ⟨rfl, trivial⟩ rfl
        · refine pw_region ?_
          refine po_evs (T := tab) 2 rfl rfl ?_
          refine po_nil ?_
          exact pn_sub' (hj1 (kind1 == 28)) ⟨rfl, rfl, rfl, rfl, trivial⟩ ⟨rfl, trivial⟩ rfl

def Op_numbers_m (_fu : Nat) : Option Unit := some ()

set_option maxRecDepth 100000 in
theorem Op_numbers_ok (fu : Nat) (c1 : Op) : ∀ r, Op_numbers_m fu = some r → FC laidL Tryz.prog 28 [.loc 900000 0] [(900000, .box 23 [.v (.int .i64 c1.Kind), .v (.int .i64 c1.A), .v (.int .i64 c1.B), .v (.int .i64 c1.C), .v (.string ⟨⟨c1.S⟩⟩), .v (.string ⟨⟨c1.T⟩⟩), .v (.bool c1.Must)])] [900000] fun p S' => p = .bsl 12 3 ∧ S' = [(900000, .box 23 [.v (.int .i64 c1.Kind), .v (.int .i64 c1.A), .v (.int .i64 c1.B), .v (.int .i64 c1.C), .v (.string ⟨⟨c1.S⟩⟩), .v (.string ⟨⟨c1.T⟩⟩), .v (.bool c1.Must)]), (12, .box 63 [.loc 900000 1, .loc 900000 2, .loc 900000 3])] := by
  intro r hr
  refine fc_intro (args := [.loc 900000 0]) (S := [(900000, .box 23 [.v (.int .i64 c1.Kind), .v (.int .i64 c1.A), .v (.int .i64 c1.B), .v (.int .i64 c1.C), .v (.string ⟨⟨c1.S⟩⟩), .v (.string ⟨⟨c1.T⟩⟩), .v (.bool c1.Must)])]) (N0 := [900000]) (post := fun r p S => p = .bsl 12 3 ∧ S = [(900000, .box 23 [.v (.int .i64 c1.Kind), .v (.int .i64 c1.A), .v (.int .i64 c1.B), .v (.int .i64 c1.C), .v (.string ⟨⟨c1.S⟩⟩), .v (.string ⟨⟨c1.T⟩⟩), .v (.bool c1.Must)]), (12, .box 63 [.loc 900000 1, .loc 900000 2, .loc 900000 3])]) Tryz.func28 rfl rfl hr fun w0 X X0 σ0 _ => ?_
  refine pw_seq ?_
  refine pw_region ?_
  refine po_evs (T := tab) 1 rfl rfl ?_
  refine po_nil ?_
  refine pn_seq ?_
  refine pw_seq ?_
  refine pw_sub' (E' := [(0, .loc 900000 0)]) (S' := [(900000, .box 23 [.v (.int .i64 c1.Kind), .v (.int .i64 c1.A), .v (.int .i64 c1.B), .v (.int .i64 c1.C), .v (.string ⟨⟨c1.S⟩⟩), .v (.string ⟨⟨c1.T⟩⟩), .v (.bool c1.Must)])]) ?_ ⟨rfl, trivial⟩ ⟨rfl, trivial⟩ rfl
  refine pw_drawV [0, 1, 3, 0, 8, 24, 0, 64, 192, 511, 1023] mixed (by kernel_rfl) (by kernel_rfl) rfl rfl ?_
  refine pdv_step0 [0] [6] [] [900000] [] [(3, .loc 900000 0)] [] rfl rfl rfl rfl (by kernel_rfl) (by kernel_rfl) (by kernel_rfl) trivial (fun w0 X X0 σ0 _ => by refine po_evs (T := tab) 1 rfl rfl ?_; refine po_nil ?_; exact pn_end0 ⟨rfl, trivial⟩ trivial rfl) ?_
  refine pdv_step0 [6] [8] [] [900000] [] [(4, .loc 900000 0)] [] rfl rfl rfl rfl (by kernel_rfl) (by kernel_rfl) (by kernel_rfl) trivial (fun w0 X X0 σ0 _ => by refine po_evs (T := tab) 1 rfl rfl ?_; refine po_nil ?_; exact pn_end0 ⟨rfl, trivial⟩ trivial rfl) ?_
  refine pdv_step0 [8] [10] [] [900000] [] [(5, .loc 900000 1)] [] rfl rfl rfl rfl (by kernel_rfl) (by kernel_rfl) (by kernel_rfl) trivial (fun w0 X X0 σ0 _ => by refine po_evs (T := tab) 1 rfl rfl ?_; refine po_nil ?_; exact pn_end0 ⟨rfl, trivial⟩ trivial rfl) ?_
  refine pdv_step0 [0] [12] [] [900000] [] [(6, .loc 900000 0)] [] rfl rfl rfl rfl (by kernel_rfl) (by kernel_rfl) (by kernel_rfl) trivial (fun w0 X X0 σ0 _ => by refine po_evs (T := tab) 1 rfl rfl ?_; refine po_nil ?_; exact pn_end0 ⟨rfl, trivial⟩ trivial rfl) ?_
  refine pdv_step0 [12] [14] [] [900000] [] [(7, .loc 900000 0)] [] rfl rfl rfl rfl (by kernel_rfl) (by kernel_rfl) (by kernel_rfl) trivial (fun w0 X X0 σ0 _ => by refine po_evs (T := tab) 1 rfl rfl ?_; refine po_nil ?_; exact pn_end0 ⟨rfl, trivial⟩ trivial rfl) ?_
  refine pdv_step0 [14] [16] [] [900000] [] [(8, .loc 900000 2)] [] rfl rfl rfl rfl (by kernel_rfl) (by kernel_rfl) (by kernel_rfl) trivial (fun w0 X X0 σ0 _ => by refine po_evs (T := tab) 1 rfl rfl ?_; refine po_nil ?_; exact pn_end0 ⟨rfl, trivial⟩ trivial rfl) ?_
  refine pdv_step0 [0] [18] [] [900000] [] [(9, .loc 900000 0)] [] rfl rfl rfl rfl (by kernel_rfl) (by kernel_rfl) (by kernel_rfl) trivial (fun w0 X X0 σ0 _ => by refine po_evs (T := tab) 1 rfl rfl ?_; refine po_nil ?_; exact pn_end0 ⟨rfl, trivial⟩ trivial rfl) ?_
  refine pdv_step0 [18] [20] [] [900000] [] [(10, .loc 900000 0)] [] rfl rfl rfl rfl (by kernel_rfl) (by kernel_rfl) (by kernel_rfl) trivial (fun w0 X X0 σ0 _ => by refine po_evs (T := tab) 1 rfl rfl ?_; refine po_nil ?_; exact pn_end0 ⟨rfl, trivial⟩ trivial rfl) ?_
  refine pdv_step0 [20] [22] [] [900000] [] [(11, .loc 900000 3)] [] rfl rfl rfl rfl (by kernel_rfl) (by kernel_rfl) (by kernel_rfl) trivial (fun w0 X X0 σ0 _ => by refine po_evs (T := tab) 1 rfl rfl ?_; refine po_nil ?_; exact pn_end0 ⟨rfl, trivial⟩ trivial rfl) ?_
  refine pdv_step0 [10, 16, 22, 1800001] [24, 25] [12] [900000] [900000] [(12, .bsl 12 3)] [(12, .box 63 [.loc 900000 1, .loc 900000 2, .loc 900000 3]), (900000, .box 23 [.v (.int .i64 c1.Kind), .v (.int .i64 c1.A), .v (.int .i64 c1.B), .v (.int .i64 c1.C), .v (.string ⟨⟨c1.S⟩⟩), .v (.string ⟨⟨c1.T⟩⟩), .v (.bool c1.Must)])] rfl rfl rfl rfl (by kernel_rfl) (by kernel_rfl) (by kernel_rfl) ⟨rfl, trivial⟩ (fun w0 X X0 σ0 _ => by refine po_litP (T := tab) 12 rfl rfl rfl rfl rfl rfl rfl rfl rfl rfl rfl rfl rfl rfl ?_; refine po_nil ?_; exact pn_end0 ⟨rfl, trivial⟩ ⟨rfl, rfl, trivial⟩ rfl) ?_
  refine pdv_step0 [24] [4] [] [12] [] [(2, .bsl 12 3)] [] rfl rfl rfl rfl (by kernel_rfl) (by kernel_rfl) (by kernel_rfl) trivial (fun w0 X X0 σ0 _ => by refine po_evs (T := tab) 1 rfl rfl ?_; refine po_nil ?_; exact pn_end0 ⟨rfl, trivial⟩ trivial rfl) ?_
  refine pdv_nil rfl rfl ?_
  refine pn_seq ?_
  exact pw_retN (T := tab) rfl rfl rfl ⟨rfl, rfl⟩ ⟨rfl, rfl, trivial⟩ rfl

def Op_readNumber_j1 (fu : Nat) (field1 : Int) (w2 : Bs) (x_ : Unit) : Option (Int × Bool) := bnd (atoi_m fu w2) fun r3 => cnd (!r3.2) (bnd (itoa_m fu r3.1) fun r4 => cnd (r4 == w2) (cnd (field1 == 105) (some (r3.1, true)) (some (r3.1, (decide (r3.1 ≥ 0))))) (some (r3.1, false))) (some (r3.1, false))

def Op_readNumber_m (fu : Nat) (field1 : Int) (w2 : Bs) : Option (Int × Bool) := cnd (field1 != 105) (cnd (w2 == ([45] : Bs)) (some ((-1), (field1 == 111))) (cnd (w2 == ([115, 101, 108, 102] : Bs)) (some ((-2), true)) (cnd (w2 == ([108, 97, 115, 116] : Bs)) (some ((-3), true)) ((Op_readNumber_j1 fu field1 w2) ())))) ((Op_readNumber_j1 fu field1 w2) ())

set_option maxHeartbeats 10000000 in
set_option maxRecDepth 100000 in
theorem Op_readNumber_ok (fu : Nat) (field1 : Int) (w2 : Bs) : ∀ r, Op_readNumber_m fu field1 w2 = some r → DC laidL Tryz.prog 42 [.v (.int .u8 field1), .v (.string ⟨⟨w2⟩⟩)] (.tup [.v (.int .i64 r.1), .v (.bool r.2)]) := by
  intro r hr
  refine fc_intro (args := [.v (.int .u8 field1), .v (.string ⟨⟨w2⟩⟩)]) (S := []) (N0 := []) (post := fun r p S => p = .tup [.v (.int .i64 r.1), .v (.bool r.2)] ∧ S = []) Tryz.func42 rfl rfl hr fun w0 X X0 σ0 _ => ?_
  refine pw_seq ?_
  refine pw_region ?_
  refine po_evs (T := tab) 2 rfl rfl ?_
  refine po_nil ?_
  refine pn_seq ?_
  refine pw_seq ?_
  refine pw_seq ?_
  refine pw_region ?_
  refine po_evs (T := tab) 2 rfl rfl ?_
  refine po_nil ?_
  refine pn_seq ?_
  refine pw_joinK (Op_readNumber_j1 fu field1 w2) (fun (_ : Unit) => [(0, .v (.int .u8 field1)), (1, .v (.string ⟨⟨w2⟩⟩))]) (fun (_ : Unit) => []) ?_ fun hj1 => ?_
  · rintro _
    refine pn_seq ?_
    refine pw_seq ?_
    refine pw_region ?_
    refine po_evs (T := tab) 1 rfl rfl ?_
    refine po_call (enc := fun (r3 : (Int × Bool)) => .tup [.v (.int .i64 r3.1), .err r3.2]) (qs := [.v (.string ⟨⟨w2⟩⟩)]) (atoi_ok fu w2) rfl rfl ⟨⟨_, rfl, .rfl⟩, trivial⟩ (fun _ => rfl) call58 rfl rfl fun r3 hr3 => ?_
    refine po_evs (T := tab) 5 rfl rfl ?_
    refine po_nil ?_
    refine pn_seq ?_
    refine pw_seq ?_
    refine pw_region ?_
    refine po_evs (T := tab) 2 rfl rfl ?_
    refine po_err Tryz.underlying57 rfl rfl rfl rfl rfl rfl ?_
    refine po_evs (T := tab) 1 rfl rfl ?_
    refine po_split (j := 27) rfl ?_ ?_
    · refine po_evs (T := tab) 1 rfl rfl ?_
      refine po_call (enc := fun (r4 : Bs) => .v (.string ⟨⟨r4⟩⟩)) (qs := [.v (.int .i64 r3.1)]) (itoa_ok fu r3.1) rfl rfl ⟨⟨_, rfl, .rfl⟩, trivial⟩ (fun _ => rfl) call50 rfl rfl fun r4 hr4 => ?_
      refine po_evs (T := tab) 4 rfl rfl ?_
      refine po_split (j := 33) rfl ?_ ?_
      · refine po_evs (T := tab) 3 rfl rfl ?_
        refine po_split (j := 36) rfl ?_ ?_
        · refine po_evs (T := tab) 6 rfl rfl ?_
          refine po_nil ?_
          refine pn_seq ?_
          exact pw_retN (T := tab) rfl rfl rfl ⟨rfl, rfl⟩ trivial rfl
        · refine po_evs (T := tab) 6 rfl rfl ?_
          refine po_nil ?_
          refine pn_seq ?_
          exact pw_retN (T := tab) rfl rfl rfl ⟨rfl, rfl⟩ trivial rfl
      · refine po_evs (T := tab) 9 rfl rfl ?_
        refine po_nil ?_
        refine pn_seq ?_
        exact pw_retN (T := tab) rfl rfl rfl ⟨rfl, rfl⟩ trivial rfl
    · refine po_evs (T := tab) 15 rfl rfl ?_
      refine po_nil ?_
      refine pn_seq ?_
      exact pw_retN (T := tab) rfl rfl rfl ⟨rfl, rfl⟩ trivial rfl
  · refine pw_cnd rfl ?_ ?_
    · refine pw_seq ?_
      refine pw_region ?_
      refine po_evs (T := tab) 1 rfl rfl ?_
      refine po_nil ?_
      refine pn_seq ?_
      refine pw_block ?_
      refine pw_seq ?_
      refine pw_region ?_
      refine po_evs (T := tab) 2 rfl rfl ?_
      refine po_nil ?_
      refine pn_seq ?_
      refine pw_cnd rfl ?_ ?_
      · refine pw_seq ?_
        refine pw_region ?_
        refine po_evs (T := tab) 4 rfl rfl ?_
        refine po_nil ?_
        refine pn_seq ?_
        exact pw_retN (T := tab) rfl rfl rfl ⟨rfl, rfl⟩ trivial rfl
      · refine pw_seq ?_
        refine pw_region ?_
        refine po_evs (T := tab) 2 rfl rfl ?_
        refine po_nil ?_
        refine pn_seq ?_
        refine pw_cnd rfl ?_ ?_
        · refine pw_seq ?_
          refine pw_region ?_
          refine po_evs (T := tab) 2 rfl rfl ?_
          refine po_nil ?_
          refine pn_seq ?_
          exact pw_retN (T := tab) rfl rfl rfl ⟨rfl, rfl⟩ trivial rfl
        · refine pw_seq ?_
          refine pw_region ?_
          refine po_evs (T := tab) 2 rfl rfl ?_
          refine po_nil ?_
          refine pn_seq ?_
          refine pw_cnd rfl ?_ ?_
          · refine pw_seq ?_
            refine pw_region ?_
            refine po_evs (T := tab) 2 rfl rfl ?_
            refine po_nil ?_
            refine pn_seq ?_
            exact pw_retN (T := tab) rfl rfl rfl ⟨rfl, rfl⟩ trivial rfl
          · refine pw_skip ?_
            refine pn_block ?_
            exact pn_sub' (hj1 ()) ⟨rfl, rfl, trivial⟩ trivial rfl
    · refine pw_skip ?_
      exact pn_sub' (hj1 ()) ⟨rfl, rfl, trivial⟩ trivial rfl

def Op_texts_m (_fu : Nat) : Option Unit := some ()

set_option maxRecDepth 100000 in
theorem Op_texts_ok (fu : Nat) (c1 : Op) : ∀ r, Op_texts_m fu = some r → FC laidL Tryz.prog 30 [.loc 900000 0] [(900000, .box 23 [.v (.int .i64 c1.Kind), .v (.int .i64 c1.A), .v (.int .i64 c1.B), .v (.int .i64 c1.C), .v (.string ⟨⟨c1.S⟩⟩), .v (.string ⟨⟨c1.T⟩⟩), .v (.bool c1.Must)])] [900000] fun p S' => p = .bsl 9 2 ∧ S' = [(900000, .box 23 [.v (.int .i64 c1.Kind), .v (.int .i64 c1.A), .v (.int .i64 c1.B), .v (.int .i64 c1.C), .v (.string ⟨⟨c1.S⟩⟩), .v (.string ⟨⟨c1.T⟩⟩), .v (.bool c1.Must)]), (9, .box 67 [.loc 900000 4, .loc 900000 5])] := by
  intro r hr
  refine fc_intro (args := [.loc 900000 0]) (S := [(900000, .box 23 [.v (.int .i64 c1.Kind), .v (.int .i64 c1.A), .v (.int .i64 c1.B), .v (.int .i64 c1.C), .v (.string ⟨⟨c1.S⟩⟩), .v (.string ⟨⟨c1.T⟩⟩), .v (.bool c1.Must)])]) (N0 := [900000]) (post := fun r p S => p = .bsl 9 2 ∧ S = [(900000, .box 23 [.v (.int .i64 c1.Kind), .v (.int .i64 c1.A), .v (.int .i64 c1.B), .v (.int .i64 c1.C), .v (.string ⟨⟨c1.S⟩⟩), .v (.string ⟨⟨c1.T⟩⟩), .v (.bool c1.Must)]), (9, .box 67 [.loc 900000 4, .loc 900000 5])]) Tryz.func30 rfl rfl hr fun w0 X X0 σ0 _ => ?_
  refine pw_seq ?_
  refine pw_region ?_
  refine po_evs (T := tab) 1 rfl rfl ?_
  refine po_nil ?_
  refine pn_seq ?_
  refine pw_seq ?_
  refine pw_sub' (E' := [(0, .loc 900000 0)]) (S' := [(900000, .box 23 [.v (.int .i64 c1.Kind), .v (.int .i64 c1.A), .v (.int .i64 c1.B), .v (.int .i64 c1.C), .v (.string ⟨⟨c1.S⟩⟩), .v (.string ⟨⟨c1.T⟩⟩), .v (.bool c1.Must)])]) ?_ ⟨rfl, trivial⟩ ⟨rfl, trivial⟩ rfl
  refine pw_drawV [0, 1, 3, 0, 8, 24, 63, 127] mixed (by kernel_rfl) (by kernel_rfl) rfl rfl ?_
  refine pdv_step0 [0] [6] [] [900000] [] [(3, .loc 900000 0)] [] rfl rfl rfl rfl (by kernel_rfl) (by kernel_rfl) (by kernel_rfl) trivial (fun w0 X X0 σ0 _ => by refine po_evs (T := tab) 1 rfl rfl ?_; refine po_nil ?_; exact pn_end0 ⟨rfl, trivial⟩ trivial rfl) ?_
  refine pdv_step0 [6] [8] [] [900000] [] [(4, .loc 900000 0)] [] rfl rfl rfl rfl (by kernel_rfl) (by kernel_rfl) (by kernel_rfl) trivial (fun w0 X X0 σ0 _ => by refine po_evs (T := tab) 1 rfl rfl ?_; refine po_nil ?_; exact pn_end0 ⟨rfl, trivial⟩ trivial rfl) ?_
  refine pdv_step0 [8] [10] [] [900000] [] [(5, .loc 900000 4)] [] rfl rfl rfl rfl (by kernel_rfl) (by kernel_rfl) (by kernel_rfl) trivial (fun w0 X X0 σ0 _ => by refine po_evs (T := tab) 1 rfl rfl ?_; refine po_nil ?_; exact pn_end0 ⟨rfl, trivial⟩ trivial rfl) ?_
  refine pdv_step0 [0] [12] [] [900000] [] [(6, .loc 900000 0)] [] rfl rfl rfl rfl (by kernel_rfl) (by kernel_rfl) (by kernel_rfl) trivial (fun w0 X X0 σ0 _ => by refine po_evs (T := tab) 1 rfl rfl ?_; refine po_nil ?_; exact pn_end0 ⟨rfl, trivial⟩ trivial rfl) ?_
  refine pdv_step0 [12] [14] [] [900000] [] [(7, .loc 900000 0)] [] rfl rfl rfl rfl (by kernel_rfl) (by kernel_rfl) (by kernel_rfl) trivial (fun w0 X X0 σ0 _ => by refine po_evs (T := tab) 1 rfl rfl ?_; refine po_nil ?_; exact pn_end0 ⟨rfl, trivial⟩ trivial rfl) ?_
  refine pdv_step0 [14] [16] [] [900000] [] [(8, .loc 900000 5)] [] rfl rfl rfl rfl (by kernel_rfl) (by kernel_rfl) (by kernel_rfl) trivial (fun w0 X X0 σ0 _ => by refine po_evs (T := tab) 1 rfl rfl ?_; refine po_nil ?_; exact pn_end0 ⟨rfl, trivial⟩ trivial rfl) ?_
  refine pdv_step0 [10, 16, 1800001] [18, 19] [9] [900000] [900000] [(9, .bsl 9 2)] [(9, .box 67 [.loc 900000 4, .loc 900000 5]), (900000, .box 23 [.v (.int .i64 c1.Kind), .v (.int .i64 c1.A), .v (.int .i64 c1.B), .v (.int .i64 c1.C), .v (.string ⟨⟨c1.S⟩⟩), .v (.string ⟨⟨c1.T⟩⟩), .v (.bool c1.Must)])] rfl rfl rfl rfl (by kernel_rfl) (by kernel_rfl) (by kernel_rfl) ⟨rfl, trivial⟩ (fun w0 X X0 σ0 _ => by refine po_litP (T := tab) 9 rfl rfl rfl rfl rfl rfl rfl rfl rfl rfl rfl rfl rfl rfl ?_; refine po_nil ?_; exact pn_end0 ⟨rfl, trivial⟩ ⟨rfl, rfl, trivial⟩ rfl) ?_
  refine pdv_step0 [18] [4] [] [9] [] [(2, .bsl 9 2)] [] rfl rfl rfl rfl (by kernel_rfl) (by kernel_rfl) (by kernel_rfl) trivial (fun w0 X X0 σ0 _ => by refine po_evs (T := tab) 1 rfl rfl ?_; refine po_nil ?_; exact pn_end0 ⟨rfl, trivial⟩ trivial rfl) ?_
  refine pdv_nil rfl rfl ?_
  refine pn_seq ?_
  exact pw_retN (T := tab) rfl rfl rfl ⟨rfl, rfl⟩ ⟨rfl, rfl, trivial⟩ rfl

def Strings_HasPrefix_m (fu : Nat) (s1 : Bs) (prefix2 : Bs) : Option Bool := bnd (Internal_stringslite_HasPrefix_m fu s1 prefix2) fun r3 => some r3

set_option maxRecDepth 100000 in
theorem Strings_HasPrefix_ok (fu : Nat) (s1 : Bs) (prefix2 : Bs) : ∀ r, Strings_HasPrefix_m fu s1 prefix2 = some r → DC laidL Tryz.prog 59 [.v (.string ⟨⟨s1⟩⟩), .v (.string ⟨⟨prefix2⟩⟩)] (.v (.bool r)) := by
  intro r hr
  refine fc_intro (args := [.v (.string ⟨⟨s1⟩⟩), .v (.string ⟨⟨prefix2⟩⟩)]) (S := []) (N0 := []) (post := fun r p S => p = .v (.bool r) ∧ S = []) Tryz.func59 rfl rfl hr fun w0 X X0 σ0 _ => ?_
  refine pw_seq ?_
  refine pw_region ?_
  refine po_evs (T := tab) 1 rfl rfl ?_
  refine po_nil ?_
  refine pn_seq ?_
  refine pw_seq ?_
  refine pw_region ?_
  refine po_evs (T := tab) 2 rfl rfl ?_
  refine po_call (enc := fun (r3 : Bool) => .v (.bool r3)) (qs := [.v (.string ⟨⟨s1⟩⟩), .v (.string ⟨⟨prefix2⟩⟩)]) (Internal_stringslite_HasPrefix_ok fu s1 prefix2) rfl rfl ⟨⟨_, rfl, .rfl⟩, ⟨_, rfl, .rfl⟩, trivial⟩ (fun _ => rfl) call66 rfl rfl fun r3 hr3 => ?_
  refine po_evs (T := tab) 1 rfl rfl ?_
  refine po_nil ?_
  refine pn_seq ?_
  exact pw_retN (T := tab) rfl rfl rfl ⟨rfl, rfl⟩ trivial rfl

def Strings_Builder_String_m (_fu : Nat) (l1 : (List Int)) : Option Bs := some (strOf l1)

set_option maxRecDepth 100000 in
theorem Strings_Builder_String_ok (fu : Nat) (l1 : (List Int)) : ∀ r, Strings_Builder_String_m fu l1 = some r → FC laidL Tryz.prog 32 [.loc 900000 0] [(900000, .box 53 [.nloc 900000 0, .ownb 900001]), (900001, .arr 5 1 (l1.map cInt_u8))] [900000, 900001] fun p S' => p = .v (.string ⟨⟨r⟩⟩) ∧ S' = [(900000, .box 53 [.nloc 900000 0, .junk])] := by
  intro r hr
  refine fc_intro (args := [.loc 900000 0]) (S := [(900000, .box 53 [.nloc 900000 0, .ownb 900001]), (900001, .arr 5 1 (l1.map cInt_u8))]) (N0 := [900000, 900001]) (post := fun r p S => p = .v (.string ⟨⟨r⟩⟩) ∧ S = [(900000, .box 53 [.nloc 900000 0, .junk])]) Tryz.func32 rfl rfl hr fun w0 X X0 σ0 _ => ?_
  refine pw_seq ?_
  refine pw_region ?_
  refine po_evs (T := tab) 1 rfl rfl ?_
  refine po_nil ?_
  refine pn_seq ?_
  refine pw_seq ?_
  refine pw_sub' (E' := [(0, .loc 900000 0)]) (S' := [(900000, .box 53 [.nloc 900000 0, .ownb 900001]), (900001, .arr 5 1 (l1.map cInt_u8))]) ?_ ⟨rfl, trivial⟩ ⟨rfl, rfl, trivial⟩ rfl
  refine pw_drawV [0, 1, 3, 7, 15, 0, 32, 96, 224, 480, 1023, 2047] mixed (by kernel_rfl) (by kernel_rfl) rfl rfl ?_
  refine pdv_step0 [0] [6] [] [900000] [] [(3, .loc 900000 0)] [] rfl rfl rfl rfl (by kernel_rfl) (by kernel_rfl) (by kernel_rfl) trivial (fun w0 X X0 σ0 _ => by refine po_evs (T := tab) 1 rfl rfl ?_; refine po_nil ?_; exact pn_end0 ⟨rfl, trivial⟩ trivial rfl) ?_
  refine pdv_step0 [6] [8] [] [900000] [] [(4, .loc 900000 0)] [] rfl rfl rfl rfl (by kernel_rfl) (by kernel_rfl) (by kernel_rfl) trivial (fun w0 X X0 σ0 _ => by refine po_evs (T := tab) 1 rfl rfl ?_; refine po_nil ?_; exact pn_end0 ⟨rfl, trivial⟩ trivial rfl) ?_
  refine pdv_step0 [8] [10] [] [900000] [] [(5, .loc 900000 1)] [] rfl rfl rfl rfl (by kernel_rfl) (by kernel_rfl) (by kernel_rfl) trivial (fun w0 X X0 σ0 _ => by refine po_evs (T := tab) 1 rfl rfl ?_; refine po_nil ?_; exact pn_end0 ⟨rfl, trivial⟩ trivial rfl) ?_
  refine pdv_step0 [10, 1800001] [12] [] [900000, 900001] [900000] [(6, .ownb 900001)] [(900000, .box 53 [.nloc 900000 0, .ownb 900001])] rfl rfl rfl rfl (by kernel_rfl) (by kernel_rfl) (by kernel_rfl) ⟨rfl, trivial⟩ (fun w0 X X0 σ0 _ => by refine po_evs (T := tab) 1 rfl rfl ?_; refine po_nil ?_; exact pn_end0 ⟨rfl, trivial⟩ ⟨rfl, trivial⟩ rfl) ?_
  refine pdv_step0 [12, 1800003] [14] [] [900001] [900001] [(7, .dat 900001)] [(900001, .arr 5 1 (l1.map cInt_u8))] rfl rfl rfl rfl (by kernel_rfl) (by kernel_rfl) (by kernel_rfl) ⟨rfl, trivial⟩ (fun w0 X X0 σ0 _ => by refine po_sliceData rfl rfl rfl rfl rfl rfl ?_; refine po_nil ?_; exact pn_end0 ⟨rfl, trivial⟩ ⟨rfl, trivial⟩ rfl) ?_
  refine pdv_step0 [0] [16] [] [900000] [] [(8, .loc 900000 0)] [] rfl rfl rfl rfl (by kernel_rfl) (by kernel_rfl) (by kernel_rfl) trivial (fun w0 X X0 σ0 _ => by refine po_evs (T := tab) 1 rfl rfl ?_; refine po_nil ?_; exact pn_end0 ⟨rfl, trivial⟩ trivial rfl) ?_
  refine pdv_step0 [16] [18] [] [900000] [] [(9, .loc 900000 0)] [] rfl rfl rfl rfl (by kernel_rfl) (by kernel_rfl) (by kernel_rfl) trivial (fun w0 X X0 σ0 _ => by refine po_evs (T := tab) 1 rfl rfl ?_; refine po_nil ?_; exact pn_end0 ⟨rfl, trivial⟩ trivial rfl) ?_
  refine pdv_step0 [18] [20] [] [900000] [] [(10, .loc 900000 1)] [] rfl rfl rfl rfl (by kernel_rfl) (by kernel_rfl) (by kernel_rfl) trivial (fun w0 X X0 σ0 _ => by refine po_evs (T := tab) 1 rfl rfl ?_; refine po_nil ?_; exact pn_end0 ⟨rfl, trivial⟩ trivial rfl) ?_
  refine pdv_step0 [20, 1800001] [22] [] [900000, 900001] [900000] [(11, .ownb 900001)] [(900000, .box 53 [.nloc 900000 0, .ownb 900001])] rfl rfl rfl rfl (by kernel_rfl) (by kernel_rfl) (by kernel_rfl) ⟨rfl, trivial⟩ (fun w0 X X0 σ0 _ => by refine po_evs (T := tab) 1 rfl rfl ?_; refine po_nil ?_; exact pn_end0 ⟨rfl, trivial⟩ ⟨rfl, trivial⟩ rfl) ?_
  refine pdv_step0 [22, 1800003] [24, 22] [] [900001] [900001] [(12, .v (.int .i64 ((l1.length : Nat) : Int))), (11, .own 900001)] [(900001, .arr 5 1 (l1.map cInt_u8))] rfl rfl rfl rfl (by kernel_rfl) (by kernel_rfl) (by kernel_rfl) ⟨rfl, trivial⟩ (fun w0 X X0 σ0 _ => by refine po_coe 11 (q := .own 900001) rfl .ownb ?_; refine po_len_own (T := tab) cInt_u8 l1 rfl rfl rfl rfl rfl rfl rfl rfl rfl ?_; refine po_nil ?_; exact pn_end0 ⟨rfl, rfl, trivial⟩ ⟨rfl, trivial⟩ rfl) ?_
  refine pdv_step0 [12, 14, 22, 24, 1800001, 1800003] [26, 12, 14, 22, 1800001, 1800003] [] [900000, 900001] [] [(13, .v (.string ⟨⟨(strOf l1)⟩⟩)), (11, .sl 1 false (l1.map cInt_u8))] [(900000, .box 53 [.nloc 900000 0, .junk])] rfl rfl rfl rfl (by kernel_rfl) (by kernel_rfl) (by kernel_rfl) trivial (fun w0 X X0 σ0 _ => by refine po_usString cInt_u8 l1 (fun _ => rfl) rfl rfl rfl rfl rfl rfl rfl Tryz.underlying90 (by kernel_rfl) rfl rfl rfl rfl ?_; refine po_nil ?_; exact pn_end0 ⟨rfl, rfl, trivial⟩ ⟨rfl, trivial⟩ rfl) ?_
  refine pdv_step0 [26] [4] [] [] [] [(2, .v (.string ⟨⟨(strOf l1)⟩⟩))] [] rfl rfl rfl rfl (by kernel_rfl) (by kernel_rfl) (by kernel_rfl) trivial (fun w0 X X0 σ0 _ => by refine po_evs (T := tab) 1 rfl rfl ?_; refine po_nil ?_; exact pn_end0 ⟨rfl, trivial⟩ trivial rfl) ?_
  refine pdv_nil rfl rfl ?_
  refine pn_seq ?_
  exact pw_retN (T := tab) rfl rfl rfl ⟨rfl, rfl⟩ ⟨rfl, trivial⟩ rfl

def Strings_Builder_copyCheck_m (_fu : Nat) : Option Unit := some ()

set_option maxRecDepth 100000 in
theorem Strings_Builder_copyCheck_ok (fu : Nat) (l1 : (List Int)) : ∀ r, Strings_Builder_copyCheck_m fu = some r → FC laidL Tryz.prog 49 [.loc 900000 0] [(900000, .box 53 [.nloc 900000 0, .ownb 900001]), (900001, .arr 5 1 (l1.map cInt_u8))] [900000, 900001] fun p S' => p = .tup [] ∧ S' = [(900000, .box 53 [.nloc 900000 0, .ownb 900001]), (900001, .arr 5 1 (l1.map cInt_u8))] := by
  intro r hr
  refine fc_intro (args := [.loc 900000 0]) (S := [(900000, .box 53 [.nloc 900000 0, .ownb 900001]), (900001, .arr 5 1 (l1.map cInt_u8))]) (N0 := [900000, 900001]) (post := fun r p S => p = .tup [] ∧ S = [(900000, .box 53 [.nloc 900000 0, .ownb 900001]), (900001, .arr 5 1 (l1.map cInt_u8))]) Tryz.func49 rfl rfl hr fun w0 X X0 σ0 _ => ?_
  refine pw_seq ?_
  refine pw_region ?_
  refine po_evs (T := tab) 3 rfl rfl ?_
  refine po_nsplit 900000 0 rfl rfl rfl rfl rfl rfl ?_ ?_
  · refine po_evs (T := tab) 1 rfl rfl ?_
    refine po_ptr (T := tab) Tryz.underlying50 rfl rfl rfl rfl rfl rfl rfl rfl ?_
    refine po_nil ?_
    refine pn_seq ?_
    refine pw_then rfl ?_
    refine pw_region ?_
    refine po_evs (T := tab) 2 rfl rfl ?_
    refine po_noescape (T := tab) Tryz.underlying50 Tryz.underlying93 rfl rfl Tryz.func61 rfl rfl rfl rfl rfl rfl rfl rfl rfl (by kernel_rfl) rfl rfl rfl rfl rfl rfl rfl rfl rfl rfl rfl ?_
    refine po_evs (T := tab) 2 rfl rfl ?_
    refine po_store (T := tab) rfl rfl rfl rfl rfl rfl rfl rfl rfl rfl rfl rfl ?_
    refine po_nil ?_
    refine pn_coeS 900000 [.nloc 900000 0, .ownb 900001] rfl ⟨.nloc1, .rfl, trivial⟩ rfl ?_
    exact pn_retN (T := tab) rfl rfl rfl ⟨rfl, rfl⟩ ⟨rfl, rfl, trivial⟩ rfl
  · refine po_evs (T := tab) 1 rfl rfl ?_
    refine po_ptr (T := tab) Tryz.underlying50 rfl rfl rfl rfl rfl rfl rfl rfl ?_
    refine po_nil ?_
    refine pn_seq ?_
    refine pw_else rfl ?_
    refine pw_seq ?_
    refine pw_region ?_
    refine po_evs (T := tab) 5 rfl rfl ?_
    refine po_ptr (T := tab) Tryz.underlying50 rfl rfl rfl rfl rfl rfl rfl rfl ?_
    refine po_nil ?_
    refine pn_seq ?_
    refine pw_else rfl ?_
    refine pw_skip ?_
    refine pn_coeS 900000 [.nloc 900000 0, .ownb 900001] rfl ⟨.nloc1, .rfl, trivial⟩ rfl ?_
    exact pn_retN (T := tab) rfl rfl rfl ⟨rfl, rfl⟩ ⟨rfl, rfl, trivial⟩ rfl

def Strings_Builder_WriteByte_m (fu : Nat) (c1 : Int) (l2 : (List Int)) : Option (Bool × (List Int)) := bnd (Strings_Builder_copyCheck_m fu) fun r3 => bnd (roomy 1 (l2.length + ([c1] : List Int).length)) fun _ => some (false, (l2 ++ [c1]))

set_option maxRecDepth 100000 in
theorem Strings_Builder_WriteByte_ok (fu : Nat) (c1 : Int) (l2 : (List Int)) : ∀ r, Strings_Builder_WriteByte_m fu c1 l2 = some r → FC laidL Tryz.prog 60 [.loc 900000 0, .v (.int .u8 c1)] [(900000, .box 53 [.nloc 900000 0, .ownb 900001]), (900001, .arr 5 1 (l2.map cInt_u8))] [900000] fun p S' => p = .err r.1 ∧ S' = [(900000, .box 53 [.nloc 900000 0, .ownb 900001]), (900001, .arr 5 1 (r.2.map cInt_u8))] := by
  intro r hr
  refine fc_intro (args := [.loc 900000 0, .v (.int .u8 c1)]) (S := [(900000, .box 53 [.nloc 900000 0, .ownb 900001]), (900001, .arr 5 1 (l2.map cInt_u8))]) (N0 := [900000]) (post := fun r p S => p = .err r.1 ∧ S = [(900000, .box 53 [.nloc 900000 0, .ownb 900001]), (900001, .arr 5 1 (r.2.map cInt_u8))]) Tryz.func60 rfl rfl hr fun w0 X X0 σ0 _ => ?_
  refine pw_seq ?_
  refine pw_region ?_
  refine po_evs (T := tab) 1 rfl rfl ?_
  refine po_nil ?_
  refine pn_seq ?_
  refine pw_seq ?_
  refine pw_region ?_
  refine po_evs (T := tab) 1 rfl rfl ?_
  refine po_callv (enc := fun (r3 : Unit) => .tup []) (first := []) (cap := []) (qs := [.loc 900000 0]) (Sc := [(900000, .box 53 [.nloc 900000 0, .ownb 900001]), (900001, .arr 5 1 (l2.map cInt_u8))]) (fun r3 hr3 => fc_ren [(900000, 900000), (900001, 900001)] [900000, 900001] (Strings_Builder_copyCheck_ok fu l2 _ hr3) rfl rfl rfl rfl rfl rfl) (subS_of ⟨rfl, rfl, trivial⟩ rfl) rfl rfl rfl rfl ⟨⟨_, rfl, .rfl⟩, trivial⟩ (fun _ => rfl) call49 rfl rfl fun r3 hr3 => ?_
  refine po_nil ?_
  refine pn_seq ?_
  refine pw_seq ?_
  refine pw_region ?_
  refine po_evs (T := tab) 6 rfl rfl ?_
  refine po_lit (T := tab) (rows := [c1].map cInt_u8) 13 rfl rfl rfl rfl rfl rfl rfl rfl rfl rfl rfl rfl rfl rfl ?_
  refine po_coe 11 (q := .own 900001) rfl .ownb ?_
  refine po_append (T := tab) cInt_u8 l2 ([c1] : List Int) rfl rfl rfl rfl rfl rfl rfl rfl rfl rfl rfl rfl rfl rfl (cInt_u8_one _) rfl rfl rfl rfl rfl ?_
  refine po_toB 900001 14 rfl rfl (by simp) ?_
  refine po_evs (T := tab) 2 rfl rfl ?_
  refine po_store (T := tab) rfl rfl rfl rfl rfl rfl rfl rfl rfl rfl rfl rfl ?_
  refine po_nil ?_
  refine pn_seq ?_
  refine pw_seq ?_
  refine pw_region ?_
  refine po_evs (T := tab) 1 rfl rfl ?_
  refine po_nil ?_
  refine pn_seq ?_
  refine pw_coe 4 (q := .err false) rfl .err0 ?_
  exact pw_retN (T := tab) rfl rfl rfl ⟨rfl, rfl⟩ ⟨rfl, rfl, trivial⟩ rfl

def Op_readText_l1 (fu : Nat) (s1 : Bs) : Nat → Int × (List Int) → Option (Bs × Bs × Bool)
  | 0, _ => none
  | k1 + 1, (i3, l4) => cnd (decide (i3 < ((s1.length : Nat) : Int))) (bnd (chr s1 i3) fun b5 => cnd (b5 == 34) (bnd (Strings_Builder_String_m fu l4) fun r6 => bnd (rng .i64 (i3 + 1)) fun i7 => bnd (piece s1 i7 ((s1.length : Nat) : Int)) fun s8 => some (r6, s8, true)) (bnd (chr s1 i3) fun b9 => cnd (b9 != 92) (bnd (chr s1 i3) fun b17 => bnd (Strings_Builder_WriteByte_m fu b17 l4) fun r18 => bnd (rng .i64 (i3 + 1)) fun i23 => (Op_readText_l1 fu s1 k1) (i23, r18.2)) (bnd (rng .i64 (i3 + 1)) fun i10 => cnd (decide (i10 < ((s1.length : Nat) : Int))) (bnd (rng .i64 (i3 + 1)) fun i11 => bnd (chr s1 i11) fun b12 => cnd (b12 == 34) (bnd (rng .i64 (i3 + 1)) fun i15 => bnd (chr s1 i15) fun b19 => bnd (Strings_Builder_WriteByte_m fu b19 l4) fun r20 => bnd (rng .i64 (i15 + 1)) fun i24 => (Op_readText_l1 fu s1 k1) (i24, r20.2)) (bnd (rng .i64 (i3 + 1)) fun i13 => bnd (chr s1 i13) fun b14 => cnd (b14 == 92) (bnd (rng .i64 (i3 + 1)) fun i16 => bnd (chr s1 i16) fun b21 => bnd (Strings_Builder_WriteByte_m fu b21 l4) fun r22 => bnd (rng .i64 (i16 + 1)) fun i25 => (Op_readText_l1 fu s1 k1) (i25, r22.2)) (some ([], [], false)))) (some ([], [], false))))) (some ([], [], false))

def Op_readText_m (fu : Nat) (s1 : Bs) : Option (Bs × Bs × Bool) := bnd (Strings_HasPrefix_m fu s1 [34]) fun r2 => cnd (!r2) (some ([], [], false)) ((Op_readText_l1 fu s1) fu (1, []))

set_option maxHeartbeats 10000000 in
set_option maxRecDepth 100000 in
theorem Op_readText_ok (fu : Nat) (s1 : Bs) : ∀ r, Op_readText_m fu s1 = some r → DC laidL Tryz.prog 43 [.v (.string ⟨⟨s1⟩⟩)] (.tup [.v (.string ⟨⟨r.1⟩⟩), .v (.string ⟨⟨r.2.1⟩⟩), .v (.bool r.2.2)]) := by
  intro r hr
  refine fc_intro (args := [.v (.string ⟨⟨s1⟩⟩)]) (S := []) (N0 := []) (post := fun r p S => p = .tup [.v (.string ⟨⟨r.1⟩⟩), .v (.string ⟨⟨r.2.1⟩⟩), .v (.bool r.2.2)] ∧ S = []) Tryz.func43 rfl rfl hr fun w0 X X0 σ0 _ => ?_
  refine pw_seq ?_
  refine pw_region ?_
  refine po_evs (T := tab) 3 rfl rfl ?_
  refine po_nil ?_
  refine pn_seq ?_
  refine pw_seq ?_
  refine pw_region ?_
  refine po_alloc (T := tab) 5 rfl rfl rfl rfl rfl rfl rfl rfl rfl ?_
  refine po_coeS 5 [.nloc 5 0, .v (.slice none 0 0)] rfl ⟨.nloc0, .rfl, trivial⟩ rfl ?_
  refine po_ownb_nilS 5050 5 1 5 1 rfl rfl rfl rfl rfl rfl ?_
  refine po_nil ?_
  refine pn_seq ?_
  refine pw_seq ?_
  refine pw_seq ?_
  refine pw_region ?_
  refine po_evs (T := tab) 1 rfl rfl ?_
  refine po_call (enc := fun (r2 : Bool) => .v (.bool r2)) (qs := [.v (.string ⟨⟨s1⟩⟩), .v (.string ⟨⟨[34]⟩⟩)]) (Strings_HasPrefix_ok fu s1 [34]) rfl rfl ⟨⟨_, rfl, .rfl⟩, ⟨_, rfl, .rfl⟩, trivial⟩ (fun _ => rfl) call59 rfl rfl fun r2 hr2 => ?_
  refine po_evs (T := tab) 1 rfl rfl ?_
  refine po_nil ?_
  refine pn_seq ?_
  refine pw_cnd rfl ?_ ?_
  · refine pw_seq ?_
    refine pw_region ?_
    refine po_evs (T := tab) 3 rfl rfl ?_
    refine po_nil ?_
    refine pn_seq ?_
    exact pw_retN (T := tab) rfl rfl rfl ⟨rfl, rfl⟩ trivial rfl
  · refine pw_skip ?_
    refine pn_seq ?_
    refine pw_seq ?_
    refine pw_seq ?_
    refine pw_region ?_
    refine po_evs (T := tab) 1 rfl rfl ?_
    refine po_nil ?_
    refine pn_seq ?_
    refine pw_block ?_
    refine pw_loop' (Op_readText_l1 fu s1) (fun ((i3, l4) : Int × (List Int)) => [(0, .v (.string ⟨⟨s1⟩⟩)), (5, .loc 5 0), (6, .v (.int .i64 i3))]) (fun ((i3, l4) : Int × (List Int)) => [(5050, .arr 5 1 (l4.map cInt_u8)), (5, .box 53 [.nloc 5 0, .ownb 5050])]) fu (1, []) (fun _ => rfl) ⟨rfl, rfl, rfl, trivial⟩ ⟨rfl, rfl, trivial⟩ rfl ?_
    rintro k1 ⟨i3, l4⟩
    refine pw_seq ?_
    refine pw_seq ?_
    refine pw_region ?_
    refine po_evs (T := tab) 4 rfl rfl ?_
    refine po_nil ?_
    refine pn_seq ?_
    refine pw_cnd rfl ?_ ?_
    · refine pw_skip ?_
      refine pn_seq ?_
      refine pw_seq ?_
      refine pw_block ?_
      refine pw_seq ?_
      refine pw_block ?_
      refine pw_seq ?_
      refine pw_region ?_
      refine po_evs (T := tab) 2 rfl rfl ?_
      refine po_chr (T := tab) (s := s1) rfl rfl rfl rfl rfl rfl rfl fun b5 hb5 => ?_
      refine po_evs (T := tab) 2 rfl rfl ?_
      refine po_nil ?_
      refine pn_seq ?_
      refine pw_cnd rfl ?_ ?_
      · refine pw_seq ?_
        refine pw_sub' (E' := [(0, .v (.string ⟨⟨s1⟩⟩)), (5, .loc 5 0), (6, .v (.int .i64 i3))]) (S' := [(5050, .arr 5 1 (l4.map cInt_u8)), (5, .box 53 [.nloc 5 0, .ownb 5050])]) ?_ ⟨rfl, rfl, rfl, trivial⟩ ⟨rfl, rfl, trivial⟩ rfl
        refine pw_drawV [0, 0, 0, 4, 14, 1, 63, 127] mixed (by kernel_rfl) (by kernel_rfl) rfl rfl ?_
        refine pdv_step (M := (Strings_Builder_String_m fu l4)) (ment := [(42, []), (10101, []), (11, [5])]) [10, 11, 10101] [42, 10101, 11] [] [5, 5050] [] (fun r6 => [(21, .v (.string ⟨⟨r6⟩⟩))]) (fun r6 => [(5, .box 53 [.nloc 5 0, .junk])]) rfl rfl (fun _ => rfl) (fun _ => rfl) (by kernel_rfl) (by kernel_rfl) (fun _ => by kernel_rfl) (fun _ => trivial) (fun w0 X X0 σ0 _ => by refine po_turn [] (enc := fun (r6 : Bs) => .v (.string ⟨⟨r6⟩⟩)) (Sr := fun (r6 : Bs) => [(5, .box 53 [.nloc 5 0, .junk])]) (first := []) (cap := []) (qs := [.loc 5 0]) (Sc := [(5, .box 53 [.nloc 5 0, .ownb 5050]), (5050, .arr 5 1 (l4.map cInt_u8))]) (N0 := [5, 5050]) (NR := [5]) (fun r6 hr6 => fc_ren [(900000, 5), (900001, 5050)] [900000, 900001] (Strings_Builder_String_ok fu l4 _ hr6) rfl rfl rfl rfl rfl rfl) ⟨rfl, rfl, trivial⟩ (fun _ => rfl) rfl rfl rfl rfl rfl rfl rfl (fun _ => rfl) (fun _ => rfl) rfl rfl rfl ⟨⟨_, rfl, .rfl⟩, trivial⟩ call32 rfl rfl fun r6 hr6 => ?_; refine po_nil ?_; exact pn_end ⟨rfl, trivial⟩ ⟨rfl, trivial⟩ rfl) fun r6 hr6 => ?_
        refine pdv_step0 [0] [44] [] [] [] [(22, .v (.string ⟨⟨s1⟩⟩))] [] rfl rfl rfl rfl (by kernel_rfl) (by kernel_rfl) (by kernel_rfl) trivial (fun w0 X X0 σ0 _ => by refine po_evs (T := tab) 1 rfl rfl ?_; refine po_nil ?_; exact pn_end0 ⟨rfl, trivial⟩ trivial rfl) ?_
        refine pdv_step0 [12] [46] [] [] [] [(23, .v (.int .i64 i3))] [] rfl rfl rfl rfl (by kernel_rfl) (by kernel_rfl) (by kernel_rfl) trivial (fun w0 X X0 σ0 _ => by refine po_evs (T := tab) 1 rfl rfl ?_; refine po_nil ?_; exact pn_end0 ⟨rfl, trivial⟩ trivial rfl) ?_
        refine pdv_step (M := (rng .i64 (i3 + 1))) (ment := [(48, [])]) [46] [48] [] [] [] (fun i7 => [(24, .v (.int .i64 i7))]) (fun i7 => []) rfl rfl (fun _ => rfl) (fun _ => rfl) (by kernel_rfl) (by kernel_rfl) (fun _ => by kernel_rfl) (fun _ => trivial) (fun w0 X X0 σ0 _ => by refine po_arith' (T := tab) rfl rfl rfl rfl fun i7 hi7 => ?_; refine po_nil ?_; exact pn_end ⟨rfl, trivial⟩ trivial rfl) fun i7 hi7 => ?_
        refine pdv_step (M := (piece s1 i7 ((s1.length : Nat) : Int))) (ment := [(50, [])]) [44, 48] [50] [] [] [] (fun s8 => [(25, .v (.string ⟨⟨s8⟩⟩))]) (fun s8 => []) rfl rfl (fun _ => rfl) (fun _ => rfl) (by kernel_rfl) (by kernel_rfl) (fun _ => by kernel_rfl) (fun _ => trivial) (fun w0 X X0 σ0 _ => by refine po_sub (T := tab) rfl rfl rfl rfl rfl rfl rfl rfl fun s8 hs8 => ?_; refine po_nil ?_; exact pn_end ⟨rfl, trivial⟩ trivial rfl) fun s8 hs8 => ?_
        refine pdv_step0 [42] [4] [] [] [] [(2, .v (.string ⟨⟨r6⟩⟩))] [] rfl rfl rfl rfl (by kernel_rfl) (by kernel_rfl) (by kernel_rfl) trivial (fun w0 X X0 σ0 _ => by refine po_evs (T := tab) 1 rfl rfl ?_; refine po_nil ?_; exact pn_end0 ⟨rfl, trivial⟩ trivial rfl) ?_
        refine pdv_step0 [50] [6] [] [] [] [(3, .v (.string ⟨⟨s8⟩⟩))] [] rfl rfl rfl rfl (by kernel_rfl) (by kernel_rfl) (by kernel_rfl) trivial (fun w0 X X0 σ0 _ => by refine po_evs (T := tab) 1 rfl rfl ?_; refine po_nil ?_; exact pn_end0 ⟨rfl, trivial⟩ trivial rfl) ?_
        refine pdv_step0 [] [8] [] [] [] [(4, .v (.bool true))] [] rfl rfl rfl rfl (by kernel_rfl) (by kernel_rfl) (by kernel_rfl) trivial (fun w0 X X0 σ0 _ => by refine po_evs (T := tab) 1 rfl rfl ?_; refine po_nil ?_; exact pn_end0 ⟨rfl, trivial⟩ trivial rfl) ?_
        refine pdv_nil rfl rfl ?_
        refine pn_seq ?_
        exact pw_retN (T := tab) rfl rfl rfl ⟨rfl, rfl⟩ trivial rfl
      · refine pw_seq ?_
        refine pw_region ?_
        refine po_evs (T := tab) 2 rfl rfl ?_
        refine po_chr (T := tab) (s := s1) rfl rfl rfl rfl rfl rfl rfl fun b9 hb9 => ?_
        refine po_evs (T := tab) 2 rfl rfl ?_
        refine po_nil ?_
        refine pn_seq ?_
        refine pw_cnd rfl ?_ ?_
        · refine pw_skip ?_
          refine pn_block ?_
          refine pn_seq ?_
          refine pw_region ?_
          refine po_evs (T := tab) 2 rfl rfl ?_
          refine po_chr (T := tab) (s := s1) rfl rfl rfl rfl rfl rfl rfl fun b17 hb17 => ?_
          refine po_turn [5050] (enc := fun (r18 : (Bool × (List Int))) => .err r18.1) (Sr := fun (r18 : (Bool × (List Int))) => [(5, .box 53 [.nloc 5 0, .ownb 5050]), (5050, .arr 5 1 (r18.2.map cInt_u8))]) (first := []) (cap := []) (qs := [.loc 5 0, .v (.int .u8 b17)]) (Sc := [(5, .box 53 [.nloc 5 0, .ownb 5050]), (5050, .arr 5 1 (l4.map cInt_u8))]) (N0 := [5]) (NR := [5, 5050]) (fun r18 hr18 => fc_ren [(900000, 5), (900001, 5050)] [900000, 900001] (Strings_Builder_WriteByte_ok fu b17 l4 _ hr18) rfl rfl rfl rfl rfl rfl) ⟨rfl, rfl, trivial⟩ (fun _ => rfl) rfl rfl rfl rfl rfl rfl rfl (fun _ => rfl) (fun _ => rfl) rfl rfl rfl ⟨⟨_, rfl, .rfl⟩, ⟨_, rfl, .rfl⟩, trivial⟩ call60 rfl rfl fun r18 hr18 => ?_
          refine po_nil ?_
          refine pn_block ?_
          refine pn_seq ?_
          refine pw_region ?_
          refine po_evs (T := tab) 1 rfl rfl ?_
          refine po_arith' (T := tab) rfl rfl rfl rfl fun i23 hi23 => ?_
          refine po_evs (T := tab) 1 rfl rfl ?_
          refine po_nil ?_
          exact pn_iter' (i23, r18.2) ⟨rfl, rfl, rfl, trivial⟩ ⟨rfl, rfl, trivial⟩ rfl
        · refine pw_seq ?_
          refine pw_region ?_
          refine po_evs (T := tab) 1 rfl rfl ?_
          refine po_arith' (T := tab) rfl rfl rfl rfl fun i10 hi10 => ?_
          refine po_evs (T := tab) 4 rfl rfl ?_
          refine po_split (j := 37) rfl ?_ ?_
          · refine po_evs (T := tab) 2 rfl rfl ?_
            refine po_arith' (T := tab) rfl rfl rfl rfl fun i11 hi11 => ?_
            refine po_chr (T := tab) (s := s1) rfl rfl rfl rfl rfl rfl rfl fun b12 hb12 => ?_
            refine po_evs (T := tab) 2 rfl rfl ?_
            refine po_split (j := 43) rfl ?_ ?_
            · refine po_evs (T := tab) 8 rfl rfl ?_
              refine po_nil ?_
              refine pn_seq (pw_then rfl ?_)
              refine pw_region ?_
              refine po_evs (T := tab) 1 rfl rfl ?_
              refine po_arith' (T := tab) rfl rfl rfl rfl fun i15 hi15 => ?_
              refine po_evs (T := tab) 1 rfl rfl ?_
              refine po_nil ?_
              refine pn_block ?_
              refine pn_seq ?_
              refine pw_region ?_
              refine po_evs (T := tab) 2 rfl rfl ?_
              refine po_chr (T := tab) (s := s1) rfl rfl rfl rfl rfl rfl rfl fun b19 hb19 => ?_
              refine po_turn [5050] (enc := fun (r20 : (Bool × (List Int))) => .err r20.1) (Sr := fun (r20 : (Bool × (List Int))) => [(5, .box 53 [.nloc 5 0, .ownb 5050]), (5050, .arr 5 1 (r20.2.map cInt_u8))]) (first := []) (cap := []) (qs := [.loc 5 0, .v (.int .u8 b19)]) (Sc := [(5, .box 53 [.nloc 5 0, .ownb 5050]), (5050, .arr 5 1 (l4.map cInt_u8))]) (N0 := [5]) (NR := [5, 5050]) (fun r20 hr20 => fc_ren [(900000, 5), (900001, 5050)] [900000, 900001] (Strings_Builder_WriteByte_ok fu b19 l4 _ hr20) rfl rfl rfl rfl rfl rfl) ⟨rfl, rfl, trivial⟩ (fun _ => rfl) rfl rfl rfl rfl rfl rfl rfl (fun _ => rfl) (fun _ => rfl) rfl rfl rfl ⟨⟨_, rfl, .rfl⟩, ⟨_, rfl, .rfl⟩, trivial⟩ call60 rfl rfl fun r20 hr20 => ?_
              refine po_nil ?_
              refine pn_block ?_
              refine pn_seq ?_
              refine pw_region ?_
              refine po_evs (T := tab) 1 rfl rfl ?_
              refine po_arith' (T := tab) rfl rfl rfl rfl fun i24 hi24 => ?_
              refine po_evs (T := tab) 1 rfl rfl ?_
              refine po_nil ?_
              exact pn_iter' (i24, r20.2) ⟨rfl, rfl, rfl, trivial⟩ ⟨rfl, rfl, trivial⟩ rfl
            · refine po_evs (T := tab) 2 rfl rfl ?_
              refine po_arith' (T := tab) rfl rfl rfl rfl fun i13 hi13 => ?_
              refine po_chr (T := tab) (s := s1) rfl rfl rfl rfl rfl rfl rfl fun b14 hb14 => ?_
              refine po_evs (T := tab) 4 rfl rfl ?_
              refine po_nil ?_
              refine pn_seq ?_
              refine pw_cnd rfl ?_ ?_
              · refine pw_region ?_
                refine po_evs (T := tab) 1 rfl rfl ?_
                refine po_arith' (T := tab) rfl rfl rfl rfl fun i16 hi16 => ?_
                refine po_evs (T := tab) 1 rfl rfl ?_
                refine po_nil ?_
                refine pn_block ?_
                refine pn_seq ?_
                refine pw_region ?_
                refine po_evs (T := tab) 2 rfl rfl ?_
                refine po_chr (T := tab) (s := s1) rfl rfl rfl rfl rfl rfl rfl fun b21 hb21 => ?_
                refine po_turn [5050] (enc := fun (r22 : (Bool × (List Int))) => .err r22.1) (Sr := fun (r22 : (Bool × (List Int))) => [(5, .box 53 [.nloc 5 0, .ownb 5050]), (5050, .arr 5 1 (r22.2.map cInt_u8))]) (first := []) (cap := []) (qs := [.loc 5 0, .v (.int .u8 b21)]) (Sc := [(5, .box 53 [.nloc 5 0, .ownb 5050]), (5050, .arr 5 1 (l4.map cInt_u8))]) (N0 := [5]) (NR := [5, 5050]) (fun r22 hr22 => fc_ren [(900000, 5), (900001, 5050)] [900000, 900001] (Strings_Builder_WriteByte_ok fu b21 l4 _ hr22) rfl rfl rfl rfl rfl rfl) ⟨rfl, rfl, trivial⟩ (fun _ => rfl) rfl rfl rfl rfl rfl rfl rfl (fun _ => rfl) (fun _ => rfl) rfl rfl rfl ⟨⟨_, rfl, .rfl⟩, ⟨_, rfl, .rfl⟩, trivial⟩ call60 rfl rfl fun r22 hr22 => ?_
                refine po_nil ?_
                refine pn_block ?_
                refine pn_seq ?_
                refine pw_region ?_
                refine po_evs (T := tab) 1 rfl rfl ?_
                refine po_arith' (T := tab) rfl rfl rfl rfl fun i25 hi25 => ?_
                refine po_evs (T := tab) 1 rfl rfl ?_
                refine po_nil ?_
                exact pn_iter' (i25, r22.2) ⟨rfl, rfl, rfl, trivial⟩ ⟨rfl, rfl, trivial⟩ rfl
              · refine pw_seq ?_
                refine pw_region ?_
                refine po_evs (T := tab) 3 rfl rfl ?_
                refine po_nil ?_
                refine pn_seq ?_
                exact pw_retN (T := tab) rfl rfl rfl ⟨rfl, rfl⟩ trivial rfl
          · refine po_evs (T := tab) 14 rfl rfl ?_
            refine po_nil ?_
            refine pn_seq (pw_else rfl ?_)
            refine pw_seq ?_
            refine pw_region ?_
            refine po_evs (T := tab) 3 rfl rfl ?_
            refine po_nil ?_
            refine pn_seq ?_
            exact pw_retN (T := tab) rfl rfl rfl ⟨rfl, rfl⟩ trivial rfl
    · refine pw_exit rfl ?_
      refine pn_seq ?_
      refine pw_seq ?_
      refine pw_region ?_
      refine po_evs (T := tab) 3 rfl rfl ?_
      refine po_nil ?_
      refine pn_seq ?_
      exact pw_retN (T := tab) rfl rfl rfl ⟨rfl, rfl⟩ trivial rfl

def Op_fit_j1 (n2 : Int) (x_ : Unit) : Option Bool := cnd (n2 == (-2)) (some true) (cnd (n2 == (-3)) (some true) (cnd (decide (n2 ≥ 0)) (some (decide (n2 < 400))) (some false)))

def Op_fit_m (_fu : Nat) (field1 : Int) (n2 : Int) : Option Bool := cnd (field1 == 111) (cnd (n2 == (-1)) (some true) ((Op_fit_j1 n2) ())) (cnd (field1 == 110) ((Op_fit_j1 n2) ()) (cnd (field1 == 105) (cnd (decide (n2 ≥ (-1000))) (some (decide (n2 ≤ 1000))) (some false)) (some (n2 == 0))))

set_option maxHeartbeats 10000000 in
set_option maxRecDepth 100000 in
theorem Op_fit_ok (fu : Nat) (field1 : Int) (n2 : Int) : ∀ r, Op_fit_m fu field1 n2 = some r → DC laidL Tryz.prog 33 [.v (.int .u8 field1), .v (.int .i64 n2)] (.v (.bool r)) := by
  intro r hr
  refine fc_intro (args := [.v (.int .u8 field1), .v (.int .i64 n2)]) (S := []) (N0 := []) (post := fun r p S => p = .v (.bool r) ∧ S = []) Tryz.func33 rfl rfl hr fun w0 X X0 σ0 _ => ?_
  refine pw_seq ?_
  refine pw_region ?_
  refine po_evs (T := tab) 1 rfl rfl ?_
  refine po_nil ?_
  refine pn_seq ?_
  refine pw_seq ?_
  refine pw_seq ?_
  refine pw_region ?_
  refine po_evs (T := tab) 1 rfl rfl ?_
  refine po_nil ?_
  refine pn_seq ?_
  refine pw_block ?_
  refine pw_seq ?_
  refine pw_block ?_
  refine pw_seq ?_
  refine pw_joinK (Op_fit_j1 n2) (fun (_ : Unit) => [(1, .v (.int .i64 n2))]) (fun (_ : Unit) => []) ?_ fun hj1 => ?_
  · rintro _
    refine pn_seq ?_
    refine pw_seq ?_
    refine pw_seq ?_
    refine pw_region ?_
    refine po_evs (T := tab) 3 rfl rfl ?_
    refine po_split (j := 16) rfl ?_ ?_
    · refine po_evs (T := tab) 12 rfl rfl ?_
      refine po_nil ?_
      refine pn_seq ?_
      exact pw_retN (T := tab) rfl rfl rfl ⟨rfl, rfl⟩ trivial rfl
    · refine po_evs (T := tab) 4 rfl rfl ?_
      refine po_split (j := 20) rfl ?_ ?_
      · refine po_evs (T := tab) 8 rfl rfl ?_
        refine po_nil ?_
        refine pn_seq ?_
        exact pw_retN (T := tab) rfl rfl rfl ⟨rfl, rfl⟩ trivial rfl
      · refine po_evs (T := tab) 3 rfl rfl ?_
        refine po_split (j := 23) rfl ?_ ?_
        · refine po_evs (T := tab) 5 rfl rfl ?_
          refine po_nil ?_
          refine pn_seq ?_
          exact pw_retN (T := tab) rfl rfl rfl ⟨rfl, rfl⟩ trivial rfl
        · refine po_evs (T := tab) 5 rfl rfl ?_
          refine po_nil ?_
          refine pn_seq ?_
          exact pw_retN (T := tab) rfl rfl rfl ⟨rfl, rfl⟩ trivial rfl
  · refine pw_block ?_
    refine pw_seq ?_
    refine pw_block ?_
    refine pw_seq ?_
    refine pw_seq ?_
    refine pw_seq ?_
    refine pw_region ?_
    refine po_evs (T := tab) 2 rfl rfl ?_
    refine po_nil ?_
    refine pn_seq ?_
    refine pw_cnd rfl ?_ ?_
    · refine pw_exit rfl ?_
      refine pn_seq ?_
      refine pw_seq ?_
      refine pw_region ?_
      refine po_evs (T := tab) 2 rfl rfl ?_
      refine po_nil ?_
      refine pn_seq ?_
      refine pw_cnd rfl ?_ ?_
      · refine pw_seq ?_
        refine pw_region ?_
        refine po_evs (T := tab) 1 rfl rfl ?_
        refine po_nil ?_
        refine pn_seq ?_
        exact pw_retN (T := tab) rfl rfl rfl ⟨rfl, rfl⟩ trivial rfl
      · refine pw_skip ?_
        refine pn_block ?_
        exact pn_sub' (hj1 ()) ⟨rfl, trivial⟩ trivial rfl
    · refine pw_skip ?_
      refine pn_seq ?_
      refine pw_seq ?_
      refine pw_seq ?_
      refine pw_region ?_
      refine po_evs (T := tab) 2 rfl rfl ?_
      refine po_nil ?_
      refine pn_seq ?_
      refine pw_cnd rfl ?_ ?_
      · refine pw_exit rfl ?_
        exact pn_sub' (hj1 ()) ⟨rfl, trivial⟩ trivial rfl
      · refine pw_skip ?_
        refine pn_seq ?_
        refine pw_seq ?_
        refine pw_region ?_
        refine po_evs (T := tab) 2 rfl rfl ?_
        refine po_nil ?_
        refine pn_seq ?_
        refine pw_cnd rfl ?_ ?_
        · refine pw_exit rfl ?_
          refine pn_seq ?_
          refine pw_seq ?_
          refine pw_seq ?_
          refine pw_region ?_
          refine po_evs (T := tab) 3 rfl rfl ?_
          refine po_split (j := 30) rfl ?_ ?_
          · refine po_evs (T := tab) 4 rfl rfl ?_
            refine po_nil ?_
            refine pn_seq ?_
            exact pw_retN (T := tab) rfl rfl rfl ⟨rfl, rfl⟩ trivial rfl
          · refine po_evs (T := tab) 4 rfl rfl ?_
            refine po_nil ?_
            refine pn_seq ?_
            exact pw_retN (T := tab) rfl rfl rfl ⟨rfl, rfl⟩ trivial rfl
        · refine pw_skip ?_
          refine pn_seq ?_
          refine pw_exit rfl ?_
          refine pn_seq ?_
          refine pw_seq ?_
          refine pw_region ?_
          refine po_evs (T := tab) 3 rfl rfl ?_
          refine po_nil ?_
          refine pn_seq ?_
          exact pw_retN (T := tab) rfl rfl rfl ⟨rfl, rfl⟩ trivial rfl

def Strings_Index_m (fu : Nat) (s1 : Bs) (substr2 : Bs) : Option Int := bnd (index1_m fu s1 substr2) fun r3 => some r3

set_option maxRecDepth 100000 in
theorem Strings_Index_ok (fu : Nat) (s1 : Bs) (substr2 : Bs) : ∀ r, Strings_Index_m fu s1 substr2 = some r → DC laidL Tryz.prog 65 [.v (.string ⟨⟨s1⟩⟩), .v (.string ⟨⟨substr2⟩⟩)] (.v (.int .i64 r)) := by
  intro r hr
  refine fc_intro (args := [.v (.string ⟨⟨s1⟩⟩), .v (.string ⟨⟨substr2⟩⟩)]) (S := []) (N0 := []) (post := fun r p S => p = .v (.int .i64 r) ∧ S = []) Tryz.func65 rfl rfl hr fun w0 X X0 σ0 _ => ?_
  refine pw_seq ?_
  refine pw_region ?_
  refine po_evs (T := tab) 1 rfl rfl ?_
  refine po_nil ?_
  refine pn_seq ?_
  refine pw_seq ?_
  refine pw_region ?_
  refine po_evs (T := tab) 2 rfl rfl ?_
  refine po_call (enc := fun (r3 : Int) => .v (.int .i64 r3)) (qs := [.v (.string ⟨⟨s1⟩⟩), .v (.string ⟨⟨substr2⟩⟩)]) (index1_ok fu s1 substr2) rfl rfl ⟨⟨_, rfl, .rfl⟩, ⟨_, rfl, .rfl⟩, trivial⟩ (fun _ => rfl) call67 rfl rfl fun r3 hr3 => ?_
  refine po_evs (T := tab) 1 rfl rfl ?_
  refine po_nil ?_
  refine pn_seq ?_
  exact pw_retN (T := tab) rfl rfl rfl ⟨rfl, rfl⟩ trivial rfl

def Strings_Contains_m (fu : Nat) (s1 : Bs) (substr2 : Bs) : Option Bool := bnd (Strings_Index_m fu s1 substr2) fun r3 => some (decide (r3 ≥ 0))

set_option maxRecDepth 100000 in
theorem Strings_Contains_ok (fu : Nat) (s1 : Bs) (substr2 : Bs) : ∀ r, Strings_Contains_m fu s1 substr2 = some r → DC laidL Tryz.prog 53 [.v (.string ⟨⟨s1⟩⟩), .v (.string ⟨⟨substr2⟩⟩)] (.v (.bool r)) := by
  intro r hr
  refine fc_intro (args := [.v (.string ⟨⟨s1⟩⟩), .v (.string ⟨⟨substr2⟩⟩)]) (S := []) (N0 := []) (post := fun r p S => p = .v (.bool r) ∧ S = []) Tryz.func53 rfl rfl hr fun w0 X X0 σ0 _ => ?_
  refine pw_seq ?_
  refine pw_region ?_
  refine po_evs (T := tab) 1 rfl rfl ?_
  refine po_nil ?_
  refine pn_seq ?_
  refine pw_seq ?_
  refine pw_region ?_
  refine po_evs (T := tab) 2 rfl rfl ?_
  refine po_call (enc := fun (r3 : Int) => .v (.int .i64 r3)) (qs := [.v (.string ⟨⟨s1⟩⟩), .v (.string ⟨⟨substr2⟩⟩)]) (Strings_Index_ok fu s1 substr2) rfl rfl ⟨⟨_, rfl, .rfl⟩, ⟨_, rfl, .rfl⟩, trivial⟩ (fun _ => rfl) call65 rfl rfl fun r3 hr3 => ?_
  refine po_evs (T := tab) 2 rfl rfl ?_
  refine po_nil ?_
  refine pn_seq ?_
  exact pw_retN (T := tab) rfl rfl rfl ⟨rfl, rfl⟩ trivial rfl

def Op_fitText_m (fu : Nat) (field1 : Int) (s2 : Bs) : Option Bool := cnd (field1 == 115) (cnd (decide (((s2.length : Nat) : Int) ≤ 200)) (bnd (Strings_Contains_m fu s2 [10]) fun r3 => some (!r3)) (some false)) (some (s2 == ([] : Bs)))

set_option maxRecDepth 100000 in
theorem Op_fitText_ok (fu : Nat) (field1 : Int) (s2 : Bs) : ∀ r, Op_fitText_m fu field1 s2 = some r → DC laidL Tryz.prog 34 [.v (.int .u8 field1), .v (.string ⟨⟨s2⟩⟩)] (.v (.bool r)) := by
  intro r hr
  refine fc_intro (args := [.v (.int .u8 field1), .v (.string ⟨⟨s2⟩⟩)]) (S := []) (N0 := []) (post := fun r p S => p = .v (.bool r) ∧ S = []) Tryz.func34 rfl rfl hr fun w0 X X0 σ0 _ => ?_
  refine pw_seq ?_
  refine pw_region ?_
  refine po_evs (T := tab) 1 rfl rfl ?_
  refine po_nil ?_
  refine pn_seq ?_
  refine pw_seq ?_
  refine pw_seq ?_
  refine pw_region ?_
  refine po_evs (T := tab) 2 rfl rfl ?_
  refine po_nil ?_
  refine pn_seq ?_
  refine pw_cnd rfl ?_ ?_
  · refine pw_seq ?_
    refine pw_region ?_
    refine po_evs (T := tab) 4 rfl rfl ?_
    refine po_split (j := 10) rfl ?_ ?_
    · refine po_evs (T := tab) 1 rfl rfl ?_
      refine po_call (enc := fun (r3 : Bool) => .v (.bool r3)) (qs := [.v (.string ⟨⟨s2⟩⟩), .v (.string ⟨⟨[10]⟩⟩)]) (Strings_Contains_ok fu s2 [10]) rfl rfl ⟨⟨_, rfl, .rfl⟩, ⟨_, rfl, .rfl⟩, trivial⟩ (fun _ => rfl) call53 rfl rfl fun r3 hr3 => ?_
      refine po_evs (T := tab) 3 rfl rfl ?_
      refine po_nil ?_
      refine pn_seq ?_
      exact pw_retN (T := tab) rfl rfl rfl ⟨rfl, rfl⟩ trivial rfl
    · refine po_evs (T := tab) 5 rfl rfl ?_
      refine po_nil ?_
      refine pn_seq ?_
      exact pw_retN (T := tab) rfl rfl rfl ⟨rfl, rfl⟩ trivial rfl
  · refine pw_skip ?_
    refine pn_seq ?_
    refine pw_seq ?_
    refine pw_region ?_
    refine po_evs (T := tab) 3 rfl rfl ?_
    refine po_nil ?_
    refine pn_seq ?_
    exact pw_retN (T := tab) rfl rfl rfl ⟨rfl, rfl⟩ trivial rfl

def Op_Right_j2 (fu : Nat) (o1 : Op) (r2 : (Op_form × Bool)) (ok11 : Bool) : Option Bool := bnd (Op_texts_m fu) fun r12 => cnd ok11 (bnd (rng .i64 (3 + 0)) fun i13 => bnd (chr r2.1.fields i13) fun b14 => bnd (Op_fitText_m fu b14 o1.S) fun r15 => cnd r15 (bnd (rng .i64 (3 + 1)) fun i16 => bnd (chr r2.1.fields i16) fun b17 => bnd (Op_fitText_m fu b17 o1.T) fun r18 => some r18) (some false)) (some false)

def Op_Right_j1 (fu : Nat) (o1 : Op) (r2 : (Op_form × Bool)) (ok6 : Bool) : Option Bool := cnd ok6 (bnd (chr r2.1.fields 1) fun b7 => bnd (Op_fit_m fu b7 o1.B) fun r8 => cnd r8 (bnd (chr r2.1.fields 2) fun b9 => bnd (Op_fit_m fu b9 o1.C) fun r10 => (Op_Right_j2 fu o1 r2) r10) ((Op_Right_j2 fu o1 r2) false)) ((Op_Right_j2 fu o1 r2) false)

def Op_Right_m (fu : Nat) (o1 : Op) : Option Bool := bnd (Op_formOf_m fu o1.Kind) fun r2 => bnd (Op_numbers_m fu) fun r3 => cnd r2.2 (bnd (chr r2.1.fields 0) fun b4 => bnd (Op_fit_m fu b4 o1.A) fun r5 => (Op_Right_j1 fu o1 r2) r5) ((Op_Right_j1 fu o1 r2) false)

set_option maxHeartbeats 10000000 in
set_option maxRecDepth 100000 in
theorem Op_Right_ok (fu : Nat) (o1 : Op) : ∀ r, Op_Right_m fu o1 = some r → DC laidL Tryz.prog 11 [.agg (cOp o1)] (.v (.bool r)) := by
  intro r hr
  refine fc_intro (args := [.agg (cOp o1)]) (S := []) (N0 := []) (post := fun r p S => p = .v (.bool r) ∧ S = []) Tryz.func11 rfl rfl hr fun w0 X X0 σ0 _ => ?_
  refine pw_seq ?_
  refine pw_region ?_
  refine po_box  1 rfl rfl rfl rfl rfl rfl rfl rfl rfl rfl ?_
  refine po_evs (T := tab) 1 rfl rfl ?_
  refine po_nil ?_
  refine pn_seq ?_
  refine pw_seq ?_
  refine pw_region ?_
  refine po_evs (T := tab) 2 rfl rfl ?_
  refine po_call (enc := fun (r2 : (Op_form × Bool)) => .tup [.agg (cOp_form r2.1), .v (.bool r2.2)]) (qs := [.v (.int .i64 o1.Kind)]) (Op_formOf_ok fu o1.Kind) rfl rfl ⟨⟨_, rfl, .rfl⟩, trivial⟩ (fun _ => rfl) call26 rfl rfl fun r2 hr2 => ?_
  refine po_evs (T := tab) 3 rfl rfl ?_
  refine po_alloc (T := tab) 3 rfl rfl rfl rfl rfl rfl rfl rfl rfl ?_
  refine po_store (T := tab) rfl rfl rfl rfl rfl rfl rfl rfl rfl rfl rfl rfl ?_
  refine po_evs (T := tab) 1 rfl rfl ?_
  refine po_nil ?_
  refine pn_seq ?_
  refine pw_seq ?_
  refine pw_seq ?_
  refine pw_region ?_
  refine po_turn [400150] (enc := fun (r3 : Unit) => .bsl 400150 3) (Sr := fun (r3 : Unit) => [(1, .box 23 [.v (.int .i64 o1.Kind), .v (.int .i64 o1.A), .v (.int .i64 o1.B), .v (.int .i64 o1.C), .v (.string ⟨⟨o1.S⟩⟩), .v (.string ⟨⟨o1.T⟩⟩), .v (.bool o1.Must)]), (400150, .box 63 [.loc 1 1, .loc 1 2, .loc 1 3])]) (first := []) (cap := []) (qs := [.loc 1 0]) (Sc := [(1, .box 23 [.v (.int .i64 o1.Kind), .v (.int .i64 o1.A), .v (.int .i64 o1.B), .v (.int .i64 o1.C), .v (.string ⟨⟨o1.S⟩⟩), .v (.string ⟨⟨o1.T⟩⟩), .v (.bool o1.Must)])]) (N0 := [1]) (NR := [1, 400150]) (fun r3 hr3 => fc_ren [(12, 400150), (900000, 1)] [12, 900000] (Op_numbers_ok fu o1 _ hr3) rfl rfl rfl rfl rfl rfl) ⟨rfl, trivial⟩ (fun _ => rfl) rfl rfl rfl rfl rfl rfl rfl (fun _ => rfl) (fun _ => rfl) rfl rfl rfl ⟨⟨_, rfl, .rfl⟩, trivial⟩ call28 rfl rfl fun r3 hr3 => ?_
  refine po_evs (T := tab) 2 rfl rfl ?_
  refine po_nil ?_
  refine pn_seq ?_
  refine pw_joinK (Op_Right_j2 fu o1 r2) (fun (ok11 : Bool) => [(1, .loc 1 0), (3, .loc 3 0), (4, .v (.bool ok11))]) (fun (ok11 : Bool) => [(1, .box 23 [.v (.int .i64 o1.Kind), .v (.int .i64 o1.A), .v (.int .i64 o1.B), .v (.int .i64 o1.C), .v (.string ⟨⟨o1.S⟩⟩), .v (.string ⟨⟨o1.T⟩⟩), .v (.bool o1.Must)]), (3, .box 47 [.v (.string ⟨⟨r2.1.word⟩⟩), .v (.string ⟨⟨r2.1.fields⟩⟩)])]) ?_ fun hj2 => ?_
  · rintro ok11
    refine pn_conv (m' := bnd (Op_texts_m fu) fun r12 => cnd ok11 (bnd (rng .i64 (3 + 0)) fun i13 => bnd (chr r2.1.fields i13) fun b14 => bnd (Op_fitText_m fu b14 o1.S) fun r15 => cnd r15 (bnd (rng .i64 (3 + 1)) fun i16 => bnd (chr r2.1.fields i16) fun b17 => bnd (Op_fitText_m fu b17 o1.T) fun r18 => some r18) (some false)) (some false)) rfl ?_
    refine pn_seq ?_
    refine pw_seq ?_
    refine pw_seq ?_
    refine pw_region ?_
    refine po_turn [400340] (enc := fun (r12 : Unit) => .bsl 400340 2) (Sr := fun (r12 : Unit) => [(1, .box 23 [.v (.int .i64 o1.Kind), .v (.int .i64 o1.A), .v (.int .i64 o1.B), .v (.int .i64 o1.C), .v (.string ⟨⟨o1.S⟩⟩), .v (.string ⟨⟨o1.T⟩⟩), .v (.bool o1.Must)]), (400340, .box 67 [.loc 1 4, .loc 1 5])]) (first := []) (cap := []) (qs := [.loc 1 0]) (Sc := [(1, .box 23 [.v (.int .i64 o1.Kind), .v (.int .i64 o1.A), .v (.int .i64 o1.B), .v (.int .i64 o1.C), .v (.string ⟨⟨o1.S⟩⟩), .v (.string ⟨⟨o1.T⟩⟩), .v (.bool o1.Must)])]) (N0 := [1]) (NR := [1, 400340]) (fun r12 hr12 => fc_ren [(9, 400340), (900000, 1)] [9, 900000] (Op_texts_ok fu o1 _ hr12) rfl rfl rfl rfl rfl rfl) ⟨rfl, trivial⟩ (fun _ => rfl) rfl rfl rfl rfl rfl rfl rfl (fun _ => rfl) (fun _ => rfl) rfl rfl rfl ⟨⟨_, rfl, .rfl⟩, trivial⟩ call30 rfl rfl fun r12 hr12 => ?_
    refine po_evs (T := tab) 2 rfl rfl ?_
    refine po_nil ?_
    refine pn_seq ?_
    refine pw_block ?_
    refine pw_unroll 3 ?_
    refine pw_seq ?_
    refine pw_region ?_
    refine po_evs (T := tab) 1 rfl rfl ?_
    refine po_nil ?_
    refine pn_seq ?_
    refine pw_seq ?_
    refine pw_then rfl ?_
    refine pw_skip ?_
    refine pn_seq ?_
    refine pw_seq ?_
    refine pw_block ?_
    refine pw_seq ?_
    refine pw_region ?_
    refine po_evs (T := tab) 1 rfl rfl ?_
    refine po_idxP (T := tab) (i := 0) rfl rfl rfl rfl rfl rfl rfl rfl ?_
    refine po_evs (T := tab) 3 rfl rfl ?_
    refine po_nil ?_
    refine pn_seq ?_
    refine pw_draw mixed (by kernel_rfl) ?_
    refine pd_evs (T := tab) 2 rfl rfl ?_
    refine pd_split (j := 42) rfl ?_ ?_
    · refine pd_evs (T := tab) 3 rfl rfl ?_
      refine pd_arith (T := tab) rfl rfl rfl rfl fun i13 hi13 => ?_
      refine pd_chr (T := tab) (s := r2.1.fields) rfl rfl rfl rfl rfl rfl rfl fun b14 hb14 => ?_
      refine pd_evs (T := tab) 3 rfl rfl ?_
      refine pd_call (enc := fun (r15 : Bool) => .v (.bool r15)) (qs := [.v (.int .u8 b14), .v (.string ⟨⟨o1.S⟩⟩)]) (Op_fitText_ok fu b14 o1.S) rfl rfl ⟨⟨_, rfl, .rfl⟩, ⟨_, rfl, .rfl⟩, trivial⟩ (fun _ => rfl) call34 rfl rfl fun r15 hr15 => ?_
      refine pd_evs (T := tab) 2 rfl rfl ?_
      refine pd_nil ?_
      refine pn_block ?_
      refine pn_seq ?_
      refine pw_region ?_
      refine po_arithK (T := tab) 1 rfl rfl rfl rfl rfl ?_
      refine po_evs (T := tab) 1 rfl rfl ?_
      refine po_nil ?_
      refine pn_unroll 2 ?_
      refine pw_seq ?_
      refine pw_region ?_
      refine po_evs (T := tab) 1 rfl rfl ?_
      refine po_nil ?_
      refine pn_seq ?_
      refine pw_seq ?_
      refine pw_then rfl ?_
      refine pw_skip ?_
      refine pn_seq ?_
      refine pw_seq ?_
      refine pw_block ?_
      refine pw_seq ?_
      refine pw_region ?_
      refine po_evs (T := tab) 1 rfl rfl ?_
      refine po_idxP (T := tab) (i := 1) rfl rfl rfl rfl rfl rfl rfl rfl ?_
      refine po_evs (T := tab) 3 rfl rfl ?_
      refine po_nil ?_
      refine pn_seq ?_
      refine pw_draw mixed (by kernel_rfl) ?_
      refine pd_evs (T := tab) 2 rfl rfl ?_
      refine pd_split (j := 42) rfl ?_ ?_
      · refine pd_evs (T := tab) 3 rfl rfl ?_
        refine pd_arith (T := tab) rfl rfl rfl rfl fun i16 hi16 => ?_
        refine pd_chr (T := tab) (s := r2.1.fields) rfl rfl rfl rfl rfl rfl rfl fun b17 hb17 => ?_
        refine pd_evs (T := tab) 3 rfl rfl ?_
        refine pd_call (enc := fun (r18 : Bool) => .v (.bool r18)) (qs := [.v (.int .u8 b17), .v (.string ⟨⟨o1.T⟩⟩)]) (Op_fitText_ok fu b17 o1.T) rfl rfl ⟨⟨_, rfl, .rfl⟩, ⟨_, rfl, .rfl⟩, trivial⟩ (fun _ => rfl) call34 rfl rfl fun r18 hr18 => ?_
        refine pd_evs (T := tab) 2 rfl rfl ?_
        refine pd_nil ?_
        refine pn_block ?_
        refine pn_seq ?_
        refine pw_region ?_
        refine po_arithK (T := tab) 2 rfl rfl rfl rfl rfl ?_
        refine po_evs (T := tab) 1 rfl rfl ?_
        refine po_nil ?_
        refine pn_unroll 1 ?_
        refine pw_seq ?_
        refine pw_region ?_
        refine po_evs (T := tab) 1 rfl rfl ?_
        refine po_nil ?_
        refine pn_seq ?_
        refine pw_seq ?_
        refine pw_else rfl ?_
        refine pw_exit rfl ?_
        refine pn_seq ?_
        refine pw_seq ?_
        refine pw_region ?_
        refine po_evs (T := tab) 2 rfl rfl ?_
        refine po_nil ?_
        refine pn_seq ?_
        exact pw_retN (T := tab) rfl rfl rfl ⟨rfl, rfl⟩ trivial rfl
      · refine pd_evs (T := tab) 11 rfl rfl ?_
        refine pd_nil ?_
        refine pn_block ?_
        refine pn_seq ?_
        refine pw_region ?_
        refine po_arithK (T := tab) 2 rfl rfl rfl rfl rfl ?_
        refine po_evs (T := tab) 1 rfl rfl ?_
        refine po_nil ?_
        refine pn_unroll 1 ?_
        refine pw_seq ?_
        refine pw_region ?_
        refine po_evs (T := tab) 1 rfl rfl ?_
        refine po_nil ?_
        refine pn_seq ?_
        refine pw_seq ?_
        refine pw_else rfl ?_
        refine pw_exit rfl ?_
        refine pn_seq ?_
        refine pw_seq ?_
        refine pw_region ?_
        refine po_evs (T := tab) 2 rfl rfl ?_
        refine po_nil ?_
        refine pn_seq ?_
        exact pw_retN (T := tab) rfl rfl rfl ⟨rfl, rfl⟩ trivial rfl
    · refine pd_evs (T := tab) 11 rfl rfl ?_
      refine pd_nil ?_
      refine pn_block ?_
      refine pn_seq ?_
      refine pw_region ?_
      refine po_arithK (T := tab) 1 rfl rfl rfl rfl rfl ?_
      refine po_evs (T := tab) 1 rfl rfl ?_
      refine po_nil ?_
      refine pn_unroll 2 ?_
      refine pw_seq ?_
      refine pw_region ?_
      refine po_evs (T := tab) 1 rfl rfl ?_
      refine po_nil ?_
      refine pn_seq ?_
      refine pw_seq ?_
      refine pw_then rfl ?_
      refine pw_skip ?_
      refine pn_seq ?_
      refine pw_seq ?_
      refine pw_block ?_
      refine pw_seq ?_
      refine pw_region ?_
      refine po_evs (T := tab) 1 rfl rfl ?_
      refine po_idxP (T := tab) (i := 1) rfl rfl rfl rfl rfl rfl rfl rfl ?_
      refine po_evs (T := tab) 3 rfl rfl ?_
      refine po_nil ?_
      refine pn_seq ?_
      refine pw_draw mixed (by kernel_rfl) ?_
      refine pd_evs (T := tab) 13 rfl rfl ?_
      refine pd_nil ?_
      refine pn_block ?_
      refine pn_seq ?_
      refine pw_region ?_
      refine po_arithK (T := tab) 2 rfl rfl rfl rfl rfl ?_
      refine po_evs (T := tab) 1 rfl rfl ?_
      refine po_nil ?_
      refine pn_unroll 1 ?_
      refine pw_seq ?_
      refine pw_region ?_
      refine po_evs (T := tab) 1 rfl rfl ?_
      refine po_nil ?_
      refine pn_seq ?_
      refine pw_seq ?_
      refine pw_else rfl ?_
      refine pw_exit rfl ?_
      refine pn_seq ?_
      refine pw_seq ?_
      refine pw_region ?_
      refine po_evs (T := tab) 2 rfl rfl ?_
      refine po_nil ?_
      refine pn_seq ?_
      exact pw_retN (T := tab) rfl rfl rfl ⟨rfl, rfl⟩ trivial rfl
  · refine pw_block ?_
    refine pw_unroll 4 ?_
    refine pw_seq ?_
    refine pw_region ?_
    refine po_evs (T := tab) 1 rfl rfl ?_
    refine po_nil ?_
    refine pn_seq ?_
    refine pw_seq ?_
    refine pw_then rfl ?_
    refine pw_skip ?_
    refine pn_seq ?_
    refine pw_seq ?_
    refine pw_joinK (Op_Right_j1 fu o1 r2) (fun (ok6 : Bool) => [(1, .loc 1 0), (3, .loc 3 0), (4, .v (.bool ok6)), (15, .bsl 400150 3), (16, .v (.int .i64 3)), (17, .v (.int .i64 0))]) (fun (ok6 : Bool) => [(1, .box 23 [.v (.int .i64 o1.Kind), .v (.int .i64 o1.A), .v (.int .i64 o1.B), .v (.int .i64 o1.C), .v (.string ⟨⟨o1.S⟩⟩), .v (.string ⟨⟨o1.T⟩⟩), .v (.bool o1.Must)]), (400150, .box 63 [.loc 1 1, .loc 1 2, .loc 1 3]), (3, .box 47 [.v (.string ⟨⟨r2.1.word⟩⟩), .v (.string ⟨⟨r2.1.fields⟩⟩)])]) ?_ fun hj1 => ?_
    · rintro ok6
      refine pn_seq ?_
      refine pw_region ?_
      refine po_arithK (T := tab) 1 rfl rfl rfl rfl rfl ?_
      refine po_evs (T := tab) 1 rfl rfl ?_
      refine po_nil ?_
      refine pn_unroll 3 ?_
      refine pw_seq ?_
      refine pw_region ?_
      refine po_evs (T := tab) 1 rfl rfl ?_
      refine po_nil ?_
      refine pn_seq ?_
      refine pw_seq ?_
      refine pw_then rfl ?_
      refine pw_skip ?_
      refine pn_seq ?_
      refine pw_seq ?_
      refine pw_block ?_
      refine pw_seq ?_
      refine pw_region ?_
      refine po_evs (T := tab) 1 rfl rfl ?_
      refine po_idxP (T := tab) (i := 1) rfl rfl rfl rfl rfl rfl rfl rfl ?_
      refine po_evs (T := tab) 3 rfl rfl ?_
      refine po_nil ?_
      refine pn_seq ?_
      refine pw_draw mixed (by kernel_rfl) ?_
      refine pd_evs (T := tab) 2 rfl rfl ?_
      refine pd_split (j := 23) rfl ?_ ?_
      · refine pd_evs (T := tab) 3 rfl rfl ?_
        refine pd_chr (T := tab) (s := r2.1.fields) rfl rfl rfl rfl rfl rfl rfl fun b7 hb7 => ?_
        refine pd_evs (T := tab) 3 rfl rfl ?_
        refine pd_call (enc := fun (r8 : Bool) => .v (.bool r8)) (qs := [.v (.int .u8 b7), .v (.int .i64 o1.B)]) (Op_fit_ok fu b7 o1.B) rfl rfl ⟨⟨_, rfl, .rfl⟩, ⟨_, rfl, .rfl⟩, trivial⟩ (fun _ => rfl) call33 rfl rfl fun r8 hr8 => ?_
        refine pd_evs (T := tab) 2 rfl rfl ?_
        refine pd_nil ?_
        refine pn_block ?_
        refine pn_seq ?_
        refine pw_region ?_
        refine po_arithK (T := tab) 2 rfl rfl rfl rfl rfl ?_
        refine po_evs (T := tab) 1 rfl rfl ?_
        refine po_nil ?_
        refine pn_unroll 2 ?_
        refine pw_seq ?_
        refine pw_region ?_
        refine po_evs (T := tab) 1 rfl rfl ?_
        refine po_nil ?_
        refine pn_seq ?_
        refine pw_seq ?_
        refine pw_then rfl ?_
        refine pw_skip ?_
        refine pn_seq ?_
        refine pw_seq ?_
        refine pw_block ?_
        refine pw_seq ?_
        refine pw_region ?_
        refine po_evs (T := tab) 1 rfl rfl ?_
        refine po_idxP (T := tab) (i := 2) rfl rfl rfl rfl rfl rfl rfl rfl ?_
        refine po_evs (T := tab) 3 rfl rfl ?_
        refine po_nil ?_
        refine pn_seq ?_
        refine pw_draw mixed (by kernel_rfl) ?_
        refine pd_evs (T := tab) 2 rfl rfl ?_
        refine pd_split (j := 23) rfl ?_ ?_
        · refine pd_evs (T := tab) 3 rfl rfl ?_
          refine pd_chr (T := tab) (s := r2.1.fields) rfl rfl rfl rfl rfl rfl rfl fun b9 hb9 => ?_
          refine pd_evs (T := tab) 3 rfl rfl ?_
          refine pd_call (enc := fun (r10 : Bool) => .v (.bool r10)) (qs := [.v (.int .u8 b9), .v (.int .i64 o1.C)]) (Op_fit_ok fu b9 o1.C) rfl rfl ⟨⟨_, rfl, .rfl⟩, ⟨_, rfl, .rfl⟩, trivial⟩ (fun _ => rfl) call33 rfl rfl fun r10 hr10 => ?_
          refine pd_evs (T := tab) 2 rfl rfl ?_
          refine pd_nil ?_
          refine pn_block ?_
          refine pn_seq ?_
          refine pw_region ?_
          refine po_arithK (T := tab) 3 rfl rfl rfl rfl rfl ?_
          refine po_evs (T := tab) 1 rfl rfl ?_
          refine po_nil ?_
          refine pn_unroll 1 ?_
          refine pw_seq ?_
          refine pw_region ?_
          refine po_evs (T := tab) 1 rfl rfl ?_
          refine po_nil ?_
          refine pn_seq ?_
          refine pw_seq ?_
          refine pw_else rfl ?_
          refine pw_exit rfl ?_
          exact pn_sub' (hj2 r10) ⟨rfl, rfl, rfl, trivial⟩ ⟨rfl, rfl, trivial⟩ rfl
        · refine pd_evs (T := tab) 10 rfl rfl ?_
          refine pd_nil ?_
          refine pn_block ?_
          refine pn_seq ?_
          refine pw_region ?_
          refine po_arithK (T := tab) 3 rfl rfl rfl rfl rfl ?_
          refine po_evs (T := tab) 1 rfl rfl ?_
          refine po_nil ?_
          refine pn_unroll 1 ?_
          refine pw_seq ?_
          refine pw_region ?_
          refine po_evs (T := tab) 1 rfl rfl ?_
          refine po_nil ?_
          refine pn_seq ?_
          refine pw_seq ?_
          refine pw_else rfl ?_
          refine pw_exit rfl ?_
          exact pn_sub' (hj2 false) ⟨rfl, rfl, rfl, trivial⟩ ⟨rfl, rfl, trivial⟩ rfl
      · refine pd_evs (T := tab) 10 rfl rfl ?_
        refine pd_nil ?_
        refine pn_block ?_
        refine pn_seq ?_
        refine pw_region ?_
        refine po_arithK (T := tab) 2 rfl rfl rfl rfl rfl ?_
        refine po_evs (T := tab) 1 rfl rfl ?_
        refine po_nil ?_
        refine pn_unroll 2 ?_
        refine pw_seq ?_
        refine pw_region ?_
        refine po_evs (T := tab) 1 rfl rfl ?_
        refine po_nil ?_
        refine pn_seq ?_
        refine pw_seq ?_
        refine pw_then rfl ?_
        refine pw_skip ?_
        refine pn_seq ?_
        refine pw_seq ?_
        refine pw_block ?_
        refine pw_seq ?_
        refine pw_region ?_
        refine po_evs (T := tab) 1 rfl rfl ?_
        refine po_idxP (T := tab) (i := 2) rfl rfl rfl rfl rfl rfl rfl rfl ?_
        refine po_evs (T := tab) 3 rfl rfl ?_
        refine po_nil ?_
        refine pn_seq ?_
        refine pw_draw mixed (by kernel_rfl) ?_
        refine pd_evs (T := tab) 12 rfl rfl ?_
        refine pd_nil ?_
        refine pn_block ?_
        refine pn_seq ?_
        refine pw_region ?_
        refine po_arithK (T := tab) 3 rfl rfl rfl rfl rfl ?_
        refine po_evs (T := tab) 1 rfl rfl ?_
        refine po_nil ?_
        refine pn_unroll 1 ?_
        refine pw_seq ?_
        refine pw_region ?_
        refine po_evs (T := tab) 1 rfl rfl ?_
        refine po_nil ?_
        refine pn_seq ?_
        refine pw_seq ?_
        refine pw_else rfl ?_
        refine pw_exit rfl ?_
        exact pn_sub' (hj2 false) ⟨rfl, rfl, rfl, trivial⟩ ⟨rfl, rfl, trivial⟩ rfl
    · refine pw_block ?_
      refine pw_seq ?_
      refine pw_region ?_
      refine po_evs (T := tab) 1 rfl rfl ?_
      refine po_idxP (T := tab) (i := 0) rfl rfl rfl rfl rfl rfl rfl rfl ?_
      refine po_evs (T := tab) 3 rfl rfl ?_
      refine po_nil ?_
      refine pn_seq ?_
      refine pw_draw mixed (by kernel_rfl) ?_
      refine pd_evs (T := tab) 2 rfl rfl ?_
      refine pd_split (j := 23) rfl ?_ ?_
      · refine pd_evs (T := tab) 3 rfl rfl ?_
        refine pd_chr (T := tab) (s := r2.1.fields) rfl rfl rfl rfl rfl rfl rfl fun b4 hb4 => ?_
        refine pd_evs (T := tab) 3 rfl rfl ?_
        refine pd_call (enc := fun (r5 : Bool) => .v (.bool r5)) (qs := [.v (.int .u8 b4), .v (.int .i64 o1.A)]) (Op_fit_ok fu b4 o1.A) rfl rfl ⟨⟨_, rfl, .rfl⟩, ⟨_, rfl, .rfl⟩, trivial⟩ (fun _ => rfl) call33 rfl rfl fun r5 hr5 => ?_
        refine pd_evs (T := tab) 2 rfl rfl ?_
        refine pd_nil ?_
        refine pn_block ?_
        exact pn_sub' (hj1 r5) ⟨rfl, rfl, rfl, rfl, rfl, rfl, trivial⟩ ⟨rfl, rfl, rfl, trivial⟩ rfl
      · refine pd_evs (T := tab) 10 rfl rfl ?_
        refine pd_nil ?_
        refine pn_block ?_
        exact pn_sub' (hj1 false) ⟨rfl, rfl, rfl, rfl, rfl, rfl, trivial⟩ ⟨rfl, rfl, rfl, trivial⟩ rfl

set_option maxRecDepth 100000 in
theorem Strings_Builder_copyCheck_i2_ok (fu : Nat) (l1 : (List Int)) : ∀ r, Strings_Builder_copyCheck_m fu = some r → FC laidL Tryz.prog 49 [.loc 900000 0] [(900000, .box 55 [.nloc 900000 0, .ownb 900001]), (900001, .arr 5 1 (l1.map cInt_u8))] [900000, 900001] fun p S' => p = .tup [] ∧ S' = [(900000, .box 55 [.nloc 900000 0, .ownb 900001]), (900001, .arr 5 1 (l1.map cInt_u8))] := by
  intro r hr
  refine fc_intro (args := [.loc 900000 0]) (S := [(900000, .box 55 [.nloc 900000 0, .ownb 900001]), (900001, .arr 5 1 (l1.map cInt_u8))]) (N0 := [900000, 900001]) (post := fun r p S => p = .tup [] ∧ S = [(900000, .box 55 [.nloc 900000 0, .ownb 900001]), (900001, .arr 5 1 (l1.map cInt_u8))]) Tryz.func49 rfl rfl hr fun w0 X X0 σ0 _ => ?_
  refine pw_seq ?_
  refine pw_region ?_
  refine po_evs (T := tab) 3 rfl rfl ?_
  refine po_nsplit 900000 0 rfl rfl rfl rfl rfl rfl ?_ ?_
  · refine po_evs (T := tab) 1 rfl rfl ?_
    refine po_ptr (T := tab) Tryz.underlying50 rfl rfl rfl rfl rfl rfl rfl rfl ?_
    refine po_nil ?_
    refine pn_seq ?_
    refine pw_then rfl ?_
    refine pw_region ?_
    refine po_evs (T := tab) 2 rfl rfl ?_
    refine po_noescape (T := tab) Tryz.underlying50 Tryz.underlying93 rfl rfl Tryz.func61 rfl rfl rfl rfl rfl rfl rfl rfl rfl (by kernel_rfl) rfl rfl rfl rfl rfl rfl rfl rfl rfl rfl rfl ?_
    refine po_evs (T := tab) 2 rfl rfl ?_
    refine po_store (T := tab) rfl rfl rfl rfl rfl rfl rfl rfl rfl rfl rfl rfl ?_
    refine po_nil ?_
    refine pn_coeS 900000 [.nloc 900000 0, .ownb 900001] rfl ⟨.nloc1, .rfl, trivial⟩ rfl ?_
    exact pn_retN (T := tab) rfl rfl rfl ⟨rfl, rfl⟩ ⟨rfl, rfl, trivial⟩ rfl
  · refine po_evs (T := tab) 1 rfl rfl ?_
    refine po_ptr (T := tab) Tryz.underlying50 rfl rfl rfl rfl rfl rfl rfl rfl ?_
    refine po_nil ?_
    refine pn_seq ?_
    refine pw_else rfl ?_
    refine pw_seq ?_
    refine pw_region ?_
    refine po_evs (T := tab) 5 rfl rfl ?_
    refine po_ptr (T := tab) Tryz.underlying50 rfl rfl rfl rfl rfl rfl rfl rfl ?_
    refine po_nil ?_
    refine pn_seq ?_
    refine pw_else rfl ?_
    refine pw_skip ?_
    refine pn_coeS 900000 [.nloc 900000 0, .ownb 900001] rfl ⟨.nloc1, .rfl, trivial⟩ rfl ?_
    exact pn_retN (T := tab) rfl rfl rfl ⟨rfl, rfl⟩ ⟨rfl, rfl, trivial⟩ rfl

def Strings_Builder_WriteString_m (fu : Nat) (s1 : Bs) (l2 : (List Int)) : Option (Int × Bool × (List Int)) := bnd (Strings_Builder_copyCheck_m fu) fun r3 => bnd (roomy 1 (l2.length + s1.length)) fun _ => some (((s1.length : Nat) : Int), false, (l2 ++ bytesOf s1))

set_option maxRecDepth 100000 in
theorem Strings_Builder_WriteString_ok (fu : Nat) (s1 : Bs) (l2 : (List Int)) : ∀ r, Strings_Builder_WriteString_m fu s1 l2 = some r → FC laidL Tryz.prog 27 [.loc 900000 0, .v (.string ⟨⟨s1⟩⟩)] [(900000, .box 55 [.nloc 900000 0, .ownb 900001]), (900001, .arr 5 1 (l2.map cInt_u8))] [900000] fun p S' => p = .tup [.v (.int .i64 r.1), .err r.2.1] ∧ S' = [(900000, .box 55 [.nloc 900000 0, .ownb 900001]), (900001, .arr 5 1 (r.2.2.map cInt_u8))] := by
  intro r hr
  refine fc_intro (args := [.loc 900000 0, .v (.string ⟨⟨s1⟩⟩)]) (S := [(900000, .box 55 [.nloc 900000 0, .ownb 900001]), (900001, .arr 5 1 (l2.map cInt_u8))]) (N0 := [900000]) (post := fun r p S => p = .tup [.v (.int .i64 r.1), .err r.2.1] ∧ S = [(900000, .box 55 [.nloc 900000 0, .ownb 900001]), (900001, .arr 5 1 (r.2.2.map cInt_u8))]) Tryz.func27 rfl rfl hr fun w0 X X0 σ0 _ => ?_
  refine pw_seq ?_
  refine pw_region ?_
  refine po_evs (T := tab) 2 rfl rfl ?_
  refine po_nil ?_
  refine pn_seq ?_
  refine pw_seq ?_
  refine pw_region ?_
  refine po_evs (T := tab) 1 rfl rfl ?_
  refine po_callv (enc := fun (r3 : Unit) => .tup []) (first := []) (cap := []) (qs := [.loc 900000 0]) (Sc := [(900000, .box 55 [.nloc 900000 0, .ownb 900001]), (900001, .arr 5 1 (l2.map cInt_u8))]) (fun r3 hr3 => fc_ren [(900000, 900000), (900001, 900001)] [900000, 900001] (Strings_Builder_copyCheck_i2_ok fu l2 _ hr3) rfl rfl rfl rfl rfl rfl) (subS_of ⟨rfl, rfl, trivial⟩ rfl) rfl rfl rfl rfl ⟨⟨_, rfl, .rfl⟩, trivial⟩ (fun _ => rfl) call49 rfl rfl fun r3 hr3 => ?_
  refine po_nil ?_
  refine pn_seq ?_
  refine pw_seq ?_
  refine pw_region ?_
  refine po_evs (T := tab) 6 rfl rfl ?_
  refine po_append_str (T := tab) cInt_u8 l2 (fun _ => rfl) rfl rfl rfl rfl rfl rfl rfl rfl rfl rfl rfl rfl rfl rfl rfl rfl ?_
  refine po_evs (T := tab) 2 rfl rfl ?_
  refine po_store (T := tab) rfl rfl rfl rfl rfl rfl rfl rfl rfl rfl rfl rfl ?_
  refine po_nil ?_
  refine pn_seq ?_
  refine pw_seq ?_
  refine pw_region ?_
  refine po_evs (T := tab) 4 rfl rfl ?_
  refine po_nil ?_
  refine pn_seq ?_
  refine pw_coe 5 (q := .err false) rfl .err0 ?_
  exact pw_retN (T := tab) rfl rfl rfl ⟨rfl, rfl⟩ ⟨rfl, rfl, trivial⟩ rfl

def Op_line_number_j1 (fu : Nat) (n2 : Int) (l3 : (List Int)) (t4 : Bool) : Option (List Int) := cnd t4 (bnd (itoa_m fu n2) fun r5 => bnd (cat ([32] : Bs) r5) fun s6 => bnd (Strings_Builder_WriteString_m fu s6 l3) fun r7 => some r7.2.2) (cnd (n2 == (-1)) (bnd (Strings_Builder_WriteString_m fu [32, 45] l3) fun r8 => some r8.2.2) (cnd (n2 == (-2)) (bnd (Strings_Builder_WriteString_m fu [32, 115, 101, 108, 102] l3) fun r9 => some r9.2.2) (bnd (Strings_Builder_WriteString_m fu [32, 108, 97, 115, 116] l3) fun r10 => some r10.2.2)))

def Op_line_number_m (fu : Nat) (field1 : Int) (n2 : Int) (l3 : (List Int)) : Option (List Int) := cnd (field1 == 46) (some l3) (cnd (field1 == 105) ((Op_line_number_j1 fu n2 l3) (field1 == 105)) ((Op_line_number_j1 fu n2 l3) (decide (n2 ≥ 0))))

set_option maxHeartbeats 10000000 in
set_option maxRecDepth 100000 in
theorem Op_line_number_ok (fu : Nat) (field1 : Int) (n2 : Int) (l3 : (List Int)) : ∀ r, Op_line_number_m fu field1 n2 l3 = some r → FC laidL Tryz.prog 29 [.loc 900000 0, .v (.int .u8 field1), .v (.int .i64 n2)] [(900000, .box 55 [.nloc 900000 0, .ownb 900001]), (900001, .arr 5 1 (l3.map cInt_u8))] [900000] fun p S' => p = .tup [] ∧ S' = [(900000, .box 55 [.nloc 900000 0, .ownb 900001]), (900001, .arr 5 1 (r.map cInt_u8))] := by
  intro r hr
  refine fc_intro (args := [.loc 900000 0, .v (.int .u8 field1), .v (.int .i64 n2)]) (S := [(900000, .box 55 [.nloc 900000 0, .ownb 900001]), (900001, .arr 5 1 (l3.map cInt_u8))]) (N0 := [900000]) (post := fun r p S => p = .tup [] ∧ S = [(900000, .box 55 [.nloc 900000 0, .ownb 900001]), (900001, .arr 5 1 (r.map cInt_u8))]) Tryz.func29 rfl rfl hr fun w0 X X0 σ0 _ => ?_
  refine pw_block ?_
  refine pw_seq ?_
  refine pw_region ?_
  refine po_evs (T := tab) 3 rfl rfl ?_
  refine po_nil ?_
  refine pn_seq ?_
  refine pw_cnd rfl ?_ ?_
  · exact pw_retN (T := tab) rfl rfl rfl ⟨rfl, rfl⟩ ⟨rfl, rfl, trivial⟩ rfl
  · refine pw_seq ?_
    refine pw_seq ?_
    refine pw_region ?_
    refine po_evs (T := tab) 3 rfl rfl ?_
    refine po_nil ?_
    refine pn_seq ?_
    refine pw_joinK (Op_line_number_j1 fu n2 l3) (fun (t4 : Bool) => [(0, .loc 900000 0), (2, .v (.int .i64 n2)), (13, .v (.bool t4))]) (fun (t4 : Bool) => [(900000, .box 55 [.nloc 900000 0, .ownb 900001]), (900001, .arr 5 1 (l3.map cInt_u8))]) ?_ fun hj1 => ?_
    · rintro t4
      refine pn_seq ?_
      refine pw_cnd rfl ?_ ?_
      · refine pw_sub' (E' := [(0, .loc 900000 0), (2, .v (.int .i64 n2))]) (S' := [(900000, .box 55 [.nloc 900000 0, .ownb 900001]), (900001, .arr 5 1 (l3.map cInt_u8))]) ?_ ⟨rfl, rfl, trivial⟩ ⟨rfl, rfl, trivial⟩ rfl
        refine pw_drawV [0, 1, 3, 0, 8, 24, 63] mixed (by kernel_rfl) (by kernel_rfl) rfl rfl ?_
        refine pdv_step0 [0] [36] [] [900000] [] [(18, .loc 900000 0)] [] rfl rfl rfl rfl (by kernel_rfl) (by kernel_rfl) (by kernel_rfl) trivial (fun w0 X X0 σ0 _ => by refine po_evs (T := tab) 1 rfl rfl ?_; refine po_nil ?_; exact pn_end0 ⟨rfl, trivial⟩ trivial rfl) ?_
        refine pdv_step0 [36] [38] [] [900000] [] [(19, .loc 900000 0)] [] rfl rfl rfl rfl (by kernel_rfl) (by kernel_rfl) (by kernel_rfl) trivial (fun w0 X X0 σ0 _ => by refine po_evs (T := tab) 1 rfl rfl ?_; refine po_nil ?_; exact pn_end0 ⟨rfl, trivial⟩ trivial rfl) ?_
        refine pdv_step0 [38] [40] [] [900000] [] [(20, .loc 900000 0)] [] rfl rfl rfl rfl (by kernel_rfl) (by kernel_rfl) (by kernel_rfl) trivial (fun w0 X X0 σ0 _ => by refine po_evs (T := tab) 1 rfl rfl ?_; refine po_nil ?_; exact pn_end0 ⟨rfl, trivial⟩ trivial rfl) ?_
        refine pdv_step0 [4] [42] [] [] [] [(21, .v (.int .i64 n2))] [] rfl rfl rfl rfl (by kernel_rfl) (by kernel_rfl) (by kernel_rfl) trivial (fun w0 X X0 σ0 _ => by refine po_evs (T := tab) 1 rfl rfl ?_; refine po_nil ?_; exact pn_end0 ⟨rfl, trivial⟩ trivial rfl) ?_
        refine pdv_step (M := (itoa_m fu n2)) (ment := [(44, [])]) [42] [44] [] [] [] (fun r5 => [(22, .v (.string ⟨⟨r5⟩⟩))]) (fun r5 => []) rfl rfl (fun _ => rfl) (fun _ => rfl) (by kernel_rfl) (by kernel_rfl) (fun _ => by kernel_rfl) (fun _ => trivial) (fun w0 X X0 σ0 _ => by refine po_call (enc := fun (r5 : Bs) => .v (.string ⟨⟨r5⟩⟩)) (qs := [.v (.int .i64 n2)]) (itoa_ok fu n2) rfl rfl ⟨⟨_, rfl, .rfl⟩, trivial⟩ (fun _ => rfl) call50 rfl rfl fun r5 hr5 => ?_; refine po_nil ?_; exact pn_end ⟨rfl, trivial⟩ trivial rfl) fun r5 hr5 => ?_
        refine pdv_step (M := (cat ([32] : Bs) r5)) (ment := [(46, [])]) [44] [46] [] [] [] (fun s6 => [(23, .v (.string ⟨⟨s6⟩⟩))]) (fun s6 => []) rfl rfl (fun _ => rfl) (fun _ => rfl) (by kernel_rfl) (by kernel_rfl) (fun _ => by kernel_rfl) (fun _ => trivial) (fun w0 X X0 σ0 _ => by refine po_cat rfl rfl rfl rfl rfl rfl fun s6 hs6 => ?_; refine po_nil ?_; exact pn_end ⟨rfl, trivial⟩ trivial rfl) fun s6 hs6 => ?_
        refine pdv_step (M := (Strings_Builder_WriteString_m fu s6 l3)) (ment := [(48, []), (1800003, []), (1800001, [900000, 900001])]) [40, 46, 1800001, 1800003] [48, 1800003, 1800001] [900001] [900000] [] (fun r7 => [(24, .tup [.v (.int .i64 r7.1), .err r7.2.1])]) (fun r7 => [(900001, .arr 5 1 (r7.2.2.map cInt_u8)), (900000, .box 55 [.nloc 900000 0, .ownb 900001])]) rfl rfl (fun _ => rfl) (fun _ => rfl) (by kernel_rfl) (by kernel_rfl) (fun _ => by kernel_rfl) (fun _ => trivial) (fun w0 X X0 σ0 _ => by refine po_turn [900001] (enc := fun (r7 : (Int × Bool × (List Int))) => .tup [.v (.int .i64 r7.1), .err r7.2.1]) (Sr := fun (r7 : (Int × Bool × (List Int))) => [(900000, .box 55 [.nloc 900000 0, .ownb 900001]), (900001, .arr 5 1 (r7.2.2.map cInt_u8))]) (first := []) (cap := []) (qs := [.loc 900000 0, .v (.string ⟨⟨s6⟩⟩)]) (Sc := [(900000, .box 55 [.nloc 900000 0, .ownb 900001]), (900001, .arr 5 1 (l3.map cInt_u8))]) (N0 := [900000]) (NR := [900000, 900001]) (fun r7 hr7 => fc_ren [(900000, 900000), (900001, 900001)] [900000, 900001] (Strings_Builder_WriteString_ok fu s6 l3 _ hr7) rfl rfl rfl rfl rfl rfl) ⟨rfl, rfl, trivial⟩ (fun _ => rfl) rfl rfl rfl rfl rfl rfl rfl (fun _ => rfl) (fun _ => rfl) rfl rfl rfl ⟨⟨_, rfl, .rfl⟩, ⟨_, rfl, .rfl⟩, trivial⟩ call27 rfl rfl fun r7 hr7 => ?_; refine po_nil ?_; exact pn_end ⟨rfl, trivial⟩ ⟨rfl, rfl, trivial⟩ rfl) fun r7 hr7 => ?_
        refine pdv_nil rfl rfl ?_
        refine pn_block ?_
        exact pn_retN (T := tab) rfl rfl rfl ⟨rfl, rfl⟩ ⟨rfl, rfl, trivial⟩ rfl
      · refine pw_seq ?_
        refine pw_region ?_
        refine po_evs (T := tab) 3 rfl rfl ?_
        refine po_nil ?_
        refine pn_seq ?_
        refine pw_cnd rfl ?_ ?_
        · refine pw_region ?_
          refine po_evs (T := tab) 3 rfl rfl ?_
          refine po_turn [900001] (enc := fun (r8 : (Int × Bool × (List Int))) => .tup [.v (.int .i64 r8.1), .err r8.2.1]) (Sr := fun (r8 : (Int × Bool × (List Int))) => [(900000, .box 55 [.nloc 900000 0, .ownb 900001]), (900001, .arr 5 1 (r8.2.2.map cInt_u8))]) (first := []) (cap := []) (qs := [.loc 900000 0, .v (.string ⟨⟨[32, 45]⟩⟩)]) (Sc := [(900000, .box 55 [.nloc 900000 0, .ownb 900001]), (900001, .arr 5 1 (l3.map cInt_u8))]) (N0 := [900000]) (NR := [900000, 900001]) (fun r8 hr8 => fc_ren [(900000, 900000), (900001, 900001)] [900000, 900001] (Strings_Builder_WriteString_ok fu [32, 45] l3 _ hr8) rfl rfl rfl rfl rfl rfl) ⟨rfl, rfl, trivial⟩ (fun _ => rfl) rfl rfl rfl rfl rfl rfl rfl (fun _ => rfl) (fun _ => rfl) rfl rfl rfl ⟨⟨_, rfl, .rfl⟩, ⟨_, rfl, .rfl⟩, trivial⟩ call27 rfl rfl fun r8 hr8 => ?_
          refine po_nil ?_
          refine pn_block ?_
          exact pn_retN (T := tab) rfl rfl rfl ⟨rfl, rfl⟩ ⟨rfl, rfl, trivial⟩ rfl
        · refine pw_seq ?_
          refine pw_region ?_
          refine po_evs (T := tab) 3 rfl rfl ?_
          refine po_nil ?_
          refine pn_seq ?_
          refine pw_cnd rfl ?_ ?_
          · refine pw_region ?_
            refine po_evs (T := tab) 3 rfl rfl ?_
            refine po_turn [900001] (enc := fun (r9 : (Int × Bool × (List Int))) => .tup [.v (.int .i64 r9.1), .err r9.2.1]) (Sr := fun (r9 : (Int × Bool × (List Int))) => [(900000, .box 55 [.nloc 900000 0, .ownb 900001]), (900001, .arr 5 1 (r9.2.2.map cInt_u8))]) (first := []) (cap := []) (qs := [.loc 900000 0, .v (.string ⟨⟨[32, 115, 101, 108, 102]⟩⟩)]) (Sc := [(900000, .box 55 [.nloc 900000 0, .ownb 900001]), (900001, .arr 5 1 (l3.map cInt_u8))]) (N0 := [900000]) (NR := [900000, 900001]) (fun r9 hr9 => fc_ren [(900000, 900000), (900001, 900001)] [900000, 900001] (Strings_Builder_WriteString_ok fu [32, 115, 101, 108, 102] l3 _ hr9) rfl rfl rfl rfl rfl rfl) ⟨rfl, rfl, trivial⟩ (fun _ => rfl) rfl rfl rfl rfl rfl rfl rfl (fun _ => rfl) (fun _ => rfl) rfl rfl rfl ⟨⟨_, rfl, .rfl⟩, ⟨_, rfl, .rfl⟩, trivial⟩ call27 rfl rfl fun r9 hr9 => ?_
            refine po_nil ?_
            refine pn_block ?_
            exact pn_retN (T := tab) rfl rfl rfl ⟨rfl, rfl⟩ ⟨rfl, rfl, trivial⟩ rfl
          · refine pw_region ?_
            refine po_evs (T := tab) 3 rfl rfl ?_
            refine po_turn [900001] (enc := fun (r10 : (Int × Bool × (List Int))) => .tup [.v (.int .i64 r10.1), .err r10.2.1]) (Sr := fun (r10 : (Int × Bool × (List Int))) => [(900000, .box 55 [.nloc 900000 0, .ownb 900001]), (900001, .arr 5 1 (r10.2.2.map cInt_u8))]) (first := []) (cap := []) (qs := [.loc 900000 0, .v (.string ⟨⟨[32, 108, 97, 115, 116]⟩⟩)]) (Sc := [(900000, .box 55 [.nloc 900000 0, .ownb 900001]), (900001, .arr 5 1 (l3.map cInt_u8))]) (N0 := [900000]) (NR := [900000, 900001]) (fun r10 hr10 => fc_ren [(900000, 900000), (900001, 900001)] [900000, 900001] (Strings_Builder_WriteString_ok fu [32, 108, 97, 115, 116] l3 _ hr10) rfl rfl rfl rfl rfl rfl) ⟨rfl, rfl, trivial⟩ (fun _ => rfl) rfl rfl rfl rfl rfl rfl rfl (fun _ => rfl) (fun _ => rfl) rfl rfl rfl ⟨⟨_, rfl, .rfl⟩, ⟨_, rfl, .rfl⟩, trivial⟩ call27 rfl rfl fun r10 hr10 => ?_
            refine po_nil ?_
            refine pn_block ?_
            exact pn_retN (T := tab) rfl rfl rfl ⟨rfl, rfl⟩ ⟨rfl, rfl, trivial⟩ rfl
    · refine pw_cnd rfl ?_ ?_
      · refine pw_skip ?_
        exact pn_sub' (hj1 (field1 == 105)) ⟨rfl, rfl, rfl, trivial⟩ ⟨rfl, rfl, trivial⟩ rfl
      · refine pw_region ?_
        refine po_evs (T := tab) 3 rfl rfl ?_
        refine po_nil ?_
        exact pn_sub' (hj1 (decide (n2 ≥ 0))) ⟨rfl, rfl, rfl, trivial⟩ ⟨rfl, rfl, trivial⟩ rfl

set_option maxRecDepth 100000 in
theorem Strings_Builder_String_i2_ok (fu : Nat) (l1 : (List Int)) : ∀ r, Strings_Builder_String_m fu l1 = some r → FC laidL Tryz.prog 32 [.loc 900000 0] [(900000, .box 55 [.nloc 900000 0, .ownb 900001]), (900001, .arr 5 1 (l1.map cInt_u8))] [900000, 900001] fun p S' => p = .v (.string ⟨⟨r⟩⟩) ∧ S' = [(900000, .box 55 [.nloc 900000 0, .junk])] := by
  intro r hr
  refine fc_intro (args := [.loc 900000 0]) (S := [(900000, .box 55 [.nloc 900000 0, .ownb 900001]), (900001, .arr 5 1 (l1.map cInt_u8))]) (N0 := [900000, 900001]) (post := fun r p S => p = .v (.string ⟨⟨r⟩⟩) ∧ S = [(900000, .box 55 [.nloc 900000 0, .junk])]) Tryz.func32 rfl rfl hr fun w0 X X0 σ0 _ => ?_
  refine pw_seq ?_
  refine pw_region ?_
  refine po_evs (T := tab) 1 rfl rfl ?_
  refine po_nil ?_
  refine pn_seq ?_
  refine pw_seq ?_
  refine pw_sub' (E' := [(0, .loc 900000 0)]) (S' := [(900000, .box 55 [.nloc 900000 0, .ownb 900001]), (900001, .arr 5 1 (l1.map cInt_u8))]) ?_ ⟨rfl, trivial⟩ ⟨rfl, rfl, trivial⟩ rfl
  refine pw_drawV [0, 1, 3, 7, 15, 0, 32, 96, 224, 480, 1023, 2047] mixed (by kernel_rfl) (by kernel_rfl) rfl rfl ?_
  refine pdv_step0 [0] [6] [] [900000] [] [(3, .loc 900000 0)] [] rfl rfl rfl rfl (by kernel_rfl) (by kernel_rfl) (by kernel_rfl) trivial (fun w0 X X0 σ0 _ => by refine po_evs (T := tab) 1 rfl rfl ?_; refine po_nil ?_; exact pn_end0 ⟨rfl, trivial⟩ trivial rfl) ?_
  refine pdv_step0 [6] [8] [] [900000] [] [(4, .loc 900000 0)] [] rfl rfl rfl rfl (by kernel_rfl) (by kernel_rfl) (by kernel_rfl) trivial (fun w0 X X0 σ0 _ => by refine po_evs (T := tab) 1 rfl rfl ?_; refine po_nil ?_; exact pn_end0 ⟨rfl, trivial⟩ trivial rfl) ?_
  refine pdv_step0 [8] [10] [] [900000] [] [(5, .loc 900000 1)] [] rfl rfl rfl rfl (by kernel_rfl) (by kernel_rfl) (by kernel_rfl) trivial (fun w0 X X0 σ0 _ => by refine po_evs (T := tab) 1 rfl rfl ?_; refine po_nil ?_; exact pn_end0 ⟨rfl, trivial⟩ trivial rfl) ?_
  refine pdv_step0 [10, 1800001] [12] [] [900000, 900001] [900000] [(6, .ownb 900001)] [(900000, .box 55 [.nloc 900000 0, .ownb 900001])] rfl rfl rfl rfl (by kernel_rfl) (by kernel_rfl) (by kernel_rfl) ⟨rfl, trivial⟩ (fun w0 X X0 σ0 _ => by refine po_evs (T := tab) 1 rfl rfl ?_; refine po_nil ?_; exact pn_end0 ⟨rfl, trivial⟩ ⟨rfl, trivial⟩ rfl) ?_
  refine pdv_step0 [12, 1800003] [14] [] [900001] [900001] [(7, .dat 900001)] [(900001, .arr 5 1 (l1.map cInt_u8))] rfl rfl rfl rfl (by kernel_rfl) (by kernel_rfl) (by kernel_rfl) ⟨rfl, trivial⟩ (fun w0 X X0 σ0 _ => by refine po_sliceData rfl rfl rfl rfl rfl rfl ?_; refine po_nil ?_; exact pn_end0 ⟨rfl, trivial⟩ ⟨rfl, trivial⟩ rfl) ?_
  refine pdv_step0 [0] [16] [] [900000] [] [(8, .loc 900000 0)] [] rfl rfl rfl rfl (by kernel_rfl) (by kernel_rfl) (by kernel_rfl) trivial (fun w0 X X0 σ0 _ => by refine po_evs (T := tab) 1 rfl rfl ?_; refine po_nil ?_; exact pn_end0 ⟨rfl, trivial⟩ trivial rfl) ?_
  refine pdv_step0 [16] [18] [] [900000] [] [(9, .loc 900000 0)] [] rfl rfl rfl rfl (by kernel_rfl) (by kernel_rfl) (by kernel_rfl) trivial (fun w0 X X0 σ0 _ => by refine po_evs (T := tab) 1 rfl rfl ?_; refine po_nil ?_; exact pn_end0 ⟨rfl, trivial⟩ trivial rfl) ?_
  refine pdv_step0 [18] [20] [] [900000] [] [(10, .loc 900000 1)] [] rfl rfl rfl rfl (by kernel_rfl) (by kernel_rfl) (by kernel_rfl) trivial (fun w0 X X0 σ0 _ => by refine po_evs (T := tab) 1 rfl rfl ?_; refine po_nil ?_; exact pn_end0 ⟨rfl, trivial⟩ trivial rfl) ?_
  refine pdv_step0 [20, 1800001] [22] [] [900000, 900001] [900000] [(11, .ownb 900001)] [(900000, .box 55 [.nloc 900000 0, .ownb 900001])] rfl rfl rfl rfl (by kernel_rfl) (by kernel_rfl) (by kernel_rfl) ⟨rfl, trivial⟩ (fun w0 X X0 σ0 _ => by refine po_evs (T := tab) 1 rfl rfl ?_; refine po_nil ?_; exact pn_end0 ⟨rfl, trivial⟩ ⟨rfl, trivial⟩ rfl) ?_
  refine pdv_step0 [22, 1800003] [24, 22] [] [900001] [900001] [(12, .v (.int .i64 ((l1.length : Nat) : Int))), (11, .own 900001)] [(900001, .arr 5 1 (l1.map cInt_u8))] rfl rfl rfl rfl (by kernel_rfl) (by kernel_rfl) (by kernel_rfl) ⟨rfl, trivial⟩ (fun w0 X X0 σ0 _ => by refine po_coe 11 (q := .own 900001) rfl .ownb ?_; refine po_len_own (T := tab) cInt_u8 l1 rfl rfl rfl rfl rfl rfl rfl rfl rfl ?_; refine po_nil ?_; exact pn_end0 ⟨rfl, rfl, trivial⟩ ⟨rfl, trivial⟩ rfl) ?_
  refine pdv_step0 [12, 14, 22, 24, 1800001, 1800003] [26, 12, 14, 22, 1800001, 1800003] [] [900000, 900001] [] [(13, .v (.string ⟨⟨(strOf l1)⟩⟩)), (11, .sl 1 false (l1.map cInt_u8))] [(900000, .box 55 [.nloc 900000 0, .junk])] rfl rfl rfl rfl (by kernel_rfl) (by kernel_rfl) (by kernel_rfl) trivial (fun w0 X X0 σ0 _ => by refine po_usString cInt_u8 l1 (fun _ => rfl) rfl rfl rfl rfl rfl rfl rfl Tryz.underlying90 (by kernel_rfl) rfl rfl rfl rfl ?_; refine po_nil ?_; exact pn_end0 ⟨rfl, rfl, trivial⟩ ⟨rfl, trivial⟩ rfl) ?_
  refine pdv_step0 [26] [4] [] [] [] [(2, .v (.string ⟨⟨(strOf l1)⟩⟩))] [] rfl rfl rfl rfl (by kernel_rfl) (by kernel_rfl) (by kernel_rfl) trivial (fun w0 X X0 σ0 _ => by refine po_evs (T := tab) 1 rfl rfl ?_; refine po_nil ?_; exact pn_end0 ⟨rfl, trivial⟩ trivial rfl) ?_
  refine pdv_nil rfl rfl ?_
  refine pn_seq ?_
  exact pw_retN (T := tab) rfl rfl rfl ⟨rfl, rfl⟩ ⟨rfl, trivial⟩ rfl

def Op_Put_j2 (fu : Nat) (o1 : Op) (r3 : (Op_form × Bool)) (l19 : (List Int)) : Option (Bs × Int) := bnd (chr r3.1.fields 4) fun b20 => cnd (b20 == 115) (bnd (quote_m fu o1.T) fun r21 => bnd (cat ([32] : Bs) r21) fun s22 => bnd (Strings_Builder_WriteString_m fu s22 l19) fun r23 => bnd (Strings_Builder_String_m fu r23.2.2) fun r24 => some (r24, 0)) (bnd (Strings_Builder_String_m fu l19) fun r25 => some (r25, 0))

def Op_Put_j1 (fu : Nat) (o1 : Op) (r3 : (Op_form × Bool)) (l5 : (List Int)) : Option (Bs × Int) := bnd (Strings_Builder_WriteString_m fu r3.1.word l5) fun r6 => bnd (Op_numbers_m fu) fun r7 => bnd (chr r3.1.fields 0) fun b8 => bnd (Op_line_number_m fu b8 o1.A r6.2.2) fun r9 => bnd (chr r3.1.fields 1) fun b10 => bnd (Op_line_number_m fu b10 o1.B r9) fun r11 => bnd (chr r3.1.fields 2) fun b12 => bnd (Op_line_number_m fu b12 o1.C r11) fun r13 => bnd (Op_texts_m fu) fun r14 => bnd (chr r3.1.fields 3) fun b15 => cnd (b15 == 115) (bnd (quote_m fu o1.S) fun r16 => bnd (cat ([32] : Bs) r16) fun s17 => bnd (Strings_Builder_WriteString_m fu s17 r13) fun r18 => (Op_Put_j2 fu o1 r3) r18.2.2) ((Op_Put_j2 fu o1 r3) r13)

def Op_Put_m (fu : Nat) (o1 : Op) : Option (Bs × Int) := bnd (Op_Right_m fu o1) fun r2 => cnd (!r2) (some ([], 1)) (bnd (Op_formOf_m fu o1.Kind) fun r3 => cnd o1.Must (bnd (Strings_Builder_WriteString_m fu [33] []) fun r4 => (Op_Put_j1 fu o1 r3) r4.2.2) ((Op_Put_j1 fu o1 r3) []))

set_option maxHeartbeats 10000000 in
set_option maxRecDepth 100000 in
theorem Op_Put_ok (fu : Nat) (o1 : Op) : ∀ r, Op_Put_m fu o1 = some r → DC laidL Tryz.prog 10 [.agg (cOp o1)] (.tup [.v (.string ⟨⟨r.1⟩⟩), .v (.int .i64 r.2)]) := by
  intro r hr
  refine fc_intro (args := [.agg (cOp o1)]) (S := []) (N0 := []) (post := fun r p S => p = .tup [.v (.string ⟨⟨r.1⟩⟩), .v (.int .i64 r.2)] ∧ S = []) Tryz.func10 rfl rfl hr fun w0 X X0 σ0 _ => ?_
  refine pw_seq ?_
  refine pw_region ?_
  refine po_box  1 rfl rfl rfl rfl rfl rfl rfl rfl rfl rfl ?_
  refine po_evs (T := tab) 2 rfl rfl ?_
  refine po_nil ?_
  refine pn_seq ?_
  refine pw_seq ?_
  refine pw_seq ?_
  refine pw_region ?_
  refine po_evs (T := tab) 1 rfl rfl ?_
  refine po_call (enc := fun (r2 : Bool) => .v (.bool r2)) (qs := [.agg (cOp o1)]) (Op_Right_ok fu o1) rfl rfl ⟨⟨_, rfl, .rfl⟩, trivial⟩ (fun _ => rfl) call11 rfl rfl fun r2 hr2 => ?_
  refine po_evs (T := tab) 1 rfl rfl ?_
  refine po_nil ?_
  refine pn_seq ?_
  refine pw_cnd rfl ?_ ?_
  · refine pw_seq ?_
    refine pw_region ?_
    refine po_evs (T := tab) 2 rfl rfl ?_
    refine po_nil ?_
    refine pn_seq ?_
    exact pw_retN (T := tab) rfl rfl rfl ⟨rfl, rfl⟩ trivial rfl
  · refine pw_skip ?_
    refine pn_seq ?_
    refine pw_seq ?_
    refine pw_region ?_
    refine po_evs (T := tab) 2 rfl rfl ?_
    refine po_call (enc := fun (r3 : (Op_form × Bool)) => .tup [.agg (cOp_form r3.1), .v (.bool r3.2)]) (qs := [.v (.int .i64 o1.Kind)]) (Op_formOf_ok fu o1.Kind) rfl rfl ⟨⟨_, rfl, .rfl⟩, trivial⟩ (fun _ => rfl) call26 rfl rfl fun r3 hr3 => ?_
    refine po_evs (T := tab) 3 rfl rfl ?_
    refine po_alloc (T := tab) 4 rfl rfl rfl rfl rfl rfl rfl rfl rfl ?_
    refine po_store (T := tab) rfl rfl rfl rfl rfl rfl rfl rfl rfl rfl rfl rfl ?_
    refine po_evs (T := tab) 1 rfl rfl ?_
    refine po_nil ?_
    refine pn_seq ?_
    refine pw_seq ?_
    refine pw_region ?_
    refine po_alloc (T := tab) 6 rfl rfl rfl rfl rfl rfl rfl rfl rfl ?_
    refine po_coeS 6 [.nloc 6 0, .v (.slice none 0 0)] rfl ⟨.nloc0, .rfl, trivial⟩ rfl ?_
    refine po_ownb_nilS 5060 5 1 6 1 rfl rfl rfl rfl rfl rfl ?_
    refine po_nil ?_
    refine pn_seq ?_
    refine pw_seq ?_
    refine pw_seq ?_
    refine pw_region ?_
    refine po_evs (T := tab) 2 rfl rfl ?_
    refine po_nil ?_
    refine pn_seq ?_
    refine pw_joinK (Op_Put_j1 fu o1 r3) (fun (l5 : (List Int)) => [(1, .loc 1 0), (4, .loc 4 0), (6, .loc 6 0)]) (fun (l5 : (List Int)) => [(6, .box 55 [.nloc 6 0, .ownb 5060]), (5060, .arr 5 1 (l5.map cInt_u8)), (4, .box 47 [.v (.string ⟨⟨r3.1.word⟩⟩), .v (.string ⟨⟨r3.1.fields⟩⟩)]), (1, .box 23 [.v (.int .i64 o1.Kind), .v (.int .i64 o1.A), .v (.int .i64 o1.B), .v (.int .i64 o1.C), .v (.string ⟨⟨o1.S⟩⟩), .v (.string ⟨⟨o1.T⟩⟩), .v (.bool o1.Must)])]) ?_ fun hj1 => ?_
    · rintro l5
      refine pn_seq ?_
      refine pw_seq ?_
      refine pw_region ?_
      refine po_evs (T := tab) 3 rfl rfl ?_
      refine po_turn [5060] (enc := fun (r6 : (Int × Bool × (List Int))) => .tup [.v (.int .i64 r6.1), .err r6.2.1]) (Sr := fun (r6 : (Int × Bool × (List Int))) => [(6, .box 55 [.nloc 6 0, .ownb 5060]), (5060, .arr 5 1 (r6.2.2.map cInt_u8))]) (first := []) (cap := []) (qs := [.loc 6 0, .v (.string ⟨⟨r3.1.word⟩⟩)]) (Sc := [(6, .box 55 [.nloc 6 0, .ownb 5060]), (5060, .arr 5 1 (l5.map cInt_u8))]) (N0 := [6]) (NR := [6, 5060]) (fun r6 hr6 => fc_ren [(900000, 6), (900001, 5060)] [900000, 900001] (Strings_Builder_WriteString_ok fu r3.1.word l5 _ hr6) rfl rfl rfl rfl rfl rfl) ⟨rfl, rfl, trivial⟩ (fun _ => rfl) rfl rfl rfl rfl rfl rfl rfl (fun _ => rfl) (fun _ => rfl) rfl rfl rfl ⟨⟨_, rfl, .rfl⟩, ⟨_, rfl, .rfl⟩, trivial⟩ call27 rfl rfl fun r6 hr6 => ?_
      refine po_nil ?_
      refine pn_seq ?_
      refine pw_seq ?_
      refine pw_seq ?_
      refine pw_region ?_
      refine po_turn [400280] (enc := fun (r7 : Unit) => .bsl 400280 3) (Sr := fun (r7 : Unit) => [(1, .box 23 [.v (.int .i64 o1.Kind), .v (.int .i64 o1.A), .v (.int .i64 o1.B), .v (.int .i64 o1.C), .v (.string ⟨⟨o1.S⟩⟩), .v (.string ⟨⟨o1.T⟩⟩), .v (.bool o1.Must)]), (400280, .box 63 [.loc 1 1, .loc 1 2, .loc 1 3])]) (first := []) (cap := []) (qs := [.loc 1 0]) (Sc := [(1, .box 23 [.v (.int .i64 o1.Kind), .v (.int .i64 o1.A), .v (.int .i64 o1.B), .v (.int .i64 o1.C), .v (.string ⟨⟨o1.S⟩⟩), .v (.string ⟨⟨o1.T⟩⟩), .v (.bool o1.Must)])]) (N0 := [1]) (NR := [1, 400280]) (fun r7 hr7 => fc_ren [(12, 400280), (900000, 1)] [12, 900000] (Op_numbers_ok fu o1 _ hr7) rfl rfl rfl rfl rfl rfl) ⟨rfl, trivial⟩ (fun _ => rfl) rfl rfl rfl rfl rfl rfl rfl (fun _ => rfl) (fun _ => rfl) rfl rfl rfl ⟨⟨_, rfl, .rfl⟩, trivial⟩ call28 rfl rfl fun r7 hr7 => ?_
      refine po_evs (T := tab) 2 rfl rfl ?_
      refine po_nil ?_
      refine pn_seq ?_
      refine pw_block ?_
      refine pw_unroll 4 ?_
      refine pw_seq ?_
      refine pw_region ?_
      refine po_evs (T := tab) 1 rfl rfl ?_
      refine po_nil ?_
      refine pn_seq ?_
      refine pw_seq ?_
      refine pw_then rfl ?_
      refine pw_skip ?_
      refine pn_seq ?_
      refine pw_seq ?_
      refine pw_block ?_
      refine pw_seq ?_
      refine pw_region ?_
      refine po_evs (T := tab) 1 rfl rfl ?_
      refine po_idxP (T := tab) (i := 0) rfl rfl rfl rfl rfl rfl rfl rfl ?_
      refine po_evs (T := tab) 3 rfl rfl ?_
      refine po_nil ?_
      refine pn_seq ?_
      refine pw_sub' (E' := [(1, .loc 1 0), (4, .loc 4 0), (6, .loc 6 0), (28, .bsl 400280 3), (29, .v (.int .i64 3)), (30, .v (.int .i64 0)), (7, .v (.int .i64 0)), (8, .loc 1 1)]) (S' := [(1, .box 23 [.v (.int .i64 o1.Kind), .v (.int .i64 o1.A), .v (.int .i64 o1.B), .v (.int .i64 o1.C), .v (.string ⟨⟨o1.S⟩⟩), .v (.string ⟨⟨o1.T⟩⟩), .v (.bool o1.Must)]), (400280, .box 63 [.loc 1 1, .loc 1 2, .loc 1 3]), (6, .box 55 [.nloc 6 0, .ownb 5060]), (5060, .arr 5 1 (r6.2.2.map cInt_u8)), (4, .box 47 [.v (.string ⟨⟨r3.1.word⟩⟩), .v (.string ⟨⟨r3.1.fields⟩⟩)])]) ?_ ⟨rfl, rfl, rfl, rfl, rfl, rfl, rfl, rfl, trivial⟩ ⟨rfl, rfl, rfl, rfl, rfl, trivial⟩ rfl
      refine pw_drawV [0, 1, 0, 7, 0, 16, 48, 127] mixed (by kernel_rfl) (by kernel_rfl) rfl rfl ?_
      refine pdv_step0 [8] [70] [] [4] [] [(35, .loc 4 1)] [] rfl rfl rfl rfl (by kernel_rfl) (by kernel_rfl) (by kernel_rfl) trivial (fun w0 X X0 σ0 _ => by refine po_evs (T := tab) 1 rfl rfl ?_; refine po_nil ?_; exact pn_end0 ⟨rfl, trivial⟩ trivial rfl) ?_
      refine pdv_step0 [9, 70] [72] [] [4] [4] [(36, .v (.string ⟨⟨r3.1.fields⟩⟩))] [(4, .box 47 [.v (.string ⟨⟨r3.1.word⟩⟩), .v (.string ⟨⟨r3.1.fields⟩⟩)])] rfl rfl rfl rfl (by kernel_rfl) (by kernel_rfl) (by kernel_rfl) ⟨rfl, trivial⟩ (fun w0 X X0 σ0 _ => by refine po_evs (T := tab) 1 rfl rfl ?_; refine po_nil ?_; exact pn_end0 ⟨rfl, trivial⟩ ⟨rfl, trivial⟩ rfl) ?_
      refine pdv_step0 [14] [74] [] [] [] [(37, .v (.int .i64 0))] [] rfl rfl rfl rfl (by kernel_rfl) (by kernel_rfl) (by kernel_rfl) trivial (fun w0 X X0 σ0 _ => by refine po_evs (T := tab) 1 rfl rfl ?_; refine po_nil ?_; exact pn_end0 ⟨rfl, trivial⟩ trivial rfl) ?_
      refine pdv_step (M := (chr r3.1.fields 0)) (ment := [(76, [])]) [72, 74] [76] [] [] [] (fun b8 => [(38, .v (.int .u8 b8))]) (fun b8 => []) rfl rfl (fun _ => rfl) (fun _ => rfl) (by kernel_rfl) (by kernel_rfl) (fun _ => by kernel_rfl) (fun _ => trivial) (fun w0 X X0 σ0 _ => by refine po_chr (T := tab) (s := r3.1.fields) rfl rfl rfl rfl rfl rfl rfl fun b8 hb8 => ?_; refine po_nil ?_; exact pn_end ⟨rfl, trivial⟩ trivial rfl) fun b8 hb8 => ?_
      refine pdv_step0 [16] [78] [] [1] [] [(39, .loc 1 1)] [] rfl rfl rfl rfl (by kernel_rfl) (by kernel_rfl) (by kernel_rfl) trivial (fun w0 X X0 σ0 _ => by refine po_evs (T := tab) 1 rfl rfl ?_; refine po_nil ?_; exact pn_end0 ⟨rfl, trivial⟩ trivial rfl) ?_
      refine pdv_step0 [78] [80] [] [1] [] [(40, .loc 1 1)] [] rfl rfl rfl rfl (by kernel_rfl) (by kernel_rfl) (by kernel_rfl) trivial (fun w0 X X0 σ0 _ => by refine po_evs (T := tab) 1 rfl rfl ?_; refine po_nil ?_; exact pn_end0 ⟨rfl, trivial⟩ trivial rfl) ?_
      refine pdv_step0 [3, 80] [82] [] [1] [1] [(41, .v (.int .i64 o1.A))] [(1, .box 23 [.v (.int .i64 o1.Kind), .v (.int .i64 o1.A), .v (.int .i64 o1.B), .v (.int .i64 o1.C), .v (.string ⟨⟨o1.S⟩⟩), .v (.string ⟨⟨o1.T⟩⟩), .v (.bool o1.Must)])] rfl rfl rfl rfl (by kernel_rfl) (by kernel_rfl) (by kernel_rfl) ⟨rfl, trivial⟩ (fun w0 X X0 σ0 _ => by refine po_evs (T := tab) 1 rfl rfl ?_; refine po_nil ?_; exact pn_end0 ⟨rfl, trivial⟩ ⟨rfl, trivial⟩ rfl) ?_
      refine pdv_step (M := (Op_line_number_m fu b8 o1.A r6.2.2)) (ment := [(84, []), (10121, []), (13, [6, 5060])]) [12, 13, 76, 82, 10121] [84, 10121, 13] [5060] [6] [] (fun r9 => [(42, .tup [])]) (fun r9 => [(5060, .arr 5 1 (r9.map cInt_u8)), (6, .box 55 [.nloc 6 0, .ownb 5060])]) rfl rfl (fun _ => rfl) (fun _ => rfl) (by kernel_rfl) (by kernel_rfl) (fun _ => by kernel_rfl) (fun _ => trivial) (fun w0 X X0 σ0 _ => by refine po_turn [5060] (enc := fun (r9 : (List Int)) => .tup []) (Sr := fun (r9 : (List Int)) => [(6, .box 55 [.nloc 6 0, .ownb 5060]), (5060, .arr 5 1 (r9.map cInt_u8))]) (first := []) (cap := []) (qs := [.loc 6 0, .v (.int .u8 b8), .v (.int .i64 o1.A)]) (Sc := [(6, .box 55 [.nloc 6 0, .ownb 5060]), (5060, .arr 5 1 (r6.2.2.map cInt_u8))]) (N0 := [6]) (NR := [6, 5060]) (fun r9 hr9 => fc_ren [(900000, 6), (900001, 5060)] [900000, 900001] (Op_line_number_ok fu b8 o1.A r6.2.2 _ hr9) rfl rfl rfl rfl rfl rfl) ⟨rfl, rfl, trivial⟩ (fun _ => rfl) rfl rfl rfl rfl rfl rfl rfl (fun _ => rfl) (fun _ => rfl) rfl rfl rfl ⟨⟨_, rfl, .rfl⟩, ⟨_, rfl, .rfl⟩, ⟨_, rfl, .rfl⟩, trivial⟩ call29 rfl rfl fun r9 hr9 => ?_; refine po_nil ?_; exact pn_end ⟨rfl, trivial⟩ ⟨rfl, rfl, trivial⟩ rfl) fun r9 hr9 => ?_
      refine pdv_nil rfl rfl ?_
      refine pn_block ?_
      refine pn_seq ?_
      refine pw_region ?_
      refine po_arithK (T := tab) 1 rfl rfl rfl rfl rfl ?_
      refine po_evs (T := tab) 1 rfl rfl ?_
      refine po_nil ?_
      refine pn_unroll 3 ?_
      refine pw_seq ?_
      refine pw_region ?_
      refine po_evs (T := tab) 1 rfl rfl ?_
      refine po_nil ?_
      refine pn_seq ?_
      refine pw_seq ?_
      refine pw_then rfl ?_
      refine pw_skip ?_
      refine pn_seq ?_
      refine pw_seq ?_
      refine pw_block ?_
      refine pw_seq ?_
      refine pw_region ?_
      refine po_evs (T := tab) 1 rfl rfl ?_
      refine po_idxP (T := tab) (i := 1) rfl rfl rfl rfl rfl rfl rfl rfl ?_
      refine po_evs (T := tab) 3 rfl rfl ?_
      refine po_nil ?_
      refine pn_seq ?_
      refine pw_sub' (E' := [(1, .loc 1 0), (4, .loc 4 0), (6, .loc 6 0), (28, .bsl 400280 3), (29, .v (.int .i64 3)), (30, .v (.int .i64 1)), (7, .v (.int .i64 1)), (8, .loc 1 2)]) (S' := [(6, .box 55 [.nloc 6 0, .ownb 5060]), (5060, .arr 5 1 (r9.map cInt_u8)), (1, .box 23 [.v (.int .i64 o1.Kind), .v (.int .i64 o1.A), .v (.int .i64 o1.B), .v (.int .i64 o1.C), .v (.string ⟨⟨o1.S⟩⟩), .v (.string ⟨⟨o1.T⟩⟩), .v (.bool o1.Must)]), (400280, .box 63 [.loc 1 1, .loc 1 2, .loc 1 3]), (4, .box 47 [.v (.string ⟨⟨r3.1.word⟩⟩), .v (.string ⟨⟨r3.1.fields⟩⟩)])]) ?_ ⟨rfl, rfl, rfl, rfl, rfl, rfl, rfl, rfl, trivial⟩ ⟨rfl, rfl, rfl, rfl, rfl, trivial⟩ rfl
      refine pw_drawV [0, 1, 0, 7, 0, 16, 48, 127] mixed (by kernel_rfl) (by kernel_rfl) rfl rfl ?_
      refine pdv_step0 [8] [70] [] [4] [] [(35, .loc 4 1)] [] rfl rfl rfl rfl (by kernel_rfl) (by kernel_rfl) (by kernel_rfl) trivial (fun w0 X X0 σ0 _ => by refine po_evs (T := tab) 1 rfl rfl ?_; refine po_nil ?_; exact pn_end0 ⟨rfl, trivial⟩ trivial rfl) ?_
      refine pdv_step0 [9, 70] [72] [] [4] [4] [(36, .v (.string ⟨⟨r3.1.fields⟩⟩))] [(4, .box 47 [.v (.string ⟨⟨r3.1.word⟩⟩), .v (.string ⟨⟨r3.1.fields⟩⟩)])] rfl rfl rfl rfl (by kernel_rfl) (by kernel_rfl) (by kernel_rfl) ⟨rfl, trivial⟩ (fun w0 X X0 σ0 _ => by refine po_evs (T := tab) 1 rfl rfl ?_; refine po_nil ?_; exact pn_end0 ⟨rfl, trivial⟩ ⟨rfl, trivial⟩ rfl) ?_
      refine pdv_step0 [14] [74] [] [] [] [(37, .v (.int .i64 1))] [] rfl rfl rfl rfl (by kernel_rfl) (by kernel_rfl) (by kernel_rfl) trivial (fun w0 X X0 σ0 _ => by refine po_evs (T := tab) 1 rfl rfl ?_; refine po_nil ?_; exact pn_end0 ⟨rfl, trivial⟩ trivial rfl) ?_
      refine pdv_step (M := (chr r3.1.fields 1)) (ment := [(76, [])]) [72, 74] [76] [] [] [] (fun b10 => [(38, .v (.int .u8 b10))]) (fun b10 => []) rfl rfl (fun _ => rfl) (fun _ => rfl) (by kernel_rfl) (by kernel_rfl) (fun _ => by kernel_rfl) (fun _ => trivial) (fun w0 X X0 σ0 _ => by refine po_chr (T := tab) (s := r3.1.fields) rfl rfl rfl rfl rfl rfl rfl fun b10 hb10 => ?_; refine po_nil ?_; exact pn_end ⟨rfl, trivial⟩ trivial rfl) fun b10 hb10 => ?_
      refine pdv_step0 [16] [78] [] [1] [] [(39, .loc 1 2)] [] rfl rfl rfl rfl (by kernel_rfl) (by kernel_rfl) (by kernel_rfl) trivial (fun w0 X X0 σ0 _ => by refine po_evs (T := tab) 1 rfl rfl ?_; refine po_nil ?_; exact pn_end0 ⟨rfl, trivial⟩ trivial rfl) ?_
      refine pdv_step0 [78] [80] [] [1] [] [(40, .loc 1 2)] [] rfl rfl rfl rfl (by kernel_rfl) (by kernel_rfl) (by kernel_rfl) trivial (fun w0 X X0 σ0 _ => by refine po_evs (T := tab) 1 rfl rfl ?_; refine po_nil ?_; exact pn_end0 ⟨rfl, trivial⟩ trivial rfl) ?_
      refine pdv_step0 [3, 80] [82] [] [1] [1] [(41, .v (.int .i64 o1.B))] [(1, .box 23 [.v (.int .i64 o1.Kind), .v (.int .i64 o1.A), .v (.int .i64 o1.B), .v (.int .i64 o1.C), .v (.string ⟨⟨o1.S⟩⟩), .v (.string ⟨⟨o1.T⟩⟩), .v (.bool o1.Must)])] rfl rfl rfl rfl (by kernel_rfl) (by kernel_rfl) (by kernel_rfl) ⟨rfl, trivial⟩ (fun w0 X X0 σ0 _ => by refine po_evs (T := tab) 1 rfl rfl ?_; refine po_nil ?_; exact pn_end0 ⟨rfl, trivial⟩ ⟨rfl, trivial⟩ rfl) ?_
      refine pdv_step (M := (Op_line_number_m fu b10 o1.B r9)) (ment := [(84, []), (10121, []), (13, [6, 5060])]) [12, 13, 76, 82, 10121] [84, 10121, 13] [5060] [6] [] (fun r11 => [(42, .tup [])]) (fun r11 => [(5060, .arr 5 1 (r11.map cInt_u8)), (6, .box 55 [.nloc 6 0, .ownb 5060])]) rfl rfl (fun _ => rfl) (fun _ => rfl) (by kernel_rfl) (by kernel_rfl) (fun _ => by kernel_rfl) (fun _ => trivial) (fun w0 X X0 σ0 _ => by refine po_turn [5060] (enc := fun (r11 : (List Int)) => .tup []) (Sr := fun (r11 : (List Int)) => [(6, .box 55 [.nloc 6 0, .ownb 5060]), (5060, .arr 5 1 (r11.map cInt_u8))]) (first := []) (cap := []) (qs := [.loc 6 0, .v (.int .u8 b10), .v (.int .i64 o1.B)]) (Sc := [(6, .box 55 [.nloc 6 0, .ownb 5060]), (5060, .arr 5 1 (r9.map cInt_u8))]) (N0 := [6]) (NR := [6, 5060]) (fun r11 hr11 => fc_ren [(900000, 6), (900001, 5060)] [900000, 900001] (Op_line_number_ok fu b10 o1.B r9 _ hr11) rfl rfl rfl rfl rfl rfl) ⟨rfl, rfl, trivial⟩ (fun _ => rfl) rfl rfl rfl rfl rfl rfl rfl (fun _ => rfl) (fun _ => rfl) rfl rfl rfl ⟨⟨_, rfl, .rfl⟩, ⟨_, rfl, .rfl⟩, ⟨_, rfl, .rfl⟩, trivial⟩ call29 rfl rfl fun r11 hr11 => ?_; refine po_nil ?_; exact pn_end ⟨rfl, trivial⟩ ⟨rfl, rfl, trivial⟩ rfl) fun r11 hr11 => ?_
      refine pdv_nil rfl rfl ?_
      refine pn_block ?_
      refine pn_seq ?_
      refine pw_region ?_
      refine po_arithK (T := tab) 2 rfl rfl rfl rfl rfl ?_
      refine po_evs (T := tab) 1 rfl rfl ?_
      refine po_nil ?_
      refine pn_unroll 2 ?_
      refine pw_seq ?_
      refine pw_region ?_
      refine po_evs (T := tab) 1 rfl rfl ?_
      refine po_nil ?_
      refine pn_seq ?_
      refine pw_seq ?_
      refine pw_then rfl ?_
      refine pw_skip ?_
      refine pn_seq ?_
      refine pw_seq ?_
      refine pw_block ?_
      refine pw_seq ?_
      refine pw_region ?_
      refine po_evs (T := tab) 1 rfl rfl ?_
      refine po_idxP (T := tab) (i := 2) rfl rfl rfl rfl rfl rfl rfl rfl ?_
      refine po_evs (T := tab) 3 rfl rfl ?_
      refine po_nil ?_
      refine pn_seq ?_
      refine pw_sub' (E' := [(1, .loc 1 0), (4, .loc 4 0), (6, .loc 6 0), (28, .bsl 400280 3), (29, .v (.int .i64 3)), (30, .v (.int .i64 2)), (7, .v (.int .i64 2)), (8, .loc 1 3)]) (S' := [(6, .box 55 [.nloc 6 0, .ownb 5060]), (5060, .arr 5 1 (r11.map cInt_u8)), (1, .box 23 [.v (.int .i64 o1.Kind), .v (.int .i64 o1.A), .v (.int .i64 o1.B), .v (.int .i64 o1.C), .v (.string ⟨⟨o1.S⟩⟩), .v (.string ⟨⟨o1.T⟩⟩), .v (.bool o1.Must)]), (400280, .box 63 [.loc 1 1, .loc 1 2, .loc 1 3]), (4, .box 47 [.v (.string ⟨⟨r3.1.word⟩⟩), .v (.string ⟨⟨r3.1.fields⟩⟩)])]) ?_ ⟨rfl, rfl, rfl, rfl, rfl, rfl, rfl, rfl, trivial⟩ ⟨rfl, rfl, rfl, rfl, rfl, trivial⟩ rfl
      refine pw_drawV [0, 1, 0, 7, 0, 16, 48, 127] mixed (by kernel_rfl) (by kernel_rfl) rfl rfl ?_
      refine pdv_step0 [8] [70] [] [4] [] [(35, .loc 4 1)] [] rfl rfl rfl rfl (by kernel_rfl) (by kernel_rfl) (by kernel_rfl) trivial (fun w0 X X0 σ0 _ => by refine po_evs (T := tab) 1 rfl rfl ?_; refine po_nil ?_; exact pn_end0 ⟨rfl, trivial⟩ trivial rfl) ?_
      refine pdv_step0 [9, 70] [72] [] [4] [4] [(36, .v (.string ⟨⟨r3.1.fields⟩⟩))] [(4, .box 47 [.v (.string ⟨⟨r3.1.word⟩⟩), .v (.string ⟨⟨r3.1.fields⟩⟩)])] rfl rfl rfl rfl (by kernel_rfl) (by kernel_rfl) (by kernel_rfl) ⟨rfl, trivial⟩ (fun w0 X X0 σ0 _ => by refine po_evs (T := tab) 1 rfl rfl ?_; refine po_nil ?_; exact pn_end0 ⟨rfl, trivial⟩ ⟨rfl, trivial⟩ rfl) ?_
      refine pdv_step0 [14] [74] [] [] [] [(37, .v (.int .i64 2))] [] rfl rfl rfl rfl (by kernel_rfl) (by kernel_rfl) (by kernel_rfl) trivial (fun w0 X X0 σ0 _ => by refine po_evs (T := tab) 1 rfl rfl ?_; refine po_nil ?_; exact pn_end0 ⟨rfl, trivial⟩ trivial rfl) ?_
      refine pdv_step (M := (chr r3.1.fields 2)) (ment := [(76, [])]) [72, 74] [76] [] [] [] (fun b12 => [(38, .v (.int .u8 b12))]) (fun b12 => []) rfl rfl (fun _ => rfl) (fun _ => rfl) (by kernel_rfl) (by kernel_rfl) (fun _ => by kernel_rfl) (fun _ => trivial) (fun w0 X X0 σ0 _ => by refine po_chr (T := tab) (s := r3.1.fields) rfl rfl rfl rfl rfl rfl rfl fun b12 hb12 => ?_; refine po_nil ?_; exact pn_end ⟨rfl, trivial⟩ trivial rfl) fun b12 hb12 => ?_
      refine pdv_step0 [16] [78] [] [1] [] [(39, .loc 1 3)] [] rfl rfl rfl rfl (by kernel_rfl) (by kernel_rfl) (by kernel_rfl) trivial (fun w0 X X0 σ0 _ => by refine po_evs (T := tab) 1 rfl rfl ?_; refine po_nil ?_; exact pn_end0 ⟨rfl, trivial⟩ trivial rfl) ?_
      refine pdv_step0 [78] [80] [] [1] [] [(40, .loc 1 3)] [] rfl rfl rfl rfl (by kernel_rfl) (by kernel_rfl) (by kernel_rfl) trivial (fun w0 X X0 σ0 _ => by refine po_evs (T := tab) 1 rfl rfl ?_; refine po_nil ?_; exact pn_end0 ⟨rfl, trivial⟩ trivial rfl) ?_
      refine pdv_step0 [3, 80] [82] [] [1] [1] [(41, .v (.int .i64 o1.C))] [(1, .box 23 [.v (.int .i64 o1.Kind), .v (.int .i64 o1.A), .v (.int .i64 o1.B), .v (.int .i64 o1.C), .v (.string ⟨⟨o1.S⟩⟩), .v (.string ⟨⟨o1.T⟩⟩), .v (.bool o1.Must)])] rfl rfl rfl rfl (by kernel_rfl) (by kernel_rfl) (by kernel_rfl) ⟨rfl, trivial⟩ (fun w0 X X0 σ0 _ => by refine po_evs (T := tab) 1 rfl rfl ?_; refine po_nil ?_; exact pn_end0 ⟨rfl, trivial⟩ ⟨rfl, trivial⟩ rfl) ?_
      refine pdv_step (M := (Op_line_number_m fu b12 o1.C r11)) (ment := [(84, []), (10121, []), (13, [6, 5060])]) [12, 13, 76, 82, 10121] [84, 10121, 13] [5060] [6] [] (fun r13 => [(42, .tup [])]) (fun r13 => [(5060, .arr 5 1 (r13.map cInt_u8)), (6, .box 55 [.nloc 6 0, .ownb 5060])]) rfl rfl (fun _ => rfl) (fun _ => rfl) (by kernel_rfl) (by kernel_rfl) (fun _ => by kernel_rfl) (fun _ => trivial) (fun w0 X X0 σ0 _ => by refine po_turn [5060] (enc := fun (r13 : (List Int)) => .tup []) (Sr := fun (r13 : (List Int)) => [(6, .box 55 [.nloc 6 0, .ownb 5060]), (5060, .arr 5 1 (r13.map cInt_u8))]) (first := []) (cap := []) (qs := [.loc 6 0, .v (.int .u8 b12), .v (.int .i64 o1.C)]) (Sc := [(6, .box 55 [.nloc 6 0, .ownb 5060]), (5060, .arr 5 1 (r11.map cInt_u8))]) (N0 := [6]) (NR := [6, 5060]) (fun r13 hr13 => fc_ren [(900000, 6), (900001, 5060)] [900000, 900001] (Op_line_number_ok fu b12 o1.C r11 _ hr13) rfl rfl rfl rfl rfl rfl) ⟨rfl, rfl, trivial⟩ (fun _ => rfl) rfl rfl rfl rfl rfl rfl rfl (fun _ => rfl) (fun _ => rfl) rfl rfl rfl ⟨⟨_, rfl, .rfl⟩, ⟨_, rfl, .rfl⟩, ⟨_, rfl, .rfl⟩, trivial⟩ call29 rfl rfl fun r13 hr13 => ?_; refine po_nil ?_; exact pn_end ⟨rfl, trivial⟩ ⟨rfl, rfl, trivial⟩ rfl) fun r13 hr13 => ?_
      refine pdv_nil rfl rfl ?_
      refine pn_block ?_
      refine pn_seq ?_
      refine pw_region ?_
      refine po_arithK (T := tab) 3 rfl rfl rfl rfl rfl ?_
      refine po_evs (T := tab) 1 rfl rfl ?_
      refine po_nil ?_
      refine pn_unroll 1 ?_
      refine pw_seq ?_
      refine pw_region ?_
      refine po_evs (T := tab) 1 rfl rfl ?_
      refine po_nil ?_
      refine pn_seq ?_
      refine pw_seq ?_
      refine pw_else rfl ?_
      refine pw_exit rfl ?_
      refine pn_seq ?_
      refine pw_seq ?_
      refine pw_seq ?_
      refine pw_region ?_
      refine po_turn [400440] (enc := fun (r14 : Unit) => .bsl 400440 2) (Sr := fun (r14 : Unit) => [(1, .box 23 [.v (.int .i64 o1.Kind), .v (.int .i64 o1.A), .v (.int .i64 o1.B), .v (.int .i64 o1.C), .v (.string ⟨⟨o1.S⟩⟩), .v (.string ⟨⟨o1.T⟩⟩), .v (.bool o1.Must)]), (400440, .box 67 [.loc 1 4, .loc 1 5])]) (first := []) (cap := []) (qs := [.loc 1 0]) (Sc := [(1, .box 23 [.v (.int .i64 o1.Kind), .v (.int .i64 o1.A), .v (.int .i64 o1.B), .v (.int .i64 o1.C), .v (.string ⟨⟨o1.S⟩⟩), .v (.string ⟨⟨o1.T⟩⟩), .v (.bool o1.Must)])]) (N0 := [1]) (NR := [1, 400440]) (fun r14 hr14 => fc_ren [(9, 400440), (900000, 1)] [9, 900000] (Op_texts_ok fu o1 _ hr14) rfl rfl rfl rfl rfl rfl) ⟨rfl, trivial⟩ (fun _ => rfl) rfl rfl rfl rfl rfl rfl rfl (fun _ => rfl) (fun _ => rfl) rfl rfl rfl ⟨⟨_, rfl, .rfl⟩, trivial⟩ call30 rfl rfl fun r14 hr14 => ?_
      refine po_evs (T := tab) 2 rfl rfl ?_
      refine po_nil ?_
      refine pn_seq ?_
      refine pw_block ?_
      refine pw_unroll 3 ?_
      refine pw_seq ?_
      refine pw_region ?_
      refine po_evs (T := tab) 1 rfl rfl ?_
      refine po_nil ?_
      refine pn_seq ?_
      refine pw_seq ?_
      refine pw_then rfl ?_
      refine pw_skip ?_
      refine pn_seq ?_
      refine pw_seq ?_
      refine pw_joinK (Op_Put_j2 fu o1 r3) (fun (l19 : (List Int)) => [(4, .loc 4 0), (6, .loc 6 0), (44, .bsl 400440 2), (45, .v (.int .i64 2)), (46, .v (.int .i64 0))]) (fun (l19 : (List Int)) => [(6, .box 55 [.nloc 6 0, .ownb 5060]), (5060, .arr 5 1 (l19.map cInt_u8)), (1, .box 23 [.v (.int .i64 o1.Kind), .v (.int .i64 o1.A), .v (.int .i64 o1.B), .v (.int .i64 o1.C), .v (.string ⟨⟨o1.S⟩⟩), .v (.string ⟨⟨o1.T⟩⟩), .v (.bool o1.Must)]), (400440, .box 67 [.loc 1 4, .loc 1 5]), (4, .box 47 [.v (.string ⟨⟨r3.1.word⟩⟩), .v (.string ⟨⟨r3.1.fields⟩⟩)])]) ?_ fun hj2 => ?_
      · rintro l19
        refine pn_seq ?_
        refine pw_region ?_
        refine po_arithK (T := tab) 1 rfl rfl rfl rfl rfl ?_
        refine po_evs (T := tab) 1 rfl rfl ?_
        refine po_nil ?_
        refine pn_unroll 2 ?_
        refine pw_seq ?_
        refine pw_region ?_
        refine po_evs (T := tab) 1 rfl rfl ?_
        refine po_nil ?_
        refine pn_seq ?_
        refine pw_seq ?_
        refine pw_then rfl ?_
        refine pw_skip ?_
        refine pn_seq ?_
        refine pw_seq ?_
        refine pw_block ?_
        refine pw_seq ?_
        refine pw_region ?_
        refine po_evs (T := tab) 1 rfl rfl ?_
        refine po_idxP (T := tab) (i := 1) rfl rfl rfl rfl rfl rfl rfl rfl ?_
        refine po_evs (T := tab) 3 rfl rfl ?_
        refine po_nil ?_
        refine pn_seq ?_
        refine pw_seq ?_
        refine pw_region ?_
        refine po_evs (T := tab) 3 rfl rfl ?_
        refine po_arithK (T := tab) 4 rfl rfl rfl rfl rfl ?_
        refine po_chr (T := tab) (s := r3.1.fields) rfl rfl rfl rfl rfl rfl rfl fun b20 hb20 => ?_
        refine po_evs (T := tab) 1 rfl rfl ?_
        refine po_nil ?_
        refine pn_seq ?_
        refine pw_cnd rfl ?_ ?_
        · refine pw_region ?_
          refine po_evs (T := tab) 4 rfl rfl ?_
          refine po_call (enc := fun (r21 : Bs) => .v (.string ⟨⟨r21⟩⟩)) (qs := [.v (.string ⟨⟨o1.T⟩⟩)]) (quote_ok fu o1.T) rfl rfl ⟨⟨_, rfl, .rfl⟩, trivial⟩ (fun _ => rfl) call31 rfl rfl fun r21 hr21 => ?_
          refine po_cat rfl rfl rfl rfl rfl rfl fun s22 hs22 => ?_
          refine po_turn [5060] (enc := fun (r23 : (Int × Bool × (List Int))) => .tup [.v (.int .i64 r23.1), .err r23.2.1]) (Sr := fun (r23 : (Int × Bool × (List Int))) => [(6, .box 55 [.nloc 6 0, .ownb 5060]), (5060, .arr 5 1 (r23.2.2.map cInt_u8))]) (first := []) (cap := []) (qs := [.loc 6 0, .v (.string ⟨⟨s22⟩⟩)]) (Sc := [(6, .box 55 [.nloc 6 0, .ownb 5060]), (5060, .arr 5 1 (l19.map cInt_u8))]) (N0 := [6]) (NR := [6, 5060]) (fun r23 hr23 => fc_ren [(900000, 6), (900001, 5060)] [900000, 900001] (Strings_Builder_WriteString_ok fu s22 l19 _ hr23) rfl rfl rfl rfl rfl rfl) ⟨rfl, rfl, trivial⟩ (fun _ => rfl) rfl rfl rfl rfl rfl rfl rfl (fun _ => rfl) (fun _ => rfl) rfl rfl rfl ⟨⟨_, rfl, .rfl⟩, ⟨_, rfl, .rfl⟩, trivial⟩ call27 rfl rfl fun r23 hr23 => ?_
          refine po_nil ?_
          refine pn_block ?_
          refine pn_seq ?_
          refine pw_region ?_
          refine po_arithK (T := tab) 2 rfl rfl rfl rfl rfl ?_
          refine po_evs (T := tab) 1 rfl rfl ?_
          refine po_nil ?_
          refine pn_unroll 1 ?_
          refine pw_seq ?_
          refine pw_region ?_
          refine po_evs (T := tab) 1 rfl rfl ?_
          refine po_nil ?_
          refine pn_seq ?_
          refine pw_seq ?_
          refine pw_else rfl ?_
          refine pw_exit rfl ?_
          refine pn_seq ?_
          refine pw_seq ?_
          refine pw_region ?_
          refine po_evs (T := tab) 1 rfl rfl ?_
          refine po_turn [] (enc := fun (r24 : Bs) => .v (.string ⟨⟨r24⟩⟩)) (Sr := fun (r24 : Bs) => [(6, .box 55 [.nloc 6 0, .junk])]) (first := []) (cap := []) (qs := [.loc 6 0]) (Sc := [(6, .box 55 [.nloc 6 0, .ownb 5060]), (5060, .arr 5 1 (r23.2.2.map cInt_u8))]) (N0 := [6, 5060]) (NR := [6]) (fun r24 hr24 => fc_ren [(900000, 6), (900001, 5060)] [900000, 900001] (Strings_Builder_String_i2_ok fu r23.2.2 _ hr24) rfl rfl rfl rfl rfl rfl) ⟨rfl, rfl, trivial⟩ (fun _ => rfl) rfl rfl rfl rfl rfl rfl rfl (fun _ => rfl) (fun _ => rfl) rfl rfl rfl ⟨⟨_, rfl, .rfl⟩, trivial⟩ call32 rfl rfl fun r24 hr24 => ?_
          refine po_evs (T := tab) 2 rfl rfl ?_
          refine po_nil ?_
          refine pn_seq ?_
          exact pw_retN (T := tab) rfl rfl rfl ⟨rfl, rfl⟩ trivial rfl
        · refine pw_skip ?_
          refine pn_block ?_
          refine pn_seq ?_
          refine pw_region ?_
          refine po_arithK (T := tab) 2 rfl rfl rfl rfl rfl ?_
          refine po_evs (T := tab) 1 rfl rfl ?_
          refine po_nil ?_
          refine pn_unroll 1 ?_
          refine pw_seq ?_
          refine pw_region ?_
          refine po_evs (T := tab) 1 rfl rfl ?_
          refine po_nil ?_
          refine pn_seq ?_
          refine pw_seq ?_
          refine pw_else rfl ?_
          refine pw_exit rfl ?_
          refine pn_seq ?_
          refine pw_seq ?_
          refine pw_region ?_
          refine po_evs (T := tab) 1 rfl rfl ?_
          refine po_turn [] (enc := fun (r25 : Bs) => .v (.string ⟨⟨r25⟩⟩)) (Sr := fun (r25 : Bs) => [(6, .box 55 [.nloc 6 0, .junk])]) (first := []) (cap := []) (qs := [.loc 6 0]) (Sc := [(6, .box 55 [.nloc 6 0, .ownb 5060]), (5060, .arr 5 1 (l19.map cInt_u8))]) (N0 := [6, 5060]) (NR := [6]) (fun r25 hr25 => fc_ren [(900000, 6), (900001, 5060)] [900000, 900001] (Strings_Builder_String_i2_ok fu l19 _ hr25) rfl rfl rfl rfl rfl rfl) ⟨rfl, rfl, trivial⟩ (fun _ => rfl) rfl rfl rfl rfl rfl rfl rfl (fun _ => rfl) (fun _ => rfl) rfl rfl rfl ⟨⟨_, rfl, .rfl⟩, trivial⟩ call32 rfl rfl fun r25 hr25 => ?_
          refine po_evs (T := tab) 2 rfl rfl ?_
          refine po_nil ?_
          refine pn_seq ?_
          exact pw_retN (T := tab) rfl rfl rfl ⟨rfl, rfl⟩ trivial rfl
      · refine pw_block ?_
        refine pw_seq ?_
        refine pw_region ?_
        refine po_evs (T := tab) 1 rfl rfl ?_
        refine po_idxP (T := tab) (i := 0) rfl rfl rfl rfl rfl rfl rfl rfl ?_
        refine po_evs (T := tab) 3 rfl rfl ?_
        refine po_nil ?_
        refine pn_seq ?_
        refine pw_seq ?_
        refine pw_region ?_
        refine po_evs (T := tab) 3 rfl rfl ?_
        refine po_arithK (T := tab) 3 rfl rfl rfl rfl rfl ?_
        refine po_chr (T := tab) (s := r3.1.fields) rfl rfl rfl rfl rfl rfl rfl fun b15 hb15 => ?_
        refine po_evs (T := tab) 1 rfl rfl ?_
        refine po_nil ?_
        refine pn_seq ?_
        refine pw_cnd rfl ?_ ?_
        · refine pw_region ?_
          refine po_evs (T := tab) 4 rfl rfl ?_
          refine po_call (enc := fun (r16 : Bs) => .v (.string ⟨⟨r16⟩⟩)) (qs := [.v (.string ⟨⟨o1.S⟩⟩)]) (quote_ok fu o1.S) rfl rfl ⟨⟨_, rfl, .rfl⟩, trivial⟩ (fun _ => rfl) call31 rfl rfl fun r16 hr16 => ?_
          refine po_cat rfl rfl rfl rfl rfl rfl fun s17 hs17 => ?_
          refine po_turn [5060] (enc := fun (r18 : (Int × Bool × (List Int))) => .tup [.v (.int .i64 r18.1), .err r18.2.1]) (Sr := fun (r18 : (Int × Bool × (List Int))) => [(6, .box 55 [.nloc 6 0, .ownb 5060]), (5060, .arr 5 1 (r18.2.2.map cInt_u8))]) (first := []) (cap := []) (qs := [.loc 6 0, .v (.string ⟨⟨s17⟩⟩)]) (Sc := [(6, .box 55 [.nloc 6 0, .ownb 5060]), (5060, .arr 5 1 (r13.map cInt_u8))]) (N0 := [6]) (NR := [6, 5060]) (fun r18 hr18 => fc_ren [(900000, 6), (900001, 5060)] [900000, 900001] (Strings_Builder_WriteString_ok fu s17 r13 _ hr18) rfl rfl rfl rfl rfl rfl) ⟨rfl, rfl, trivial⟩ (fun _ => rfl) rfl rfl rfl rfl rfl rfl rfl (fun _ => rfl) (fun _ => rfl) rfl rfl rfl ⟨⟨_, rfl, .rfl⟩, ⟨_, rfl, .rfl⟩, trivial⟩ call27 rfl rfl fun r18 hr18 => ?_
          refine po_nil ?_
          refine pn_block ?_
          exact pn_sub' (hj2 r18.2.2) ⟨rfl, rfl, rfl, rfl, rfl, trivial⟩ ⟨rfl, rfl, rfl, rfl, rfl, trivial⟩ rfl
        · refine pw_skip ?_
          refine pn_block ?_
          exact pn_sub' (hj2 r13) ⟨rfl, rfl, rfl, rfl, rfl, trivial⟩ ⟨rfl, rfl, rfl, rfl, rfl, trivial⟩ rfl
    · refine pw_cnd rfl ?_ ?_
      · refine pw_region ?_
        refine po_evs (T := tab) 1 rfl rfl ?_
        refine po_turn [5060] (enc := fun (r4 : (Int × Bool × (List Int))) => .tup [.v (.int .i64 r4.1), .err r4.2.1]) (Sr := fun (r4 : (Int × Bool × (List Int))) => [(6, .box 55 [.nloc 6 0, .ownb 5060]), (5060, .arr 5 1 (r4.2.2.map cInt_u8))]) (first := []) (cap := []) (qs := [.loc 6 0, .v (.string ⟨⟨[33]⟩⟩)]) (Sc := [(6, .box 55 [.nloc 6 0, .ownb 5060]), (5060, .arr 5 1 ([].map cInt_u8))]) (N0 := [6]) (NR := [6, 5060]) (fun r4 hr4 => fc_ren [(900000, 6), (900001, 5060)] [900000, 900001] (Strings_Builder_WriteString_ok fu [33] [] _ hr4) rfl rfl rfl rfl rfl rfl) ⟨rfl, rfl, trivial⟩ (fun _ => rfl) rfl rfl rfl rfl rfl rfl rfl (fun _ => rfl) (fun _ => rfl) rfl rfl rfl ⟨⟨_, rfl, .rfl⟩, ⟨_, rfl, .rfl⟩, trivial⟩ call27 rfl rfl fun r4 hr4 => ?_
        refine po_nil ?_
        exact pn_sub' (hj1 r4.2.2) ⟨rfl, rfl, rfl, trivial⟩ ⟨rfl, rfl, rfl, rfl, trivial⟩ rfl
      · refine pw_skip ?_
        exact pn_sub' (hj1 []) ⟨rfl, rfl, rfl, trivial⟩ ⟨rfl, rfl, rfl, rfl, trivial⟩ rfl

def Op_Read_j5 (fu : Nat) (s1 : Bs) (r2 : (Bs × Bool)) (r5 : Int) (c28 : Int) (c29 : Int) (c30 : Int) (x_ : Bs × Bool × Bs × Bs) : Option (Op × Int) := match x_ with
  | (rest41, ok42, c43, c44) => bnd (Op_Put_m fu (⟨r5, c28, c29, c30, c43, c44, r2.2⟩ : Op)) fun r45 => cnd (!ok42) (some ((⟨0, 0, 0, 0, [], [], false⟩ : Op), 2)) (cnd (!(rest41 == ([] : Bs))) (some ((⟨0, 0, 0, 0, [], [], false⟩ : Op), 2)) (cnd (r45.2 != 0) (some ((⟨0, 0, 0, 0, [], [], false⟩ : Op), 2)) (cnd (!(r45.1 == s1)) (some ((⟨0, 0, 0, 0, [], [], false⟩ : Op), 2)) (some ((⟨r5, c28, c29, c30, c43, c44, r2.2⟩ : Op), 0)))))

def Op_Read_j4 (fu : Nat) (s1 : Bs) (r2 : (Bs × Bool)) (r5 : Int) (r6 : (Op_form × Bool)) (c28 : Int) (c29 : Int) (c30 : Int) (x_ : Bs × Bool × Bs) : Option (Op × Int) := match x_ with
  | (rest35, ok36, c37) => cnd ok36 (bnd (chr r6.1.fields 4) fun b38 => cnd (b38 == 115) (bnd (Op_readText_m fu rest35) fun r39 => bnd (Strings_CutPrefix_m fu r39.2.1 [32]) fun r40 => cnd r40.2 ((Op_Read_j5 fu s1 r2 r5 c28 c29 c30) (r39.2.1, r39.2.2, c37, r39.1)) ((Op_Read_j5 fu s1 r2 r5 c28 c29 c30) (r39.2.1, r39.2.2, c37, r39.1))) ((Op_Read_j5 fu s1 r2 r5 c28 c29 c30) (rest35, ok36, c37, []))) ((Op_Read_j5 fu s1 r2 r5 c28 c29 c30) (rest35, ok36, c37, []))

def Op_Read_j3 (fu : Nat) (s1 : Bs) (r2 : (Bs × Bool)) (r5 : Int) (r6 : (Op_form × Bool)) (x_ : Bs × Bool × Int × Int × Int) : Option (Op × Int) := match x_ with
  | (rest26, ok27, c28, c29, c30) => bnd (Op_texts_m fu) fun r31 => cnd ok27 (bnd (chr r6.1.fields 3) fun b32 => cnd (b32 == 115) (bnd (Op_readText_m fu rest26) fun r33 => bnd (Strings_CutPrefix_m fu r33.2.1 [32]) fun r34 => cnd r34.2 ((Op_Read_j4 fu s1 r2 r5 r6 c28 c29 c30) (r34.1, r33.2.2, r33.1)) ((Op_Read_j4 fu s1 r2 r5 r6 c28 c29 c30) (r33.2.1, r33.2.2, r33.1))) ((Op_Read_j4 fu s1 r2 r5 r6 c28 c29 c30) (rest26, ok27, []))) ((Op_Read_j4 fu s1 r2 r5 r6 c28 c29 c30) (rest26, ok27, []))

def Op_Read_j2 (fu : Nat) (s1 : Bs) (r2 : (Bs × Bool)) (r5 : Int) (r6 : (Op_form × Bool)) (c14 : Int) (x_ : Bs × Bool × Int) : Option (Op × Int) := match x_ with
  | (rest19, ok20, c21) => cnd ok20 (bnd (chr r6.1.fields 2) fun b22 => cnd (b22 != 46) (bnd (Strings_Cut_m fu rest19 [32]) fun r23 => bnd (chr r6.1.fields 2) fun b24 => bnd (Op_readNumber_m fu b24 r23.1) fun r25 => (Op_Read_j3 fu s1 r2 r5 r6) (r23.2.1, r25.2, c14, c21, r25.1)) ((Op_Read_j3 fu s1 r2 r5 r6) (rest19, ok20, c14, c21, 0))) ((Op_Read_j3 fu s1 r2 r5 r6) (rest19, ok20, c14, c21, 0))

def Op_Read_j1 (fu : Nat) (s1 : Bs) (r2 : (Bs × Bool)) (r5 : Int) (r6 : (Op_form × Bool)) (x_ : Bs × Bool × Int) : Option (Op × Int) := match x_ with
  | (rest12, ok13, c14) => cnd ok13 (bnd (chr r6.1.fields 1) fun b15 => cnd (b15 != 46) (bnd (Strings_Cut_m fu rest12 [32]) fun r16 => bnd (chr r6.1.fields 1) fun b17 => bnd (Op_readNumber_m fu b17 r16.1) fun r18 => (Op_Read_j2 fu s1 r2 r5 r6 c14) (r16.2.1, r18.2, r18.1)) ((Op_Read_j2 fu s1 r2 r5 r6 c14) (rest12, ok13, 0))) ((Op_Read_j2 fu s1 r2 r5 r6 c14) (rest12, ok13, 0))

def Op_Read_m (fu : Nat) (s1 : Bs) : Option (Op × Int) := bnd (Strings_CutPrefix_m fu s1 [33]) fun r2 => bnd (Strings_Cut_m fu r2.1 [32]) fun r3 => bnd (Op_words_m fu) fun r4 => bnd (Slices_Index_string_m fu r4 r3.1) fun r5 => bnd (Op_formOf_m fu r5) fun r6 => bnd (Op_numbers_m fu) fun r7 => cnd r6.2 (bnd (chr r6.1.fields 0) fun b8 => cnd (b8 != 46) (bnd (Strings_Cut_m fu r3.2.1 [32]) fun r9 => bnd (chr r6.1.fields 0) fun b10 => bnd (Op_readNumber_m fu b10 r9.1) fun r11 => (Op_Read_j1 fu s1 r2 r5 r6) (r9.2.1, r11.2, r11.1)) ((Op_Read_j1 fu s1 r2 r5 r6) (r3.2.1, r6.2, 0))) ((Op_Read_j1 fu s1 r2 r5 r6) (r3.2.1, r6.2, 0))

set_option maxHeartbeats 10000000 in
set_option maxRecDepth 100000 in
theorem Op_Read_ok (fu : Nat) (s1 : Bs) : ∀ r, Op_Read_m fu s1 = some r → DC laidL Tryz.prog 17 [.v (.string ⟨⟨s1⟩⟩)] (.tup [.agg (cOp r.1), .v (.int .i64 r.2)]) := by
  intro r hr
  refine fc_intro (args := [.v (.string ⟨⟨s1⟩⟩)]) (S := []) (N0 := []) (post := fun r p S => p = .tup [.agg (cOp r.1), .v (.int .i64 r.2)] ∧ S = []) Tryz.func17 rfl rfl hr fun w0 X X0 σ0 _ => ?_
  refine pw_seq ?_
  refine pw_region ?_
  refine po_alloc (T := tab) 2 rfl rfl rfl rfl rfl rfl rfl rfl rfl ?_
  refine po_evs (T := tab) 1 rfl rfl ?_
  refine po_nil ?_
  refine pn_seq ?_
  refine pw_seq ?_
  refine pw_region ?_
  refine po_evs (T := tab) 1 rfl rfl ?_
  refine po_call (enc := fun (r2 : (Bs × Bool)) => .tup [.v (.string ⟨⟨r2.1⟩⟩), .v (.bool r2.2)]) (qs := [.v (.string ⟨⟨s1⟩⟩), .v (.string ⟨⟨[33]⟩⟩)]) (Strings_CutPrefix_ok fu s1 [33]) rfl rfl ⟨⟨_, rfl, .rfl⟩, ⟨_, rfl, .rfl⟩, trivial⟩ (fun _ => rfl) call38 rfl rfl fun r2 hr2 => ?_
  refine po_evs (T := tab) 5 rfl rfl ?_
  refine po_nil ?_
  refine pn_seq ?_
  refine pw_seq ?_
  refine pw_region ?_
  refine po_evs (T := tab) 1 rfl rfl ?_
  refine po_call (enc := fun (r3 : (Bs × Bs × Bool)) => .tup [.v (.string ⟨⟨r3.1⟩⟩), .v (.string ⟨⟨r3.2.1⟩⟩), .v (.bool r3.2.2)]) (qs := [.v (.string ⟨⟨r2.1⟩⟩), .v (.string ⟨⟨[32]⟩⟩)]) (Strings_Cut_ok fu r2.1 [32]) rfl rfl ⟨⟨_, rfl, .rfl⟩, ⟨_, rfl, .rfl⟩, trivial⟩ (fun _ => rfl) call39 rfl rfl fun r3 hr3 => ?_
  refine po_evs (T := tab) 7 rfl rfl ?_
  refine po_nil ?_
  refine pn_seq ?_
  refine pw_seq ?_
  refine pw_region ?_
  refine po_call (enc := fun (r4 : (List Bs)) => .sl 1 false (r4.map cStr)) (qs := []) (Op_words_ok fu) rfl rfl trivial (fun _ => rfl) call41 rfl rfl fun r4 hr4 => ?_
  refine po_evs (T := tab) 1 rfl rfl ?_
  refine po_call (enc := fun (r5 : Int) => .v (.int .i64 r5)) (qs := [.sl 1 false (r4.map cStr), .v (.string ⟨⟨r3.1⟩⟩)]) (Slices_Index_string_ok fu r4 r3.1) rfl rfl ⟨⟨_, rfl, .rfl⟩, ⟨_, rfl, .rfl⟩, trivial⟩ (fun _ => rfl) call40 rfl rfl fun r5 hr5 => ?_
  refine po_evs (T := tab) 1 rfl rfl ?_
  refine po_build (T := tab) rfl rfl rfl rfl rfl rfl rfl ?_
  refine po_alloc (T := tab) 8 rfl rfl rfl rfl rfl rfl rfl rfl rfl ?_
  refine po_store (T := tab) rfl rfl rfl rfl rfl rfl rfl rfl rfl rfl rfl rfl ?_
  refine po_nil ?_
  refine pn_seq ?_
  refine pw_seq ?_
  refine pw_region ?_
  refine po_evs (T := tab) 2 rfl rfl ?_
  refine po_call (enc := fun (r6 : (Op_form × Bool)) => .tup [.agg (cOp_form r6.1), .v (.bool r6.2)]) (qs := [.v (.int .i64 r5)]) (Op_formOf_ok fu r5) rfl rfl ⟨⟨_, rfl, .rfl⟩, trivial⟩ (fun _ => rfl) call26 rfl rfl fun r6 hr6 => ?_
  refine po_evs (T := tab) 3 rfl rfl ?_
  refine po_alloc (T := tab) 9 rfl rfl rfl rfl rfl rfl rfl rfl rfl ?_
  refine po_store (T := tab) rfl rfl rfl rfl rfl rfl rfl rfl rfl rfl rfl rfl ?_
  refine po_evs (T := tab) 1 rfl rfl ?_
  refine po_nil ?_
  refine pn_seq ?_
  refine pw_seq ?_
  refine pw_seq ?_
  refine pw_region ?_
  refine po_turn [400410] (enc := fun (r7 : Unit) => .bsl 400410 3) (Sr := fun (r7 : Unit) => [(8, .box 23 [.v (.int .i64 r5), .v (.int .i64 0), .v (.int .i64 0), .v (.int .i64 0), .v (.string ⟨⟨[]⟩⟩), .v (.string ⟨⟨[]⟩⟩), .v (.bool r2.2)]), (400410, .box 63 [.loc 8 1, .loc 8 2, .loc 8 3])]) (first := []) (cap := []) (qs := [.loc 8 0]) (Sc := [(8, .box 23 [.v (.int .i64 r5), .v (.int .i64 0), .v (.int .i64 0), .v (.int .i64 0), .v (.string ⟨⟨[]⟩⟩), .v (.string ⟨⟨[]⟩⟩), .v (.bool r2.2)])]) (N0 := [8]) (NR := [8, 400410]) (fun r7 hr7 => fc_ren [(12, 400410), (900000, 8)] [12, 900000] (Op_numbers_ok fu (⟨r5, 0, 0, 0, [], [], r2.2⟩ : Op) _ hr7) rfl rfl rfl rfl rfl rfl) ⟨rfl, trivial⟩ (fun _ => rfl) rfl rfl rfl rfl rfl rfl rfl (fun _ => rfl) (fun _ => rfl) rfl rfl rfl ⟨⟨_, rfl, .rfl⟩, trivial⟩ call28 rfl rfl fun r7 hr7 => ?_
  refine po_evs (T := tab) 2 rfl rfl ?_
  refine po_nil ?_
  refine pn_seq ?_
  refine pw_joinK (Op_Read_j3 fu s1 r2 r5 r6) (fun ((rest26, ok27, c28, c29, c30) : Bs × Bool × Int × Int × Int) => [(0, .v (.string ⟨⟨s1⟩⟩)), (2, .loc 2 0), (4, .v (.string ⟨⟨rest26⟩⟩)), (8, .loc 8 0), (9, .loc 9 0), (10, .v (.bool ok27))]) (fun ((rest26, ok27, c28, c29, c30) : Bs × Bool × Int × Int × Int) => [(8, .box 23 [.v (.int .i64 r5), .v (.int .i64 c28), .v (.int .i64 c29), .v (.int .i64 c30), .v (.string ⟨⟨[]⟩⟩), .v (.string ⟨⟨[]⟩⟩), .v (.bool r2.2)]), (9, .box 47 [.v (.string ⟨⟨r6.1.word⟩⟩), .v (.string ⟨⟨r6.1.fields⟩⟩)]), (2, .box 23 [.v (.int .i64 0), .v (.int .i64 0), .v (.int .i64 0), .v (.int .i64 0), .v (.string ⟨⟨[]⟩⟩), .v (.string ⟨⟨[]⟩⟩), .v (.bool false)])]) ?_ fun hj3 => ?_
  · rintro ⟨rest26, ok27, c28, c29, c30⟩
    refine pn_conv (m' := bnd (Op_texts_m fu) fun r31 => cnd ok27 (bnd (chr r6.1.fields 3) fun b32 => cnd (b32 == 115) (bnd (Op_readText_m fu rest26) fun r33 => bnd (Strings_CutPrefix_m fu r33.2.1 [32]) fun r34 => cnd r34.2 ((Op_Read_j4 fu s1 r2 r5 r6 c28 c29 c30) (r34.1, r33.2.2, r33.1)) ((Op_Read_j4 fu s1 r2 r5 r6 c28 c29 c30) (r33.2.1, r33.2.2, r33.1))) ((Op_Read_j4 fu s1 r2 r5 r6 c28 c29 c30) (rest26, ok27, []))) ((Op_Read_j4 fu s1 r2 r5 r6 c28 c29 c30) (rest26, ok27, []))) rfl ?_
    refine pn_seq ?_
    refine pw_seq ?_
    refine pw_seq ?_
    refine pw_region ?_
    refine po_turn [400740] (enc := fun (r31 : Unit) => .bsl 400740 2) (Sr := fun (r31 : Unit) => [(8, .box 23 [.v (.int .i64 r5), .v (.int .i64 c28), .v (.int .i64 c29), .v (.int .i64 c30), .v (.string ⟨⟨[]⟩⟩), .v (.string ⟨⟨[]⟩⟩), .v (.bool r2.2)]), (400740, .box 67 [.loc 8 4, .loc 8 5])]) (first := []) (cap := []) (qs := [.loc 8 0]) (Sc := [(8, .box 23 [.v (.int .i64 r5), .v (.int .i64 c28), .v (.int .i64 c29), .v (.int .i64 c30), .v (.string ⟨⟨[]⟩⟩), .v (.string ⟨⟨[]⟩⟩), .v (.bool r2.2)])]) (N0 := [8]) (NR := [8, 400740]) (fun r31 hr31 => fc_ren [(9, 400740), (900000, 8)] [9, 900000] (Op_texts_ok fu (⟨r5, c28, c29, c30, [], [], r2.2⟩ : Op) _ hr31) rfl rfl rfl rfl rfl rfl) ⟨rfl, trivial⟩ (fun _ => rfl) rfl rfl rfl rfl rfl rfl rfl (fun _ => rfl) (fun _ => rfl) rfl rfl rfl ⟨⟨_, rfl, .rfl⟩, trivial⟩ call30 rfl rfl fun r31 hr31 => ?_
    refine po_evs (T := tab) 2 rfl rfl ?_
    refine po_nil ?_
    refine pn_seq ?_
    refine pw_joinK (Op_Read_j5 fu s1 r2 r5 c28 c29 c30) (fun ((rest41, ok42, c43, c44) : Bs × Bool × Bs × Bs) => [(0, .v (.string ⟨⟨s1⟩⟩)), (2, .loc 2 0), (4, .v (.string ⟨⟨rest41⟩⟩)), (8, .loc 8 0), (10, .v (.bool ok42))]) (fun ((rest41, ok42, c43, c44) : Bs × Bool × Bs × Bs) => [(8, .box 23 [.v (.int .i64 r5), .v (.int .i64 c28), .v (.int .i64 c29), .v (.int .i64 c30), .v (.string ⟨⟨c43⟩⟩), .v (.string ⟨⟨c44⟩⟩), .v (.bool r2.2)]), (2, .box 23 [.v (.int .i64 0), .v (.int .i64 0), .v (.int .i64 0), .v (.int .i64 0), .v (.string ⟨⟨[]⟩⟩), .v (.string ⟨⟨[]⟩⟩), .v (.bool false)])]) ?_ fun hj5 => ?_
    · rintro ⟨rest41, ok42, c43, c44⟩
      refine pn_seq ?_
      refine pw_seq ?_
      refine pw_seq ?_
      refine pw_region ?_
      refine po_evs (T := tab) 1 rfl rfl ?_
      refine po_call (enc := fun (r45 : (Bs × Int)) => .tup [.v (.string ⟨⟨r45.1⟩⟩), .v (.int .i64 r45.2)]) (qs := [.agg (cOp (⟨r5, c28, c29, c30, c43, c44, r2.2⟩ : Op))]) (Op_Put_ok fu (⟨r5, c28, c29, c30, c43, c44, r2.2⟩ : Op)) rfl rfl ⟨⟨_, rfl, .rfl⟩, trivial⟩ (fun _ => rfl) call10 rfl rfl fun r45 hr45 => ?_
      refine po_evs (T := tab) 5 rfl rfl ?_
      refine po_nil ?_
      refine pn_seq ?_
      refine pw_seq ?_
      refine pw_region ?_
      refine po_evs (T := tab) 3 rfl rfl ?_
      refine po_split (j := 117) rfl ?_ ?_
      · refine po_evs (T := tab) 12 rfl rfl ?_
        refine po_nil ?_
        refine pn_seq (pw_then rfl ?_)
        refine pw_seq ?_
        refine pw_region ?_
        refine po_build (T := tab) rfl rfl rfl rfl rfl rfl rfl ?_
        refine po_store (T := tab) rfl rfl rfl rfl rfl rfl rfl rfl rfl rfl rfl rfl ?_
        refine po_evs (T := tab) 1 rfl rfl ?_
        refine po_nil ?_
        refine pn_seq ?_
        exact pw_retN (T := tab) rfl rfl rfl ⟨rfl, rfl⟩ trivial rfl
      · refine po_evs (T := tab) 4 rfl rfl ?_
        refine po_split (j := 121) rfl ?_ ?_
        · refine po_evs (T := tab) 8 rfl rfl ?_
          refine po_nil ?_
          refine pn_seq (pw_then rfl ?_)
          refine pw_seq ?_
          refine pw_region ?_
          refine po_build (T := tab) rfl rfl rfl rfl rfl rfl rfl ?_
          refine po_store (T := tab) rfl rfl rfl rfl rfl rfl rfl rfl rfl rfl rfl rfl ?_
          refine po_evs (T := tab) 1 rfl rfl ?_
          refine po_nil ?_
          refine pn_seq ?_
          exact pw_retN (T := tab) rfl rfl rfl ⟨rfl, rfl⟩ trivial rfl
        · refine po_evs (T := tab) 4 rfl rfl ?_
          refine po_split (j := 125) rfl ?_ ?_
          · refine po_evs (T := tab) 4 rfl rfl ?_
            refine po_nil ?_
            refine pn_seq (pw_then rfl ?_)
            refine pw_seq ?_
            refine pw_region ?_
            refine po_build (T := tab) rfl rfl rfl rfl rfl rfl rfl ?_
            refine po_store (T := tab) rfl rfl rfl rfl rfl rfl rfl rfl rfl rfl rfl rfl ?_
            refine po_evs (T := tab) 1 rfl rfl ?_
            refine po_nil ?_
            refine pn_seq ?_
            exact pw_retN (T := tab) rfl rfl rfl ⟨rfl, rfl⟩ trivial rfl
          · refine po_evs (T := tab) 4 rfl rfl ?_
            refine po_nil ?_
            refine pn_seq ?_
            refine pw_cnd rfl ?_ ?_
            · refine pw_seq ?_
              refine pw_region ?_
              refine po_build (T := tab) rfl rfl rfl rfl rfl rfl rfl ?_
              refine po_store (T := tab) rfl rfl rfl rfl rfl rfl rfl rfl rfl rfl rfl rfl ?_
              refine po_evs (T := tab) 1 rfl rfl ?_
              refine po_nil ?_
              refine pn_seq ?_
              exact pw_retN (T := tab) rfl rfl rfl ⟨rfl, rfl⟩ trivial rfl
            · refine pw_skip ?_
              refine pn_seq ?_
              refine pw_seq ?_
              refine pw_region ?_
              refine po_evs (T := tab) 1 rfl rfl ?_
              refine po_store (T := tab) rfl rfl rfl rfl rfl rfl rfl rfl rfl rfl rfl rfl ?_
              refine po_evs (T := tab) 1 rfl rfl ?_
              refine po_nil ?_
              refine pn_seq ?_
              exact pw_retN (T := tab) rfl rfl rfl ⟨rfl, rfl⟩ trivial rfl
    · refine pw_block ?_
      refine pw_unroll 3 ?_
      refine pw_seq ?_
      refine pw_region ?_
      refine po_evs (T := tab) 1 rfl rfl ?_
      refine po_nil ?_
      refine pn_seq ?_
      refine pw_seq ?_
      refine pw_then rfl ?_
      refine pw_skip ?_
      refine pn_seq ?_
      refine pw_seq ?_
      refine pw_joinK (Op_Read_j4 fu s1 r2 r5 r6 c28 c29 c30) (fun ((rest35, ok36, c37) : Bs × Bool × Bs) => [(0, .v (.string ⟨⟨s1⟩⟩)), (2, .loc 2 0), (4, .v (.string ⟨⟨rest35⟩⟩)), (8, .loc 8 0), (9, .loc 9 0), (10, .v (.bool ok36)), (74, .bsl 400740 2), (75, .v (.int .i64 2)), (76, .v (.int .i64 0))]) (fun ((rest35, ok36, c37) : Bs × Bool × Bs) => [(8, .box 23 [.v (.int .i64 r5), .v (.int .i64 c28), .v (.int .i64 c29), .v (.int .i64 c30), .v (.string ⟨⟨c37⟩⟩), .v (.string ⟨⟨[]⟩⟩), .v (.bool r2.2)]), (400740, .box 67 [.loc 8 4, .loc 8 5]), (9, .box 47 [.v (.string ⟨⟨r6.1.word⟩⟩), .v (.string ⟨⟨r6.1.fields⟩⟩)]), (2, .box 23 [.v (.int .i64 0), .v (.int .i64 0), .v (.int .i64 0), .v (.int .i64 0), .v (.string ⟨⟨[]⟩⟩), .v (.string ⟨⟨[]⟩⟩), .v (.bool false)])]) ?_ fun hj4 => ?_
      · rintro ⟨rest35, ok36, c37⟩
        refine pn_seq ?_
        refine pw_region ?_
        refine po_arithK (T := tab) 1 rfl rfl rfl rfl rfl ?_
        refine po_evs (T := tab) 1 rfl rfl ?_
        refine po_nil ?_
        refine pn_unroll 2 ?_
        refine pw_seq ?_
        refine pw_region ?_
        refine po_evs (T := tab) 1 rfl rfl ?_
        refine po_nil ?_
        refine pn_seq ?_
        refine pw_seq ?_
        refine pw_then rfl ?_
        refine pw_skip ?_
        refine pn_seq ?_
        refine pw_seq ?_
        refine pw_block ?_
        refine pw_seq ?_
        refine pw_region ?_
        refine po_evs (T := tab) 1 rfl rfl ?_
        refine po_idxP (T := tab) (i := 1) rfl rfl rfl rfl rfl rfl rfl rfl ?_
        refine po_evs (T := tab) 3 rfl rfl ?_
        refine po_nil ?_
        refine pn_seq ?_
        refine pw_seq ?_
        refine pw_region ?_
        refine po_evs (T := tab) 2 rfl rfl ?_
        refine po_split (j := 82) rfl ?_ ?_
        · refine po_evs (T := tab) 3 rfl rfl ?_
          refine po_arithK (T := tab) 4 rfl rfl rfl rfl rfl ?_
          refine po_chr (T := tab) (s := r6.1.fields) rfl rfl rfl rfl rfl rfl rfl fun b38 hb38 => ?_
          refine po_evs (T := tab) 2 rfl rfl ?_
          refine po_nil ?_
          refine pn_seq ?_
          refine pw_cnd rfl ?_ ?_
          · refine pw_seq ?_
            refine pw_region ?_
            refine po_evs (T := tab) 2 rfl rfl ?_
            refine po_call (enc := fun (r39 : (Bs × Bs × Bool)) => .tup [.v (.string ⟨⟨r39.1⟩⟩), .v (.string ⟨⟨r39.2.1⟩⟩), .v (.bool r39.2.2)]) (qs := [.v (.string ⟨⟨rest35⟩⟩)]) (Op_readText_ok fu rest35) rfl rfl ⟨⟨_, rfl, .rfl⟩, trivial⟩ (fun _ => rfl) call43 rfl rfl fun r39 hr39 => ?_
            refine po_evs (T := tab) 5 rfl rfl ?_
            refine po_store (T := tab) rfl rfl rfl rfl rfl rfl rfl rfl rfl rfl rfl rfl ?_
            refine po_evs (T := tab) 2 rfl rfl ?_
            refine po_nil ?_
            refine pn_seq ?_
            refine pw_seq ?_
            refine pw_region ?_
            refine po_evs (T := tab) 1 rfl rfl ?_
            refine po_call (enc := fun (r40 : (Bs × Bool)) => .tup [.v (.string ⟨⟨r40.1⟩⟩), .v (.bool r40.2)]) (qs := [.v (.string ⟨⟨r39.2.1⟩⟩), .v (.string ⟨⟨[32]⟩⟩)]) (Strings_CutPrefix_ok fu r39.2.1 [32]) rfl rfl ⟨⟨_, rfl, .rfl⟩, ⟨_, rfl, .rfl⟩, trivial⟩ (fun _ => rfl) call38 rfl rfl fun r40 hr40 => ?_
            refine po_evs (T := tab) 5 rfl rfl ?_
            refine po_nil ?_
            refine pn_seq ?_
            refine pw_seq ?_
            refine pw_region ?_
            refine po_evs (T := tab) 2 rfl rfl ?_
            refine po_split (j := 104) rfl ?_ ?_
            · refine po_evs (T := tab) 3 rfl rfl ?_
              refine po_nil ?_
              refine pn_seq (pw_else rfl ?_)
              refine pw_skip ?_
              refine pn_block ?_
              refine pn_seq ?_
              refine pw_region ?_
              refine po_arithK (T := tab) 2 rfl rfl rfl rfl rfl ?_
              refine po_evs (T := tab) 1 rfl rfl ?_
              refine po_nil ?_
              refine pn_unroll 1 ?_
              refine pw_seq ?_
              refine pw_region ?_
              refine po_evs (T := tab) 1 rfl rfl ?_
              refine po_nil ?_
              refine pn_seq ?_
              refine pw_seq ?_
              refine pw_else rfl ?_
              refine pw_exit rfl ?_
              exact pn_sub' (hj5 (r39.2.1, r39.2.2, c37, r39.1)) ⟨rfl, rfl, rfl, rfl, rfl, trivial⟩ ⟨rfl, rfl, trivial⟩ rfl
            · refine po_evs (T := tab) 3 rfl rfl ?_
              refine po_nil ?_
              refine pn_seq (pw_else rfl ?_)
              refine pw_skip ?_
              refine pn_block ?_
              refine pn_seq ?_
              refine pw_region ?_
              refine po_arithK (T := tab) 2 rfl rfl rfl rfl rfl ?_
              refine po_evs (T := tab) 1 rfl rfl ?_
              refine po_nil ?_
              refine pn_unroll 1 ?_
              refine pw_seq ?_
              refine pw_region ?_
              refine po_evs (T := tab) 1 rfl rfl ?_
              refine po_nil ?_
              refine pn_seq ?_
              refine pw_seq ?_
              refine pw_else rfl ?_
              refine pw_exit rfl ?_
              exact pn_sub' (hj5 (r39.2.1, r39.2.2, c37, r39.1)) ⟨rfl, rfl, rfl, rfl, rfl, trivial⟩ ⟨rfl, rfl, trivial⟩ rfl
          · refine pw_skip ?_
            refine pn_block ?_
            refine pn_seq ?_
            refine pw_region ?_
            refine po_arithK (T := tab) 2 rfl rfl rfl rfl rfl ?_
            refine po_evs (T := tab) 1 rfl rfl ?_
            refine po_nil ?_
            refine pn_unroll 1 ?_
            refine pw_seq ?_
            refine pw_region ?_
            refine po_evs (T := tab) 1 rfl rfl ?_
            refine po_nil ?_
            refine pn_seq ?_
            refine pw_seq ?_
            refine pw_else rfl ?_
            refine pw_exit rfl ?_
            exact pn_sub' (hj5 (rest35, ok36, c37, [])) ⟨rfl, rfl, rfl, rfl, rfl, trivial⟩ ⟨rfl, rfl, trivial⟩ rfl
        · refine po_evs (T := tab) 7 rfl rfl ?_
          refine po_nil ?_
          refine pn_seq (pw_else rfl ?_)
          refine pw_skip ?_
          refine pn_block ?_
          refine pn_seq ?_
          refine pw_region ?_
          refine po_arithK (T := tab) 2 rfl rfl rfl rfl rfl ?_
          refine po_evs (T := tab) 1 rfl rfl ?_
          refine po_nil ?_
          refine pn_unroll 1 ?_
          refine pw_seq ?_
          refine pw_region ?_
          refine po_evs (T := tab) 1 rfl rfl ?_
          refine po_nil ?_
          refine pn_seq ?_
          refine pw_seq ?_
          refine pw_else rfl ?_
          refine pw_exit rfl ?_
          exact pn_sub' (hj5 (rest35, ok36, c37, [])) ⟨rfl, rfl, rfl, rfl, rfl, trivial⟩ ⟨rfl, rfl, trivial⟩ rfl
      · refine pw_block ?_
        refine pw_seq ?_
        refine pw_region ?_
        refine po_evs (T := tab) 1 rfl rfl ?_
        refine po_idxP (T := tab) (i := 0) rfl rfl rfl rfl rfl rfl rfl rfl ?_
        refine po_evs (T := tab) 3 rfl rfl ?_
        refine po_nil ?_
        refine pn_seq ?_
        refine pw_seq ?_
        refine pw_region ?_
        refine po_evs (T := tab) 2 rfl rfl ?_
        refine po_split (j := 82) rfl ?_ ?_
        · refine po_evs (T := tab) 3 rfl rfl ?_
          refine po_arithK (T := tab) 3 rfl rfl rfl rfl rfl ?_
          refine po_chr (T := tab) (s := r6.1.fields) rfl rfl rfl rfl rfl rfl rfl fun b32 hb32 => ?_
          refine po_evs (T := tab) 2 rfl rfl ?_
          refine po_nil ?_
          refine pn_seq ?_
          refine pw_cnd rfl ?_ ?_
          · refine pw_seq ?_
            refine pw_region ?_
            refine po_evs (T := tab) 2 rfl rfl ?_
            refine po_call (enc := fun (r33 : (Bs × Bs × Bool)) => .tup [.v (.string ⟨⟨r33.1⟩⟩), .v (.string ⟨⟨r33.2.1⟩⟩), .v (.bool r33.2.2)]) (qs := [.v (.string ⟨⟨rest26⟩⟩)]) (Op_readText_ok fu rest26) rfl rfl ⟨⟨_, rfl, .rfl⟩, trivial⟩ (fun _ => rfl) call43 rfl rfl fun r33 hr33 => ?_
            refine po_evs (T := tab) 5 rfl rfl ?_
            refine po_store (T := tab) rfl rfl rfl rfl rfl rfl rfl rfl rfl rfl rfl rfl ?_
            refine po_evs (T := tab) 2 rfl rfl ?_
            refine po_nil ?_
            refine pn_seq ?_
            refine pw_seq ?_
            refine pw_region ?_
            refine po_evs (T := tab) 1 rfl rfl ?_
            refine po_call (enc := fun (r34 : (Bs × Bool)) => .tup [.v (.string ⟨⟨r34.1⟩⟩), .v (.bool r34.2)]) (qs := [.v (.string ⟨⟨r33.2.1⟩⟩), .v (.string ⟨⟨[32]⟩⟩)]) (Strings_CutPrefix_ok fu r33.2.1 [32]) rfl rfl ⟨⟨_, rfl, .rfl⟩, ⟨_, rfl, .rfl⟩, trivial⟩ (fun _ => rfl) call38 rfl rfl fun r34 hr34 => ?_
            refine po_evs (T := tab) 5 rfl rfl ?_
            refine po_nil ?_
            refine pn_seq ?_
            refine pw_seq ?_
            refine pw_region ?_
            refine po_evs (T := tab) 2 rfl rfl ?_
            refine po_split (j := 104) rfl ?_ ?_
            · refine po_evs (T := tab) 3 rfl rfl ?_
              refine po_nil ?_
              refine pn_seq (pw_then rfl ?_)
              refine pw_region ?_
              refine po_evs (T := tab) 2 rfl rfl ?_
              refine po_nil ?_
              refine pn_block ?_
              exact pn_sub' (hj4 (r34.1, r33.2.2, r33.1)) ⟨rfl, rfl, rfl, rfl, rfl, rfl, rfl, rfl, rfl, trivial⟩ ⟨rfl, rfl, rfl, rfl, trivial⟩ rfl
            · refine po_evs (T := tab) 3 rfl rfl ?_
              refine po_nil ?_
              refine pn_seq (pw_else rfl ?_)
              refine pw_skip ?_
              refine pn_block ?_
              exact pn_sub' (hj4 (r33.2.1, r33.2.2, r33.1)) ⟨rfl, rfl, rfl, rfl, rfl, rfl, rfl, rfl, rfl, trivial⟩ ⟨rfl, rfl, rfl, rfl, trivial⟩ rfl
          · refine pw_skip ?_
            refine pn_block ?_
            exact pn_sub' (hj4 (rest26, ok27, [])) ⟨rfl, rfl, rfl, rfl, rfl, rfl, rfl, rfl, rfl, trivial⟩ ⟨rfl, rfl, rfl, rfl, trivial⟩ rfl
        · refine po_evs (T := tab) 7 rfl rfl ?_
          refine po_nil ?_
          refine pn_seq (pw_else rfl ?_)
          refine pw_skip ?_
          refine pn_block ?_
          exact pn_sub' (hj4 (rest26, ok27, [])) ⟨rfl, rfl, rfl, rfl, rfl, rfl, rfl, rfl, rfl, trivial⟩ ⟨rfl, rfl, rfl, rfl, trivial⟩ rfl
  · refine pw_block ?_
    refine pw_unroll 4 ?_
    refine pw_seq ?_
    refine pw_region ?_
    refine po_evs (T := tab) 1 rfl rfl ?_
    refine po_nil ?_
    refine pn_seq ?_
    refine pw_seq ?_
    refine pw_then rfl ?_
    refine pw_skip ?_
    refine pn_seq ?_
    refine pw_seq ?_
    refine pw_joinK (Op_Read_j1 fu s1 r2 r5 r6) (fun ((rest12, ok13, c14) : Bs × Bool × Int) => [(0, .v (.string ⟨⟨s1⟩⟩)), (2, .loc 2 0), (4, .v (.string ⟨⟨rest12⟩⟩)), (8, .loc 8 0), (9, .loc 9 0), (10, .v (.bool ok13)), (41, .bsl 400410 3), (42, .v (.int .i64 3)), (43, .v (.int .i64 0))]) (fun ((rest12, ok13, c14) : Bs × Bool × Int) => [(8, .box 23 [.v (.int .i64 r5), .v (.int .i64 c14), .v (.int .i64 0), .v (.int .i64 0), .v (.string ⟨⟨[]⟩⟩), .v (.string ⟨⟨[]⟩⟩), .v (.bool r2.2)]), (400410, .box 63 [.loc 8 1, .loc 8 2, .loc 8 3]), (9, .box 47 [.v (.string ⟨⟨r6.1.word⟩⟩), .v (.string ⟨⟨r6.1.fields⟩⟩)]), (2, .box 23 [.v (.int .i64 0), .v (.int .i64 0), .v (.int .i64 0), .v (.int .i64 0), .v (.string ⟨⟨[]⟩⟩), .v (.string ⟨⟨[]⟩⟩), .v (.bool false)])]) ?_ fun hj1 => ?_
    · rintro ⟨rest12, ok13, c14⟩
      refine pn_seq ?_
      refine pw_region ?_
      refine po_arithK (T := tab) 1 rfl rfl rfl rfl rfl ?_
      refine po_evs (T := tab) 1 rfl rfl ?_
      refine po_nil ?_
      refine pn_unroll 3 ?_
      refine pw_seq ?_
      refine pw_region ?_
      refine po_evs (T := tab) 1 rfl rfl ?_
      refine po_nil ?_
      refine pn_seq ?_
      refine pw_seq ?_
      refine pw_then rfl ?_
      refine pw_skip ?_
      refine pn_seq ?_
      refine pw_seq ?_
      refine pw_joinK (Op_Read_j2 fu s1 r2 r5 r6 c14) (fun ((rest19, ok20, c21) : Bs × Bool × Int) => [(0, .v (.string ⟨⟨s1⟩⟩)), (2, .loc 2 0), (4, .v (.string ⟨⟨rest19⟩⟩)), (8, .loc 8 0), (9, .loc 9 0), (10, .v (.bool ok20)), (41, .bsl 400410 3), (42, .v (.int .i64 3)), (43, .v (.int .i64 1))]) (fun ((rest19, ok20, c21) : Bs × Bool × Int) => [(8, .box 23 [.v (.int .i64 r5), .v (.int .i64 c14), .v (.int .i64 c21), .v (.int .i64 0), .v (.string ⟨⟨[]⟩⟩), .v (.string ⟨⟨[]⟩⟩), .v (.bool r2.2)]), (400410, .box 63 [.loc 8 1, .loc 8 2, .loc 8 3]), (9, .box 47 [.v (.string ⟨⟨r6.1.word⟩⟩), .v (.string ⟨⟨r6.1.fields⟩⟩)]), (2, .box 23 [.v (.int .i64 0), .v (.int .i64 0), .v (.int .i64 0), .v (.int .i64 0), .v (.string ⟨⟨[]⟩⟩), .v (.string ⟨⟨[]⟩⟩), .v (.bool false)])]) ?_ fun hj2 => ?_
      · rintro ⟨rest19, ok20, c21⟩
        refine pn_seq ?_
        refine pw_region ?_
        refine po_arithK (T := tab) 2 rfl rfl rfl rfl rfl ?_
        refine po_evs (T := tab) 1 rfl rfl ?_
        refine po_nil ?_
        refine pn_unroll 2 ?_
        refine pw_seq ?_
        refine pw_region ?_
        refine po_evs (T := tab) 1 rfl rfl ?_
        refine po_nil ?_
        refine pn_seq ?_
        refine pw_seq ?_
        refine pw_then rfl ?_
        refine pw_skip ?_
        refine pn_seq ?_
        refine pw_seq ?_
        refine pw_block ?_
        refine pw_seq ?_
        refine pw_region ?_
        refine po_evs (T := tab) 1 rfl rfl ?_
        refine po_idxP (T := tab) (i := 2) rfl rfl rfl rfl rfl rfl rfl rfl ?_
        refine po_evs (T := tab) 3 rfl rfl ?_
        refine po_nil ?_
        refine pn_seq ?_
        refine pw_seq ?_
        refine pw_region ?_
        refine po_evs (T := tab) 2 rfl rfl ?_
        refine po_split (j := 49) rfl ?_ ?_
        · refine po_evs (T := tab) 3 rfl rfl ?_
          refine po_chr (T := tab) (s := r6.1.fields) rfl rfl rfl rfl rfl rfl rfl fun b22 hb22 => ?_
          refine po_evs (T := tab) 2 rfl rfl ?_
          refine po_nil ?_
          refine pn_seq ?_
          refine pw_cnd rfl ?_ ?_
          · refine pw_seq ?_
            refine pw_region ?_
            refine po_evs (T := tab) 1 rfl rfl ?_
            refine po_call (enc := fun (r23 : (Bs × Bs × Bool)) => .tup [.v (.string ⟨⟨r23.1⟩⟩), .v (.string ⟨⟨r23.2.1⟩⟩), .v (.bool r23.2.2)]) (qs := [.v (.string ⟨⟨rest19⟩⟩), .v (.string ⟨⟨[32]⟩⟩)]) (Strings_Cut_ok fu rest19 [32]) rfl rfl ⟨⟨_, rfl, .rfl⟩, ⟨_, rfl, .rfl⟩, trivial⟩ (fun _ => rfl) call39 rfl rfl fun r23 hr23 => ?_
            refine po_evs (T := tab) 6 rfl rfl ?_
            refine po_nil ?_
            refine pn_seq ?_
            refine pw_region ?_
            refine po_evs (T := tab) 4 rfl rfl ?_
            refine po_chr (T := tab) (s := r6.1.fields) rfl rfl rfl rfl rfl rfl rfl fun b24 hb24 => ?_
            refine po_evs (T := tab) 1 rfl rfl ?_
            refine po_call (enc := fun (r25 : (Int × Bool)) => .tup [.v (.int .i64 r25.1), .v (.bool r25.2)]) (qs := [.v (.int .u8 b24), .v (.string ⟨⟨r23.1⟩⟩)]) (Op_readNumber_ok fu b24 r23.1) rfl rfl ⟨⟨_, rfl, .rfl⟩, ⟨_, rfl, .rfl⟩, trivial⟩ (fun _ => rfl) call42 rfl rfl fun r25 hr25 => ?_
            refine po_evs (T := tab) 4 rfl rfl ?_
            refine po_store (T := tab) rfl rfl rfl rfl rfl rfl rfl rfl rfl rfl rfl rfl ?_
            refine po_evs (T := tab) 1 rfl rfl ?_
            refine po_nil ?_
            refine pn_block ?_
            refine pn_seq ?_
            refine pw_region ?_
            refine po_arithK (T := tab) 3 rfl rfl rfl rfl rfl ?_
            refine po_evs (T := tab) 1 rfl rfl ?_
            refine po_nil ?_
            refine pn_unroll 1 ?_
            refine pw_seq ?_
            refine pw_region ?_
            refine po_evs (T := tab) 1 rfl rfl ?_
            refine po_nil ?_
            refine pn_seq ?_
            refine pw_seq ?_
            refine pw_else rfl ?_
            refine pw_exit rfl ?_
            exact pn_sub' (hj3 (r23.2.1, r25.2, c14, c21, r25.1)) ⟨rfl, rfl, rfl, rfl, rfl, rfl, trivial⟩ ⟨rfl, rfl, rfl, trivial⟩ rfl
          · refine pw_skip ?_
            refine pn_block ?_
            refine pn_seq ?_
            refine pw_region ?_
            refine po_arithK (T := tab) 3 rfl rfl rfl rfl rfl ?_
            refine po_evs (T := tab) 1 rfl rfl ?_
            refine po_nil ?_
            refine pn_unroll 1 ?_
            refine pw_seq ?_
            refine pw_region ?_
            refine po_evs (T := tab) 1 rfl rfl ?_
            refine po_nil ?_
            refine pn_seq ?_
            refine pw_seq ?_
            refine pw_else rfl ?_
            refine pw_exit rfl ?_
            exact pn_sub' (hj3 (rest19, ok20, c14, c21, 0)) ⟨rfl, rfl, rfl, rfl, rfl, rfl, trivial⟩ ⟨rfl, rfl, rfl, trivial⟩ rfl
        · refine po_evs (T := tab) 6 rfl rfl ?_
          refine po_nil ?_
          refine pn_seq (pw_else rfl ?_)
          refine pw_skip ?_
          refine pn_block ?_
          refine pn_seq ?_
          refine pw_region ?_
          refine po_arithK (T := tab) 3 rfl rfl rfl rfl rfl ?_
          refine po_evs (T := tab) 1 rfl rfl ?_
          refine po_nil ?_
          refine pn_unroll 1 ?_
          refine pw_seq ?_
          refine pw_region ?_
          refine po_evs (T := tab) 1 rfl rfl ?_
          refine po_nil ?_
          refine pn_seq ?_
          refine pw_seq ?_
          refine pw_else rfl ?_
          refine pw_exit rfl ?_
          exact pn_sub' (hj3 (rest19, ok20, c14, c21, 0)) ⟨rfl, rfl, rfl, rfl, rfl, rfl, trivial⟩ ⟨rfl, rfl, rfl, trivial⟩ rfl
      · refine pw_block ?_
        refine pw_seq ?_
        refine pw_region ?_
        refine po_evs (T := tab) 1 rfl rfl ?_
        refine po_idxP (T := tab) (i := 1) rfl rfl rfl rfl rfl rfl rfl rfl ?_
        refine po_evs (T := tab) 3 rfl rfl ?_
        refine po_nil ?_
        refine pn_seq ?_
        refine pw_seq ?_
        refine pw_region ?_
        refine po_evs (T := tab) 2 rfl rfl ?_
        refine po_split (j := 49) rfl ?_ ?_
        · refine po_evs (T := tab) 3 rfl rfl ?_
          refine po_chr (T := tab) (s := r6.1.fields) rfl rfl rfl rfl rfl rfl rfl fun b15 hb15 => ?_
          refine po_evs (T := tab) 2 rfl rfl ?_
          refine po_nil ?_
          refine pn_seq ?_
          refine pw_cnd rfl ?_ ?_
          · refine pw_seq ?_
            refine pw_region ?_
            refine po_evs (T := tab) 1 rfl rfl ?_
            refine po_call (enc := fun (r16 : (Bs × Bs × Bool)) => .tup [.v (.string ⟨⟨r16.1⟩⟩), .v (.string ⟨⟨r16.2.1⟩⟩), .v (.bool r16.2.2)]) (qs := [.v (.string ⟨⟨rest12⟩⟩), .v (.string ⟨⟨[32]⟩⟩)]) (Strings_Cut_ok fu rest12 [32]) rfl rfl ⟨⟨_, rfl, .rfl⟩, ⟨_, rfl, .rfl⟩, trivial⟩ (fun _ => rfl) call39 rfl rfl fun r16 hr16 => ?_
            refine po_evs (T := tab) 6 rfl rfl ?_
            refine po_nil ?_
            refine pn_seq ?_
            refine pw_region ?_
            refine po_evs (T := tab) 4 rfl rfl ?_
            refine po_chr (T := tab) (s := r6.1.fields) rfl rfl rfl rfl rfl rfl rfl fun b17 hb17 => ?_
            refine po_evs (T := tab) 1 rfl rfl ?_
            refine po_call (enc := fun (r18 : (Int × Bool)) => .tup [.v (.int .i64 r18.1), .v (.bool r18.2)]) (qs := [.v (.int .u8 b17), .v (.string ⟨⟨r16.1⟩⟩)]) (Op_readNumber_ok fu b17 r16.1) rfl rfl ⟨⟨_, rfl, .rfl⟩, ⟨_, rfl, .rfl⟩, trivial⟩ (fun _ => rfl) call42 rfl rfl fun r18 hr18 => ?_
            refine po_evs (T := tab) 4 rfl rfl ?_
            refine po_store (T := tab) rfl rfl rfl rfl rfl rfl rfl rfl rfl rfl rfl rfl ?_
            refine po_evs (T := tab) 1 rfl rfl ?_
            refine po_nil ?_
            refine pn_block ?_
            exact pn_sub' (hj2 (r16.2.1, r18.2, r18.1)) ⟨rfl, rfl, rfl, rfl, rfl, rfl, rfl, rfl, rfl, trivial⟩ ⟨rfl, rfl, rfl, rfl, trivial⟩ rfl
          · refine pw_skip ?_
            refine pn_block ?_
            exact pn_sub' (hj2 (rest12, ok13, 0)) ⟨rfl, rfl, rfl, rfl, rfl, rfl, rfl, rfl, rfl, trivial⟩ ⟨rfl, rfl, rfl, rfl, trivial⟩ rfl
        · refine po_evs (T := tab) 6 rfl rfl ?_
          refine po_nil ?_
          refine pn_seq (pw_else rfl ?_)
          refine pw_skip ?_
          refine pn_block ?_
          exact pn_sub' (hj2 (rest12, ok13, 0)) ⟨rfl, rfl, rfl, rfl, rfl, rfl, rfl, rfl, rfl, trivial⟩ ⟨rfl, rfl, rfl, rfl, trivial⟩ rfl
    · refine pw_block ?_
      refine pw_seq ?_
      refine pw_region ?_
      refine po_evs (T := tab) 1 rfl rfl ?_
      refine po_idxP (T := tab) (i := 0) rfl rfl rfl rfl rfl rfl rfl rfl ?_
      refine po_evs (T := tab) 3 rfl rfl ?_
      refine po_nil ?_
      refine pn_seq ?_
      refine pw_seq ?_
      refine pw_region ?_
      refine po_evs (T := tab) 2 rfl rfl ?_
      refine po_split (j := 49) rfl ?_ ?_
      · refine po_evs (T := tab) 3 rfl rfl ?_
        refine po_chr (T := tab) (s := r6.1.fields) rfl rfl rfl rfl rfl rfl rfl fun b8 hb8 => ?_
        refine po_evs (T := tab) 2 rfl rfl ?_
        refine po_nil ?_
        refine pn_seq ?_
        refine pw_cnd rfl ?_ ?_
        · refine pw_seq ?_
          refine pw_region ?_
          refine po_evs (T := tab) 1 rfl rfl ?_
          refine po_call (enc := fun (r9 : (Bs × Bs × Bool)) => .tup [.v (.string ⟨⟨r9.1⟩⟩), .v (.string ⟨⟨r9.2.1⟩⟩), .v (.bool r9.2.2)]) (qs := [.v (.string ⟨⟨r3.2.1⟩⟩), .v (.string ⟨⟨[32]⟩⟩)]) (Strings_Cut_ok fu r3.2.1 [32]) rfl rfl ⟨⟨_, rfl, .rfl⟩, ⟨_, rfl, .rfl⟩, trivial⟩ (fun _ => rfl) call39 rfl rfl fun r9 hr9 => ?_
          refine po_evs (T := tab) 6 rfl rfl ?_
          refine po_nil ?_
          refine pn_seq ?_
          refine pw_region ?_
          refine po_evs (T := tab) 4 rfl rfl ?_
          refine po_chr (T := tab) (s := r6.1.fields) rfl rfl rfl rfl rfl rfl rfl fun b10 hb10 => ?_
          refine po_evs (T := tab) 1 rfl rfl ?_
          refine po_call (enc := fun (r11 : (Int × Bool)) => .tup [.v (.int .i64 r11.1), .v (.bool r11.2)]) (qs := [.v (.int .u8 b10), .v (.string ⟨⟨r9.1⟩⟩)]) (Op_readNumber_ok fu b10 r9.1) rfl rfl ⟨⟨_, rfl, .rfl⟩, ⟨_, rfl, .rfl⟩, trivial⟩ (fun _ => rfl) call42 rfl rfl fun r11 hr11 => ?_
          refine po_evs (T := tab) 4 rfl rfl ?_
          refine po_store (T := tab) rfl rfl rfl rfl rfl rfl rfl rfl rfl rfl rfl rfl ?_
          refine po_evs (T := tab) 1 rfl rfl ?_
          refine po_nil ?_
          refine pn_block ?_
          exact pn_sub' (hj1 (r9.2.1, r11.2, r11.1)) ⟨rfl, rfl, rfl, rfl, rfl, rfl, rfl, rfl, rfl, trivial⟩ ⟨rfl, rfl, rfl, rfl, trivial⟩ rfl
        · refine pw_skip ?_
          refine pn_block ?_
          exact pn_sub' (hj1 (r3.2.1, r6.2, 0)) ⟨rfl, rfl, rfl, rfl, rfl, rfl, rfl, rfl, rfl, trivial⟩ ⟨rfl, rfl, rfl, rfl, trivial⟩ rfl
      · refine po_evs (T := tab) 6 rfl rfl ?_
        refine po_nil ?_
        refine pn_seq (pw_else rfl ?_)
        refine pw_skip ?_
        refine pn_block ?_
        exact pn_sub' (hj1 (r3.2.1, r6.2, 0)) ⟨rfl, rfl, rfl, rfl, rfl, rfl, rfl, rfl, rfl, trivial⟩ ⟨rfl, rfl, rfl, rfl, trivial⟩ rfl

def Op_Aim_j8 (o1 : Op) (many3 : Int) (c9 : Int) (c12 : Int) (c14 : Int) : Option (Op × Int) := cnd (decide (c14 < 0)) (some ((⟨0, 0, 0, 0, [], [], false⟩ : Op), 6)) (cnd (decide (c14 ≥ many3)) (some ((⟨0, 0, 0, 0, [], [], false⟩ : Op), 6)) (some ((⟨o1.Kind, c9, c12, c14, o1.S, o1.T, o1.Must⟩ : Op), 0)))

def Op_Aim_j7 (o1 : Op) (self2 : Int) (many3 : Int) (c9 : Int) (c12 : Int) (x_ : Unit) : Option (Op × Int) := cnd (o1.C == (-2)) ((Op_Aim_j8 o1 many3 c9 c12) self2) (cnd (o1.C == (-3)) ((Op_Aim_j8 o1 many3 c9 c12) (IntKind.i64.wrap (many3 - 1))) ((Op_Aim_j8 o1 many3 c9 c12) o1.C))

def Op_Aim_j6 (o1 : Op) (self2 : Int) (many3 : Int) (r5 : (Op_form × Bool)) (c9 : Int) (c12 : Int) : Option (Op × Int) := bnd (chr r5.1.fields 2) fun b13 => cnd (b13 == 46) (some ((⟨o1.Kind, c9, c12, o1.C, o1.S, o1.T, o1.Must⟩ : Op), 0)) (cnd (b13 == 105) (some ((⟨o1.Kind, c9, c12, o1.C, o1.S, o1.T, o1.Must⟩ : Op), 0)) (cnd (b13 == 111) (cnd (o1.C == (-1)) (some ((⟨o1.Kind, c9, c12, o1.C, o1.S, o1.T, o1.Must⟩ : Op), 0)) ((Op_Aim_j7 o1 self2 many3 c9 c12) ())) ((Op_Aim_j7 o1 self2 many3 c9 c12) ())))

def Op_Aim_j5 (o1 : Op) (self2 : Int) (many3 : Int) (r5 : (Op_form × Bool)) (c9 : Int) (c11 : Int) : Option (Op × Int) := cnd (decide (c11 < 0)) (some ((⟨0, 0, 0, 0, [], [], false⟩ : Op), 6)) (cnd (decide (c11 ≥ many3)) (some ((⟨0, 0, 0, 0, [], [], false⟩ : Op), 6)) ((Op_Aim_j6 o1 self2 many3 r5 c9) c11))

def Op_Aim_j4 (o1 : Op) (self2 : Int) (many3 : Int) (r5 : (Op_form × Bool)) (c9 : Int) (x_ : Unit) : Option (Op × Int) := cnd (o1.B == (-2)) ((Op_Aim_j5 o1 self2 many3 r5 c9) self2) (cnd (o1.B == (-3)) ((Op_Aim_j5 o1 self2 many3 r5 c9) (IntKind.i64.wrap (many3 - 1))) ((Op_Aim_j5 o1 self2 many3 r5 c9) o1.B))

def Op_Aim_j3 (o1 : Op) (self2 : Int) (many3 : Int) (r5 : (Op_form × Bool)) (c9 : Int) : Option (Op × Int) := bnd (chr r5.1.fields 1) fun b10 => cnd (b10 == 46) ((Op_Aim_j6 o1 self2 many3 r5 c9) o1.B) (cnd (b10 == 105) ((Op_Aim_j6 o1 self2 many3 r5 c9) o1.B) (cnd (b10 == 111) (cnd (o1.B == (-1)) ((Op_Aim_j6 o1 self2 many3 r5 c9) o1.B) ((Op_Aim_j4 o1 self2 many3 r5 c9) ())) ((Op_Aim_j4 o1 self2 many3 r5 c9) ())))

def Op_Aim_j2 (o1 : Op) (self2 : Int) (many3 : Int) (r5 : (Op_form × Bool)) (c8 : Int) : Option (Op × Int) := cnd (decide (c8 < 0)) (some ((⟨0, 0, 0, 0, [], [], false⟩ : Op), 6)) (cnd (decide (c8 ≥ many3)) (some ((⟨0, 0, 0, 0, [], [], false⟩ : Op), 6)) ((Op_Aim_j3 o1 self2 many3 r5) c8))

def Op_Aim_j1 (o1 : Op) (self2 : Int) (many3 : Int) (r5 : (Op_form × Bool)) (x_ : Unit) : Option (Op × Int) := cnd (o1.A == (-2)) ((Op_Aim_j2 o1 self2 many3 r5) self2) (cnd (o1.A == (-3)) ((Op_Aim_j2 o1 self2 many3 r5) (IntKind.i64.wrap (many3 - 1))) ((Op_Aim_j2 o1 self2 many3 r5) o1.A))

def Op_Aim_m (fu : Nat) (o1 : Op) (self2 : Int) (many3 : Int) : Option (Op × Int) := bnd (Op_Right_m fu o1) fun r4 => cnd (!r4) (some ((⟨0, 0, 0, 0, [], [], false⟩ : Op), 2)) (bnd (Op_formOf_m fu o1.Kind) fun r5 => bnd (Op_numbers_m fu) fun r6 => bnd (chr r5.1.fields 0) fun b7 => cnd (b7 == 46) ((Op_Aim_j3 o1 self2 many3 r5) o1.A) (cnd (b7 == 105) ((Op_Aim_j3 o1 self2 many3 r5) o1.A) (cnd (b7 == 111) (cnd (o1.A == (-1)) ((Op_Aim_j3 o1 self2 many3 r5) o1.A) ((Op_Aim_j1 o1 self2 many3 r5) ())) ((Op_Aim_j1 o1 self2 many3 r5) ()))))

set_option maxHeartbeats 10000000 in
set_option maxRecDepth 100000 in
theorem Op_Aim_ok (fu : Nat) (o1 : Op) (self2 : Int) (many3 : Int) : ∀ r, Op_Aim_m fu o1 self2 many3 = some r → DC laidL Tryz.prog 19 [.agg (cOp o1), .v (.int .i64 self2), .v (.int .i64 many3)] (.tup [.agg (cOp r.1), .v (.int .i64 r.2)]) := by
  intro r hr
  refine fc_intro (args := [.agg (cOp o1), .v (.int .i64 self2), .v (.int .i64 many3)]) (S := []) (N0 := []) (post := fun r p S => p = .tup [.agg (cOp r.1), .v (.int .i64 r.2)] ∧ S = []) Tryz.func19 rfl rfl hr fun w0 X X0 σ0 _ => ?_
  refine pw_seq ?_
  refine pw_region ?_
  refine po_box  3 rfl rfl rfl rfl rfl rfl rfl rfl rfl rfl ?_
  refine po_alloc (T := tab) 6 rfl rfl rfl rfl rfl rfl rfl rfl rfl ?_
  refine po_evs (T := tab) 1 rfl rfl ?_
  refine po_nil ?_
  refine pn_seq ?_
  refine pw_seq ?_
  refine pw_seq ?_
  refine pw_region ?_
  refine po_evs (T := tab) 1 rfl rfl ?_
  refine po_call (enc := fun (r4 : Bool) => .v (.bool r4)) (qs := [.agg (cOp o1)]) (Op_Right_ok fu o1) rfl rfl ⟨⟨_, rfl, .rfl⟩, trivial⟩ (fun _ => rfl) call11 rfl rfl fun r4 hr4 => ?_
  refine po_evs (T := tab) 1 rfl rfl ?_
  refine po_nil ?_
  refine pn_seq ?_
  refine pw_cnd rfl ?_ ?_
  · refine pw_seq ?_
    refine pw_region ?_
    refine po_build (T := tab) rfl rfl rfl rfl rfl rfl rfl ?_
    refine po_store (T := tab) rfl rfl rfl rfl rfl rfl rfl rfl rfl rfl rfl rfl ?_
    refine po_evs (T := tab) 1 rfl rfl ?_
    refine po_nil ?_
    refine pn_seq ?_
    exact pw_retN (T := tab) rfl rfl rfl ⟨rfl, rfl⟩ trivial rfl
  · refine pw_skip ?_
    refine pn_seq ?_
    refine pw_seq ?_
    refine pw_region ?_
    refine po_evs (T := tab) 2 rfl rfl ?_
    refine po_call (enc := fun (r5 : (Op_form × Bool)) => .tup [.agg (cOp_form r5.1), .v (.bool r5.2)]) (qs := [.v (.int .i64 o1.Kind)]) (Op_formOf_ok fu o1.Kind) rfl rfl ⟨⟨_, rfl, .rfl⟩, trivial⟩ (fun _ => rfl) call26 rfl rfl fun r5 hr5 => ?_
    refine po_evs (T := tab) 3 rfl rfl ?_
    refine po_alloc (T := tab) 8 rfl rfl rfl rfl rfl rfl rfl rfl rfl ?_
    refine po_store (T := tab) rfl rfl rfl rfl rfl rfl rfl rfl rfl rfl rfl rfl ?_
    refine po_evs (T := tab) 1 rfl rfl ?_
    refine po_nil ?_
    refine pn_seq ?_
    refine pw_seq ?_
    refine pw_seq ?_
    refine pw_region ?_
    refine po_turn [400230] (enc := fun (r6 : Unit) => .bsl 400230 3) (Sr := fun (r6 : Unit) => [(3, .box 23 [.v (.int .i64 o1.Kind), .v (.int .i64 o1.A), .v (.int .i64 o1.B), .v (.int .i64 o1.C), .v (.string ⟨⟨o1.S⟩⟩), .v (.string ⟨⟨o1.T⟩⟩), .v (.bool o1.Must)]), (400230, .box 63 [.loc 3 1, .loc 3 2, .loc 3 3])]) (first := []) (cap := []) (qs := [.loc 3 0]) (Sc := [(3, .box 23 [.v (.int .i64 o1.Kind), .v (.int .i64 o1.A), .v (.int .i64 o1.B), .v (.int .i64 o1.C), .v (.string ⟨⟨o1.S⟩⟩), .v (.string ⟨⟨o1.T⟩⟩), .v (.bool o1.Must)])]) (N0 := [3]) (NR := [3, 400230]) (fun r6 hr6 => fc_ren [(12, 400230), (900000, 3)] [12, 900000] (Op_numbers_ok fu o1 _ hr6) rfl rfl rfl rfl rfl rfl) ⟨rfl, trivial⟩ (fun _ => rfl) rfl rfl rfl rfl rfl rfl rfl (fun _ => rfl) (fun _ => rfl) rfl rfl rfl ⟨⟨_, rfl, .rfl⟩, trivial⟩ call28 rfl rfl fun r6 hr6 => ?_
    refine po_evs (T := tab) 2 rfl rfl ?_
    refine po_nil ?_
    refine pn_seq ?_
    refine pw_block ?_
    refine pw_unroll 4 ?_
    refine pw_seq ?_
    refine pw_region ?_
    refine po_evs (T := tab) 1 rfl rfl ?_
    refine po_nil ?_
    refine pn_seq ?_
    refine pw_seq ?_
    refine pw_then rfl ?_
    refine pw_skip ?_
    refine pn_seq ?_
    refine pw_seq ?_
    refine pw_joinK (Op_Aim_j3 o1 self2 many3 r5) (fun (c9 : Int) => [(1, .v (.int .i64 self2)), (2, .v (.int .i64 many3)), (3, .loc 3 0), (6, .loc 6 0), (8, .loc 8 0), (23, .bsl 400230 3), (24, .v (.int .i64 3)), (25, .v (.int .i64 0))]) (fun (c9 : Int) => [(3, .box 23 [.v (.int .i64 o1.Kind), .v (.int .i64 c9), .v (.int .i64 o1.B), .v (.int .i64 o1.C), .v (.string ⟨⟨o1.S⟩⟩), .v (.string ⟨⟨o1.T⟩⟩), .v (.bool o1.Must)]), (400230, .box 63 [.loc 3 1, .loc 3 2, .loc 3 3]), (8, .box 47 [.v (.string ⟨⟨r5.1.word⟩⟩), .v (.string ⟨⟨r5.1.fields⟩⟩)]), (6, .box 23 [.v (.int .i64 0), .v (.int .i64 0), .v (.int .i64 0), .v (.int .i64 0), .v (.string ⟨⟨[]⟩⟩), .v (.string ⟨⟨[]⟩⟩), .v (.bool false)])]) ?_ fun hj3 => ?_
    · rintro c9
      refine pn_seq ?_
      refine pw_region ?_
      refine po_arithK (T := tab) 1 rfl rfl rfl rfl rfl ?_
      refine po_evs (T := tab) 1 rfl rfl ?_
      refine po_nil ?_
      refine pn_unroll 3 ?_
      refine pw_seq ?_
      refine pw_region ?_
      refine po_evs (T := tab) 1 rfl rfl ?_
      refine po_nil ?_
      refine pn_seq ?_
      refine pw_seq ?_
      refine pw_then rfl ?_
      refine pw_skip ?_
      refine pn_seq ?_
      refine pw_seq ?_
      refine pw_joinK (Op_Aim_j6 o1 self2 many3 r5 c9) (fun (c12 : Int) => [(1, .v (.int .i64 self2)), (2, .v (.int .i64 many3)), (3, .loc 3 0), (6, .loc 6 0), (8, .loc 8 0), (23, .bsl 400230 3), (24, .v (.int .i64 3)), (25, .v (.int .i64 1))]) (fun (c12 : Int) => [(3, .box 23 [.v (.int .i64 o1.Kind), .v (.int .i64 c9), .v (.int .i64 c12), .v (.int .i64 o1.C), .v (.string ⟨⟨o1.S⟩⟩), .v (.string ⟨⟨o1.T⟩⟩), .v (.bool o1.Must)]), (400230, .box 63 [.loc 3 1, .loc 3 2, .loc 3 3]), (8, .box 47 [.v (.string ⟨⟨r5.1.word⟩⟩), .v (.string ⟨⟨r5.1.fields⟩⟩)]), (6, .box 23 [.v (.int .i64 0), .v (.int .i64 0), .v (.int .i64 0), .v (.int .i64 0), .v (.string ⟨⟨[]⟩⟩), .v (.string ⟨⟨[]⟩⟩), .v (.bool false)])]) ?_ fun hj6 => ?_
      · rintro c12
        refine pn_seq ?_
        refine pw_region ?_
        refine po_arithK (T := tab) 2 rfl rfl rfl rfl rfl ?_
        refine po_evs (T := tab) 1 rfl rfl ?_
        refine po_nil ?_
        refine pn_unroll 2 ?_
        refine pw_seq ?_
        refine pw_region ?_
        refine po_evs (T := tab) 1 rfl rfl ?_
        refine po_nil ?_
        refine pn_seq ?_
        refine pw_seq ?_
        refine pw_then rfl ?_
        refine pw_skip ?_
        refine pn_seq ?_
        refine pw_seq ?_
        refine pw_block ?_
        refine pw_seq ?_
        refine pw_region ?_
        refine po_evs (T := tab) 1 rfl rfl ?_
        refine po_idxP (T := tab) (i := 2) rfl rfl rfl rfl rfl rfl rfl rfl ?_
        refine po_evs (T := tab) 3 rfl rfl ?_
        refine po_nil ?_
        refine pn_seq ?_
        refine pw_seq ?_
        refine pw_seq ?_
        refine pw_region ?_
        refine po_evs (T := tab) 3 rfl rfl ?_
        refine po_chr (T := tab) (s := r5.1.fields) rfl rfl rfl rfl rfl rfl rfl fun b13 hb13 => ?_
        refine po_evs (T := tab) 1 rfl rfl ?_
        refine po_nil ?_
        refine pn_seq ?_
        refine pw_seq ?_
        refine pw_region ?_
        refine po_joinB (Op_Aim_j7 o1 self2 many3 c9 c12) (fun (_ : Unit) => [(1, .v (.int .i64 self2)), (2, .v (.int .i64 many3)), (3, .loc 3 0), (6, .loc 6 0), (8, .loc 8 0), (11, .loc 3 3), (23, .bsl 400230 3), (24, .v (.int .i64 3)), (25, .v (.int .i64 2))]) (fun (_ : Unit) => [(3, .box 23 [.v (.int .i64 o1.Kind), .v (.int .i64 c9), .v (.int .i64 c12), .v (.int .i64 o1.C), .v (.string ⟨⟨o1.S⟩⟩), .v (.string ⟨⟨o1.T⟩⟩), .v (.bool o1.Must)]), (400230, .box 63 [.loc 3 1, .loc 3 2, .loc 3 3]), (8, .box 47 [.v (.string ⟨⟨r5.1.word⟩⟩), .v (.string ⟨⟨r5.1.fields⟩⟩)]), (6, .box 23 [.v (.int .i64 0), .v (.int .i64 0), .v (.int .i64 0), .v (.int .i64 0), .v (.string ⟨⟨[]⟩⟩), .v (.string ⟨⟨[]⟩⟩), .v (.bool false)])]) ?_ fun hj7 => ?_
        · rintro _
          refine pn_seq ?_
          refine pw_seq ?_
          refine pw_seq ?_
          refine pw_region ?_
          refine po_evs (T := tab) 3 rfl rfl ?_
          refine po_nil ?_
          refine pn_seq ?_
          refine pw_joinK (Op_Aim_j8 o1 many3 c9 c12) (fun (c14 : Int) => [(1, .v (.int .i64 self2)), (2, .v (.int .i64 many3)), (3, .loc 3 0), (6, .loc 6 0), (8, .loc 8 0), (11, .loc 3 3), (23, .bsl 400230 3), (24, .v (.int .i64 3)), (25, .v (.int .i64 2))]) (fun (c14 : Int) => [(3, .box 23 [.v (.int .i64 o1.Kind), .v (.int .i64 c9), .v (.int .i64 c12), .v (.int .i64 c14), .v (.string ⟨⟨o1.S⟩⟩), .v (.string ⟨⟨o1.T⟩⟩), .v (.bool o1.Must)]), (400230, .box 63 [.loc 3 1, .loc 3 2, .loc 3 3]), (8, .box 47 [.v (.string ⟨⟨r5.1.word⟩⟩), .v (.string ⟨⟨r5.1.fields⟩⟩)]), (6, .box 23 [.v (.int .i64 0), .v (.int .i64 0), .v (.int .i64 0), .v (.int .i64 0), .v (.string ⟨⟨[]⟩⟩), .v (.string ⟨⟨[]⟩⟩), .v (.bool false)])]) ?_ fun hj8 => ?_
          · rintro c14
            refine pn_seq ?_
            refine pw_seq ?_
            refine pw_region ?_
            refine po_evs (T := tab) 5 rfl rfl ?_
            refine po_split (j := 68) rfl ?_ ?_
            · refine po_evs (T := tab) 6 rfl rfl ?_
              refine po_nil ?_
              refine pn_seq (pw_then rfl ?_)
              refine pw_seq ?_
              refine pw_region ?_
              refine po_build (T := tab) rfl rfl rfl rfl rfl rfl rfl ?_
              refine po_store (T := tab) rfl rfl rfl rfl rfl rfl rfl rfl rfl rfl rfl rfl ?_
              refine po_evs (T := tab) 1 rfl rfl ?_
              refine po_nil ?_
              refine pn_seq ?_
              exact pw_retN (T := tab) rfl rfl rfl ⟨rfl, rfl⟩ trivial rfl
            · refine po_evs (T := tab) 6 rfl rfl ?_
              refine po_nil ?_
              refine pn_seq ?_
              refine pw_cnd rfl ?_ ?_
              · refine pw_seq ?_
                refine pw_region ?_
                refine po_build (T := tab) rfl rfl rfl rfl rfl rfl rfl ?_
                refine po_store (T := tab) rfl rfl rfl rfl rfl rfl rfl rfl rfl rfl rfl rfl ?_
                refine po_evs (T := tab) 1 rfl rfl ?_
                refine po_nil ?_
                refine pn_seq ?_
                exact pw_retN (T := tab) rfl rfl rfl ⟨rfl, rfl⟩ trivial rfl
              · refine pw_skip ?_
                refine pn_block ?_
                refine pn_seq ?_
                refine pw_region ?_
                refine po_arithK (T := tab) 3 rfl rfl rfl rfl rfl ?_
                refine po_evs (T := tab) 1 rfl rfl ?_
                refine po_nil ?_
                refine pn_unroll 1 ?_
                refine pw_seq ?_
                refine pw_region ?_
                refine po_evs (T := tab) 1 rfl rfl ?_
                refine po_nil ?_
                refine pn_seq ?_
                refine pw_seq ?_
                refine pw_else rfl ?_
                refine pw_exit rfl ?_
                refine pn_seq ?_
                refine pw_seq ?_
                refine pw_region ?_
                refine po_evs (T := tab) 1 rfl rfl ?_
                refine po_store (T := tab) rfl rfl rfl rfl rfl rfl rfl rfl rfl rfl rfl rfl ?_
                refine po_evs (T := tab) 1 rfl rfl ?_
                refine po_nil ?_
                refine pn_seq ?_
                exact pw_retN (T := tab) rfl rfl rfl ⟨rfl, rfl⟩ trivial rfl
          · refine pw_block ?_
            refine pw_seq ?_
            refine pw_region ?_
            refine po_evs (T := tab) 2 rfl rfl ?_
            refine po_nil ?_
            refine pn_seq ?_
            refine pw_cnd rfl ?_ ?_
            · refine pw_region ?_
              refine po_evs (T := tab) 3 rfl rfl ?_
              refine po_store (T := tab) rfl rfl rfl rfl rfl rfl rfl rfl rfl rfl rfl rfl ?_
              refine po_nil ?_
              refine pn_block ?_
              exact pn_sub' (hj8 self2) ⟨rfl, rfl, rfl, rfl, rfl, rfl, rfl, rfl, rfl, trivial⟩ ⟨rfl, rfl, rfl, rfl, trivial⟩ rfl
            · refine pw_seq ?_
              refine pw_region ?_
              refine po_evs (T := tab) 2 rfl rfl ?_
              refine po_nil ?_
              refine pn_seq ?_
              refine pw_cnd rfl ?_ ?_
              · refine pw_region ?_
                refine po_evs (T := tab) 2 rfl rfl ?_
                refine po_wrap (T := tab) rfl rfl rfl rfl ?_
                refine po_evs (T := tab) 1 rfl rfl ?_
                refine po_store (T := tab) rfl rfl rfl rfl rfl rfl rfl rfl rfl rfl rfl rfl ?_
                refine po_nil ?_
                refine pn_block ?_
                exact pn_sub' (hj8 (IntKind.i64.wrap (many3 - 1))) ⟨rfl, rfl, rfl, rfl, rfl, rfl, rfl, rfl, rfl, trivial⟩ ⟨rfl, rfl, rfl, rfl, trivial⟩ rfl
              · refine pw_skip ?_
                refine pn_block ?_
                exact pn_sub' (hj8 o1.C) ⟨rfl, rfl, rfl, rfl, rfl, rfl, rfl, rfl, rfl, trivial⟩ ⟨rfl, rfl, rfl, rfl, trivial⟩ rfl
        · refine po_evs (T := tab) 3 rfl rfl ?_
          refine po_split (j := 36) rfl ?_ ?_
          · refine po_evs (T := tab) 13 rfl rfl ?_
            refine po_nil ?_
            refine pn_seq (pw_then rfl ?_)
            refine pw_exit rfl ?_
            refine pn_seq ?_
            refine pw_region ?_
            refine po_arithK (T := tab) 3 rfl rfl rfl rfl rfl ?_
            refine po_evs (T := tab) 1 rfl rfl ?_
            refine po_nil ?_
            refine pn_unroll 1 ?_
            refine pw_seq ?_
            refine pw_region ?_
            refine po_evs (T := tab) 1 rfl rfl ?_
            refine po_nil ?_
            refine pn_seq ?_
            refine pw_seq ?_
            refine pw_else rfl ?_
            refine pw_exit rfl ?_
            refine pn_seq ?_
            refine pw_seq ?_
            refine pw_region ?_
            refine po_evs (T := tab) 1 rfl rfl ?_
            refine po_store (T := tab) rfl rfl rfl rfl rfl rfl rfl rfl rfl rfl rfl rfl ?_
            refine po_evs (T := tab) 1 rfl rfl ?_
            refine po_nil ?_
            refine pn_seq ?_
            exact pw_retN (T := tab) rfl rfl rfl ⟨rfl, rfl⟩ trivial rfl
          · refine po_evs (T := tab) 4 rfl rfl ?_
            refine po_split (j := 40) rfl ?_ ?_
            · refine po_evs (T := tab) 9 rfl rfl ?_
              refine po_nil ?_
              refine pn_seq (pw_then rfl ?_)
              refine pw_exit rfl ?_
              refine pn_seq ?_
              refine pw_region ?_
              refine po_arithK (T := tab) 3 rfl rfl rfl rfl rfl ?_
              refine po_evs (T := tab) 1 rfl rfl ?_
              refine po_nil ?_
              refine pn_unroll 1 ?_
              refine pw_seq ?_
              refine pw_region ?_
              refine po_evs (T := tab) 1 rfl rfl ?_
              refine po_nil ?_
              refine pn_seq ?_
              refine pw_seq ?_
              refine pw_else rfl ?_
              refine pw_exit rfl ?_
              refine pn_seq ?_
              refine pw_seq ?_
              refine pw_region ?_
              refine po_evs (T := tab) 1 rfl rfl ?_
              refine po_store (T := tab) rfl rfl rfl rfl rfl rfl rfl rfl rfl rfl rfl rfl ?_
              refine po_evs (T := tab) 1 rfl rfl ?_
              refine po_nil ?_
              refine pn_seq ?_
              exact pw_retN (T := tab) rfl rfl rfl ⟨rfl, rfl⟩ trivial rfl
            · refine po_evs (T := tab) 3 rfl rfl ?_
              refine po_split (j := 43) rfl ?_ ?_
              · refine po_evs (T := tab) 6 rfl rfl ?_
                refine po_nil ?_
                refine pn_seq ?_
                refine pw_cnd rfl ?_ ?_
                · refine pw_exit rfl ?_
                  refine pn_seq ?_
                  refine pw_region ?_
                  refine po_arithK (T := tab) 3 rfl rfl rfl rfl rfl ?_
                  refine po_evs (T := tab) 1 rfl rfl ?_
                  refine po_nil ?_
                  refine pn_unroll 1 ?_
                  refine pw_seq ?_
                  refine pw_region ?_
                  refine po_evs (T := tab) 1 rfl rfl ?_
                  refine po_nil ?_
                  refine pn_seq ?_
                  refine pw_seq ?_
                  refine pw_else rfl ?_
                  refine pw_exit rfl ?_
                  refine pn_seq ?_
                  refine pw_seq ?_
                  refine pw_region ?_
                  refine po_evs (T := tab) 1 rfl rfl ?_
                  refine po_store (T := tab) rfl rfl rfl rfl rfl rfl rfl rfl rfl rfl rfl rfl ?_
                  refine po_evs (T := tab) 1 rfl rfl ?_
                  refine po_nil ?_
                  refine pn_seq ?_
                  exact pw_retN (T := tab) rfl rfl rfl ⟨rfl, rfl⟩ trivial rfl
                · refine pw_skip ?_
                  exact pn_sub' (hj7 ()) ⟨rfl, rfl, rfl, rfl, rfl, rfl, rfl, rfl, rfl, trivial⟩ ⟨rfl, rfl, rfl, rfl, trivial⟩ rfl
              · refine po_evs (T := tab) 6 rfl rfl ?_
                refine po_nil ?_
                refine pn_seq (pw_else rfl ?_)
                refine pw_skip ?_
                exact pn_sub' (hj7 ()) ⟨rfl, rfl, rfl, rfl, rfl, rfl, rfl, rfl, rfl, trivial⟩ ⟨rfl, rfl, rfl, rfl, trivial⟩ rfl
      · refine pw_block ?_
        refine pw_seq ?_
        refine pw_region ?_
        refine po_evs (T := tab) 1 rfl rfl ?_
        refine po_idxP (T := tab) (i := 1) rfl rfl rfl rfl rfl rfl rfl rfl ?_
        refine po_evs (T := tab) 3 rfl rfl ?_
        refine po_nil ?_
        refine pn_seq ?_
        refine pw_seq ?_
        refine pw_seq ?_
        refine pw_region ?_
        refine po_evs (T := tab) 3 rfl rfl ?_
        refine po_chr (T := tab) (s := r5.1.fields) rfl rfl rfl rfl rfl rfl rfl fun b10 hb10 => ?_
        refine po_evs (T := tab) 1 rfl rfl ?_
        refine po_nil ?_
        refine pn_seq ?_
        refine pw_seq ?_
        refine pw_region ?_
        refine po_joinB (Op_Aim_j4 o1 self2 many3 r5 c9) (fun (_ : Unit) => [(1, .v (.int .i64 self2)), (2, .v (.int .i64 many3)), (3, .loc 3 0), (6, .loc 6 0), (8, .loc 8 0), (11, .loc 3 2), (23, .bsl 400230 3), (24, .v (.int .i64 3)), (25, .v (.int .i64 1))]) (fun (_ : Unit) => [(3, .box 23 [.v (.int .i64 o1.Kind), .v (.int .i64 c9), .v (.int .i64 o1.B), .v (.int .i64 o1.C), .v (.string ⟨⟨o1.S⟩⟩), .v (.string ⟨⟨o1.T⟩⟩), .v (.bool o1.Must)]), (400230, .box 63 [.loc 3 1, .loc 3 2, .loc 3 3]), (8, .box 47 [.v (.string ⟨⟨r5.1.word⟩⟩), .v (.string ⟨⟨r5.1.fields⟩⟩)]), (6, .box 23 [.v (.int .i64 0), .v (.int .i64 0), .v (.int .i64 0), .v (.int .i64 0), .v (.string ⟨⟨[]⟩⟩), .v (.string ⟨⟨[]⟩⟩), .v (.bool false)])]) ?_ fun hj4 => ?_
        · rintro _
          refine pn_seq ?_
          refine pw_seq ?_
          refine pw_seq ?_
          refine pw_region ?_
          refine po_evs (T := tab) 3 rfl rfl ?_
          refine po_nil ?_
          refine pn_seq ?_
          refine pw_joinK (Op_Aim_j5 o1 self2 many3 r5 c9) (fun (c11 : Int) => [(1, .v (.int .i64 self2)), (2, .v (.int .i64 many3)), (3, .loc 3 0), (6, .loc 6 0), (8, .loc 8 0), (11, .loc 3 2), (23, .bsl 400230 3), (24, .v (.int .i64 3)), (25, .v (.int .i64 1))]) (fun (c11 : Int) => [(3, .box 23 [.v (.int .i64 o1.Kind), .v (.int .i64 c9), .v (.int .i64 c11), .v (.int .i64 o1.C), .v (.string ⟨⟨o1.S⟩⟩), .v (.string ⟨⟨o1.T⟩⟩), .v (.bool o1.Must)]), (400230, .box 63 [.loc 3 1, .loc 3 2, .loc 3 3]), (8, .box 47 [.v (.string ⟨⟨r5.1.word⟩⟩), .v (.string ⟨⟨r5.1.fields⟩⟩)]), (6, .box 23 [.v (.int .i64 0), .v (.int .i64 0), .v (.int .i64 0), .v (.int .i64 0), .v (.string ⟨⟨[]⟩⟩), .v (.string ⟨⟨[]⟩⟩), .v (.bool false)])]) ?_ fun hj5 => ?_
          · rintro c11
            refine pn_seq ?_
            refine pw_seq ?_
            refine pw_region ?_
            refine po_evs (T := tab) 5 rfl rfl ?_
            refine po_split (j := 68) rfl ?_ ?_
            · refine po_evs (T := tab) 6 rfl rfl ?_
              refine po_nil ?_
              refine pn_seq (pw_then rfl ?_)
              refine pw_seq ?_
              refine pw_region ?_
              refine po_build (T := tab) rfl rfl rfl rfl rfl rfl rfl ?_
              refine po_store (T := tab) rfl rfl rfl rfl rfl rfl rfl rfl rfl rfl rfl rfl ?_
              refine po_evs (T := tab) 1 rfl rfl ?_
              refine po_nil ?_
              refine pn_seq ?_
              exact pw_retN (T := tab) rfl rfl rfl ⟨rfl, rfl⟩ trivial rfl
            · refine po_evs (T := tab) 6 rfl rfl ?_
              refine po_nil ?_
              refine pn_seq ?_
              refine pw_cnd rfl ?_ ?_
              · refine pw_seq ?_
                refine pw_region ?_
                refine po_build (T := tab) rfl rfl rfl rfl rfl rfl rfl ?_
                refine po_store (T := tab) rfl rfl rfl rfl rfl rfl rfl rfl rfl rfl rfl rfl ?_
                refine po_evs (T := tab) 1 rfl rfl ?_
                refine po_nil ?_
                refine pn_seq ?_
                exact pw_retN (T := tab) rfl rfl rfl ⟨rfl, rfl⟩ trivial rfl
              · refine pw_skip ?_
                refine pn_block ?_
                exact pn_sub' (hj6 c11) ⟨rfl, rfl, rfl, rfl, rfl, rfl, rfl, rfl, trivial⟩ ⟨rfl, rfl, rfl, rfl, trivial⟩ rfl
          · refine pw_block ?_
            refine pw_seq ?_
            refine pw_region ?_
            refine po_evs (T := tab) 2 rfl rfl ?_
            refine po_nil ?_
            refine pn_seq ?_
            refine pw_cnd rfl ?_ ?_
            · refine pw_region ?_
              refine po_evs (T := tab) 3 rfl rfl ?_
              refine po_store (T := tab) rfl rfl rfl rfl rfl rfl rfl rfl rfl rfl rfl rfl ?_
              refine po_nil ?_
              refine pn_block ?_
              exact pn_sub' (hj5 self2) ⟨rfl, rfl, rfl, rfl, rfl, rfl, rfl, rfl, rfl, trivial⟩ ⟨rfl, rfl, rfl, rfl, trivial⟩ rfl
            · refine pw_seq ?_
              refine pw_region ?_
              refine po_evs (T := tab) 2 rfl rfl ?_
              refine po_nil ?_
              refine pn_seq ?_
              refine pw_cnd rfl ?_ ?_
              · refine pw_region ?_
                refine po_evs (T := tab) 2 rfl rfl ?_
                refine po_wrap (T := tab) rfl rfl rfl rfl ?_
                refine po_evs (T := tab) 1 rfl rfl ?_
                refine po_store (T := tab) rfl rfl rfl rfl rfl rfl rfl rfl rfl rfl rfl rfl ?_
                refine po_nil ?_
                refine pn_block ?_
                exact pn_sub' (hj5 (IntKind.i64.wrap (many3 - 1))) ⟨rfl, rfl, rfl, rfl, rfl, rfl, rfl, rfl, rfl, trivial⟩ ⟨rfl, rfl, rfl, rfl, trivial⟩ rfl
              · refine pw_skip ?_
                refine pn_block ?_
                exact pn_sub' (hj5 o1.B) ⟨rfl, rfl, rfl, rfl, rfl, rfl, rfl, rfl, rfl, trivial⟩ ⟨rfl, rfl, rfl, rfl, trivial⟩ rfl
        · refine po_evs (T := tab) 3 rfl rfl ?_
          refine po_split (j := 36) rfl ?_ ?_
          · refine po_evs (T := tab) 13 rfl rfl ?_
            refine po_nil ?_
            refine pn_seq (pw_then rfl ?_)
            refine pw_exit rfl ?_
            exact pn_sub' (hj6 o1.B) ⟨rfl, rfl, rfl, rfl, rfl, rfl, rfl, rfl, trivial⟩ ⟨rfl, rfl, rfl, rfl, trivial⟩ rfl
          · refine po_evs (T := tab) 4 rfl rfl ?_
            refine po_split (j := 40) rfl ?_ ?_
            · refine po_evs (T := tab) 9 rfl rfl ?_
              refine po_nil ?_
              refine pn_seq (pw_then rfl ?_)
              refine pw_exit rfl ?_
              exact pn_sub' (hj6 o1.B) ⟨rfl, rfl, rfl, rfl, rfl, rfl, rfl, rfl, trivial⟩ ⟨rfl, rfl, rfl, rfl, trivial⟩ rfl
            · refine po_evs (T := tab) 3 rfl rfl ?_
              refine po_split (j := 43) rfl ?_ ?_
              · refine po_evs (T := tab) 6 rfl rfl ?_
                refine po_nil ?_
                refine pn_seq ?_
                refine pw_cnd rfl ?_ ?_
                · refine pw_exit rfl ?_
                  exact pn_sub' (hj6 o1.B) ⟨rfl, rfl, rfl, rfl, rfl, rfl, rfl, rfl, trivial⟩ ⟨rfl, rfl, rfl, rfl, trivial⟩ rfl
                · refine pw_skip ?_
                  exact pn_sub' (hj4 ()) ⟨rfl, rfl, rfl, rfl, rfl, rfl, rfl, rfl, rfl, trivial⟩ ⟨rfl, rfl, rfl, rfl, trivial⟩ rfl
              · refine po_evs (T := tab) 6 rfl rfl ?_
                refine po_nil ?_
                refine pn_seq (pw_else rfl ?_)
                refine pw_skip ?_
                exact pn_sub' (hj4 ()) ⟨rfl, rfl, rfl, rfl, rfl, rfl, rfl, rfl, rfl, trivial⟩ ⟨rfl, rfl, rfl, rfl, trivial⟩ rfl
    · refine pw_block ?_
      refine pw_seq ?_
      refine pw_region ?_
      refine po_evs (T := tab) 1 rfl rfl ?_
      refine po_idxP (T := tab) (i := 0) rfl rfl rfl rfl rfl rfl rfl rfl ?_
      refine po_evs (T := tab) 3 rfl rfl ?_
      refine po_nil ?_
      refine pn_seq ?_
      refine pw_seq ?_
      refine pw_seq ?_
      refine pw_region ?_
      refine po_evs (T := tab) 3 rfl rfl ?_
      refine po_chr (T := tab) (s := r5.1.fields) rfl rfl rfl rfl rfl rfl rfl fun b7 hb7 => ?_
      refine po_evs (T := tab) 1 rfl rfl ?_
      refine po_nil ?_
      refine pn_seq ?_
      refine pw_seq ?_
      refine pw_region ?_
      refine po_joinB (Op_Aim_j1 o1 self2 many3 r5) (fun (_ : Unit) => [(1, .v (.int .i64 self2)), (2, .v (.int .i64 many3)), (3, .loc 3 0), (6, .loc 6 0), (8, .loc 8 0), (11, .loc 3 1), (23, .bsl 400230 3), (24, .v (.int .i64 3)), (25, .v (.int .i64 0))]) (fun (_ : Unit) => [(3, .box 23 [.v (.int .i64 o1.Kind), .v (.int .i64 o1.A), .v (.int .i64 o1.B), .v (.int .i64 o1.C), .v (.string ⟨⟨o1.S⟩⟩), .v (.string ⟨⟨o1.T⟩⟩), .v (.bool o1.Must)]), (400230, .box 63 [.loc 3 1, .loc 3 2, .loc 3 3]), (8, .box 47 [.v (.string ⟨⟨r5.1.word⟩⟩), .v (.string ⟨⟨r5.1.fields⟩⟩)]), (6, .box 23 [.v (.int .i64 0), .v (.int .i64 0), .v (.int .i64 0), .v (.int .i64 0), .v (.string ⟨⟨[]⟩⟩), .v (.string ⟨⟨[]⟩⟩), .v (.bool false)])]) ?_ fun hj1 => ?_
      · rintro _
        refine pn_seq ?_
        refine pw_seq ?_
        refine pw_seq ?_
        refine pw_region ?_
        refine po_evs (T := tab) 3 rfl rfl ?_
        refine po_nil ?_
        refine pn_seq ?_
        refine pw_joinK (Op_Aim_j2 o1 self2 many3 r5) (fun (c8 : Int) => [(1, .v (.int .i64 self2)), (2, .v (.int .i64 many3)), (3, .loc 3 0), (6, .loc 6 0), (8, .loc 8 0), (11, .loc 3 1), (23, .bsl 400230 3), (24, .v (.int .i64 3)), (25, .v (.int .i64 0))]) (fun (c8 : Int) => [(3, .box 23 [.v (.int .i64 o1.Kind), .v (.int .i64 c8), .v (.int .i64 o1.B), .v (.int .i64 o1.C), .v (.string ⟨⟨o1.S⟩⟩), .v (.string ⟨⟨o1.T⟩⟩), .v (.bool o1.Must)]), (400230, .box 63 [.loc 3 1, .loc 3 2, .loc 3 3]), (8, .box 47 [.v (.string ⟨⟨r5.1.word⟩⟩), .v (.string ⟨⟨r5.1.fields⟩⟩)]), (6, .box 23 [.v (.int .i64 0), .v (.int .i64 0), .v (.int .i64 0), .v (.int .i64 0), .v (.string ⟨⟨[]⟩⟩), .v (.string ⟨⟨[]⟩⟩), .v (.bool false)])]) ?_ fun hj2 => ?_
        · rintro c8
          refine pn_seq ?_
          refine pw_seq ?_
          refine pw_region ?_
          refine po_evs (T := tab) 5 rfl rfl ?_
          refine po_split (j := 68) rfl ?_ ?_
          · refine po_evs (T := tab) 6 rfl rfl ?_
            refine po_nil ?_
            refine pn_seq (pw_then rfl ?_)
            refine pw_seq ?_
            refine pw_region ?_
            refine po_build (T := tab) rfl rfl rfl rfl rfl rfl rfl ?_
            refine po_store (T := tab) rfl rfl rfl rfl rfl rfl rfl rfl rfl rfl rfl rfl ?_
            refine po_evs (T := tab) 1 rfl rfl ?_
            refine po_nil ?_
            refine pn_seq ?_
            exact pw_retN (T := tab) rfl rfl rfl ⟨rfl, rfl⟩ trivial rfl
          · refine po_evs (T := tab) 6 rfl rfl ?_
            refine po_nil ?_
            refine pn_seq ?_
            refine pw_cnd rfl ?_ ?_
            · refine pw_seq ?_
              refine pw_region ?_
              refine po_build (T := tab) rfl rfl rfl rfl rfl rfl rfl ?_
              refine po_store (T := tab) rfl rfl rfl rfl rfl rfl rfl rfl rfl rfl rfl rfl ?_
              refine po_evs (T := tab) 1 rfl rfl ?_
              refine po_nil ?_
              refine pn_seq ?_
              exact pw_retN (T := tab) rfl rfl rfl ⟨rfl, rfl⟩ trivial rfl
            · refine pw_skip ?_
              refine pn_block ?_
              exact pn_sub' (hj3 c8) ⟨rfl, rfl, rfl, rfl, rfl, rfl, rfl, rfl, trivial⟩ ⟨rfl, rfl, rfl, rfl, trivial⟩ rfl
        · refine pw_block ?_
          refine pw_seq ?_
          refine pw_region ?_
          refine po_evs (T := tab) 2 rfl rfl ?_
          refine po_nil ?_
          refine pn_seq ?_
          refine pw_cnd rfl ?_ ?_
          · refine pw_region ?_
            refine po_evs (T := tab) 3 rfl rfl ?_
            refine po_store (T := tab) rfl rfl rfl rfl rfl rfl rfl rfl rfl rfl rfl rfl ?_
            refine po_nil ?_
            refine pn_block ?_
            exact pn_sub' (hj2 self2) ⟨rfl, rfl, rfl, rfl, rfl, rfl, rfl, rfl, rfl, trivial⟩ ⟨rfl, rfl, rfl, rfl, trivial⟩ rfl
          · refine pw_seq ?_
            refine pw_region ?_
            refine po_evs (T := tab) 2 rfl rfl ?_
            refine po_nil ?_
            refine pn_seq ?_
            refine pw_cnd rfl ?_ ?_
            · refine pw_region ?_
              refine po_evs (T := tab) 2 rfl rfl ?_
              refine po_wrap (T := tab) rfl rfl rfl rfl ?_
              refine po_evs (T := tab) 1 rfl rfl ?_
              refine po_store (T := tab) rfl rfl rfl rfl rfl rfl rfl rfl rfl rfl rfl rfl ?_
              refine po_nil ?_
              refine pn_block ?_
              exact pn_sub' (hj2 (IntKind.i64.wrap (many3 - 1))) ⟨rfl, rfl, rfl, rfl, rfl, rfl, rfl, rfl, rfl, trivial⟩ ⟨rfl, rfl, rfl, rfl, trivial⟩ rfl
            · refine pw_skip ?_
              refine pn_block ?_
              exact pn_sub' (hj2 o1.A) ⟨rfl, rfl, rfl, rfl, rfl, rfl, rfl, rfl, rfl, trivial⟩ ⟨rfl, rfl, rfl, rfl, trivial⟩ rfl
      · refine po_evs (T := tab) 3 rfl rfl ?_
        refine po_split (j := 36) rfl ?_ ?_
        · refine po_evs (T := tab) 13 rfl rfl ?_
          refine po_nil ?_
          refine pn_seq (pw_then rfl ?_)
          refine pw_exit rfl ?_
          exact pn_sub' (hj3 o1.A) ⟨rfl, rfl, rfl, rfl, rfl, rfl, rfl, rfl, trivial⟩ ⟨rfl, rfl, rfl, rfl, trivial⟩ rfl
        · refine po_evs (T := tab) 4 rfl rfl ?_
          refine po_split (j := 40) rfl ?_ ?_
          · refine po_evs (T := tab) 9 rfl rfl ?_
            refine po_nil ?_
            refine pn_seq (pw_then rfl ?_)
            refine pw_exit rfl ?_
            exact pn_sub' (hj3 o1.A) ⟨rfl, rfl, rfl, rfl, rfl, rfl, rfl, rfl, trivial⟩ ⟨rfl, rfl, rfl, rfl, trivial⟩ rfl
          · refine po_evs (T := tab) 3 rfl rfl ?_
            refine po_split (j := 43) rfl ?_ ?_
            · refine po_evs (T := tab) 6 rfl rfl ?_
              refine po_nil ?_
              refine pn_seq ?_
              refine pw_cnd rfl ?_ ?_
              · refine pw_exit rfl ?_
                exact pn_sub' (hj3 o1.A) ⟨rfl, rfl, rfl, rfl, rfl, rfl, rfl, rfl, trivial⟩ ⟨rfl, rfl, rfl, rfl, trivial⟩ rfl
              · refine pw_skip ?_
                exact pn_sub' (hj1 ()) ⟨rfl, rfl, rfl, rfl, rfl, rfl, rfl, rfl, rfl, trivial⟩ ⟨rfl, rfl, rfl, rfl, trivial⟩ rfl
            · refine po_evs (T := tab) 6 rfl rfl ?_
              refine po_nil ?_
              refine pn_seq (pw_else rfl ?_)
              refine pw_skip ?_
              exact pn_sub' (hj1 ()) ⟨rfl, rfl, rfl, rfl, rfl, rfl, rfl, rfl, rfl, trivial⟩ ⟨rfl, rfl, rfl, rfl, trivial⟩ rfl

def Op_Carries_m (_fu : Nat) (o1 : Op) : Option Bool := cnd (decide (o1.Kind ≥ 1)) (cnd (decide (o1.Kind ≤ 16)) (some true) (cnd (o1.Kind == 18) (some true) (some (o1.Kind == 23)))) (cnd (o1.Kind == 18) (some true) (some (o1.Kind == 23)))

set_option maxRecDepth 100000 in
theorem Op_Carries_ok (fu : Nat) (o1 : Op) : ∀ r, Op_Carries_m fu o1 = some r → DC laidL Tryz.prog 14 [.agg (cOp o1)] (.v (.bool r)) := by
  intro r hr
  refine fc_intro (args := [.agg (cOp o1)]) (S := []) (N0 := []) (post := fun r p S => p = .v (.bool r) ∧ S = []) Tryz.func14 rfl rfl hr fun w0 X X0 σ0 _ => ?_
  refine pw_seq ?_
  refine pw_region ?_
  refine po_box  1 rfl rfl rfl rfl rfl rfl rfl rfl rfl rfl ?_
  refine po_evs (T := tab) 1 rfl rfl ?_
  refine po_nil ?_
  refine pn_seq ?_
  refine pw_seq ?_
  refine pw_region ?_
  refine po_evs (T := tab) 4 rfl rfl ?_
  refine po_split (j := 6) rfl ?_ ?_
  · refine po_evs (T := tab) 5 rfl rfl ?_
    refine po_split (j := 11) rfl ?_ ?_
    · refine po_evs (T := tab) 10 rfl rfl ?_
      refine po_nil ?_
      refine pn_seq ?_
      exact pw_retN (T := tab) rfl rfl rfl ⟨rfl, rfl⟩ trivial rfl
    · refine po_evs (T := tab) 5 rfl rfl ?_
      refine po_split (j := 16) rfl ?_ ?_
      · refine po_evs (T := tab) 5 rfl rfl ?_
        refine po_nil ?_
        refine pn_seq ?_
        exact pw_retN (T := tab) rfl rfl rfl ⟨rfl, rfl⟩ trivial rfl
      · refine po_evs (T := tab) 5 rfl rfl ?_
        refine po_nil ?_
        refine pn_seq ?_
        exact pw_retN (T := tab) rfl rfl rfl ⟨rfl, rfl⟩ trivial rfl
  · refine po_evs (T := tab) 10 rfl rfl ?_
    refine po_split (j := 16) rfl ?_ ?_
    · refine po_evs (T := tab) 5 rfl rfl ?_
      refine po_nil ?_
      refine pn_seq ?_
      exact pw_retN (T := tab) rfl rfl rfl ⟨rfl, rfl⟩ trivial rfl
    · refine po_evs (T := tab) 5 rfl rfl ?_
      refine po_nil ?_
      refine pn_seq ?_
      exact pw_retN (T := tab) rfl rfl rfl ⟨rfl, rfl⟩ trivial rfl

def Op_Still_j1 (t2 : Bool) : Option Bool := cnd t2 (some false) (some true)

def Op_Still_m (_fu : Nat) (o1 : Op) : Option Bool := cnd (o1.Kind == 5) ((Op_Still_j1) (o1.Kind == 5)) (cnd (o1.Kind == 6) ((Op_Still_j1) (o1.Kind == 6)) (cnd (o1.Kind == 7) ((Op_Still_j1) (o1.Kind == 7)) (cnd (o1.Kind == 8) ((Op_Still_j1) (o1.Kind == 8)) (cnd (o1.Kind == 9) ((Op_Still_j1) (o1.Kind == 9)) (cnd (o1.Kind == 10) ((Op_Still_j1) (o1.Kind == 10)) (cnd (o1.Kind == 11) ((Op_Still_j1) (o1.Kind == 11)) (cnd (o1.Kind == 13) ((Op_Still_j1) (o1.Kind == 13)) (cnd (o1.Kind == 14) ((Op_Still_j1) (o1.Kind == 14)) (cnd (o1.Kind == 15) ((Op_Still_j1) (o1.Kind == 15)) (cnd (o1.Kind == 26) ((Op_Still_j1) (o1.Kind == 26)) (cnd (o1.Kind == 27) ((Op_Still_j1) (o1.Kind == 27)) ((Op_Still_j1) (o1.Kind == 28)))))))))))))

set_option maxHeartbeats 10000000 in
set_option maxRecDepth 100000 in
theorem Op_Still_ok (fu : Nat) (o1 : Op) : ∀ r, Op_Still_m fu o1 = some r → DC laidL Tryz.prog 12 [.agg (cOp o1)] (.v (.bool r)) := by
  intro r hr
  refine fc_intro (args := [.agg (cOp o1)]) (S := []) (N0 := []) (post := fun r p S => p = .v (.bool r) ∧ S = []) Tryz.func12 rfl rfl hr fun w0 X X0 σ0 _ => ?_
  refine pw_seq ?_
  refine pw_region ?_
  refine po_box  1 rfl rfl rfl rfl rfl rfl rfl rfl rfl rfl ?_
  refine po_evs (T := tab) 1 rfl rfl ?_
  refine po_nil ?_
  refine pn_seq ?_
  refine pw_seq ?_
  refine pw_seq ?_
  refine pw_region ?_
  refine po_evs (T := tab) 2 rfl rfl ?_
  refine po_nil ?_
  refine pn_seq ?_
  refine pw_block ?_
  refine pw_seq ?_
  refine pw_seq ?_
  refine pw_region ?_
  refine po_evs (T := tab) 2 rfl rfl ?_
  refine po_nil ?_
  refine pn_seq ?_
  refine pw_joinK (Op_Still_j1) (fun (t2 : Bool) => [(5, .v (.bool t2))]) (fun (t2 : Bool) => []) ?_ fun hj1 => ?_
  · rintro t2
    refine pn_seq ?_
    refine pw_cnd rfl ?_ ?_
    · refine pw_seq ?_
      refine pw_region ?_
      refine po_evs (T := tab) 1 rfl rfl ?_
      refine po_nil ?_
      refine pn_seq ?_
      exact pw_retN (T := tab) rfl rfl rfl ⟨rfl, rfl⟩ trivial rfl
    · refine pw_skip ?_
      refine pn_block ?_
      refine pn_seq ?_
      refine pw_seq ?_
      refine pw_region ?_
      refine po_evs (T := tab) 1 rfl rfl ?_
      refine po_nil ?_
      refine pn_seq ?_
      exact pw_retN (T := tab) rfl rfl rfl ⟨rfl, rfl⟩ trivial rfl
  · refine pw_cnd rfl ?_ ?_
    · refine pw_skip ?_
      exact pn_sub' (hj1 (o1.Kind == 5)) ⟨rfl, trivial⟩ trivial rfl
    · refine pw_seq ?_
      refine pw_region ?_
      refine po_evs (T := tab) 2 rfl rfl ?_
      refine po_nil ?_
      refine pn_seq ?_
      refine pw_cnd rfl ?_ ?_
      · refine pw_skip ?_
        exact pn_sub' (hj1 (o1.Kind == 6)) ⟨rfl, trivial⟩ trivial rfl
      · refine pw_seq ?_
        refine pw_region ?_
        refine po_evs (T := tab) 2 rfl rfl ?_
        refine po_nil ?_
        refine pn_seq ?_
        refine pw_cnd rfl ?_ ?_
        · refine pw_skip ?_
          exact pn_sub' (hj1 (o1.Kind == 7)) ⟨rfl, trivial⟩ trivial rfl
        · refine pw_seq ?_
          refine pw_region ?_
          refine po_evs (T := tab) 2 rfl rfl ?_
          refine po_nil ?_
          refine pn_seq ?_
          refine pw_cnd rfl ?_ ?_
          · refine pw_skip ?_
            exact pn_sub' (hj1 (o1.Kind == 8)) ⟨rfl, trivial⟩ trivial rfl
          · refine pw_seq ?_
            refine pw_region ?_
            refine po_evs (T := tab) 2 rfl rfl ?_
            refine po_nil ?_
            refine pn_seq ?_
            refine pw_cnd rfl ?_ ?_
            · refine pw_skip ?_
              exact pn_sub' (hj1 (o1.Kind == 9)) ⟨rfl, trivial⟩ trivial rfl
            · refine pw_seq ?_
              refine pw_region ?_
              refine po_evs (T := tab) 2 rfl rfl ?_
              refine po_nil ?_
              refine pn_seq ?_
              refine pw_cnd rfl ?_ ?_
              · refine pw_skip ?_
                exact pn_sub' (hj1 (o1.Kind == 10)) ⟨rfl, trivial⟩ trivial rfl
              · refine pw_seq ?_
                refine pw_region ?_
                refine po_evs (T := tab) 2 rfl rfl ?_
                refine po_nil ?_
                refine pn_seq ?_
                refine pw_cnd rfl ?_ ?_
                · refine pw_skip ?_
                  exact pn_sub' (hj1 (o1.Kind == 11)) ⟨rfl, trivial⟩ trivial rfl
                · refine pw_seq ?_
                  refine pw_region ?_
                  refine po_evs (T := tab) 2 rfl rfl ?_
                  refine po_nil ?_
                  refine pn_seq ?_
                  refine pw_cnd rfl ?_ ?_
                  · refine pw_skip ?_
                    exact pn_sub' (hj1 (o1.Kind == 13)) ⟨rfl, trivial⟩ trivial rfl
                  · refine pw_seq ?_
                    refine pw_region ?_
                    refine po_evs (T := tab) 2 rfl rfl ?_
                    refine po_nil ?_
                    refine pn_seq ?_
                    refine pw_cnd rfl ?_ ?_
                    · refine pw_skip ?_
                      exact pn_sub' (hj1 (o1.Kind == 14)) ⟨rfl, trivial⟩ trivial rfl
                    · refine pw_seq ?_
                      refine pw_region ?_
                      refine po_evs (T := tab) 2 rfl rfl ?_
                      refine po_nil ?_
                      refine pn_seq ?_
                      refine pw_cnd rfl ?_ ?_
                      · refine pw_skip ?_
                        exact pn_sub' (hj1 (o1.Kind == 15)) ⟨rfl, trivial⟩ trivial rfl
                      · refine pw_seq ?_
                        refine pw_region ?_
                        refine po_evs (T := tab) 2 rfl rfl ?_
                        refine po_nil ?_
                        refine pn_seq ?_
                        refine pw_cnd rfl ?_ ?_
                        · refine pw_skip ?_
                          exact pn_sub' (hj1 (o1.Kind == 26)) ⟨rfl, trivial⟩ trivial rfl
                        · refine pw_seq ?_
                          refine pw_region ?_
                          refine po_evs (T := tab) 2 rfl rfl ?_
                          refine po_nil ?_
                          refine pn_seq ?_
                          refine pw_cnd rfl ?_ ?_
                          · refine pw_skip ?_
                            exact pn_sub' (hj1 (o1.Kind == 27)) ⟨rfl, trivial⟩ trivial rfl
                          · refine pw_region ?_
                            refine po_evs (T := tab) 2 rfl rfl ?_
                            refine po_nil ?_
                            exact pn_sub' (hj1 (o1.Kind == 28)) ⟨rfl, trivial⟩ trivial rfl

def Instarlaw16_awake_m (fu : Nat) : Option Bool := bnd (Op_Read_m fu [33, 112, 117, 116, 32, 115, 101, 108, 102, 32, 48, 32, 45]) fun r1 => bnd (Op_Put_m fu r1.1) fun r2 => bnd (Op_Aim_m fu r1.1 3 4) fun r3 => bnd (Op_Read_m fu [112, 117, 116, 32, 115, 101, 108, 102, 32, 48]) fun r4 => cnd (r1.2 == 0) (cnd (r2.2 == 0) (cnd (r2.1 == ([33, 112, 117, 116, 32, 115, 101, 108, 102, 32, 48, 32, 45] : Bs)) (cnd (eqOp r1.1 (⟨6, (-2), 0, (-1), [], [], true⟩ : Op)) (cnd (r3.2 == 0) (cnd (r3.1.A == 3) (cnd (r4.2 == 2) (bnd (Op_Right_m fu r1.1) fun r5 => cnd r5 (bnd (Op_Carries_m fu r1.1) fun r6 => cnd r6 (bnd (Op_Still_m fu r1.1) fun r7 => some (!r7)) (some false)) (some false)) (some false)) (some false)) (some false)) (some false)) (some false)) (some false)) (some false)

set_option maxHeartbeats 10000000 in
set_option maxRecDepth 100000 in
theorem Instarlaw16_awake_ok (fu : Nat) : ∀ r, Instarlaw16_awake_m fu = some r → DC laidL Tryz.prog 8 [] (.v (.bool r)) := by
  intro r hr
  refine fc_intro (args := []) (S := []) (N0 := []) (post := fun r p S => p = .v (.bool r) ∧ S = []) Tryz.func8 rfl rfl hr fun w0 X X0 σ0 _ => ?_
  refine pw_seq ?_
  refine pw_region ?_
  refine po_evs (T := tab) 1 rfl rfl ?_
  refine po_nil ?_
  refine pn_seq ?_
  refine pw_seq ?_
  refine pw_region ?_
  refine po_call (enc := fun (r1 : (Op × Int)) => .tup [.agg (cOp r1.1), .v (.int .i64 r1.2)]) (qs := [.v (.string ⟨⟨[33, 112, 117, 116, 32, 115, 101, 108, 102, 32, 48, 32, 45]⟩⟩)]) (Op_Read_ok fu [33, 112, 117, 116, 32, 115, 101, 108, 102, 32, 48, 32, 45]) rfl rfl ⟨⟨_, rfl, .rfl⟩, trivial⟩ (fun _ => rfl) call17 rfl rfl fun r1 hr1 => ?_
  refine po_evs (T := tab) 3 rfl rfl ?_
  refine po_alloc (T := tab) 1 rfl rfl rfl rfl rfl rfl rfl rfl rfl ?_
  refine po_store (T := tab) rfl rfl rfl rfl rfl rfl rfl rfl rfl rfl rfl rfl ?_
  refine po_evs (T := tab) 1 rfl rfl ?_
  refine po_nil ?_
  refine pn_seq ?_
  refine pw_seq ?_
  refine pw_region ?_
  refine po_evs (T := tab) 1 rfl rfl ?_
  refine po_call (enc := fun (r2 : (Bs × Int)) => .tup [.v (.string ⟨⟨r2.1⟩⟩), .v (.int .i64 r2.2)]) (qs := [.agg (cOp r1.1)]) (Op_Put_ok fu r1.1) rfl rfl ⟨⟨_, rfl, .rfl⟩, trivial⟩ (fun _ => rfl) call10 rfl rfl fun r2 hr2 => ?_
  refine po_evs (T := tab) 5 rfl rfl ?_
  refine po_nil ?_
  refine pn_seq ?_
  refine pw_seq ?_
  refine pw_region ?_
  refine po_evs (T := tab) 1 rfl rfl ?_
  refine po_call (enc := fun (r3 : (Op × Int)) => .tup [.agg (cOp r3.1), .v (.int .i64 r3.2)]) (qs := [.agg (cOp r1.1), .v (.int .i64 3), .v (.int .i64 4)]) (Op_Aim_ok fu r1.1 3 4) rfl rfl ⟨⟨_, rfl, .rfl⟩, ⟨_, rfl, .rfl⟩, ⟨_, rfl, .rfl⟩, trivial⟩ (fun _ => rfl) call19 rfl rfl fun r3 hr3 => ?_
  refine po_evs (T := tab) 3 rfl rfl ?_
  refine po_alloc (T := tab) 5 rfl rfl rfl rfl rfl rfl rfl rfl rfl ?_
  refine po_store (T := tab) rfl rfl rfl rfl rfl rfl rfl rfl rfl rfl rfl rfl ?_
  refine po_evs (T := tab) 1 rfl rfl ?_
  refine po_nil ?_
  refine pn_seq ?_
  refine pw_seq ?_
  refine pw_region ?_
  refine po_call (enc := fun (r4 : (Op × Int)) => .tup [.agg (cOp r4.1), .v (.int .i64 r4.2)]) (qs := [.v (.string ⟨⟨[112, 117, 116, 32, 115, 101, 108, 102, 32, 48]⟩⟩)]) (Op_Read_ok fu [112, 117, 116, 32, 115, 101, 108, 102, 32, 48]) rfl rfl ⟨⟨_, rfl, .rfl⟩, trivial⟩ (fun _ => rfl) call17 rfl rfl fun r4 hr4 => ?_
  refine po_evs (T := tab) 3 rfl rfl ?_
  refine po_alloc (T := tab) 7 rfl rfl rfl rfl rfl rfl rfl rfl rfl ?_
  refine po_store (T := tab) rfl rfl rfl rfl rfl rfl rfl rfl rfl rfl rfl rfl ?_
  refine po_evs (T := tab) 1 rfl rfl ?_
  refine po_nil ?_
  refine pn_seq ?_
  refine pw_seq ?_
  refine pw_region ?_
  refine po_evs (T := tab) 3 rfl rfl ?_
  refine po_split (j := 29) rfl ?_ ?_
  · refine po_evs (T := tab) 4 rfl rfl ?_
    refine po_split (j := 33) rfl ?_ ?_
    · refine po_evs (T := tab) 4 rfl rfl ?_
      refine po_split (j := 37) rfl ?_ ?_
      · refine po_evs (T := tab) 1 rfl rfl ?_
        refine po_build (T := tab) rfl rfl rfl rfl rfl rfl rfl ?_
        refine po_eq eqf_23 rfl rfl rfl rfl rfl rfl rfl ?_
        refine po_evs (T := tab) 2 rfl rfl ?_
        refine po_split (j := 42) rfl ?_ ?_
        · refine po_evs (T := tab) 4 rfl rfl ?_
          refine po_split (j := 46) rfl ?_ ?_
          · refine po_evs (T := tab) 5 rfl rfl ?_
            refine po_split (j := 51) rfl ?_ ?_
            · refine po_evs (T := tab) 4 rfl rfl ?_
              refine po_split (j := 55) rfl ?_ ?_
              · refine po_evs (T := tab) 1 rfl rfl ?_
                refine po_call (enc := fun (r5 : Bool) => .v (.bool r5)) (qs := [.agg (cOp r1.1)]) (Op_Right_ok fu r1.1) rfl rfl ⟨⟨_, rfl, .rfl⟩, trivial⟩ (fun _ => rfl) call11 rfl rfl fun r5 hr5 => ?_
                refine po_evs (T := tab) 2 rfl rfl ?_
                refine po_split (j := 59) rfl ?_ ?_
                · refine po_evs (T := tab) 1 rfl rfl ?_
                  refine po_call (enc := fun (r6 : Bool) => .v (.bool r6)) (qs := [.agg (cOp r1.1)]) (Op_Carries_ok fu r1.1) rfl rfl ⟨⟨_, rfl, .rfl⟩, trivial⟩ (fun _ => rfl) call14 rfl rfl fun r6 hr6 => ?_
                  refine po_evs (T := tab) 2 rfl rfl ?_
                  refine po_split (j := 63) rfl ?_ ?_
                  · refine po_evs (T := tab) 1 rfl rfl ?_
                    refine po_call (enc := fun (r7 : Bool) => .v (.bool r7)) (qs := [.agg (cOp r1.1)]) (Op_Still_ok fu r1.1) rfl rfl ⟨⟨_, rfl, .rfl⟩, trivial⟩ (fun _ => rfl) call12 rfl rfl fun r7 hr7 => ?_
                    refine po_evs (T := tab) 3 rfl rfl ?_
                    refine po_nil ?_
                    refine pn_seq ?_
                    exact pw_retN (T := tab) rfl rfl rfl ⟨rfl, rfl⟩ trivial rfl
                  · refine po_evs (T := tab) 5 rfl rfl ?_
                    refine po_nil ?_
                    refine pn_seq ?_
                    exact pw_retN (T := tab) rfl rfl rfl ⟨rfl, rfl⟩ trivial rfl
                · refine po_evs (T := tab) 9 rfl rfl ?_
                  refine po_nil ?_
                  refine pn_seq ?_
                  exact pw_retN (T := tab) rfl rfl rfl ⟨rfl, rfl⟩ trivial rfl
              · refine po_evs (T := tab) 13 rfl rfl ?_
                refine po_nil ?_
                refine pn_seq ?_
                exact pw_retN (T := tab) rfl rfl rfl ⟨rfl, rfl⟩ trivial rfl
            · refine po_evs (T := tab) 17 rfl rfl ?_
              refine po_nil ?_
              refine pn_seq ?_
              exact pw_retN (T := tab) rfl rfl rfl ⟨rfl, rfl⟩ trivial rfl
          · refine po_evs (T := tab) 22 rfl rfl ?_
            refine po_nil ?_
            refine pn_seq ?_
            exact pw_retN (T := tab) rfl rfl rfl ⟨rfl, rfl⟩ trivial rfl
        · refine po_evs (T := tab) 26 rfl rfl ?_
          refine po_nil ?_
          refine pn_seq ?_
          exact pw_retN (T := tab) rfl rfl rfl ⟨rfl, rfl⟩ trivial rfl
      · refine po_evs (T := tab) 31 rfl rfl ?_
        refine po_nil ?_
        refine pn_seq ?_
        exact pw_retN (T := tab) rfl rfl rfl ⟨rfl, rfl⟩ trivial rfl
    · refine po_evs (T := tab) 35 rfl rfl ?_
      refine po_nil ?_
      refine pn_seq ?_
      exact pw_retN (T := tab) rfl rfl rfl ⟨rfl, rfl⟩ trivial rfl
  · refine po_evs (T := tab) 39 rfl rfl ?_
    refine po_nil ?_
    refine pn_seq ?_
    exact pw_retN (T := tab) rfl rfl rfl ⟨rfl, rfl⟩ trivial rfl

def Instarlaw16_OpBack_j1 (fu : Nat) (r3 : (Bs × Int)) (x_ : Unit) : Option Bool := bnd (cat r3.1 ([32] : Bs)) fun s11 => bnd (Op_Read_m fu s11) fun r12 => bnd (cat ([32] : Bs) r3.1) fun s13 => bnd (Op_Read_m fu s13) fun r14 => cnd (r12.2 == 2) (some (r14.2 == 2)) (some false)

def Instarlaw16_OpBack_m (fu : Nat) (o1 : Op) : Option Bool := bnd (Instarlaw16_awake_m fu) fun r2 => cnd (!r2) (some false) (cnd (decide (((o1.S.length : Nat) : Int) > 600)) (some true) (cnd (decide (((o1.T.length : Nat) : Int) > 600)) (some true) (bnd (Op_Put_m fu o1) fun r3 => cnd (r3.2 != 0) (cnd (r3.2 == 1) (cnd (r3.1 == ([] : Bs)) (bnd (Op_Right_m fu o1) fun r4 => some (!r4)) (some false)) (some false)) (bnd (Op_Read_m fu r3.1) fun r5 => cnd (r5.2 != 0) (some false) (cnd (!(eqOp r5.1 o1)) (some false) (bnd (Op_Right_m fu o1) fun r6 => cnd (!r6) (some false) (bnd (Op_Put_m fu (⟨o1.Kind, o1.A, o1.B, o1.C, o1.S, o1.T, (!o1.Must)⟩ : Op)) fun r7 => cnd (r7.2 != 0) (some false) (cnd o1.Must (bnd (cat ([33] : Bs) r7.1) fun s8 => cnd (!(r3.1 == s8)) (some false) (cnd (!o1.Must) (bnd (cat ([33] : Bs) r3.1) fun s9 => cnd (!(r7.1 == s9)) (some false) ((Instarlaw16_OpBack_j1 fu r3) ())) ((Instarlaw16_OpBack_j1 fu r3) ()))) (cnd (!o1.Must) (bnd (cat ([33] : Bs) r3.1) fun s10 => cnd (!(r7.1 == s10)) (some false) ((Instarlaw16_OpBack_j1 fu r3) ())) ((Instarlaw16_OpBack_j1 fu r3) ()))))))))))

set_option maxHeartbeats 10000000 in
set_option maxRecDepth 100000 in
theorem Instarlaw16_OpBack_ok (fu : Nat) (o1 : Op) : ∀ r, Instarlaw16_OpBack_m fu o1 = some r → DC laidL Tryz.prog 4 [.agg (cOp o1)] (.v (.bool r)) := by
  intro r hr
  refine fc_intro (args := [.agg (cOp o1)]) (S := []) (N0 := []) (post := fun r p S => p = .v (.bool r) ∧ S = []) Tryz.func4 rfl rfl hr fun w0 X X0 σ0 _ => ?_
  refine pw_seq ?_
  refine pw_region ?_
  refine po_box  1 rfl rfl rfl rfl rfl rfl rfl rfl rfl rfl ?_
  refine po_evs (T := tab) 1 rfl rfl ?_
  refine po_nil ?_
  refine pn_seq ?_
  refine pw_seq ?_
  refine pw_seq ?_
  refine pw_region ?_
  refine po_call (enc := fun (r2 : Bool) => .v (.bool r2)) (qs := []) (Instarlaw16_awake_ok fu) rfl rfl trivial (fun _ => rfl) call8 rfl rfl fun r2 hr2 => ?_
  refine po_evs (T := tab) 1 rfl rfl ?_
  refine po_nil ?_
  refine pn_seq ?_
  refine pw_cnd rfl ?_ ?_
  · refine pw_seq ?_
    refine pw_region ?_
    refine po_evs (T := tab) 1 rfl rfl ?_
    refine po_nil ?_
    refine pn_seq ?_
    exact pw_retN (T := tab) rfl rfl rfl ⟨rfl, rfl⟩ trivial rfl
  · refine pw_skip ?_
    refine pn_seq ?_
    refine pw_seq ?_
    refine pw_seq ?_
    refine pw_region ?_
    refine po_evs (T := tab) 5 rfl rfl ?_
    refine po_split (j := 20) rfl ?_ ?_
    · refine po_evs (T := tab) 5 rfl rfl ?_
      refine po_nil ?_
      refine pn_seq (pw_then rfl ?_)
      refine pw_seq ?_
      refine pw_region ?_
      refine po_evs (T := tab) 1 rfl rfl ?_
      refine po_nil ?_
      refine pn_seq ?_
      exact pw_retN (T := tab) rfl rfl rfl ⟨rfl, rfl⟩ trivial rfl
    · refine po_evs (T := tab) 5 rfl rfl ?_
      refine po_nil ?_
      refine pn_seq ?_
      refine pw_cnd rfl ?_ ?_
      · refine pw_seq ?_
        refine pw_region ?_
        refine po_evs (T := tab) 1 rfl rfl ?_
        refine po_nil ?_
        refine pn_seq ?_
        exact pw_retN (T := tab) rfl rfl rfl ⟨rfl, rfl⟩ trivial rfl
      · refine pw_skip ?_
        refine pn_seq ?_
        refine pw_seq ?_
        refine pw_region ?_
        refine po_evs (T := tab) 1 rfl rfl ?_
        refine po_call (enc := fun (r3 : (Bs × Int)) => .tup [.v (.string ⟨⟨r3.1⟩⟩), .v (.int .i64 r3.2)]) (qs := [.agg (cOp o1)]) (Op_Put_ok fu o1) rfl rfl ⟨⟨_, rfl, .rfl⟩, trivial⟩ (fun _ => rfl) call10 rfl rfl fun r3 hr3 => ?_
        refine po_evs (T := tab) 5 rfl rfl ?_
        refine po_nil ?_
        refine pn_seq ?_
        refine pw_seq ?_
        refine pw_seq ?_
        refine pw_region ?_
        refine po_evs (T := tab) 2 rfl rfl ?_
        refine po_nil ?_
        refine pn_seq ?_
        refine pw_cnd rfl ?_ ?_
        · refine pw_seq ?_
          refine pw_region ?_
          refine po_evs (T := tab) 3 rfl rfl ?_
          refine po_split (j := 35) rfl ?_ ?_
          · refine po_evs (T := tab) 4 rfl rfl ?_
            refine po_split (j := 39) rfl ?_ ?_
            · refine po_evs (T := tab) 1 rfl rfl ?_
              refine po_call (enc := fun (r4 : Bool) => .v (.bool r4)) (qs := [.agg (cOp o1)]) (Op_Right_ok fu o1) rfl rfl ⟨⟨_, rfl, .rfl⟩, trivial⟩ (fun _ => rfl) call11 rfl rfl fun r4 hr4 => ?_
              refine po_evs (T := tab) 3 rfl rfl ?_
              refine po_nil ?_
              refine pn_seq ?_
              exact pw_retN (T := tab) rfl rfl rfl ⟨rfl, rfl⟩ trivial rfl
            · refine po_evs (T := tab) 5 rfl rfl ?_
              refine po_nil ?_
              refine pn_seq ?_
              exact pw_retN (T := tab) rfl rfl rfl ⟨rfl, rfl⟩ trivial rfl
          · refine po_evs (T := tab) 9 rfl rfl ?_
            refine po_nil ?_
            refine pn_seq ?_
            exact pw_retN (T := tab) rfl rfl rfl ⟨rfl, rfl⟩ trivial rfl
        · refine pw_skip ?_
          refine pn_seq ?_
          refine pw_seq ?_
          refine pw_region ?_
          refine po_evs (T := tab) 1 rfl rfl ?_
          refine po_call (enc := fun (r5 : (Op × Int)) => .tup [.agg (cOp r5.1), .v (.int .i64 r5.2)]) (qs := [.v (.string ⟨⟨r3.1⟩⟩)]) (Op_Read_ok fu r3.1) rfl rfl ⟨⟨_, rfl, .rfl⟩, trivial⟩ (fun _ => rfl) call17 rfl rfl fun r5 hr5 => ?_
          refine po_evs (T := tab) 3 rfl rfl ?_
          refine po_alloc (T := tab) 5 rfl rfl rfl rfl rfl rfl rfl rfl rfl ?_
          refine po_store (T := tab) rfl rfl rfl rfl rfl rfl rfl rfl rfl rfl rfl rfl ?_
          refine po_evs (T := tab) 1 rfl rfl ?_
          refine po_nil ?_
          refine pn_seq ?_
          refine pw_seq ?_
          refine pw_seq ?_
          refine pw_region ?_
          refine po_evs (T := tab) 3 rfl rfl ?_
          refine po_split (j := 51) rfl ?_ ?_
          · refine po_evs (T := tab) 9 rfl rfl ?_
            refine po_nil ?_
            refine pn_seq (pw_then rfl ?_)
            refine pw_seq ?_
            refine pw_region ?_
            refine po_evs (T := tab) 1 rfl rfl ?_
            refine po_nil ?_
            refine pn_seq ?_
            exact pw_retN (T := tab) rfl rfl rfl ⟨rfl, rfl⟩ trivial rfl
          · refine po_evs (T := tab) 2 rfl rfl ?_
            refine po_ne eqf_23 rfl rfl rfl rfl rfl rfl rfl ?_
            refine po_evs (T := tab) 2 rfl rfl ?_
            refine po_split (j := 56) rfl ?_ ?_
            · refine po_evs (T := tab) 4 rfl rfl ?_
              refine po_nil ?_
              refine pn_seq (pw_then rfl ?_)
              refine pw_seq ?_
              refine pw_region ?_
              refine po_evs (T := tab) 1 rfl rfl ?_
              refine po_nil ?_
              refine pn_seq ?_
              exact pw_retN (T := tab) rfl rfl rfl ⟨rfl, rfl⟩ trivial rfl
            · refine po_evs (T := tab) 1 rfl rfl ?_
              refine po_call (enc := fun (r6 : Bool) => .v (.bool r6)) (qs := [.agg (cOp o1)]) (Op_Right_ok fu o1) rfl rfl ⟨⟨_, rfl, .rfl⟩, trivial⟩ (fun _ => rfl) call11 rfl rfl fun r6 hr6 => ?_
              refine po_evs (T := tab) 2 rfl rfl ?_
              refine po_nil ?_
              refine pn_seq ?_
              refine pw_cnd rfl ?_ ?_
              · refine pw_seq ?_
                refine pw_region ?_
                refine po_evs (T := tab) 1 rfl rfl ?_
                refine po_nil ?_
                refine pn_seq ?_
                exact pw_retN (T := tab) rfl rfl rfl ⟨rfl, rfl⟩ trivial rfl
              · refine pw_skip ?_
                refine pn_seq ?_
                refine pw_seq ?_
                refine pw_region ?_
                refine po_evs (T := tab) 1 rfl rfl ?_
                refine po_alloc (T := tab) 7 rfl rfl rfl rfl rfl rfl rfl rfl rfl ?_
                refine po_store (T := tab) rfl rfl rfl rfl rfl rfl rfl rfl rfl rfl rfl rfl ?_
                refine po_nil ?_
                refine pn_seq ?_
                refine pw_seq ?_
                refine pw_region ?_
                refine po_evs (T := tab) 4 rfl rfl ?_
                refine po_store (T := tab) rfl rfl rfl rfl rfl rfl rfl rfl rfl rfl rfl rfl ?_
                refine po_nil ?_
                refine pn_seq ?_
                refine pw_seq ?_
                refine pw_region ?_
                refine po_evs (T := tab) 1 rfl rfl ?_
                refine po_call (enc := fun (r7 : (Bs × Int)) => .tup [.v (.string ⟨⟨r7.1⟩⟩), .v (.int .i64 r7.2)]) (qs := [.agg (cOp (⟨o1.Kind, o1.A, o1.B, o1.C, o1.S, o1.T, (!o1.Must)⟩ : Op))]) (Op_Put_ok fu (⟨o1.Kind, o1.A, o1.B, o1.C, o1.S, o1.T, (!o1.Must)⟩ : Op)) rfl rfl ⟨⟨_, rfl, .rfl⟩, trivial⟩ (fun _ => rfl) call10 rfl rfl fun r7 hr7 => ?_
                refine po_evs (T := tab) 5 rfl rfl ?_
                refine po_nil ?_
                refine pn_seq ?_
                refine pw_seq ?_
                refine pw_seq ?_
                refine pw_region ?_
                refine po_joinB (Instarlaw16_OpBack_j1 fu r3) (fun (_ : Unit) => [(3, .v (.string ⟨⟨r3.1⟩⟩))]) (fun (_ : Unit) => []) ?_ fun hj1 => ?_
                · rintro _
                  refine pn_seq ?_
                  refine pw_seq ?_
                  refine pw_region ?_
                  refine po_evs (T := tab) 1 rfl rfl ?_
                  refine po_cat rfl rfl rfl rfl rfl rfl fun s11 hs11 => ?_
                  refine po_call (enc := fun (r12 : (Op × Int)) => .tup [.agg (cOp r12.1), .v (.int .i64 r12.2)]) (qs := [.v (.string ⟨⟨s11⟩⟩)]) (Op_Read_ok fu s11) rfl rfl ⟨⟨_, rfl, .rfl⟩, trivial⟩ (fun _ => rfl) call17 rfl rfl fun r12 hr12 => ?_
                  refine po_evs (T := tab) 3 rfl rfl ?_
                  refine po_alloc (T := tab) 10 rfl rfl rfl rfl rfl rfl rfl rfl rfl ?_
                  refine po_store (T := tab) rfl rfl rfl rfl rfl rfl rfl rfl rfl rfl rfl rfl ?_
                  refine po_evs (T := tab) 1 rfl rfl ?_
                  refine po_nil ?_
                  refine pn_seq ?_
                  refine pw_seq ?_
                  refine pw_region ?_
                  refine po_evs (T := tab) 1 rfl rfl ?_
                  refine po_cat rfl rfl rfl rfl rfl rfl fun s13 hs13 => ?_
                  refine po_call (enc := fun (r14 : (Op × Int)) => .tup [.agg (cOp r14.1), .v (.int .i64 r14.2)]) (qs := [.v (.string ⟨⟨s13⟩⟩)]) (Op_Read_ok fu s13) rfl rfl ⟨⟨_, rfl, .rfl⟩, trivial⟩ (fun _ => rfl) call17 rfl rfl fun r14 hr14 => ?_
                  refine po_evs (T := tab) 3 rfl rfl ?_
                  refine po_alloc (T := tab) 12 rfl rfl rfl rfl rfl rfl rfl rfl rfl ?_
                  refine po_store (T := tab) rfl rfl rfl rfl rfl rfl rfl rfl rfl rfl rfl rfl ?_
                  refine po_evs (T := tab) 1 rfl rfl ?_
                  refine po_nil ?_
                  refine pn_seq ?_
                  refine pw_seq ?_
                  refine pw_region ?_
                  refine po_evs (T := tab) 3 rfl rfl ?_
                  refine po_split (j := 108) rfl ?_ ?_
                  · refine po_evs (T := tab) 4 rfl rfl ?_
                    refine po_nil ?_
                    refine pn_seq ?_
                    exact pw_retN (T := tab) rfl rfl rfl ⟨rfl, rfl⟩ trivial rfl
                  · refine po_evs (T := tab) 4 rfl rfl ?_
                    refine po_nil ?_
                    refine pn_seq ?_
                    exact pw_retN (T := tab) rfl rfl rfl ⟨rfl, rfl⟩ trivial rfl
                · refine po_evs (T := tab) 3 rfl rfl ?_
                  refine po_split (j := 73) rfl ?_ ?_
                  · refine po_evs (T := tab) 20 rfl rfl ?_
                    refine po_nil ?_
                    refine pn_seq (pw_then rfl ?_)
                    refine pw_seq ?_
                    refine pw_region ?_
                    refine po_evs (T := tab) 1 rfl rfl ?_
                    refine po_nil ?_
                    refine pn_seq ?_
                    exact pw_retN (T := tab) rfl rfl rfl ⟨rfl, rfl⟩ trivial rfl
                  · refine po_evs (T := tab) 3 rfl rfl ?_
                    refine po_split (j := 76) rfl ?_ ?_
                    · refine po_evs (T := tab) 2 rfl rfl ?_
                      refine po_cat rfl rfl rfl rfl rfl rfl fun s8 hs8 => ?_
                      refine po_evs (T := tab) 4 rfl rfl ?_
                      refine po_split (j := 83) rfl ?_ ?_
                      · refine po_evs (T := tab) 10 rfl rfl ?_
                        refine po_nil ?_
                        refine pn_seq (pw_then rfl ?_)
                        refine pw_seq ?_
                        refine pw_region ?_
                        refine po_evs (T := tab) 1 rfl rfl ?_
                        refine po_nil ?_
                        refine pn_seq ?_
                        exact pw_retN (T := tab) rfl rfl rfl ⟨rfl, rfl⟩ trivial rfl
                      · refine po_evs (T := tab) 4 rfl rfl ?_
                        refine po_split (j := 87) rfl ?_ ?_
                        · refine po_evs (T := tab) 2 rfl rfl ?_
                          refine po_cat rfl rfl rfl rfl rfl rfl fun s9 hs9 => ?_
                          refine po_evs (T := tab) 3 rfl rfl ?_
                          refine po_nil ?_
                          refine pn_seq ?_
                          refine pw_cnd rfl ?_ ?_
                          · refine pw_seq ?_
                            refine pw_region ?_
                            refine po_evs (T := tab) 1 rfl rfl ?_
                            refine po_nil ?_
                            refine pn_seq ?_
                            exact pw_retN (T := tab) rfl rfl rfl ⟨rfl, rfl⟩ trivial rfl
                          · refine pw_skip ?_
                            exact pn_sub' (hj1 ()) ⟨rfl, trivial⟩ trivial rfl
                        · refine po_evs (T := tab) 6 rfl rfl ?_
                          refine po_nil ?_
                          refine pn_seq (pw_else rfl ?_)
                          refine pw_skip ?_
                          exact pn_sub' (hj1 ()) ⟨rfl, trivial⟩ trivial rfl
                    · refine po_evs (T := tab) 11 rfl rfl ?_
                      refine po_split (j := 87) rfl ?_ ?_
                      · refine po_evs (T := tab) 2 rfl rfl ?_
                        refine po_cat rfl rfl rfl rfl rfl rfl fun s10 hs10 => ?_
                        refine po_evs (T := tab) 3 rfl rfl ?_
                        refine po_nil ?_
                        refine pn_seq ?_
                        refine pw_cnd rfl ?_ ?_
                        · refine pw_seq ?_
                          refine pw_region ?_
                          refine po_evs (T := tab) 1 rfl rfl ?_
                          refine po_nil ?_
                          refine pn_seq ?_
                          exact pw_retN (T := tab) rfl rfl rfl ⟨rfl, rfl⟩ trivial rfl
                        · refine pw_skip ?_
                          exact pn_sub' (hj1 ()) ⟨rfl, trivial⟩ trivial rfl
                      · refine po_evs (T := tab) 6 rfl rfl ?_
                        refine po_nil ?_
                        refine pn_seq (pw_else rfl ?_)
                        refine pw_skip ?_
                        exact pn_sub' (hj1 ()) ⟨rfl, trivial⟩ trivial rfl

def Instarlaw16_OpReads_m (fu : Nat) (s1 : Bs) (t2 : Bs) : Option Bool := bnd (Instarlaw16_awake_m fu) fun r3 => cnd (!r3) (some false) (cnd (decide (((s1.length : Nat) : Int) > 600)) (some true) (cnd (decide (((t2.length : Nat) : Int) > 600)) (some true) (bnd (Op_Read_m fu s1) fun r4 => cnd (r4.2 != 0) (cnd (r4.2 == 2) (some (eqOp r4.1 (⟨0, 0, 0, 0, [], [], false⟩ : Op))) (some false)) (bnd (Op_Put_m fu r4.1) fun r5 => cnd (r5.2 != 0) (some false) (cnd (!(r5.1 == s1)) (some false) (bnd (Op_Right_m fu r4.1) fun r6 => cnd (!r6) (some false) (bnd (Op_Read_m fu t2) fun r7 => cnd (r7.2 != 0) (some true) (some ((eqOp r4.1 r7.1) == (s1 == t2))))))))))

end Go.Proofs.YtkngnghbnhgfjaaGreatDoor
