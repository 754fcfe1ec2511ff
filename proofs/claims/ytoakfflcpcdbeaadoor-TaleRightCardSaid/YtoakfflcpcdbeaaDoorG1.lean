/- Models and proofs, printed by emit2.py. -/
import Derived.Test.YtoakfflcpcdbeaaDoorData
namespace Go.Proofs.YtoakfflcpcdbeaaDoor
open Go Go.Pw
set_option linter.unusedVariables false

def Internal_stringslite_HasSuffix_m (_fu : Nat) (s1 : Bs) (suffix2 : Bs) : Option Bool := cnd (decide (((s1.length : Nat) : Int) ≥ ((suffix2.length : Nat) : Int))) (bnd (rng .i64 (((s1.length : Nat) : Int) - ((suffix2.length : Nat) : Int))) fun i3 => bnd (piece s1 i3 ((s1.length : Nat) : Int)) fun s4 => some (s4 == suffix2)) (some false)

set_option maxRecDepth 100000 in
theorem Internal_stringslite_HasSuffix_ok (fu : Nat) (s1 : Bs) (suffix2 : Bs) : ∀ r, Internal_stringslite_HasSuffix_m fu s1 suffix2 = some r → DC laidL Tryd.prog 51 [.v (.string ⟨⟨s1⟩⟩), .v (.string ⟨⟨suffix2⟩⟩)] (.v (.bool r)) := by
  intro r hr
  refine fc_intro (args := [.v (.string ⟨⟨s1⟩⟩), .v (.string ⟨⟨suffix2⟩⟩)]) (S := []) (N0 := []) (post := fun r p S => p = .v (.bool r) ∧ S = []) Tryd.func51 rfl rfl hr fun w0 X X0 σ0 _ => ?_
  refine pw_seq ?_
  refine pw_region ?_
  refine po_evs (T := tab) 1 rfl rfl ?_
  refine po_nil ?_
  refine pn_seq ?_
  refine pw_seq ?_
  refine pw_region ?_
  refine po_evs (T := tab) 6 rfl rfl ?_
  refine po_split (j := 10) rfl ?_ ?_
  · refine po_evs (T := tab) 5 rfl rfl ?_
    refine po_arith' (T := tab) rfl rfl rfl rfl fun i3 hi3 => ?_
    refine po_sub (T := tab) rfl rfl rfl rfl rfl rfl rfl rfl fun s4 hs4 => ?_
    refine po_evs (T := tab) 4 rfl rfl ?_
    refine po_nil ?_
    refine pn_seq ?_
    exact pw_retN (T := tab) rfl rfl rfl ⟨rfl, rfl⟩ trivial rfl
  · refine po_evs (T := tab) 11 rfl rfl ?_
    refine po_nil ?_
    refine pn_seq ?_
    exact pw_retN (T := tab) rfl rfl rfl ⟨rfl, rfl⟩ trivial rfl

def Internal_stringslite_CutSuffix_m (fu : Nat) (s1 : Bs) (suffix2 : Bs) : Option (Bs × Bool) := bnd (Internal_stringslite_HasSuffix_m fu s1 suffix2) fun r3 => cnd (!r3) (some (s1, false)) (bnd (rng .i64 (((s1.length : Nat) : Int) - ((suffix2.length : Nat) : Int))) fun i4 => bnd (piece s1 0 i4) fun s5 => some (s5, true))

set_option maxRecDepth 100000 in
theorem Internal_stringslite_CutSuffix_ok (fu : Nat) (s1 : Bs) (suffix2 : Bs) : ∀ r, Internal_stringslite_CutSuffix_m fu s1 suffix2 = some r → DC laidL Tryd.prog 37 [.v (.string ⟨⟨s1⟩⟩), .v (.string ⟨⟨suffix2⟩⟩)] (.tup [.v (.string ⟨⟨r.1⟩⟩), .v (.bool r.2)]) := by
  intro r hr
  refine fc_intro (args := [.v (.string ⟨⟨s1⟩⟩), .v (.string ⟨⟨suffix2⟩⟩)]) (S := []) (N0 := []) (post := fun r p S => p = .tup [.v (.string ⟨⟨r.1⟩⟩), .v (.bool r.2)] ∧ S = []) Tryd.func37 rfl rfl hr fun w0 X X0 σ0 _ => ?_
  refine pw_seq ?_
  refine pw_region ?_
  refine po_evs (T := tab) 2 rfl rfl ?_
  refine po_nil ?_
  refine pn_seq ?_
  refine pw_seq ?_
  refine pw_seq ?_
  refine pw_region ?_
  refine po_evs (T := tab) 2 rfl rfl ?_
  refine po_call (enc := fun (r3 : Bool) => .v (.bool r3)) (qs := [.v (.string ⟨⟨s1⟩⟩), .v (.string ⟨⟨suffix2⟩⟩)]) (Internal_stringslite_HasSuffix_ok fu s1 suffix2) rfl rfl ⟨⟨_, rfl, .rfl⟩, ⟨_, rfl, .rfl⟩, trivial⟩ (fun _ => rfl) call51 rfl rfl fun r3 hr3 => ?_
  refine po_evs (T := tab) 1 rfl rfl ?_
  refine po_nil ?_
  refine pn_seq ?_
  refine pw_cnd rfl ?_ ?_
  · refine pw_seq ?_
    refine pw_region ?_
    refine po_evs (T := tab) 3 rfl rfl ?_
    refine po_nil ?_
    refine pn_seq ?_
    exact pw_retN (T := tab) rfl rfl rfl ⟨rfl, rfl⟩ trivial rfl
  · refine pw_skip ?_
    refine pn_seq ?_
    refine pw_seq ?_
    refine pw_region ?_
    refine po_evs (T := tab) 5 rfl rfl ?_
    refine po_arith' (T := tab) rfl rfl rfl rfl fun i4 hi4 => ?_
    refine po_sub (T := tab) rfl rfl rfl rfl rfl rfl rfl rfl fun s5 hs5 => ?_
    refine po_evs (T := tab) 2 rfl rfl ?_
    refine po_nil ?_
    refine pn_seq ?_
    exact pw_retN (T := tab) rfl rfl rfl ⟨rfl, rfl⟩ trivial rfl

def Strings_CutSuffix_m (fu : Nat) (s1 : Bs) (suffix2 : Bs) : Option (Bs × Bool) := bnd (Internal_stringslite_CutSuffix_m fu s1 suffix2) fun r3 => some (r3.1, r3.2)

set_option maxRecDepth 100000 in
theorem Strings_CutSuffix_ok (fu : Nat) (s1 : Bs) (suffix2 : Bs) : ∀ r, Strings_CutSuffix_m fu s1 suffix2 = some r → DC laidL Tryd.prog 28 [.v (.string ⟨⟨s1⟩⟩), .v (.string ⟨⟨suffix2⟩⟩)] (.tup [.v (.string ⟨⟨r.1⟩⟩), .v (.bool r.2)]) := by
  intro r hr
  refine fc_intro (args := [.v (.string ⟨⟨s1⟩⟩), .v (.string ⟨⟨suffix2⟩⟩)]) (S := []) (N0 := []) (post := fun r p S => p = .tup [.v (.string ⟨⟨r.1⟩⟩), .v (.bool r.2)] ∧ S = []) Tryd.func28 rfl rfl hr fun w0 X X0 σ0 _ => ?_
  refine pw_seq ?_
  refine pw_region ?_
  refine po_evs (T := tab) 2 rfl rfl ?_
  refine po_nil ?_
  refine pn_seq ?_
  refine pw_seq ?_
  refine pw_region ?_
  refine po_evs (T := tab) 2 rfl rfl ?_
  refine po_call (enc := fun (r3 : (Bs × Bool)) => .tup [.v (.string ⟨⟨r3.1⟩⟩), .v (.bool r3.2)]) (qs := [.v (.string ⟨⟨s1⟩⟩), .v (.string ⟨⟨suffix2⟩⟩)]) (Internal_stringslite_CutSuffix_ok fu s1 suffix2) rfl rfl ⟨⟨_, rfl, .rfl⟩, ⟨_, rfl, .rfl⟩, trivial⟩ (fun _ => rfl) call37 rfl rfl fun r3 hr3 => ?_
  refine po_evs (T := tab) 4 rfl rfl ?_
  refine po_nil ?_
  refine pn_seq ?_
  exact pw_retN (T := tab) rfl rfl rfl ⟨rfl, rfl⟩ trivial rfl

def Tale_words_m (fu : Nat) : Option (List Bs) := bnd (fields_m fu ([45, 32, 100, 105, 100, 32, 98, 97, 100, 32, 98, 101, 103, 97, 110, 32, 101, 110, 100, 101, 100, 32, 98, 101, 99, 97, 109, 101, 32, 99, 97, 108, 108, 101, 100, 32, 116, 111, 108, 100, 32, 107, 101, 112, 116, 32, 112, 101, 101, 107, 101, 100, 32, 111, 118, 101, 114] : Bs)) fun r1 => some r1

set_option maxRecDepth 100000 in
theorem Tale_words_ok (fu : Nat) : ∀ r, Tale_words_m fu = some r → DC laidL Tryd.prog 16 [] (.sl 1 false (r.map cStr)) := by
  intro r hr
  refine fc_intro (args := []) (S := []) (N0 := []) (post := fun r p S => p = .sl 1 false (r.map cStr) ∧ S = []) Tryd.func16 rfl rfl hr fun w0 X X0 σ0 _ => ?_
  refine pw_seq ?_
  refine pw_region ?_
  refine po_evs (T := tab) 1 rfl rfl ?_
  refine po_nil ?_
  refine pn_seq ?_
  refine pw_seq ?_
  refine pw_region ?_
  refine po_call (enc := fun (r1 : (List Bs)) => .sl 1 false (r1.map cStr)) (qs := [.v (.string ⟨⟨[45, 32, 100, 105, 100, 32, 98, 97, 100, 32, 98, 101, 103, 97, 110, 32, 101, 110, 100, 101, 100, 32, 98, 101, 99, 97, 109, 101, 32, 99, 97, 108, 108, 101, 100, 32, 116, 111, 108, 100, 32, 107, 101, 112, 116, 32, 112, 101, 101, 107, 101, 100, 32, 111, 118, 101, 114]⟩⟩)]) (fields_ok fu ([45, 32, 100, 105, 100, 32, 98, 97, 100, 32, 98, 101, 103, 97, 110, 32, 101, 110, 100, 101, 100, 32, 98, 101, 99, 97, 109, 101, 32, 99, 97, 108, 108, 101, 100, 32, 116, 111, 108, 100, 32, 107, 101, 112, 116, 32, 112, 101, 101, 107, 101, 100, 32, 111, 118, 101, 114] : Bs)) rfl rfl ⟨⟨_, rfl, .rfl⟩, trivial⟩ (fun _ => rfl) call32 rfl rfl fun r1 hr1 => ?_
  refine po_evs (T := tab) 1 rfl rfl ?_
  refine po_nil ?_
  refine pn_seq ?_
  exact pw_retN (T := tab) rfl rfl rfl ⟨rfl, rfl⟩ trivial rfl

def Internal_stringslite_Cut_m (fu : Nat) (s1 : Bs) (sep2 : Bs) : Option (Bs × Bs × Bool) := bnd (index1_m fu s1 sep2) fun r3 => cnd (decide (r3 ≥ 0)) (bnd (piece s1 0 r3) fun s4 => bnd (rng .i64 (r3 + ((sep2.length : Nat) : Int))) fun i5 => bnd (piece s1 i5 ((s1.length : Nat) : Int)) fun s6 => some (s4, s6, true)) (some (s1, [], false))

set_option maxRecDepth 100000 in
theorem Internal_stringslite_Cut_ok (fu : Nat) (s1 : Bs) (sep2 : Bs) : ∀ r, Internal_stringslite_Cut_m fu s1 sep2 = some r → DC laidL Tryd.prog 59 [.v (.string ⟨⟨s1⟩⟩), .v (.string ⟨⟨sep2⟩⟩)] (.tup [.v (.string ⟨⟨r.1⟩⟩), .v (.string ⟨⟨r.2.1⟩⟩), .v (.bool r.2.2)]) := by
  intro r hr
  refine fc_intro (args := [.v (.string ⟨⟨s1⟩⟩), .v (.string ⟨⟨sep2⟩⟩)]) (S := []) (N0 := []) (post := fun r p S => p = .tup [.v (.string ⟨⟨r.1⟩⟩), .v (.string ⟨⟨r.2.1⟩⟩), .v (.bool r.2.2)] ∧ S = []) Tryd.func59 rfl rfl hr fun w0 X X0 σ0 _ => ?_
  refine pw_seq ?_
  refine pw_region ?_
  refine po_evs (T := tab) 3 rfl rfl ?_
  refine po_nil ?_
  refine pn_seq ?_
  refine pw_seq ?_
  refine pw_seq ?_
  refine pw_region ?_
  refine po_evs (T := tab) 2 rfl rfl ?_
  refine po_call (enc := fun (r3 : Int) => .v (.int .i64 r3)) (qs := [.v (.string ⟨⟨s1⟩⟩), .v (.string ⟨⟨sep2⟩⟩)]) (index1_ok fu s1 sep2) rfl rfl ⟨⟨_, rfl, .rfl⟩, ⟨_, rfl, .rfl⟩, trivial⟩ (fun _ => rfl) call70 rfl rfl fun r3 hr3 => ?_
  refine po_evs (T := tab) 1 rfl rfl ?_
  refine po_nil ?_
  refine pn_seq ?_
  refine pw_seq ?_
  refine pw_region ?_
  refine po_evs (T := tab) 2 rfl rfl ?_
  refine po_nil ?_
  refine pn_seq ?_
  refine pw_cnd rfl ?_ ?_
  · refine pw_seq ?_
    refine pw_draw mixed (by kernel_rfl) ?_
    refine pd_evs (T := tab) 2 rfl rfl ?_
    refine pd_sub (T := tab) rfl rfl rfl rfl rfl rfl rfl rfl fun s4 hs4 => ?_
    refine pd_evs (T := tab) 4 rfl rfl ?_
    refine pd_arith (T := tab) rfl rfl rfl rfl fun i5 hi5 => ?_
    refine pd_sub (T := tab) rfl rfl rfl rfl rfl rfl rfl rfl fun s6 hs6 => ?_
    refine pd_evs (T := tab) 3 rfl rfl ?_
    refine pd_nil ?_
    refine pn_seq ?_
    exact pw_retN (T := tab) rfl rfl rfl ⟨rfl, rfl⟩ trivial rfl
  · refine pw_skip ?_
    refine pn_seq ?_
    refine pw_seq ?_
    refine pw_region ?_
    refine po_evs (T := tab) 4 rfl rfl ?_
    refine po_nil ?_
    refine pn_seq ?_
    exact pw_retN (T := tab) rfl rfl rfl ⟨rfl, rfl⟩ trivial rfl

def Strings_Cut_m (fu : Nat) (s1 : Bs) (sep2 : Bs) : Option (Bs × Bs × Bool) := bnd (Internal_stringslite_Cut_m fu s1 sep2) fun r3 => some (r3.1, r3.2.1, r3.2.2)

set_option maxRecDepth 100000 in
theorem Strings_Cut_ok (fu : Nat) (s1 : Bs) (sep2 : Bs) : ∀ r, Strings_Cut_m fu s1 sep2 = some r → DC laidL Tryd.prog 52 [.v (.string ⟨⟨s1⟩⟩), .v (.string ⟨⟨sep2⟩⟩)] (.tup [.v (.string ⟨⟨r.1⟩⟩), .v (.string ⟨⟨r.2.1⟩⟩), .v (.bool r.2.2)]) := by
  intro r hr
  refine fc_intro (args := [.v (.string ⟨⟨s1⟩⟩), .v (.string ⟨⟨sep2⟩⟩)]) (S := []) (N0 := []) (post := fun r p S => p = .tup [.v (.string ⟨⟨r.1⟩⟩), .v (.string ⟨⟨r.2.1⟩⟩), .v (.bool r.2.2)] ∧ S = []) Tryd.func52 rfl rfl hr fun w0 X X0 σ0 _ => ?_
  refine pw_seq ?_
  refine pw_region ?_
  refine po_evs (T := tab) 3 rfl rfl ?_
  refine po_nil ?_
  refine pn_seq ?_
  refine pw_seq ?_
  refine pw_region ?_
  refine po_evs (T := tab) 2 rfl rfl ?_
  refine po_call (enc := fun (r3 : (Bs × Bs × Bool)) => .tup [.v (.string ⟨⟨r3.1⟩⟩), .v (.string ⟨⟨r3.2.1⟩⟩), .v (.bool r3.2.2)]) (qs := [.v (.string ⟨⟨s1⟩⟩), .v (.string ⟨⟨sep2⟩⟩)]) (Internal_stringslite_Cut_ok fu s1 sep2) rfl rfl ⟨⟨_, rfl, .rfl⟩, ⟨_, rfl, .rfl⟩, trivial⟩ (fun _ => rfl) call59 rfl rfl fun r3 hr3 => ?_
  refine po_evs (T := tab) 6 rfl rfl ?_
  refine po_nil ?_
  refine pn_seq ?_
  exact pw_retN (T := tab) rfl rfl rfl ⟨rfl, rfl⟩ trivial rfl

def Tale_reader_word_m (fu : Nat) (c1 : Tale_reader) : Option (Bs × Tale_reader) := bnd (Strings_Cut_m fu c1.s [32]) fun r2 => some (r2.1, (⟨r2.2.1, c1.bad⟩ : Tale_reader))

set_option maxRecDepth 100000 in
theorem Tale_reader_word_ok (fu : Nat) (c1 : Tale_reader) : ∀ r, Tale_reader_word_m fu c1 = some r → FC laidL Tryd.prog 39 [.loc 900000 0] [(900000, .box 81 [.v (.string ⟨⟨c1.s⟩⟩), .v (.bool c1.bad)])] [900000] fun p S' => p = .v (.string ⟨⟨r.1⟩⟩) ∧ S' = [(900000, .box 81 [.v (.string ⟨⟨r.2.s⟩⟩), .v (.bool r.2.bad)])] := by
  intro r hr
  refine fc_intro (args := [.loc 900000 0]) (S := [(900000, .box 81 [.v (.string ⟨⟨c1.s⟩⟩), .v (.bool c1.bad)])]) (N0 := [900000]) (post := fun r p S => p = .v (.string ⟨⟨r.1⟩⟩) ∧ S = [(900000, .box 81 [.v (.string ⟨⟨r.2.s⟩⟩), .v (.bool r.2.bad)])]) Tryd.func39 rfl rfl hr fun w0 X X0 σ0 _ => ?_
  refine pw_seq ?_
  refine pw_region ?_
  refine po_evs (T := tab) 1 rfl rfl ?_
  refine po_nil ?_
  refine pn_seq ?_
  refine pw_seq ?_
  refine pw_region ?_
  refine po_evs (T := tab) 4 rfl rfl ?_
  refine po_call (enc := fun (r2 : (Bs × Bs × Bool)) => .tup [.v (.string ⟨⟨r2.1⟩⟩), .v (.string ⟨⟨r2.2.1⟩⟩), .v (.bool r2.2.2)]) (qs := [.v (.string ⟨⟨c1.s⟩⟩), .v (.string ⟨⟨[32]⟩⟩)]) (Strings_Cut_ok fu c1.s [32]) rfl rfl ⟨⟨_, rfl, .rfl⟩, ⟨_, rfl, .rfl⟩, trivial⟩ (fun _ => rfl) call52 rfl rfl fun r2 hr2 => ?_
  refine po_evs (T := tab) 7 rfl rfl ?_
  refine po_nil ?_
  refine pn_seq ?_
  refine pw_seq ?_
  refine pw_region ?_
  refine po_evs (T := tab) 4 rfl rfl ?_
  refine po_store (T := tab) rfl rfl rfl rfl rfl rfl rfl rfl rfl rfl rfl rfl ?_
  refine po_nil ?_
  refine pn_seq ?_
  refine pw_seq ?_
  refine pw_region ?_
  refine po_evs (T := tab) 2 rfl rfl ?_
  refine po_nil ?_
  refine pn_seq ?_
  exact pw_retN (T := tab) rfl rfl rfl ⟨rfl, rfl⟩ ⟨rfl, trivial⟩ rfl

def Slices_Index_string_l1 (s1 : (List Bs)) (v2 : Bs) : Nat → Int → Option Int
  | 0, _ => none
  | k1 + 1, t3 => cnd (decide (t3 < ((s1.length : Nat) : Int))) (bnd (idx s1 t3) fun y4 => cnd (v2 == y4) (some t3) (bnd (rng .i64 (t3 + 1)) fun i5 => (Slices_Index_string_l1 s1 v2 k1) i5)) (some (-1))

def Slices_Index_string_m (fu : Nat) (s1 : (List Bs)) (v2 : Bs) : Option Int := (Slices_Index_string_l1 s1 v2) fu 0

set_option maxHeartbeats 10000000 in
set_option maxRecDepth 100000 in
theorem Slices_Index_string_ok (fu : Nat) (s1 : (List Bs)) (v2 : Bs) : ∀ r, Slices_Index_string_m fu s1 v2 = some r → DC laidL Tryd.prog 38 [.sl 1 false (s1.map cStr), .v (.string ⟨⟨v2⟩⟩)] (.v (.int .i64 r)) := by
  intro r hr
  refine fc_intro (args := [.sl 1 false (s1.map cStr), .v (.string ⟨⟨v2⟩⟩)]) (S := []) (N0 := []) (post := fun r p S => p = .v (.int .i64 r) ∧ S = []) Tryd.func38 rfl rfl hr fun w0 X X0 σ0 _ => ?_
  refine pw_seq ?_
  refine pw_region ?_
  refine po_evs (T := tab) 1 rfl rfl ?_
  refine po_nil ?_
  refine pn_seq ?_
  refine pw_seq ?_
  refine pw_seq ?_
  refine pw_region ?_
  refine po_evs (T := tab) 1 rfl rfl ?_
  refine po_len (T := tab) cStr s1 rfl rfl rfl rfl rfl rfl rfl rfl ?_
  refine po_evs (T := tab) 1 rfl rfl ?_
  refine po_nil ?_
  refine pn_seq ?_
  refine pw_block ?_
  refine pw_loop' (Slices_Index_string_l1 s1 v2) (fun (t3 : Int) => [(0, .sl 1 false (s1.map cStr)), (1, .v (.string ⟨⟨v2⟩⟩)), (7, .v (.int .i64 ((s1.length : Nat) : Int))), (8, .v (.int .i64 t3))]) (fun (t3 : Int) => []) fu 0 (fun _ => rfl) ⟨rfl, rfl, rfl, rfl, trivial⟩ trivial rfl ?_
  rintro k1 t3
  refine pw_seq ?_
  refine pw_region ?_
  refine po_evs (T := tab) 1 rfl rfl ?_
  refine po_nil ?_
  refine pn_seq ?_
  refine pw_seq ?_
  refine pw_cnd rfl ?_ ?_
  · refine pw_skip ?_
    refine pn_seq ?_
    refine pw_seq ?_
    refine pw_block ?_
    refine pw_seq ?_
    refine pw_region ?_
    refine po_evs (T := tab) 2 rfl rfl ?_
    refine po_nil ?_
    refine pn_seq ?_
    refine pw_seq ?_
    refine pw_region ?_
    refine po_evs (T := tab) 3 rfl rfl ?_
    refine po_idx (T := tab) cStr s1 rfl rfl rfl rfl rfl rfl rfl fun y4 hy4 => ?_
    refine po_evs (T := tab) 2 rfl rfl ?_
    refine po_nil ?_
    refine pn_seq ?_
    refine pw_cnd rfl ?_ ?_
    · refine pw_seq ?_
      refine pw_region ?_
      refine po_evs (T := tab) 2 rfl rfl ?_
      refine po_nil ?_
      refine pn_seq ?_
      exact pw_retN (T := tab) rfl rfl rfl ⟨rfl, rfl⟩ trivial rfl
    · refine pw_skip ?_
      refine pn_block ?_
      refine pn_seq ?_
      refine pw_region ?_
      refine po_arith' (T := tab) rfl rfl rfl rfl fun i5 hi5 => ?_
      refine po_evs (T := tab) 1 rfl rfl ?_
      refine po_nil ?_
      exact pn_iter' i5 ⟨rfl, rfl, rfl, rfl, trivial⟩ trivial rfl
  · refine pw_exit rfl ?_
    refine pn_seq ?_
    refine pw_seq ?_
    refine pw_region ?_
    refine po_evs (T := tab) 1 rfl rfl ?_
    refine po_nil ?_
    refine pn_seq ?_
    exact pw_retN (T := tab) rfl rfl rfl ⟨rfl, rfl⟩ trivial rfl

def Tale_reader_number_m (fu : Nat) (c1 : Tale_reader) : Option (Int × Tale_reader) := bnd (Tale_reader_word_m fu c1) fun r2 => bnd (atoi_m fu r2.1) fun r3 => cnd r2.2.bad (some (r3.1, (⟨r2.2.s, true⟩ : Tale_reader))) (some (r3.1, (⟨r2.2.s, r3.2⟩ : Tale_reader)))

set_option maxRecDepth 100000 in
theorem Tale_reader_number_ok (fu : Nat) (c1 : Tale_reader) : ∀ r, Tale_reader_number_m fu c1 = some r → FC laidL Tryd.prog 40 [.loc 900000 0] [(900000, .box 81 [.v (.string ⟨⟨c1.s⟩⟩), .v (.bool c1.bad)])] [900000] fun p S' => p = .v (.int .i64 r.1) ∧ S' = [(900000, .box 81 [.v (.string ⟨⟨r.2.s⟩⟩), .v (.bool r.2.bad)])] := by
  intro r hr
  refine fc_intro (args := [.loc 900000 0]) (S := [(900000, .box 81 [.v (.string ⟨⟨c1.s⟩⟩), .v (.bool c1.bad)])]) (N0 := [900000]) (post := fun r p S => p = .v (.int .i64 r.1) ∧ S = [(900000, .box 81 [.v (.string ⟨⟨r.2.s⟩⟩), .v (.bool r.2.bad)])]) Tryd.func40 rfl rfl hr fun w0 X X0 σ0 _ => ?_
  refine pw_seq ?_
  refine pw_region ?_
  refine po_evs (T := tab) 1 rfl rfl ?_
  refine po_nil ?_
  refine pn_seq ?_
  refine pw_seq ?_
  refine pw_region ?_
  refine po_evs (T := tab) 1 rfl rfl ?_
  refine po_turn [] (enc := fun (r2 : (Bs × Tale_reader)) => .v (.string ⟨⟨r2.1⟩⟩)) (Sr := fun (r2 : (Bs × Tale_reader)) => [(900000, .box 81 [.v (.string ⟨⟨r2.2.s⟩⟩), .v (.bool r2.2.bad)])]) (first := []) (cap := []) (qs := [.loc 900000 0]) (Sc := [(900000, .box 81 [.v (.string ⟨⟨c1.s⟩⟩), .v (.bool c1.bad)])]) (N0 := [900000]) (NR := [900000]) (fun r2 hr2 => fc_ren [(900000, 900000)] [900000] (Tale_reader_word_ok fu c1 _ hr2) rfl rfl rfl rfl rfl rfl) ⟨rfl, trivial⟩ (fun _ => rfl) rfl rfl rfl rfl rfl rfl rfl (fun _ => rfl) (fun _ => rfl) rfl rfl rfl ⟨⟨_, rfl, .rfl⟩, trivial⟩ call39 rfl rfl fun r2 hr2 => ?_
  refine po_call (enc := fun (r3 : (Int × Bool)) => .tup [.v (.int .i64 r3.1), .err r3.2]) (qs := [.v (.string ⟨⟨r2.1⟩⟩)]) (atoi_ok fu r2.1) rfl rfl ⟨⟨_, rfl, .rfl⟩, trivial⟩ (fun _ => rfl) call53 rfl rfl fun r3 hr3 => ?_
  refine po_evs (T := tab) 5 rfl rfl ?_
  refine po_nil ?_
  refine pn_seq ?_
  refine pw_seq ?_
  refine pw_region ?_
  refine po_evs (T := tab) 6 rfl rfl ?_
  refine po_split (j := 16) rfl ?_ ?_
  · refine po_evs (T := tab) 5 rfl rfl ?_
    refine po_store (T := tab) rfl rfl rfl rfl rfl rfl rfl rfl rfl rfl rfl rfl ?_
    refine po_nil ?_
    refine pn_seq ?_
    refine pw_seq ?_
    refine pw_region ?_
    refine po_evs (T := tab) 2 rfl rfl ?_
    refine po_nil ?_
    refine pn_seq ?_
    exact pw_retN (T := tab) rfl rfl rfl ⟨rfl, rfl⟩ ⟨rfl, trivial⟩ rfl
  · refine po_evs (T := tab) 1 rfl rfl ?_
    refine po_err Tryd.underlying47 rfl rfl rfl rfl rfl rfl ?_
    refine po_evs (T := tab) 3 rfl rfl ?_
    refine po_store (T := tab) rfl rfl rfl rfl rfl rfl rfl rfl rfl rfl rfl rfl ?_
    refine po_nil ?_
    refine pn_seq ?_
    refine pw_seq ?_
    refine pw_region ?_
    refine po_evs (T := tab) 2 rfl rfl ?_
    refine po_nil ?_
    refine pn_seq ?_
    exact pw_retN (T := tab) rfl rfl rfl ⟨rfl, rfl⟩ ⟨rfl, trivial⟩ rfl

def Internal_stringslite_HasPrefix_m (_fu : Nat) (s1 : Bs) (prefix2 : Bs) : Option Bool := cnd (decide (((s1.length : Nat) : Int) ≥ ((prefix2.length : Nat) : Int))) (bnd (piece s1 0 ((prefix2.length : Nat) : Int)) fun s3 => some (s3 == prefix2)) (some false)

set_option maxRecDepth 100000 in
theorem Internal_stringslite_HasPrefix_ok (fu : Nat) (s1 : Bs) (prefix2 : Bs) : ∀ r, Internal_stringslite_HasPrefix_m fu s1 prefix2 = some r → DC laidL Tryd.prog 62 [.v (.string ⟨⟨s1⟩⟩), .v (.string ⟨⟨prefix2⟩⟩)] (.v (.bool r)) := by
  intro r hr
  refine fc_intro (args := [.v (.string ⟨⟨s1⟩⟩), .v (.string ⟨⟨prefix2⟩⟩)]) (S := []) (N0 := []) (post := fun r p S => p = .v (.bool r) ∧ S = []) Tryd.func62 rfl rfl hr fun w0 X X0 σ0 _ => ?_
  refine pw_seq ?_
  refine pw_region ?_
  refine po_evs (T := tab) 1 rfl rfl ?_
  refine po_nil ?_
  refine pn_seq ?_
  refine pw_seq ?_
  refine pw_region ?_
  refine po_evs (T := tab) 6 rfl rfl ?_
  refine po_split (j := 10) rfl ?_ ?_
  · refine po_evs (T := tab) 3 rfl rfl ?_
    refine po_sub (T := tab) rfl rfl rfl rfl rfl rfl rfl rfl fun s3 hs3 => ?_
    refine po_evs (T := tab) 4 rfl rfl ?_
    refine po_nil ?_
    refine pn_seq ?_
    exact pw_retN (T := tab) rfl rfl rfl ⟨rfl, rfl⟩ trivial rfl
  · refine po_evs (T := tab) 8 rfl rfl ?_
    refine po_nil ?_
    refine pn_seq ?_
    exact pw_retN (T := tab) rfl rfl rfl ⟨rfl, rfl⟩ trivial rfl

def Strings_HasPrefix_m (fu : Nat) (s1 : Bs) (prefix2 : Bs) : Option Bool := bnd (Internal_stringslite_HasPrefix_m fu s1 prefix2) fun r3 => some r3

set_option maxRecDepth 100000 in
theorem Strings_HasPrefix_ok (fu : Nat) (s1 : Bs) (prefix2 : Bs) : ∀ r, Strings_HasPrefix_m fu s1 prefix2 = some r → DC laidL Tryd.prog 54 [.v (.string ⟨⟨s1⟩⟩), .v (.string ⟨⟨prefix2⟩⟩)] (.v (.bool r)) := by
  intro r hr
  refine fc_intro (args := [.v (.string ⟨⟨s1⟩⟩), .v (.string ⟨⟨prefix2⟩⟩)]) (S := []) (N0 := []) (post := fun r p S => p = .v (.bool r) ∧ S = []) Tryd.func54 rfl rfl hr fun w0 X X0 σ0 _ => ?_
  refine pw_seq ?_
  refine pw_region ?_
  refine po_evs (T := tab) 1 rfl rfl ?_
  refine po_nil ?_
  refine pn_seq ?_
  refine pw_seq ?_
  refine pw_region ?_
  refine po_evs (T := tab) 2 rfl rfl ?_
  refine po_call (enc := fun (r3 : Bool) => .v (.bool r3)) (qs := [.v (.string ⟨⟨s1⟩⟩), .v (.string ⟨⟨prefix2⟩⟩)]) (Internal_stringslite_HasPrefix_ok fu s1 prefix2) rfl rfl ⟨⟨_, rfl, .rfl⟩, ⟨_, rfl, .rfl⟩, trivial⟩ (fun _ => rfl) call62 rfl rfl fun r3 hr3 => ?_
  refine po_evs (T := tab) 1 rfl rfl ?_
  refine po_nil ?_
  refine pn_seq ?_
  exact pw_retN (T := tab) rfl rfl rfl ⟨rfl, rfl⟩ trivial rfl

def Internal_stringslite_TrimPrefix_m (fu : Nat) (s1 : Bs) (prefix2 : Bs) : Option Bs := bnd (Internal_stringslite_HasPrefix_m fu s1 prefix2) fun r3 => cnd r3 (bnd (piece s1 ((prefix2.length : Nat) : Int) ((s1.length : Nat) : Int)) fun s4 => some s4) (some s1)

set_option maxRecDepth 100000 in
theorem Internal_stringslite_TrimPrefix_ok (fu : Nat) (s1 : Bs) (prefix2 : Bs) : ∀ r, Internal_stringslite_TrimPrefix_m fu s1 prefix2 = some r → DC laidL Tryd.prog 63 [.v (.string ⟨⟨s1⟩⟩), .v (.string ⟨⟨prefix2⟩⟩)] (.v (.string ⟨⟨r⟩⟩)) := by
  intro r hr
  refine fc_intro (args := [.v (.string ⟨⟨s1⟩⟩), .v (.string ⟨⟨prefix2⟩⟩)]) (S := []) (N0 := []) (post := fun r p S => p = .v (.string ⟨⟨r⟩⟩) ∧ S = []) Tryd.func63 rfl rfl hr fun w0 X X0 σ0 _ => ?_
  refine pw_seq ?_
  refine pw_region ?_
  refine po_evs (T := tab) 1 rfl rfl ?_
  refine po_nil ?_
  refine pn_seq ?_
  refine pw_seq ?_
  refine pw_seq ?_
  refine pw_region ?_
  refine po_evs (T := tab) 2 rfl rfl ?_
  refine po_call (enc := fun (r3 : Bool) => .v (.bool r3)) (qs := [.v (.string ⟨⟨s1⟩⟩), .v (.string ⟨⟨prefix2⟩⟩)]) (Internal_stringslite_HasPrefix_ok fu s1 prefix2) rfl rfl ⟨⟨_, rfl, .rfl⟩, ⟨_, rfl, .rfl⟩, trivial⟩ (fun _ => rfl) call62 rfl rfl fun r3 hr3 => ?_
  refine po_nil ?_
  refine pn_seq ?_
  refine pw_cnd rfl ?_ ?_
  · refine pw_seq ?_
    refine pw_region ?_
    refine po_evs (T := tab) 3 rfl rfl ?_
    refine po_sub (T := tab) rfl rfl rfl rfl rfl rfl rfl rfl fun s4 hs4 => ?_
    refine po_evs (T := tab) 1 rfl rfl ?_
    refine po_nil ?_
    refine pn_seq ?_
    exact pw_retN (T := tab) rfl rfl rfl ⟨rfl, rfl⟩ trivial rfl
  · refine pw_skip ?_
    refine pn_seq ?_
    refine pw_seq ?_
    refine pw_region ?_
    refine po_evs (T := tab) 2 rfl rfl ?_
    refine po_nil ?_
    refine pn_seq ?_
    exact pw_retN (T := tab) rfl rfl rfl ⟨rfl, rfl⟩ trivial rfl

def Strings_TrimPrefix_m (fu : Nat) (s1 : Bs) (prefix2 : Bs) : Option Bs := bnd (Internal_stringslite_TrimPrefix_m fu s1 prefix2) fun r3 => some r3

set_option maxRecDepth 100000 in
theorem Strings_TrimPrefix_ok (fu : Nat) (s1 : Bs) (prefix2 : Bs) : ∀ r, Strings_TrimPrefix_m fu s1 prefix2 = some r → DC laidL Tryd.prog 55 [.v (.string ⟨⟨s1⟩⟩), .v (.string ⟨⟨prefix2⟩⟩)] (.v (.string ⟨⟨r⟩⟩)) := by
  intro r hr
  refine fc_intro (args := [.v (.string ⟨⟨s1⟩⟩), .v (.string ⟨⟨prefix2⟩⟩)]) (S := []) (N0 := []) (post := fun r p S => p = .v (.string ⟨⟨r⟩⟩) ∧ S = []) Tryd.func55 rfl rfl hr fun w0 X X0 σ0 _ => ?_
  refine pw_seq ?_
  refine pw_region ?_
  refine po_evs (T := tab) 1 rfl rfl ?_
  refine po_nil ?_
  refine pn_seq ?_
  refine pw_seq ?_
  refine pw_region ?_
  refine po_evs (T := tab) 2 rfl rfl ?_
  refine po_call (enc := fun (r3 : Bs) => .v (.string ⟨⟨r3⟩⟩)) (qs := [.v (.string ⟨⟨s1⟩⟩), .v (.string ⟨⟨prefix2⟩⟩)]) (Internal_stringslite_TrimPrefix_ok fu s1 prefix2) rfl rfl ⟨⟨_, rfl, .rfl⟩, ⟨_, rfl, .rfl⟩, trivial⟩ (fun _ => rfl) call63 rfl rfl fun r3 hr3 => ?_
  refine po_evs (T := tab) 1 rfl rfl ?_
  refine po_nil ?_
  refine pn_seq ?_
  exact pw_retN (T := tab) rfl rfl rfl ⟨rfl, rfl⟩ trivial rfl

def Strings_Builder_String_m (_fu : Nat) (l1 : (List Int)) : Option Bs := some (strOf l1)

set_option maxRecDepth 100000 in
theorem Strings_Builder_String_ok (fu : Nat) (l1 : (List Int)) : ∀ r, Strings_Builder_String_m fu l1 = some r → FC laidL Tryd.prog 21 [.loc 900000 0] [(900000, .box 43 [.nloc 900000 0, .ownb 900001]), (900001, .arr 5 1 (l1.map cInt_u8))] [900000, 900001] fun p S' => p = .v (.string ⟨⟨r⟩⟩) ∧ S' = [(900000, .box 43 [.nloc 900000 0, .junk])] := by
  intro r hr
  refine fc_intro (args := [.loc 900000 0]) (S := [(900000, .box 43 [.nloc 900000 0, .ownb 900001]), (900001, .arr 5 1 (l1.map cInt_u8))]) (N0 := [900000, 900001]) (post := fun r p S => p = .v (.string ⟨⟨r⟩⟩) ∧ S = [(900000, .box 43 [.nloc 900000 0, .junk])]) Tryd.func21 rfl rfl hr fun w0 X X0 σ0 _ => ?_
  refine pw_seq ?_
  refine pw_region ?_
  refine po_evs (T := tab) 1 rfl rfl ?_
  refine po_nil ?_
  refine pn_seq ?_
  refine pw_seq ?_
  refine pw_sub' (E' := [(0, .loc 900000 0)]) (S' := [(900000, .box 43 [.nloc 900000 0, .ownb 900001]), (900001, .arr 5 1 (l1.map cInt_u8))]) ?_ ⟨rfl, trivial⟩ ⟨rfl, rfl, trivial⟩ rfl
  refine pw_drawV [0, 1, 3, 7, 15, 0, 32, 96, 224, 480, 1023, 2047] mixed (by kernel_rfl) (by kernel_rfl) rfl rfl ?_
  refine pdv_step0 [0] [6] [] [900000] [] [(3, .loc 900000 0)] [] rfl rfl rfl rfl (by kernel_rfl) (by kernel_rfl) (by kernel_rfl) trivial (fun w0 X X0 σ0 _ => by refine po_evs (T := tab) 1 rfl rfl ?_; refine po_nil ?_; exact pn_end0 ⟨rfl, trivial⟩ trivial rfl) ?_
  refine pdv_step0 [6] [8] [] [900000] [] [(4, .loc 900000 0)] [] rfl rfl rfl rfl (by kernel_rfl) (by kernel_rfl) (by kernel_rfl) trivial (fun w0 X X0 σ0 _ => by refine po_evs (T := tab) 1 rfl rfl ?_; refine po_nil ?_; exact pn_end0 ⟨rfl, trivial⟩ trivial rfl) ?_
  refine pdv_step0 [8] [10] [] [900000] [] [(5, .loc 900000 1)] [] rfl rfl rfl rfl (by kernel_rfl) (by kernel_rfl) (by kernel_rfl) trivial (fun w0 X X0 σ0 _ => by refine po_evs (T := tab) 1 rfl rfl ?_; refine po_nil ?_; exact pn_end0 ⟨rfl, trivial⟩ trivial rfl) ?_
  refine pdv_step0 [10, 1800001] [12] [] [900000, 900001] [900000] [(6, .ownb 900001)] [(900000, .box 43 [.nloc 900000 0, .ownb 900001])] rfl rfl rfl rfl (by kernel_rfl) (by kernel_rfl) (by kernel_rfl) ⟨rfl, trivial⟩ (fun w0 X X0 σ0 _ => by refine po_evs (T := tab) 1 rfl rfl ?_; refine po_nil ?_; exact pn_end0 ⟨rfl, trivial⟩ ⟨rfl, trivial⟩ rfl) ?_
  refine pdv_step0 [12, 1800003] [14] [] [900001] [900001] [(7, .dat 900001)] [(900001, .arr 5 1 (l1.map cInt_u8))] rfl rfl rfl rfl (by kernel_rfl) (by kernel_rfl) (by kernel_rfl) ⟨rfl, trivial⟩ (fun w0 X X0 σ0 _ => by refine po_sliceData rfl rfl rfl rfl rfl rfl ?_; refine po_nil ?_; exact pn_end0 ⟨rfl, trivial⟩ ⟨rfl, trivial⟩ rfl) ?_
  refine pdv_step0 [0] [16] [] [900000] [] [(8, .loc 900000 0)] [] rfl rfl rfl rfl (by kernel_rfl) (by kernel_rfl) (by kernel_rfl) trivial (fun w0 X X0 σ0 _ => by refine po_evs (T := tab) 1 rfl rfl ?_; refine po_nil ?_; exact pn_end0 ⟨rfl, trivial⟩ trivial rfl) ?_
  refine pdv_step0 [16] [18] [] [900000] [] [(9, .loc 900000 0)] [] rfl rfl rfl rfl (by kernel_rfl) (by kernel_rfl) (by kernel_rfl) trivial (fun w0 X X0 σ0 _ => by refine po_evs (T := tab) 1 rfl rfl ?_; refine po_nil ?_; exact pn_end0 ⟨rfl, trivial⟩ trivial rfl) ?_
  refine pdv_step0 [18] [20] [] [900000] [] [(10, .loc 900000 1)] [] rfl rfl rfl rfl (by kernel_rfl) (by kernel_rfl) (by kernel_rfl) trivial (fun w0 X X0 σ0 _ => by refine po_evs (T := tab) 1 rfl rfl ?_; refine po_nil ?_; exact pn_end0 ⟨rfl, trivial⟩ trivial rfl) ?_
  refine pdv_step0 [20, 1800001] [22] [] [900000, 900001] [900000] [(11, .ownb 900001)] [(900000, .box 43 [.nloc 900000 0, .ownb 900001])] rfl rfl rfl rfl (by kernel_rfl) (by kernel_rfl) (by kernel_rfl) ⟨rfl, trivial⟩ (fun w0 X X0 σ0 _ => by refine po_evs (T := tab) 1 rfl rfl ?_; refine po_nil ?_; exact pn_end0 ⟨rfl, trivial⟩ ⟨rfl, trivial⟩ rfl) ?_
  refine pdv_step0 [22, 1800003] [24, 22] [] [900001] [900001] [(12, .v (.int .i64 ((l1.length : Nat) : Int))), (11, .own 900001)] [(900001, .arr 5 1 (l1.map cInt_u8))] rfl rfl rfl rfl (by kernel_rfl) (by kernel_rfl) (by kernel_rfl) ⟨rfl, trivial⟩ (fun w0 X X0 σ0 _ => by refine po_coe 11 (q := .own 900001) rfl .ownb ?_; refine po_len_own (T := tab) cInt_u8 l1 rfl rfl rfl rfl rfl rfl rfl rfl rfl ?_; refine po_nil ?_; exact pn_end0 ⟨rfl, rfl, trivial⟩ ⟨rfl, trivial⟩ rfl) ?_
  refine pdv_step0 [12, 14, 22, 24, 1800001, 1800003] [26, 12, 14, 22, 1800001, 1800003] [] [900000, 900001] [] [(13, .v (.string ⟨⟨(strOf l1)⟩⟩)), (11, .sl 1 false (l1.map cInt_u8))] [(900000, .box 43 [.nloc 900000 0, .junk])] rfl rfl rfl rfl (by kernel_rfl) (by kernel_rfl) (by kernel_rfl) trivial (fun w0 X X0 σ0 _ => by refine po_usString cInt_u8 l1 (fun _ => rfl) rfl rfl rfl rfl rfl rfl rfl Tryd.underlying75 (by kernel_rfl) rfl rfl rfl rfl ?_; refine po_nil ?_; exact pn_end0 ⟨rfl, rfl, trivial⟩ ⟨rfl, trivial⟩ rfl) ?_
  refine pdv_step0 [26] [4] [] [] [] [(2, .v (.string ⟨⟨(strOf l1)⟩⟩))] [] rfl rfl rfl rfl (by kernel_rfl) (by kernel_rfl) (by kernel_rfl) trivial (fun w0 X X0 σ0 _ => by refine po_evs (T := tab) 1 rfl rfl ?_; refine po_nil ?_; exact pn_end0 ⟨rfl, trivial⟩ trivial rfl) ?_
  refine pdv_nil rfl rfl ?_
  refine pn_seq ?_
  exact pw_retN (T := tab) rfl rfl rfl ⟨rfl, rfl⟩ ⟨rfl, trivial⟩ rfl

def Strings_Builder_copyCheck_m (_fu : Nat) : Option Unit := some ()

set_option maxRecDepth 100000 in
theorem Strings_Builder_copyCheck_ok (fu : Nat) (l1 : (List Int)) : ∀ r, Strings_Builder_copyCheck_m fu = some r → FC laidL Tryd.prog 31 [.loc 900000 0] [(900000, .box 43 [.nloc 900000 0, .ownb 900001]), (900001, .arr 5 1 (l1.map cInt_u8))] [900000, 900001] fun p S' => p = .tup [] ∧ S' = [(900000, .box 43 [.nloc 900000 0, .ownb 900001]), (900001, .arr 5 1 (l1.map cInt_u8))] := by
  intro r hr
  refine fc_intro (args := [.loc 900000 0]) (S := [(900000, .box 43 [.nloc 900000 0, .ownb 900001]), (900001, .arr 5 1 (l1.map cInt_u8))]) (N0 := [900000, 900001]) (post := fun r p S => p = .tup [] ∧ S = [(900000, .box 43 [.nloc 900000 0, .ownb 900001]), (900001, .arr 5 1 (l1.map cInt_u8))]) Tryd.func31 rfl rfl hr fun w0 X X0 σ0 _ => ?_
  refine pw_seq ?_
  refine pw_region ?_
  refine po_evs (T := tab) 3 rfl rfl ?_
  refine po_nsplit 900000 0 rfl rfl rfl rfl rfl rfl ?_ ?_
  · refine po_evs (T := tab) 1 rfl rfl ?_
    refine po_ptr (T := tab) Tryd.underlying40 rfl rfl rfl rfl rfl rfl rfl rfl ?_
    refine po_nil ?_
    refine pn_seq ?_
    refine pw_then rfl ?_
    refine pw_region ?_
    refine po_evs (T := tab) 2 rfl rfl ?_
    refine po_noescape (T := tab) Tryd.underlying40 Tryd.underlying91 rfl rfl Tryd.func46 rfl rfl rfl rfl rfl rfl rfl rfl rfl (by kernel_rfl) rfl rfl rfl rfl rfl rfl rfl rfl rfl rfl rfl ?_
    refine po_evs (T := tab) 2 rfl rfl ?_
    refine po_store (T := tab) rfl rfl rfl rfl rfl rfl rfl rfl rfl rfl rfl rfl ?_
    refine po_nil ?_
    refine pn_coeS 900000 [.nloc 900000 0, .ownb 900001] rfl ⟨.nloc1, .rfl, trivial⟩ rfl ?_
    exact pn_retN (T := tab) rfl rfl rfl ⟨rfl, rfl⟩ ⟨rfl, rfl, trivial⟩ rfl
  · refine po_evs (T := tab) 1 rfl rfl ?_
    refine po_ptr (T := tab) Tryd.underlying40 rfl rfl rfl rfl rfl rfl rfl rfl ?_
    refine po_nil ?_
    refine pn_seq ?_
    refine pw_else rfl ?_
    refine pw_seq ?_
    refine pw_region ?_
    refine po_evs (T := tab) 5 rfl rfl ?_
    refine po_ptr (T := tab) Tryd.underlying40 rfl rfl rfl rfl rfl rfl rfl rfl ?_
    refine po_nil ?_
    refine pn_seq ?_
    refine pw_else rfl ?_
    refine pw_skip ?_
    refine pn_coeS 900000 [.nloc 900000 0, .ownb 900001] rfl ⟨.nloc1, .rfl, trivial⟩ rfl ?_
    exact pn_retN (T := tab) rfl rfl rfl ⟨rfl, rfl⟩ ⟨rfl, rfl, trivial⟩ rfl

def Strings_Builder_WriteByte_m (fu : Nat) (c1 : Int) (l2 : (List Int)) : Option (Bool × (List Int)) := bnd (Strings_Builder_copyCheck_m fu) fun r3 => bnd (roomy 1 (l2.length + ([c1] : List Int).length)) fun _ => some (false, (l2 ++ [c1]))

set_option maxRecDepth 100000 in
theorem Strings_Builder_WriteByte_ok (fu : Nat) (c1 : Int) (l2 : (List Int)) : ∀ r, Strings_Builder_WriteByte_m fu c1 l2 = some r → FC laidL Tryd.prog 26 [.loc 900000 0, .v (.int .u8 c1)] [(900000, .box 43 [.nloc 900000 0, .ownb 900001]), (900001, .arr 5 1 (l2.map cInt_u8))] [900000] fun p S' => p = .err r.1 ∧ S' = [(900000, .box 43 [.nloc 900000 0, .ownb 900001]), (900001, .arr 5 1 (r.2.map cInt_u8))] := by
  intro r hr
  refine fc_intro (args := [.loc 900000 0, .v (.int .u8 c1)]) (S := [(900000, .box 43 [.nloc 900000 0, .ownb 900001]), (900001, .arr 5 1 (l2.map cInt_u8))]) (N0 := [900000]) (post := fun r p S => p = .err r.1 ∧ S = [(900000, .box 43 [.nloc 900000 0, .ownb 900001]), (900001, .arr 5 1 (r.2.map cInt_u8))]) Tryd.func26 rfl rfl hr fun w0 X X0 σ0 _ => ?_
  refine pw_seq ?_
  refine pw_region ?_
  refine po_evs (T := tab) 1 rfl rfl ?_
  refine po_nil ?_
  refine pn_seq ?_
  refine pw_seq ?_
  refine pw_region ?_
  refine po_evs (T := tab) 1 rfl rfl ?_
  refine po_callv (enc := fun (r3 : Unit) => .tup []) (first := []) (cap := []) (qs := [.loc 900000 0]) (Sc := [(900000, .box 43 [.nloc 900000 0, .ownb 900001]), (900001, .arr 5 1 (l2.map cInt_u8))]) (fun r3 hr3 => fc_ren [(900000, 900000), (900001, 900001)] [900000, 900001] (Strings_Builder_copyCheck_ok fu l2 _ hr3) rfl rfl rfl rfl rfl rfl) (subS_of ⟨rfl, rfl, trivial⟩ rfl) rfl rfl rfl rfl ⟨⟨_, rfl, .rfl⟩, trivial⟩ (fun _ => rfl) call31 rfl rfl fun r3 hr3 => ?_
  refine po_nil ?_
  refine pn_seq ?_
  refine pw_seq ?_
  refine pw_region ?_
  refine po_evs (T := tab) 6 rfl rfl ?_
  refine po_lit (T := tab) (rows := [c1].map cInt_u8) 13 rfl rfl rfl rfl rfl rfl rfl rfl rfl rfl rfl rfl rfl rfl ?_
  refine po_coe 11 (q := .own 900001) rfl .ownb ?_
  refine po_append (T := tab) cInt_u8 l2 ([c1] : List Int) rfl rfl rfl rfl rfl rfl rfl rfl rfl rfl rfl rfl rfl rfl (cInt_u8_one _) rfl rfl rfl rfl rfl ?_
  refine po_toB 900001 14 rfl rfl (by simp) ?_
  refine po_evs (T := tab) 2 rfl rfl ?_
  refine po_store (T := tab) rfl rfl rfl rfl rfl rfl rfl rfl rfl rfl rfl rfl ?_
  refine po_nil ?_
  refine pn_seq ?_
  refine pw_seq ?_
  refine pw_region ?_
  refine po_evs (T := tab) 1 rfl rfl ?_
  refine po_nil ?_
  refine pn_seq ?_
  refine pw_coe 4 (q := .err false) rfl .err0 ?_
  exact pw_retN (T := tab) rfl rfl rfl ⟨rfl, rfl⟩ ⟨rfl, rfl, trivial⟩ rfl

def Tale_reader_text_j1 (fu : Nat) (c1 : Tale_reader) (i3 : Int) (l4 : (List Int)) (rc1 : (Int × (List Int)) → Option (Bs × Tale_reader)) (x_ : Unit) : Option (Bs × Tale_reader) := bnd (rng .i64 (i3 + 1)) fun i16 => cnd (decide (i16 < ((c1.s.length : Nat) : Int))) (bnd (rng .i64 (i3 + 1)) fun i17 => bnd (chr c1.s i17) fun b18 => bnd (Strings_Builder_WriteByte_m fu b18 l4) fun r19 => bnd (rng .i64 (i17 + 1)) fun i22 => rc1 (i22, r19.2)) (bnd (rng .i64 (i3 + 1)) fun i23 => rc1 (i23, l4))

def Tale_reader_text_l1 (fu : Nat) (c1 : Tale_reader) : Nat → Int × (List Int) → Option (Bs × Tale_reader)
  | 0, _ => none
  | k1 + 1, (i3, l4) => cnd (decide (i3 < ((c1.s.length : Nat) : Int))) (bnd (chr c1.s i3) fun b5 => cnd (b5 == 34) (bnd (rng .i64 (i3 + 1)) fun i6 => bnd (piece c1.s i6 ((c1.s.length : Nat) : Int)) fun s7 => bnd (Strings_TrimPrefix_m fu s7 [32]) fun r8 => bnd (Strings_Builder_String_m fu l4) fun r9 => some (r9, (⟨r8, c1.bad⟩ : Tale_reader))) (cnd (b5 != 92) (bnd (Strings_Builder_WriteByte_m fu b5 l4) fun r10 => bnd (rng .i64 (i3 + 1)) fun i20 => (Tale_reader_text_l1 fu c1 k1) (i20, r10.2)) (bnd (rng .i64 (i3 + 1)) fun i11 => cnd (decide (i11 < ((c1.s.length : Nat) : Int))) (bnd (rng .i64 (i3 + 1)) fun i12 => bnd (chr c1.s i12) fun b13 => cnd (b13 == 110) (bnd (rng .i64 (i3 + 1)) fun i14 => bnd (Strings_Builder_WriteByte_m fu 10 l4) fun r15 => bnd (rng .i64 (i14 + 1)) fun i21 => (Tale_reader_text_l1 fu c1 k1) (i21, r15.2)) ((Tale_reader_text_j1 fu c1 i3 l4 (Tale_reader_text_l1 fu c1 k1)) ())) ((Tale_reader_text_j1 fu c1 i3 l4 (Tale_reader_text_l1 fu c1 k1)) ())))) (some ([], (⟨c1.s, true⟩ : Tale_reader)))

def Tale_reader_text_m (fu : Nat) (c1 : Tale_reader) : Option (Bs × Tale_reader) := bnd (Strings_HasPrefix_m fu c1.s [34]) fun r2 => cnd (!r2) (some ([], (⟨c1.s, true⟩ : Tale_reader))) ((Tale_reader_text_l1 fu c1) fu (1, []))

set_option maxHeartbeats 10000000 in
set_option maxRecDepth 100000 in
theorem Tale_reader_text_ok (fu : Nat) (c1 : Tale_reader) : ∀ r, Tale_reader_text_m fu c1 = some r → FC laidL Tryd.prog 41 [.loc 900000 0] [(900000, .box 81 [.v (.string ⟨⟨c1.s⟩⟩), .v (.bool c1.bad)])] [900000] fun p S' => p = .v (.string ⟨⟨r.1⟩⟩) ∧ S' = [(900000, .box 81 [.v (.string ⟨⟨r.2.s⟩⟩), .v (.bool r.2.bad)])] := by
  intro r hr
  refine fc_intro (args := [.loc 900000 0]) (S := [(900000, .box 81 [.v (.string ⟨⟨c1.s⟩⟩), .v (.bool c1.bad)])]) (N0 := [900000]) (post := fun r p S => p = .v (.string ⟨⟨r.1⟩⟩) ∧ S = [(900000, .box 81 [.v (.string ⟨⟨r.2.s⟩⟩), .v (.bool r.2.bad)])]) Tryd.func41 rfl rfl hr fun w0 X X0 σ0 _ => ?_
  refine pw_seq ?_
  refine pw_region ?_
  refine po_evs (T := tab) 1 rfl rfl ?_
  refine po_nil ?_
  refine pn_seq ?_
  refine pw_seq ?_
  refine pw_region ?_
  refine po_alloc (T := tab) 3 rfl rfl rfl rfl rfl rfl rfl rfl rfl ?_
  refine po_coeS 3 [.nloc 3 0, .v (.slice none 0 0)] rfl ⟨.nloc0, .rfl, trivial⟩ rfl ?_
  refine po_ownb_nilS 5030 5 1 3 1 rfl rfl rfl rfl rfl rfl ?_
  refine po_nil ?_
  refine pn_seq ?_
  refine pw_seq ?_
  refine pw_seq ?_
  refine pw_region ?_
  refine po_evs (T := tab) 4 rfl rfl ?_
  refine po_call (enc := fun (r2 : Bool) => .v (.bool r2)) (qs := [.v (.string ⟨⟨c1.s⟩⟩), .v (.string ⟨⟨[34]⟩⟩)]) (Strings_HasPrefix_ok fu c1.s [34]) rfl rfl ⟨⟨_, rfl, .rfl⟩, ⟨_, rfl, .rfl⟩, trivial⟩ (fun _ => rfl) call54 rfl rfl fun r2 hr2 => ?_
  refine po_evs (T := tab) 1 rfl rfl ?_
  refine po_nil ?_
  refine pn_seq ?_
  refine pw_cnd rfl ?_ ?_
  · refine pw_seq ?_
    refine pw_region ?_
    refine po_evs (T := tab) 3 rfl rfl ?_
    refine po_store (T := tab) rfl rfl rfl rfl rfl rfl rfl rfl rfl rfl rfl rfl ?_
    refine po_nil ?_
    refine pn_seq ?_
    refine pw_seq ?_
    refine pw_region ?_
    refine po_evs (T := tab) 1 rfl rfl ?_
    refine po_nil ?_
    refine pn_seq ?_
    exact pw_retN (T := tab) rfl rfl rfl ⟨rfl, rfl⟩ ⟨rfl, trivial⟩ rfl
  · refine pw_skip ?_
    refine pn_seq ?_
    refine pw_seq ?_
    refine pw_seq ?_
    refine pw_region ?_
    refine po_evs (T := tab) 1 rfl rfl ?_
    refine po_nil ?_
    refine pn_seq ?_
    refine pw_block ?_
    refine pw_loop' (Tale_reader_text_l1 fu c1) (fun ((i3, l4) : Int × (List Int)) => [(0, .loc 900000 0), (3, .loc 3 0), (4, .v (.int .i64 i3))]) (fun ((i3, l4) : Int × (List Int)) => [(5030, .arr 5 1 (l4.map cInt_u8)), (3, .box 43 [.nloc 3 0, .ownb 5030]), (900000, .box 81 [.v (.string ⟨⟨c1.s⟩⟩), .v (.bool c1.bad)])]) fu (1, []) (fun _ => rfl) ⟨rfl, rfl, rfl, trivial⟩ ⟨rfl, rfl, rfl, trivial⟩ rfl ?_
    rintro k1 ⟨i3, l4⟩
    refine pw_seq ?_
    refine pw_seq ?_
    refine pw_region ?_
    refine po_evs (T := tab) 7 rfl rfl ?_
    refine po_nil ?_
    refine pn_seq ?_
    refine pw_cnd rfl ?_ ?_
    · refine pw_skip ?_
      refine pn_seq ?_
      refine pw_seq ?_
      refine pw_block ?_
      refine pw_seq ?_
      refine pw_region ?_
      refine po_evs (T := tab) 5 rfl rfl ?_
      refine po_chr (T := tab) (s := c1.s) rfl rfl rfl rfl rfl rfl rfl fun b5 hb5 => ?_
      refine po_evs (T := tab) 1 rfl rfl ?_
      refine po_nil ?_
      refine pn_seq ?_
      refine pw_block ?_
      refine pw_seq ?_
      refine pw_region ?_
      refine po_evs (T := tab) 3 rfl rfl ?_
      refine po_nil ?_
      refine pn_seq ?_
      refine pw_cnd rfl ?_ ?_
      · refine pw_seq ?_
        refine pw_region ?_
        refine po_evs (T := tab) 6 rfl rfl ?_
        refine po_arith' (T := tab) rfl rfl rfl rfl fun i6 hi6 => ?_
        refine po_sub (T := tab) rfl rfl rfl rfl rfl rfl rfl rfl fun s7 hs7 => ?_
        refine po_call (enc := fun (r8 : Bs) => .v (.string ⟨⟨r8⟩⟩)) (qs := [.v (.string ⟨⟨s7⟩⟩), .v (.string ⟨⟨[32]⟩⟩)]) (Strings_TrimPrefix_ok fu s7 [32]) rfl rfl ⟨⟨_, rfl, .rfl⟩, ⟨_, rfl, .rfl⟩, trivial⟩ (fun _ => rfl) call55 rfl rfl fun r8 hr8 => ?_
        refine po_evs (T := tab) 2 rfl rfl ?_
        refine po_store (T := tab) rfl rfl rfl rfl rfl rfl rfl rfl rfl rfl rfl rfl ?_
        refine po_nil ?_
        refine pn_seq ?_
        refine pw_seq ?_
        refine pw_region ?_
        refine po_turn [] (enc := fun (r9 : Bs) => .v (.string ⟨⟨r9⟩⟩)) (Sr := fun (r9 : Bs) => [(3, .box 43 [.nloc 3 0, .junk])]) (first := []) (cap := []) (qs := [.loc 3 0]) (Sc := [(3, .box 43 [.nloc 3 0, .ownb 5030]), (5030, .arr 5 1 (l4.map cInt_u8))]) (N0 := [3, 5030]) (NR := [3]) (fun r9 hr9 => fc_ren [(900000, 3), (900001, 5030)] [900000, 900001] (Strings_Builder_String_ok fu l4 _ hr9) rfl rfl rfl rfl rfl rfl) ⟨rfl, rfl, trivial⟩ (fun _ => rfl) rfl rfl rfl rfl rfl rfl rfl (fun _ => rfl) (fun _ => rfl) rfl rfl rfl ⟨⟨_, rfl, .rfl⟩, trivial⟩ call21 rfl rfl fun r9 hr9 => ?_
        refine po_evs (T := tab) 1 rfl rfl ?_
        refine po_nil ?_
        refine pn_seq ?_
        exact pw_retN (T := tab) rfl rfl rfl ⟨rfl, rfl⟩ ⟨rfl, trivial⟩ rfl
      · refine pw_seq ?_
        refine pw_region ?_
        refine po_evs (T := tab) 3 rfl rfl ?_
        refine po_nil ?_
        refine pn_seq ?_
        refine pw_cnd rfl ?_ ?_
        · refine pw_region ?_
          refine po_evs (T := tab) 1 rfl rfl ?_
          refine po_turn [5030] (enc := fun (r10 : (Bool × (List Int))) => .err r10.1) (Sr := fun (r10 : (Bool × (List Int))) => [(3, .box 43 [.nloc 3 0, .ownb 5030]), (5030, .arr 5 1 (r10.2.map cInt_u8))]) (first := []) (cap := []) (qs := [.loc 3 0, .v (.int .u8 b5)]) (Sc := [(3, .box 43 [.nloc 3 0, .ownb 5030]), (5030, .arr 5 1 (l4.map cInt_u8))]) (N0 := [3]) (NR := [3, 5030]) (fun r10 hr10 => fc_ren [(900000, 3), (900001, 5030)] [900000, 900001] (Strings_Builder_WriteByte_ok fu b5 l4 _ hr10) rfl rfl rfl rfl rfl rfl) ⟨rfl, rfl, trivial⟩ (fun _ => rfl) rfl rfl rfl rfl rfl rfl rfl (fun _ => rfl) (fun _ => rfl) rfl rfl rfl ⟨⟨_, rfl, .rfl⟩, ⟨_, rfl, .rfl⟩, trivial⟩ call26 rfl rfl fun r10 hr10 => ?_
          refine po_nil ?_
          refine pn_block ?_
          refine pn_block ?_
          refine pn_seq ?_
          refine pw_region ?_
          refine po_evs (T := tab) 1 rfl rfl ?_
          refine po_arith' (T := tab) rfl rfl rfl rfl fun i20 hi20 => ?_
          refine po_evs (T := tab) 1 rfl rfl ?_
          refine po_nil ?_
          exact pn_iter' (i20, r10.2) ⟨rfl, rfl, rfl, trivial⟩ ⟨rfl, rfl, rfl, trivial⟩ rfl
        · refine pw_seq ?_
          refine pw_region ?_
          refine po_joinY (Tale_reader_text_j1 fu c1 i3 l4 (Tale_reader_text_l1 fu c1 k1)) (fun (_ : Unit) => [(0, .loc 900000 0), (3, .loc 3 0), (4, .v (.int .i64 i3))]) (fun (_ : Unit) => [(5030, .arr 5 1 (l4.map cInt_u8)), (3, .box 43 [.nloc 3 0, .ownb 5030]), (900000, .box 81 [.v (.string ⟨⟨c1.s⟩⟩), .v (.bool c1.bad)])]) ?_ fun hj1 => ?_
          · rintro _
            refine pw_seq ?_
            refine pw_region ?_
            refine po_evs (T := tab) 1 rfl rfl ?_
            refine po_arith' (T := tab) rfl rfl rfl rfl fun i16 hi16 => ?_
            refine po_evs (T := tab) 7 rfl rfl ?_
            refine po_nil ?_
            refine pn_seq ?_
            refine pw_cnd rfl ?_ ?_
            · refine pw_seq ?_
              refine pw_region ?_
              refine po_evs (T := tab) 1 rfl rfl ?_
              refine po_arith' (T := tab) rfl rfl rfl rfl fun i17 hi17 => ?_
              refine po_evs (T := tab) 1 rfl rfl ?_
              refine po_nil ?_
              refine pn_seq ?_
              refine pw_region ?_
              refine po_evs (T := tab) 5 rfl rfl ?_
              refine po_chr (T := tab) (s := c1.s) rfl rfl rfl rfl rfl rfl rfl fun b18 hb18 => ?_
              refine po_turn [5030] (enc := fun (r19 : (Bool × (List Int))) => .err r19.1) (Sr := fun (r19 : (Bool × (List Int))) => [(3, .box 43 [.nloc 3 0, .ownb 5030]), (5030, .arr 5 1 (r19.2.map cInt_u8))]) (first := []) (cap := []) (qs := [.loc 3 0, .v (.int .u8 b18)]) (Sc := [(3, .box 43 [.nloc 3 0, .ownb 5030]), (5030, .arr 5 1 (l4.map cInt_u8))]) (N0 := [3]) (NR := [3, 5030]) (fun r19 hr19 => fc_ren [(900000, 3), (900001, 5030)] [900000, 900001] (Strings_Builder_WriteByte_ok fu b18 l4 _ hr19) rfl rfl rfl rfl rfl rfl) ⟨rfl, rfl, trivial⟩ (fun _ => rfl) rfl rfl rfl rfl rfl rfl rfl (fun _ => rfl) (fun _ => rfl) rfl rfl rfl ⟨⟨_, rfl, .rfl⟩, ⟨_, rfl, .rfl⟩, trivial⟩ call26 rfl rfl fun r19 hr19 => ?_
              refine po_nil ?_
              refine pn_block ?_
              refine pn_block ?_
              refine pn_seq ?_
              refine pw_region ?_
              refine po_evs (T := tab) 1 rfl rfl ?_
              refine po_arith' (T := tab) rfl rfl rfl rfl fun i22 hi22 => ?_
              refine po_evs (T := tab) 1 rfl rfl ?_
              refine po_nil ?_
              exact pn_iter' (i22, r19.2) ⟨rfl, rfl, rfl, trivial⟩ ⟨rfl, rfl, rfl, trivial⟩ rfl
            · refine pw_skip ?_
              refine pn_block ?_
              refine pn_block ?_
              refine pn_seq ?_
              refine pw_region ?_
              refine po_evs (T := tab) 1 rfl rfl ?_
              refine po_arith' (T := tab) rfl rfl rfl rfl fun i23 hi23 => ?_
              refine po_evs (T := tab) 1 rfl rfl ?_
              refine po_nil ?_
              exact pn_iter' (i23, l4) ⟨rfl, rfl, rfl, trivial⟩ ⟨rfl, rfl, rfl, trivial⟩ rfl
          · refine po_evs (T := tab) 1 rfl rfl ?_
            refine po_arith' (T := tab) rfl rfl rfl rfl fun i11 hi11 => ?_
            refine po_evs (T := tab) 7 rfl rfl ?_
            refine po_split (j := 59) rfl ?_ ?_
            · refine po_evs (T := tab) 5 rfl rfl ?_
              refine po_arith' (T := tab) rfl rfl rfl rfl fun i12 hi12 => ?_
              refine po_chr (T := tab) (s := c1.s) rfl rfl rfl rfl rfl rfl rfl fun b13 hb13 => ?_
              refine po_evs (T := tab) 3 rfl rfl ?_
              refine po_nil ?_
              refine pn_seq ?_
              refine pw_cnd rfl ?_ ?_
              · refine pw_seq ?_
                refine pw_region ?_
                refine po_evs (T := tab) 1 rfl rfl ?_
                refine po_arith' (T := tab) rfl rfl rfl rfl fun i14 hi14 => ?_
                refine po_evs (T := tab) 1 rfl rfl ?_
                refine po_nil ?_
                refine pn_seq ?_
                refine pw_region ?_
                refine po_turn [5030] (enc := fun (r15 : (Bool × (List Int))) => .err r15.1) (Sr := fun (r15 : (Bool × (List Int))) => [(3, .box 43 [.nloc 3 0, .ownb 5030]), (5030, .arr 5 1 (r15.2.map cInt_u8))]) (first := []) (cap := []) (qs := [.loc 3 0, .v (.int .u8 10)]) (Sc := [(3, .box 43 [.nloc 3 0, .ownb 5030]), (5030, .arr 5 1 (l4.map cInt_u8))]) (N0 := [3]) (NR := [3, 5030]) (fun r15 hr15 => fc_ren [(900000, 3), (900001, 5030)] [900000, 900001] (Strings_Builder_WriteByte_ok fu 10 l4 _ hr15) rfl rfl rfl rfl rfl rfl) ⟨rfl, rfl, trivial⟩ (fun _ => rfl) rfl rfl rfl rfl rfl rfl rfl (fun _ => rfl) (fun _ => rfl) rfl rfl rfl ⟨⟨_, rfl, .rfl⟩, ⟨_, rfl, .rfl⟩, trivial⟩ call26 rfl rfl fun r15 hr15 => ?_
                refine po_nil ?_
                refine pn_block ?_
                refine pn_block ?_
                refine pn_seq ?_
                refine pw_region ?_
                refine po_evs (T := tab) 1 rfl rfl ?_
                refine po_arith' (T := tab) rfl rfl rfl rfl fun i21 hi21 => ?_
                refine po_evs (T := tab) 1 rfl rfl ?_
                refine po_nil ?_
                exact pn_iter' (i21, r15.2) ⟨rfl, rfl, rfl, trivial⟩ ⟨rfl, rfl, rfl, trivial⟩ rfl
              · exact pw_sub' (hj1 ()) ⟨rfl, rfl, rfl, trivial⟩ ⟨rfl, rfl, rfl, trivial⟩ rfl
            · refine po_evs (T := tab) 10 rfl rfl ?_
              refine po_nil ?_
              refine pn_seq (pw_else rfl ?_)
              exact pw_sub' (hj1 ()) ⟨rfl, rfl, rfl, trivial⟩ ⟨rfl, rfl, rfl, trivial⟩ rfl
    · refine pw_exit rfl ?_
      refine pn_seq ?_
      refine pw_seq ?_
      refine pw_region ?_
      refine po_evs (T := tab) 3 rfl rfl ?_
      refine po_store (T := tab) rfl rfl rfl rfl rfl rfl rfl rfl rfl rfl rfl rfl ?_
      refine po_nil ?_
      refine pn_seq ?_
      refine pw_seq ?_
      refine pw_region ?_
      refine po_evs (T := tab) 1 rfl rfl ?_
      refine po_nil ?_
      refine pn_seq ?_
      exact pw_retN (T := tab) rfl rfl rfl ⟨rfl, rfl⟩ ⟨rfl, trivial⟩ rfl

set_option maxRecDepth 100000 in
theorem Strings_Builder_copyCheck_i2_ok (fu : Nat) (l1 : (List Int)) : ∀ r, Strings_Builder_copyCheck_m fu = some r → FC laidL Tryd.prog 31 [.loc 900000 0] [(900000, .box 45 [.nloc 900000 0, .ownb 900001]), (900001, .arr 5 1 (l1.map cInt_u8))] [900000, 900001] fun p S' => p = .tup [] ∧ S' = [(900000, .box 45 [.nloc 900000 0, .ownb 900001]), (900001, .arr 5 1 (l1.map cInt_u8))] := by
  intro r hr
  refine fc_intro (args := [.loc 900000 0]) (S := [(900000, .box 45 [.nloc 900000 0, .ownb 900001]), (900001, .arr 5 1 (l1.map cInt_u8))]) (N0 := [900000, 900001]) (post := fun r p S => p = .tup [] ∧ S = [(900000, .box 45 [.nloc 900000 0, .ownb 900001]), (900001, .arr 5 1 (l1.map cInt_u8))]) Tryd.func31 rfl rfl hr fun w0 X X0 σ0 _ => ?_
  refine pw_seq ?_
  refine pw_region ?_
  refine po_evs (T := tab) 3 rfl rfl ?_
  refine po_nsplit 900000 0 rfl rfl rfl rfl rfl rfl ?_ ?_
  · refine po_evs (T := tab) 1 rfl rfl ?_
    refine po_ptr (T := tab) Tryd.underlying40 rfl rfl rfl rfl rfl rfl rfl rfl ?_
    refine po_nil ?_
    refine pn_seq ?_
    refine pw_then rfl ?_
    refine pw_region ?_
    refine po_evs (T := tab) 2 rfl rfl ?_
    refine po_noescape (T := tab) Tryd.underlying40 Tryd.underlying91 rfl rfl Tryd.func46 rfl rfl rfl rfl rfl rfl rfl rfl rfl (by kernel_rfl) rfl rfl rfl rfl rfl rfl rfl rfl rfl rfl rfl ?_
    refine po_evs (T := tab) 2 rfl rfl ?_
    refine po_store (T := tab) rfl rfl rfl rfl rfl rfl rfl rfl rfl rfl rfl rfl ?_
    refine po_nil ?_
    refine pn_coeS 900000 [.nloc 900000 0, .ownb 900001] rfl ⟨.nloc1, .rfl, trivial⟩ rfl ?_
    exact pn_retN (T := tab) rfl rfl rfl ⟨rfl, rfl⟩ ⟨rfl, rfl, trivial⟩ rfl
  · refine po_evs (T := tab) 1 rfl rfl ?_
    refine po_ptr (T := tab) Tryd.underlying40 rfl rfl rfl rfl rfl rfl rfl rfl ?_
    refine po_nil ?_
    refine pn_seq ?_
    refine pw_else rfl ?_
    refine pw_seq ?_
    refine pw_region ?_
    refine po_evs (T := tab) 5 rfl rfl ?_
    refine po_ptr (T := tab) Tryd.underlying40 rfl rfl rfl rfl rfl rfl rfl rfl ?_
    refine po_nil ?_
    refine pn_seq ?_
    refine pw_else rfl ?_
    refine pw_skip ?_
    refine pn_coeS 900000 [.nloc 900000 0, .ownb 900001] rfl ⟨.nloc1, .rfl, trivial⟩ rfl ?_
    exact pn_retN (T := tab) rfl rfl rfl ⟨rfl, rfl⟩ ⟨rfl, rfl, trivial⟩ rfl

def Strings_Builder_WriteString_m (fu : Nat) (s1 : Bs) (l2 : (List Int)) : Option (Int × Bool × (List Int)) := bnd (Strings_Builder_copyCheck_m fu) fun r3 => bnd (roomy 1 (l2.length + s1.length)) fun _ => some (((s1.length : Nat) : Int), false, (l2 ++ bytesOf s1))

set_option maxRecDepth 100000 in
theorem Strings_Builder_WriteString_ok (fu : Nat) (s1 : Bs) (l2 : (List Int)) : ∀ r, Strings_Builder_WriteString_m fu s1 l2 = some r → FC laidL Tryd.prog 15 [.loc 900000 0, .v (.string ⟨⟨s1⟩⟩)] [(900000, .box 45 [.nloc 900000 0, .ownb 900001]), (900001, .arr 5 1 (l2.map cInt_u8))] [900000] fun p S' => p = .tup [.v (.int .i64 r.1), .err r.2.1] ∧ S' = [(900000, .box 45 [.nloc 900000 0, .ownb 900001]), (900001, .arr 5 1 (r.2.2.map cInt_u8))] := by
  intro r hr
  refine fc_intro (args := [.loc 900000 0, .v (.string ⟨⟨s1⟩⟩)]) (S := [(900000, .box 45 [.nloc 900000 0, .ownb 900001]), (900001, .arr 5 1 (l2.map cInt_u8))]) (N0 := [900000]) (post := fun r p S => p = .tup [.v (.int .i64 r.1), .err r.2.1] ∧ S = [(900000, .box 45 [.nloc 900000 0, .ownb 900001]), (900001, .arr 5 1 (r.2.2.map cInt_u8))]) Tryd.func15 rfl rfl hr fun w0 X X0 σ0 _ => ?_
  refine pw_seq ?_
  refine pw_region ?_
  refine po_evs (T := tab) 2 rfl rfl ?_
  refine po_nil ?_
  refine pn_seq ?_
  refine pw_seq ?_
  refine pw_region ?_
  refine po_evs (T := tab) 1 rfl rfl ?_
  refine po_callv (enc := fun (r3 : Unit) => .tup []) (first := []) (cap := []) (qs := [.loc 900000 0]) (Sc := [(900000, .box 45 [.nloc 900000 0, .ownb 900001]), (900001, .arr 5 1 (l2.map cInt_u8))]) (fun r3 hr3 => fc_ren [(900000, 900000), (900001, 900001)] [900000, 900001] (Strings_Builder_copyCheck_i2_ok fu l2 _ hr3) rfl rfl rfl rfl rfl rfl) (subS_of ⟨rfl, rfl, trivial⟩ rfl) rfl rfl rfl rfl ⟨⟨_, rfl, .rfl⟩, trivial⟩ (fun _ => rfl) call31 rfl rfl fun r3 hr3 => ?_
  refine po_nil ?_
  refine pn_seq ?_
  refine pw_seq ?_
  refine pw_region ?_
  refine po_evs (T := tab) 6 rfl rfl ?_
  refine po_append_str (T := tab) cInt_u8 l2 (fun _ => rfl) rfl rfl rfl rfl rfl rfl rfl rfl rfl rfl rfl rfl rfl rfl rfl rfl ?_
  refine po_evs (T := tab) 2 rfl rfl ?_
  refine po_store (T := tab) rfl rfl rfl rfl rfl rfl rfl rfl rfl rfl rfl rfl ?_
  refine po_nil ?_
  refine pn_seq ?_
  refine pw_seq ?_
  refine pw_region ?_
  refine po_evs (T := tab) 4 rfl rfl ?_
  refine po_nil ?_
  refine pn_seq ?_
  refine pw_coe 5 (q := .err false) rfl .err0 ?_
  exact pw_retN (T := tab) rfl rfl rfl ⟨rfl, rfl⟩ ⟨rfl, rfl, trivial⟩ rfl

def Tale_writer_number_m (fu : Nat) (n1 : Int) (l2 : (List Int)) : Option (List Int) := bnd (itoa_m fu n1) fun r3 => bnd (cat ([32] : Bs) r3) fun s4 => bnd (Strings_Builder_WriteString_m fu s4 l2) fun r5 => some r5.2.2

set_option maxRecDepth 100000 in
theorem Tale_writer_number_ok (fu : Nat) (n1 : Int) (l2 : (List Int)) : ∀ r, Tale_writer_number_m fu n1 l2 = some r → FC laidL Tryd.prog 17 [.loc 900000 0, .v (.int .i64 n1)] [(900000, .box 45 [.nloc 900000 0, .ownb 900001]), (900001, .arr 5 1 (l2.map cInt_u8))] [900000] fun p S' => p = .tup [] ∧ S' = [(900000, .box 45 [.nloc 900000 0, .ownb 900001]), (900001, .arr 5 1 (r.map cInt_u8))] := by
  intro r hr
  refine fc_intro (args := [.loc 900000 0, .v (.int .i64 n1)]) (S := [(900000, .box 45 [.nloc 900000 0, .ownb 900001]), (900001, .arr 5 1 (l2.map cInt_u8))]) (N0 := [900000]) (post := fun r p S => p = .tup [] ∧ S = [(900000, .box 45 [.nloc 900000 0, .ownb 900001]), (900001, .arr 5 1 (r.map cInt_u8))]) Tryd.func17 rfl rfl hr fun w0 X X0 σ0 _ => ?_
  refine pw_sub' (E' := [(0, .loc 900000 0), (1, .v (.int .i64 n1))]) (S' := [(900000, .box 45 [.nloc 900000 0, .ownb 900001]), (900001, .arr 5 1 (l2.map cInt_u8))]) ?_ ⟨rfl, rfl, trivial⟩ ⟨rfl, rfl, trivial⟩ rfl
  refine pw_drawV [0, 1, 3, 0, 8, 24, 63] mixed (by kernel_rfl) (by kernel_rfl) rfl rfl ?_
  refine pdv_step0 [0] [8] [] [900000] [] [(4, .loc 900000 0)] [] rfl rfl rfl rfl (by kernel_rfl) (by kernel_rfl) (by kernel_rfl) trivial (fun w0 X X0 σ0 _ => by refine po_evs (T := tab) 1 rfl rfl ?_; refine po_nil ?_; exact pn_end0 ⟨rfl, trivial⟩ trivial rfl) ?_
  refine pdv_step0 [8] [10] [] [900000] [] [(5, .loc 900000 0)] [] rfl rfl rfl rfl (by kernel_rfl) (by kernel_rfl) (by kernel_rfl) trivial (fun w0 X X0 σ0 _ => by refine po_evs (T := tab) 1 rfl rfl ?_; refine po_nil ?_; exact pn_end0 ⟨rfl, trivial⟩ trivial rfl) ?_
  refine pdv_step0 [10] [12] [] [900000] [] [(6, .loc 900000 0)] [] rfl rfl rfl rfl (by kernel_rfl) (by kernel_rfl) (by kernel_rfl) trivial (fun w0 X X0 σ0 _ => by refine po_evs (T := tab) 1 rfl rfl ?_; refine po_nil ?_; exact pn_end0 ⟨rfl, trivial⟩ trivial rfl) ?_
  refine pdv_step0 [2] [14] [] [] [] [(7, .v (.int .i64 n1))] [] rfl rfl rfl rfl (by kernel_rfl) (by kernel_rfl) (by kernel_rfl) trivial (fun w0 X X0 σ0 _ => by refine po_evs (T := tab) 1 rfl rfl ?_; refine po_nil ?_; exact pn_end0 ⟨rfl, trivial⟩ trivial rfl) ?_
  refine pdv_step (M := (itoa_m fu n1)) (ment := [(16, [])]) [14] [16] [] [] [] (fun r3 => [(8, .v (.string ⟨⟨r3⟩⟩))]) (fun r3 => []) rfl rfl (fun _ => rfl) (fun _ => rfl) (by kernel_rfl) (by kernel_rfl) (fun _ => by kernel_rfl) (fun _ => trivial) (fun w0 X X0 σ0 _ => by refine po_call (enc := fun (r3 : Bs) => .v (.string ⟨⟨r3⟩⟩)) (qs := [.v (.int .i64 n1)]) (itoa_ok fu n1) rfl rfl ⟨⟨_, rfl, .rfl⟩, trivial⟩ (fun _ => rfl) call33 rfl rfl fun r3 hr3 => ?_; refine po_nil ?_; exact pn_end ⟨rfl, trivial⟩ trivial rfl) fun r3 hr3 => ?_
  refine pdv_step (M := (cat ([32] : Bs) r3)) (ment := [(18, [])]) [16] [18] [] [] [] (fun s4 => [(9, .v (.string ⟨⟨s4⟩⟩))]) (fun s4 => []) rfl rfl (fun _ => rfl) (fun _ => rfl) (by kernel_rfl) (by kernel_rfl) (fun _ => by kernel_rfl) (fun _ => trivial) (fun w0 X X0 σ0 _ => by refine po_cat rfl rfl rfl rfl rfl rfl fun s4 hs4 => ?_; refine po_nil ?_; exact pn_end ⟨rfl, trivial⟩ trivial rfl) fun s4 hs4 => ?_
  refine pdv_step (M := (Strings_Builder_WriteString_m fu s4 l2)) (ment := [(20, []), (1800003, []), (1800001, [900000, 900001])]) [12, 18, 1800001, 1800003] [20, 1800003, 1800001] [900001] [900000] [] (fun r5 => [(10, .tup [.v (.int .i64 r5.1), .err r5.2.1])]) (fun r5 => [(900001, .arr 5 1 (r5.2.2.map cInt_u8)), (900000, .box 45 [.nloc 900000 0, .ownb 900001])]) rfl rfl (fun _ => rfl) (fun _ => rfl) (by kernel_rfl) (by kernel_rfl) (fun _ => by kernel_rfl) (fun _ => trivial) (fun w0 X X0 σ0 _ => by refine po_turn [900001] (enc := fun (r5 : (Int × Bool × (List Int))) => .tup [.v (.int .i64 r5.1), .err r5.2.1]) (Sr := fun (r5 : (Int × Bool × (List Int))) => [(900000, .box 45 [.nloc 900000 0, .ownb 900001]), (900001, .arr 5 1 (r5.2.2.map cInt_u8))]) (first := []) (cap := []) (qs := [.loc 900000 0, .v (.string ⟨⟨s4⟩⟩)]) (Sc := [(900000, .box 45 [.nloc 900000 0, .ownb 900001]), (900001, .arr 5 1 (l2.map cInt_u8))]) (N0 := [900000]) (NR := [900000, 900001]) (fun r5 hr5 => fc_ren [(900000, 900000), (900001, 900001)] [900000, 900001] (Strings_Builder_WriteString_ok fu s4 l2 _ hr5) rfl rfl rfl rfl rfl rfl) ⟨rfl, rfl, trivial⟩ (fun _ => rfl) rfl rfl rfl rfl rfl rfl rfl (fun _ => rfl) (fun _ => rfl) rfl rfl rfl ⟨⟨_, rfl, .rfl⟩, ⟨_, rfl, .rfl⟩, trivial⟩ call15 rfl rfl fun r5 hr5 => ?_; refine po_nil ?_; exact pn_end ⟨rfl, trivial⟩ ⟨rfl, rfl, trivial⟩ rfl) fun r5 hr5 => ?_
  refine pdv_nil rfl rfl ?_
  exact pn_retN (T := tab) rfl rfl rfl ⟨rfl, rfl⟩ ⟨rfl, rfl, trivial⟩ rfl

def Tale_bare_m (_fu : Nat) (m1 : Mark) : Option Mark := some (⟨m1.Kind, m1.Depth, m1.Node, m1.What, m1.Err, [], false, false, [], [], 0, 0, false⟩ : Mark)

set_option maxRecDepth 100000 in
theorem Tale_bare_ok (fu : Nat) (m1 : Mark) : ∀ r, Tale_bare_m fu m1 = some r → DC laidL Tryd.prog 18 [.agg (cMark m1)] (.agg (cMark r)) := by
  intro r hr
  refine fc_intro (args := [.agg (cMark m1)]) (S := []) (N0 := []) (post := fun r p S => p = .agg (cMark r) ∧ S = []) Tryd.func18 rfl rfl hr fun w0 X X0 σ0 _ => ?_
  refine pw_seq ?_
  refine pw_region ?_
  refine po_box  1 rfl rfl rfl rfl rfl rfl rfl rfl rfl rfl ?_
  refine po_alloc (T := tab) 2 rfl rfl rfl rfl rfl rfl rfl rfl rfl ?_
  refine po_nil ?_
  refine pn_seq ?_
  refine pw_seq ?_
  refine pw_region ?_
  refine po_evs (T := tab) 10 rfl rfl ?_
  refine po_build (T := tab) rfl rfl rfl rfl rfl rfl rfl ?_
  refine po_store (T := tab) rfl rfl rfl rfl rfl rfl rfl rfl rfl rfl rfl rfl ?_
  refine po_nil ?_
  refine pn_seq ?_
  exact pw_retN (T := tab) rfl rfl rfl ⟨rfl, rfl⟩ trivial rfl

set_option maxRecDepth 100000 in
theorem Strings_Builder_WriteByte_i2_ok (fu : Nat) (c1 : Int) (l2 : (List Int)) : ∀ r, Strings_Builder_WriteByte_m fu c1 l2 = some r → FC laidL Tryd.prog 26 [.loc 900000 0, .v (.int .u8 c1)] [(900000, .box 45 [.nloc 900000 0, .ownb 900001]), (900001, .arr 5 1 (l2.map cInt_u8))] [900000] fun p S' => p = .err r.1 ∧ S' = [(900000, .box 45 [.nloc 900000 0, .ownb 900001]), (900001, .arr 5 1 (r.2.map cInt_u8))] := by
  intro r hr
  refine fc_intro (args := [.loc 900000 0, .v (.int .u8 c1)]) (S := [(900000, .box 45 [.nloc 900000 0, .ownb 900001]), (900001, .arr 5 1 (l2.map cInt_u8))]) (N0 := [900000]) (post := fun r p S => p = .err r.1 ∧ S = [(900000, .box 45 [.nloc 900000 0, .ownb 900001]), (900001, .arr 5 1 (r.2.map cInt_u8))]) Tryd.func26 rfl rfl hr fun w0 X X0 σ0 _ => ?_
  refine pw_seq ?_
  refine pw_region ?_
  refine po_evs (T := tab) 1 rfl rfl ?_
  refine po_nil ?_
  refine pn_seq ?_
  refine pw_seq ?_
  refine pw_region ?_
  refine po_evs (T := tab) 1 rfl rfl ?_
  refine po_callv (enc := fun (r3 : Unit) => .tup []) (first := []) (cap := []) (qs := [.loc 900000 0]) (Sc := [(900000, .box 45 [.nloc 900000 0, .ownb 900001]), (900001, .arr 5 1 (l2.map cInt_u8))]) (fun r3 hr3 => fc_ren [(900000, 900000), (900001, 900001)] [900000, 900001] (Strings_Builder_copyCheck_i2_ok fu l2 _ hr3) rfl rfl rfl rfl rfl rfl) (subS_of ⟨rfl, rfl, trivial⟩ rfl) rfl rfl rfl rfl ⟨⟨_, rfl, .rfl⟩, trivial⟩ (fun _ => rfl) call31 rfl rfl fun r3 hr3 => ?_
  refine po_nil ?_
  refine pn_seq ?_
  refine pw_seq ?_
  refine pw_region ?_
  refine po_evs (T := tab) 6 rfl rfl ?_
  refine po_lit (T := tab) (rows := [c1].map cInt_u8) 13 rfl rfl rfl rfl rfl rfl rfl rfl rfl rfl rfl rfl rfl rfl ?_
  refine po_coe 11 (q := .own 900001) rfl .ownb ?_
  refine po_append (T := tab) cInt_u8 l2 ([c1] : List Int) rfl rfl rfl rfl rfl rfl rfl rfl rfl rfl rfl rfl rfl rfl (cInt_u8_one _) rfl rfl rfl rfl rfl ?_
  refine po_toB 900001 14 rfl rfl (by simp) ?_
  refine po_evs (T := tab) 2 rfl rfl ?_
  refine po_store (T := tab) rfl rfl rfl rfl rfl rfl rfl rfl rfl rfl rfl rfl ?_
  refine po_nil ?_
  refine pn_seq ?_
  refine pw_seq ?_
  refine pw_region ?_
  refine po_evs (T := tab) 1 rfl rfl ?_
  refine po_nil ?_
  refine pn_seq ?_
  refine pw_coe 4 (q := .err false) rfl .err0 ?_
  exact pw_retN (T := tab) rfl rfl rfl ⟨rfl, rfl⟩ ⟨rfl, rfl, trivial⟩ rfl

def Tale_writer_text_l1 (fu : Nat) (s1 : Bs) : Nat → Int × (List Int) → Option (List Int)
  | 0, _ => none
  | k1 + 1, (t4, l5) => cnd (decide (t4 < ((s1.length : Nat) : Int))) (bnd (chr s1 t4) fun b6 => cnd (b6 == 10) (bnd (Strings_Builder_WriteString_m fu [92, 110] l5) fun r7 => bnd (rng .i64 (t4 + 1)) fun i14 => (Tale_writer_text_l1 fu s1 k1) (i14, r7.2.2)) (cnd (b6 == 34) (cnd (b6 == 34) (bnd (Strings_Builder_WriteByte_m fu 92 l5) fun r8 => bnd (Strings_Builder_WriteByte_m fu b6 r8.2) fun r12 => bnd (rng .i64 (t4 + 1)) fun i17 => (Tale_writer_text_l1 fu s1 k1) (i17, r12.2)) (bnd (Strings_Builder_WriteByte_m fu b6 l5) fun r10 => bnd (rng .i64 (t4 + 1)) fun i15 => (Tale_writer_text_l1 fu s1 k1) (i15, r10.2))) (cnd (b6 == 92) (bnd (Strings_Builder_WriteByte_m fu 92 l5) fun r9 => bnd (Strings_Builder_WriteByte_m fu b6 r9.2) fun r13 => bnd (rng .i64 (t4 + 1)) fun i18 => (Tale_writer_text_l1 fu s1 k1) (i18, r13.2)) (bnd (Strings_Builder_WriteByte_m fu b6 l5) fun r11 => bnd (rng .i64 (t4 + 1)) fun i16 => (Tale_writer_text_l1 fu s1 k1) (i16, r11.2))))) (bnd (Strings_Builder_WriteString_m fu [34] l5) fun r19 => some r19.2.2)

def Tale_writer_text_m (fu : Nat) (s1 : Bs) (l2 : (List Int)) : Option (List Int) := bnd (Strings_Builder_WriteString_m fu [32, 34] l2) fun r3 => (Tale_writer_text_l1 fu s1) fu (0, r3.2.2)

set_option maxHeartbeats 10000000 in
set_option maxRecDepth 100000 in
theorem Tale_writer_text_ok (fu : Nat) (s1 : Bs) (l2 : (List Int)) : ∀ r, Tale_writer_text_m fu s1 l2 = some r → FC laidL Tryd.prog 19 [.loc 900000 0, .v (.string ⟨⟨s1⟩⟩)] [(900000, .box 45 [.nloc 900000 0, .ownb 900001]), (900001, .arr 5 1 (l2.map cInt_u8))] [900000] fun p S' => p = .tup [] ∧ S' = [(900000, .box 45 [.nloc 900000 0, .ownb 900001]), (900001, .arr 5 1 (r.map cInt_u8))] := by
  intro r hr
  refine fc_intro (args := [.loc 900000 0, .v (.string ⟨⟨s1⟩⟩)]) (S := [(900000, .box 45 [.nloc 900000 0, .ownb 900001]), (900001, .arr 5 1 (l2.map cInt_u8))]) (N0 := [900000]) (post := fun r p S => p = .tup [] ∧ S = [(900000, .box 45 [.nloc 900000 0, .ownb 900001]), (900001, .arr 5 1 (r.map cInt_u8))]) Tryd.func19 rfl rfl hr fun w0 X X0 σ0 _ => ?_
  refine pw_seq ?_
  refine pw_region ?_
  refine po_evs (T := tab) 3 rfl rfl ?_
  refine po_turn [900001] (enc := fun (r3 : (Int × Bool × (List Int))) => .tup [.v (.int .i64 r3.1), .err r3.2.1]) (Sr := fun (r3 : (Int × Bool × (List Int))) => [(900000, .box 45 [.nloc 900000 0, .ownb 900001]), (900001, .arr 5 1 (r3.2.2.map cInt_u8))]) (first := []) (cap := []) (qs := [.loc 900000 0, .v (.string ⟨⟨[32, 34]⟩⟩)]) (Sc := [(900000, .box 45 [.nloc 900000 0, .ownb 900001]), (900001, .arr 5 1 (l2.map cInt_u8))]) (N0 := [900000]) (NR := [900000, 900001]) (fun r3 hr3 => fc_ren [(900000, 900000), (900001, 900001)] [900000, 900001] (Strings_Builder_WriteString_ok fu [32, 34] l2 _ hr3) rfl rfl rfl rfl rfl rfl) ⟨rfl, rfl, trivial⟩ (fun _ => rfl) rfl rfl rfl rfl rfl rfl rfl (fun _ => rfl) (fun _ => rfl) rfl rfl rfl ⟨⟨_, rfl, .rfl⟩, ⟨_, rfl, .rfl⟩, trivial⟩ call15 rfl rfl fun r3 hr3 => ?_
  refine po_nil ?_
  refine pn_seq ?_
  refine pw_seq ?_
  refine pw_seq ?_
  refine pw_region ?_
  refine po_evs (T := tab) 3 rfl rfl ?_
  refine po_nil ?_
  refine pn_seq ?_
  refine pw_block ?_
  refine pw_loop' (Tale_writer_text_l1 fu s1) (fun ((t4, l5) : Int × (List Int)) => [(0, .loc 900000 0), (1, .v (.string ⟨⟨s1⟩⟩)), (11, .v (.int .i64 ((s1.length : Nat) : Int))), (12, .v (.int .i64 t4))]) (fun ((t4, l5) : Int × (List Int)) => [(900000, .box 45 [.nloc 900000 0, .ownb 900001]), (900001, .arr 5 1 (l5.map cInt_u8))]) fu (0, r3.2.2) (fun _ => rfl) ⟨rfl, rfl, rfl, rfl, trivial⟩ ⟨rfl, rfl, trivial⟩ rfl ?_
  rintro k1 ⟨t4, l5⟩
  refine pw_seq ?_
  refine pw_region ?_
  refine po_evs (T := tab) 1 rfl rfl ?_
  refine po_nil ?_
  refine pn_seq ?_
  refine pw_seq ?_
  refine pw_cnd rfl ?_ ?_
  · refine pw_skip ?_
    refine pn_seq ?_
    refine pw_seq ?_
    refine pw_block ?_
    refine pw_seq ?_
    refine pw_region ?_
    refine po_evs (T := tab) 2 rfl rfl ?_
    refine po_nil ?_
    refine pn_seq ?_
    refine pw_seq ?_
    refine pw_region ?_
    refine po_evs (T := tab) 2 rfl rfl ?_
    refine po_chr (T := tab) (s := s1) rfl rfl rfl rfl rfl rfl rfl fun b6 hb6 => ?_
    refine po_evs (T := tab) 1 rfl rfl ?_
    refine po_nil ?_
    refine pn_seq ?_
    refine pw_seq ?_
    refine pw_region ?_
    refine po_evs (T := tab) 1 rfl rfl ?_
    refine po_nil ?_
    refine pn_seq ?_
    refine pw_block ?_
    refine pw_seq ?_
    refine pw_block ?_
    refine pw_seq ?_
    refine pw_block ?_
    refine pw_seq ?_
    refine pw_block ?_
    refine pw_seq ?_
    refine pw_seq ?_
    refine pw_seq ?_
    refine pw_region ?_
    refine po_evs (T := tab) 2 rfl rfl ?_
    refine po_nil ?_
    refine pn_seq ?_
    refine pw_cnd rfl ?_ ?_
    · refine pw_exit rfl ?_
      refine pn_seq ?_
      refine pw_seq ?_
      refine pw_region ?_
      refine po_evs (T := tab) 3 rfl rfl ?_
      refine po_turn [900001] (enc := fun (r7 : (Int × Bool × (List Int))) => .tup [.v (.int .i64 r7.1), .err r7.2.1]) (Sr := fun (r7 : (Int × Bool × (List Int))) => [(900000, .box 45 [.nloc 900000 0, .ownb 900001]), (900001, .arr 5 1 (r7.2.2.map cInt_u8))]) (first := []) (cap := []) (qs := [.loc 900000 0, .v (.string ⟨⟨[92, 110]⟩⟩)]) (Sc := [(900000, .box 45 [.nloc 900000 0, .ownb 900001]), (900001, .arr 5 1 (l5.map cInt_u8))]) (N0 := [900000]) (NR := [900000, 900001]) (fun r7 hr7 => fc_ren [(900000, 900000), (900001, 900001)] [900000, 900001] (Strings_Builder_WriteString_ok fu [92, 110] l5 _ hr7) rfl rfl rfl rfl rfl rfl) ⟨rfl, rfl, trivial⟩ (fun _ => rfl) rfl rfl rfl rfl rfl rfl rfl (fun _ => rfl) (fun _ => rfl) rfl rfl rfl ⟨⟨_, rfl, .rfl⟩, ⟨_, rfl, .rfl⟩, trivial⟩ call15 rfl rfl fun r7 hr7 => ?_
      refine po_nil ?_
      refine pn_seq ?_
      refine pw_exit rfl ?_
      refine pn_block ?_
      refine pn_seq ?_
      refine pw_region ?_
      refine po_arith' (T := tab) rfl rfl rfl rfl fun i14 hi14 => ?_
      refine po_evs (T := tab) 1 rfl rfl ?_
      refine po_nil ?_
      exact pn_iter' (i14, r7.2.2) ⟨rfl, rfl, rfl, rfl, trivial⟩ ⟨rfl, rfl, trivial⟩ rfl
    · refine pw_skip ?_
      refine pn_seq ?_
      refine pw_seq ?_
      refine pw_seq ?_
      refine pw_region ?_
      refine po_evs (T := tab) 2 rfl rfl ?_
      refine po_nil ?_
      refine pn_seq ?_
      refine pw_cnd rfl ?_ ?_
      · refine pw_skip ?_
        refine pn_seq ?_
        refine pw_cnd rfl ?_ ?_
        · refine pw_exit rfl ?_
          refine pn_seq ?_
          refine pw_region ?_
          refine po_evs (T := tab) 3 rfl rfl ?_
          refine po_turn [900001] (enc := fun (r8 : (Bool × (List Int))) => .err r8.1) (Sr := fun (r8 : (Bool × (List Int))) => [(900000, .box 45 [.nloc 900000 0, .ownb 900001]), (900001, .arr 5 1 (r8.2.map cInt_u8))]) (first := []) (cap := []) (qs := [.loc 900000 0, .v (.int .u8 92)]) (Sc := [(900000, .box 45 [.nloc 900000 0, .ownb 900001]), (900001, .arr 5 1 (l5.map cInt_u8))]) (N0 := [900000]) (NR := [900000, 900001]) (fun r8 hr8 => fc_ren [(900000, 900000), (900001, 900001)] [900000, 900001] (Strings_Builder_WriteByte_i2_ok fu 92 l5 _ hr8) rfl rfl rfl rfl rfl rfl) ⟨rfl, rfl, trivial⟩ (fun _ => rfl) rfl rfl rfl rfl rfl rfl rfl (fun _ => rfl) (fun _ => rfl) rfl rfl rfl ⟨⟨_, rfl, .rfl⟩, ⟨_, rfl, .rfl⟩, trivial⟩ call26 rfl rfl fun r8 hr8 => ?_
          refine po_nil ?_
          refine pn_block ?_
          refine pn_seq ?_
          refine pw_seq ?_
          refine pw_region ?_
          refine po_evs (T := tab) 4 rfl rfl ?_
          refine po_turn [900001] (enc := fun (r12 : (Bool × (List Int))) => .err r12.1) (Sr := fun (r12 : (Bool × (List Int))) => [(900000, .box 45 [.nloc 900000 0, .ownb 900001]), (900001, .arr 5 1 (r12.2.map cInt_u8))]) (first := []) (cap := []) (qs := [.loc 900000 0, .v (.int .u8 b6)]) (Sc := [(900000, .box 45 [.nloc 900000 0, .ownb 900001]), (900001, .arr 5 1 (r8.2.map cInt_u8))]) (N0 := [900000]) (NR := [900000, 900001]) (fun r12 hr12 => fc_ren [(900000, 900000), (900001, 900001)] [900000, 900001] (Strings_Builder_WriteByte_i2_ok fu b6 r8.2 _ hr12) rfl rfl rfl rfl rfl rfl) ⟨rfl, rfl, trivial⟩ (fun _ => rfl) rfl rfl rfl rfl rfl rfl rfl (fun _ => rfl) (fun _ => rfl) rfl rfl rfl ⟨⟨_, rfl, .rfl⟩, ⟨_, rfl, .rfl⟩, trivial⟩ call26 rfl rfl fun r12 hr12 => ?_
          refine po_nil ?_
          refine pn_seq ?_
          refine pw_exit rfl ?_
          refine pn_block ?_
          refine pn_seq ?_
          refine pw_region ?_
          refine po_arith' (T := tab) rfl rfl rfl rfl fun i17 hi17 => ?_
          refine po_evs (T := tab) 1 rfl rfl ?_
          refine po_nil ?_
          exact pn_iter' (i17, r12.2) ⟨rfl, rfl, rfl, rfl, trivial⟩ ⟨rfl, rfl, trivial⟩ rfl
        · refine pw_skip ?_
          refine pn_seq ?_
          refine pw_exit rfl ?_
          refine pn_seq ?_
          refine pw_seq ?_
          refine pw_region ?_
          refine po_evs (T := tab) 4 rfl rfl ?_
          refine po_turn [900001] (enc := fun (r10 : (Bool × (List Int))) => .err r10.1) (Sr := fun (r10 : (Bool × (List Int))) => [(900000, .box 45 [.nloc 900000 0, .ownb 900001]), (900001, .arr 5 1 (r10.2.map cInt_u8))]) (first := []) (cap := []) (qs := [.loc 900000 0, .v (.int .u8 b6)]) (Sc := [(900000, .box 45 [.nloc 900000 0, .ownb 900001]), (900001, .arr 5 1 (l5.map cInt_u8))]) (N0 := [900000]) (NR := [900000, 900001]) (fun r10 hr10 => fc_ren [(900000, 900000), (900001, 900001)] [900000, 900001] (Strings_Builder_WriteByte_i2_ok fu b6 l5 _ hr10) rfl rfl rfl rfl rfl rfl) ⟨rfl, rfl, trivial⟩ (fun _ => rfl) rfl rfl rfl rfl rfl rfl rfl (fun _ => rfl) (fun _ => rfl) rfl rfl rfl ⟨⟨_, rfl, .rfl⟩, ⟨_, rfl, .rfl⟩, trivial⟩ call26 rfl rfl fun r10 hr10 => ?_
          refine po_nil ?_
          refine pn_seq ?_
          refine pw_exit rfl ?_
          refine pn_block ?_
          refine pn_seq ?_
          refine pw_region ?_
          refine po_arith' (T := tab) rfl rfl rfl rfl fun i15 hi15 => ?_
          refine po_evs (T := tab) 1 rfl rfl ?_
          refine po_nil ?_
          exact pn_iter' (i15, r10.2) ⟨rfl, rfl, rfl, rfl, trivial⟩ ⟨rfl, rfl, trivial⟩ rfl
      · refine pw_region ?_
        refine po_evs (T := tab) 2 rfl rfl ?_
        refine po_nil ?_
        refine pn_seq ?_
        refine pw_cnd rfl ?_ ?_
        · refine pw_exit rfl ?_
          refine pn_seq ?_
          refine pw_region ?_
          refine po_evs (T := tab) 3 rfl rfl ?_
          refine po_turn [900001] (enc := fun (r9 : (Bool × (List Int))) => .err r9.1) (Sr := fun (r9 : (Bool × (List Int))) => [(900000, .box 45 [.nloc 900000 0, .ownb 900001]), (900001, .arr 5 1 (r9.2.map cInt_u8))]) (first := []) (cap := []) (qs := [.loc 900000 0, .v (.int .u8 92)]) (Sc := [(900000, .box 45 [.nloc 900000 0, .ownb 900001]), (900001, .arr 5 1 (l5.map cInt_u8))]) (N0 := [900000]) (NR := [900000, 900001]) (fun r9 hr9 => fc_ren [(900000, 900000), (900001, 900001)] [900000, 900001] (Strings_Builder_WriteByte_i2_ok fu 92 l5 _ hr9) rfl rfl rfl rfl rfl rfl) ⟨rfl, rfl, trivial⟩ (fun _ => rfl) rfl rfl rfl rfl rfl rfl rfl (fun _ => rfl) (fun _ => rfl) rfl rfl rfl ⟨⟨_, rfl, .rfl⟩, ⟨_, rfl, .rfl⟩, trivial⟩ call26 rfl rfl fun r9 hr9 => ?_
          refine po_nil ?_
          refine pn_block ?_
          refine pn_seq ?_
          refine pw_seq ?_
          refine pw_region ?_
          refine po_evs (T := tab) 4 rfl rfl ?_
          refine po_turn [900001] (enc := fun (r13 : (Bool × (List Int))) => .err r13.1) (Sr := fun (r13 : (Bool × (List Int))) => [(900000, .box 45 [.nloc 900000 0, .ownb 900001]), (900001, .arr 5 1 (r13.2.map cInt_u8))]) (first := []) (cap := []) (qs := [.loc 900000 0, .v (.int .u8 b6)]) (Sc := [(900000, .box 45 [.nloc 900000 0, .ownb 900001]), (900001, .arr 5 1 (r9.2.map cInt_u8))]) (N0 := [900000]) (NR := [900000, 900001]) (fun r13 hr13 => fc_ren [(900000, 900000), (900001, 900001)] [900000, 900001] (Strings_Builder_WriteByte_i2_ok fu b6 r9.2 _ hr13) rfl rfl rfl rfl rfl rfl) ⟨rfl, rfl, trivial⟩ (fun _ => rfl) rfl rfl rfl rfl rfl rfl rfl (fun _ => rfl) (fun _ => rfl) rfl rfl rfl ⟨⟨_, rfl, .rfl⟩, ⟨_, rfl, .rfl⟩, trivial⟩ call26 rfl rfl fun r13 hr13 => ?_
          refine po_nil ?_
          refine pn_seq ?_
          refine pw_exit rfl ?_
          refine pn_block ?_
          refine pn_seq ?_
          refine pw_region ?_
          refine po_arith' (T := tab) rfl rfl rfl rfl fun i18 hi18 => ?_
          refine po_evs (T := tab) 1 rfl rfl ?_
          refine po_nil ?_
          exact pn_iter' (i18, r13.2) ⟨rfl, rfl, rfl, rfl, trivial⟩ ⟨rfl, rfl, trivial⟩ rfl
        · refine pw_skip ?_
          refine pn_seq ?_
          refine pw_exit rfl ?_
          refine pn_seq ?_
          refine pw_seq ?_
          refine pw_region ?_
          refine po_evs (T := tab) 4 rfl rfl ?_
          refine po_turn [900001] (enc := fun (r11 : (Bool × (List Int))) => .err r11.1) (Sr := fun (r11 : (Bool × (List Int))) => [(900000, .box 45 [.nloc 900000 0, .ownb 900001]), (900001, .arr 5 1 (r11.2.map cInt_u8))]) (first := []) (cap := []) (qs := [.loc 900000 0, .v (.int .u8 b6)]) (Sc := [(900000, .box 45 [.nloc 900000 0, .ownb 900001]), (900001, .arr 5 1 (l5.map cInt_u8))]) (N0 := [900000]) (NR := [900000, 900001]) (fun r11 hr11 => fc_ren [(900000, 900000), (900001, 900001)] [900000, 900001] (Strings_Builder_WriteByte_i2_ok fu b6 l5 _ hr11) rfl rfl rfl rfl rfl rfl) ⟨rfl, rfl, trivial⟩ (fun _ => rfl) rfl rfl rfl rfl rfl rfl rfl (fun _ => rfl) (fun _ => rfl) rfl rfl rfl ⟨⟨_, rfl, .rfl⟩, ⟨_, rfl, .rfl⟩, trivial⟩ call26 rfl rfl fun r11 hr11 => ?_
          refine po_nil ?_
          refine pn_seq ?_
          refine pw_exit rfl ?_
          refine pn_block ?_
          refine pn_seq ?_
          refine pw_region ?_
          refine po_arith' (T := tab) rfl rfl rfl rfl fun i16 hi16 => ?_
          refine po_evs (T := tab) 1 rfl rfl ?_
          refine po_nil ?_
          exact pn_iter' (i16, r11.2) ⟨rfl, rfl, rfl, rfl, trivial⟩ ⟨rfl, rfl, trivial⟩ rfl
  · refine pw_exit rfl ?_
    refine pn_seq ?_
    refine pw_region ?_
    refine po_evs (T := tab) 3 rfl rfl ?_
    refine po_turn [900001] (enc := fun (r19 : (Int × Bool × (List Int))) => .tup [.v (.int .i64 r19.1), .err r19.2.1]) (Sr := fun (r19 : (Int × Bool × (List Int))) => [(900000, .box 45 [.nloc 900000 0, .ownb 900001]), (900001, .arr 5 1 (r19.2.2.map cInt_u8))]) (first := []) (cap := []) (qs := [.loc 900000 0, .v (.string ⟨⟨[34]⟩⟩)]) (Sc := [(900000, .box 45 [.nloc 900000 0, .ownb 900001]), (900001, .arr 5 1 (l5.map cInt_u8))]) (N0 := [900000]) (NR := [900000, 900001]) (fun r19 hr19 => fc_ren [(900000, 900000), (900001, 900001)] [900000, 900001] (Strings_Builder_WriteString_ok fu [34] l5 _ hr19) rfl rfl rfl rfl rfl rfl) ⟨rfl, rfl, trivial⟩ (fun _ => rfl) rfl rfl rfl rfl rfl rfl rfl (fun _ => rfl) (fun _ => rfl) rfl rfl rfl ⟨⟨_, rfl, .rfl⟩, ⟨_, rfl, .rfl⟩, trivial⟩ call15 rfl rfl fun r19 hr19 => ?_
    refine po_nil ?_
    exact pn_retN (T := tab) rfl rfl rfl ⟨rfl, rfl⟩ ⟨rfl, rfl, trivial⟩ rfl

def Tale_writer_truth_m (fu : Nat) (b1 : Bool) (l2 : (List Int)) : Option (List Int) := cnd b1 (bnd (Tale_writer_number_m fu 1 l2) fun r3 => some r3) (bnd (Tale_writer_number_m fu 0 l2) fun r4 => some r4)

set_option maxRecDepth 100000 in
theorem Tale_writer_truth_ok (fu : Nat) (b1 : Bool) (l2 : (List Int)) : ∀ r, Tale_writer_truth_m fu b1 l2 = some r → FC laidL Tryd.prog 20 [.loc 900000 0, .v (.bool b1)] [(900000, .box 45 [.nloc 900000 0, .ownb 900001]), (900001, .arr 5 1 (l2.map cInt_u8))] [900000] fun p S' => p = .tup [] ∧ S' = [(900000, .box 45 [.nloc 900000 0, .ownb 900001]), (900001, .arr 5 1 (r.map cInt_u8))] := by
  intro r hr
  refine fc_intro (args := [.loc 900000 0, .v (.bool b1)]) (S := [(900000, .box 45 [.nloc 900000 0, .ownb 900001]), (900001, .arr 5 1 (l2.map cInt_u8))]) (N0 := [900000]) (post := fun r p S => p = .tup [] ∧ S = [(900000, .box 45 [.nloc 900000 0, .ownb 900001]), (900001, .arr 5 1 (r.map cInt_u8))]) Tryd.func20 rfl rfl hr fun w0 X X0 σ0 _ => ?_
  refine pw_seq ?_
  refine pw_region ?_
  refine po_evs (T := tab) 1 rfl rfl ?_
  refine po_nil ?_
  refine pn_seq ?_
  refine pw_seq ?_
  refine pw_seq ?_
  refine pw_region ?_
  refine po_evs (T := tab) 1 rfl rfl ?_
  refine po_nil ?_
  refine pn_seq ?_
  refine pw_cnd rfl ?_ ?_
  · refine pw_region ?_
    refine po_evs (T := tab) 1 rfl rfl ?_
    refine po_nil ?_
    refine pn_seq ?_
    refine pw_region ?_
    refine po_evs (T := tab) 2 rfl rfl ?_
    refine po_turn [900001] (enc := fun (r3 : (List Int)) => .tup []) (Sr := fun (r3 : (List Int)) => [(900000, .box 45 [.nloc 900000 0, .ownb 900001]), (900001, .arr 5 1 (r3.map cInt_u8))]) (first := []) (cap := []) (qs := [.loc 900000 0, .v (.int .i64 1)]) (Sc := [(900000, .box 45 [.nloc 900000 0, .ownb 900001]), (900001, .arr 5 1 (l2.map cInt_u8))]) (N0 := [900000]) (NR := [900000, 900001]) (fun r3 hr3 => fc_ren [(900000, 900000), (900001, 900001)] [900000, 900001] (Tale_writer_number_ok fu 1 l2 _ hr3) rfl rfl rfl rfl rfl rfl) ⟨rfl, rfl, trivial⟩ (fun _ => rfl) rfl rfl rfl rfl rfl rfl rfl (fun _ => rfl) (fun _ => rfl) rfl rfl rfl ⟨⟨_, rfl, .rfl⟩, ⟨_, rfl, .rfl⟩, trivial⟩ call17 rfl rfl fun r3 hr3 => ?_
    refine po_nil ?_
    exact pn_retN (T := tab) rfl rfl rfl ⟨rfl, rfl⟩ ⟨rfl, rfl, trivial⟩ rfl
  · refine pw_skip ?_
    refine pn_seq ?_
    refine pw_region ?_
    refine po_evs (T := tab) 2 rfl rfl ?_
    refine po_turn [900001] (enc := fun (r4 : (List Int)) => .tup []) (Sr := fun (r4 : (List Int)) => [(900000, .box 45 [.nloc 900000 0, .ownb 900001]), (900001, .arr 5 1 (r4.map cInt_u8))]) (first := []) (cap := []) (qs := [.loc 900000 0, .v (.int .i64 0)]) (Sc := [(900000, .box 45 [.nloc 900000 0, .ownb 900001]), (900001, .arr 5 1 (l2.map cInt_u8))]) (N0 := [900000]) (NR := [900000, 900001]) (fun r4 hr4 => fc_ren [(900000, 900000), (900001, 900001)] [900000, 900001] (Tale_writer_number_ok fu 0 l2 _ hr4) rfl rfl rfl rfl rfl rfl) ⟨rfl, rfl, trivial⟩ (fun _ => rfl) rfl rfl rfl rfl rfl rfl rfl (fun _ => rfl) (fun _ => rfl) rfl rfl rfl ⟨⟨_, rfl, .rfl⟩, ⟨_, rfl, .rfl⟩, trivial⟩ call17 rfl rfl fun r4 hr4 => ?_
    refine po_nil ?_
    exact pn_retN (T := tab) rfl rfl rfl ⟨rfl, rfl⟩ ⟨rfl, rfl, trivial⟩ rfl

set_option maxRecDepth 100000 in
theorem Strings_Builder_String_i2_ok (fu : Nat) (l1 : (List Int)) : ∀ r, Strings_Builder_String_m fu l1 = some r → FC laidL Tryd.prog 21 [.loc 900000 0] [(900000, .box 45 [.nloc 900000 0, .ownb 900001]), (900001, .arr 5 1 (l1.map cInt_u8))] [900000, 900001] fun p S' => p = .v (.string ⟨⟨r⟩⟩) ∧ S' = [(900000, .box 45 [.nloc 900000 0, .junk])] := by
  intro r hr
  refine fc_intro (args := [.loc 900000 0]) (S := [(900000, .box 45 [.nloc 900000 0, .ownb 900001]), (900001, .arr 5 1 (l1.map cInt_u8))]) (N0 := [900000, 900001]) (post := fun r p S => p = .v (.string ⟨⟨r⟩⟩) ∧ S = [(900000, .box 45 [.nloc 900000 0, .junk])]) Tryd.func21 rfl rfl hr fun w0 X X0 σ0 _ => ?_
  refine pw_seq ?_
  refine pw_region ?_
  refine po_evs (T := tab) 1 rfl rfl ?_
  refine po_nil ?_
  refine pn_seq ?_
  refine pw_seq ?_
  refine pw_sub' (E' := [(0, .loc 900000 0)]) (S' := [(900000, .box 45 [.nloc 900000 0, .ownb 900001]), (900001, .arr 5 1 (l1.map cInt_u8))]) ?_ ⟨rfl, trivial⟩ ⟨rfl, rfl, trivial⟩ rfl
  refine pw_drawV [0, 1, 3, 7, 15, 0, 32, 96, 224, 480, 1023, 2047] mixed (by kernel_rfl) (by kernel_rfl) rfl rfl ?_
  refine pdv_step0 [0] [6] [] [900000] [] [(3, .loc 900000 0)] [] rfl rfl rfl rfl (by kernel_rfl) (by kernel_rfl) (by kernel_rfl) trivial (fun w0 X X0 σ0 _ => by refine po_evs (T := tab) 1 rfl rfl ?_; refine po_nil ?_; exact pn_end0 ⟨rfl, trivial⟩ trivial rfl) ?_
  refine pdv_step0 [6] [8] [] [900000] [] [(4, .loc 900000 0)] [] rfl rfl rfl rfl (by kernel_rfl) (by kernel_rfl) (by kernel_rfl) trivial (fun w0 X X0 σ0 _ => by refine po_evs (T := tab) 1 rfl rfl ?_; refine po_nil ?_; exact pn_end0 ⟨rfl, trivial⟩ trivial rfl) ?_
  refine pdv_step0 [8] [10] [] [900000] [] [(5, .loc 900000 1)] [] rfl rfl rfl rfl (by kernel_rfl) (by kernel_rfl) (by kernel_rfl) trivial (fun w0 X X0 σ0 _ => by refine po_evs (T := tab) 1 rfl rfl ?_; refine po_nil ?_; exact pn_end0 ⟨rfl, trivial⟩ trivial rfl) ?_
  refine pdv_step0 [10, 1800001] [12] [] [900000, 900001] [900000] [(6, .ownb 900001)] [(900000, .box 45 [.nloc 900000 0, .ownb 900001])] rfl rfl rfl rfl (by kernel_rfl) (by kernel_rfl) (by kernel_rfl) ⟨rfl, trivial⟩ (fun w0 X X0 σ0 _ => by refine po_evs (T := tab) 1 rfl rfl ?_; refine po_nil ?_; exact pn_end0 ⟨rfl, trivial⟩ ⟨rfl, trivial⟩ rfl) ?_
  refine pdv_step0 [12, 1800003] [14] [] [900001] [900001] [(7, .dat 900001)] [(900001, .arr 5 1 (l1.map cInt_u8))] rfl rfl rfl rfl (by kernel_rfl) (by kernel_rfl) (by kernel_rfl) ⟨rfl, trivial⟩ (fun w0 X X0 σ0 _ => by refine po_sliceData rfl rfl rfl rfl rfl rfl ?_; refine po_nil ?_; exact pn_end0 ⟨rfl, trivial⟩ ⟨rfl, trivial⟩ rfl) ?_
  refine pdv_step0 [0] [16] [] [900000] [] [(8, .loc 900000 0)] [] rfl rfl rfl rfl (by kernel_rfl) (by kernel_rfl) (by kernel_rfl) trivial (fun w0 X X0 σ0 _ => by refine po_evs (T := tab) 1 rfl rfl ?_; refine po_nil ?_; exact pn_end0 ⟨rfl, trivial⟩ trivial rfl) ?_
  refine pdv_step0 [16] [18] [] [900000] [] [(9, .loc 900000 0)] [] rfl rfl rfl rfl (by kernel_rfl) (by kernel_rfl) (by kernel_rfl) trivial (fun w0 X X0 σ0 _ => by refine po_evs (T := tab) 1 rfl rfl ?_; refine po_nil ?_; exact pn_end0 ⟨rfl, trivial⟩ trivial rfl) ?_
  refine pdv_step0 [18] [20] [] [900000] [] [(10, .loc 900000 1)] [] rfl rfl rfl rfl (by kernel_rfl) (by kernel_rfl) (by kernel_rfl) trivial (fun w0 X X0 σ0 _ => by refine po_evs (T := tab) 1 rfl rfl ?_; refine po_nil ?_; exact pn_end0 ⟨rfl, trivial⟩ trivial rfl) ?_
  refine pdv_step0 [20, 1800001] [22] [] [900000, 900001] [900000] [(11, .ownb 900001)] [(900000, .box 45 [.nloc 900000 0, .ownb 900001])] rfl rfl rfl rfl (by kernel_rfl) (by kernel_rfl) (by kernel_rfl) ⟨rfl, trivial⟩ (fun w0 X X0 σ0 _ => by refine po_evs (T := tab) 1 rfl rfl ?_; refine po_nil ?_; exact pn_end0 ⟨rfl, trivial⟩ ⟨rfl, trivial⟩ rfl) ?_
  refine pdv_step0 [22, 1800003] [24, 22] [] [900001] [900001] [(12, .v (.int .i64 ((l1.length : Nat) : Int))), (11, .own 900001)] [(900001, .arr 5 1 (l1.map cInt_u8))] rfl rfl rfl rfl (by kernel_rfl) (by kernel_rfl) (by kernel_rfl) ⟨rfl, trivial⟩ (fun w0 X X0 σ0 _ => by refine po_coe 11 (q := .own 900001) rfl .ownb ?_; refine po_len_own (T := tab) cInt_u8 l1 rfl rfl rfl rfl rfl rfl rfl rfl rfl ?_; refine po_nil ?_; exact pn_end0 ⟨rfl, rfl, trivial⟩ ⟨rfl, trivial⟩ rfl) ?_
  refine pdv_step0 [12, 14, 22, 24, 1800001, 1800003] [26, 12, 14, 22, 1800001, 1800003] [] [900000, 900001] [] [(13, .v (.string ⟨⟨(strOf l1)⟩⟩)), (11, .sl 1 false (l1.map cInt_u8))] [(900000, .box 45 [.nloc 900000 0, .junk])] rfl rfl rfl rfl (by kernel_rfl) (by kernel_rfl) (by kernel_rfl) trivial (fun w0 X X0 σ0 _ => by refine po_usString cInt_u8 l1 (fun _ => rfl) rfl rfl rfl rfl rfl rfl rfl Tryd.underlying75 (by kernel_rfl) rfl rfl rfl rfl ?_; refine po_nil ?_; exact pn_end0 ⟨rfl, rfl, trivial⟩ ⟨rfl, trivial⟩ rfl) ?_
  refine pdv_step0 [26] [4] [] [] [] [(2, .v (.string ⟨⟨(strOf l1)⟩⟩))] [] rfl rfl rfl rfl (by kernel_rfl) (by kernel_rfl) (by kernel_rfl) trivial (fun w0 X X0 σ0 _ => by refine po_evs (T := tab) 1 rfl rfl ?_; refine po_nil ?_; exact pn_end0 ⟨rfl, trivial⟩ trivial rfl) ?_
  refine pdv_nil rfl rfl ?_
  refine pn_seq ?_
  exact pw_retN (T := tab) rfl rfl rfl ⟨rfl, rfl⟩ ⟨rfl, trivial⟩ rfl

def Tale_One_l1 (fu : Nat) (m1 : Mark) : Nat → Int × (List Int) → Option (Bs × Int)
  | 0, _ => none
  | k1 + 1, (t5, l6) => cnd (decide (t5 < (([m1.Depth, m1.Node, m1.What, m1.Err].length : Nat) : Int))) (bnd (idx [m1.Depth, m1.Node, m1.What, m1.Err] t5) fun y7 => bnd (Tale_writer_number_m fu y7 l6) fun r8 => bnd (rng .i64 (t5 + 1)) fun i9 => (Tale_One_l1 fu m1 k1) (i9, r8)) (bnd (Tale_bare_m fu m1) fun r10 => cnd (!(eqMark m1 r10)) (bnd (Tale_writer_text_m fu m1.Name l6) fun r11 => bnd (Tale_writer_truth_m fu m1.Had r11) fun r12 => bnd (Tale_writer_truth_m fu m1.Has r12) fun r13 => bnd (Tale_writer_text_m fu m1.Old r13) fun r14 => bnd (Tale_writer_text_m fu m1.New r14) fun r15 => bnd (Tale_writer_number_m fu m1.From r15) fun r16 => bnd (Tale_writer_number_m fu m1.To r16) fun r17 => bnd (Tale_writer_truth_m fu m1.On r17) fun r18 => bnd (Strings_Builder_String_m fu r18) fun r19 => some (r19, 0)) (bnd (Strings_Builder_String_m fu l6) fun r20 => some (r20, 0)))

def Tale_One_m (fu : Nat) (m1 : Mark) : Option (Bs × Int) := cnd (decide (m1.Kind < 1)) (some ([], 1)) (cnd (decide (m1.Kind > 10)) (some ([], 1)) (bnd (Tale_words_m fu) fun r2 => bnd (idx r2 m1.Kind) fun y3 => bnd (Strings_Builder_WriteString_m fu y3 []) fun r4 => (Tale_One_l1 fu m1) fu (0, r4.2.2)))

set_option maxHeartbeats 10000000 in
set_option maxRecDepth 100000 in
theorem Tale_One_ok (fu : Nat) (m1 : Mark) : ∀ r, Tale_One_m fu m1 = some r → DC laidL Tryd.prog 9 [.agg (cMark m1)] (.tup [.v (.string ⟨⟨r.1⟩⟩), .v (.int .i64 r.2)]) := by
  intro r hr
  refine fc_intro (args := [.agg (cMark m1)]) (S := []) (N0 := []) (post := fun r p S => p = .tup [.v (.string ⟨⟨r.1⟩⟩), .v (.int .i64 r.2)] ∧ S = []) Tryd.func9 rfl rfl hr fun w0 X X0 σ0 _ => ?_
  refine pw_seq ?_
  refine pw_region ?_
  refine po_box  1 rfl rfl rfl rfl rfl rfl rfl rfl rfl rfl ?_
  refine po_evs (T := tab) 2 rfl rfl ?_
  refine po_nil ?_
  refine pn_seq ?_
  refine pw_seq ?_
  refine pw_seq ?_
  refine pw_region ?_
  refine po_evs (T := tab) 4 rfl rfl ?_
  refine po_split (j := 10) rfl ?_ ?_
  · refine po_evs (T := tab) 4 rfl rfl ?_
    refine po_nil ?_
    refine pn_seq (pw_then rfl ?_)
    refine pw_seq ?_
    refine pw_region ?_
    refine po_evs (T := tab) 2 rfl rfl ?_
    refine po_nil ?_
    refine pn_seq ?_
    exact pw_retN (T := tab) rfl rfl rfl ⟨rfl, rfl⟩ trivial rfl
  · refine po_evs (T := tab) 4 rfl rfl ?_
    refine po_nil ?_
    refine pn_seq ?_
    refine pw_cnd rfl ?_ ?_
    · refine pw_seq ?_
      refine pw_region ?_
      refine po_evs (T := tab) 2 rfl rfl ?_
      refine po_nil ?_
      refine pn_seq ?_
      exact pw_retN (T := tab) rfl rfl rfl ⟨rfl, rfl⟩ trivial rfl
    · refine pw_skip ?_
      refine pn_seq ?_
      refine pw_seq ?_
      refine pw_region ?_
      refine po_alloc (T := tab) 4 rfl rfl rfl rfl rfl rfl rfl rfl rfl ?_
      refine po_coeS 4 [.nloc 4 0, .v (.slice none 0 0)] rfl ⟨.nloc0, .rfl, trivial⟩ rfl ?_
      refine po_ownb_nilS 5040 5 1 4 1 rfl rfl rfl rfl rfl rfl ?_
      refine po_nil ?_
      refine pn_seq ?_
      refine pw_seq ?_
      refine pw_sub' (E' := [(1, .loc 1 0), (4, .loc 4 0)]) (S' := [(5040, .arr 5 1 ([].map cInt_u8)), (4, .box 45 [.nloc 4 0, .ownb 5040]), (1, .box 29 [.v (.int .i64 m1.Kind), .v (.int .i64 m1.Depth), .v (.int .i64 m1.Node), .v (.int .i64 m1.What), .v (.int .i64 m1.Err), .v (.string ⟨⟨m1.Name⟩⟩), .v (.bool m1.Had), .v (.bool m1.Has), .v (.string ⟨⟨m1.Old⟩⟩), .v (.string ⟨⟨m1.New⟩⟩), .v (.int .i64 m1.From), .v (.int .i64 m1.To), .v (.bool m1.On)])]) ?_ ⟨rfl, rfl, trivial⟩ ⟨rfl, rfl, rfl, trivial⟩ rfl
      refine pw_drawV [0, 0, 0, 4, 14, 30, 63] mixed (by kernel_rfl) (by kernel_rfl) rfl rfl ?_
      refine pdv_step0 [8] [30] [] [4] [] [(15, .loc 4 0)] [] rfl rfl rfl rfl (by kernel_rfl) (by kernel_rfl) (by kernel_rfl) trivial (fun w0 X X0 σ0 _ => by refine po_evs (T := tab) 1 rfl rfl ?_; refine po_nil ?_; exact pn_end0 ⟨rfl, trivial⟩ trivial rfl) ?_
      refine pdv_step (M := (Tale_words_m fu)) (ment := [(32, [])]) [] [32] [] [] [] (fun r2 => [(16, .sl 1 false (r2.map cStr))]) (fun r2 => []) rfl rfl (fun _ => rfl) (fun _ => rfl) (by kernel_rfl) (by kernel_rfl) (fun _ => by kernel_rfl) (fun _ => trivial) (fun w0 X X0 σ0 _ => by refine po_call (enc := fun (r2 : (List Bs)) => .sl 1 false (r2.map cStr)) (qs := []) (Tale_words_ok fu) rfl rfl trivial (fun _ => rfl) call16 rfl rfl fun r2 hr2 => ?_; refine po_nil ?_; exact pn_end ⟨rfl, trivial⟩ trivial rfl) fun r2 hr2 => ?_
      refine pdv_step0 [2] [34] [] [1] [] [(17, .loc 1 0)] [] rfl rfl rfl rfl (by kernel_rfl) (by kernel_rfl) (by kernel_rfl) trivial (fun w0 X X0 σ0 _ => by refine po_evs (T := tab) 1 rfl rfl ?_; refine po_nil ?_; exact pn_end0 ⟨rfl, trivial⟩ trivial rfl) ?_
      refine pdv_step0 [3, 34] [36] [] [1] [1] [(18, .v (.int .i64 m1.Kind))] [(1, .box 29 [.v (.int .i64 m1.Kind), .v (.int .i64 m1.Depth), .v (.int .i64 m1.Node), .v (.int .i64 m1.What), .v (.int .i64 m1.Err), .v (.string ⟨⟨m1.Name⟩⟩), .v (.bool m1.Had), .v (.bool m1.Has), .v (.string ⟨⟨m1.Old⟩⟩), .v (.string ⟨⟨m1.New⟩⟩), .v (.int .i64 m1.From), .v (.int .i64 m1.To), .v (.bool m1.On)])] rfl rfl rfl rfl (by kernel_rfl) (by kernel_rfl) (by kernel_rfl) ⟨rfl, trivial⟩ (fun w0 X X0 σ0 _ => by refine po_evs (T := tab) 1 rfl rfl ?_; refine po_nil ?_; exact pn_end0 ⟨rfl, trivial⟩ ⟨rfl, trivial⟩ rfl) ?_
      refine pdv_step (M := (idx r2 m1.Kind)) (ment := [(38, [])]) [32, 36] [38] [] [] [] (fun y3 => [(19, .el (cStr y3) 0)]) (fun y3 => []) rfl rfl (fun _ => rfl) (fun _ => rfl) (by kernel_rfl) (by kernel_rfl) (fun _ => by kernel_rfl) (fun _ => trivial) (fun w0 X X0 σ0 _ => by refine po_idx (T := tab) cStr r2 rfl rfl rfl rfl rfl rfl rfl fun y3 hy3 => ?_; refine po_nil ?_; exact pn_end ⟨rfl, trivial⟩ trivial rfl) fun y3 hy3 => ?_
      refine pdv_step0 [38] [40] [] [] [] [(20, .v (.string ⟨⟨y3⟩⟩))] [] rfl rfl rfl rfl (by kernel_rfl) (by kernel_rfl) (by kernel_rfl) trivial (fun w0 X X0 σ0 _ => by refine po_evs (T := tab) 1 rfl rfl ?_; refine po_nil ?_; exact pn_end0 ⟨rfl, trivial⟩ trivial rfl) ?_
      refine pdv_step (M := (Strings_Builder_WriteString_m fu y3 [])) (ment := [(42, []), (10081, []), (9, [4, 5040])]) [9, 30, 40, 10081] [42, 10081, 9] [5040] [4] [] (fun r4 => [(21, .tup [.v (.int .i64 r4.1), .err r4.2.1])]) (fun r4 => [(5040, .arr 5 1 (r4.2.2.map cInt_u8)), (4, .box 45 [.nloc 4 0, .ownb 5040])]) rfl rfl (fun _ => rfl) (fun _ => rfl) (by kernel_rfl) (by kernel_rfl) (fun _ => by kernel_rfl) (fun _ => trivial) (fun w0 X X0 σ0 _ => by refine po_turn [5040] (enc := fun (r4 : (Int × Bool × (List Int))) => .tup [.v (.int .i64 r4.1), .err r4.2.1]) (Sr := fun (r4 : (Int × Bool × (List Int))) => [(4, .box 45 [.nloc 4 0, .ownb 5040]), (5040, .arr 5 1 (r4.2.2.map cInt_u8))]) (first := []) (cap := []) (qs := [.loc 4 0, .v (.string ⟨⟨y3⟩⟩)]) (Sc := [(4, .box 45 [.nloc 4 0, .ownb 5040]), (5040, .arr 5 1 ([].map cInt_u8))]) (N0 := [4]) (NR := [4, 5040]) (fun r4 hr4 => fc_ren [(900000, 4), (900001, 5040)] [900000, 900001] (Strings_Builder_WriteString_ok fu y3 [] _ hr4) rfl rfl rfl rfl rfl rfl) ⟨rfl, rfl, trivial⟩ (fun _ => rfl) rfl rfl rfl rfl rfl rfl rfl (fun _ => rfl) (fun _ => rfl) rfl rfl rfl ⟨⟨_, rfl, .rfl⟩, ⟨_, rfl, .rfl⟩, trivial⟩ call15 rfl rfl fun r4 hr4 => ?_; refine po_nil ?_; exact pn_end ⟨rfl, trivial⟩ ⟨rfl, rfl, trivial⟩ rfl) fun r4 hr4 => ?_
      refine pdv_nil rfl rfl ?_
      refine pn_seq ?_
      refine pw_seq ?_
      refine pw_seq ?_
      refine pw_region ?_
      refine po_evs (T := tab) 8 rfl rfl ?_
      refine po_lit (T := tab) (rows := [m1.Depth, m1.Node, m1.What, m1.Err].map cInt_i64) 30 rfl rfl rfl rfl rfl rfl rfl rfl rfl rfl rfl rfl rfl rfl ?_
      refine po_len_own (T := tab) cInt_i64 [m1.Depth, m1.Node, m1.What, m1.Err] rfl rfl rfl rfl rfl rfl rfl rfl rfl ?_
      refine po_evs (T := tab) 1 rfl rfl ?_
      refine po_nil ?_
      refine pn_seq ?_
      refine pw_block ?_
      refine pw_loop' (Tale_One_l1 fu m1) (fun ((t5, l6) : Int × (List Int)) => [(1, .loc 1 0), (4, .loc 4 0), (30, .own 30), (31, .v (.int .i64 (([m1.Depth, m1.Node, m1.What, m1.Err].length : Nat) : Int))), (32, .v (.int .i64 t5))]) (fun ((t5, l6) : Int × (List Int)) => [(30, .arr 3 1 ([m1.Depth, m1.Node, m1.What, m1.Err].map cInt_i64)), (4, .box 45 [.nloc 4 0, .ownb 5040]), (5040, .arr 5 1 (l6.map cInt_u8)), (1, .box 29 [.v (.int .i64 m1.Kind), .v (.int .i64 m1.Depth), .v (.int .i64 m1.Node), .v (.int .i64 m1.What), .v (.int .i64 m1.Err), .v (.string ⟨⟨m1.Name⟩⟩), .v (.bool m1.Had), .v (.bool m1.Has), .v (.string ⟨⟨m1.Old⟩⟩), .v (.string ⟨⟨m1.New⟩⟩), .v (.int .i64 m1.From), .v (.int .i64 m1.To), .v (.bool m1.On)])]) fu (0, r4.2.2) (fun _ => rfl) ⟨rfl, rfl, rfl, rfl, rfl, trivial⟩ ⟨rfl, rfl, rfl, rfl, trivial⟩ rfl ?_
      rintro k1 ⟨t5, l6⟩
      refine pw_seq ?_
      refine pw_region ?_
      refine po_evs (T := tab) 1 rfl rfl ?_
      refine po_nil ?_
      refine pn_seq ?_
      refine pw_seq ?_
      refine pw_cnd rfl ?_ ?_
      · refine pw_skip ?_
        refine pn_seq ?_
        refine pw_seq ?_
        refine pw_block ?_
        refine pw_seq ?_
        refine pw_region ?_
        refine po_idx_own (T := tab) cInt_i64 [m1.Depth, m1.Node, m1.What, m1.Err] rfl rfl rfl rfl rfl rfl rfl rfl fun y7 hy7 => ?_
        refine po_load_ela (T := tab) cInt_i64 [m1.Depth, m1.Node, m1.What, m1.Err] y7 (idx_at hy7) rfl rfl rfl rfl rfl rfl rfl rfl ?_
        refine po_evs (T := tab) 1 rfl rfl ?_
        refine po_nil ?_
        refine pn_seq ?_
        refine pw_region ?_
        refine po_evs (T := tab) 1 rfl rfl ?_
        refine po_turn [5040] (enc := fun (r8 : (List Int)) => .tup []) (Sr := fun (r8 : (List Int)) => [(4, .box 45 [.nloc 4 0, .ownb 5040]), (5040, .arr 5 1 (r8.map cInt_u8))]) (first := []) (cap := []) (qs := [.loc 4 0, .v (.int .i64 y7)]) (Sc := [(4, .box 45 [.nloc 4 0, .ownb 5040]), (5040, .arr 5 1 (l6.map cInt_u8))]) (N0 := [4]) (NR := [4, 5040]) (fun r8 hr8 => fc_ren [(900000, 4), (900001, 5040)] [900000, 900001] (Tale_writer_number_ok fu y7 l6 _ hr8) rfl rfl rfl rfl rfl rfl) ⟨rfl, rfl, trivial⟩ (fun _ => rfl) rfl rfl rfl rfl rfl rfl rfl (fun _ => rfl) (fun _ => rfl) rfl rfl rfl ⟨⟨_, rfl, .rfl⟩, ⟨_, rfl, .rfl⟩, trivial⟩ call17 rfl rfl fun r8 hr8 => ?_
        refine po_nil ?_
        refine pn_block ?_
        refine pn_seq ?_
        refine pw_region ?_
        refine po_arith' (T := tab) rfl rfl rfl rfl fun i9 hi9 => ?_
        refine po_evs (T := tab) 1 rfl rfl ?_
        refine po_nil ?_
        exact pn_iter' (i9, r8) ⟨rfl, rfl, rfl, rfl, rfl, trivial⟩ ⟨rfl, rfl, rfl, rfl, trivial⟩ rfl
      · refine pw_exit rfl ?_
        refine pn_seq ?_
        refine pw_seq ?_
        refine pw_seq ?_
        refine pw_draw mixed (by kernel_rfl) ?_
        refine pd_evs (T := tab) 2 rfl rfl ?_
        refine pd_call (enc := fun (r10 : Mark) => .agg (cMark r10)) (qs := [.agg (cMark m1)]) (Tale_bare_ok fu m1) rfl rfl ⟨⟨_, rfl, .rfl⟩, trivial⟩ (fun _ => rfl) call18 rfl rfl fun r10 hr10 => ?_
        refine pd_ne eqf_29 rfl rfl rfl rfl rfl rfl rfl ?_
        refine pd_nil ?_
        refine pn_seq ?_
        refine pw_cnd rfl ?_ ?_
        · refine pw_seq ?_
          refine pw_region ?_
          refine po_evs (T := tab) 2 rfl rfl ?_
          refine po_turn [5040] (enc := fun (r11 : (List Int)) => .tup []) (Sr := fun (r11 : (List Int)) => [(4, .box 45 [.nloc 4 0, .ownb 5040]), (5040, .arr 5 1 (r11.map cInt_u8))]) (first := []) (cap := []) (qs := [.loc 4 0, .v (.string ⟨⟨m1.Name⟩⟩)]) (Sc := [(4, .box 45 [.nloc 4 0, .ownb 5040]), (5040, .arr 5 1 (l6.map cInt_u8))]) (N0 := [4]) (NR := [4, 5040]) (fun r11 hr11 => fc_ren [(900000, 4), (900001, 5040)] [900000, 900001] (Tale_writer_text_ok fu m1.Name l6 _ hr11) rfl rfl rfl rfl rfl rfl) ⟨rfl, rfl, trivial⟩ (fun _ => rfl) rfl rfl rfl rfl rfl rfl rfl (fun _ => rfl) (fun _ => rfl) rfl rfl rfl ⟨⟨_, rfl, .rfl⟩, ⟨_, rfl, .rfl⟩, trivial⟩ call19 rfl rfl fun r11 hr11 => ?_
          refine po_nil ?_
          refine pn_seq ?_
          refine pw_seq ?_
          refine pw_region ?_
          refine po_evs (T := tab) 2 rfl rfl ?_
          refine po_turn [5040] (enc := fun (r12 : (List Int)) => .tup []) (Sr := fun (r12 : (List Int)) => [(4, .box 45 [.nloc 4 0, .ownb 5040]), (5040, .arr 5 1 (r12.map cInt_u8))]) (first := []) (cap := []) (qs := [.loc 4 0, .v (.bool m1.Had)]) (Sc := [(4, .box 45 [.nloc 4 0, .ownb 5040]), (5040, .arr 5 1 (r11.map cInt_u8))]) (N0 := [4]) (NR := [4, 5040]) (fun r12 hr12 => fc_ren [(900000, 4), (900001, 5040)] [900000, 900001] (Tale_writer_truth_ok fu m1.Had r11 _ hr12) rfl rfl rfl rfl rfl rfl) ⟨rfl, rfl, trivial⟩ (fun _ => rfl) rfl rfl rfl rfl rfl rfl rfl (fun _ => rfl) (fun _ => rfl) rfl rfl rfl ⟨⟨_, rfl, .rfl⟩, ⟨_, rfl, .rfl⟩, trivial⟩ call20 rfl rfl fun r12 hr12 => ?_
          refine po_nil ?_
          refine pn_seq ?_
          refine pw_seq ?_
          refine pw_region ?_
          refine po_evs (T := tab) 2 rfl rfl ?_
          refine po_turn [5040] (enc := fun (r13 : (List Int)) => .tup []) (Sr := fun (r13 : (List Int)) => [(4, .box 45 [.nloc 4 0, .ownb 5040]), (5040, .arr 5 1 (r13.map cInt_u8))]) (first := []) (cap := []) (qs := [.loc 4 0, .v (.bool m1.Has)]) (Sc := [(4, .box 45 [.nloc 4 0, .ownb 5040]), (5040, .arr 5 1 (r12.map cInt_u8))]) (N0 := [4]) (NR := [4, 5040]) (fun r13 hr13 => fc_ren [(900000, 4), (900001, 5040)] [900000, 900001] (Tale_writer_truth_ok fu m1.Has r12 _ hr13) rfl rfl rfl rfl rfl rfl) ⟨rfl, rfl, trivial⟩ (fun _ => rfl) rfl rfl rfl rfl rfl rfl rfl (fun _ => rfl) (fun _ => rfl) rfl rfl rfl ⟨⟨_, rfl, .rfl⟩, ⟨_, rfl, .rfl⟩, trivial⟩ call20 rfl rfl fun r13 hr13 => ?_
          refine po_nil ?_
          refine pn_seq ?_
          refine pw_seq ?_
          refine pw_region ?_
          refine po_evs (T := tab) 2 rfl rfl ?_
          refine po_turn [5040] (enc := fun (r14 : (List Int)) => .tup []) (Sr := fun (r14 : (List Int)) => [(4, .box 45 [.nloc 4 0, .ownb 5040]), (5040, .arr 5 1 (r14.map cInt_u8))]) (first := []) (cap := []) (qs := [.loc 4 0, .v (.string ⟨⟨m1.Old⟩⟩)]) (Sc := [(4, .box 45 [.nloc 4 0, .ownb 5040]), (5040, .arr 5 1 (r13.map cInt_u8))]) (N0 := [4]) (NR := [4, 5040]) (fun r14 hr14 => fc_ren [(900000, 4), (900001, 5040)] [900000, 900001] (Tale_writer_text_ok fu m1.Old r13 _ hr14) rfl rfl rfl rfl rfl rfl) ⟨rfl, rfl, trivial⟩ (fun _ => rfl) rfl rfl rfl rfl rfl rfl rfl (fun _ => rfl) (fun _ => rfl) rfl rfl rfl ⟨⟨_, rfl, .rfl⟩, ⟨_, rfl, .rfl⟩, trivial⟩ call19 rfl rfl fun r14 hr14 => ?_
          refine po_nil ?_
          refine pn_seq ?_
          refine pw_seq ?_
          refine pw_region ?_
          refine po_evs (T := tab) 2 rfl rfl ?_
          refine po_turn [5040] (enc := fun (r15 : (List Int)) => .tup []) (Sr := fun (r15 : (List Int)) => [(4, .box 45 [.nloc 4 0, .ownb 5040]), (5040, .arr 5 1 (r15.map cInt_u8))]) (first := []) (cap := []) (qs := [.loc 4 0, .v (.string ⟨⟨m1.New⟩⟩)]) (Sc := [(4, .box 45 [.nloc 4 0, .ownb 5040]), (5040, .arr 5 1 (r14.map cInt_u8))]) (N0 := [4]) (NR := [4, 5040]) (fun r15 hr15 => fc_ren [(900000, 4), (900001, 5040)] [900000, 900001] (Tale_writer_text_ok fu m1.New r14 _ hr15) rfl rfl rfl rfl rfl rfl) ⟨rfl, rfl, trivial⟩ (fun _ => rfl) rfl rfl rfl rfl rfl rfl rfl (fun _ => rfl) (fun _ => rfl) rfl rfl rfl ⟨⟨_, rfl, .rfl⟩, ⟨_, rfl, .rfl⟩, trivial⟩ call19 rfl rfl fun r15 hr15 => ?_
          refine po_nil ?_
          refine pn_seq ?_
          refine pw_seq ?_
          refine pw_region ?_
          refine po_evs (T := tab) 2 rfl rfl ?_
          refine po_turn [5040] (enc := fun (r16 : (List Int)) => .tup []) (Sr := fun (r16 : (List Int)) => [(4, .box 45 [.nloc 4 0, .ownb 5040]), (5040, .arr 5 1 (r16.map cInt_u8))]) (first := []) (cap := []) (qs := [.loc 4 0, .v (.int .i64 m1.From)]) (Sc := [(4, .box 45 [.nloc 4 0, .ownb 5040]), (5040, .arr 5 1 (r15.map cInt_u8))]) (N0 := [4]) (NR := [4, 5040]) (fun r16 hr16 => fc_ren [(900000, 4), (900001, 5040)] [900000, 900001] (Tale_writer_number_ok fu m1.From r15 _ hr16) rfl rfl rfl rfl rfl rfl) ⟨rfl, rfl, trivial⟩ (fun _ => rfl) rfl rfl rfl rfl rfl rfl rfl (fun _ => rfl) (fun _ => rfl) rfl rfl rfl ⟨⟨_, rfl, .rfl⟩, ⟨_, rfl, .rfl⟩, trivial⟩ call17 rfl rfl fun r16 hr16 => ?_
          refine po_nil ?_
          refine pn_seq ?_
          refine pw_seq ?_
          refine pw_region ?_
          refine po_evs (T := tab) 2 rfl rfl ?_
          refine po_turn [5040] (enc := fun (r17 : (List Int)) => .tup []) (Sr := fun (r17 : (List Int)) => [(4, .box 45 [.nloc 4 0, .ownb 5040]), (5040, .arr 5 1 (r17.map cInt_u8))]) (first := []) (cap := []) (qs := [.loc 4 0, .v (.int .i64 m1.To)]) (Sc := [(4, .box 45 [.nloc 4 0, .ownb 5040]), (5040, .arr 5 1 (r16.map cInt_u8))]) (N0 := [4]) (NR := [4, 5040]) (fun r17 hr17 => fc_ren [(900000, 4), (900001, 5040)] [900000, 900001] (Tale_writer_number_ok fu m1.To r16 _ hr17) rfl rfl rfl rfl rfl rfl) ⟨rfl, rfl, trivial⟩ (fun _ => rfl) rfl rfl rfl rfl rfl rfl rfl (fun _ => rfl) (fun _ => rfl) rfl rfl rfl ⟨⟨_, rfl, .rfl⟩, ⟨_, rfl, .rfl⟩, trivial⟩ call17 rfl rfl fun r17 hr17 => ?_
          refine po_nil ?_
          refine pn_seq ?_
          refine pw_region ?_
          refine po_evs (T := tab) 2 rfl rfl ?_
          refine po_turn [5040] (enc := fun (r18 : (List Int)) => .tup []) (Sr := fun (r18 : (List Int)) => [(4, .box 45 [.nloc 4 0, .ownb 5040]), (5040, .arr 5 1 (r18.map cInt_u8))]) (first := []) (cap := []) (qs := [.loc 4 0, .v (.bool m1.On)]) (Sc := [(4, .box 45 [.nloc 4 0, .ownb 5040]), (5040, .arr 5 1 (r17.map cInt_u8))]) (N0 := [4]) (NR := [4, 5040]) (fun r18 hr18 => fc_ren [(900000, 4), (900001, 5040)] [900000, 900001] (Tale_writer_truth_ok fu m1.On r17 _ hr18) rfl rfl rfl rfl rfl rfl) ⟨rfl, rfl, trivial⟩ (fun _ => rfl) rfl rfl rfl rfl rfl rfl rfl (fun _ => rfl) (fun _ => rfl) rfl rfl rfl ⟨⟨_, rfl, .rfl⟩, ⟨_, rfl, .rfl⟩, trivial⟩ call20 rfl rfl fun r18 hr18 => ?_
          refine po_nil ?_
          refine pn_seq ?_
          refine pw_seq ?_
          refine pw_region ?_
          refine po_evs (T := tab) 1 rfl rfl ?_
          refine po_turn [] (enc := fun (r19 : Bs) => .v (.string ⟨⟨r19⟩⟩)) (Sr := fun (r19 : Bs) => [(4, .box 45 [.nloc 4 0, .junk])]) (first := []) (cap := []) (qs := [.loc 4 0]) (Sc := [(4, .box 45 [.nloc 4 0, .ownb 5040]), (5040, .arr 5 1 (r18.map cInt_u8))]) (N0 := [4, 5040]) (NR := [4]) (fun r19 hr19 => fc_ren [(900000, 4), (900001, 5040)] [900000, 900001] (Strings_Builder_String_i2_ok fu r18 _ hr19) rfl rfl rfl rfl rfl rfl) ⟨rfl, rfl, trivial⟩ (fun _ => rfl) rfl rfl rfl rfl rfl rfl rfl (fun _ => rfl) (fun _ => rfl) rfl rfl rfl ⟨⟨_, rfl, .rfl⟩, trivial⟩ call21 rfl rfl fun r19 hr19 => ?_
          refine po_evs (T := tab) 2 rfl rfl ?_
          refine po_nil ?_
          refine pn_seq ?_
          exact pw_retN (T := tab) rfl rfl rfl ⟨rfl, rfl⟩ trivial rfl
        · refine pw_skip ?_
          refine pn_seq ?_
          refine pw_seq ?_
          refine pw_region ?_
          refine po_evs (T := tab) 1 rfl rfl ?_
          refine po_turn [] (enc := fun (r20 : Bs) => .v (.string ⟨⟨r20⟩⟩)) (Sr := fun (r20 : Bs) => [(4, .box 45 [.nloc 4 0, .junk])]) (first := []) (cap := []) (qs := [.loc 4 0]) (Sc := [(4, .box 45 [.nloc 4 0, .ownb 5040]), (5040, .arr 5 1 (l6.map cInt_u8))]) (N0 := [4, 5040]) (NR := [4]) (fun r20 hr20 => fc_ren [(900000, 4), (900001, 5040)] [900000, 900001] (Strings_Builder_String_i2_ok fu l6 _ hr20) rfl rfl rfl rfl rfl rfl) ⟨rfl, rfl, trivial⟩ (fun _ => rfl) rfl rfl rfl rfl rfl rfl rfl (fun _ => rfl) (fun _ => rfl) rfl rfl rfl ⟨⟨_, rfl, .rfl⟩, trivial⟩ call21 rfl rfl fun r20 hr20 => ?_
          refine po_evs (T := tab) 2 rfl rfl ?_
          refine po_nil ?_
          refine pn_seq ?_
          exact pw_retN (T := tab) rfl rfl rfl ⟨rfl, rfl⟩ trivial rfl

def Tale_line_j1 (fu : Nat) (s1 : Bs) (r4 : Int) (r5 : (Int × Tale_reader)) (r6 : (Int × Tale_reader)) (r7 : (Int × Tale_reader)) (r8 : (Int × Tale_reader)) (x_ : Bs × Bool × Bs × Bool × Bool × Bs × Bs × Int × Int × Bool) : Option (Mark × Bool) := match x_ with
  | (c17, c18, c19, c20, c21, c22, c23, c24, c25, c26) => bnd (Tale_One_m fu (⟨r4, r5.1, r6.1, r7.1, r8.1, c19, c20, c21, c22, c23, c24, c25, c26⟩ : Mark)) fun r27 => cnd (!c18) (cnd (r27.2 == 0) (some ((⟨r4, r5.1, r6.1, r7.1, r8.1, c19, c20, c21, c22, c23, c24, c25, c26⟩ : Mark), (r27.1 == s1))) (some ((⟨r4, r5.1, r6.1, r7.1, r8.1, c19, c20, c21, c22, c23, c24, c25, c26⟩ : Mark), false))) (some ((⟨r4, r5.1, r6.1, r7.1, r8.1, c19, c20, c21, c22, c23, c24, c25, c26⟩ : Mark), false))

def Tale_line_m (fu : Nat) (s1 : Bs) : Option (Mark × Bool) := bnd (Tale_words_m fu) fun r2 => bnd (Tale_reader_word_m fu (⟨s1, false⟩ : Tale_reader)) fun r3 => bnd (Slices_Index_string_m fu r2 r3.1) fun r4 => bnd (Tale_reader_number_m fu r3.2) fun r5 => bnd (Tale_reader_number_m fu r5.2) fun r6 => bnd (Tale_reader_number_m fu r6.2) fun r7 => bnd (Tale_reader_number_m fu r7.2) fun r8 => cnd (!(r8.2.s == ([] : Bs))) (bnd (Tale_reader_text_m fu r8.2) fun r9 => bnd (Tale_reader_number_m fu r9.2) fun r10 => bnd (Tale_reader_number_m fu r10.2) fun r11 => bnd (Tale_reader_text_m fu r11.2) fun r12 => bnd (Tale_reader_text_m fu r12.2) fun r13 => bnd (Tale_reader_number_m fu r13.2) fun r14 => bnd (Tale_reader_number_m fu r14.2) fun r15 => bnd (Tale_reader_number_m fu r15.2) fun r16 => (Tale_line_j1 fu s1 r4 r5 r6 r7 r8) (r16.2.s, r16.2.bad, r9.1, (r10.1 == 1), (r11.1 == 1), r12.1, r13.1, r14.1, r15.1, (r16.1 == 1))) ((Tale_line_j1 fu s1 r4 r5 r6 r7 r8) (r8.2.s, r8.2.bad, [], false, false, [], [], 0, 0, false))

set_option maxHeartbeats 10000000 in
set_option maxRecDepth 100000 in
theorem Tale_line_ok (fu : Nat) (s1 : Bs) : ∀ r, Tale_line_m fu s1 = some r → DC laidL Tryd.prog 29 [.v (.string ⟨⟨s1⟩⟩)] (.tup [.agg (cMark r.1), .v (.bool r.2)]) := by
  intro r hr
  refine fc_intro (args := [.v (.string ⟨⟨s1⟩⟩)]) (S := []) (N0 := []) (post := fun r p S => p = .tup [.agg (cMark r.1), .v (.bool r.2)] ∧ S = []) Tryd.func29 rfl rfl hr fun w0 X X0 σ0 _ => ?_
  refine pw_seq ?_
  refine pw_region ?_
  refine po_alloc (T := tab) 2 rfl rfl rfl rfl rfl rfl rfl rfl rfl ?_
  refine po_evs (T := tab) 1 rfl rfl ?_
  refine po_nil ?_
  refine pn_seq ?_
  refine pw_seq ?_
  refine pw_region ?_
  refine po_evs (T := tab) 1 rfl rfl ?_
  refine po_build (T := tab) rfl rfl rfl rfl rfl rfl rfl ?_
  refine po_box  10 rfl rfl rfl rfl rfl rfl rfl rfl rfl rfl ?_
  refine po_evs (T := tab) 1 rfl rfl ?_
  refine po_nil ?_
  refine pn_seq ?_
  refine pw_seq ?_
  refine pw_region ?_
  refine po_call (enc := fun (r2 : (List Bs)) => .sl 1 false (r2.map cStr)) (qs := []) (Tale_words_ok fu) rfl rfl trivial (fun _ => rfl) call16 rfl rfl fun r2 hr2 => ?_
  refine po_evs (T := tab) 1 rfl rfl ?_
  refine po_turn [] (enc := fun (r3 : (Bs × Tale_reader)) => .v (.string ⟨⟨r3.1⟩⟩)) (Sr := fun (r3 : (Bs × Tale_reader)) => [(10, .box 81 [.v (.string ⟨⟨r3.2.s⟩⟩), .v (.bool r3.2.bad)])]) (first := []) (cap := []) (qs := [.loc 10 0]) (Sc := [(10, .box 81 [.v (.string ⟨⟨s1⟩⟩), .v (.bool false)])]) (N0 := [10]) (NR := [10]) (fun r3 hr3 => fc_ren [(900000, 10)] [900000] (Tale_reader_word_ok fu (⟨s1, false⟩ : Tale_reader) _ hr3) rfl rfl rfl rfl rfl rfl) ⟨rfl, trivial⟩ (fun _ => rfl) rfl rfl rfl rfl rfl rfl rfl (fun _ => rfl) (fun _ => rfl) rfl rfl rfl ⟨⟨_, rfl, .rfl⟩, trivial⟩ call39 rfl rfl fun r3 hr3 => ?_
  refine po_call (enc := fun (r4 : Int) => .v (.int .i64 r4)) (qs := [.sl 1 false (r2.map cStr), .v (.string ⟨⟨r3.1⟩⟩)]) (Slices_Index_string_ok fu r2 r3.1) rfl rfl ⟨⟨_, rfl, .rfl⟩, ⟨_, rfl, .rfl⟩, trivial⟩ (fun _ => rfl) call38 rfl rfl fun r4 hr4 => ?_
  refine po_build (T := tab) rfl rfl rfl rfl rfl rfl rfl ?_
  refine po_alloc (T := tab) 5 rfl rfl rfl rfl rfl rfl rfl rfl rfl ?_
  refine po_store (T := tab) rfl rfl rfl rfl rfl rfl rfl rfl rfl rfl rfl rfl ?_
  refine po_nil ?_
  refine pn_seq ?_
  refine pw_seq ?_
  refine pw_region ?_
  refine po_evs (T := tab) 1 rfl rfl ?_
  refine po_turn [] (enc := fun (r5 : (Int × Tale_reader)) => .v (.int .i64 r5.1)) (Sr := fun (r5 : (Int × Tale_reader)) => [(10, .box 81 [.v (.string ⟨⟨r5.2.s⟩⟩), .v (.bool r5.2.bad)])]) (first := []) (cap := []) (qs := [.loc 10 0]) (Sc := [(10, .box 81 [.v (.string ⟨⟨r3.2.s⟩⟩), .v (.bool r3.2.bad)])]) (N0 := [10]) (NR := [10]) (fun r5 hr5 => fc_ren [(900000, 10)] [900000] (Tale_reader_number_ok fu r3.2 _ hr5) rfl rfl rfl rfl rfl rfl) ⟨rfl, trivial⟩ (fun _ => rfl) rfl rfl rfl rfl rfl rfl rfl (fun _ => rfl) (fun _ => rfl) rfl rfl rfl ⟨⟨_, rfl, .rfl⟩, trivial⟩ call40 rfl rfl fun r5 hr5 => ?_
  refine po_evs (T := tab) 1 rfl rfl ?_
  refine po_turn [] (enc := fun (r6 : (Int × Tale_reader)) => .v (.int .i64 r6.1)) (Sr := fun (r6 : (Int × Tale_reader)) => [(10, .box 81 [.v (.string ⟨⟨r6.2.s⟩⟩), .v (.bool r6.2.bad)])]) (first := []) (cap := []) (qs := [.loc 10 0]) (Sc := [(10, .box 81 [.v (.string ⟨⟨r5.2.s⟩⟩), .v (.bool r5.2.bad)])]) (N0 := [10]) (NR := [10]) (fun r6 hr6 => fc_ren [(900000, 10)] [900000] (Tale_reader_number_ok fu r5.2 _ hr6) rfl rfl rfl rfl rfl rfl) ⟨rfl, trivial⟩ (fun _ => rfl) rfl rfl rfl rfl rfl rfl rfl (fun _ => rfl) (fun _ => rfl) rfl rfl rfl ⟨⟨_, rfl, .rfl⟩, trivial⟩ call40 rfl rfl fun r6 hr6 => ?_
  refine po_evs (T := tab) 1 rfl rfl ?_
  refine po_turn [] (enc := fun (r7 : (Int × Tale_reader)) => .v (.int .i64 r7.1)) (Sr := fun (r7 : (Int × Tale_reader)) => [(10, .box 81 [.v (.string ⟨⟨r7.2.s⟩⟩), .v (.bool r7.2.bad)])]) (first := []) (cap := []) (qs := [.loc 10 0]) (Sc := [(10, .box 81 [.v (.string ⟨⟨r6.2.s⟩⟩), .v (.bool r6.2.bad)])]) (N0 := [10]) (NR := [10]) (fun r7 hr7 => fc_ren [(900000, 10)] [900000] (Tale_reader_number_ok fu r6.2 _ hr7) rfl rfl rfl rfl rfl rfl) ⟨rfl, trivial⟩ (fun _ => rfl) rfl rfl rfl rfl rfl rfl rfl (fun _ => rfl) (fun _ => rfl) rfl rfl rfl ⟨⟨_, rfl, .rfl⟩, trivial⟩ call40 rfl rfl fun r7 hr7 => ?_
  refine po_evs (T := tab) 1 rfl rfl ?_
  refine po_store (T := tab) rfl rfl rfl rfl rfl rfl rfl rfl rfl rfl rfl rfl ?_
  refine po_evs (T := tab) 1 rfl rfl ?_
  refine po_store (T := tab) rfl rfl rfl rfl rfl rfl rfl rfl rfl rfl rfl rfl ?_
  refine po_evs (T := tab) 1 rfl rfl ?_
  refine po_store (T := tab) rfl rfl rfl rfl rfl rfl rfl rfl rfl rfl rfl rfl ?_
  refine po_nil ?_
  refine pn_seq ?_
  refine pw_seq ?_
  refine pw_region ?_
  refine po_evs (T := tab) 1 rfl rfl ?_
  refine po_turn [] (enc := fun (r8 : (Int × Tale_reader)) => .v (.int .i64 r8.1)) (Sr := fun (r8 : (Int × Tale_reader)) => [(10, .box 81 [.v (.string ⟨⟨r8.2.s⟩⟩), .v (.bool r8.2.bad)])]) (first := []) (cap := []) (qs := [.loc 10 0]) (Sc := [(10, .box 81 [.v (.string ⟨⟨r7.2.s⟩⟩), .v (.bool r7.2.bad)])]) (N0 := [10]) (NR := [10]) (fun r8 hr8 => fc_ren [(900000, 10)] [900000] (Tale_reader_number_ok fu r7.2 _ hr8) rfl rfl rfl rfl rfl rfl) ⟨rfl, trivial⟩ (fun _ => rfl) rfl rfl rfl rfl rfl rfl rfl (fun _ => rfl) (fun _ => rfl) rfl rfl rfl ⟨⟨_, rfl, .rfl⟩, trivial⟩ call40 rfl rfl fun r8 hr8 => ?_
  refine po_evs (T := tab) 1 rfl rfl ?_
  refine po_store (T := tab) rfl rfl rfl rfl rfl rfl rfl rfl rfl rfl rfl rfl ?_
  refine po_nil ?_
  refine pn_seq ?_
  refine pw_seq ?_
  refine pw_seq ?_
  refine pw_region ?_
  refine po_evs (T := tab) 5 rfl rfl ?_
  refine po_nil ?_
  refine pn_seq ?_
  refine pw_joinK (Tale_line_j1 fu s1 r4 r5 r6 r7 r8) (fun ((c17, c18, c19, c20, c21, c22, c23, c24, c25, c26) : Bs × Bool × Bs × Bool × Bool × Bs × Bs × Int × Int × Bool) => [(0, .v (.string ⟨⟨s1⟩⟩)), (2, .loc 2 0), (4, .loc 10 0), (5, .loc 5 0)]) (fun ((c17, c18, c19, c20, c21, c22, c23, c24, c25, c26) : Bs × Bool × Bs × Bool × Bool × Bs × Bs × Int × Int × Bool) => [(10, .box 81 [.v (.string ⟨⟨c17⟩⟩), .v (.bool c18)]), (5, .box 29 [.v (.int .i64 r4), .v (.int .i64 r5.1), .v (.int .i64 r6.1), .v (.int .i64 r7.1), .v (.int .i64 r8.1), .v (.string ⟨⟨c19⟩⟩), .v (.bool c20), .v (.bool c21), .v (.string ⟨⟨c22⟩⟩), .v (.string ⟨⟨c23⟩⟩), .v (.int .i64 c24), .v (.int .i64 c25), .v (.bool c26)]), (2, .box 29 [.v (.int .i64 0), .v (.int .i64 0), .v (.int .i64 0), .v (.int .i64 0), .v (.int .i64 0), .v (.string ⟨⟨[]⟩⟩), .v (.bool false), .v (.bool false), .v (.string ⟨⟨[]⟩⟩), .v (.string ⟨⟨[]⟩⟩), .v (.int .i64 0), .v (.int .i64 0), .v (.bool false)])]) ?_ fun hj1 => ?_
  · rintro ⟨c17, c18, c19, c20, c21, c22, c23, c24, c25, c26⟩
    refine pn_seq ?_
    refine pw_seq ?_
    refine pw_region ?_
    refine po_evs (T := tab) 1 rfl rfl ?_
    refine po_call (enc := fun (r27 : (Bs × Int)) => .tup [.v (.string ⟨⟨r27.1⟩⟩), .v (.int .i64 r27.2)]) (qs := [.agg (cMark (⟨r4, r5.1, r6.1, r7.1, r8.1, c19, c20, c21, c22, c23, c24, c25, c26⟩ : Mark))]) (Tale_One_ok fu (⟨r4, r5.1, r6.1, r7.1, r8.1, c19, c20, c21, c22, c23, c24, c25, c26⟩ : Mark)) rfl rfl ⟨⟨_, rfl, .rfl⟩, trivial⟩ (fun _ => rfl) call9 rfl rfl fun r27 hr27 => ?_
    refine po_evs (T := tab) 5 rfl rfl ?_
    refine po_nil ?_
    refine pn_seq ?_
    refine pw_seq ?_
    refine pw_sub' (E' := [(0, .v (.string ⟨⟨s1⟩⟩)), (2, .loc 2 0), (4, .loc 10 0), (5, .loc 5 0), (6, .v (.string ⟨⟨r27.1⟩⟩)), (7, .v (.int .i64 r27.2))]) (S' := [(10, .box 81 [.v (.string ⟨⟨c17⟩⟩), .v (.bool c18)]), (5, .box 29 [.v (.int .i64 r4), .v (.int .i64 r5.1), .v (.int .i64 r6.1), .v (.int .i64 r7.1), .v (.int .i64 r8.1), .v (.string ⟨⟨c19⟩⟩), .v (.bool c20), .v (.bool c21), .v (.string ⟨⟨c22⟩⟩), .v (.string ⟨⟨c23⟩⟩), .v (.int .i64 c24), .v (.int .i64 c25), .v (.bool c26)]), (2, .box 29 [.v (.int .i64 0), .v (.int .i64 0), .v (.int .i64 0), .v (.int .i64 0), .v (.int .i64 0), .v (.string ⟨⟨[]⟩⟩), .v (.bool false), .v (.bool false), .v (.string ⟨⟨[]⟩⟩), .v (.string ⟨⟨[]⟩⟩), .v (.int .i64 0), .v (.int .i64 0), .v (.bool false)])]) ?_ ⟨rfl, rfl, rfl, rfl, rfl, rfl, trivial⟩ ⟨rfl, rfl, rfl, trivial⟩ rfl
    refine pw_drawV [0, 0, 2, 6, 14, 30, 62, 126, 254, 510, 1022, 2046, 2046, 8190, 16382, 2047, 65535] mixed (by kernel_rfl) (by kernel_rfl) rfl rfl ?_
    refine pdv_step0 [10, 11] [130] [] [5] [5] [(65, .agg [.v (.int .i64 r4), .v (.int .i64 r5.1), .v (.int .i64 r6.1), .v (.int .i64 r7.1), .v (.int .i64 r8.1), .v (.string ⟨⟨c19⟩⟩), .v (.bool c20), .v (.bool c21), .v (.string ⟨⟨c22⟩⟩), .v (.string ⟨⟨c23⟩⟩), .v (.int .i64 c24), .v (.int .i64 c25), .v (.bool c26)])] [(5, .box 29 [.v (.int .i64 r4), .v (.int .i64 r5.1), .v (.int .i64 r6.1), .v (.int .i64 r7.1), .v (.int .i64 r8.1), .v (.string ⟨⟨c19⟩⟩), .v (.bool c20), .v (.bool c21), .v (.string ⟨⟨c22⟩⟩), .v (.string ⟨⟨c23⟩⟩), .v (.int .i64 c24), .v (.int .i64 c25), .v (.bool c26)])] rfl rfl rfl rfl (by kernel_rfl) (by kernel_rfl) (by kernel_rfl) ⟨rfl, trivial⟩ (fun w0 X X0 σ0 _ => by refine po_evs (T := tab) 1 rfl rfl ?_; refine po_nil ?_; exact pn_end0 ⟨rfl, trivial⟩ ⟨rfl, trivial⟩ rfl) ?_
    refine pdv_step0 [8] [132] [] [10] [] [(66, .loc 10 0)] [] rfl rfl rfl rfl (by kernel_rfl) (by kernel_rfl) (by kernel_rfl) trivial (fun w0 X X0 σ0 _ => by refine po_evs (T := tab) 1 rfl rfl ?_; refine po_nil ?_; exact pn_end0 ⟨rfl, trivial⟩ trivial rfl) ?_
    refine pdv_step0 [132] [134] [] [10] [] [(67, .loc 10 0)] [] rfl rfl rfl rfl (by kernel_rfl) (by kernel_rfl) (by kernel_rfl) trivial (fun w0 X X0 σ0 _ => by refine po_evs (T := tab) 1 rfl rfl ?_; refine po_nil ?_; exact pn_end0 ⟨rfl, trivial⟩ trivial rfl) ?_
    refine pdv_step0 [134] [136] [] [10] [] [(68, .loc 10 1)] [] rfl rfl rfl rfl (by kernel_rfl) (by kernel_rfl) (by kernel_rfl) trivial (fun w0 X X0 σ0 _ => by refine po_evs (T := tab) 1 rfl rfl ?_; refine po_nil ?_; exact pn_end0 ⟨rfl, trivial⟩ trivial rfl) ?_
    refine pdv_step0 [21, 136] [138] [] [10] [10] [(69, .v (.bool c18))] [(10, .box 81 [.v (.string ⟨⟨c17⟩⟩), .v (.bool c18)])] rfl rfl rfl rfl (by kernel_rfl) (by kernel_rfl) (by kernel_rfl) ⟨rfl, trivial⟩ (fun w0 X X0 σ0 _ => by refine po_evs (T := tab) 1 rfl rfl ?_; refine po_nil ?_; exact pn_end0 ⟨rfl, trivial⟩ ⟨rfl, trivial⟩ rfl) ?_
    refine pdv_step0 [138] [140] [] [] [] [(70, .v (.bool (!c18)))] [] rfl rfl rfl rfl (by kernel_rfl) (by kernel_rfl) (by kernel_rfl) trivial (fun w0 X X0 σ0 _ => by refine po_evs (T := tab) 1 rfl rfl ?_; refine po_nil ?_; exact pn_end0 ⟨rfl, trivial⟩ trivial rfl) ?_
    refine pdv_step0 [140] [142] [] [] [] [(71, .v (.bool (!c18)))] [] rfl rfl rfl rfl (by kernel_rfl) (by kernel_rfl) (by kernel_rfl) trivial (fun w0 X X0 σ0 _ => by refine po_evs (T := tab) 1 rfl rfl ?_; refine po_nil ?_; exact pn_end0 ⟨rfl, trivial⟩ trivial rfl) ?_
    refine pdv_split (t := 71) rfl ?_ ?_
    · refine pdv_step0 [14, 142] [144] [] [] [] [(72, .v (.int .i64 r27.2))] [] rfl rfl rfl rfl (by kernel_rfl) (by kernel_rfl) (by kernel_rfl) trivial (fun w0 X X0 σ0 _ => by refine po_evs (T := tab) 1 rfl rfl ?_; refine po_nil ?_; exact pn_end0 ⟨rfl, trivial⟩ trivial rfl) ?_
      refine pdv_step0 [142, 144] [146] [] [] [] [(73, .v (.bool (r27.2 == 0)))] [] rfl rfl rfl rfl (by kernel_rfl) (by kernel_rfl) (by kernel_rfl) trivial (fun w0 X X0 σ0 _ => by refine po_evs (T := tab) 1 rfl rfl ?_; refine po_nil ?_; exact pn_end0 ⟨rfl, trivial⟩ trivial rfl) ?_
      refine pdv_step0 [142, 146] [148] [] [] [] [(74, .v (.bool (r27.2 == 0)))] [] rfl rfl rfl rfl (by kernel_rfl) (by kernel_rfl) (by kernel_rfl) trivial (fun w0 X X0 σ0 _ => by refine po_evs (T := tab) 1 rfl rfl ?_; refine po_nil ?_; exact pn_end0 ⟨rfl, trivial⟩ trivial rfl) ?_
      refine pdv_step0 [148] [150] [] [] [] [(75, .v (.bool (r27.2 == 0)))] [] rfl rfl rfl rfl (by kernel_rfl) (by kernel_rfl) (by kernel_rfl) trivial (fun w0 X X0 σ0 _ => by refine po_evs (T := tab) 1 rfl rfl ?_; refine po_nil ?_; exact pn_end0 ⟨rfl, trivial⟩ trivial rfl) ?_
      refine pdv_split (t := 75) rfl ?_ ?_
      · refine pdv_step0 [12, 150] [152] [] [] [] [(76, .v (.string ⟨⟨r27.1⟩⟩))] [] rfl rfl rfl rfl (by kernel_rfl) (by kernel_rfl) (by kernel_rfl) trivial (fun w0 X X0 σ0 _ => by refine po_evs (T := tab) 1 rfl rfl ?_; refine po_nil ?_; exact pn_end0 ⟨rfl, trivial⟩ trivial rfl) ?_
        refine pdv_step0 [0, 150] [154] [] [] [] [(77, .v (.string ⟨⟨s1⟩⟩))] [] rfl rfl rfl rfl (by kernel_rfl) (by kernel_rfl) (by kernel_rfl) trivial (fun w0 X X0 σ0 _ => by refine po_evs (T := tab) 1 rfl rfl ?_; refine po_nil ?_; exact pn_end0 ⟨rfl, trivial⟩ trivial rfl) ?_
        refine pdv_step0 [150, 152, 154] [156] [] [] [] [(78, .v (.bool (r27.1 == s1)))] [] rfl rfl rfl rfl (by kernel_rfl) (by kernel_rfl) (by kernel_rfl) trivial (fun w0 X X0 σ0 _ => by refine po_evs (T := tab) 1 rfl rfl ?_; refine po_nil ?_; exact pn_end0 ⟨rfl, trivial⟩ trivial rfl) ?_
        refine pdv_step0 [150, 156] [158] [] [] [] [(79, .v (.bool (r27.1 == s1)))] [] rfl rfl rfl rfl (by kernel_rfl) (by kernel_rfl) (by kernel_rfl) trivial (fun w0 X X0 σ0 _ => by refine po_evs (T := tab) 1 rfl rfl ?_; refine po_nil ?_; exact pn_end0 ⟨rfl, trivial⟩ trivial rfl) ?_
        refine pdv_step0 [4, 5, 130] [5] [] [2] [] [] [(2, .box 29 [.v (.int .i64 r4), .v (.int .i64 r5.1), .v (.int .i64 r6.1), .v (.int .i64 r7.1), .v (.int .i64 r8.1), .v (.string ⟨⟨c19⟩⟩), .v (.bool c20), .v (.bool c21), .v (.string ⟨⟨c22⟩⟩), .v (.string ⟨⟨c23⟩⟩), .v (.int .i64 c24), .v (.int .i64 c25), .v (.bool c26)])] rfl rfl rfl rfl (by kernel_rfl) (by kernel_rfl) (by kernel_rfl) trivial (fun w0 X X0 σ0 _ => by refine po_store (T := tab) rfl rfl rfl rfl rfl rfl rfl rfl rfl rfl rfl rfl ?_; refine po_nil ?_; exact pn_end0 trivial ⟨rfl, trivial⟩ rfl) ?_
        refine pdv_step0 [158] [6] [] [] [] [(3, .v (.bool (r27.1 == s1)))] [] rfl rfl rfl rfl (by kernel_rfl) (by kernel_rfl) (by kernel_rfl) trivial (fun w0 X X0 σ0 _ => by refine po_evs (T := tab) 1 rfl rfl ?_; refine po_nil ?_; exact pn_end0 ⟨rfl, trivial⟩ trivial rfl) ?_
        refine pdv_nil rfl rfl ?_
        refine pn_seq ?_
        exact pw_retN (T := tab) rfl rfl rfl ⟨rfl, rfl⟩ trivial rfl
      · refine pdv_step0 [150] [152] [] [] [] [(76, .tup [])] [] rfl rfl rfl rfl (by kernel_rfl) (by kernel_rfl) (by kernel_rfl) trivial (fun w0 X X0 σ0 _ => by refine po_evs (T := tab) 1 rfl rfl ?_; refine po_nil ?_; exact pn_end0 ⟨rfl, trivial⟩ trivial rfl) ?_
        refine pdv_step0 [150] [154] [] [] [] [(77, .tup [])] [] rfl rfl rfl rfl (by kernel_rfl) (by kernel_rfl) (by kernel_rfl) trivial (fun w0 X X0 σ0 _ => by refine po_evs (T := tab) 1 rfl rfl ?_; refine po_nil ?_; exact pn_end0 ⟨rfl, trivial⟩ trivial rfl) ?_
        refine pdv_step0 [150] [156] [] [] [] [(78, .tup [])] [] rfl rfl rfl rfl (by kernel_rfl) (by kernel_rfl) (by kernel_rfl) trivial (fun w0 X X0 σ0 _ => by refine po_evs (T := tab) 1 rfl rfl ?_; refine po_nil ?_; exact pn_end0 ⟨rfl, trivial⟩ trivial rfl) ?_
        refine pdv_step0 [150, 156] [158] [] [] [] [(79, .v (.bool false))] [] rfl rfl rfl rfl (by kernel_rfl) (by kernel_rfl) (by kernel_rfl) trivial (fun w0 X X0 σ0 _ => by refine po_evs (T := tab) 1 rfl rfl ?_; refine po_nil ?_; exact pn_end0 ⟨rfl, trivial⟩ trivial rfl) ?_
        refine pdv_step0 [4, 5, 130] [5] [] [2] [] [] [(2, .box 29 [.v (.int .i64 r4), .v (.int .i64 r5.1), .v (.int .i64 r6.1), .v (.int .i64 r7.1), .v (.int .i64 r8.1), .v (.string ⟨⟨c19⟩⟩), .v (.bool c20), .v (.bool c21), .v (.string ⟨⟨c22⟩⟩), .v (.string ⟨⟨c23⟩⟩), .v (.int .i64 c24), .v (.int .i64 c25), .v (.bool c26)])] rfl rfl rfl rfl (by kernel_rfl) (by kernel_rfl) (by kernel_rfl) trivial (fun w0 X X0 σ0 _ => by refine po_store (T := tab) rfl rfl rfl rfl rfl rfl rfl rfl rfl rfl rfl rfl ?_; refine po_nil ?_; exact pn_end0 trivial ⟨rfl, trivial⟩ rfl) ?_
        refine pdv_step0 [158] [6] [] [] [] [(3, .v (.bool false))] [] rfl rfl rfl rfl (by kernel_rfl) (by kernel_rfl) (by kernel_rfl) trivial (fun w0 X X0 σ0 _ => by refine po_evs (T := tab) 1 rfl rfl ?_; refine po_nil ?_; exact pn_end0 ⟨rfl, trivial⟩ trivial rfl) ?_
        refine pdv_nil rfl rfl ?_
        refine pn_seq ?_
        exact pw_retN (T := tab) rfl rfl rfl ⟨rfl, rfl⟩ trivial rfl
    · refine pdv_step0 [142] [144] [] [] [] [(72, .tup [])] [] rfl rfl rfl rfl (by kernel_rfl) (by kernel_rfl) (by kernel_rfl) trivial (fun w0 X X0 σ0 _ => by refine po_evs (T := tab) 1 rfl rfl ?_; refine po_nil ?_; exact pn_end0 ⟨rfl, trivial⟩ trivial rfl) ?_
      refine pdv_step0 [142] [146] [] [] [] [(73, .tup [])] [] rfl rfl rfl rfl (by kernel_rfl) (by kernel_rfl) (by kernel_rfl) trivial (fun w0 X X0 σ0 _ => by refine po_evs (T := tab) 1 rfl rfl ?_; refine po_nil ?_; exact pn_end0 ⟨rfl, trivial⟩ trivial rfl) ?_
      refine pdv_step0 [142, 146] [148] [] [] [] [(74, .v (.bool false))] [] rfl rfl rfl rfl (by kernel_rfl) (by kernel_rfl) (by kernel_rfl) trivial (fun w0 X X0 σ0 _ => by refine po_evs (T := tab) 1 rfl rfl ?_; refine po_nil ?_; exact pn_end0 ⟨rfl, trivial⟩ trivial rfl) ?_
      refine pdv_step0 [148] [150] [] [] [] [(75, .v (.bool false))] [] rfl rfl rfl rfl (by kernel_rfl) (by kernel_rfl) (by kernel_rfl) trivial (fun w0 X X0 σ0 _ => by refine po_evs (T := tab) 1 rfl rfl ?_; refine po_nil ?_; exact pn_end0 ⟨rfl, trivial⟩ trivial rfl) ?_
      refine pdv_step0 [150] [152] [] [] [] [(76, .tup [])] [] rfl rfl rfl rfl (by kernel_rfl) (by kernel_rfl) (by kernel_rfl) trivial (fun w0 X X0 σ0 _ => by refine po_evs (T := tab) 1 rfl rfl ?_; refine po_nil ?_; exact pn_end0 ⟨rfl, trivial⟩ trivial rfl) ?_
      refine pdv_step0 [150] [154] [] [] [] [(77, .tup [])] [] rfl rfl rfl rfl (by kernel_rfl) (by kernel_rfl) (by kernel_rfl) trivial (fun w0 X X0 σ0 _ => by refine po_evs (T := tab) 1 rfl rfl ?_; refine po_nil ?_; exact pn_end0 ⟨rfl, trivial⟩ trivial rfl) ?_
      refine pdv_step0 [150] [156] [] [] [] [(78, .tup [])] [] rfl rfl rfl rfl (by kernel_rfl) (by kernel_rfl) (by kernel_rfl) trivial (fun w0 X X0 σ0 _ => by refine po_evs (T := tab) 1 rfl rfl ?_; refine po_nil ?_; exact pn_end0 ⟨rfl, trivial⟩ trivial rfl) ?_
      refine pdv_step0 [150, 156] [158] [] [] [] [(79, .v (.bool false))] [] rfl rfl rfl rfl (by kernel_rfl) (by kernel_rfl) (by kernel_rfl) trivial (fun w0 X X0 σ0 _ => by refine po_evs (T := tab) 1 rfl rfl ?_; refine po_nil ?_; exact pn_end0 ⟨rfl, trivial⟩ trivial rfl) ?_
      refine pdv_step0 [4, 5, 130] [5] [] [2] [] [] [(2, .box 29 [.v (.int .i64 r4), .v (.int .i64 r5.1), .v (.int .i64 r6.1), .v (.int .i64 r7.1), .v (.int .i64 r8.1), .v (.string ⟨⟨c19⟩⟩), .v (.bool c20), .v (.bool c21), .v (.string ⟨⟨c22⟩⟩), .v (.string ⟨⟨c23⟩⟩), .v (.int .i64 c24), .v (.int .i64 c25), .v (.bool c26)])] rfl rfl rfl rfl (by kernel_rfl) (by kernel_rfl) (by kernel_rfl) trivial (fun w0 X X0 σ0 _ => by refine po_store (T := tab) rfl rfl rfl rfl rfl rfl rfl rfl rfl rfl rfl rfl ?_; refine po_nil ?_; exact pn_end0 trivial ⟨rfl, trivial⟩ rfl) ?_
      refine pdv_step0 [158] [6] [] [] [] [(3, .v (.bool false))] [] rfl rfl rfl rfl (by kernel_rfl) (by kernel_rfl) (by kernel_rfl) trivial (fun w0 X X0 σ0 _ => by refine po_evs (T := tab) 1 rfl rfl ?_; refine po_nil ?_; exact pn_end0 ⟨rfl, trivial⟩ trivial rfl) ?_
      refine pdv_nil rfl rfl ?_
      refine pn_seq ?_
      exact pw_retN (T := tab) rfl rfl rfl ⟨rfl, rfl⟩ trivial rfl
  · refine pw_cnd rfl ?_ ?_
    · refine pw_seq ?_
      refine pw_region ?_
      refine po_evs (T := tab) 1 rfl rfl ?_
      refine po_turn [] (enc := fun (r9 : (Bs × Tale_reader)) => .v (.string ⟨⟨r9.1⟩⟩)) (Sr := fun (r9 : (Bs × Tale_reader)) => [(10, .box 81 [.v (.string ⟨⟨r9.2.s⟩⟩), .v (.bool r9.2.bad)])]) (first := []) (cap := []) (qs := [.loc 10 0]) (Sc := [(10, .box 81 [.v (.string ⟨⟨r8.2.s⟩⟩), .v (.bool r8.2.bad)])]) (N0 := [10]) (NR := [10]) (fun r9 hr9 => fc_ren [(900000, 10)] [900000] (Tale_reader_text_ok fu r8.2 _ hr9) rfl rfl rfl rfl rfl rfl) ⟨rfl, trivial⟩ (fun _ => rfl) rfl rfl rfl rfl rfl rfl rfl (fun _ => rfl) (fun _ => rfl) rfl rfl rfl ⟨⟨_, rfl, .rfl⟩, trivial⟩ call41 rfl rfl fun r9 hr9 => ?_
      refine po_evs (T := tab) 1 rfl rfl ?_
      refine po_store (T := tab) rfl rfl rfl rfl rfl rfl rfl rfl rfl rfl rfl rfl ?_
      refine po_nil ?_
      refine pn_seq ?_
      refine pw_seq ?_
      refine pw_region ?_
      refine po_evs (T := tab) 1 rfl rfl ?_
      refine po_turn [] (enc := fun (r10 : (Int × Tale_reader)) => .v (.int .i64 r10.1)) (Sr := fun (r10 : (Int × Tale_reader)) => [(10, .box 81 [.v (.string ⟨⟨r10.2.s⟩⟩), .v (.bool r10.2.bad)])]) (first := []) (cap := []) (qs := [.loc 10 0]) (Sc := [(10, .box 81 [.v (.string ⟨⟨r9.2.s⟩⟩), .v (.bool r9.2.bad)])]) (N0 := [10]) (NR := [10]) (fun r10 hr10 => fc_ren [(900000, 10)] [900000] (Tale_reader_number_ok fu r9.2 _ hr10) rfl rfl rfl rfl rfl rfl) ⟨rfl, trivial⟩ (fun _ => rfl) rfl rfl rfl rfl rfl rfl rfl (fun _ => rfl) (fun _ => rfl) rfl rfl rfl ⟨⟨_, rfl, .rfl⟩, trivial⟩ call40 rfl rfl fun r10 hr10 => ?_
      refine po_evs (T := tab) 2 rfl rfl ?_
      refine po_turn [] (enc := fun (r11 : (Int × Tale_reader)) => .v (.int .i64 r11.1)) (Sr := fun (r11 : (Int × Tale_reader)) => [(10, .box 81 [.v (.string ⟨⟨r11.2.s⟩⟩), .v (.bool r11.2.bad)])]) (first := []) (cap := []) (qs := [.loc 10 0]) (Sc := [(10, .box 81 [.v (.string ⟨⟨r10.2.s⟩⟩), .v (.bool r10.2.bad)])]) (N0 := [10]) (NR := [10]) (fun r11 hr11 => fc_ren [(900000, 10)] [900000] (Tale_reader_number_ok fu r10.2 _ hr11) rfl rfl rfl rfl rfl rfl) ⟨rfl, trivial⟩ (fun _ => rfl) rfl rfl rfl rfl rfl rfl rfl (fun _ => rfl) (fun _ => rfl) rfl rfl rfl ⟨⟨_, rfl, .rfl⟩, trivial⟩ call40 rfl rfl fun r11 hr11 => ?_
      refine po_evs (T := tab) 2 rfl rfl ?_
      refine po_store (T := tab) rfl rfl rfl rfl rfl rfl rfl rfl rfl rfl rfl rfl ?_
      refine po_evs (T := tab) 1 rfl rfl ?_
      refine po_store (T := tab) rfl rfl rfl rfl rfl rfl rfl rfl rfl rfl rfl rfl ?_
      refine po_nil ?_
      refine pn_seq ?_
      refine pw_seq ?_
      refine pw_region ?_
      refine po_evs (T := tab) 1 rfl rfl ?_
      refine po_turn [] (enc := fun (r12 : (Bs × Tale_reader)) => .v (.string ⟨⟨r12.1⟩⟩)) (Sr := fun (r12 : (Bs × Tale_reader)) => [(10, .box 81 [.v (.string ⟨⟨r12.2.s⟩⟩), .v (.bool r12.2.bad)])]) (first := []) (cap := []) (qs := [.loc 10 0]) (Sc := [(10, .box 81 [.v (.string ⟨⟨r11.2.s⟩⟩), .v (.bool r11.2.bad)])]) (N0 := [10]) (NR := [10]) (fun r12 hr12 => fc_ren [(900000, 10)] [900000] (Tale_reader_text_ok fu r11.2 _ hr12) rfl rfl rfl rfl rfl rfl) ⟨rfl, trivial⟩ (fun _ => rfl) rfl rfl rfl rfl rfl rfl rfl (fun _ => rfl) (fun _ => rfl) rfl rfl rfl ⟨⟨_, rfl, .rfl⟩, trivial⟩ call41 rfl rfl fun r12 hr12 => ?_
      refine po_evs (T := tab) 1 rfl rfl ?_
      refine po_store (T := tab) rfl rfl rfl rfl rfl rfl rfl rfl rfl rfl rfl rfl ?_
      refine po_nil ?_
      refine pn_seq ?_
      refine pw_seq ?_
      refine pw_region ?_
      refine po_evs (T := tab) 1 rfl rfl ?_
      refine po_turn [] (enc := fun (r13 : (Bs × Tale_reader)) => .v (.string ⟨⟨r13.1⟩⟩)) (Sr := fun (r13 : (Bs × Tale_reader)) => [(10, .box 81 [.v (.string ⟨⟨r13.2.s⟩⟩), .v (.bool r13.2.bad)])]) (first := []) (cap := []) (qs := [.loc 10 0]) (Sc := [(10, .box 81 [.v (.string ⟨⟨r12.2.s⟩⟩), .v (.bool r12.2.bad)])]) (N0 := [10]) (NR := [10]) (fun r13 hr13 => fc_ren [(900000, 10)] [900000] (Tale_reader_text_ok fu r12.2 _ hr13) rfl rfl rfl rfl rfl rfl) ⟨rfl, trivial⟩ (fun _ => rfl) rfl rfl rfl rfl rfl rfl rfl (fun _ => rfl) (fun _ => rfl) rfl rfl rfl ⟨⟨_, rfl, .rfl⟩, trivial⟩ call41 rfl rfl fun r13 hr13 => ?_
      refine po_evs (T := tab) 1 rfl rfl ?_
      refine po_store (T := tab) rfl rfl rfl rfl rfl rfl rfl rfl rfl rfl rfl rfl ?_
      refine po_nil ?_
      refine pn_seq ?_
      refine pw_seq ?_
      refine pw_region ?_
      refine po_evs (T := tab) 1 rfl rfl ?_
      refine po_turn [] (enc := fun (r14 : (Int × Tale_reader)) => .v (.int .i64 r14.1)) (Sr := fun (r14 : (Int × Tale_reader)) => [(10, .box 81 [.v (.string ⟨⟨r14.2.s⟩⟩), .v (.bool r14.2.bad)])]) (first := []) (cap := []) (qs := [.loc 10 0]) (Sc := [(10, .box 81 [.v (.string ⟨⟨r13.2.s⟩⟩), .v (.bool r13.2.bad)])]) (N0 := [10]) (NR := [10]) (fun r14 hr14 => fc_ren [(900000, 10)] [900000] (Tale_reader_number_ok fu r13.2 _ hr14) rfl rfl rfl rfl rfl rfl) ⟨rfl, trivial⟩ (fun _ => rfl) rfl rfl rfl rfl rfl rfl rfl (fun _ => rfl) (fun _ => rfl) rfl rfl rfl ⟨⟨_, rfl, .rfl⟩, trivial⟩ call40 rfl rfl fun r14 hr14 => ?_
      refine po_evs (T := tab) 1 rfl rfl ?_
      refine po_turn [] (enc := fun (r15 : (Int × Tale_reader)) => .v (.int .i64 r15.1)) (Sr := fun (r15 : (Int × Tale_reader)) => [(10, .box 81 [.v (.string ⟨⟨r15.2.s⟩⟩), .v (.bool r15.2.bad)])]) (first := []) (cap := []) (qs := [.loc 10 0]) (Sc := [(10, .box 81 [.v (.string ⟨⟨r14.2.s⟩⟩), .v (.bool r14.2.bad)])]) (N0 := [10]) (NR := [10]) (fun r15 hr15 => fc_ren [(900000, 10)] [900000] (Tale_reader_number_ok fu r14.2 _ hr15) rfl rfl rfl rfl rfl rfl) ⟨rfl, trivial⟩ (fun _ => rfl) rfl rfl rfl rfl rfl rfl rfl (fun _ => rfl) (fun _ => rfl) rfl rfl rfl ⟨⟨_, rfl, .rfl⟩, trivial⟩ call40 rfl rfl fun r15 hr15 => ?_
      refine po_evs (T := tab) 1 rfl rfl ?_
      refine po_store (T := tab) rfl rfl rfl rfl rfl rfl rfl rfl rfl rfl rfl rfl ?_
      refine po_evs (T := tab) 1 rfl rfl ?_
      refine po_store (T := tab) rfl rfl rfl rfl rfl rfl rfl rfl rfl rfl rfl rfl ?_
      refine po_nil ?_
      refine pn_seq ?_
      refine pw_region ?_
      refine po_evs (T := tab) 1 rfl rfl ?_
      refine po_turn [] (enc := fun (r16 : (Int × Tale_reader)) => .v (.int .i64 r16.1)) (Sr := fun (r16 : (Int × Tale_reader)) => [(10, .box 81 [.v (.string ⟨⟨r16.2.s⟩⟩), .v (.bool r16.2.bad)])]) (first := []) (cap := []) (qs := [.loc 10 0]) (Sc := [(10, .box 81 [.v (.string ⟨⟨r15.2.s⟩⟩), .v (.bool r15.2.bad)])]) (N0 := [10]) (NR := [10]) (fun r16 hr16 => fc_ren [(900000, 10)] [900000] (Tale_reader_number_ok fu r15.2 _ hr16) rfl rfl rfl rfl rfl rfl) ⟨rfl, trivial⟩ (fun _ => rfl) rfl rfl rfl rfl rfl rfl rfl (fun _ => rfl) (fun _ => rfl) rfl rfl rfl ⟨⟨_, rfl, .rfl⟩, trivial⟩ call40 rfl rfl fun r16 hr16 => ?_
      refine po_evs (T := tab) 2 rfl rfl ?_
      refine po_store (T := tab) rfl rfl rfl rfl rfl rfl rfl rfl rfl rfl rfl rfl ?_
      refine po_nil ?_
      exact pn_sub' (hj1 (r16.2.s, r16.2.bad, r9.1, (r10.1 == 1), (r11.1 == 1), r12.1, r13.1, r14.1, r15.1, (r16.1 == 1))) ⟨rfl, rfl, rfl, rfl, trivial⟩ ⟨rfl, rfl, rfl, trivial⟩ rfl
    · refine pw_skip ?_
      exact pn_sub' (hj1 (r8.2.s, r8.2.bad, [], false, false, [], [], 0, 0, false)) ⟨rfl, rfl, rfl, rfl, trivial⟩ ⟨rfl, rfl, rfl, trivial⟩ rfl

def LinesCut_m (fu : Nat) (c1 : Bs) : Option (Bs × Bs) := bnd (indexByte_m fu c1 10) fun r2 => cnd (decide (r2 ≥ 0)) (bnd (rng .i64 (r2 + 1)) fun i3 => bnd (piece c1 0 i3) fun s4 => bnd (rng .i64 (r2 + 1)) fun i5 => bnd (piece c1 i5 ((c1.length : Nat) : Int)) fun s6 => some (s4, s6)) (some (c1, []))

set_option maxRecDepth 100000 in
theorem LinesCut_ok (fu : Nat) : ∃ r1 mid, Tryd.f35.body = some (linesCode r1 mid 9 3 4 38) ∧ ∀ (c1 : Bs) (l : Nat) w0 X X0 σ0 hl z, PW (⟨Tryd.prog, Tryd.f35, w0, X, X0, σ0, [0], fun _ _ _ => True, z, laidL, hl, none⟩ : Ctx (Bs × Bs)) (cutM c1) r1 [.seq mid, .loopK (fun y a w => Pre (⟨Tryd.prog, Tryd.f35, w0, X, X0, σ0, [0], fun _ _ _ => True, z, laidL, hl, none⟩ : Ctx (Bs × Bs)) (lineE l y.1) (lineS 9 y.2) a w) (fun _ _ _ => False)] (lineE0 l) (lineS 9 c1) := by
  refine ⟨_, _, rfl, fun c1 l w0 X X0 σ0 hl z => ?_⟩
  refine pw_conv (m' := LinesCut_m fu c1) rfl ?_
  refine pw_region ?_
  refine po_evs (T := tab) 1 rfl rfl ?_
  refine po_nil ?_
  refine pn_seq ?_
  refine pw_seq ?_
  refine pw_region ?_
  refine po_evs (T := tab) 1 rfl rfl ?_
  refine po_call (enc := fun (r2 : Int) => .v (.int .i64 r2)) (qs := [.v (.string ⟨⟨c1⟩⟩), .v (.int .u8 10)]) (indexByte_ok fu c1 10) rfl rfl ⟨⟨_, rfl, .rfl⟩, ⟨_, rfl, .rfl⟩, trivial⟩ (fun _ => rfl) call36 rfl rfl fun r2 hr2 => ?_
  refine po_evs (T := tab) 1 rfl rfl ?_
  refine po_nil ?_
  refine pn_seq ?_
  refine pw_seq ?_
  refine pw_region ?_
  refine po_evs (T := tab) 2 rfl rfl ?_
  refine po_nil ?_
  refine pn_seq ?_
  refine pw_cnd rfl ?_ ?_
  · refine pw_sub' (E' := [(0, .fn (.yield l) [] []), (1, .loc 0 0), (4, .v (.int .i64 r2))]) (S' := [(0, .box 9 [.v (.string ⟨⟨c1⟩⟩)])]) ?_ ⟨rfl, rfl, rfl, trivial⟩ ⟨rfl, trivial⟩ rfl
    refine pw_drawV [0, 0, 2, 7, 0, 0, 32, 112, 15, 511] mixed (by kernel_rfl) (by kernel_rfl) rfl rfl ?_
    refine pdv_step0 [1, 2] [24] [] [0] [0] [(12, .v (.string ⟨⟨c1⟩⟩))] [(0, .box 9 [.v (.string ⟨⟨c1⟩⟩)])] rfl rfl rfl rfl (by kernel_rfl) (by kernel_rfl) (by kernel_rfl) ⟨rfl, trivial⟩ (fun w0 X X0 σ0 _ => by refine po_evs (T := tab) 1 rfl rfl ?_; refine po_nil ?_; exact pn_end0 ⟨rfl, trivial⟩ ⟨rfl, trivial⟩ rfl) ?_
    refine pdv_step0 [8] [26] [] [] [] [(13, .v (.int .i64 r2))] [] rfl rfl rfl rfl (by kernel_rfl) (by kernel_rfl) (by kernel_rfl) trivial (fun w0 X X0 σ0 _ => by refine po_evs (T := tab) 1 rfl rfl ?_; refine po_nil ?_; exact pn_end0 ⟨rfl, trivial⟩ trivial rfl) ?_
    refine pdv_step (M := (rng .i64 (r2 + 1))) (ment := [(28, [])]) [26] [28] [] [] [] (fun i3 => [(14, .v (.int .i64 i3))]) (fun i3 => []) rfl rfl (fun _ => rfl) (fun _ => rfl) (by kernel_rfl) (by kernel_rfl) (fun _ => by kernel_rfl) (fun _ => trivial) (fun w0 X X0 σ0 _ => by refine po_arith' (T := tab) rfl rfl rfl rfl fun i3 hi3 => ?_; refine po_nil ?_; exact pn_end ⟨rfl, trivial⟩ trivial rfl) fun i3 hi3 => ?_
    refine pdv_step (M := (piece c1 0 i3)) (ment := [(30, [])]) [24, 28] [30] [] [] [] (fun s4 => [(15, .v (.string ⟨⟨s4⟩⟩))]) (fun s4 => []) rfl rfl (fun _ => rfl) (fun _ => rfl) (by kernel_rfl) (by kernel_rfl) (fun _ => by kernel_rfl) (fun _ => trivial) (fun w0 X X0 σ0 _ => by refine po_sub (T := tab) rfl rfl rfl rfl rfl rfl rfl rfl fun s4 hs4 => ?_; refine po_nil ?_; exact pn_end ⟨rfl, trivial⟩ trivial rfl) fun s4 hs4 => ?_
    refine pdv_step0 [1, 2] [32] [] [0] [0] [(16, .v (.string ⟨⟨c1⟩⟩))] [(0, .box 9 [.v (.string ⟨⟨c1⟩⟩)])] rfl rfl rfl rfl (by kernel_rfl) (by kernel_rfl) (by kernel_rfl) ⟨rfl, trivial⟩ (fun w0 X X0 σ0 _ => by refine po_evs (T := tab) 1 rfl rfl ?_; refine po_nil ?_; exact pn_end0 ⟨rfl, trivial⟩ ⟨rfl, trivial⟩ rfl) ?_
    refine pdv_step0 [8] [34] [] [] [] [(17, .v (.int .i64 r2))] [] rfl rfl rfl rfl (by kernel_rfl) (by kernel_rfl) (by kernel_rfl) trivial (fun w0 X X0 σ0 _ => by refine po_evs (T := tab) 1 rfl rfl ?_; refine po_nil ?_; exact pn_end0 ⟨rfl, trivial⟩ trivial rfl) ?_
    refine pdv_step (M := (rng .i64 (r2 + 1))) (ment := [(36, [])]) [34] [36] [] [] [] (fun i5 => [(18, .v (.int .i64 i5))]) (fun i5 => []) rfl rfl (fun _ => rfl) (fun _ => rfl) (by kernel_rfl) (by kernel_rfl) (fun _ => by kernel_rfl) (fun _ => trivial) (fun w0 X X0 σ0 _ => by refine po_arith' (T := tab) rfl rfl rfl rfl fun i5 hi5 => ?_; refine po_nil ?_; exact pn_end ⟨rfl, trivial⟩ trivial rfl) fun i5 hi5 => ?_
    refine pdv_step (M := (piece c1 i5 ((c1.length : Nat) : Int))) (ment := [(38, [])]) [32, 36] [38] [] [] [] (fun s6 => [(19, .v (.string ⟨⟨s6⟩⟩))]) (fun s6 => []) rfl rfl (fun _ => rfl) (fun _ => rfl) (by kernel_rfl) (by kernel_rfl) (fun _ => by kernel_rfl) (fun _ => trivial) (fun w0 X X0 σ0 _ => by refine po_sub (T := tab) rfl rfl rfl rfl rfl rfl rfl rfl fun s6 hs6 => ?_; refine po_nil ?_; exact pn_end ⟨rfl, trivial⟩ trivial rfl) fun s6 hs6 => ?_
    refine pdv_step0 [30] [6] [] [] [] [(3, .v (.string ⟨⟨s4⟩⟩))] [] rfl rfl rfl rfl (by kernel_rfl) (by kernel_rfl) (by kernel_rfl) trivial (fun w0 X X0 σ0 _ => by refine po_evs (T := tab) 1 rfl rfl ?_; refine po_nil ?_; exact pn_end0 ⟨rfl, trivial⟩ trivial rfl) ?_
    refine pdv_step0 [1, 2, 38] [1] [] [0] [] [] [(0, .box 9 [.v (.string ⟨⟨s6⟩⟩)])] rfl rfl rfl rfl (by kernel_rfl) (by kernel_rfl) (by kernel_rfl) trivial (fun w0 X X0 σ0 _ => by refine po_store (T := tab) rfl rfl rfl rfl rfl rfl rfl rfl rfl rfl rfl rfl ?_; refine po_nil ?_; exact pn_end0 trivial ⟨rfl, trivial⟩ rfl) ?_
    refine pdv_nil rfl rfl ?_
    exact pn_endL ⟨rfl, rfl, rfl, trivial⟩ ⟨rfl, trivial⟩ rfl
  · refine pw_region ?_
    refine po_evs (T := tab) 2 rfl rfl ?_
    refine po_store (T := tab) rfl rfl rfl rfl rfl rfl rfl rfl rfl rfl rfl rfl ?_
    refine po_nil ?_
    exact pn_endL ⟨rfl, rfl, rfl, trivial⟩ ⟨rfl, trivial⟩ rfl

def Tale_Read_l1 (fu : Nat) : List Bs → (List Mark) → Option ((List Mark) × Int)
  | [], l2 => some (l2, 0)
  | y3 :: ys4, l2 => bnd (Strings_CutSuffix_m fu y3 [10]) fun r5 => bnd (Tale_line_m fu r5.1) fun r6 => cnd (!r6.2) (some ([], 2)) (cnd (!r5.2) (some ([], 2)) (bnd (roomy 120 (l2.length + ([r6.1] : List Mark).length)) fun _ => (Tale_Read_l1 fu ys4) (l2 ++ [r6.1])))

def Tale_Read_m (fu : Nat) (s1 : Bs) : Option ((List Mark) × Int) := bnd (fits s1) fun _ => (Tale_Read_l1 fu) (linesOf s1) []

set_option maxHeartbeats 10000000 in
set_option maxRecDepth 100000 in
theorem Tale_Read_ok (fu : Nat) (s1 : Bs) : ∀ r, Tale_Read_m fu s1 = some r → DC laidL Tryd.prog 12 [.v (.string ⟨⟨s1⟩⟩)] (.tup [.sl 13 false (r.1.map cMark), .v (.int .i64 r.2)]) := by
  intro r hr
  refine fc_intro (args := [.v (.string ⟨⟨s1⟩⟩)]) (S := []) (N0 := []) (post := fun r p S => p = .tup [.sl 13 false (r.1.map cMark), .v (.int .i64 r.2)] ∧ S = []) Tryd.func12 rfl rfl hr fun w0 X X0 σ0 _ => ?_
  refine pw_seq ?_
  refine pw_region ?_
  refine po_alloc (T := tab) 2 rfl rfl rfl rfl rfl rfl rfl rfl rfl ?_
  refine po_alloc (T := tab) 3 rfl rfl rfl rfl rfl rfl rfl rfl rfl ?_
  refine po_nil ?_
  refine pn_seq ?_
  refine pw_seq ?_
  refine pw_region ?_
  refine po_alloc (T := tab) 4 rfl rfl rfl rfl rfl rfl rfl rfl rfl ?_
  refine po_nil ?_
  refine pn_seq ?_
  refine pw_seq ?_
  refine pw_seq ?_
  refine pw_region ?_
  refine po_evs (T := tab) 1 rfl rfl ?_
  refine po_linesF (n := 3011) tab Tryd.func27 rfl rfl rfl rfl rfl rfl rfl rfl rfl rfl rfl rfl ⟨⟨_, rfl, .rfl⟩, trivial⟩ call27 rfl rfl ?_
  refine po_nil ?_
  refine pn_seq ?_
  refine pw_block ?_
  refine pw_own_nilS 1032 29 13 4 0 rfl rfl rfl rfl rfl rfl ?_
  refine pw_fits fun hfits => ?_
  obtain ⟨lr1, lmid, lhb, lhcut⟩ := LinesCut_ok fu
  refine pw_lines (T := tab) (s := s1) (x0 := []) (n := 3011) (tI := 3) (tB := 4) (tF := 38) (M := (Tale_Read_l1 fu)) (Sf := fun (l2 : (List Mark)) => [(1032, .arr 29 13 (l2.map cMark)), (4, .box 22 [.own 1032]), (3, .box 25 [.v (.int .i64 0)]), (2, .box 22 [.v (.slice none 0 0)])]) (SR := fun r : ((List Mark) × Int) => [(2, .box 22 [.sl 13 false (r.1.map cMark)]), (3, .box 25 [.v (.int .i64 r.2)])]) (N1 := [2, 3, 4]) (E0 := [(2, .loc 2 0), (3, .loc 3 0), (4, .loc 4 0)]) (E1 := fun y3 => [(2, .loc 2 0), (3, .loc 3 0), (4, .loc 4 0), (12, .v (.string ⟨⟨y3⟩⟩)), (5, .v (.string ⟨⟨y3⟩⟩))]) hfits Tryd.func35 lhb rfl rfl call35 rfl rfl lhcut rfl rfl ⟨rfl, rfl, rfl, trivial⟩ rfl rfl ⟨rfl, rfl, rfl, rfl, trivial⟩ rfl rfl rfl rfl ?_ ?_ ?_ ?_
  · rintro y3 l2 w0 X X0 σ0 _ _
    refine po_evs (T := tab) 1 rfl rfl ?_
    refine po_nil ?_
    exact pn_end0 ⟨rfl, rfl, rfl, rfl, rfl, trivial⟩ ⟨rfl, rfl, rfl, rfl, trivial⟩ rfl
  · rintro y3 ys4 l2 w0 X X0 σ0 _ _
    refine pw_block ?_
    refine pw_seq ?_
    refine pw_region ?_
    refine po_evs (T := tab) 1 rfl rfl ?_
    refine po_call (enc := fun (r5 : (Bs × Bool)) => .tup [.v (.string ⟨⟨r5.1⟩⟩), .v (.bool r5.2)]) (qs := [.v (.string ⟨⟨y3⟩⟩), .v (.string ⟨⟨[10]⟩⟩)]) (Strings_CutSuffix_ok fu y3 [10]) rfl rfl ⟨⟨_, rfl, .rfl⟩, ⟨_, rfl, .rfl⟩, trivial⟩ (fun _ => rfl) call28 rfl rfl fun r5 hr5 => ?_
    refine po_evs (T := tab) 5 rfl rfl ?_
    refine po_nil ?_
    refine pn_seq ?_
    refine pw_seq ?_
    refine pw_region ?_
    refine po_evs (T := tab) 1 rfl rfl ?_
    refine po_call (enc := fun (r6 : (Mark × Bool)) => .tup [.agg (cMark r6.1), .v (.bool r6.2)]) (qs := [.v (.string ⟨⟨r5.1⟩⟩)]) (Tale_line_ok fu r5.1) rfl rfl ⟨⟨_, rfl, .rfl⟩, trivial⟩ (fun _ => rfl) call29 rfl rfl fun r6 hr6 => ?_
    refine po_evs (T := tab) 3 rfl rfl ?_
    refine po_alloc (T := tab) 8 rfl rfl rfl rfl rfl rfl rfl rfl rfl ?_
    refine po_store (T := tab) rfl rfl rfl rfl rfl rfl rfl rfl rfl rfl rfl rfl ?_
    refine po_evs (T := tab) 1 rfl rfl ?_
    refine po_nil ?_
    refine pn_seq ?_
    refine pw_seq ?_
    refine pw_seq ?_
    refine pw_region ?_
    refine po_evs (T := tab) 3 rfl rfl ?_
    refine po_split (j := 25) rfl ?_ ?_
    · refine po_evs (T := tab) 3 rfl rfl ?_
      refine po_nil ?_
      refine pn_seq (pw_then rfl ?_)
      refine pw_seq ?_
      refine pw_region ?_
      refine po_store (T := tab) rfl rfl rfl rfl rfl rfl rfl rfl rfl rfl rfl rfl ?_
      refine po_store (T := tab) rfl rfl rfl rfl rfl rfl rfl rfl rfl rfl rfl rfl ?_
      refine po_nil ?_
      refine pn_seq ?_
      refine pw_coeS 2 [.sl 13 false ([].map cMark)] rfl ⟨.nil, trivial⟩ rfl ?_
      exact pw_retJ rfl ⟨rfl, rfl, trivial⟩ rfl
    · refine po_evs (T := tab) 3 rfl rfl ?_
      refine po_nil ?_
      refine pn_seq ?_
      refine pw_cnd rfl ?_ ?_
      · refine pw_seq ?_
        refine pw_region ?_
        refine po_store (T := tab) rfl rfl rfl rfl rfl rfl rfl rfl rfl rfl rfl rfl ?_
        refine po_store (T := tab) rfl rfl rfl rfl rfl rfl rfl rfl rfl rfl rfl rfl ?_
        refine po_nil ?_
        refine pn_seq ?_
        refine pw_coeS 2 [.sl 13 false ([].map cMark)] rfl ⟨.nil, trivial⟩ rfl ?_
        exact pw_retJ rfl ⟨rfl, rfl, trivial⟩ rfl
      · refine pw_skip ?_
        refine pn_seq ?_
        refine pw_region ?_
        refine po_evs (T := tab) 2 rfl rfl ?_
        refine po_lit (T := tab) (rows := [r6.1].map cMark) 31 rfl rfl rfl rfl rfl rfl rfl rfl rfl rfl rfl rfl rfl rfl ?_
        refine po_append (T := tab) cMark l2 ([r6.1] : List Mark) rfl rfl rfl rfl rfl rfl rfl rfl rfl rfl rfl rfl rfl rfl (cMark_one _) rfl rfl rfl rfl rfl ?_
        refine po_store (T := tab) rfl rfl rfl rfl rfl rfl rfl rfl rfl rfl rfl rfl ?_
        refine po_nil ?_
        refine pn_block ?_
        exact pn_loopK (l2 ++ [r6.1]) ⟨rfl, rfl, rfl, rfl, trivial⟩ rfl
  · rintro l2
    refine pn_block ?_
    refine pn_seq ?_
    refine pw_seq ?_
    refine pw_region ?_
    refine po_evs (T := tab) 1 rfl rfl ?_
    refine po_store (T := tab) rfl rfl rfl rfl rfl rfl rfl rfl rfl rfl rfl rfl ?_
    refine po_store (T := tab) rfl rfl rfl rfl rfl rfl rfl rfl rfl rfl rfl rfl ?_
    refine po_nil ?_
    refine pn_seq ?_
    refine pw_freeze 1032 rfl rfl rfl ?_
    exact pw_retN (T := tab) rfl rfl rfl ⟨rfl, rfl⟩ trivial rfl
  · exact fun r => pw_retN (T := tab) rfl rfl rfl ⟨rfl, rfl⟩ trivial rfl

def Tale_Put_l1 (fu : Nat) (l1 : (List Mark)) : Nat → Int × (List Int) → Option (Bs × Int)
  | 0, _ => none
  | k1 + 1, (t2, l3) => cnd (decide (t2 < ((l1.length : Nat) : Int))) (bnd (idx l1 t2) fun y4 => bnd (Tale_One_m fu y4) fun r5 => cnd (r5.2 != 0) (some ([], r5.2)) (bnd (Strings_Builder_WriteString_m fu r5.1 l3) fun r6 => bnd (Strings_Builder_WriteByte_m fu 10 r6.2.2) fun r7 => bnd (rng .i64 (t2 + 1)) fun i8 => (Tale_Put_l1 fu l1 k1) (i8, r7.2))) (bnd (Strings_Builder_String_m fu l3) fun r9 => some (r9, 0))

def Tale_Put_m (fu : Nat) (l1 : (List Mark)) : Option (Bs × Int) := (Tale_Put_l1 fu l1) fu (0, [])

set_option maxHeartbeats 10000000 in
set_option maxRecDepth 100000 in
theorem Tale_Put_ok (fu : Nat) (l1 : (List Mark)) : ∀ r, Tale_Put_m fu l1 = some r → DC laidL Tryd.prog 11 [.sl 13 false (l1.map cMark)] (.tup [.v (.string ⟨⟨r.1⟩⟩), .v (.int .i64 r.2)]) := by
  intro r hr
  refine fc_intro (args := [.sl 13 false (l1.map cMark)]) (S := []) (N0 := []) (post := fun r p S => p = .tup [.v (.string ⟨⟨r.1⟩⟩), .v (.int .i64 r.2)] ∧ S = []) Tryd.func11 rfl rfl hr fun w0 X X0 σ0 _ => ?_
  refine pw_seq ?_
  refine pw_region ?_
  refine po_evs (T := tab) 2 rfl rfl ?_
  refine po_nil ?_
  refine pn_seq ?_
  refine pw_seq ?_
  refine pw_region ?_
  refine po_alloc (T := tab) 4 rfl rfl rfl rfl rfl rfl rfl rfl rfl ?_
  refine po_coeS 4 [.nloc 4 0, .v (.slice none 0 0)] rfl ⟨.nloc0, .rfl, trivial⟩ rfl ?_
  refine po_ownb_nilS 5040 5 1 4 1 rfl rfl rfl rfl rfl rfl ?_
  refine po_nil ?_
  refine pn_seq ?_
  refine pw_seq ?_
  refine pw_seq ?_
  refine pw_region ?_
  refine po_evs (T := tab) 1 rfl rfl ?_
  refine po_len (T := tab) cMark l1 rfl rfl rfl rfl rfl rfl rfl rfl ?_
  refine po_evs (T := tab) 1 rfl rfl ?_
  refine po_nil ?_
  refine pn_seq ?_
  refine pw_block ?_
  refine pw_loop' (Tale_Put_l1 fu l1) (fun ((t2, l3) : Int × (List Int)) => [(4, .loc 4 0), (9, .sl 13 false (l1.map cMark)), (10, .v (.int .i64 ((l1.length : Nat) : Int))), (11, .v (.int .i64 t2))]) (fun ((t2, l3) : Int × (List Int)) => [(5040, .arr 5 1 (l3.map cInt_u8)), (4, .box 45 [.nloc 4 0, .ownb 5040])]) fu (0, []) (fun _ => rfl) ⟨rfl, rfl, rfl, rfl, trivial⟩ ⟨rfl, rfl, trivial⟩ rfl ?_
  rintro k1 ⟨t2, l3⟩
  refine pw_seq ?_
  refine pw_region ?_
  refine po_evs (T := tab) 1 rfl rfl ?_
  refine po_nil ?_
  refine pn_seq ?_
  refine pw_seq ?_
  refine pw_cnd rfl ?_ ?_
  · refine pw_skip ?_
    refine pn_seq ?_
    refine pw_seq ?_
    refine pw_block ?_
    refine pw_seq ?_
    refine pw_region ?_
    refine po_idx (T := tab) cMark l1 rfl rfl rfl rfl rfl rfl rfl fun y4 hy4 => ?_
    refine po_evs (T := tab) 1 rfl rfl ?_
    refine po_alloc (T := tab) 6 rfl rfl rfl rfl rfl rfl rfl rfl rfl ?_
    refine po_store (T := tab) rfl rfl rfl rfl rfl rfl rfl rfl rfl rfl rfl rfl ?_
    refine po_nil ?_
    refine pn_seq ?_
    refine pw_seq ?_
    refine pw_region ?_
    refine po_evs (T := tab) 1 rfl rfl ?_
    refine po_call (enc := fun (r5 : (Bs × Int)) => .tup [.v (.string ⟨⟨r5.1⟩⟩), .v (.int .i64 r5.2)]) (qs := [.agg (cMark y4)]) (Tale_One_ok fu y4) rfl rfl ⟨⟨_, rfl, .rfl⟩, trivial⟩ (fun _ => rfl) call9 rfl rfl fun r5 hr5 => ?_
    refine po_evs (T := tab) 5 rfl rfl ?_
    refine po_nil ?_
    refine pn_seq ?_
    refine pw_seq ?_
    refine pw_seq ?_
    refine pw_region ?_
    refine po_evs (T := tab) 2 rfl rfl ?_
    refine po_nil ?_
    refine pn_seq ?_
    refine pw_cnd rfl ?_ ?_
    · refine pw_seq ?_
      refine pw_region ?_
      refine po_evs (T := tab) 3 rfl rfl ?_
      refine po_nil ?_
      refine pn_seq ?_
      exact pw_retN (T := tab) rfl rfl rfl ⟨rfl, rfl⟩ trivial rfl
    · refine pw_skip ?_
      refine pn_seq ?_
      refine pw_seq ?_
      refine pw_region ?_
      refine po_evs (T := tab) 2 rfl rfl ?_
      refine po_turn [5040] (enc := fun (r6 : (Int × Bool × (List Int))) => .tup [.v (.int .i64 r6.1), .err r6.2.1]) (Sr := fun (r6 : (Int × Bool × (List Int))) => [(4, .box 45 [.nloc 4 0, .ownb 5040]), (5040, .arr 5 1 (r6.2.2.map cInt_u8))]) (first := []) (cap := []) (qs := [.loc 4 0, .v (.string ⟨⟨r5.1⟩⟩)]) (Sc := [(4, .box 45 [.nloc 4 0, .ownb 5040]), (5040, .arr 5 1 (l3.map cInt_u8))]) (N0 := [4]) (NR := [4, 5040]) (fun r6 hr6 => fc_ren [(900000, 4), (900001, 5040)] [900000, 900001] (Strings_Builder_WriteString_ok fu r5.1 l3 _ hr6) rfl rfl rfl rfl rfl rfl) ⟨rfl, rfl, trivial⟩ (fun _ => rfl) rfl rfl rfl rfl rfl rfl rfl (fun _ => rfl) (fun _ => rfl) rfl rfl rfl ⟨⟨_, rfl, .rfl⟩, ⟨_, rfl, .rfl⟩, trivial⟩ call15 rfl rfl fun r6 hr6 => ?_
      refine po_nil ?_
      refine pn_seq ?_
      refine pw_region ?_
      refine po_evs (T := tab) 1 rfl rfl ?_
      refine po_turn [5040] (enc := fun (r7 : (Bool × (List Int))) => .err r7.1) (Sr := fun (r7 : (Bool × (List Int))) => [(4, .box 45 [.nloc 4 0, .ownb 5040]), (5040, .arr 5 1 (r7.2.map cInt_u8))]) (first := []) (cap := []) (qs := [.loc 4 0, .v (.int .u8 10)]) (Sc := [(4, .box 45 [.nloc 4 0, .ownb 5040]), (5040, .arr 5 1 (r6.2.2.map cInt_u8))]) (N0 := [4]) (NR := [4, 5040]) (fun r7 hr7 => fc_ren [(900000, 4), (900001, 5040)] [900000, 900001] (Strings_Builder_WriteByte_i2_ok fu 10 r6.2.2 _ hr7) rfl rfl rfl rfl rfl rfl) ⟨rfl, rfl, trivial⟩ (fun _ => rfl) rfl rfl rfl rfl rfl rfl rfl (fun _ => rfl) (fun _ => rfl) rfl rfl rfl ⟨⟨_, rfl, .rfl⟩, ⟨_, rfl, .rfl⟩, trivial⟩ call26 rfl rfl fun r7 hr7 => ?_
      refine po_nil ?_
      refine pn_block ?_
      refine pn_seq ?_
      refine pw_region ?_
      refine po_arith' (T := tab) rfl rfl rfl rfl fun i8 hi8 => ?_
      refine po_evs (T := tab) 1 rfl rfl ?_
      refine po_nil ?_
      exact pn_iter' (i8, r7.2) ⟨rfl, rfl, rfl, rfl, trivial⟩ ⟨rfl, rfl, trivial⟩ rfl
  · refine pw_exit rfl ?_
    refine pn_seq ?_
    refine pw_seq ?_
    refine pw_region ?_
    refine po_evs (T := tab) 1 rfl rfl ?_
    refine po_turn [] (enc := fun (r9 : Bs) => .v (.string ⟨⟨r9⟩⟩)) (Sr := fun (r9 : Bs) => [(4, .box 45 [.nloc 4 0, .junk])]) (first := []) (cap := []) (qs := [.loc 4 0]) (Sc := [(4, .box 45 [.nloc 4 0, .ownb 5040]), (5040, .arr 5 1 (l3.map cInt_u8))]) (N0 := [4, 5040]) (NR := [4]) (fun r9 hr9 => fc_ren [(900000, 4), (900001, 5040)] [900000, 900001] (Strings_Builder_String_i2_ok fu l3 _ hr9) rfl rfl rfl rfl rfl rfl) ⟨rfl, rfl, trivial⟩ (fun _ => rfl) rfl rfl rfl rfl rfl rfl rfl (fun _ => rfl) (fun _ => rfl) rfl rfl rfl ⟨⟨_, rfl, .rfl⟩, trivial⟩ call21 rfl rfl fun r9 hr9 => ?_
    refine po_evs (T := tab) 2 rfl rfl ?_
    refine po_nil ?_
    refine pn_seq ?_
    exact pw_retN (T := tab) rfl rfl rfl ⟨rfl, rfl⟩ trivial rfl

def Instarlaw24_awake_m (fu : Nat) : Option Bool := bnd (Tale_Read_m fu [100, 105, 100, 32, 48, 32, 49, 32, 54, 32, 48, 10, 99, 97, 108, 108, 101, 100, 32, 49, 32, 49, 32, 52, 32, 48, 32, 34, 97, 34, 32, 48, 32, 49, 32, 34, 34, 32, 34, 49, 34, 32, 48, 32, 48, 32, 48, 10]) fun r1 => bnd (Tale_Put_m fu r1.1) fun r2 => bnd (Tale_One_m fu (⟨10, 0, (-1), 1, 0, [], false, false, [], [], 0, 0, false⟩ : Mark)) fun r3 => bnd (Tale_Read_m fu [100, 105, 100, 32, 48, 32, 49, 32, 54, 10]) fun r4 => cnd (r1.2 == 0) (cnd (r2.2 == 0) (cnd (r2.1 == ([100, 105, 100, 32, 48, 32, 49, 32, 54, 32, 48, 10, 99, 97, 108, 108, 101, 100, 32, 49, 32, 49, 32, 52, 32, 48, 32, 34, 97, 34, 32, 48, 32, 49, 32, 34, 34, 32, 34, 49, 34, 32, 48, 32, 48, 32, 48, 10] : Bs)) (cnd (((r1.1.length : Nat) : Int) == 2) (bnd (idx r1.1 1) fun y5 => cnd (y5.New == ([49] : Bs)) (bnd (idx r1.1 1) fun y6 => cnd y6.Has (bnd (idx r1.1 1) fun y7 => cnd (!y7.Had) (cnd (r3.2 == 0) (cnd (r3.1 == ([111, 118, 101, 114, 32, 48, 32, 45, 49, 32, 49, 32, 48] : Bs)) (some (r4.2 == 2)) (some false)) (some false)) (some false)) (some false)) (some false)) (some false)) (some false)) (some false)) (some false)

set_option maxHeartbeats 10000000 in
set_option maxRecDepth 100000 in
theorem Instarlaw24_awake_ok (fu : Nat) : ∀ r, Instarlaw24_awake_m fu = some r → DC laidL Tryd.prog 7 [] (.v (.bool r)) := by
  intro r hr
  refine fc_intro (args := []) (S := []) (N0 := []) (post := fun r p S => p = .v (.bool r) ∧ S = []) Tryd.func7 rfl rfl hr fun w0 X X0 σ0 _ => ?_
  refine pw_seq ?_
  refine pw_region ?_
  refine po_evs (T := tab) 1 rfl rfl ?_
  refine po_nil ?_
  refine pn_seq ?_
  refine pw_seq ?_
  refine pw_region ?_
  refine po_call (enc := fun (r1 : ((List Mark) × Int)) => .tup [.sl 13 false (r1.1.map cMark), .v (.int .i64 r1.2)]) (qs := [.v (.string ⟨⟨[100, 105, 100, 32, 48, 32, 49, 32, 54, 32, 48, 10, 99, 97, 108, 108, 101, 100, 32, 49, 32, 49, 32, 52, 32, 48, 32, 34, 97, 34, 32, 48, 32, 49, 32, 34, 34, 32, 34, 49, 34, 32, 48, 32, 48, 32, 48, 10]⟩⟩)]) (Tale_Read_ok fu [100, 105, 100, 32, 48, 32, 49, 32, 54, 32, 48, 10, 99, 97, 108, 108, 101, 100, 32, 49, 32, 49, 32, 52, 32, 48, 32, 34, 97, 34, 32, 48, 32, 49, 32, 34, 34, 32, 34, 49, 34, 32, 48, 32, 48, 32, 48, 10]) rfl rfl ⟨⟨_, rfl, .rfl⟩, trivial⟩ (fun _ => rfl) call12 rfl rfl fun r1 hr1 => ?_
  refine po_evs (T := tab) 5 rfl rfl ?_
  refine po_nil ?_
  refine pn_seq ?_
  refine pw_seq ?_
  refine pw_region ?_
  refine po_evs (T := tab) 1 rfl rfl ?_
  refine po_call (enc := fun (r2 : (Bs × Int)) => .tup [.v (.string ⟨⟨r2.1⟩⟩), .v (.int .i64 r2.2)]) (qs := [.sl 13 false (r1.1.map cMark)]) (Tale_Put_ok fu r1.1) rfl rfl ⟨⟨_, rfl, .rfl⟩, trivial⟩ (fun _ => rfl) call11 rfl rfl fun r2 hr2 => ?_
  refine po_evs (T := tab) 5 rfl rfl ?_
  refine po_nil ?_
  refine pn_seq ?_
  refine pw_seq ?_
  refine pw_region ?_
  refine po_build (T := tab) rfl rfl rfl rfl rfl rfl rfl ?_
  refine po_call (enc := fun (r3 : (Bs × Int)) => .tup [.v (.string ⟨⟨r3.1⟩⟩), .v (.int .i64 r3.2)]) (qs := [.agg (cMark (⟨10, 0, (-1), 1, 0, [], false, false, [], [], 0, 0, false⟩ : Mark))]) (Tale_One_ok fu (⟨10, 0, (-1), 1, 0, [], false, false, [], [], 0, 0, false⟩ : Mark)) rfl rfl ⟨⟨_, rfl, .rfl⟩, trivial⟩ (fun _ => rfl) call9 rfl rfl fun r3 hr3 => ?_
  refine po_evs (T := tab) 5 rfl rfl ?_
  refine po_nil ?_
  refine pn_seq ?_
  refine pw_seq ?_
  refine pw_region ?_
  refine po_call (enc := fun (r4 : ((List Mark) × Int)) => .tup [.sl 13 false (r4.1.map cMark), .v (.int .i64 r4.2)]) (qs := [.v (.string ⟨⟨[100, 105, 100, 32, 48, 32, 49, 32, 54, 10]⟩⟩)]) (Tale_Read_ok fu [100, 105, 100, 32, 48, 32, 49, 32, 54, 10]) rfl rfl ⟨⟨_, rfl, .rfl⟩, trivial⟩ (fun _ => rfl) call12 rfl rfl fun r4 hr4 => ?_
  refine po_evs (T := tab) 5 rfl rfl ?_
  refine po_nil ?_
  refine pn_seq ?_
  refine pw_seq ?_
  refine pw_region ?_
  refine po_evs (T := tab) 3 rfl rfl ?_
  refine po_split (j := 29) rfl ?_ ?_
  · refine po_evs (T := tab) 4 rfl rfl ?_
    refine po_split (j := 33) rfl ?_ ?_
    · refine po_evs (T := tab) 4 rfl rfl ?_
      refine po_split (j := 37) rfl ?_ ?_
      · refine po_evs (T := tab) 1 rfl rfl ?_
        refine po_len (T := tab) cMark r1.1 rfl rfl rfl rfl rfl rfl rfl rfl ?_
        refine po_evs (T := tab) 3 rfl rfl ?_
        refine po_split (j := 42) rfl ?_ ?_
        · refine po_evs (T := tab) 1 rfl rfl ?_
          refine po_idx (T := tab) cMark r1.1 rfl rfl rfl rfl rfl rfl rfl fun y5 hy5 => ?_
          refine po_evs (T := tab) 5 rfl rfl ?_
          refine po_split (j := 49) rfl ?_ ?_
          · refine po_evs (T := tab) 1 rfl rfl ?_
            refine po_idx (T := tab) cMark r1.1 rfl rfl rfl rfl rfl rfl rfl fun y6 hy6 => ?_
            refine po_evs (T := tab) 4 rfl rfl ?_
            refine po_split (j := 55) rfl ?_ ?_
            · refine po_evs (T := tab) 1 rfl rfl ?_
              refine po_idx (T := tab) cMark r1.1 rfl rfl rfl rfl rfl rfl rfl fun y7 hy7 => ?_
              refine po_evs (T := tab) 5 rfl rfl ?_
              refine po_split (j := 62) rfl ?_ ?_
              · refine po_evs (T := tab) 4 rfl rfl ?_
                refine po_split (j := 66) rfl ?_ ?_
                · refine po_evs (T := tab) 4 rfl rfl ?_
                  refine po_split (j := 70) rfl ?_ ?_
                  · refine po_evs (T := tab) 4 rfl rfl ?_
                    refine po_nil ?_
                    refine pn_seq ?_
                    exact pw_retN (T := tab) rfl rfl rfl ⟨rfl, rfl⟩ trivial rfl
                  · refine po_evs (T := tab) 4 rfl rfl ?_
                    refine po_nil ?_
                    refine pn_seq ?_
                    exact pw_retN (T := tab) rfl rfl rfl ⟨rfl, rfl⟩ trivial rfl
                · refine po_evs (T := tab) 8 rfl rfl ?_
                  refine po_nil ?_
                  refine pn_seq ?_
                  exact pw_retN (T := tab) rfl rfl rfl ⟨rfl, rfl⟩ trivial rfl
              · refine po_evs (T := tab) 12 rfl rfl ?_
                refine po_nil ?_
                refine pn_seq ?_
                exact pw_retN (T := tab) rfl rfl rfl ⟨rfl, rfl⟩ trivial rfl
            · refine po_evs (T := tab) 19 rfl rfl ?_
              refine po_nil ?_
              refine pn_seq ?_
              exact pw_retN (T := tab) rfl rfl rfl ⟨rfl, rfl⟩ trivial rfl
          · refine po_evs (T := tab) 25 rfl rfl ?_
            refine po_nil ?_
            refine pn_seq ?_
            exact pw_retN (T := tab) rfl rfl rfl ⟨rfl, rfl⟩ trivial rfl
        · refine po_evs (T := tab) 32 rfl rfl ?_
          refine po_nil ?_
          refine pn_seq ?_
          exact pw_retN (T := tab) rfl rfl rfl ⟨rfl, rfl⟩ trivial rfl
      · refine po_evs (T := tab) 37 rfl rfl ?_
        refine po_nil ?_
        refine pn_seq ?_
        exact pw_retN (T := tab) rfl rfl rfl ⟨rfl, rfl⟩ trivial rfl
    · refine po_evs (T := tab) 41 rfl rfl ?_
      refine po_nil ?_
      refine pn_seq ?_
      exact pw_retN (T := tab) rfl rfl rfl ⟨rfl, rfl⟩ trivial rfl
  · refine po_evs (T := tab) 45 rfl rfl ?_
    refine po_nil ?_
    refine pn_seq ?_
    exact pw_retN (T := tab) rfl rfl rfl ⟨rfl, rfl⟩ trivial rfl

def Instarlaw24_short_l1 (l1 : (List Mark)) : Nat → Int → Option Bool
  | 0, _ => none
  | k1 + 1, i2 => cnd (decide (i2 < ((l1.length : Nat) : Int))) (bnd (idx l1 i2) fun y3 => cnd (decide (((y3.Name.length : Nat) : Int) > 300)) (some false) (bnd (idx l1 i2) fun y4 => cnd (decide (((y4.Old.length : Nat) : Int) > 300)) (some false) (bnd (idx l1 i2) fun y5 => cnd (decide (((y5.New.length : Nat) : Int) > 300)) (some false) (bnd (rng .i64 (i2 + 1)) fun i6 => (Instarlaw24_short_l1 l1 k1) i6)))) (some true)

def Instarlaw24_short_m (fu : Nat) (l1 : (List Mark)) : Option Bool := cnd (decide (((l1.length : Nat) : Int) > 200)) (some false) ((Instarlaw24_short_l1 l1) fu 0)

set_option maxHeartbeats 10000000 in
set_option maxRecDepth 100000 in
theorem Instarlaw24_short_ok (fu : Nat) (l1 : (List Mark)) : ∀ r, Instarlaw24_short_m fu l1 = some r → DC laidL Tryd.prog 8 [.sl 13 false (l1.map cMark)] (.v (.bool r)) := by
  intro r hr
  refine fc_intro (args := [.sl 13 false (l1.map cMark)]) (S := []) (N0 := []) (post := fun r p S => p = .v (.bool r) ∧ S = []) Tryd.func8 rfl rfl hr fun w0 X X0 σ0 _ => ?_
  refine pw_seq ?_
  refine pw_region ?_
  refine po_evs (T := tab) 1 rfl rfl ?_
  refine po_nil ?_
  refine pn_seq ?_
  refine pw_seq ?_
  refine pw_seq ?_
  refine pw_region ?_
  refine po_evs (T := tab) 1 rfl rfl ?_
  refine po_len (T := tab) cMark l1 rfl rfl rfl rfl rfl rfl rfl rfl ?_
  refine po_evs (T := tab) 1 rfl rfl ?_
  refine po_nil ?_
  refine pn_seq ?_
  refine pw_cnd rfl ?_ ?_
  · refine pw_seq ?_
    refine pw_region ?_
    refine po_evs (T := tab) 1 rfl rfl ?_
    refine po_nil ?_
    refine pn_seq ?_
    exact pw_retN (T := tab) rfl rfl rfl ⟨rfl, rfl⟩ trivial rfl
  · refine pw_skip ?_
    refine pn_seq ?_
    refine pw_seq ?_
    refine pw_seq ?_
    refine pw_region ?_
    refine po_evs (T := tab) 1 rfl rfl ?_
    refine po_nil ?_
    refine pn_seq ?_
    refine pw_block ?_
    refine pw_loop' (Instarlaw24_short_l1 l1) (fun (i2 : Int) => [(0, .sl 13 false (l1.map cMark)), (3, .v (.int .i64 i2))]) (fun (i2 : Int) => []) fu 0 (fun _ => rfl) ⟨rfl, rfl, trivial⟩ trivial rfl ?_
    rintro k1 i2
    refine pw_seq ?_
    refine pw_seq ?_
    refine pw_region ?_
    refine po_evs (T := tab) 2 rfl rfl ?_
    refine po_len (T := tab) cMark l1 rfl rfl rfl rfl rfl rfl rfl rfl ?_
    refine po_evs (T := tab) 1 rfl rfl ?_
    refine po_nil ?_
    refine pn_seq ?_
    refine pw_cnd rfl ?_ ?_
    · refine pw_skip ?_
      refine pn_seq ?_
      refine pw_seq ?_
      refine pw_block ?_
      refine pw_seq ?_
      refine pw_region ?_
      refine po_evs (T := tab) 2 rfl rfl ?_
      refine po_idx (T := tab) cMark l1 rfl rfl rfl rfl rfl rfl rfl fun y3 hy3 => ?_
      refine po_evs (T := tab) 5 rfl rfl ?_
      refine po_split (j := 20) rfl ?_ ?_
      · refine po_evs (T := tab) 17 rfl rfl ?_
        refine po_nil ?_
        refine pn_seq (pw_then rfl ?_)
        refine pw_seq ?_
        refine pw_region ?_
        refine po_evs (T := tab) 1 rfl rfl ?_
        refine po_nil ?_
        refine pn_seq ?_
        exact pw_retN (T := tab) rfl rfl rfl ⟨rfl, rfl⟩ trivial rfl
      · refine po_evs (T := tab) 2 rfl rfl ?_
        refine po_idx (T := tab) cMark l1 rfl rfl rfl rfl rfl rfl rfl fun y4 hy4 => ?_
        refine po_evs (T := tab) 6 rfl rfl ?_
        refine po_split (j := 29) rfl ?_ ?_
        · refine po_evs (T := tab) 8 rfl rfl ?_
          refine po_nil ?_
          refine pn_seq (pw_then rfl ?_)
          refine pw_seq ?_
          refine pw_region ?_
          refine po_evs (T := tab) 1 rfl rfl ?_
          refine po_nil ?_
          refine pn_seq ?_
          exact pw_retN (T := tab) rfl rfl rfl ⟨rfl, rfl⟩ trivial rfl
        · refine po_evs (T := tab) 2 rfl rfl ?_
          refine po_idx (T := tab) cMark l1 rfl rfl rfl rfl rfl rfl rfl fun y5 hy5 => ?_
          refine po_evs (T := tab) 5 rfl rfl ?_
          refine po_nil ?_
          refine pn_seq ?_
          refine pw_cnd rfl ?_ ?_
          · refine pw_seq ?_
            refine pw_region ?_
            refine po_evs (T := tab) 1 rfl rfl ?_
            refine po_nil ?_
            refine pn_seq ?_
            exact pw_retN (T := tab) rfl rfl rfl ⟨rfl, rfl⟩ trivial rfl
          · refine pw_skip ?_
            refine pn_block ?_
            refine pn_seq ?_
            refine pw_region ?_
            refine po_evs (T := tab) 1 rfl rfl ?_
            refine po_arith' (T := tab) rfl rfl rfl rfl fun i6 hi6 => ?_
            refine po_evs (T := tab) 1 rfl rfl ?_
            refine po_nil ?_
            exact pn_iter' i6 ⟨rfl, rfl, trivial⟩ trivial rfl
    · refine pw_exit rfl ?_
      refine pn_seq ?_
      refine pw_seq ?_
      refine pw_region ?_
      refine po_evs (T := tab) 1 rfl rfl ?_
      refine po_nil ?_
      refine pn_seq ?_
      exact pw_retN (T := tab) rfl rfl rfl ⟨rfl, rfl⟩ trivial rfl

def Instarref24_Word_m (_fu : Nat) (kind1 : Int) : Option Bs := cnd (kind1 == 1) (some [100, 105, 100]) (cnd (kind1 == 2) (some [98, 97, 100]) (cnd (kind1 == 3) (some [98, 101, 103, 97, 110]) (cnd (kind1 == 4) (some [101, 110, 100, 101, 100]) (cnd (kind1 == 5) (some [98, 101, 99, 97, 109, 101]) (cnd (kind1 == 6) (some [99, 97, 108, 108, 101, 100]) (cnd (kind1 == 7) (some [116, 111, 108, 100]) (cnd (kind1 == 8) (some [107, 101, 112, 116]) (cnd (kind1 == 9) (some [112, 101, 101, 107, 101, 100]) (cnd (kind1 == 10) (some [111, 118, 101, 114]) (some []))))))))))

set_option maxHeartbeats 10000000 in
set_option maxRecDepth 100000 in
theorem Instarref24_Word_ok (fu : Nat) (kind1 : Int) : ∀ r, Instarref24_Word_m fu kind1 = some r → DC laidL Tryd.prog 22 [.v (.int .i64 kind1)] (.v (.string ⟨⟨r⟩⟩)) := by
  intro r hr
  refine fc_intro (args := [.v (.int .i64 kind1)]) (S := []) (N0 := []) (post := fun r p S => p = .v (.string ⟨⟨r⟩⟩) ∧ S = []) Tryd.func22 rfl rfl hr fun w0 X X0 σ0 _ => ?_
  refine pw_seq ?_
  refine pw_region ?_
  refine po_evs (T := tab) 1 rfl rfl ?_
  refine po_nil ?_
  refine pn_seq ?_
  refine pw_seq ?_
  refine pw_seq ?_
  refine pw_region ?_
  refine po_evs (T := tab) 1 rfl rfl ?_
  refine po_nil ?_
  refine pn_seq ?_
  refine pw_block ?_
  refine pw_seq ?_
  refine pw_region ?_
  refine po_evs (T := tab) 2 rfl rfl ?_
  refine po_nil ?_
  refine pn_seq ?_
  refine pw_cnd rfl ?_ ?_
  · refine pw_seq ?_
    refine pw_region ?_
    refine po_evs (T := tab) 1 rfl rfl ?_
    refine po_nil ?_
    refine pn_seq ?_
    exact pw_retN (T := tab) rfl rfl rfl ⟨rfl, rfl⟩ trivial rfl
  · refine pw_seq ?_
    refine pw_region ?_
    refine po_evs (T := tab) 2 rfl rfl ?_
    refine po_nil ?_
    refine pn_seq ?_
    refine pw_cnd rfl ?_ ?_
    · refine pw_seq ?_
      refine pw_region ?_
      refine po_evs (T := tab) 1 rfl rfl ?_
      refine po_nil ?_
      refine pn_seq ?_
      exact pw_retN (T := tab) rfl rfl rfl ⟨rfl, rfl⟩ trivial rfl
    · refine pw_seq ?_
      refine pw_region ?_
      refine po_evs (T := tab) 2 rfl rfl ?_
      refine po_nil ?_
      refine pn_seq ?_
      refine pw_cnd rfl ?_ ?_
      · refine pw_seq ?_
        refine pw_region ?_
        refine po_evs (T := tab) 1 rfl rfl ?_
        refine po_nil ?_
        refine pn_seq ?_
        exact pw_retN (T := tab) rfl rfl rfl ⟨rfl, rfl⟩ trivial rfl
      · refine pw_seq ?_
        refine pw_region ?_
        refine po_evs (T := tab) 2 rfl rfl ?_
        refine po_nil ?_
        refine pn_seq ?_
        refine pw_cnd rfl ?_ ?_
        · refine pw_seq ?_
          refine pw_region ?_
          refine po_evs (T := tab) 1 rfl rfl ?_
          refine po_nil ?_
          refine pn_seq ?_
          exact pw_retN (T := tab) rfl rfl rfl ⟨rfl, rfl⟩ trivial rfl
        · refine pw_seq ?_
          refine pw_region ?_
          refine po_evs (T := tab) 2 rfl rfl ?_
          refine po_nil ?_
          refine pn_seq ?_
          refine pw_cnd rfl ?_ ?_
          · refine pw_seq ?_
            refine pw_region ?_
            refine po_evs (T := tab) 1 rfl rfl ?_
            refine po_nil ?_
            refine pn_seq ?_
            exact pw_retN (T := tab) rfl rfl rfl ⟨rfl, rfl⟩ trivial rfl
          · refine pw_seq ?_
            refine pw_region ?_
            refine po_evs (T := tab) 2 rfl rfl ?_
            refine po_nil ?_
            refine pn_seq ?_
            refine pw_cnd rfl ?_ ?_
            · refine pw_seq ?_
              refine pw_region ?_
              refine po_evs (T := tab) 1 rfl rfl ?_
              refine po_nil ?_
              refine pn_seq ?_
              exact pw_retN (T := tab) rfl rfl rfl ⟨rfl, rfl⟩ trivial rfl
            · refine pw_seq ?_
              refine pw_region ?_
              refine po_evs (T := tab) 2 rfl rfl ?_
              refine po_nil ?_
              refine pn_seq ?_
              refine pw_cnd rfl ?_ ?_
              · refine pw_seq ?_
                refine pw_region ?_
                refine po_evs (T := tab) 1 rfl rfl ?_
                refine po_nil ?_
                refine pn_seq ?_
                exact pw_retN (T := tab) rfl rfl rfl ⟨rfl, rfl⟩ trivial rfl
              · refine pw_seq ?_
                refine pw_region ?_
                refine po_evs (T := tab) 2 rfl rfl ?_
                refine po_nil ?_
                refine pn_seq ?_
                refine pw_cnd rfl ?_ ?_
                · refine pw_seq ?_
                  refine pw_region ?_
                  refine po_evs (T := tab) 1 rfl rfl ?_
                  refine po_nil ?_
                  refine pn_seq ?_
                  exact pw_retN (T := tab) rfl rfl rfl ⟨rfl, rfl⟩ trivial rfl
                · refine pw_seq ?_
                  refine pw_region ?_
                  refine po_evs (T := tab) 2 rfl rfl ?_
                  refine po_nil ?_
                  refine pn_seq ?_
                  refine pw_cnd rfl ?_ ?_
                  · refine pw_seq ?_
                    refine pw_region ?_
                    refine po_evs (T := tab) 1 rfl rfl ?_
                    refine po_nil ?_
                    refine pn_seq ?_
                    exact pw_retN (T := tab) rfl rfl rfl ⟨rfl, rfl⟩ trivial rfl
                  · refine pw_seq ?_
                    refine pw_region ?_
                    refine po_evs (T := tab) 2 rfl rfl ?_
                    refine po_nil ?_
                    refine pn_seq ?_
                    refine pw_cnd rfl ?_ ?_
                    · refine pw_seq ?_
                      refine pw_region ?_
                      refine po_evs (T := tab) 1 rfl rfl ?_
                      refine po_nil ?_
                      refine pn_seq ?_
                      exact pw_retN (T := tab) rfl rfl rfl ⟨rfl, rfl⟩ trivial rfl
                    · refine pw_skip ?_
                      refine pn_block ?_
                      refine pn_seq ?_
                      refine pw_seq ?_
                      refine pw_region ?_
                      refine po_evs (T := tab) 1 rfl rfl ?_
                      refine po_nil ?_
                      refine pn_seq ?_
                      exact pw_retN (T := tab) rfl rfl rfl ⟨rfl, rfl⟩ trivial rfl

def Instarref24_digits_l1 : Nat → Int × Bs → Option Bs
  | 0, _ => none
  | k1 + 1, (u4, out5) => cnd (decide (u4 ≥ 10)) (bnd (quoW .u64 u4 10) fun q6 => bnd (remI q6 10) fun m7 => bnd (rng .u8 (48 + (IntKind.u8.wrap m7))) fun i8 => bnd (cat (strOf [i8]) out5) fun s9 => (Instarref24_digits_l1 k1) (q6, s9)) (some out5)

def Instarref24_digits_m (fu : Nat) (u1 : Int) : Option Bs := bnd (remI u1 10) fun m2 => bnd (rng .u8 (48 + (IntKind.u8.wrap m2))) fun i3 => (Instarref24_digits_l1) fu (u1, (strOf [i3]))

set_option maxHeartbeats 10000000 in
set_option maxRecDepth 100000 in
theorem Instarref24_digits_ok (fu : Nat) (u1 : Int) : ∀ r, Instarref24_digits_m fu u1 = some r → DC laidL Tryd.prog 34 [.v (.int .u64 u1)] (.v (.string ⟨⟨r⟩⟩)) := by
  intro r hr
  refine fc_intro (args := [.v (.int .u64 u1)]) (S := []) (N0 := []) (post := fun r p S => p = .v (.string ⟨⟨r⟩⟩) ∧ S = []) Tryd.func34 rfl rfl hr fun w0 X X0 σ0 _ => ?_
  refine pw_seq ?_
  refine pw_region ?_
  refine po_evs (T := tab) 1 rfl rfl ?_
  refine po_nil ?_
  refine pn_seq ?_
  refine pw_seq ?_
  refine pw_region ?_
  refine po_evs (T := tab) 1 rfl rfl ?_
  refine po_rem rfl rfl rfl rfl rfl rfl fun m2 hm2 => ?_
  refine po_wrap (T := tab) rfl rfl rfl rfl ?_
  refine po_arith' (T := tab) rfl rfl rfl rfl fun i3 hi3 => ?_
  refine po_lit (T := tab) (rows := [i3].map cInt_u8) 8 rfl rfl rfl rfl rfl rfl rfl rfl rfl rfl rfl rfl rfl rfl ?_
  refine po_str (T := tab) cInt_u8 [i3] (fun _ => rfl) rfl rfl rfl rfl rfl rfl rfl rfl rfl ?_
  refine po_evs (T := tab) 1 rfl rfl ?_
  refine po_nil ?_
  refine pn_seq ?_
  refine pw_seq ?_
  refine pw_block ?_
  refine pw_loop' (Instarref24_digits_l1) (fun ((u4, out5) : Int × Bs) => [(0, .v (.int .u64 u4)), (3, .v (.string ⟨⟨out5⟩⟩))]) (fun ((u4, out5) : Int × Bs) => []) fu (u1, (strOf [i3])) (fun _ => rfl) ⟨rfl, rfl, trivial⟩ trivial rfl ?_
  rintro k1 ⟨u4, out5⟩
  refine pw_seq ?_
  refine pw_seq ?_
  refine pw_region ?_
  refine po_evs (T := tab) 2 rfl rfl ?_
  refine po_nil ?_
  refine pn_seq ?_
  refine pw_cnd rfl ?_ ?_
  · refine pw_skip ?_
    refine pn_seq ?_
    refine pw_block ?_
    refine pw_seq ?_
    refine pw_region ?_
    refine po_evs (T := tab) 1 rfl rfl ?_
    refine po_quo rfl rfl rfl rfl rfl rfl fun q6 hq6 => ?_
    refine po_evs (T := tab) 1 rfl rfl ?_
    refine po_nil ?_
    refine pn_seq ?_
    refine pw_region ?_
    refine po_evs (T := tab) 1 rfl rfl ?_
    refine po_rem rfl rfl rfl rfl rfl rfl fun m7 hm7 => ?_
    refine po_wrap (T := tab) rfl rfl rfl rfl ?_
    refine po_arith' (T := tab) rfl rfl rfl rfl fun i8 hi8 => ?_
    refine po_lit (T := tab) (rows := [i8].map cInt_u8) 18 rfl rfl rfl rfl rfl rfl rfl rfl rfl rfl rfl rfl rfl rfl ?_
    refine po_str (T := tab) cInt_u8 [i8] (fun _ => rfl) rfl rfl rfl rfl rfl rfl rfl rfl rfl ?_
    refine po_evs (T := tab) 1 rfl rfl ?_
    refine po_cat rfl rfl rfl rfl rfl rfl fun s9 hs9 => ?_
    refine po_evs (T := tab) 1 rfl rfl ?_
    refine po_nil ?_
    refine pn_block ?_
    exact pn_iter' (q6, s9) ⟨rfl, rfl, trivial⟩ trivial rfl
  · refine pw_exit rfl ?_
    refine pn_seq ?_
    refine pw_seq ?_
    refine pw_region ?_
    refine po_evs (T := tab) 2 rfl rfl ?_
    refine po_nil ?_
    refine pn_seq ?_
    exact pw_retN (T := tab) rfl rfl rfl ⟨rfl, rfl⟩ trivial rfl

def Instarref24_Number_m (fu : Nat) (n1 : Int) : Option Bs := cnd (decide (n1 < 0)) (bnd (Instarref24_digits_m fu (IntKind.u64.wrap (0 - (IntKind.u64.wrap n1)))) fun r2 => bnd (cat ([45] : Bs) r2) fun s3 => some s3) (bnd (Instarref24_digits_m fu (IntKind.u64.wrap n1)) fun r4 => some r4)

set_option maxRecDepth 100000 in
theorem Instarref24_Number_ok (fu : Nat) (n1 : Int) : ∀ r, Instarref24_Number_m fu n1 = some r → DC laidL Tryd.prog 23 [.v (.int .i64 n1)] (.v (.string ⟨⟨r⟩⟩)) := by
  intro r hr
  refine fc_intro (args := [.v (.int .i64 n1)]) (S := []) (N0 := []) (post := fun r p S => p = .v (.string ⟨⟨r⟩⟩) ∧ S = []) Tryd.func23 rfl rfl hr fun w0 X X0 σ0 _ => ?_
  refine pw_seq ?_
  refine pw_region ?_
  refine po_evs (T := tab) 1 rfl rfl ?_
  refine po_nil ?_
  refine pn_seq ?_
  refine pw_seq ?_
  refine pw_seq ?_
  refine pw_region ?_
  refine po_evs (T := tab) 2 rfl rfl ?_
  refine po_nil ?_
  refine pn_seq ?_
  refine pw_cnd rfl ?_ ?_
  · refine pw_seq ?_
    refine pw_region ?_
    refine po_evs (T := tab) 1 rfl rfl ?_
    refine po_wrap (T := tab) rfl rfl rfl rfl ?_
    refine po_wrap (T := tab) rfl rfl rfl rfl ?_
    refine po_call (enc := fun (r2 : Bs) => .v (.string ⟨⟨r2⟩⟩)) (qs := [.v (.int .u64 (IntKind.u64.wrap (0 - (IntKind.u64.wrap n1))))]) (Instarref24_digits_ok fu (IntKind.u64.wrap (0 - (IntKind.u64.wrap n1)))) rfl rfl ⟨⟨_, rfl, .rfl⟩, trivial⟩ (fun _ => rfl) call34 rfl rfl fun r2 hr2 => ?_
    refine po_cat rfl rfl rfl rfl rfl rfl fun s3 hs3 => ?_
    refine po_evs (T := tab) 1 rfl rfl ?_
    refine po_nil ?_
    refine pn_seq ?_
    exact pw_retN (T := tab) rfl rfl rfl ⟨rfl, rfl⟩ trivial rfl
  · refine pw_skip ?_
    refine pn_seq ?_
    refine pw_seq ?_
    refine pw_region ?_
    refine po_evs (T := tab) 1 rfl rfl ?_
    refine po_wrap (T := tab) rfl rfl rfl rfl ?_
    refine po_call (enc := fun (r4 : Bs) => .v (.string ⟨⟨r4⟩⟩)) (qs := [.v (.int .u64 (IntKind.u64.wrap n1))]) (Instarref24_digits_ok fu (IntKind.u64.wrap n1)) rfl rfl ⟨⟨_, rfl, .rfl⟩, trivial⟩ (fun _ => rfl) call34 rfl rfl fun r4 hr4 => ?_
    refine po_evs (T := tab) 1 rfl rfl ?_
    refine po_nil ?_
    refine pn_seq ?_
    exact pw_retN (T := tab) rfl rfl rfl ⟨rfl, rfl⟩ trivial rfl

def Instarref24_Text_j1 (s1 : Bs) (i3 : Int) (rc1 : (Bs × Int) → Option Bs) (out10 : Bs) : Option Bs := bnd (rng .i64 (i3 + 1)) fun i11 => bnd (piece s1 i3 i11) fun s12 => bnd (cat out10 s12) fun s13 => bnd (rng .i64 (i3 + 1)) fun i15 => rc1 (s13, i15)

def Instarref24_Text_l1 (s1 : Bs) : Nat → Bs × Int → Option Bs
  | 0, _ => none
  | k1 + 1, (out2, i3) => cnd (decide (i3 < ((s1.length : Nat) : Int))) (bnd (chr s1 i3) fun b4 => cnd (b4 == 10) (bnd (cat out2 ([92, 110] : Bs)) fun s5 => bnd (rng .i64 (i3 + 1)) fun i14 => (Instarref24_Text_l1 s1 k1) (s5, i14)) (bnd (chr s1 i3) fun b6 => cnd (b6 == 34) (bnd (cat out2 ([92] : Bs)) fun s8 => (Instarref24_Text_j1 s1 i3 (Instarref24_Text_l1 s1 k1)) s8) (bnd (chr s1 i3) fun b7 => cnd (b7 == 92) (bnd (cat out2 ([92] : Bs)) fun s9 => (Instarref24_Text_j1 s1 i3 (Instarref24_Text_l1 s1 k1)) s9) ((Instarref24_Text_j1 s1 i3 (Instarref24_Text_l1 s1 k1)) out2)))) (bnd (cat out2 ([34] : Bs)) fun s16 => some s16)

def Instarref24_Text_m (fu : Nat) (s1 : Bs) : Option Bs := (Instarref24_Text_l1 s1) fu ([34], 0)

set_option maxHeartbeats 10000000 in
set_option maxRecDepth 100000 in
theorem Instarref24_Text_ok (fu : Nat) (s1 : Bs) : ∀ r, Instarref24_Text_m fu s1 = some r → DC laidL Tryd.prog 24 [.v (.string ⟨⟨s1⟩⟩)] (.v (.string ⟨⟨r⟩⟩)) := by
  intro r hr
  refine fc_intro (args := [.v (.string ⟨⟨s1⟩⟩)]) (S := []) (N0 := []) (post := fun r p S => p = .v (.string ⟨⟨r⟩⟩) ∧ S = []) Tryd.func24 rfl rfl hr fun w0 X X0 σ0 _ => ?_
  refine pw_seq ?_
  refine pw_region ?_
  refine po_evs (T := tab) 1 rfl rfl ?_
  refine po_nil ?_
  refine pn_seq ?_
  refine pw_seq ?_
  refine pw_region ?_
  refine po_evs (T := tab) 1 rfl rfl ?_
  refine po_nil ?_
  refine pn_seq ?_
  refine pw_seq ?_
  refine pw_seq ?_
  refine pw_region ?_
  refine po_evs (T := tab) 1 rfl rfl ?_
  refine po_nil ?_
  refine pn_seq ?_
  refine pw_block ?_
  refine pw_loop' (Instarref24_Text_l1 s1) (fun ((out2, i3) : Bs × Int) => [(0, .v (.string ⟨⟨s1⟩⟩)), (3, .v (.string ⟨⟨out2⟩⟩)), (4, .v (.int .i64 i3))]) (fun ((out2, i3) : Bs × Int) => []) fu ([34], 0) (fun _ => rfl) ⟨rfl, rfl, rfl, trivial⟩ trivial rfl ?_
  rintro k1 ⟨out2, i3⟩
  refine pw_seq ?_
  refine pw_seq ?_
  refine pw_region ?_
  refine po_evs (T := tab) 4 rfl rfl ?_
  refine po_nil ?_
  refine pn_seq ?_
  refine pw_cnd rfl ?_ ?_
  · refine pw_skip ?_
    refine pn_seq ?_
    refine pw_seq ?_
    refine pw_block ?_
    refine pw_seq ?_
    refine pw_seq ?_
    refine pw_region ?_
    refine po_evs (T := tab) 2 rfl rfl ?_
    refine po_chr (T := tab) (s := s1) rfl rfl rfl rfl rfl rfl rfl fun b4 hb4 => ?_
    refine po_evs (T := tab) 1 rfl rfl ?_
    refine po_nil ?_
    refine pn_seq ?_
    refine pw_cnd rfl ?_ ?_
    · refine pw_seq ?_
      refine pw_region ?_
      refine po_evs (T := tab) 1 rfl rfl ?_
      refine po_cat rfl rfl rfl rfl rfl rfl fun s5 hs5 => ?_
      refine po_evs (T := tab) 1 rfl rfl ?_
      refine po_nil ?_
      refine pn_seq ?_
      refine pw_exit rfl ?_
      refine pn_seq ?_
      refine pw_region ?_
      refine po_evs (T := tab) 1 rfl rfl ?_
      refine po_arith' (T := tab) rfl rfl rfl rfl fun i14 hi14 => ?_
      refine po_evs (T := tab) 1 rfl rfl ?_
      refine po_nil ?_
      exact pn_iter' (s5, i14) ⟨rfl, rfl, rfl, trivial⟩ trivial rfl
    · refine pw_skip ?_
      refine pn_seq ?_
      refine pw_seq ?_
      refine pw_seq ?_
      refine pw_region ?_
      refine po_joinB (Instarref24_Text_j1 s1 i3 (Instarref24_Text_l1 s1 k1)) (fun (out10 : Bs) => [(0, .v (.string ⟨⟨s1⟩⟩)), (3, .v (.string ⟨⟨out10⟩⟩)), (4, .v (.int .i64 i3))]) (fun (out10 : Bs) => []) ?_ fun hj1 => ?_
      · rintro out10
        refine pn_seq ?_
        refine pw_region ?_
        refine po_evs (T := tab) 4 rfl rfl ?_
        refine po_arith' (T := tab) rfl rfl rfl rfl fun i11 hi11 => ?_
        refine po_sub (T := tab) rfl rfl rfl rfl rfl rfl rfl rfl fun s12 hs12 => ?_
        refine po_cat rfl rfl rfl rfl rfl rfl fun s13 hs13 => ?_
        refine po_evs (T := tab) 1 rfl rfl ?_
        refine po_nil ?_
        refine pn_block ?_
        refine pn_seq ?_
        refine pw_region ?_
        refine po_evs (T := tab) 1 rfl rfl ?_
        refine po_arith' (T := tab) rfl rfl rfl rfl fun i15 hi15 => ?_
        refine po_evs (T := tab) 1 rfl rfl ?_
        refine po_nil ?_
        exact pn_iter' (s13, i15) ⟨rfl, rfl, rfl, trivial⟩ trivial rfl
      · refine po_evs (T := tab) 2 rfl rfl ?_
        refine po_chr (T := tab) (s := s1) rfl rfl rfl rfl rfl rfl rfl fun b6 hb6 => ?_
        refine po_evs (T := tab) 2 rfl rfl ?_
        refine po_split (j := 21) rfl ?_ ?_
        · refine po_evs (T := tab) 5 rfl rfl ?_
          refine po_nil ?_
          refine pn_seq (pw_then rfl ?_)
          refine pw_region ?_
          refine po_evs (T := tab) 1 rfl rfl ?_
          refine po_cat rfl rfl rfl rfl rfl rfl fun s8 hs8 => ?_
          refine po_evs (T := tab) 1 rfl rfl ?_
          refine po_nil ?_
          exact pn_sub' (hj1 s8) ⟨rfl, rfl, rfl, trivial⟩ trivial rfl
        · refine po_evs (T := tab) 2 rfl rfl ?_
          refine po_chr (T := tab) (s := s1) rfl rfl rfl rfl rfl rfl rfl fun b7 hb7 => ?_
          refine po_evs (T := tab) 2 rfl rfl ?_
          refine po_nil ?_
          refine pn_seq ?_
          refine pw_cnd rfl ?_ ?_
          · refine pw_region ?_
            refine po_evs (T := tab) 1 rfl rfl ?_
            refine po_cat rfl rfl rfl rfl rfl rfl fun s9 hs9 => ?_
            refine po_evs (T := tab) 1 rfl rfl ?_
            refine po_nil ?_
            exact pn_sub' (hj1 s9) ⟨rfl, rfl, rfl, trivial⟩ trivial rfl
          · refine pw_skip ?_
            exact pn_sub' (hj1 out2) ⟨rfl, rfl, rfl, trivial⟩ trivial rfl
  · refine pw_exit rfl ?_
    refine pn_seq ?_
    refine pw_seq ?_
    refine pw_region ?_
    refine po_evs (T := tab) 1 rfl rfl ?_
    refine po_cat rfl rfl rfl rfl rfl rfl fun s16 hs16 => ?_
    refine po_evs (T := tab) 1 rfl rfl ?_
    refine po_nil ?_
    refine pn_seq ?_
    exact pw_retN (T := tab) rfl rfl rfl ⟨rfl, rfl⟩ trivial rfl

def Instarref24_truth_m (_fu : Nat) (b1 : Bool) : Option Bs := cnd b1 (some [32, 49]) (some [32, 48])

set_option maxRecDepth 100000 in
theorem Instarref24_truth_ok (fu : Nat) (b1 : Bool) : ∀ r, Instarref24_truth_m fu b1 = some r → DC laidL Tryd.prog 25 [.v (.bool b1)] (.v (.string ⟨⟨r⟩⟩)) := by
  intro r hr
  refine fc_intro (args := [.v (.bool b1)]) (S := []) (N0 := []) (post := fun r p S => p = .v (.string ⟨⟨r⟩⟩) ∧ S = []) Tryd.func25 rfl rfl hr fun w0 X X0 σ0 _ => ?_
  refine pw_seq ?_
  refine pw_region ?_
  refine po_evs (T := tab) 1 rfl rfl ?_
  refine po_nil ?_
  refine pn_seq ?_
  refine pw_seq ?_
  refine pw_seq ?_
  refine pw_region ?_
  refine po_evs (T := tab) 1 rfl rfl ?_
  refine po_nil ?_
  refine pn_seq ?_
  refine pw_cnd rfl ?_ ?_
  · refine pw_seq ?_
    refine pw_region ?_
    refine po_evs (T := tab) 1 rfl rfl ?_
    refine po_nil ?_
    refine pn_seq ?_
    exact pw_retN (T := tab) rfl rfl rfl ⟨rfl, rfl⟩ trivial rfl
  · refine pw_skip ?_
    refine pn_seq ?_
    refine pw_seq ?_
    refine pw_region ?_
    refine po_evs (T := tab) 1 rfl rfl ?_
    refine po_nil ?_
    refine pn_seq ?_
    exact pw_retN (T := tab) rfl rfl rfl ⟨rfl, rfl⟩ trivial rfl

def Instarref24_One_j1 (fu : Nat) (m1 : Mark) (s14 : Bs) (x_ : Unit) : Option Bs := bnd (cat s14 ([32] : Bs)) fun s15 => bnd (Instarref24_Text_m fu m1.Name) fun r16 => bnd (cat s15 r16) fun s17 => bnd (Instarref24_truth_m fu m1.Had) fun r18 => bnd (cat s17 r18) fun s19 => bnd (Instarref24_truth_m fu m1.Has) fun r20 => bnd (cat s19 r20) fun s21 => bnd (cat s21 ([32] : Bs)) fun s22 => bnd (Instarref24_Text_m fu m1.Old) fun r23 => bnd (cat s22 r23) fun s24 => bnd (cat s24 ([32] : Bs)) fun s25 => bnd (Instarref24_Text_m fu m1.New) fun r26 => bnd (cat s25 r26) fun s27 => bnd (cat s27 ([32] : Bs)) fun s28 => bnd (Instarref24_Number_m fu m1.From) fun r29 => bnd (cat s28 r29) fun s30 => bnd (cat s30 ([32] : Bs)) fun s31 => bnd (Instarref24_Number_m fu m1.To) fun r32 => bnd (cat s31 r32) fun s33 => bnd (Instarref24_truth_m fu m1.On) fun r34 => bnd (cat s33 r34) fun s35 => some s35

def Instarref24_One_m (fu : Nat) (m1 : Mark) : Option Bs := bnd (Instarref24_Word_m fu m1.Kind) fun r2 => bnd (cat r2 ([32] : Bs)) fun s3 => bnd (Instarref24_Number_m fu m1.Depth) fun r4 => bnd (cat s3 r4) fun s5 => bnd (cat s5 ([32] : Bs)) fun s6 => bnd (Instarref24_Number_m fu m1.Node) fun r7 => bnd (cat s6 r7) fun s8 => bnd (cat s8 ([32] : Bs)) fun s9 => bnd (Instarref24_Number_m fu m1.What) fun r10 => bnd (cat s9 r10) fun s11 => bnd (cat s11 ([32] : Bs)) fun s12 => bnd (Instarref24_Number_m fu m1.Err) fun r13 => bnd (cat s12 r13) fun s14 => cnd (m1.Name == ([] : Bs)) (cnd (!m1.Had) (cnd (!m1.Has) (cnd (m1.Old == ([] : Bs)) (cnd (m1.New == ([] : Bs)) (cnd (m1.From == 0) (cnd (m1.To == 0) (cnd (!m1.On) (some s14) ((Instarref24_One_j1 fu m1 s14) ())) ((Instarref24_One_j1 fu m1 s14) ())) ((Instarref24_One_j1 fu m1 s14) ())) ((Instarref24_One_j1 fu m1 s14) ())) ((Instarref24_One_j1 fu m1 s14) ())) ((Instarref24_One_j1 fu m1 s14) ())) ((Instarref24_One_j1 fu m1 s14) ())) ((Instarref24_One_j1 fu m1 s14) ())

set_option maxHeartbeats 10000000 in
set_option maxRecDepth 100000 in
theorem Instarref24_One_ok (fu : Nat) (m1 : Mark) : ∀ r, Instarref24_One_m fu m1 = some r → DC laidL Tryd.prog 10 [.agg (cMark m1)] (.v (.string ⟨⟨r⟩⟩)) := by
  intro r hr
  refine fc_intro (args := [.agg (cMark m1)]) (S := []) (N0 := []) (post := fun r p S => p = .v (.string ⟨⟨r⟩⟩) ∧ S = []) Tryd.func10 rfl rfl hr fun w0 X X0 σ0 _ => ?_
  refine pw_seq ?_
  refine pw_region ?_
  refine po_box  1 rfl rfl rfl rfl rfl rfl rfl rfl rfl rfl ?_
  refine po_evs (T := tab) 1 rfl rfl ?_
  refine po_nil ?_
  refine pn_seq ?_
  refine pw_seq ?_
  refine pw_draw mixed (by kernel_rfl) ?_
  refine pd_evs (T := tab) 2 rfl rfl ?_
  refine pd_call (enc := fun (r2 : Bs) => .v (.string ⟨⟨r2⟩⟩)) (qs := [.v (.int .i64 m1.Kind)]) (Instarref24_Word_ok fu m1.Kind) rfl rfl ⟨⟨_, rfl, .rfl⟩, trivial⟩ (fun _ => rfl) call22 rfl rfl fun r2 hr2 => ?_
  refine pd_cat rfl rfl rfl rfl rfl rfl fun s3 hs3 => ?_
  refine pd_evs (T := tab) 2 rfl rfl ?_
  refine pd_call (enc := fun (r4 : Bs) => .v (.string ⟨⟨r4⟩⟩)) (qs := [.v (.int .i64 m1.Depth)]) (Instarref24_Number_ok fu m1.Depth) rfl rfl ⟨⟨_, rfl, .rfl⟩, trivial⟩ (fun _ => rfl) call23 rfl rfl fun r4 hr4 => ?_
  refine pd_cat rfl rfl rfl rfl rfl rfl fun s5 hs5 => ?_
  refine pd_cat rfl rfl rfl rfl rfl rfl fun s6 hs6 => ?_
  refine pd_evs (T := tab) 2 rfl rfl ?_
  refine pd_call (enc := fun (r7 : Bs) => .v (.string ⟨⟨r7⟩⟩)) (qs := [.v (.int .i64 m1.Node)]) (Instarref24_Number_ok fu m1.Node) rfl rfl ⟨⟨_, rfl, .rfl⟩, trivial⟩ (fun _ => rfl) call23 rfl rfl fun r7 hr7 => ?_
  refine pd_cat rfl rfl rfl rfl rfl rfl fun s8 hs8 => ?_
  refine pd_cat rfl rfl rfl rfl rfl rfl fun s9 hs9 => ?_
  refine pd_evs (T := tab) 2 rfl rfl ?_
  refine pd_call (enc := fun (r10 : Bs) => .v (.string ⟨⟨r10⟩⟩)) (qs := [.v (.int .i64 m1.What)]) (Instarref24_Number_ok fu m1.What) rfl rfl ⟨⟨_, rfl, .rfl⟩, trivial⟩ (fun _ => rfl) call23 rfl rfl fun r10 hr10 => ?_
  refine pd_cat rfl rfl rfl rfl rfl rfl fun s11 hs11 => ?_
  refine pd_cat rfl rfl rfl rfl rfl rfl fun s12 hs12 => ?_
  refine pd_evs (T := tab) 2 rfl rfl ?_
  refine pd_call (enc := fun (r13 : Bs) => .v (.string ⟨⟨r13⟩⟩)) (qs := [.v (.int .i64 m1.Err)]) (Instarref24_Number_ok fu m1.Err) rfl rfl ⟨⟨_, rfl, .rfl⟩, trivial⟩ (fun _ => rfl) call23 rfl rfl fun r13 hr13 => ?_
  refine pd_cat rfl rfl rfl rfl rfl rfl fun s14 hs14 => ?_
  refine pd_evs (T := tab) 1 rfl rfl ?_
  refine pd_nil ?_
  refine pn_seq ?_
  refine pw_seq ?_
  refine pw_seq ?_
  refine pw_region ?_
  refine po_joinB (Instarref24_One_j1 fu m1 s14) (fun (_ : Unit) => [(1, .loc 1 0), (3, .v (.string ⟨⟨s14⟩⟩))]) (fun (_ : Unit) => [(1, .box 29 [.v (.int .i64 m1.Kind), .v (.int .i64 m1.Depth), .v (.int .i64 m1.Node), .v (.int .i64 m1.What), .v (.int .i64 m1.Err), .v (.string ⟨⟨m1.Name⟩⟩), .v (.bool m1.Had), .v (.bool m1.Has), .v (.string ⟨⟨m1.Old⟩⟩), .v (.string ⟨⟨m1.New⟩⟩), .v (.int .i64 m1.From), .v (.int .i64 m1.To), .v (.bool m1.On)])]) ?_ fun hj1 => ?_
  · rintro _
    refine pn_seq ?_
    refine pw_seq ?_
    refine pw_draw mixed (by kernel_rfl) ?_
    refine pd_evs (T := tab) 1 rfl rfl ?_
    refine pd_cat rfl rfl rfl rfl rfl rfl fun s15 hs15 => ?_
    refine pd_evs (T := tab) 2 rfl rfl ?_
    refine pd_call (enc := fun (r16 : Bs) => .v (.string ⟨⟨r16⟩⟩)) (qs := [.v (.string ⟨⟨m1.Name⟩⟩)]) (Instarref24_Text_ok fu m1.Name) rfl rfl ⟨⟨_, rfl, .rfl⟩, trivial⟩ (fun _ => rfl) call24 rfl rfl fun r16 hr16 => ?_
    refine pd_cat rfl rfl rfl rfl rfl rfl fun s17 hs17 => ?_
    refine pd_evs (T := tab) 2 rfl rfl ?_
    refine pd_call (enc := fun (r18 : Bs) => .v (.string ⟨⟨r18⟩⟩)) (qs := [.v (.bool m1.Had)]) (Instarref24_truth_ok fu m1.Had) rfl rfl ⟨⟨_, rfl, .rfl⟩, trivial⟩ (fun _ => rfl) call25 rfl rfl fun r18 hr18 => ?_
    refine pd_cat rfl rfl rfl rfl rfl rfl fun s19 hs19 => ?_
    refine pd_evs (T := tab) 2 rfl rfl ?_
    refine pd_call (enc := fun (r20 : Bs) => .v (.string ⟨⟨r20⟩⟩)) (qs := [.v (.bool m1.Has)]) (Instarref24_truth_ok fu m1.Has) rfl rfl ⟨⟨_, rfl, .rfl⟩, trivial⟩ (fun _ => rfl) call25 rfl rfl fun r20 hr20 => ?_
    refine pd_cat rfl rfl rfl rfl rfl rfl fun s21 hs21 => ?_
    refine pd_cat rfl rfl rfl rfl rfl rfl fun s22 hs22 => ?_
    refine pd_evs (T := tab) 2 rfl rfl ?_
    refine pd_call (enc := fun (r23 : Bs) => .v (.string ⟨⟨r23⟩⟩)) (qs := [.v (.string ⟨⟨m1.Old⟩⟩)]) (Instarref24_Text_ok fu m1.Old) rfl rfl ⟨⟨_, rfl, .rfl⟩, trivial⟩ (fun _ => rfl) call24 rfl rfl fun r23 hr23 => ?_
    refine pd_cat rfl rfl rfl rfl rfl rfl fun s24 hs24 => ?_
    refine pd_cat rfl rfl rfl rfl rfl rfl fun s25 hs25 => ?_
    refine pd_evs (T := tab) 2 rfl rfl ?_
    refine pd_call (enc := fun (r26 : Bs) => .v (.string ⟨⟨r26⟩⟩)) (qs := [.v (.string ⟨⟨m1.New⟩⟩)]) (Instarref24_Text_ok fu m1.New) rfl rfl ⟨⟨_, rfl, .rfl⟩, trivial⟩ (fun _ => rfl) call24 rfl rfl fun r26 hr26 => ?_
    refine pd_cat rfl rfl rfl rfl rfl rfl fun s27 hs27 => ?_
    refine pd_cat rfl rfl rfl rfl rfl rfl fun s28 hs28 => ?_
    refine pd_evs (T := tab) 2 rfl rfl ?_
    refine pd_call (enc := fun (r29 : Bs) => .v (.string ⟨⟨r29⟩⟩)) (qs := [.v (.int .i64 m1.From)]) (Instarref24_Number_ok fu m1.From) rfl rfl ⟨⟨_, rfl, .rfl⟩, trivial⟩ (fun _ => rfl) call23 rfl rfl fun r29 hr29 => ?_
    refine pd_cat rfl rfl rfl rfl rfl rfl fun s30 hs30 => ?_
    refine pd_cat rfl rfl rfl rfl rfl rfl fun s31 hs31 => ?_
    refine pd_evs (T := tab) 2 rfl rfl ?_
    refine pd_call (enc := fun (r32 : Bs) => .v (.string ⟨⟨r32⟩⟩)) (qs := [.v (.int .i64 m1.To)]) (Instarref24_Number_ok fu m1.To) rfl rfl ⟨⟨_, rfl, .rfl⟩, trivial⟩ (fun _ => rfl) call23 rfl rfl fun r32 hr32 => ?_
    refine pd_cat rfl rfl rfl rfl rfl rfl fun s33 hs33 => ?_
    refine pd_evs (T := tab) 2 rfl rfl ?_
    refine pd_call (enc := fun (r34 : Bs) => .v (.string ⟨⟨r34⟩⟩)) (qs := [.v (.bool m1.On)]) (Instarref24_truth_ok fu m1.On) rfl rfl ⟨⟨_, rfl, .rfl⟩, trivial⟩ (fun _ => rfl) call25 rfl rfl fun r34 hr34 => ?_
    refine pd_cat rfl rfl rfl rfl rfl rfl fun s35 hs35 => ?_
    refine pd_evs (T := tab) 1 rfl rfl ?_
    refine pd_nil ?_
    refine pn_seq ?_
    exact pw_retN (T := tab) rfl rfl rfl ⟨rfl, rfl⟩ trivial rfl
  · refine po_evs (T := tab) 4 rfl rfl ?_
    refine po_split (j := 30) rfl ?_ ?_
    · refine po_evs (T := tab) 5 rfl rfl ?_
      refine po_split (j := 35) rfl ?_ ?_
      · refine po_evs (T := tab) 5 rfl rfl ?_
        refine po_split (j := 40) rfl ?_ ?_
        · refine po_evs (T := tab) 5 rfl rfl ?_
          refine po_split (j := 45) rfl ?_ ?_
          · refine po_evs (T := tab) 5 rfl rfl ?_
            refine po_split (j := 50) rfl ?_ ?_
            · refine po_evs (T := tab) 5 rfl rfl ?_
              refine po_split (j := 55) rfl ?_ ?_
              · refine po_evs (T := tab) 5 rfl rfl ?_
                refine po_split (j := 60) rfl ?_ ?_
                · refine po_evs (T := tab) 4 rfl rfl ?_
                  refine po_nil ?_
                  refine pn_seq ?_
                  refine pw_cnd rfl ?_ ?_
                  · refine pw_seq ?_
                    refine pw_region ?_
                    refine po_evs (T := tab) 2 rfl rfl ?_
                    refine po_nil ?_
                    refine pn_seq ?_
                    exact pw_retN (T := tab) rfl rfl rfl ⟨rfl, rfl⟩ trivial rfl
                  · refine pw_skip ?_
                    exact pn_sub' (hj1 ()) ⟨rfl, rfl, trivial⟩ ⟨rfl, trivial⟩ rfl
                · refine po_evs (T := tab) 4 rfl rfl ?_
                  refine po_nil ?_
                  refine pn_seq (pw_else rfl ?_)
                  refine pw_skip ?_
                  exact pn_sub' (hj1 ()) ⟨rfl, rfl, trivial⟩ ⟨rfl, trivial⟩ rfl
              · refine po_evs (T := tab) 9 rfl rfl ?_
                refine po_nil ?_
                refine pn_seq (pw_else rfl ?_)
                refine pw_skip ?_
                exact pn_sub' (hj1 ()) ⟨rfl, rfl, trivial⟩ ⟨rfl, trivial⟩ rfl
            · refine po_evs (T := tab) 14 rfl rfl ?_
              refine po_nil ?_
              refine pn_seq (pw_else rfl ?_)
              refine pw_skip ?_
              exact pn_sub' (hj1 ()) ⟨rfl, rfl, trivial⟩ ⟨rfl, trivial⟩ rfl
          · refine po_evs (T := tab) 19 rfl rfl ?_
            refine po_nil ?_
            refine pn_seq (pw_else rfl ?_)
            refine pw_skip ?_
            exact pn_sub' (hj1 ()) ⟨rfl, rfl, trivial⟩ ⟨rfl, trivial⟩ rfl
        · refine po_evs (T := tab) 24 rfl rfl ?_
          refine po_nil ?_
          refine pn_seq (pw_else rfl ?_)
          refine pw_skip ?_
          exact pn_sub' (hj1 ()) ⟨rfl, rfl, trivial⟩ ⟨rfl, trivial⟩ rfl
      · refine po_evs (T := tab) 29 rfl rfl ?_
        refine po_nil ?_
        refine pn_seq (pw_else rfl ?_)
        refine pw_skip ?_
        exact pn_sub' (hj1 ()) ⟨rfl, rfl, trivial⟩ ⟨rfl, trivial⟩ rfl
    · refine po_evs (T := tab) 34 rfl rfl ?_
      refine po_nil ?_
      refine pn_seq (pw_else rfl ?_)
      refine pw_skip ?_
      exact pn_sub' (hj1 ()) ⟨rfl, rfl, trivial⟩ ⟨rfl, trivial⟩ rfl

def Instarref24_need_m (_fu : Nat) (c1 : Instarref24_Scan) (piece2 : Bs) : Option Instarref24_Scan := cnd c1.Bad (some (⟨c1.S, c1.At, true⟩ : Instarref24_Scan)) (bnd (rng .i64 (((c1.S.length : Nat) : Int) - c1.At)) fun i3 => cnd (decide (i3 < ((piece2.length : Nat) : Int))) (some (⟨c1.S, c1.At, true⟩ : Instarref24_Scan)) (bnd (rng .i64 (c1.At + ((piece2.length : Nat) : Int))) fun i4 => bnd (piece c1.S c1.At i4) fun s5 => cnd (!(s5 == piece2)) (some (⟨c1.S, c1.At, true⟩ : Instarref24_Scan)) (bnd (rng .i64 (c1.At + ((piece2.length : Nat) : Int))) fun i6 => some (⟨c1.S, i6, c1.Bad⟩ : Instarref24_Scan))))

set_option maxHeartbeats 10000000 in
set_option maxRecDepth 100000 in
theorem Instarref24_need_ok (fu : Nat) (c1 : Instarref24_Scan) (piece2 : Bs) : ∀ r, Instarref24_need_m fu c1 piece2 = some r → DC laidL Tryd.prog 42 [.agg (cInstarref24_Scan c1), .v (.string ⟨⟨piece2⟩⟩)] (.agg (cInstarref24_Scan r)) := by
  intro r hr
  refine fc_intro (args := [.agg (cInstarref24_Scan c1), .v (.string ⟨⟨piece2⟩⟩)]) (S := []) (N0 := []) (post := fun r p S => p = .agg (cInstarref24_Scan r) ∧ S = []) Tryd.func42 rfl rfl hr fun w0 X X0 σ0 _ => ?_
  refine pw_seq ?_
  refine pw_region ?_
  refine po_box  2 rfl rfl rfl rfl rfl rfl rfl rfl rfl rfl ?_
  refine po_alloc (T := tab) 4 rfl rfl rfl rfl rfl rfl rfl rfl rfl ?_
  refine po_nil ?_
  refine pn_seq ?_
  refine pw_seq ?_
  refine pw_seq ?_
  refine pw_region ?_
  refine po_evs (T := tab) 3 rfl rfl ?_
  refine po_split (j := 7) rfl ?_ ?_
  · refine po_evs (T := tab) 24 rfl rfl ?_
    refine po_nil ?_
    refine pn_seq (pw_then rfl ?_)
    refine pw_seq ?_
    refine pw_region ?_
    refine po_evs (T := tab) 1 rfl rfl ?_
    refine po_store (T := tab) rfl rfl rfl rfl rfl rfl rfl rfl rfl rfl rfl rfl ?_
    refine po_nil ?_
    refine pn_seq ?_
    refine pw_seq ?_
    refine pw_region ?_
    refine po_evs (T := tab) 1 rfl rfl ?_
    refine po_store (T := tab) rfl rfl rfl rfl rfl rfl rfl rfl rfl rfl rfl rfl ?_
    refine po_nil ?_
    refine pn_seq ?_
    exact pw_retN (T := tab) rfl rfl rfl ⟨rfl, rfl⟩ trivial rfl
  · refine po_evs (T := tab) 5 rfl rfl ?_
    refine po_arith' (T := tab) rfl rfl rfl rfl fun i3 hi3 => ?_
    refine po_evs (T := tab) 5 rfl rfl ?_
    refine po_split (j := 18) rfl ?_ ?_
    · refine po_evs (T := tab) 13 rfl rfl ?_
      refine po_nil ?_
      refine pn_seq (pw_then rfl ?_)
      refine pw_seq ?_
      refine pw_region ?_
      refine po_evs (T := tab) 1 rfl rfl ?_
      refine po_store (T := tab) rfl rfl rfl rfl rfl rfl rfl rfl rfl rfl rfl rfl ?_
      refine po_nil ?_
      refine pn_seq ?_
      refine pw_seq ?_
      refine pw_region ?_
      refine po_evs (T := tab) 1 rfl rfl ?_
      refine po_store (T := tab) rfl rfl rfl rfl rfl rfl rfl rfl rfl rfl rfl rfl ?_
      refine po_nil ?_
      refine pn_seq ?_
      exact pw_retN (T := tab) rfl rfl rfl ⟨rfl, rfl⟩ trivial rfl
    · refine po_evs (T := tab) 8 rfl rfl ?_
      refine po_arith' (T := tab) rfl rfl rfl rfl fun i4 hi4 => ?_
      refine po_sub (T := tab) rfl rfl rfl rfl rfl rfl rfl rfl fun s5 hs5 => ?_
      refine po_evs (T := tab) 3 rfl rfl ?_
      refine po_nil ?_
      refine pn_seq ?_
      refine pw_cnd rfl ?_ ?_
      · refine pw_seq ?_
        refine pw_region ?_
        refine po_evs (T := tab) 1 rfl rfl ?_
        refine po_store (T := tab) rfl rfl rfl rfl rfl rfl rfl rfl rfl rfl rfl rfl ?_
        refine po_nil ?_
        refine pn_seq ?_
        refine pw_seq ?_
        refine pw_region ?_
        refine po_evs (T := tab) 1 rfl rfl ?_
        refine po_store (T := tab) rfl rfl rfl rfl rfl rfl rfl rfl rfl rfl rfl rfl ?_
        refine po_nil ?_
        refine pn_seq ?_
        exact pw_retN (T := tab) rfl rfl rfl ⟨rfl, rfl⟩ trivial rfl
      · refine pw_skip ?_
        refine pn_seq ?_
        refine pw_seq ?_
        refine pw_region ?_
        refine po_evs (T := tab) 4 rfl rfl ?_
        refine po_arith' (T := tab) rfl rfl rfl rfl fun i6 hi6 => ?_
        refine po_evs (T := tab) 1 rfl rfl ?_
        refine po_store (T := tab) rfl rfl rfl rfl rfl rfl rfl rfl rfl rfl rfl rfl ?_
        refine po_nil ?_
        refine pn_seq ?_
        refine pw_seq ?_
        refine pw_region ?_
        refine po_evs (T := tab) 1 rfl rfl ?_
        refine po_store (T := tab) rfl rfl rfl rfl rfl rfl rfl rfl rfl rfl rfl rfl ?_
        refine po_nil ?_
        refine pn_seq ?_
        exact pw_retN (T := tab) rfl rfl rfl ⟨rfl, rfl⟩ trivial rfl

def Instarref24_number_j4 (r2 : Instarref24_Scan) (minus4 : Bool) (u14 : Int) (c15 : Int) (x_ : Unit) : Option (Int × Instarref24_Scan) := cnd minus4 (some ((IntKind.i64.wrap (IntKind.u64.wrap (0 - u14))), (⟨r2.S, c15, r2.Bad⟩ : Instarref24_Scan))) (some ((IntKind.i64.wrap u14), (⟨r2.S, c15, r2.Bad⟩ : Instarref24_Scan)))

def Instarref24_number_j3 (r2 : Instarref24_Scan) (minus4 : Bool) (c6 : Int) (x_ : Int × Int) : Option (Int × Instarref24_Scan) := match x_ with
  | (u14, c15) => cnd r2.Bad (some (0, (⟨r2.S, c15, true⟩ : Instarref24_Scan))) (cnd (c15 == c6) (some (0, (⟨r2.S, c15, true⟩ : Instarref24_Scan))) (bnd (chr r2.S c6) fun b16 => cnd (b16 == 48) (bnd (rng .i64 (c6 + 1)) fun i17 => cnd (decide (c15 > i17)) (some (0, (⟨r2.S, c15, true⟩ : Instarref24_Scan))) (cnd minus4 (some (0, (⟨r2.S, c15, true⟩ : Instarref24_Scan))) (cnd (!minus4) (cnd (u14 == 9223372036854775808) (some (0, (⟨r2.S, c15, true⟩ : Instarref24_Scan))) ((Instarref24_number_j4 r2 minus4 u14 c15) ())) ((Instarref24_number_j4 r2 minus4 u14 c15) ())))) (cnd (!minus4) (cnd (u14 == 9223372036854775808) (some (0, (⟨r2.S, c15, true⟩ : Instarref24_Scan))) ((Instarref24_number_j4 r2 minus4 u14 c15) ())) ((Instarref24_number_j4 r2 minus4 u14 c15) ()))))

def Instarref24_number_l1 (r2 : Instarref24_Scan) (minus4 : Bool) (c6 : Int) : Nat → Int × Int → Option (Int × Instarref24_Scan)
  | 0, _ => none
  | k1 + 1, (u7, c8) => cnd (!r2.Bad) (cnd (decide (c8 < ((r2.S.length : Nat) : Int))) (bnd (chr r2.S c8) fun b9 => cnd (decide (b9 ≥ 48)) (bnd (chr r2.S c8) fun b10 => cnd (decide (b10 ≤ 57)) (bnd (chr r2.S c8) fun b11 => bnd (rng .u8 (b11 - 48)) fun i12 => cnd (decide (u7 > 922337203685477580)) (some (0, (⟨r2.S, c8, true⟩ : Instarref24_Scan))) (cnd (decide ((IntKind.u64.wrap (u7 * 10)) > (IntKind.u64.wrap (9223372036854775808 - (IntKind.u64.wrap i12))))) (some (0, (⟨r2.S, c8, true⟩ : Instarref24_Scan))) (bnd (rng .i64 (c8 + 1)) fun i13 => (Instarref24_number_l1 r2 minus4 c6 k1) ((IntKind.u64.wrap ((IntKind.u64.wrap (u7 * 10)) + (IntKind.u64.wrap i12))), i13)))) ((Instarref24_number_j3 r2 minus4 c6) (u7, c8))) ((Instarref24_number_j3 r2 minus4 c6) (u7, c8))) ((Instarref24_number_j3 r2 minus4 c6) (u7, c8))) ((Instarref24_number_j3 r2 minus4 c6) (u7, c8))

def Instarref24_number_j2 (fu : Nat) (r2 : Instarref24_Scan) (minus4 : Bool) (c6 : Int) : Option (Int × Instarref24_Scan) := (Instarref24_number_l1 r2 minus4 c6) fu (0, c6)

def Instarref24_number_j1 (fu : Nat) (r2 : Instarref24_Scan) (minus4 : Bool) : Option (Int × Instarref24_Scan) := cnd minus4 (bnd (rng .i64 (r2.At + 1)) fun i5 => (Instarref24_number_j2 fu r2 minus4) i5) ((Instarref24_number_j2 fu r2 minus4) r2.At)

def Instarref24_number_m (fu : Nat) (c1 : Instarref24_Scan) : Option (Int × Instarref24_Scan) := bnd (Instarref24_need_m fu c1 [32]) fun r2 => cnd (!r2.Bad) (cnd (decide (r2.At < ((r2.S.length : Nat) : Int))) (bnd (chr r2.S r2.At) fun b3 => (Instarref24_number_j1 fu r2) (b3 == 45)) ((Instarref24_number_j1 fu r2) false)) ((Instarref24_number_j1 fu r2) false)

set_option maxHeartbeats 10000000 in
set_option maxRecDepth 100000 in
theorem Instarref24_number_ok (fu : Nat) (c1 : Instarref24_Scan) : ∀ r, Instarref24_number_m fu c1 = some r → DC laidL Tryd.prog 43 [.agg (cInstarref24_Scan c1)] (.tup [.v (.int .i64 r.1), .agg (cInstarref24_Scan r.2)]) := by
  intro r hr
  refine fc_intro (args := [.agg (cInstarref24_Scan c1)]) (S := []) (N0 := []) (post := fun r p S => p = .tup [.v (.int .i64 r.1), .agg (cInstarref24_Scan r.2)] ∧ S = []) Tryd.func43 rfl rfl hr fun w0 X X0 σ0 _ => ?_
  refine pw_seq ?_
  refine pw_region ?_
  refine po_box  1 rfl rfl rfl rfl rfl rfl rfl rfl rfl rfl ?_
  refine po_evs (T := tab) 1 rfl rfl ?_
  refine po_alloc (T := tab) 3 rfl rfl rfl rfl rfl rfl rfl rfl rfl ?_
  refine po_nil ?_
  refine pn_seq ?_
  refine pw_seq ?_
  refine pw_region ?_
  refine po_evs (T := tab) 1 rfl rfl ?_
  refine po_call (enc := fun (r2 : Instarref24_Scan) => .agg (cInstarref24_Scan r2)) (qs := [.agg (cInstarref24_Scan c1), .v (.string ⟨⟨[32]⟩⟩)]) (Instarref24_need_ok fu c1 [32]) rfl rfl ⟨⟨_, rfl, .rfl⟩, ⟨_, rfl, .rfl⟩, trivial⟩ (fun _ => rfl) call42 rfl rfl fun r2 hr2 => ?_
  refine po_store (T := tab) rfl rfl rfl rfl rfl rfl rfl rfl rfl rfl rfl rfl ?_
  refine po_nil ?_
  refine pn_seq ?_
  refine pw_seq ?_
  refine pw_region ?_
  refine po_joinK (Instarref24_number_j1 fu r2) (fun (minus4 : Bool) => [(1, .loc 1 0), (3, .loc 3 0), (4, .v (.bool minus4))]) (fun (minus4 : Bool) => [(3, .box 70 [.v (.string ⟨⟨[]⟩⟩), .v (.int .i64 0), .v (.bool false)]), (1, .box 70 [.v (.string ⟨⟨r2.S⟩⟩), .v (.int .i64 r2.At), .v (.bool r2.Bad)])]) ?_ fun hj1 => ?_
  · rintro minus4
    refine pn_seq ?_
    refine pw_seq ?_
    refine pw_seq ?_
    refine pw_region ?_
    refine po_evs (T := tab) 1 rfl rfl ?_
    refine po_nil ?_
    refine pn_seq ?_
    refine pw_joinK (Instarref24_number_j2 fu r2 minus4) (fun (c6 : Int) => [(1, .loc 1 0), (3, .loc 3 0), (4, .v (.bool minus4))]) (fun (c6 : Int) => [(3, .box 70 [.v (.string ⟨⟨[]⟩⟩), .v (.int .i64 0), .v (.bool false)]), (1, .box 70 [.v (.string ⟨⟨r2.S⟩⟩), .v (.int .i64 c6), .v (.bool r2.Bad)])]) ?_ fun hj2 => ?_
    · rintro c6
      refine pn_seq ?_
      refine pw_seq ?_
      refine pw_region ?_
      refine po_evs (T := tab) 3 rfl rfl ?_
      refine po_nil ?_
      refine pn_seq ?_
      refine pw_seq ?_
      refine pw_region ?_
      refine po_evs (T := tab) 1 rfl rfl ?_
      refine po_nil ?_
      refine pn_seq ?_
      refine pw_seq ?_
      refine pw_joinK (Instarref24_number_j3 r2 minus4 c6) (fun ((u14, c15) : Int × Int) => [(1, .loc 1 0), (3, .loc 3 0), (4, .v (.bool minus4)), (5, .v (.int .i64 c6)), (6, .v (.int .u64 u14))]) (fun ((u14, c15) : Int × Int) => [(3, .box 70 [.v (.string ⟨⟨[]⟩⟩), .v (.int .i64 0), .v (.bool false)]), (1, .box 70 [.v (.string ⟨⟨r2.S⟩⟩), .v (.int .i64 c15), .v (.bool r2.Bad)])]) ?_ fun hj3 => ?_
      · rintro ⟨u14, c15⟩
        refine pn_seq ?_
        refine pw_seq ?_
        refine pw_seq ?_
        refine pw_region ?_
        refine po_joinB (Instarref24_number_j4 r2 minus4 u14 c15) (fun (_ : Unit) => [(1, .loc 1 0), (3, .loc 3 0), (4, .v (.bool minus4)), (6, .v (.int .u64 u14))]) (fun (_ : Unit) => [(3, .box 70 [.v (.string ⟨⟨[]⟩⟩), .v (.int .i64 0), .v (.bool false)]), (1, .box 70 [.v (.string ⟨⟨r2.S⟩⟩), .v (.int .i64 c15), .v (.bool r2.Bad)])]) ?_ fun hj4 => ?_
        · rintro _
          refine pn_seq ?_
          refine pw_seq ?_
          refine pw_seq ?_
          refine pw_region ?_
          refine po_evs (T := tab) 1 rfl rfl ?_
          refine po_nil ?_
          refine pn_seq ?_
          refine pw_cnd rfl ?_ ?_
          · refine pw_seq ?_
            refine pw_sub' (E' := [(1, .loc 1 0), (3, .loc 3 0), (6, .v (.int .u64 u14))]) (S' := [(3, .box 70 [.v (.string ⟨⟨[]⟩⟩), .v (.int .i64 0), .v (.bool false)]), (1, .box 70 [.v (.string ⟨⟨r2.S⟩⟩), .v (.int .i64 c15), .v (.bool r2.Bad)])]) ?_ ⟨rfl, rfl, rfl, trivial⟩ ⟨rfl, rfl, trivial⟩ rfl
            refine pw_drawV [0, 1, 3, 0, 7, 31] mixed (by kernel_rfl) (by kernel_rfl) rfl rfl ?_
            refine pdv_step0 [12] [250] [] [] [] [(125, .v (.int .u64 u14))] [] rfl rfl rfl rfl (by kernel_rfl) (by kernel_rfl) (by kernel_rfl) trivial (fun w0 X X0 σ0 _ => by refine po_evs (T := tab) 1 rfl rfl ?_; refine po_nil ?_; exact pn_end0 ⟨rfl, trivial⟩ trivial rfl) ?_
            refine pdv_step0 [250] [252] [] [] [] [(126, .v (.int .u64 (IntKind.u64.wrap (0 - u14))))] [] rfl rfl rfl rfl (by kernel_rfl) (by kernel_rfl) (by kernel_rfl) trivial (fun w0 X X0 σ0 _ => by refine po_wrap (T := tab) rfl rfl rfl rfl ?_; refine po_nil ?_; exact pn_end0 ⟨rfl, trivial⟩ trivial rfl) ?_
            refine pdv_step0 [252] [254] [] [] [] [(127, .v (.int .i64 (IntKind.i64.wrap (IntKind.u64.wrap (0 - u14)))))] [] rfl rfl rfl rfl (by kernel_rfl) (by kernel_rfl) (by kernel_rfl) trivial (fun w0 X X0 σ0 _ => by refine po_wrap (T := tab) rfl rfl rfl rfl ?_; refine po_nil ?_; exact pn_end0 ⟨rfl, trivial⟩ trivial rfl) ?_
            refine pdv_step0 [2, 3] [256] [] [1] [1] [(128, .agg [.v (.string ⟨⟨r2.S⟩⟩), .v (.int .i64 c15), .v (.bool r2.Bad)])] [(1, .box 70 [.v (.string ⟨⟨r2.S⟩⟩), .v (.int .i64 c15), .v (.bool r2.Bad)])] rfl rfl rfl rfl (by kernel_rfl) (by kernel_rfl) (by kernel_rfl) ⟨rfl, trivial⟩ (fun w0 X X0 σ0 _ => by refine po_evs (T := tab) 1 rfl rfl ?_; refine po_nil ?_; exact pn_end0 ⟨rfl, trivial⟩ ⟨rfl, trivial⟩ rfl) ?_
            refine pdv_step0 [254] [4] [] [] [] [(2, .v (.int .i64 (IntKind.i64.wrap (IntKind.u64.wrap (0 - u14)))))] [] rfl rfl rfl rfl (by kernel_rfl) (by kernel_rfl) (by kernel_rfl) trivial (fun w0 X X0 σ0 _ => by refine po_evs (T := tab) 1 rfl rfl ?_; refine po_nil ?_; exact pn_end0 ⟨rfl, trivial⟩ trivial rfl) ?_
            refine pdv_step0 [6, 7, 256] [7] [] [3] [] [] [(3, .box 70 [.v (.string ⟨⟨r2.S⟩⟩), .v (.int .i64 c15), .v (.bool r2.Bad)])] rfl rfl rfl rfl (by kernel_rfl) (by kernel_rfl) (by kernel_rfl) trivial (fun w0 X X0 σ0 _ => by refine po_store (T := tab) rfl rfl rfl rfl rfl rfl rfl rfl rfl rfl rfl rfl ?_; refine po_nil ?_; exact pn_end0 trivial ⟨rfl, trivial⟩ rfl) ?_
            refine pdv_nil rfl rfl ?_
            refine pn_seq ?_
            exact pw_retN (T := tab) rfl rfl rfl ⟨rfl, rfl⟩ trivial rfl
          · refine pw_skip ?_
            refine pn_seq ?_
            refine pw_seq ?_
            refine pw_sub' (E' := [(1, .loc 1 0), (3, .loc 3 0), (6, .v (.int .u64 u14))]) (S' := [(3, .box 70 [.v (.string ⟨⟨[]⟩⟩), .v (.int .i64 0), .v (.bool false)]), (1, .box 70 [.v (.string ⟨⟨r2.S⟩⟩), .v (.int .i64 c15), .v (.bool r2.Bad)])]) ?_ ⟨rfl, rfl, rfl, trivial⟩ ⟨rfl, rfl, trivial⟩ rfl
            refine pw_drawV [0, 1, 0, 3, 15] mixed (by kernel_rfl) (by kernel_rfl) rfl rfl ?_
            refine pdv_step0 [12] [258] [] [] [] [(129, .v (.int .u64 u14))] [] rfl rfl rfl rfl (by kernel_rfl) (by kernel_rfl) (by kernel_rfl) trivial (fun w0 X X0 σ0 _ => by refine po_evs (T := tab) 1 rfl rfl ?_; refine po_nil ?_; exact pn_end0 ⟨rfl, trivial⟩ trivial rfl) ?_
            refine pdv_step0 [258] [260] [] [] [] [(130, .v (.int .i64 (IntKind.i64.wrap u14)))] [] rfl rfl rfl rfl (by kernel_rfl) (by kernel_rfl) (by kernel_rfl) trivial (fun w0 X X0 σ0 _ => by refine po_wrap (T := tab) rfl rfl rfl rfl ?_; refine po_nil ?_; exact pn_end0 ⟨rfl, trivial⟩ trivial rfl) ?_
            refine pdv_step0 [2, 3] [262] [] [1] [1] [(131, .agg [.v (.string ⟨⟨r2.S⟩⟩), .v (.int .i64 c15), .v (.bool r2.Bad)])] [(1, .box 70 [.v (.string ⟨⟨r2.S⟩⟩), .v (.int .i64 c15), .v (.bool r2.Bad)])] rfl rfl rfl rfl (by kernel_rfl) (by kernel_rfl) (by kernel_rfl) ⟨rfl, trivial⟩ (fun w0 X X0 σ0 _ => by refine po_evs (T := tab) 1 rfl rfl ?_; refine po_nil ?_; exact pn_end0 ⟨rfl, trivial⟩ ⟨rfl, trivial⟩ rfl) ?_
            refine pdv_step0 [260] [4] [] [] [] [(2, .v (.int .i64 (IntKind.i64.wrap u14)))] [] rfl rfl rfl rfl (by kernel_rfl) (by kernel_rfl) (by kernel_rfl) trivial (fun w0 X X0 σ0 _ => by refine po_evs (T := tab) 1 rfl rfl ?_; refine po_nil ?_; exact pn_end0 ⟨rfl, trivial⟩ trivial rfl) ?_
            refine pdv_step0 [6, 7, 262] [7] [] [3] [] [] [(3, .box 70 [.v (.string ⟨⟨r2.S⟩⟩), .v (.int .i64 c15), .v (.bool r2.Bad)])] rfl rfl rfl rfl (by kernel_rfl) (by kernel_rfl) (by kernel_rfl) trivial (fun w0 X X0 σ0 _ => by refine po_store (T := tab) rfl rfl rfl rfl rfl rfl rfl rfl rfl rfl rfl rfl ?_; refine po_nil ?_; exact pn_end0 trivial ⟨rfl, trivial⟩ rfl) ?_
            refine pdv_nil rfl rfl ?_
            refine pn_seq ?_
            exact pw_retN (T := tab) rfl rfl rfl ⟨rfl, rfl⟩ trivial rfl
        · refine po_evs (T := tab) 3 rfl rfl ?_
          refine po_split (j := 91) rfl ?_ ?_
          · refine po_evs (T := tab) 30 rfl rfl ?_
            refine po_nil ?_
            refine pn_seq (pw_then rfl ?_)
            refine pw_seq ?_
            refine pw_region ?_
            refine po_evs (T := tab) 1 rfl rfl ?_
            refine po_store (T := tab) rfl rfl rfl rfl rfl rfl rfl rfl rfl rfl rfl rfl ?_
            refine po_nil ?_
            refine pn_seq ?_
            refine pw_seq ?_
            refine pw_sub' (E' := [(1, .loc 1 0), (3, .loc 3 0)]) (S' := [(3, .box 70 [.v (.string ⟨⟨[]⟩⟩), .v (.int .i64 0), .v (.bool false)]), (1, .box 70 [.v (.string ⟨⟨r2.S⟩⟩), .v (.int .i64 c15), .v (.bool true)])]) ?_ ⟨rfl, rfl, trivial⟩ ⟨rfl, rfl, trivial⟩ rfl
            refine pw_drawV [0, 0, 3] mixed (by kernel_rfl) (by kernel_rfl) rfl rfl ?_
            refine pdv_step0 [2, 3] [246] [] [1] [1] [(123, .agg [.v (.string ⟨⟨r2.S⟩⟩), .v (.int .i64 c15), .v (.bool true)])] [(1, .box 70 [.v (.string ⟨⟨r2.S⟩⟩), .v (.int .i64 c15), .v (.bool true)])] rfl rfl rfl rfl (by kernel_rfl) (by kernel_rfl) (by kernel_rfl) ⟨rfl, trivial⟩ (fun w0 X X0 σ0 _ => by refine po_evs (T := tab) 1 rfl rfl ?_; refine po_nil ?_; exact pn_end0 ⟨rfl, trivial⟩ ⟨rfl, trivial⟩ rfl) ?_
            refine pdv_step0 [] [4] [] [] [] [(2, .v (.int .i64 0))] [] rfl rfl rfl rfl (by kernel_rfl) (by kernel_rfl) (by kernel_rfl) trivial (fun w0 X X0 σ0 _ => by refine po_evs (T := tab) 1 rfl rfl ?_; refine po_nil ?_; exact pn_end0 ⟨rfl, trivial⟩ trivial rfl) ?_
            refine pdv_step0 [6, 7, 246] [7] [] [3] [] [] [(3, .box 70 [.v (.string ⟨⟨r2.S⟩⟩), .v (.int .i64 c15), .v (.bool true)])] rfl rfl rfl rfl (by kernel_rfl) (by kernel_rfl) (by kernel_rfl) trivial (fun w0 X X0 σ0 _ => by refine po_store (T := tab) rfl rfl rfl rfl rfl rfl rfl rfl rfl rfl rfl rfl ?_; refine po_nil ?_; exact pn_end0 trivial ⟨rfl, trivial⟩ rfl) ?_
            refine pdv_nil rfl rfl ?_
            refine pn_seq ?_
            exact pw_retN (T := tab) rfl rfl rfl ⟨rfl, rfl⟩ trivial rfl
          · refine po_evs (T := tab) 6 rfl rfl ?_
            refine po_split (j := 97) rfl ?_ ?_
            · refine po_evs (T := tab) 24 rfl rfl ?_
              refine po_nil ?_
              refine pn_seq (pw_then rfl ?_)
              refine pw_seq ?_
              refine pw_region ?_
              refine po_evs (T := tab) 1 rfl rfl ?_
              refine po_store (T := tab) rfl rfl rfl rfl rfl rfl rfl rfl rfl rfl rfl rfl ?_
              refine po_nil ?_
              refine pn_seq ?_
              refine pw_seq ?_
              refine pw_sub' (E' := [(1, .loc 1 0), (3, .loc 3 0)]) (S' := [(3, .box 70 [.v (.string ⟨⟨[]⟩⟩), .v (.int .i64 0), .v (.bool false)]), (1, .box 70 [.v (.string ⟨⟨r2.S⟩⟩), .v (.int .i64 c15), .v (.bool true)])]) ?_ ⟨rfl, rfl, trivial⟩ ⟨rfl, rfl, trivial⟩ rfl
              refine pw_drawV [0, 0, 3] mixed (by kernel_rfl) (by kernel_rfl) rfl rfl ?_
              refine pdv_step0 [2, 3] [246] [] [1] [1] [(123, .agg [.v (.string ⟨⟨r2.S⟩⟩), .v (.int .i64 c15), .v (.bool true)])] [(1, .box 70 [.v (.string ⟨⟨r2.S⟩⟩), .v (.int .i64 c15), .v (.bool true)])] rfl rfl rfl rfl (by kernel_rfl) (by kernel_rfl) (by kernel_rfl) ⟨rfl, trivial⟩ (fun w0 X X0 σ0 _ => by refine po_evs (T := tab) 1 rfl rfl ?_; refine po_nil ?_; exact pn_end0 ⟨rfl, trivial⟩ ⟨rfl, trivial⟩ rfl) ?_
              refine pdv_step0 [] [4] [] [] [] [(2, .v (.int .i64 0))] [] rfl rfl rfl rfl (by kernel_rfl) (by kernel_rfl) (by kernel_rfl) trivial (fun w0 X X0 σ0 _ => by refine po_evs (T := tab) 1 rfl rfl ?_; refine po_nil ?_; exact pn_end0 ⟨rfl, trivial⟩ trivial rfl) ?_
              refine pdv_step0 [6, 7, 246] [7] [] [3] [] [] [(3, .box 70 [.v (.string ⟨⟨r2.S⟩⟩), .v (.int .i64 c15), .v (.bool true)])] rfl rfl rfl rfl (by kernel_rfl) (by kernel_rfl) (by kernel_rfl) trivial (fun w0 X X0 σ0 _ => by refine po_store (T := tab) rfl rfl rfl rfl rfl rfl rfl rfl rfl rfl rfl rfl ?_; refine po_nil ?_; exact pn_end0 trivial ⟨rfl, trivial⟩ rfl) ?_
              refine pdv_nil rfl rfl ?_
              refine pn_seq ?_
              exact pw_retN (T := tab) rfl rfl rfl ⟨rfl, rfl⟩ trivial rfl
            · refine po_evs (T := tab) 3 rfl rfl ?_
              refine po_chr (T := tab) (s := r2.S) rfl rfl rfl rfl rfl rfl rfl fun b16 hb16 => ?_
              refine po_evs (T := tab) 2 rfl rfl ?_
              refine po_split (j := 103) rfl ?_ ?_
              · refine po_evs (T := tab) 3 rfl rfl ?_
                refine po_arith' (T := tab) rfl rfl rfl rfl fun i17 hi17 => ?_
                refine po_evs (T := tab) 2 rfl rfl ?_
                refine po_split (j := 109) rfl ?_ ?_
                · refine po_evs (T := tab) 12 rfl rfl ?_
                  refine po_nil ?_
                  refine pn_seq (pw_then rfl ?_)
                  refine pw_seq ?_
                  refine pw_region ?_
                  refine po_evs (T := tab) 1 rfl rfl ?_
                  refine po_store (T := tab) rfl rfl rfl rfl rfl rfl rfl rfl rfl rfl rfl rfl ?_
                  refine po_nil ?_
                  refine pn_seq ?_
                  refine pw_seq ?_
                  refine pw_sub' (E' := [(1, .loc 1 0), (3, .loc 3 0)]) (S' := [(3, .box 70 [.v (.string ⟨⟨[]⟩⟩), .v (.int .i64 0), .v (.bool false)]), (1, .box 70 [.v (.string ⟨⟨r2.S⟩⟩), .v (.int .i64 c15), .v (.bool true)])]) ?_ ⟨rfl, rfl, trivial⟩ ⟨rfl, rfl, trivial⟩ rfl
                  refine pw_drawV [0, 0, 3] mixed (by kernel_rfl) (by kernel_rfl) rfl rfl ?_
                  refine pdv_step0 [2, 3] [246] [] [1] [1] [(123, .agg [.v (.string ⟨⟨r2.S⟩⟩), .v (.int .i64 c15), .v (.bool true)])] [(1, .box 70 [.v (.string ⟨⟨r2.S⟩⟩), .v (.int .i64 c15), .v (.bool true)])] rfl rfl rfl rfl (by kernel_rfl) (by kernel_rfl) (by kernel_rfl) ⟨rfl, trivial⟩ (fun w0 X X0 σ0 _ => by refine po_evs (T := tab) 1 rfl rfl ?_; refine po_nil ?_; exact pn_end0 ⟨rfl, trivial⟩ ⟨rfl, trivial⟩ rfl) ?_
                  refine pdv_step0 [] [4] [] [] [] [(2, .v (.int .i64 0))] [] rfl rfl rfl rfl (by kernel_rfl) (by kernel_rfl) (by kernel_rfl) trivial (fun w0 X X0 σ0 _ => by refine po_evs (T := tab) 1 rfl rfl ?_; refine po_nil ?_; exact pn_end0 ⟨rfl, trivial⟩ trivial rfl) ?_
                  refine pdv_step0 [6, 7, 246] [7] [] [3] [] [] [(3, .box 70 [.v (.string ⟨⟨r2.S⟩⟩), .v (.int .i64 c15), .v (.bool true)])] rfl rfl rfl rfl (by kernel_rfl) (by kernel_rfl) (by kernel_rfl) trivial (fun w0 X X0 σ0 _ => by refine po_store (T := tab) rfl rfl rfl rfl rfl rfl rfl rfl rfl rfl rfl rfl ?_; refine po_nil ?_; exact pn_end0 trivial ⟨rfl, trivial⟩ rfl) ?_
                  refine pdv_nil rfl rfl ?_
                  refine pn_seq ?_
                  exact pw_retN (T := tab) rfl rfl rfl ⟨rfl, rfl⟩ trivial rfl
                · refine po_evs (T := tab) 5 rfl rfl ?_
                  refine po_split (j := 114) rfl ?_ ?_
                  · refine po_evs (T := tab) 7 rfl rfl ?_
                    refine po_nil ?_
                    refine pn_seq (pw_then rfl ?_)
                    refine pw_seq ?_
                    refine pw_region ?_
                    refine po_evs (T := tab) 1 rfl rfl ?_
                    refine po_store (T := tab) rfl rfl rfl rfl rfl rfl rfl rfl rfl rfl rfl rfl ?_
                    refine po_nil ?_
                    refine pn_seq ?_
                    refine pw_seq ?_
                    refine pw_sub' (E' := [(1, .loc 1 0), (3, .loc 3 0)]) (S' := [(3, .box 70 [.v (.string ⟨⟨[]⟩⟩), .v (.int .i64 0), .v (.bool false)]), (1, .box 70 [.v (.string ⟨⟨r2.S⟩⟩), .v (.int .i64 c15), .v (.bool true)])]) ?_ ⟨rfl, rfl, trivial⟩ ⟨rfl, rfl, trivial⟩ rfl
                    refine pw_drawV [0, 0, 3] mixed (by kernel_rfl) (by kernel_rfl) rfl rfl ?_
                    refine pdv_step0 [2, 3] [246] [] [1] [1] [(123, .agg [.v (.string ⟨⟨r2.S⟩⟩), .v (.int .i64 c15), .v (.bool true)])] [(1, .box 70 [.v (.string ⟨⟨r2.S⟩⟩), .v (.int .i64 c15), .v (.bool true)])] rfl rfl rfl rfl (by kernel_rfl) (by kernel_rfl) (by kernel_rfl) ⟨rfl, trivial⟩ (fun w0 X X0 σ0 _ => by refine po_evs (T := tab) 1 rfl rfl ?_; refine po_nil ?_; exact pn_end0 ⟨rfl, trivial⟩ ⟨rfl, trivial⟩ rfl) ?_
                    refine pdv_step0 [] [4] [] [] [] [(2, .v (.int .i64 0))] [] rfl rfl rfl rfl (by kernel_rfl) (by kernel_rfl) (by kernel_rfl) trivial (fun w0 X X0 σ0 _ => by refine po_evs (T := tab) 1 rfl rfl ?_; refine po_nil ?_; exact pn_end0 ⟨rfl, trivial⟩ trivial rfl) ?_
                    refine pdv_step0 [6, 7, 246] [7] [] [3] [] [] [(3, .box 70 [.v (.string ⟨⟨r2.S⟩⟩), .v (.int .i64 c15), .v (.bool true)])] rfl rfl rfl rfl (by kernel_rfl) (by kernel_rfl) (by kernel_rfl) trivial (fun w0 X X0 σ0 _ => by refine po_store (T := tab) rfl rfl rfl rfl rfl rfl rfl rfl rfl rfl rfl rfl ?_; refine po_nil ?_; exact pn_end0 trivial ⟨rfl, trivial⟩ rfl) ?_
                    refine pdv_nil rfl rfl ?_
                    refine pn_seq ?_
                    exact pw_retN (T := tab) rfl rfl rfl ⟨rfl, rfl⟩ trivial rfl
                  · refine po_evs (T := tab) 3 rfl rfl ?_
                    refine po_split (j := 117) rfl ?_ ?_
                    · refine po_evs (T := tab) 4 rfl rfl ?_
                      refine po_nil ?_
                      refine pn_seq ?_
                      refine pw_cnd rfl ?_ ?_
                      · refine pw_seq ?_
                        refine pw_region ?_
                        refine po_evs (T := tab) 1 rfl rfl ?_
                        refine po_store (T := tab) rfl rfl rfl rfl rfl rfl rfl rfl rfl rfl rfl rfl ?_
                        refine po_nil ?_
                        refine pn_seq ?_
                        refine pw_seq ?_
                        refine pw_sub' (E' := [(1, .loc 1 0), (3, .loc 3 0)]) (S' := [(3, .box 70 [.v (.string ⟨⟨[]⟩⟩), .v (.int .i64 0), .v (.bool false)]), (1, .box 70 [.v (.string ⟨⟨r2.S⟩⟩), .v (.int .i64 c15), .v (.bool true)])]) ?_ ⟨rfl, rfl, trivial⟩ ⟨rfl, rfl, trivial⟩ rfl
                        refine pw_drawV [0, 0, 3] mixed (by kernel_rfl) (by kernel_rfl) rfl rfl ?_
                        refine pdv_step0 [2, 3] [246] [] [1] [1] [(123, .agg [.v (.string ⟨⟨r2.S⟩⟩), .v (.int .i64 c15), .v (.bool true)])] [(1, .box 70 [.v (.string ⟨⟨r2.S⟩⟩), .v (.int .i64 c15), .v (.bool true)])] rfl rfl rfl rfl (by kernel_rfl) (by kernel_rfl) (by kernel_rfl) ⟨rfl, trivial⟩ (fun w0 X X0 σ0 _ => by refine po_evs (T := tab) 1 rfl rfl ?_; refine po_nil ?_; exact pn_end0 ⟨rfl, trivial⟩ ⟨rfl, trivial⟩ rfl) ?_
                        refine pdv_step0 [] [4] [] [] [] [(2, .v (.int .i64 0))] [] rfl rfl rfl rfl (by kernel_rfl) (by kernel_rfl) (by kernel_rfl) trivial (fun w0 X X0 σ0 _ => by refine po_evs (T := tab) 1 rfl rfl ?_; refine po_nil ?_; exact pn_end0 ⟨rfl, trivial⟩ trivial rfl) ?_
                        refine pdv_step0 [6, 7, 246] [7] [] [3] [] [] [(3, .box 70 [.v (.string ⟨⟨r2.S⟩⟩), .v (.int .i64 c15), .v (.bool true)])] rfl rfl rfl rfl (by kernel_rfl) (by kernel_rfl) (by kernel_rfl) trivial (fun w0 X X0 σ0 _ => by refine po_store (T := tab) rfl rfl rfl rfl rfl rfl rfl rfl rfl rfl rfl rfl ?_; refine po_nil ?_; exact pn_end0 trivial ⟨rfl, trivial⟩ rfl) ?_
                        refine pdv_nil rfl rfl ?_
                        refine pn_seq ?_
                        exact pw_retN (T := tab) rfl rfl rfl ⟨rfl, rfl⟩ trivial rfl
                      · refine pw_skip ?_
                        exact pn_sub' (hj4 ()) ⟨rfl, rfl, rfl, rfl, trivial⟩ ⟨rfl, rfl, trivial⟩ rfl
                    · refine po_evs (T := tab) 4 rfl rfl ?_
                      refine po_nil ?_
                      refine pn_seq (pw_else rfl ?_)
                      refine pw_skip ?_
                      exact pn_sub' (hj4 ()) ⟨rfl, rfl, rfl, rfl, trivial⟩ ⟨rfl, rfl, trivial⟩ rfl
              · refine po_evs (T := tab) 14 rfl rfl ?_
                refine po_split (j := 117) rfl ?_ ?_
                · refine po_evs (T := tab) 4 rfl rfl ?_
                  refine po_nil ?_
                  refine pn_seq ?_
                  refine pw_cnd rfl ?_ ?_
                  · refine pw_seq ?_
                    refine pw_region ?_
                    refine po_evs (T := tab) 1 rfl rfl ?_
                    refine po_store (T := tab) rfl rfl rfl rfl rfl rfl rfl rfl rfl rfl rfl rfl ?_
                    refine po_nil ?_
                    refine pn_seq ?_
                    refine pw_seq ?_
                    refine pw_sub' (E' := [(1, .loc 1 0), (3, .loc 3 0)]) (S' := [(3, .box 70 [.v (.string ⟨⟨[]⟩⟩), .v (.int .i64 0), .v (.bool false)]), (1, .box 70 [.v (.string ⟨⟨r2.S⟩⟩), .v (.int .i64 c15), .v (.bool true)])]) ?_ ⟨rfl, rfl, trivial⟩ ⟨rfl, rfl, trivial⟩ rfl
                    refine pw_drawV [0, 0, 3] mixed (by kernel_rfl) (by kernel_rfl) rfl rfl ?_
                    refine pdv_step0 [2, 3] [246] [] [1] [1] [(123, .agg [.v (.string ⟨⟨r2.S⟩⟩), .v (.int .i64 c15), .v (.bool true)])] [(1, .box 70 [.v (.string ⟨⟨r2.S⟩⟩), .v (.int .i64 c15), .v (.bool true)])] rfl rfl rfl rfl (by kernel_rfl) (by kernel_rfl) (by kernel_rfl) ⟨rfl, trivial⟩ (fun w0 X X0 σ0 _ => by refine po_evs (T := tab) 1 rfl rfl ?_; refine po_nil ?_; exact pn_end0 ⟨rfl, trivial⟩ ⟨rfl, trivial⟩ rfl) ?_
                    refine pdv_step0 [] [4] [] [] [] [(2, .v (.int .i64 0))] [] rfl rfl rfl rfl (by kernel_rfl) (by kernel_rfl) (by kernel_rfl) trivial (fun w0 X X0 σ0 _ => by refine po_evs (T := tab) 1 rfl rfl ?_; refine po_nil ?_; exact pn_end0 ⟨rfl, trivial⟩ trivial rfl) ?_
                    refine pdv_step0 [6, 7, 246] [7] [] [3] [] [] [(3, .box 70 [.v (.string ⟨⟨r2.S⟩⟩), .v (.int .i64 c15), .v (.bool true)])] rfl rfl rfl rfl (by kernel_rfl) (by kernel_rfl) (by kernel_rfl) trivial (fun w0 X X0 σ0 _ => by refine po_store (T := tab) rfl rfl rfl rfl rfl rfl rfl rfl rfl rfl rfl rfl ?_; refine po_nil ?_; exact pn_end0 trivial ⟨rfl, trivial⟩ rfl) ?_
                    refine pdv_nil rfl rfl ?_
                    refine pn_seq ?_
                    exact pw_retN (T := tab) rfl rfl rfl ⟨rfl, rfl⟩ trivial rfl
                  · refine pw_skip ?_
                    exact pn_sub' (hj4 ()) ⟨rfl, rfl, rfl, rfl, trivial⟩ ⟨rfl, rfl, trivial⟩ rfl
                · refine po_evs (T := tab) 4 rfl rfl ?_
                  refine po_nil ?_
                  refine pn_seq (pw_else rfl ?_)
                  refine pw_skip ?_
                  exact pn_sub' (hj4 ()) ⟨rfl, rfl, rfl, rfl, trivial⟩ ⟨rfl, rfl, trivial⟩ rfl
      · refine pw_block ?_
        refine pw_loop' (Instarref24_number_l1 r2 minus4 c6) (fun ((u7, c8) : Int × Int) => [(1, .loc 1 0), (3, .loc 3 0), (4, .v (.bool minus4)), (5, .v (.int .i64 c6)), (6, .v (.int .u64 u7))]) (fun ((u7, c8) : Int × Int) => [(3, .box 70 [.v (.string ⟨⟨[]⟩⟩), .v (.int .i64 0), .v (.bool false)]), (1, .box 70 [.v (.string ⟨⟨r2.S⟩⟩), .v (.int .i64 c8), .v (.bool r2.Bad)])]) fu (0, c6) (fun _ => rfl) ⟨rfl, rfl, rfl, rfl, rfl, trivial⟩ ⟨rfl, rfl, trivial⟩ rfl ?_
        rintro k1 ⟨u7, c8⟩
        refine pw_seq ?_
        refine pw_seq ?_
        refine pw_region ?_
        refine po_evs (T := tab) 4 rfl rfl ?_
        refine po_split (j := 39) rfl ?_ ?_
        · refine po_evs (T := tab) 8 rfl rfl ?_
          refine po_split (j := 47) rfl ?_ ?_
          · refine po_evs (T := tab) 4 rfl rfl ?_
            refine po_chr (T := tab) (s := r2.S) rfl rfl rfl rfl rfl rfl rfl fun b9 hb9 => ?_
            refine po_evs (T := tab) 3 rfl rfl ?_
            refine po_split (j := 55) rfl ?_ ?_
            · refine po_evs (T := tab) 4 rfl rfl ?_
              refine po_chr (T := tab) (s := r2.S) rfl rfl rfl rfl rfl rfl rfl fun b10 hb10 => ?_
              refine po_evs (T := tab) 2 rfl rfl ?_
              refine po_nil ?_
              refine pn_seq ?_
              refine pw_cnd rfl ?_ ?_
              · refine pw_skip ?_
                refine pn_seq ?_
                refine pw_block ?_
                refine pw_seq ?_
                refine pw_region ?_
                refine po_evs (T := tab) 4 rfl rfl ?_
                refine po_chr (T := tab) (s := r2.S) rfl rfl rfl rfl rfl rfl rfl fun b11 hb11 => ?_
                refine po_arith' (T := tab) rfl rfl rfl rfl fun i12 hi12 => ?_
                refine po_wrap (T := tab) rfl rfl rfl rfl ?_
                refine po_evs (T := tab) 1 rfl rfl ?_
                refine po_nil ?_
                refine pn_seq ?_
                refine pw_seq ?_
                refine pw_seq ?_
                refine pw_region ?_
                refine po_evs (T := tab) 3 rfl rfl ?_
                refine po_split (j := 72) rfl ?_ ?_
                · refine po_evs (T := tab) 6 rfl rfl ?_
                  refine po_nil ?_
                  refine pn_seq (pw_then rfl ?_)
                  refine pw_seq ?_
                  refine pw_region ?_
                  refine po_evs (T := tab) 1 rfl rfl ?_
                  refine po_store (T := tab) rfl rfl rfl rfl rfl rfl rfl rfl rfl rfl rfl rfl ?_
                  refine po_nil ?_
                  refine pn_seq ?_
                  refine pw_seq ?_
                  refine pw_sub' (E' := [(1, .loc 1 0), (3, .loc 3 0)]) (S' := [(3, .box 70 [.v (.string ⟨⟨[]⟩⟩), .v (.int .i64 0), .v (.bool false)]), (1, .box 70 [.v (.string ⟨⟨r2.S⟩⟩), .v (.int .i64 c8), .v (.bool true)])]) ?_ ⟨rfl, rfl, trivial⟩ ⟨rfl, rfl, trivial⟩ rfl
                  refine pw_drawV [0, 0, 3] mixed (by kernel_rfl) (by kernel_rfl) rfl rfl ?_
                  refine pdv_step0 [2, 3] [160] [] [1] [1] [(80, .agg [.v (.string ⟨⟨r2.S⟩⟩), .v (.int .i64 c8), .v (.bool true)])] [(1, .box 70 [.v (.string ⟨⟨r2.S⟩⟩), .v (.int .i64 c8), .v (.bool true)])] rfl rfl rfl rfl (by kernel_rfl) (by kernel_rfl) (by kernel_rfl) ⟨rfl, trivial⟩ (fun w0 X X0 σ0 _ => by refine po_evs (T := tab) 1 rfl rfl ?_; refine po_nil ?_; exact pn_end0 ⟨rfl, trivial⟩ ⟨rfl, trivial⟩ rfl) ?_
                  refine pdv_step0 [] [4] [] [] [] [(2, .v (.int .i64 0))] [] rfl rfl rfl rfl (by kernel_rfl) (by kernel_rfl) (by kernel_rfl) trivial (fun w0 X X0 σ0 _ => by refine po_evs (T := tab) 1 rfl rfl ?_; refine po_nil ?_; exact pn_end0 ⟨rfl, trivial⟩ trivial rfl) ?_
                  refine pdv_step0 [6, 7, 160] [7] [] [3] [] [] [(3, .box 70 [.v (.string ⟨⟨r2.S⟩⟩), .v (.int .i64 c8), .v (.bool true)])] rfl rfl rfl rfl (by kernel_rfl) (by kernel_rfl) (by kernel_rfl) trivial (fun w0 X X0 σ0 _ => by refine po_store (T := tab) rfl rfl rfl rfl rfl rfl rfl rfl rfl rfl rfl rfl ?_; refine po_nil ?_; exact pn_end0 trivial ⟨rfl, trivial⟩ rfl) ?_
                  refine pdv_nil rfl rfl ?_
                  refine pn_seq ?_
                  exact pw_retN (T := tab) rfl rfl rfl ⟨rfl, rfl⟩ trivial rfl
                · refine po_evs (T := tab) 1 rfl rfl ?_
                  refine po_wrap (T := tab) rfl rfl rfl rfl ?_
                  refine po_evs (T := tab) 1 rfl rfl ?_
                  refine po_wrap (T := tab) rfl rfl rfl rfl ?_
                  refine po_evs (T := tab) 2 rfl rfl ?_
                  refine po_nil ?_
                  refine pn_seq ?_
                  refine pw_cnd rfl ?_ ?_
                  · refine pw_seq ?_
                    refine pw_region ?_
                    refine po_evs (T := tab) 1 rfl rfl ?_
                    refine po_store (T := tab) rfl rfl rfl rfl rfl rfl rfl rfl rfl rfl rfl rfl ?_
                    refine po_nil ?_
                    refine pn_seq ?_
                    refine pw_seq ?_
                    refine pw_sub' (E' := [(1, .loc 1 0), (3, .loc 3 0)]) (S' := [(3, .box 70 [.v (.string ⟨⟨[]⟩⟩), .v (.int .i64 0), .v (.bool false)]), (1, .box 70 [.v (.string ⟨⟨r2.S⟩⟩), .v (.int .i64 c8), .v (.bool true)])]) ?_ ⟨rfl, rfl, trivial⟩ ⟨rfl, rfl, trivial⟩ rfl
                    refine pw_drawV [0, 0, 3] mixed (by kernel_rfl) (by kernel_rfl) rfl rfl ?_
                    refine pdv_step0 [2, 3] [160] [] [1] [1] [(80, .agg [.v (.string ⟨⟨r2.S⟩⟩), .v (.int .i64 c8), .v (.bool true)])] [(1, .box 70 [.v (.string ⟨⟨r2.S⟩⟩), .v (.int .i64 c8), .v (.bool true)])] rfl rfl rfl rfl (by kernel_rfl) (by kernel_rfl) (by kernel_rfl) ⟨rfl, trivial⟩ (fun w0 X X0 σ0 _ => by refine po_evs (T := tab) 1 rfl rfl ?_; refine po_nil ?_; exact pn_end0 ⟨rfl, trivial⟩ ⟨rfl, trivial⟩ rfl) ?_
                    refine pdv_step0 [] [4] [] [] [] [(2, .v (.int .i64 0))] [] rfl rfl rfl rfl (by kernel_rfl) (by kernel_rfl) (by kernel_rfl) trivial (fun w0 X X0 σ0 _ => by refine po_evs (T := tab) 1 rfl rfl ?_; refine po_nil ?_; exact pn_end0 ⟨rfl, trivial⟩ trivial rfl) ?_
                    refine pdv_step0 [6, 7, 160] [7] [] [3] [] [] [(3, .box 70 [.v (.string ⟨⟨r2.S⟩⟩), .v (.int .i64 c8), .v (.bool true)])] rfl rfl rfl rfl (by kernel_rfl) (by kernel_rfl) (by kernel_rfl) trivial (fun w0 X X0 σ0 _ => by refine po_store (T := tab) rfl rfl rfl rfl rfl rfl rfl rfl rfl rfl rfl rfl ?_; refine po_nil ?_; exact pn_end0 trivial ⟨rfl, trivial⟩ rfl) ?_
                    refine pdv_nil rfl rfl ?_
                    refine pn_seq ?_
                    exact pw_retN (T := tab) rfl rfl rfl ⟨rfl, rfl⟩ trivial rfl
                  · refine pw_skip ?_
                    refine pn_seq ?_
                    refine pw_seq ?_
                    refine pw_region ?_
                    refine po_evs (T := tab) 1 rfl rfl ?_
                    refine po_wrap (T := tab) rfl rfl rfl rfl ?_
                    refine po_evs (T := tab) 1 rfl rfl ?_
                    refine po_wrap (T := tab) rfl rfl rfl rfl ?_
                    refine po_evs (T := tab) 1 rfl rfl ?_
                    refine po_nil ?_
                    refine pn_seq ?_
                    refine pw_region ?_
                    refine po_evs (T := tab) 2 rfl rfl ?_
                    refine po_arith' (T := tab) rfl rfl rfl rfl fun i13 hi13 => ?_
                    refine po_evs (T := tab) 1 rfl rfl ?_
                    refine po_store (T := tab) rfl rfl rfl rfl rfl rfl rfl rfl rfl rfl rfl rfl ?_
                    refine po_nil ?_
                    refine pn_block ?_
                    exact pn_iter' ((IntKind.u64.wrap ((IntKind.u64.wrap (u7 * 10)) + (IntKind.u64.wrap i12))), i13) ⟨rfl, rfl, rfl, rfl, rfl, trivial⟩ ⟨rfl, rfl, trivial⟩ rfl
              · refine pw_exit rfl ?_
                exact pn_sub' (hj3 (u7, c8)) ⟨rfl, rfl, rfl, rfl, rfl, trivial⟩ ⟨rfl, rfl, trivial⟩ rfl
            · refine po_evs (T := tab) 7 rfl rfl ?_
              refine po_nil ?_
              refine pn_seq (pw_else rfl ?_)
              refine pw_exit rfl ?_
              exact pn_sub' (hj3 (u7, c8)) ⟨rfl, rfl, rfl, rfl, rfl, trivial⟩ ⟨rfl, rfl, trivial⟩ rfl
          · refine po_evs (T := tab) 15 rfl rfl ?_
            refine po_nil ?_
            refine pn_seq (pw_else rfl ?_)
            refine pw_exit rfl ?_
            exact pn_sub' (hj3 (u7, c8)) ⟨rfl, rfl, rfl, rfl, rfl, trivial⟩ ⟨rfl, rfl, trivial⟩ rfl
        · refine po_evs (T := tab) 23 rfl rfl ?_
          refine po_nil ?_
          refine pn_seq (pw_else rfl ?_)
          refine pw_exit rfl ?_
          exact pn_sub' (hj3 (u7, c8)) ⟨rfl, rfl, rfl, rfl, rfl, trivial⟩ ⟨rfl, rfl, trivial⟩ rfl
    · refine pw_cnd rfl ?_ ?_
      · refine pw_region ?_
        refine po_evs (T := tab) 2 rfl rfl ?_
        refine po_arith' (T := tab) rfl rfl rfl rfl fun i5 hi5 => ?_
        refine po_evs (T := tab) 1 rfl rfl ?_
        refine po_store (T := tab) rfl rfl rfl rfl rfl rfl rfl rfl rfl rfl rfl rfl ?_
        refine po_nil ?_
        exact pn_sub' (hj2 i5) ⟨rfl, rfl, rfl, trivial⟩ ⟨rfl, rfl, trivial⟩ rfl
      · refine pw_skip ?_
        exact pn_sub' (hj2 r2.At) ⟨rfl, rfl, rfl, trivial⟩ ⟨rfl, rfl, trivial⟩ rfl
  · refine po_evs (T := tab) 4 rfl rfl ?_
    refine po_split (j := 13) rfl ?_ ?_
    · refine po_evs (T := tab) 8 rfl rfl ?_
      refine po_split (j := 21) rfl ?_ ?_
      · refine po_evs (T := tab) 4 rfl rfl ?_
        refine po_chr (T := tab) (s := r2.S) rfl rfl rfl rfl rfl rfl rfl fun b3 hb3 => ?_
        refine po_evs (T := tab) 3 rfl rfl ?_
        refine po_nil ?_
        exact pn_sub' (hj1 (b3 == 45)) ⟨rfl, rfl, rfl, trivial⟩ ⟨rfl, rfl, trivial⟩ rfl
      · refine po_evs (T := tab) 8 rfl rfl ?_
        refine po_nil ?_
        exact pn_sub' (hj1 false) ⟨rfl, rfl, rfl, trivial⟩ ⟨rfl, rfl, trivial⟩ rfl
    · refine po_evs (T := tab) 16 rfl rfl ?_
      refine po_nil ?_
      exact pn_sub' (hj1 false) ⟨rfl, rfl, rfl, trivial⟩ ⟨rfl, rfl, trivial⟩ rfl

def Instarref24_text_l1 (r2 : Instarref24_Scan) : Nat → Bs × Int → Option (Bs × Instarref24_Scan)
  | 0, _ => none
  | k1 + 1, (out3, c4) => cnd (!r2.Bad) (cnd (decide (c4 ≥ ((r2.S.length : Nat) : Int))) (some ([], (⟨r2.S, c4, true⟩ : Instarref24_Scan))) (bnd (chr r2.S c4) fun b5 => cnd (b5 == 10) (some ([], (⟨r2.S, c4, true⟩ : Instarref24_Scan))) (bnd (chr r2.S c4) fun b6 => bnd (rng .i64 (c4 + 1)) fun i7 => cnd (b6 == 34) (some (out3, (⟨r2.S, i7, r2.Bad⟩ : Instarref24_Scan))) (cnd (b6 == 92) (cnd (decide (i7 ≥ ((r2.S.length : Nat) : Int))) (some ([], (⟨r2.S, i7, true⟩ : Instarref24_Scan))) (bnd (chr r2.S i7) fun b8 => bnd (rng .i64 (i7 + 1)) fun i9 => cnd (b8 == 110) (bnd (cat out3 ([10] : Bs)) fun s10 => (Instarref24_text_l1 r2 k1) (s10, i9)) (cnd (b8 != 34) (cnd (b8 != 92) (some ([], (⟨r2.S, i9, true⟩ : Instarref24_Scan))) (bnd (cat out3 (strOf [b8])) fun s11 => (Instarref24_text_l1 r2 k1) (s11, i9))) (bnd (cat out3 (strOf [b8])) fun s12 => (Instarref24_text_l1 r2 k1) (s12, i9))))) (bnd (cat out3 (strOf [b6])) fun s13 => (Instarref24_text_l1 r2 k1) (s13, i7)))))) (some ([], (⟨r2.S, c4, r2.Bad⟩ : Instarref24_Scan)))

def Instarref24_text_m (fu : Nat) (c1 : Instarref24_Scan) : Option (Bs × Instarref24_Scan) := bnd (Instarref24_need_m fu c1 [32, 34]) fun r2 => (Instarref24_text_l1 r2) fu ([], r2.At)

set_option maxHeartbeats 10000000 in
set_option maxRecDepth 100000 in
theorem Instarref24_text_ok (fu : Nat) (c1 : Instarref24_Scan) : ∀ r, Instarref24_text_m fu c1 = some r → DC laidL Tryd.prog 44 [.agg (cInstarref24_Scan c1)] (.tup [.v (.string ⟨⟨r.1⟩⟩), .agg (cInstarref24_Scan r.2)]) := by
  intro r hr
  refine fc_intro (args := [.agg (cInstarref24_Scan c1)]) (S := []) (N0 := []) (post := fun r p S => p = .tup [.v (.string ⟨⟨r.1⟩⟩), .agg (cInstarref24_Scan r.2)] ∧ S = []) Tryd.func44 rfl rfl hr fun w0 X X0 σ0 _ => ?_
  refine pw_seq ?_
  refine pw_region ?_
  refine po_box  1 rfl rfl rfl rfl rfl rfl rfl rfl rfl rfl ?_
  refine po_evs (T := tab) 1 rfl rfl ?_
  refine po_alloc (T := tab) 3 rfl rfl rfl rfl rfl rfl rfl rfl rfl ?_
  refine po_nil ?_
  refine pn_seq ?_
  refine pw_seq ?_
  refine pw_region ?_
  refine po_evs (T := tab) 1 rfl rfl ?_
  refine po_call (enc := fun (r2 : Instarref24_Scan) => .agg (cInstarref24_Scan r2)) (qs := [.agg (cInstarref24_Scan c1), .v (.string ⟨⟨[32, 34]⟩⟩)]) (Instarref24_need_ok fu c1 [32, 34]) rfl rfl ⟨⟨_, rfl, .rfl⟩, ⟨_, rfl, .rfl⟩, trivial⟩ (fun _ => rfl) call42 rfl rfl fun r2 hr2 => ?_
  refine po_store (T := tab) rfl rfl rfl rfl rfl rfl rfl rfl rfl rfl rfl rfl ?_
  refine po_nil ?_
  refine pn_seq ?_
  refine pw_seq ?_
  refine pw_region ?_
  refine po_evs (T := tab) 1 rfl rfl ?_
  refine po_nil ?_
  refine pn_seq ?_
  refine pw_seq ?_
  refine pw_block ?_
  refine pw_loop' (Instarref24_text_l1 r2) (fun ((out3, c4) : Bs × Int) => [(1, .loc 1 0), (3, .loc 3 0), (4, .v (.string ⟨⟨out3⟩⟩))]) (fun ((out3, c4) : Bs × Int) => [(3, .box 70 [.v (.string ⟨⟨[]⟩⟩), .v (.int .i64 0), .v (.bool false)]), (1, .box 70 [.v (.string ⟨⟨r2.S⟩⟩), .v (.int .i64 c4), .v (.bool r2.Bad)])]) fu ([], r2.At) (fun _ => rfl) ⟨rfl, rfl, rfl, trivial⟩ ⟨rfl, rfl, trivial⟩ rfl ?_
  rintro k1 ⟨out3, c4⟩
  refine pw_seq ?_
  refine pw_seq ?_
  refine pw_region ?_
  refine po_evs (T := tab) 3 rfl rfl ?_
  refine po_nil ?_
  refine pn_seq ?_
  refine pw_cnd rfl ?_ ?_
  · refine pw_skip ?_
    refine pn_seq ?_
    refine pw_block ?_
    refine pw_seq ?_
    refine pw_seq ?_
    refine pw_region ?_
    refine po_evs (T := tab) 7 rfl rfl ?_
    refine po_split (j := 17) rfl ?_ ?_
    · refine po_evs (T := tab) 7 rfl rfl ?_
      refine po_nil ?_
      refine pn_seq (pw_then rfl ?_)
      refine pw_seq ?_
      refine pw_region ?_
      refine po_evs (T := tab) 1 rfl rfl ?_
      refine po_store (T := tab) rfl rfl rfl rfl rfl rfl rfl rfl rfl rfl rfl rfl ?_
      refine po_nil ?_
      refine pn_seq ?_
      refine pw_exit rfl ?_
      refine pn_seq ?_
      refine pw_seq ?_
      refine pw_sub' (E' := [(1, .loc 1 0), (3, .loc 3 0)]) (S' := [(3, .box 70 [.v (.string ⟨⟨[]⟩⟩), .v (.int .i64 0), .v (.bool false)]), (1, .box 70 [.v (.string ⟨⟨r2.S⟩⟩), .v (.int .i64 c4), .v (.bool true)])]) ?_ ⟨rfl, rfl, trivial⟩ ⟨rfl, rfl, trivial⟩ rfl
      refine pw_drawV [0, 0, 3] mixed (by kernel_rfl) (by kernel_rfl) rfl rfl ?_
      refine pdv_step0 [2, 3] [146] [] [1] [1] [(73, .agg [.v (.string ⟨⟨r2.S⟩⟩), .v (.int .i64 c4), .v (.bool true)])] [(1, .box 70 [.v (.string ⟨⟨r2.S⟩⟩), .v (.int .i64 c4), .v (.bool true)])] rfl rfl rfl rfl (by kernel_rfl) (by kernel_rfl) (by kernel_rfl) ⟨rfl, trivial⟩ (fun w0 X X0 σ0 _ => by refine po_evs (T := tab) 1 rfl rfl ?_; refine po_nil ?_; exact pn_end0 ⟨rfl, trivial⟩ ⟨rfl, trivial⟩ rfl) ?_
      refine pdv_step0 [] [4] [] [] [] [(2, .v (.string ⟨⟨[]⟩⟩))] [] rfl rfl rfl rfl (by kernel_rfl) (by kernel_rfl) (by kernel_rfl) trivial (fun w0 X X0 σ0 _ => by refine po_evs (T := tab) 1 rfl rfl ?_; refine po_nil ?_; exact pn_end0 ⟨rfl, trivial⟩ trivial rfl) ?_
      refine pdv_step0 [6, 7, 146] [7] [] [3] [] [] [(3, .box 70 [.v (.string ⟨⟨r2.S⟩⟩), .v (.int .i64 c4), .v (.bool true)])] rfl rfl rfl rfl (by kernel_rfl) (by kernel_rfl) (by kernel_rfl) trivial (fun w0 X X0 σ0 _ => by refine po_store (T := tab) rfl rfl rfl rfl rfl rfl rfl rfl rfl rfl rfl rfl ?_; refine po_nil ?_; exact pn_end0 trivial ⟨rfl, trivial⟩ rfl) ?_
      refine pdv_nil rfl rfl ?_
      refine pn_seq ?_
      exact pw_retN (T := tab) rfl rfl rfl ⟨rfl, rfl⟩ trivial rfl
    · refine po_evs (T := tab) 4 rfl rfl ?_
      refine po_chr (T := tab) (s := r2.S) rfl rfl rfl rfl rfl rfl rfl fun b5 hb5 => ?_
      refine po_evs (T := tab) 2 rfl rfl ?_
      refine po_nil ?_
      refine pn_seq ?_
      refine pw_cnd rfl ?_ ?_
      · refine pw_seq ?_
        refine pw_region ?_
        refine po_evs (T := tab) 1 rfl rfl ?_
        refine po_store (T := tab) rfl rfl rfl rfl rfl rfl rfl rfl rfl rfl rfl rfl ?_
        refine po_nil ?_
        refine pn_seq ?_
        refine pw_exit rfl ?_
        refine pn_seq ?_
        refine pw_seq ?_
        refine pw_sub' (E' := [(1, .loc 1 0), (3, .loc 3 0)]) (S' := [(3, .box 70 [.v (.string ⟨⟨[]⟩⟩), .v (.int .i64 0), .v (.bool false)]), (1, .box 70 [.v (.string ⟨⟨r2.S⟩⟩), .v (.int .i64 c4), .v (.bool true)])]) ?_ ⟨rfl, rfl, trivial⟩ ⟨rfl, rfl, trivial⟩ rfl
        refine pw_drawV [0, 0, 3] mixed (by kernel_rfl) (by kernel_rfl) rfl rfl ?_
        refine pdv_step0 [2, 3] [146] [] [1] [1] [(73, .agg [.v (.string ⟨⟨r2.S⟩⟩), .v (.int .i64 c4), .v (.bool true)])] [(1, .box 70 [.v (.string ⟨⟨r2.S⟩⟩), .v (.int .i64 c4), .v (.bool true)])] rfl rfl rfl rfl (by kernel_rfl) (by kernel_rfl) (by kernel_rfl) ⟨rfl, trivial⟩ (fun w0 X X0 σ0 _ => by refine po_evs (T := tab) 1 rfl rfl ?_; refine po_nil ?_; exact pn_end0 ⟨rfl, trivial⟩ ⟨rfl, trivial⟩ rfl) ?_
        refine pdv_step0 [] [4] [] [] [] [(2, .v (.string ⟨⟨[]⟩⟩))] [] rfl rfl rfl rfl (by kernel_rfl) (by kernel_rfl) (by kernel_rfl) trivial (fun w0 X X0 σ0 _ => by refine po_evs (T := tab) 1 rfl rfl ?_; refine po_nil ?_; exact pn_end0 ⟨rfl, trivial⟩ trivial rfl) ?_
        refine pdv_step0 [6, 7, 146] [7] [] [3] [] [] [(3, .box 70 [.v (.string ⟨⟨r2.S⟩⟩), .v (.int .i64 c4), .v (.bool true)])] rfl rfl rfl rfl (by kernel_rfl) (by kernel_rfl) (by kernel_rfl) trivial (fun w0 X X0 σ0 _ => by refine po_store (T := tab) rfl rfl rfl rfl rfl rfl rfl rfl rfl rfl rfl rfl ?_; refine po_nil ?_; exact pn_end0 trivial ⟨rfl, trivial⟩ rfl) ?_
        refine pdv_nil rfl rfl ?_
        refine pn_seq ?_
        exact pw_retN (T := tab) rfl rfl rfl ⟨rfl, rfl⟩ trivial rfl
      · refine pw_skip ?_
        refine pn_seq ?_
        refine pw_seq ?_
        refine pw_region ?_
        refine po_evs (T := tab) 4 rfl rfl ?_
        refine po_chr (T := tab) (s := r2.S) rfl rfl rfl rfl rfl rfl rfl fun b6 hb6 => ?_
        refine po_evs (T := tab) 1 rfl rfl ?_
        refine po_nil ?_
        refine pn_seq ?_
        refine pw_seq ?_
        refine pw_region ?_
        refine po_evs (T := tab) 2 rfl rfl ?_
        refine po_arith' (T := tab) rfl rfl rfl rfl fun i7 hi7 => ?_
        refine po_evs (T := tab) 1 rfl rfl ?_
        refine po_store (T := tab) rfl rfl rfl rfl rfl rfl rfl rfl rfl rfl rfl rfl ?_
        refine po_nil ?_
        refine pn_seq ?_
        refine pw_seq ?_
        refine pw_seq ?_
        refine pw_region ?_
        refine po_evs (T := tab) 2 rfl rfl ?_
        refine po_nil ?_
        refine pn_seq ?_
        refine pw_cnd rfl ?_ ?_
        · refine pw_seq ?_
          refine pw_sub' (E' := [(1, .loc 1 0), (3, .loc 3 0), (4, .v (.string ⟨⟨out3⟩⟩))]) (S' := [(3, .box 70 [.v (.string ⟨⟨[]⟩⟩), .v (.int .i64 0), .v (.bool false)]), (1, .box 70 [.v (.string ⟨⟨r2.S⟩⟩), .v (.int .i64 i7), .v (.bool r2.Bad)])]) ?_ ⟨rfl, rfl, rfl, trivial⟩ ⟨rfl, rfl, trivial⟩ rfl
          refine pw_drawV [0, 0, 1, 7] mixed (by kernel_rfl) (by kernel_rfl) rfl rfl ?_
          refine pdv_step0 [8] [74] [] [] [] [(37, .v (.string ⟨⟨out3⟩⟩))] [] rfl rfl rfl rfl (by kernel_rfl) (by kernel_rfl) (by kernel_rfl) trivial (fun w0 X X0 σ0 _ => by refine po_evs (T := tab) 1 rfl rfl ?_; refine po_nil ?_; exact pn_end0 ⟨rfl, trivial⟩ trivial rfl) ?_
          refine pdv_step0 [2, 3] [76] [] [1] [1] [(38, .agg [.v (.string ⟨⟨r2.S⟩⟩), .v (.int .i64 i7), .v (.bool r2.Bad)])] [(1, .box 70 [.v (.string ⟨⟨r2.S⟩⟩), .v (.int .i64 i7), .v (.bool r2.Bad)])] rfl rfl rfl rfl (by kernel_rfl) (by kernel_rfl) (by kernel_rfl) ⟨rfl, trivial⟩ (fun w0 X X0 σ0 _ => by refine po_evs (T := tab) 1 rfl rfl ?_; refine po_nil ?_; exact pn_end0 ⟨rfl, trivial⟩ ⟨rfl, trivial⟩ rfl) ?_
          refine pdv_step0 [74] [4] [] [] [] [(2, .v (.string ⟨⟨out3⟩⟩))] [] rfl rfl rfl rfl (by kernel_rfl) (by kernel_rfl) (by kernel_rfl) trivial (fun w0 X X0 σ0 _ => by refine po_evs (T := tab) 1 rfl rfl ?_; refine po_nil ?_; exact pn_end0 ⟨rfl, trivial⟩ trivial rfl) ?_
          refine pdv_step0 [6, 7, 76] [7] [] [3] [] [] [(3, .box 70 [.v (.string ⟨⟨r2.S⟩⟩), .v (.int .i64 i7), .v (.bool r2.Bad)])] rfl rfl rfl rfl (by kernel_rfl) (by kernel_rfl) (by kernel_rfl) trivial (fun w0 X X0 σ0 _ => by refine po_store (T := tab) rfl rfl rfl rfl rfl rfl rfl rfl rfl rfl rfl rfl ?_; refine po_nil ?_; exact pn_end0 trivial ⟨rfl, trivial⟩ rfl) ?_
          refine pdv_nil rfl rfl ?_
          refine pn_seq ?_
          exact pw_retN (T := tab) rfl rfl rfl ⟨rfl, rfl⟩ trivial rfl
        · refine pw_skip ?_
          refine pn_seq ?_
          refine pw_seq ?_
          refine pw_seq ?_
          refine pw_region ?_
          refine po_evs (T := tab) 2 rfl rfl ?_
          refine po_nil ?_
          refine pn_seq ?_
          refine pw_cnd rfl ?_ ?_
          · refine pw_seq ?_
            refine pw_seq ?_
            refine pw_region ?_
            refine po_evs (T := tab) 6 rfl rfl ?_
            refine po_nil ?_
            refine pn_seq ?_
            refine pw_cnd rfl ?_ ?_
            · refine pw_seq ?_
              refine pw_region ?_
              refine po_evs (T := tab) 1 rfl rfl ?_
              refine po_store (T := tab) rfl rfl rfl rfl rfl rfl rfl rfl rfl rfl rfl rfl ?_
              refine po_nil ?_
              refine pn_seq ?_
              refine pw_exit rfl ?_
              refine pn_seq ?_
              refine pw_seq ?_
              refine pw_sub' (E' := [(1, .loc 1 0), (3, .loc 3 0)]) (S' := [(3, .box 70 [.v (.string ⟨⟨[]⟩⟩), .v (.int .i64 0), .v (.bool false)]), (1, .box 70 [.v (.string ⟨⟨r2.S⟩⟩), .v (.int .i64 i7), .v (.bool true)])]) ?_ ⟨rfl, rfl, trivial⟩ ⟨rfl, rfl, trivial⟩ rfl
              refine pw_drawV [0, 0, 3] mixed (by kernel_rfl) (by kernel_rfl) rfl rfl ?_
              refine pdv_step0 [2, 3] [146] [] [1] [1] [(73, .agg [.v (.string ⟨⟨r2.S⟩⟩), .v (.int .i64 i7), .v (.bool true)])] [(1, .box 70 [.v (.string ⟨⟨r2.S⟩⟩), .v (.int .i64 i7), .v (.bool true)])] rfl rfl rfl rfl (by kernel_rfl) (by kernel_rfl) (by kernel_rfl) ⟨rfl, trivial⟩ (fun w0 X X0 σ0 _ => by refine po_evs (T := tab) 1 rfl rfl ?_; refine po_nil ?_; exact pn_end0 ⟨rfl, trivial⟩ ⟨rfl, trivial⟩ rfl) ?_
              refine pdv_step0 [] [4] [] [] [] [(2, .v (.string ⟨⟨[]⟩⟩))] [] rfl rfl rfl rfl (by kernel_rfl) (by kernel_rfl) (by kernel_rfl) trivial (fun w0 X X0 σ0 _ => by refine po_evs (T := tab) 1 rfl rfl ?_; refine po_nil ?_; exact pn_end0 ⟨rfl, trivial⟩ trivial rfl) ?_
              refine pdv_step0 [6, 7, 146] [7] [] [3] [] [] [(3, .box 70 [.v (.string ⟨⟨r2.S⟩⟩), .v (.int .i64 i7), .v (.bool true)])] rfl rfl rfl rfl (by kernel_rfl) (by kernel_rfl) (by kernel_rfl) trivial (fun w0 X X0 σ0 _ => by refine po_store (T := tab) rfl rfl rfl rfl rfl rfl rfl rfl rfl rfl rfl rfl ?_; refine po_nil ?_; exact pn_end0 trivial ⟨rfl, trivial⟩ rfl) ?_
              refine pdv_nil rfl rfl ?_
              refine pn_seq ?_
              exact pw_retN (T := tab) rfl rfl rfl ⟨rfl, rfl⟩ trivial rfl
            · refine pw_skip ?_
              refine pn_seq ?_
              refine pw_seq ?_
              refine pw_region ?_
              refine po_evs (T := tab) 4 rfl rfl ?_
              refine po_chr (T := tab) (s := r2.S) rfl rfl rfl rfl rfl rfl rfl fun b8 hb8 => ?_
              refine po_evs (T := tab) 1 rfl rfl ?_
              refine po_nil ?_
              refine pn_seq ?_
              refine pw_seq ?_
              refine pw_region ?_
              refine po_evs (T := tab) 2 rfl rfl ?_
              refine po_arith' (T := tab) rfl rfl rfl rfl fun i9 hi9 => ?_
              refine po_evs (T := tab) 1 rfl rfl ?_
              refine po_store (T := tab) rfl rfl rfl rfl rfl rfl rfl rfl rfl rfl rfl rfl ?_
              refine po_nil ?_
              refine pn_seq ?_
              refine pw_seq ?_
              refine pw_seq ?_
              refine pw_region ?_
              refine po_evs (T := tab) 2 rfl rfl ?_
              refine po_nil ?_
              refine pn_seq ?_
              refine pw_cnd rfl ?_ ?_
              · refine pw_seq ?_
                refine pw_region ?_
                refine po_evs (T := tab) 1 rfl rfl ?_
                refine po_cat rfl rfl rfl rfl rfl rfl fun s10 hs10 => ?_
                refine po_evs (T := tab) 1 rfl rfl ?_
                refine po_nil ?_
                refine pn_seq ?_
                refine pw_exit rfl ?_
                exact pn_iter' (s10, i9) ⟨rfl, rfl, rfl, trivial⟩ ⟨rfl, rfl, trivial⟩ rfl
              · refine pw_skip ?_
                refine pn_seq ?_
                refine pw_seq ?_
                refine pw_region ?_
                refine po_evs (T := tab) 3 rfl rfl ?_
                refine po_split (j := 63) rfl ?_ ?_
                · refine po_evs (T := tab) 3 rfl rfl ?_
                  refine po_nil ?_
                  refine pn_seq ?_
                  refine pw_cnd rfl ?_ ?_
                  · refine pw_seq ?_
                    refine pw_region ?_
                    refine po_evs (T := tab) 1 rfl rfl ?_
                    refine po_store (T := tab) rfl rfl rfl rfl rfl rfl rfl rfl rfl rfl rfl rfl ?_
                    refine po_nil ?_
                    refine pn_seq ?_
                    refine pw_exit rfl ?_
                    refine pn_seq ?_
                    refine pw_seq ?_
                    refine pw_sub' (E' := [(1, .loc 1 0), (3, .loc 3 0)]) (S' := [(3, .box 70 [.v (.string ⟨⟨[]⟩⟩), .v (.int .i64 0), .v (.bool false)]), (1, .box 70 [.v (.string ⟨⟨r2.S⟩⟩), .v (.int .i64 i9), .v (.bool true)])]) ?_ ⟨rfl, rfl, trivial⟩ ⟨rfl, rfl, trivial⟩ rfl
                    refine pw_drawV [0, 0, 3] mixed (by kernel_rfl) (by kernel_rfl) rfl rfl ?_
                    refine pdv_step0 [2, 3] [146] [] [1] [1] [(73, .agg [.v (.string ⟨⟨r2.S⟩⟩), .v (.int .i64 i9), .v (.bool true)])] [(1, .box 70 [.v (.string ⟨⟨r2.S⟩⟩), .v (.int .i64 i9), .v (.bool true)])] rfl rfl rfl rfl (by kernel_rfl) (by kernel_rfl) (by kernel_rfl) ⟨rfl, trivial⟩ (fun w0 X X0 σ0 _ => by refine po_evs (T := tab) 1 rfl rfl ?_; refine po_nil ?_; exact pn_end0 ⟨rfl, trivial⟩ ⟨rfl, trivial⟩ rfl) ?_
                    refine pdv_step0 [] [4] [] [] [] [(2, .v (.string ⟨⟨[]⟩⟩))] [] rfl rfl rfl rfl (by kernel_rfl) (by kernel_rfl) (by kernel_rfl) trivial (fun w0 X X0 σ0 _ => by refine po_evs (T := tab) 1 rfl rfl ?_; refine po_nil ?_; exact pn_end0 ⟨rfl, trivial⟩ trivial rfl) ?_
                    refine pdv_step0 [6, 7, 146] [7] [] [3] [] [] [(3, .box 70 [.v (.string ⟨⟨r2.S⟩⟩), .v (.int .i64 i9), .v (.bool true)])] rfl rfl rfl rfl (by kernel_rfl) (by kernel_rfl) (by kernel_rfl) trivial (fun w0 X X0 σ0 _ => by refine po_store (T := tab) rfl rfl rfl rfl rfl rfl rfl rfl rfl rfl rfl rfl ?_; refine po_nil ?_; exact pn_end0 trivial ⟨rfl, trivial⟩ rfl) ?_
                    refine pdv_nil rfl rfl ?_
                    refine pn_seq ?_
                    exact pw_retN (T := tab) rfl rfl rfl ⟨rfl, rfl⟩ trivial rfl
                  · refine pw_skip ?_
                    refine pn_seq ?_
                    refine pw_region ?_
                    refine po_evs (T := tab) 2 rfl rfl ?_
                    refine po_lit (T := tab) (rows := [b8].map cInt_u8) 70 rfl rfl rfl rfl rfl rfl rfl rfl rfl rfl rfl rfl rfl rfl ?_
                    refine po_str (T := tab) cInt_u8 [b8] (fun _ => rfl) rfl rfl rfl rfl rfl rfl rfl rfl rfl ?_
                    refine po_cat rfl rfl rfl rfl rfl rfl fun s11 hs11 => ?_
                    refine po_evs (T := tab) 1 rfl rfl ?_
                    refine po_nil ?_
                    refine pn_block ?_
                    exact pn_iter' (s11, i9) ⟨rfl, rfl, rfl, trivial⟩ ⟨rfl, rfl, trivial⟩ rfl
                · refine po_evs (T := tab) 3 rfl rfl ?_
                  refine po_nil ?_
                  refine pn_seq (pw_else rfl ?_)
                  refine pw_skip ?_
                  refine pn_seq ?_
                  refine pw_region ?_
                  refine po_evs (T := tab) 2 rfl rfl ?_
                  refine po_lit (T := tab) (rows := [b8].map cInt_u8) 70 rfl rfl rfl rfl rfl rfl rfl rfl rfl rfl rfl rfl rfl rfl ?_
                  refine po_str (T := tab) cInt_u8 [b8] (fun _ => rfl) rfl rfl rfl rfl rfl rfl rfl rfl rfl ?_
                  refine po_cat rfl rfl rfl rfl rfl rfl fun s12 hs12 => ?_
                  refine po_evs (T := tab) 1 rfl rfl ?_
                  refine po_nil ?_
                  refine pn_block ?_
                  exact pn_iter' (s12, i9) ⟨rfl, rfl, rfl, trivial⟩ ⟨rfl, rfl, trivial⟩ rfl
          · refine pw_skip ?_
            refine pn_seq ?_
            refine pw_region ?_
            refine po_evs (T := tab) 2 rfl rfl ?_
            refine po_lit (T := tab) (rows := [b6].map cInt_u8) 70 rfl rfl rfl rfl rfl rfl rfl rfl rfl rfl rfl rfl rfl rfl ?_
            refine po_str (T := tab) cInt_u8 [b6] (fun _ => rfl) rfl rfl rfl rfl rfl rfl rfl rfl rfl ?_
            refine po_cat rfl rfl rfl rfl rfl rfl fun s13 hs13 => ?_
            refine po_evs (T := tab) 1 rfl rfl ?_
            refine po_nil ?_
            refine pn_block ?_
            exact pn_iter' (s13, i7) ⟨rfl, rfl, rfl, trivial⟩ ⟨rfl, rfl, trivial⟩ rfl
  · refine pw_exit rfl ?_
    refine pn_seq ?_
    refine pw_seq ?_
    refine pw_sub' (E' := [(1, .loc 1 0), (3, .loc 3 0)]) (S' := [(3, .box 70 [.v (.string ⟨⟨[]⟩⟩), .v (.int .i64 0), .v (.bool false)]), (1, .box 70 [.v (.string ⟨⟨r2.S⟩⟩), .v (.int .i64 c4), .v (.bool r2.Bad)])]) ?_ ⟨rfl, rfl, trivial⟩ ⟨rfl, rfl, trivial⟩ rfl
    refine pw_drawV [0, 0, 3] mixed (by kernel_rfl) (by kernel_rfl) rfl rfl ?_
    refine pdv_step0 [2, 3] [146] [] [1] [1] [(73, .agg [.v (.string ⟨⟨r2.S⟩⟩), .v (.int .i64 c4), .v (.bool r2.Bad)])] [(1, .box 70 [.v (.string ⟨⟨r2.S⟩⟩), .v (.int .i64 c4), .v (.bool r2.Bad)])] rfl rfl rfl rfl (by kernel_rfl) (by kernel_rfl) (by kernel_rfl) ⟨rfl, trivial⟩ (fun w0 X X0 σ0 _ => by refine po_evs (T := tab) 1 rfl rfl ?_; refine po_nil ?_; exact pn_end0 ⟨rfl, trivial⟩ ⟨rfl, trivial⟩ rfl) ?_
    refine pdv_step0 [] [4] [] [] [] [(2, .v (.string ⟨⟨[]⟩⟩))] [] rfl rfl rfl rfl (by kernel_rfl) (by kernel_rfl) (by kernel_rfl) trivial (fun w0 X X0 σ0 _ => by refine po_evs (T := tab) 1 rfl rfl ?_; refine po_nil ?_; exact pn_end0 ⟨rfl, trivial⟩ trivial rfl) ?_
    refine pdv_step0 [6, 7, 146] [7] [] [3] [] [] [(3, .box 70 [.v (.string ⟨⟨r2.S⟩⟩), .v (.int .i64 c4), .v (.bool r2.Bad)])] rfl rfl rfl rfl (by kernel_rfl) (by kernel_rfl) (by kernel_rfl) trivial (fun w0 X X0 σ0 _ => by refine po_store (T := tab) rfl rfl rfl rfl rfl rfl rfl rfl rfl rfl rfl rfl ?_; refine po_nil ?_; exact pn_end0 trivial ⟨rfl, trivial⟩ rfl) ?_
    refine pdv_nil rfl rfl ?_
    refine pn_seq ?_
    exact pw_retN (T := tab) rfl rfl rfl ⟨rfl, rfl⟩ trivial rfl

def Instarref24_bit_m (fu : Nat) (c1 : Instarref24_Scan) : Option (Bool × Instarref24_Scan) := bnd (Instarref24_need_m fu c1 [32, 49]) fun r2 => cnd r2.Bad (bnd (Instarref24_need_m fu c1 [32, 48]) fun r3 => some (false, r3)) (bnd (Instarref24_need_m fu c1 [32, 49]) fun r4 => some (true, r4))

set_option maxRecDepth 100000 in
theorem Instarref24_bit_ok (fu : Nat) (c1 : Instarref24_Scan) : ∀ r, Instarref24_bit_m fu c1 = some r → DC laidL Tryd.prog 45 [.agg (cInstarref24_Scan c1)] (.tup [.v (.bool r.1), .agg (cInstarref24_Scan r.2)]) := by
  intro r hr
  refine fc_intro (args := [.agg (cInstarref24_Scan c1)]) (S := []) (N0 := []) (post := fun r p S => p = .tup [.v (.bool r.1), .agg (cInstarref24_Scan r.2)] ∧ S = []) Tryd.func45 rfl rfl hr fun w0 X X0 σ0 _ => ?_
  refine pw_seq ?_
  refine pw_region ?_
  refine po_box  1 rfl rfl rfl rfl rfl rfl rfl rfl rfl rfl ?_
  refine po_evs (T := tab) 1 rfl rfl ?_
  refine po_alloc (T := tab) 3 rfl rfl rfl rfl rfl rfl rfl rfl rfl ?_
  refine po_nil ?_
  refine pn_seq ?_
  refine pw_seq ?_
  refine pw_seq ?_
  refine pw_region ?_
  refine po_evs (T := tab) 1 rfl rfl ?_
  refine po_call (enc := fun (r2 : Instarref24_Scan) => .agg (cInstarref24_Scan r2)) (qs := [.agg (cInstarref24_Scan c1), .v (.string ⟨⟨[32, 49]⟩⟩)]) (Instarref24_need_ok fu c1 [32, 49]) rfl rfl ⟨⟨_, rfl, .rfl⟩, ⟨_, rfl, .rfl⟩, trivial⟩ (fun _ => rfl) call42 rfl rfl fun r2 hr2 => ?_
  refine po_evs (T := tab) 1 rfl rfl ?_
  refine po_nil ?_
  refine pn_seq ?_
  refine pw_cnd rfl ?_ ?_
  · refine pw_seq ?_
    refine pw_region ?_
    refine po_evs (T := tab) 1 rfl rfl ?_
    refine po_call (enc := fun (r3 : Instarref24_Scan) => .agg (cInstarref24_Scan r3)) (qs := [.agg (cInstarref24_Scan c1), .v (.string ⟨⟨[32, 48]⟩⟩)]) (Instarref24_need_ok fu c1 [32, 48]) rfl rfl ⟨⟨_, rfl, .rfl⟩, ⟨_, rfl, .rfl⟩, trivial⟩ (fun _ => rfl) call42 rfl rfl fun r3 hr3 => ?_
    refine po_evs (T := tab) 1 rfl rfl ?_
    refine po_store (T := tab) rfl rfl rfl rfl rfl rfl rfl rfl rfl rfl rfl rfl ?_
    refine po_nil ?_
    refine pn_seq ?_
    exact pw_retN (T := tab) rfl rfl rfl ⟨rfl, rfl⟩ trivial rfl
  · refine pw_skip ?_
    refine pn_seq ?_
    refine pw_seq ?_
    refine pw_region ?_
    refine po_evs (T := tab) 1 rfl rfl ?_
    refine po_call (enc := fun (r4 : Instarref24_Scan) => .agg (cInstarref24_Scan r4)) (qs := [.agg (cInstarref24_Scan c1), .v (.string ⟨⟨[32, 49]⟩⟩)]) (Instarref24_need_ok fu c1 [32, 49]) rfl rfl ⟨⟨_, rfl, .rfl⟩, ⟨_, rfl, .rfl⟩, trivial⟩ (fun _ => rfl) call42 rfl rfl fun r4 hr4 => ?_
    refine po_evs (T := tab) 1 rfl rfl ?_
    refine po_store (T := tab) rfl rfl rfl rfl rfl rfl rfl rfl rfl rfl rfl rfl ?_
    refine po_nil ?_
    refine pn_seq ?_
    exact pw_retN (T := tab) rfl rfl rfl ⟨rfl, rfl⟩ trivial rfl

def Instarref24_mark_j1 (fu : Nat) (c3 : Int) (r11 : (Int × Instarref24_Scan)) (r12 : (Int × Instarref24_Scan)) (r13 : (Int × Instarref24_Scan)) (r14 : (Int × Instarref24_Scan)) (c15 : Bool) : Option (Mark × Instarref24_Scan) := bnd (Instarref24_need_m fu (⟨r14.2.S, r14.2.At, c15⟩ : Instarref24_Scan) [10]) fun r16 => cnd (!r16.Bad) (bnd (Instarref24_need_m fu (⟨r14.2.S, r14.2.At, c15⟩ : Instarref24_Scan) [10]) fun r17 => some ((⟨c3, r11.1, r12.1, r13.1, r14.1, [], false, false, [], [], 0, 0, false⟩ : Mark), r17)) (bnd (Instarref24_text_m fu (⟨r14.2.S, r14.2.At, c15⟩ : Instarref24_Scan)) fun r18 => bnd (Instarref24_bit_m fu r18.2) fun r19 => bnd (Instarref24_bit_m fu r19.2) fun r20 => bnd (Instarref24_text_m fu r20.2) fun r21 => bnd (Instarref24_text_m fu r21.2) fun r22 => bnd (Instarref24_number_m fu r22.2) fun r23 => bnd (Instarref24_number_m fu r23.2) fun r24 => bnd (Instarref24_bit_m fu r24.2) fun r25 => cnd (eqMark (⟨c3, r11.1, r12.1, r13.1, r14.1, r18.1, r19.1, r20.1, r21.1, r22.1, r23.1, r24.1, r25.1⟩ : Mark) (⟨c3, r11.1, r12.1, r13.1, r14.1, [], false, false, [], [], 0, 0, false⟩ : Mark)) (bnd (Instarref24_need_m fu (⟨r25.2.S, r25.2.At, true⟩ : Instarref24_Scan) [10]) fun r26 => some ((⟨c3, r11.1, r12.1, r13.1, r14.1, r18.1, r19.1, r20.1, r21.1, r22.1, r23.1, r24.1, r25.1⟩ : Mark), r26)) (bnd (Instarref24_need_m fu r25.2 [10]) fun r27 => some ((⟨c3, r11.1, r12.1, r13.1, r14.1, r18.1, r19.1, r20.1, r21.1, r22.1, r23.1, r24.1, r25.1⟩ : Mark), r27)))

def Instarref24_mark_l1 (fu : Nat) (c1 : Instarref24_Scan) : Nat → Int × Int → Option (Mark × Instarref24_Scan)
  | 0, _ => none
  | k1 + 1, (kind2, c3) => cnd (decide (kind2 ≤ 10)) (bnd (Instarref24_Word_m fu kind2) fun r4 => bnd (cat r4 ([32] : Bs)) fun s5 => bnd (Instarref24_need_m fu c1 s5) fun r6 => cnd (!r6.Bad) (bnd (rng .i64 (kind2 + 1)) fun i7 => (Instarref24_mark_l1 fu c1 k1) (i7, kind2)) (bnd (rng .i64 (kind2 + 1)) fun i8 => (Instarref24_mark_l1 fu c1 k1) (i8, c3))) (bnd (Instarref24_Word_m fu c3) fun r9 => bnd (Instarref24_need_m fu c1 r9) fun r10 => bnd (Instarref24_number_m fu r10) fun r11 => bnd (Instarref24_number_m fu r11.2) fun r12 => bnd (Instarref24_number_m fu r12.2) fun r13 => bnd (Instarref24_number_m fu r13.2) fun r14 => cnd (c3 == 0) ((Instarref24_mark_j1 fu c3 r11 r12 r13 r14) true) ((Instarref24_mark_j1 fu c3 r11 r12 r13 r14) r14.2.Bad))

def Instarref24_mark_m (fu : Nat) (c1 : Instarref24_Scan) : Option (Mark × Instarref24_Scan) := (Instarref24_mark_l1 fu c1) fu (1, 0)

end Go.Proofs.YtoakfflcpcdbeaaDoor
