/- Models and proofs, printed by emit2.py. -/
import Derived.Test.YtcaepigodglihaaG1
namespace Go.Proofs.Ytcaepigodglihaa
open Go Go.Pw
set_option linter.unusedVariables false

set_option maxHeartbeats 10000000 in
set_option maxRecDepth 100000 in
theorem Instarref02_Right_ok (fu : Nat) (l1 : (List Attr)) : ∀ r, Instarref02_Right_m fu l1 = some r → DC Try.prog 85 [.sl 2 false (l1.map cAttr)] (.v (.bool r)) := by
  intro r hr
  refine fc_intro (args := [.sl 2 false (l1.map cAttr)]) (S := []) (N0 := []) (post := fun r p S => p = .v (.bool r) ∧ S = []) Try.func85 rfl rfl hr fun w0 X X0 σ0 => ?_
  refine pw_seq ?_
  refine pw_region ?_
  refine po_evs (T := tab) 1 rfl rfl ?_
  refine po_nil ?_
  refine pn_seq ?_
  refine pw_seq ?_
  refine pw_seq ?_
  refine pw_region ?_
  refine po_evs (T := tab) 1 rfl rfl ?_
  refine po_len (T := tab) cAttr l1 rfl rfl rfl rfl rfl rfl rfl rfl ?_
  refine po_evs (T := tab) 1 rfl rfl ?_
  refine po_nil ?_
  refine pn_seq ?_
  refine pw_cnd rfl ?_ ?_
  · refine pw_seq ?_
    refine pw_region ?_
    refine po_evs (T := tab) 1 rfl rfl ?_
    refine po_nil ?_
    refine pn_seq ?_
    exact pw_retN (T := tab) rfl rfl rfl ⟨rfl, rfl⟩ trivial rfl
  · refine pw_skip ?_
    refine pn_seq ?_
    refine pw_seq ?_
    refine pw_seq ?_
    refine pw_region ?_
    refine po_evs (T := tab) 1 rfl rfl ?_
    refine po_nil ?_
    refine pn_seq ?_
    refine pw_block ?_
    refine pw_loop' (Instarref02_Right_l1 fu l1) (fun (i2 : Int) => [(0, .sl 2 false (l1.map cAttr)), (3, .v (.int .i64 i2))]) (fun (i2 : Int) => []) fu 0 (fun _ => rfl) ⟨rfl, rfl, trivial⟩ trivial rfl ?_
    rintro k1 i2
    refine pw_seq ?_
    refine pw_seq ?_
    refine pw_region ?_
    refine po_evs (T := tab) 2 rfl rfl ?_
    refine po_len (T := tab) cAttr l1 rfl rfl rfl rfl rfl rfl rfl rfl ?_
    refine po_evs (T := tab) 1 rfl rfl ?_
    refine po_nil ?_
    refine pn_seq ?_
    refine pw_cnd rfl ?_ ?_
    · refine pw_skip ?_
      refine pn_seq ?_
      refine pw_seq ?_
      refine pw_block ?_
      refine pw_seq ?_
      refine pw_draw mixed (by kernel_rfl) ?_
      refine pd_evs (T := tab) 2 rfl rfl ?_
      refine pd_idx (T := tab) cAttr l1 rfl rfl rfl rfl rfl rfl rfl fun y3 hy3 => ?_
      refine pd_evs (T := tab) 2 rfl rfl ?_
      refine pd_call (enc := fun (r4 : Bool) => .v (.bool r4)) (qs := [.v (.string ⟨⟨y3.Name⟩⟩)]) (Instarref01_Right_ok fu y3.Name) rfl rfl ⟨⟨_, rfl, .rfl⟩, trivial⟩ (fun _ => rfl) call83 rfl rfl fun r4 hr4 => ?_
      refine pd_evs (T := tab) 2 rfl rfl ?_
      refine pd_split (j := 20) rfl ?_ ?_
      · refine pd_evs (T := tab) 33 rfl rfl ?_
        refine pd_nil ?_
        refine pn_seq (pw_then rfl ?_)
        refine pw_seq ?_
        refine pw_region ?_
        refine po_evs (T := tab) 1 rfl rfl ?_
        refine po_nil ?_
        refine pn_seq ?_
        exact pw_retN (T := tab) rfl rfl rfl ⟨rfl, rfl⟩ trivial rfl
      · refine pd_evs (T := tab) 2 rfl rfl ?_
        refine pd_idx (T := tab) cAttr l1 rfl rfl rfl rfl rfl rfl rfl fun y5 hy5 => ?_
        refine pd_evs (T := tab) 2 rfl rfl ?_
        refine pd_call (enc := fun (r6 : Bs) => .v (.string ⟨⟨r6⟩⟩)) (qs := [.v (.string ⟨⟨y5.Name⟩⟩)]) (Instarref01_Small_ok fu y5.Name) rfl rfl ⟨⟨_, rfl, .rfl⟩, trivial⟩ (fun _ => rfl) call84 rfl rfl fun r6 hr6 => ?_
        refine pd_evs (T := tab) 2 rfl rfl ?_
        refine pd_idx (T := tab) cAttr l1 rfl rfl rfl rfl rfl rfl rfl fun y7 hy7 => ?_
        refine pd_evs (T := tab) 5 rfl rfl ?_
        refine pd_split (j := 34) rfl ?_ ?_
        · refine pd_evs (T := tab) 19 rfl rfl ?_
          refine pd_nil ?_
          refine pn_seq (pw_then rfl ?_)
          refine pw_seq ?_
          refine pw_region ?_
          refine po_evs (T := tab) 1 rfl rfl ?_
          refine po_nil ?_
          refine pn_seq ?_
          exact pw_retN (T := tab) rfl rfl rfl ⟨rfl, rfl⟩ trivial rfl
        · refine pd_evs (T := tab) 2 rfl rfl ?_
          refine pd_idx (T := tab) cAttr l1 rfl rfl rfl rfl rfl rfl rfl fun y8 hy8 => ?_
          refine pd_evs (T := tab) 6 rfl rfl ?_
          refine pd_split (j := 43) rfl ?_ ?_
          · refine pd_evs (T := tab) 10 rfl rfl ?_
            refine pd_nil ?_
            refine pn_seq (pw_then rfl ?_)
            refine pw_seq ?_
            refine pw_region ?_
            refine po_evs (T := tab) 1 rfl rfl ?_
            refine po_nil ?_
            refine pn_seq ?_
            exact pw_retN (T := tab) rfl rfl rfl ⟨rfl, rfl⟩ trivial rfl
          · refine pd_evs (T := tab) 3 rfl rfl ?_
            refine pd_idx (T := tab) cAttr l1 rfl rfl rfl rfl rfl rfl rfl fun y9 hy9 => ?_
            refine pd_evs (T := tab) 2 rfl rfl ?_
            refine pd_call (enc := fun (r10 : Int) => .v (.int .i64 r10)) (qs := [.sl 2 false (l1.map cAttr), .v (.string ⟨⟨y9.Name⟩⟩)]) (Instarref02_At_ok fu l1 y9.Name) rfl rfl ⟨⟨_, rfl, .rfl⟩, ⟨_, rfl, .rfl⟩, trivial⟩ (fun _ => rfl) call109 rfl rfl fun r10 hr10 => ?_
            refine pd_evs (T := tab) 3 rfl rfl ?_
            refine pd_nil ?_
            refine pn_seq ?_
            refine pw_cnd rfl ?_ ?_
            · refine pw_seq ?_
              refine pw_region ?_
              refine po_evs (T := tab) 1 rfl rfl ?_
              refine po_nil ?_
              refine pn_seq ?_
              exact pw_retN (T := tab) rfl rfl rfl ⟨rfl, rfl⟩ trivial rfl
            · refine pw_skip ?_
              refine pn_block ?_
              refine pn_seq ?_
              refine pw_region ?_
              refine po_evs (T := tab) 1 rfl rfl ?_
              refine po_arith' (T := tab) rfl rfl rfl rfl fun i11 hi11 => ?_
              refine po_evs (T := tab) 1 rfl rfl ?_
              refine po_nil ?_
              exact pn_iter' i11 ⟨rfl, rfl, trivial⟩ trivial rfl
    · refine pw_exit rfl ?_
      refine pn_seq ?_
      refine pw_seq ?_
      refine pw_region ?_
      refine po_evs (T := tab) 1 rfl rfl ?_
      refine po_nil ?_
      refine pn_seq ?_
      exact pw_retN (T := tab) rfl rfl rfl ⟨rfl, rfl⟩ trivial rfl

def Instarref01_One_j1 (s1 : Bs) (words2 : Bs) (at3 : Int) (i4 : Int) (rc1 : (Int × Int) → Option Bool) (x_ : Unit) : Option Bool := bnd (piece words2 at3 i4) fun s6 => cnd (s6 == s1) (some true) (bnd (rng .i64 (i4 + 1)) fun i7 => bnd (rng .i64 (i4 + 1)) fun i8 => rc1 (i7, i8))

def Instarref01_One_l1 (s1 : Bs) (words2 : Bs) : Nat → Int × Int → Option Bool
  | 0, _ => none
  | k1 + 1, (at3, i4) => cnd (decide (i4 ≤ ((words2.length : Nat) : Int))) (cnd (i4 == ((words2.length : Nat) : Int)) ((Instarref01_One_j1 s1 words2 at3 i4 (Instarref01_One_l1 s1 words2 k1)) ()) (bnd (chr words2 i4) fun b5 => cnd (b5 == 32) ((Instarref01_One_j1 s1 words2 at3 i4 (Instarref01_One_l1 s1 words2 k1)) ()) (bnd (rng .i64 (i4 + 1)) fun i9 => (Instarref01_One_l1 s1 words2 k1) (at3, i9)))) (some false)

def Instarref01_One_m (fu : Nat) (s1 : Bs) (words2 : Bs) : Option Bool := (Instarref01_One_l1 s1 words2) fu (0, 0)

set_option maxHeartbeats 10000000 in
set_option maxRecDepth 100000 in
theorem Instarref01_One_ok (fu : Nat) (s1 : Bs) (words2 : Bs) : ∀ r, Instarref01_One_m fu s1 words2 = some r → DC Try.prog 77 [.v (.string ⟨⟨s1⟩⟩), .v (.string ⟨⟨words2⟩⟩)] (.v (.bool r)) := by
  intro r hr
  refine fc_intro (args := [.v (.string ⟨⟨s1⟩⟩), .v (.string ⟨⟨words2⟩⟩)]) (S := []) (N0 := []) (post := fun r p S => p = .v (.bool r) ∧ S = []) Try.func77 rfl rfl hr fun w0 X X0 σ0 => ?_
  refine pw_seq ?_
  refine pw_region ?_
  refine po_evs (T := tab) 1 rfl rfl ?_
  refine po_nil ?_
  refine pn_seq ?_
  refine pw_seq ?_
  refine pw_region ?_
  refine po_evs (T := tab) 1 rfl rfl ?_
  refine po_nil ?_
  refine pn_seq ?_
  refine pw_seq ?_
  refine pw_seq ?_
  refine pw_region ?_
  refine po_evs (T := tab) 1 rfl rfl ?_
  refine po_nil ?_
  refine pn_seq ?_
  refine pw_block ?_
  refine pw_loop' (Instarref01_One_l1 s1 words2) (fun ((at3, i4) : Int × Int) => [(0, .v (.string ⟨⟨s1⟩⟩)), (1, .v (.string ⟨⟨words2⟩⟩)), (5, .v (.int .i64 at3)), (6, .v (.int .i64 i4))]) (fun ((at3, i4) : Int × Int) => []) fu (0, 0) (fun _ => rfl) ⟨rfl, rfl, rfl, rfl, trivial⟩ trivial rfl ?_
  rintro k1 ⟨at3, i4⟩
  refine pw_seq ?_
  refine pw_seq ?_
  refine pw_region ?_
  refine po_evs (T := tab) 4 rfl rfl ?_
  refine po_nil ?_
  refine pn_seq ?_
  refine pw_cnd rfl ?_ ?_
  · refine pw_skip ?_
    refine pn_seq ?_
    refine pw_seq ?_
    refine pw_block ?_
    refine pw_seq ?_
    refine pw_region ?_
    refine po_joinX (Instarref01_One_j1 s1 words2 at3 i4 (Instarref01_One_l1 s1 words2 k1)) (fun (_ : Unit) => [(0, .v (.string ⟨⟨s1⟩⟩)), (1, .v (.string ⟨⟨words2⟩⟩)), (5, .v (.int .i64 at3)), (6, .v (.int .i64 i4))]) (fun (_ : Unit) => []) ?_ fun hj1 => ?_
    · rintro _
      refine pw_seq ?_
      refine pw_seq ?_
      refine pw_region ?_
      refine po_evs (T := tab) 3 rfl rfl ?_
      refine po_sub (T := tab) rfl rfl rfl rfl rfl rfl rfl rfl fun s6 hs6 => ?_
      refine po_evs (T := tab) 2 rfl rfl ?_
      refine po_nil ?_
      refine pn_seq ?_
      refine pw_cnd rfl ?_ ?_
      · refine pw_seq ?_
        refine pw_region ?_
        refine po_evs (T := tab) 1 rfl rfl ?_
        refine po_nil ?_
        refine pn_seq ?_
        exact pw_retN (T := tab) rfl rfl rfl ⟨rfl, rfl⟩ trivial rfl
      · refine pw_skip ?_
        refine pn_seq ?_
        refine pw_region ?_
        refine po_evs (T := tab) 1 rfl rfl ?_
        refine po_arith' (T := tab) rfl rfl rfl rfl fun i7 hi7 => ?_
        refine po_evs (T := tab) 1 rfl rfl ?_
        refine po_nil ?_
        refine pn_block ?_
        refine pn_seq ?_
        refine pw_region ?_
        refine po_evs (T := tab) 1 rfl rfl ?_
        refine po_arith' (T := tab) rfl rfl rfl rfl fun i8 hi8 => ?_
        refine po_evs (T := tab) 1 rfl rfl ?_
        refine po_nil ?_
        exact pn_iter' (i7, i8) ⟨rfl, rfl, rfl, rfl, trivial⟩ trivial rfl
    · refine po_evs (T := tab) 5 rfl rfl ?_
      refine po_split (j := 17) rfl ?_ ?_
      · refine po_evs (T := tab) 5 rfl rfl ?_
        refine po_nil ?_
        refine pn_seq (pw_then rfl ?_)
        exact pw_sub' (hj1 ()) ⟨rfl, rfl, rfl, rfl, trivial⟩ trivial rfl
      · refine po_evs (T := tab) 2 rfl rfl ?_
        refine po_chr (T := tab) (s := words2) rfl rfl rfl rfl rfl rfl rfl fun b5 hb5 => ?_
        refine po_evs (T := tab) 2 rfl rfl ?_
        refine po_nil ?_
        refine pn_seq ?_
        refine pw_cnd rfl ?_ ?_
        · exact pw_sub' (hj1 ()) ⟨rfl, rfl, rfl, rfl, trivial⟩ trivial rfl
        · refine pw_skip ?_
          refine pn_block ?_
          refine pn_seq ?_
          refine pw_region ?_
          refine po_evs (T := tab) 1 rfl rfl ?_
          refine po_arith' (T := tab) rfl rfl rfl rfl fun i9 hi9 => ?_
          refine po_evs (T := tab) 1 rfl rfl ?_
          refine po_nil ?_
          exact pn_iter' (at3, i9) ⟨rfl, rfl, rfl, rfl, trivial⟩ trivial rfl
  · refine pw_exit rfl ?_
    refine pn_seq ?_
    refine pw_seq ?_
    refine pw_region ?_
    refine po_evs (T := tab) 1 rfl rfl ?_
    refine po_nil ?_
    refine pn_seq ?_
    exact pw_retN (T := tab) rfl rfl rfl ⟨rfl, rfl⟩ trivial rfl

def Instarref01_Custom_l1 (s1 : Bs) : Nat → Int → Option Bool
  | 0, _ => none
  | k1 + 1, i6 => cnd (decide (i6 < ((s1.length : Nat) : Int))) (bnd (chr s1 i6) fun b7 => cnd (b7 == 45) (some true) (bnd (rng .i64 (i6 + 1)) fun i8 => (Instarref01_Custom_l1 s1 k1) i8)) (some false)

def Instarref01_Custom_m (fu : Nat) (s1 : Bs) : Option Bool := bnd (Instarref01_Right_m fu s1) fun r2 => cnd (!r2) (some false) (bnd (Instarref01_Small_m fu s1) fun r3 => cnd (!(s1 == r3)) (some false) (bnd (chr s1 0) fun b4 => cnd (b4 == 95) (some false) (bnd (Instarref01_One_m fu s1 [97, 110, 110, 111, 116, 97, 116, 105, 111, 110, 45, 120, 109, 108, 32, 99, 111, 108, 111, 114, 45, 112, 114, 111, 102, 105, 108, 101, 32, 102, 111, 110, 116, 45, 102, 97, 99, 101, 32, 102, 111, 110, 116, 45, 102, 97, 99, 101, 45, 115, 114, 99, 32, 102, 111, 110, 116, 45, 102, 97, 99, 101, 45, 117, 114, 105, 32, 102, 111, 110, 116, 45, 102, 97, 99, 101, 45, 102, 111, 114, 109, 97, 116, 32, 102, 111, 110, 116, 45, 102, 97, 99, 101, 45, 110, 97, 109, 101, 32, 109, 105, 115, 115, 105, 110, 103, 45, 103, 108, 121, 112, 104]) fun r5 => cnd r5 (some false) ((Instarref01_Custom_l1 s1) fu 0))))

set_option maxHeartbeats 10000000 in
set_option maxRecDepth 100000 in
theorem Instarref01_Custom_ok (fu : Nat) (s1 : Bs) : ∀ r, Instarref01_Custom_m fu s1 = some r → DC Try.prog 76 [.v (.string ⟨⟨s1⟩⟩)] (.v (.bool r)) := by
  intro r hr
  refine fc_intro (args := [.v (.string ⟨⟨s1⟩⟩)]) (S := []) (N0 := []) (post := fun r p S => p = .v (.bool r) ∧ S = []) Try.func76 rfl rfl hr fun w0 X X0 σ0 => ?_
  refine pw_seq ?_
  refine pw_region ?_
  refine po_evs (T := tab) 1 rfl rfl ?_
  refine po_nil ?_
  refine pn_seq ?_
  refine pw_seq ?_
  refine pw_seq ?_
  refine pw_region ?_
  refine po_evs (T := tab) 1 rfl rfl ?_
  refine po_call (enc := fun (r2 : Bool) => .v (.bool r2)) (qs := [.v (.string ⟨⟨s1⟩⟩)]) (Instarref01_Right_ok fu s1) rfl rfl ⟨⟨_, rfl, .rfl⟩, trivial⟩ (fun _ => rfl) call83 rfl rfl fun r2 hr2 => ?_
  refine po_evs (T := tab) 2 rfl rfl ?_
  refine po_split (j := 7) rfl ?_ ?_
  · refine po_evs (T := tab) 14 rfl rfl ?_
    refine po_nil ?_
    refine pn_seq (pw_then rfl ?_)
    refine pw_seq ?_
    refine pw_region ?_
    refine po_evs (T := tab) 1 rfl rfl ?_
    refine po_nil ?_
    refine pn_seq ?_
    exact pw_retN (T := tab) rfl rfl rfl ⟨rfl, rfl⟩ trivial rfl
  · refine po_evs (T := tab) 2 rfl rfl ?_
    refine po_call (enc := fun (r3 : Bs) => .v (.string ⟨⟨r3⟩⟩)) (qs := [.v (.string ⟨⟨s1⟩⟩)]) (Instarref01_Small_ok fu s1) rfl rfl ⟨⟨_, rfl, .rfl⟩, trivial⟩ (fun _ => rfl) call84 rfl rfl fun r3 hr3 => ?_
    refine po_evs (T := tab) 3 rfl rfl ?_
    refine po_split (j := 13) rfl ?_ ?_
    · refine po_evs (T := tab) 8 rfl rfl ?_
      refine po_nil ?_
      refine pn_seq (pw_then rfl ?_)
      refine pw_seq ?_
      refine pw_region ?_
      refine po_evs (T := tab) 1 rfl rfl ?_
      refine po_nil ?_
      refine pn_seq ?_
      exact pw_retN (T := tab) rfl rfl rfl ⟨rfl, rfl⟩ trivial rfl
    · refine po_evs (T := tab) 1 rfl rfl ?_
      refine po_chr (T := tab) (s := s1) rfl rfl rfl rfl rfl rfl rfl fun b4 hb4 => ?_
      refine po_evs (T := tab) 3 rfl rfl ?_
      refine po_split (j := 18) rfl ?_ ?_
      · refine po_evs (T := tab) 3 rfl rfl ?_
        refine po_nil ?_
        refine pn_seq (pw_then rfl ?_)
        refine pw_seq ?_
        refine pw_region ?_
        refine po_evs (T := tab) 1 rfl rfl ?_
        refine po_nil ?_
        refine pn_seq ?_
        exact pw_retN (T := tab) rfl rfl rfl ⟨rfl, rfl⟩ trivial rfl
      · refine po_evs (T := tab) 1 rfl rfl ?_
        refine po_call (enc := fun (r5 : Bool) => .v (.bool r5)) (qs := [.v (.string ⟨⟨s1⟩⟩), .v (.string ⟨⟨[97, 110, 110, 111, 116, 97, 116, 105, 111, 110, 45, 120, 109, 108, 32, 99, 111, 108, 111, 114, 45, 112, 114, 111, 102, 105, 108, 101, 32, 102, 111, 110, 116, 45, 102, 97, 99, 101, 32, 102, 111, 110, 116, 45, 102, 97, 99, 101, 45, 115, 114, 99, 32, 102, 111, 110, 116, 45, 102, 97, 99, 101, 45, 117, 114, 105, 32, 102, 111, 110, 116, 45, 102, 97, 99, 101, 45, 102, 111, 114, 109, 97, 116, 32, 102, 111, 110, 116, 45, 102, 97, 99, 101, 45, 110, 97, 109, 101, 32, 109, 105, 115, 115, 105, 110, 103, 45, 103, 108, 121, 112, 104]⟩⟩)]) (Instarref01_One_ok fu s1 [97, 110, 110, 111, 116, 97, 116, 105, 111, 110, 45, 120, 109, 108, 32, 99, 111, 108, 111, 114, 45, 112, 114, 111, 102, 105, 108, 101, 32, 102, 111, 110, 116, 45, 102, 97, 99, 101, 32, 102, 111, 110, 116, 45, 102, 97, 99, 101, 45, 115, 114, 99, 32, 102, 111, 110, 116, 45, 102, 97, 99, 101, 45, 117, 114, 105, 32, 102, 111, 110, 116, 45, 102, 97, 99, 101, 45, 102, 111, 114, 109, 97, 116, 32, 102, 111, 110, 116, 45, 102, 97, 99, 101, 45, 110, 97, 109, 101, 32, 109, 105, 115, 115, 105, 110, 103, 45, 103, 108, 121, 112, 104]) rfl rfl ⟨⟨_, rfl, .rfl⟩, ⟨_, rfl, .rfl⟩, trivial⟩ (fun _ => rfl) call77 rfl rfl fun r5 hr5 => ?_
        refine po_evs (T := tab) 1 rfl rfl ?_
        refine po_nil ?_
        refine pn_seq ?_
        refine pw_cnd rfl ?_ ?_
        · refine pw_seq ?_
          refine pw_region ?_
          refine po_evs (T := tab) 1 rfl rfl ?_
          refine po_nil ?_
          refine pn_seq ?_
          exact pw_retN (T := tab) rfl rfl rfl ⟨rfl, rfl⟩ trivial rfl
        · refine pw_skip ?_
          refine pn_seq ?_
          refine pw_seq ?_
          refine pw_seq ?_
          refine pw_region ?_
          refine po_evs (T := tab) 1 rfl rfl ?_
          refine po_nil ?_
          refine pn_seq ?_
          refine pw_block ?_
          refine pw_loop' (Instarref01_Custom_l1 s1) (fun (i6 : Int) => [(0, .v (.string ⟨⟨s1⟩⟩)), (3, .v (.int .i64 i6))]) (fun (i6 : Int) => []) fu 0 (fun _ => rfl) ⟨rfl, rfl, trivial⟩ trivial rfl ?_
          rintro k1 i6
          refine pw_seq ?_
          refine pw_seq ?_
          refine pw_region ?_
          refine po_evs (T := tab) 4 rfl rfl ?_
          refine po_nil ?_
          refine pn_seq ?_
          refine pw_cnd rfl ?_ ?_
          · refine pw_skip ?_
            refine pn_seq ?_
            refine pw_seq ?_
            refine pw_block ?_
            refine pw_seq ?_
            refine pw_region ?_
            refine po_evs (T := tab) 2 rfl rfl ?_
            refine po_chr (T := tab) (s := s1) rfl rfl rfl rfl rfl rfl rfl fun b7 hb7 => ?_
            refine po_evs (T := tab) 1 rfl rfl ?_
            refine po_nil ?_
            refine pn_seq ?_
            refine pw_cnd rfl ?_ ?_
            · refine pw_seq ?_
              refine pw_region ?_
              refine po_evs (T := tab) 1 rfl rfl ?_
              refine po_nil ?_
              refine pn_seq ?_
              exact pw_retN (T := tab) rfl rfl rfl ⟨rfl, rfl⟩ trivial rfl
            · refine pw_skip ?_
              refine pn_block ?_
              refine pn_seq ?_
              refine pw_region ?_
              refine po_evs (T := tab) 1 rfl rfl ?_
              refine po_arith' (T := tab) rfl rfl rfl rfl fun i8 hi8 => ?_
              refine po_evs (T := tab) 1 rfl rfl ?_
              refine po_nil ?_
              exact pn_iter' i8 ⟨rfl, rfl, trivial⟩ trivial rfl
          · refine pw_exit rfl ?_
            refine pn_seq ?_
            refine pw_seq ?_
            refine pw_region ?_
            refine po_evs (T := tab) 1 rfl rfl ?_
            refine po_nil ?_
            refine pn_seq ?_
            exact pw_retN (T := tab) rfl rfl rfl ⟨rfl, rfl⟩ trivial rfl

def Instarref03_Node_j5 (fu : Nat) (y3 : Node) (x_ : Unit) : Option Bool := cnd (y3.Kind == 1) (bnd (Instarref01_Right_m fu y3.Name) fun r34 => cnd r34 (bnd (Instarref01_Small_m fu y3.Name) fun r35 => cnd (r35 == y3.Name) (cnd (y3.Is == ([] : Bs)) (cnd (y3.Data == ([] : Bs)) (bnd (Instarref02_Right_m fu y3.Attrs) fun r36 => some r36) (some false)) (bnd (Instarref01_Custom_m fu y3.Is) fun r37 => cnd r37 (cnd (y3.Data == ([] : Bs)) (bnd (Instarref02_Right_m fu y3.Attrs) fun r38 => some r38) (some false)) (some false))) (some false)) (some false)) (cnd (y3.Name == ([] : Bs)) (cnd (y3.Is == ([] : Bs)) (cnd (((y3.Attrs.length : Nat) : Int) == 0) (cnd (y3.Data == ([] : Bs)) (some true) (cnd (y3.Kind == 2) (some (decide (((y3.Data.length : Nat) : Int) ≤ 200))) (some false))) (some false)) (some false)) (some false))

def Instarref03_Node_j4 (fu : Nat) (f1 : Forest) (n2 : Int) (y3 : Node) (x_ : Unit) : Option Bool := cnd (y3.Under != (-1)) (cnd (y3.Kind != 1) (some false) (cnd (decide (y3.Under < 0)) (some false) (cnd (decide (y3.Under ≥ ((f1.Nodes.length : Nat) : Int))) (some false) (bnd (idx f1.Nodes y3.Under) fun y32 => cnd (y32.Kind != 4) (some false) (bnd (idx f1.Nodes y3.Under) fun y33 => cnd (y33.Host != n2) (some false) ((Instarref03_Node_j5 fu y3) ())))))) ((Instarref03_Node_j5 fu y3) ())

def Instarref03_Node_j3 (fu : Nat) (f1 : Forest) (n2 : Int) (y3 : Node) (x_ : Unit) : Option Bool := cnd (y3.Kind == 4) (cnd (decide (y3.Host < 0)) (some false) (cnd (decide (y3.Host ≥ ((f1.Nodes.length : Nat) : Int))) (some false) (bnd (idx f1.Nodes y3.Host) fun y29 => cnd (y29.Kind != 1) (some false) (bnd (idx f1.Nodes y3.Host) fun y30 => cnd (y30.Under != n2) (some false) (bnd (idx f1.Nodes y3.Host) fun y31 => cnd (y31.Doc != y3.Doc) (some false) ((Instarref03_Node_j4 fu f1 n2 y3) ())))))) (cnd (y3.Host != (-1)) (some false) ((Instarref03_Node_j4 fu f1 n2 y3) ()))

def Instarref03_Node_l1 (fu : Nat) (f1 : Forest) (n2 : Int) (y3 : Node) : Nat → Int × Int → Option Bool
  | 0, _ => none
  | k1 + 1, (elems11, i12) => cnd (decide (i12 < ((y3.Kids.length : Nat) : Int))) (bnd (idx y3.Kids i12) fun y13 => cnd (decide (y13 < 0)) (some false) (cnd (decide (y13 ≥ ((f1.Nodes.length : Nat) : Int))) (some false) (bnd (Instarref03_Has_m fu y3.Kids y13) fun r14 => cnd (r14 != 1) (some false) (bnd (idx f1.Nodes y13) fun y15 => cnd (y15.Kind != 1) (bnd (idx f1.Nodes y13) fun y16 => cnd (y16.Kind != 2) (some false) (bnd (idx f1.Nodes y13) fun y17 => cnd (y17.Parent != n2) (some false) (bnd (idx f1.Nodes y13) fun y18 => cnd (y18.Doc != y3.Doc) (some false) (bnd (idx f1.Nodes y13) fun y21 => cnd (y21.Kind == 1) (bnd (rng .i64 (elems11 + 1)) fun i22 => bnd (rng .i64 (i12 + 1)) fun i25 => (Instarref03_Node_l1 fu f1 n2 y3 k1) (i22, i25)) (bnd (rng .i64 (i12 + 1)) fun i26 => (Instarref03_Node_l1 fu f1 n2 y3 k1) (elems11, i26)))))) (bnd (idx f1.Nodes y13) fun y19 => cnd (y19.Parent != n2) (some false) (bnd (idx f1.Nodes y13) fun y20 => cnd (y20.Doc != y3.Doc) (some false) (bnd (idx f1.Nodes y13) fun y23 => cnd (y23.Kind == 1) (bnd (rng .i64 (elems11 + 1)) fun i24 => bnd (rng .i64 (i12 + 1)) fun i27 => (Instarref03_Node_l1 fu f1 n2 y3 k1) (i24, i27)) (bnd (rng .i64 (i12 + 1)) fun i28 => (Instarref03_Node_l1 fu f1 n2 y3 k1) (elems11, i28))))))))) (cnd (y3.Kind == 2) (cnd (decide (((y3.Kids.length : Nat) : Int) > 0)) (some false) (cnd (y3.Kind == 0) (cnd (decide (elems11 > 1)) (some false) (cnd (decide (elems11 < ((y3.Kids.length : Nat) : Int))) (some false) ((Instarref03_Node_j3 fu f1 n2 y3) ()))) ((Instarref03_Node_j3 fu f1 n2 y3) ()))) (cnd (y3.Kind == 0) (cnd (decide (elems11 > 1)) (some false) (cnd (decide (elems11 < ((y3.Kids.length : Nat) : Int))) (some false) ((Instarref03_Node_j3 fu f1 n2 y3) ()))) ((Instarref03_Node_j3 fu f1 n2 y3) ())))

def Instarref03_Node_j2 (fu : Nat) (f1 : Forest) (n2 : Int) (y3 : Node) (x_ : Unit) : Option Bool := (Instarref03_Node_l1 fu f1 n2 y3) fu (0, 0)

def Instarref03_Node_j1 (fu : Nat) (f1 : Forest) (n2 : Int) (y3 : Node) (x_ : Unit) : Option Bool := cnd (y3.Parent != (-1)) (cnd (y3.Kind != 1) (cnd (y3.Kind != 2) (some false) (cnd (decide (y3.Parent < 0)) (some false) (cnd (decide (y3.Parent ≥ ((f1.Nodes.length : Nat) : Int))) (some false) (bnd (idx f1.Nodes y3.Parent) fun y5 => cnd (y5.Kind == 2) (some false) (bnd (idx f1.Nodes y3.Parent) fun y6 => bnd (Instarref03_Has_m fu y6.Kids n2) fun r7 => cnd (r7 != 1) (some false) ((Instarref03_Node_j2 fu f1 n2 y3) ())))))) (cnd (decide (y3.Parent < 0)) (some false) (cnd (decide (y3.Parent ≥ ((f1.Nodes.length : Nat) : Int))) (some false) (bnd (idx f1.Nodes y3.Parent) fun y8 => cnd (y8.Kind == 2) (some false) (bnd (idx f1.Nodes y3.Parent) fun y9 => bnd (Instarref03_Has_m fu y9.Kids n2) fun r10 => cnd (r10 != 1) (some false) ((Instarref03_Node_j2 fu f1 n2 y3) ())))))) ((Instarref03_Node_j2 fu f1 n2 y3) ())

def Instarref03_Node_m (fu : Nat) (f1 : Forest) (n2 : Int) : Option Bool := bnd (idx f1.Nodes n2) fun y3 => cnd (decide (y3.Kind < 0)) (some false) (cnd (decide (y3.Kind > 4)) (some false) (cnd (decide (y3.Doc < 0)) (some false) (cnd (decide (y3.Doc ≥ ((f1.Nodes.length : Nat) : Int))) (some false) (bnd (idx f1.Nodes y3.Doc) fun y4 => cnd (y4.Kind != 0) (some false) (cnd (y3.Kind == 0) (cnd (y3.Doc != n2) (some false) ((Instarref03_Node_j1 fu f1 n2 y3) ())) ((Instarref03_Node_j1 fu f1 n2 y3) ()))))))

set_option maxHeartbeats 10000000 in
set_option maxRecDepth 100000 in
theorem Instarref03_Node_ok (fu : Nat) (f1 : Forest) (n2 : Int) : ∀ r, Instarref03_Node_m fu f1 n2 = some r → DC Try.prog 56 [.agg (cForest f1), .v (.int .i64 n2)] (.v (.bool r)) := by
  intro r hr
  refine fc_intro (args := [.agg (cForest f1), .v (.int .i64 n2)]) (S := []) (N0 := []) (post := fun r p S => p = .v (.bool r) ∧ S = []) Try.func56 rfl rfl hr fun w0 X X0 σ0 => ?_
  refine pw_seq ?_
  refine pw_region ?_
  refine po_box  2 rfl rfl rfl rfl rfl rfl rfl rfl rfl rfl ?_
  refine po_evs (T := tab) 1 rfl rfl ?_
  refine po_nil ?_
  refine pn_seq ?_
  refine pw_seq ?_
  refine pw_region ?_
  refine po_evs (T := tab) 3 rfl rfl ?_
  refine po_idx (T := tab) cNode f1.Nodes rfl rfl rfl rfl rfl rfl rfl fun y3 hy3 => ?_
  refine po_evs (T := tab) 1 rfl rfl ?_
  refine po_alloc (T := tab) 5 rfl rfl rfl rfl rfl rfl rfl rfl rfl ?_
  refine po_store (T := tab) rfl rfl rfl rfl rfl rfl rfl rfl rfl rfl rfl rfl ?_
  refine po_nil ?_
  refine pn_seq ?_
  refine pw_seq ?_
  refine pw_region ?_
  refine po_evs (T := tab) 2 rfl rfl ?_
  refine po_len (T := tab) cNode f1.Nodes rfl rfl rfl rfl rfl rfl rfl rfl ?_
  refine po_evs (T := tab) 1 rfl rfl ?_
  refine po_nil ?_
  refine pn_seq ?_
  refine pw_seq ?_
  refine pw_seq ?_
  refine pw_region ?_
  refine po_joinB (Instarref03_Node_j1 fu f1 n2 y3) (fun (_ : Unit) => [(1, .v (.int .i64 n2)), (2, .loc 2 0), (5, .loc 5 0), (6, .v (.int .i64 ((f1.Nodes.length : Nat) : Int)))]) (fun (_ : Unit) => [(5, .box [.v (.int .i64 y3.Kind), .v (.string ⟨⟨y3.Name⟩⟩), .v (.string ⟨⟨y3.Is⟩⟩), .v (.string ⟨⟨y3.Data⟩⟩), .sl 2 false (y3.Attrs.map cAttr), .v (.int .i64 y3.Parent), .sl 1 false (y3.Kids.map cInt_i64), .v (.int .i64 y3.Host), .v (.int .i64 y3.Under), .v (.int .i64 y3.Doc)]), (2, .box [.sl 10 false (f1.Nodes.map cNode), .v (.int .i64 f1.Most)])]) ?_ fun hj1 => ?_
  · rintro _
    refine pn_seq ?_
    refine pw_seq ?_
    refine pw_seq ?_
    refine pw_region ?_
    refine po_evs (T := tab) 3 rfl rfl ?_
    refine po_nil ?_
    refine pn_seq ?_
    refine pw_joinK (Instarref03_Node_j2 fu f1 n2 y3) (fun (_ : Unit) => [(1, .v (.int .i64 n2)), (2, .loc 2 0), (5, .loc 5 0), (6, .v (.int .i64 ((f1.Nodes.length : Nat) : Int)))]) (fun (_ : Unit) => [(5, .box [.v (.int .i64 y3.Kind), .v (.string ⟨⟨y3.Name⟩⟩), .v (.string ⟨⟨y3.Is⟩⟩), .v (.string ⟨⟨y3.Data⟩⟩), .sl 2 false (y3.Attrs.map cAttr), .v (.int .i64 y3.Parent), .sl 1 false (y3.Kids.map cInt_i64), .v (.int .i64 y3.Host), .v (.int .i64 y3.Under), .v (.int .i64 y3.Doc)]), (2, .box [.sl 10 false (f1.Nodes.map cNode), .v (.int .i64 f1.Most)])]) ?_ fun hj2 => ?_
    · rintro _
      refine pn_seq ?_
      refine pw_seq ?_
      refine pw_region ?_
      refine po_evs (T := tab) 1 rfl rfl ?_
      refine po_nil ?_
      refine pn_seq ?_
      refine pw_seq ?_
      refine pw_seq ?_
      refine pw_region ?_
      refine po_evs (T := tab) 1 rfl rfl ?_
      refine po_nil ?_
      refine pn_seq ?_
      refine pw_block ?_
      refine pw_loop' (Instarref03_Node_l1 fu f1 n2 y3) (fun ((elems11, i12) : Int × Int) => [(1, .v (.int .i64 n2)), (2, .loc 2 0), (5, .loc 5 0), (6, .v (.int .i64 ((f1.Nodes.length : Nat) : Int))), (7, .v (.int .i64 elems11)), (8, .v (.int .i64 i12))]) (fun ((elems11, i12) : Int × Int) => [(5, .box [.v (.int .i64 y3.Kind), .v (.string ⟨⟨y3.Name⟩⟩), .v (.string ⟨⟨y3.Is⟩⟩), .v (.string ⟨⟨y3.Data⟩⟩), .sl 2 false (y3.Attrs.map cAttr), .v (.int .i64 y3.Parent), .sl 1 false (y3.Kids.map cInt_i64), .v (.int .i64 y3.Host), .v (.int .i64 y3.Under), .v (.int .i64 y3.Doc)]), (2, .box [.sl 10 false (f1.Nodes.map cNode), .v (.int .i64 f1.Most)])]) fu (0, 0) (fun _ => rfl) ⟨rfl, rfl, rfl, rfl, rfl, rfl, trivial⟩ ⟨rfl, rfl, trivial⟩ rfl ?_
      rintro k1 ⟨elems11, i12⟩
      refine pw_seq ?_
      refine pw_seq ?_
      refine pw_region ?_
      refine po_evs (T := tab) 3 rfl rfl ?_
      refine po_len (T := tab) cInt_i64 y3.Kids rfl rfl rfl rfl rfl rfl rfl rfl ?_
      refine po_evs (T := tab) 1 rfl rfl ?_
      refine po_nil ?_
      refine pn_seq ?_
      refine pw_cnd rfl ?_ ?_
      · refine pw_skip ?_
        refine pn_seq ?_
        refine pw_seq ?_
        refine pw_block ?_
        refine pw_seq ?_
        refine pw_region ?_
        refine po_evs (T := tab) 3 rfl rfl ?_
        refine po_idx (T := tab) cInt_i64 y3.Kids rfl rfl rfl rfl rfl rfl rfl fun y13 hy13 => ?_
        refine po_evs (T := tab) 2 rfl rfl ?_
        refine po_nil ?_
        refine pn_seq ?_
        refine pw_seq ?_
        refine pw_seq ?_
        refine pw_draw mixed (by kernel_rfl) ?_
        refine pd_evs (T := tab) 3 rfl rfl ?_
        refine pd_split (j := 116) rfl ?_ ?_
        · refine pd_evs (T := tab) 50 rfl rfl ?_
          refine pd_nil ?_
          refine pn_seq (pw_then rfl ?_)
          refine pw_seq ?_
          refine pw_region ?_
          refine po_evs (T := tab) 1 rfl rfl ?_
          refine po_nil ?_
          refine pn_seq ?_
          exact pw_retN (T := tab) rfl rfl rfl ⟨rfl, rfl⟩ trivial rfl
        · refine pd_evs (T := tab) 5 rfl rfl ?_
          refine pd_split (j := 121) rfl ?_ ?_
          · refine pd_evs (T := tab) 45 rfl rfl ?_
            refine pd_nil ?_
            refine pn_seq (pw_then rfl ?_)
            refine pw_seq ?_
            refine pw_region ?_
            refine po_evs (T := tab) 1 rfl rfl ?_
            refine po_nil ?_
            refine pn_seq ?_
            exact pw_retN (T := tab) rfl rfl rfl ⟨rfl, rfl⟩ trivial rfl
          · refine pd_evs (T := tab) 3 rfl rfl ?_
            refine pd_call (enc := fun (r14 : Int) => .v (.int .i64 r14)) (qs := [.sl 1 false (y3.Kids.map cInt_i64), .v (.int .i64 y13)]) (Instarref03_Has_ok fu y3.Kids y13) rfl rfl ⟨⟨_, rfl, .rfl⟩, ⟨_, rfl, .rfl⟩, trivial⟩ (fun _ => rfl) call34 rfl rfl fun r14 hr14 => ?_
            refine pd_evs (T := tab) 3 rfl rfl ?_
            refine pd_split (j := 128) rfl ?_ ?_
            · refine pd_evs (T := tab) 38 rfl rfl ?_
              refine pd_nil ?_
              refine pn_seq (pw_then rfl ?_)
              refine pw_seq ?_
              refine pw_region ?_
              refine po_evs (T := tab) 1 rfl rfl ?_
              refine po_nil ?_
              refine pn_seq ?_
              exact pw_retN (T := tab) rfl rfl rfl ⟨rfl, rfl⟩ trivial rfl
            · refine pd_evs (T := tab) 3 rfl rfl ?_
              refine pd_idx (T := tab) cNode f1.Nodes rfl rfl rfl rfl rfl rfl rfl fun y15 hy15 => ?_
              refine pd_evs (T := tab) 4 rfl rfl ?_
              refine pd_split (j := 136) rfl ?_ ?_
              · refine pd_evs (T := tab) 3 rfl rfl ?_
                refine pd_idx (T := tab) cNode f1.Nodes rfl rfl rfl rfl rfl rfl rfl fun y16 hy16 => ?_
                refine pd_evs (T := tab) 6 rfl rfl ?_
                refine pd_split (j := 146) rfl ?_ ?_
                · refine pd_evs (T := tab) 20 rfl rfl ?_
                  refine pd_nil ?_
                  refine pn_seq (pw_then rfl ?_)
                  refine pw_seq ?_
                  refine pw_region ?_
                  refine po_evs (T := tab) 1 rfl rfl ?_
                  refine po_nil ?_
                  refine pn_seq ?_
                  exact pw_retN (T := tab) rfl rfl rfl ⟨rfl, rfl⟩ trivial rfl
                · refine pd_evs (T := tab) 3 rfl rfl ?_
                  refine pd_idx (T := tab) cNode f1.Nodes rfl rfl rfl rfl rfl rfl rfl fun y17 hy17 => ?_
                  refine pd_evs (T := tab) 6 rfl rfl ?_
                  refine pd_split (j := 156) rfl ?_ ?_
                  · refine pd_evs (T := tab) 10 rfl rfl ?_
                    refine pd_nil ?_
                    refine pn_seq (pw_then rfl ?_)
                    refine pw_seq ?_
                    refine pw_region ?_
                    refine po_evs (T := tab) 1 rfl rfl ?_
                    refine po_nil ?_
                    refine pn_seq ?_
                    exact pw_retN (T := tab) rfl rfl rfl ⟨rfl, rfl⟩ trivial rfl
                  · refine pd_evs (T := tab) 3 rfl rfl ?_
                    refine pd_idx (T := tab) cNode f1.Nodes rfl rfl rfl rfl rfl rfl rfl fun y18 hy18 => ?_
                    refine pd_evs (T := tab) 6 rfl rfl ?_
                    refine pd_nil ?_
                    refine pn_seq ?_
                    refine pw_cnd rfl ?_ ?_
                    · refine pw_seq ?_
                      refine pw_region ?_
                      refine po_evs (T := tab) 1 rfl rfl ?_
                      refine po_nil ?_
                      refine pn_seq ?_
                      exact pw_retN (T := tab) rfl rfl rfl ⟨rfl, rfl⟩ trivial rfl
                    · refine pw_skip ?_
                      refine pn_seq ?_
                      refine pw_seq ?_
                      refine pw_region ?_
                      refine po_evs (T := tab) 3 rfl rfl ?_
                      refine po_idx (T := tab) cNode f1.Nodes rfl rfl rfl rfl rfl rfl rfl fun y21 hy21 => ?_
                      refine po_evs (T := tab) 3 rfl rfl ?_
                      refine po_nil ?_
                      refine pn_seq ?_
                      refine pw_cnd rfl ?_ ?_
                      · refine pw_region ?_
                        refine po_evs (T := tab) 1 rfl rfl ?_
                        refine po_arith' (T := tab) rfl rfl rfl rfl fun i22 hi22 => ?_
                        refine po_evs (T := tab) 1 rfl rfl ?_
                        refine po_nil ?_
                        refine pn_block ?_
                        refine pn_seq ?_
                        refine pw_region ?_
                        refine po_evs (T := tab) 1 rfl rfl ?_
                        refine po_arith' (T := tab) rfl rfl rfl rfl fun i25 hi25 => ?_
                        refine po_evs (T := tab) 1 rfl rfl ?_
                        refine po_nil ?_
                        exact pn_iter' (i22, i25) ⟨rfl, rfl, rfl, rfl, rfl, rfl, trivial⟩ ⟨rfl, rfl, trivial⟩ rfl
                      · refine pw_skip ?_
                        refine pn_block ?_
                        refine pn_seq ?_
                        refine pw_region ?_
                        refine po_evs (T := tab) 1 rfl rfl ?_
                        refine po_arith' (T := tab) rfl rfl rfl rfl fun i26 hi26 => ?_
                        refine po_evs (T := tab) 1 rfl rfl ?_
                        refine po_nil ?_
                        exact pn_iter' (elems11, i26) ⟨rfl, rfl, rfl, rfl, rfl, rfl, trivial⟩ ⟨rfl, rfl, trivial⟩ rfl
              · refine pd_evs (T := tab) 13 rfl rfl ?_
                refine pd_idx (T := tab) cNode f1.Nodes rfl rfl rfl rfl rfl rfl rfl fun y19 hy19 => ?_
                refine pd_evs (T := tab) 6 rfl rfl ?_
                refine pd_split (j := 156) rfl ?_ ?_
                · refine pd_evs (T := tab) 10 rfl rfl ?_
                  refine pd_nil ?_
                  refine pn_seq (pw_then rfl ?_)
                  refine pw_seq ?_
                  refine pw_region ?_
                  refine po_evs (T := tab) 1 rfl rfl ?_
                  refine po_nil ?_
                  refine pn_seq ?_
                  exact pw_retN (T := tab) rfl rfl rfl ⟨rfl, rfl⟩ trivial rfl
                · refine pd_evs (T := tab) 3 rfl rfl ?_
                  refine pd_idx (T := tab) cNode f1.Nodes rfl rfl rfl rfl rfl rfl rfl fun y20 hy20 => ?_
                  refine pd_evs (T := tab) 6 rfl rfl ?_
                  refine pd_nil ?_
                  refine pn_seq ?_
                  refine pw_cnd rfl ?_ ?_
                  · refine pw_seq ?_
                    refine pw_region ?_
                    refine po_evs (T := tab) 1 rfl rfl ?_
                    refine po_nil ?_
                    refine pn_seq ?_
                    exact pw_retN (T := tab) rfl rfl rfl ⟨rfl, rfl⟩ trivial rfl
                  · refine pw_skip ?_
                    refine pn_seq ?_
                    refine pw_seq ?_
                    refine pw_region ?_
                    refine po_evs (T := tab) 3 rfl rfl ?_
                    refine po_idx (T := tab) cNode f1.Nodes rfl rfl rfl rfl rfl rfl rfl fun y23 hy23 => ?_
                    refine po_evs (T := tab) 3 rfl rfl ?_
                    refine po_nil ?_
                    refine pn_seq ?_
                    refine pw_cnd rfl ?_ ?_
                    · refine pw_region ?_
                      refine po_evs (T := tab) 1 rfl rfl ?_
                      refine po_arith' (T := tab) rfl rfl rfl rfl fun i24 hi24 => ?_
                      refine po_evs (T := tab) 1 rfl rfl ?_
                      refine po_nil ?_
                      refine pn_block ?_
                      refine pn_seq ?_
                      refine pw_region ?_
                      refine po_evs (T := tab) 1 rfl rfl ?_
                      refine po_arith' (T := tab) rfl rfl rfl rfl fun i27 hi27 => ?_
                      refine po_evs (T := tab) 1 rfl rfl ?_
                      refine po_nil ?_
                      exact pn_iter' (i24, i27) ⟨rfl, rfl, rfl, rfl, rfl, rfl, trivial⟩ ⟨rfl, rfl, trivial⟩ rfl
                    · refine pw_skip ?_
                      refine pn_block ?_
                      refine pn_seq ?_
                      refine pw_region ?_
                      refine po_evs (T := tab) 1 rfl rfl ?_
                      refine po_arith' (T := tab) rfl rfl rfl rfl fun i28 hi28 => ?_
                      refine po_evs (T := tab) 1 rfl rfl ?_
                      refine po_nil ?_
                      exact pn_iter' (elems11, i28) ⟨rfl, rfl, rfl, rfl, rfl, rfl, trivial⟩ ⟨rfl, rfl, trivial⟩ rfl
      · refine pw_exit rfl ?_
        refine pn_seq ?_
        refine pw_seq ?_
        refine pw_seq ?_
        refine pw_region ?_
        refine po_joinB (Instarref03_Node_j3 fu f1 n2 y3) (fun (_ : Unit) => [(1, .v (.int .i64 n2)), (2, .loc 2 0), (5, .loc 5 0), (6, .v (.int .i64 ((f1.Nodes.length : Nat) : Int)))]) (fun (_ : Unit) => [(5, .box [.v (.int .i64 y3.Kind), .v (.string ⟨⟨y3.Name⟩⟩), .v (.string ⟨⟨y3.Is⟩⟩), .v (.string ⟨⟨y3.Data⟩⟩), .sl 2 false (y3.Attrs.map cAttr), .v (.int .i64 y3.Parent), .sl 1 false (y3.Kids.map cInt_i64), .v (.int .i64 y3.Host), .v (.int .i64 y3.Under), .v (.int .i64 y3.Doc)]), (2, .box [.sl 10 false (f1.Nodes.map cNode), .v (.int .i64 f1.Most)])]) ?_ fun hj3 => ?_
        · rintro _
          refine pn_seq ?_
          refine pw_seq ?_
          refine pw_seq ?_
          refine pw_region ?_
          refine po_evs (T := tab) 3 rfl rfl ?_
          refine po_nil ?_
          refine pn_seq ?_
          refine pw_joinK (Instarref03_Node_j4 fu f1 n2 y3) (fun (_ : Unit) => [(1, .v (.int .i64 n2)), (2, .loc 2 0), (5, .loc 5 0), (6, .v (.int .i64 ((f1.Nodes.length : Nat) : Int)))]) (fun (_ : Unit) => [(5, .box [.v (.int .i64 y3.Kind), .v (.string ⟨⟨y3.Name⟩⟩), .v (.string ⟨⟨y3.Is⟩⟩), .v (.string ⟨⟨y3.Data⟩⟩), .sl 2 false (y3.Attrs.map cAttr), .v (.int .i64 y3.Parent), .sl 1 false (y3.Kids.map cInt_i64), .v (.int .i64 y3.Host), .v (.int .i64 y3.Under), .v (.int .i64 y3.Doc)]), (2, .box [.sl 10 false (f1.Nodes.map cNode), .v (.int .i64 f1.Most)])]) ?_ fun hj4 => ?_
          · rintro _
            refine pn_seq ?_
            refine pw_seq ?_
            refine pw_seq ?_
            refine pw_region ?_
            refine po_joinB (Instarref03_Node_j5 fu y3) (fun (_ : Unit) => [(5, .loc 5 0)]) (fun (_ : Unit) => [(5, .box [.v (.int .i64 y3.Kind), .v (.string ⟨⟨y3.Name⟩⟩), .v (.string ⟨⟨y3.Is⟩⟩), .v (.string ⟨⟨y3.Data⟩⟩), .sl 2 false (y3.Attrs.map cAttr), .v (.int .i64 y3.Parent), .sl 1 false (y3.Kids.map cInt_i64), .v (.int .i64 y3.Host), .v (.int .i64 y3.Under), .v (.int .i64 y3.Doc)])]) ?_ fun hj5 => ?_
            · rintro _
              refine pn_seq ?_
              refine pw_seq ?_
              refine pw_seq ?_
              refine pw_region ?_
              refine po_evs (T := tab) 3 rfl rfl ?_
              refine po_nil ?_
              refine pn_seq ?_
              refine pw_cnd rfl ?_ ?_
              · refine pw_seq ?_
                refine pw_draw mixed (by kernel_rfl) ?_
                refine pd_evs (T := tab) 2 rfl rfl ?_
                refine pd_call (enc := fun (r34 : Bool) => .v (.bool r34)) (qs := [.v (.string ⟨⟨y3.Name⟩⟩)]) (Instarref01_Right_ok fu y3.Name) rfl rfl ⟨⟨_, rfl, .rfl⟩, trivial⟩ (fun _ => rfl) call83 rfl rfl fun r34 hr34 => ?_
                refine pd_evs (T := tab) 1 rfl rfl ?_
                refine pd_split (j := 295) rfl ?_ ?_
                · refine pd_evs (T := tab) 2 rfl rfl ?_
                  refine pd_call (enc := fun (r35 : Bs) => .v (.string ⟨⟨r35⟩⟩)) (qs := [.v (.string ⟨⟨y3.Name⟩⟩)]) (Instarref01_Small_ok fu y3.Name) rfl rfl ⟨⟨_, rfl, .rfl⟩, trivial⟩ (fun _ => rfl) call84 rfl rfl fun r35 hr35 => ?_
                  refine pd_evs (T := tab) 5 rfl rfl ?_
                  refine pd_split (j := 303) rfl ?_ ?_
                  · refine pd_evs (T := tab) 4 rfl rfl ?_
                    refine pd_split (j := 307) rfl ?_ ?_
                    · refine pd_evs (T := tab) 11 rfl rfl ?_
                      refine pd_split (j := 318) rfl ?_ ?_
                      · refine pd_evs (T := tab) 2 rfl rfl ?_
                        refine pd_call (enc := fun (r36 : Bool) => .v (.bool r36)) (qs := [.sl 2 false (y3.Attrs.map cAttr)]) (Instarref02_Right_ok fu y3.Attrs) rfl rfl ⟨⟨_, rfl, .rfl⟩, trivial⟩ (fun _ => rfl) call85 rfl rfl fun r36 hr36 => ?_
                        refine pd_evs (T := tab) 2 rfl rfl ?_
                        refine pd_nil ?_
                        refine pn_seq ?_
                        exact pw_retN (T := tab) rfl rfl rfl ⟨rfl, rfl⟩ trivial rfl
                      · refine pd_evs (T := tab) 5 rfl rfl ?_
                        refine pd_nil ?_
                        refine pn_seq ?_
                        exact pw_retN (T := tab) rfl rfl rfl ⟨rfl, rfl⟩ trivial rfl
                    · refine pd_evs (T := tab) 2 rfl rfl ?_
                      refine pd_call (enc := fun (r37 : Bool) => .v (.bool r37)) (qs := [.v (.string ⟨⟨y3.Is⟩⟩)]) (Instarref01_Custom_ok fu y3.Is) rfl rfl ⟨⟨_, rfl, .rfl⟩, trivial⟩ (fun _ => rfl) call76 rfl rfl fun r37 hr37 => ?_
                      refine pd_evs (T := tab) 3 rfl rfl ?_
                      refine pd_split (j := 313) rfl ?_ ?_
                      · refine pd_evs (T := tab) 5 rfl rfl ?_
                        refine pd_split (j := 318) rfl ?_ ?_
                        · refine pd_evs (T := tab) 2 rfl rfl ?_
                          refine pd_call (enc := fun (r38 : Bool) => .v (.bool r38)) (qs := [.sl 2 false (y3.Attrs.map cAttr)]) (Instarref02_Right_ok fu y3.Attrs) rfl rfl ⟨⟨_, rfl, .rfl⟩, trivial⟩ (fun _ => rfl) call85 rfl rfl fun r38 hr38 => ?_
                          refine pd_evs (T := tab) 2 rfl rfl ?_
                          refine pd_nil ?_
                          refine pn_seq ?_
                          exact pw_retN (T := tab) rfl rfl rfl ⟨rfl, rfl⟩ trivial rfl
                        · refine pd_evs (T := tab) 5 rfl rfl ?_
                          refine pd_nil ?_
                          refine pn_seq ?_
                          exact pw_retN (T := tab) rfl rfl rfl ⟨rfl, rfl⟩ trivial rfl
                      · refine pd_evs (T := tab) 10 rfl rfl ?_
                        refine pd_nil ?_
                        refine pn_seq ?_
                        exact pw_retN (T := tab) rfl rfl rfl ⟨rfl, rfl⟩ trivial rfl
                  · refine pd_evs (T := tab) 20 rfl rfl ?_
                    refine pd_nil ?_
                    refine pn_seq ?_
                    exact pw_retN (T := tab) rfl rfl rfl ⟨rfl, rfl⟩ trivial rfl
                · refine pd_evs (T := tab) 28 rfl rfl ?_
                  refine pd_nil ?_
                  refine pn_seq ?_
                  exact pw_retN (T := tab) rfl rfl rfl ⟨rfl, rfl⟩ trivial rfl
              · refine pw_skip ?_
                refine pn_seq ?_
                refine pw_seq ?_
                refine pw_region ?_
                refine po_evs (T := tab) 4 rfl rfl ?_
                refine po_split (j := 326) rfl ?_ ?_
                · refine po_evs (T := tab) 5 rfl rfl ?_
                  refine po_split (j := 331) rfl ?_ ?_
                  · refine po_evs (T := tab) 2 rfl rfl ?_
                    refine po_len (T := tab) cAttr y3.Attrs rfl rfl rfl rfl rfl rfl rfl rfl ?_
                    refine po_evs (T := tab) 3 rfl rfl ?_
                    refine po_split (j := 337) rfl ?_ ?_
                    · refine po_evs (T := tab) 4 rfl rfl ?_
                      refine po_split (j := 341) rfl ?_ ?_
                      · refine po_evs (T := tab) 12 rfl rfl ?_
                        refine po_nil ?_
                        refine pn_seq ?_
                        exact pw_retN (T := tab) rfl rfl rfl ⟨rfl, rfl⟩ trivial rfl
                      · refine po_evs (T := tab) 4 rfl rfl ?_
                        refine po_split (j := 345) rfl ?_ ?_
                        · refine po_evs (T := tab) 8 rfl rfl ?_
                          refine po_nil ?_
                          refine pn_seq ?_
                          exact pw_retN (T := tab) rfl rfl rfl ⟨rfl, rfl⟩ trivial rfl
                        · refine po_evs (T := tab) 8 rfl rfl ?_
                          refine po_nil ?_
                          refine pn_seq ?_
                          exact pw_retN (T := tab) rfl rfl rfl ⟨rfl, rfl⟩ trivial rfl
                    · refine po_evs (T := tab) 16 rfl rfl ?_
                      refine po_nil ?_
                      refine pn_seq ?_
                      exact pw_retN (T := tab) rfl rfl rfl ⟨rfl, rfl⟩ trivial rfl
                  · refine po_evs (T := tab) 22 rfl rfl ?_
                    refine po_nil ?_
                    refine pn_seq ?_
                    exact pw_retN (T := tab) rfl rfl rfl ⟨rfl, rfl⟩ trivial rfl
                · refine po_evs (T := tab) 27 rfl rfl ?_
                  refine po_nil ?_
                  refine pn_seq ?_
                  exact pw_retN (T := tab) rfl rfl rfl ⟨rfl, rfl⟩ trivial rfl
            · refine po_evs (T := tab) 4 rfl rfl ?_
              refine po_split (j := 252) rfl ?_ ?_
              · refine po_evs (T := tab) 4 rfl rfl ?_
                refine po_split (j := 256) rfl ?_ ?_
                · refine po_evs (T := tab) 32 rfl rfl ?_
                  refine po_nil ?_
                  refine pn_seq (pw_then rfl ?_)
                  refine pw_seq ?_
                  refine pw_region ?_
                  refine po_evs (T := tab) 1 rfl rfl ?_
                  refine po_nil ?_
                  refine pn_seq ?_
                  exact pw_retN (T := tab) rfl rfl rfl ⟨rfl, rfl⟩ trivial rfl
                · refine po_evs (T := tab) 5 rfl rfl ?_
                  refine po_split (j := 261) rfl ?_ ?_
                  · refine po_evs (T := tab) 27 rfl rfl ?_
                    refine po_nil ?_
                    refine pn_seq (pw_then rfl ?_)
                    refine pw_seq ?_
                    refine pw_region ?_
                    refine po_evs (T := tab) 1 rfl rfl ?_
                    refine po_nil ?_
                    refine pn_seq ?_
                    exact pw_retN (T := tab) rfl rfl rfl ⟨rfl, rfl⟩ trivial rfl
                  · refine po_evs (T := tab) 6 rfl rfl ?_
                    refine po_split (j := 267) rfl ?_ ?_
                    · refine po_evs (T := tab) 21 rfl rfl ?_
                      refine po_nil ?_
                      refine pn_seq (pw_then rfl ?_)
                      refine pw_seq ?_
                      refine pw_region ?_
                      refine po_evs (T := tab) 1 rfl rfl ?_
                      refine po_nil ?_
                      refine pn_seq ?_
                      exact pw_retN (T := tab) rfl rfl rfl ⟨rfl, rfl⟩ trivial rfl
                    · refine po_evs (T := tab) 4 rfl rfl ?_
                      refine po_idx (T := tab) cNode f1.Nodes rfl rfl rfl rfl rfl rfl rfl fun y32 hy32 => ?_
                      refine po_evs (T := tab) 5 rfl rfl ?_
                      refine po_split (j := 277) rfl ?_ ?_
                      · refine po_evs (T := tab) 11 rfl rfl ?_
                        refine po_nil ?_
                        refine pn_seq (pw_then rfl ?_)
                        refine pw_seq ?_
                        refine pw_region ?_
                        refine po_evs (T := tab) 1 rfl rfl ?_
                        refine po_nil ?_
                        refine pn_seq ?_
                        exact pw_retN (T := tab) rfl rfl rfl ⟨rfl, rfl⟩ trivial rfl
                      · refine po_evs (T := tab) 4 rfl rfl ?_
                        refine po_idx (T := tab) cNode f1.Nodes rfl rfl rfl rfl rfl rfl rfl fun y33 hy33 => ?_
                        refine po_evs (T := tab) 6 rfl rfl ?_
                        refine po_nil ?_
                        refine pn_seq ?_
                        refine pw_cnd rfl ?_ ?_
                        · refine pw_seq ?_
                          refine pw_region ?_
                          refine po_evs (T := tab) 1 rfl rfl ?_
                          refine po_nil ?_
                          refine pn_seq ?_
                          exact pw_retN (T := tab) rfl rfl rfl ⟨rfl, rfl⟩ trivial rfl
                        · refine pw_skip ?_
                          exact pn_sub' (hj5 ()) ⟨rfl, trivial⟩ ⟨rfl, trivial⟩ rfl
              · refine po_evs (T := tab) 36 rfl rfl ?_
                refine po_nil ?_
                refine pn_seq (pw_else rfl ?_)
                refine pw_skip ?_
                exact pn_sub' (hj5 ()) ⟨rfl, trivial⟩ ⟨rfl, trivial⟩ rfl
          · refine pw_cnd rfl ?_ ?_
            · refine pw_seq ?_
              refine pw_draw mixed (by kernel_rfl) ?_
              refine pd_evs (T := tab) 4 rfl rfl ?_
              refine pd_split (j := 207) rfl ?_ ?_
              · refine pd_evs (T := tab) 38 rfl rfl ?_
                refine pd_nil ?_
                refine pn_seq (pw_then rfl ?_)
                refine pw_seq ?_
                refine pw_region ?_
                refine po_evs (T := tab) 1 rfl rfl ?_
                refine po_nil ?_
                refine pn_seq ?_
                exact pw_retN (T := tab) rfl rfl rfl ⟨rfl, rfl⟩ trivial rfl
              · refine pd_evs (T := tab) 6 rfl rfl ?_
                refine pd_split (j := 213) rfl ?_ ?_
                · refine pd_evs (T := tab) 32 rfl rfl ?_
                  refine pd_nil ?_
                  refine pn_seq (pw_then rfl ?_)
                  refine pw_seq ?_
                  refine pw_region ?_
                  refine po_evs (T := tab) 1 rfl rfl ?_
                  refine po_nil ?_
                  refine pn_seq ?_
                  exact pw_retN (T := tab) rfl rfl rfl ⟨rfl, rfl⟩ trivial rfl
                · refine pd_evs (T := tab) 4 rfl rfl ?_
                  refine pd_idx (T := tab) cNode f1.Nodes rfl rfl rfl rfl rfl rfl rfl fun y29 hy29 => ?_
                  refine pd_evs (T := tab) 5 rfl rfl ?_
                  refine pd_split (j := 223) rfl ?_ ?_
                  · refine pd_evs (T := tab) 22 rfl rfl ?_
                    refine pd_nil ?_
                    refine pn_seq (pw_then rfl ?_)
                    refine pw_seq ?_
                    refine pw_region ?_
                    refine po_evs (T := tab) 1 rfl rfl ?_
                    refine po_nil ?_
                    refine pn_seq ?_
                    exact pw_retN (T := tab) rfl rfl rfl ⟨rfl, rfl⟩ trivial rfl
                  · refine pd_evs (T := tab) 4 rfl rfl ?_
                    refine pd_idx (T := tab) cNode f1.Nodes rfl rfl rfl rfl rfl rfl rfl fun y30 hy30 => ?_
                    refine pd_evs (T := tab) 6 rfl rfl ?_
                    refine pd_split (j := 234) rfl ?_ ?_
                    · refine pd_evs (T := tab) 11 rfl rfl ?_
                      refine pd_nil ?_
                      refine pn_seq (pw_then rfl ?_)
                      refine pw_seq ?_
                      refine pw_region ?_
                      refine po_evs (T := tab) 1 rfl rfl ?_
                      refine po_nil ?_
                      refine pn_seq ?_
                      exact pw_retN (T := tab) rfl rfl rfl ⟨rfl, rfl⟩ trivial rfl
                    · refine pd_evs (T := tab) 4 rfl rfl ?_
                      refine pd_idx (T := tab) cNode f1.Nodes rfl rfl rfl rfl rfl rfl rfl fun y31 hy31 => ?_
                      refine pd_evs (T := tab) 6 rfl rfl ?_
                      refine pd_nil ?_
                      refine pn_seq ?_
                      refine pw_cnd rfl ?_ ?_
                      · refine pw_seq ?_
                        refine pw_region ?_
                        refine po_evs (T := tab) 1 rfl rfl ?_
                        refine po_nil ?_
                        refine pn_seq ?_
                        exact pw_retN (T := tab) rfl rfl rfl ⟨rfl, rfl⟩ trivial rfl
                      · refine pw_skip ?_
                        exact pn_sub' (hj4 ()) ⟨rfl, rfl, rfl, rfl, trivial⟩ ⟨rfl, rfl, trivial⟩ rfl
            · refine pw_seq ?_
              refine pw_region ?_
              refine po_evs (T := tab) 3 rfl rfl ?_
              refine po_nil ?_
              refine pn_seq ?_
              refine pw_cnd rfl ?_ ?_
              · refine pw_seq ?_
                refine pw_region ?_
                refine po_evs (T := tab) 1 rfl rfl ?_
                refine po_nil ?_
                refine pn_seq ?_
                exact pw_retN (T := tab) rfl rfl rfl ⟨rfl, rfl⟩ trivial rfl
              · refine pw_skip ?_
                exact pn_sub' (hj4 ()) ⟨rfl, rfl, rfl, rfl, trivial⟩ ⟨rfl, rfl, trivial⟩ rfl
        · refine po_evs (T := tab) 4 rfl rfl ?_
          refine po_split (j := 179) rfl ?_ ?_
          · refine po_evs (T := tab) 2 rfl rfl ?_
            refine po_len (T := tab) cInt_i64 y3.Kids rfl rfl rfl rfl rfl rfl rfl rfl ?_
            refine po_evs (T := tab) 3 rfl rfl ?_
            refine po_split (j := 185) rfl ?_ ?_
            · refine po_evs (T := tab) 15 rfl rfl ?_
              refine po_nil ?_
              refine pn_seq (pw_then rfl ?_)
              refine pw_seq ?_
              refine pw_region ?_
              refine po_evs (T := tab) 1 rfl rfl ?_
              refine po_nil ?_
              refine pn_seq ?_
              exact pw_retN (T := tab) rfl rfl rfl ⟨rfl, rfl⟩ trivial rfl
            · refine po_evs (T := tab) 4 rfl rfl ?_
              refine po_split (j := 189) rfl ?_ ?_
              · refine po_evs (T := tab) 3 rfl rfl ?_
                refine po_split (j := 192) rfl ?_ ?_
                · refine po_evs (T := tab) 8 rfl rfl ?_
                  refine po_nil ?_
                  refine pn_seq (pw_then rfl ?_)
                  refine pw_seq ?_
                  refine pw_region ?_
                  refine po_evs (T := tab) 1 rfl rfl ?_
                  refine po_nil ?_
                  refine pn_seq ?_
                  exact pw_retN (T := tab) rfl rfl rfl ⟨rfl, rfl⟩ trivial rfl
                · refine po_evs (T := tab) 3 rfl rfl ?_
                  refine po_len (T := tab) cInt_i64 y3.Kids rfl rfl rfl rfl rfl rfl rfl rfl ?_
                  refine po_evs (T := tab) 4 rfl rfl ?_
                  refine po_nil ?_
                  refine pn_seq ?_
                  refine pw_cnd rfl ?_ ?_
                  · refine pw_seq ?_
                    refine pw_region ?_
                    refine po_evs (T := tab) 1 rfl rfl ?_
                    refine po_nil ?_
                    refine pn_seq ?_
                    exact pw_retN (T := tab) rfl rfl rfl ⟨rfl, rfl⟩ trivial rfl
                  · refine pw_skip ?_
                    exact pn_sub' (hj3 ()) ⟨rfl, rfl, rfl, rfl, trivial⟩ ⟨rfl, rfl, trivial⟩ rfl
              · refine po_evs (T := tab) 11 rfl rfl ?_
                refine po_nil ?_
                refine pn_seq (pw_else rfl ?_)
                refine pw_skip ?_
                exact pn_sub' (hj3 ()) ⟨rfl, rfl, rfl, rfl, trivial⟩ ⟨rfl, rfl, trivial⟩ rfl
          · refine po_evs (T := tab) 10 rfl rfl ?_
            refine po_split (j := 189) rfl ?_ ?_
            · refine po_evs (T := tab) 3 rfl rfl ?_
              refine po_split (j := 192) rfl ?_ ?_
              · refine po_evs (T := tab) 8 rfl rfl ?_
                refine po_nil ?_
                refine pn_seq (pw_then rfl ?_)
                refine pw_seq ?_
                refine pw_region ?_
                refine po_evs (T := tab) 1 rfl rfl ?_
                refine po_nil ?_
                refine pn_seq ?_
                exact pw_retN (T := tab) rfl rfl rfl ⟨rfl, rfl⟩ trivial rfl
              · refine po_evs (T := tab) 3 rfl rfl ?_
                refine po_len (T := tab) cInt_i64 y3.Kids rfl rfl rfl rfl rfl rfl rfl rfl ?_
                refine po_evs (T := tab) 4 rfl rfl ?_
                refine po_nil ?_
                refine pn_seq ?_
                refine pw_cnd rfl ?_ ?_
                · refine pw_seq ?_
                  refine pw_region ?_
                  refine po_evs (T := tab) 1 rfl rfl ?_
                  refine po_nil ?_
                  refine pn_seq ?_
                  exact pw_retN (T := tab) rfl rfl rfl ⟨rfl, rfl⟩ trivial rfl
                · refine pw_skip ?_
                  exact pn_sub' (hj3 ()) ⟨rfl, rfl, rfl, rfl, trivial⟩ ⟨rfl, rfl, trivial⟩ rfl
            · refine po_evs (T := tab) 11 rfl rfl ?_
              refine po_nil ?_
              refine pn_seq (pw_else rfl ?_)
              refine pw_skip ?_
              exact pn_sub' (hj3 ()) ⟨rfl, rfl, rfl, rfl, trivial⟩ ⟨rfl, rfl, trivial⟩ rfl
    · refine pw_cnd rfl ?_ ?_
      · refine pw_seq ?_
        refine pw_region ?_
        refine po_evs (T := tab) 4 rfl rfl ?_
        refine po_split (j := 64) rfl ?_ ?_
        · refine po_evs (T := tab) 5 rfl rfl ?_
          refine po_split (j := 69) rfl ?_ ?_
          · refine po_evs (T := tab) 32 rfl rfl ?_
            refine po_nil ?_
            refine pn_seq (pw_then rfl ?_)
            refine pw_seq ?_
            refine pw_region ?_
            refine po_evs (T := tab) 1 rfl rfl ?_
            refine po_nil ?_
            refine pn_seq ?_
            exact pw_retN (T := tab) rfl rfl rfl ⟨rfl, rfl⟩ trivial rfl
          · refine po_evs (T := tab) 5 rfl rfl ?_
            refine po_split (j := 74) rfl ?_ ?_
            · refine po_evs (T := tab) 27 rfl rfl ?_
              refine po_nil ?_
              refine pn_seq (pw_then rfl ?_)
              refine pw_seq ?_
              refine pw_region ?_
              refine po_evs (T := tab) 1 rfl rfl ?_
              refine po_nil ?_
              refine pn_seq ?_
              exact pw_retN (T := tab) rfl rfl rfl ⟨rfl, rfl⟩ trivial rfl
            · refine po_evs (T := tab) 6 rfl rfl ?_
              refine po_split (j := 80) rfl ?_ ?_
              · refine po_evs (T := tab) 21 rfl rfl ?_
                refine po_nil ?_
                refine pn_seq (pw_then rfl ?_)
                refine pw_seq ?_
                refine pw_region ?_
                refine po_evs (T := tab) 1 rfl rfl ?_
                refine po_nil ?_
                refine pn_seq ?_
                exact pw_retN (T := tab) rfl rfl rfl ⟨rfl, rfl⟩ trivial rfl
              · refine po_evs (T := tab) 4 rfl rfl ?_
                refine po_idx (T := tab) cNode f1.Nodes rfl rfl rfl rfl rfl rfl rfl fun y5 hy5 => ?_
                refine po_evs (T := tab) 5 rfl rfl ?_
                refine po_split (j := 90) rfl ?_ ?_
                · refine po_evs (T := tab) 11 rfl rfl ?_
                  refine po_nil ?_
                  refine pn_seq (pw_then rfl ?_)
                  refine pw_seq ?_
                  refine pw_region ?_
                  refine po_evs (T := tab) 1 rfl rfl ?_
                  refine po_nil ?_
                  refine pn_seq ?_
                  exact pw_retN (T := tab) rfl rfl rfl ⟨rfl, rfl⟩ trivial rfl
                · refine po_evs (T := tab) 4 rfl rfl ?_
                  refine po_idx (T := tab) cNode f1.Nodes rfl rfl rfl rfl rfl rfl rfl fun y6 hy6 => ?_
                  refine po_evs (T := tab) 3 rfl rfl ?_
                  refine po_call (enc := fun (r7 : Int) => .v (.int .i64 r7)) (qs := [.sl 1 false (y6.Kids.map cInt_i64), .v (.int .i64 n2)]) (Instarref03_Has_ok fu y6.Kids n2) rfl rfl ⟨⟨_, rfl, .rfl⟩, ⟨_, rfl, .rfl⟩, trivial⟩ (fun _ => rfl) call34 rfl rfl fun r7 hr7 => ?_
                  refine po_evs (T := tab) 2 rfl rfl ?_
                  refine po_nil ?_
                  refine pn_seq ?_
                  refine pw_cnd rfl ?_ ?_
                  · refine pw_seq ?_
                    refine pw_region ?_
                    refine po_evs (T := tab) 1 rfl rfl ?_
                    refine po_nil ?_
                    refine pn_seq ?_
                    exact pw_retN (T := tab) rfl rfl rfl ⟨rfl, rfl⟩ trivial rfl
                  · refine pw_skip ?_
                    exact pn_sub' (hj2 ()) ⟨rfl, rfl, rfl, rfl, trivial⟩ ⟨rfl, rfl, trivial⟩ rfl
        · refine po_evs (T := tab) 10 rfl rfl ?_
          refine po_split (j := 74) rfl ?_ ?_
          · refine po_evs (T := tab) 27 rfl rfl ?_
            refine po_nil ?_
            refine pn_seq (pw_then rfl ?_)
            refine pw_seq ?_
            refine pw_region ?_
            refine po_evs (T := tab) 1 rfl rfl ?_
            refine po_nil ?_
            refine pn_seq ?_
            exact pw_retN (T := tab) rfl rfl rfl ⟨rfl, rfl⟩ trivial rfl
          · refine po_evs (T := tab) 6 rfl rfl ?_
            refine po_split (j := 80) rfl ?_ ?_
            · refine po_evs (T := tab) 21 rfl rfl ?_
              refine po_nil ?_
              refine pn_seq (pw_then rfl ?_)
              refine pw_seq ?_
              refine pw_region ?_
              refine po_evs (T := tab) 1 rfl rfl ?_
              refine po_nil ?_
              refine pn_seq ?_
              exact pw_retN (T := tab) rfl rfl rfl ⟨rfl, rfl⟩ trivial rfl
            · refine po_evs (T := tab) 4 rfl rfl ?_
              refine po_idx (T := tab) cNode f1.Nodes rfl rfl rfl rfl rfl rfl rfl fun y8 hy8 => ?_
              refine po_evs (T := tab) 5 rfl rfl ?_
              refine po_split (j := 90) rfl ?_ ?_
              · refine po_evs (T := tab) 11 rfl rfl ?_
                refine po_nil ?_
                refine pn_seq (pw_then rfl ?_)
                refine pw_seq ?_
                refine pw_region ?_
                refine po_evs (T := tab) 1 rfl rfl ?_
                refine po_nil ?_
                refine pn_seq ?_
                exact pw_retN (T := tab) rfl rfl rfl ⟨rfl, rfl⟩ trivial rfl
              · refine po_evs (T := tab) 4 rfl rfl ?_
                refine po_idx (T := tab) cNode f1.Nodes rfl rfl rfl rfl rfl rfl rfl fun y9 hy9 => ?_
                refine po_evs (T := tab) 3 rfl rfl ?_
                refine po_call (enc := fun (r10 : Int) => .v (.int .i64 r10)) (qs := [.sl 1 false (y9.Kids.map cInt_i64), .v (.int .i64 n2)]) (Instarref03_Has_ok fu y9.Kids n2) rfl rfl ⟨⟨_, rfl, .rfl⟩, ⟨_, rfl, .rfl⟩, trivial⟩ (fun _ => rfl) call34 rfl rfl fun r10 hr10 => ?_
                refine po_evs (T := tab) 2 rfl rfl ?_
                refine po_nil ?_
                refine pn_seq ?_
                refine pw_cnd rfl ?_ ?_
                · refine pw_seq ?_
                  refine pw_region ?_
                  refine po_evs (T := tab) 1 rfl rfl ?_
                  refine po_nil ?_
                  refine pn_seq ?_
                  exact pw_retN (T := tab) rfl rfl rfl ⟨rfl, rfl⟩ trivial rfl
                · refine pw_skip ?_
                  exact pn_sub' (hj2 ()) ⟨rfl, rfl, rfl, rfl, trivial⟩ ⟨rfl, rfl, trivial⟩ rfl
      · refine pw_skip ?_
        exact pn_sub' (hj2 ()) ⟨rfl, rfl, rfl, rfl, trivial⟩ ⟨rfl, rfl, trivial⟩ rfl
  · refine po_evs (T := tab) 4 rfl rfl ?_
    refine po_split (j := 21) rfl ?_ ?_
    · refine po_evs (T := tab) 36 rfl rfl ?_
      refine po_nil ?_
      refine pn_seq (pw_then rfl ?_)
      refine pw_seq ?_
      refine pw_region ?_
      refine po_evs (T := tab) 1 rfl rfl ?_
      refine po_nil ?_
      refine pn_seq ?_
      exact pw_retN (T := tab) rfl rfl rfl ⟨rfl, rfl⟩ trivial rfl
    · refine po_evs (T := tab) 5 rfl rfl ?_
      refine po_split (j := 26) rfl ?_ ?_
      · refine po_evs (T := tab) 31 rfl rfl ?_
        refine po_nil ?_
        refine pn_seq (pw_then rfl ?_)
        refine pw_seq ?_
        refine pw_region ?_
        refine po_evs (T := tab) 1 rfl rfl ?_
        refine po_nil ?_
        refine pn_seq ?_
        exact pw_retN (T := tab) rfl rfl rfl ⟨rfl, rfl⟩ trivial rfl
      · refine po_evs (T := tab) 5 rfl rfl ?_
        refine po_split (j := 31) rfl ?_ ?_
        · refine po_evs (T := tab) 26 rfl rfl ?_
          refine po_nil ?_
          refine pn_seq (pw_then rfl ?_)
          refine pw_seq ?_
          refine pw_region ?_
          refine po_evs (T := tab) 1 rfl rfl ?_
          refine po_nil ?_
          refine pn_seq ?_
          exact pw_retN (T := tab) rfl rfl rfl ⟨rfl, rfl⟩ trivial rfl
        · refine po_evs (T := tab) 6 rfl rfl ?_
          refine po_split (j := 37) rfl ?_ ?_
          · refine po_evs (T := tab) 20 rfl rfl ?_
            refine po_nil ?_
            refine pn_seq (pw_then rfl ?_)
            refine pw_seq ?_
            refine pw_region ?_
            refine po_evs (T := tab) 1 rfl rfl ?_
            refine po_nil ?_
            refine pn_seq ?_
            exact pw_retN (T := tab) rfl rfl rfl ⟨rfl, rfl⟩ trivial rfl
          · refine po_evs (T := tab) 4 rfl rfl ?_
            refine po_idx (T := tab) cNode f1.Nodes rfl rfl rfl rfl rfl rfl rfl fun y4 hy4 => ?_
            refine po_evs (T := tab) 5 rfl rfl ?_
            refine po_split (j := 47) rfl ?_ ?_
            · refine po_evs (T := tab) 10 rfl rfl ?_
              refine po_nil ?_
              refine pn_seq (pw_then rfl ?_)
              refine pw_seq ?_
              refine pw_region ?_
              refine po_evs (T := tab) 1 rfl rfl ?_
              refine po_nil ?_
              refine pn_seq ?_
              exact pw_retN (T := tab) rfl rfl rfl ⟨rfl, rfl⟩ trivial rfl
            · refine po_evs (T := tab) 4 rfl rfl ?_
              refine po_split (j := 51) rfl ?_ ?_
              · refine po_evs (T := tab) 6 rfl rfl ?_
                refine po_nil ?_
                refine pn_seq ?_
                refine pw_cnd rfl ?_ ?_
                · refine pw_seq ?_
                  refine pw_region ?_
                  refine po_evs (T := tab) 1 rfl rfl ?_
                  refine po_nil ?_
                  refine pn_seq ?_
                  exact pw_retN (T := tab) rfl rfl rfl ⟨rfl, rfl⟩ trivial rfl
                · refine pw_skip ?_
                  exact pn_sub' (hj1 ()) ⟨rfl, rfl, rfl, rfl, trivial⟩ ⟨rfl, rfl, trivial⟩ rfl
              · refine po_evs (T := tab) 6 rfl rfl ?_
                refine po_nil ?_
                refine pn_seq (pw_else rfl ?_)
                refine pw_skip ?_
                exact pn_sub' (hj1 ()) ⟨rfl, rfl, rfl, rfl, trivial⟩ ⟨rfl, rfl, trivial⟩ rfl

def Instarref03_Right_l3 (f1 : Forest) (n6 : Int) (rc2 : Int → Option Bool) : Nat → Int × Int → Option Bool
  | 0, _ => none
  | k3 + 1, (at7, steps8) => cnd (at7 != (-1)) (cnd (decide (steps8 > ((f1.Nodes.length : Nat) : Int))) (some false) (bnd (idx f1.Nodes at7) fun y9 => cnd (y9.Parent != (-1)) (bnd (idx f1.Nodes at7) fun y10 => bnd (rng .i64 (steps8 + 1)) fun i12 => (Instarref03_Right_l3 f1 n6 rc2 k3) (y10.Parent, i12)) (bnd (idx f1.Nodes at7) fun y11 => bnd (rng .i64 (steps8 + 1)) fun i13 => (Instarref03_Right_l3 f1 n6 rc2 k3) (y11.Host, i13)))) (bnd (rng .i64 (n6 + 1)) fun i14 => rc2 i14)

def Instarref03_Right_l2 (fu : Nat) (f1 : Forest) : Nat → Int → Option Bool
  | 0, _ => none
  | k2 + 1, n6 => cnd (decide (n6 < ((f1.Nodes.length : Nat) : Int))) ((Instarref03_Right_l3 f1 n6 (Instarref03_Right_l2 fu f1 k2)) fu (n6, 0)) (some true)

def Instarref03_Right_l1 (fu : Nat) (f1 : Forest) : Nat → Int → Option Bool
  | 0, _ => none
  | k1 + 1, n3 => cnd (decide (n3 < ((f1.Nodes.length : Nat) : Int))) (bnd (Instarref03_Node_m fu f1 n3) fun r4 => cnd (!r4) (some false) (bnd (rng .i64 (n3 + 1)) fun i5 => (Instarref03_Right_l1 fu f1 k1) i5)) ((Instarref03_Right_l2 fu f1) fu 0)

def Instarref03_Right_m (fu : Nat) (f1 : Forest) : Option Bool := cnd (decide (f1.Most < 1)) (some false) (cnd (decide (f1.Most > 400)) (some false) (cnd (((f1.Nodes.length : Nat) : Int) == 0) (some false) (cnd (decide (((f1.Nodes.length : Nat) : Int) > f1.Most)) (some false) (bnd (idx f1.Nodes 0) fun y2 => cnd (y2.Kind != 0) (some false) ((Instarref03_Right_l1 fu f1) fu 0)))))

set_option maxHeartbeats 10000000 in
set_option maxRecDepth 100000 in
theorem Instarref03_Right_ok (fu : Nat) (f1 : Forest) : ∀ r, Instarref03_Right_m fu f1 = some r → DC Try.prog 16 [.agg (cForest f1)] (.v (.bool r)) := by
  intro r hr
  refine fc_intro (args := [.agg (cForest f1)]) (S := []) (N0 := []) (post := fun r p S => p = .v (.bool r) ∧ S = []) Try.func16 rfl rfl hr fun w0 X X0 σ0 => ?_
  refine pw_seq ?_
  refine pw_region ?_
  refine po_box  1 rfl rfl rfl rfl rfl rfl rfl rfl rfl rfl ?_
  refine po_evs (T := tab) 1 rfl rfl ?_
  refine po_nil ?_
  refine pn_seq ?_
  refine pw_seq ?_
  refine pw_seq ?_
  refine pw_region ?_
  refine po_evs (T := tab) 4 rfl rfl ?_
  refine po_split (j := 10) rfl ?_ ?_
  · refine po_evs (T := tab) 26 rfl rfl ?_
    refine po_nil ?_
    refine pn_seq (pw_then rfl ?_)
    refine pw_seq ?_
    refine pw_region ?_
    refine po_evs (T := tab) 1 rfl rfl ?_
    refine po_nil ?_
    refine pn_seq ?_
    exact pw_retN (T := tab) rfl rfl rfl ⟨rfl, rfl⟩ trivial rfl
  · refine po_evs (T := tab) 5 rfl rfl ?_
    refine po_split (j := 15) rfl ?_ ?_
    · refine po_evs (T := tab) 21 rfl rfl ?_
      refine po_nil ?_
      refine pn_seq (pw_then rfl ?_)
      refine pw_seq ?_
      refine pw_region ?_
      refine po_evs (T := tab) 1 rfl rfl ?_
      refine po_nil ?_
      refine pn_seq ?_
      exact pw_retN (T := tab) rfl rfl rfl ⟨rfl, rfl⟩ trivial rfl
    · refine po_evs (T := tab) 2 rfl rfl ?_
      refine po_len (T := tab) cNode f1.Nodes rfl rfl rfl rfl rfl rfl rfl rfl ?_
      refine po_evs (T := tab) 3 rfl rfl ?_
      refine po_split (j := 21) rfl ?_ ?_
      · refine po_evs (T := tab) 15 rfl rfl ?_
        refine po_nil ?_
        refine pn_seq (pw_then rfl ?_)
        refine pw_seq ?_
        refine pw_region ?_
        refine po_evs (T := tab) 1 rfl rfl ?_
        refine po_nil ?_
        refine pn_seq ?_
        exact pw_retN (T := tab) rfl rfl rfl ⟨rfl, rfl⟩ trivial rfl
      · refine po_evs (T := tab) 2 rfl rfl ?_
        refine po_len (T := tab) cNode f1.Nodes rfl rfl rfl rfl rfl rfl rfl rfl ?_
        refine po_evs (T := tab) 5 rfl rfl ?_
        refine po_split (j := 29) rfl ?_ ?_
        · refine po_evs (T := tab) 7 rfl rfl ?_
          refine po_nil ?_
          refine pn_seq (pw_then rfl ?_)
          refine pw_seq ?_
          refine pw_region ?_
          refine po_evs (T := tab) 1 rfl rfl ?_
          refine po_nil ?_
          refine pn_seq ?_
          exact pw_retN (T := tab) rfl rfl rfl ⟨rfl, rfl⟩ trivial rfl
        · refine po_evs (T := tab) 2 rfl rfl ?_
          refine po_idx (T := tab) cNode f1.Nodes rfl rfl rfl rfl rfl rfl rfl fun y2 hy2 => ?_
          refine po_evs (T := tab) 4 rfl rfl ?_
          refine po_nil ?_
          refine pn_seq ?_
          refine pw_cnd rfl ?_ ?_
          · refine pw_seq ?_
            refine pw_region ?_
            refine po_evs (T := tab) 1 rfl rfl ?_
            refine po_nil ?_
            refine pn_seq ?_
            exact pw_retN (T := tab) rfl rfl rfl ⟨rfl, rfl⟩ trivial rfl
          · refine pw_skip ?_
            refine pn_seq ?_
            refine pw_seq ?_
            refine pw_seq ?_
            refine pw_region ?_
            refine po_evs (T := tab) 1 rfl rfl ?_
            refine po_nil ?_
            refine pn_seq ?_
            refine pw_block ?_
            refine pw_loop' (Instarref03_Right_l1 fu f1) (fun (n3 : Int) => [(1, .loc 1 0), (3, .v (.int .i64 n3))]) (fun (n3 : Int) => [(1, .box [.sl 10 false (f1.Nodes.map cNode), .v (.int .i64 f1.Most)])]) fu 0 (fun _ => rfl) ⟨rfl, rfl, trivial⟩ ⟨rfl, trivial⟩ rfl ?_
            rintro k1 n3
            refine pw_seq ?_
            refine pw_seq ?_
            refine pw_region ?_
            refine po_evs (T := tab) 3 rfl rfl ?_
            refine po_len (T := tab) cNode f1.Nodes rfl rfl rfl rfl rfl rfl rfl rfl ?_
            refine po_evs (T := tab) 1 rfl rfl ?_
            refine po_nil ?_
            refine pn_seq ?_
            refine pw_cnd rfl ?_ ?_
            · refine pw_skip ?_
              refine pn_seq ?_
              refine pw_seq ?_
              refine pw_block ?_
              refine pw_seq ?_
              refine pw_region ?_
              refine po_evs (T := tab) 2 rfl rfl ?_
              refine po_call (enc := fun (r4 : Bool) => .v (.bool r4)) (qs := [.agg (cForest f1), .v (.int .i64 n3)]) (Instarref03_Node_ok fu f1 n3) rfl rfl ⟨⟨_, rfl, .rfl⟩, ⟨_, rfl, .rfl⟩, trivial⟩ (fun _ => rfl) call56 rfl rfl fun r4 hr4 => ?_
              refine po_evs (T := tab) 1 rfl rfl ?_
              refine po_nil ?_
              refine pn_seq ?_
              refine pw_cnd rfl ?_ ?_
              · refine pw_seq ?_
                refine pw_region ?_
                refine po_evs (T := tab) 1 rfl rfl ?_
                refine po_nil ?_
                refine pn_seq ?_
                exact pw_retN (T := tab) rfl rfl rfl ⟨rfl, rfl⟩ trivial rfl
              · refine pw_skip ?_
                refine pn_block ?_
                refine pn_seq ?_
                refine pw_region ?_
                refine po_evs (T := tab) 1 rfl rfl ?_
                refine po_arith' (T := tab) rfl rfl rfl rfl fun i5 hi5 => ?_
                refine po_evs (T := tab) 1 rfl rfl ?_
                refine po_nil ?_
                exact pn_iter' i5 ⟨rfl, rfl, trivial⟩ ⟨rfl, trivial⟩ rfl
            · refine pw_exit rfl ?_
              refine pn_seq ?_
              refine pw_seq ?_
              refine pw_seq ?_
              refine pw_region ?_
              refine po_evs (T := tab) 1 rfl rfl ?_
              refine po_nil ?_
              refine pn_seq ?_
              refine pw_block ?_
              refine pw_loop' (Instarref03_Right_l2 fu f1) (fun (n6 : Int) => [(1, .loc 1 0), (4, .v (.int .i64 n6))]) (fun (n6 : Int) => [(1, .box [.sl 10 false (f1.Nodes.map cNode), .v (.int .i64 f1.Most)])]) fu 0 (fun _ => rfl) ⟨rfl, rfl, trivial⟩ ⟨rfl, trivial⟩ rfl ?_
              rintro k2 n6
              refine pw_seq ?_
              refine pw_seq ?_
              refine pw_region ?_
              refine po_evs (T := tab) 3 rfl rfl ?_
              refine po_len (T := tab) cNode f1.Nodes rfl rfl rfl rfl rfl rfl rfl rfl ?_
              refine po_evs (T := tab) 1 rfl rfl ?_
              refine po_nil ?_
              refine pn_seq ?_
              refine pw_cnd rfl ?_ ?_
              · refine pw_skip ?_
                refine pn_seq ?_
                refine pw_seq ?_
                refine pw_block ?_
                refine pw_seq ?_
                refine pw_region ?_
                refine po_evs (T := tab) 2 rfl rfl ?_
                refine po_nil ?_
                refine pn_seq ?_
                refine pw_seq ?_
                refine pw_region ?_
                refine po_evs (T := tab) 1 rfl rfl ?_
                refine po_nil ?_
                refine pn_seq ?_
                refine pw_block ?_
                refine pw_loop' (Instarref03_Right_l3 f1 n6 (Instarref03_Right_l2 fu f1 k2)) (fun ((at7, steps8) : Int × Int) => [(1, .loc 1 0), (4, .v (.int .i64 n6)), (5, .v (.int .i64 at7)), (6, .v (.int .i64 steps8))]) (fun ((at7, steps8) : Int × Int) => [(1, .box [.sl 10 false (f1.Nodes.map cNode), .v (.int .i64 f1.Most)])]) fu (n6, 0) (fun _ => rfl) ⟨rfl, rfl, rfl, rfl, trivial⟩ ⟨rfl, trivial⟩ rfl ?_
                rintro k3 ⟨at7, steps8⟩
                refine pw_seq ?_
                refine pw_seq ?_
                refine pw_region ?_
                refine po_evs (T := tab) 2 rfl rfl ?_
                refine po_nil ?_
                refine pn_seq ?_
                refine pw_cnd rfl ?_ ?_
                · refine pw_skip ?_
                  refine pn_seq ?_
                  refine pw_seq ?_
                  refine pw_block ?_
                  refine pw_seq ?_
                  refine pw_seq ?_
                  refine pw_region ?_
                  refine po_evs (T := tab) 3 rfl rfl ?_
                  refine po_len (T := tab) cNode f1.Nodes rfl rfl rfl rfl rfl rfl rfl rfl ?_
                  refine po_evs (T := tab) 1 rfl rfl ?_
                  refine po_nil ?_
                  refine pn_seq ?_
                  refine pw_cnd rfl ?_ ?_
                  · refine pw_seq ?_
                    refine pw_region ?_
                    refine po_evs (T := tab) 1 rfl rfl ?_
                    refine po_nil ?_
                    refine pn_seq ?_
                    exact pw_retN (T := tab) rfl rfl rfl ⟨rfl, rfl⟩ trivial rfl
                  · refine pw_skip ?_
                    refine pn_seq ?_
                    refine pw_seq ?_
                    refine pw_region ?_
                    refine po_evs (T := tab) 3 rfl rfl ?_
                    refine po_idx (T := tab) cNode f1.Nodes rfl rfl rfl rfl rfl rfl rfl fun y9 hy9 => ?_
                    refine po_evs (T := tab) 3 rfl rfl ?_
                    refine po_nil ?_
                    refine pn_seq ?_
                    refine pw_cnd rfl ?_ ?_
                    · refine pw_region ?_
                      refine po_evs (T := tab) 3 rfl rfl ?_
                      refine po_idx (T := tab) cNode f1.Nodes rfl rfl rfl rfl rfl rfl rfl fun y10 hy10 => ?_
                      refine po_evs (T := tab) 3 rfl rfl ?_
                      refine po_nil ?_
                      refine pn_block ?_
                      refine pn_seq ?_
                      refine pw_region ?_
                      refine po_evs (T := tab) 1 rfl rfl ?_
                      refine po_arith' (T := tab) rfl rfl rfl rfl fun i12 hi12 => ?_
                      refine po_evs (T := tab) 1 rfl rfl ?_
                      refine po_nil ?_
                      exact pn_iter' (y10.Parent, i12) ⟨rfl, rfl, rfl, rfl, trivial⟩ ⟨rfl, trivial⟩ rfl
                    · refine pw_region ?_
                      refine po_evs (T := tab) 3 rfl rfl ?_
                      refine po_idx (T := tab) cNode f1.Nodes rfl rfl rfl rfl rfl rfl rfl fun y11 hy11 => ?_
                      refine po_evs (T := tab) 3 rfl rfl ?_
                      refine po_nil ?_
                      refine pn_block ?_
                      refine pn_seq ?_
                      refine pw_region ?_
                      refine po_evs (T := tab) 1 rfl rfl ?_
                      refine po_arith' (T := tab) rfl rfl rfl rfl fun i13 hi13 => ?_
                      refine po_evs (T := tab) 1 rfl rfl ?_
                      refine po_nil ?_
                      exact pn_iter' (y11.Host, i13) ⟨rfl, rfl, rfl, rfl, trivial⟩ ⟨rfl, trivial⟩ rfl
                · refine pw_exit rfl ?_
                  refine pn_block ?_
                  refine pn_seq ?_
                  refine pw_region ?_
                  refine po_evs (T := tab) 1 rfl rfl ?_
                  refine po_arith' (T := tab) rfl rfl rfl rfl fun i14 hi14 => ?_
                  refine po_evs (T := tab) 1 rfl rfl ?_
                  refine po_nil ?_
                  exact pn_iter' i14 ⟨rfl, rfl, trivial⟩ ⟨rfl, trivial⟩ rfl
              · refine pw_exit rfl ?_
                refine pn_seq ?_
                refine pw_seq ?_
                refine pw_region ?_
                refine po_evs (T := tab) 1 rfl rfl ?_
                refine po_nil ?_
                refine pn_seq ?_
                exact pw_retN (T := tab) rfl rfl rfl ⟨rfl, rfl⟩ trivial rfl

def Instarref03_Bare_m (_fu : Nat) (kind1 : Int) (doc2 : Int) : Option Node := some (⟨kind1, [], [], [], [], (-1), [], (-1), (-1), doc2⟩ : Node)

set_option maxRecDepth 100000 in
theorem Instarref03_Bare_ok (fu : Nat) (kind1 : Int) (doc2 : Int) : ∀ r, Instarref03_Bare_m fu kind1 doc2 = some r → DC Try.prog 63 [.v (.int .i64 kind1), .v (.int .i64 doc2)] (.agg (cNode r)) := by
  intro r hr
  refine fc_intro (args := [.v (.int .i64 kind1), .v (.int .i64 doc2)]) (S := []) (N0 := []) (post := fun r p S => p = .agg (cNode r) ∧ S = []) Try.func63 rfl rfl hr fun w0 X X0 σ0 => ?_
  refine pw_seq ?_
  refine pw_region ?_
  refine po_alloc (T := tab) 4 rfl rfl rfl rfl rfl rfl rfl rfl rfl ?_
  refine po_nil ?_
  refine pn_seq ?_
  refine pw_seq ?_
  refine pw_region ?_
  refine po_evs (T := tab) 2 rfl rfl ?_
  refine po_build (T := tab) rfl rfl rfl rfl rfl rfl rfl ?_
  refine po_store (T := tab) rfl rfl rfl rfl rfl rfl rfl rfl rfl rfl rfl rfl ?_
  refine po_nil ?_
  refine pn_seq ?_
  refine pw_coeS 4 [.v (.int .i64 kind1), .v (.string ⟨⟨[]⟩⟩), .v (.string ⟨⟨[]⟩⟩), .v (.string ⟨⟨[]⟩⟩), .sl 2 false ([].map cAttr), .v (.int .i64 (-1)), .sl 1 false ([].map cInt_i64), .v (.int .i64 (-1)), .v (.int .i64 (-1)), .v (.int .i64 doc2)] rfl ⟨.rfl, .rfl, .rfl, .rfl, .nil, .rfl, .nil, .rfl, .rfl, .rfl, trivial⟩ rfl ?_
  exact pw_retN (T := tab) rfl rfl rfl ⟨rfl, rfl⟩ trivial rfl

def Instarref03_New_m (fu : Nat) (most1 : Int) : Option Forest := bnd (Instarref03_Bare_m fu 0 0) fun r2 => some (⟨[r2], most1⟩ : Forest)

set_option maxRecDepth 100000 in
theorem Instarref03_New_ok (fu : Nat) (most1 : Int) : ∀ r, Instarref03_New_m fu most1 = some r → DC Try.prog 21 [.v (.int .i64 most1)] (.agg (cForest r)) := by
  intro r hr
  refine fc_intro (args := [.v (.int .i64 most1)]) (S := []) (N0 := []) (post := fun r p S => p = .agg (cForest r) ∧ S = []) Try.func21 rfl rfl hr fun w0 X X0 σ0 => ?_
  refine pw_seq ?_
  refine pw_region ?_
  refine po_alloc (T := tab) 2 rfl rfl rfl rfl rfl rfl rfl rfl rfl ?_
  refine po_nil ?_
  refine pn_seq ?_
  refine pw_seq ?_
  refine pw_region ?_
  refine po_call (enc := fun (r2 : Node) => .agg (cNode r2)) (qs := [.v (.int .i64 0), .v (.int .i64 0)]) (Instarref03_Bare_ok fu 0 0) rfl rfl ⟨⟨_, rfl, .rfl⟩, ⟨_, rfl, .rfl⟩, trivial⟩ (fun _ => rfl) call63 rfl rfl fun r2 hr2 => ?_
  refine po_lit (T := tab) (rows := [r2].map cNode) 4 rfl rfl rfl rfl rfl rfl rfl rfl rfl rfl rfl rfl rfl rfl ?_
  refine po_evs (T := tab) 1 rfl rfl ?_
  refine po_build (T := tab) rfl rfl rfl rfl rfl rfl rfl ?_
  refine po_store (T := tab) rfl rfl rfl rfl rfl rfl rfl rfl rfl rfl rfl rfl ?_
  refine po_nil ?_
  refine pn_seq ?_
  refine pw_freeze 4 rfl rfl rfl ?_
  exact pw_retN (T := tab) rfl rfl rfl ⟨rfl, rfl⟩ trivial rfl

def Instarref02_Same_l1 (a1 : (List Attr)) (b2 : (List Attr)) : Nat → Int → Option Bool
  | 0, _ => none
  | k1 + 1, i3 => cnd (decide (i3 < ((a1.length : Nat) : Int))) (bnd (idx a1 i3) fun y4 => bnd (idx b2 i3) fun y5 => cnd (!(eqAttr y4 y5)) (some false) (bnd (rng .i64 (i3 + 1)) fun i6 => (Instarref02_Same_l1 a1 b2 k1) i6)) (some true)

def Instarref02_Same_m (fu : Nat) (a1 : (List Attr)) (b2 : (List Attr)) : Option Bool := cnd (((a1.length : Nat) : Int) != ((b2.length : Nat) : Int)) (some false) ((Instarref02_Same_l1 a1 b2) fu 0)

set_option maxHeartbeats 10000000 in
set_option maxRecDepth 100000 in
theorem Instarref02_Same_ok (fu : Nat) (a1 : (List Attr)) (b2 : (List Attr)) : ∀ r, Instarref02_Same_m fu a1 b2 = some r → DC Try.prog 68 [.sl 2 false (a1.map cAttr), .sl 2 false (b2.map cAttr)] (.v (.bool r)) := by
  intro r hr
  refine fc_intro (args := [.sl 2 false (a1.map cAttr), .sl 2 false (b2.map cAttr)]) (S := []) (N0 := []) (post := fun r p S => p = .v (.bool r) ∧ S = []) Try.func68 rfl rfl hr fun w0 X X0 σ0 => ?_
  refine pw_seq ?_
  refine pw_region ?_
  refine po_evs (T := tab) 1 rfl rfl ?_
  refine po_nil ?_
  refine pn_seq ?_
  refine pw_seq ?_
  refine pw_seq ?_
  refine pw_region ?_
  refine po_evs (T := tab) 1 rfl rfl ?_
  refine po_len (T := tab) cAttr a1 rfl rfl rfl rfl rfl rfl rfl rfl ?_
  refine po_evs (T := tab) 1 rfl rfl ?_
  refine po_len (T := tab) cAttr b2 rfl rfl rfl rfl rfl rfl rfl rfl ?_
  refine po_evs (T := tab) 1 rfl rfl ?_
  refine po_nil ?_
  refine pn_seq ?_
  refine pw_cnd rfl ?_ ?_
  · refine pw_seq ?_
    refine pw_region ?_
    refine po_evs (T := tab) 1 rfl rfl ?_
    refine po_nil ?_
    refine pn_seq ?_
    exact pw_retN (T := tab) rfl rfl rfl ⟨rfl, rfl⟩ trivial rfl
  · refine pw_skip ?_
    refine pn_seq ?_
    refine pw_seq ?_
    refine pw_seq ?_
    refine pw_region ?_
    refine po_evs (T := tab) 1 rfl rfl ?_
    refine po_nil ?_
    refine pn_seq ?_
    refine pw_block ?_
    refine pw_loop' (Instarref02_Same_l1 a1 b2) (fun (i3 : Int) => [(0, .sl 2 false (a1.map cAttr)), (1, .sl 2 false (b2.map cAttr)), (5, .v (.int .i64 i3))]) (fun (i3 : Int) => []) fu 0 (fun _ => rfl) ⟨rfl, rfl, rfl, trivial⟩ trivial rfl ?_
    rintro k1 i3
    refine pw_seq ?_
    refine pw_seq ?_
    refine pw_region ?_
    refine po_evs (T := tab) 2 rfl rfl ?_
    refine po_len (T := tab) cAttr a1 rfl rfl rfl rfl rfl rfl rfl rfl ?_
    refine po_evs (T := tab) 1 rfl rfl ?_
    refine po_nil ?_
    refine pn_seq ?_
    refine pw_cnd rfl ?_ ?_
    · refine pw_skip ?_
      refine pn_seq ?_
      refine pw_seq ?_
      refine pw_block ?_
      refine pw_seq ?_
      refine pw_draw mixed (by kernel_rfl) ?_
      refine pd_evs (T := tab) 2 rfl rfl ?_
      refine pd_idx (T := tab) cAttr a1 rfl rfl rfl rfl rfl rfl rfl fun y4 hy4 => ?_
      refine pd_evs (T := tab) 3 rfl rfl ?_
      refine pd_idx (T := tab) cAttr b2 rfl rfl rfl rfl rfl rfl rfl fun y5 hy5 => ?_
      refine pd_evs (T := tab) 1 rfl rfl ?_
      refine pd_ne eqf_61 rfl rfl rfl rfl rfl rfl rfl ?_
      refine pd_nil ?_
      refine pn_seq ?_
      refine pw_cnd rfl ?_ ?_
      · refine pw_seq ?_
        refine pw_region ?_
        refine po_evs (T := tab) 1 rfl rfl ?_
        refine po_nil ?_
        refine pn_seq ?_
        exact pw_retN (T := tab) rfl rfl rfl ⟨rfl, rfl⟩ trivial rfl
      · refine pw_skip ?_
        refine pn_block ?_
        refine pn_seq ?_
        refine pw_region ?_
        refine po_evs (T := tab) 1 rfl rfl ?_
        refine po_arith' (T := tab) rfl rfl rfl rfl fun i6 hi6 => ?_
        refine po_evs (T := tab) 1 rfl rfl ?_
        refine po_nil ?_
        exact pn_iter' i6 ⟨rfl, rfl, rfl, trivial⟩ trivial rfl
    · refine pw_exit rfl ?_
      refine pn_seq ?_
      refine pw_seq ?_
      refine pw_region ?_
      refine po_evs (T := tab) 1 rfl rfl ?_
      refine po_nil ?_
      refine pn_seq ?_
      exact pw_retN (T := tab) rfl rfl rfl ⟨rfl, rfl⟩ trivial rfl

def Instarref03_Ints_l1 (a1 : (List Int)) (b2 : (List Int)) : Nat → Int → Option Bool
  | 0, _ => none
  | k1 + 1, i3 => cnd (decide (i3 < ((a1.length : Nat) : Int))) (bnd (idx a1 i3) fun y4 => bnd (idx b2 i3) fun y5 => cnd (y4 != y5) (some false) (bnd (rng .i64 (i3 + 1)) fun i6 => (Instarref03_Ints_l1 a1 b2 k1) i6)) (some true)

def Instarref03_Ints_m (fu : Nat) (a1 : (List Int)) (b2 : (List Int)) : Option Bool := cnd (((a1.length : Nat) : Int) != ((b2.length : Nat) : Int)) (some false) ((Instarref03_Ints_l1 a1 b2) fu 0)

set_option maxHeartbeats 10000000 in
set_option maxRecDepth 100000 in
theorem Instarref03_Ints_ok (fu : Nat) (a1 : (List Int)) (b2 : (List Int)) : ∀ r, Instarref03_Ints_m fu a1 b2 = some r → DC Try.prog 29 [.sl 1 false (a1.map cInt_i64), .sl 1 false (b2.map cInt_i64)] (.v (.bool r)) := by
  intro r hr
  refine fc_intro (args := [.sl 1 false (a1.map cInt_i64), .sl 1 false (b2.map cInt_i64)]) (S := []) (N0 := []) (post := fun r p S => p = .v (.bool r) ∧ S = []) Try.func29 rfl rfl hr fun w0 X X0 σ0 => ?_
  refine pw_seq ?_
  refine pw_region ?_
  refine po_evs (T := tab) 1 rfl rfl ?_
  refine po_nil ?_
  refine pn_seq ?_
  refine pw_seq ?_
  refine pw_seq ?_
  refine pw_region ?_
  refine po_evs (T := tab) 1 rfl rfl ?_
  refine po_len (T := tab) cInt_i64 a1 rfl rfl rfl rfl rfl rfl rfl rfl ?_
  refine po_evs (T := tab) 1 rfl rfl ?_
  refine po_len (T := tab) cInt_i64 b2 rfl rfl rfl rfl rfl rfl rfl rfl ?_
  refine po_evs (T := tab) 1 rfl rfl ?_
  refine po_nil ?_
  refine pn_seq ?_
  refine pw_cnd rfl ?_ ?_
  · refine pw_seq ?_
    refine pw_region ?_
    refine po_evs (T := tab) 1 rfl rfl ?_
    refine po_nil ?_
    refine pn_seq ?_
    exact pw_retN (T := tab) rfl rfl rfl ⟨rfl, rfl⟩ trivial rfl
  · refine pw_skip ?_
    refine pn_seq ?_
    refine pw_seq ?_
    refine pw_seq ?_
    refine pw_region ?_
    refine po_evs (T := tab) 1 rfl rfl ?_
    refine po_nil ?_
    refine pn_seq ?_
    refine pw_block ?_
    refine pw_loop' (Instarref03_Ints_l1 a1 b2) (fun (i3 : Int) => [(0, .sl 1 false (a1.map cInt_i64)), (1, .sl 1 false (b2.map cInt_i64)), (5, .v (.int .i64 i3))]) (fun (i3 : Int) => []) fu 0 (fun _ => rfl) ⟨rfl, rfl, rfl, trivial⟩ trivial rfl ?_
    rintro k1 i3
    refine pw_seq ?_
    refine pw_seq ?_
    refine pw_region ?_
    refine po_evs (T := tab) 2 rfl rfl ?_
    refine po_len (T := tab) cInt_i64 a1 rfl rfl rfl rfl rfl rfl rfl rfl ?_
    refine po_evs (T := tab) 1 rfl rfl ?_
    refine po_nil ?_
    refine pn_seq ?_
    refine pw_cnd rfl ?_ ?_
    · refine pw_skip ?_
      refine pn_seq ?_
      refine pw_seq ?_
      refine pw_block ?_
      refine pw_seq ?_
      refine pw_draw mixed (by kernel_rfl) ?_
      refine pd_evs (T := tab) 2 rfl rfl ?_
      refine pd_idx (T := tab) cInt_i64 a1 rfl rfl rfl rfl rfl rfl rfl fun y4 hy4 => ?_
      refine pd_evs (T := tab) 3 rfl rfl ?_
      refine pd_idx (T := tab) cInt_i64 b2 rfl rfl rfl rfl rfl rfl rfl fun y5 hy5 => ?_
      refine pd_evs (T := tab) 2 rfl rfl ?_
      refine pd_nil ?_
      refine pn_seq ?_
      refine pw_cnd rfl ?_ ?_
      · refine pw_seq ?_
        refine pw_region ?_
        refine po_evs (T := tab) 1 rfl rfl ?_
        refine po_nil ?_
        refine pn_seq ?_
        exact pw_retN (T := tab) rfl rfl rfl ⟨rfl, rfl⟩ trivial rfl
      · refine pw_skip ?_
        refine pn_block ?_
        refine pn_seq ?_
        refine pw_region ?_
        refine po_evs (T := tab) 1 rfl rfl ?_
        refine po_arith' (T := tab) rfl rfl rfl rfl fun i6 hi6 => ?_
        refine po_evs (T := tab) 1 rfl rfl ?_
        refine po_nil ?_
        exact pn_iter' i6 ⟨rfl, rfl, rfl, trivial⟩ trivial rfl
    · refine pw_exit rfl ?_
      refine pn_seq ?_
      refine pw_seq ?_
      refine pw_region ?_
      refine po_evs (T := tab) 1 rfl rfl ?_
      refine po_nil ?_
      refine pn_seq ?_
      exact pw_retN (T := tab) rfl rfl rfl ⟨rfl, rfl⟩ trivial rfl

def Instarref03_One_m (fu : Nat) (a1 : Node) (b2 : Node) : Option Bool := cnd (a1.Kind == b2.Kind) (cnd (a1.Name == b2.Name) (cnd (a1.Is == b2.Is) (cnd (a1.Data == b2.Data) (bnd (Instarref02_Same_m fu a1.Attrs b2.Attrs) fun r3 => cnd r3 (cnd (a1.Parent == b2.Parent) (bnd (Instarref03_Ints_m fu a1.Kids b2.Kids) fun r4 => cnd r4 (cnd (a1.Host == b2.Host) (cnd (a1.Under == b2.Under) (some (a1.Doc == b2.Doc)) (some false)) (some false)) (some false)) (some false)) (some false)) (some false)) (some false)) (some false)) (some false)

set_option maxHeartbeats 10000000 in
set_option maxRecDepth 100000 in
theorem Instarref03_One_ok (fu : Nat) (a1 : Node) (b2 : Node) : ∀ r, Instarref03_One_m fu a1 b2 = some r → DC Try.prog 36 [.agg (cNode a1), .agg (cNode b2)] (.v (.bool r)) := by
  intro r hr
  refine fc_intro (args := [.agg (cNode a1), .agg (cNode b2)]) (S := []) (N0 := []) (post := fun r p S => p = .v (.bool r) ∧ S = []) Try.func36 rfl rfl hr fun w0 X X0 σ0 => ?_
  refine pw_seq ?_
  refine pw_region ?_
  refine po_box  2 rfl rfl rfl rfl rfl rfl rfl rfl rfl rfl ?_
  refine po_box  3 rfl rfl rfl rfl rfl rfl rfl rfl rfl rfl ?_
  refine po_evs (T := tab) 1 rfl rfl ?_
  refine po_nil ?_
  refine pn_seq ?_
  refine pw_seq ?_
  refine pw_region ?_
  refine po_evs (T := tab) 6 rfl rfl ?_
  refine po_split (j := 10) rfl ?_ ?_
  · refine po_evs (T := tab) 7 rfl rfl ?_
    refine po_split (j := 17) rfl ?_ ?_
    · refine po_evs (T := tab) 7 rfl rfl ?_
      refine po_split (j := 24) rfl ?_ ?_
      · refine po_evs (T := tab) 7 rfl rfl ?_
        refine po_split (j := 31) rfl ?_ ?_
        · refine po_evs (T := tab) 4 rfl rfl ?_
          refine po_call (enc := fun (r3 : Bool) => .v (.bool r3)) (qs := [.sl 2 false (a1.Attrs.map cAttr), .sl 2 false (b2.Attrs.map cAttr)]) (Instarref02_Same_ok fu a1.Attrs b2.Attrs) rfl rfl ⟨⟨_, rfl, .rfl⟩, ⟨_, rfl, .rfl⟩, trivial⟩ (fun _ => rfl) call68 rfl rfl fun r3 hr3 => ?_
          refine po_evs (T := tab) 2 rfl rfl ?_
          refine po_split (j := 38) rfl ?_ ?_
          · refine po_evs (T := tab) 7 rfl rfl ?_
            refine po_split (j := 45) rfl ?_ ?_
            · refine po_evs (T := tab) 4 rfl rfl ?_
              refine po_call (enc := fun (r4 : Bool) => .v (.bool r4)) (qs := [.sl 1 false (a1.Kids.map cInt_i64), .sl 1 false (b2.Kids.map cInt_i64)]) (Instarref03_Ints_ok fu a1.Kids b2.Kids) rfl rfl ⟨⟨_, rfl, .rfl⟩, ⟨_, rfl, .rfl⟩, trivial⟩ (fun _ => rfl) call29 rfl rfl fun r4 hr4 => ?_
              refine po_evs (T := tab) 2 rfl rfl ?_
              refine po_split (j := 52) rfl ?_ ?_
              · refine po_evs (T := tab) 7 rfl rfl ?_
                refine po_split (j := 59) rfl ?_ ?_
                · refine po_evs (T := tab) 7 rfl rfl ?_
                  refine po_split (j := 66) rfl ?_ ?_
                  · refine po_evs (T := tab) 7 rfl rfl ?_
                    refine po_nil ?_
                    refine pn_seq ?_
                    exact pw_retN (T := tab) rfl rfl rfl ⟨rfl, rfl⟩ trivial rfl
                  · refine po_evs (T := tab) 7 rfl rfl ?_
                    refine po_nil ?_
                    refine pn_seq ?_
                    exact pw_retN (T := tab) rfl rfl rfl ⟨rfl, rfl⟩ trivial rfl
                · refine po_evs (T := tab) 14 rfl rfl ?_
                  refine po_nil ?_
                  refine pn_seq ?_
                  exact pw_retN (T := tab) rfl rfl rfl ⟨rfl, rfl⟩ trivial rfl
              · refine po_evs (T := tab) 21 rfl rfl ?_
                refine po_nil ?_
                refine pn_seq ?_
                exact pw_retN (T := tab) rfl rfl rfl ⟨rfl, rfl⟩ trivial rfl
            · refine po_evs (T := tab) 28 rfl rfl ?_
              refine po_nil ?_
              refine pn_seq ?_
              exact pw_retN (T := tab) rfl rfl rfl ⟨rfl, rfl⟩ trivial rfl
          · refine po_evs (T := tab) 35 rfl rfl ?_
            refine po_nil ?_
            refine pn_seq ?_
            exact pw_retN (T := tab) rfl rfl rfl ⟨rfl, rfl⟩ trivial rfl
        · refine po_evs (T := tab) 42 rfl rfl ?_
          refine po_nil ?_
          refine pn_seq ?_
          exact pw_retN (T := tab) rfl rfl rfl ⟨rfl, rfl⟩ trivial rfl
      · refine po_evs (T := tab) 49 rfl rfl ?_
        refine po_nil ?_
        refine pn_seq ?_
        exact pw_retN (T := tab) rfl rfl rfl ⟨rfl, rfl⟩ trivial rfl
    · refine po_evs (T := tab) 56 rfl rfl ?_
      refine po_nil ?_
      refine pn_seq ?_
      exact pw_retN (T := tab) rfl rfl rfl ⟨rfl, rfl⟩ trivial rfl
  · refine po_evs (T := tab) 63 rfl rfl ?_
    refine po_nil ?_
    refine pn_seq ?_
    exact pw_retN (T := tab) rfl rfl rfl ⟨rfl, rfl⟩ trivial rfl

def Instarref03_Same_l1 (fu : Nat) (a1 : Forest) (b2 : Forest) : Nat → Int → Option Bool
  | 0, _ => none
  | k1 + 1, i3 => cnd (decide (i3 < ((a1.Nodes.length : Nat) : Int))) (bnd (idx a1.Nodes i3) fun y4 => bnd (idx b2.Nodes i3) fun y5 => bnd (Instarref03_One_m fu y4 y5) fun r6 => cnd (!r6) (some false) (bnd (rng .i64 (i3 + 1)) fun i7 => (Instarref03_Same_l1 fu a1 b2 k1) i7)) (some true)

def Instarref03_Same_m (fu : Nat) (a1 : Forest) (b2 : Forest) : Option Bool := cnd (a1.Most != b2.Most) (some false) (cnd (((a1.Nodes.length : Nat) : Int) != ((b2.Nodes.length : Nat) : Int)) (some false) ((Instarref03_Same_l1 fu a1 b2) fu 0))

set_option maxHeartbeats 10000000 in
set_option maxRecDepth 100000 in
theorem Instarref03_Same_ok (fu : Nat) (a1 : Forest) (b2 : Forest) : ∀ r, Instarref03_Same_m fu a1 b2 = some r → DC Try.prog 20 [.agg (cForest a1), .agg (cForest b2)] (.v (.bool r)) := by
  intro r hr
  refine fc_intro (args := [.agg (cForest a1), .agg (cForest b2)]) (S := []) (N0 := []) (post := fun r p S => p = .v (.bool r) ∧ S = []) Try.func20 rfl rfl hr fun w0 X X0 σ0 => ?_
  refine pw_seq ?_
  refine pw_region ?_
  refine po_box  2 rfl rfl rfl rfl rfl rfl rfl rfl rfl rfl ?_
  refine po_box  3 rfl rfl rfl rfl rfl rfl rfl rfl rfl rfl ?_
  refine po_evs (T := tab) 1 rfl rfl ?_
  refine po_nil ?_
  refine pn_seq ?_
  refine pw_seq ?_
  refine pw_seq ?_
  refine pw_region ?_
  refine po_evs (T := tab) 6 rfl rfl ?_
  refine po_split (j := 11) rfl ?_ ?_
  · refine po_evs (T := tab) 8 rfl rfl ?_
    refine po_nil ?_
    refine pn_seq (pw_then rfl ?_)
    refine pw_seq ?_
    refine pw_region ?_
    refine po_evs (T := tab) 1 rfl rfl ?_
    refine po_nil ?_
    refine pn_seq ?_
    exact pw_retN (T := tab) rfl rfl rfl ⟨rfl, rfl⟩ trivial rfl
  · refine po_evs (T := tab) 2 rfl rfl ?_
    refine po_len (T := tab) cNode a1.Nodes rfl rfl rfl rfl rfl rfl rfl rfl ?_
    refine po_evs (T := tab) 2 rfl rfl ?_
    refine po_len (T := tab) cNode b2.Nodes rfl rfl rfl rfl rfl rfl rfl rfl ?_
    refine po_evs (T := tab) 2 rfl rfl ?_
    refine po_nil ?_
    refine pn_seq ?_
    refine pw_cnd rfl ?_ ?_
    · refine pw_seq ?_
      refine pw_region ?_
      refine po_evs (T := tab) 1 rfl rfl ?_
      refine po_nil ?_
      refine pn_seq ?_
      exact pw_retN (T := tab) rfl rfl rfl ⟨rfl, rfl⟩ trivial rfl
    · refine pw_skip ?_
      refine pn_seq ?_
      refine pw_seq ?_
      refine pw_seq ?_
      refine pw_region ?_
      refine po_evs (T := tab) 1 rfl rfl ?_
      refine po_nil ?_
      refine pn_seq ?_
      refine pw_block ?_
      refine pw_loop' (Instarref03_Same_l1 fu a1 b2) (fun (i3 : Int) => [(2, .loc 2 0), (3, .loc 3 0), (5, .v (.int .i64 i3))]) (fun (i3 : Int) => [(3, .box [.sl 10 false (b2.Nodes.map cNode), .v (.int .i64 b2.Most)]), (2, .box [.sl 10 false (a1.Nodes.map cNode), .v (.int .i64 a1.Most)])]) fu 0 (fun _ => rfl) ⟨rfl, rfl, rfl, trivial⟩ ⟨rfl, rfl, trivial⟩ rfl ?_
      rintro k1 i3
      refine pw_seq ?_
      refine pw_seq ?_
      refine pw_region ?_
      refine po_evs (T := tab) 3 rfl rfl ?_
      refine po_len (T := tab) cNode a1.Nodes rfl rfl rfl rfl rfl rfl rfl rfl ?_
      refine po_evs (T := tab) 1 rfl rfl ?_
      refine po_nil ?_
      refine pn_seq ?_
      refine pw_cnd rfl ?_ ?_
      · refine pw_skip ?_
        refine pn_seq ?_
        refine pw_seq ?_
        refine pw_block ?_
        refine pw_seq ?_
        refine pw_draw mixed (by kernel_rfl) ?_
        refine pd_evs (T := tab) 3 rfl rfl ?_
        refine pd_idx (T := tab) cNode a1.Nodes rfl rfl rfl rfl rfl rfl rfl fun y4 hy4 => ?_
        refine pd_evs (T := tab) 4 rfl rfl ?_
        refine pd_idx (T := tab) cNode b2.Nodes rfl rfl rfl rfl rfl rfl rfl fun y5 hy5 => ?_
        refine pd_evs (T := tab) 1 rfl rfl ?_
        refine pd_call (enc := fun (r6 : Bool) => .v (.bool r6)) (qs := [.agg (cNode y4), .agg (cNode y5)]) (Instarref03_One_ok fu y4 y5) rfl rfl ⟨⟨_, rfl, .rfl⟩, ⟨_, rfl, .rfl⟩, trivial⟩ (fun _ => rfl) call36 rfl rfl fun r6 hr6 => ?_
        refine pd_evs (T := tab) 1 rfl rfl ?_
        refine pd_nil ?_
        refine pn_seq ?_
        refine pw_cnd rfl ?_ ?_
        · refine pw_seq ?_
          refine pw_region ?_
          refine po_evs (T := tab) 1 rfl rfl ?_
          refine po_nil ?_
          refine pn_seq ?_
          exact pw_retN (T := tab) rfl rfl rfl ⟨rfl, rfl⟩ trivial rfl
        · refine pw_skip ?_
          refine pn_block ?_
          refine pn_seq ?_
          refine pw_region ?_
          refine po_evs (T := tab) 1 rfl rfl ?_
          refine po_arith' (T := tab) rfl rfl rfl rfl fun i7 hi7 => ?_
          refine po_evs (T := tab) 1 rfl rfl ?_
          refine po_nil ?_
          exact pn_iter' i7 ⟨rfl, rfl, rfl, trivial⟩ ⟨rfl, rfl, trivial⟩ rfl
      · refine pw_exit rfl ?_
        refine pn_seq ?_
        refine pw_seq ?_
        refine pw_region ?_
        refine po_evs (T := tab) 1 rfl rfl ?_
        refine po_nil ?_
        refine pn_seq ?_
        exact pw_retN (T := tab) rfl rfl rfl ⟨rfl, rfl⟩ trivial rfl

def Instarref03_Make_j1 (fu : Nat) (f1 : Forest) (n2 : Node) (r3 : Node) (c4 : Int) : Option (Forest × Int × Int) := bnd (roomy 136 (([] : List Node).length + f1.Nodes.length)) fun _ => bnd (roomy 136 ((([] : List Node) ++ f1.Nodes).length + ([(⟨r3.Kind, n2.Name, n2.Is, n2.Data, n2.Attrs, r3.Parent, r3.Kids, r3.Host, r3.Under, c4⟩ : Node)] : List Node).length)) fun _ => cnd (n2.Kind == 4) (some (f1, (-1), 1)) (bnd (Instarref03_Node_m fu (⟨((([] : List Node) ++ f1.Nodes) ++ [(⟨r3.Kind, n2.Name, n2.Is, n2.Data, n2.Attrs, r3.Parent, r3.Kids, r3.Host, r3.Under, c4⟩ : Node)]), 400⟩ : Forest) ((f1.Nodes.length : Nat) : Int)) fun r5 => cnd (!r5) (some (f1, (-1), 1)) (cnd (decide (((f1.Nodes.length : Nat) : Int) ≥ f1.Most)) (some (f1, (-1), 8)) (some ((⟨((([] : List Node) ++ f1.Nodes) ++ [(⟨r3.Kind, n2.Name, n2.Is, n2.Data, n2.Attrs, r3.Parent, r3.Kids, r3.Host, r3.Under, c4⟩ : Node)]), f1.Most⟩ : Forest), ((f1.Nodes.length : Nat) : Int), 0))))

def Instarref03_Make_m (fu : Nat) (f1 : Forest) (n2 : Node) : Option (Forest × Int × Int) := bnd (Instarref03_Bare_m fu n2.Kind n2.Doc) fun r3 => cnd (n2.Kind == 0) ((Instarref03_Make_j1 fu f1 n2 r3) ((f1.Nodes.length : Nat) : Int)) ((Instarref03_Make_j1 fu f1 n2 r3) r3.Doc)

set_option maxHeartbeats 10000000 in
set_option maxRecDepth 100000 in
theorem Instarref03_Make_ok (fu : Nat) (f1 : Forest) (n2 : Node) : ∀ r, Instarref03_Make_m fu f1 n2 = some r → DC Try.prog 27 [.agg (cForest f1), .agg (cNode n2)] (.tup [.agg (cForest r.1), .v (.int .i64 r.2.1), .v (.int .i64 r.2.2)]) := by
  intro r hr
  refine fc_intro (args := [.agg (cForest f1), .agg (cNode n2)]) (S := []) (N0 := []) (post := fun r p S => p = .tup [.agg (cForest r.1), .v (.int .i64 r.2.1), .v (.int .i64 r.2.2)] ∧ S = []) Try.func27 rfl rfl hr fun w0 X X0 σ0 => ?_
  refine pw_seq ?_
  refine pw_region ?_
  refine po_box  2 rfl rfl rfl rfl rfl rfl rfl rfl rfl rfl ?_
  refine po_box  3 rfl rfl rfl rfl rfl rfl rfl rfl rfl rfl ?_
  refine po_alloc (T := tab) 4 rfl rfl rfl rfl rfl rfl rfl rfl rfl ?_
  refine po_evs (T := tab) 2 rfl rfl ?_
  refine po_nil ?_
  refine pn_seq ?_
  refine pw_seq ?_
  refine pw_region ?_
  refine po_evs (T := tab) 4 rfl rfl ?_
  refine po_call (enc := fun (r3 : Node) => .agg (cNode r3)) (qs := [.v (.int .i64 n2.Kind), .v (.int .i64 n2.Doc)]) (Instarref03_Bare_ok fu n2.Kind n2.Doc) rfl rfl ⟨⟨_, rfl, .rfl⟩, ⟨_, rfl, .rfl⟩, trivial⟩ (fun _ => rfl) call63 rfl rfl fun r3 hr3 => ?_
  refine po_alloc (T := tab) 7 rfl rfl rfl rfl rfl rfl rfl rfl rfl ?_
  refine po_store (T := tab) rfl rfl rfl rfl rfl rfl rfl rfl rfl rfl rfl rfl ?_
  refine po_nil ?_
  refine pn_seq ?_
  refine pw_seq ?_
  refine pw_region ?_
  refine po_evs (T := tab) 3 rfl rfl ?_
  refine po_store (T := tab) rfl rfl rfl rfl rfl rfl rfl rfl rfl rfl rfl rfl ?_
  refine po_nil ?_
  refine pn_seq ?_
  refine pw_seq ?_
  refine pw_region ?_
  refine po_evs (T := tab) 3 rfl rfl ?_
  refine po_store (T := tab) rfl rfl rfl rfl rfl rfl rfl rfl rfl rfl rfl rfl ?_
  refine po_nil ?_
  refine pn_seq ?_
  refine pw_seq ?_
  refine pw_region ?_
  refine po_evs (T := tab) 3 rfl rfl ?_
  refine po_store (T := tab) rfl rfl rfl rfl rfl rfl rfl rfl rfl rfl rfl rfl ?_
  refine po_nil ?_
  refine pn_seq ?_
  refine pw_seq ?_
  refine pw_region ?_
  refine po_evs (T := tab) 3 rfl rfl ?_
  refine po_store (T := tab) rfl rfl rfl rfl rfl rfl rfl rfl rfl rfl rfl rfl ?_
  refine po_nil ?_
  refine pn_seq ?_
  refine pw_seq ?_
  refine pw_seq ?_
  refine pw_region ?_
  refine po_evs (T := tab) 3 rfl rfl ?_
  refine po_nil ?_
  refine pn_seq ?_
  refine pw_joinK (Instarref03_Make_j1 fu f1 n2 r3) (fun (c4 : Int) => [(2, .loc 2 0), (3, .loc 3 0), (4, .loc 4 0), (7, .loc 7 0)]) (fun (c4 : Int) => [(7, .box [.v (.int .i64 r3.Kind), .v (.string ⟨⟨n2.Name⟩⟩), .v (.string ⟨⟨n2.Is⟩⟩), .v (.string ⟨⟨n2.Data⟩⟩), .sl 2 false (n2.Attrs.map cAttr), .v (.int .i64 r3.Parent), .sl 1 false (r3.Kids.map cInt_i64), .v (.int .i64 r3.Host), .v (.int .i64 r3.Under), .v (.int .i64 c4)]), (4, .box [.v (.slice none 0 0), .v (.int .i64 0)]), (3, .box [.v (.int .i64 n2.Kind), .v (.string ⟨⟨n2.Name⟩⟩), .v (.string ⟨⟨n2.Is⟩⟩), .v (.string ⟨⟨n2.Data⟩⟩), .sl 2 false (n2.Attrs.map cAttr), .v (.int .i64 n2.Parent), .sl 1 false (n2.Kids.map cInt_i64), .v (.int .i64 n2.Host), .v (.int .i64 n2.Under), .v (.int .i64 n2.Doc)]), (2, .box [.sl 10 false (f1.Nodes.map cNode), .v (.int .i64 f1.Most)])]) ?_ fun hj1 => ?_
  · rintro c4
    refine pn_seq ?_
    refine pw_seq ?_
    refine pw_sub' (E' := [(2, .loc 2 0), (3, .loc 3 0), (4, .loc 4 0), (7, .loc 7 0)]) (S' := [(7, .box [.v (.int .i64 r3.Kind), .v (.string ⟨⟨n2.Name⟩⟩), .v (.string ⟨⟨n2.Is⟩⟩), .v (.string ⟨⟨n2.Data⟩⟩), .sl 2 false (n2.Attrs.map cAttr), .v (.int .i64 r3.Parent), .sl 1 false (r3.Kids.map cInt_i64), .v (.int .i64 r3.Host), .v (.int .i64 r3.Under), .v (.int .i64 c4)]), (4, .box [.v (.slice none 0 0), .v (.int .i64 0)]), (3, .box [.v (.int .i64 n2.Kind), .v (.string ⟨⟨n2.Name⟩⟩), .v (.string ⟨⟨n2.Is⟩⟩), .v (.string ⟨⟨n2.Data⟩⟩), .sl 2 false (n2.Attrs.map cAttr), .v (.int .i64 n2.Parent), .sl 1 false (n2.Kids.map cInt_i64), .v (.int .i64 n2.Host), .v (.int .i64 n2.Under), .v (.int .i64 n2.Doc)]), (2, .box [.sl 10 false (f1.Nodes.map cNode), .v (.int .i64 f1.Most)])]) ?_ ⟨rfl, rfl, rfl, rfl, trivial⟩ ⟨rfl, rfl, rfl, rfl, trivial⟩ rfl
    refine pw_drawV [0, 0, 2, 7, 0, 16, 63, 127, 0, 511] mixed (by kernel_rfl) (by kernel_rfl) rfl rfl ?_
    refine pdv_step0 [] [66, 67] [33] [] [] [(33, .own 33)] [(33, .arr 28 10 (([] : List Node).map cNode))] rfl rfl rfl rfl (by kernel_rfl) (by kernel_rfl) (by kernel_rfl) trivial (fun w0 X X0 σ0 => by refine po_lit (T := tab) (rows := ([] : List Node).map cNode) 33 rfl rfl rfl rfl rfl rfl rfl rfl rfl rfl rfl rfl rfl rfl ?_; refine po_nil ?_; exact pn_end0 ⟨rfl, trivial⟩ ⟨rfl, trivial⟩ rfl) ?_
    refine pdv_step0 [4] [68] [] [2] [] [(34, .loc 2 0)] [] rfl rfl rfl rfl (by kernel_rfl) (by kernel_rfl) (by kernel_rfl) trivial (fun w0 X X0 σ0 => by refine po_evs (T := tab) 1 rfl rfl ?_; refine po_nil ?_; exact pn_end0 ⟨rfl, trivial⟩ trivial rfl) ?_
    refine pdv_step0 [5, 68] [70] [] [2] [2] [(35, .sl 10 false (f1.Nodes.map cNode))] [(2, .box [.sl 10 false (f1.Nodes.map cNode), .v (.int .i64 f1.Most)])] rfl rfl rfl rfl (by kernel_rfl) (by kernel_rfl) (by kernel_rfl) ⟨rfl, trivial⟩ (fun w0 X X0 σ0 => by refine po_evs (T := tab) 1 rfl rfl ?_; refine po_nil ?_; exact pn_end0 ⟨rfl, trivial⟩ ⟨rfl, trivial⟩ rfl) ?_
    refine pdv_step (M := (roomy 136 (([] : List Node).length + f1.Nodes.length))) (ment := [(72, [33]), (66, []), (67, [])]) [66, 67, 70] [72, 66, 67] [33] [] [] (fun _ => [(36, .own 33)]) (fun _ => [(33, .arr 28 10 ((([] : List Node) ++ f1.Nodes).map cNode))]) rfl rfl (fun _ => rfl) (fun _ => rfl) (by kernel_rfl) (by kernel_rfl) (fun _ => by kernel_rfl) (fun _ => trivial) (fun w0 X X0 σ0 => by refine po_append (T := tab) cNode ([] : List Node) f1.Nodes rfl rfl rfl rfl rfl rfl rfl rfl rfl rfl rfl rfl rfl rfl (cNode_one _) rfl rfl rfl rfl rfl ?_; refine po_nil ?_; exact pn_end ⟨rfl, trivial⟩ ⟨rfl, trivial⟩ rfl) fun _ h0 => ?_
    refine pdv_step0 [14, 15] [74] [] [7] [7] [(37, .agg [.v (.int .i64 r3.Kind), .v (.string ⟨⟨n2.Name⟩⟩), .v (.string ⟨⟨n2.Is⟩⟩), .v (.string ⟨⟨n2.Data⟩⟩), .sl 2 false (n2.Attrs.map cAttr), .v (.int .i64 r3.Parent), .sl 1 false (r3.Kids.map cInt_i64), .v (.int .i64 r3.Host), .v (.int .i64 r3.Under), .v (.int .i64 c4)])] [(7, .box [.v (.int .i64 r3.Kind), .v (.string ⟨⟨n2.Name⟩⟩), .v (.string ⟨⟨n2.Is⟩⟩), .v (.string ⟨⟨n2.Data⟩⟩), .sl 2 false (n2.Attrs.map cAttr), .v (.int .i64 r3.Parent), .sl 1 false (r3.Kids.map cInt_i64), .v (.int .i64 r3.Host), .v (.int .i64 r3.Under), .v (.int .i64 c4)])] rfl rfl rfl rfl (by kernel_rfl) (by kernel_rfl) (by kernel_rfl) ⟨rfl, trivial⟩ (fun w0 X X0 σ0 => by refine po_evs (T := tab) 1 rfl rfl ?_; refine po_nil ?_; exact pn_end0 ⟨rfl, trivial⟩ ⟨rfl, trivial⟩ rfl) ?_
    refine pdv_step0 [74] [76, 77] [38] [] [] [(38, .own 38)] [(38, .arr 28 10 ([(⟨r3.Kind, n2.Name, n2.Is, n2.Data, n2.Attrs, r3.Parent, r3.Kids, r3.Host, r3.Under, c4⟩ : Node)].map cNode))] rfl rfl rfl rfl (by kernel_rfl) (by kernel_rfl) (by kernel_rfl) trivial (fun w0 X X0 σ0 => by refine po_lit (T := tab) (rows := [(⟨r3.Kind, n2.Name, n2.Is, n2.Data, n2.Attrs, r3.Parent, r3.Kids, r3.Host, r3.Under, c4⟩ : Node)].map cNode) 38 rfl rfl rfl rfl rfl rfl rfl rfl rfl rfl rfl rfl rfl rfl ?_; refine po_nil ?_; exact pn_end0 ⟨rfl, trivial⟩ ⟨rfl, trivial⟩ rfl) ?_
    refine pdv_step (M := (roomy 136 ((([] : List Node) ++ f1.Nodes).length + ([(⟨r3.Kind, n2.Name, n2.Is, n2.Data, n2.Attrs, r3.Parent, r3.Kids, r3.Host, r3.Under, c4⟩ : Node)] : List Node).length))) (ment := [(78, [33]), (72, []), (67, []), (66, [])]) [66, 67, 72, 76, 77] [78, 72, 67, 66] [33] [38] [38] (fun _ => [(39, .own 33)]) (fun _ => [(33, .arr 28 10 (((([] : List Node) ++ f1.Nodes) ++ [(⟨r3.Kind, n2.Name, n2.Is, n2.Data, n2.Attrs, r3.Parent, r3.Kids, r3.Host, r3.Under, c4⟩ : Node)]).map cNode)), (38, .arr 28 10 ([(⟨r3.Kind, n2.Name, n2.Is, n2.Data, n2.Attrs, r3.Parent, r3.Kids, r3.Host, r3.Under, c4⟩ : Node)].map cNode))]) rfl rfl (fun _ => rfl) (fun _ => rfl) (by kernel_rfl) (by kernel_rfl) (fun _ => by kernel_rfl) (fun _ => ⟨rfl, trivial⟩) (fun w0 X X0 σ0 => by refine po_append (T := tab) cNode (([] : List Node) ++ f1.Nodes) ([(⟨r3.Kind, n2.Name, n2.Is, n2.Data, n2.Attrs, r3.Parent, r3.Kids, r3.Host, r3.Under, c4⟩ : Node)] : List Node) rfl rfl rfl rfl rfl rfl rfl rfl rfl rfl rfl rfl rfl rfl (cNode_one _) rfl rfl rfl rfl rfl ?_; refine po_nil ?_; exact pn_end ⟨rfl, trivial⟩ ⟨rfl, rfl, trivial⟩ rfl) fun _ h0 => ?_
    refine pdv_step0 [67, 78] [80] [] [33] [33] [(40, .agg [.own 33, .v (.int .i64 400)])] [(33, .arr 28 10 (((([] : List Node) ++ f1.Nodes) ++ [(⟨r3.Kind, n2.Name, n2.Is, n2.Data, n2.Attrs, r3.Parent, r3.Kids, r3.Host, r3.Under, c4⟩ : Node)]).map cNode))] rfl rfl rfl rfl (by kernel_rfl) (by kernel_rfl) (by kernel_rfl) ⟨rfl, trivial⟩ (fun w0 X X0 σ0 => by refine po_build (T := tab) rfl rfl rfl rfl rfl rfl rfl ?_; refine po_nil ?_; exact pn_end0 ⟨rfl, trivial⟩ ⟨rfl, trivial⟩ rfl) ?_
    refine pdv_step0 [] [16, 17] [8] [] [] [(8, .loc 8 0)] [(8, .box [.v (.slice none 0 0), .v (.int .i64 0)])] rfl rfl rfl rfl (by kernel_rfl) (by kernel_rfl) (by kernel_rfl) trivial (fun w0 X X0 σ0 => by refine po_alloc (T := tab) 8 rfl rfl rfl rfl rfl rfl rfl rfl rfl ?_; refine po_nil ?_; exact pn_end0 ⟨rfl, trivial⟩ ⟨rfl, trivial⟩ rfl) ?_
    refine pdv_step0 [16, 17, 67, 80] [17] [] [8, 33] [33] [] [(8, .box [.own 33, .v (.int .i64 400)]), (33, .arr 28 10 (((([] : List Node) ++ f1.Nodes) ++ [(⟨r3.Kind, n2.Name, n2.Is, n2.Data, n2.Attrs, r3.Parent, r3.Kids, r3.Host, r3.Under, c4⟩ : Node)]).map cNode))] rfl rfl rfl rfl (by kernel_rfl) (by kernel_rfl) (by kernel_rfl) ⟨rfl, trivial⟩ (fun w0 X X0 σ0 => by refine po_store (T := tab) rfl rfl rfl rfl rfl rfl rfl rfl rfl rfl rfl rfl ?_; refine po_nil ?_; exact pn_end0 trivial ⟨rfl, rfl, trivial⟩ rfl) ?_
    refine pdv_nil rfl rfl ?_
    refine pn_seq ?_
    refine pw_seq ?_
    refine pw_seq ?_
    refine pw_region ?_
    refine po_evs (T := tab) 4 rfl rfl ?_
    refine po_split (j := 44) rfl ?_ ?_
    · refine po_evs (T := tab) 7 rfl rfl ?_
      refine po_nil ?_
      refine pn_seq (pw_then rfl ?_)
      refine pw_seq ?_
      refine pw_region ?_
      refine po_evs (T := tab) 1 rfl rfl ?_
      refine po_store (T := tab) rfl rfl rfl rfl rfl rfl rfl rfl rfl rfl rfl rfl ?_
      refine po_evs (T := tab) 2 rfl rfl ?_
      refine po_nil ?_
      refine pn_seq ?_
      exact pw_retN (T := tab) rfl rfl rfl ⟨rfl, rfl⟩ trivial rfl
    · refine po_evs (T := tab) 3 rfl rfl ?_
      refine po_len (T := tab) cNode f1.Nodes rfl rfl rfl rfl rfl rfl rfl rfl ?_
      refine po_freeze 33 rfl rfl rfl ?_
      refine po_call (enc := fun (r5 : Bool) => .v (.bool r5)) (qs := [.agg (cForest (⟨((([] : List Node) ++ f1.Nodes) ++ [(⟨r3.Kind, n2.Name, n2.Is, n2.Data, n2.Attrs, r3.Parent, r3.Kids, r3.Host, r3.Under, c4⟩ : Node)]), 400⟩ : Forest)), .v (.int .i64 ((f1.Nodes.length : Nat) : Int))]) (Instarref03_Node_ok fu (⟨((([] : List Node) ++ f1.Nodes) ++ [(⟨r3.Kind, n2.Name, n2.Is, n2.Data, n2.Attrs, r3.Parent, r3.Kids, r3.Host, r3.Under, c4⟩ : Node)]), 400⟩ : Forest) ((f1.Nodes.length : Nat) : Int)) rfl rfl ⟨⟨_, rfl, .rfl⟩, ⟨_, rfl, .rfl⟩, trivial⟩ (fun _ => rfl) call56 rfl rfl fun r5 hr5 => ?_
      refine po_evs (T := tab) 2 rfl rfl ?_
      refine po_nil ?_
      refine pn_seq ?_
      refine pw_cnd rfl ?_ ?_
      · refine pw_seq ?_
        refine pw_region ?_
        refine po_evs (T := tab) 1 rfl rfl ?_
        refine po_store (T := tab) rfl rfl rfl rfl rfl rfl rfl rfl rfl rfl rfl rfl ?_
        refine po_evs (T := tab) 2 rfl rfl ?_
        refine po_nil ?_
        refine pn_seq ?_
        exact pw_retN (T := tab) rfl rfl rfl ⟨rfl, rfl⟩ trivial rfl
      · refine pw_skip ?_
        refine pn_seq ?_
        refine pw_seq ?_
        refine pw_seq ?_
        refine pw_region ?_
        refine po_evs (T := tab) 2 rfl rfl ?_
        refine po_len (T := tab) cNode f1.Nodes rfl rfl rfl rfl rfl rfl rfl rfl ?_
        refine po_evs (T := tab) 3 rfl rfl ?_
        refine po_nil ?_
        refine pn_seq ?_
        refine pw_cnd rfl ?_ ?_
        · refine pw_seq ?_
          refine pw_region ?_
          refine po_evs (T := tab) 1 rfl rfl ?_
          refine po_store (T := tab) rfl rfl rfl rfl rfl rfl rfl rfl rfl rfl rfl rfl ?_
          refine po_evs (T := tab) 2 rfl rfl ?_
          refine po_nil ?_
          refine pn_seq ?_
          exact pw_retN (T := tab) rfl rfl rfl ⟨rfl, rfl⟩ trivial rfl
        · refine pw_skip ?_
          refine pn_seq ?_
          refine pw_seq ?_
          refine pw_region ?_
          refine po_evs (T := tab) 3 rfl rfl ?_
          refine po_store (T := tab) rfl rfl rfl rfl rfl rfl rfl rfl rfl rfl rfl rfl ?_
          refine po_nil ?_
          refine pn_seq ?_
          refine pw_seq ?_
          refine pw_sub' (E' := [(2, .loc 2 0), (4, .loc 4 0), (8, .loc 8 0)]) (S' := [(8, .box [.sl 10 false (((([] : List Node) ++ f1.Nodes) ++ [(⟨r3.Kind, n2.Name, n2.Is, n2.Data, n2.Attrs, r3.Parent, r3.Kids, r3.Host, r3.Under, c4⟩ : Node)]).map cNode), .v (.int .i64 f1.Most)]), (4, .box [.v (.slice none 0 0), .v (.int .i64 0)]), (2, .box [.sl 10 false (f1.Nodes.map cNode), .v (.int .i64 f1.Most)])]) ?_ ⟨rfl, rfl, rfl, trivial⟩ ⟨rfl, rfl, rfl, trivial⟩ rfl
          refine pw_drawV [0, 0, 2, 6, 1, 31, 63] mixed (by kernel_rfl) (by kernel_rfl) rfl rfl ?_
          refine pdv_step0 [16, 17] [126] [] [8] [8] [(63, .agg [.sl 10 false (((([] : List Node) ++ f1.Nodes) ++ [(⟨r3.Kind, n2.Name, n2.Is, n2.Data, n2.Attrs, r3.Parent, r3.Kids, r3.Host, r3.Under, c4⟩ : Node)]).map cNode), .v (.int .i64 f1.Most)])] [(8, .box [.sl 10 false (((([] : List Node) ++ f1.Nodes) ++ [(⟨r3.Kind, n2.Name, n2.Is, n2.Data, n2.Attrs, r3.Parent, r3.Kids, r3.Host, r3.Under, c4⟩ : Node)]).map cNode), .v (.int .i64 f1.Most)])] rfl rfl rfl rfl (by kernel_rfl) (by kernel_rfl) (by kernel_rfl) ⟨rfl, trivial⟩ (fun w0 X X0 σ0 => by refine po_evs (T := tab) 1 rfl rfl ?_; refine po_nil ?_; exact pn_end0 ⟨rfl, trivial⟩ ⟨rfl, trivial⟩ rfl) ?_
          refine pdv_step0 [4] [128] [] [2] [] [(64, .loc 2 0)] [] rfl rfl rfl rfl (by kernel_rfl) (by kernel_rfl) (by kernel_rfl) trivial (fun w0 X X0 σ0 => by refine po_evs (T := tab) 1 rfl rfl ?_; refine po_nil ?_; exact pn_end0 ⟨rfl, trivial⟩ trivial rfl) ?_
          refine pdv_step0 [5, 128] [130] [] [2] [2] [(65, .sl 10 false (f1.Nodes.map cNode))] [(2, .box [.sl 10 false (f1.Nodes.map cNode), .v (.int .i64 f1.Most)])] rfl rfl rfl rfl (by kernel_rfl) (by kernel_rfl) (by kernel_rfl) ⟨rfl, trivial⟩ (fun w0 X X0 σ0 => by refine po_evs (T := tab) 1 rfl rfl ?_; refine po_nil ?_; exact pn_end0 ⟨rfl, trivial⟩ ⟨rfl, trivial⟩ rfl) ?_
          refine pdv_step0 [130] [132] [] [] [] [(66, .v (.int .i64 ((f1.Nodes.length : Nat) : Int)))] [] rfl rfl rfl rfl (by kernel_rfl) (by kernel_rfl) (by kernel_rfl) trivial (fun w0 X X0 σ0 => by refine po_len (T := tab) cNode f1.Nodes rfl rfl rfl rfl rfl rfl rfl rfl ?_; refine po_nil ?_; exact pn_end0 ⟨rfl, trivial⟩ trivial rfl) ?_
          refine pdv_step0 [8, 9, 126] [9] [] [4] [] [] [(4, .box [.sl 10 false (((([] : List Node) ++ f1.Nodes) ++ [(⟨r3.Kind, n2.Name, n2.Is, n2.Data, n2.Attrs, r3.Parent, r3.Kids, r3.Host, r3.Under, c4⟩ : Node)]).map cNode), .v (.int .i64 f1.Most)])] rfl rfl rfl rfl (by kernel_rfl) (by kernel_rfl) (by kernel_rfl) trivial (fun w0 X X0 σ0 => by refine po_store (T := tab) rfl rfl rfl rfl rfl rfl rfl rfl rfl rfl rfl rfl ?_; refine po_nil ?_; exact pn_end0 trivial ⟨rfl, trivial⟩ rfl) ?_
          refine pdv_step0 [132] [10] [] [] [] [(5, .v (.int .i64 ((f1.Nodes.length : Nat) : Int)))] [] rfl rfl rfl rfl (by kernel_rfl) (by kernel_rfl) (by kernel_rfl) trivial (fun w0 X X0 σ0 => by refine po_evs (T := tab) 1 rfl rfl ?_; refine po_nil ?_; exact pn_end0 ⟨rfl, trivial⟩ trivial rfl) ?_
          refine pdv_step0 [] [12] [] [] [] [(6, .v (.int .i64 0))] [] rfl rfl rfl rfl (by kernel_rfl) (by kernel_rfl) (by kernel_rfl) trivial (fun w0 X X0 σ0 => by refine po_evs (T := tab) 1 rfl rfl ?_; refine po_nil ?_; exact pn_end0 ⟨rfl, trivial⟩ trivial rfl) ?_
          refine pdv_nil rfl rfl ?_
          refine pn_seq ?_
          exact pw_retN (T := tab) rfl rfl rfl ⟨rfl, rfl⟩ trivial rfl
  · refine pw_cnd rfl ?_ ?_
    · refine pw_region ?_
      refine po_evs (T := tab) 2 rfl rfl ?_
      refine po_len (T := tab) cNode f1.Nodes rfl rfl rfl rfl rfl rfl rfl rfl ?_
      refine po_evs (T := tab) 1 rfl rfl ?_
      refine po_store (T := tab) rfl rfl rfl rfl rfl rfl rfl rfl rfl rfl rfl rfl ?_
      refine po_nil ?_
      exact pn_sub' (hj1 ((f1.Nodes.length : Nat) : Int)) ⟨rfl, rfl, rfl, rfl, trivial⟩ ⟨rfl, rfl, rfl, rfl, trivial⟩ rfl
    · refine pw_skip ?_
      exact pn_sub' (hj1 r3.Doc) ⟨rfl, rfl, rfl, rfl, trivial⟩ ⟨rfl, rfl, rfl, rfl, trivial⟩ rfl

def Instarref03_Root_m : Nat → Forest → Int → Option Int
  | 0, _, _ => none
  | fu + 1, f1, n2 => bnd (idx f1.Nodes n2) fun y3 => cnd (y3.Parent == (-1)) (some n2) (bnd (idx f1.Nodes n2) fun y4 => bnd ((Instarref03_Root_m fu) f1 y4.Parent) fun r5 => some r5)

set_option maxRecDepth 100000 in
theorem Instarref03_Root_ok : ∀ (fu : Nat) (f1 : Forest) (n2 : Int) r, Instarref03_Root_m fu f1 n2 = some r → DC Try.prog 28 [.agg (cForest f1), .v (.int .i64 n2)] (.v (.int .i64 r))
  | 0, _, _, _, h => by cases h
  | fu + 1, f1, n2, r, hr => by
    have ih := Instarref03_Root_ok fu
    refine fc_intro (args := [.agg (cForest f1), .v (.int .i64 n2)]) (S := []) (N0 := []) (post := fun r p S => p = .v (.int .i64 r) ∧ S = []) Try.func28 rfl rfl hr fun w0 X X0 σ0 => ?_
    refine pw_seq ?_
    refine pw_region ?_
    refine po_box  2 rfl rfl rfl rfl rfl rfl rfl rfl rfl rfl ?_
    refine po_evs (T := tab) 1 rfl rfl ?_
    refine po_nil ?_
    refine pn_seq ?_
    refine pw_seq ?_
    refine pw_seq ?_
    refine pw_region ?_
    refine po_evs (T := tab) 3 rfl rfl ?_
    refine po_idx (T := tab) cNode f1.Nodes rfl rfl rfl rfl rfl rfl rfl fun y3 hy3 => ?_
    refine po_evs (T := tab) 3 rfl rfl ?_
    refine po_nil ?_
    refine pn_seq ?_
    refine pw_cnd rfl ?_ ?_
    · refine pw_seq ?_
      refine pw_region ?_
      refine po_evs (T := tab) 2 rfl rfl ?_
      refine po_nil ?_
      refine pn_seq ?_
      exact pw_retN (T := tab) rfl rfl rfl ⟨rfl, rfl⟩ trivial rfl
    · refine pw_skip ?_
      refine pn_seq ?_
      refine pw_seq ?_
      refine pw_draw mixed (by kernel_rfl) ?_
      refine pd_evs (T := tab) 4 rfl rfl ?_
      refine pd_idx (T := tab) cNode f1.Nodes rfl rfl rfl rfl rfl rfl rfl fun y4 hy4 => ?_
      refine pd_evs (T := tab) 2 rfl rfl ?_
      refine pd_call (enc := fun (r5 : Int) => .v (.int .i64 r5)) (qs := [.agg (cForest f1), .v (.int .i64 y4.Parent)]) (ih f1 y4.Parent) rfl rfl ⟨⟨_, rfl, .rfl⟩, ⟨_, rfl, .rfl⟩, trivial⟩ (fun _ => rfl) call28 rfl rfl fun r5 hr5 => ?_
      refine pd_evs (T := tab) 1 rfl rfl ?_
      refine pd_nil ?_
      refine pn_seq ?_
      exact pw_retN (T := tab) rfl rfl rfl ⟨rfl, rfl⟩ trivial rfl

def Instarref03_Order_l1 (sf : Forest → Int → Option (List Int)) (f1 : Forest) (n2 : Int) : Nat → Int × (List Int) → Option (List Int)
  | 0, _ => none
  | k1 + 1, (i3, l4) => bnd (idx f1.Nodes n2) fun y5 => cnd (decide (i3 < ((y5.Kids.length : Nat) : Int))) (bnd (idx f1.Nodes n2) fun y6 => bnd (idx y6.Kids i3) fun y7 => bnd (sf f1 y7) fun r8 => bnd (roomy 8 (l4.length + r8.length)) fun _ => bnd (rng .i64 (i3 + 1)) fun i9 => (Instarref03_Order_l1 sf f1 n2 k1) (i9, (l4 ++ r8))) (some l4)

def Instarref03_Order_m : Nat → Forest → Int → Option (List Int)
  | 0, _, _ => none
  | fu + 1, f1, n2 => (Instarref03_Order_l1 (Instarref03_Order_m fu) f1 n2) fu (0, [n2])

set_option maxHeartbeats 10000000 in
set_option maxRecDepth 100000 in
theorem Instarref03_Order_ok : ∀ (fu : Nat) (f1 : Forest) (n2 : Int) r, Instarref03_Order_m fu f1 n2 = some r → DC Try.prog 30 [.agg (cForest f1), .v (.int .i64 n2)] (.sl 1 false (r.map cInt_i64))
  | 0, _, _, _, h => by cases h
  | fu + 1, f1, n2, r, hr => by
    have ih := Instarref03_Order_ok fu
    refine fc_intro (args := [.agg (cForest f1), .v (.int .i64 n2)]) (S := []) (N0 := []) (post := fun r p S => p = .sl 1 false (r.map cInt_i64) ∧ S = []) Try.func30 rfl rfl hr fun w0 X X0 σ0 => ?_
    refine pw_seq ?_
    refine pw_region ?_
    refine po_box  2 rfl rfl rfl rfl rfl rfl rfl rfl rfl rfl ?_
    refine po_evs (T := tab) 1 rfl rfl ?_
    refine po_nil ?_
    refine pn_seq ?_
    refine pw_seq ?_
    refine pw_region ?_
    refine po_evs (T := tab) 1 rfl rfl ?_
    refine po_lit (T := tab) (rows := [n2].map cInt_i64) 8 rfl rfl rfl rfl rfl rfl rfl rfl rfl rfl rfl rfl rfl rfl ?_
    refine po_evs (T := tab) 1 rfl rfl ?_
    refine po_nil ?_
    refine pn_seq ?_
    refine pw_seq ?_
    refine pw_seq ?_
    refine pw_region ?_
    refine po_evs (T := tab) 1 rfl rfl ?_
    refine po_nil ?_
    refine pn_seq ?_
    refine pw_block ?_
    refine pw_loop' (Instarref03_Order_l1 (Instarref03_Order_m fu) f1 n2) (fun ((i3, l4) : Int × (List Int)) => [(1, .v (.int .i64 n2)), (2, .loc 2 0), (5, .own 8), (6, .v (.int .i64 i3))]) (fun ((i3, l4) : Int × (List Int)) => [(8, .arr 3 1 (l4.map cInt_i64)), (2, .box [.sl 10 false (f1.Nodes.map cNode), .v (.int .i64 f1.Most)])]) fu (0, [n2]) (fun _ => rfl) ⟨rfl, rfl, rfl, rfl, trivial⟩ ⟨rfl, rfl, trivial⟩ rfl ?_
    rintro k1 ⟨i3, l4⟩
    refine pw_seq ?_
    refine pw_seq ?_
    refine pw_region ?_
    refine po_evs (T := tab) 4 rfl rfl ?_
    refine po_idx (T := tab) cNode f1.Nodes rfl rfl rfl rfl rfl rfl rfl fun y5 hy5 => ?_
    refine po_evs (T := tab) 2 rfl rfl ?_
    refine po_len (T := tab) cInt_i64 y5.Kids rfl rfl rfl rfl rfl rfl rfl rfl ?_
    refine po_evs (T := tab) 1 rfl rfl ?_
    refine po_nil ?_
    refine pn_seq ?_
    refine pw_cnd rfl ?_ ?_
    · refine pw_skip ?_
      refine pn_seq ?_
      refine pw_seq ?_
      refine pw_block ?_
      refine pw_sub' (E' := [(1, .v (.int .i64 n2)), (2, .loc 2 0), (5, .own 8), (6, .v (.int .i64 i3))]) (S' := [(8, .arr 3 1 (l4.map cInt_i64)), (2, .box [.sl 10 false (f1.Nodes.map cNode), .v (.int .i64 f1.Most)])]) ?_ ⟨rfl, rfl, rfl, rfl, trivial⟩ ⟨rfl, rfl, trivial⟩ rfl
      refine pw_drawV [0, 0, 0, 4, 0, 28, 60, 124, 0, 508, 1020, 2046, 4095, 8191] mixed (by kernel_rfl) (by kernel_rfl) rfl rfl ?_
      refine pdv_step0 [10] [40] [] [8] [] [(20, .own 8)] [] rfl rfl rfl rfl (by kernel_rfl) (by kernel_rfl) (by kernel_rfl) trivial (fun w0 X X0 σ0 => by refine po_evs (T := tab) 1 rfl rfl ?_; refine po_nil ?_; exact pn_end0 ⟨rfl, trivial⟩ trivial rfl) ?_
      refine pdv_step0 [4, 5] [42] [] [2] [2] [(21, .agg (cForest f1))] [(2, .box [.sl 10 false (f1.Nodes.map cNode), .v (.int .i64 f1.Most)])] rfl rfl rfl rfl (by kernel_rfl) (by kernel_rfl) (by kernel_rfl) ⟨rfl, trivial⟩ (fun w0 X X0 σ0 => by refine po_evs (T := tab) 1 rfl rfl ?_; refine po_nil ?_; exact pn_end0 ⟨rfl, trivial⟩ ⟨rfl, trivial⟩ rfl) ?_
      refine pdv_step0 [4] [44] [] [2] [] [(22, .loc 2 0)] [] rfl rfl rfl rfl (by kernel_rfl) (by kernel_rfl) (by kernel_rfl) trivial (fun w0 X X0 σ0 => by refine po_evs (T := tab) 1 rfl rfl ?_; refine po_nil ?_; exact pn_end0 ⟨rfl, trivial⟩ trivial rfl) ?_
      refine pdv_step0 [5, 44] [46] [] [2] [2] [(23, .sl 10 false (f1.Nodes.map cNode))] [(2, .box [.sl 10 false (f1.Nodes.map cNode), .v (.int .i64 f1.Most)])] rfl rfl rfl rfl (by kernel_rfl) (by kernel_rfl) (by kernel_rfl) ⟨rfl, trivial⟩ (fun w0 X X0 σ0 => by refine po_evs (T := tab) 1 rfl rfl ?_; refine po_nil ?_; exact pn_end0 ⟨rfl, trivial⟩ ⟨rfl, trivial⟩ rfl) ?_
      refine pdv_step0 [2] [48] [] [] [] [(24, .v (.int .i64 n2))] [] rfl rfl rfl rfl (by kernel_rfl) (by kernel_rfl) (by kernel_rfl) trivial (fun w0 X X0 σ0 => by refine po_evs (T := tab) 1 rfl rfl ?_; refine po_nil ?_; exact pn_end0 ⟨rfl, trivial⟩ trivial rfl) ?_
      refine pdv_step (M := (idx f1.Nodes n2)) (ment := [(50, [])]) [46, 48] [50] [] [] [] (fun y6 => [(25, .el (cNode y6) 0)]) (fun y6 => []) rfl rfl (fun _ => rfl) (fun _ => rfl) (by kernel_rfl) (by kernel_rfl) (fun _ => by kernel_rfl) (fun _ => trivial) (fun w0 X X0 σ0 => by refine po_idx (T := tab) cNode f1.Nodes rfl rfl rfl rfl rfl rfl rfl fun y6 hy6 => ?_; refine po_nil ?_; exact pn_end ⟨rfl, trivial⟩ trivial rfl) fun y6 hy6 => ?_
      refine pdv_step0 [50] [52] [] [] [] [(26, .el (cNode y6) 6)] [] rfl rfl rfl rfl (by kernel_rfl) (by kernel_rfl) (by kernel_rfl) trivial (fun w0 X X0 σ0 => by refine po_evs (T := tab) 1 rfl rfl ?_; refine po_nil ?_; exact pn_end0 ⟨rfl, trivial⟩ trivial rfl) ?_
      refine pdv_step0 [52] [54] [] [] [] [(27, .sl 1 false (y6.Kids.map cInt_i64))] [] rfl rfl rfl rfl (by kernel_rfl) (by kernel_rfl) (by kernel_rfl) trivial (fun w0 X X0 σ0 => by refine po_evs (T := tab) 1 rfl rfl ?_; refine po_nil ?_; exact pn_end0 ⟨rfl, trivial⟩ trivial rfl) ?_
      refine pdv_step0 [12] [56] [] [] [] [(28, .v (.int .i64 i3))] [] rfl rfl rfl rfl (by kernel_rfl) (by kernel_rfl) (by kernel_rfl) trivial (fun w0 X X0 σ0 => by refine po_evs (T := tab) 1 rfl rfl ?_; refine po_nil ?_; exact pn_end0 ⟨rfl, trivial⟩ trivial rfl) ?_
      refine pdv_step (M := (idx y6.Kids i3)) (ment := [(58, [])]) [54, 56] [58] [] [] [] (fun y7 => [(29, .el (cInt_i64 y7) 0)]) (fun y7 => []) rfl rfl (fun _ => rfl) (fun _ => rfl) (by kernel_rfl) (by kernel_rfl) (fun _ => by kernel_rfl) (fun _ => trivial) (fun w0 X X0 σ0 => by refine po_idx (T := tab) cInt_i64 y6.Kids rfl rfl rfl rfl rfl rfl rfl fun y7 hy7 => ?_; refine po_nil ?_; exact pn_end ⟨rfl, trivial⟩ trivial rfl) fun y7 hy7 => ?_
      refine pdv_step0 [58] [60] [] [] [] [(30, .v (.int .i64 y7))] [] rfl rfl rfl rfl (by kernel_rfl) (by kernel_rfl) (by kernel_rfl) trivial (fun w0 X X0 σ0 => by refine po_evs (T := tab) 1 rfl rfl ?_; refine po_nil ?_; exact pn_end0 ⟨rfl, trivial⟩ trivial rfl) ?_
      refine pdv_step (M := ((Instarref03_Order_m fu) f1 y7)) (ment := [(62, [])]) [42, 60] [62] [] [] [] (fun r8 => [(31, .sl 1 false (r8.map cInt_i64))]) (fun r8 => []) rfl rfl (fun _ => rfl) (fun _ => rfl) (by kernel_rfl) (by kernel_rfl) (fun _ => by kernel_rfl) (fun _ => trivial) (fun w0 X X0 σ0 => by refine po_call (enc := fun (r8 : (List Int)) => .sl 1 false (r8.map cInt_i64)) (qs := [.agg (cForest f1), .v (.int .i64 y7)]) (ih f1 y7) rfl rfl ⟨⟨_, rfl, .rfl⟩, ⟨_, rfl, .rfl⟩, trivial⟩ (fun _ => rfl) call30 rfl rfl fun r8 hr8 => ?_; refine po_nil ?_; exact pn_end ⟨rfl, trivial⟩ trivial rfl) fun r8 hr8 => ?_
      refine pdv_step (M := (roomy 8 (l4.length + r8.length))) (ment := [(64, [8]), (10, []), (40, []), (17, [])]) [10, 17, 40, 62] [64, 10, 40, 17] [8] [] [] (fun _ => [(32, .own 8)]) (fun _ => [(8, .arr 3 1 ((l4 ++ r8).map cInt_i64))]) rfl rfl (fun _ => rfl) (fun _ => rfl) (by kernel_rfl) (by kernel_rfl) (fun _ => by kernel_rfl) (fun _ => trivial) (fun w0 X X0 σ0 => by refine po_append (T := tab) cInt_i64 l4 r8 rfl rfl rfl rfl rfl rfl rfl rfl rfl rfl rfl rfl rfl rfl (cInt_i64_one _) rfl rfl rfl rfl rfl ?_; refine po_nil ?_; exact pn_end ⟨rfl, trivial⟩ ⟨rfl, trivial⟩ rfl) fun _ h0 => ?_
      refine pdv_step0 [64] [10] [] [8] [] [(5, .own 8)] [] rfl rfl rfl rfl (by kernel_rfl) (by kernel_rfl) (by kernel_rfl) trivial (fun w0 X X0 σ0 => by refine po_evs (T := tab) 1 rfl rfl ?_; refine po_nil ?_; exact pn_end0 ⟨rfl, trivial⟩ trivial rfl) ?_
      refine pdv_nil rfl rfl ?_
      refine pn_block ?_
      refine pn_seq ?_
      refine pw_region ?_
      refine po_evs (T := tab) 1 rfl rfl ?_
      refine po_arith' (T := tab) rfl rfl rfl rfl fun i9 hi9 => ?_
      refine po_evs (T := tab) 1 rfl rfl ?_
      refine po_nil ?_
      exact pn_iter' (i9, (l4 ++ r8)) ⟨rfl, rfl, rfl, rfl, trivial⟩ ⟨rfl, rfl, trivial⟩ rfl
    · refine pw_exit rfl ?_
      refine pn_seq ?_
      refine pw_seq ?_
      refine pw_region ?_
      refine po_evs (T := tab) 2 rfl rfl ?_
      refine po_nil ?_
      refine pn_seq ?_
      refine pw_freeze 8 rfl rfl rfl ?_
      exact pw_retN (T := tab) rfl rfl rfl ⟨rfl, rfl⟩ trivial rfl

def Instarref03_Find_l1 (l1 : (List Int)) (n2 : Int) : Nat → Int → Option Int
  | 0, _ => none
  | k1 + 1, i3 => cnd (decide (i3 < ((l1.length : Nat) : Int))) (bnd (idx l1 i3) fun y4 => cnd (y4 == n2) (some i3) (bnd (rng .i64 (i3 + 1)) fun i5 => (Instarref03_Find_l1 l1 n2 k1) i5)) (some (-1))

def Instarref03_Find_m (fu : Nat) (l1 : (List Int)) (n2 : Int) : Option Int := (Instarref03_Find_l1 l1 n2) fu 0

set_option maxHeartbeats 10000000 in
set_option maxRecDepth 100000 in
theorem Instarref03_Find_ok (fu : Nat) (l1 : (List Int)) (n2 : Int) : ∀ r, Instarref03_Find_m fu l1 n2 = some r → DC Try.prog 35 [.sl 1 false (l1.map cInt_i64), .v (.int .i64 n2)] (.v (.int .i64 r)) := by
  intro r hr
  refine fc_intro (args := [.sl 1 false (l1.map cInt_i64), .v (.int .i64 n2)]) (S := []) (N0 := []) (post := fun r p S => p = .v (.int .i64 r) ∧ S = []) Try.func35 rfl rfl hr fun w0 X X0 σ0 => ?_
  refine pw_seq ?_
  refine pw_region ?_
  refine po_evs (T := tab) 1 rfl rfl ?_
  refine po_nil ?_
  refine pn_seq ?_
  refine pw_seq ?_
  refine pw_seq ?_
  refine pw_region ?_
  refine po_evs (T := tab) 1 rfl rfl ?_
  refine po_nil ?_
  refine pn_seq ?_
  refine pw_block ?_
  refine pw_loop' (Instarref03_Find_l1 l1 n2) (fun (i3 : Int) => [(0, .sl 1 false (l1.map cInt_i64)), (1, .v (.int .i64 n2)), (5, .v (.int .i64 i3))]) (fun (i3 : Int) => []) fu 0 (fun _ => rfl) ⟨rfl, rfl, rfl, trivial⟩ trivial rfl ?_
  rintro k1 i3
  refine pw_seq ?_
  refine pw_seq ?_
  refine pw_region ?_
  refine po_evs (T := tab) 2 rfl rfl ?_
  refine po_len (T := tab) cInt_i64 l1 rfl rfl rfl rfl rfl rfl rfl rfl ?_
  refine po_evs (T := tab) 1 rfl rfl ?_
  refine po_nil ?_
  refine pn_seq ?_
  refine pw_cnd rfl ?_ ?_
  · refine pw_skip ?_
    refine pn_seq ?_
    refine pw_seq ?_
    refine pw_block ?_
    refine pw_seq ?_
    refine pw_region ?_
    refine po_evs (T := tab) 2 rfl rfl ?_
    refine po_idx (T := tab) cInt_i64 l1 rfl rfl rfl rfl rfl rfl rfl fun y4 hy4 => ?_
    refine po_evs (T := tab) 3 rfl rfl ?_
    refine po_nil ?_
    refine pn_seq ?_
    refine pw_cnd rfl ?_ ?_
    · refine pw_seq ?_
      refine pw_region ?_
      refine po_evs (T := tab) 2 rfl rfl ?_
      refine po_nil ?_
      refine pn_seq ?_
      exact pw_retN (T := tab) rfl rfl rfl ⟨rfl, rfl⟩ trivial rfl
    · refine pw_skip ?_
      refine pn_block ?_
      refine pn_seq ?_
      refine pw_region ?_
      refine po_evs (T := tab) 1 rfl rfl ?_
      refine po_arith' (T := tab) rfl rfl rfl rfl fun i5 hi5 => ?_
      refine po_evs (T := tab) 1 rfl rfl ?_
      refine po_nil ?_
      exact pn_iter' i5 ⟨rfl, rfl, rfl, trivial⟩ trivial rfl
  · refine pw_exit rfl ?_
    refine pn_seq ?_
    refine pw_seq ?_
    refine pw_region ?_
    refine po_evs (T := tab) 1 rfl rfl ?_
    refine po_nil ?_
    refine pn_seq ?_
    exact pw_retN (T := tab) rfl rfl rfl ⟨rfl, rfl⟩ trivial rfl

def Instarref03_Place_m (fu : Nat) (f1 : Forest) (n2 : Int) : Option Int := bnd (idx f1.Nodes n2) fun y3 => cnd (y3.Parent == (-1)) (some (-1)) (bnd (idx f1.Nodes n2) fun y4 => bnd (idx f1.Nodes y4.Parent) fun y5 => bnd (Instarref03_Find_m fu y5.Kids n2) fun r6 => some r6)

set_option maxRecDepth 100000 in
theorem Instarref03_Place_ok (fu : Nat) (f1 : Forest) (n2 : Int) : ∀ r, Instarref03_Place_m fu f1 n2 = some r → DC Try.prog 31 [.agg (cForest f1), .v (.int .i64 n2)] (.v (.int .i64 r)) := by
  intro r hr
  refine fc_intro (args := [.agg (cForest f1), .v (.int .i64 n2)]) (S := []) (N0 := []) (post := fun r p S => p = .v (.int .i64 r) ∧ S = []) Try.func31 rfl rfl hr fun w0 X X0 σ0 => ?_
  refine pw_seq ?_
  refine pw_region ?_
  refine po_box  2 rfl rfl rfl rfl rfl rfl rfl rfl rfl rfl ?_
  refine po_evs (T := tab) 1 rfl rfl ?_
  refine po_nil ?_
  refine pn_seq ?_
  refine pw_seq ?_
  refine pw_seq ?_
  refine pw_region ?_
  refine po_evs (T := tab) 3 rfl rfl ?_
  refine po_idx (T := tab) cNode f1.Nodes rfl rfl rfl rfl rfl rfl rfl fun y3 hy3 => ?_
  refine po_evs (T := tab) 3 rfl rfl ?_
  refine po_nil ?_
  refine pn_seq ?_
  refine pw_cnd rfl ?_ ?_
  · refine pw_seq ?_
    refine pw_region ?_
    refine po_evs (T := tab) 1 rfl rfl ?_
    refine po_nil ?_
    refine pn_seq ?_
    exact pw_retN (T := tab) rfl rfl rfl ⟨rfl, rfl⟩ trivial rfl
  · refine pw_skip ?_
    refine pn_seq ?_
    refine pw_seq ?_
    refine pw_draw mixed (by kernel_rfl) ?_
    refine pd_evs (T := tab) 5 rfl rfl ?_
    refine pd_idx (T := tab) cNode f1.Nodes rfl rfl rfl rfl rfl rfl rfl fun y4 hy4 => ?_
    refine pd_evs (T := tab) 2 rfl rfl ?_
    refine pd_idx (T := tab) cNode f1.Nodes rfl rfl rfl rfl rfl rfl rfl fun y5 hy5 => ?_
    refine pd_evs (T := tab) 3 rfl rfl ?_
    refine pd_call (enc := fun (r6 : Int) => .v (.int .i64 r6)) (qs := [.sl 1 false (y5.Kids.map cInt_i64), .v (.int .i64 n2)]) (Instarref03_Find_ok fu y5.Kids n2) rfl rfl ⟨⟨_, rfl, .rfl⟩, ⟨_, rfl, .rfl⟩, trivial⟩ (fun _ => rfl) call35 rfl rfl fun r6 hr6 => ?_
    refine pd_evs (T := tab) 1 rfl rfl ?_
    refine pd_nil ?_
    refine pn_seq ?_
    exact pw_retN (T := tab) rfl rfl rfl ⟨rfl, rfl⟩ trivial rfl

def Instarref03_Holds_m (fu : Nat) (f1 : Forest) (a2 : Int) (b3 : Int) : Option Bool := bnd (Instarref03_Order_m fu f1 a2) fun r4 => bnd (Instarref03_Has_m fu r4 b3) fun r5 => some (decide (r5 > 0))

set_option maxRecDepth 100000 in
theorem Instarref03_Holds_ok (fu : Nat) (f1 : Forest) (a2 : Int) (b3 : Int) : ∀ r, Instarref03_Holds_m fu f1 a2 b3 = some r → DC Try.prog 32 [.agg (cForest f1), .v (.int .i64 a2), .v (.int .i64 b3)] (.v (.bool r)) := by
  intro r hr
  refine fc_intro (args := [.agg (cForest f1), .v (.int .i64 a2), .v (.int .i64 b3)]) (S := []) (N0 := []) (post := fun r p S => p = .v (.bool r) ∧ S = []) Try.func32 rfl rfl hr fun w0 X X0 σ0 => ?_
  refine pw_seq ?_
  refine pw_region ?_
  refine po_box  3 rfl rfl rfl rfl rfl rfl rfl rfl rfl rfl ?_
  refine po_evs (T := tab) 1 rfl rfl ?_
  refine po_nil ?_
  refine pn_seq ?_
  refine pw_seq ?_
  refine pw_region ?_
  refine po_evs (T := tab) 2 rfl rfl ?_
  refine po_call (enc := fun (r4 : (List Int)) => .sl 1 false (r4.map cInt_i64)) (qs := [.agg (cForest f1), .v (.int .i64 a2)]) (Instarref03_Order_ok fu f1 a2) rfl rfl ⟨⟨_, rfl, .rfl⟩, ⟨_, rfl, .rfl⟩, trivial⟩ (fun _ => rfl) call30 rfl rfl fun r4 hr4 => ?_
  refine po_evs (T := tab) 1 rfl rfl ?_
  refine po_call (enc := fun (r5 : Int) => .v (.int .i64 r5)) (qs := [.sl 1 false (r4.map cInt_i64), .v (.int .i64 b3)]) (Instarref03_Has_ok fu r4 b3) rfl rfl ⟨⟨_, rfl, .rfl⟩, ⟨_, rfl, .rfl⟩, trivial⟩ (fun _ => rfl) call34 rfl rfl fun r5 hr5 => ?_
  refine po_evs (T := tab) 2 rfl rfl ?_
  refine po_nil ?_
  refine pn_seq ?_
  exact pw_retN (T := tab) rfl rfl rfl ⟨rfl, rfl⟩ trivial rfl

def Instarref03_Ahead_m (fu : Nat) (f1 : Forest) (a2 : Int) (b3 : Int) : Option Bool := bnd (Instarref03_Root_m fu f1 a2) fun r4 => bnd (Instarref03_Order_m fu f1 r4) fun r5 => bnd (Instarref03_Find_m fu r5 b3) fun r6 => bnd (Instarref03_Find_m fu r5 a2) fun r7 => some (decide (r6 > r7))

set_option maxRecDepth 100000 in
theorem Instarref03_Ahead_ok (fu : Nat) (f1 : Forest) (a2 : Int) (b3 : Int) : ∀ r, Instarref03_Ahead_m fu f1 a2 b3 = some r → DC Try.prog 33 [.agg (cForest f1), .v (.int .i64 a2), .v (.int .i64 b3)] (.v (.bool r)) := by
  intro r hr
  refine fc_intro (args := [.agg (cForest f1), .v (.int .i64 a2), .v (.int .i64 b3)]) (S := []) (N0 := []) (post := fun r p S => p = .v (.bool r) ∧ S = []) Try.func33 rfl rfl hr fun w0 X X0 σ0 => ?_
  refine pw_seq ?_
  refine pw_region ?_
  refine po_box  3 rfl rfl rfl rfl rfl rfl rfl rfl rfl rfl ?_
  refine po_evs (T := tab) 1 rfl rfl ?_
  refine po_nil ?_
  refine pn_seq ?_
  refine pw_seq ?_
  refine pw_draw mixed (by kernel_rfl) ?_
  refine pd_evs (T := tab) 3 rfl rfl ?_
  refine pd_call (enc := fun (r4 : Int) => .v (.int .i64 r4)) (qs := [.agg (cForest f1), .v (.int .i64 a2)]) (Instarref03_Root_ok fu f1 a2) rfl rfl ⟨⟨_, rfl, .rfl⟩, ⟨_, rfl, .rfl⟩, trivial⟩ (fun _ => rfl) call28 rfl rfl fun r4 hr4 => ?_
  refine pd_call (enc := fun (r5 : (List Int)) => .sl 1 false (r5.map cInt_i64)) (qs := [.agg (cForest f1), .v (.int .i64 r4)]) (Instarref03_Order_ok fu f1 r4) rfl rfl ⟨⟨_, rfl, .rfl⟩, ⟨_, rfl, .rfl⟩, trivial⟩ (fun _ => rfl) call30 rfl rfl fun r5 hr5 => ?_
  refine pd_evs (T := tab) 1 rfl rfl ?_
  refine pd_nil ?_
  refine pn_seq ?_
  refine pw_seq ?_
  refine pw_region ?_
  refine po_evs (T := tab) 2 rfl rfl ?_
  refine po_call (enc := fun (r6 : Int) => .v (.int .i64 r6)) (qs := [.sl 1 false (r5.map cInt_i64), .v (.int .i64 b3)]) (Instarref03_Find_ok fu r5 b3) rfl rfl ⟨⟨_, rfl, .rfl⟩, ⟨_, rfl, .rfl⟩, trivial⟩ (fun _ => rfl) call35 rfl rfl fun r6 hr6 => ?_
  refine po_evs (T := tab) 2 rfl rfl ?_
  refine po_call (enc := fun (r7 : Int) => .v (.int .i64 r7)) (qs := [.sl 1 false (r5.map cInt_i64), .v (.int .i64 a2)]) (Instarref03_Find_ok fu r5 a2) rfl rfl ⟨⟨_, rfl, .rfl⟩, ⟨_, rfl, .rfl⟩, trivial⟩ (fun _ => rfl) call35 rfl rfl fun r7 hr7 => ?_
  refine po_evs (T := tab) 2 rfl rfl ?_
  refine po_nil ?_
  refine pn_seq ?_
  exact pw_retN (T := tab) rfl rfl rfl ⟨rfl, rfl⟩ trivial rfl

def Instarlaw03_ForestRight_j2 (fu : Nat) (f1 : Forest) (a4 : Int) (b5 : Int) (x_ : Unit) : Option Bool := bnd (Forest_Root_m fu f1 a4) fun r28 => cnd (r28 == (-1)) (bnd (Forest_Order_m fu f1 a4) fun r29 => cnd (((r29.length : Nat) : Int) == 0) (bnd (Forest_Holds_m fu f1 a4 b5) fun r30 => cnd (!r30) (bnd (Forest_Holds_m fu f1 b5 a4) fun r31 => cnd (!r31) (bnd (Forest_Place_m fu f1 a4) fun r32 => cnd (r32 == (-1)) (bnd (Forest_Ahead_m fu f1 a4 b5) fun r33 => some (!r33)) (some false)) (some false)) (some false)) (some false)) (some false)

def Instarlaw03_ForestRight_j3 (fu : Nat) (f1 : Forest) (a4 : Int) (b5 : Int) (x_ : Unit) : Option Bool := bnd (Forest_Holds_m fu f1 a4 b5) fun r41 => cnd (!r41) (bnd (Forest_Ahead_m fu f1 a4 b5) fun r42 => some (!r42)) (some false)

def Instarlaw03_ForestRight_j1 (fu : Nat) (f1 : Forest) (x2 : Node) (a4 : Int) (b5 : Int) (r8 : Bool) (r10 : (Forest × Int × Int)) (x_ : Unit) : Option Bool := cnd (!r8) (cnd (r10.2.2 == 1) (cnd (r10.2.1 == (-1)) (bnd (Instarref03_Same_m fu r10.1 f1) fun r20 => cnd r20 (bnd (Forest_Root_m fu f1 a4) fun r21 => cnd (r21 == (-1)) (bnd (Forest_Order_m fu f1 a4) fun r22 => cnd (((r22.length : Nat) : Int) == 0) (bnd (Forest_Holds_m fu f1 a4 b5) fun r23 => cnd (!r23) (bnd (Forest_Place_m fu f1 a4) fun r24 => cnd (r24 == (-1)) (bnd (Forest_Ahead_m fu f1 a4 b5) fun r25 => some (!r25)) (some false)) (some false)) (some false)) (some false)) (some false)) (some false)) (some false)) (bnd (Instarref03_Make_m fu f1 x2) fun r26 => bnd (Instarref03_Same_m fu r10.1 r26.1) fun r27 => cnd (!r27) (some false) (cnd (r10.2.1 != r26.2.1) (some false) (cnd (r10.2.2 != r26.2.2) (some false) (cnd (decide (a4 < 0)) ((Instarlaw03_ForestRight_j2 fu f1 a4 b5) ()) (cnd (decide (a4 ≥ ((f1.Nodes.length : Nat) : Int))) ((Instarlaw03_ForestRight_j2 fu f1 a4 b5) ()) (bnd (Forest_Root_m fu f1 a4) fun r34 => bnd (Instarref03_Root_m fu f1 a4) fun r35 => cnd (r34 != r35) (some false) (bnd (Forest_Order_m fu f1 a4) fun r36 => bnd (Instarref03_Order_m fu f1 a4) fun r37 => bnd (Instarref03_Ints_m fu r36 r37) fun r38 => cnd (!r38) (some false) (bnd (Forest_Place_m fu f1 a4) fun r39 => bnd (Instarref03_Place_m fu f1 a4) fun r40 => cnd (r39 != r40) (some false) (cnd (decide (b5 < 0)) ((Instarlaw03_ForestRight_j3 fu f1 a4 b5) ()) (cnd (decide (b5 ≥ ((f1.Nodes.length : Nat) : Int))) ((Instarlaw03_ForestRight_j3 fu f1 a4 b5) ()) (bnd (Forest_Holds_m fu f1 a4 b5) fun r43 => bnd (Instarref03_Holds_m fu f1 a4 b5) fun r44 => cnd (r43 == r44) (bnd (Forest_Ahead_m fu f1 a4 b5) fun r45 => bnd (Instarref03_Root_m fu f1 a4) fun r46 => bnd (Instarref03_Root_m fu f1 b5) fun r47 => cnd (r46 == r47) (bnd (Instarref03_Ahead_m fu f1 a4 b5) fun r48 => some (r45 == r48)) (some (r45 == false))) (some false))))))))))))

def Instarlaw03_ForestRight_m (fu : Nat) (f1 : Forest) (x2 : Node) (most3 : Int) (a4 : Int) (b5 : Int) : Option Bool := bnd (Instarlaw03_awake_m fu) fun r6 => cnd (!r6) (some false) (bnd (Instarref03_Short_m fu f1) fun r7 => cnd (!r7) (some true) (cnd (decide (((x2.Attrs.length : Nat) : Int) > 60)) (some true) (cnd (decide (((x2.Name.length : Nat) : Int) > 300)) (some true) (bnd (Instarref03_Right_m fu f1) fun r8 => bnd (Forest_New_m fu most3) fun r9 => bnd (Forest_Make_m fu f1 x2) fun r10 => bnd (Forest_Right_m fu f1) fun r11 => cnd (!(r11 == r8)) (some false) (cnd (decide (most3 ≥ 1)) (cnd (!((r9.2 == 0) == (decide (most3 ≤ 400)))) (some false) (cnd (r9.2 == 0) (bnd (Instarref03_New_m fu most3) fun r12 => bnd (Instarref03_Same_m fu r9.1 r12) fun r13 => cnd (!r13) (some false) (cnd (r9.2 != 0) (cnd (r9.2 != 1) (some false) (bnd (Instarref03_Same_m fu r9.1 (⟨[], 0⟩ : Forest)) fun r14 => cnd (!r14) (some false) ((Instarlaw03_ForestRight_j1 fu f1 x2 a4 b5 r8 r10) ()))) ((Instarlaw03_ForestRight_j1 fu f1 x2 a4 b5 r8 r10) ()))) (cnd (r9.2 != 0) (cnd (r9.2 != 1) (some false) (bnd (Instarref03_Same_m fu r9.1 (⟨[], 0⟩ : Forest)) fun r15 => cnd (!r15) (some false) ((Instarlaw03_ForestRight_j1 fu f1 x2 a4 b5 r8 r10) ()))) ((Instarlaw03_ForestRight_j1 fu f1 x2 a4 b5 r8 r10) ())))) (cnd (!((r9.2 == 0) == false)) (some false) (cnd (r9.2 == 0) (bnd (Instarref03_New_m fu most3) fun r16 => bnd (Instarref03_Same_m fu r9.1 r16) fun r17 => cnd (!r17) (some false) (cnd (r9.2 != 0) (cnd (r9.2 != 1) (some false) (bnd (Instarref03_Same_m fu r9.1 (⟨[], 0⟩ : Forest)) fun r18 => cnd (!r18) (some false) ((Instarlaw03_ForestRight_j1 fu f1 x2 a4 b5 r8 r10) ()))) ((Instarlaw03_ForestRight_j1 fu f1 x2 a4 b5 r8 r10) ()))) (cnd (r9.2 != 0) (cnd (r9.2 != 1) (some false) (bnd (Instarref03_Same_m fu r9.1 (⟨[], 0⟩ : Forest)) fun r19 => cnd (!r19) (some false) ((Instarlaw03_ForestRight_j1 fu f1 x2 a4 b5 r8 r10) ()))) ((Instarlaw03_ForestRight_j1 fu f1 x2 a4 b5 r8 r10) ())))))))))

end Go.Proofs.Ytcaepigodglihaa
