/- Models and proofs, printed by emit2.py. -/
import Derived.Test.YtcaepigodglihaaG2
namespace Go.Proofs.Ytcaepigodglihaa
open Go Go.Pw
set_option linter.unusedVariables false

set_option maxHeartbeats 10000000 in
set_option maxRecDepth 100000 in
theorem Instarlaw03_ForestRight_ok (fu : Nat) (f1 : Forest) (x2 : Node) (most3 : Int) (a4 : Int) (b5 : Int) : ∀ r, Instarlaw03_ForestRight_m fu f1 x2 most3 a4 b5 = some r → DC Try.prog 3 [.agg (cForest f1), .agg (cNode x2), .v (.int .i64 most3), .v (.int .i64 a4), .v (.int .i64 b5)] (.v (.bool r)) := by
  intro r hr
  refine fc_intro (args := [.agg (cForest f1), .agg (cNode x2), .v (.int .i64 most3), .v (.int .i64 a4), .v (.int .i64 b5)]) (S := []) (N0 := []) (post := fun r p S => p = .v (.bool r) ∧ S = []) Try.func3 rfl rfl hr fun w0 X X0 σ0 => ?_
  refine pw_seq ?_
  refine pw_region ?_
  refine po_box  5 rfl rfl rfl rfl rfl rfl rfl rfl rfl rfl ?_
  refine po_box  6 rfl rfl rfl rfl rfl rfl rfl rfl rfl rfl ?_
  refine po_evs (T := tab) 1 rfl rfl ?_
  refine po_nil ?_
  refine pn_seq ?_
  refine pw_seq ?_
  refine pw_seq ?_
  refine pw_region ?_
  refine po_call (enc := fun (r6 : Bool) => .v (.bool r6)) (qs := []) (Instarlaw03_awake_ok fu) rfl rfl trivial (fun _ => rfl) call14 rfl rfl fun r6 hr6 => ?_
  refine po_evs (T := tab) 1 rfl rfl ?_
  refine po_nil ?_
  refine pn_seq ?_
  refine pw_cnd rfl ?_ ?_
  · refine pw_seq ?_
    refine pw_region ?_
    refine po_evs (T := tab) 1 rfl rfl ?_
    refine po_nil ?_
    refine pn_seq ?_
    exact pw_retN (T := tab) rfl rfl rfl ⟨rfl, rfl⟩ trivial rfl
  · refine pw_skip ?_
    refine pn_seq ?_
    refine pw_seq ?_
    refine pw_seq ?_
    refine pw_region ?_
    refine po_evs (T := tab) 1 rfl rfl ?_
    refine po_call (enc := fun (r7 : Bool) => .v (.bool r7)) (qs := [.agg (cForest f1)]) (Instarref03_Short_ok fu f1) rfl rfl ⟨⟨_, rfl, .rfl⟩, trivial⟩ (fun _ => rfl) call15 rfl rfl fun r7 hr7 => ?_
    refine po_evs (T := tab) 2 rfl rfl ?_
    refine po_split (j := 25) rfl ?_ ?_
    · refine po_evs (T := tab) 11 rfl rfl ?_
      refine po_nil ?_
      refine pn_seq (pw_then rfl ?_)
      refine pw_seq ?_
      refine pw_region ?_
      refine po_evs (T := tab) 1 rfl rfl ?_
      refine po_nil ?_
      refine pn_seq ?_
      exact pw_retN (T := tab) rfl rfl rfl ⟨rfl, rfl⟩ trivial rfl
    · refine po_evs (T := tab) 2 rfl rfl ?_
      refine po_len (T := tab) cAttr x2.Attrs rfl rfl rfl rfl rfl rfl rfl rfl ?_
      refine po_evs (T := tab) 3 rfl rfl ?_
      refine po_split (j := 31) rfl ?_ ?_
      · refine po_evs (T := tab) 5 rfl rfl ?_
        refine po_nil ?_
        refine pn_seq (pw_then rfl ?_)
        refine pw_seq ?_
        refine pw_region ?_
        refine po_evs (T := tab) 1 rfl rfl ?_
        refine po_nil ?_
        refine pn_seq ?_
        exact pw_retN (T := tab) rfl rfl rfl ⟨rfl, rfl⟩ trivial rfl
      · refine po_evs (T := tab) 5 rfl rfl ?_
        refine po_nil ?_
        refine pn_seq ?_
        refine pw_cnd rfl ?_ ?_
        · refine pw_seq ?_
          refine pw_region ?_
          refine po_evs (T := tab) 1 rfl rfl ?_
          refine po_nil ?_
          refine pn_seq ?_
          exact pw_retN (T := tab) rfl rfl rfl ⟨rfl, rfl⟩ trivial rfl
        · refine pw_skip ?_
          refine pn_seq ?_
          refine pw_seq ?_
          refine pw_region ?_
          refine po_evs (T := tab) 1 rfl rfl ?_
          refine po_call (enc := fun (r8 : Bool) => .v (.bool r8)) (qs := [.agg (cForest f1)]) (Instarref03_Right_ok fu f1) rfl rfl ⟨⟨_, rfl, .rfl⟩, trivial⟩ (fun _ => rfl) call16 rfl rfl fun r8 hr8 => ?_
          refine po_evs (T := tab) 1 rfl rfl ?_
          refine po_nil ?_
          refine pn_seq ?_
          refine pw_seq ?_
          refine pw_region ?_
          refine po_evs (T := tab) 1 rfl rfl ?_
          refine po_call (enc := fun (r9 : (Forest × Int)) => .tup [.agg (cForest r9.1), .v (.int .i64 r9.2)]) (qs := [.v (.int .i64 most3)]) (Forest_New_ok fu most3) rfl rfl ⟨⟨_, rfl, .rfl⟩, trivial⟩ (fun _ => rfl) call17 rfl rfl fun r9 hr9 => ?_
          refine po_evs (T := tab) 3 rfl rfl ?_
          refine po_alloc (T := tab) 12 rfl rfl rfl rfl rfl rfl rfl rfl rfl ?_
          refine po_store (T := tab) rfl rfl rfl rfl rfl rfl rfl rfl rfl rfl rfl rfl ?_
          refine po_evs (T := tab) 1 rfl rfl ?_
          refine po_nil ?_
          refine pn_seq ?_
          refine pw_seq ?_
          refine pw_region ?_
          refine po_evs (T := tab) 2 rfl rfl ?_
          refine po_call (enc := fun (r10 : (Forest × Int × Int)) => .tup [.agg (cForest r10.1), .v (.int .i64 r10.2.1), .v (.int .i64 r10.2.2)]) (qs := [.agg (cForest f1), .agg (cNode x2)]) (Forest_Make_ok fu f1 x2) rfl rfl ⟨⟨_, rfl, .rfl⟩, ⟨_, rfl, .rfl⟩, trivial⟩ (fun _ => rfl) call18 rfl rfl fun r10 hr10 => ?_
          refine po_evs (T := tab) 4 rfl rfl ?_
          refine po_alloc (T := tab) 14 rfl rfl rfl rfl rfl rfl rfl rfl rfl ?_
          refine po_store (T := tab) rfl rfl rfl rfl rfl rfl rfl rfl rfl rfl rfl rfl ?_
          refine po_evs (T := tab) 2 rfl rfl ?_
          refine po_nil ?_
          refine pn_seq ?_
          refine pw_seq ?_
          refine pw_seq ?_
          refine pw_sub' (E' := [(2, .v (.int .i64 most3)), (3, .v (.int .i64 a4)), (4, .v (.int .i64 b5)), (5, .loc 5 0), (6, .loc 6 0), (11, .v (.bool r8)), (12, .loc 12 0), (13, .v (.int .i64 r9.2)), (14, .loc 14 0), (15, .v (.int .i64 r10.2.1)), (16, .v (.int .i64 r10.2.2))]) (S' := [(14, .box [.sl 10 false (r10.1.Nodes.map cNode), .v (.int .i64 r10.1.Most)]), (12, .box [.sl 10 false (r9.1.Nodes.map cNode), .v (.int .i64 r9.1.Most)]), (6, .box [.v (.int .i64 x2.Kind), .v (.string ⟨⟨x2.Name⟩⟩), .v (.string ⟨⟨x2.Is⟩⟩), .v (.string ⟨⟨x2.Data⟩⟩), .sl 2 false (x2.Attrs.map cAttr), .v (.int .i64 x2.Parent), .sl 1 false (x2.Kids.map cInt_i64), .v (.int .i64 x2.Host), .v (.int .i64 x2.Under), .v (.int .i64 x2.Doc)]), (5, .box [.sl 10 false (f1.Nodes.map cNode), .v (.int .i64 f1.Most)])]) ?_ ⟨rfl, rfl, rfl, rfl, rfl, rfl, rfl, rfl, rfl, rfl, rfl, trivial⟩ ⟨rfl, rfl, rfl, rfl, trivial⟩ rfl
          refine pw_drawV [0, 1, 0, 7, 15, 31, 63, 31, 159, 415, 927, 1951, 3999, 8191, 16383, 32767, 65535, 131071, 262143, 524287, 524287, 1572863, 4194303, 8388607, 16777215, 33554431, 67108863, 134217727, 268435455, 536870911, 1073741823, 2147483647, 4294967295, 8589934591, 8589934591, 34359738367, 68719476735, 137438953471, 274877906943, 549755813887] mixed (by kernel_rfl) (by kernel_rfl) rfl rfl ?_
          refine pdv_joinB (Instarlaw03_ForestRight_j1 fu f1 x2 a4 b5 r8 r10) (fun (_ : Unit) => [(3, .v (.int .i64 a4)), (4, .v (.int .i64 b5)), (5, .loc 5 0), (6, .loc 6 0), (11, .v (.bool r8)), (14, .loc 14 0), (15, .v (.int .i64 r10.2.1)), (16, .v (.int .i64 r10.2.2))]) (fun (_ : Unit) => [(14, .box [.sl 10 false (r10.1.Nodes.map cNode), .v (.int .i64 r10.1.Most)]), (6, .box [.v (.int .i64 x2.Kind), .v (.string ⟨⟨x2.Name⟩⟩), .v (.string ⟨⟨x2.Is⟩⟩), .v (.string ⟨⟨x2.Data⟩⟩), .sl 2 false (x2.Attrs.map cAttr), .v (.int .i64 x2.Parent), .sl 1 false (x2.Kids.map cInt_i64), .v (.int .i64 x2.Host), .v (.int .i64 x2.Under), .v (.int .i64 x2.Doc)]), (5, .box [.sl 10 false (f1.Nodes.map cNode), .v (.int .i64 f1.Most)])]) ?_ fun hj1 => ?_
          · rintro _
            refine pn_seq ?_
            refine pw_seq ?_
            refine pw_seq ?_
            refine pw_region ?_
            refine po_evs (T := tab) 2 rfl rfl ?_
            refine po_nil ?_
            refine pn_seq ?_
            refine pw_cnd rfl ?_ ?_
            · refine pw_seq ?_
              refine pw_region ?_
              refine po_evs (T := tab) 3 rfl rfl ?_
              refine po_split (j := 95) rfl ?_ ?_
              · refine po_evs (T := tab) 4 rfl rfl ?_
                refine po_split (j := 99) rfl ?_ ?_
                · refine po_evs (T := tab) 2 rfl rfl ?_
                  refine po_call (enc := fun (r20 : Bool) => .v (.bool r20)) (qs := [.agg (cForest r10.1), .agg (cForest f1)]) (Instarref03_Same_ok fu r10.1 f1) rfl rfl ⟨⟨_, rfl, .rfl⟩, ⟨_, rfl, .rfl⟩, trivial⟩ (fun _ => rfl) call20 rfl rfl fun r20 hr20 => ?_
                  refine po_evs (T := tab) 2 rfl rfl ?_
                  refine po_split (j := 104) rfl ?_ ?_
                  · refine po_evs (T := tab) 2 rfl rfl ?_
                    refine po_call (enc := fun (r21 : Int) => .v (.int .i64 r21)) (qs := [.agg (cForest f1), .v (.int .i64 a4)]) (Forest_Root_ok fu f1 a4) rfl rfl ⟨⟨_, rfl, .rfl⟩, ⟨_, rfl, .rfl⟩, trivial⟩ (fun _ => rfl) call22 rfl rfl fun r21 hr21 => ?_
                    refine po_evs (T := tab) 3 rfl rfl ?_
                    refine po_split (j := 110) rfl ?_ ?_
                    · refine po_evs (T := tab) 2 rfl rfl ?_
                      refine po_call (enc := fun (r22 : (List Int)) => .sl 1 false (r22.map cInt_i64)) (qs := [.agg (cForest f1), .v (.int .i64 a4)]) (Forest_Order_ok fu f1 a4) rfl rfl ⟨⟨_, rfl, .rfl⟩, ⟨_, rfl, .rfl⟩, trivial⟩ (fun _ => rfl) call23 rfl rfl fun r22 hr22 => ?_
                      refine po_len (T := tab) cInt_i64 r22 rfl rfl rfl rfl rfl rfl rfl rfl ?_
                      refine po_evs (T := tab) 3 rfl rfl ?_
                      refine po_split (j := 117) rfl ?_ ?_
                      · refine po_evs (T := tab) 3 rfl rfl ?_
                        refine po_call (enc := fun (r23 : Bool) => .v (.bool r23)) (qs := [.agg (cForest f1), .v (.int .i64 a4), .v (.int .i64 b5)]) (Forest_Holds_ok fu f1 a4 b5) rfl rfl ⟨⟨_, rfl, .rfl⟩, ⟨_, rfl, .rfl⟩, ⟨_, rfl, .rfl⟩, trivial⟩ (fun _ => rfl) call24 rfl rfl fun r23 hr23 => ?_
                        refine po_evs (T := tab) 3 rfl rfl ?_
                        refine po_split (j := 124) rfl ?_ ?_
                        · refine po_evs (T := tab) 2 rfl rfl ?_
                          refine po_call (enc := fun (r24 : Int) => .v (.int .i64 r24)) (qs := [.agg (cForest f1), .v (.int .i64 a4)]) (Forest_Place_ok fu f1 a4) rfl rfl ⟨⟨_, rfl, .rfl⟩, ⟨_, rfl, .rfl⟩, trivial⟩ (fun _ => rfl) call25 rfl rfl fun r24 hr24 => ?_
                          refine po_evs (T := tab) 3 rfl rfl ?_
                          refine po_split (j := 130) rfl ?_ ?_
                          · refine po_evs (T := tab) 3 rfl rfl ?_
                            refine po_call (enc := fun (r25 : Bool) => .v (.bool r25)) (qs := [.agg (cForest f1), .v (.int .i64 a4), .v (.int .i64 b5)]) (Forest_Ahead_ok fu f1 a4 b5) rfl rfl ⟨⟨_, rfl, .rfl⟩, ⟨_, rfl, .rfl⟩, ⟨_, rfl, .rfl⟩, trivial⟩ (fun _ => rfl) call26 rfl rfl fun r25 hr25 => ?_
                            refine po_evs (T := tab) 3 rfl rfl ?_
                            refine po_nil ?_
                            refine pn_seq ?_
                            exact pw_retN (T := tab) rfl rfl rfl ⟨rfl, rfl⟩ trivial rfl
                          · refine po_evs (T := tab) 7 rfl rfl ?_
                            refine po_nil ?_
                            refine pn_seq ?_
                            exact pw_retN (T := tab) rfl rfl rfl ⟨rfl, rfl⟩ trivial rfl
                        · refine po_evs (T := tab) 13 rfl rfl ?_
                          refine po_nil ?_
                          refine pn_seq ?_
                          exact pw_retN (T := tab) rfl rfl rfl ⟨rfl, rfl⟩ trivial rfl
                      · refine po_evs (T := tab) 20 rfl rfl ?_
                        refine po_nil ?_
                        refine pn_seq ?_
                        exact pw_retN (T := tab) rfl rfl rfl ⟨rfl, rfl⟩ trivial rfl
                    · refine po_evs (T := tab) 27 rfl rfl ?_
                      refine po_nil ?_
                      refine pn_seq ?_
                      exact pw_retN (T := tab) rfl rfl rfl ⟨rfl, rfl⟩ trivial rfl
                  · refine po_evs (T := tab) 33 rfl rfl ?_
                    refine po_nil ?_
                    refine pn_seq ?_
                    exact pw_retN (T := tab) rfl rfl rfl ⟨rfl, rfl⟩ trivial rfl
                · refine po_evs (T := tab) 38 rfl rfl ?_
                  refine po_nil ?_
                  refine pn_seq ?_
                  exact pw_retN (T := tab) rfl rfl rfl ⟨rfl, rfl⟩ trivial rfl
              · refine po_evs (T := tab) 42 rfl rfl ?_
                refine po_nil ?_
                refine pn_seq ?_
                exact pw_retN (T := tab) rfl rfl rfl ⟨rfl, rfl⟩ trivial rfl
            · refine pw_skip ?_
              refine pn_seq ?_
              refine pw_seq ?_
              refine pw_region ?_
              refine po_evs (T := tab) 2 rfl rfl ?_
              refine po_call (enc := fun (r26 : (Forest × Int × Int)) => .tup [.agg (cForest r26.1), .v (.int .i64 r26.2.1), .v (.int .i64 r26.2.2)]) (qs := [.agg (cForest f1), .agg (cNode x2)]) (Instarref03_Make_ok fu f1 x2) rfl rfl ⟨⟨_, rfl, .rfl⟩, ⟨_, rfl, .rfl⟩, trivial⟩ (fun _ => rfl) call27 rfl rfl fun r26 hr26 => ?_
              refine po_evs (T := tab) 4 rfl rfl ?_
              refine po_alloc (T := tab) 17 rfl rfl rfl rfl rfl rfl rfl rfl rfl ?_
              refine po_store (T := tab) rfl rfl rfl rfl rfl rfl rfl rfl rfl rfl rfl rfl ?_
              refine po_evs (T := tab) 2 rfl rfl ?_
              refine po_nil ?_
              refine pn_seq ?_
              refine pw_seq ?_
              refine pw_seq ?_
              refine pw_region ?_
              refine po_evs (T := tab) 2 rfl rfl ?_
              refine po_call (enc := fun (r27 : Bool) => .v (.bool r27)) (qs := [.agg (cForest r10.1), .agg (cForest r26.1)]) (Instarref03_Same_ok fu r10.1 r26.1) rfl rfl ⟨⟨_, rfl, .rfl⟩, ⟨_, rfl, .rfl⟩, trivial⟩ (fun _ => rfl) call20 rfl rfl fun r27 hr27 => ?_
              refine po_evs (T := tab) 2 rfl rfl ?_
              refine po_split (j := 148) rfl ?_ ?_
              · refine po_evs (T := tab) 9 rfl rfl ?_
                refine po_nil ?_
                refine pn_seq (pw_then rfl ?_)
                refine pw_seq ?_
                refine pw_region ?_
                refine po_evs (T := tab) 1 rfl rfl ?_
                refine po_nil ?_
                refine pn_seq ?_
                exact pw_retN (T := tab) rfl rfl rfl ⟨rfl, rfl⟩ trivial rfl
              · refine po_evs (T := tab) 5 rfl rfl ?_
                refine po_split (j := 153) rfl ?_ ?_
                · refine po_evs (T := tab) 4 rfl rfl ?_
                  refine po_nil ?_
                  refine pn_seq (pw_then rfl ?_)
                  refine pw_seq ?_
                  refine pw_region ?_
                  refine po_evs (T := tab) 1 rfl rfl ?_
                  refine po_nil ?_
                  refine pn_seq ?_
                  exact pw_retN (T := tab) rfl rfl rfl ⟨rfl, rfl⟩ trivial rfl
                · refine po_evs (T := tab) 4 rfl rfl ?_
                  refine po_nil ?_
                  refine pn_seq ?_
                  refine pw_cnd rfl ?_ ?_
                  · refine pw_seq ?_
                    refine pw_region ?_
                    refine po_evs (T := tab) 1 rfl rfl ?_
                    refine po_nil ?_
                    refine pn_seq ?_
                    exact pw_retN (T := tab) rfl rfl rfl ⟨rfl, rfl⟩ trivial rfl
                  · refine pw_skip ?_
                    refine pn_seq ?_
                    refine pw_seq ?_
                    refine pw_seq ?_
                    refine pw_region ?_
                    refine po_joinX (Instarlaw03_ForestRight_j2 fu f1 a4 b5) (fun (_ : Unit) => [(3, .v (.int .i64 a4)), (4, .v (.int .i64 b5)), (5, .loc 5 0)]) (fun (_ : Unit) => [(5, .box [.sl 10 false (f1.Nodes.map cNode), .v (.int .i64 f1.Most)])]) ?_ fun hj2 => ?_
                    · rintro _
                      refine pw_seq ?_
                      refine pw_region ?_
                      refine po_evs (T := tab) 2 rfl rfl ?_
                      refine po_call (enc := fun (r28 : Int) => .v (.int .i64 r28)) (qs := [.agg (cForest f1), .v (.int .i64 a4)]) (Forest_Root_ok fu f1 a4) rfl rfl ⟨⟨_, rfl, .rfl⟩, ⟨_, rfl, .rfl⟩, trivial⟩ (fun _ => rfl) call22 rfl rfl fun r28 hr28 => ?_
                      refine po_evs (T := tab) 2 rfl rfl ?_
                      refine po_split (j := 171) rfl ?_ ?_
                      · refine po_evs (T := tab) 2 rfl rfl ?_
                        refine po_call (enc := fun (r29 : (List Int)) => .sl 1 false (r29.map cInt_i64)) (qs := [.agg (cForest f1), .v (.int .i64 a4)]) (Forest_Order_ok fu f1 a4) rfl rfl ⟨⟨_, rfl, .rfl⟩, ⟨_, rfl, .rfl⟩, trivial⟩ (fun _ => rfl) call23 rfl rfl fun r29 hr29 => ?_
                        refine po_len (T := tab) cInt_i64 r29 rfl rfl rfl rfl rfl rfl rfl rfl ?_
                        refine po_evs (T := tab) 3 rfl rfl ?_
                        refine po_split (j := 178) rfl ?_ ?_
                        · refine po_evs (T := tab) 3 rfl rfl ?_
                          refine po_call (enc := fun (r30 : Bool) => .v (.bool r30)) (qs := [.agg (cForest f1), .v (.int .i64 a4), .v (.int .i64 b5)]) (Forest_Holds_ok fu f1 a4 b5) rfl rfl ⟨⟨_, rfl, .rfl⟩, ⟨_, rfl, .rfl⟩, ⟨_, rfl, .rfl⟩, trivial⟩ (fun _ => rfl) call24 rfl rfl fun r30 hr30 => ?_
                          refine po_evs (T := tab) 3 rfl rfl ?_
                          refine po_split (j := 185) rfl ?_ ?_
                          · refine po_evs (T := tab) 3 rfl rfl ?_
                            refine po_call (enc := fun (r31 : Bool) => .v (.bool r31)) (qs := [.agg (cForest f1), .v (.int .i64 b5), .v (.int .i64 a4)]) (Forest_Holds_ok fu f1 b5 a4) rfl rfl ⟨⟨_, rfl, .rfl⟩, ⟨_, rfl, .rfl⟩, ⟨_, rfl, .rfl⟩, trivial⟩ (fun _ => rfl) call24 rfl rfl fun r31 hr31 => ?_
                            refine po_evs (T := tab) 3 rfl rfl ?_
                            refine po_split (j := 192) rfl ?_ ?_
                            · refine po_evs (T := tab) 2 rfl rfl ?_
                              refine po_call (enc := fun (r32 : Int) => .v (.int .i64 r32)) (qs := [.agg (cForest f1), .v (.int .i64 a4)]) (Forest_Place_ok fu f1 a4) rfl rfl ⟨⟨_, rfl, .rfl⟩, ⟨_, rfl, .rfl⟩, trivial⟩ (fun _ => rfl) call25 rfl rfl fun r32 hr32 => ?_
                              refine po_evs (T := tab) 3 rfl rfl ?_
                              refine po_split (j := 198) rfl ?_ ?_
                              · refine po_evs (T := tab) 3 rfl rfl ?_
                                refine po_call (enc := fun (r33 : Bool) => .v (.bool r33)) (qs := [.agg (cForest f1), .v (.int .i64 a4), .v (.int .i64 b5)]) (Forest_Ahead_ok fu f1 a4 b5) rfl rfl ⟨⟨_, rfl, .rfl⟩, ⟨_, rfl, .rfl⟩, ⟨_, rfl, .rfl⟩, trivial⟩ (fun _ => rfl) call26 rfl rfl fun r33 hr33 => ?_
                                refine po_evs (T := tab) 3 rfl rfl ?_
                                refine po_nil ?_
                                refine pn_seq ?_
                                exact pw_retN (T := tab) rfl rfl rfl ⟨rfl, rfl⟩ trivial rfl
                              · refine po_evs (T := tab) 7 rfl rfl ?_
                                refine po_nil ?_
                                refine pn_seq ?_
                                exact pw_retN (T := tab) rfl rfl rfl ⟨rfl, rfl⟩ trivial rfl
                            · refine po_evs (T := tab) 13 rfl rfl ?_
                              refine po_nil ?_
                              refine pn_seq ?_
                              exact pw_retN (T := tab) rfl rfl rfl ⟨rfl, rfl⟩ trivial rfl
                          · refine po_evs (T := tab) 20 rfl rfl ?_
                            refine po_nil ?_
                            refine pn_seq ?_
                            exact pw_retN (T := tab) rfl rfl rfl ⟨rfl, rfl⟩ trivial rfl
                        · refine po_evs (T := tab) 27 rfl rfl ?_
                          refine po_nil ?_
                          refine pn_seq ?_
                          exact pw_retN (T := tab) rfl rfl rfl ⟨rfl, rfl⟩ trivial rfl
                      · refine po_evs (T := tab) 34 rfl rfl ?_
                        refine po_nil ?_
                        refine pn_seq ?_
                        exact pw_retN (T := tab) rfl rfl rfl ⟨rfl, rfl⟩ trivial rfl
                    · refine po_evs (T := tab) 3 rfl rfl ?_
                      refine po_split (j := 160) rfl ?_ ?_
                      · refine po_evs (T := tab) 6 rfl rfl ?_
                        refine po_nil ?_
                        refine pn_seq (pw_then rfl ?_)
                        exact pw_sub' (hj2 ()) ⟨rfl, rfl, rfl, trivial⟩ ⟨rfl, trivial⟩ rfl
                      · refine po_evs (T := tab) 3 rfl rfl ?_
                        refine po_len (T := tab) cNode f1.Nodes rfl rfl rfl rfl rfl rfl rfl rfl ?_
                        refine po_evs (T := tab) 2 rfl rfl ?_
                        refine po_nil ?_
                        refine pn_seq ?_
                        refine pw_cnd rfl ?_ ?_
                        · exact pw_sub' (hj2 ()) ⟨rfl, rfl, rfl, trivial⟩ ⟨rfl, trivial⟩ rfl
                        · refine pw_skip ?_
                          refine pn_seq ?_
                          refine pw_seq ?_
                          refine pw_seq ?_
                          refine pw_draw mixed (by kernel_rfl) ?_
                          refine pd_evs (T := tab) 2 rfl rfl ?_
                          refine pd_call (enc := fun (r34 : Int) => .v (.int .i64 r34)) (qs := [.agg (cForest f1), .v (.int .i64 a4)]) (Forest_Root_ok fu f1 a4) rfl rfl ⟨⟨_, rfl, .rfl⟩, ⟨_, rfl, .rfl⟩, trivial⟩ (fun _ => rfl) call22 rfl rfl fun r34 hr34 => ?_
                          refine pd_evs (T := tab) 2 rfl rfl ?_
                          refine pd_call (enc := fun (r35 : Int) => .v (.int .i64 r35)) (qs := [.agg (cForest f1), .v (.int .i64 a4)]) (Instarref03_Root_ok fu f1 a4) rfl rfl ⟨⟨_, rfl, .rfl⟩, ⟨_, rfl, .rfl⟩, trivial⟩ (fun _ => rfl) call28 rfl rfl fun r35 hr35 => ?_
                          refine pd_evs (T := tab) 2 rfl rfl ?_
                          refine pd_split (j := 212) rfl ?_ ?_
                          · refine pd_evs (T := tab) 18 rfl rfl ?_
                            refine pd_nil ?_
                            refine pn_seq (pw_then rfl ?_)
                            refine pw_seq ?_
                            refine pw_region ?_
                            refine po_evs (T := tab) 1 rfl rfl ?_
                            refine po_nil ?_
                            refine pn_seq ?_
                            exact pw_retN (T := tab) rfl rfl rfl ⟨rfl, rfl⟩ trivial rfl
                          · refine pd_evs (T := tab) 2 rfl rfl ?_
                            refine pd_call (enc := fun (r36 : (List Int)) => .sl 1 false (r36.map cInt_i64)) (qs := [.agg (cForest f1), .v (.int .i64 a4)]) (Forest_Order_ok fu f1 a4) rfl rfl ⟨⟨_, rfl, .rfl⟩, ⟨_, rfl, .rfl⟩, trivial⟩ (fun _ => rfl) call23 rfl rfl fun r36 hr36 => ?_
                            refine pd_evs (T := tab) 2 rfl rfl ?_
                            refine pd_call (enc := fun (r37 : (List Int)) => .sl 1 false (r37.map cInt_i64)) (qs := [.agg (cForest f1), .v (.int .i64 a4)]) (Instarref03_Order_ok fu f1 a4) rfl rfl ⟨⟨_, rfl, .rfl⟩, ⟨_, rfl, .rfl⟩, trivial⟩ (fun _ => rfl) call30 rfl rfl fun r37 hr37 => ?_
                            refine pd_call (enc := fun (r38 : Bool) => .v (.bool r38)) (qs := [.sl 1 false (r36.map cInt_i64), .sl 1 false (r37.map cInt_i64)]) (Instarref03_Ints_ok fu r36 r37) rfl rfl ⟨⟨_, rfl, .rfl⟩, ⟨_, rfl, .rfl⟩, trivial⟩ (fun _ => rfl) call29 rfl rfl fun r38 hr38 => ?_
                            refine pd_evs (T := tab) 3 rfl rfl ?_
                            refine pd_split (j := 222) rfl ?_ ?_
                            · refine pd_evs (T := tab) 8 rfl rfl ?_
                              refine pd_nil ?_
                              refine pn_seq (pw_then rfl ?_)
                              refine pw_seq ?_
                              refine pw_region ?_
                              refine po_evs (T := tab) 1 rfl rfl ?_
                              refine po_nil ?_
                              refine pn_seq ?_
                              exact pw_retN (T := tab) rfl rfl rfl ⟨rfl, rfl⟩ trivial rfl
                            · refine pd_evs (T := tab) 2 rfl rfl ?_
                              refine pd_call (enc := fun (r39 : Int) => .v (.int .i64 r39)) (qs := [.agg (cForest f1), .v (.int .i64 a4)]) (Forest_Place_ok fu f1 a4) rfl rfl ⟨⟨_, rfl, .rfl⟩, ⟨_, rfl, .rfl⟩, trivial⟩ (fun _ => rfl) call25 rfl rfl fun r39 hr39 => ?_
                              refine pd_evs (T := tab) 2 rfl rfl ?_
                              refine pd_call (enc := fun (r40 : Int) => .v (.int .i64 r40)) (qs := [.agg (cForest f1), .v (.int .i64 a4)]) (Instarref03_Place_ok fu f1 a4) rfl rfl ⟨⟨_, rfl, .rfl⟩, ⟨_, rfl, .rfl⟩, trivial⟩ (fun _ => rfl) call31 rfl rfl fun r40 hr40 => ?_
                              refine pd_evs (T := tab) 2 rfl rfl ?_
                              refine pd_nil ?_
                              refine pn_seq ?_
                              refine pw_cnd rfl ?_ ?_
                              · refine pw_seq ?_
                                refine pw_region ?_
                                refine po_evs (T := tab) 1 rfl rfl ?_
                                refine po_nil ?_
                                refine pn_seq ?_
                                exact pw_retN (T := tab) rfl rfl rfl ⟨rfl, rfl⟩ trivial rfl
                              · refine pw_skip ?_
                                refine pn_seq ?_
                                refine pw_seq ?_
                                refine pw_seq ?_
                                refine pw_region ?_
                                refine po_joinX (Instarlaw03_ForestRight_j3 fu f1 a4 b5) (fun (_ : Unit) => [(3, .v (.int .i64 a4)), (4, .v (.int .i64 b5)), (5, .loc 5 0)]) (fun (_ : Unit) => [(5, .box [.sl 10 false (f1.Nodes.map cNode), .v (.int .i64 f1.Most)])]) ?_ fun hj3 => ?_
                                · rintro _
                                  refine pw_seq ?_
                                  refine pw_region ?_
                                  refine po_evs (T := tab) 3 rfl rfl ?_
                                  refine po_call (enc := fun (r41 : Bool) => .v (.bool r41)) (qs := [.agg (cForest f1), .v (.int .i64 a4), .v (.int .i64 b5)]) (Forest_Holds_ok fu f1 a4 b5) rfl rfl ⟨⟨_, rfl, .rfl⟩, ⟨_, rfl, .rfl⟩, ⟨_, rfl, .rfl⟩, trivial⟩ (fun _ => rfl) call24 rfl rfl fun r41 hr41 => ?_
                                  refine po_evs (T := tab) 2 rfl rfl ?_
                                  refine po_split (j := 245) rfl ?_ ?_
                                  · refine po_evs (T := tab) 3 rfl rfl ?_
                                    refine po_call (enc := fun (r42 : Bool) => .v (.bool r42)) (qs := [.agg (cForest f1), .v (.int .i64 a4), .v (.int .i64 b5)]) (Forest_Ahead_ok fu f1 a4 b5) rfl rfl ⟨⟨_, rfl, .rfl⟩, ⟨_, rfl, .rfl⟩, ⟨_, rfl, .rfl⟩, trivial⟩ (fun _ => rfl) call26 rfl rfl fun r42 hr42 => ?_
                                    refine po_evs (T := tab) 3 rfl rfl ?_
                                    refine po_nil ?_
                                    refine pn_seq ?_
                                    exact pw_retN (T := tab) rfl rfl rfl ⟨rfl, rfl⟩ trivial rfl
                                  · refine po_evs (T := tab) 7 rfl rfl ?_
                                    refine po_nil ?_
                                    refine pn_seq ?_
                                    exact pw_retN (T := tab) rfl rfl rfl ⟨rfl, rfl⟩ trivial rfl
                                · refine po_evs (T := tab) 3 rfl rfl ?_
                                  refine po_split (j := 233) rfl ?_ ?_
                                  · refine po_evs (T := tab) 6 rfl rfl ?_
                                    refine po_nil ?_
                                    refine pn_seq (pw_then rfl ?_)
                                    exact pw_sub' (hj3 ()) ⟨rfl, rfl, rfl, trivial⟩ ⟨rfl, trivial⟩ rfl
                                  · refine po_evs (T := tab) 3 rfl rfl ?_
                                    refine po_len (T := tab) cNode f1.Nodes rfl rfl rfl rfl rfl rfl rfl rfl ?_
                                    refine po_evs (T := tab) 2 rfl rfl ?_
                                    refine po_nil ?_
                                    refine pn_seq ?_
                                    refine pw_cnd rfl ?_ ?_
                                    · exact pw_sub' (hj3 ()) ⟨rfl, rfl, rfl, trivial⟩ ⟨rfl, trivial⟩ rfl
                                    · refine pw_skip ?_
                                      refine pn_seq ?_
                                      refine pw_seq ?_
                                      refine pw_draw mixed (by kernel_rfl) ?_
                                      refine pd_evs (T := tab) 3 rfl rfl ?_
                                      refine pd_call (enc := fun (r43 : Bool) => .v (.bool r43)) (qs := [.agg (cForest f1), .v (.int .i64 a4), .v (.int .i64 b5)]) (Forest_Holds_ok fu f1 a4 b5) rfl rfl ⟨⟨_, rfl, .rfl⟩, ⟨_, rfl, .rfl⟩, ⟨_, rfl, .rfl⟩, trivial⟩ (fun _ => rfl) call24 rfl rfl fun r43 hr43 => ?_
                                      refine pd_evs (T := tab) 3 rfl rfl ?_
                                      refine pd_call (enc := fun (r44 : Bool) => .v (.bool r44)) (qs := [.agg (cForest f1), .v (.int .i64 a4), .v (.int .i64 b5)]) (Instarref03_Holds_ok fu f1 a4 b5) rfl rfl ⟨⟨_, rfl, .rfl⟩, ⟨_, rfl, .rfl⟩, ⟨_, rfl, .rfl⟩, trivial⟩ (fun _ => rfl) call32 rfl rfl fun r44 hr44 => ?_
                                      refine pd_evs (T := tab) 2 rfl rfl ?_
                                      refine pd_split (j := 261) rfl ?_ ?_
                                      · refine pd_evs (T := tab) 3 rfl rfl ?_
                                        refine pd_call (enc := fun (r45 : Bool) => .v (.bool r45)) (qs := [.agg (cForest f1), .v (.int .i64 a4), .v (.int .i64 b5)]) (Forest_Ahead_ok fu f1 a4 b5) rfl rfl ⟨⟨_, rfl, .rfl⟩, ⟨_, rfl, .rfl⟩, ⟨_, rfl, .rfl⟩, trivial⟩ (fun _ => rfl) call26 rfl rfl fun r45 hr45 => ?_
                                        refine pd_evs (T := tab) 2 rfl rfl ?_
                                        refine pd_call (enc := fun (r46 : Int) => .v (.int .i64 r46)) (qs := [.agg (cForest f1), .v (.int .i64 a4)]) (Instarref03_Root_ok fu f1 a4) rfl rfl ⟨⟨_, rfl, .rfl⟩, ⟨_, rfl, .rfl⟩, trivial⟩ (fun _ => rfl) call28 rfl rfl fun r46 hr46 => ?_
                                        refine pd_evs (T := tab) 2 rfl rfl ?_
                                        refine pd_call (enc := fun (r47 : Int) => .v (.int .i64 r47)) (qs := [.agg (cForest f1), .v (.int .i64 b5)]) (Instarref03_Root_ok fu f1 b5) rfl rfl ⟨⟨_, rfl, .rfl⟩, ⟨_, rfl, .rfl⟩, trivial⟩ (fun _ => rfl) call28 rfl rfl fun r47 hr47 => ?_
                                        refine pd_evs (T := tab) 2 rfl rfl ?_
                                        refine pd_split (j := 273) rfl ?_ ?_
                                        · refine pd_evs (T := tab) 3 rfl rfl ?_
                                          refine pd_call (enc := fun (r48 : Bool) => .v (.bool r48)) (qs := [.agg (cForest f1), .v (.int .i64 a4), .v (.int .i64 b5)]) (Instarref03_Ahead_ok fu f1 a4 b5) rfl rfl ⟨⟨_, rfl, .rfl⟩, ⟨_, rfl, .rfl⟩, ⟨_, rfl, .rfl⟩, trivial⟩ (fun _ => rfl) call33 rfl rfl fun r48 hr48 => ?_
                                          refine pd_evs (T := tab) 4 rfl rfl ?_
                                          refine pd_nil ?_
                                          refine pn_seq ?_
                                          exact pw_retN (T := tab) rfl rfl rfl ⟨rfl, rfl⟩ trivial rfl
                                        · refine pd_evs (T := tab) 8 rfl rfl ?_
                                          refine pd_nil ?_
                                          refine pn_seq ?_
                                          exact pw_retN (T := tab) rfl rfl rfl ⟨rfl, rfl⟩ trivial rfl
                                      · refine pd_evs (T := tab) 20 rfl rfl ?_
                                        refine pd_nil ?_
                                        refine pn_seq ?_
                                        exact pw_retN (T := tab) rfl rfl rfl ⟨rfl, rfl⟩ trivial rfl
          · refine pdv_step0 [10, 11] [102] [] [5] [5] [(51, .agg (cForest f1))] [(5, .box [.sl 10 false (f1.Nodes.map cNode), .v (.int .i64 f1.Most)])] rfl rfl rfl rfl (by kernel_rfl) (by kernel_rfl) (by kernel_rfl) ⟨rfl, trivial⟩ (fun w0 X X0 σ0 => by refine po_evs (T := tab) 1 rfl rfl ?_; refine po_nil ?_; exact pn_end0 ⟨rfl, trivial⟩ ⟨rfl, trivial⟩ rfl) ?_
            refine pdv_step (M := (Forest_Right_m fu f1)) (ment := [(104, [])]) [102] [104] [] [] [] (fun r11 => [(52, .v (.bool r11))]) (fun r11 => []) rfl rfl (fun _ => rfl) (fun _ => rfl) (by kernel_rfl) (by kernel_rfl) (fun _ => by kernel_rfl) (fun _ => trivial) (fun w0 X X0 σ0 => by refine po_call (enc := fun (r11 : Bool) => .v (.bool r11)) (qs := [.agg (cForest f1)]) (Forest_Right_ok fu f1) rfl rfl ⟨⟨_, rfl, .rfl⟩, trivial⟩ (fun _ => rfl) call19 rfl rfl fun r11 hr11 => ?_; refine po_nil ?_; exact pn_end ⟨rfl, trivial⟩ trivial rfl) fun r11 hr11 => ?_
            refine pdv_step0 [22] [106] [] [] [] [(53, .v (.bool r8))] [] rfl rfl rfl rfl (by kernel_rfl) (by kernel_rfl) (by kernel_rfl) trivial (fun w0 X X0 σ0 => by refine po_evs (T := tab) 1 rfl rfl ?_; refine po_nil ?_; exact pn_end0 ⟨rfl, trivial⟩ trivial rfl) ?_
            refine pdv_step0 [104, 106] [108] [] [] [] [(54, .v (.bool (!(r11 == r8))))] [] rfl rfl rfl rfl (by kernel_rfl) (by kernel_rfl) (by kernel_rfl) trivial (fun w0 X X0 σ0 => by refine po_evs (T := tab) 1 rfl rfl ?_; refine po_nil ?_; exact pn_end0 ⟨rfl, trivial⟩ trivial rfl) ?_
            refine pdv_step0 [108] [110] [] [] [] [(55, .v (.bool (!(r11 == r8))))] [] rfl rfl rfl rfl (by kernel_rfl) (by kernel_rfl) (by kernel_rfl) trivial (fun w0 X X0 σ0 => by refine po_evs (T := tab) 1 rfl rfl ?_; refine po_nil ?_; exact pn_end0 ⟨rfl, trivial⟩ trivial rfl) ?_
            refine pdv_split (t := 55) rfl ?_ ?_
            · refine pdv_step0 [110] [112] [] [] [] [(56, .tup [])] [] rfl rfl rfl rfl (by kernel_rfl) (by kernel_rfl) (by kernel_rfl) trivial (fun w0 X X0 σ0 => by refine po_evs (T := tab) 1 rfl rfl ?_; refine po_nil ?_; exact pn_end0 ⟨rfl, trivial⟩ trivial rfl) ?_
              refine pdv_step0 [110] [114] [] [] [] [(57, .tup [])] [] rfl rfl rfl rfl (by kernel_rfl) (by kernel_rfl) (by kernel_rfl) trivial (fun w0 X X0 σ0 => by refine po_evs (T := tab) 1 rfl rfl ?_; refine po_nil ?_; exact pn_end0 ⟨rfl, trivial⟩ trivial rfl) ?_
              refine pdv_step0 [110] [116] [] [] [] [(58, .tup [])] [] rfl rfl rfl rfl (by kernel_rfl) (by kernel_rfl) (by kernel_rfl) trivial (fun w0 X X0 σ0 => by refine po_evs (T := tab) 1 rfl rfl ?_; refine po_nil ?_; exact pn_end0 ⟨rfl, trivial⟩ trivial rfl) ?_
              refine pdv_step0 [110] [118] [] [] [] [(59, .tup [])] [] rfl rfl rfl rfl (by kernel_rfl) (by kernel_rfl) (by kernel_rfl) trivial (fun w0 X X0 σ0 => by refine po_evs (T := tab) 1 rfl rfl ?_; refine po_nil ?_; exact pn_end0 ⟨rfl, trivial⟩ trivial rfl) ?_
              refine pdv_step0 [110] [120] [] [] [] [(60, .tup [])] [] rfl rfl rfl rfl (by kernel_rfl) (by kernel_rfl) (by kernel_rfl) trivial (fun w0 X X0 σ0 => by refine po_evs (T := tab) 1 rfl rfl ?_; refine po_nil ?_; exact pn_end0 ⟨rfl, trivial⟩ trivial rfl) ?_
              refine pdv_step0 [120] [122] [] [] [] [(61, .tup [])] [] rfl rfl rfl rfl (by kernel_rfl) (by kernel_rfl) (by kernel_rfl) trivial (fun w0 X X0 σ0 => by refine po_evs (T := tab) 1 rfl rfl ?_; refine po_nil ?_; exact pn_end0 ⟨rfl, trivial⟩ trivial rfl) ?_
              refine pdv_step0 [120] [124] [] [] [] [(62, .tup [])] [] rfl rfl rfl rfl (by kernel_rfl) (by kernel_rfl) (by kernel_rfl) trivial (fun w0 X X0 σ0 => by refine po_evs (T := tab) 1 rfl rfl ?_; refine po_nil ?_; exact pn_end0 ⟨rfl, trivial⟩ trivial rfl) ?_
              refine pdv_step0 [110] [126] [] [] [] [(63, .tup [])] [] rfl rfl rfl rfl (by kernel_rfl) (by kernel_rfl) (by kernel_rfl) trivial (fun w0 X X0 σ0 => by refine po_evs (T := tab) 1 rfl rfl ?_; refine po_nil ?_; exact pn_end0 ⟨rfl, trivial⟩ trivial rfl) ?_
              refine pdv_step0 [110] [128] [] [] [] [(64, .tup [])] [] rfl rfl rfl rfl (by kernel_rfl) (by kernel_rfl) (by kernel_rfl) trivial (fun w0 X X0 σ0 => by refine po_evs (T := tab) 1 rfl rfl ?_; refine po_nil ?_; exact pn_end0 ⟨rfl, trivial⟩ trivial rfl) ?_
              refine pdv_step0 [110, 128] [130] [] [] [] [(65, .v (.bool true))] [] rfl rfl rfl rfl (by kernel_rfl) (by kernel_rfl) (by kernel_rfl) trivial (fun w0 X X0 σ0 => by refine po_evs (T := tab) 1 rfl rfl ?_; refine po_nil ?_; exact pn_end0 ⟨rfl, trivial⟩ trivial rfl) ?_
              refine pdv_step0 [130] [132] [] [] [] [(66, .v (.bool true))] [] rfl rfl rfl rfl (by kernel_rfl) (by kernel_rfl) (by kernel_rfl) trivial (fun w0 X X0 σ0 => by refine po_evs (T := tab) 1 rfl rfl ?_; refine po_nil ?_; exact pn_end0 ⟨rfl, trivial⟩ trivial rfl) ?_
              refine pdv_step0 [132] [134] [] [] [] [(67, .tup [])] [] rfl rfl rfl rfl (by kernel_rfl) (by kernel_rfl) (by kernel_rfl) trivial (fun w0 X X0 σ0 => by refine po_evs (T := tab) 1 rfl rfl ?_; refine po_nil ?_; exact pn_end0 ⟨rfl, trivial⟩ trivial rfl) ?_
              refine pdv_step0 [132] [136] [] [] [] [(68, .tup [])] [] rfl rfl rfl rfl (by kernel_rfl) (by kernel_rfl) (by kernel_rfl) trivial (fun w0 X X0 σ0 => by refine po_evs (T := tab) 1 rfl rfl ?_; refine po_nil ?_; exact pn_end0 ⟨rfl, trivial⟩ trivial rfl) ?_
              refine pdv_step0 [132] [138] [] [] [] [(69, .tup [])] [] rfl rfl rfl rfl (by kernel_rfl) (by kernel_rfl) (by kernel_rfl) trivial (fun w0 X X0 σ0 => by refine po_evs (T := tab) 1 rfl rfl ?_; refine po_nil ?_; exact pn_end0 ⟨rfl, trivial⟩ trivial rfl) ?_
              refine pdv_step0 [138] [140] [] [] [] [(70, .tup [])] [] rfl rfl rfl rfl (by kernel_rfl) (by kernel_rfl) (by kernel_rfl) trivial (fun w0 X X0 σ0 => by refine po_evs (T := tab) 1 rfl rfl ?_; refine po_nil ?_; exact pn_end0 ⟨rfl, trivial⟩ trivial rfl) ?_
              refine pdv_step0 [138] [142] [] [] [] [(71, .tup [])] [] rfl rfl rfl rfl (by kernel_rfl) (by kernel_rfl) (by kernel_rfl) trivial (fun w0 X X0 σ0 => by refine po_evs (T := tab) 1 rfl rfl ?_; refine po_nil ?_; exact pn_end0 ⟨rfl, trivial⟩ trivial rfl) ?_
              refine pdv_step0 [138] [144] [] [] [] [(72, .tup [])] [] rfl rfl rfl rfl (by kernel_rfl) (by kernel_rfl) (by kernel_rfl) trivial (fun w0 X X0 σ0 => by refine po_evs (T := tab) 1 rfl rfl ?_; refine po_nil ?_; exact pn_end0 ⟨rfl, trivial⟩ trivial rfl) ?_
              refine pdv_step0 [138] [146] [] [] [] [(73, .tup [])] [] rfl rfl rfl rfl (by kernel_rfl) (by kernel_rfl) (by kernel_rfl) trivial (fun w0 X X0 σ0 => by refine po_evs (T := tab) 1 rfl rfl ?_; refine po_nil ?_; exact pn_end0 ⟨rfl, trivial⟩ trivial rfl) ?_
              refine pdv_step0 [138] [148] [] [] [] [(74, .tup [])] [] rfl rfl rfl rfl (by kernel_rfl) (by kernel_rfl) (by kernel_rfl) trivial (fun w0 X X0 σ0 => by refine po_evs (T := tab) 1 rfl rfl ?_; refine po_nil ?_; exact pn_end0 ⟨rfl, trivial⟩ trivial rfl) ?_
              refine pdv_step0 [132] [150] [] [] [] [(75, .tup [])] [] rfl rfl rfl rfl (by kernel_rfl) (by kernel_rfl) (by kernel_rfl) trivial (fun w0 X X0 σ0 => by refine po_evs (T := tab) 1 rfl rfl ?_; refine po_nil ?_; exact pn_end0 ⟨rfl, trivial⟩ trivial rfl) ?_
              refine pdv_step0 [132, 150] [152] [] [] [] [(76, .v (.bool true))] [] rfl rfl rfl rfl (by kernel_rfl) (by kernel_rfl) (by kernel_rfl) trivial (fun w0 X X0 σ0 => by refine po_evs (T := tab) 1 rfl rfl ?_; refine po_nil ?_; exact pn_end0 ⟨rfl, trivial⟩ trivial rfl) ?_
              refine pdv_step0 [152] [154] [] [] [] [(77, .v (.bool true))] [] rfl rfl rfl rfl (by kernel_rfl) (by kernel_rfl) (by kernel_rfl) trivial (fun w0 X X0 σ0 => by refine po_evs (T := tab) 1 rfl rfl ?_; refine po_nil ?_; exact pn_end0 ⟨rfl, trivial⟩ trivial rfl) ?_
              refine pdv_step0 [154] [156] [] [] [] [(78, .tup [])] [] rfl rfl rfl rfl (by kernel_rfl) (by kernel_rfl) (by kernel_rfl) trivial (fun w0 X X0 σ0 => by refine po_evs (T := tab) 1 rfl rfl ?_; refine po_nil ?_; exact pn_end0 ⟨rfl, trivial⟩ trivial rfl) ?_
              refine pdv_step0 [154] [158] [] [] [] [(79, .tup [])] [] rfl rfl rfl rfl (by kernel_rfl) (by kernel_rfl) (by kernel_rfl) trivial (fun w0 X X0 σ0 => by refine po_evs (T := tab) 1 rfl rfl ?_; refine po_nil ?_; exact pn_end0 ⟨rfl, trivial⟩ trivial rfl) ?_
              refine pdv_step0 [154] [160] [] [] [] [(80, .tup [])] [] rfl rfl rfl rfl (by kernel_rfl) (by kernel_rfl) (by kernel_rfl) trivial (fun w0 X X0 σ0 => by refine po_evs (T := tab) 1 rfl rfl ?_; refine po_nil ?_; exact pn_end0 ⟨rfl, trivial⟩ trivial rfl) ?_
              refine pdv_step0 [160] [162] [] [] [] [(81, .tup [])] [] rfl rfl rfl rfl (by kernel_rfl) (by kernel_rfl) (by kernel_rfl) trivial (fun w0 X X0 σ0 => by refine po_evs (T := tab) 1 rfl rfl ?_; refine po_nil ?_; exact pn_end0 ⟨rfl, trivial⟩ trivial rfl) ?_
              refine pdv_step0 [160] [164] [] [] [] [(82, .tup [])] [] rfl rfl rfl rfl (by kernel_rfl) (by kernel_rfl) (by kernel_rfl) trivial (fun w0 X X0 σ0 => by refine po_evs (T := tab) 1 rfl rfl ?_; refine po_nil ?_; exact pn_end0 ⟨rfl, trivial⟩ trivial rfl) ?_
              refine pdv_step0 [160] [166] [] [] [] [(83, .tup [])] [] rfl rfl rfl rfl (by kernel_rfl) (by kernel_rfl) (by kernel_rfl) trivial (fun w0 X X0 σ0 => by refine po_evs (T := tab) 1 rfl rfl ?_; refine po_nil ?_; exact pn_end0 ⟨rfl, trivial⟩ trivial rfl) ?_
              refine pdv_step0 [166] [168] [] [] [] [(84, .tup [])] [] rfl rfl rfl rfl (by kernel_rfl) (by kernel_rfl) (by kernel_rfl) trivial (fun w0 X X0 σ0 => by refine po_evs (T := tab) 1 rfl rfl ?_; refine po_nil ?_; exact pn_end0 ⟨rfl, trivial⟩ trivial rfl) ?_
              refine pdv_step0 [166] [170] [] [] [] [(85, .tup [])] [] rfl rfl rfl rfl (by kernel_rfl) (by kernel_rfl) (by kernel_rfl) trivial (fun w0 X X0 σ0 => by refine po_evs (T := tab) 1 rfl rfl ?_; refine po_nil ?_; exact pn_end0 ⟨rfl, trivial⟩ trivial rfl) ?_
              refine pdv_step0 [166] [172] [] [] [] [(86, .tup [])] [] rfl rfl rfl rfl (by kernel_rfl) (by kernel_rfl) (by kernel_rfl) trivial (fun w0 X X0 σ0 => by refine po_evs (T := tab) 1 rfl rfl ?_; refine po_nil ?_; exact pn_end0 ⟨rfl, trivial⟩ trivial rfl) ?_
              refine pdv_step0 [166] [174] [] [] [] [(87, .tup [])] [] rfl rfl rfl rfl (by kernel_rfl) (by kernel_rfl) (by kernel_rfl) trivial (fun w0 X X0 σ0 => by refine po_evs (T := tab) 1 rfl rfl ?_; refine po_nil ?_; exact pn_end0 ⟨rfl, trivial⟩ trivial rfl) ?_
              refine pdv_step0 [160] [176] [] [] [] [(88, .tup [])] [] rfl rfl rfl rfl (by kernel_rfl) (by kernel_rfl) (by kernel_rfl) trivial (fun w0 X X0 σ0 => by refine po_evs (T := tab) 1 rfl rfl ?_; refine po_nil ?_; exact pn_end0 ⟨rfl, trivial⟩ trivial rfl) ?_
              refine pdv_step0 [154] [178] [] [] [] [(89, .tup [])] [] rfl rfl rfl rfl (by kernel_rfl) (by kernel_rfl) (by kernel_rfl) trivial (fun w0 X X0 σ0 => by refine po_evs (T := tab) 1 rfl rfl ?_; refine po_nil ?_; exact pn_end0 ⟨rfl, trivial⟩ trivial rfl) ?_
              refine pdv_step0 [154, 178] [180] [] [] [] [(90, .v (.bool true))] [] rfl rfl rfl rfl (by kernel_rfl) (by kernel_rfl) (by kernel_rfl) trivial (fun w0 X X0 σ0 => by refine po_evs (T := tab) 1 rfl rfl ?_; refine po_nil ?_; exact pn_end0 ⟨rfl, trivial⟩ trivial rfl) ?_
              refine pdv_nil rfl rfl ?_
              refine pn_seq (pw_then rfl ?_)
              refine pw_seq ?_
              refine pw_region ?_
              refine po_evs (T := tab) 1 rfl rfl ?_
              refine po_nil ?_
              refine pn_seq ?_
              exact pw_retN (T := tab) rfl rfl rfl ⟨rfl, rfl⟩ trivial rfl
            · refine pdv_step0 [26, 110] [112] [] [] [] [(56, .v (.int .i64 r9.2))] [] rfl rfl rfl rfl (by kernel_rfl) (by kernel_rfl) (by kernel_rfl) trivial (fun w0 X X0 σ0 => by refine po_evs (T := tab) 1 rfl rfl ?_; refine po_nil ?_; exact pn_end0 ⟨rfl, trivial⟩ trivial rfl) ?_
              refine pdv_step0 [110, 112] [114] [] [] [] [(57, .v (.bool (r9.2 == 0)))] [] rfl rfl rfl rfl (by kernel_rfl) (by kernel_rfl) (by kernel_rfl) trivial (fun w0 X X0 σ0 => by refine po_evs (T := tab) 1 rfl rfl ?_; refine po_nil ?_; exact pn_end0 ⟨rfl, trivial⟩ trivial rfl) ?_
              refine pdv_step0 [4, 110] [116] [] [] [] [(58, .v (.int .i64 most3))] [] rfl rfl rfl rfl (by kernel_rfl) (by kernel_rfl) (by kernel_rfl) trivial (fun w0 X X0 σ0 => by refine po_evs (T := tab) 1 rfl rfl ?_; refine po_nil ?_; exact pn_end0 ⟨rfl, trivial⟩ trivial rfl) ?_
              refine pdv_step0 [110, 116] [118] [] [] [] [(59, .v (.bool (decide (most3 ≥ 1))))] [] rfl rfl rfl rfl (by kernel_rfl) (by kernel_rfl) (by kernel_rfl) trivial (fun w0 X X0 σ0 => by refine po_evs (T := tab) 1 rfl rfl ?_; refine po_nil ?_; exact pn_end0 ⟨rfl, trivial⟩ trivial rfl) ?_
              refine pdv_step0 [110, 118] [120] [] [] [] [(60, .v (.bool (decide (most3 ≥ 1))))] [] rfl rfl rfl rfl (by kernel_rfl) (by kernel_rfl) (by kernel_rfl) trivial (fun w0 X X0 σ0 => by refine po_evs (T := tab) 1 rfl rfl ?_; refine po_nil ?_; exact pn_end0 ⟨rfl, trivial⟩ trivial rfl) ?_
              refine pdv_split (t := 60) rfl ?_ ?_
              · refine pdv_step0 [4, 120] [122] [] [] [] [(61, .v (.int .i64 most3))] [] rfl rfl rfl rfl (by kernel_rfl) (by kernel_rfl) (by kernel_rfl) trivial (fun w0 X X0 σ0 => by refine po_evs (T := tab) 1 rfl rfl ?_; refine po_nil ?_; exact pn_end0 ⟨rfl, trivial⟩ trivial rfl) ?_
                refine pdv_step0 [120, 122] [124] [] [] [] [(62, .v (.bool (decide (most3 ≤ 400))))] [] rfl rfl rfl rfl (by kernel_rfl) (by kernel_rfl) (by kernel_rfl) trivial (fun w0 X X0 σ0 => by refine po_evs (T := tab) 1 rfl rfl ?_; refine po_nil ?_; exact pn_end0 ⟨rfl, trivial⟩ trivial rfl) ?_
                refine pdv_step0 [110, 120, 124] [126] [] [] [] [(63, .v (.bool (decide (most3 ≤ 400))))] [] rfl rfl rfl rfl (by kernel_rfl) (by kernel_rfl) (by kernel_rfl) trivial (fun w0 X X0 σ0 => by refine po_evs (T := tab) 1 rfl rfl ?_; refine po_nil ?_; exact pn_end0 ⟨rfl, trivial⟩ trivial rfl) ?_
                refine pdv_step0 [110, 114, 126] [128] [] [] [] [(64, .v (.bool (!((r9.2 == 0) == (decide (most3 ≤ 400))))))] [] rfl rfl rfl rfl (by kernel_rfl) (by kernel_rfl) (by kernel_rfl) trivial (fun w0 X X0 σ0 => by refine po_evs (T := tab) 1 rfl rfl ?_; refine po_nil ?_; exact pn_end0 ⟨rfl, trivial⟩ trivial rfl) ?_
                refine pdv_step0 [110, 128] [130] [] [] [] [(65, .v (.bool (!((r9.2 == 0) == (decide (most3 ≤ 400))))))] [] rfl rfl rfl rfl (by kernel_rfl) (by kernel_rfl) (by kernel_rfl) trivial (fun w0 X X0 σ0 => by refine po_evs (T := tab) 1 rfl rfl ?_; refine po_nil ?_; exact pn_end0 ⟨rfl, trivial⟩ trivial rfl) ?_
                refine pdv_step0 [130] [132] [] [] [] [(66, .v (.bool (!((r9.2 == 0) == (decide (most3 ≤ 400))))))] [] rfl rfl rfl rfl (by kernel_rfl) (by kernel_rfl) (by kernel_rfl) trivial (fun w0 X X0 σ0 => by refine po_evs (T := tab) 1 rfl rfl ?_; refine po_nil ?_; exact pn_end0 ⟨rfl, trivial⟩ trivial rfl) ?_
                refine pdv_split (t := 66) rfl ?_ ?_
                · refine pdv_step0 [132] [134] [] [] [] [(67, .tup [])] [] rfl rfl rfl rfl (by kernel_rfl) (by kernel_rfl) (by kernel_rfl) trivial (fun w0 X X0 σ0 => by refine po_evs (T := tab) 1 rfl rfl ?_; refine po_nil ?_; exact pn_end0 ⟨rfl, trivial⟩ trivial rfl) ?_
                  refine pdv_step0 [132] [136] [] [] [] [(68, .tup [])] [] rfl rfl rfl rfl (by kernel_rfl) (by kernel_rfl) (by kernel_rfl) trivial (fun w0 X X0 σ0 => by refine po_evs (T := tab) 1 rfl rfl ?_; refine po_nil ?_; exact pn_end0 ⟨rfl, trivial⟩ trivial rfl) ?_
                  refine pdv_step0 [132] [138] [] [] [] [(69, .tup [])] [] rfl rfl rfl rfl (by kernel_rfl) (by kernel_rfl) (by kernel_rfl) trivial (fun w0 X X0 σ0 => by refine po_evs (T := tab) 1 rfl rfl ?_; refine po_nil ?_; exact pn_end0 ⟨rfl, trivial⟩ trivial rfl) ?_
                  refine pdv_step0 [138] [140] [] [] [] [(70, .tup [])] [] rfl rfl rfl rfl (by kernel_rfl) (by kernel_rfl) (by kernel_rfl) trivial (fun w0 X X0 σ0 => by refine po_evs (T := tab) 1 rfl rfl ?_; refine po_nil ?_; exact pn_end0 ⟨rfl, trivial⟩ trivial rfl) ?_
                  refine pdv_step0 [138] [142] [] [] [] [(71, .tup [])] [] rfl rfl rfl rfl (by kernel_rfl) (by kernel_rfl) (by kernel_rfl) trivial (fun w0 X X0 σ0 => by refine po_evs (T := tab) 1 rfl rfl ?_; refine po_nil ?_; exact pn_end0 ⟨rfl, trivial⟩ trivial rfl) ?_
                  refine pdv_step0 [138] [144] [] [] [] [(72, .tup [])] [] rfl rfl rfl rfl (by kernel_rfl) (by kernel_rfl) (by kernel_rfl) trivial (fun w0 X X0 σ0 => by refine po_evs (T := tab) 1 rfl rfl ?_; refine po_nil ?_; exact pn_end0 ⟨rfl, trivial⟩ trivial rfl) ?_
                  refine pdv_step0 [138] [146] [] [] [] [(73, .tup [])] [] rfl rfl rfl rfl (by kernel_rfl) (by kernel_rfl) (by kernel_rfl) trivial (fun w0 X X0 σ0 => by refine po_evs (T := tab) 1 rfl rfl ?_; refine po_nil ?_; exact pn_end0 ⟨rfl, trivial⟩ trivial rfl) ?_
                  refine pdv_step0 [138] [148] [] [] [] [(74, .tup [])] [] rfl rfl rfl rfl (by kernel_rfl) (by kernel_rfl) (by kernel_rfl) trivial (fun w0 X X0 σ0 => by refine po_evs (T := tab) 1 rfl rfl ?_; refine po_nil ?_; exact pn_end0 ⟨rfl, trivial⟩ trivial rfl) ?_
                  refine pdv_step0 [132] [150] [] [] [] [(75, .tup [])] [] rfl rfl rfl rfl (by kernel_rfl) (by kernel_rfl) (by kernel_rfl) trivial (fun w0 X X0 σ0 => by refine po_evs (T := tab) 1 rfl rfl ?_; refine po_nil ?_; exact pn_end0 ⟨rfl, trivial⟩ trivial rfl) ?_
                  refine pdv_step0 [132, 150] [152] [] [] [] [(76, .v (.bool true))] [] rfl rfl rfl rfl (by kernel_rfl) (by kernel_rfl) (by kernel_rfl) trivial (fun w0 X X0 σ0 => by refine po_evs (T := tab) 1 rfl rfl ?_; refine po_nil ?_; exact pn_end0 ⟨rfl, trivial⟩ trivial rfl) ?_
                  refine pdv_step0 [152] [154] [] [] [] [(77, .v (.bool true))] [] rfl rfl rfl rfl (by kernel_rfl) (by kernel_rfl) (by kernel_rfl) trivial (fun w0 X X0 σ0 => by refine po_evs (T := tab) 1 rfl rfl ?_; refine po_nil ?_; exact pn_end0 ⟨rfl, trivial⟩ trivial rfl) ?_
                  refine pdv_step0 [154] [156] [] [] [] [(78, .tup [])] [] rfl rfl rfl rfl (by kernel_rfl) (by kernel_rfl) (by kernel_rfl) trivial (fun w0 X X0 σ0 => by refine po_evs (T := tab) 1 rfl rfl ?_; refine po_nil ?_; exact pn_end0 ⟨rfl, trivial⟩ trivial rfl) ?_
                  refine pdv_step0 [154] [158] [] [] [] [(79, .tup [])] [] rfl rfl rfl rfl (by kernel_rfl) (by kernel_rfl) (by kernel_rfl) trivial (fun w0 X X0 σ0 => by refine po_evs (T := tab) 1 rfl rfl ?_; refine po_nil ?_; exact pn_end0 ⟨rfl, trivial⟩ trivial rfl) ?_
                  refine pdv_step0 [154] [160] [] [] [] [(80, .tup [])] [] rfl rfl rfl rfl (by kernel_rfl) (by kernel_rfl) (by kernel_rfl) trivial (fun w0 X X0 σ0 => by refine po_evs (T := tab) 1 rfl rfl ?_; refine po_nil ?_; exact pn_end0 ⟨rfl, trivial⟩ trivial rfl) ?_
                  refine pdv_step0 [160] [162] [] [] [] [(81, .tup [])] [] rfl rfl rfl rfl (by kernel_rfl) (by kernel_rfl) (by kernel_rfl) trivial (fun w0 X X0 σ0 => by refine po_evs (T := tab) 1 rfl rfl ?_; refine po_nil ?_; exact pn_end0 ⟨rfl, trivial⟩ trivial rfl) ?_
                  refine pdv_step0 [160] [164] [] [] [] [(82, .tup [])] [] rfl rfl rfl rfl (by kernel_rfl) (by kernel_rfl) (by kernel_rfl) trivial (fun w0 X X0 σ0 => by refine po_evs (T := tab) 1 rfl rfl ?_; refine po_nil ?_; exact pn_end0 ⟨rfl, trivial⟩ trivial rfl) ?_
                  refine pdv_step0 [160] [166] [] [] [] [(83, .tup [])] [] rfl rfl rfl rfl (by kernel_rfl) (by kernel_rfl) (by kernel_rfl) trivial (fun w0 X X0 σ0 => by refine po_evs (T := tab) 1 rfl rfl ?_; refine po_nil ?_; exact pn_end0 ⟨rfl, trivial⟩ trivial rfl) ?_
                  refine pdv_step0 [166] [168] [] [] [] [(84, .tup [])] [] rfl rfl rfl rfl (by kernel_rfl) (by kernel_rfl) (by kernel_rfl) trivial (fun w0 X X0 σ0 => by refine po_evs (T := tab) 1 rfl rfl ?_; refine po_nil ?_; exact pn_end0 ⟨rfl, trivial⟩ trivial rfl) ?_
                  refine pdv_step0 [166] [170] [] [] [] [(85, .tup [])] [] rfl rfl rfl rfl (by kernel_rfl) (by kernel_rfl) (by kernel_rfl) trivial (fun w0 X X0 σ0 => by refine po_evs (T := tab) 1 rfl rfl ?_; refine po_nil ?_; exact pn_end0 ⟨rfl, trivial⟩ trivial rfl) ?_
                  refine pdv_step0 [166] [172] [] [] [] [(86, .tup [])] [] rfl rfl rfl rfl (by kernel_rfl) (by kernel_rfl) (by kernel_rfl) trivial (fun w0 X X0 σ0 => by refine po_evs (T := tab) 1 rfl rfl ?_; refine po_nil ?_; exact pn_end0 ⟨rfl, trivial⟩ trivial rfl) ?_
                  refine pdv_step0 [166] [174] [] [] [] [(87, .tup [])] [] rfl rfl rfl rfl (by kernel_rfl) (by kernel_rfl) (by kernel_rfl) trivial (fun w0 X X0 σ0 => by refine po_evs (T := tab) 1 rfl rfl ?_; refine po_nil ?_; exact pn_end0 ⟨rfl, trivial⟩ trivial rfl) ?_
                  refine pdv_step0 [160] [176] [] [] [] [(88, .tup [])] [] rfl rfl rfl rfl (by kernel_rfl) (by kernel_rfl) (by kernel_rfl) trivial (fun w0 X X0 σ0 => by refine po_evs (T := tab) 1 rfl rfl ?_; refine po_nil ?_; exact pn_end0 ⟨rfl, trivial⟩ trivial rfl) ?_
                  refine pdv_step0 [154] [178] [] [] [] [(89, .tup [])] [] rfl rfl rfl rfl (by kernel_rfl) (by kernel_rfl) (by kernel_rfl) trivial (fun w0 X X0 σ0 => by refine po_evs (T := tab) 1 rfl rfl ?_; refine po_nil ?_; exact pn_end0 ⟨rfl, trivial⟩ trivial rfl) ?_
                  refine pdv_step0 [154, 178] [180] [] [] [] [(90, .v (.bool true))] [] rfl rfl rfl rfl (by kernel_rfl) (by kernel_rfl) (by kernel_rfl) trivial (fun w0 X X0 σ0 => by refine po_evs (T := tab) 1 rfl rfl ?_; refine po_nil ?_; exact pn_end0 ⟨rfl, trivial⟩ trivial rfl) ?_
                  refine pdv_nil rfl rfl ?_
                  refine pn_seq (pw_then rfl ?_)
                  refine pw_seq ?_
                  refine pw_region ?_
                  refine po_evs (T := tab) 1 rfl rfl ?_
                  refine po_nil ?_
                  refine pn_seq ?_
                  exact pw_retN (T := tab) rfl rfl rfl ⟨rfl, rfl⟩ trivial rfl
                · refine pdv_step0 [26, 132] [134] [] [] [] [(67, .v (.int .i64 r9.2))] [] rfl rfl rfl rfl (by kernel_rfl) (by kernel_rfl) (by kernel_rfl) trivial (fun w0 X X0 σ0 => by refine po_evs (T := tab) 1 rfl rfl ?_; refine po_nil ?_; exact pn_end0 ⟨rfl, trivial⟩ trivial rfl) ?_
                  refine pdv_step0 [132, 134] [136] [] [] [] [(68, .v (.bool (r9.2 == 0)))] [] rfl rfl rfl rfl (by kernel_rfl) (by kernel_rfl) (by kernel_rfl) trivial (fun w0 X X0 σ0 => by refine po_evs (T := tab) 1 rfl rfl ?_; refine po_nil ?_; exact pn_end0 ⟨rfl, trivial⟩ trivial rfl) ?_
                  refine pdv_step0 [132, 136] [138] [] [] [] [(69, .v (.bool (r9.2 == 0)))] [] rfl rfl rfl rfl (by kernel_rfl) (by kernel_rfl) (by kernel_rfl) trivial (fun w0 X X0 σ0 => by refine po_evs (T := tab) 1 rfl rfl ?_; refine po_nil ?_; exact pn_end0 ⟨rfl, trivial⟩ trivial rfl) ?_
                  refine pdv_split (t := 69) rfl ?_ ?_
                  · refine pdv_step0 [24, 25, 138] [140] [] [12] [12] [(70, .agg (cForest r9.1))] [(12, .box [.sl 10 false (r9.1.Nodes.map cNode), .v (.int .i64 r9.1.Most)])] rfl rfl rfl rfl (by kernel_rfl) (by kernel_rfl) (by kernel_rfl) ⟨rfl, trivial⟩ (fun w0 X X0 σ0 => by refine po_evs (T := tab) 1 rfl rfl ?_; refine po_nil ?_; exact pn_end0 ⟨rfl, trivial⟩ ⟨rfl, trivial⟩ rfl) ?_
                    refine pdv_step0 [4, 138] [142] [] [] [] [(71, .v (.int .i64 most3))] [] rfl rfl rfl rfl (by kernel_rfl) (by kernel_rfl) (by kernel_rfl) trivial (fun w0 X X0 σ0 => by refine po_evs (T := tab) 1 rfl rfl ?_; refine po_nil ?_; exact pn_end0 ⟨rfl, trivial⟩ trivial rfl) ?_
                    refine pdv_step (M := (Instarref03_New_m fu most3)) (ment := [(144, [])]) [138, 142] [144] [] [] [] (fun r12 => [(72, .agg (cForest r12))]) (fun r12 => []) rfl rfl (fun _ => rfl) (fun _ => rfl) (by kernel_rfl) (by kernel_rfl) (fun _ => by kernel_rfl) (fun _ => trivial) (fun w0 X X0 σ0 => by refine po_call (enc := fun (r12 : Forest) => .agg (cForest r12)) (qs := [.v (.int .i64 most3)]) (Instarref03_New_ok fu most3) rfl rfl ⟨⟨_, rfl, .rfl⟩, trivial⟩ (fun _ => rfl) call21 rfl rfl fun r12 hr12 => ?_; refine po_nil ?_; exact pn_end ⟨rfl, trivial⟩ trivial rfl) fun r12 hr12 => ?_
                    refine pdv_step (M := (Instarref03_Same_m fu r9.1 r12)) (ment := [(146, [])]) [138, 140, 144] [146] [] [] [] (fun r13 => [(73, .v (.bool r13))]) (fun r13 => []) rfl rfl (fun _ => rfl) (fun _ => rfl) (by kernel_rfl) (by kernel_rfl) (fun _ => by kernel_rfl) (fun _ => trivial) (fun w0 X X0 σ0 => by refine po_call (enc := fun (r13 : Bool) => .v (.bool r13)) (qs := [.agg (cForest r9.1), .agg (cForest r12)]) (Instarref03_Same_ok fu r9.1 r12) rfl rfl ⟨⟨_, rfl, .rfl⟩, ⟨_, rfl, .rfl⟩, trivial⟩ (fun _ => rfl) call20 rfl rfl fun r13 hr13 => ?_; refine po_nil ?_; exact pn_end ⟨rfl, trivial⟩ trivial rfl) fun r13 hr13 => ?_
                    refine pdv_step0 [138, 146] [148] [] [] [] [(74, .v (.bool (!r13)))] [] rfl rfl rfl rfl (by kernel_rfl) (by kernel_rfl) (by kernel_rfl) trivial (fun w0 X X0 σ0 => by refine po_evs (T := tab) 1 rfl rfl ?_; refine po_nil ?_; exact pn_end0 ⟨rfl, trivial⟩ trivial rfl) ?_
                    refine pdv_step0 [132, 138, 148] [150] [] [] [] [(75, .v (.bool (!r13)))] [] rfl rfl rfl rfl (by kernel_rfl) (by kernel_rfl) (by kernel_rfl) trivial (fun w0 X X0 σ0 => by refine po_evs (T := tab) 1 rfl rfl ?_; refine po_nil ?_; exact pn_end0 ⟨rfl, trivial⟩ trivial rfl) ?_
                    refine pdv_step0 [132, 150] [152] [] [] [] [(76, .v (.bool (!r13)))] [] rfl rfl rfl rfl (by kernel_rfl) (by kernel_rfl) (by kernel_rfl) trivial (fun w0 X X0 σ0 => by refine po_evs (T := tab) 1 rfl rfl ?_; refine po_nil ?_; exact pn_end0 ⟨rfl, trivial⟩ trivial rfl) ?_
                    refine pdv_step0 [152] [154] [] [] [] [(77, .v (.bool (!r13)))] [] rfl rfl rfl rfl (by kernel_rfl) (by kernel_rfl) (by kernel_rfl) trivial (fun w0 X X0 σ0 => by refine po_evs (T := tab) 1 rfl rfl ?_; refine po_nil ?_; exact pn_end0 ⟨rfl, trivial⟩ trivial rfl) ?_
                    refine pdv_split (t := 77) rfl ?_ ?_
                    · refine pdv_step0 [154] [156] [] [] [] [(78, .tup [])] [] rfl rfl rfl rfl (by kernel_rfl) (by kernel_rfl) (by kernel_rfl) trivial (fun w0 X X0 σ0 => by refine po_evs (T := tab) 1 rfl rfl ?_; refine po_nil ?_; exact pn_end0 ⟨rfl, trivial⟩ trivial rfl) ?_
                      refine pdv_step0 [154] [158] [] [] [] [(79, .tup [])] [] rfl rfl rfl rfl (by kernel_rfl) (by kernel_rfl) (by kernel_rfl) trivial (fun w0 X X0 σ0 => by refine po_evs (T := tab) 1 rfl rfl ?_; refine po_nil ?_; exact pn_end0 ⟨rfl, trivial⟩ trivial rfl) ?_
                      refine pdv_step0 [154] [160] [] [] [] [(80, .tup [])] [] rfl rfl rfl rfl (by kernel_rfl) (by kernel_rfl) (by kernel_rfl) trivial (fun w0 X X0 σ0 => by refine po_evs (T := tab) 1 rfl rfl ?_; refine po_nil ?_; exact pn_end0 ⟨rfl, trivial⟩ trivial rfl) ?_
                      refine pdv_step0 [160] [162] [] [] [] [(81, .tup [])] [] rfl rfl rfl rfl (by kernel_rfl) (by kernel_rfl) (by kernel_rfl) trivial (fun w0 X X0 σ0 => by refine po_evs (T := tab) 1 rfl rfl ?_; refine po_nil ?_; exact pn_end0 ⟨rfl, trivial⟩ trivial rfl) ?_
                      refine pdv_step0 [160] [164] [] [] [] [(82, .tup [])] [] rfl rfl rfl rfl (by kernel_rfl) (by kernel_rfl) (by kernel_rfl) trivial (fun w0 X X0 σ0 => by refine po_evs (T := tab) 1 rfl rfl ?_; refine po_nil ?_; exact pn_end0 ⟨rfl, trivial⟩ trivial rfl) ?_
                      refine pdv_step0 [160] [166] [] [] [] [(83, .tup [])] [] rfl rfl rfl rfl (by kernel_rfl) (by kernel_rfl) (by kernel_rfl) trivial (fun w0 X X0 σ0 => by refine po_evs (T := tab) 1 rfl rfl ?_; refine po_nil ?_; exact pn_end0 ⟨rfl, trivial⟩ trivial rfl) ?_
                      refine pdv_step0 [166] [168] [] [] [] [(84, .tup [])] [] rfl rfl rfl rfl (by kernel_rfl) (by kernel_rfl) (by kernel_rfl) trivial (fun w0 X X0 σ0 => by refine po_evs (T := tab) 1 rfl rfl ?_; refine po_nil ?_; exact pn_end0 ⟨rfl, trivial⟩ trivial rfl) ?_
                      refine pdv_step0 [166] [170] [] [] [] [(85, .tup [])] [] rfl rfl rfl rfl (by kernel_rfl) (by kernel_rfl) (by kernel_rfl) trivial (fun w0 X X0 σ0 => by refine po_evs (T := tab) 1 rfl rfl ?_; refine po_nil ?_; exact pn_end0 ⟨rfl, trivial⟩ trivial rfl) ?_
                      refine pdv_step0 [166] [172] [] [] [] [(86, .tup [])] [] rfl rfl rfl rfl (by kernel_rfl) (by kernel_rfl) (by kernel_rfl) trivial (fun w0 X X0 σ0 => by refine po_evs (T := tab) 1 rfl rfl ?_; refine po_nil ?_; exact pn_end0 ⟨rfl, trivial⟩ trivial rfl) ?_
                      refine pdv_step0 [166] [174] [] [] [] [(87, .tup [])] [] rfl rfl rfl rfl (by kernel_rfl) (by kernel_rfl) (by kernel_rfl) trivial (fun w0 X X0 σ0 => by refine po_evs (T := tab) 1 rfl rfl ?_; refine po_nil ?_; exact pn_end0 ⟨rfl, trivial⟩ trivial rfl) ?_
                      refine pdv_step0 [160] [176] [] [] [] [(88, .tup [])] [] rfl rfl rfl rfl (by kernel_rfl) (by kernel_rfl) (by kernel_rfl) trivial (fun w0 X X0 σ0 => by refine po_evs (T := tab) 1 rfl rfl ?_; refine po_nil ?_; exact pn_end0 ⟨rfl, trivial⟩ trivial rfl) ?_
                      refine pdv_step0 [154] [178] [] [] [] [(89, .tup [])] [] rfl rfl rfl rfl (by kernel_rfl) (by kernel_rfl) (by kernel_rfl) trivial (fun w0 X X0 σ0 => by refine po_evs (T := tab) 1 rfl rfl ?_; refine po_nil ?_; exact pn_end0 ⟨rfl, trivial⟩ trivial rfl) ?_
                      refine pdv_step0 [154, 178] [180] [] [] [] [(90, .v (.bool true))] [] rfl rfl rfl rfl (by kernel_rfl) (by kernel_rfl) (by kernel_rfl) trivial (fun w0 X X0 σ0 => by refine po_evs (T := tab) 1 rfl rfl ?_; refine po_nil ?_; exact pn_end0 ⟨rfl, trivial⟩ trivial rfl) ?_
                      refine pdv_nil rfl rfl ?_
                      refine pn_seq (pw_then rfl ?_)
                      refine pw_seq ?_
                      refine pw_region ?_
                      refine po_evs (T := tab) 1 rfl rfl ?_
                      refine po_nil ?_
                      refine pn_seq ?_
                      exact pw_retN (T := tab) rfl rfl rfl ⟨rfl, rfl⟩ trivial rfl
                    · refine pdv_step0 [26, 154] [156] [] [] [] [(78, .v (.int .i64 r9.2))] [] rfl rfl rfl rfl (by kernel_rfl) (by kernel_rfl) (by kernel_rfl) trivial (fun w0 X X0 σ0 => by refine po_evs (T := tab) 1 rfl rfl ?_; refine po_nil ?_; exact pn_end0 ⟨rfl, trivial⟩ trivial rfl) ?_
                      refine pdv_step0 [154, 156] [158] [] [] [] [(79, .v (.bool (r9.2 != 0)))] [] rfl rfl rfl rfl (by kernel_rfl) (by kernel_rfl) (by kernel_rfl) trivial (fun w0 X X0 σ0 => by refine po_evs (T := tab) 1 rfl rfl ?_; refine po_nil ?_; exact pn_end0 ⟨rfl, trivial⟩ trivial rfl) ?_
                      refine pdv_step0 [154, 158] [160] [] [] [] [(80, .v (.bool (r9.2 != 0)))] [] rfl rfl rfl rfl (by kernel_rfl) (by kernel_rfl) (by kernel_rfl) trivial (fun w0 X X0 σ0 => by refine po_evs (T := tab) 1 rfl rfl ?_; refine po_nil ?_; exact pn_end0 ⟨rfl, trivial⟩ trivial rfl) ?_
                      refine pdv_split (t := 80) rfl ?_ ?_
                      · refine pdv_step0 [26, 160] [162] [] [] [] [(81, .v (.int .i64 r9.2))] [] rfl rfl rfl rfl (by kernel_rfl) (by kernel_rfl) (by kernel_rfl) trivial (fun w0 X X0 σ0 => by refine po_evs (T := tab) 1 rfl rfl ?_; refine po_nil ?_; exact pn_end0 ⟨rfl, trivial⟩ trivial rfl) ?_
                        refine pdv_step0 [160, 162] [164] [] [] [] [(82, .v (.bool (r9.2 != 1)))] [] rfl rfl rfl rfl (by kernel_rfl) (by kernel_rfl) (by kernel_rfl) trivial (fun w0 X X0 σ0 => by refine po_evs (T := tab) 1 rfl rfl ?_; refine po_nil ?_; exact pn_end0 ⟨rfl, trivial⟩ trivial rfl) ?_
                        refine pdv_step0 [160, 164] [166] [] [] [] [(83, .v (.bool (r9.2 != 1)))] [] rfl rfl rfl rfl (by kernel_rfl) (by kernel_rfl) (by kernel_rfl) trivial (fun w0 X X0 σ0 => by refine po_evs (T := tab) 1 rfl rfl ?_; refine po_nil ?_; exact pn_end0 ⟨rfl, trivial⟩ trivial rfl) ?_
                        refine pdv_split (t := 83) rfl ?_ ?_
                        · refine pdv_step0 [166] [168] [] [] [] [(84, .tup [])] [] rfl rfl rfl rfl (by kernel_rfl) (by kernel_rfl) (by kernel_rfl) trivial (fun w0 X X0 σ0 => by refine po_evs (T := tab) 1 rfl rfl ?_; refine po_nil ?_; exact pn_end0 ⟨rfl, trivial⟩ trivial rfl) ?_
                          refine pdv_step0 [166] [170] [] [] [] [(85, .tup [])] [] rfl rfl rfl rfl (by kernel_rfl) (by kernel_rfl) (by kernel_rfl) trivial (fun w0 X X0 σ0 => by refine po_evs (T := tab) 1 rfl rfl ?_; refine po_nil ?_; exact pn_end0 ⟨rfl, trivial⟩ trivial rfl) ?_
                          refine pdv_step0 [166] [172] [] [] [] [(86, .tup [])] [] rfl rfl rfl rfl (by kernel_rfl) (by kernel_rfl) (by kernel_rfl) trivial (fun w0 X X0 σ0 => by refine po_evs (T := tab) 1 rfl rfl ?_; refine po_nil ?_; exact pn_end0 ⟨rfl, trivial⟩ trivial rfl) ?_
                          refine pdv_step0 [166] [174] [] [] [] [(87, .tup [])] [] rfl rfl rfl rfl (by kernel_rfl) (by kernel_rfl) (by kernel_rfl) trivial (fun w0 X X0 σ0 => by refine po_evs (T := tab) 1 rfl rfl ?_; refine po_nil ?_; exact pn_end0 ⟨rfl, trivial⟩ trivial rfl) ?_
                          refine pdv_step0 [160, 166, 174] [176] [] [] [] [(88, .v (.bool true))] [] rfl rfl rfl rfl (by kernel_rfl) (by kernel_rfl) (by kernel_rfl) trivial (fun w0 X X0 σ0 => by refine po_evs (T := tab) 1 rfl rfl ?_; refine po_nil ?_; exact pn_end0 ⟨rfl, trivial⟩ trivial rfl) ?_
                          refine pdv_step0 [154, 160, 176] [178] [] [] [] [(89, .v (.bool true))] [] rfl rfl rfl rfl (by kernel_rfl) (by kernel_rfl) (by kernel_rfl) trivial (fun w0 X X0 σ0 => by refine po_evs (T := tab) 1 rfl rfl ?_; refine po_nil ?_; exact pn_end0 ⟨rfl, trivial⟩ trivial rfl) ?_
                          refine pdv_step0 [154, 178] [180] [] [] [] [(90, .v (.bool true))] [] rfl rfl rfl rfl (by kernel_rfl) (by kernel_rfl) (by kernel_rfl) trivial (fun w0 X X0 σ0 => by refine po_evs (T := tab) 1 rfl rfl ?_; refine po_nil ?_; exact pn_end0 ⟨rfl, trivial⟩ trivial rfl) ?_
                          refine pdv_nil rfl rfl ?_
                          refine pn_seq (pw_then rfl ?_)
                          refine pw_seq ?_
                          refine pw_region ?_
                          refine po_evs (T := tab) 1 rfl rfl ?_
                          refine po_nil ?_
                          refine pn_seq ?_
                          exact pw_retN (T := tab) rfl rfl rfl ⟨rfl, rfl⟩ trivial rfl
                        · refine pdv_step0 [24, 25, 166] [168] [] [12] [12] [(84, .agg (cForest r9.1))] [(12, .box [.sl 10 false (r9.1.Nodes.map cNode), .v (.int .i64 r9.1.Most)])] rfl rfl rfl rfl (by kernel_rfl) (by kernel_rfl) (by kernel_rfl) ⟨rfl, trivial⟩ (fun w0 X X0 σ0 => by refine po_evs (T := tab) 1 rfl rfl ?_; refine po_nil ?_; exact pn_end0 ⟨rfl, trivial⟩ ⟨rfl, trivial⟩ rfl) ?_
                          refine pdv_step0 [166] [170] [] [] [] [(85, .agg [.v (.slice none 0 0), .v (.int .i64 0)])] [] rfl rfl rfl rfl (by kernel_rfl) (by kernel_rfl) (by kernel_rfl) trivial (fun w0 X X0 σ0 => by refine po_build (T := tab) rfl rfl rfl rfl rfl rfl rfl ?_; refine po_nil ?_; exact pn_end0 ⟨rfl, trivial⟩ trivial rfl) ?_
                          refine pdv_step (M := (Instarref03_Same_m fu r9.1 (⟨[], 0⟩ : Forest))) (ment := [(172, [])]) [166, 168, 170] [172] [] [] [] (fun r14 => [(86, .v (.bool r14))]) (fun r14 => []) rfl rfl (fun _ => rfl) (fun _ => rfl) (by kernel_rfl) (by kernel_rfl) (fun _ => by kernel_rfl) (fun _ => trivial) (fun w0 X X0 σ0 => by refine po_call (enc := fun (r14 : Bool) => .v (.bool r14)) (qs := [.agg (cForest r9.1), .agg (cForest (⟨[], 0⟩ : Forest))]) (Instarref03_Same_ok fu r9.1 (⟨[], 0⟩ : Forest)) rfl rfl ⟨⟨_, rfl, .rfl⟩, ⟨_, rfl, (.agg ⟨.nil, .rfl, trivial⟩)⟩, trivial⟩ (fun _ => rfl) call20 rfl rfl fun r14 hr14 => ?_; refine po_nil ?_; exact pn_end ⟨rfl, trivial⟩ trivial rfl) fun r14 hr14 => ?_
                          refine pdv_step0 [166, 172] [174] [] [] [] [(87, .v (.bool (!r14)))] [] rfl rfl rfl rfl (by kernel_rfl) (by kernel_rfl) (by kernel_rfl) trivial (fun w0 X X0 σ0 => by refine po_evs (T := tab) 1 rfl rfl ?_; refine po_nil ?_; exact pn_end0 ⟨rfl, trivial⟩ trivial rfl) ?_
                          refine pdv_step0 [160, 166, 174] [176] [] [] [] [(88, .v (.bool (!r14)))] [] rfl rfl rfl rfl (by kernel_rfl) (by kernel_rfl) (by kernel_rfl) trivial (fun w0 X X0 σ0 => by refine po_evs (T := tab) 1 rfl rfl ?_; refine po_nil ?_; exact pn_end0 ⟨rfl, trivial⟩ trivial rfl) ?_
                          refine pdv_step0 [154, 160, 176] [178] [] [] [] [(89, .v (.bool (!r14)))] [] rfl rfl rfl rfl (by kernel_rfl) (by kernel_rfl) (by kernel_rfl) trivial (fun w0 X X0 σ0 => by refine po_evs (T := tab) 1 rfl rfl ?_; refine po_nil ?_; exact pn_end0 ⟨rfl, trivial⟩ trivial rfl) ?_
                          refine pdv_step0 [154, 178] [180] [] [] [] [(90, .v (.bool (!r14)))] [] rfl rfl rfl rfl (by kernel_rfl) (by kernel_rfl) (by kernel_rfl) trivial (fun w0 X X0 σ0 => by refine po_evs (T := tab) 1 rfl rfl ?_; refine po_nil ?_; exact pn_end0 ⟨rfl, trivial⟩ trivial rfl) ?_
                          refine pdv_nil rfl rfl ?_
                          refine pn_seq ?_
                          refine pw_cnd rfl ?_ ?_
                          · refine pw_seq ?_
                            refine pw_region ?_
                            refine po_evs (T := tab) 1 rfl rfl ?_
                            refine po_nil ?_
                            refine pn_seq ?_
                            exact pw_retN (T := tab) rfl rfl rfl ⟨rfl, rfl⟩ trivial rfl
                          · refine pw_skip ?_
                            exact pn_sub' (hj1 ()) ⟨rfl, rfl, rfl, rfl, rfl, rfl, rfl, rfl, trivial⟩ ⟨rfl, rfl, rfl, trivial⟩ rfl
                      · refine pdv_step0 [160] [162] [] [] [] [(81, .tup [])] [] rfl rfl rfl rfl (by kernel_rfl) (by kernel_rfl) (by kernel_rfl) trivial (fun w0 X X0 σ0 => by refine po_evs (T := tab) 1 rfl rfl ?_; refine po_nil ?_; exact pn_end0 ⟨rfl, trivial⟩ trivial rfl) ?_
                        refine pdv_step0 [160] [164] [] [] [] [(82, .tup [])] [] rfl rfl rfl rfl (by kernel_rfl) (by kernel_rfl) (by kernel_rfl) trivial (fun w0 X X0 σ0 => by refine po_evs (T := tab) 1 rfl rfl ?_; refine po_nil ?_; exact pn_end0 ⟨rfl, trivial⟩ trivial rfl) ?_
                        refine pdv_step0 [160] [166] [] [] [] [(83, .tup [])] [] rfl rfl rfl rfl (by kernel_rfl) (by kernel_rfl) (by kernel_rfl) trivial (fun w0 X X0 σ0 => by refine po_evs (T := tab) 1 rfl rfl ?_; refine po_nil ?_; exact pn_end0 ⟨rfl, trivial⟩ trivial rfl) ?_
                        refine pdv_step0 [166] [168] [] [] [] [(84, .tup [])] [] rfl rfl rfl rfl (by kernel_rfl) (by kernel_rfl) (by kernel_rfl) trivial (fun w0 X X0 σ0 => by refine po_evs (T := tab) 1 rfl rfl ?_; refine po_nil ?_; exact pn_end0 ⟨rfl, trivial⟩ trivial rfl) ?_
                        refine pdv_step0 [166] [170] [] [] [] [(85, .tup [])] [] rfl rfl rfl rfl (by kernel_rfl) (by kernel_rfl) (by kernel_rfl) trivial (fun w0 X X0 σ0 => by refine po_evs (T := tab) 1 rfl rfl ?_; refine po_nil ?_; exact pn_end0 ⟨rfl, trivial⟩ trivial rfl) ?_
                        refine pdv_step0 [166] [172] [] [] [] [(86, .tup [])] [] rfl rfl rfl rfl (by kernel_rfl) (by kernel_rfl) (by kernel_rfl) trivial (fun w0 X X0 σ0 => by refine po_evs (T := tab) 1 rfl rfl ?_; refine po_nil ?_; exact pn_end0 ⟨rfl, trivial⟩ trivial rfl) ?_
                        refine pdv_step0 [166] [174] [] [] [] [(87, .tup [])] [] rfl rfl rfl rfl (by kernel_rfl) (by kernel_rfl) (by kernel_rfl) trivial (fun w0 X X0 σ0 => by refine po_evs (T := tab) 1 rfl rfl ?_; refine po_nil ?_; exact pn_end0 ⟨rfl, trivial⟩ trivial rfl) ?_
                        refine pdv_step0 [160] [176] [] [] [] [(88, .tup [])] [] rfl rfl rfl rfl (by kernel_rfl) (by kernel_rfl) (by kernel_rfl) trivial (fun w0 X X0 σ0 => by refine po_evs (T := tab) 1 rfl rfl ?_; refine po_nil ?_; exact pn_end0 ⟨rfl, trivial⟩ trivial rfl) ?_
                        refine pdv_step0 [154, 160, 176] [178] [] [] [] [(89, .v (.bool false))] [] rfl rfl rfl rfl (by kernel_rfl) (by kernel_rfl) (by kernel_rfl) trivial (fun w0 X X0 σ0 => by refine po_evs (T := tab) 1 rfl rfl ?_; refine po_nil ?_; exact pn_end0 ⟨rfl, trivial⟩ trivial rfl) ?_
                        refine pdv_step0 [154, 178] [180] [] [] [] [(90, .v (.bool false))] [] rfl rfl rfl rfl (by kernel_rfl) (by kernel_rfl) (by kernel_rfl) trivial (fun w0 X X0 σ0 => by refine po_evs (T := tab) 1 rfl rfl ?_; refine po_nil ?_; exact pn_end0 ⟨rfl, trivial⟩ trivial rfl) ?_
                        refine pdv_nil rfl rfl ?_
                        refine pn_seq (pw_else rfl ?_)
                        refine pw_skip ?_
                        exact pn_sub' (hj1 ()) ⟨rfl, rfl, rfl, rfl, rfl, rfl, rfl, rfl, trivial⟩ ⟨rfl, rfl, rfl, trivial⟩ rfl
                  · refine pdv_step0 [138] [140] [] [] [] [(70, .tup [])] [] rfl rfl rfl rfl (by kernel_rfl) (by kernel_rfl) (by kernel_rfl) trivial (fun w0 X X0 σ0 => by refine po_evs (T := tab) 1 rfl rfl ?_; refine po_nil ?_; exact pn_end0 ⟨rfl, trivial⟩ trivial rfl) ?_
                    refine pdv_step0 [138] [142] [] [] [] [(71, .tup [])] [] rfl rfl rfl rfl (by kernel_rfl) (by kernel_rfl) (by kernel_rfl) trivial (fun w0 X X0 σ0 => by refine po_evs (T := tab) 1 rfl rfl ?_; refine po_nil ?_; exact pn_end0 ⟨rfl, trivial⟩ trivial rfl) ?_
                    refine pdv_step0 [138] [144] [] [] [] [(72, .tup [])] [] rfl rfl rfl rfl (by kernel_rfl) (by kernel_rfl) (by kernel_rfl) trivial (fun w0 X X0 σ0 => by refine po_evs (T := tab) 1 rfl rfl ?_; refine po_nil ?_; exact pn_end0 ⟨rfl, trivial⟩ trivial rfl) ?_
                    refine pdv_step0 [138] [146] [] [] [] [(73, .tup [])] [] rfl rfl rfl rfl (by kernel_rfl) (by kernel_rfl) (by kernel_rfl) trivial (fun w0 X X0 σ0 => by refine po_evs (T := tab) 1 rfl rfl ?_; refine po_nil ?_; exact pn_end0 ⟨rfl, trivial⟩ trivial rfl) ?_
                    refine pdv_step0 [138] [148] [] [] [] [(74, .tup [])] [] rfl rfl rfl rfl (by kernel_rfl) (by kernel_rfl) (by kernel_rfl) trivial (fun w0 X X0 σ0 => by refine po_evs (T := tab) 1 rfl rfl ?_; refine po_nil ?_; exact pn_end0 ⟨rfl, trivial⟩ trivial rfl) ?_
                    refine pdv_step0 [132, 138, 148] [150] [] [] [] [(75, .v (.bool false))] [] rfl rfl rfl rfl (by kernel_rfl) (by kernel_rfl) (by kernel_rfl) trivial (fun w0 X X0 σ0 => by refine po_evs (T := tab) 1 rfl rfl ?_; refine po_nil ?_; exact pn_end0 ⟨rfl, trivial⟩ trivial rfl) ?_
                    refine pdv_step0 [132, 150] [152] [] [] [] [(76, .v (.bool false))] [] rfl rfl rfl rfl (by kernel_rfl) (by kernel_rfl) (by kernel_rfl) trivial (fun w0 X X0 σ0 => by refine po_evs (T := tab) 1 rfl rfl ?_; refine po_nil ?_; exact pn_end0 ⟨rfl, trivial⟩ trivial rfl) ?_
                    refine pdv_step0 [152] [154] [] [] [] [(77, .v (.bool false))] [] rfl rfl rfl rfl (by kernel_rfl) (by kernel_rfl) (by kernel_rfl) trivial (fun w0 X X0 σ0 => by refine po_evs (T := tab) 1 rfl rfl ?_; refine po_nil ?_; exact pn_end0 ⟨rfl, trivial⟩ trivial rfl) ?_
                    refine pdv_step0 [26, 154] [156] [] [] [] [(78, .v (.int .i64 r9.2))] [] rfl rfl rfl rfl (by kernel_rfl) (by kernel_rfl) (by kernel_rfl) trivial (fun w0 X X0 σ0 => by refine po_evs (T := tab) 1 rfl rfl ?_; refine po_nil ?_; exact pn_end0 ⟨rfl, trivial⟩ trivial rfl) ?_
                    refine pdv_step0 [154, 156] [158] [] [] [] [(79, .v (.bool (r9.2 != 0)))] [] rfl rfl rfl rfl (by kernel_rfl) (by kernel_rfl) (by kernel_rfl) trivial (fun w0 X X0 σ0 => by refine po_evs (T := tab) 1 rfl rfl ?_; refine po_nil ?_; exact pn_end0 ⟨rfl, trivial⟩ trivial rfl) ?_
                    refine pdv_step0 [154, 158] [160] [] [] [] [(80, .v (.bool (r9.2 != 0)))] [] rfl rfl rfl rfl (by kernel_rfl) (by kernel_rfl) (by kernel_rfl) trivial (fun w0 X X0 σ0 => by refine po_evs (T := tab) 1 rfl rfl ?_; refine po_nil ?_; exact pn_end0 ⟨rfl, trivial⟩ trivial rfl) ?_
                    refine pdv_split (t := 80) rfl ?_ ?_
                    · refine pdv_step0 [26, 160] [162] [] [] [] [(81, .v (.int .i64 r9.2))] [] rfl rfl rfl rfl (by kernel_rfl) (by kernel_rfl) (by kernel_rfl) trivial (fun w0 X X0 σ0 => by refine po_evs (T := tab) 1 rfl rfl ?_; refine po_nil ?_; exact pn_end0 ⟨rfl, trivial⟩ trivial rfl) ?_
                      refine pdv_step0 [160, 162] [164] [] [] [] [(82, .v (.bool (r9.2 != 1)))] [] rfl rfl rfl rfl (by kernel_rfl) (by kernel_rfl) (by kernel_rfl) trivial (fun w0 X X0 σ0 => by refine po_evs (T := tab) 1 rfl rfl ?_; refine po_nil ?_; exact pn_end0 ⟨rfl, trivial⟩ trivial rfl) ?_
                      refine pdv_step0 [160, 164] [166] [] [] [] [(83, .v (.bool (r9.2 != 1)))] [] rfl rfl rfl rfl (by kernel_rfl) (by kernel_rfl) (by kernel_rfl) trivial (fun w0 X X0 σ0 => by refine po_evs (T := tab) 1 rfl rfl ?_; refine po_nil ?_; exact pn_end0 ⟨rfl, trivial⟩ trivial rfl) ?_
                      refine pdv_split (t := 83) rfl ?_ ?_
                      · refine pdv_step0 [166] [168] [] [] [] [(84, .tup [])] [] rfl rfl rfl rfl (by kernel_rfl) (by kernel_rfl) (by kernel_rfl) trivial (fun w0 X X0 σ0 => by refine po_evs (T := tab) 1 rfl rfl ?_; refine po_nil ?_; exact pn_end0 ⟨rfl, trivial⟩ trivial rfl) ?_
                        refine pdv_step0 [166] [170] [] [] [] [(85, .tup [])] [] rfl rfl rfl rfl (by kernel_rfl) (by kernel_rfl) (by kernel_rfl) trivial (fun w0 X X0 σ0 => by refine po_evs (T := tab) 1 rfl rfl ?_; refine po_nil ?_; exact pn_end0 ⟨rfl, trivial⟩ trivial rfl) ?_
                        refine pdv_step0 [166] [172] [] [] [] [(86, .tup [])] [] rfl rfl rfl rfl (by kernel_rfl) (by kernel_rfl) (by kernel_rfl) trivial (fun w0 X X0 σ0 => by refine po_evs (T := tab) 1 rfl rfl ?_; refine po_nil ?_; exact pn_end0 ⟨rfl, trivial⟩ trivial rfl) ?_
                        refine pdv_step0 [166] [174] [] [] [] [(87, .tup [])] [] rfl rfl rfl rfl (by kernel_rfl) (by kernel_rfl) (by kernel_rfl) trivial (fun w0 X X0 σ0 => by refine po_evs (T := tab) 1 rfl rfl ?_; refine po_nil ?_; exact pn_end0 ⟨rfl, trivial⟩ trivial rfl) ?_
                        refine pdv_step0 [160, 166, 174] [176] [] [] [] [(88, .v (.bool true))] [] rfl rfl rfl rfl (by kernel_rfl) (by kernel_rfl) (by kernel_rfl) trivial (fun w0 X X0 σ0 => by refine po_evs (T := tab) 1 rfl rfl ?_; refine po_nil ?_; exact pn_end0 ⟨rfl, trivial⟩ trivial rfl) ?_
                        refine pdv_step0 [154, 160, 176] [178] [] [] [] [(89, .v (.bool true))] [] rfl rfl rfl rfl (by kernel_rfl) (by kernel_rfl) (by kernel_rfl) trivial (fun w0 X X0 σ0 => by refine po_evs (T := tab) 1 rfl rfl ?_; refine po_nil ?_; exact pn_end0 ⟨rfl, trivial⟩ trivial rfl) ?_
                        refine pdv_step0 [154, 178] [180] [] [] [] [(90, .v (.bool true))] [] rfl rfl rfl rfl (by kernel_rfl) (by kernel_rfl) (by kernel_rfl) trivial (fun w0 X X0 σ0 => by refine po_evs (T := tab) 1 rfl rfl ?_; refine po_nil ?_; exact pn_end0 ⟨rfl, trivial⟩ trivial rfl) ?_
                        refine pdv_nil rfl rfl ?_
                        refine pn_seq (pw_then rfl ?_)
                        refine pw_seq ?_
                        refine pw_region ?_
                        refine po_evs (T := tab) 1 rfl rfl ?_
                        refine po_nil ?_
                        refine pn_seq ?_
                        exact pw_retN (T := tab) rfl rfl rfl ⟨rfl, rfl⟩ trivial rfl
                      · refine pdv_step0 [24, 25, 166] [168] [] [12] [12] [(84, .agg (cForest r9.1))] [(12, .box [.sl 10 false (r9.1.Nodes.map cNode), .v (.int .i64 r9.1.Most)])] rfl rfl rfl rfl (by kernel_rfl) (by kernel_rfl) (by kernel_rfl) ⟨rfl, trivial⟩ (fun w0 X X0 σ0 => by refine po_evs (T := tab) 1 rfl rfl ?_; refine po_nil ?_; exact pn_end0 ⟨rfl, trivial⟩ ⟨rfl, trivial⟩ rfl) ?_
                        refine pdv_step0 [166] [170] [] [] [] [(85, .agg [.v (.slice none 0 0), .v (.int .i64 0)])] [] rfl rfl rfl rfl (by kernel_rfl) (by kernel_rfl) (by kernel_rfl) trivial (fun w0 X X0 σ0 => by refine po_build (T := tab) rfl rfl rfl rfl rfl rfl rfl ?_; refine po_nil ?_; exact pn_end0 ⟨rfl, trivial⟩ trivial rfl) ?_
                        refine pdv_step (M := (Instarref03_Same_m fu r9.1 (⟨[], 0⟩ : Forest))) (ment := [(172, [])]) [166, 168, 170] [172] [] [] [] (fun r15 => [(86, .v (.bool r15))]) (fun r15 => []) rfl rfl (fun _ => rfl) (fun _ => rfl) (by kernel_rfl) (by kernel_rfl) (fun _ => by kernel_rfl) (fun _ => trivial) (fun w0 X X0 σ0 => by refine po_call (enc := fun (r15 : Bool) => .v (.bool r15)) (qs := [.agg (cForest r9.1), .agg (cForest (⟨[], 0⟩ : Forest))]) (Instarref03_Same_ok fu r9.1 (⟨[], 0⟩ : Forest)) rfl rfl ⟨⟨_, rfl, .rfl⟩, ⟨_, rfl, (.agg ⟨.nil, .rfl, trivial⟩)⟩, trivial⟩ (fun _ => rfl) call20 rfl rfl fun r15 hr15 => ?_; refine po_nil ?_; exact pn_end ⟨rfl, trivial⟩ trivial rfl) fun r15 hr15 => ?_
                        refine pdv_step0 [166, 172] [174] [] [] [] [(87, .v (.bool (!r15)))] [] rfl rfl rfl rfl (by kernel_rfl) (by kernel_rfl) (by kernel_rfl) trivial (fun w0 X X0 σ0 => by refine po_evs (T := tab) 1 rfl rfl ?_; refine po_nil ?_; exact pn_end0 ⟨rfl, trivial⟩ trivial rfl) ?_
                        refine pdv_step0 [160, 166, 174] [176] [] [] [] [(88, .v (.bool (!r15)))] [] rfl rfl rfl rfl (by kernel_rfl) (by kernel_rfl) (by kernel_rfl) trivial (fun w0 X X0 σ0 => by refine po_evs (T := tab) 1 rfl rfl ?_; refine po_nil ?_; exact pn_end0 ⟨rfl, trivial⟩ trivial rfl) ?_
                        refine pdv_step0 [154, 160, 176] [178] [] [] [] [(89, .v (.bool (!r15)))] [] rfl rfl rfl rfl (by kernel_rfl) (by kernel_rfl) (by kernel_rfl) trivial (fun w0 X X0 σ0 => by refine po_evs (T := tab) 1 rfl rfl ?_; refine po_nil ?_; exact pn_end0 ⟨rfl, trivial⟩ trivial rfl) ?_
                        refine pdv_step0 [154, 178] [180] [] [] [] [(90, .v (.bool (!r15)))] [] rfl rfl rfl rfl (by kernel_rfl) (by kernel_rfl) (by kernel_rfl) trivial (fun w0 X X0 σ0 => by refine po_evs (T := tab) 1 rfl rfl ?_; refine po_nil ?_; exact pn_end0 ⟨rfl, trivial⟩ trivial rfl) ?_
                        refine pdv_nil rfl rfl ?_
                        refine pn_seq ?_
                        refine pw_cnd rfl ?_ ?_
                        · refine pw_seq ?_
                          refine pw_region ?_
                          refine po_evs (T := tab) 1 rfl rfl ?_
                          refine po_nil ?_
                          refine pn_seq ?_
                          exact pw_retN (T := tab) rfl rfl rfl ⟨rfl, rfl⟩ trivial rfl
                        · refine pw_skip ?_
                          exact pn_sub' (hj1 ()) ⟨rfl, rfl, rfl, rfl, rfl, rfl, rfl, rfl, trivial⟩ ⟨rfl, rfl, rfl, trivial⟩ rfl
                    · refine pdv_step0 [160] [162] [] [] [] [(81, .tup [])] [] rfl rfl rfl rfl (by kernel_rfl) (by kernel_rfl) (by kernel_rfl) trivial (fun w0 X X0 σ0 => by refine po_evs (T := tab) 1 rfl rfl ?_; refine po_nil ?_; exact pn_end0 ⟨rfl, trivial⟩ trivial rfl) ?_
                      refine pdv_step0 [160] [164] [] [] [] [(82, .tup [])] [] rfl rfl rfl rfl (by kernel_rfl) (by kernel_rfl) (by kernel_rfl) trivial (fun w0 X X0 σ0 => by refine po_evs (T := tab) 1 rfl rfl ?_; refine po_nil ?_; exact pn_end0 ⟨rfl, trivial⟩ trivial rfl) ?_
                      refine pdv_step0 [160] [166] [] [] [] [(83, .tup [])] [] rfl rfl rfl rfl (by kernel_rfl) (by kernel_rfl) (by kernel_rfl) trivial (fun w0 X X0 σ0 => by refine po_evs (T := tab) 1 rfl rfl ?_; refine po_nil ?_; exact pn_end0 ⟨rfl, trivial⟩ trivial rfl) ?_
                      refine pdv_step0 [166] [168] [] [] [] [(84, .tup [])] [] rfl rfl rfl rfl (by kernel_rfl) (by kernel_rfl) (by kernel_rfl) trivial (fun w0 X X0 σ0 => by refine po_evs (T := tab) 1 rfl rfl ?_; refine po_nil ?_; exact pn_end0 ⟨rfl, trivial⟩ trivial rfl) ?_
                      refine pdv_step0 [166] [170] [] [] [] [(85, .tup [])] [] rfl rfl rfl rfl (by kernel_rfl) (by kernel_rfl) (by kernel_rfl) trivial (fun w0 X X0 σ0 => by refine po_evs (T := tab) 1 rfl rfl ?_; refine po_nil ?_; exact pn_end0 ⟨rfl, trivial⟩ trivial rfl) ?_
                      refine pdv_step0 [166] [172] [] [] [] [(86, .tup [])] [] rfl rfl rfl rfl (by kernel_rfl) (by kernel_rfl) (by kernel_rfl) trivial (fun w0 X X0 σ0 => by refine po_evs (T := tab) 1 rfl rfl ?_; refine po_nil ?_; exact pn_end0 ⟨rfl, trivial⟩ trivial rfl) ?_
                      refine pdv_step0 [166] [174] [] [] [] [(87, .tup [])] [] rfl rfl rfl rfl (by kernel_rfl) (by kernel_rfl) (by kernel_rfl) trivial (fun w0 X X0 σ0 => by refine po_evs (T := tab) 1 rfl rfl ?_; refine po_nil ?_; exact pn_end0 ⟨rfl, trivial⟩ trivial rfl) ?_
                      refine pdv_step0 [160] [176] [] [] [] [(88, .tup [])] [] rfl rfl rfl rfl (by kernel_rfl) (by kernel_rfl) (by kernel_rfl) trivial (fun w0 X X0 σ0 => by refine po_evs (T := tab) 1 rfl rfl ?_; refine po_nil ?_; exact pn_end0 ⟨rfl, trivial⟩ trivial rfl) ?_
                      refine pdv_step0 [154, 160, 176] [178] [] [] [] [(89, .v (.bool false))] [] rfl rfl rfl rfl (by kernel_rfl) (by kernel_rfl) (by kernel_rfl) trivial (fun w0 X X0 σ0 => by refine po_evs (T := tab) 1 rfl rfl ?_; refine po_nil ?_; exact pn_end0 ⟨rfl, trivial⟩ trivial rfl) ?_
                      refine pdv_step0 [154, 178] [180] [] [] [] [(90, .v (.bool false))] [] rfl rfl rfl rfl (by kernel_rfl) (by kernel_rfl) (by kernel_rfl) trivial (fun w0 X X0 σ0 => by refine po_evs (T := tab) 1 rfl rfl ?_; refine po_nil ?_; exact pn_end0 ⟨rfl, trivial⟩ trivial rfl) ?_
                      refine pdv_nil rfl rfl ?_
                      refine pn_seq (pw_else rfl ?_)
                      refine pw_skip ?_
                      exact pn_sub' (hj1 ()) ⟨rfl, rfl, rfl, rfl, rfl, rfl, rfl, rfl, trivial⟩ ⟨rfl, rfl, rfl, trivial⟩ rfl
              · refine pdv_step0 [120] [122] [] [] [] [(61, .tup [])] [] rfl rfl rfl rfl (by kernel_rfl) (by kernel_rfl) (by kernel_rfl) trivial (fun w0 X X0 σ0 => by refine po_evs (T := tab) 1 rfl rfl ?_; refine po_nil ?_; exact pn_end0 ⟨rfl, trivial⟩ trivial rfl) ?_
                refine pdv_step0 [120] [124] [] [] [] [(62, .tup [])] [] rfl rfl rfl rfl (by kernel_rfl) (by kernel_rfl) (by kernel_rfl) trivial (fun w0 X X0 σ0 => by refine po_evs (T := tab) 1 rfl rfl ?_; refine po_nil ?_; exact pn_end0 ⟨rfl, trivial⟩ trivial rfl) ?_
                refine pdv_step0 [110, 120, 124] [126] [] [] [] [(63, .v (.bool false))] [] rfl rfl rfl rfl (by kernel_rfl) (by kernel_rfl) (by kernel_rfl) trivial (fun w0 X X0 σ0 => by refine po_evs (T := tab) 1 rfl rfl ?_; refine po_nil ?_; exact pn_end0 ⟨rfl, trivial⟩ trivial rfl) ?_
                refine pdv_step0 [110, 114, 126] [128] [] [] [] [(64, .v (.bool (!((r9.2 == 0) == false))))] [] rfl rfl rfl rfl (by kernel_rfl) (by kernel_rfl) (by kernel_rfl) trivial (fun w0 X X0 σ0 => by refine po_evs (T := tab) 1 rfl rfl ?_; refine po_nil ?_; exact pn_end0 ⟨rfl, trivial⟩ trivial rfl) ?_
                refine pdv_step0 [110, 128] [130] [] [] [] [(65, .v (.bool (!((r9.2 == 0) == false))))] [] rfl rfl rfl rfl (by kernel_rfl) (by kernel_rfl) (by kernel_rfl) trivial (fun w0 X X0 σ0 => by refine po_evs (T := tab) 1 rfl rfl ?_; refine po_nil ?_; exact pn_end0 ⟨rfl, trivial⟩ trivial rfl) ?_
                refine pdv_step0 [130] [132] [] [] [] [(66, .v (.bool (!((r9.2 == 0) == false))))] [] rfl rfl rfl rfl (by kernel_rfl) (by kernel_rfl) (by kernel_rfl) trivial (fun w0 X X0 σ0 => by refine po_evs (T := tab) 1 rfl rfl ?_; refine po_nil ?_; exact pn_end0 ⟨rfl, trivial⟩ trivial rfl) ?_
                refine pdv_split (t := 66) rfl ?_ ?_
                · refine pdv_step0 [132] [134] [] [] [] [(67, .tup [])] [] rfl rfl rfl rfl (by kernel_rfl) (by kernel_rfl) (by kernel_rfl) trivial (fun w0 X X0 σ0 => by refine po_evs (T := tab) 1 rfl rfl ?_; refine po_nil ?_; exact pn_end0 ⟨rfl, trivial⟩ trivial rfl) ?_
                  refine pdv_step0 [132] [136] [] [] [] [(68, .tup [])] [] rfl rfl rfl rfl (by kernel_rfl) (by kernel_rfl) (by kernel_rfl) trivial (fun w0 X X0 σ0 => by refine po_evs (T := tab) 1 rfl rfl ?_; refine po_nil ?_; exact pn_end0 ⟨rfl, trivial⟩ trivial rfl) ?_
                  refine pdv_step0 [132] [138] [] [] [] [(69, .tup [])] [] rfl rfl rfl rfl (by kernel_rfl) (by kernel_rfl) (by kernel_rfl) trivial (fun w0 X X0 σ0 => by refine po_evs (T := tab) 1 rfl rfl ?_; refine po_nil ?_; exact pn_end0 ⟨rfl, trivial⟩ trivial rfl) ?_
                  refine pdv_step0 [138] [140] [] [] [] [(70, .tup [])] [] rfl rfl rfl rfl (by kernel_rfl) (by kernel_rfl) (by kernel_rfl) trivial (fun w0 X X0 σ0 => by refine po_evs (T := tab) 1 rfl rfl ?_; refine po_nil ?_; exact pn_end0 ⟨rfl, trivial⟩ trivial rfl) ?_
                  refine pdv_step0 [138] [142] [] [] [] [(71, .tup [])] [] rfl rfl rfl rfl (by kernel_rfl) (by kernel_rfl) (by kernel_rfl) trivial (fun w0 X X0 σ0 => by refine po_evs (T := tab) 1 rfl rfl ?_; refine po_nil ?_; exact pn_end0 ⟨rfl, trivial⟩ trivial rfl) ?_
                  refine pdv_step0 [138] [144] [] [] [] [(72, .tup [])] [] rfl rfl rfl rfl (by kernel_rfl) (by kernel_rfl) (by kernel_rfl) trivial (fun w0 X X0 σ0 => by refine po_evs (T := tab) 1 rfl rfl ?_; refine po_nil ?_; exact pn_end0 ⟨rfl, trivial⟩ trivial rfl) ?_
                  refine pdv_step0 [138] [146] [] [] [] [(73, .tup [])] [] rfl rfl rfl rfl (by kernel_rfl) (by kernel_rfl) (by kernel_rfl) trivial (fun w0 X X0 σ0 => by refine po_evs (T := tab) 1 rfl rfl ?_; refine po_nil ?_; exact pn_end0 ⟨rfl, trivial⟩ trivial rfl) ?_
                  refine pdv_step0 [138] [148] [] [] [] [(74, .tup [])] [] rfl rfl rfl rfl (by kernel_rfl) (by kernel_rfl) (by kernel_rfl) trivial (fun w0 X X0 σ0 => by refine po_evs (T := tab) 1 rfl rfl ?_; refine po_nil ?_; exact pn_end0 ⟨rfl, trivial⟩ trivial rfl) ?_
                  refine pdv_step0 [132] [150] [] [] [] [(75, .tup [])] [] rfl rfl rfl rfl (by kernel_rfl) (by kernel_rfl) (by kernel_rfl) trivial (fun w0 X X0 σ0 => by refine po_evs (T := tab) 1 rfl rfl ?_; refine po_nil ?_; exact pn_end0 ⟨rfl, trivial⟩ trivial rfl) ?_
                  refine pdv_step0 [132, 150] [152] [] [] [] [(76, .v (.bool true))] [] rfl rfl rfl rfl (by kernel_rfl) (by kernel_rfl) (by kernel_rfl) trivial (fun w0 X X0 σ0 => by refine po_evs (T := tab) 1 rfl rfl ?_; refine po_nil ?_; exact pn_end0 ⟨rfl, trivial⟩ trivial rfl) ?_
                  refine pdv_step0 [152] [154] [] [] [] [(77, .v (.bool true))] [] rfl rfl rfl rfl (by kernel_rfl) (by kernel_rfl) (by kernel_rfl) trivial (fun w0 X X0 σ0 => by refine po_evs (T := tab) 1 rfl rfl ?_; refine po_nil ?_; exact pn_end0 ⟨rfl, trivial⟩ trivial rfl) ?_
                  refine pdv_step0 [154] [156] [] [] [] [(78, .tup [])] [] rfl rfl rfl rfl (by kernel_rfl) (by kernel_rfl) (by kernel_rfl) trivial (fun w0 X X0 σ0 => by refine po_evs (T := tab) 1 rfl rfl ?_; refine po_nil ?_; exact pn_end0 ⟨rfl, trivial⟩ trivial rfl) ?_
                  refine pdv_step0 [154] [158] [] [] [] [(79, .tup [])] [] rfl rfl rfl rfl (by kernel_rfl) (by kernel_rfl) (by kernel_rfl) trivial (fun w0 X X0 σ0 => by refine po_evs (T := tab) 1 rfl rfl ?_; refine po_nil ?_; exact pn_end0 ⟨rfl, trivial⟩ trivial rfl) ?_
                  refine pdv_step0 [154] [160] [] [] [] [(80, .tup [])] [] rfl rfl rfl rfl (by kernel_rfl) (by kernel_rfl) (by kernel_rfl) trivial (fun w0 X X0 σ0 => by refine po_evs (T := tab) 1 rfl rfl ?_; refine po_nil ?_; exact pn_end0 ⟨rfl, trivial⟩ trivial rfl) ?_
                  refine pdv_step0 [160] [162] [] [] [] [(81, .tup [])] [] rfl rfl rfl rfl (by kernel_rfl) (by kernel_rfl) (by kernel_rfl) trivial (fun w0 X X0 σ0 => by refine po_evs (T := tab) 1 rfl rfl ?_; refine po_nil ?_; exact pn_end0 ⟨rfl, trivial⟩ trivial rfl) ?_
                  refine pdv_step0 [160] [164] [] [] [] [(82, .tup [])] [] rfl rfl rfl rfl (by kernel_rfl) (by kernel_rfl) (by kernel_rfl) trivial (fun w0 X X0 σ0 => by refine po_evs (T := tab) 1 rfl rfl ?_; refine po_nil ?_; exact pn_end0 ⟨rfl, trivial⟩ trivial rfl) ?_
                  refine pdv_step0 [160] [166] [] [] [] [(83, .tup [])] [] rfl rfl rfl rfl (by kernel_rfl) (by kernel_rfl) (by kernel_rfl) trivial (fun w0 X X0 σ0 => by refine po_evs (T := tab) 1 rfl rfl ?_; refine po_nil ?_; exact pn_end0 ⟨rfl, trivial⟩ trivial rfl) ?_
                  refine pdv_step0 [166] [168] [] [] [] [(84, .tup [])] [] rfl rfl rfl rfl (by kernel_rfl) (by kernel_rfl) (by kernel_rfl) trivial (fun w0 X X0 σ0 => by refine po_evs (T := tab) 1 rfl rfl ?_; refine po_nil ?_; exact pn_end0 ⟨rfl, trivial⟩ trivial rfl) ?_
                  refine pdv_step0 [166] [170] [] [] [] [(85, .tup [])] [] rfl rfl rfl rfl (by kernel_rfl) (by kernel_rfl) (by kernel_rfl) trivial (fun w0 X X0 σ0 => by refine po_evs (T := tab) 1 rfl rfl ?_; refine po_nil ?_; exact pn_end0 ⟨rfl, trivial⟩ trivial rfl) ?_
                  refine pdv_step0 [166] [172] [] [] [] [(86, .tup [])] [] rfl rfl rfl rfl (by kernel_rfl) (by kernel_rfl) (by kernel_rfl) trivial (fun w0 X X0 σ0 => by refine po_evs (T := tab) 1 rfl rfl ?_; refine po_nil ?_; exact pn_end0 ⟨rfl, trivial⟩ trivial rfl) ?_
                  refine pdv_step0 [166] [174] [] [] [] [(87, .tup [])] [] rfl rfl rfl rfl (by kernel_rfl) (by kernel_rfl) (by kernel_rfl) trivial (fun w0 X X0 σ0 => by refine po_evs (T := tab) 1 rfl rfl ?_; refine po_nil ?_; exact pn_end0 ⟨rfl, trivial⟩ trivial rfl) ?_
                  refine pdv_step0 [160] [176] [] [] [] [(88, .tup [])] [] rfl rfl rfl rfl (by kernel_rfl) (by kernel_rfl) (by kernel_rfl) trivial (fun w0 X X0 σ0 => by refine po_evs (T := tab) 1 rfl rfl ?_; refine po_nil ?_; exact pn_end0 ⟨rfl, trivial⟩ trivial rfl) ?_
                  refine pdv_step0 [154] [178] [] [] [] [(89, .tup [])] [] rfl rfl rfl rfl (by kernel_rfl) (by kernel_rfl) (by kernel_rfl) trivial (fun w0 X X0 σ0 => by refine po_evs (T := tab) 1 rfl rfl ?_; refine po_nil ?_; exact pn_end0 ⟨rfl, trivial⟩ trivial rfl) ?_
                  refine pdv_step0 [154, 178] [180] [] [] [] [(90, .v (.bool true))] [] rfl rfl rfl rfl (by kernel_rfl) (by kernel_rfl) (by kernel_rfl) trivial (fun w0 X X0 σ0 => by refine po_evs (T := tab) 1 rfl rfl ?_; refine po_nil ?_; exact pn_end0 ⟨rfl, trivial⟩ trivial rfl) ?_
                  refine pdv_nil rfl rfl ?_
                  refine pn_seq (pw_then rfl ?_)
                  refine pw_seq ?_
                  refine pw_region ?_
                  refine po_evs (T := tab) 1 rfl rfl ?_
                  refine po_nil ?_
                  refine pn_seq ?_
                  exact pw_retN (T := tab) rfl rfl rfl ⟨rfl, rfl⟩ trivial rfl
                · refine pdv_step0 [26, 132] [134] [] [] [] [(67, .v (.int .i64 r9.2))] [] rfl rfl rfl rfl (by kernel_rfl) (by kernel_rfl) (by kernel_rfl) trivial (fun w0 X X0 σ0 => by refine po_evs (T := tab) 1 rfl rfl ?_; refine po_nil ?_; exact pn_end0 ⟨rfl, trivial⟩ trivial rfl) ?_
                  refine pdv_step0 [132, 134] [136] [] [] [] [(68, .v (.bool (r9.2 == 0)))] [] rfl rfl rfl rfl (by kernel_rfl) (by kernel_rfl) (by kernel_rfl) trivial (fun w0 X X0 σ0 => by refine po_evs (T := tab) 1 rfl rfl ?_; refine po_nil ?_; exact pn_end0 ⟨rfl, trivial⟩ trivial rfl) ?_
                  refine pdv_step0 [132, 136] [138] [] [] [] [(69, .v (.bool (r9.2 == 0)))] [] rfl rfl rfl rfl (by kernel_rfl) (by kernel_rfl) (by kernel_rfl) trivial (fun w0 X X0 σ0 => by refine po_evs (T := tab) 1 rfl rfl ?_; refine po_nil ?_; exact pn_end0 ⟨rfl, trivial⟩ trivial rfl) ?_
                  refine pdv_split (t := 69) rfl ?_ ?_
                  · refine pdv_step0 [24, 25, 138] [140] [] [12] [12] [(70, .agg (cForest r9.1))] [(12, .box [.sl 10 false (r9.1.Nodes.map cNode), .v (.int .i64 r9.1.Most)])] rfl rfl rfl rfl (by kernel_rfl) (by kernel_rfl) (by kernel_rfl) ⟨rfl, trivial⟩ (fun w0 X X0 σ0 => by refine po_evs (T := tab) 1 rfl rfl ?_; refine po_nil ?_; exact pn_end0 ⟨rfl, trivial⟩ ⟨rfl, trivial⟩ rfl) ?_
                    refine pdv_step0 [4, 138] [142] [] [] [] [(71, .v (.int .i64 most3))] [] rfl rfl rfl rfl (by kernel_rfl) (by kernel_rfl) (by kernel_rfl) trivial (fun w0 X X0 σ0 => by refine po_evs (T := tab) 1 rfl rfl ?_; refine po_nil ?_; exact pn_end0 ⟨rfl, trivial⟩ trivial rfl) ?_
                    refine pdv_step (M := (Instarref03_New_m fu most3)) (ment := [(144, [])]) [138, 142] [144] [] [] [] (fun r16 => [(72, .agg (cForest r16))]) (fun r16 => []) rfl rfl (fun _ => rfl) (fun _ => rfl) (by kernel_rfl) (by kernel_rfl) (fun _ => by kernel_rfl) (fun _ => trivial) (fun w0 X X0 σ0 => by refine po_call (enc := fun (r16 : Forest) => .agg (cForest r16)) (qs := [.v (.int .i64 most3)]) (Instarref03_New_ok fu most3) rfl rfl ⟨⟨_, rfl, .rfl⟩, trivial⟩ (fun _ => rfl) call21 rfl rfl fun r16 hr16 => ?_; refine po_nil ?_; exact pn_end ⟨rfl, trivial⟩ trivial rfl) fun r16 hr16 => ?_
                    refine pdv_step (M := (Instarref03_Same_m fu r9.1 r16)) (ment := [(146, [])]) [138, 140, 144] [146] [] [] [] (fun r17 => [(73, .v (.bool r17))]) (fun r17 => []) rfl rfl (fun _ => rfl) (fun _ => rfl) (by kernel_rfl) (by kernel_rfl) (fun _ => by kernel_rfl) (fun _ => trivial) (fun w0 X X0 σ0 => by refine po_call (enc := fun (r17 : Bool) => .v (.bool r17)) (qs := [.agg (cForest r9.1), .agg (cForest r16)]) (Instarref03_Same_ok fu r9.1 r16) rfl rfl ⟨⟨_, rfl, .rfl⟩, ⟨_, rfl, .rfl⟩, trivial⟩ (fun _ => rfl) call20 rfl rfl fun r17 hr17 => ?_; refine po_nil ?_; exact pn_end ⟨rfl, trivial⟩ trivial rfl) fun r17 hr17 => ?_
                    refine pdv_step0 [138, 146] [148] [] [] [] [(74, .v (.bool (!r17)))] [] rfl rfl rfl rfl (by kernel_rfl) (by kernel_rfl) (by kernel_rfl) trivial (fun w0 X X0 σ0 => by refine po_evs (T := tab) 1 rfl rfl ?_; refine po_nil ?_; exact pn_end0 ⟨rfl, trivial⟩ trivial rfl) ?_
                    refine pdv_step0 [132, 138, 148] [150] [] [] [] [(75, .v (.bool (!r17)))] [] rfl rfl rfl rfl (by kernel_rfl) (by kernel_rfl) (by kernel_rfl) trivial (fun w0 X X0 σ0 => by refine po_evs (T := tab) 1 rfl rfl ?_; refine po_nil ?_; exact pn_end0 ⟨rfl, trivial⟩ trivial rfl) ?_
                    refine pdv_step0 [132, 150] [152] [] [] [] [(76, .v (.bool (!r17)))] [] rfl rfl rfl rfl (by kernel_rfl) (by kernel_rfl) (by kernel_rfl) trivial (fun w0 X X0 σ0 => by refine po_evs (T := tab) 1 rfl rfl ?_; refine po_nil ?_; exact pn_end0 ⟨rfl, trivial⟩ trivial rfl) ?_
                    refine pdv_step0 [152] [154] [] [] [] [(77, .v (.bool (!r17)))] [] rfl rfl rfl rfl (by kernel_rfl) (by kernel_rfl) (by kernel_rfl) trivial (fun w0 X X0 σ0 => by refine po_evs (T := tab) 1 rfl rfl ?_; refine po_nil ?_; exact pn_end0 ⟨rfl, trivial⟩ trivial rfl) ?_
                    refine pdv_split (t := 77) rfl ?_ ?_
                    · refine pdv_step0 [154] [156] [] [] [] [(78, .tup [])] [] rfl rfl rfl rfl (by kernel_rfl) (by kernel_rfl) (by kernel_rfl) trivial (fun w0 X X0 σ0 => by refine po_evs (T := tab) 1 rfl rfl ?_; refine po_nil ?_; exact pn_end0 ⟨rfl, trivial⟩ trivial rfl) ?_
                      refine pdv_step0 [154] [158] [] [] [] [(79, .tup [])] [] rfl rfl rfl rfl (by kernel_rfl) (by kernel_rfl) (by kernel_rfl) trivial (fun w0 X X0 σ0 => by refine po_evs (T := tab) 1 rfl rfl ?_; refine po_nil ?_; exact pn_end0 ⟨rfl, trivial⟩ trivial rfl) ?_
                      refine pdv_step0 [154] [160] [] [] [] [(80, .tup [])] [] rfl rfl rfl rfl (by kernel_rfl) (by kernel_rfl) (by kernel_rfl) trivial (fun w0 X X0 σ0 => by refine po_evs (T := tab) 1 rfl rfl ?_; refine po_nil ?_; exact pn_end0 ⟨rfl, trivial⟩ trivial rfl) ?_
                      refine pdv_step0 [160] [162] [] [] [] [(81, .tup [])] [] rfl rfl rfl rfl (by kernel_rfl) (by kernel_rfl) (by kernel_rfl) trivial (fun w0 X X0 σ0 => by refine po_evs (T := tab) 1 rfl rfl ?_; refine po_nil ?_; exact pn_end0 ⟨rfl, trivial⟩ trivial rfl) ?_
                      refine pdv_step0 [160] [164] [] [] [] [(82, .tup [])] [] rfl rfl rfl rfl (by kernel_rfl) (by kernel_rfl) (by kernel_rfl) trivial (fun w0 X X0 σ0 => by refine po_evs (T := tab) 1 rfl rfl ?_; refine po_nil ?_; exact pn_end0 ⟨rfl, trivial⟩ trivial rfl) ?_
                      refine pdv_step0 [160] [166] [] [] [] [(83, .tup [])] [] rfl rfl rfl rfl (by kernel_rfl) (by kernel_rfl) (by kernel_rfl) trivial (fun w0 X X0 σ0 => by refine po_evs (T := tab) 1 rfl rfl ?_; refine po_nil ?_; exact pn_end0 ⟨rfl, trivial⟩ trivial rfl) ?_
                      refine pdv_step0 [166] [168] [] [] [] [(84, .tup [])] [] rfl rfl rfl rfl (by kernel_rfl) (by kernel_rfl) (by kernel_rfl) trivial (fun w0 X X0 σ0 => by refine po_evs (T := tab) 1 rfl rfl ?_; refine po_nil ?_; exact pn_end0 ⟨rfl, trivial⟩ trivial rfl) ?_
                      refine pdv_step0 [166] [170] [] [] [] [(85, .tup [])] [] rfl rfl rfl rfl (by kernel_rfl) (by kernel_rfl) (by kernel_rfl) trivial (fun w0 X X0 σ0 => by refine po_evs (T := tab) 1 rfl rfl ?_; refine po_nil ?_; exact pn_end0 ⟨rfl, trivial⟩ trivial rfl) ?_
                      refine pdv_step0 [166] [172] [] [] [] [(86, .tup [])] [] rfl rfl rfl rfl (by kernel_rfl) (by kernel_rfl) (by kernel_rfl) trivial (fun w0 X X0 σ0 => by refine po_evs (T := tab) 1 rfl rfl ?_; refine po_nil ?_; exact pn_end0 ⟨rfl, trivial⟩ trivial rfl) ?_
                      refine pdv_step0 [166] [174] [] [] [] [(87, .tup [])] [] rfl rfl rfl rfl (by kernel_rfl) (by kernel_rfl) (by kernel_rfl) trivial (fun w0 X X0 σ0 => by refine po_evs (T := tab) 1 rfl rfl ?_; refine po_nil ?_; exact pn_end0 ⟨rfl, trivial⟩ trivial rfl) ?_
                      refine pdv_step0 [160] [176] [] [] [] [(88, .tup [])] [] rfl rfl rfl rfl (by kernel_rfl) (by kernel_rfl) (by kernel_rfl) trivial (fun w0 X X0 σ0 => by refine po_evs (T := tab) 1 rfl rfl ?_; refine po_nil ?_; exact pn_end0 ⟨rfl, trivial⟩ trivial rfl) ?_
                      refine pdv_step0 [154] [178] [] [] [] [(89, .tup [])] [] rfl rfl rfl rfl (by kernel_rfl) (by kernel_rfl) (by kernel_rfl) trivial (fun w0 X X0 σ0 => by refine po_evs (T := tab) 1 rfl rfl ?_; refine po_nil ?_; exact pn_end0 ⟨rfl, trivial⟩ trivial rfl) ?_
                      refine pdv_step0 [154, 178] [180] [] [] [] [(90, .v (.bool true))] [] rfl rfl rfl rfl (by kernel_rfl) (by kernel_rfl) (by kernel_rfl) trivial (fun w0 X X0 σ0 => by refine po_evs (T := tab) 1 rfl rfl ?_; refine po_nil ?_; exact pn_end0 ⟨rfl, trivial⟩ trivial rfl) ?_
                      refine pdv_nil rfl rfl ?_
                      refine pn_seq (pw_then rfl ?_)
                      refine pw_seq ?_
                      refine pw_region ?_
                      refine po_evs (T := tab) 1 rfl rfl ?_
                      refine po_nil ?_
                      refine pn_seq ?_
                      exact pw_retN (T := tab) rfl rfl rfl ⟨rfl, rfl⟩ trivial rfl
                    · refine pdv_step0 [26, 154] [156] [] [] [] [(78, .v (.int .i64 r9.2))] [] rfl rfl rfl rfl (by kernel_rfl) (by kernel_rfl) (by kernel_rfl) trivial (fun w0 X X0 σ0 => by refine po_evs (T := tab) 1 rfl rfl ?_; refine po_nil ?_; exact pn_end0 ⟨rfl, trivial⟩ trivial rfl) ?_
                      refine pdv_step0 [154, 156] [158] [] [] [] [(79, .v (.bool (r9.2 != 0)))] [] rfl rfl rfl rfl (by kernel_rfl) (by kernel_rfl) (by kernel_rfl) trivial (fun w0 X X0 σ0 => by refine po_evs (T := tab) 1 rfl rfl ?_; refine po_nil ?_; exact pn_end0 ⟨rfl, trivial⟩ trivial rfl) ?_
                      refine pdv_step0 [154, 158] [160] [] [] [] [(80, .v (.bool (r9.2 != 0)))] [] rfl rfl rfl rfl (by kernel_rfl) (by kernel_rfl) (by kernel_rfl) trivial (fun w0 X X0 σ0 => by refine po_evs (T := tab) 1 rfl rfl ?_; refine po_nil ?_; exact pn_end0 ⟨rfl, trivial⟩ trivial rfl) ?_
                      refine pdv_split (t := 80) rfl ?_ ?_
                      · refine pdv_step0 [26, 160] [162] [] [] [] [(81, .v (.int .i64 r9.2))] [] rfl rfl rfl rfl (by kernel_rfl) (by kernel_rfl) (by kernel_rfl) trivial (fun w0 X X0 σ0 => by refine po_evs (T := tab) 1 rfl rfl ?_; refine po_nil ?_; exact pn_end0 ⟨rfl, trivial⟩ trivial rfl) ?_
                        refine pdv_step0 [160, 162] [164] [] [] [] [(82, .v (.bool (r9.2 != 1)))] [] rfl rfl rfl rfl (by kernel_rfl) (by kernel_rfl) (by kernel_rfl) trivial (fun w0 X X0 σ0 => by refine po_evs (T := tab) 1 rfl rfl ?_; refine po_nil ?_; exact pn_end0 ⟨rfl, trivial⟩ trivial rfl) ?_
                        refine pdv_step0 [160, 164] [166] [] [] [] [(83, .v (.bool (r9.2 != 1)))] [] rfl rfl rfl rfl (by kernel_rfl) (by kernel_rfl) (by kernel_rfl) trivial (fun w0 X X0 σ0 => by refine po_evs (T := tab) 1 rfl rfl ?_; refine po_nil ?_; exact pn_end0 ⟨rfl, trivial⟩ trivial rfl) ?_
                        refine pdv_split (t := 83) rfl ?_ ?_
                        · refine pdv_step0 [166] [168] [] [] [] [(84, .tup [])] [] rfl rfl rfl rfl (by kernel_rfl) (by kernel_rfl) (by kernel_rfl) trivial (fun w0 X X0 σ0 => by refine po_evs (T := tab) 1 rfl rfl ?_; refine po_nil ?_; exact pn_end0 ⟨rfl, trivial⟩ trivial rfl) ?_
                          refine pdv_step0 [166] [170] [] [] [] [(85, .tup [])] [] rfl rfl rfl rfl (by kernel_rfl) (by kernel_rfl) (by kernel_rfl) trivial (fun w0 X X0 σ0 => by refine po_evs (T := tab) 1 rfl rfl ?_; refine po_nil ?_; exact pn_end0 ⟨rfl, trivial⟩ trivial rfl) ?_
                          refine pdv_step0 [166] [172] [] [] [] [(86, .tup [])] [] rfl rfl rfl rfl (by kernel_rfl) (by kernel_rfl) (by kernel_rfl) trivial (fun w0 X X0 σ0 => by refine po_evs (T := tab) 1 rfl rfl ?_; refine po_nil ?_; exact pn_end0 ⟨rfl, trivial⟩ trivial rfl) ?_
                          refine pdv_step0 [166] [174] [] [] [] [(87, .tup [])] [] rfl rfl rfl rfl (by kernel_rfl) (by kernel_rfl) (by kernel_rfl) trivial (fun w0 X X0 σ0 => by refine po_evs (T := tab) 1 rfl rfl ?_; refine po_nil ?_; exact pn_end0 ⟨rfl, trivial⟩ trivial rfl) ?_
                          refine pdv_step0 [160, 166, 174] [176] [] [] [] [(88, .v (.bool true))] [] rfl rfl rfl rfl (by kernel_rfl) (by kernel_rfl) (by kernel_rfl) trivial (fun w0 X X0 σ0 => by refine po_evs (T := tab) 1 rfl rfl ?_; refine po_nil ?_; exact pn_end0 ⟨rfl, trivial⟩ trivial rfl) ?_
                          refine pdv_step0 [154, 160, 176] [178] [] [] [] [(89, .v (.bool true))] [] rfl rfl rfl rfl (by kernel_rfl) (by kernel_rfl) (by kernel_rfl) trivial (fun w0 X X0 σ0 => by refine po_evs (T := tab) 1 rfl rfl ?_; refine po_nil ?_; exact pn_end0 ⟨rfl, trivial⟩ trivial rfl) ?_
                          refine pdv_step0 [154, 178] [180] [] [] [] [(90, .v (.bool true))] [] rfl rfl rfl rfl (by kernel_rfl) (by kernel_rfl) (by kernel_rfl) trivial (fun w0 X X0 σ0 => by refine po_evs (T := tab) 1 rfl rfl ?_; refine po_nil ?_; exact pn_end0 ⟨rfl, trivial⟩ trivial rfl) ?_
                          refine pdv_nil rfl rfl ?_
                          refine pn_seq (pw_then rfl ?_)
                          refine pw_seq ?_
                          refine pw_region ?_
                          refine po_evs (T := tab) 1 rfl rfl ?_
                          refine po_nil ?_
                          refine pn_seq ?_
                          exact pw_retN (T := tab) rfl rfl rfl ⟨rfl, rfl⟩ trivial rfl
                        · refine pdv_step0 [24, 25, 166] [168] [] [12] [12] [(84, .agg (cForest r9.1))] [(12, .box [.sl 10 false (r9.1.Nodes.map cNode), .v (.int .i64 r9.1.Most)])] rfl rfl rfl rfl (by kernel_rfl) (by kernel_rfl) (by kernel_rfl) ⟨rfl, trivial⟩ (fun w0 X X0 σ0 => by refine po_evs (T := tab) 1 rfl rfl ?_; refine po_nil ?_; exact pn_end0 ⟨rfl, trivial⟩ ⟨rfl, trivial⟩ rfl) ?_
                          refine pdv_step0 [166] [170] [] [] [] [(85, .agg [.v (.slice none 0 0), .v (.int .i64 0)])] [] rfl rfl rfl rfl (by kernel_rfl) (by kernel_rfl) (by kernel_rfl) trivial (fun w0 X X0 σ0 => by refine po_build (T := tab) rfl rfl rfl rfl rfl rfl rfl ?_; refine po_nil ?_; exact pn_end0 ⟨rfl, trivial⟩ trivial rfl) ?_
                          refine pdv_step (M := (Instarref03_Same_m fu r9.1 (⟨[], 0⟩ : Forest))) (ment := [(172, [])]) [166, 168, 170] [172] [] [] [] (fun r18 => [(86, .v (.bool r18))]) (fun r18 => []) rfl rfl (fun _ => rfl) (fun _ => rfl) (by kernel_rfl) (by kernel_rfl) (fun _ => by kernel_rfl) (fun _ => trivial) (fun w0 X X0 σ0 => by refine po_call (enc := fun (r18 : Bool) => .v (.bool r18)) (qs := [.agg (cForest r9.1), .agg (cForest (⟨[], 0⟩ : Forest))]) (Instarref03_Same_ok fu r9.1 (⟨[], 0⟩ : Forest)) rfl rfl ⟨⟨_, rfl, .rfl⟩, ⟨_, rfl, (.agg ⟨.nil, .rfl, trivial⟩)⟩, trivial⟩ (fun _ => rfl) call20 rfl rfl fun r18 hr18 => ?_; refine po_nil ?_; exact pn_end ⟨rfl, trivial⟩ trivial rfl) fun r18 hr18 => ?_
                          refine pdv_step0 [166, 172] [174] [] [] [] [(87, .v (.bool (!r18)))] [] rfl rfl rfl rfl (by kernel_rfl) (by kernel_rfl) (by kernel_rfl) trivial (fun w0 X X0 σ0 => by refine po_evs (T := tab) 1 rfl rfl ?_; refine po_nil ?_; exact pn_end0 ⟨rfl, trivial⟩ trivial rfl) ?_
                          refine pdv_step0 [160, 166, 174] [176] [] [] [] [(88, .v (.bool (!r18)))] [] rfl rfl rfl rfl (by kernel_rfl) (by kernel_rfl) (by kernel_rfl) trivial (fun w0 X X0 σ0 => by refine po_evs (T := tab) 1 rfl rfl ?_; refine po_nil ?_; exact pn_end0 ⟨rfl, trivial⟩ trivial rfl) ?_
                          refine pdv_step0 [154, 160, 176] [178] [] [] [] [(89, .v (.bool (!r18)))] [] rfl rfl rfl rfl (by kernel_rfl) (by kernel_rfl) (by kernel_rfl) trivial (fun w0 X X0 σ0 => by refine po_evs (T := tab) 1 rfl rfl ?_; refine po_nil ?_; exact pn_end0 ⟨rfl, trivial⟩ trivial rfl) ?_
                          refine pdv_step0 [154, 178] [180] [] [] [] [(90, .v (.bool (!r18)))] [] rfl rfl rfl rfl (by kernel_rfl) (by kernel_rfl) (by kernel_rfl) trivial (fun w0 X X0 σ0 => by refine po_evs (T := tab) 1 rfl rfl ?_; refine po_nil ?_; exact pn_end0 ⟨rfl, trivial⟩ trivial rfl) ?_
                          refine pdv_nil rfl rfl ?_
                          refine pn_seq ?_
                          refine pw_cnd rfl ?_ ?_
                          · refine pw_seq ?_
                            refine pw_region ?_
                            refine po_evs (T := tab) 1 rfl rfl ?_
                            refine po_nil ?_
                            refine pn_seq ?_
                            exact pw_retN (T := tab) rfl rfl rfl ⟨rfl, rfl⟩ trivial rfl
                          · refine pw_skip ?_
                            exact pn_sub' (hj1 ()) ⟨rfl, rfl, rfl, rfl, rfl, rfl, rfl, rfl, trivial⟩ ⟨rfl, rfl, rfl, trivial⟩ rfl
                      · refine pdv_step0 [160] [162] [] [] [] [(81, .tup [])] [] rfl rfl rfl rfl (by kernel_rfl) (by kernel_rfl) (by kernel_rfl) trivial (fun w0 X X0 σ0 => by refine po_evs (T := tab) 1 rfl rfl ?_; refine po_nil ?_; exact pn_end0 ⟨rfl, trivial⟩ trivial rfl) ?_
                        refine pdv_step0 [160] [164] [] [] [] [(82, .tup [])] [] rfl rfl rfl rfl (by kernel_rfl) (by kernel_rfl) (by kernel_rfl) trivial (fun w0 X X0 σ0 => by refine po_evs (T := tab) 1 rfl rfl ?_; refine po_nil ?_; exact pn_end0 ⟨rfl, trivial⟩ trivial rfl) ?_
                        refine pdv_step0 [160] [166] [] [] [] [(83, .tup [])] [] rfl rfl rfl rfl (by kernel_rfl) (by kernel_rfl) (by kernel_rfl) trivial (fun w0 X X0 σ0 => by refine po_evs (T := tab) 1 rfl rfl ?_; refine po_nil ?_; exact pn_end0 ⟨rfl, trivial⟩ trivial rfl) ?_
                        refine pdv_step0 [166] [168] [] [] [] [(84, .tup [])] [] rfl rfl rfl rfl (by kernel_rfl) (by kernel_rfl) (by kernel_rfl) trivial (fun w0 X X0 σ0 => by refine po_evs (T := tab) 1 rfl rfl ?_; refine po_nil ?_; exact pn_end0 ⟨rfl, trivial⟩ trivial rfl) ?_
                        refine pdv_step0 [166] [170] [] [] [] [(85, .tup [])] [] rfl rfl rfl rfl (by kernel_rfl) (by kernel_rfl) (by kernel_rfl) trivial (fun w0 X X0 σ0 => by refine po_evs (T := tab) 1 rfl rfl ?_; refine po_nil ?_; exact pn_end0 ⟨rfl, trivial⟩ trivial rfl) ?_
                        refine pdv_step0 [166] [172] [] [] [] [(86, .tup [])] [] rfl rfl rfl rfl (by kernel_rfl) (by kernel_rfl) (by kernel_rfl) trivial (fun w0 X X0 σ0 => by refine po_evs (T := tab) 1 rfl rfl ?_; refine po_nil ?_; exact pn_end0 ⟨rfl, trivial⟩ trivial rfl) ?_
                        refine pdv_step0 [166] [174] [] [] [] [(87, .tup [])] [] rfl rfl rfl rfl (by kernel_rfl) (by kernel_rfl) (by kernel_rfl) trivial (fun w0 X X0 σ0 => by refine po_evs (T := tab) 1 rfl rfl ?_; refine po_nil ?_; exact pn_end0 ⟨rfl, trivial⟩ trivial rfl) ?_
                        refine pdv_step0 [160] [176] [] [] [] [(88, .tup [])] [] rfl rfl rfl rfl (by kernel_rfl) (by kernel_rfl) (by kernel_rfl) trivial (fun w0 X X0 σ0 => by refine po_evs (T := tab) 1 rfl rfl ?_; refine po_nil ?_; exact pn_end0 ⟨rfl, trivial⟩ trivial rfl) ?_
                        refine pdv_step0 [154, 160, 176] [178] [] [] [] [(89, .v (.bool false))] [] rfl rfl rfl rfl (by kernel_rfl) (by kernel_rfl) (by kernel_rfl) trivial (fun w0 X X0 σ0 => by refine po_evs (T := tab) 1 rfl rfl ?_; refine po_nil ?_; exact pn_end0 ⟨rfl, trivial⟩ trivial rfl) ?_
                        refine pdv_step0 [154, 178] [180] [] [] [] [(90, .v (.bool false))] [] rfl rfl rfl rfl (by kernel_rfl) (by kernel_rfl) (by kernel_rfl) trivial (fun w0 X X0 σ0 => by refine po_evs (T := tab) 1 rfl rfl ?_; refine po_nil ?_; exact pn_end0 ⟨rfl, trivial⟩ trivial rfl) ?_
                        refine pdv_nil rfl rfl ?_
                        refine pn_seq (pw_else rfl ?_)
                        refine pw_skip ?_
                        exact pn_sub' (hj1 ()) ⟨rfl, rfl, rfl, rfl, rfl, rfl, rfl, rfl, trivial⟩ ⟨rfl, rfl, rfl, trivial⟩ rfl
                  · refine pdv_step0 [138] [140] [] [] [] [(70, .tup [])] [] rfl rfl rfl rfl (by kernel_rfl) (by kernel_rfl) (by kernel_rfl) trivial (fun w0 X X0 σ0 => by refine po_evs (T := tab) 1 rfl rfl ?_; refine po_nil ?_; exact pn_end0 ⟨rfl, trivial⟩ trivial rfl) ?_
                    refine pdv_step0 [138] [142] [] [] [] [(71, .tup [])] [] rfl rfl rfl rfl (by kernel_rfl) (by kernel_rfl) (by kernel_rfl) trivial (fun w0 X X0 σ0 => by refine po_evs (T := tab) 1 rfl rfl ?_; refine po_nil ?_; exact pn_end0 ⟨rfl, trivial⟩ trivial rfl) ?_
                    refine pdv_step0 [138] [144] [] [] [] [(72, .tup [])] [] rfl rfl rfl rfl (by kernel_rfl) (by kernel_rfl) (by kernel_rfl) trivial (fun w0 X X0 σ0 => by refine po_evs (T := tab) 1 rfl rfl ?_; refine po_nil ?_; exact pn_end0 ⟨rfl, trivial⟩ trivial rfl) ?_
                    refine pdv_step0 [138] [146] [] [] [] [(73, .tup [])] [] rfl rfl rfl rfl (by kernel_rfl) (by kernel_rfl) (by kernel_rfl) trivial (fun w0 X X0 σ0 => by refine po_evs (T := tab) 1 rfl rfl ?_; refine po_nil ?_; exact pn_end0 ⟨rfl, trivial⟩ trivial rfl) ?_
                    refine pdv_step0 [138] [148] [] [] [] [(74, .tup [])] [] rfl rfl rfl rfl (by kernel_rfl) (by kernel_rfl) (by kernel_rfl) trivial (fun w0 X X0 σ0 => by refine po_evs (T := tab) 1 rfl rfl ?_; refine po_nil ?_; exact pn_end0 ⟨rfl, trivial⟩ trivial rfl) ?_
                    refine pdv_step0 [132, 138, 148] [150] [] [] [] [(75, .v (.bool false))] [] rfl rfl rfl rfl (by kernel_rfl) (by kernel_rfl) (by kernel_rfl) trivial (fun w0 X X0 σ0 => by refine po_evs (T := tab) 1 rfl rfl ?_; refine po_nil ?_; exact pn_end0 ⟨rfl, trivial⟩ trivial rfl) ?_
                    refine pdv_step0 [132, 150] [152] [] [] [] [(76, .v (.bool false))] [] rfl rfl rfl rfl (by kernel_rfl) (by kernel_rfl) (by kernel_rfl) trivial (fun w0 X X0 σ0 => by refine po_evs (T := tab) 1 rfl rfl ?_; refine po_nil ?_; exact pn_end0 ⟨rfl, trivial⟩ trivial rfl) ?_
                    refine pdv_step0 [152] [154] [] [] [] [(77, .v (.bool false))] [] rfl rfl rfl rfl (by kernel_rfl) (by kernel_rfl) (by kernel_rfl) trivial (fun w0 X X0 σ0 => by refine po_evs (T := tab) 1 rfl rfl ?_; refine po_nil ?_; exact pn_end0 ⟨rfl, trivial⟩ trivial rfl) ?_
                    refine pdv_step0 [26, 154] [156] [] [] [] [(78, .v (.int .i64 r9.2))] [] rfl rfl rfl rfl (by kernel_rfl) (by kernel_rfl) (by kernel_rfl) trivial (fun w0 X X0 σ0 => by refine po_evs (T := tab) 1 rfl rfl ?_; refine po_nil ?_; exact pn_end0 ⟨rfl, trivial⟩ trivial rfl) ?_
                    refine pdv_step0 [154, 156] [158] [] [] [] [(79, .v (.bool (r9.2 != 0)))] [] rfl rfl rfl rfl (by kernel_rfl) (by kernel_rfl) (by kernel_rfl) trivial (fun w0 X X0 σ0 => by refine po_evs (T := tab) 1 rfl rfl ?_; refine po_nil ?_; exact pn_end0 ⟨rfl, trivial⟩ trivial rfl) ?_
                    refine pdv_step0 [154, 158] [160] [] [] [] [(80, .v (.bool (r9.2 != 0)))] [] rfl rfl rfl rfl (by kernel_rfl) (by kernel_rfl) (by kernel_rfl) trivial (fun w0 X X0 σ0 => by refine po_evs (T := tab) 1 rfl rfl ?_; refine po_nil ?_; exact pn_end0 ⟨rfl, trivial⟩ trivial rfl) ?_
                    refine pdv_split (t := 80) rfl ?_ ?_
                    · refine pdv_step0 [26, 160] [162] [] [] [] [(81, .v (.int .i64 r9.2))] [] rfl rfl rfl rfl (by kernel_rfl) (by kernel_rfl) (by kernel_rfl) trivial (fun w0 X X0 σ0 => by refine po_evs (T := tab) 1 rfl rfl ?_; refine po_nil ?_; exact pn_end0 ⟨rfl, trivial⟩ trivial rfl) ?_
                      refine pdv_step0 [160, 162] [164] [] [] [] [(82, .v (.bool (r9.2 != 1)))] [] rfl rfl rfl rfl (by kernel_rfl) (by kernel_rfl) (by kernel_rfl) trivial (fun w0 X X0 σ0 => by refine po_evs (T := tab) 1 rfl rfl ?_; refine po_nil ?_; exact pn_end0 ⟨rfl, trivial⟩ trivial rfl) ?_
                      refine pdv_step0 [160, 164] [166] [] [] [] [(83, .v (.bool (r9.2 != 1)))] [] rfl rfl rfl rfl (by kernel_rfl) (by kernel_rfl) (by kernel_rfl) trivial (fun w0 X X0 σ0 => by refine po_evs (T := tab) 1 rfl rfl ?_; refine po_nil ?_; exact pn_end0 ⟨rfl, trivial⟩ trivial rfl) ?_
                      refine pdv_split (t := 83) rfl ?_ ?_
                      · refine pdv_step0 [166] [168] [] [] [] [(84, .tup [])] [] rfl rfl rfl rfl (by kernel_rfl) (by kernel_rfl) (by kernel_rfl) trivial (fun w0 X X0 σ0 => by refine po_evs (T := tab) 1 rfl rfl ?_; refine po_nil ?_; exact pn_end0 ⟨rfl, trivial⟩ trivial rfl) ?_
                        refine pdv_step0 [166] [170] [] [] [] [(85, .tup [])] [] rfl rfl rfl rfl (by kernel_rfl) (by kernel_rfl) (by kernel_rfl) trivial (fun w0 X X0 σ0 => by refine po_evs (T := tab) 1 rfl rfl ?_; refine po_nil ?_; exact pn_end0 ⟨rfl, trivial⟩ trivial rfl) ?_
                        refine pdv_step0 [166] [172] [] [] [] [(86, .tup [])] [] rfl rfl rfl rfl (by kernel_rfl) (by kernel_rfl) (by kernel_rfl) trivial (fun w0 X X0 σ0 => by refine po_evs (T := tab) 1 rfl rfl ?_; refine po_nil ?_; exact pn_end0 ⟨rfl, trivial⟩ trivial rfl) ?_
                        refine pdv_step0 [166] [174] [] [] [] [(87, .tup [])] [] rfl rfl rfl rfl (by kernel_rfl) (by kernel_rfl) (by kernel_rfl) trivial (fun w0 X X0 σ0 => by refine po_evs (T := tab) 1 rfl rfl ?_; refine po_nil ?_; exact pn_end0 ⟨rfl, trivial⟩ trivial rfl) ?_
                        refine pdv_step0 [160, 166, 174] [176] [] [] [] [(88, .v (.bool true))] [] rfl rfl rfl rfl (by kernel_rfl) (by kernel_rfl) (by kernel_rfl) trivial (fun w0 X X0 σ0 => by refine po_evs (T := tab) 1 rfl rfl ?_; refine po_nil ?_; exact pn_end0 ⟨rfl, trivial⟩ trivial rfl) ?_
                        refine pdv_step0 [154, 160, 176] [178] [] [] [] [(89, .v (.bool true))] [] rfl rfl rfl rfl (by kernel_rfl) (by kernel_rfl) (by kernel_rfl) trivial (fun w0 X X0 σ0 => by refine po_evs (T := tab) 1 rfl rfl ?_; refine po_nil ?_; exact pn_end0 ⟨rfl, trivial⟩ trivial rfl) ?_
                        refine pdv_step0 [154, 178] [180] [] [] [] [(90, .v (.bool true))] [] rfl rfl rfl rfl (by kernel_rfl) (by kernel_rfl) (by kernel_rfl) trivial (fun w0 X X0 σ0 => by refine po_evs (T := tab) 1 rfl rfl ?_; refine po_nil ?_; exact pn_end0 ⟨rfl, trivial⟩ trivial rfl) ?_
                        refine pdv_nil rfl rfl ?_
                        refine pn_seq (pw_then rfl ?_)
                        refine pw_seq ?_
                        refine pw_region ?_
                        refine po_evs (T := tab) 1 rfl rfl ?_
                        refine po_nil ?_
                        refine pn_seq ?_
                        exact pw_retN (T := tab) rfl rfl rfl ⟨rfl, rfl⟩ trivial rfl
                      · refine pdv_step0 [24, 25, 166] [168] [] [12] [12] [(84, .agg (cForest r9.1))] [(12, .box [.sl 10 false (r9.1.Nodes.map cNode), .v (.int .i64 r9.1.Most)])] rfl rfl rfl rfl (by kernel_rfl) (by kernel_rfl) (by kernel_rfl) ⟨rfl, trivial⟩ (fun w0 X X0 σ0 => by refine po_evs (T := tab) 1 rfl rfl ?_; refine po_nil ?_; exact pn_end0 ⟨rfl, trivial⟩ ⟨rfl, trivial⟩ rfl) ?_
                        refine pdv_step0 [166] [170] [] [] [] [(85, .agg [.v (.slice none 0 0), .v (.int .i64 0)])] [] rfl rfl rfl rfl (by kernel_rfl) (by kernel_rfl) (by kernel_rfl) trivial (fun w0 X X0 σ0 => by refine po_build (T := tab) rfl rfl rfl rfl rfl rfl rfl ?_; refine po_nil ?_; exact pn_end0 ⟨rfl, trivial⟩ trivial rfl) ?_
                        refine pdv_step (M := (Instarref03_Same_m fu r9.1 (⟨[], 0⟩ : Forest))) (ment := [(172, [])]) [166, 168, 170] [172] [] [] [] (fun r19 => [(86, .v (.bool r19))]) (fun r19 => []) rfl rfl (fun _ => rfl) (fun _ => rfl) (by kernel_rfl) (by kernel_rfl) (fun _ => by kernel_rfl) (fun _ => trivial) (fun w0 X X0 σ0 => by refine po_call (enc := fun (r19 : Bool) => .v (.bool r19)) (qs := [.agg (cForest r9.1), .agg (cForest (⟨[], 0⟩ : Forest))]) (Instarref03_Same_ok fu r9.1 (⟨[], 0⟩ : Forest)) rfl rfl ⟨⟨_, rfl, .rfl⟩, ⟨_, rfl, (.agg ⟨.nil, .rfl, trivial⟩)⟩, trivial⟩ (fun _ => rfl) call20 rfl rfl fun r19 hr19 => ?_; refine po_nil ?_; exact pn_end ⟨rfl, trivial⟩ trivial rfl) fun r19 hr19 => ?_
                        refine pdv_step0 [166, 172] [174] [] [] [] [(87, .v (.bool (!r19)))] [] rfl rfl rfl rfl (by kernel_rfl) (by kernel_rfl) (by kernel_rfl) trivial (fun w0 X X0 σ0 => by refine po_evs (T := tab) 1 rfl rfl ?_; refine po_nil ?_; exact pn_end0 ⟨rfl, trivial⟩ trivial rfl) ?_
                        refine pdv_step0 [160, 166, 174] [176] [] [] [] [(88, .v (.bool (!r19)))] [] rfl rfl rfl rfl (by kernel_rfl) (by kernel_rfl) (by kernel_rfl) trivial (fun w0 X X0 σ0 => by refine po_evs (T := tab) 1 rfl rfl ?_; refine po_nil ?_; exact pn_end0 ⟨rfl, trivial⟩ trivial rfl) ?_
                        refine pdv_step0 [154, 160, 176] [178] [] [] [] [(89, .v (.bool (!r19)))] [] rfl rfl rfl rfl (by kernel_rfl) (by kernel_rfl) (by kernel_rfl) trivial (fun w0 X X0 σ0 => by refine po_evs (T := tab) 1 rfl rfl ?_; refine po_nil ?_; exact pn_end0 ⟨rfl, trivial⟩ trivial rfl) ?_
                        refine pdv_step0 [154, 178] [180] [] [] [] [(90, .v (.bool (!r19)))] [] rfl rfl rfl rfl (by kernel_rfl) (by kernel_rfl) (by kernel_rfl) trivial (fun w0 X X0 σ0 => by refine po_evs (T := tab) 1 rfl rfl ?_; refine po_nil ?_; exact pn_end0 ⟨rfl, trivial⟩ trivial rfl) ?_
                        refine pdv_nil rfl rfl ?_
                        refine pn_seq ?_
                        refine pw_cnd rfl ?_ ?_
                        · refine pw_seq ?_
                          refine pw_region ?_
                          refine po_evs (T := tab) 1 rfl rfl ?_
                          refine po_nil ?_
                          refine pn_seq ?_
                          exact pw_retN (T := tab) rfl rfl rfl ⟨rfl, rfl⟩ trivial rfl
                        · refine pw_skip ?_
                          exact pn_sub' (hj1 ()) ⟨rfl, rfl, rfl, rfl, rfl, rfl, rfl, rfl, trivial⟩ ⟨rfl, rfl, rfl, trivial⟩ rfl
                    · refine pdv_step0 [160] [162] [] [] [] [(81, .tup [])] [] rfl rfl rfl rfl (by kernel_rfl) (by kernel_rfl) (by kernel_rfl) trivial (fun w0 X X0 σ0 => by refine po_evs (T := tab) 1 rfl rfl ?_; refine po_nil ?_; exact pn_end0 ⟨rfl, trivial⟩ trivial rfl) ?_
                      refine pdv_step0 [160] [164] [] [] [] [(82, .tup [])] [] rfl rfl rfl rfl (by kernel_rfl) (by kernel_rfl) (by kernel_rfl) trivial (fun w0 X X0 σ0 => by refine po_evs (T := tab) 1 rfl rfl ?_; refine po_nil ?_; exact pn_end0 ⟨rfl, trivial⟩ trivial rfl) ?_
                      refine pdv_step0 [160] [166] [] [] [] [(83, .tup [])] [] rfl rfl rfl rfl (by kernel_rfl) (by kernel_rfl) (by kernel_rfl) trivial (fun w0 X X0 σ0 => by refine po_evs (T := tab) 1 rfl rfl ?_; refine po_nil ?_; exact pn_end0 ⟨rfl, trivial⟩ trivial rfl) ?_
                      refine pdv_step0 [166] [168] [] [] [] [(84, .tup [])] [] rfl rfl rfl rfl (by kernel_rfl) (by kernel_rfl) (by kernel_rfl) trivial (fun w0 X X0 σ0 => by refine po_evs (T := tab) 1 rfl rfl ?_; refine po_nil ?_; exact pn_end0 ⟨rfl, trivial⟩ trivial rfl) ?_
                      refine pdv_step0 [166] [170] [] [] [] [(85, .tup [])] [] rfl rfl rfl rfl (by kernel_rfl) (by kernel_rfl) (by kernel_rfl) trivial (fun w0 X X0 σ0 => by refine po_evs (T := tab) 1 rfl rfl ?_; refine po_nil ?_; exact pn_end0 ⟨rfl, trivial⟩ trivial rfl) ?_
                      refine pdv_step0 [166] [172] [] [] [] [(86, .tup [])] [] rfl rfl rfl rfl (by kernel_rfl) (by kernel_rfl) (by kernel_rfl) trivial (fun w0 X X0 σ0 => by refine po_evs (T := tab) 1 rfl rfl ?_; refine po_nil ?_; exact pn_end0 ⟨rfl, trivial⟩ trivial rfl) ?_
                      refine pdv_step0 [166] [174] [] [] [] [(87, .tup [])] [] rfl rfl rfl rfl (by kernel_rfl) (by kernel_rfl) (by kernel_rfl) trivial (fun w0 X X0 σ0 => by refine po_evs (T := tab) 1 rfl rfl ?_; refine po_nil ?_; exact pn_end0 ⟨rfl, trivial⟩ trivial rfl) ?_
                      refine pdv_step0 [160] [176] [] [] [] [(88, .tup [])] [] rfl rfl rfl rfl (by kernel_rfl) (by kernel_rfl) (by kernel_rfl) trivial (fun w0 X X0 σ0 => by refine po_evs (T := tab) 1 rfl rfl ?_; refine po_nil ?_; exact pn_end0 ⟨rfl, trivial⟩ trivial rfl) ?_
                      refine pdv_step0 [154, 160, 176] [178] [] [] [] [(89, .v (.bool false))] [] rfl rfl rfl rfl (by kernel_rfl) (by kernel_rfl) (by kernel_rfl) trivial (fun w0 X X0 σ0 => by refine po_evs (T := tab) 1 rfl rfl ?_; refine po_nil ?_; exact pn_end0 ⟨rfl, trivial⟩ trivial rfl) ?_
                      refine pdv_step0 [154, 178] [180] [] [] [] [(90, .v (.bool false))] [] rfl rfl rfl rfl (by kernel_rfl) (by kernel_rfl) (by kernel_rfl) trivial (fun w0 X X0 σ0 => by refine po_evs (T := tab) 1 rfl rfl ?_; refine po_nil ?_; exact pn_end0 ⟨rfl, trivial⟩ trivial rfl) ?_
                      refine pdv_nil rfl rfl ?_
                      refine pn_seq (pw_else rfl ?_)
                      refine pw_skip ?_
                      exact pn_sub' (hj1 ()) ⟨rfl, rfl, rfl, rfl, rfl, rfl, rfl, rfl, trivial⟩ ⟨rfl, rfl, rfl, trivial⟩ rfl

def Instarlaw03_ForestOrder_l3 (fu : Nat) (f1 : Forest) (r11 : (List Int)) (i16 : Int) (y18 : Node) (rc2 : Int → Option Bool) : Nat → Int → Option Bool
  | 0, _ => none
  | k3 + 1, k23 => cnd (decide (k23 < i16)) (bnd (idx r11 k23) fun y24 => bnd (Forest_Holds_m fu f1 y18.Parent y24) fun r25 => cnd (!r25) (some false) (bnd (idx r11 i16) fun y26 => bnd (idx r11 k23) fun y27 => bnd (Forest_Holds_m fu f1 y26 y27) fun r28 => cnd r28 (some false) (bnd (rng .i64 (k23 + 1)) fun i29 => (Instarlaw03_ForestOrder_l3 fu f1 r11 i16 y18 rc2 k3) i29))) (bnd (rng .i64 (i16 + 1)) fun i30 => rc2 i30)

def Instarlaw03_ForestOrder_l2 (fu : Nat) (f1 : Forest) (m8 : Int) (m10 : Int) (r11 : (List Int)) : Nat → Int → Option Bool
  | 0, _ => none
  | k2 + 1, i16 => cnd (decide (i16 < ((r11.length : Nat) : Int))) (bnd (idx r11 i16) fun y17 => bnd (idx f1.Nodes y17) fun y18 => bnd (Instarref03_Find_m fu r11 y18.Parent) fun r19 => cnd (decide (r19 < 0)) (some false) (bnd (Instarref03_Find_m fu r11 y18.Parent) fun r20 => cnd (decide (r20 ≥ i16)) (some false) (bnd (Instarref03_Find_m fu r11 y18.Parent) fun r21 => bnd (rng .i64 (r21 + 1)) fun i22 => (Instarlaw03_ForestOrder_l3 fu f1 r11 i16 y18 (Instarlaw03_ForestOrder_l2 fu f1 m8 m10 r11 k2)) fu i22))) (bnd (Forest_Root_m fu f1 m8) fun r31 => bnd (Forest_Root_m fu f1 m10) fun r32 => bnd (Forest_Ahead_m fu f1 m8 m10) fun r33 => bnd (Forest_Ahead_m fu f1 m10 m8) fun r34 => cnd (decide (((r11.length : Nat) : Int) > 0)) (bnd (idx r11 0) fun y35 => cnd (y35 == m8) (cnd (r31 == r32) (cnd ((m8 != m10) == (!(r33 == r34))) (cnd r33 (cnd (!r34) (bnd (Forest_Holds_m fu f1 m8 m10) fun r36 => cnd (!r36) (some true) (cnd (m8 == m10) (some true) (some r33))) (some false)) (bnd (Forest_Holds_m fu f1 m8 m10) fun r37 => cnd (!r37) (some true) (cnd (m8 == m10) (some true) (some r33)))) (some false)) (cnd (false == (!(r33 == r34))) (cnd r33 (cnd (!r34) (bnd (Forest_Holds_m fu f1 m8 m10) fun r38 => cnd (!r38) (some true) (cnd (m8 == m10) (some true) (some r33))) (some false)) (bnd (Forest_Holds_m fu f1 m8 m10) fun r39 => cnd (!r39) (some true) (cnd (m8 == m10) (some true) (some r33)))) (some false))) (some false)) (some false))

def Instarlaw03_ForestOrder_l1 (fu : Nat) (f1 : Forest) (m8 : Int) (m10 : Int) (r11 : (List Int)) : Nat → Int → Option Bool
  | 0, _ => none
  | k1 + 1, n12 => cnd (decide (n12 < ((f1.Nodes.length : Nat) : Int))) (bnd (Instarref03_Has_m fu r11 n12) fun r13 => bnd (Forest_Holds_m fu f1 m8 n12) fun r14 => cnd (!(r14 == (r13 == 1))) (some false) (cnd (decide (r13 > 1)) (some false) (bnd (rng .i64 (n12 + 1)) fun i15 => (Instarlaw03_ForestOrder_l1 fu f1 m8 m10 r11 k1) i15))) ((Instarlaw03_ForestOrder_l2 fu f1 m8 m10 r11) fu 1)

def Instarlaw03_ForestOrder_m (fu : Nat) (f1 : Forest) (a2 : Int) (b3 : Int) : Option Bool := bnd (Instarlaw03_awake_m fu) fun r4 => cnd (!r4) (some false) (bnd (Instarref03_Short_m fu f1) fun r5 => cnd (!r5) (some true) (bnd (Forest_Right_m fu f1) fun r6 => cnd (!r6) (some true) (bnd (rng .i64 a2) fun i7 => bnd (remI i7 ((f1.Nodes.length : Nat) : Int)) fun m8 => bnd (rng .i64 b3) fun i9 => bnd (remI i9 ((f1.Nodes.length : Nat) : Int)) fun m10 => bnd (Forest_Order_m fu f1 m8) fun r11 => (Instarlaw03_ForestOrder_l1 fu f1 m8 m10 r11) fu 0)))

set_option maxHeartbeats 10000000 in
set_option maxRecDepth 100000 in
theorem Instarlaw03_ForestOrder_ok (fu : Nat) (f1 : Forest) (a2 : Int) (b3 : Int) : ∀ r, Instarlaw03_ForestOrder_m fu f1 a2 b3 = some r → DC Try.prog 4 [.agg (cForest f1), .v (.int .u8 a2), .v (.int .u8 b3)] (.v (.bool r)) := by
  intro r hr
  refine fc_intro (args := [.agg (cForest f1), .v (.int .u8 a2), .v (.int .u8 b3)]) (S := []) (N0 := []) (post := fun r p S => p = .v (.bool r) ∧ S = []) Try.func4 rfl rfl hr fun w0 X X0 σ0 => ?_
  refine pw_seq ?_
  refine pw_region ?_
  refine po_box  3 rfl rfl rfl rfl rfl rfl rfl rfl rfl rfl ?_
  refine po_evs (T := tab) 1 rfl rfl ?_
  refine po_nil ?_
  refine pn_seq ?_
  refine pw_seq ?_
  refine pw_seq ?_
  refine pw_region ?_
  refine po_call (enc := fun (r4 : Bool) => .v (.bool r4)) (qs := []) (Instarlaw03_awake_ok fu) rfl rfl trivial (fun _ => rfl) call14 rfl rfl fun r4 hr4 => ?_
  refine po_evs (T := tab) 1 rfl rfl ?_
  refine po_nil ?_
  refine pn_seq ?_
  refine pw_cnd rfl ?_ ?_
  · refine pw_seq ?_
    refine pw_region ?_
    refine po_evs (T := tab) 1 rfl rfl ?_
    refine po_nil ?_
    refine pn_seq ?_
    exact pw_retN (T := tab) rfl rfl rfl ⟨rfl, rfl⟩ trivial rfl
  · refine pw_skip ?_
    refine pn_seq ?_
    refine pw_seq ?_
    refine pw_seq ?_
    refine pw_region ?_
    refine po_evs (T := tab) 1 rfl rfl ?_
    refine po_call (enc := fun (r5 : Bool) => .v (.bool r5)) (qs := [.agg (cForest f1)]) (Instarref03_Short_ok fu f1) rfl rfl ⟨⟨_, rfl, .rfl⟩, trivial⟩ (fun _ => rfl) call15 rfl rfl fun r5 hr5 => ?_
    refine po_evs (T := tab) 2 rfl rfl ?_
    refine po_split (j := 23) rfl ?_ ?_
    · refine po_evs (T := tab) 4 rfl rfl ?_
      refine po_nil ?_
      refine pn_seq (pw_then rfl ?_)
      refine pw_seq ?_
      refine pw_region ?_
      refine po_evs (T := tab) 1 rfl rfl ?_
      refine po_nil ?_
      refine pn_seq ?_
      exact pw_retN (T := tab) rfl rfl rfl ⟨rfl, rfl⟩ trivial rfl
    · refine po_evs (T := tab) 1 rfl rfl ?_
      refine po_call (enc := fun (r6 : Bool) => .v (.bool r6)) (qs := [.agg (cForest f1)]) (Forest_Right_ok fu f1) rfl rfl ⟨⟨_, rfl, .rfl⟩, trivial⟩ (fun _ => rfl) call19 rfl rfl fun r6 hr6 => ?_
      refine po_evs (T := tab) 2 rfl rfl ?_
      refine po_nil ?_
      refine pn_seq ?_
      refine pw_cnd rfl ?_ ?_
      · refine pw_seq ?_
        refine pw_region ?_
        refine po_evs (T := tab) 1 rfl rfl ?_
        refine po_nil ?_
        refine pn_seq ?_
        exact pw_retN (T := tab) rfl rfl rfl ⟨rfl, rfl⟩ trivial rfl
      · refine pw_skip ?_
        refine pn_seq ?_
        refine pw_seq ?_
        refine pw_draw mixed (by kernel_rfl) ?_
        refine pd_evs (T := tab) 1 rfl rfl ?_
        refine pd_arith (T := tab) rfl rfl rfl rfl fun i7 hi7 => ?_
        refine pd_evs (T := tab) 2 rfl rfl ?_
        refine pd_len (T := tab) cNode f1.Nodes rfl rfl rfl rfl rfl rfl rfl rfl ?_
        refine pd_rem rfl rfl rfl rfl rfl rfl fun m8 hm8 => ?_
        refine pd_evs (T := tab) 1 rfl rfl ?_
        refine pd_arith (T := tab) rfl rfl rfl rfl fun i9 hi9 => ?_
        refine pd_evs (T := tab) 2 rfl rfl ?_
        refine pd_len (T := tab) cNode f1.Nodes rfl rfl rfl rfl rfl rfl rfl rfl ?_
        refine pd_rem rfl rfl rfl rfl rfl rfl fun m10 hm10 => ?_
        refine pd_evs (T := tab) 2 rfl rfl ?_
        refine pd_nil ?_
        refine pn_seq ?_
        refine pw_seq ?_
        refine pw_region ?_
        refine po_evs (T := tab) 2 rfl rfl ?_
        refine po_call (enc := fun (r11 : (List Int)) => .sl 1 false (r11.map cInt_i64)) (qs := [.agg (cForest f1), .v (.int .i64 m8)]) (Forest_Order_ok fu f1 m8) rfl rfl ⟨⟨_, rfl, .rfl⟩, ⟨_, rfl, .rfl⟩, trivial⟩ (fun _ => rfl) call23 rfl rfl fun r11 hr11 => ?_
        refine po_evs (T := tab) 1 rfl rfl ?_
        refine po_nil ?_
        refine pn_seq ?_
        refine pw_seq ?_
        refine pw_seq ?_
        refine pw_region ?_
        refine po_evs (T := tab) 1 rfl rfl ?_
        refine po_nil ?_
        refine pn_seq ?_
        refine pw_block ?_
        refine pw_loop' (Instarlaw03_ForestOrder_l1 fu f1 m8 m10 r11) (fun (n12 : Int) => [(3, .loc 3 0), (7, .v (.int .i64 m8)), (8, .v (.int .i64 m10)), (9, .sl 1 false (r11.map cInt_i64)), (10, .v (.int .i64 n12))]) (fun (n12 : Int) => [(3, .box [.sl 10 false (f1.Nodes.map cNode), .v (.int .i64 f1.Most)])]) fu 0 (fun _ => rfl) ⟨rfl, rfl, rfl, rfl, rfl, trivial⟩ ⟨rfl, trivial⟩ rfl ?_
        rintro k1 n12
        refine pw_seq ?_
        refine pw_seq ?_
        refine pw_region ?_
        refine po_evs (T := tab) 3 rfl rfl ?_
        refine po_len (T := tab) cNode f1.Nodes rfl rfl rfl rfl rfl rfl rfl rfl ?_
        refine po_evs (T := tab) 1 rfl rfl ?_
        refine po_nil ?_
        refine pn_seq ?_
        refine pw_cnd rfl ?_ ?_
        · refine pw_skip ?_
          refine pn_seq ?_
          refine pw_seq ?_
          refine pw_block ?_
          refine pw_seq ?_
          refine pw_region ?_
          refine po_evs (T := tab) 2 rfl rfl ?_
          refine po_call (enc := fun (r13 : Int) => .v (.int .i64 r13)) (qs := [.sl 1 false (r11.map cInt_i64), .v (.int .i64 n12)]) (Instarref03_Has_ok fu r11 n12) rfl rfl ⟨⟨_, rfl, .rfl⟩, ⟨_, rfl, .rfl⟩, trivial⟩ (fun _ => rfl) call34 rfl rfl fun r13 hr13 => ?_
          refine po_evs (T := tab) 1 rfl rfl ?_
          refine po_nil ?_
          refine pn_seq ?_
          refine pw_seq ?_
          refine pw_region ?_
          refine po_evs (T := tab) 3 rfl rfl ?_
          refine po_call (enc := fun (r14 : Bool) => .v (.bool r14)) (qs := [.agg (cForest f1), .v (.int .i64 m8), .v (.int .i64 n12)]) (Forest_Holds_ok fu f1 m8 n12) rfl rfl ⟨⟨_, rfl, .rfl⟩, ⟨_, rfl, .rfl⟩, ⟨_, rfl, .rfl⟩, trivial⟩ (fun _ => rfl) call24 rfl rfl fun r14 hr14 => ?_
          refine po_evs (T := tab) 4 rfl rfl ?_
          refine po_split (j := 60) rfl ?_ ?_
          · refine po_evs (T := tab) 3 rfl rfl ?_
            refine po_nil ?_
            refine pn_seq (pw_then rfl ?_)
            refine pw_seq ?_
            refine pw_region ?_
            refine po_evs (T := tab) 1 rfl rfl ?_
            refine po_nil ?_
            refine pn_seq ?_
            exact pw_retN (T := tab) rfl rfl rfl ⟨rfl, rfl⟩ trivial rfl
          · refine po_evs (T := tab) 3 rfl rfl ?_
            refine po_nil ?_
            refine pn_seq ?_
            refine pw_cnd rfl ?_ ?_
            · refine pw_seq ?_
              refine pw_region ?_
              refine po_evs (T := tab) 1 rfl rfl ?_
              refine po_nil ?_
              refine pn_seq ?_
              exact pw_retN (T := tab) rfl rfl rfl ⟨rfl, rfl⟩ trivial rfl
            · refine pw_skip ?_
              refine pn_block ?_
              refine pn_seq ?_
              refine pw_region ?_
              refine po_evs (T := tab) 1 rfl rfl ?_
              refine po_arith' (T := tab) rfl rfl rfl rfl fun i15 hi15 => ?_
              refine po_evs (T := tab) 1 rfl rfl ?_
              refine po_nil ?_
              exact pn_iter' i15 ⟨rfl, rfl, rfl, rfl, rfl, trivial⟩ ⟨rfl, trivial⟩ rfl
        · refine pw_exit rfl ?_
          refine pn_seq ?_
          refine pw_seq ?_
          refine pw_seq ?_
          refine pw_region ?_
          refine po_evs (T := tab) 1 rfl rfl ?_
          refine po_nil ?_
          refine pn_seq ?_
          refine pw_block ?_
          refine pw_loop' (Instarlaw03_ForestOrder_l2 fu f1 m8 m10 r11) (fun (i16 : Int) => [(3, .loc 3 0), (7, .v (.int .i64 m8)), (8, .v (.int .i64 m10)), (9, .sl 1 false (r11.map cInt_i64)), (12, .v (.int .i64 i16))]) (fun (i16 : Int) => [(3, .box [.sl 10 false (f1.Nodes.map cNode), .v (.int .i64 f1.Most)])]) fu 1 (fun _ => rfl) ⟨rfl, rfl, rfl, rfl, rfl, trivial⟩ ⟨rfl, trivial⟩ rfl ?_
          rintro k2 i16
          refine pw_seq ?_
          refine pw_seq ?_
          refine pw_region ?_
          refine po_evs (T := tab) 2 rfl rfl ?_
          refine po_len (T := tab) cInt_i64 r11 rfl rfl rfl rfl rfl rfl rfl rfl ?_
          refine po_evs (T := tab) 1 rfl rfl ?_
          refine po_nil ?_
          refine pn_seq ?_
          refine pw_cnd rfl ?_ ?_
          · refine pw_skip ?_
            refine pn_seq ?_
            refine pw_seq ?_
            refine pw_block ?_
            refine pw_seq ?_
            refine pw_draw mixed (by kernel_rfl) ?_
            refine pd_evs (T := tab) 4 rfl rfl ?_
            refine pd_idx (T := tab) cInt_i64 r11 rfl rfl rfl rfl rfl rfl rfl fun y17 hy17 => ?_
            refine pd_evs (T := tab) 1 rfl rfl ?_
            refine pd_idx (T := tab) cNode f1.Nodes rfl rfl rfl rfl rfl rfl rfl fun y18 hy18 => ?_
            refine pd_evs (T := tab) 3 rfl rfl ?_
            refine pd_nil ?_
            refine pn_seq ?_
            refine pw_seq ?_
            refine pw_seq ?_
            refine pw_region ?_
            refine po_evs (T := tab) 2 rfl rfl ?_
            refine po_call (enc := fun (r19 : Int) => .v (.int .i64 r19)) (qs := [.sl 1 false (r11.map cInt_i64), .v (.int .i64 y18.Parent)]) (Instarref03_Find_ok fu r11 y18.Parent) rfl rfl ⟨⟨_, rfl, .rfl⟩, ⟨_, rfl, .rfl⟩, trivial⟩ (fun _ => rfl) call35 rfl rfl fun r19 hr19 => ?_
            refine po_evs (T := tab) 2 rfl rfl ?_
            refine po_split (j := 83) rfl ?_ ?_
            · refine po_evs (T := tab) 6 rfl rfl ?_
              refine po_nil ?_
              refine pn_seq (pw_then rfl ?_)
              refine pw_seq ?_
              refine pw_region ?_
              refine po_evs (T := tab) 1 rfl rfl ?_
              refine po_nil ?_
              refine pn_seq ?_
              exact pw_retN (T := tab) rfl rfl rfl ⟨rfl, rfl⟩ trivial rfl
            · refine po_evs (T := tab) 2 rfl rfl ?_
              refine po_call (enc := fun (r20 : Int) => .v (.int .i64 r20)) (qs := [.sl 1 false (r11.map cInt_i64), .v (.int .i64 y18.Parent)]) (Instarref03_Find_ok fu r11 y18.Parent) rfl rfl ⟨⟨_, rfl, .rfl⟩, ⟨_, rfl, .rfl⟩, trivial⟩ (fun _ => rfl) call35 rfl rfl fun r20 hr20 => ?_
              refine po_evs (T := tab) 3 rfl rfl ?_
              refine po_nil ?_
              refine pn_seq ?_
              refine pw_cnd rfl ?_ ?_
              · refine pw_seq ?_
                refine pw_region ?_
                refine po_evs (T := tab) 1 rfl rfl ?_
                refine po_nil ?_
                refine pn_seq ?_
                exact pw_retN (T := tab) rfl rfl rfl ⟨rfl, rfl⟩ trivial rfl
              · refine pw_skip ?_
                refine pn_seq ?_
                refine pw_seq ?_
                refine pw_region ?_
                refine po_evs (T := tab) 2 rfl rfl ?_
                refine po_call (enc := fun (r21 : Int) => .v (.int .i64 r21)) (qs := [.sl 1 false (r11.map cInt_i64), .v (.int .i64 y18.Parent)]) (Instarref03_Find_ok fu r11 y18.Parent) rfl rfl ⟨⟨_, rfl, .rfl⟩, ⟨_, rfl, .rfl⟩, trivial⟩ (fun _ => rfl) call35 rfl rfl fun r21 hr21 => ?_
                refine po_arith' (T := tab) rfl rfl rfl rfl fun i22 hi22 => ?_
                refine po_evs (T := tab) 1 rfl rfl ?_
                refine po_nil ?_
                refine pn_seq ?_
                refine pw_block ?_
                refine pw_loop' (Instarlaw03_ForestOrder_l3 fu f1 r11 i16 y18 (Instarlaw03_ForestOrder_l2 fu f1 m8 m10 r11 k2)) (fun (k23 : Int) => [(3, .loc 3 0), (7, .v (.int .i64 m8)), (8, .v (.int .i64 m10)), (9, .sl 1 false (r11.map cInt_i64)), (12, .v (.int .i64 i16)), (13, .v (.int .i64 y18.Parent)), (14, .v (.int .i64 k23))]) (fun (k23 : Int) => [(3, .box [.sl 10 false (f1.Nodes.map cNode), .v (.int .i64 f1.Most)])]) fu i22 (fun _ => rfl) ⟨rfl, rfl, rfl, rfl, rfl, rfl, rfl, trivial⟩ ⟨rfl, trivial⟩ rfl ?_
                rintro k3 k23
                refine pw_seq ?_
                refine pw_seq ?_
                refine pw_region ?_
                refine po_evs (T := tab) 3 rfl rfl ?_
                refine po_nil ?_
                refine pn_seq ?_
                refine pw_cnd rfl ?_ ?_
                · refine pw_skip ?_
                  refine pn_seq ?_
                  refine pw_seq ?_
                  refine pw_block ?_
                  refine pw_seq ?_
                  refine pw_draw mixed (by kernel_rfl) ?_
                  refine pd_evs (T := tab) 4 rfl rfl ?_
                  refine pd_idx (T := tab) cInt_i64 r11 rfl rfl rfl rfl rfl rfl rfl fun y24 hy24 => ?_
                  refine pd_evs (T := tab) 1 rfl rfl ?_
                  refine pd_call (enc := fun (r25 : Bool) => .v (.bool r25)) (qs := [.agg (cForest f1), .v (.int .i64 y18.Parent), .v (.int .i64 y24)]) (Forest_Holds_ok fu f1 y18.Parent y24) rfl rfl ⟨⟨_, rfl, .rfl⟩, ⟨_, rfl, .rfl⟩, ⟨_, rfl, .rfl⟩, trivial⟩ (fun _ => rfl) call24 rfl rfl fun r25 hr25 => ?_
                  refine pd_evs (T := tab) 2 rfl rfl ?_
                  refine pd_split (j := 107) rfl ?_ ?_
                  · refine pd_evs (T := tab) 11 rfl rfl ?_
                    refine pd_nil ?_
                    refine pn_seq (pw_then rfl ?_)
                    refine pw_seq ?_
                    refine pw_region ?_
                    refine po_evs (T := tab) 1 rfl rfl ?_
                    refine po_nil ?_
                    refine pn_seq ?_
                    exact pw_retN (T := tab) rfl rfl rfl ⟨rfl, rfl⟩ trivial rfl
                  · refine pd_evs (T := tab) 3 rfl rfl ?_
                    refine pd_idx (T := tab) cInt_i64 r11 rfl rfl rfl rfl rfl rfl rfl fun y26 hy26 => ?_
                    refine pd_evs (T := tab) 3 rfl rfl ?_
                    refine pd_idx (T := tab) cInt_i64 r11 rfl rfl rfl rfl rfl rfl rfl fun y27 hy27 => ?_
                    refine pd_evs (T := tab) 1 rfl rfl ?_
                    refine pd_call (enc := fun (r28 : Bool) => .v (.bool r28)) (qs := [.agg (cForest f1), .v (.int .i64 y26), .v (.int .i64 y27)]) (Forest_Holds_ok fu f1 y26 y27) rfl rfl ⟨⟨_, rfl, .rfl⟩, ⟨_, rfl, .rfl⟩, ⟨_, rfl, .rfl⟩, trivial⟩ (fun _ => rfl) call24 rfl rfl fun r28 hr28 => ?_
                    refine pd_evs (T := tab) 1 rfl rfl ?_
                    refine pd_nil ?_
                    refine pn_seq ?_
                    refine pw_cnd rfl ?_ ?_
                    · refine pw_seq ?_
                      refine pw_region ?_
                      refine po_evs (T := tab) 1 rfl rfl ?_
                      refine po_nil ?_
                      refine pn_seq ?_
                      exact pw_retN (T := tab) rfl rfl rfl ⟨rfl, rfl⟩ trivial rfl
                    · refine pw_skip ?_
                      refine pn_block ?_
                      refine pn_seq ?_
                      refine pw_region ?_
                      refine po_evs (T := tab) 1 rfl rfl ?_
                      refine po_arith' (T := tab) rfl rfl rfl rfl fun i29 hi29 => ?_
                      refine po_evs (T := tab) 1 rfl rfl ?_
                      refine po_nil ?_
                      exact pn_iter' i29 ⟨rfl, rfl, rfl, rfl, rfl, rfl, rfl, trivial⟩ ⟨rfl, trivial⟩ rfl
                · refine pw_exit rfl ?_
                  refine pn_block ?_
                  refine pn_seq ?_
                  refine pw_region ?_
                  refine po_evs (T := tab) 1 rfl rfl ?_
                  refine po_arith' (T := tab) rfl rfl rfl rfl fun i30 hi30 => ?_
                  refine po_evs (T := tab) 1 rfl rfl ?_
                  refine po_nil ?_
                  exact pn_iter' i30 ⟨rfl, rfl, rfl, rfl, rfl, trivial⟩ ⟨rfl, trivial⟩ rfl
          · refine pw_exit rfl ?_
            refine pn_seq ?_
            refine pw_seq ?_
            refine pw_draw mixed (by kernel_rfl) ?_
            refine pd_evs (T := tab) 2 rfl rfl ?_
            refine pd_call (enc := fun (r31 : Int) => .v (.int .i64 r31)) (qs := [.agg (cForest f1), .v (.int .i64 m8)]) (Forest_Root_ok fu f1 m8) rfl rfl ⟨⟨_, rfl, .rfl⟩, ⟨_, rfl, .rfl⟩, trivial⟩ (fun _ => rfl) call22 rfl rfl fun r31 hr31 => ?_
            refine pd_evs (T := tab) 2 rfl rfl ?_
            refine pd_call (enc := fun (r32 : Int) => .v (.int .i64 r32)) (qs := [.agg (cForest f1), .v (.int .i64 m10)]) (Forest_Root_ok fu f1 m10) rfl rfl ⟨⟨_, rfl, .rfl⟩, ⟨_, rfl, .rfl⟩, trivial⟩ (fun _ => rfl) call22 rfl rfl fun r32 hr32 => ?_
            refine pd_evs (T := tab) 2 rfl rfl ?_
            refine pd_nil ?_
            refine pn_seq ?_
            refine pw_seq ?_
            refine pw_draw mixed (by kernel_rfl) ?_
            refine pd_evs (T := tab) 3 rfl rfl ?_
            refine pd_call (enc := fun (r33 : Bool) => .v (.bool r33)) (qs := [.agg (cForest f1), .v (.int .i64 m8), .v (.int .i64 m10)]) (Forest_Ahead_ok fu f1 m8 m10) rfl rfl ⟨⟨_, rfl, .rfl⟩, ⟨_, rfl, .rfl⟩, ⟨_, rfl, .rfl⟩, trivial⟩ (fun _ => rfl) call26 rfl rfl fun r33 hr33 => ?_
            refine pd_evs (T := tab) 3 rfl rfl ?_
            refine pd_call (enc := fun (r34 : Bool) => .v (.bool r34)) (qs := [.agg (cForest f1), .v (.int .i64 m10), .v (.int .i64 m8)]) (Forest_Ahead_ok fu f1 m10 m8) rfl rfl ⟨⟨_, rfl, .rfl⟩, ⟨_, rfl, .rfl⟩, ⟨_, rfl, .rfl⟩, trivial⟩ (fun _ => rfl) call26 rfl rfl fun r34 hr34 => ?_
            refine pd_evs (T := tab) 2 rfl rfl ?_
            refine pd_nil ?_
            refine pn_seq ?_
            refine pw_seq ?_
            refine pw_region ?_
            refine po_evs (T := tab) 1 rfl rfl ?_
            refine po_len (T := tab) cInt_i64 r11 rfl rfl rfl rfl rfl rfl rfl rfl ?_
            refine po_evs (T := tab) 2 rfl rfl ?_
            refine po_split (j := 137) rfl ?_ ?_
            · refine po_evs (T := tab) 1 rfl rfl ?_
              refine po_idx (T := tab) cInt_i64 r11 rfl rfl rfl rfl rfl rfl rfl fun y35 hy35 => ?_
              refine po_evs (T := tab) 5 rfl rfl ?_
              refine po_split (j := 144) rfl ?_ ?_
              · refine po_evs (T := tab) 2 rfl rfl ?_
                refine po_split (j := 146) rfl ?_ ?_
                · refine po_evs (T := tab) 10 rfl rfl ?_
                  refine po_split (j := 156) rfl ?_ ?_
                  · refine po_evs (T := tab) 2 rfl rfl ?_
                    refine po_split (j := 158) rfl ?_ ?_
                    · refine po_evs (T := tab) 5 rfl rfl ?_
                      refine po_split (j := 163) rfl ?_ ?_
                      · refine po_evs (T := tab) 3 rfl rfl ?_
                        refine po_call (enc := fun (r36 : Bool) => .v (.bool r36)) (qs := [.agg (cForest f1), .v (.int .i64 m8), .v (.int .i64 m10)]) (Forest_Holds_ok fu f1 m8 m10) rfl rfl ⟨⟨_, rfl, .rfl⟩, ⟨_, rfl, .rfl⟩, ⟨_, rfl, .rfl⟩, trivial⟩ (fun _ => rfl) call24 rfl rfl fun r36 hr36 => ?_
                        refine po_evs (T := tab) 2 rfl rfl ?_
                        refine po_split (j := 169) rfl ?_ ?_
                        · refine po_evs (T := tab) 9 rfl rfl ?_
                          refine po_nil ?_
                          refine pn_seq ?_
                          exact pw_retN (T := tab) rfl rfl rfl ⟨rfl, rfl⟩ trivial rfl
                        · refine po_evs (T := tab) 5 rfl rfl ?_
                          refine po_split (j := 174) rfl ?_ ?_
                          · refine po_evs (T := tab) 4 rfl rfl ?_
                            refine po_nil ?_
                            refine pn_seq ?_
                            exact pw_retN (T := tab) rfl rfl rfl ⟨rfl, rfl⟩ trivial rfl
                          · refine po_evs (T := tab) 4 rfl rfl ?_
                            refine po_nil ?_
                            refine pn_seq ?_
                            exact pw_retN (T := tab) rfl rfl rfl ⟨rfl, rfl⟩ trivial rfl
                      · refine po_evs (T := tab) 15 rfl rfl ?_
                        refine po_nil ?_
                        refine pn_seq ?_
                        exact pw_retN (T := tab) rfl rfl rfl ⟨rfl, rfl⟩ trivial rfl
                    · refine po_evs (T := tab) 8 rfl rfl ?_
                      refine po_call (enc := fun (r37 : Bool) => .v (.bool r37)) (qs := [.agg (cForest f1), .v (.int .i64 m8), .v (.int .i64 m10)]) (Forest_Holds_ok fu f1 m8 m10) rfl rfl ⟨⟨_, rfl, .rfl⟩, ⟨_, rfl, .rfl⟩, ⟨_, rfl, .rfl⟩, trivial⟩ (fun _ => rfl) call24 rfl rfl fun r37 hr37 => ?_
                      refine po_evs (T := tab) 2 rfl rfl ?_
                      refine po_split (j := 169) rfl ?_ ?_
                      · refine po_evs (T := tab) 9 rfl rfl ?_
                        refine po_nil ?_
                        refine pn_seq ?_
                        exact pw_retN (T := tab) rfl rfl rfl ⟨rfl, rfl⟩ trivial rfl
                      · refine po_evs (T := tab) 5 rfl rfl ?_
                        refine po_split (j := 174) rfl ?_ ?_
                        · refine po_evs (T := tab) 4 rfl rfl ?_
                          refine po_nil ?_
                          refine pn_seq ?_
                          exact pw_retN (T := tab) rfl rfl rfl ⟨rfl, rfl⟩ trivial rfl
                        · refine po_evs (T := tab) 4 rfl rfl ?_
                          refine po_nil ?_
                          refine pn_seq ?_
                          exact pw_retN (T := tab) rfl rfl rfl ⟨rfl, rfl⟩ trivial rfl
                  · refine po_evs (T := tab) 22 rfl rfl ?_
                    refine po_nil ?_
                    refine pn_seq ?_
                    exact pw_retN (T := tab) rfl rfl rfl ⟨rfl, rfl⟩ trivial rfl
                · refine po_evs (T := tab) 10 rfl rfl ?_
                  refine po_split (j := 156) rfl ?_ ?_
                  · refine po_evs (T := tab) 2 rfl rfl ?_
                    refine po_split (j := 158) rfl ?_ ?_
                    · refine po_evs (T := tab) 5 rfl rfl ?_
                      refine po_split (j := 163) rfl ?_ ?_
                      · refine po_evs (T := tab) 3 rfl rfl ?_
                        refine po_call (enc := fun (r38 : Bool) => .v (.bool r38)) (qs := [.agg (cForest f1), .v (.int .i64 m8), .v (.int .i64 m10)]) (Forest_Holds_ok fu f1 m8 m10) rfl rfl ⟨⟨_, rfl, .rfl⟩, ⟨_, rfl, .rfl⟩, ⟨_, rfl, .rfl⟩, trivial⟩ (fun _ => rfl) call24 rfl rfl fun r38 hr38 => ?_
                        refine po_evs (T := tab) 2 rfl rfl ?_
                        refine po_split (j := 169) rfl ?_ ?_
                        · refine po_evs (T := tab) 9 rfl rfl ?_
                          refine po_nil ?_
                          refine pn_seq ?_
                          exact pw_retN (T := tab) rfl rfl rfl ⟨rfl, rfl⟩ trivial rfl
                        · refine po_evs (T := tab) 5 rfl rfl ?_
                          refine po_split (j := 174) rfl ?_ ?_
                          · refine po_evs (T := tab) 4 rfl rfl ?_
                            refine po_nil ?_
                            refine pn_seq ?_
                            exact pw_retN (T := tab) rfl rfl rfl ⟨rfl, rfl⟩ trivial rfl
                          · refine po_evs (T := tab) 4 rfl rfl ?_
                            refine po_nil ?_
                            refine pn_seq ?_
                            exact pw_retN (T := tab) rfl rfl rfl ⟨rfl, rfl⟩ trivial rfl
                      · refine po_evs (T := tab) 15 rfl rfl ?_
                        refine po_nil ?_
                        refine pn_seq ?_
                        exact pw_retN (T := tab) rfl rfl rfl ⟨rfl, rfl⟩ trivial rfl
                    · refine po_evs (T := tab) 8 rfl rfl ?_
                      refine po_call (enc := fun (r39 : Bool) => .v (.bool r39)) (qs := [.agg (cForest f1), .v (.int .i64 m8), .v (.int .i64 m10)]) (Forest_Holds_ok fu f1 m8 m10) rfl rfl ⟨⟨_, rfl, .rfl⟩, ⟨_, rfl, .rfl⟩, ⟨_, rfl, .rfl⟩, trivial⟩ (fun _ => rfl) call24 rfl rfl fun r39 hr39 => ?_
                      refine po_evs (T := tab) 2 rfl rfl ?_
                      refine po_split (j := 169) rfl ?_ ?_
                      · refine po_evs (T := tab) 9 rfl rfl ?_
                        refine po_nil ?_
                        refine pn_seq ?_
                        exact pw_retN (T := tab) rfl rfl rfl ⟨rfl, rfl⟩ trivial rfl
                      · refine po_evs (T := tab) 5 rfl rfl ?_
                        refine po_split (j := 174) rfl ?_ ?_
                        · refine po_evs (T := tab) 4 rfl rfl ?_
                          refine po_nil ?_
                          refine pn_seq ?_
                          exact pw_retN (T := tab) rfl rfl rfl ⟨rfl, rfl⟩ trivial rfl
                        · refine po_evs (T := tab) 4 rfl rfl ?_
                          refine po_nil ?_
                          refine pn_seq ?_
                          exact pw_retN (T := tab) rfl rfl rfl ⟨rfl, rfl⟩ trivial rfl
                  · refine po_evs (T := tab) 22 rfl rfl ?_
                    refine po_nil ?_
                    refine pn_seq ?_
                    exact pw_retN (T := tab) rfl rfl rfl ⟨rfl, rfl⟩ trivial rfl
              · refine po_evs (T := tab) 34 rfl rfl ?_
                refine po_nil ?_
                refine pn_seq ?_
                exact pw_retN (T := tab) rfl rfl rfl ⟨rfl, rfl⟩ trivial rfl
            · refine po_evs (T := tab) 41 rfl rfl ?_
              refine po_nil ?_
              refine pn_seq ?_
              exact pw_retN (T := tab) rfl rfl rfl ⟨rfl, rfl⟩ trivial rfl

def Instarlaw03_ForestMakes_l1 (fu : Nat) (f1 : Forest) (r6 : (Forest × Int × Int)) : Nat → Int → Option Bool
  | 0, _ => none
  | k1 + 1, n15 => cnd (decide (n15 < r6.2.1)) (bnd (idx f1.Nodes n15) fun y16 => bnd (idx r6.1.Nodes n15) fun y17 => bnd (Instarref03_One_m fu y16 y17) fun r18 => cnd (!r18) (some false) (bnd (rng .i64 (n15 + 1)) fun i19 => (Instarlaw03_ForestMakes_l1 fu f1 r6 k1) i19)) (bnd (Forest_Root_m fu r6.1 r6.2.1) fun r20 => some (r20 == r6.2.1))

def Instarlaw03_ForestMakes_m (fu : Nat) (f1 : Forest) (x2 : Node) : Option Bool := bnd (Instarlaw03_awake_m fu) fun r3 => cnd (!r3) (some false) (bnd (Instarref03_Short_m fu f1) fun r4 => cnd (!r4) (some true) (cnd (decide (((x2.Attrs.length : Nat) : Int) > 60)) (some true) (cnd (decide (((x2.Name.length : Nat) : Int) > 300)) (some true) (bnd (Forest_Right_m fu f1) fun r5 => cnd (!r5) (some true) (bnd (Forest_Make_m fu f1 x2) fun r6 => cnd (r6.2.2 != 0) (cnd (r6.2.1 == (-1)) (bnd (Instarref03_Same_m fu f1 r6.1) fun r7 => cnd r7 (cnd (((f1.Nodes.length : Nat) : Int) == f1.Most) (some ((r6.2.2 == 8) == (r6.2.2 != 1))) (some ((r6.2.2 == 8) == false))) (some false)) (some false)) (bnd (Forest_Right_m fu r6.1) fun r8 => cnd (!r8) (some false) (cnd (r6.2.1 != ((f1.Nodes.length : Nat) : Int)) (some false) (bnd (rng .i64 (r6.2.1 + 1)) fun i9 => cnd (((r6.1.Nodes.length : Nat) : Int) != i9) (some false) (bnd (idx r6.1.Nodes r6.2.1) fun y10 => cnd (y10.Parent != (-1)) (some false) (bnd (idx r6.1.Nodes r6.2.1) fun y11 => cnd (((y11.Kids.length : Nat) : Int) != 0) (some false) (bnd (idx r6.1.Nodes r6.2.1) fun y12 => cnd (y12.Kind != x2.Kind) (some false) (bnd (idx r6.1.Nodes r6.2.1) fun y13 => cnd (!(y13.Name == x2.Name)) (some false) (bnd (idx r6.1.Nodes r6.2.1) fun y14 => cnd (!(y14.Data == x2.Data)) (some false) ((Instarlaw03_ForestMakes_l1 fu f1 r6) fu 0))))))))))))))

set_option maxHeartbeats 10000000 in
set_option maxRecDepth 100000 in
theorem Instarlaw03_ForestMakes_ok (fu : Nat) (f1 : Forest) (x2 : Node) : ∀ r, Instarlaw03_ForestMakes_m fu f1 x2 = some r → DC Try.prog 5 [.agg (cForest f1), .agg (cNode x2)] (.v (.bool r)) := by
  intro r hr
  refine fc_intro (args := [.agg (cForest f1), .agg (cNode x2)]) (S := []) (N0 := []) (post := fun r p S => p = .v (.bool r) ∧ S = []) Try.func5 rfl rfl hr fun w0 X X0 σ0 => ?_
  refine pw_seq ?_
  refine pw_region ?_
  refine po_box  2 rfl rfl rfl rfl rfl rfl rfl rfl rfl rfl ?_
  refine po_box  3 rfl rfl rfl rfl rfl rfl rfl rfl rfl rfl ?_
  refine po_evs (T := tab) 1 rfl rfl ?_
  refine po_nil ?_
  refine pn_seq ?_
  refine pw_seq ?_
  refine pw_seq ?_
  refine pw_region ?_
  refine po_call (enc := fun (r3 : Bool) => .v (.bool r3)) (qs := []) (Instarlaw03_awake_ok fu) rfl rfl trivial (fun _ => rfl) call14 rfl rfl fun r3 hr3 => ?_
  refine po_evs (T := tab) 1 rfl rfl ?_
  refine po_nil ?_
  refine pn_seq ?_
  refine pw_cnd rfl ?_ ?_
  · refine pw_seq ?_
    refine pw_region ?_
    refine po_evs (T := tab) 1 rfl rfl ?_
    refine po_nil ?_
    refine pn_seq ?_
    exact pw_retN (T := tab) rfl rfl rfl ⟨rfl, rfl⟩ trivial rfl
  · refine pw_skip ?_
    refine pn_seq ?_
    refine pw_seq ?_
    refine pw_seq ?_
    refine pw_region ?_
    refine po_evs (T := tab) 1 rfl rfl ?_
    refine po_call (enc := fun (r4 : Bool) => .v (.bool r4)) (qs := [.agg (cForest f1)]) (Instarref03_Short_ok fu f1) rfl rfl ⟨⟨_, rfl, .rfl⟩, trivial⟩ (fun _ => rfl) call15 rfl rfl fun r4 hr4 => ?_
    refine po_evs (T := tab) 2 rfl rfl ?_
    refine po_split (j := 14) rfl ?_ ?_
    · refine po_evs (T := tab) 16 rfl rfl ?_
      refine po_nil ?_
      refine pn_seq (pw_then rfl ?_)
      refine pw_seq ?_
      refine pw_region ?_
      refine po_evs (T := tab) 1 rfl rfl ?_
      refine po_nil ?_
      refine pn_seq ?_
      exact pw_retN (T := tab) rfl rfl rfl ⟨rfl, rfl⟩ trivial rfl
    · refine po_evs (T := tab) 2 rfl rfl ?_
      refine po_len (T := tab) cAttr x2.Attrs rfl rfl rfl rfl rfl rfl rfl rfl ?_
      refine po_evs (T := tab) 3 rfl rfl ?_
      refine po_split (j := 20) rfl ?_ ?_
      · refine po_evs (T := tab) 10 rfl rfl ?_
        refine po_nil ?_
        refine pn_seq (pw_then rfl ?_)
        refine pw_seq ?_
        refine pw_region ?_
        refine po_evs (T := tab) 1 rfl rfl ?_
        refine po_nil ?_
        refine pn_seq ?_
        exact pw_retN (T := tab) rfl rfl rfl ⟨rfl, rfl⟩ trivial rfl
      · refine po_evs (T := tab) 6 rfl rfl ?_
        refine po_split (j := 26) rfl ?_ ?_
        · refine po_evs (T := tab) 4 rfl rfl ?_
          refine po_nil ?_
          refine pn_seq (pw_then rfl ?_)
          refine pw_seq ?_
          refine pw_region ?_
          refine po_evs (T := tab) 1 rfl rfl ?_
          refine po_nil ?_
          refine pn_seq ?_
          exact pw_retN (T := tab) rfl rfl rfl ⟨rfl, rfl⟩ trivial rfl
        · refine po_evs (T := tab) 1 rfl rfl ?_
          refine po_call (enc := fun (r5 : Bool) => .v (.bool r5)) (qs := [.agg (cForest f1)]) (Forest_Right_ok fu f1) rfl rfl ⟨⟨_, rfl, .rfl⟩, trivial⟩ (fun _ => rfl) call19 rfl rfl fun r5 hr5 => ?_
          refine po_evs (T := tab) 2 rfl rfl ?_
          refine po_nil ?_
          refine pn_seq ?_
          refine pw_cnd rfl ?_ ?_
          · refine pw_seq ?_
            refine pw_region ?_
            refine po_evs (T := tab) 1 rfl rfl ?_
            refine po_nil ?_
            refine pn_seq ?_
            exact pw_retN (T := tab) rfl rfl rfl ⟨rfl, rfl⟩ trivial rfl
          · refine pw_skip ?_
            refine pn_seq ?_
            refine pw_seq ?_
            refine pw_region ?_
            refine po_evs (T := tab) 2 rfl rfl ?_
            refine po_call (enc := fun (r6 : (Forest × Int × Int)) => .tup [.agg (cForest r6.1), .v (.int .i64 r6.2.1), .v (.int .i64 r6.2.2)]) (qs := [.agg (cForest f1), .agg (cNode x2)]) (Forest_Make_ok fu f1 x2) rfl rfl ⟨⟨_, rfl, .rfl⟩, ⟨_, rfl, .rfl⟩, trivial⟩ (fun _ => rfl) call18 rfl rfl fun r6 hr6 => ?_
            refine po_evs (T := tab) 4 rfl rfl ?_
            refine po_alloc (T := tab) 5 rfl rfl rfl rfl rfl rfl rfl rfl rfl ?_
            refine po_store (T := tab) rfl rfl rfl rfl rfl rfl rfl rfl rfl rfl rfl rfl ?_
            refine po_evs (T := tab) 2 rfl rfl ?_
            refine po_nil ?_
            refine pn_seq ?_
            refine pw_seq ?_
            refine pw_seq ?_
            refine pw_region ?_
            refine po_evs (T := tab) 2 rfl rfl ?_
            refine po_nil ?_
            refine pn_seq ?_
            refine pw_cnd rfl ?_ ?_
            · refine pw_seq ?_
              refine pw_region ?_
              refine po_evs (T := tab) 3 rfl rfl ?_
              refine po_split (j := 42) rfl ?_ ?_
              · refine po_evs (T := tab) 2 rfl rfl ?_
                refine po_call (enc := fun (r7 : Bool) => .v (.bool r7)) (qs := [.agg (cForest f1), .agg (cForest r6.1)]) (Instarref03_Same_ok fu f1 r6.1) rfl rfl ⟨⟨_, rfl, .rfl⟩, ⟨_, rfl, .rfl⟩, trivial⟩ (fun _ => rfl) call20 rfl rfl fun r7 hr7 => ?_
                refine po_evs (T := tab) 2 rfl rfl ?_
                refine po_split (j := 47) rfl ?_ ?_
                · refine po_evs (T := tab) 4 rfl rfl ?_
                  refine po_len (T := tab) cNode f1.Nodes rfl rfl rfl rfl rfl rfl rfl rfl ?_
                  refine po_evs (T := tab) 4 rfl rfl ?_
                  refine po_split (j := 56) rfl ?_ ?_
                  · refine po_evs (T := tab) 6 rfl rfl ?_
                    refine po_nil ?_
                    refine pn_seq ?_
                    exact pw_retN (T := tab) rfl rfl rfl ⟨rfl, rfl⟩ trivial rfl
                  · refine po_evs (T := tab) 6 rfl rfl ?_
                    refine po_nil ?_
                    refine pn_seq ?_
                    exact pw_retN (T := tab) rfl rfl rfl ⟨rfl, rfl⟩ trivial rfl
                · refine po_evs (T := tab) 15 rfl rfl ?_
                  refine po_nil ?_
                  refine pn_seq ?_
                  exact pw_retN (T := tab) rfl rfl rfl ⟨rfl, rfl⟩ trivial rfl
              · refine po_evs (T := tab) 20 rfl rfl ?_
                refine po_nil ?_
                refine pn_seq ?_
                exact pw_retN (T := tab) rfl rfl rfl ⟨rfl, rfl⟩ trivial rfl
            · refine pw_skip ?_
              refine pn_seq ?_
              refine pw_seq ?_
              refine pw_seq ?_
              refine pw_draw mixed (by kernel_rfl) ?_
              refine pd_evs (T := tab) 1 rfl rfl ?_
              refine pd_call (enc := fun (r8 : Bool) => .v (.bool r8)) (qs := [.agg (cForest r6.1)]) (Forest_Right_ok fu r6.1) rfl rfl ⟨⟨_, rfl, .rfl⟩, trivial⟩ (fun _ => rfl) call19 rfl rfl fun r8 hr8 => ?_
              refine pd_evs (T := tab) 2 rfl rfl ?_
              refine pd_split (j := 65) rfl ?_ ?_
              · refine pd_evs (T := tab) 66 rfl rfl ?_
                refine pd_nil ?_
                refine pn_seq (pw_then rfl ?_)
                refine pw_seq ?_
                refine pw_region ?_
                refine po_evs (T := tab) 1 rfl rfl ?_
                refine po_nil ?_
                refine pn_seq ?_
                exact pw_retN (T := tab) rfl rfl rfl ⟨rfl, rfl⟩ trivial rfl
              · refine pd_evs (T := tab) 3 rfl rfl ?_
                refine pd_len (T := tab) cNode f1.Nodes rfl rfl rfl rfl rfl rfl rfl rfl ?_
                refine pd_evs (T := tab) 3 rfl rfl ?_
                refine pd_split (j := 72) rfl ?_ ?_
                · refine pd_evs (T := tab) 59 rfl rfl ?_
                  refine pd_nil ?_
                  refine pn_seq (pw_then rfl ?_)
                  refine pw_seq ?_
                  refine pw_region ?_
                  refine po_evs (T := tab) 1 rfl rfl ?_
                  refine po_nil ?_
                  refine pn_seq ?_
                  exact pw_retN (T := tab) rfl rfl rfl ⟨rfl, rfl⟩ trivial rfl
                · refine pd_evs (T := tab) 2 rfl rfl ?_
                  refine pd_len (T := tab) cNode r6.1.Nodes rfl rfl rfl rfl rfl rfl rfl rfl ?_
                  refine pd_evs (T := tab) 1 rfl rfl ?_
                  refine pd_arith (T := tab) rfl rfl rfl rfl fun i9 hi9 => ?_
                  refine pd_evs (T := tab) 3 rfl rfl ?_
                  refine pd_split (j := 80) rfl ?_ ?_
                  · refine pd_evs (T := tab) 51 rfl rfl ?_
                    refine pd_nil ?_
                    refine pn_seq (pw_then rfl ?_)
                    refine pw_seq ?_
                    refine pw_region ?_
                    refine po_evs (T := tab) 1 rfl rfl ?_
                    refine po_nil ?_
                    refine pn_seq ?_
                    exact pw_retN (T := tab) rfl rfl rfl ⟨rfl, rfl⟩ trivial rfl
                  · refine pd_evs (T := tab) 3 rfl rfl ?_
                    refine pd_idx (T := tab) cNode r6.1.Nodes rfl rfl rfl rfl rfl rfl rfl fun y10 hy10 => ?_
                    refine pd_evs (T := tab) 5 rfl rfl ?_
                    refine pd_split (j := 89) rfl ?_ ?_
                    · refine pd_evs (T := tab) 42 rfl rfl ?_
                      refine pd_nil ?_
                      refine pn_seq (pw_then rfl ?_)
                      refine pw_seq ?_
                      refine pw_region ?_
                      refine po_evs (T := tab) 1 rfl rfl ?_
                      refine po_nil ?_
                      refine pn_seq ?_
                      exact pw_retN (T := tab) rfl rfl rfl ⟨rfl, rfl⟩ trivial rfl
                    · refine pd_evs (T := tab) 3 rfl rfl ?_
                      refine pd_idx (T := tab) cNode r6.1.Nodes rfl rfl rfl rfl rfl rfl rfl fun y11 hy11 => ?_
                      refine pd_evs (T := tab) 2 rfl rfl ?_
                      refine pd_len (T := tab) cInt_i64 y11.Kids rfl rfl rfl rfl rfl rfl rfl rfl ?_
                      refine pd_evs (T := tab) 3 rfl rfl ?_
                      refine pd_split (j := 99) rfl ?_ ?_
                      · refine pd_evs (T := tab) 32 rfl rfl ?_
                        refine pd_nil ?_
                        refine pn_seq (pw_then rfl ?_)
                        refine pw_seq ?_
                        refine pw_region ?_
                        refine po_evs (T := tab) 1 rfl rfl ?_
                        refine po_nil ?_
                        refine pn_seq ?_
                        exact pw_retN (T := tab) rfl rfl rfl ⟨rfl, rfl⟩ trivial rfl
                      · refine pd_evs (T := tab) 3 rfl rfl ?_
                        refine pd_idx (T := tab) cNode r6.1.Nodes rfl rfl rfl rfl rfl rfl rfl fun y12 hy12 => ?_
                        refine pd_evs (T := tab) 7 rfl rfl ?_
                        refine pd_split (j := 110) rfl ?_ ?_
                        · refine pd_evs (T := tab) 21 rfl rfl ?_
                          refine pd_nil ?_
                          refine pn_seq (pw_then rfl ?_)
                          refine pw_seq ?_
                          refine pw_region ?_
                          refine po_evs (T := tab) 1 rfl rfl ?_
                          refine po_nil ?_
                          refine pn_seq ?_
                          exact pw_retN (T := tab) rfl rfl rfl ⟨rfl, rfl⟩ trivial rfl
                        · refine pd_evs (T := tab) 3 rfl rfl ?_
                          refine pd_idx (T := tab) cNode r6.1.Nodes rfl rfl rfl rfl rfl rfl rfl fun y13 hy13 => ?_
                          refine pd_evs (T := tab) 7 rfl rfl ?_
                          refine pd_split (j := 121) rfl ?_ ?_
                          · refine pd_evs (T := tab) 10 rfl rfl ?_
                            refine pd_nil ?_
                            refine pn_seq (pw_then rfl ?_)
                            refine pw_seq ?_
                            refine pw_region ?_
                            refine po_evs (T := tab) 1 rfl rfl ?_
                            refine po_nil ?_
                            refine pn_seq ?_
                            exact pw_retN (T := tab) rfl rfl rfl ⟨rfl, rfl⟩ trivial rfl
                          · refine pd_evs (T := tab) 3 rfl rfl ?_
                            refine pd_idx (T := tab) cNode r6.1.Nodes rfl rfl rfl rfl rfl rfl rfl fun y14 hy14 => ?_
                            refine pd_evs (T := tab) 6 rfl rfl ?_
                            refine pd_nil ?_
                            refine pn_seq ?_
                            refine pw_cnd rfl ?_ ?_
                            · refine pw_seq ?_
                              refine pw_region ?_
                              refine po_evs (T := tab) 1 rfl rfl ?_
                              refine po_nil ?_
                              refine pn_seq ?_
                              exact pw_retN (T := tab) rfl rfl rfl ⟨rfl, rfl⟩ trivial rfl
                            · refine pw_skip ?_
                              refine pn_seq ?_
                              refine pw_seq ?_
                              refine pw_seq ?_
                              refine pw_region ?_
                              refine po_evs (T := tab) 1 rfl rfl ?_
                              refine po_nil ?_
                              refine pn_seq ?_
                              refine pw_block ?_
                              refine pw_loop' (Instarlaw03_ForestMakes_l1 fu f1 r6) (fun (n15 : Int) => [(2, .loc 2 0), (5, .loc 5 0), (6, .v (.int .i64 r6.2.1)), (8, .v (.int .i64 n15))]) (fun (n15 : Int) => [(5, .box [.sl 10 false (r6.1.Nodes.map cNode), .v (.int .i64 r6.1.Most)]), (2, .box [.sl 10 false (f1.Nodes.map cNode), .v (.int .i64 f1.Most)])]) fu 0 (fun _ => rfl) ⟨rfl, rfl, rfl, rfl, trivial⟩ ⟨rfl, rfl, trivial⟩ rfl ?_
                              rintro k1 n15
                              refine pw_seq ?_
                              refine pw_seq ?_
                              refine pw_region ?_
                              refine po_evs (T := tab) 3 rfl rfl ?_
                              refine po_nil ?_
                              refine pn_seq ?_
                              refine pw_cnd rfl ?_ ?_
                              · refine pw_skip ?_
                                refine pn_seq ?_
                                refine pw_seq ?_
                                refine pw_block ?_
                                refine pw_seq ?_
                                refine pw_draw mixed (by kernel_rfl) ?_
                                refine pd_evs (T := tab) 3 rfl rfl ?_
                                refine pd_idx (T := tab) cNode f1.Nodes rfl rfl rfl rfl rfl rfl rfl fun y16 hy16 => ?_
                                refine pd_evs (T := tab) 4 rfl rfl ?_
                                refine pd_idx (T := tab) cNode r6.1.Nodes rfl rfl rfl rfl rfl rfl rfl fun y17 hy17 => ?_
                                refine pd_evs (T := tab) 1 rfl rfl ?_
                                refine pd_call (enc := fun (r18 : Bool) => .v (.bool r18)) (qs := [.agg (cNode y16), .agg (cNode y17)]) (Instarref03_One_ok fu y16 y17) rfl rfl ⟨⟨_, rfl, .rfl⟩, ⟨_, rfl, .rfl⟩, trivial⟩ (fun _ => rfl) call36 rfl rfl fun r18 hr18 => ?_
                                refine pd_evs (T := tab) 1 rfl rfl ?_
                                refine pd_nil ?_
                                refine pn_seq ?_
                                refine pw_cnd rfl ?_ ?_
                                · refine pw_seq ?_
                                  refine pw_region ?_
                                  refine po_evs (T := tab) 1 rfl rfl ?_
                                  refine po_nil ?_
                                  refine pn_seq ?_
                                  exact pw_retN (T := tab) rfl rfl rfl ⟨rfl, rfl⟩ trivial rfl
                                · refine pw_skip ?_
                                  refine pn_block ?_
                                  refine pn_seq ?_
                                  refine pw_region ?_
                                  refine po_evs (T := tab) 1 rfl rfl ?_
                                  refine po_arith' (T := tab) rfl rfl rfl rfl fun i19 hi19 => ?_
                                  refine po_evs (T := tab) 1 rfl rfl ?_
                                  refine po_nil ?_
                                  exact pn_iter' i19 ⟨rfl, rfl, rfl, rfl, trivial⟩ ⟨rfl, rfl, trivial⟩ rfl
                              · refine pw_exit rfl ?_
                                refine pn_seq ?_
                                refine pw_seq ?_
                                refine pw_region ?_
                                refine po_evs (T := tab) 2 rfl rfl ?_
                                refine po_call (enc := fun (r20 : Int) => .v (.int .i64 r20)) (qs := [.agg (cForest r6.1), .v (.int .i64 r6.2.1)]) (Forest_Root_ok fu r6.1 r6.2.1) rfl rfl ⟨⟨_, rfl, .rfl⟩, ⟨_, rfl, .rfl⟩, trivial⟩ (fun _ => rfl) call22 rfl rfl fun r20 hr20 => ?_
                                refine po_evs (T := tab) 3 rfl rfl ?_
                                refine po_nil ?_
                                refine pn_seq ?_
                                exact pw_retN (T := tab) rfl rfl rfl ⟨rfl, rfl⟩ trivial rfl

def Instarlaw03_ForestHolds_j2 (fu : Nat) (f1 : Forest) (m9 : Int) (x_ : Unit) : Option Bool := bnd (idx f1.Nodes m9) fun y37 => bnd (Forest_Place_m fu f1 m9) fun r38 => cnd (y37.Parent == (-1)) (cnd (r38 == (-1)) (bnd (Forest_Root_m fu f1 m9) fun r39 => some (r39 == m9)) (some false)) (cnd (decide (r38 ≥ 0)) (bnd (idx f1.Nodes y37.Parent) fun y40 => cnd (decide (r38 < ((y40.Kids.length : Nat) : Int))) (bnd (idx f1.Nodes y37.Parent) fun y41 => bnd (idx y41.Kids r38) fun y42 => cnd (y42 == m9) (bnd (Forest_Holds_m fu f1 y37.Parent m9) fun r43 => some r43) (some false)) (some false)) (some false))

def Instarlaw03_ForestHolds_j1 (fu : Nat) (f1 : Forest) (m9 : Int) (m11 : Int) (x_ : Unit) : Option Bool := bnd (Forest_Holds_m fu f1 m9 m11) fun r24 => cnd r24 (bnd (Forest_Root_m fu f1 m9) fun r25 => bnd (Forest_Root_m fu f1 m11) fun r26 => cnd (r25 != r26) (some false) (bnd (Forest_Root_m fu f1 m9) fun r27 => bnd (Forest_Root_m fu f1 r27) fun r28 => bnd (Forest_Root_m fu f1 m9) fun r29 => cnd (r28 != r29) (some false) (bnd (Forest_Root_m fu f1 m9) fun r30 => bnd (Forest_Holds_m fu f1 r30 m9) fun r31 => cnd (!r31) (some false) ((Instarlaw03_ForestHolds_j2 fu f1 m9) ())))) (bnd (Forest_Root_m fu f1 m9) fun r32 => bnd (Forest_Root_m fu f1 r32) fun r33 => bnd (Forest_Root_m fu f1 m9) fun r34 => cnd (r33 != r34) (some false) (bnd (Forest_Root_m fu f1 m9) fun r35 => bnd (Forest_Holds_m fu f1 r35 m9) fun r36 => cnd (!r36) (some false) ((Instarlaw03_ForestHolds_j2 fu f1 m9) ())))

def Instarlaw03_ForestHolds_m (fu : Nat) (f1 : Forest) (a2 : Int) (b3 : Int) (c4 : Int) : Option Bool := bnd (Instarlaw03_awake_m fu) fun r5 => cnd (!r5) (some false) (bnd (Instarref03_Short_m fu f1) fun r6 => cnd (!r6) (some true) (bnd (Forest_Right_m fu f1) fun r7 => cnd (!r7) (some true) (bnd (rng .i64 a2) fun i8 => bnd (remI i8 ((f1.Nodes.length : Nat) : Int)) fun m9 => bnd (rng .i64 b3) fun i10 => bnd (remI i10 ((f1.Nodes.length : Nat) : Int)) fun m11 => bnd (rng .i64 c4) fun i12 => bnd (remI i12 ((f1.Nodes.length : Nat) : Int)) fun m13 => bnd (Forest_Holds_m fu f1 m9 m9) fun r14 => cnd (!r14) (some false) (bnd (Forest_Holds_m fu f1 m9 m11) fun r15 => cnd r15 (bnd (Forest_Holds_m fu f1 m11 m13) fun r16 => cnd r16 (bnd (Forest_Holds_m fu f1 m9 m13) fun r17 => cnd (!r17) (some false) (cnd (m9 != m11) (bnd (Forest_Holds_m fu f1 m9 m11) fun r18 => cnd r18 (bnd (Forest_Holds_m fu f1 m11 m9) fun r19 => cnd r19 (some false) ((Instarlaw03_ForestHolds_j1 fu f1 m9 m11) ())) ((Instarlaw03_ForestHolds_j1 fu f1 m9 m11) ())) ((Instarlaw03_ForestHolds_j1 fu f1 m9 m11) ()))) (cnd (m9 != m11) (bnd (Forest_Holds_m fu f1 m9 m11) fun r20 => cnd r20 (bnd (Forest_Holds_m fu f1 m11 m9) fun r21 => cnd r21 (some false) ((Instarlaw03_ForestHolds_j1 fu f1 m9 m11) ())) ((Instarlaw03_ForestHolds_j1 fu f1 m9 m11) ())) ((Instarlaw03_ForestHolds_j1 fu f1 m9 m11) ()))) (cnd (m9 != m11) (bnd (Forest_Holds_m fu f1 m9 m11) fun r22 => cnd r22 (bnd (Forest_Holds_m fu f1 m11 m9) fun r23 => cnd r23 (some false) ((Instarlaw03_ForestHolds_j1 fu f1 m9 m11) ())) ((Instarlaw03_ForestHolds_j1 fu f1 m9 m11) ())) ((Instarlaw03_ForestHolds_j1 fu f1 m9 m11) ()))))))

set_option maxHeartbeats 10000000 in
set_option maxRecDepth 100000 in
theorem Instarlaw03_ForestHolds_ok (fu : Nat) (f1 : Forest) (a2 : Int) (b3 : Int) (c4 : Int) : ∀ r, Instarlaw03_ForestHolds_m fu f1 a2 b3 c4 = some r → DC Try.prog 6 [.agg (cForest f1), .v (.int .u8 a2), .v (.int .u8 b3), .v (.int .u8 c4)] (.v (.bool r)) := by
  intro r hr
  refine fc_intro (args := [.agg (cForest f1), .v (.int .u8 a2), .v (.int .u8 b3), .v (.int .u8 c4)]) (S := []) (N0 := []) (post := fun r p S => p = .v (.bool r) ∧ S = []) Try.func6 rfl rfl hr fun w0 X X0 σ0 => ?_
  refine pw_seq ?_
  refine pw_region ?_
  refine po_box  4 rfl rfl rfl rfl rfl rfl rfl rfl rfl rfl ?_
  refine po_evs (T := tab) 1 rfl rfl ?_
  refine po_nil ?_
  refine pn_seq ?_
  refine pw_seq ?_
  refine pw_seq ?_
  refine pw_region ?_
  refine po_call (enc := fun (r5 : Bool) => .v (.bool r5)) (qs := []) (Instarlaw03_awake_ok fu) rfl rfl trivial (fun _ => rfl) call14 rfl rfl fun r5 hr5 => ?_
  refine po_evs (T := tab) 1 rfl rfl ?_
  refine po_nil ?_
  refine pn_seq ?_
  refine pw_cnd rfl ?_ ?_
  · refine pw_seq ?_
    refine pw_region ?_
    refine po_evs (T := tab) 1 rfl rfl ?_
    refine po_nil ?_
    refine pn_seq ?_
    exact pw_retN (T := tab) rfl rfl rfl ⟨rfl, rfl⟩ trivial rfl
  · refine pw_skip ?_
    refine pn_seq ?_
    refine pw_seq ?_
    refine pw_seq ?_
    refine pw_region ?_
    refine po_evs (T := tab) 1 rfl rfl ?_
    refine po_call (enc := fun (r6 : Bool) => .v (.bool r6)) (qs := [.agg (cForest f1)]) (Instarref03_Short_ok fu f1) rfl rfl ⟨⟨_, rfl, .rfl⟩, trivial⟩ (fun _ => rfl) call15 rfl rfl fun r6 hr6 => ?_
    refine po_evs (T := tab) 2 rfl rfl ?_
    refine po_split (j := 19) rfl ?_ ?_
    · refine po_evs (T := tab) 4 rfl rfl ?_
      refine po_nil ?_
      refine pn_seq (pw_then rfl ?_)
      refine pw_seq ?_
      refine pw_region ?_
      refine po_evs (T := tab) 1 rfl rfl ?_
      refine po_nil ?_
      refine pn_seq ?_
      exact pw_retN (T := tab) rfl rfl rfl ⟨rfl, rfl⟩ trivial rfl
    · refine po_evs (T := tab) 1 rfl rfl ?_
      refine po_call (enc := fun (r7 : Bool) => .v (.bool r7)) (qs := [.agg (cForest f1)]) (Forest_Right_ok fu f1) rfl rfl ⟨⟨_, rfl, .rfl⟩, trivial⟩ (fun _ => rfl) call19 rfl rfl fun r7 hr7 => ?_
      refine po_evs (T := tab) 2 rfl rfl ?_
      refine po_nil ?_
      refine pn_seq ?_
      refine pw_cnd rfl ?_ ?_
      · refine pw_seq ?_
        refine pw_region ?_
        refine po_evs (T := tab) 1 rfl rfl ?_
        refine po_nil ?_
        refine pn_seq ?_
        exact pw_retN (T := tab) rfl rfl rfl ⟨rfl, rfl⟩ trivial rfl
      · refine pw_skip ?_
        refine pn_seq ?_
        refine pw_seq ?_
        refine pw_draw mixed (by kernel_rfl) ?_
        refine pd_evs (T := tab) 1 rfl rfl ?_
        refine pd_arith (T := tab) rfl rfl rfl rfl fun i8 hi8 => ?_
        refine pd_evs (T := tab) 2 rfl rfl ?_
        refine pd_len (T := tab) cNode f1.Nodes rfl rfl rfl rfl rfl rfl rfl rfl ?_
        refine pd_rem rfl rfl rfl rfl rfl rfl fun m9 hm9 => ?_
        refine pd_evs (T := tab) 1 rfl rfl ?_
        refine pd_arith (T := tab) rfl rfl rfl rfl fun i10 hi10 => ?_
        refine pd_evs (T := tab) 2 rfl rfl ?_
        refine pd_len (T := tab) cNode f1.Nodes rfl rfl rfl rfl rfl rfl rfl rfl ?_
        refine pd_rem rfl rfl rfl rfl rfl rfl fun m11 hm11 => ?_
        refine pd_evs (T := tab) 1 rfl rfl ?_
        refine pd_arith (T := tab) rfl rfl rfl rfl fun i12 hi12 => ?_
        refine pd_evs (T := tab) 2 rfl rfl ?_
        refine pd_len (T := tab) cNode f1.Nodes rfl rfl rfl rfl rfl rfl rfl rfl ?_
        refine pd_rem rfl rfl rfl rfl rfl rfl fun m13 hm13 => ?_
        refine pd_evs (T := tab) 3 rfl rfl ?_
        refine pd_nil ?_
        refine pn_seq ?_
        refine pw_seq ?_
        refine pw_seq ?_
        refine pw_region ?_
        refine po_joinB (Instarlaw03_ForestHolds_j1 fu f1 m9 m11) (fun (_ : Unit) => [(4, .loc 4 0), (9, .v (.int .i64 m9)), (10, .v (.int .i64 m11))]) (fun (_ : Unit) => [(4, .box [.sl 10 false (f1.Nodes.map cNode), .v (.int .i64 f1.Most)])]) ?_ fun hj1 => ?_
        · rintro _
          refine pn_seq ?_
          refine pw_seq ?_
          refine pw_seq ?_
          refine pw_draw mixed (by kernel_rfl) ?_
          refine pd_joinB (Instarlaw03_ForestHolds_j2 fu f1 m9) (fun (_ : Unit) => [(4, .loc 4 0), (9, .v (.int .i64 m9))]) (fun (_ : Unit) => [(4, .box [.sl 10 false (f1.Nodes.map cNode), .v (.int .i64 f1.Most)])]) ?_ fun hj2 => ?_
          · rintro _
            refine pn_seq ?_
            refine pw_seq ?_
            refine pw_draw mixed (by kernel_rfl) ?_
            refine pd_evs (T := tab) 3 rfl rfl ?_
            refine pd_idx (T := tab) cNode f1.Nodes rfl rfl rfl rfl rfl rfl rfl fun y37 hy37 => ?_
            refine pd_evs (T := tab) 4 rfl rfl ?_
            refine pd_call (enc := fun (r38 : Int) => .v (.int .i64 r38)) (qs := [.agg (cForest f1), .v (.int .i64 m9)]) (Forest_Place_ok fu f1 m9) rfl rfl ⟨⟨_, rfl, .rfl⟩, ⟨_, rfl, .rfl⟩, trivial⟩ (fun _ => rfl) call25 rfl rfl fun r38 hr38 => ?_
            refine pd_evs (T := tab) 2 rfl rfl ?_
            refine pd_nil ?_
            refine pn_seq ?_
            refine pw_seq ?_
            refine pw_seq ?_
            refine pw_region ?_
            refine po_evs (T := tab) 2 rfl rfl ?_
            refine po_nil ?_
            refine pn_seq ?_
            refine pw_cnd rfl ?_ ?_
            · refine pw_seq ?_
              refine pw_region ?_
              refine po_evs (T := tab) 3 rfl rfl ?_
              refine po_split (j := 129) rfl ?_ ?_
              · refine po_evs (T := tab) 2 rfl rfl ?_
                refine po_call (enc := fun (r39 : Int) => .v (.int .i64 r39)) (qs := [.agg (cForest f1), .v (.int .i64 m9)]) (Forest_Root_ok fu f1 m9) rfl rfl ⟨⟨_, rfl, .rfl⟩, ⟨_, rfl, .rfl⟩, trivial⟩ (fun _ => rfl) call22 rfl rfl fun r39 hr39 => ?_
                refine po_evs (T := tab) 4 rfl rfl ?_
                refine po_nil ?_
                refine pn_seq ?_
                exact pw_retN (T := tab) rfl rfl rfl ⟨rfl, rfl⟩ trivial rfl
              · refine po_evs (T := tab) 7 rfl rfl ?_
                refine po_nil ?_
                refine pn_seq ?_
                exact pw_retN (T := tab) rfl rfl rfl ⟨rfl, rfl⟩ trivial rfl
            · refine pw_skip ?_
              refine pn_seq ?_
              refine pw_seq ?_
              refine pw_region ?_
              refine po_evs (T := tab) 3 rfl rfl ?_
              refine po_split (j := 138) rfl ?_ ?_
              · refine po_evs (T := tab) 4 rfl rfl ?_
                refine po_idx (T := tab) cNode f1.Nodes rfl rfl rfl rfl rfl rfl rfl fun y40 hy40 => ?_
                refine po_evs (T := tab) 2 rfl rfl ?_
                refine po_len (T := tab) cInt_i64 y40.Kids rfl rfl rfl rfl rfl rfl rfl rfl ?_
                refine po_evs (T := tab) 3 rfl rfl ?_
                refine po_split (j := 149) rfl ?_ ?_
                · refine po_evs (T := tab) 3 rfl rfl ?_
                  refine po_idx (T := tab) cNode f1.Nodes rfl rfl rfl rfl rfl rfl rfl fun y41 hy41 => ?_
                  refine po_evs (T := tab) 3 rfl rfl ?_
                  refine po_idx (T := tab) cInt_i64 y41.Kids rfl rfl rfl rfl rfl rfl rfl fun y42 hy42 => ?_
                  refine po_evs (T := tab) 5 rfl rfl ?_
                  refine po_split (j := 162) rfl ?_ ?_
                  · refine po_evs (T := tab) 3 rfl rfl ?_
                    refine po_call (enc := fun (r43 : Bool) => .v (.bool r43)) (qs := [.agg (cForest f1), .v (.int .i64 y37.Parent), .v (.int .i64 m9)]) (Forest_Holds_ok fu f1 y37.Parent m9) rfl rfl ⟨⟨_, rfl, .rfl⟩, ⟨_, rfl, .rfl⟩, ⟨_, rfl, .rfl⟩, trivial⟩ (fun _ => rfl) call24 rfl rfl fun r43 hr43 => ?_
                    refine po_evs (T := tab) 2 rfl rfl ?_
                    refine po_nil ?_
                    refine pn_seq ?_
                    exact pw_retN (T := tab) rfl rfl rfl ⟨rfl, rfl⟩ trivial rfl
                  · refine po_evs (T := tab) 6 rfl rfl ?_
                    refine po_nil ?_
                    refine pn_seq ?_
                    exact pw_retN (T := tab) rfl rfl rfl ⟨rfl, rfl⟩ trivial rfl
                · refine po_evs (T := tab) 19 rfl rfl ?_
                  refine po_nil ?_
                  refine pn_seq ?_
                  exact pw_retN (T := tab) rfl rfl rfl ⟨rfl, rfl⟩ trivial rfl
              · refine po_evs (T := tab) 30 rfl rfl ?_
                refine po_nil ?_
                refine pn_seq ?_
                exact pw_retN (T := tab) rfl rfl rfl ⟨rfl, rfl⟩ trivial rfl
          · refine pd_evs (T := tab) 3 rfl rfl ?_
            refine pd_call (enc := fun (r24 : Bool) => .v (.bool r24)) (qs := [.agg (cForest f1), .v (.int .i64 m9), .v (.int .i64 m11)]) (Forest_Holds_ok fu f1 m9 m11) rfl rfl ⟨⟨_, rfl, .rfl⟩, ⟨_, rfl, .rfl⟩, ⟨_, rfl, .rfl⟩, trivial⟩ (fun _ => rfl) call24 rfl rfl fun r24 hr24 => ?_
            refine pd_evs (T := tab) 1 rfl rfl ?_
            refine pd_split (j := 87) rfl ?_ ?_
            · refine pd_evs (T := tab) 2 rfl rfl ?_
              refine pd_call (enc := fun (r25 : Int) => .v (.int .i64 r25)) (qs := [.agg (cForest f1), .v (.int .i64 m9)]) (Forest_Root_ok fu f1 m9) rfl rfl ⟨⟨_, rfl, .rfl⟩, ⟨_, rfl, .rfl⟩, trivial⟩ (fun _ => rfl) call22 rfl rfl fun r25 hr25 => ?_
              refine pd_evs (T := tab) 2 rfl rfl ?_
              refine pd_call (enc := fun (r26 : Int) => .v (.int .i64 r26)) (qs := [.agg (cForest f1), .v (.int .i64 m11)]) (Forest_Root_ok fu f1 m11) rfl rfl ⟨⟨_, rfl, .rfl⟩, ⟨_, rfl, .rfl⟩, trivial⟩ (fun _ => rfl) call22 rfl rfl fun r26 hr26 => ?_
              refine pd_evs (T := tab) 3 rfl rfl ?_
              refine pd_split (j := 96) rfl ?_ ?_
              · refine pd_evs (T := tab) 19 rfl rfl ?_
                refine pd_nil ?_
                refine pn_seq (pw_then rfl ?_)
                refine pw_seq ?_
                refine pw_region ?_
                refine po_evs (T := tab) 1 rfl rfl ?_
                refine po_nil ?_
                refine pn_seq ?_
                exact pw_retN (T := tab) rfl rfl rfl ⟨rfl, rfl⟩ trivial rfl
              · refine pd_evs (T := tab) 3 rfl rfl ?_
                refine pd_call (enc := fun (r27 : Int) => .v (.int .i64 r27)) (qs := [.agg (cForest f1), .v (.int .i64 m9)]) (Forest_Root_ok fu f1 m9) rfl rfl ⟨⟨_, rfl, .rfl⟩, ⟨_, rfl, .rfl⟩, trivial⟩ (fun _ => rfl) call22 rfl rfl fun r27 hr27 => ?_
                refine pd_call (enc := fun (r28 : Int) => .v (.int .i64 r28)) (qs := [.agg (cForest f1), .v (.int .i64 r27)]) (Forest_Root_ok fu f1 r27) rfl rfl ⟨⟨_, rfl, .rfl⟩, ⟨_, rfl, .rfl⟩, trivial⟩ (fun _ => rfl) call22 rfl rfl fun r28 hr28 => ?_
                refine pd_evs (T := tab) 2 rfl rfl ?_
                refine pd_call (enc := fun (r29 : Int) => .v (.int .i64 r29)) (qs := [.agg (cForest f1), .v (.int .i64 m9)]) (Forest_Root_ok fu f1 m9) rfl rfl ⟨⟨_, rfl, .rfl⟩, ⟨_, rfl, .rfl⟩, trivial⟩ (fun _ => rfl) call22 rfl rfl fun r29 hr29 => ?_
                refine pd_evs (T := tab) 3 rfl rfl ?_
                refine pd_split (j := 107) rfl ?_ ?_
                · refine pd_evs (T := tab) 8 rfl rfl ?_
                  refine pd_nil ?_
                  refine pn_seq (pw_then rfl ?_)
                  refine pw_seq ?_
                  refine pw_region ?_
                  refine po_evs (T := tab) 1 rfl rfl ?_
                  refine po_nil ?_
                  refine pn_seq ?_
                  exact pw_retN (T := tab) rfl rfl rfl ⟨rfl, rfl⟩ trivial rfl
                · refine pd_evs (T := tab) 3 rfl rfl ?_
                  refine pd_call (enc := fun (r30 : Int) => .v (.int .i64 r30)) (qs := [.agg (cForest f1), .v (.int .i64 m9)]) (Forest_Root_ok fu f1 m9) rfl rfl ⟨⟨_, rfl, .rfl⟩, ⟨_, rfl, .rfl⟩, trivial⟩ (fun _ => rfl) call22 rfl rfl fun r30 hr30 => ?_
                  refine pd_evs (T := tab) 1 rfl rfl ?_
                  refine pd_call (enc := fun (r31 : Bool) => .v (.bool r31)) (qs := [.agg (cForest f1), .v (.int .i64 r30), .v (.int .i64 m9)]) (Forest_Holds_ok fu f1 r30 m9) rfl rfl ⟨⟨_, rfl, .rfl⟩, ⟨_, rfl, .rfl⟩, ⟨_, rfl, .rfl⟩, trivial⟩ (fun _ => rfl) call24 rfl rfl fun r31 hr31 => ?_
                  refine pd_evs (T := tab) 2 rfl rfl ?_
                  refine pd_nil ?_
                  refine pn_seq ?_
                  refine pw_cnd rfl ?_ ?_
                  · refine pw_seq ?_
                    refine pw_region ?_
                    refine po_evs (T := tab) 1 rfl rfl ?_
                    refine po_nil ?_
                    refine pn_seq ?_
                    exact pw_retN (T := tab) rfl rfl rfl ⟨rfl, rfl⟩ trivial rfl
                  · refine pw_skip ?_
                    exact pn_sub' (hj2 ()) ⟨rfl, rfl, trivial⟩ ⟨rfl, trivial⟩ rfl
            · refine pd_evs (T := tab) 12 rfl rfl ?_
              refine pd_call (enc := fun (r32 : Int) => .v (.int .i64 r32)) (qs := [.agg (cForest f1), .v (.int .i64 m9)]) (Forest_Root_ok fu f1 m9) rfl rfl ⟨⟨_, rfl, .rfl⟩, ⟨_, rfl, .rfl⟩, trivial⟩ (fun _ => rfl) call22 rfl rfl fun r32 hr32 => ?_
              refine pd_call (enc := fun (r33 : Int) => .v (.int .i64 r33)) (qs := [.agg (cForest f1), .v (.int .i64 r32)]) (Forest_Root_ok fu f1 r32) rfl rfl ⟨⟨_, rfl, .rfl⟩, ⟨_, rfl, .rfl⟩, trivial⟩ (fun _ => rfl) call22 rfl rfl fun r33 hr33 => ?_
              refine pd_evs (T := tab) 2 rfl rfl ?_
              refine pd_call (enc := fun (r34 : Int) => .v (.int .i64 r34)) (qs := [.agg (cForest f1), .v (.int .i64 m9)]) (Forest_Root_ok fu f1 m9) rfl rfl ⟨⟨_, rfl, .rfl⟩, ⟨_, rfl, .rfl⟩, trivial⟩ (fun _ => rfl) call22 rfl rfl fun r34 hr34 => ?_
              refine pd_evs (T := tab) 3 rfl rfl ?_
              refine pd_split (j := 107) rfl ?_ ?_
              · refine pd_evs (T := tab) 8 rfl rfl ?_
                refine pd_nil ?_
                refine pn_seq (pw_then rfl ?_)
                refine pw_seq ?_
                refine pw_region ?_
                refine po_evs (T := tab) 1 rfl rfl ?_
                refine po_nil ?_
                refine pn_seq ?_
                exact pw_retN (T := tab) rfl rfl rfl ⟨rfl, rfl⟩ trivial rfl
              · refine pd_evs (T := tab) 3 rfl rfl ?_
                refine pd_call (enc := fun (r35 : Int) => .v (.int .i64 r35)) (qs := [.agg (cForest f1), .v (.int .i64 m9)]) (Forest_Root_ok fu f1 m9) rfl rfl ⟨⟨_, rfl, .rfl⟩, ⟨_, rfl, .rfl⟩, trivial⟩ (fun _ => rfl) call22 rfl rfl fun r35 hr35 => ?_
                refine pd_evs (T := tab) 1 rfl rfl ?_
                refine pd_call (enc := fun (r36 : Bool) => .v (.bool r36)) (qs := [.agg (cForest f1), .v (.int .i64 r35), .v (.int .i64 m9)]) (Forest_Holds_ok fu f1 r35 m9) rfl rfl ⟨⟨_, rfl, .rfl⟩, ⟨_, rfl, .rfl⟩, ⟨_, rfl, .rfl⟩, trivial⟩ (fun _ => rfl) call24 rfl rfl fun r36 hr36 => ?_
                refine pd_evs (T := tab) 2 rfl rfl ?_
                refine pd_nil ?_
                refine pn_seq ?_
                refine pw_cnd rfl ?_ ?_
                · refine pw_seq ?_
                  refine pw_region ?_
                  refine po_evs (T := tab) 1 rfl rfl ?_
                  refine po_nil ?_
                  refine pn_seq ?_
                  exact pw_retN (T := tab) rfl rfl rfl ⟨rfl, rfl⟩ trivial rfl
                · refine pw_skip ?_
                  exact pn_sub' (hj2 ()) ⟨rfl, rfl, trivial⟩ ⟨rfl, trivial⟩ rfl
        · refine po_evs (T := tab) 3 rfl rfl ?_
          refine po_call (enc := fun (r14 : Bool) => .v (.bool r14)) (qs := [.agg (cForest f1), .v (.int .i64 m9), .v (.int .i64 m9)]) (Forest_Holds_ok fu f1 m9 m9) rfl rfl ⟨⟨_, rfl, .rfl⟩, ⟨_, rfl, .rfl⟩, ⟨_, rfl, .rfl⟩, trivial⟩ (fun _ => rfl) call24 rfl rfl fun r14 hr14 => ?_
          refine po_evs (T := tab) 2 rfl rfl ?_
          refine po_split (j := 47) rfl ?_ ?_
          · refine po_evs (T := tab) 35 rfl rfl ?_
            refine po_nil ?_
            refine pn_seq (pw_then rfl ?_)
            refine pw_seq ?_
            refine pw_region ?_
            refine po_evs (T := tab) 1 rfl rfl ?_
            refine po_nil ?_
            refine pn_seq ?_
            exact pw_retN (T := tab) rfl rfl rfl ⟨rfl, rfl⟩ trivial rfl
          · refine po_evs (T := tab) 3 rfl rfl ?_
            refine po_call (enc := fun (r15 : Bool) => .v (.bool r15)) (qs := [.agg (cForest f1), .v (.int .i64 m9), .v (.int .i64 m11)]) (Forest_Holds_ok fu f1 m9 m11) rfl rfl ⟨⟨_, rfl, .rfl⟩, ⟨_, rfl, .rfl⟩, ⟨_, rfl, .rfl⟩, trivial⟩ (fun _ => rfl) call24 rfl rfl fun r15 hr15 => ?_
            refine po_evs (T := tab) 1 rfl rfl ?_
            refine po_split (j := 52) rfl ?_ ?_
            · refine po_evs (T := tab) 3 rfl rfl ?_
              refine po_call (enc := fun (r16 : Bool) => .v (.bool r16)) (qs := [.agg (cForest f1), .v (.int .i64 m11), .v (.int .i64 m13)]) (Forest_Holds_ok fu f1 m11 m13) rfl rfl ⟨⟨_, rfl, .rfl⟩, ⟨_, rfl, .rfl⟩, ⟨_, rfl, .rfl⟩, trivial⟩ (fun _ => rfl) call24 rfl rfl fun r16 hr16 => ?_
              refine po_evs (T := tab) 2 rfl rfl ?_
              refine po_split (j := 58) rfl ?_ ?_
              · refine po_evs (T := tab) 3 rfl rfl ?_
                refine po_call (enc := fun (r17 : Bool) => .v (.bool r17)) (qs := [.agg (cForest f1), .v (.int .i64 m9), .v (.int .i64 m13)]) (Forest_Holds_ok fu f1 m9 m13) rfl rfl ⟨⟨_, rfl, .rfl⟩, ⟨_, rfl, .rfl⟩, ⟨_, rfl, .rfl⟩, trivial⟩ (fun _ => rfl) call24 rfl rfl fun r17 hr17 => ?_
                refine po_evs (T := tab) 4 rfl rfl ?_
                refine po_split (j := 66) rfl ?_ ?_
                · refine po_evs (T := tab) 16 rfl rfl ?_
                  refine po_nil ?_
                  refine pn_seq (pw_then rfl ?_)
                  refine pw_seq ?_
                  refine pw_region ?_
                  refine po_evs (T := tab) 1 rfl rfl ?_
                  refine po_nil ?_
                  refine pn_seq ?_
                  exact pw_retN (T := tab) rfl rfl rfl ⟨rfl, rfl⟩ trivial rfl
                · refine po_evs (T := tab) 4 rfl rfl ?_
                  refine po_split (j := 70) rfl ?_ ?_
                  · refine po_evs (T := tab) 3 rfl rfl ?_
                    refine po_call (enc := fun (r18 : Bool) => .v (.bool r18)) (qs := [.agg (cForest f1), .v (.int .i64 m9), .v (.int .i64 m11)]) (Forest_Holds_ok fu f1 m9 m11) rfl rfl ⟨⟨_, rfl, .rfl⟩, ⟨_, rfl, .rfl⟩, ⟨_, rfl, .rfl⟩, trivial⟩ (fun _ => rfl) call24 rfl rfl fun r18 hr18 => ?_
                    refine po_evs (T := tab) 2 rfl rfl ?_
                    refine po_split (j := 76) rfl ?_ ?_
                    · refine po_evs (T := tab) 3 rfl rfl ?_
                      refine po_call (enc := fun (r19 : Bool) => .v (.bool r19)) (qs := [.agg (cForest f1), .v (.int .i64 m11), .v (.int .i64 m9)]) (Forest_Holds_ok fu f1 m11 m9) rfl rfl ⟨⟨_, rfl, .rfl⟩, ⟨_, rfl, .rfl⟩, ⟨_, rfl, .rfl⟩, trivial⟩ (fun _ => rfl) call24 rfl rfl fun r19 hr19 => ?_
                      refine po_evs (T := tab) 2 rfl rfl ?_
                      refine po_nil ?_
                      refine pn_seq ?_
                      refine pw_cnd rfl ?_ ?_
                      · refine pw_seq ?_
                        refine pw_region ?_
                        refine po_evs (T := tab) 1 rfl rfl ?_
                        refine po_nil ?_
                        refine pn_seq ?_
                        exact pw_retN (T := tab) rfl rfl rfl ⟨rfl, rfl⟩ trivial rfl
                      · refine pw_skip ?_
                        exact pn_sub' (hj1 ()) ⟨rfl, rfl, rfl, trivial⟩ ⟨rfl, trivial⟩ rfl
                    · refine po_evs (T := tab) 6 rfl rfl ?_
                      refine po_nil ?_
                      refine pn_seq (pw_else rfl ?_)
                      refine pw_skip ?_
                      exact pn_sub' (hj1 ()) ⟨rfl, rfl, rfl, trivial⟩ ⟨rfl, trivial⟩ rfl
                  · refine po_evs (T := tab) 12 rfl rfl ?_
                    refine po_nil ?_
                    refine pn_seq (pw_else rfl ?_)
                    refine pw_skip ?_
                    exact pn_sub' (hj1 ()) ⟨rfl, rfl, rfl, trivial⟩ ⟨rfl, trivial⟩ rfl
              · refine po_evs (T := tab) 12 rfl rfl ?_
                refine po_split (j := 70) rfl ?_ ?_
                · refine po_evs (T := tab) 3 rfl rfl ?_
                  refine po_call (enc := fun (r20 : Bool) => .v (.bool r20)) (qs := [.agg (cForest f1), .v (.int .i64 m9), .v (.int .i64 m11)]) (Forest_Holds_ok fu f1 m9 m11) rfl rfl ⟨⟨_, rfl, .rfl⟩, ⟨_, rfl, .rfl⟩, ⟨_, rfl, .rfl⟩, trivial⟩ (fun _ => rfl) call24 rfl rfl fun r20 hr20 => ?_
                  refine po_evs (T := tab) 2 rfl rfl ?_
                  refine po_split (j := 76) rfl ?_ ?_
                  · refine po_evs (T := tab) 3 rfl rfl ?_
                    refine po_call (enc := fun (r21 : Bool) => .v (.bool r21)) (qs := [.agg (cForest f1), .v (.int .i64 m11), .v (.int .i64 m9)]) (Forest_Holds_ok fu f1 m11 m9) rfl rfl ⟨⟨_, rfl, .rfl⟩, ⟨_, rfl, .rfl⟩, ⟨_, rfl, .rfl⟩, trivial⟩ (fun _ => rfl) call24 rfl rfl fun r21 hr21 => ?_
                    refine po_evs (T := tab) 2 rfl rfl ?_
                    refine po_nil ?_
                    refine pn_seq ?_
                    refine pw_cnd rfl ?_ ?_
                    · refine pw_seq ?_
                      refine pw_region ?_
                      refine po_evs (T := tab) 1 rfl rfl ?_
                      refine po_nil ?_
                      refine pn_seq ?_
                      exact pw_retN (T := tab) rfl rfl rfl ⟨rfl, rfl⟩ trivial rfl
                    · refine pw_skip ?_
                      exact pn_sub' (hj1 ()) ⟨rfl, rfl, rfl, trivial⟩ ⟨rfl, trivial⟩ rfl
                  · refine po_evs (T := tab) 6 rfl rfl ?_
                    refine po_nil ?_
                    refine pn_seq (pw_else rfl ?_)
                    refine pw_skip ?_
                    exact pn_sub' (hj1 ()) ⟨rfl, rfl, rfl, trivial⟩ ⟨rfl, trivial⟩ rfl
                · refine po_evs (T := tab) 12 rfl rfl ?_
                  refine po_nil ?_
                  refine pn_seq (pw_else rfl ?_)
                  refine pw_skip ?_
                  exact pn_sub' (hj1 ()) ⟨rfl, rfl, rfl, trivial⟩ ⟨rfl, trivial⟩ rfl
            · refine po_evs (T := tab) 18 rfl rfl ?_
              refine po_split (j := 70) rfl ?_ ?_
              · refine po_evs (T := tab) 3 rfl rfl ?_
                refine po_call (enc := fun (r22 : Bool) => .v (.bool r22)) (qs := [.agg (cForest f1), .v (.int .i64 m9), .v (.int .i64 m11)]) (Forest_Holds_ok fu f1 m9 m11) rfl rfl ⟨⟨_, rfl, .rfl⟩, ⟨_, rfl, .rfl⟩, ⟨_, rfl, .rfl⟩, trivial⟩ (fun _ => rfl) call24 rfl rfl fun r22 hr22 => ?_
                refine po_evs (T := tab) 2 rfl rfl ?_
                refine po_split (j := 76) rfl ?_ ?_
                · refine po_evs (T := tab) 3 rfl rfl ?_
                  refine po_call (enc := fun (r23 : Bool) => .v (.bool r23)) (qs := [.agg (cForest f1), .v (.int .i64 m11), .v (.int .i64 m9)]) (Forest_Holds_ok fu f1 m11 m9) rfl rfl ⟨⟨_, rfl, .rfl⟩, ⟨_, rfl, .rfl⟩, ⟨_, rfl, .rfl⟩, trivial⟩ (fun _ => rfl) call24 rfl rfl fun r23 hr23 => ?_
                  refine po_evs (T := tab) 2 rfl rfl ?_
                  refine po_nil ?_
                  refine pn_seq ?_
                  refine pw_cnd rfl ?_ ?_
                  · refine pw_seq ?_
                    refine pw_region ?_
                    refine po_evs (T := tab) 1 rfl rfl ?_
                    refine po_nil ?_
                    refine pn_seq ?_
                    exact pw_retN (T := tab) rfl rfl rfl ⟨rfl, rfl⟩ trivial rfl
                  · refine pw_skip ?_
                    exact pn_sub' (hj1 ()) ⟨rfl, rfl, rfl, trivial⟩ ⟨rfl, trivial⟩ rfl
                · refine po_evs (T := tab) 6 rfl rfl ?_
                  refine po_nil ?_
                  refine pn_seq (pw_else rfl ?_)
                  refine pw_skip ?_
                  exact pn_sub' (hj1 ()) ⟨rfl, rfl, rfl, trivial⟩ ⟨rfl, trivial⟩ rfl
              · refine po_evs (T := tab) 12 rfl rfl ?_
                refine po_nil ?_
                refine pn_seq (pw_else rfl ?_)
                refine pw_skip ?_
                exact pn_sub' (hj1 ()) ⟨rfl, rfl, rfl, trivial⟩ ⟨rfl, trivial⟩ rfl

end Go.Proofs.Ytcaepigodglihaa
