/- Models and proofs, printed by emit2.py. -/
import Derived.Test.YtcaepigodglihaaG2
namespace Go.Proofs.Ytcaepigodglihaa
open Go Go.Pw
set_option linter.unusedVariables false

set_option maxHeartbeats 10000000 in
set_option maxRecDepth 100000 in
theorem Instarlaw04_ShadeRight_ok (fu : Nat) (f1 : Forest) (a2 : Int) (b3 : Int) : ∀ r, Instarlaw04_ShadeRight_m fu f1 a2 b3 = some r → DC Try.prog 7 [.agg (cForest f1), .v (.int .i64 a2), .v (.int .i64 b3)] (.v (.bool r)) := by
  intro r hr
  refine fc_intro (args := [.agg (cForest f1), .v (.int .i64 a2), .v (.int .i64 b3)]) (S := []) (N0 := []) (post := fun r p S => p = .v (.bool r) ∧ S = []) Try.func7 rfl rfl hr fun w0 X X0 σ0 => ?_
  refine pw_seq ?_
  refine pw_region ?_
  refine po_box  3 rfl rfl rfl rfl rfl rfl rfl rfl rfl rfl ?_
  refine po_evs (T := tab) 1 rfl rfl ?_
  refine po_nil ?_
  refine pn_seq ?_
  refine pw_seq ?_
  refine pw_seq ?_
  refine pw_region ?_
  refine po_call (enc := fun (r4 : Bool) => .v (.bool r4)) (qs := []) (Instarlaw04_awake_ok fu) rfl rfl trivial (fun _ => rfl) call37 rfl rfl fun r4 hr4 => ?_
  refine po_evs (T := tab) 1 rfl rfl ?_
  refine po_nil ?_
  refine pn_seq ?_
  refine pw_cnd rfl ?_ ?_
  · refine pw_seq ?_
    refine pw_region ?_
    refine po_evs (T := tab) 1 rfl rfl ?_
    refine po_nil ?_
    refine pn_seq ?_
    exact pw_retN (T := tab) rfl rfl rfl ⟨rfl, rfl⟩ trivial rfl
  · refine pw_skip ?_
    refine pn_seq ?_
    refine pw_seq ?_
    refine pw_seq ?_
    refine pw_region ?_
    refine po_evs (T := tab) 1 rfl rfl ?_
    refine po_call (enc := fun (r5 : Bool) => .v (.bool r5)) (qs := [.agg (cForest f1)]) (Instarref03_Short_ok fu f1) rfl rfl ⟨⟨_, rfl, .rfl⟩, trivial⟩ (fun _ => rfl) call15 rfl rfl fun r5 hr5 => ?_
    refine po_evs (T := tab) 1 rfl rfl ?_
    refine po_nil ?_
    refine pn_seq ?_
    refine pw_cnd rfl ?_ ?_
    · refine pw_seq ?_
      refine pw_region ?_
      refine po_evs (T := tab) 1 rfl rfl ?_
      refine po_nil ?_
      refine pn_seq ?_
      exact pw_retN (T := tab) rfl rfl rfl ⟨rfl, rfl⟩ trivial rfl
    · refine pw_skip ?_
      refine pn_seq ?_
      refine pw_seq ?_
      refine pw_region ?_
      refine po_evs (T := tab) 2 rfl rfl ?_
      refine po_call (enc := fun (r6 : (Forest × Int × Int)) => .tup [.agg (cForest r6.1), .v (.int .i64 r6.2.1), .v (.int .i64 r6.2.2)]) (qs := [.agg (cForest f1), .v (.int .i64 a2)]) (Shade_Attach_ok fu f1 a2) rfl rfl ⟨⟨_, rfl, .rfl⟩, ⟨_, rfl, .rfl⟩, trivial⟩ (fun _ => rfl) call38 rfl rfl fun r6 hr6 => ?_
      refine po_evs (T := tab) 4 rfl rfl ?_
      refine po_alloc (T := tab) 7 rfl rfl rfl rfl rfl rfl rfl rfl rfl ?_
      refine po_store (T := tab) rfl rfl rfl rfl rfl rfl rfl rfl rfl rfl rfl rfl ?_
      refine po_evs (T := tab) 2 rfl rfl ?_
      refine po_nil ?_
      refine pn_seq ?_
      refine pw_seq ?_
      refine pw_seq ?_
      refine pw_region ?_
      refine po_joinX (Instarlaw04_ShadeRight_j1 fu f1 a2 b3 r6) (fun (_ : Unit) => [(1, .v (.int .i64 a2)), (2, .v (.int .i64 b3)), (3, .loc 3 0), (7, .loc 7 0), (8, .v (.int .i64 r6.2.1)), (9, .v (.int .i64 r6.2.2))]) (fun (_ : Unit) => [(7, .box [.sl 10 false (r6.1.Nodes.map cNode), .v (.int .i64 r6.1.Most)]), (3, .box [.sl 10 false (f1.Nodes.map cNode), .v (.int .i64 f1.Most)])]) ?_ fun hj1 => ?_
      · rintro _
        refine pw_seq ?_
        refine pw_region ?_
        refine po_evs (T := tab) 3 rfl rfl ?_
        refine po_split (j := 41) rfl ?_ ?_
        · refine po_evs (T := tab) 4 rfl rfl ?_
          refine po_split (j := 45) rfl ?_ ?_
          · refine po_evs (T := tab) 2 rfl rfl ?_
            refine po_call (enc := fun (r8 : Bool) => .v (.bool r8)) (qs := [.agg (cForest r6.1), .agg (cForest f1)]) (Instarref03_Same_ok fu r6.1 f1) rfl rfl ⟨⟨_, rfl, .rfl⟩, ⟨_, rfl, .rfl⟩, trivial⟩ (fun _ => rfl) call20 rfl rfl fun r8 hr8 => ?_
            refine po_evs (T := tab) 2 rfl rfl ?_
            refine po_split (j := 50) rfl ?_ ?_
            · refine po_evs (T := tab) 2 rfl rfl ?_
              refine po_call (enc := fun (r9 : Int) => .v (.int .i64 r9)) (qs := [.agg (cForest f1), .v (.int .i64 a2)]) (Shade_Top_ok fu f1 a2) rfl rfl ⟨⟨_, rfl, .rfl⟩, ⟨_, rfl, .rfl⟩, trivial⟩ (fun _ => rfl) call39 rfl rfl fun r9 hr9 => ?_
              refine po_evs (T := tab) 3 rfl rfl ?_
              refine po_split (j := 56) rfl ?_ ?_
              · refine po_evs (T := tab) 2 rfl rfl ?_
                refine po_call (enc := fun (r10 : Bool) => .v (.bool r10)) (qs := [.agg (cForest f1), .v (.int .i64 a2)]) (Shade_Connected_ok fu f1 a2) rfl rfl ⟨⟨_, rfl, .rfl⟩, ⟨_, rfl, .rfl⟩, trivial⟩ (fun _ => rfl) call40 rfl rfl fun r10 hr10 => ?_
                refine po_evs (T := tab) 3 rfl rfl ?_
                refine po_split (j := 62) rfl ?_ ?_
                · refine po_evs (T := tab) 2 rfl rfl ?_
                  refine po_turn [2650] (enc := fun (r11 : (List Int)) => .own 2650) (Sr := fun (r11 : (List Int)) => [(2650, .arr 3 1 (r11.map cInt_i64))]) (first := []) (cap := []) (qs := [.agg (cForest f1), .v (.int .i64 a2)]) (Sc := []) (N0 := []) (NR := [2650]) (fun r11 hr11 => fc_ren [(1035, 2650)] [1035] (Shade_All_ok fu f1 a2 _ hr11) rfl rfl rfl rfl rfl rfl) trivial (fun _ => rfl) rfl rfl rfl rfl rfl rfl rfl (fun _ => rfl) (fun _ => rfl) rfl rfl rfl ⟨⟨_, rfl, .rfl⟩, ⟨_, rfl, .rfl⟩, trivial⟩ call41 rfl rfl fun r11 hr11 => ?_
                  refine po_freeze 2650 rfl rfl rfl ?_
                  refine po_len (T := tab) cInt_i64 r11 rfl rfl rfl rfl rfl rfl rfl rfl ?_
                  refine po_evs (T := tab) 3 rfl rfl ?_
                  refine po_split (j := 69) rfl ?_ ?_
                  · refine po_evs (T := tab) 2 rfl rfl ?_
                    refine po_call (enc := fun (r12 : (List Int)) => .sl 1 false (r12.map cInt_i64)) (qs := [.agg (cForest f1), .v (.int .i64 a2)]) (Shade_Elems_ok fu f1 a2) rfl rfl ⟨⟨_, rfl, .rfl⟩, ⟨_, rfl, .rfl⟩, trivial⟩ (fun _ => rfl) call42 rfl rfl fun r12 hr12 => ?_
                    refine po_len (T := tab) cInt_i64 r12 rfl rfl rfl rfl rfl rfl rfl rfl ?_
                    refine po_evs (T := tab) 3 rfl rfl ?_
                    refine po_split (j := 76) rfl ?_ ?_
                    · refine po_evs (T := tab) 3 rfl rfl ?_
                      refine po_call (enc := fun (r13 : Bool) => .v (.bool r13)) (qs := [.agg (cForest f1), .v (.int .i64 a2), .v (.int .i64 b3)]) (Shade_Over_ok fu f1 a2 b3) rfl rfl ⟨⟨_, rfl, .rfl⟩, ⟨_, rfl, .rfl⟩, ⟨_, rfl, .rfl⟩, trivial⟩ (fun _ => rfl) call43 rfl rfl fun r13 hr13 => ?_
                      refine po_evs (T := tab) 3 rfl rfl ?_
                      refine po_split (j := 83) rfl ?_ ?_
                      · refine po_evs (T := tab) 3 rfl rfl ?_
                        refine po_call (enc := fun (r14 : Bool) => .v (.bool r14)) (qs := [.agg (cForest f1), .v (.int .i64 b3), .v (.int .i64 a2)]) (Shade_Over_ok fu f1 b3 a2) rfl rfl ⟨⟨_, rfl, .rfl⟩, ⟨_, rfl, .rfl⟩, ⟨_, rfl, .rfl⟩, trivial⟩ (fun _ => rfl) call43 rfl rfl fun r14 hr14 => ?_
                        refine po_evs (T := tab) 3 rfl rfl ?_
                        refine po_nil ?_
                        refine pn_seq ?_
                        exact pw_retN (T := tab) rfl rfl rfl ⟨rfl, rfl⟩ trivial rfl
                      · refine po_evs (T := tab) 7 rfl rfl ?_
                        refine po_nil ?_
                        refine pn_seq ?_
                        exact pw_retN (T := tab) rfl rfl rfl ⟨rfl, rfl⟩ trivial rfl
                    · refine po_evs (T := tab) 14 rfl rfl ?_
                      refine po_nil ?_
                      refine pn_seq ?_
                      exact pw_retN (T := tab) rfl rfl rfl ⟨rfl, rfl⟩ trivial rfl
                  · refine po_evs (T := tab) 21 rfl rfl ?_
                    refine po_nil ?_
                    refine pn_seq ?_
                    exact pw_retN (T := tab) rfl rfl rfl ⟨rfl, rfl⟩ trivial rfl
                · refine po_evs (T := tab) 28 rfl rfl ?_
                  refine po_nil ?_
                  refine pn_seq ?_
                  exact pw_retN (T := tab) rfl rfl rfl ⟨rfl, rfl⟩ trivial rfl
              · refine po_evs (T := tab) 34 rfl rfl ?_
                refine po_nil ?_
                refine pn_seq ?_
                exact pw_retN (T := tab) rfl rfl rfl ⟨rfl, rfl⟩ trivial rfl
            · refine po_evs (T := tab) 40 rfl rfl ?_
              refine po_nil ?_
              refine pn_seq ?_
              exact pw_retN (T := tab) rfl rfl rfl ⟨rfl, rfl⟩ trivial rfl
          · refine po_evs (T := tab) 45 rfl rfl ?_
            refine po_nil ?_
            refine pn_seq ?_
            exact pw_retN (T := tab) rfl rfl rfl ⟨rfl, rfl⟩ trivial rfl
        · refine po_evs (T := tab) 49 rfl rfl ?_
          refine po_nil ?_
          refine pn_seq ?_
          exact pw_retN (T := tab) rfl rfl rfl ⟨rfl, rfl⟩ trivial rfl
      · refine po_evs (T := tab) 1 rfl rfl ?_
        refine po_call (enc := fun (r7 : Bool) => .v (.bool r7)) (qs := [.agg (cForest f1)]) (Instarref03_Right_ok fu f1) rfl rfl ⟨⟨_, rfl, .rfl⟩, trivial⟩ (fun _ => rfl) call16 rfl rfl fun r7 hr7 => ?_
        refine po_evs (T := tab) 2 rfl rfl ?_
        refine po_split (j := 28) rfl ?_ ?_
        · refine po_evs (T := tab) 10 rfl rfl ?_
          refine po_nil ?_
          refine pn_seq (pw_then rfl ?_)
          exact pw_sub' (hj1 ()) ⟨rfl, rfl, rfl, rfl, rfl, rfl, trivial⟩ ⟨rfl, rfl, trivial⟩ rfl
        · refine po_evs (T := tab) 4 rfl rfl ?_
          refine po_split (j := 32) rfl ?_ ?_
          · refine po_evs (T := tab) 6 rfl rfl ?_
            refine po_nil ?_
            refine pn_seq (pw_then rfl ?_)
            exact pw_sub' (hj1 ()) ⟨rfl, rfl, rfl, rfl, rfl, rfl, trivial⟩ ⟨rfl, rfl, trivial⟩ rfl
          · refine po_evs (T := tab) 3 rfl rfl ?_
            refine po_len (T := tab) cNode f1.Nodes rfl rfl rfl rfl rfl rfl rfl rfl ?_
            refine po_evs (T := tab) 2 rfl rfl ?_
            refine po_nil ?_
            refine pn_seq ?_
            refine pw_cnd rfl ?_ ?_
            · exact pw_sub' (hj1 ()) ⟨rfl, rfl, rfl, rfl, rfl, rfl, trivial⟩ ⟨rfl, rfl, trivial⟩ rfl
            · refine pw_skip ?_
              refine pn_seq ?_
              refine pw_seq ?_
              refine pw_region ?_
              refine po_evs (T := tab) 2 rfl rfl ?_
              refine po_call (enc := fun (r15 : (Forest × Int × Int)) => .tup [.agg (cForest r15.1), .v (.int .i64 r15.2.1), .v (.int .i64 r15.2.2)]) (qs := [.agg (cForest f1), .v (.int .i64 a2)]) (Instarref04_Attach_ok fu f1 a2) rfl rfl ⟨⟨_, rfl, .rfl⟩, ⟨_, rfl, .rfl⟩, trivial⟩ (fun _ => rfl) call44 rfl rfl fun r15 hr15 => ?_
              refine po_evs (T := tab) 4 rfl rfl ?_
              refine po_alloc (T := tab) 10 rfl rfl rfl rfl rfl rfl rfl rfl rfl ?_
              refine po_store (T := tab) rfl rfl rfl rfl rfl rfl rfl rfl rfl rfl rfl rfl ?_
              refine po_evs (T := tab) 2 rfl rfl ?_
              refine po_nil ?_
              refine pn_seq ?_
              refine pw_seq ?_
              refine pw_seq ?_
              refine pw_sub' (E' := [(1, .v (.int .i64 a2)), (2, .v (.int .i64 b3)), (3, .loc 3 0), (7, .loc 7 0), (8, .v (.int .i64 r6.2.1)), (9, .v (.int .i64 r6.2.2)), (10, .loc 10 0), (11, .v (.int .i64 r15.2.1)), (12, .v (.int .i64 r15.2.2))]) (S' := [(10, .box [.sl 10 false (r15.1.Nodes.map cNode), .v (.int .i64 r15.1.Most)]), (7, .box [.sl 10 false (r6.1.Nodes.map cNode), .v (.int .i64 r6.1.Most)]), (3, .box [.sl 10 false (f1.Nodes.map cNode), .v (.int .i64 f1.Most)])]) ?_ ⟨rfl, rfl, rfl, rfl, rfl, rfl, rfl, rfl, rfl, trivial⟩ ⟨rfl, rfl, rfl, trivial⟩ rfl
              refine pw_drawV [0, 0, 3, 7, 15, 31, 31, 127, 255, 511, 1023, 1023, 4095, 8191, 16383, 32767, 32767, 131071, 32767, 32767, 1048575, 2097151, 4194303, 8388607, 16777215, 16777215, 67108863, 16777215, 16777215, 536870911, 1073741823, 2147483647, 4294967295, 8589934591, 8589934591, 34359738367, 8589934591, 8589934591, 274877906943, 549755813887, 1099511627775, 2199023255551, 4398046511103, 8796093022207, 8796093022207, 35184372088831, 8796093022207, 8796093022207, 281474976710655, 562949953421311, 1125899906842623, 2251799813685247] mixed (by kernel_rfl) (by kernel_rfl) rfl rfl ?_
              refine pdv_step0 [14, 15] [194] [] [7] [7] [(97, .agg (cForest r6.1))] [(7, .box [.sl 10 false (r6.1.Nodes.map cNode), .v (.int .i64 r6.1.Most)])] rfl rfl rfl rfl (by kernel_rfl) (by kernel_rfl) (by kernel_rfl) ⟨rfl, trivial⟩ (fun w0 X X0 σ0 => by refine po_evs (T := tab) 1 rfl rfl ?_; refine po_nil ?_; exact pn_end0 ⟨rfl, trivial⟩ ⟨rfl, trivial⟩ rfl) ?_
              refine pdv_step0 [20, 21] [196] [] [10] [10] [(98, .agg (cForest r15.1))] [(10, .box [.sl 10 false (r15.1.Nodes.map cNode), .v (.int .i64 r15.1.Most)])] rfl rfl rfl rfl (by kernel_rfl) (by kernel_rfl) (by kernel_rfl) ⟨rfl, trivial⟩ (fun w0 X X0 σ0 => by refine po_evs (T := tab) 1 rfl rfl ?_; refine po_nil ?_; exact pn_end0 ⟨rfl, trivial⟩ ⟨rfl, trivial⟩ rfl) ?_
              refine pdv_step (M := (Instarref03_Same_m fu r6.1 r15.1)) (ment := [(198, [])]) [194, 196] [198] [] [] [] (fun r16 => [(99, .v (.bool r16))]) (fun r16 => []) rfl rfl (fun _ => rfl) (fun _ => rfl) (by kernel_rfl) (by kernel_rfl) (fun _ => by kernel_rfl) (fun _ => trivial) (fun w0 X X0 σ0 => by refine po_call (enc := fun (r16 : Bool) => .v (.bool r16)) (qs := [.agg (cForest r6.1), .agg (cForest r15.1)]) (Instarref03_Same_ok fu r6.1 r15.1) rfl rfl ⟨⟨_, rfl, .rfl⟩, ⟨_, rfl, .rfl⟩, trivial⟩ (fun _ => rfl) call20 rfl rfl fun r16 hr16 => ?_; refine po_nil ?_; exact pn_end ⟨rfl, trivial⟩ trivial rfl) fun r16 hr16 => ?_
              refine pdv_step0 [198] [200] [] [] [] [(100, .v (.bool (!r16)))] [] rfl rfl rfl rfl (by kernel_rfl) (by kernel_rfl) (by kernel_rfl) trivial (fun w0 X X0 σ0 => by refine po_evs (T := tab) 1 rfl rfl ?_; refine po_nil ?_; exact pn_end0 ⟨rfl, trivial⟩ trivial rfl) ?_
              refine pdv_step0 [200] [202] [] [] [] [(101, .v (.bool (!r16)))] [] rfl rfl rfl rfl (by kernel_rfl) (by kernel_rfl) (by kernel_rfl) trivial (fun w0 X X0 σ0 => by refine po_evs (T := tab) 1 rfl rfl ?_; refine po_nil ?_; exact pn_end0 ⟨rfl, trivial⟩ trivial rfl) ?_
              refine pdv_split (t := 101) rfl ?_ ?_
              · refine pdv_step0 [202] [204] [] [] [] [(102, .tup [])] [] rfl rfl rfl rfl (by kernel_rfl) (by kernel_rfl) (by kernel_rfl) trivial (fun w0 X X0 σ0 => by refine po_evs (T := tab) 1 rfl rfl ?_; refine po_nil ?_; exact pn_end0 ⟨rfl, trivial⟩ trivial rfl) ?_
                refine pdv_step0 [202] [206] [] [] [] [(103, .tup [])] [] rfl rfl rfl rfl (by kernel_rfl) (by kernel_rfl) (by kernel_rfl) trivial (fun w0 X X0 σ0 => by refine po_evs (T := tab) 1 rfl rfl ?_; refine po_nil ?_; exact pn_end0 ⟨rfl, trivial⟩ trivial rfl) ?_
                refine pdv_step0 [202] [208] [] [] [] [(104, .tup [])] [] rfl rfl rfl rfl (by kernel_rfl) (by kernel_rfl) (by kernel_rfl) trivial (fun w0 X X0 σ0 => by refine po_evs (T := tab) 1 rfl rfl ?_; refine po_nil ?_; exact pn_end0 ⟨rfl, trivial⟩ trivial rfl) ?_
                refine pdv_step0 [202, 208] [210] [] [] [] [(105, .v (.bool true))] [] rfl rfl rfl rfl (by kernel_rfl) (by kernel_rfl) (by kernel_rfl) trivial (fun w0 X X0 σ0 => by refine po_evs (T := tab) 1 rfl rfl ?_; refine po_nil ?_; exact pn_end0 ⟨rfl, trivial⟩ trivial rfl) ?_
                refine pdv_step0 [210] [212] [] [] [] [(106, .v (.bool true))] [] rfl rfl rfl rfl (by kernel_rfl) (by kernel_rfl) (by kernel_rfl) trivial (fun w0 X X0 σ0 => by refine po_evs (T := tab) 1 rfl rfl ?_; refine po_nil ?_; exact pn_end0 ⟨rfl, trivial⟩ trivial rfl) ?_
                refine pdv_step0 [212] [214] [] [] [] [(107, .tup [])] [] rfl rfl rfl rfl (by kernel_rfl) (by kernel_rfl) (by kernel_rfl) trivial (fun w0 X X0 σ0 => by refine po_evs (T := tab) 1 rfl rfl ?_; refine po_nil ?_; exact pn_end0 ⟨rfl, trivial⟩ trivial rfl) ?_
                refine pdv_step0 [212] [216] [] [] [] [(108, .tup [])] [] rfl rfl rfl rfl (by kernel_rfl) (by kernel_rfl) (by kernel_rfl) trivial (fun w0 X X0 σ0 => by refine po_evs (T := tab) 1 rfl rfl ?_; refine po_nil ?_; exact pn_end0 ⟨rfl, trivial⟩ trivial rfl) ?_
                refine pdv_step0 [212] [218] [] [] [] [(109, .tup [])] [] rfl rfl rfl rfl (by kernel_rfl) (by kernel_rfl) (by kernel_rfl) trivial (fun w0 X X0 σ0 => by refine po_evs (T := tab) 1 rfl rfl ?_; refine po_nil ?_; exact pn_end0 ⟨rfl, trivial⟩ trivial rfl) ?_
                refine pdv_step0 [212, 218] [220] [] [] [] [(110, .v (.bool true))] [] rfl rfl rfl rfl (by kernel_rfl) (by kernel_rfl) (by kernel_rfl) trivial (fun w0 X X0 σ0 => by refine po_evs (T := tab) 1 rfl rfl ?_; refine po_nil ?_; exact pn_end0 ⟨rfl, trivial⟩ trivial rfl) ?_
                refine pdv_step0 [220] [222] [] [] [] [(111, .v (.bool true))] [] rfl rfl rfl rfl (by kernel_rfl) (by kernel_rfl) (by kernel_rfl) trivial (fun w0 X X0 σ0 => by refine po_evs (T := tab) 1 rfl rfl ?_; refine po_nil ?_; exact pn_end0 ⟨rfl, trivial⟩ trivial rfl) ?_
                refine pdv_step0 [222] [224] [] [] [] [(112, .tup [])] [] rfl rfl rfl rfl (by kernel_rfl) (by kernel_rfl) (by kernel_rfl) trivial (fun w0 X X0 σ0 => by refine po_evs (T := tab) 1 rfl rfl ?_; refine po_nil ?_; exact pn_end0 ⟨rfl, trivial⟩ trivial rfl) ?_
                refine pdv_step0 [222] [226] [] [] [] [(113, .tup [])] [] rfl rfl rfl rfl (by kernel_rfl) (by kernel_rfl) (by kernel_rfl) trivial (fun w0 X X0 σ0 => by refine po_evs (T := tab) 1 rfl rfl ?_; refine po_nil ?_; exact pn_end0 ⟨rfl, trivial⟩ trivial rfl) ?_
                refine pdv_step0 [222] [228] [] [] [] [(114, .tup [])] [] rfl rfl rfl rfl (by kernel_rfl) (by kernel_rfl) (by kernel_rfl) trivial (fun w0 X X0 σ0 => by refine po_evs (T := tab) 1 rfl rfl ?_; refine po_nil ?_; exact pn_end0 ⟨rfl, trivial⟩ trivial rfl) ?_
                refine pdv_step0 [222] [230] [] [] [] [(115, .tup [])] [] rfl rfl rfl rfl (by kernel_rfl) (by kernel_rfl) (by kernel_rfl) trivial (fun w0 X X0 σ0 => by refine po_evs (T := tab) 1 rfl rfl ?_; refine po_nil ?_; exact pn_end0 ⟨rfl, trivial⟩ trivial rfl) ?_
                refine pdv_step0 [222] [232] [] [] [] [(116, .tup [])] [] rfl rfl rfl rfl (by kernel_rfl) (by kernel_rfl) (by kernel_rfl) trivial (fun w0 X X0 σ0 => by refine po_evs (T := tab) 1 rfl rfl ?_; refine po_nil ?_; exact pn_end0 ⟨rfl, trivial⟩ trivial rfl) ?_
                refine pdv_step0 [222] [234] [] [] [] [(117, .tup [])] [] rfl rfl rfl rfl (by kernel_rfl) (by kernel_rfl) (by kernel_rfl) trivial (fun w0 X X0 σ0 => by refine po_evs (T := tab) 1 rfl rfl ?_; refine po_nil ?_; exact pn_end0 ⟨rfl, trivial⟩ trivial rfl) ?_
                refine pdv_step0 [222] [236] [] [] [] [(118, .tup [])] [] rfl rfl rfl rfl (by kernel_rfl) (by kernel_rfl) (by kernel_rfl) trivial (fun w0 X X0 σ0 => by refine po_evs (T := tab) 1 rfl rfl ?_; refine po_nil ?_; exact pn_end0 ⟨rfl, trivial⟩ trivial rfl) ?_
                refine pdv_step0 [222, 236] [238] [] [] [] [(119, .v (.bool true))] [] rfl rfl rfl rfl (by kernel_rfl) (by kernel_rfl) (by kernel_rfl) trivial (fun w0 X X0 σ0 => by refine po_evs (T := tab) 1 rfl rfl ?_; refine po_nil ?_; exact pn_end0 ⟨rfl, trivial⟩ trivial rfl) ?_
                refine pdv_step0 [238] [240] [] [] [] [(120, .v (.bool true))] [] rfl rfl rfl rfl (by kernel_rfl) (by kernel_rfl) (by kernel_rfl) trivial (fun w0 X X0 σ0 => by refine po_evs (T := tab) 1 rfl rfl ?_; refine po_nil ?_; exact pn_end0 ⟨rfl, trivial⟩ trivial rfl) ?_
                refine pdv_step0 [240] [242] [] [] [] [(121, .tup [])] [] rfl rfl rfl rfl (by kernel_rfl) (by kernel_rfl) (by kernel_rfl) trivial (fun w0 X X0 σ0 => by refine po_evs (T := tab) 1 rfl rfl ?_; refine po_nil ?_; exact pn_end0 ⟨rfl, trivial⟩ trivial rfl) ?_
                refine pdv_step0 [240] [244] [] [] [] [(122, .tup [])] [] rfl rfl rfl rfl (by kernel_rfl) (by kernel_rfl) (by kernel_rfl) trivial (fun w0 X X0 σ0 => by refine po_evs (T := tab) 1 rfl rfl ?_; refine po_nil ?_; exact pn_end0 ⟨rfl, trivial⟩ trivial rfl) ?_
                refine pdv_step0 [240] [246] [] [] [] [(123, .tup [])] [] rfl rfl rfl rfl (by kernel_rfl) (by kernel_rfl) (by kernel_rfl) trivial (fun w0 X X0 σ0 => by refine po_evs (T := tab) 1 rfl rfl ?_; refine po_nil ?_; exact pn_end0 ⟨rfl, trivial⟩ trivial rfl) ?_
                refine pdv_step0 [240] [248] [] [] [] [(124, .tup [])] [] rfl rfl rfl rfl (by kernel_rfl) (by kernel_rfl) (by kernel_rfl) trivial (fun w0 X X0 σ0 => by refine po_evs (T := tab) 1 rfl rfl ?_; refine po_nil ?_; exact pn_end0 ⟨rfl, trivial⟩ trivial rfl) ?_
                refine pdv_step0 [240] [250] [] [] [] [(125, .tup [])] [] rfl rfl rfl rfl (by kernel_rfl) (by kernel_rfl) (by kernel_rfl) trivial (fun w0 X X0 σ0 => by refine po_evs (T := tab) 1 rfl rfl ?_; refine po_nil ?_; exact pn_end0 ⟨rfl, trivial⟩ trivial rfl) ?_
                refine pdv_step0 [240] [252] [] [] [] [(126, .tup [])] [] rfl rfl rfl rfl (by kernel_rfl) (by kernel_rfl) (by kernel_rfl) trivial (fun w0 X X0 σ0 => by refine po_evs (T := tab) 1 rfl rfl ?_; refine po_nil ?_; exact pn_end0 ⟨rfl, trivial⟩ trivial rfl) ?_
                refine pdv_step0 [240] [254] [] [] [] [(127, .tup [])] [] rfl rfl rfl rfl (by kernel_rfl) (by kernel_rfl) (by kernel_rfl) trivial (fun w0 X X0 σ0 => by refine po_evs (T := tab) 1 rfl rfl ?_; refine po_nil ?_; exact pn_end0 ⟨rfl, trivial⟩ trivial rfl) ?_
                refine pdv_step0 [240, 254] [256] [] [] [] [(128, .v (.bool true))] [] rfl rfl rfl rfl (by kernel_rfl) (by kernel_rfl) (by kernel_rfl) trivial (fun w0 X X0 σ0 => by refine po_evs (T := tab) 1 rfl rfl ?_; refine po_nil ?_; exact pn_end0 ⟨rfl, trivial⟩ trivial rfl) ?_
                refine pdv_step0 [256] [258] [] [] [] [(129, .v (.bool true))] [] rfl rfl rfl rfl (by kernel_rfl) (by kernel_rfl) (by kernel_rfl) trivial (fun w0 X X0 σ0 => by refine po_evs (T := tab) 1 rfl rfl ?_; refine po_nil ?_; exact pn_end0 ⟨rfl, trivial⟩ trivial rfl) ?_
                refine pdv_step0 [258] [260] [] [] [] [(130, .tup [])] [] rfl rfl rfl rfl (by kernel_rfl) (by kernel_rfl) (by kernel_rfl) trivial (fun w0 X X0 σ0 => by refine po_evs (T := tab) 1 rfl rfl ?_; refine po_nil ?_; exact pn_end0 ⟨rfl, trivial⟩ trivial rfl) ?_
                refine pdv_step0 [258] [262] [] [] [] [(131, .tup [])] [] rfl rfl rfl rfl (by kernel_rfl) (by kernel_rfl) (by kernel_rfl) trivial (fun w0 X X0 σ0 => by refine po_evs (T := tab) 1 rfl rfl ?_; refine po_nil ?_; exact pn_end0 ⟨rfl, trivial⟩ trivial rfl) ?_
                refine pdv_step0 [258] [264] [] [] [] [(132, .tup [])] [] rfl rfl rfl rfl (by kernel_rfl) (by kernel_rfl) (by kernel_rfl) trivial (fun w0 X X0 σ0 => by refine po_evs (T := tab) 1 rfl rfl ?_; refine po_nil ?_; exact pn_end0 ⟨rfl, trivial⟩ trivial rfl) ?_
                refine pdv_step0 [258] [266] [] [] [] [(133, .tup [])] [] rfl rfl rfl rfl (by kernel_rfl) (by kernel_rfl) (by kernel_rfl) trivial (fun w0 X X0 σ0 => by refine po_evs (T := tab) 1 rfl rfl ?_; refine po_nil ?_; exact pn_end0 ⟨rfl, trivial⟩ trivial rfl) ?_
                refine pdv_step0 [258] [268] [] [] [] [(134, .tup [])] [] rfl rfl rfl rfl (by kernel_rfl) (by kernel_rfl) (by kernel_rfl) trivial (fun w0 X X0 σ0 => by refine po_evs (T := tab) 1 rfl rfl ?_; refine po_nil ?_; exact pn_end0 ⟨rfl, trivial⟩ trivial rfl) ?_
                refine pdv_step0 [258] [270] [] [] [] [(135, .tup [])] [] rfl rfl rfl rfl (by kernel_rfl) (by kernel_rfl) (by kernel_rfl) trivial (fun w0 X X0 σ0 => by refine po_evs (T := tab) 1 rfl rfl ?_; refine po_nil ?_; exact pn_end0 ⟨rfl, trivial⟩ trivial rfl) ?_
                refine pdv_step0 [258] [272] [] [] [] [(136, .tup [])] [] rfl rfl rfl rfl (by kernel_rfl) (by kernel_rfl) (by kernel_rfl) trivial (fun w0 X X0 σ0 => by refine po_evs (T := tab) 1 rfl rfl ?_; refine po_nil ?_; exact pn_end0 ⟨rfl, trivial⟩ trivial rfl) ?_
                refine pdv_step0 [258] [274] [] [] [] [(137, .tup [])] [] rfl rfl rfl rfl (by kernel_rfl) (by kernel_rfl) (by kernel_rfl) trivial (fun w0 X X0 σ0 => by refine po_evs (T := tab) 1 rfl rfl ?_; refine po_nil ?_; exact pn_end0 ⟨rfl, trivial⟩ trivial rfl) ?_
                refine pdv_step0 [258, 274] [276] [] [] [] [(138, .v (.bool true))] [] rfl rfl rfl rfl (by kernel_rfl) (by kernel_rfl) (by kernel_rfl) trivial (fun w0 X X0 σ0 => by refine po_evs (T := tab) 1 rfl rfl ?_; refine po_nil ?_; exact pn_end0 ⟨rfl, trivial⟩ trivial rfl) ?_
                refine pdv_step0 [276] [278] [] [] [] [(139, .v (.bool true))] [] rfl rfl rfl rfl (by kernel_rfl) (by kernel_rfl) (by kernel_rfl) trivial (fun w0 X X0 σ0 => by refine po_evs (T := tab) 1 rfl rfl ?_; refine po_nil ?_; exact pn_end0 ⟨rfl, trivial⟩ trivial rfl) ?_
                refine pdv_step0 [278] [280] [] [] [] [(140, .tup [])] [] rfl rfl rfl rfl (by kernel_rfl) (by kernel_rfl) (by kernel_rfl) trivial (fun w0 X X0 σ0 => by refine po_evs (T := tab) 1 rfl rfl ?_; refine po_nil ?_; exact pn_end0 ⟨rfl, trivial⟩ trivial rfl) ?_
                refine pdv_step0 [278] [282] [] [] [] [(141, .tup [])] [] rfl rfl rfl rfl (by kernel_rfl) (by kernel_rfl) (by kernel_rfl) trivial (fun w0 X X0 σ0 => by refine po_evs (T := tab) 1 rfl rfl ?_; refine po_nil ?_; exact pn_end0 ⟨rfl, trivial⟩ trivial rfl) ?_
                refine pdv_step0 [278] [284] [] [] [] [(142, .tup [])] [] rfl rfl rfl rfl (by kernel_rfl) (by kernel_rfl) (by kernel_rfl) trivial (fun w0 X X0 σ0 => by refine po_evs (T := tab) 1 rfl rfl ?_; refine po_nil ?_; exact pn_end0 ⟨rfl, trivial⟩ trivial rfl) ?_
                refine pdv_step0 [278] [286] [] [] [] [(143, .tup [])] [] rfl rfl rfl rfl (by kernel_rfl) (by kernel_rfl) (by kernel_rfl) trivial (fun w0 X X0 σ0 => by refine po_evs (T := tab) 1 rfl rfl ?_; refine po_nil ?_; exact pn_end0 ⟨rfl, trivial⟩ trivial rfl) ?_
                refine pdv_step0 [278] [288] [] [] [] [(144, .tup [])] [] rfl rfl rfl rfl (by kernel_rfl) (by kernel_rfl) (by kernel_rfl) trivial (fun w0 X X0 σ0 => by refine po_evs (T := tab) 1 rfl rfl ?_; refine po_nil ?_; exact pn_end0 ⟨rfl, trivial⟩ trivial rfl) ?_
                refine pdv_step0 [278] [290] [] [] [] [(145, .tup [])] [] rfl rfl rfl rfl (by kernel_rfl) (by kernel_rfl) (by kernel_rfl) trivial (fun w0 X X0 σ0 => by refine po_evs (T := tab) 1 rfl rfl ?_; refine po_nil ?_; exact pn_end0 ⟨rfl, trivial⟩ trivial rfl) ?_
                refine pdv_step0 [278] [292] [] [] [] [(146, .tup [])] [] rfl rfl rfl rfl (by kernel_rfl) (by kernel_rfl) (by kernel_rfl) trivial (fun w0 X X0 σ0 => by refine po_evs (T := tab) 1 rfl rfl ?_; refine po_nil ?_; exact pn_end0 ⟨rfl, trivial⟩ trivial rfl) ?_
                refine pdv_step0 [278] [294] [] [] [] [(147, .tup [])] [] rfl rfl rfl rfl (by kernel_rfl) (by kernel_rfl) (by kernel_rfl) trivial (fun w0 X X0 σ0 => by refine po_evs (T := tab) 1 rfl rfl ?_; refine po_nil ?_; exact pn_end0 ⟨rfl, trivial⟩ trivial rfl) ?_
                refine pdv_step0 [278, 294] [296] [] [] [] [(148, .v (.bool true))] [] rfl rfl rfl rfl (by kernel_rfl) (by kernel_rfl) (by kernel_rfl) trivial (fun w0 X X0 σ0 => by refine po_evs (T := tab) 1 rfl rfl ?_; refine po_nil ?_; exact pn_end0 ⟨rfl, trivial⟩ trivial rfl) ?_
                refine pdv_nil rfl rfl ?_
                refine pn_seq (pw_then rfl ?_)
                refine pw_seq ?_
                refine pw_region ?_
                refine po_evs (T := tab) 1 rfl rfl ?_
                refine po_nil ?_
                refine pn_seq ?_
                exact pw_retN (T := tab) rfl rfl rfl ⟨rfl, rfl⟩ trivial rfl
              · refine pdv_step0 [16, 202] [204] [] [] [] [(102, .v (.int .i64 r6.2.1))] [] rfl rfl rfl rfl (by kernel_rfl) (by kernel_rfl) (by kernel_rfl) trivial (fun w0 X X0 σ0 => by refine po_evs (T := tab) 1 rfl rfl ?_; refine po_nil ?_; exact pn_end0 ⟨rfl, trivial⟩ trivial rfl) ?_
                refine pdv_step0 [22, 202] [206] [] [] [] [(103, .v (.int .i64 r15.2.1))] [] rfl rfl rfl rfl (by kernel_rfl) (by kernel_rfl) (by kernel_rfl) trivial (fun w0 X X0 σ0 => by refine po_evs (T := tab) 1 rfl rfl ?_; refine po_nil ?_; exact pn_end0 ⟨rfl, trivial⟩ trivial rfl) ?_
                refine pdv_step0 [202, 204, 206] [208] [] [] [] [(104, .v (.bool (r6.2.1 != r15.2.1)))] [] rfl rfl rfl rfl (by kernel_rfl) (by kernel_rfl) (by kernel_rfl) trivial (fun w0 X X0 σ0 => by refine po_evs (T := tab) 1 rfl rfl ?_; refine po_nil ?_; exact pn_end0 ⟨rfl, trivial⟩ trivial rfl) ?_
                refine pdv_step0 [202, 208] [210] [] [] [] [(105, .v (.bool (r6.2.1 != r15.2.1)))] [] rfl rfl rfl rfl (by kernel_rfl) (by kernel_rfl) (by kernel_rfl) trivial (fun w0 X X0 σ0 => by refine po_evs (T := tab) 1 rfl rfl ?_; refine po_nil ?_; exact pn_end0 ⟨rfl, trivial⟩ trivial rfl) ?_
                refine pdv_step0 [210] [212] [] [] [] [(106, .v (.bool (r6.2.1 != r15.2.1)))] [] rfl rfl rfl rfl (by kernel_rfl) (by kernel_rfl) (by kernel_rfl) trivial (fun w0 X X0 σ0 => by refine po_evs (T := tab) 1 rfl rfl ?_; refine po_nil ?_; exact pn_end0 ⟨rfl, trivial⟩ trivial rfl) ?_
                refine pdv_split (t := 106) rfl ?_ ?_
                · refine pdv_step0 [212] [214] [] [] [] [(107, .tup [])] [] rfl rfl rfl rfl (by kernel_rfl) (by kernel_rfl) (by kernel_rfl) trivial (fun w0 X X0 σ0 => by refine po_evs (T := tab) 1 rfl rfl ?_; refine po_nil ?_; exact pn_end0 ⟨rfl, trivial⟩ trivial rfl) ?_
                  refine pdv_step0 [212] [216] [] [] [] [(108, .tup [])] [] rfl rfl rfl rfl (by kernel_rfl) (by kernel_rfl) (by kernel_rfl) trivial (fun w0 X X0 σ0 => by refine po_evs (T := tab) 1 rfl rfl ?_; refine po_nil ?_; exact pn_end0 ⟨rfl, trivial⟩ trivial rfl) ?_
                  refine pdv_step0 [212] [218] [] [] [] [(109, .tup [])] [] rfl rfl rfl rfl (by kernel_rfl) (by kernel_rfl) (by kernel_rfl) trivial (fun w0 X X0 σ0 => by refine po_evs (T := tab) 1 rfl rfl ?_; refine po_nil ?_; exact pn_end0 ⟨rfl, trivial⟩ trivial rfl) ?_
                  refine pdv_step0 [212, 218] [220] [] [] [] [(110, .v (.bool true))] [] rfl rfl rfl rfl (by kernel_rfl) (by kernel_rfl) (by kernel_rfl) trivial (fun w0 X X0 σ0 => by refine po_evs (T := tab) 1 rfl rfl ?_; refine po_nil ?_; exact pn_end0 ⟨rfl, trivial⟩ trivial rfl) ?_
                  refine pdv_step0 [220] [222] [] [] [] [(111, .v (.bool true))] [] rfl rfl rfl rfl (by kernel_rfl) (by kernel_rfl) (by kernel_rfl) trivial (fun w0 X X0 σ0 => by refine po_evs (T := tab) 1 rfl rfl ?_; refine po_nil ?_; exact pn_end0 ⟨rfl, trivial⟩ trivial rfl) ?_
                  refine pdv_step0 [222] [224] [] [] [] [(112, .tup [])] [] rfl rfl rfl rfl (by kernel_rfl) (by kernel_rfl) (by kernel_rfl) trivial (fun w0 X X0 σ0 => by refine po_evs (T := tab) 1 rfl rfl ?_; refine po_nil ?_; exact pn_end0 ⟨rfl, trivial⟩ trivial rfl) ?_
                  refine pdv_step0 [222] [226] [] [] [] [(113, .tup [])] [] rfl rfl rfl rfl (by kernel_rfl) (by kernel_rfl) (by kernel_rfl) trivial (fun w0 X X0 σ0 => by refine po_evs (T := tab) 1 rfl rfl ?_; refine po_nil ?_; exact pn_end0 ⟨rfl, trivial⟩ trivial rfl) ?_
                  refine pdv_step0 [222] [228] [] [] [] [(114, .tup [])] [] rfl rfl rfl rfl (by kernel_rfl) (by kernel_rfl) (by kernel_rfl) trivial (fun w0 X X0 σ0 => by refine po_evs (T := tab) 1 rfl rfl ?_; refine po_nil ?_; exact pn_end0 ⟨rfl, trivial⟩ trivial rfl) ?_
                  refine pdv_step0 [222] [230] [] [] [] [(115, .tup [])] [] rfl rfl rfl rfl (by kernel_rfl) (by kernel_rfl) (by kernel_rfl) trivial (fun w0 X X0 σ0 => by refine po_evs (T := tab) 1 rfl rfl ?_; refine po_nil ?_; exact pn_end0 ⟨rfl, trivial⟩ trivial rfl) ?_
                  refine pdv_step0 [222] [232] [] [] [] [(116, .tup [])] [] rfl rfl rfl rfl (by kernel_rfl) (by kernel_rfl) (by kernel_rfl) trivial (fun w0 X X0 σ0 => by refine po_evs (T := tab) 1 rfl rfl ?_; refine po_nil ?_; exact pn_end0 ⟨rfl, trivial⟩ trivial rfl) ?_
                  refine pdv_step0 [222] [234] [] [] [] [(117, .tup [])] [] rfl rfl rfl rfl (by kernel_rfl) (by kernel_rfl) (by kernel_rfl) trivial (fun w0 X X0 σ0 => by refine po_evs (T := tab) 1 rfl rfl ?_; refine po_nil ?_; exact pn_end0 ⟨rfl, trivial⟩ trivial rfl) ?_
                  refine pdv_step0 [222] [236] [] [] [] [(118, .tup [])] [] rfl rfl rfl rfl (by kernel_rfl) (by kernel_rfl) (by kernel_rfl) trivial (fun w0 X X0 σ0 => by refine po_evs (T := tab) 1 rfl rfl ?_; refine po_nil ?_; exact pn_end0 ⟨rfl, trivial⟩ trivial rfl) ?_
                  refine pdv_step0 [222, 236] [238] [] [] [] [(119, .v (.bool true))] [] rfl rfl rfl rfl (by kernel_rfl) (by kernel_rfl) (by kernel_rfl) trivial (fun w0 X X0 σ0 => by refine po_evs (T := tab) 1 rfl rfl ?_; refine po_nil ?_; exact pn_end0 ⟨rfl, trivial⟩ trivial rfl) ?_
                  refine pdv_step0 [238] [240] [] [] [] [(120, .v (.bool true))] [] rfl rfl rfl rfl (by kernel_rfl) (by kernel_rfl) (by kernel_rfl) trivial (fun w0 X X0 σ0 => by refine po_evs (T := tab) 1 rfl rfl ?_; refine po_nil ?_; exact pn_end0 ⟨rfl, trivial⟩ trivial rfl) ?_
                  refine pdv_step0 [240] [242] [] [] [] [(121, .tup [])] [] rfl rfl rfl rfl (by kernel_rfl) (by kernel_rfl) (by kernel_rfl) trivial (fun w0 X X0 σ0 => by refine po_evs (T := tab) 1 rfl rfl ?_; refine po_nil ?_; exact pn_end0 ⟨rfl, trivial⟩ trivial rfl) ?_
                  refine pdv_step0 [240] [244] [] [] [] [(122, .tup [])] [] rfl rfl rfl rfl (by kernel_rfl) (by kernel_rfl) (by kernel_rfl) trivial (fun w0 X X0 σ0 => by refine po_evs (T := tab) 1 rfl rfl ?_; refine po_nil ?_; exact pn_end0 ⟨rfl, trivial⟩ trivial rfl) ?_
                  refine pdv_step0 [240] [246] [] [] [] [(123, .tup [])] [] rfl rfl rfl rfl (by kernel_rfl) (by kernel_rfl) (by kernel_rfl) trivial (fun w0 X X0 σ0 => by refine po_evs (T := tab) 1 rfl rfl ?_; refine po_nil ?_; exact pn_end0 ⟨rfl, trivial⟩ trivial rfl) ?_
                  refine pdv_step0 [240] [248] [] [] [] [(124, .tup [])] [] rfl rfl rfl rfl (by kernel_rfl) (by kernel_rfl) (by kernel_rfl) trivial (fun w0 X X0 σ0 => by refine po_evs (T := tab) 1 rfl rfl ?_; refine po_nil ?_; exact pn_end0 ⟨rfl, trivial⟩ trivial rfl) ?_
                  refine pdv_step0 [240] [250] [] [] [] [(125, .tup [])] [] rfl rfl rfl rfl (by kernel_rfl) (by kernel_rfl) (by kernel_rfl) trivial (fun w0 X X0 σ0 => by refine po_evs (T := tab) 1 rfl rfl ?_; refine po_nil ?_; exact pn_end0 ⟨rfl, trivial⟩ trivial rfl) ?_
                  refine pdv_step0 [240] [252] [] [] [] [(126, .tup [])] [] rfl rfl rfl rfl (by kernel_rfl) (by kernel_rfl) (by kernel_rfl) trivial (fun w0 X X0 σ0 => by refine po_evs (T := tab) 1 rfl rfl ?_; refine po_nil ?_; exact pn_end0 ⟨rfl, trivial⟩ trivial rfl) ?_
                  refine pdv_step0 [240] [254] [] [] [] [(127, .tup [])] [] rfl rfl rfl rfl (by kernel_rfl) (by kernel_rfl) (by kernel_rfl) trivial (fun w0 X X0 σ0 => by refine po_evs (T := tab) 1 rfl rfl ?_; refine po_nil ?_; exact pn_end0 ⟨rfl, trivial⟩ trivial rfl) ?_
                  refine pdv_step0 [240, 254] [256] [] [] [] [(128, .v (.bool true))] [] rfl rfl rfl rfl (by kernel_rfl) (by kernel_rfl) (by kernel_rfl) trivial (fun w0 X X0 σ0 => by refine po_evs (T := tab) 1 rfl rfl ?_; refine po_nil ?_; exact pn_end0 ⟨rfl, trivial⟩ trivial rfl) ?_
                  refine pdv_step0 [256] [258] [] [] [] [(129, .v (.bool true))] [] rfl rfl rfl rfl (by kernel_rfl) (by kernel_rfl) (by kernel_rfl) trivial (fun w0 X X0 σ0 => by refine po_evs (T := tab) 1 rfl rfl ?_; refine po_nil ?_; exact pn_end0 ⟨rfl, trivial⟩ trivial rfl) ?_
                  refine pdv_step0 [258] [260] [] [] [] [(130, .tup [])] [] rfl rfl rfl rfl (by kernel_rfl) (by kernel_rfl) (by kernel_rfl) trivial (fun w0 X X0 σ0 => by refine po_evs (T := tab) 1 rfl rfl ?_; refine po_nil ?_; exact pn_end0 ⟨rfl, trivial⟩ trivial rfl) ?_
                  refine pdv_step0 [258] [262] [] [] [] [(131, .tup [])] [] rfl rfl rfl rfl (by kernel_rfl) (by kernel_rfl) (by kernel_rfl) trivial (fun w0 X X0 σ0 => by refine po_evs (T := tab) 1 rfl rfl ?_; refine po_nil ?_; exact pn_end0 ⟨rfl, trivial⟩ trivial rfl) ?_
                  refine pdv_step0 [258] [264] [] [] [] [(132, .tup [])] [] rfl rfl rfl rfl (by kernel_rfl) (by kernel_rfl) (by kernel_rfl) trivial (fun w0 X X0 σ0 => by refine po_evs (T := tab) 1 rfl rfl ?_; refine po_nil ?_; exact pn_end0 ⟨rfl, trivial⟩ trivial rfl) ?_
                  refine pdv_step0 [258] [266] [] [] [] [(133, .tup [])] [] rfl rfl rfl rfl (by kernel_rfl) (by kernel_rfl) (by kernel_rfl) trivial (fun w0 X X0 σ0 => by refine po_evs (T := tab) 1 rfl rfl ?_; refine po_nil ?_; exact pn_end0 ⟨rfl, trivial⟩ trivial rfl) ?_
                  refine pdv_step0 [258] [268] [] [] [] [(134, .tup [])] [] rfl rfl rfl rfl (by kernel_rfl) (by kernel_rfl) (by kernel_rfl) trivial (fun w0 X X0 σ0 => by refine po_evs (T := tab) 1 rfl rfl ?_; refine po_nil ?_; exact pn_end0 ⟨rfl, trivial⟩ trivial rfl) ?_
                  refine pdv_step0 [258] [270] [] [] [] [(135, .tup [])] [] rfl rfl rfl rfl (by kernel_rfl) (by kernel_rfl) (by kernel_rfl) trivial (fun w0 X X0 σ0 => by refine po_evs (T := tab) 1 rfl rfl ?_; refine po_nil ?_; exact pn_end0 ⟨rfl, trivial⟩ trivial rfl) ?_
                  refine pdv_step0 [258] [272] [] [] [] [(136, .tup [])] [] rfl rfl rfl rfl (by kernel_rfl) (by kernel_rfl) (by kernel_rfl) trivial (fun w0 X X0 σ0 => by refine po_evs (T := tab) 1 rfl rfl ?_; refine po_nil ?_; exact pn_end0 ⟨rfl, trivial⟩ trivial rfl) ?_
                  refine pdv_step0 [258] [274] [] [] [] [(137, .tup [])] [] rfl rfl rfl rfl (by kernel_rfl) (by kernel_rfl) (by kernel_rfl) trivial (fun w0 X X0 σ0 => by refine po_evs (T := tab) 1 rfl rfl ?_; refine po_nil ?_; exact pn_end0 ⟨rfl, trivial⟩ trivial rfl) ?_
                  refine pdv_step0 [258, 274] [276] [] [] [] [(138, .v (.bool true))] [] rfl rfl rfl rfl (by kernel_rfl) (by kernel_rfl) (by kernel_rfl) trivial (fun w0 X X0 σ0 => by refine po_evs (T := tab) 1 rfl rfl ?_; refine po_nil ?_; exact pn_end0 ⟨rfl, trivial⟩ trivial rfl) ?_
                  refine pdv_step0 [276] [278] [] [] [] [(139, .v (.bool true))] [] rfl rfl rfl rfl (by kernel_rfl) (by kernel_rfl) (by kernel_rfl) trivial (fun w0 X X0 σ0 => by refine po_evs (T := tab) 1 rfl rfl ?_; refine po_nil ?_; exact pn_end0 ⟨rfl, trivial⟩ trivial rfl) ?_
                  refine pdv_step0 [278] [280] [] [] [] [(140, .tup [])] [] rfl rfl rfl rfl (by kernel_rfl) (by kernel_rfl) (by kernel_rfl) trivial (fun w0 X X0 σ0 => by refine po_evs (T := tab) 1 rfl rfl ?_; refine po_nil ?_; exact pn_end0 ⟨rfl, trivial⟩ trivial rfl) ?_
                  refine pdv_step0 [278] [282] [] [] [] [(141, .tup [])] [] rfl rfl rfl rfl (by kernel_rfl) (by kernel_rfl) (by kernel_rfl) trivial (fun w0 X X0 σ0 => by refine po_evs (T := tab) 1 rfl rfl ?_; refine po_nil ?_; exact pn_end0 ⟨rfl, trivial⟩ trivial rfl) ?_
                  refine pdv_step0 [278] [284] [] [] [] [(142, .tup [])] [] rfl rfl rfl rfl (by kernel_rfl) (by kernel_rfl) (by kernel_rfl) trivial (fun w0 X X0 σ0 => by refine po_evs (T := tab) 1 rfl rfl ?_; refine po_nil ?_; exact pn_end0 ⟨rfl, trivial⟩ trivial rfl) ?_
                  refine pdv_step0 [278] [286] [] [] [] [(143, .tup [])] [] rfl rfl rfl rfl (by kernel_rfl) (by kernel_rfl) (by kernel_rfl) trivial (fun w0 X X0 σ0 => by refine po_evs (T := tab) 1 rfl rfl ?_; refine po_nil ?_; exact pn_end0 ⟨rfl, trivial⟩ trivial rfl) ?_
                  refine pdv_step0 [278] [288] [] [] [] [(144, .tup [])] [] rfl rfl rfl rfl (by kernel_rfl) (by kernel_rfl) (by kernel_rfl) trivial (fun w0 X X0 σ0 => by refine po_evs (T := tab) 1 rfl rfl ?_; refine po_nil ?_; exact pn_end0 ⟨rfl, trivial⟩ trivial rfl) ?_
                  refine pdv_step0 [278] [290] [] [] [] [(145, .tup [])] [] rfl rfl rfl rfl (by kernel_rfl) (by kernel_rfl) (by kernel_rfl) trivial (fun w0 X X0 σ0 => by refine po_evs (T := tab) 1 rfl rfl ?_; refine po_nil ?_; exact pn_end0 ⟨rfl, trivial⟩ trivial rfl) ?_
                  refine pdv_step0 [278] [292] [] [] [] [(146, .tup [])] [] rfl rfl rfl rfl (by kernel_rfl) (by kernel_rfl) (by kernel_rfl) trivial (fun w0 X X0 σ0 => by refine po_evs (T := tab) 1 rfl rfl ?_; refine po_nil ?_; exact pn_end0 ⟨rfl, trivial⟩ trivial rfl) ?_
                  refine pdv_step0 [278] [294] [] [] [] [(147, .tup [])] [] rfl rfl rfl rfl (by kernel_rfl) (by kernel_rfl) (by kernel_rfl) trivial (fun w0 X X0 σ0 => by refine po_evs (T := tab) 1 rfl rfl ?_; refine po_nil ?_; exact pn_end0 ⟨rfl, trivial⟩ trivial rfl) ?_
                  refine pdv_step0 [278, 294] [296] [] [] [] [(148, .v (.bool true))] [] rfl rfl rfl rfl (by kernel_rfl) (by kernel_rfl) (by kernel_rfl) trivial (fun w0 X X0 σ0 => by refine po_evs (T := tab) 1 rfl rfl ?_; refine po_nil ?_; exact pn_end0 ⟨rfl, trivial⟩ trivial rfl) ?_
                  refine pdv_nil rfl rfl ?_
                  refine pn_seq (pw_then rfl ?_)
                  refine pw_seq ?_
                  refine pw_region ?_
                  refine po_evs (T := tab) 1 rfl rfl ?_
                  refine po_nil ?_
                  refine pn_seq ?_
                  exact pw_retN (T := tab) rfl rfl rfl ⟨rfl, rfl⟩ trivial rfl
                · refine pdv_step0 [18, 212] [214] [] [] [] [(107, .v (.int .i64 r6.2.2))] [] rfl rfl rfl rfl (by kernel_rfl) (by kernel_rfl) (by kernel_rfl) trivial (fun w0 X X0 σ0 => by refine po_evs (T := tab) 1 rfl rfl ?_; refine po_nil ?_; exact pn_end0 ⟨rfl, trivial⟩ trivial rfl) ?_
                  refine pdv_step0 [24, 212] [216] [] [] [] [(108, .v (.int .i64 r15.2.2))] [] rfl rfl rfl rfl (by kernel_rfl) (by kernel_rfl) (by kernel_rfl) trivial (fun w0 X X0 σ0 => by refine po_evs (T := tab) 1 rfl rfl ?_; refine po_nil ?_; exact pn_end0 ⟨rfl, trivial⟩ trivial rfl) ?_
                  refine pdv_step0 [212, 214, 216] [218] [] [] [] [(109, .v (.bool (r6.2.2 != r15.2.2)))] [] rfl rfl rfl rfl (by kernel_rfl) (by kernel_rfl) (by kernel_rfl) trivial (fun w0 X X0 σ0 => by refine po_evs (T := tab) 1 rfl rfl ?_; refine po_nil ?_; exact pn_end0 ⟨rfl, trivial⟩ trivial rfl) ?_
                  refine pdv_step0 [212, 218] [220] [] [] [] [(110, .v (.bool (r6.2.2 != r15.2.2)))] [] rfl rfl rfl rfl (by kernel_rfl) (by kernel_rfl) (by kernel_rfl) trivial (fun w0 X X0 σ0 => by refine po_evs (T := tab) 1 rfl rfl ?_; refine po_nil ?_; exact pn_end0 ⟨rfl, trivial⟩ trivial rfl) ?_
                  refine pdv_step0 [220] [222] [] [] [] [(111, .v (.bool (r6.2.2 != r15.2.2)))] [] rfl rfl rfl rfl (by kernel_rfl) (by kernel_rfl) (by kernel_rfl) trivial (fun w0 X X0 σ0 => by refine po_evs (T := tab) 1 rfl rfl ?_; refine po_nil ?_; exact pn_end0 ⟨rfl, trivial⟩ trivial rfl) ?_
                  refine pdv_split (t := 111) rfl ?_ ?_
                  · refine pdv_step0 [222] [224] [] [] [] [(112, .tup [])] [] rfl rfl rfl rfl (by kernel_rfl) (by kernel_rfl) (by kernel_rfl) trivial (fun w0 X X0 σ0 => by refine po_evs (T := tab) 1 rfl rfl ?_; refine po_nil ?_; exact pn_end0 ⟨rfl, trivial⟩ trivial rfl) ?_
                    refine pdv_step0 [222] [226] [] [] [] [(113, .tup [])] [] rfl rfl rfl rfl (by kernel_rfl) (by kernel_rfl) (by kernel_rfl) trivial (fun w0 X X0 σ0 => by refine po_evs (T := tab) 1 rfl rfl ?_; refine po_nil ?_; exact pn_end0 ⟨rfl, trivial⟩ trivial rfl) ?_
                    refine pdv_step0 [222] [228] [] [] [] [(114, .tup [])] [] rfl rfl rfl rfl (by kernel_rfl) (by kernel_rfl) (by kernel_rfl) trivial (fun w0 X X0 σ0 => by refine po_evs (T := tab) 1 rfl rfl ?_; refine po_nil ?_; exact pn_end0 ⟨rfl, trivial⟩ trivial rfl) ?_
                    refine pdv_step0 [222] [230] [] [] [] [(115, .tup [])] [] rfl rfl rfl rfl (by kernel_rfl) (by kernel_rfl) (by kernel_rfl) trivial (fun w0 X X0 σ0 => by refine po_evs (T := tab) 1 rfl rfl ?_; refine po_nil ?_; exact pn_end0 ⟨rfl, trivial⟩ trivial rfl) ?_
                    refine pdv_step0 [222] [232] [] [] [] [(116, .tup [])] [] rfl rfl rfl rfl (by kernel_rfl) (by kernel_rfl) (by kernel_rfl) trivial (fun w0 X X0 σ0 => by refine po_evs (T := tab) 1 rfl rfl ?_; refine po_nil ?_; exact pn_end0 ⟨rfl, trivial⟩ trivial rfl) ?_
                    refine pdv_step0 [222] [234] [] [] [] [(117, .tup [])] [] rfl rfl rfl rfl (by kernel_rfl) (by kernel_rfl) (by kernel_rfl) trivial (fun w0 X X0 σ0 => by refine po_evs (T := tab) 1 rfl rfl ?_; refine po_nil ?_; exact pn_end0 ⟨rfl, trivial⟩ trivial rfl) ?_
                    refine pdv_step0 [222] [236] [] [] [] [(118, .tup [])] [] rfl rfl rfl rfl (by kernel_rfl) (by kernel_rfl) (by kernel_rfl) trivial (fun w0 X X0 σ0 => by refine po_evs (T := tab) 1 rfl rfl ?_; refine po_nil ?_; exact pn_end0 ⟨rfl, trivial⟩ trivial rfl) ?_
                    refine pdv_step0 [222, 236] [238] [] [] [] [(119, .v (.bool true))] [] rfl rfl rfl rfl (by kernel_rfl) (by kernel_rfl) (by kernel_rfl) trivial (fun w0 X X0 σ0 => by refine po_evs (T := tab) 1 rfl rfl ?_; refine po_nil ?_; exact pn_end0 ⟨rfl, trivial⟩ trivial rfl) ?_
                    refine pdv_step0 [238] [240] [] [] [] [(120, .v (.bool true))] [] rfl rfl rfl rfl (by kernel_rfl) (by kernel_rfl) (by kernel_rfl) trivial (fun w0 X X0 σ0 => by refine po_evs (T := tab) 1 rfl rfl ?_; refine po_nil ?_; exact pn_end0 ⟨rfl, trivial⟩ trivial rfl) ?_
                    refine pdv_step0 [240] [242] [] [] [] [(121, .tup [])] [] rfl rfl rfl rfl (by kernel_rfl) (by kernel_rfl) (by kernel_rfl) trivial (fun w0 X X0 σ0 => by refine po_evs (T := tab) 1 rfl rfl ?_; refine po_nil ?_; exact pn_end0 ⟨rfl, trivial⟩ trivial rfl) ?_
                    refine pdv_step0 [240] [244] [] [] [] [(122, .tup [])] [] rfl rfl rfl rfl (by kernel_rfl) (by kernel_rfl) (by kernel_rfl) trivial (fun w0 X X0 σ0 => by refine po_evs (T := tab) 1 rfl rfl ?_; refine po_nil ?_; exact pn_end0 ⟨rfl, trivial⟩ trivial rfl) ?_
                    refine pdv_step0 [240] [246] [] [] [] [(123, .tup [])] [] rfl rfl rfl rfl (by kernel_rfl) (by kernel_rfl) (by kernel_rfl) trivial (fun w0 X X0 σ0 => by refine po_evs (T := tab) 1 rfl rfl ?_; refine po_nil ?_; exact pn_end0 ⟨rfl, trivial⟩ trivial rfl) ?_
                    refine pdv_step0 [240] [248] [] [] [] [(124, .tup [])] [] rfl rfl rfl rfl (by kernel_rfl) (by kernel_rfl) (by kernel_rfl) trivial (fun w0 X X0 σ0 => by refine po_evs (T := tab) 1 rfl rfl ?_; refine po_nil ?_; exact pn_end0 ⟨rfl, trivial⟩ trivial rfl) ?_
                    refine pdv_step0 [240] [250] [] [] [] [(125, .tup [])] [] rfl rfl rfl rfl (by kernel_rfl) (by kernel_rfl) (by kernel_rfl) trivial (fun w0 X X0 σ0 => by refine po_evs (T := tab) 1 rfl rfl ?_; refine po_nil ?_; exact pn_end0 ⟨rfl, trivial⟩ trivial rfl) ?_
                    refine pdv_step0 [240] [252] [] [] [] [(126, .tup [])] [] rfl rfl rfl rfl (by kernel_rfl) (by kernel_rfl) (by kernel_rfl) trivial (fun w0 X X0 σ0 => by refine po_evs (T := tab) 1 rfl rfl ?_; refine po_nil ?_; exact pn_end0 ⟨rfl, trivial⟩ trivial rfl) ?_
                    refine pdv_step0 [240] [254] [] [] [] [(127, .tup [])] [] rfl rfl rfl rfl (by kernel_rfl) (by kernel_rfl) (by kernel_rfl) trivial (fun w0 X X0 σ0 => by refine po_evs (T := tab) 1 rfl rfl ?_; refine po_nil ?_; exact pn_end0 ⟨rfl, trivial⟩ trivial rfl) ?_
                    refine pdv_step0 [240, 254] [256] [] [] [] [(128, .v (.bool true))] [] rfl rfl rfl rfl (by kernel_rfl) (by kernel_rfl) (by kernel_rfl) trivial (fun w0 X X0 σ0 => by refine po_evs (T := tab) 1 rfl rfl ?_; refine po_nil ?_; exact pn_end0 ⟨rfl, trivial⟩ trivial rfl) ?_
                    refine pdv_step0 [256] [258] [] [] [] [(129, .v (.bool true))] [] rfl rfl rfl rfl (by kernel_rfl) (by kernel_rfl) (by kernel_rfl) trivial (fun w0 X X0 σ0 => by refine po_evs (T := tab) 1 rfl rfl ?_; refine po_nil ?_; exact pn_end0 ⟨rfl, trivial⟩ trivial rfl) ?_
                    refine pdv_step0 [258] [260] [] [] [] [(130, .tup [])] [] rfl rfl rfl rfl (by kernel_rfl) (by kernel_rfl) (by kernel_rfl) trivial (fun w0 X X0 σ0 => by refine po_evs (T := tab) 1 rfl rfl ?_; refine po_nil ?_; exact pn_end0 ⟨rfl, trivial⟩ trivial rfl) ?_
                    refine pdv_step0 [258] [262] [] [] [] [(131, .tup [])] [] rfl rfl rfl rfl (by kernel_rfl) (by kernel_rfl) (by kernel_rfl) trivial (fun w0 X X0 σ0 => by refine po_evs (T := tab) 1 rfl rfl ?_; refine po_nil ?_; exact pn_end0 ⟨rfl, trivial⟩ trivial rfl) ?_
                    refine pdv_step0 [258] [264] [] [] [] [(132, .tup [])] [] rfl rfl rfl rfl (by kernel_rfl) (by kernel_rfl) (by kernel_rfl) trivial (fun w0 X X0 σ0 => by refine po_evs (T := tab) 1 rfl rfl ?_; refine po_nil ?_; exact pn_end0 ⟨rfl, trivial⟩ trivial rfl) ?_
                    refine pdv_step0 [258] [266] [] [] [] [(133, .tup [])] [] rfl rfl rfl rfl (by kernel_rfl) (by kernel_rfl) (by kernel_rfl) trivial (fun w0 X X0 σ0 => by refine po_evs (T := tab) 1 rfl rfl ?_; refine po_nil ?_; exact pn_end0 ⟨rfl, trivial⟩ trivial rfl) ?_
                    refine pdv_step0 [258] [268] [] [] [] [(134, .tup [])] [] rfl rfl rfl rfl (by kernel_rfl) (by kernel_rfl) (by kernel_rfl) trivial (fun w0 X X0 σ0 => by refine po_evs (T := tab) 1 rfl rfl ?_; refine po_nil ?_; exact pn_end0 ⟨rfl, trivial⟩ trivial rfl) ?_
                    refine pdv_step0 [258] [270] [] [] [] [(135, .tup [])] [] rfl rfl rfl rfl (by kernel_rfl) (by kernel_rfl) (by kernel_rfl) trivial (fun w0 X X0 σ0 => by refine po_evs (T := tab) 1 rfl rfl ?_; refine po_nil ?_; exact pn_end0 ⟨rfl, trivial⟩ trivial rfl) ?_
                    refine pdv_step0 [258] [272] [] [] [] [(136, .tup [])] [] rfl rfl rfl rfl (by kernel_rfl) (by kernel_rfl) (by kernel_rfl) trivial (fun w0 X X0 σ0 => by refine po_evs (T := tab) 1 rfl rfl ?_; refine po_nil ?_; exact pn_end0 ⟨rfl, trivial⟩ trivial rfl) ?_
                    refine pdv_step0 [258] [274] [] [] [] [(137, .tup [])] [] rfl rfl rfl rfl (by kernel_rfl) (by kernel_rfl) (by kernel_rfl) trivial (fun w0 X X0 σ0 => by refine po_evs (T := tab) 1 rfl rfl ?_; refine po_nil ?_; exact pn_end0 ⟨rfl, trivial⟩ trivial rfl) ?_
                    refine pdv_step0 [258, 274] [276] [] [] [] [(138, .v (.bool true))] [] rfl rfl rfl rfl (by kernel_rfl) (by kernel_rfl) (by kernel_rfl) trivial (fun w0 X X0 σ0 => by refine po_evs (T := tab) 1 rfl rfl ?_; refine po_nil ?_; exact pn_end0 ⟨rfl, trivial⟩ trivial rfl) ?_
                    refine pdv_step0 [276] [278] [] [] [] [(139, .v (.bool true))] [] rfl rfl rfl rfl (by kernel_rfl) (by kernel_rfl) (by kernel_rfl) trivial (fun w0 X X0 σ0 => by refine po_evs (T := tab) 1 rfl rfl ?_; refine po_nil ?_; exact pn_end0 ⟨rfl, trivial⟩ trivial rfl) ?_
                    refine pdv_step0 [278] [280] [] [] [] [(140, .tup [])] [] rfl rfl rfl rfl (by kernel_rfl) (by kernel_rfl) (by kernel_rfl) trivial (fun w0 X X0 σ0 => by refine po_evs (T := tab) 1 rfl rfl ?_; refine po_nil ?_; exact pn_end0 ⟨rfl, trivial⟩ trivial rfl) ?_
                    refine pdv_step0 [278] [282] [] [] [] [(141, .tup [])] [] rfl rfl rfl rfl (by kernel_rfl) (by kernel_rfl) (by kernel_rfl) trivial (fun w0 X X0 σ0 => by refine po_evs (T := tab) 1 rfl rfl ?_; refine po_nil ?_; exact pn_end0 ⟨rfl, trivial⟩ trivial rfl) ?_
                    refine pdv_step0 [278] [284] [] [] [] [(142, .tup [])] [] rfl rfl rfl rfl (by kernel_rfl) (by kernel_rfl) (by kernel_rfl) trivial (fun w0 X X0 σ0 => by refine po_evs (T := tab) 1 rfl rfl ?_; refine po_nil ?_; exact pn_end0 ⟨rfl, trivial⟩ trivial rfl) ?_
                    refine pdv_step0 [278] [286] [] [] [] [(143, .tup [])] [] rfl rfl rfl rfl (by kernel_rfl) (by kernel_rfl) (by kernel_rfl) trivial (fun w0 X X0 σ0 => by refine po_evs (T := tab) 1 rfl rfl ?_; refine po_nil ?_; exact pn_end0 ⟨rfl, trivial⟩ trivial rfl) ?_
                    refine pdv_step0 [278] [288] [] [] [] [(144, .tup [])] [] rfl rfl rfl rfl (by kernel_rfl) (by kernel_rfl) (by kernel_rfl) trivial (fun w0 X X0 σ0 => by refine po_evs (T := tab) 1 rfl rfl ?_; refine po_nil ?_; exact pn_end0 ⟨rfl, trivial⟩ trivial rfl) ?_
                    refine pdv_step0 [278] [290] [] [] [] [(145, .tup [])] [] rfl rfl rfl rfl (by kernel_rfl) (by kernel_rfl) (by kernel_rfl) trivial (fun w0 X X0 σ0 => by refine po_evs (T := tab) 1 rfl rfl ?_; refine po_nil ?_; exact pn_end0 ⟨rfl, trivial⟩ trivial rfl) ?_
                    refine pdv_step0 [278] [292] [] [] [] [(146, .tup [])] [] rfl rfl rfl rfl (by kernel_rfl) (by kernel_rfl) (by kernel_rfl) trivial (fun w0 X X0 σ0 => by refine po_evs (T := tab) 1 rfl rfl ?_; refine po_nil ?_; exact pn_end0 ⟨rfl, trivial⟩ trivial rfl) ?_
                    refine pdv_step0 [278] [294] [] [] [] [(147, .tup [])] [] rfl rfl rfl rfl (by kernel_rfl) (by kernel_rfl) (by kernel_rfl) trivial (fun w0 X X0 σ0 => by refine po_evs (T := tab) 1 rfl rfl ?_; refine po_nil ?_; exact pn_end0 ⟨rfl, trivial⟩ trivial rfl) ?_
                    refine pdv_step0 [278, 294] [296] [] [] [] [(148, .v (.bool true))] [] rfl rfl rfl rfl (by kernel_rfl) (by kernel_rfl) (by kernel_rfl) trivial (fun w0 X X0 σ0 => by refine po_evs (T := tab) 1 rfl rfl ?_; refine po_nil ?_; exact pn_end0 ⟨rfl, trivial⟩ trivial rfl) ?_
                    refine pdv_nil rfl rfl ?_
                    refine pn_seq (pw_then rfl ?_)
                    refine pw_seq ?_
                    refine pw_region ?_
                    refine po_evs (T := tab) 1 rfl rfl ?_
                    refine po_nil ?_
                    refine pn_seq ?_
                    exact pw_retN (T := tab) rfl rfl rfl ⟨rfl, rfl⟩ trivial rfl
                  · refine pdv_step0 [6, 7, 222] [224] [] [3] [3] [(112, .agg (cForest f1))] [(3, .box [.sl 10 false (f1.Nodes.map cNode), .v (.int .i64 f1.Most)])] rfl rfl rfl rfl (by kernel_rfl) (by kernel_rfl) (by kernel_rfl) ⟨rfl, trivial⟩ (fun w0 X X0 σ0 => by refine po_evs (T := tab) 1 rfl rfl ?_; refine po_nil ?_; exact pn_end0 ⟨rfl, trivial⟩ ⟨rfl, trivial⟩ rfl) ?_
                    refine pdv_step0 [2, 222] [226] [] [] [] [(113, .v (.int .i64 a2))] [] rfl rfl rfl rfl (by kernel_rfl) (by kernel_rfl) (by kernel_rfl) trivial (fun w0 X X0 σ0 => by refine po_evs (T := tab) 1 rfl rfl ?_; refine po_nil ?_; exact pn_end0 ⟨rfl, trivial⟩ trivial rfl) ?_
                    refine pdv_step (M := (Shade_Top_m fu f1 a2)) (ment := [(228, [])]) [222, 224, 226] [228] [] [] [] (fun r17 => [(114, .v (.int .i64 r17))]) (fun r17 => []) rfl rfl (fun _ => rfl) (fun _ => rfl) (by kernel_rfl) (by kernel_rfl) (fun _ => by kernel_rfl) (fun _ => trivial) (fun w0 X X0 σ0 => by refine po_call (enc := fun (r17 : Int) => .v (.int .i64 r17)) (qs := [.agg (cForest f1), .v (.int .i64 a2)]) (Shade_Top_ok fu f1 a2) rfl rfl ⟨⟨_, rfl, .rfl⟩, ⟨_, rfl, .rfl⟩, trivial⟩ (fun _ => rfl) call39 rfl rfl fun r17 hr17 => ?_; refine po_nil ?_; exact pn_end ⟨rfl, trivial⟩ trivial rfl) fun r17 hr17 => ?_
                    refine pdv_step0 [6, 7, 222] [230] [] [3] [3] [(115, .agg (cForest f1))] [(3, .box [.sl 10 false (f1.Nodes.map cNode), .v (.int .i64 f1.Most)])] rfl rfl rfl rfl (by kernel_rfl) (by kernel_rfl) (by kernel_rfl) ⟨rfl, trivial⟩ (fun w0 X X0 σ0 => by refine po_evs (T := tab) 1 rfl rfl ?_; refine po_nil ?_; exact pn_end0 ⟨rfl, trivial⟩ ⟨rfl, trivial⟩ rfl) ?_
                    refine pdv_step0 [2, 222] [232] [] [] [] [(116, .v (.int .i64 a2))] [] rfl rfl rfl rfl (by kernel_rfl) (by kernel_rfl) (by kernel_rfl) trivial (fun w0 X X0 σ0 => by refine po_evs (T := tab) 1 rfl rfl ?_; refine po_nil ?_; exact pn_end0 ⟨rfl, trivial⟩ trivial rfl) ?_
                    refine pdv_step (M := (Instarref04_Top_m fu f1 a2)) (ment := [(234, [])]) [222, 230, 232] [234] [] [] [] (fun r18 => [(117, .v (.int .i64 r18))]) (fun r18 => []) rfl rfl (fun _ => rfl) (fun _ => rfl) (by kernel_rfl) (by kernel_rfl) (fun _ => by kernel_rfl) (fun _ => trivial) (fun w0 X X0 σ0 => by refine po_call (enc := fun (r18 : Int) => .v (.int .i64 r18)) (qs := [.agg (cForest f1), .v (.int .i64 a2)]) (Instarref04_Top_ok fu f1 a2) rfl rfl ⟨⟨_, rfl, .rfl⟩, ⟨_, rfl, .rfl⟩, trivial⟩ (fun _ => rfl) call45 rfl rfl fun r18 hr18 => ?_; refine po_nil ?_; exact pn_end ⟨rfl, trivial⟩ trivial rfl) fun r18 hr18 => ?_
                    refine pdv_step0 [222, 228, 234] [236] [] [] [] [(118, .v (.bool (r17 != r18)))] [] rfl rfl rfl rfl (by kernel_rfl) (by kernel_rfl) (by kernel_rfl) trivial (fun w0 X X0 σ0 => by refine po_evs (T := tab) 1 rfl rfl ?_; refine po_nil ?_; exact pn_end0 ⟨rfl, trivial⟩ trivial rfl) ?_
                    refine pdv_step0 [222, 236] [238] [] [] [] [(119, .v (.bool (r17 != r18)))] [] rfl rfl rfl rfl (by kernel_rfl) (by kernel_rfl) (by kernel_rfl) trivial (fun w0 X X0 σ0 => by refine po_evs (T := tab) 1 rfl rfl ?_; refine po_nil ?_; exact pn_end0 ⟨rfl, trivial⟩ trivial rfl) ?_
                    refine pdv_step0 [238] [240] [] [] [] [(120, .v (.bool (r17 != r18)))] [] rfl rfl rfl rfl (by kernel_rfl) (by kernel_rfl) (by kernel_rfl) trivial (fun w0 X X0 σ0 => by refine po_evs (T := tab) 1 rfl rfl ?_; refine po_nil ?_; exact pn_end0 ⟨rfl, trivial⟩ trivial rfl) ?_
                    refine pdv_split (t := 120) rfl ?_ ?_
                    · refine pdv_step0 [240] [242] [] [] [] [(121, .tup [])] [] rfl rfl rfl rfl (by kernel_rfl) (by kernel_rfl) (by kernel_rfl) trivial (fun w0 X X0 σ0 => by refine po_evs (T := tab) 1 rfl rfl ?_; refine po_nil ?_; exact pn_end0 ⟨rfl, trivial⟩ trivial rfl) ?_
                      refine pdv_step0 [240] [244] [] [] [] [(122, .tup [])] [] rfl rfl rfl rfl (by kernel_rfl) (by kernel_rfl) (by kernel_rfl) trivial (fun w0 X X0 σ0 => by refine po_evs (T := tab) 1 rfl rfl ?_; refine po_nil ?_; exact pn_end0 ⟨rfl, trivial⟩ trivial rfl) ?_
                      refine pdv_step0 [240] [246] [] [] [] [(123, .tup [])] [] rfl rfl rfl rfl (by kernel_rfl) (by kernel_rfl) (by kernel_rfl) trivial (fun w0 X X0 σ0 => by refine po_evs (T := tab) 1 rfl rfl ?_; refine po_nil ?_; exact pn_end0 ⟨rfl, trivial⟩ trivial rfl) ?_
                      refine pdv_step0 [240] [248] [] [] [] [(124, .tup [])] [] rfl rfl rfl rfl (by kernel_rfl) (by kernel_rfl) (by kernel_rfl) trivial (fun w0 X X0 σ0 => by refine po_evs (T := tab) 1 rfl rfl ?_; refine po_nil ?_; exact pn_end0 ⟨rfl, trivial⟩ trivial rfl) ?_
                      refine pdv_step0 [240] [250] [] [] [] [(125, .tup [])] [] rfl rfl rfl rfl (by kernel_rfl) (by kernel_rfl) (by kernel_rfl) trivial (fun w0 X X0 σ0 => by refine po_evs (T := tab) 1 rfl rfl ?_; refine po_nil ?_; exact pn_end0 ⟨rfl, trivial⟩ trivial rfl) ?_
                      refine pdv_step0 [240] [252] [] [] [] [(126, .tup [])] [] rfl rfl rfl rfl (by kernel_rfl) (by kernel_rfl) (by kernel_rfl) trivial (fun w0 X X0 σ0 => by refine po_evs (T := tab) 1 rfl rfl ?_; refine po_nil ?_; exact pn_end0 ⟨rfl, trivial⟩ trivial rfl) ?_
                      refine pdv_step0 [240] [254] [] [] [] [(127, .tup [])] [] rfl rfl rfl rfl (by kernel_rfl) (by kernel_rfl) (by kernel_rfl) trivial (fun w0 X X0 σ0 => by refine po_evs (T := tab) 1 rfl rfl ?_; refine po_nil ?_; exact pn_end0 ⟨rfl, trivial⟩ trivial rfl) ?_
                      refine pdv_step0 [240, 254] [256] [] [] [] [(128, .v (.bool true))] [] rfl rfl rfl rfl (by kernel_rfl) (by kernel_rfl) (by kernel_rfl) trivial (fun w0 X X0 σ0 => by refine po_evs (T := tab) 1 rfl rfl ?_; refine po_nil ?_; exact pn_end0 ⟨rfl, trivial⟩ trivial rfl) ?_
                      refine pdv_step0 [256] [258] [] [] [] [(129, .v (.bool true))] [] rfl rfl rfl rfl (by kernel_rfl) (by kernel_rfl) (by kernel_rfl) trivial (fun w0 X X0 σ0 => by refine po_evs (T := tab) 1 rfl rfl ?_; refine po_nil ?_; exact pn_end0 ⟨rfl, trivial⟩ trivial rfl) ?_
                      refine pdv_step0 [258] [260] [] [] [] [(130, .tup [])] [] rfl rfl rfl rfl (by kernel_rfl) (by kernel_rfl) (by kernel_rfl) trivial (fun w0 X X0 σ0 => by refine po_evs (T := tab) 1 rfl rfl ?_; refine po_nil ?_; exact pn_end0 ⟨rfl, trivial⟩ trivial rfl) ?_
                      refine pdv_step0 [258] [262] [] [] [] [(131, .tup [])] [] rfl rfl rfl rfl (by kernel_rfl) (by kernel_rfl) (by kernel_rfl) trivial (fun w0 X X0 σ0 => by refine po_evs (T := tab) 1 rfl rfl ?_; refine po_nil ?_; exact pn_end0 ⟨rfl, trivial⟩ trivial rfl) ?_
                      refine pdv_step0 [258] [264] [] [] [] [(132, .tup [])] [] rfl rfl rfl rfl (by kernel_rfl) (by kernel_rfl) (by kernel_rfl) trivial (fun w0 X X0 σ0 => by refine po_evs (T := tab) 1 rfl rfl ?_; refine po_nil ?_; exact pn_end0 ⟨rfl, trivial⟩ trivial rfl) ?_
                      refine pdv_step0 [258] [266] [] [] [] [(133, .tup [])] [] rfl rfl rfl rfl (by kernel_rfl) (by kernel_rfl) (by kernel_rfl) trivial (fun w0 X X0 σ0 => by refine po_evs (T := tab) 1 rfl rfl ?_; refine po_nil ?_; exact pn_end0 ⟨rfl, trivial⟩ trivial rfl) ?_
                      refine pdv_step0 [258] [268] [] [] [] [(134, .tup [])] [] rfl rfl rfl rfl (by kernel_rfl) (by kernel_rfl) (by kernel_rfl) trivial (fun w0 X X0 σ0 => by refine po_evs (T := tab) 1 rfl rfl ?_; refine po_nil ?_; exact pn_end0 ⟨rfl, trivial⟩ trivial rfl) ?_
                      refine pdv_step0 [258] [270] [] [] [] [(135, .tup [])] [] rfl rfl rfl rfl (by kernel_rfl) (by kernel_rfl) (by kernel_rfl) trivial (fun w0 X X0 σ0 => by refine po_evs (T := tab) 1 rfl rfl ?_; refine po_nil ?_; exact pn_end0 ⟨rfl, trivial⟩ trivial rfl) ?_
                      refine pdv_step0 [258] [272] [] [] [] [(136, .tup [])] [] rfl rfl rfl rfl (by kernel_rfl) (by kernel_rfl) (by kernel_rfl) trivial (fun w0 X X0 σ0 => by refine po_evs (T := tab) 1 rfl rfl ?_; refine po_nil ?_; exact pn_end0 ⟨rfl, trivial⟩ trivial rfl) ?_
                      refine pdv_step0 [258] [274] [] [] [] [(137, .tup [])] [] rfl rfl rfl rfl (by kernel_rfl) (by kernel_rfl) (by kernel_rfl) trivial (fun w0 X X0 σ0 => by refine po_evs (T := tab) 1 rfl rfl ?_; refine po_nil ?_; exact pn_end0 ⟨rfl, trivial⟩ trivial rfl) ?_
                      refine pdv_step0 [258, 274] [276] [] [] [] [(138, .v (.bool true))] [] rfl rfl rfl rfl (by kernel_rfl) (by kernel_rfl) (by kernel_rfl) trivial (fun w0 X X0 σ0 => by refine po_evs (T := tab) 1 rfl rfl ?_; refine po_nil ?_; exact pn_end0 ⟨rfl, trivial⟩ trivial rfl) ?_
                      refine pdv_step0 [276] [278] [] [] [] [(139, .v (.bool true))] [] rfl rfl rfl rfl (by kernel_rfl) (by kernel_rfl) (by kernel_rfl) trivial (fun w0 X X0 σ0 => by refine po_evs (T := tab) 1 rfl rfl ?_; refine po_nil ?_; exact pn_end0 ⟨rfl, trivial⟩ trivial rfl) ?_
                      refine pdv_step0 [278] [280] [] [] [] [(140, .tup [])] [] rfl rfl rfl rfl (by kernel_rfl) (by kernel_rfl) (by kernel_rfl) trivial (fun w0 X X0 σ0 => by refine po_evs (T := tab) 1 rfl rfl ?_; refine po_nil ?_; exact pn_end0 ⟨rfl, trivial⟩ trivial rfl) ?_
                      refine pdv_step0 [278] [282] [] [] [] [(141, .tup [])] [] rfl rfl rfl rfl (by kernel_rfl) (by kernel_rfl) (by kernel_rfl) trivial (fun w0 X X0 σ0 => by refine po_evs (T := tab) 1 rfl rfl ?_; refine po_nil ?_; exact pn_end0 ⟨rfl, trivial⟩ trivial rfl) ?_
                      refine pdv_step0 [278] [284] [] [] [] [(142, .tup [])] [] rfl rfl rfl rfl (by kernel_rfl) (by kernel_rfl) (by kernel_rfl) trivial (fun w0 X X0 σ0 => by refine po_evs (T := tab) 1 rfl rfl ?_; refine po_nil ?_; exact pn_end0 ⟨rfl, trivial⟩ trivial rfl) ?_
                      refine pdv_step0 [278] [286] [] [] [] [(143, .tup [])] [] rfl rfl rfl rfl (by kernel_rfl) (by kernel_rfl) (by kernel_rfl) trivial (fun w0 X X0 σ0 => by refine po_evs (T := tab) 1 rfl rfl ?_; refine po_nil ?_; exact pn_end0 ⟨rfl, trivial⟩ trivial rfl) ?_
                      refine pdv_step0 [278] [288] [] [] [] [(144, .tup [])] [] rfl rfl rfl rfl (by kernel_rfl) (by kernel_rfl) (by kernel_rfl) trivial (fun w0 X X0 σ0 => by refine po_evs (T := tab) 1 rfl rfl ?_; refine po_nil ?_; exact pn_end0 ⟨rfl, trivial⟩ trivial rfl) ?_
                      refine pdv_step0 [278] [290] [] [] [] [(145, .tup [])] [] rfl rfl rfl rfl (by kernel_rfl) (by kernel_rfl) (by kernel_rfl) trivial (fun w0 X X0 σ0 => by refine po_evs (T := tab) 1 rfl rfl ?_; refine po_nil ?_; exact pn_end0 ⟨rfl, trivial⟩ trivial rfl) ?_
                      refine pdv_step0 [278] [292] [] [] [] [(146, .tup [])] [] rfl rfl rfl rfl (by kernel_rfl) (by kernel_rfl) (by kernel_rfl) trivial (fun w0 X X0 σ0 => by refine po_evs (T := tab) 1 rfl rfl ?_; refine po_nil ?_; exact pn_end0 ⟨rfl, trivial⟩ trivial rfl) ?_
                      refine pdv_step0 [278] [294] [] [] [] [(147, .tup [])] [] rfl rfl rfl rfl (by kernel_rfl) (by kernel_rfl) (by kernel_rfl) trivial (fun w0 X X0 σ0 => by refine po_evs (T := tab) 1 rfl rfl ?_; refine po_nil ?_; exact pn_end0 ⟨rfl, trivial⟩ trivial rfl) ?_
                      refine pdv_step0 [278, 294] [296] [] [] [] [(148, .v (.bool true))] [] rfl rfl rfl rfl (by kernel_rfl) (by kernel_rfl) (by kernel_rfl) trivial (fun w0 X X0 σ0 => by refine po_evs (T := tab) 1 rfl rfl ?_; refine po_nil ?_; exact pn_end0 ⟨rfl, trivial⟩ trivial rfl) ?_
                      refine pdv_nil rfl rfl ?_
                      refine pn_seq (pw_then rfl ?_)
                      refine pw_seq ?_
                      refine pw_region ?_
                      refine po_evs (T := tab) 1 rfl rfl ?_
                      refine po_nil ?_
                      refine pn_seq ?_
                      exact pw_retN (T := tab) rfl rfl rfl ⟨rfl, rfl⟩ trivial rfl
                    · refine pdv_step0 [6, 7, 240] [242] [] [3] [3] [(121, .agg (cForest f1))] [(3, .box [.sl 10 false (f1.Nodes.map cNode), .v (.int .i64 f1.Most)])] rfl rfl rfl rfl (by kernel_rfl) (by kernel_rfl) (by kernel_rfl) ⟨rfl, trivial⟩ (fun w0 X X0 σ0 => by refine po_evs (T := tab) 1 rfl rfl ?_; refine po_nil ?_; exact pn_end0 ⟨rfl, trivial⟩ ⟨rfl, trivial⟩ rfl) ?_
                      refine pdv_step0 [2, 240] [244] [] [] [] [(122, .v (.int .i64 a2))] [] rfl rfl rfl rfl (by kernel_rfl) (by kernel_rfl) (by kernel_rfl) trivial (fun w0 X X0 σ0 => by refine po_evs (T := tab) 1 rfl rfl ?_; refine po_nil ?_; exact pn_end0 ⟨rfl, trivial⟩ trivial rfl) ?_
                      refine pdv_step (M := (Shade_Connected_m fu f1 a2)) (ment := [(246, [])]) [240, 242, 244] [246] [] [] [] (fun r19 => [(123, .v (.bool r19))]) (fun r19 => []) rfl rfl (fun _ => rfl) (fun _ => rfl) (by kernel_rfl) (by kernel_rfl) (fun _ => by kernel_rfl) (fun _ => trivial) (fun w0 X X0 σ0 => by refine po_call (enc := fun (r19 : Bool) => .v (.bool r19)) (qs := [.agg (cForest f1), .v (.int .i64 a2)]) (Shade_Connected_ok fu f1 a2) rfl rfl ⟨⟨_, rfl, .rfl⟩, ⟨_, rfl, .rfl⟩, trivial⟩ (fun _ => rfl) call40 rfl rfl fun r19 hr19 => ?_; refine po_nil ?_; exact pn_end ⟨rfl, trivial⟩ trivial rfl) fun r19 hr19 => ?_
                      refine pdv_step0 [6, 7, 240] [248] [] [3] [3] [(124, .agg (cForest f1))] [(3, .box [.sl 10 false (f1.Nodes.map cNode), .v (.int .i64 f1.Most)])] rfl rfl rfl rfl (by kernel_rfl) (by kernel_rfl) (by kernel_rfl) ⟨rfl, trivial⟩ (fun w0 X X0 σ0 => by refine po_evs (T := tab) 1 rfl rfl ?_; refine po_nil ?_; exact pn_end0 ⟨rfl, trivial⟩ ⟨rfl, trivial⟩ rfl) ?_
                      refine pdv_step0 [2, 240] [250] [] [] [] [(125, .v (.int .i64 a2))] [] rfl rfl rfl rfl (by kernel_rfl) (by kernel_rfl) (by kernel_rfl) trivial (fun w0 X X0 σ0 => by refine po_evs (T := tab) 1 rfl rfl ?_; refine po_nil ?_; exact pn_end0 ⟨rfl, trivial⟩ trivial rfl) ?_
                      refine pdv_step (M := (Instarref04_Connected_m fu f1 a2)) (ment := [(252, [])]) [240, 248, 250] [252] [] [] [] (fun r20 => [(126, .v (.bool r20))]) (fun r20 => []) rfl rfl (fun _ => rfl) (fun _ => rfl) (by kernel_rfl) (by kernel_rfl) (fun _ => by kernel_rfl) (fun _ => trivial) (fun w0 X X0 σ0 => by refine po_call (enc := fun (r20 : Bool) => .v (.bool r20)) (qs := [.agg (cForest f1), .v (.int .i64 a2)]) (Instarref04_Connected_ok fu f1 a2) rfl rfl ⟨⟨_, rfl, .rfl⟩, ⟨_, rfl, .rfl⟩, trivial⟩ (fun _ => rfl) call46 rfl rfl fun r20 hr20 => ?_; refine po_nil ?_; exact pn_end ⟨rfl, trivial⟩ trivial rfl) fun r20 hr20 => ?_
                      refine pdv_step0 [240, 246, 252] [254] [] [] [] [(127, .v (.bool (!(r19 == r20))))] [] rfl rfl rfl rfl (by kernel_rfl) (by kernel_rfl) (by kernel_rfl) trivial (fun w0 X X0 σ0 => by refine po_evs (T := tab) 1 rfl rfl ?_; refine po_nil ?_; exact pn_end0 ⟨rfl, trivial⟩ trivial rfl) ?_
                      refine pdv_step0 [240, 254] [256] [] [] [] [(128, .v (.bool (!(r19 == r20))))] [] rfl rfl rfl rfl (by kernel_rfl) (by kernel_rfl) (by kernel_rfl) trivial (fun w0 X X0 σ0 => by refine po_evs (T := tab) 1 rfl rfl ?_; refine po_nil ?_; exact pn_end0 ⟨rfl, trivial⟩ trivial rfl) ?_
                      refine pdv_step0 [256] [258] [] [] [] [(129, .v (.bool (!(r19 == r20))))] [] rfl rfl rfl rfl (by kernel_rfl) (by kernel_rfl) (by kernel_rfl) trivial (fun w0 X X0 σ0 => by refine po_evs (T := tab) 1 rfl rfl ?_; refine po_nil ?_; exact pn_end0 ⟨rfl, trivial⟩ trivial rfl) ?_
                      refine pdv_split (t := 129) rfl ?_ ?_
                      · refine pdv_step0 [258] [260] [] [] [] [(130, .tup [])] [] rfl rfl rfl rfl (by kernel_rfl) (by kernel_rfl) (by kernel_rfl) trivial (fun w0 X X0 σ0 => by refine po_evs (T := tab) 1 rfl rfl ?_; refine po_nil ?_; exact pn_end0 ⟨rfl, trivial⟩ trivial rfl) ?_
                        refine pdv_step0 [258] [262] [] [] [] [(131, .tup [])] [] rfl rfl rfl rfl (by kernel_rfl) (by kernel_rfl) (by kernel_rfl) trivial (fun w0 X X0 σ0 => by refine po_evs (T := tab) 1 rfl rfl ?_; refine po_nil ?_; exact pn_end0 ⟨rfl, trivial⟩ trivial rfl) ?_
                        refine pdv_step0 [258] [264] [] [] [] [(132, .tup [])] [] rfl rfl rfl rfl (by kernel_rfl) (by kernel_rfl) (by kernel_rfl) trivial (fun w0 X X0 σ0 => by refine po_evs (T := tab) 1 rfl rfl ?_; refine po_nil ?_; exact pn_end0 ⟨rfl, trivial⟩ trivial rfl) ?_
                        refine pdv_step0 [258] [266] [] [] [] [(133, .tup [])] [] rfl rfl rfl rfl (by kernel_rfl) (by kernel_rfl) (by kernel_rfl) trivial (fun w0 X X0 σ0 => by refine po_evs (T := tab) 1 rfl rfl ?_; refine po_nil ?_; exact pn_end0 ⟨rfl, trivial⟩ trivial rfl) ?_
                        refine pdv_step0 [258] [268] [] [] [] [(134, .tup [])] [] rfl rfl rfl rfl (by kernel_rfl) (by kernel_rfl) (by kernel_rfl) trivial (fun w0 X X0 σ0 => by refine po_evs (T := tab) 1 rfl rfl ?_; refine po_nil ?_; exact pn_end0 ⟨rfl, trivial⟩ trivial rfl) ?_
                        refine pdv_step0 [258] [270] [] [] [] [(135, .tup [])] [] rfl rfl rfl rfl (by kernel_rfl) (by kernel_rfl) (by kernel_rfl) trivial (fun w0 X X0 σ0 => by refine po_evs (T := tab) 1 rfl rfl ?_; refine po_nil ?_; exact pn_end0 ⟨rfl, trivial⟩ trivial rfl) ?_
                        refine pdv_step0 [258] [272] [] [] [] [(136, .tup [])] [] rfl rfl rfl rfl (by kernel_rfl) (by kernel_rfl) (by kernel_rfl) trivial (fun w0 X X0 σ0 => by refine po_evs (T := tab) 1 rfl rfl ?_; refine po_nil ?_; exact pn_end0 ⟨rfl, trivial⟩ trivial rfl) ?_
                        refine pdv_step0 [258] [274] [] [] [] [(137, .tup [])] [] rfl rfl rfl rfl (by kernel_rfl) (by kernel_rfl) (by kernel_rfl) trivial (fun w0 X X0 σ0 => by refine po_evs (T := tab) 1 rfl rfl ?_; refine po_nil ?_; exact pn_end0 ⟨rfl, trivial⟩ trivial rfl) ?_
                        refine pdv_step0 [258, 274] [276] [] [] [] [(138, .v (.bool true))] [] rfl rfl rfl rfl (by kernel_rfl) (by kernel_rfl) (by kernel_rfl) trivial (fun w0 X X0 σ0 => by refine po_evs (T := tab) 1 rfl rfl ?_; refine po_nil ?_; exact pn_end0 ⟨rfl, trivial⟩ trivial rfl) ?_
                        refine pdv_step0 [276] [278] [] [] [] [(139, .v (.bool true))] [] rfl rfl rfl rfl (by kernel_rfl) (by kernel_rfl) (by kernel_rfl) trivial (fun w0 X X0 σ0 => by refine po_evs (T := tab) 1 rfl rfl ?_; refine po_nil ?_; exact pn_end0 ⟨rfl, trivial⟩ trivial rfl) ?_
                        refine pdv_step0 [278] [280] [] [] [] [(140, .tup [])] [] rfl rfl rfl rfl (by kernel_rfl) (by kernel_rfl) (by kernel_rfl) trivial (fun w0 X X0 σ0 => by refine po_evs (T := tab) 1 rfl rfl ?_; refine po_nil ?_; exact pn_end0 ⟨rfl, trivial⟩ trivial rfl) ?_
                        refine pdv_step0 [278] [282] [] [] [] [(141, .tup [])] [] rfl rfl rfl rfl (by kernel_rfl) (by kernel_rfl) (by kernel_rfl) trivial (fun w0 X X0 σ0 => by refine po_evs (T := tab) 1 rfl rfl ?_; refine po_nil ?_; exact pn_end0 ⟨rfl, trivial⟩ trivial rfl) ?_
                        refine pdv_step0 [278] [284] [] [] [] [(142, .tup [])] [] rfl rfl rfl rfl (by kernel_rfl) (by kernel_rfl) (by kernel_rfl) trivial (fun w0 X X0 σ0 => by refine po_evs (T := tab) 1 rfl rfl ?_; refine po_nil ?_; exact pn_end0 ⟨rfl, trivial⟩ trivial rfl) ?_
                        refine pdv_step0 [278] [286] [] [] [] [(143, .tup [])] [] rfl rfl rfl rfl (by kernel_rfl) (by kernel_rfl) (by kernel_rfl) trivial (fun w0 X X0 σ0 => by refine po_evs (T := tab) 1 rfl rfl ?_; refine po_nil ?_; exact pn_end0 ⟨rfl, trivial⟩ trivial rfl) ?_
                        refine pdv_step0 [278] [288] [] [] [] [(144, .tup [])] [] rfl rfl rfl rfl (by kernel_rfl) (by kernel_rfl) (by kernel_rfl) trivial (fun w0 X X0 σ0 => by refine po_evs (T := tab) 1 rfl rfl ?_; refine po_nil ?_; exact pn_end0 ⟨rfl, trivial⟩ trivial rfl) ?_
                        refine pdv_step0 [278] [290] [] [] [] [(145, .tup [])] [] rfl rfl rfl rfl (by kernel_rfl) (by kernel_rfl) (by kernel_rfl) trivial (fun w0 X X0 σ0 => by refine po_evs (T := tab) 1 rfl rfl ?_; refine po_nil ?_; exact pn_end0 ⟨rfl, trivial⟩ trivial rfl) ?_
                        refine pdv_step0 [278] [292] [] [] [] [(146, .tup [])] [] rfl rfl rfl rfl (by kernel_rfl) (by kernel_rfl) (by kernel_rfl) trivial (fun w0 X X0 σ0 => by refine po_evs (T := tab) 1 rfl rfl ?_; refine po_nil ?_; exact pn_end0 ⟨rfl, trivial⟩ trivial rfl) ?_
                        refine pdv_step0 [278] [294] [] [] [] [(147, .tup [])] [] rfl rfl rfl rfl (by kernel_rfl) (by kernel_rfl) (by kernel_rfl) trivial (fun w0 X X0 σ0 => by refine po_evs (T := tab) 1 rfl rfl ?_; refine po_nil ?_; exact pn_end0 ⟨rfl, trivial⟩ trivial rfl) ?_
                        refine pdv_step0 [278, 294] [296] [] [] [] [(148, .v (.bool true))] [] rfl rfl rfl rfl (by kernel_rfl) (by kernel_rfl) (by kernel_rfl) trivial (fun w0 X X0 σ0 => by refine po_evs (T := tab) 1 rfl rfl ?_; refine po_nil ?_; exact pn_end0 ⟨rfl, trivial⟩ trivial rfl) ?_
                        refine pdv_nil rfl rfl ?_
                        refine pn_seq (pw_then rfl ?_)
                        refine pw_seq ?_
                        refine pw_region ?_
                        refine po_evs (T := tab) 1 rfl rfl ?_
                        refine po_nil ?_
                        refine pn_seq ?_
                        exact pw_retN (T := tab) rfl rfl rfl ⟨rfl, rfl⟩ trivial rfl
                      · refine pdv_step0 [6, 7, 258] [260] [] [3] [3] [(130, .agg (cForest f1))] [(3, .box [.sl 10 false (f1.Nodes.map cNode), .v (.int .i64 f1.Most)])] rfl rfl rfl rfl (by kernel_rfl) (by kernel_rfl) (by kernel_rfl) ⟨rfl, trivial⟩ (fun w0 X X0 σ0 => by refine po_evs (T := tab) 1 rfl rfl ?_; refine po_nil ?_; exact pn_end0 ⟨rfl, trivial⟩ ⟨rfl, trivial⟩ rfl) ?_
                        refine pdv_step0 [2, 258] [262] [] [] [] [(131, .v (.int .i64 a2))] [] rfl rfl rfl rfl (by kernel_rfl) (by kernel_rfl) (by kernel_rfl) trivial (fun w0 X X0 σ0 => by refine po_evs (T := tab) 1 rfl rfl ?_; refine po_nil ?_; exact pn_end0 ⟨rfl, trivial⟩ trivial rfl) ?_
                        refine pdv_step (M := (Shade_All_m fu f1 a2)) (ment := [(264, []), (6641, [])]) [258, 260, 262] [264, 6641] [3320] [] [] (fun r21 => [(132, .sl 1 false (r21.map cInt_i64))]) (fun r21 => []) rfl rfl (fun _ => rfl) (fun _ => rfl) (by kernel_rfl) (by kernel_rfl) (fun _ => by kernel_rfl) (fun _ => trivial) (fun w0 X X0 σ0 => by refine po_turn [3320] (enc := fun (r21 : (List Int)) => .own 3320) (Sr := fun (r21 : (List Int)) => [(3320, .arr 3 1 (r21.map cInt_i64))]) (first := []) (cap := []) (qs := [.agg (cForest f1), .v (.int .i64 a2)]) (Sc := []) (N0 := []) (NR := [3320]) (fun r21 hr21 => fc_ren [(1035, 3320)] [1035] (Shade_All_ok fu f1 a2 _ hr21) rfl rfl rfl rfl rfl rfl) trivial (fun _ => rfl) rfl rfl rfl rfl rfl rfl rfl (fun _ => rfl) (fun _ => rfl) rfl rfl rfl ⟨⟨_, rfl, .rfl⟩, ⟨_, rfl, .rfl⟩, trivial⟩ call41 rfl rfl fun r21 hr21 => ?_; refine po_freeze 3320 rfl rfl rfl ?_; refine po_nil ?_; exact pn_end ⟨rfl, trivial⟩ trivial rfl) fun r21 hr21 => ?_
                        refine pdv_step0 [6, 7, 258] [266] [] [3] [3] [(133, .agg (cForest f1))] [(3, .box [.sl 10 false (f1.Nodes.map cNode), .v (.int .i64 f1.Most)])] rfl rfl rfl rfl (by kernel_rfl) (by kernel_rfl) (by kernel_rfl) ⟨rfl, trivial⟩ (fun w0 X X0 σ0 => by refine po_evs (T := tab) 1 rfl rfl ?_; refine po_nil ?_; exact pn_end0 ⟨rfl, trivial⟩ ⟨rfl, trivial⟩ rfl) ?_
                        refine pdv_step0 [2, 258] [268] [] [] [] [(134, .v (.int .i64 a2))] [] rfl rfl rfl rfl (by kernel_rfl) (by kernel_rfl) (by kernel_rfl) trivial (fun w0 X X0 σ0 => by refine po_evs (T := tab) 1 rfl rfl ?_; refine po_nil ?_; exact pn_end0 ⟨rfl, trivial⟩ trivial rfl) ?_
                        refine pdv_step (M := (Instarref04_All_m fu f1 a2)) (ment := [(270, [])]) [258, 266, 268] [270] [] [] [] (fun r22 => [(135, .sl 1 false (r22.map cInt_i64))]) (fun r22 => []) rfl rfl (fun _ => rfl) (fun _ => rfl) (by kernel_rfl) (by kernel_rfl) (fun _ => by kernel_rfl) (fun _ => trivial) (fun w0 X X0 σ0 => by refine po_call (enc := fun (r22 : (List Int)) => .sl 1 false (r22.map cInt_i64)) (qs := [.agg (cForest f1), .v (.int .i64 a2)]) (Instarref04_All_ok fu f1 a2) rfl rfl ⟨⟨_, rfl, .rfl⟩, ⟨_, rfl, .rfl⟩, trivial⟩ (fun _ => rfl) call47 rfl rfl fun r22 hr22 => ?_; refine po_nil ?_; exact pn_end ⟨rfl, trivial⟩ trivial rfl) fun r22 hr22 => ?_
                        refine pdv_step (M := (Instarref03_Ints_m fu r21 r22)) (ment := [(272, [])]) [258, 264, 270] [272] [] [] [] (fun r23 => [(136, .v (.bool r23))]) (fun r23 => []) rfl rfl (fun _ => rfl) (fun _ => rfl) (by kernel_rfl) (by kernel_rfl) (fun _ => by kernel_rfl) (fun _ => trivial) (fun w0 X X0 σ0 => by refine po_call (enc := fun (r23 : Bool) => .v (.bool r23)) (qs := [.sl 1 false (r21.map cInt_i64), .sl 1 false (r22.map cInt_i64)]) (Instarref03_Ints_ok fu r21 r22) rfl rfl ⟨⟨_, rfl, .rfl⟩, ⟨_, rfl, .rfl⟩, trivial⟩ (fun _ => rfl) call29 rfl rfl fun r23 hr23 => ?_; refine po_nil ?_; exact pn_end ⟨rfl, trivial⟩ trivial rfl) fun r23 hr23 => ?_
                        refine pdv_step0 [258, 272] [274] [] [] [] [(137, .v (.bool (!r23)))] [] rfl rfl rfl rfl (by kernel_rfl) (by kernel_rfl) (by kernel_rfl) trivial (fun w0 X X0 σ0 => by refine po_evs (T := tab) 1 rfl rfl ?_; refine po_nil ?_; exact pn_end0 ⟨rfl, trivial⟩ trivial rfl) ?_
                        refine pdv_step0 [258, 274] [276] [] [] [] [(138, .v (.bool (!r23)))] [] rfl rfl rfl rfl (by kernel_rfl) (by kernel_rfl) (by kernel_rfl) trivial (fun w0 X X0 σ0 => by refine po_evs (T := tab) 1 rfl rfl ?_; refine po_nil ?_; exact pn_end0 ⟨rfl, trivial⟩ trivial rfl) ?_
                        refine pdv_step0 [276] [278] [] [] [] [(139, .v (.bool (!r23)))] [] rfl rfl rfl rfl (by kernel_rfl) (by kernel_rfl) (by kernel_rfl) trivial (fun w0 X X0 σ0 => by refine po_evs (T := tab) 1 rfl rfl ?_; refine po_nil ?_; exact pn_end0 ⟨rfl, trivial⟩ trivial rfl) ?_
                        refine pdv_split (t := 139) rfl ?_ ?_
                        · refine pdv_step0 [278] [280] [] [] [] [(140, .tup [])] [] rfl rfl rfl rfl (by kernel_rfl) (by kernel_rfl) (by kernel_rfl) trivial (fun w0 X X0 σ0 => by refine po_evs (T := tab) 1 rfl rfl ?_; refine po_nil ?_; exact pn_end0 ⟨rfl, trivial⟩ trivial rfl) ?_
                          refine pdv_step0 [278] [282] [] [] [] [(141, .tup [])] [] rfl rfl rfl rfl (by kernel_rfl) (by kernel_rfl) (by kernel_rfl) trivial (fun w0 X X0 σ0 => by refine po_evs (T := tab) 1 rfl rfl ?_; refine po_nil ?_; exact pn_end0 ⟨rfl, trivial⟩ trivial rfl) ?_
                          refine pdv_step0 [278] [284] [] [] [] [(142, .tup [])] [] rfl rfl rfl rfl (by kernel_rfl) (by kernel_rfl) (by kernel_rfl) trivial (fun w0 X X0 σ0 => by refine po_evs (T := tab) 1 rfl rfl ?_; refine po_nil ?_; exact pn_end0 ⟨rfl, trivial⟩ trivial rfl) ?_
                          refine pdv_step0 [278] [286] [] [] [] [(143, .tup [])] [] rfl rfl rfl rfl (by kernel_rfl) (by kernel_rfl) (by kernel_rfl) trivial (fun w0 X X0 σ0 => by refine po_evs (T := tab) 1 rfl rfl ?_; refine po_nil ?_; exact pn_end0 ⟨rfl, trivial⟩ trivial rfl) ?_
                          refine pdv_step0 [278] [288] [] [] [] [(144, .tup [])] [] rfl rfl rfl rfl (by kernel_rfl) (by kernel_rfl) (by kernel_rfl) trivial (fun w0 X X0 σ0 => by refine po_evs (T := tab) 1 rfl rfl ?_; refine po_nil ?_; exact pn_end0 ⟨rfl, trivial⟩ trivial rfl) ?_
                          refine pdv_step0 [278] [290] [] [] [] [(145, .tup [])] [] rfl rfl rfl rfl (by kernel_rfl) (by kernel_rfl) (by kernel_rfl) trivial (fun w0 X X0 σ0 => by refine po_evs (T := tab) 1 rfl rfl ?_; refine po_nil ?_; exact pn_end0 ⟨rfl, trivial⟩ trivial rfl) ?_
                          refine pdv_step0 [278] [292] [] [] [] [(146, .tup [])] [] rfl rfl rfl rfl (by kernel_rfl) (by kernel_rfl) (by kernel_rfl) trivial (fun w0 X X0 σ0 => by refine po_evs (T := tab) 1 rfl rfl ?_; refine po_nil ?_; exact pn_end0 ⟨rfl, trivial⟩ trivial rfl) ?_
                          refine pdv_step0 [278] [294] [] [] [] [(147, .tup [])] [] rfl rfl rfl rfl (by kernel_rfl) (by kernel_rfl) (by kernel_rfl) trivial (fun w0 X X0 σ0 => by refine po_evs (T := tab) 1 rfl rfl ?_; refine po_nil ?_; exact pn_end0 ⟨rfl, trivial⟩ trivial rfl) ?_
                          refine pdv_step0 [278, 294] [296] [] [] [] [(148, .v (.bool true))] [] rfl rfl rfl rfl (by kernel_rfl) (by kernel_rfl) (by kernel_rfl) trivial (fun w0 X X0 σ0 => by refine po_evs (T := tab) 1 rfl rfl ?_; refine po_nil ?_; exact pn_end0 ⟨rfl, trivial⟩ trivial rfl) ?_
                          refine pdv_nil rfl rfl ?_
                          refine pn_seq (pw_then rfl ?_)
                          refine pw_seq ?_
                          refine pw_region ?_
                          refine po_evs (T := tab) 1 rfl rfl ?_
                          refine po_nil ?_
                          refine pn_seq ?_
                          exact pw_retN (T := tab) rfl rfl rfl ⟨rfl, rfl⟩ trivial rfl
                        · refine pdv_step0 [6, 7, 278] [280] [] [3] [3] [(140, .agg (cForest f1))] [(3, .box [.sl 10 false (f1.Nodes.map cNode), .v (.int .i64 f1.Most)])] rfl rfl rfl rfl (by kernel_rfl) (by kernel_rfl) (by kernel_rfl) ⟨rfl, trivial⟩ (fun w0 X X0 σ0 => by refine po_evs (T := tab) 1 rfl rfl ?_; refine po_nil ?_; exact pn_end0 ⟨rfl, trivial⟩ ⟨rfl, trivial⟩ rfl) ?_
                          refine pdv_step0 [2, 278] [282] [] [] [] [(141, .v (.int .i64 a2))] [] rfl rfl rfl rfl (by kernel_rfl) (by kernel_rfl) (by kernel_rfl) trivial (fun w0 X X0 σ0 => by refine po_evs (T := tab) 1 rfl rfl ?_; refine po_nil ?_; exact pn_end0 ⟨rfl, trivial⟩ trivial rfl) ?_
                          refine pdv_step (M := (Shade_Elems_m fu f1 a2)) (ment := [(284, [])]) [278, 280, 282] [284] [] [] [] (fun r24 => [(142, .sl 1 false (r24.map cInt_i64))]) (fun r24 => []) rfl rfl (fun _ => rfl) (fun _ => rfl) (by kernel_rfl) (by kernel_rfl) (fun _ => by kernel_rfl) (fun _ => trivial) (fun w0 X X0 σ0 => by refine po_call (enc := fun (r24 : (List Int)) => .sl 1 false (r24.map cInt_i64)) (qs := [.agg (cForest f1), .v (.int .i64 a2)]) (Shade_Elems_ok fu f1 a2) rfl rfl ⟨⟨_, rfl, .rfl⟩, ⟨_, rfl, .rfl⟩, trivial⟩ (fun _ => rfl) call42 rfl rfl fun r24 hr24 => ?_; refine po_nil ?_; exact pn_end ⟨rfl, trivial⟩ trivial rfl) fun r24 hr24 => ?_
                          refine pdv_step0 [6, 7, 278] [286] [] [3] [3] [(143, .agg (cForest f1))] [(3, .box [.sl 10 false (f1.Nodes.map cNode), .v (.int .i64 f1.Most)])] rfl rfl rfl rfl (by kernel_rfl) (by kernel_rfl) (by kernel_rfl) ⟨rfl, trivial⟩ (fun w0 X X0 σ0 => by refine po_evs (T := tab) 1 rfl rfl ?_; refine po_nil ?_; exact pn_end0 ⟨rfl, trivial⟩ ⟨rfl, trivial⟩ rfl) ?_
                          refine pdv_step0 [2, 278] [288] [] [] [] [(144, .v (.int .i64 a2))] [] rfl rfl rfl rfl (by kernel_rfl) (by kernel_rfl) (by kernel_rfl) trivial (fun w0 X X0 σ0 => by refine po_evs (T := tab) 1 rfl rfl ?_; refine po_nil ?_; exact pn_end0 ⟨rfl, trivial⟩ trivial rfl) ?_
                          refine pdv_step (M := (Instarref04_Elems_m fu f1 a2)) (ment := [(290, [])]) [278, 286, 288] [290] [] [] [] (fun r25 => [(145, .sl 1 false (r25.map cInt_i64))]) (fun r25 => []) rfl rfl (fun _ => rfl) (fun _ => rfl) (by kernel_rfl) (by kernel_rfl) (fun _ => by kernel_rfl) (fun _ => trivial) (fun w0 X X0 σ0 => by refine po_call (enc := fun (r25 : (List Int)) => .sl 1 false (r25.map cInt_i64)) (qs := [.agg (cForest f1), .v (.int .i64 a2)]) (Instarref04_Elems_ok fu f1 a2) rfl rfl ⟨⟨_, rfl, .rfl⟩, ⟨_, rfl, .rfl⟩, trivial⟩ (fun _ => rfl) call48 rfl rfl fun r25 hr25 => ?_; refine po_nil ?_; exact pn_end ⟨rfl, trivial⟩ trivial rfl) fun r25 hr25 => ?_
                          refine pdv_step (M := (Instarref03_Ints_m fu r24 r25)) (ment := [(292, [])]) [278, 284, 290] [292] [] [] [] (fun r26 => [(146, .v (.bool r26))]) (fun r26 => []) rfl rfl (fun _ => rfl) (fun _ => rfl) (by kernel_rfl) (by kernel_rfl) (fun _ => by kernel_rfl) (fun _ => trivial) (fun w0 X X0 σ0 => by refine po_call (enc := fun (r26 : Bool) => .v (.bool r26)) (qs := [.sl 1 false (r24.map cInt_i64), .sl 1 false (r25.map cInt_i64)]) (Instarref03_Ints_ok fu r24 r25) rfl rfl ⟨⟨_, rfl, .rfl⟩, ⟨_, rfl, .rfl⟩, trivial⟩ (fun _ => rfl) call29 rfl rfl fun r26 hr26 => ?_; refine po_nil ?_; exact pn_end ⟨rfl, trivial⟩ trivial rfl) fun r26 hr26 => ?_
                          refine pdv_step0 [278, 292] [294] [] [] [] [(147, .v (.bool (!r26)))] [] rfl rfl rfl rfl (by kernel_rfl) (by kernel_rfl) (by kernel_rfl) trivial (fun w0 X X0 σ0 => by refine po_evs (T := tab) 1 rfl rfl ?_; refine po_nil ?_; exact pn_end0 ⟨rfl, trivial⟩ trivial rfl) ?_
                          refine pdv_step0 [278, 294] [296] [] [] [] [(148, .v (.bool (!r26)))] [] rfl rfl rfl rfl (by kernel_rfl) (by kernel_rfl) (by kernel_rfl) trivial (fun w0 X X0 σ0 => by refine po_evs (T := tab) 1 rfl rfl ?_; refine po_nil ?_; exact pn_end0 ⟨rfl, trivial⟩ trivial rfl) ?_
                          refine pdv_nil rfl rfl ?_
                          refine pn_seq ?_
                          refine pw_cnd rfl ?_ ?_
                          · refine pw_seq ?_
                            refine pw_region ?_
                            refine po_evs (T := tab) 1 rfl rfl ?_
                            refine po_nil ?_
                            refine pn_seq ?_
                            exact pw_retN (T := tab) rfl rfl rfl ⟨rfl, rfl⟩ trivial rfl
                          · refine pw_skip ?_
                            refine pn_seq ?_
                            refine pw_seq ?_
                            refine pw_seq ?_
                            refine pw_region ?_
                            refine po_evs (T := tab) 3 rfl rfl ?_
                            refine po_split (j := 151) rfl ?_ ?_
                            · refine po_evs (T := tab) 6 rfl rfl ?_
                              refine po_nil ?_
                              refine pn_seq (pw_then rfl ?_)
                              refine pw_seq ?_
                              refine pw_region ?_
                              refine po_evs (T := tab) 3 rfl rfl ?_
                              refine po_call (enc := fun (r27 : Bool) => .v (.bool r27)) (qs := [.agg (cForest f1), .v (.int .i64 a2), .v (.int .i64 b3)]) (Shade_Over_ok fu f1 a2 b3) rfl rfl ⟨⟨_, rfl, .rfl⟩, ⟨_, rfl, .rfl⟩, ⟨_, rfl, .rfl⟩, trivial⟩ (fun _ => rfl) call43 rfl rfl fun r27 hr27 => ?_
                              refine po_evs (T := tab) 2 rfl rfl ?_
                              refine po_nil ?_
                              refine pn_seq ?_
                              exact pw_retN (T := tab) rfl rfl rfl ⟨rfl, rfl⟩ trivial rfl
                            · refine po_evs (T := tab) 3 rfl rfl ?_
                              refine po_len (T := tab) cNode f1.Nodes rfl rfl rfl rfl rfl rfl rfl rfl ?_
                              refine po_evs (T := tab) 2 rfl rfl ?_
                              refine po_nil ?_
                              refine pn_seq ?_
                              refine pw_cnd rfl ?_ ?_
                              · refine pw_seq ?_
                                refine pw_region ?_
                                refine po_evs (T := tab) 3 rfl rfl ?_
                                refine po_call (enc := fun (r28 : Bool) => .v (.bool r28)) (qs := [.agg (cForest f1), .v (.int .i64 a2), .v (.int .i64 b3)]) (Shade_Over_ok fu f1 a2 b3) rfl rfl ⟨⟨_, rfl, .rfl⟩, ⟨_, rfl, .rfl⟩, ⟨_, rfl, .rfl⟩, trivial⟩ (fun _ => rfl) call43 rfl rfl fun r28 hr28 => ?_
                                refine po_evs (T := tab) 2 rfl rfl ?_
                                refine po_nil ?_
                                refine pn_seq ?_
                                exact pw_retN (T := tab) rfl rfl rfl ⟨rfl, rfl⟩ trivial rfl
                              · refine pw_skip ?_
                                refine pn_seq ?_
                                refine pw_seq ?_
                                refine pw_draw mixed (by kernel_rfl) ?_
                                refine pd_evs (T := tab) 3 rfl rfl ?_
                                refine pd_call (enc := fun (r29 : Bool) => .v (.bool r29)) (qs := [.agg (cForest f1), .v (.int .i64 a2), .v (.int .i64 b3)]) (Shade_Over_ok fu f1 a2 b3) rfl rfl ⟨⟨_, rfl, .rfl⟩, ⟨_, rfl, .rfl⟩, ⟨_, rfl, .rfl⟩, trivial⟩ (fun _ => rfl) call43 rfl rfl fun r29 hr29 => ?_
                                refine pd_evs (T := tab) 3 rfl rfl ?_
                                refine pd_call (enc := fun (r30 : Bool) => .v (.bool r30)) (qs := [.agg (cForest f1), .v (.int .i64 a2), .v (.int .i64 b3)]) (Instarref04_Over_ok fu f1 a2 b3) rfl rfl ⟨⟨_, rfl, .rfl⟩, ⟨_, rfl, .rfl⟩, ⟨_, rfl, .rfl⟩, trivial⟩ (fun _ => rfl) call49 rfl rfl fun r30 hr30 => ?_
                                refine pd_evs (T := tab) 2 rfl rfl ?_
                                refine pd_nil ?_
                                refine pn_seq ?_
                                exact pw_retN (T := tab) rfl rfl rfl ⟨rfl, rfl⟩ trivial rfl

def Instarlaw04_ShadeOver_j1 (fu : Nat) (f1 : Forest) (m9 : Int) (x_ : Unit) : Option Bool := bnd (idx f1.Nodes m9) fun y42 => cnd (y42.Kind == 0) (bnd (Shade_Connected_m fu f1 m9) fun r43 => cnd r43 (bnd (Shade_Top_m fu f1 m9) fun r44 => some (r44 == m9)) (some false)) (cnd (y42.Parent != (-1)) (bnd (Shade_Connected_m fu f1 m9) fun r45 => bnd (Shade_Connected_m fu f1 y42.Parent) fun r46 => cnd (r45 == r46) (bnd (Shade_Top_m fu f1 m9) fun r47 => bnd (Shade_Top_m fu f1 y42.Parent) fun r48 => some (r47 == r48)) (some false)) (cnd (y42.Host != (-1)) (bnd (Shade_Connected_m fu f1 m9) fun r49 => bnd (Shade_Connected_m fu f1 y42.Host) fun r50 => cnd (r49 == r50) (bnd (Shade_Top_m fu f1 m9) fun r51 => bnd (Shade_Top_m fu f1 y42.Host) fun r52 => some (r51 == r52)) (some false)) (bnd (Shade_Connected_m fu f1 m9) fun r53 => cnd (!r53) (bnd (Shade_Top_m fu f1 m9) fun r54 => some (r54 == m9)) (some false))))

def Instarlaw04_ShadeOver_m (fu : Nat) (f1 : Forest) (a2 : Int) (b3 : Int) (c4 : Int) : Option Bool := bnd (Instarlaw04_awake_m fu) fun r5 => cnd (!r5) (some false) (bnd (Instarref03_Short_m fu f1) fun r6 => cnd (!r6) (some true) (bnd (Forest_Right_m fu f1) fun r7 => cnd (!r7) (some true) (bnd (rng .i64 a2) fun i8 => bnd (remI i8 ((f1.Nodes.length : Nat) : Int)) fun m9 => bnd (rng .i64 b3) fun i10 => bnd (remI i10 ((f1.Nodes.length : Nat) : Int)) fun m11 => bnd (rng .i64 c4) fun i12 => bnd (remI i12 ((f1.Nodes.length : Nat) : Int)) fun m13 => bnd (Shade_Over_m fu f1 m9 m9) fun r14 => cnd (!r14) (some false) (bnd (Shade_Over_m fu f1 m9 m11) fun r15 => cnd r15 (bnd (Shade_Over_m fu f1 m11 m13) fun r16 => cnd r16 (bnd (Shade_Over_m fu f1 m9 m13) fun r17 => cnd (!r17) (some false) (cnd (m9 != m11) (bnd (Shade_Over_m fu f1 m9 m11) fun r18 => cnd r18 (bnd (Shade_Over_m fu f1 m11 m9) fun r19 => cnd r19 (some false) (bnd (Forest_Holds_m fu f1 m9 m11) fun r20 => cnd r20 (bnd (Shade_Over_m fu f1 m9 m11) fun r21 => cnd (!r21) (some false) ((Instarlaw04_ShadeOver_j1 fu f1 m9) ())) ((Instarlaw04_ShadeOver_j1 fu f1 m9) ()))) (bnd (Forest_Holds_m fu f1 m9 m11) fun r22 => cnd r22 (bnd (Shade_Over_m fu f1 m9 m11) fun r23 => cnd (!r23) (some false) ((Instarlaw04_ShadeOver_j1 fu f1 m9) ())) ((Instarlaw04_ShadeOver_j1 fu f1 m9) ()))) (bnd (Forest_Holds_m fu f1 m9 m11) fun r24 => cnd r24 (bnd (Shade_Over_m fu f1 m9 m11) fun r25 => cnd (!r25) (some false) ((Instarlaw04_ShadeOver_j1 fu f1 m9) ())) ((Instarlaw04_ShadeOver_j1 fu f1 m9) ())))) (cnd (m9 != m11) (bnd (Shade_Over_m fu f1 m9 m11) fun r26 => cnd r26 (bnd (Shade_Over_m fu f1 m11 m9) fun r27 => cnd r27 (some false) (bnd (Forest_Holds_m fu f1 m9 m11) fun r28 => cnd r28 (bnd (Shade_Over_m fu f1 m9 m11) fun r29 => cnd (!r29) (some false) ((Instarlaw04_ShadeOver_j1 fu f1 m9) ())) ((Instarlaw04_ShadeOver_j1 fu f1 m9) ()))) (bnd (Forest_Holds_m fu f1 m9 m11) fun r30 => cnd r30 (bnd (Shade_Over_m fu f1 m9 m11) fun r31 => cnd (!r31) (some false) ((Instarlaw04_ShadeOver_j1 fu f1 m9) ())) ((Instarlaw04_ShadeOver_j1 fu f1 m9) ()))) (bnd (Forest_Holds_m fu f1 m9 m11) fun r32 => cnd r32 (bnd (Shade_Over_m fu f1 m9 m11) fun r33 => cnd (!r33) (some false) ((Instarlaw04_ShadeOver_j1 fu f1 m9) ())) ((Instarlaw04_ShadeOver_j1 fu f1 m9) ())))) (cnd (m9 != m11) (bnd (Shade_Over_m fu f1 m9 m11) fun r34 => cnd r34 (bnd (Shade_Over_m fu f1 m11 m9) fun r35 => cnd r35 (some false) (bnd (Forest_Holds_m fu f1 m9 m11) fun r36 => cnd r36 (bnd (Shade_Over_m fu f1 m9 m11) fun r37 => cnd (!r37) (some false) ((Instarlaw04_ShadeOver_j1 fu f1 m9) ())) ((Instarlaw04_ShadeOver_j1 fu f1 m9) ()))) (bnd (Forest_Holds_m fu f1 m9 m11) fun r38 => cnd r38 (bnd (Shade_Over_m fu f1 m9 m11) fun r39 => cnd (!r39) (some false) ((Instarlaw04_ShadeOver_j1 fu f1 m9) ())) ((Instarlaw04_ShadeOver_j1 fu f1 m9) ()))) (bnd (Forest_Holds_m fu f1 m9 m11) fun r40 => cnd r40 (bnd (Shade_Over_m fu f1 m9 m11) fun r41 => cnd (!r41) (some false) ((Instarlaw04_ShadeOver_j1 fu f1 m9) ())) ((Instarlaw04_ShadeOver_j1 fu f1 m9) ())))))))

set_option maxHeartbeats 10000000 in
set_option maxRecDepth 100000 in
theorem Instarlaw04_ShadeOver_ok (fu : Nat) (f1 : Forest) (a2 : Int) (b3 : Int) (c4 : Int) : ∀ r, Instarlaw04_ShadeOver_m fu f1 a2 b3 c4 = some r → DC Try.prog 10 [.agg (cForest f1), .v (.int .u8 a2), .v (.int .u8 b3), .v (.int .u8 c4)] (.v (.bool r)) := by
  intro r hr
  refine fc_intro (args := [.agg (cForest f1), .v (.int .u8 a2), .v (.int .u8 b3), .v (.int .u8 c4)]) (S := []) (N0 := []) (post := fun r p S => p = .v (.bool r) ∧ S = []) Try.func10 rfl rfl hr fun w0 X X0 σ0 => ?_
  refine pw_seq ?_
  refine pw_region ?_
  refine po_box  4 rfl rfl rfl rfl rfl rfl rfl rfl rfl rfl ?_
  refine po_evs (T := tab) 1 rfl rfl ?_
  refine po_nil ?_
  refine pn_seq ?_
  refine pw_seq ?_
  refine pw_seq ?_
  refine pw_region ?_
  refine po_call (enc := fun (r5 : Bool) => .v (.bool r5)) (qs := []) (Instarlaw04_awake_ok fu) rfl rfl trivial (fun _ => rfl) call37 rfl rfl fun r5 hr5 => ?_
  refine po_evs (T := tab) 1 rfl rfl ?_
  refine po_nil ?_
  refine pn_seq ?_
  refine pw_cnd rfl ?_ ?_
  · refine pw_seq ?_
    refine pw_region ?_
    refine po_evs (T := tab) 1 rfl rfl ?_
    refine po_nil ?_
    refine pn_seq ?_
    exact pw_retN (T := tab) rfl rfl rfl ⟨rfl, rfl⟩ trivial rfl
  · refine pw_skip ?_
    refine pn_seq ?_
    refine pw_seq ?_
    refine pw_seq ?_
    refine pw_region ?_
    refine po_evs (T := tab) 1 rfl rfl ?_
    refine po_call (enc := fun (r6 : Bool) => .v (.bool r6)) (qs := [.agg (cForest f1)]) (Instarref03_Short_ok fu f1) rfl rfl ⟨⟨_, rfl, .rfl⟩, trivial⟩ (fun _ => rfl) call15 rfl rfl fun r6 hr6 => ?_
    refine po_evs (T := tab) 2 rfl rfl ?_
    refine po_split (j := 18) rfl ?_ ?_
    · refine po_evs (T := tab) 4 rfl rfl ?_
      refine po_nil ?_
      refine pn_seq (pw_then rfl ?_)
      refine pw_seq ?_
      refine pw_region ?_
      refine po_evs (T := tab) 1 rfl rfl ?_
      refine po_nil ?_
      refine pn_seq ?_
      exact pw_retN (T := tab) rfl rfl rfl ⟨rfl, rfl⟩ trivial rfl
    · refine po_evs (T := tab) 1 rfl rfl ?_
      refine po_call (enc := fun (r7 : Bool) => .v (.bool r7)) (qs := [.agg (cForest f1)]) (Forest_Right_ok fu f1) rfl rfl ⟨⟨_, rfl, .rfl⟩, trivial⟩ (fun _ => rfl) call19 rfl rfl fun r7 hr7 => ?_
      refine po_evs (T := tab) 2 rfl rfl ?_
      refine po_nil ?_
      refine pn_seq ?_
      refine pw_cnd rfl ?_ ?_
      · refine pw_seq ?_
        refine pw_region ?_
        refine po_evs (T := tab) 1 rfl rfl ?_
        refine po_nil ?_
        refine pn_seq ?_
        exact pw_retN (T := tab) rfl rfl rfl ⟨rfl, rfl⟩ trivial rfl
      · refine pw_skip ?_
        refine pn_seq ?_
        refine pw_seq ?_
        refine pw_draw mixed (by kernel_rfl) ?_
        refine pd_evs (T := tab) 1 rfl rfl ?_
        refine pd_arith (T := tab) rfl rfl rfl rfl fun i8 hi8 => ?_
        refine pd_evs (T := tab) 2 rfl rfl ?_
        refine pd_len (T := tab) cNode f1.Nodes rfl rfl rfl rfl rfl rfl rfl rfl ?_
        refine pd_rem rfl rfl rfl rfl rfl rfl fun m9 hm9 => ?_
        refine pd_evs (T := tab) 1 rfl rfl ?_
        refine pd_arith (T := tab) rfl rfl rfl rfl fun i10 hi10 => ?_
        refine pd_evs (T := tab) 2 rfl rfl ?_
        refine pd_len (T := tab) cNode f1.Nodes rfl rfl rfl rfl rfl rfl rfl rfl ?_
        refine pd_rem rfl rfl rfl rfl rfl rfl fun m11 hm11 => ?_
        refine pd_evs (T := tab) 1 rfl rfl ?_
        refine pd_arith (T := tab) rfl rfl rfl rfl fun i12 hi12 => ?_
        refine pd_evs (T := tab) 2 rfl rfl ?_
        refine pd_len (T := tab) cNode f1.Nodes rfl rfl rfl rfl rfl rfl rfl rfl ?_
        refine pd_rem rfl rfl rfl rfl rfl rfl fun m13 hm13 => ?_
        refine pd_evs (T := tab) 3 rfl rfl ?_
        refine pd_nil ?_
        refine pn_seq ?_
        refine pw_seq ?_
        refine pw_seq ?_
        refine pw_region ?_
        refine po_joinB (Instarlaw04_ShadeOver_j1 fu f1 m9) (fun (_ : Unit) => [(4, .loc 4 0), (9, .v (.int .i64 m9))]) (fun (_ : Unit) => [(4, .box [.sl 10 false (f1.Nodes.map cNode), .v (.int .i64 f1.Most)])]) ?_ fun hj1 => ?_
        · rintro _
          refine pn_seq ?_
          refine pw_seq ?_
          refine pw_region ?_
          refine po_evs (T := tab) 3 rfl rfl ?_
          refine po_idx (T := tab) cNode f1.Nodes rfl rfl rfl rfl rfl rfl rfl fun y42 hy42 => ?_
          refine po_evs (T := tab) 1 rfl rfl ?_
          refine po_alloc (T := tab) 12 rfl rfl rfl rfl rfl rfl rfl rfl rfl ?_
          refine po_store (T := tab) rfl rfl rfl rfl rfl rfl rfl rfl rfl rfl rfl rfl ?_
          refine po_nil ?_
          refine pn_seq ?_
          refine pw_seq ?_
          refine pw_block ?_
          refine pw_seq ?_
          refine pw_region ?_
          refine po_evs (T := tab) 4 rfl rfl ?_
          refine po_nil ?_
          refine pn_seq ?_
          refine pw_cnd rfl ?_ ?_
          · refine pw_seq ?_
            refine pw_region ?_
            refine po_evs (T := tab) 2 rfl rfl ?_
            refine po_call (enc := fun (r43 : Bool) => .v (.bool r43)) (qs := [.agg (cForest f1), .v (.int .i64 m9)]) (Shade_Connected_ok fu f1 m9) rfl rfl ⟨⟨_, rfl, .rfl⟩, ⟨_, rfl, .rfl⟩, trivial⟩ (fun _ => rfl) call40 rfl rfl fun r43 hr43 => ?_
            refine po_evs (T := tab) 1 rfl rfl ?_
            refine po_split (j := 107) rfl ?_ ?_
            · refine po_evs (T := tab) 2 rfl rfl ?_
              refine po_call (enc := fun (r44 : Int) => .v (.int .i64 r44)) (qs := [.agg (cForest f1), .v (.int .i64 m9)]) (Shade_Top_ok fu f1 m9) rfl rfl ⟨⟨_, rfl, .rfl⟩, ⟨_, rfl, .rfl⟩, trivial⟩ (fun _ => rfl) call39 rfl rfl fun r44 hr44 => ?_
              refine po_evs (T := tab) 4 rfl rfl ?_
              refine po_nil ?_
              refine pn_seq ?_
              exact pw_retN (T := tab) rfl rfl rfl ⟨rfl, rfl⟩ trivial rfl
            · refine po_evs (T := tab) 7 rfl rfl ?_
              refine po_nil ?_
              refine pn_seq ?_
              exact pw_retN (T := tab) rfl rfl rfl ⟨rfl, rfl⟩ trivial rfl
          · refine pw_seq ?_
            refine pw_region ?_
            refine po_evs (T := tab) 4 rfl rfl ?_
            refine po_nil ?_
            refine pn_seq ?_
            refine pw_cnd rfl ?_ ?_
            · refine pw_seq ?_
              refine pw_draw mixed (by kernel_rfl) ?_
              refine pd_evs (T := tab) 2 rfl rfl ?_
              refine pd_call (enc := fun (r45 : Bool) => .v (.bool r45)) (qs := [.agg (cForest f1), .v (.int .i64 m9)]) (Shade_Connected_ok fu f1 m9) rfl rfl ⟨⟨_, rfl, .rfl⟩, ⟨_, rfl, .rfl⟩, trivial⟩ (fun _ => rfl) call40 rfl rfl fun r45 hr45 => ?_
              refine pd_evs (T := tab) 3 rfl rfl ?_
              refine pd_call (enc := fun (r46 : Bool) => .v (.bool r46)) (qs := [.agg (cForest f1), .v (.int .i64 y42.Parent)]) (Shade_Connected_ok fu f1 y42.Parent) rfl rfl ⟨⟨_, rfl, .rfl⟩, ⟨_, rfl, .rfl⟩, trivial⟩ (fun _ => rfl) call40 rfl rfl fun r46 hr46 => ?_
              refine pd_evs (T := tab) 2 rfl rfl ?_
              refine pd_split (j := 126) rfl ?_ ?_
              · refine pd_evs (T := tab) 2 rfl rfl ?_
                refine pd_call (enc := fun (r47 : Int) => .v (.int .i64 r47)) (qs := [.agg (cForest f1), .v (.int .i64 m9)]) (Shade_Top_ok fu f1 m9) rfl rfl ⟨⟨_, rfl, .rfl⟩, ⟨_, rfl, .rfl⟩, trivial⟩ (fun _ => rfl) call39 rfl rfl fun r47 hr47 => ?_
                refine pd_evs (T := tab) 3 rfl rfl ?_
                refine pd_call (enc := fun (r48 : Int) => .v (.int .i64 r48)) (qs := [.agg (cForest f1), .v (.int .i64 y42.Parent)]) (Shade_Top_ok fu f1 y42.Parent) rfl rfl ⟨⟨_, rfl, .rfl⟩, ⟨_, rfl, .rfl⟩, trivial⟩ (fun _ => rfl) call39 rfl rfl fun r48 hr48 => ?_
                refine pd_evs (T := tab) 3 rfl rfl ?_
                refine pd_nil ?_
                refine pn_seq ?_
                exact pw_retN (T := tab) rfl rfl rfl ⟨rfl, rfl⟩ trivial rfl
              · refine pd_evs (T := tab) 10 rfl rfl ?_
                refine pd_nil ?_
                refine pn_seq ?_
                exact pw_retN (T := tab) rfl rfl rfl ⟨rfl, rfl⟩ trivial rfl
            · refine pw_seq ?_
              refine pw_region ?_
              refine po_evs (T := tab) 4 rfl rfl ?_
              refine po_nil ?_
              refine pn_seq ?_
              refine pw_cnd rfl ?_ ?_
              · refine pw_seq ?_
                refine pw_draw mixed (by kernel_rfl) ?_
                refine pd_evs (T := tab) 2 rfl rfl ?_
                refine pd_call (enc := fun (r49 : Bool) => .v (.bool r49)) (qs := [.agg (cForest f1), .v (.int .i64 m9)]) (Shade_Connected_ok fu f1 m9) rfl rfl ⟨⟨_, rfl, .rfl⟩, ⟨_, rfl, .rfl⟩, trivial⟩ (fun _ => rfl) call40 rfl rfl fun r49 hr49 => ?_
                refine pd_evs (T := tab) 3 rfl rfl ?_
                refine pd_call (enc := fun (r50 : Bool) => .v (.bool r50)) (qs := [.agg (cForest f1), .v (.int .i64 y42.Host)]) (Shade_Connected_ok fu f1 y42.Host) rfl rfl ⟨⟨_, rfl, .rfl⟩, ⟨_, rfl, .rfl⟩, trivial⟩ (fun _ => rfl) call40 rfl rfl fun r50 hr50 => ?_
                refine pd_evs (T := tab) 2 rfl rfl ?_
                refine pd_split (j := 148) rfl ?_ ?_
                · refine pd_evs (T := tab) 2 rfl rfl ?_
                  refine pd_call (enc := fun (r51 : Int) => .v (.int .i64 r51)) (qs := [.agg (cForest f1), .v (.int .i64 m9)]) (Shade_Top_ok fu f1 m9) rfl rfl ⟨⟨_, rfl, .rfl⟩, ⟨_, rfl, .rfl⟩, trivial⟩ (fun _ => rfl) call39 rfl rfl fun r51 hr51 => ?_
                  refine pd_evs (T := tab) 3 rfl rfl ?_
                  refine pd_call (enc := fun (r52 : Int) => .v (.int .i64 r52)) (qs := [.agg (cForest f1), .v (.int .i64 y42.Host)]) (Shade_Top_ok fu f1 y42.Host) rfl rfl ⟨⟨_, rfl, .rfl⟩, ⟨_, rfl, .rfl⟩, trivial⟩ (fun _ => rfl) call39 rfl rfl fun r52 hr52 => ?_
                  refine pd_evs (T := tab) 3 rfl rfl ?_
                  refine pd_nil ?_
                  refine pn_seq ?_
                  exact pw_retN (T := tab) rfl rfl rfl ⟨rfl, rfl⟩ trivial rfl
                · refine pd_evs (T := tab) 10 rfl rfl ?_
                  refine pd_nil ?_
                  refine pn_seq ?_
                  exact pw_retN (T := tab) rfl rfl rfl ⟨rfl, rfl⟩ trivial rfl
              · refine pw_skip ?_
                refine pn_block ?_
                refine pn_seq ?_
                refine pw_seq ?_
                refine pw_region ?_
                refine po_evs (T := tab) 2 rfl rfl ?_
                refine po_call (enc := fun (r53 : Bool) => .v (.bool r53)) (qs := [.agg (cForest f1), .v (.int .i64 m9)]) (Shade_Connected_ok fu f1 m9) rfl rfl ⟨⟨_, rfl, .rfl⟩, ⟨_, rfl, .rfl⟩, trivial⟩ (fun _ => rfl) call40 rfl rfl fun r53 hr53 => ?_
                refine po_evs (T := tab) 2 rfl rfl ?_
                refine po_split (j := 162) rfl ?_ ?_
                · refine po_evs (T := tab) 2 rfl rfl ?_
                  refine po_call (enc := fun (r54 : Int) => .v (.int .i64 r54)) (qs := [.agg (cForest f1), .v (.int .i64 m9)]) (Shade_Top_ok fu f1 m9) rfl rfl ⟨⟨_, rfl, .rfl⟩, ⟨_, rfl, .rfl⟩, trivial⟩ (fun _ => rfl) call39 rfl rfl fun r54 hr54 => ?_
                  refine po_evs (T := tab) 4 rfl rfl ?_
                  refine po_nil ?_
                  refine pn_seq ?_
                  exact pw_retN (T := tab) rfl rfl rfl ⟨rfl, rfl⟩ trivial rfl
                · refine po_evs (T := tab) 7 rfl rfl ?_
                  refine po_nil ?_
                  refine pn_seq ?_
                  exact pw_retN (T := tab) rfl rfl rfl ⟨rfl, rfl⟩ trivial rfl
        · refine po_evs (T := tab) 3 rfl rfl ?_
          refine po_call (enc := fun (r14 : Bool) => .v (.bool r14)) (qs := [.agg (cForest f1), .v (.int .i64 m9), .v (.int .i64 m9)]) (Shade_Over_ok fu f1 m9 m9) rfl rfl ⟨⟨_, rfl, .rfl⟩, ⟨_, rfl, .rfl⟩, ⟨_, rfl, .rfl⟩, trivial⟩ (fun _ => rfl) call43 rfl rfl fun r14 hr14 => ?_
          refine po_evs (T := tab) 2 rfl rfl ?_
          refine po_split (j := 46) rfl ?_ ?_
          · refine po_evs (T := tab) 48 rfl rfl ?_
            refine po_nil ?_
            refine pn_seq (pw_then rfl ?_)
            refine pw_seq ?_
            refine pw_region ?_
            refine po_evs (T := tab) 1 rfl rfl ?_
            refine po_nil ?_
            refine pn_seq ?_
            exact pw_retN (T := tab) rfl rfl rfl ⟨rfl, rfl⟩ trivial rfl
          · refine po_evs (T := tab) 3 rfl rfl ?_
            refine po_call (enc := fun (r15 : Bool) => .v (.bool r15)) (qs := [.agg (cForest f1), .v (.int .i64 m9), .v (.int .i64 m11)]) (Shade_Over_ok fu f1 m9 m11) rfl rfl ⟨⟨_, rfl, .rfl⟩, ⟨_, rfl, .rfl⟩, ⟨_, rfl, .rfl⟩, trivial⟩ (fun _ => rfl) call43 rfl rfl fun r15 hr15 => ?_
            refine po_evs (T := tab) 1 rfl rfl ?_
            refine po_split (j := 51) rfl ?_ ?_
            · refine po_evs (T := tab) 3 rfl rfl ?_
              refine po_call (enc := fun (r16 : Bool) => .v (.bool r16)) (qs := [.agg (cForest f1), .v (.int .i64 m11), .v (.int .i64 m13)]) (Shade_Over_ok fu f1 m11 m13) rfl rfl ⟨⟨_, rfl, .rfl⟩, ⟨_, rfl, .rfl⟩, ⟨_, rfl, .rfl⟩, trivial⟩ (fun _ => rfl) call43 rfl rfl fun r16 hr16 => ?_
              refine po_evs (T := tab) 2 rfl rfl ?_
              refine po_split (j := 57) rfl ?_ ?_
              · refine po_evs (T := tab) 3 rfl rfl ?_
                refine po_call (enc := fun (r17 : Bool) => .v (.bool r17)) (qs := [.agg (cForest f1), .v (.int .i64 m9), .v (.int .i64 m13)]) (Shade_Over_ok fu f1 m9 m13) rfl rfl ⟨⟨_, rfl, .rfl⟩, ⟨_, rfl, .rfl⟩, ⟨_, rfl, .rfl⟩, trivial⟩ (fun _ => rfl) call43 rfl rfl fun r17 hr17 => ?_
                refine po_evs (T := tab) 4 rfl rfl ?_
                refine po_split (j := 65) rfl ?_ ?_
                · refine po_evs (T := tab) 29 rfl rfl ?_
                  refine po_nil ?_
                  refine pn_seq (pw_then rfl ?_)
                  refine pw_seq ?_
                  refine pw_region ?_
                  refine po_evs (T := tab) 1 rfl rfl ?_
                  refine po_nil ?_
                  refine pn_seq ?_
                  exact pw_retN (T := tab) rfl rfl rfl ⟨rfl, rfl⟩ trivial rfl
                · refine po_evs (T := tab) 4 rfl rfl ?_
                  refine po_split (j := 69) rfl ?_ ?_
                  · refine po_evs (T := tab) 3 rfl rfl ?_
                    refine po_call (enc := fun (r18 : Bool) => .v (.bool r18)) (qs := [.agg (cForest f1), .v (.int .i64 m9), .v (.int .i64 m11)]) (Shade_Over_ok fu f1 m9 m11) rfl rfl ⟨⟨_, rfl, .rfl⟩, ⟨_, rfl, .rfl⟩, ⟨_, rfl, .rfl⟩, trivial⟩ (fun _ => rfl) call43 rfl rfl fun r18 hr18 => ?_
                    refine po_evs (T := tab) 2 rfl rfl ?_
                    refine po_split (j := 75) rfl ?_ ?_
                    · refine po_evs (T := tab) 3 rfl rfl ?_
                      refine po_call (enc := fun (r19 : Bool) => .v (.bool r19)) (qs := [.agg (cForest f1), .v (.int .i64 m11), .v (.int .i64 m9)]) (Shade_Over_ok fu f1 m11 m9) rfl rfl ⟨⟨_, rfl, .rfl⟩, ⟨_, rfl, .rfl⟩, ⟨_, rfl, .rfl⟩, trivial⟩ (fun _ => rfl) call43 rfl rfl fun r19 hr19 => ?_
                      refine po_evs (T := tab) 3 rfl rfl ?_
                      refine po_split (j := 82) rfl ?_ ?_
                      · refine po_evs (T := tab) 12 rfl rfl ?_
                        refine po_nil ?_
                        refine pn_seq (pw_then rfl ?_)
                        refine pw_seq ?_
                        refine pw_region ?_
                        refine po_evs (T := tab) 1 rfl rfl ?_
                        refine po_nil ?_
                        refine pn_seq ?_
                        exact pw_retN (T := tab) rfl rfl rfl ⟨rfl, rfl⟩ trivial rfl
                      · refine po_evs (T := tab) 3 rfl rfl ?_
                        refine po_call (enc := fun (r20 : Bool) => .v (.bool r20)) (qs := [.agg (cForest f1), .v (.int .i64 m9), .v (.int .i64 m11)]) (Forest_Holds_ok fu f1 m9 m11) rfl rfl ⟨⟨_, rfl, .rfl⟩, ⟨_, rfl, .rfl⟩, ⟨_, rfl, .rfl⟩, trivial⟩ (fun _ => rfl) call24 rfl rfl fun r20 hr20 => ?_
                        refine po_evs (T := tab) 1 rfl rfl ?_
                        refine po_split (j := 87) rfl ?_ ?_
                        · refine po_evs (T := tab) 3 rfl rfl ?_
                          refine po_call (enc := fun (r21 : Bool) => .v (.bool r21)) (qs := [.agg (cForest f1), .v (.int .i64 m9), .v (.int .i64 m11)]) (Shade_Over_ok fu f1 m9 m11) rfl rfl ⟨⟨_, rfl, .rfl⟩, ⟨_, rfl, .rfl⟩, ⟨_, rfl, .rfl⟩, trivial⟩ (fun _ => rfl) call43 rfl rfl fun r21 hr21 => ?_
                          refine po_evs (T := tab) 3 rfl rfl ?_
                          refine po_nil ?_
                          refine pn_seq ?_
                          refine pw_cnd rfl ?_ ?_
                          · refine pw_seq ?_
                            refine pw_region ?_
                            refine po_evs (T := tab) 1 rfl rfl ?_
                            refine po_nil ?_
                            refine pn_seq ?_
                            exact pw_retN (T := tab) rfl rfl rfl ⟨rfl, rfl⟩ trivial rfl
                          · refine pw_skip ?_
                            exact pn_sub' (hj1 ()) ⟨rfl, rfl, trivial⟩ ⟨rfl, trivial⟩ rfl
                        · refine po_evs (T := tab) 7 rfl rfl ?_
                          refine po_nil ?_
                          refine pn_seq (pw_else rfl ?_)
                          refine pw_skip ?_
                          exact pn_sub' (hj1 ()) ⟨rfl, rfl, trivial⟩ ⟨rfl, trivial⟩ rfl
                    · refine po_evs (T := tab) 10 rfl rfl ?_
                      refine po_call (enc := fun (r22 : Bool) => .v (.bool r22)) (qs := [.agg (cForest f1), .v (.int .i64 m9), .v (.int .i64 m11)]) (Forest_Holds_ok fu f1 m9 m11) rfl rfl ⟨⟨_, rfl, .rfl⟩, ⟨_, rfl, .rfl⟩, ⟨_, rfl, .rfl⟩, trivial⟩ (fun _ => rfl) call24 rfl rfl fun r22 hr22 => ?_
                      refine po_evs (T := tab) 1 rfl rfl ?_
                      refine po_split (j := 87) rfl ?_ ?_
                      · refine po_evs (T := tab) 3 rfl rfl ?_
                        refine po_call (enc := fun (r23 : Bool) => .v (.bool r23)) (qs := [.agg (cForest f1), .v (.int .i64 m9), .v (.int .i64 m11)]) (Shade_Over_ok fu f1 m9 m11) rfl rfl ⟨⟨_, rfl, .rfl⟩, ⟨_, rfl, .rfl⟩, ⟨_, rfl, .rfl⟩, trivial⟩ (fun _ => rfl) call43 rfl rfl fun r23 hr23 => ?_
                        refine po_evs (T := tab) 3 rfl rfl ?_
                        refine po_nil ?_
                        refine pn_seq ?_
                        refine pw_cnd rfl ?_ ?_
                        · refine pw_seq ?_
                          refine pw_region ?_
                          refine po_evs (T := tab) 1 rfl rfl ?_
                          refine po_nil ?_
                          refine pn_seq ?_
                          exact pw_retN (T := tab) rfl rfl rfl ⟨rfl, rfl⟩ trivial rfl
                        · refine pw_skip ?_
                          exact pn_sub' (hj1 ()) ⟨rfl, rfl, trivial⟩ ⟨rfl, trivial⟩ rfl
                      · refine po_evs (T := tab) 7 rfl rfl ?_
                        refine po_nil ?_
                        refine pn_seq (pw_else rfl ?_)
                        refine pw_skip ?_
                        exact pn_sub' (hj1 ()) ⟨rfl, rfl, trivial⟩ ⟨rfl, trivial⟩ rfl
                  · refine po_evs (T := tab) 16 rfl rfl ?_
                    refine po_call (enc := fun (r24 : Bool) => .v (.bool r24)) (qs := [.agg (cForest f1), .v (.int .i64 m9), .v (.int .i64 m11)]) (Forest_Holds_ok fu f1 m9 m11) rfl rfl ⟨⟨_, rfl, .rfl⟩, ⟨_, rfl, .rfl⟩, ⟨_, rfl, .rfl⟩, trivial⟩ (fun _ => rfl) call24 rfl rfl fun r24 hr24 => ?_
                    refine po_evs (T := tab) 1 rfl rfl ?_
                    refine po_split (j := 87) rfl ?_ ?_
                    · refine po_evs (T := tab) 3 rfl rfl ?_
                      refine po_call (enc := fun (r25 : Bool) => .v (.bool r25)) (qs := [.agg (cForest f1), .v (.int .i64 m9), .v (.int .i64 m11)]) (Shade_Over_ok fu f1 m9 m11) rfl rfl ⟨⟨_, rfl, .rfl⟩, ⟨_, rfl, .rfl⟩, ⟨_, rfl, .rfl⟩, trivial⟩ (fun _ => rfl) call43 rfl rfl fun r25 hr25 => ?_
                      refine po_evs (T := tab) 3 rfl rfl ?_
                      refine po_nil ?_
                      refine pn_seq ?_
                      refine pw_cnd rfl ?_ ?_
                      · refine pw_seq ?_
                        refine pw_region ?_
                        refine po_evs (T := tab) 1 rfl rfl ?_
                        refine po_nil ?_
                        refine pn_seq ?_
                        exact pw_retN (T := tab) rfl rfl rfl ⟨rfl, rfl⟩ trivial rfl
                      · refine pw_skip ?_
                        exact pn_sub' (hj1 ()) ⟨rfl, rfl, trivial⟩ ⟨rfl, trivial⟩ rfl
                    · refine po_evs (T := tab) 7 rfl rfl ?_
                      refine po_nil ?_
                      refine pn_seq (pw_else rfl ?_)
                      refine pw_skip ?_
                      exact pn_sub' (hj1 ()) ⟨rfl, rfl, trivial⟩ ⟨rfl, trivial⟩ rfl
              · refine po_evs (T := tab) 12 rfl rfl ?_
                refine po_split (j := 69) rfl ?_ ?_
                · refine po_evs (T := tab) 3 rfl rfl ?_
                  refine po_call (enc := fun (r26 : Bool) => .v (.bool r26)) (qs := [.agg (cForest f1), .v (.int .i64 m9), .v (.int .i64 m11)]) (Shade_Over_ok fu f1 m9 m11) rfl rfl ⟨⟨_, rfl, .rfl⟩, ⟨_, rfl, .rfl⟩, ⟨_, rfl, .rfl⟩, trivial⟩ (fun _ => rfl) call43 rfl rfl fun r26 hr26 => ?_
                  refine po_evs (T := tab) 2 rfl rfl ?_
                  refine po_split (j := 75) rfl ?_ ?_
                  · refine po_evs (T := tab) 3 rfl rfl ?_
                    refine po_call (enc := fun (r27 : Bool) => .v (.bool r27)) (qs := [.agg (cForest f1), .v (.int .i64 m11), .v (.int .i64 m9)]) (Shade_Over_ok fu f1 m11 m9) rfl rfl ⟨⟨_, rfl, .rfl⟩, ⟨_, rfl, .rfl⟩, ⟨_, rfl, .rfl⟩, trivial⟩ (fun _ => rfl) call43 rfl rfl fun r27 hr27 => ?_
                    refine po_evs (T := tab) 3 rfl rfl ?_
                    refine po_split (j := 82) rfl ?_ ?_
                    · refine po_evs (T := tab) 12 rfl rfl ?_
                      refine po_nil ?_
                      refine pn_seq (pw_then rfl ?_)
                      refine pw_seq ?_
                      refine pw_region ?_
                      refine po_evs (T := tab) 1 rfl rfl ?_
                      refine po_nil ?_
                      refine pn_seq ?_
                      exact pw_retN (T := tab) rfl rfl rfl ⟨rfl, rfl⟩ trivial rfl
                    · refine po_evs (T := tab) 3 rfl rfl ?_
                      refine po_call (enc := fun (r28 : Bool) => .v (.bool r28)) (qs := [.agg (cForest f1), .v (.int .i64 m9), .v (.int .i64 m11)]) (Forest_Holds_ok fu f1 m9 m11) rfl rfl ⟨⟨_, rfl, .rfl⟩, ⟨_, rfl, .rfl⟩, ⟨_, rfl, .rfl⟩, trivial⟩ (fun _ => rfl) call24 rfl rfl fun r28 hr28 => ?_
                      refine po_evs (T := tab) 1 rfl rfl ?_
                      refine po_split (j := 87) rfl ?_ ?_
                      · refine po_evs (T := tab) 3 rfl rfl ?_
                        refine po_call (enc := fun (r29 : Bool) => .v (.bool r29)) (qs := [.agg (cForest f1), .v (.int .i64 m9), .v (.int .i64 m11)]) (Shade_Over_ok fu f1 m9 m11) rfl rfl ⟨⟨_, rfl, .rfl⟩, ⟨_, rfl, .rfl⟩, ⟨_, rfl, .rfl⟩, trivial⟩ (fun _ => rfl) call43 rfl rfl fun r29 hr29 => ?_
                        refine po_evs (T := tab) 3 rfl rfl ?_
                        refine po_nil ?_
                        refine pn_seq ?_
                        refine pw_cnd rfl ?_ ?_
                        · refine pw_seq ?_
                          refine pw_region ?_
                          refine po_evs (T := tab) 1 rfl rfl ?_
                          refine po_nil ?_
                          refine pn_seq ?_
                          exact pw_retN (T := tab) rfl rfl rfl ⟨rfl, rfl⟩ trivial rfl
                        · refine pw_skip ?_
                          exact pn_sub' (hj1 ()) ⟨rfl, rfl, trivial⟩ ⟨rfl, trivial⟩ rfl
                      · refine po_evs (T := tab) 7 rfl rfl ?_
                        refine po_nil ?_
                        refine pn_seq (pw_else rfl ?_)
                        refine pw_skip ?_
                        exact pn_sub' (hj1 ()) ⟨rfl, rfl, trivial⟩ ⟨rfl, trivial⟩ rfl
                  · refine po_evs (T := tab) 10 rfl rfl ?_
                    refine po_call (enc := fun (r30 : Bool) => .v (.bool r30)) (qs := [.agg (cForest f1), .v (.int .i64 m9), .v (.int .i64 m11)]) (Forest_Holds_ok fu f1 m9 m11) rfl rfl ⟨⟨_, rfl, .rfl⟩, ⟨_, rfl, .rfl⟩, ⟨_, rfl, .rfl⟩, trivial⟩ (fun _ => rfl) call24 rfl rfl fun r30 hr30 => ?_
                    refine po_evs (T := tab) 1 rfl rfl ?_
                    refine po_split (j := 87) rfl ?_ ?_
                    · refine po_evs (T := tab) 3 rfl rfl ?_
                      refine po_call (enc := fun (r31 : Bool) => .v (.bool r31)) (qs := [.agg (cForest f1), .v (.int .i64 m9), .v (.int .i64 m11)]) (Shade_Over_ok fu f1 m9 m11) rfl rfl ⟨⟨_, rfl, .rfl⟩, ⟨_, rfl, .rfl⟩, ⟨_, rfl, .rfl⟩, trivial⟩ (fun _ => rfl) call43 rfl rfl fun r31 hr31 => ?_
                      refine po_evs (T := tab) 3 rfl rfl ?_
                      refine po_nil ?_
                      refine pn_seq ?_
                      refine pw_cnd rfl ?_ ?_
                      · refine pw_seq ?_
                        refine pw_region ?_
                        refine po_evs (T := tab) 1 rfl rfl ?_
                        refine po_nil ?_
                        refine pn_seq ?_
                        exact pw_retN (T := tab) rfl rfl rfl ⟨rfl, rfl⟩ trivial rfl
                      · refine pw_skip ?_
                        exact pn_sub' (hj1 ()) ⟨rfl, rfl, trivial⟩ ⟨rfl, trivial⟩ rfl
                    · refine po_evs (T := tab) 7 rfl rfl ?_
                      refine po_nil ?_
                      refine pn_seq (pw_else rfl ?_)
                      refine pw_skip ?_
                      exact pn_sub' (hj1 ()) ⟨rfl, rfl, trivial⟩ ⟨rfl, trivial⟩ rfl
                · refine po_evs (T := tab) 16 rfl rfl ?_
                  refine po_call (enc := fun (r32 : Bool) => .v (.bool r32)) (qs := [.agg (cForest f1), .v (.int .i64 m9), .v (.int .i64 m11)]) (Forest_Holds_ok fu f1 m9 m11) rfl rfl ⟨⟨_, rfl, .rfl⟩, ⟨_, rfl, .rfl⟩, ⟨_, rfl, .rfl⟩, trivial⟩ (fun _ => rfl) call24 rfl rfl fun r32 hr32 => ?_
                  refine po_evs (T := tab) 1 rfl rfl ?_
                  refine po_split (j := 87) rfl ?_ ?_
                  · refine po_evs (T := tab) 3 rfl rfl ?_
                    refine po_call (enc := fun (r33 : Bool) => .v (.bool r33)) (qs := [.agg (cForest f1), .v (.int .i64 m9), .v (.int .i64 m11)]) (Shade_Over_ok fu f1 m9 m11) rfl rfl ⟨⟨_, rfl, .rfl⟩, ⟨_, rfl, .rfl⟩, ⟨_, rfl, .rfl⟩, trivial⟩ (fun _ => rfl) call43 rfl rfl fun r33 hr33 => ?_
                    refine po_evs (T := tab) 3 rfl rfl ?_
                    refine po_nil ?_
                    refine pn_seq ?_
                    refine pw_cnd rfl ?_ ?_
                    · refine pw_seq ?_
                      refine pw_region ?_
                      refine po_evs (T := tab) 1 rfl rfl ?_
                      refine po_nil ?_
                      refine pn_seq ?_
                      exact pw_retN (T := tab) rfl rfl rfl ⟨rfl, rfl⟩ trivial rfl
                    · refine pw_skip ?_
                      exact pn_sub' (hj1 ()) ⟨rfl, rfl, trivial⟩ ⟨rfl, trivial⟩ rfl
                  · refine po_evs (T := tab) 7 rfl rfl ?_
                    refine po_nil ?_
                    refine pn_seq (pw_else rfl ?_)
                    refine pw_skip ?_
                    exact pn_sub' (hj1 ()) ⟨rfl, rfl, trivial⟩ ⟨rfl, trivial⟩ rfl
            · refine po_evs (T := tab) 18 rfl rfl ?_
              refine po_split (j := 69) rfl ?_ ?_
              · refine po_evs (T := tab) 3 rfl rfl ?_
                refine po_call (enc := fun (r34 : Bool) => .v (.bool r34)) (qs := [.agg (cForest f1), .v (.int .i64 m9), .v (.int .i64 m11)]) (Shade_Over_ok fu f1 m9 m11) rfl rfl ⟨⟨_, rfl, .rfl⟩, ⟨_, rfl, .rfl⟩, ⟨_, rfl, .rfl⟩, trivial⟩ (fun _ => rfl) call43 rfl rfl fun r34 hr34 => ?_
                refine po_evs (T := tab) 2 rfl rfl ?_
                refine po_split (j := 75) rfl ?_ ?_
                · refine po_evs (T := tab) 3 rfl rfl ?_
                  refine po_call (enc := fun (r35 : Bool) => .v (.bool r35)) (qs := [.agg (cForest f1), .v (.int .i64 m11), .v (.int .i64 m9)]) (Shade_Over_ok fu f1 m11 m9) rfl rfl ⟨⟨_, rfl, .rfl⟩, ⟨_, rfl, .rfl⟩, ⟨_, rfl, .rfl⟩, trivial⟩ (fun _ => rfl) call43 rfl rfl fun r35 hr35 => ?_
                  refine po_evs (T := tab) 3 rfl rfl ?_
                  refine po_split (j := 82) rfl ?_ ?_
                  · refine po_evs (T := tab) 12 rfl rfl ?_
                    refine po_nil ?_
                    refine pn_seq (pw_then rfl ?_)
                    refine pw_seq ?_
                    refine pw_region ?_
                    refine po_evs (T := tab) 1 rfl rfl ?_
                    refine po_nil ?_
                    refine pn_seq ?_
                    exact pw_retN (T := tab) rfl rfl rfl ⟨rfl, rfl⟩ trivial rfl
                  · refine po_evs (T := tab) 3 rfl rfl ?_
                    refine po_call (enc := fun (r36 : Bool) => .v (.bool r36)) (qs := [.agg (cForest f1), .v (.int .i64 m9), .v (.int .i64 m11)]) (Forest_Holds_ok fu f1 m9 m11) rfl rfl ⟨⟨_, rfl, .rfl⟩, ⟨_, rfl, .rfl⟩, ⟨_, rfl, .rfl⟩, trivial⟩ (fun _ => rfl) call24 rfl rfl fun r36 hr36 => ?_
                    refine po_evs (T := tab) 1 rfl rfl ?_
                    refine po_split (j := 87) rfl ?_ ?_
                    · refine po_evs (T := tab) 3 rfl rfl ?_
                      refine po_call (enc := fun (r37 : Bool) => .v (.bool r37)) (qs := [.agg (cForest f1), .v (.int .i64 m9), .v (.int .i64 m11)]) (Shade_Over_ok fu f1 m9 m11) rfl rfl ⟨⟨_, rfl, .rfl⟩, ⟨_, rfl, .rfl⟩, ⟨_, rfl, .rfl⟩, trivial⟩ (fun _ => rfl) call43 rfl rfl fun r37 hr37 => ?_
                      refine po_evs (T := tab) 3 rfl rfl ?_
                      refine po_nil ?_
                      refine pn_seq ?_
                      refine pw_cnd rfl ?_ ?_
                      · refine pw_seq ?_
                        refine pw_region ?_
                        refine po_evs (T := tab) 1 rfl rfl ?_
                        refine po_nil ?_
                        refine pn_seq ?_
                        exact pw_retN (T := tab) rfl rfl rfl ⟨rfl, rfl⟩ trivial rfl
                      · refine pw_skip ?_
                        exact pn_sub' (hj1 ()) ⟨rfl, rfl, trivial⟩ ⟨rfl, trivial⟩ rfl
                    · refine po_evs (T := tab) 7 rfl rfl ?_
                      refine po_nil ?_
                      refine pn_seq (pw_else rfl ?_)
                      refine pw_skip ?_
                      exact pn_sub' (hj1 ()) ⟨rfl, rfl, trivial⟩ ⟨rfl, trivial⟩ rfl
                · refine po_evs (T := tab) 10 rfl rfl ?_
                  refine po_call (enc := fun (r38 : Bool) => .v (.bool r38)) (qs := [.agg (cForest f1), .v (.int .i64 m9), .v (.int .i64 m11)]) (Forest_Holds_ok fu f1 m9 m11) rfl rfl ⟨⟨_, rfl, .rfl⟩, ⟨_, rfl, .rfl⟩, ⟨_, rfl, .rfl⟩, trivial⟩ (fun _ => rfl) call24 rfl rfl fun r38 hr38 => ?_
                  refine po_evs (T := tab) 1 rfl rfl ?_
                  refine po_split (j := 87) rfl ?_ ?_
                  · refine po_evs (T := tab) 3 rfl rfl ?_
                    refine po_call (enc := fun (r39 : Bool) => .v (.bool r39)) (qs := [.agg (cForest f1), .v (.int .i64 m9), .v (.int .i64 m11)]) (Shade_Over_ok fu f1 m9 m11) rfl rfl ⟨⟨_, rfl, .rfl⟩, ⟨_, rfl, .rfl⟩, ⟨_, rfl, .rfl⟩, trivial⟩ (fun _ => rfl) call43 rfl rfl fun r39 hr39 => ?_
                    refine po_evs (T := tab) 3 rfl rfl ?_
                    refine po_nil ?_
                    refine pn_seq ?_
                    refine pw_cnd rfl ?_ ?_
                    · refine pw_seq ?_
                      refine pw_region ?_
                      refine po_evs (T := tab) 1 rfl rfl ?_
                      refine po_nil ?_
                      refine pn_seq ?_
                      exact pw_retN (T := tab) rfl rfl rfl ⟨rfl, rfl⟩ trivial rfl
                    · refine pw_skip ?_
                      exact pn_sub' (hj1 ()) ⟨rfl, rfl, trivial⟩ ⟨rfl, trivial⟩ rfl
                  · refine po_evs (T := tab) 7 rfl rfl ?_
                    refine po_nil ?_
                    refine pn_seq (pw_else rfl ?_)
                    refine pw_skip ?_
                    exact pn_sub' (hj1 ()) ⟨rfl, rfl, trivial⟩ ⟨rfl, trivial⟩ rfl
              · refine po_evs (T := tab) 16 rfl rfl ?_
                refine po_call (enc := fun (r40 : Bool) => .v (.bool r40)) (qs := [.agg (cForest f1), .v (.int .i64 m9), .v (.int .i64 m11)]) (Forest_Holds_ok fu f1 m9 m11) rfl rfl ⟨⟨_, rfl, .rfl⟩, ⟨_, rfl, .rfl⟩, ⟨_, rfl, .rfl⟩, trivial⟩ (fun _ => rfl) call24 rfl rfl fun r40 hr40 => ?_
                refine po_evs (T := tab) 1 rfl rfl ?_
                refine po_split (j := 87) rfl ?_ ?_
                · refine po_evs (T := tab) 3 rfl rfl ?_
                  refine po_call (enc := fun (r41 : Bool) => .v (.bool r41)) (qs := [.agg (cForest f1), .v (.int .i64 m9), .v (.int .i64 m11)]) (Shade_Over_ok fu f1 m9 m11) rfl rfl ⟨⟨_, rfl, .rfl⟩, ⟨_, rfl, .rfl⟩, ⟨_, rfl, .rfl⟩, trivial⟩ (fun _ => rfl) call43 rfl rfl fun r41 hr41 => ?_
                  refine po_evs (T := tab) 3 rfl rfl ?_
                  refine po_nil ?_
                  refine pn_seq ?_
                  refine pw_cnd rfl ?_ ?_
                  · refine pw_seq ?_
                    refine pw_region ?_
                    refine po_evs (T := tab) 1 rfl rfl ?_
                    refine po_nil ?_
                    refine pn_seq ?_
                    exact pw_retN (T := tab) rfl rfl rfl ⟨rfl, rfl⟩ trivial rfl
                  · refine pw_skip ?_
                    exact pn_sub' (hj1 ()) ⟨rfl, rfl, trivial⟩ ⟨rfl, trivial⟩ rfl
                · refine po_evs (T := tab) 7 rfl rfl ?_
                  refine po_nil ?_
                  refine pn_seq (pw_else rfl ?_)
                  refine pw_skip ?_
                  exact pn_sub' (hj1 ()) ⟨rfl, rfl, trivial⟩ ⟨rfl, trivial⟩ rfl

def Instarlaw04_ShadeAttached_j1 (fu : Nat) (r11 : (Forest × Int × Int)) (r26 : (List Int)) (r27 : (List Int)) (more29 : Int) : Option Bool := bnd (rng .i64 (((r26.length : Nat) : Int) + more29)) fun i30 => cnd (((r27.length : Nat) : Int) == i30) (bnd (Instarref03_Has_m fu r27 r11.2.1) fun r31 => cnd (r31 == more29) (bnd (Forest_Root_m fu r11.1 r11.2.1) fun r32 => some (r32 == r11.2.1)) (some false)) (some false)

def Instarlaw04_ShadeAttached_l1 (fu : Nat) (f1 : Forest) (m8 : Int) (m10 : Int) (r11 : (Forest × Int × Int)) : Nat → Int → Option Bool
  | 0, _ => none
  | k1 + 1, i18 => cnd (decide (i18 < ((f1.Nodes.length : Nat) : Int))) (bnd (idx r11.1.Nodes i18) fun y19 => cnd (i18 == m8) (bnd (idx f1.Nodes i18) fun y20 => bnd (Instarref03_One_m fu (⟨y19.Kind, y19.Name, y19.Is, y19.Data, y19.Attrs, y19.Parent, y19.Kids, y19.Host, (-1), y19.Doc⟩ : Node) y20) fun r21 => cnd (!r21) (some false) (bnd (rng .i64 (i18 + 1)) fun i24 => (Instarlaw04_ShadeAttached_l1 fu f1 m8 m10 r11 k1) i24)) (bnd (idx f1.Nodes i18) fun y22 => bnd (Instarref03_One_m fu y19 y22) fun r23 => cnd (!r23) (some false) (bnd (rng .i64 (i18 + 1)) fun i25 => (Instarlaw04_ShadeAttached_l1 fu f1 m8 m10 r11 k1) i25))) (bnd (Shade_All_m fu f1 m10) fun r26 => bnd (Shade_All_m fu r11.1 m10) fun r27 => bnd (Shade_Over_m fu f1 m10 m8) fun r28 => cnd r28 ((Instarlaw04_ShadeAttached_j1 fu r11 r26 r27) 1) ((Instarlaw04_ShadeAttached_j1 fu r11 r26 r27) 0))

def Instarlaw04_ShadeAttached_m (fu : Nat) (f1 : Forest) (a2 : Int) (b3 : Int) : Option Bool := bnd (Instarlaw04_awake_m fu) fun r4 => cnd (!r4) (some false) (bnd (Instarref03_Short_m fu f1) fun r5 => cnd (!r5) (some true) (bnd (Forest_Right_m fu f1) fun r6 => cnd (!r6) (some true) (bnd (rng .i64 a2) fun i7 => bnd (remI i7 ((f1.Nodes.length : Nat) : Int)) fun m8 => bnd (rng .i64 b3) fun i9 => bnd (remI i9 ((f1.Nodes.length : Nat) : Int)) fun m10 => bnd (Shade_Attach_m fu f1 m8) fun r11 => cnd (r11.2.2 != 0) (cnd (r11.2.1 == (-1)) (bnd (Instarref03_Same_m fu f1 r11.1) fun r12 => some r12) (some false)) (bnd (Forest_Right_m fu r11.1) fun r13 => cnd (!r13) (some false) (cnd (r11.2.1 != ((f1.Nodes.length : Nat) : Int)) (some false) (bnd (rng .i64 (r11.2.1 + 1)) fun i14 => cnd (((r11.1.Nodes.length : Nat) : Int) != i14) (some false) (bnd (idx r11.1.Nodes m8) fun y15 => cnd (y15.Under != r11.2.1) (some false) (bnd (Shade_Connected_m fu r11.1 r11.2.1) fun r16 => bnd (Shade_Connected_m fu f1 m8) fun r17 => cnd (!(r16 == r17)) (some false) ((Instarlaw04_ShadeAttached_l1 fu f1 m8 m10 r11) fu 0)))))))))

set_option maxHeartbeats 10000000 in
set_option maxRecDepth 100000 in
theorem Instarlaw04_ShadeAttached_ok (fu : Nat) (f1 : Forest) (a2 : Int) (b3 : Int) : ∀ r, Instarlaw04_ShadeAttached_m fu f1 a2 b3 = some r → DC Try.prog 11 [.agg (cForest f1), .v (.int .u8 a2), .v (.int .u8 b3)] (.v (.bool r)) := by
  intro r hr
  refine fc_intro (args := [.agg (cForest f1), .v (.int .u8 a2), .v (.int .u8 b3)]) (S := []) (N0 := []) (post := fun r p S => p = .v (.bool r) ∧ S = []) Try.func11 rfl rfl hr fun w0 X X0 σ0 => ?_
  refine pw_seq ?_
  refine pw_region ?_
  refine po_box  3 rfl rfl rfl rfl rfl rfl rfl rfl rfl rfl ?_
  refine po_evs (T := tab) 1 rfl rfl ?_
  refine po_nil ?_
  refine pn_seq ?_
  refine pw_seq ?_
  refine pw_seq ?_
  refine pw_region ?_
  refine po_call (enc := fun (r4 : Bool) => .v (.bool r4)) (qs := []) (Instarlaw04_awake_ok fu) rfl rfl trivial (fun _ => rfl) call37 rfl rfl fun r4 hr4 => ?_
  refine po_evs (T := tab) 1 rfl rfl ?_
  refine po_nil ?_
  refine pn_seq ?_
  refine pw_cnd rfl ?_ ?_
  · refine pw_seq ?_
    refine pw_region ?_
    refine po_evs (T := tab) 1 rfl rfl ?_
    refine po_nil ?_
    refine pn_seq ?_
    exact pw_retN (T := tab) rfl rfl rfl ⟨rfl, rfl⟩ trivial rfl
  · refine pw_skip ?_
    refine pn_seq ?_
    refine pw_seq ?_
    refine pw_seq ?_
    refine pw_region ?_
    refine po_evs (T := tab) 1 rfl rfl ?_
    refine po_call (enc := fun (r5 : Bool) => .v (.bool r5)) (qs := [.agg (cForest f1)]) (Instarref03_Short_ok fu f1) rfl rfl ⟨⟨_, rfl, .rfl⟩, trivial⟩ (fun _ => rfl) call15 rfl rfl fun r5 hr5 => ?_
    refine po_evs (T := tab) 2 rfl rfl ?_
    refine po_split (j := 22) rfl ?_ ?_
    · refine po_evs (T := tab) 4 rfl rfl ?_
      refine po_nil ?_
      refine pn_seq (pw_then rfl ?_)
      refine pw_seq ?_
      refine pw_region ?_
      refine po_evs (T := tab) 1 rfl rfl ?_
      refine po_nil ?_
      refine pn_seq ?_
      exact pw_retN (T := tab) rfl rfl rfl ⟨rfl, rfl⟩ trivial rfl
    · refine po_evs (T := tab) 1 rfl rfl ?_
      refine po_call (enc := fun (r6 : Bool) => .v (.bool r6)) (qs := [.agg (cForest f1)]) (Forest_Right_ok fu f1) rfl rfl ⟨⟨_, rfl, .rfl⟩, trivial⟩ (fun _ => rfl) call19 rfl rfl fun r6 hr6 => ?_
      refine po_evs (T := tab) 2 rfl rfl ?_
      refine po_nil ?_
      refine pn_seq ?_
      refine pw_cnd rfl ?_ ?_
      · refine pw_seq ?_
        refine pw_region ?_
        refine po_evs (T := tab) 1 rfl rfl ?_
        refine po_nil ?_
        refine pn_seq ?_
        exact pw_retN (T := tab) rfl rfl rfl ⟨rfl, rfl⟩ trivial rfl
      · refine pw_skip ?_
        refine pn_seq ?_
        refine pw_seq ?_
        refine pw_draw mixed (by kernel_rfl) ?_
        refine pd_evs (T := tab) 1 rfl rfl ?_
        refine pd_arith (T := tab) rfl rfl rfl rfl fun i7 hi7 => ?_
        refine pd_evs (T := tab) 2 rfl rfl ?_
        refine pd_len (T := tab) cNode f1.Nodes rfl rfl rfl rfl rfl rfl rfl rfl ?_
        refine pd_rem rfl rfl rfl rfl rfl rfl fun m8 hm8 => ?_
        refine pd_evs (T := tab) 1 rfl rfl ?_
        refine pd_arith (T := tab) rfl rfl rfl rfl fun i9 hi9 => ?_
        refine pd_evs (T := tab) 2 rfl rfl ?_
        refine pd_len (T := tab) cNode f1.Nodes rfl rfl rfl rfl rfl rfl rfl rfl ?_
        refine pd_rem rfl rfl rfl rfl rfl rfl fun m10 hm10 => ?_
        refine pd_evs (T := tab) 2 rfl rfl ?_
        refine pd_nil ?_
        refine pn_seq ?_
        refine pw_seq ?_
        refine pw_region ?_
        refine po_evs (T := tab) 2 rfl rfl ?_
        refine po_call (enc := fun (r11 : (Forest × Int × Int)) => .tup [.agg (cForest r11.1), .v (.int .i64 r11.2.1), .v (.int .i64 r11.2.2)]) (qs := [.agg (cForest f1), .v (.int .i64 m8)]) (Shade_Attach_ok fu f1 m8) rfl rfl ⟨⟨_, rfl, .rfl⟩, ⟨_, rfl, .rfl⟩, trivial⟩ (fun _ => rfl) call38 rfl rfl fun r11 hr11 => ?_
        refine po_evs (T := tab) 4 rfl rfl ?_
        refine po_alloc (T := tab) 9 rfl rfl rfl rfl rfl rfl rfl rfl rfl ?_
        refine po_store (T := tab) rfl rfl rfl rfl rfl rfl rfl rfl rfl rfl rfl rfl ?_
        refine po_evs (T := tab) 2 rfl rfl ?_
        refine po_nil ?_
        refine pn_seq ?_
        refine pw_seq ?_
        refine pw_seq ?_
        refine pw_region ?_
        refine po_evs (T := tab) 2 rfl rfl ?_
        refine po_nil ?_
        refine pn_seq ?_
        refine pw_cnd rfl ?_ ?_
        · refine pw_seq ?_
          refine pw_region ?_
          refine po_evs (T := tab) 3 rfl rfl ?_
          refine po_split (j := 50) rfl ?_ ?_
          · refine po_evs (T := tab) 2 rfl rfl ?_
            refine po_call (enc := fun (r12 : Bool) => .v (.bool r12)) (qs := [.agg (cForest f1), .agg (cForest r11.1)]) (Instarref03_Same_ok fu f1 r11.1) rfl rfl ⟨⟨_, rfl, .rfl⟩, ⟨_, rfl, .rfl⟩, trivial⟩ (fun _ => rfl) call20 rfl rfl fun r12 hr12 => ?_
            refine po_evs (T := tab) 2 rfl rfl ?_
            refine po_nil ?_
            refine pn_seq ?_
            exact pw_retN (T := tab) rfl rfl rfl ⟨rfl, rfl⟩ trivial rfl
          · refine po_evs (T := tab) 5 rfl rfl ?_
            refine po_nil ?_
            refine pn_seq ?_
            exact pw_retN (T := tab) rfl rfl rfl ⟨rfl, rfl⟩ trivial rfl
        · refine pw_skip ?_
          refine pn_seq ?_
          refine pw_seq ?_
          refine pw_seq ?_
          refine pw_draw mixed (by kernel_rfl) ?_
          refine pd_evs (T := tab) 1 rfl rfl ?_
          refine pd_call (enc := fun (r13 : Bool) => .v (.bool r13)) (qs := [.agg (cForest r11.1)]) (Forest_Right_ok fu r11.1) rfl rfl ⟨⟨_, rfl, .rfl⟩, trivial⟩ (fun _ => rfl) call19 rfl rfl fun r13 hr13 => ?_
          refine pd_evs (T := tab) 2 rfl rfl ?_
          refine pd_split (j := 58) rfl ?_ ?_
          · refine pd_evs (T := tab) 33 rfl rfl ?_
            refine pd_nil ?_
            refine pn_seq (pw_then rfl ?_)
            refine pw_seq ?_
            refine pw_region ?_
            refine po_evs (T := tab) 1 rfl rfl ?_
            refine po_nil ?_
            refine pn_seq ?_
            exact pw_retN (T := tab) rfl rfl rfl ⟨rfl, rfl⟩ trivial rfl
          · refine pd_evs (T := tab) 3 rfl rfl ?_
            refine pd_len (T := tab) cNode f1.Nodes rfl rfl rfl rfl rfl rfl rfl rfl ?_
            refine pd_evs (T := tab) 3 rfl rfl ?_
            refine pd_split (j := 65) rfl ?_ ?_
            · refine pd_evs (T := tab) 26 rfl rfl ?_
              refine pd_nil ?_
              refine pn_seq (pw_then rfl ?_)
              refine pw_seq ?_
              refine pw_region ?_
              refine po_evs (T := tab) 1 rfl rfl ?_
              refine po_nil ?_
              refine pn_seq ?_
              exact pw_retN (T := tab) rfl rfl rfl ⟨rfl, rfl⟩ trivial rfl
            · refine pd_evs (T := tab) 2 rfl rfl ?_
              refine pd_len (T := tab) cNode r11.1.Nodes rfl rfl rfl rfl rfl rfl rfl rfl ?_
              refine pd_evs (T := tab) 1 rfl rfl ?_
              refine pd_arith (T := tab) rfl rfl rfl rfl fun i14 hi14 => ?_
              refine pd_evs (T := tab) 3 rfl rfl ?_
              refine pd_split (j := 73) rfl ?_ ?_
              · refine pd_evs (T := tab) 18 rfl rfl ?_
                refine pd_nil ?_
                refine pn_seq (pw_then rfl ?_)
                refine pw_seq ?_
                refine pw_region ?_
                refine po_evs (T := tab) 1 rfl rfl ?_
                refine po_nil ?_
                refine pn_seq ?_
                exact pw_retN (T := tab) rfl rfl rfl ⟨rfl, rfl⟩ trivial rfl
              · refine pd_evs (T := tab) 3 rfl rfl ?_
                refine pd_idx (T := tab) cNode r11.1.Nodes rfl rfl rfl rfl rfl rfl rfl fun y15 hy15 => ?_
                refine pd_evs (T := tab) 6 rfl rfl ?_
                refine pd_split (j := 83) rfl ?_ ?_
                · refine pd_evs (T := tab) 8 rfl rfl ?_
                  refine pd_nil ?_
                  refine pn_seq (pw_then rfl ?_)
                  refine pw_seq ?_
                  refine pw_region ?_
                  refine po_evs (T := tab) 1 rfl rfl ?_
                  refine po_nil ?_
                  refine pn_seq ?_
                  exact pw_retN (T := tab) rfl rfl rfl ⟨rfl, rfl⟩ trivial rfl
                · refine pd_evs (T := tab) 2 rfl rfl ?_
                  refine pd_call (enc := fun (r16 : Bool) => .v (.bool r16)) (qs := [.agg (cForest r11.1), .v (.int .i64 r11.2.1)]) (Shade_Connected_ok fu r11.1 r11.2.1) rfl rfl ⟨⟨_, rfl, .rfl⟩, ⟨_, rfl, .rfl⟩, trivial⟩ (fun _ => rfl) call40 rfl rfl fun r16 hr16 => ?_
                  refine pd_evs (T := tab) 2 rfl rfl ?_
                  refine pd_call (enc := fun (r17 : Bool) => .v (.bool r17)) (qs := [.agg (cForest f1), .v (.int .i64 m8)]) (Shade_Connected_ok fu f1 m8) rfl rfl ⟨⟨_, rfl, .rfl⟩, ⟨_, rfl, .rfl⟩, trivial⟩ (fun _ => rfl) call40 rfl rfl fun r17 hr17 => ?_
                  refine pd_evs (T := tab) 2 rfl rfl ?_
                  refine pd_nil ?_
                  refine pn_seq ?_
                  refine pw_cnd rfl ?_ ?_
                  · refine pw_seq ?_
                    refine pw_region ?_
                    refine po_evs (T := tab) 1 rfl rfl ?_
                    refine po_nil ?_
                    refine pn_seq ?_
                    exact pw_retN (T := tab) rfl rfl rfl ⟨rfl, rfl⟩ trivial rfl
                  · refine pw_skip ?_
                    refine pn_seq ?_
                    refine pw_seq ?_
                    refine pw_seq ?_
                    refine pw_region ?_
                    refine po_evs (T := tab) 1 rfl rfl ?_
                    refine po_nil ?_
                    refine pn_seq ?_
                    refine pw_block ?_
                    refine pw_loop' (Instarlaw04_ShadeAttached_l1 fu f1 m8 m10 r11) (fun (i18 : Int) => [(3, .loc 3 0), (7, .v (.int .i64 m8)), (8, .v (.int .i64 m10)), (9, .loc 9 0), (10, .v (.int .i64 r11.2.1)), (12, .v (.int .i64 i18))]) (fun (i18 : Int) => [(9, .box [.sl 10 false (r11.1.Nodes.map cNode), .v (.int .i64 r11.1.Most)]), (3, .box [.sl 10 false (f1.Nodes.map cNode), .v (.int .i64 f1.Most)])]) fu 0 (fun _ => rfl) ⟨rfl, rfl, rfl, rfl, rfl, rfl, trivial⟩ ⟨rfl, rfl, trivial⟩ rfl ?_
                    rintro k1 i18
                    refine pw_seq ?_
                    refine pw_seq ?_
                    refine pw_region ?_
                    refine po_evs (T := tab) 3 rfl rfl ?_
                    refine po_len (T := tab) cNode f1.Nodes rfl rfl rfl rfl rfl rfl rfl rfl ?_
                    refine po_evs (T := tab) 1 rfl rfl ?_
                    refine po_nil ?_
                    refine pn_seq ?_
                    refine pw_cnd rfl ?_ ?_
                    · refine pw_skip ?_
                      refine pn_seq ?_
                      refine pw_seq ?_
                      refine pw_block ?_
                      refine pw_seq ?_
                      refine pw_region ?_
                      refine po_evs (T := tab) 3 rfl rfl ?_
                      refine po_idx (T := tab) cNode r11.1.Nodes rfl rfl rfl rfl rfl rfl rfl fun y19 hy19 => ?_
                      refine po_evs (T := tab) 1 rfl rfl ?_
                      refine po_alloc (T := tab) 13 rfl rfl rfl rfl rfl rfl rfl rfl rfl ?_
                      refine po_store (T := tab) rfl rfl rfl rfl rfl rfl rfl rfl rfl rfl rfl rfl ?_
                      refine po_nil ?_
                      refine pn_seq ?_
                      refine pw_seq ?_
                      refine pw_seq ?_
                      refine pw_region ?_
                      refine po_evs (T := tab) 3 rfl rfl ?_
                      refine po_nil ?_
                      refine pn_seq ?_
                      refine pw_cnd rfl ?_ ?_
                      · refine pw_region ?_
                        refine po_evs (T := tab) 1 rfl rfl ?_
                        refine po_store (T := tab) rfl rfl rfl rfl rfl rfl rfl rfl rfl rfl rfl rfl ?_
                        refine po_nil ?_
                        refine pn_seq ?_
                        refine pw_seq ?_
                        refine pw_draw mixed (by kernel_rfl) ?_
                        refine pd_evs (T := tab) 4 rfl rfl ?_
                        refine pd_idx (T := tab) cNode f1.Nodes rfl rfl rfl rfl rfl rfl rfl fun y20 hy20 => ?_
                        refine pd_evs (T := tab) 1 rfl rfl ?_
                        refine pd_call (enc := fun (r21 : Bool) => .v (.bool r21)) (qs := [.agg (cNode (⟨y19.Kind, y19.Name, y19.Is, y19.Data, y19.Attrs, y19.Parent, y19.Kids, y19.Host, (-1), y19.Doc⟩ : Node)), .agg (cNode y20)]) (Instarref03_One_ok fu (⟨y19.Kind, y19.Name, y19.Is, y19.Data, y19.Attrs, y19.Parent, y19.Kids, y19.Host, (-1), y19.Doc⟩ : Node) y20) rfl rfl ⟨⟨_, rfl, .rfl⟩, ⟨_, rfl, .rfl⟩, trivial⟩ (fun _ => rfl) call36 rfl rfl fun r21 hr21 => ?_
                        refine pd_evs (T := tab) 1 rfl rfl ?_
                        refine pd_nil ?_
                        refine pn_seq ?_
                        refine pw_cnd rfl ?_ ?_
                        · refine pw_seq ?_
                          refine pw_region ?_
                          refine po_evs (T := tab) 1 rfl rfl ?_
                          refine po_nil ?_
                          refine pn_seq ?_
                          exact pw_retN (T := tab) rfl rfl rfl ⟨rfl, rfl⟩ trivial rfl
                        · refine pw_skip ?_
                          refine pn_block ?_
                          refine pn_seq ?_
                          refine pw_region ?_
                          refine po_evs (T := tab) 1 rfl rfl ?_
                          refine po_arith' (T := tab) rfl rfl rfl rfl fun i24 hi24 => ?_
                          refine po_evs (T := tab) 1 rfl rfl ?_
                          refine po_nil ?_
                          exact pn_iter' i24 ⟨rfl, rfl, rfl, rfl, rfl, rfl, trivial⟩ ⟨rfl, rfl, trivial⟩ rfl
                      · refine pw_skip ?_
                        refine pn_seq ?_
                        refine pw_seq ?_
                        refine pw_draw mixed (by kernel_rfl) ?_
                        refine pd_evs (T := tab) 4 rfl rfl ?_
                        refine pd_idx (T := tab) cNode f1.Nodes rfl rfl rfl rfl rfl rfl rfl fun y22 hy22 => ?_
                        refine pd_evs (T := tab) 1 rfl rfl ?_
                        refine pd_call (enc := fun (r23 : Bool) => .v (.bool r23)) (qs := [.agg (cNode y19), .agg (cNode y22)]) (Instarref03_One_ok fu y19 y22) rfl rfl ⟨⟨_, rfl, .rfl⟩, ⟨_, rfl, .rfl⟩, trivial⟩ (fun _ => rfl) call36 rfl rfl fun r23 hr23 => ?_
                        refine pd_evs (T := tab) 1 rfl rfl ?_
                        refine pd_nil ?_
                        refine pn_seq ?_
                        refine pw_cnd rfl ?_ ?_
                        · refine pw_seq ?_
                          refine pw_region ?_
                          refine po_evs (T := tab) 1 rfl rfl ?_
                          refine po_nil ?_
                          refine pn_seq ?_
                          exact pw_retN (T := tab) rfl rfl rfl ⟨rfl, rfl⟩ trivial rfl
                        · refine pw_skip ?_
                          refine pn_block ?_
                          refine pn_seq ?_
                          refine pw_region ?_
                          refine po_evs (T := tab) 1 rfl rfl ?_
                          refine po_arith' (T := tab) rfl rfl rfl rfl fun i25 hi25 => ?_
                          refine po_evs (T := tab) 1 rfl rfl ?_
                          refine po_nil ?_
                          exact pn_iter' i25 ⟨rfl, rfl, rfl, rfl, rfl, rfl, trivial⟩ ⟨rfl, rfl, trivial⟩ rfl
                    · refine pw_exit rfl ?_
                      refine pn_seq ?_
                      refine pw_seq ?_
                      refine pw_sub' (E' := [(3, .loc 3 0), (7, .v (.int .i64 m8)), (8, .v (.int .i64 m10)), (9, .loc 9 0), (10, .v (.int .i64 r11.2.1))]) (S' := [(9, .box [.sl 10 false (r11.1.Nodes.map cNode), .v (.int .i64 r11.1.Most)]), (3, .box [.sl 10 false (f1.Nodes.map cNode), .v (.int .i64 f1.Most)])]) ?_ ⟨rfl, rfl, rfl, rfl, rfl, trivial⟩ ⟨rfl, rfl, trivial⟩ rfl
                      refine pw_drawV [0, 0, 3, 0, 0, 31, 63, 127] mixed (by kernel_rfl) (by kernel_rfl) rfl rfl ?_
                      refine pdv_step0 [6, 7] [232] [] [3] [3] [(116, .agg (cForest f1))] [(3, .box [.sl 10 false (f1.Nodes.map cNode), .v (.int .i64 f1.Most)])] rfl rfl rfl rfl (by kernel_rfl) (by kernel_rfl) (by kernel_rfl) ⟨rfl, trivial⟩ (fun w0 X X0 σ0 => by refine po_evs (T := tab) 1 rfl rfl ?_; refine po_nil ?_; exact pn_end0 ⟨rfl, trivial⟩ ⟨rfl, trivial⟩ rfl) ?_
                      refine pdv_step0 [16] [234] [] [] [] [(117, .v (.int .i64 m10))] [] rfl rfl rfl rfl (by kernel_rfl) (by kernel_rfl) (by kernel_rfl) trivial (fun w0 X X0 σ0 => by refine po_evs (T := tab) 1 rfl rfl ?_; refine po_nil ?_; exact pn_end0 ⟨rfl, trivial⟩ trivial rfl) ?_
                      refine pdv_step (M := (Shade_All_m fu f1 m10)) (ment := [(236, []), (6361, [])]) [232, 234] [236, 6361] [3180] [] [] (fun r26 => [(118, .sl 1 false (r26.map cInt_i64))]) (fun r26 => []) rfl rfl (fun _ => rfl) (fun _ => rfl) (by kernel_rfl) (by kernel_rfl) (fun _ => by kernel_rfl) (fun _ => trivial) (fun w0 X X0 σ0 => by refine po_turn [3180] (enc := fun (r26 : (List Int)) => .own 3180) (Sr := fun (r26 : (List Int)) => [(3180, .arr 3 1 (r26.map cInt_i64))]) (first := []) (cap := []) (qs := [.agg (cForest f1), .v (.int .i64 m10)]) (Sc := []) (N0 := []) (NR := [3180]) (fun r26 hr26 => fc_ren [(1035, 3180)] [1035] (Shade_All_ok fu f1 m10 _ hr26) rfl rfl rfl rfl rfl rfl) trivial (fun _ => rfl) rfl rfl rfl rfl rfl rfl rfl (fun _ => rfl) (fun _ => rfl) rfl rfl rfl ⟨⟨_, rfl, .rfl⟩, ⟨_, rfl, .rfl⟩, trivial⟩ call41 rfl rfl fun r26 hr26 => ?_; refine po_freeze 3180 rfl rfl rfl ?_; refine po_nil ?_; exact pn_end ⟨rfl, trivial⟩ trivial rfl) fun r26 hr26 => ?_
                      refine pdv_step0 [18, 19] [238] [] [9] [9] [(119, .agg (cForest r11.1))] [(9, .box [.sl 10 false (r11.1.Nodes.map cNode), .v (.int .i64 r11.1.Most)])] rfl rfl rfl rfl (by kernel_rfl) (by kernel_rfl) (by kernel_rfl) ⟨rfl, trivial⟩ (fun w0 X X0 σ0 => by refine po_evs (T := tab) 1 rfl rfl ?_; refine po_nil ?_; exact pn_end0 ⟨rfl, trivial⟩ ⟨rfl, trivial⟩ rfl) ?_
                      refine pdv_step0 [16] [240] [] [] [] [(120, .v (.int .i64 m10))] [] rfl rfl rfl rfl (by kernel_rfl) (by kernel_rfl) (by kernel_rfl) trivial (fun w0 X X0 σ0 => by refine po_evs (T := tab) 1 rfl rfl ?_; refine po_nil ?_; exact pn_end0 ⟨rfl, trivial⟩ trivial rfl) ?_
                      refine pdv_step (M := (Shade_All_m fu r11.1 m10)) (ment := [(242, []), (6421, [])]) [238, 240] [242, 6421] [3210] [] [] (fun r27 => [(121, .sl 1 false (r27.map cInt_i64))]) (fun r27 => []) rfl rfl (fun _ => rfl) (fun _ => rfl) (by kernel_rfl) (by kernel_rfl) (fun _ => by kernel_rfl) (fun _ => trivial) (fun w0 X X0 σ0 => by refine po_turn [3210] (enc := fun (r27 : (List Int)) => .own 3210) (Sr := fun (r27 : (List Int)) => [(3210, .arr 3 1 (r27.map cInt_i64))]) (first := []) (cap := []) (qs := [.agg (cForest r11.1), .v (.int .i64 m10)]) (Sc := []) (N0 := []) (NR := [3210]) (fun r27 hr27 => fc_ren [(1035, 3210)] [1035] (Shade_All_ok fu r11.1 m10 _ hr27) rfl rfl rfl rfl rfl rfl) trivial (fun _ => rfl) rfl rfl rfl rfl rfl rfl rfl (fun _ => rfl) (fun _ => rfl) rfl rfl rfl ⟨⟨_, rfl, .rfl⟩, ⟨_, rfl, .rfl⟩, trivial⟩ call41 rfl rfl fun r27 hr27 => ?_; refine po_freeze 3210 rfl rfl rfl ?_; refine po_nil ?_; exact pn_end ⟨rfl, trivial⟩ trivial rfl) fun r27 hr27 => ?_
                      refine pdv_step0 [236] [28] [] [] [] [(14, .sl 1 false (r26.map cInt_i64))] [] rfl rfl rfl rfl (by kernel_rfl) (by kernel_rfl) (by kernel_rfl) trivial (fun w0 X X0 σ0 => by refine po_evs (T := tab) 1 rfl rfl ?_; refine po_nil ?_; exact pn_end0 ⟨rfl, trivial⟩ trivial rfl) ?_
                      refine pdv_step0 [242] [30] [] [] [] [(15, .sl 1 false (r27.map cInt_i64))] [] rfl rfl rfl rfl (by kernel_rfl) (by kernel_rfl) (by kernel_rfl) trivial (fun w0 X X0 σ0 => by refine po_evs (T := tab) 1 rfl rfl ?_; refine po_nil ?_; exact pn_end0 ⟨rfl, trivial⟩ trivial rfl) ?_
                      refine pdv_nil rfl rfl ?_
                      refine pn_seq ?_
                      refine pw_seq ?_
                      refine pw_region ?_
                      refine po_evs (T := tab) 1 rfl rfl ?_
                      refine po_nil ?_
                      refine pn_seq ?_
                      refine pw_seq ?_
                      refine pw_seq ?_
                      refine pw_region ?_
                      refine po_evs (T := tab) 3 rfl rfl ?_
                      refine po_call (enc := fun (r28 : Bool) => .v (.bool r28)) (qs := [.agg (cForest f1), .v (.int .i64 m10), .v (.int .i64 m8)]) (Shade_Over_ok fu f1 m10 m8) rfl rfl ⟨⟨_, rfl, .rfl⟩, ⟨_, rfl, .rfl⟩, ⟨_, rfl, .rfl⟩, trivial⟩ (fun _ => rfl) call43 rfl rfl fun r28 hr28 => ?_
                      refine po_nil ?_
                      refine pn_seq ?_
                      refine pw_joinK (Instarlaw04_ShadeAttached_j1 fu r11 r26 r27) (fun (more29 : Int) => [(9, .loc 9 0), (10, .v (.int .i64 r11.2.1)), (14, .sl 1 false (r26.map cInt_i64)), (15, .sl 1 false (r27.map cInt_i64)), (16, .v (.int .i64 more29))]) (fun (more29 : Int) => [(9, .box [.sl 10 false (r11.1.Nodes.map cNode), .v (.int .i64 r11.1.Most)])]) ?_ fun hj1 => ?_
                      · rintro more29
                        refine pn_seq ?_
                        refine pw_seq ?_
                        refine pw_region ?_
                        refine po_evs (T := tab) 1 rfl rfl ?_
                        refine po_len (T := tab) cInt_i64 r27 rfl rfl rfl rfl rfl rfl rfl rfl ?_
                        refine po_evs (T := tab) 1 rfl rfl ?_
                        refine po_len (T := tab) cInt_i64 r26 rfl rfl rfl rfl rfl rfl rfl rfl ?_
                        refine po_evs (T := tab) 1 rfl rfl ?_
                        refine po_arith' (T := tab) rfl rfl rfl rfl fun i30 hi30 => ?_
                        refine po_evs (T := tab) 2 rfl rfl ?_
                        refine po_split (j := 133) rfl ?_ ?_
                        · refine po_evs (T := tab) 2 rfl rfl ?_
                          refine po_call (enc := fun (r31 : Int) => .v (.int .i64 r31)) (qs := [.sl 1 false (r27.map cInt_i64), .v (.int .i64 r11.2.1)]) (Instarref03_Has_ok fu r27 r11.2.1) rfl rfl ⟨⟨_, rfl, .rfl⟩, ⟨_, rfl, .rfl⟩, trivial⟩ (fun _ => rfl) call34 rfl rfl fun r31 hr31 => ?_
                          refine po_evs (T := tab) 4 rfl rfl ?_
                          refine po_split (j := 140) rfl ?_ ?_
                          · refine po_evs (T := tab) 2 rfl rfl ?_
                            refine po_call (enc := fun (r32 : Int) => .v (.int .i64 r32)) (qs := [.agg (cForest r11.1), .v (.int .i64 r11.2.1)]) (Forest_Root_ok fu r11.1 r11.2.1) rfl rfl ⟨⟨_, rfl, .rfl⟩, ⟨_, rfl, .rfl⟩, trivial⟩ (fun _ => rfl) call22 rfl rfl fun r32 hr32 => ?_
                            refine po_evs (T := tab) 4 rfl rfl ?_
                            refine po_nil ?_
                            refine pn_seq ?_
                            exact pw_retN (T := tab) rfl rfl rfl ⟨rfl, rfl⟩ trivial rfl
                          · refine po_evs (T := tab) 7 rfl rfl ?_
                            refine po_nil ?_
                            refine pn_seq ?_
                            exact pw_retN (T := tab) rfl rfl rfl ⟨rfl, rfl⟩ trivial rfl
                        · refine po_evs (T := tab) 14 rfl rfl ?_
                          refine po_nil ?_
                          refine pn_seq ?_
                          exact pw_retN (T := tab) rfl rfl rfl ⟨rfl, rfl⟩ trivial rfl
                      · refine pw_cnd rfl ?_ ?_
                        · refine pw_region ?_
                          refine po_evs (T := tab) 1 rfl rfl ?_
                          refine po_nil ?_
                          exact pn_sub' (hj1 1) ⟨rfl, rfl, rfl, rfl, rfl, trivial⟩ ⟨rfl, trivial⟩ rfl
                        · refine pw_skip ?_
                          exact pn_sub' (hj1 0) ⟨rfl, rfl, rfl, rfl, rfl, trivial⟩ ⟨rfl, trivial⟩ rfl

end Go.Proofs.Ytcaepigodglihaa
