/- Models and proofs, printed by emit2.py. -/
import Derived.Test.YtcojcgljfgljjaaG2
namespace Go.Proofs.Ytcojcgljfgljjaa
open Go Go.Pw
set_option linter.unusedVariables false

set_option maxHeartbeats 10000000 in
set_option maxRecDepth 100000 in
theorem Instarlaw25_LabKeeps_ok (fu : Nat) (s1 : Script) (a2 : Int) (b3 : Int) (x4 : Bs) (y5 : Bs) : ∀ r, Instarlaw25_LabKeeps_m fu s1 a2 b3 x4 y5 = some r → DC Try.prog 4 [.agg (cScript s1), .v (.int .i64 a2), .v (.int .i64 b3), .v (.string ⟨⟨x4⟩⟩), .v (.string ⟨⟨y5⟩⟩)] (.v (.bool r)) := by
  intro r hr
  refine fc_intro (args := [.agg (cScript s1), .v (.int .i64 a2), .v (.int .i64 b3), .v (.string ⟨⟨x4⟩⟩), .v (.string ⟨⟨y5⟩⟩)]) (S := []) (N0 := []) (post := fun r p S => p = .v (.bool r) ∧ S = []) Try.func4 rfl rfl hr fun w0 X X0 σ0 => ?_
  refine pw_seq ?_
  refine pw_region ?_
  refine po_box  5 rfl rfl rfl rfl rfl rfl rfl rfl rfl rfl ?_
  refine po_evs (T := tab) 1 rfl rfl ?_
  refine po_nil ?_
  refine pn_seq ?_
  refine pw_seq ?_
  refine pw_seq ?_
  refine pw_region ?_
  refine po_call (enc := fun (r6 : Bool) => .v (.bool r6)) (qs := []) (Instarlaw25_awake_ok fu) rfl rfl trivial (fun _ => rfl) call6 rfl rfl fun r6 hr6 => ?_
  refine po_evs (T := tab) 1 rfl rfl ?_
  refine po_nil ?_
  refine pn_seq ?_
  refine pw_cnd rfl ?_ ?_
  · refine pw_seq ?_
    refine pw_region ?_
    refine po_evs (T := tab) 1 rfl rfl ?_
    refine po_nil ?_
    refine pn_seq ?_
    exact pw_retN (T := tab) rfl rfl rfl ⟨rfl, rfl⟩ trivial rfl
  · refine pw_skip ?_
    refine pn_seq ?_
    refine pw_seq ?_
    refine pw_seq ?_
    refine pw_region ?_
    refine po_evs (T := tab) 1 rfl rfl ?_
    refine po_call (enc := fun (r7 : Bool) => .v (.bool r7)) (qs := [.agg (cScript s1)]) (Instarlaw25_few_ok fu s1) rfl rfl ⟨⟨_, rfl, .rfl⟩, trivial⟩ (fun _ => rfl) call7 rfl rfl fun r7 hr7 => ?_
    refine po_evs (T := tab) 2 rfl rfl ?_
    refine po_split (j := 22) rfl ?_ ?_
    · refine po_evs (T := tab) 9 rfl rfl ?_
      refine po_nil ?_
      refine pn_seq (pw_then rfl ?_)
      refine pw_seq ?_
      refine pw_region ?_
      refine po_evs (T := tab) 1 rfl rfl ?_
      refine po_nil ?_
      refine pn_seq ?_
      exact pw_retN (T := tab) rfl rfl rfl ⟨rfl, rfl⟩ trivial rfl
    · refine po_evs (T := tab) 5 rfl rfl ?_
      refine po_split (j := 27) rfl ?_ ?_
      · refine po_evs (T := tab) 4 rfl rfl ?_
        refine po_nil ?_
        refine pn_seq (pw_then rfl ?_)
        refine pw_seq ?_
        refine pw_region ?_
        refine po_evs (T := tab) 1 rfl rfl ?_
        refine po_nil ?_
        refine pn_seq ?_
        exact pw_retN (T := tab) rfl rfl rfl ⟨rfl, rfl⟩ trivial rfl
      · refine po_evs (T := tab) 4 rfl rfl ?_
        refine po_nil ?_
        refine pn_seq ?_
        refine pw_cnd rfl ?_ ?_
        · refine pw_seq ?_
          refine pw_region ?_
          refine po_evs (T := tab) 1 rfl rfl ?_
          refine po_nil ?_
          refine pn_seq ?_
          exact pw_retN (T := tab) rfl rfl rfl ⟨rfl, rfl⟩ trivial rfl
        · refine pw_skip ?_
          refine pn_seq ?_
          refine pw_seq ?_
          refine pw_sub' (E' := [(1, .v (.int .i64 a2)), (2, .v (.int .i64 b3)), (3, .v (.string ⟨⟨x4⟩⟩)), (4, .v (.string ⟨⟨y5⟩⟩)), (5, .loc 5 0)]) (S' := [(5, .box [.sl 5 false (s1.Classes.map cClass), .sl 7 false (s1.Main.map cOp)])]) ?_ ⟨rfl, rfl, rfl, rfl, rfl, trivial⟩ ⟨rfl, trivial⟩ rfl
          refine pw_drawV [0, 0, 0, 7, 0, 0, 0, 127, 0, 0, 1023, 2047] mixed (by kernel_rfl) (by kernel_rfl) rfl rfl ?_
          refine pdv_step0 [10, 11] [64] [] [5] [5] [(32, .agg (cScript s1))] [(5, .box [.sl 5 false (s1.Classes.map cClass), .sl 7 false (s1.Main.map cOp)])] rfl rfl rfl rfl (by kernel_rfl) (by kernel_rfl) (by kernel_rfl) ⟨rfl, trivial⟩ (fun w0 X X0 σ0 => by refine po_evs (T := tab) 1 rfl rfl ?_; refine po_nil ?_; exact pn_end0 ⟨rfl, trivial⟩ ⟨rfl, trivial⟩ rfl) ?_
          refine pdv_step0 [2] [66] [] [] [] [(33, .v (.int .i64 a2))] [] rfl rfl rfl rfl (by kernel_rfl) (by kernel_rfl) (by kernel_rfl) trivial (fun w0 X X0 σ0 => by refine po_evs (T := tab) 1 rfl rfl ?_; refine po_nil ?_; exact pn_end0 ⟨rfl, trivial⟩ trivial rfl) ?_
          refine pdv_step0 [4] [68] [] [] [] [(34, .v (.int .i64 b3))] [] rfl rfl rfl rfl (by kernel_rfl) (by kernel_rfl) (by kernel_rfl) trivial (fun w0 X X0 σ0 => by refine po_evs (T := tab) 1 rfl rfl ?_; refine po_nil ?_; exact pn_end0 ⟨rfl, trivial⟩ trivial rfl) ?_
          refine pdv_step (M := (Lab_Classes_m fu s1 a2 b3)) (ment := [(70, [])]) [64, 66, 68] [70] [] [] [] (fun r8 => [(35, .agg (cScript r8))]) (fun r8 => []) rfl rfl (fun _ => rfl) (fun _ => rfl) (by kernel_rfl) (by kernel_rfl) (fun _ => by kernel_rfl) (fun _ => trivial) (fun w0 X X0 σ0 => by refine po_call (enc := fun (r8 : Script) => .agg (cScript r8)) (qs := [.agg (cScript s1), .v (.int .i64 a2), .v (.int .i64 b3)]) (Lab_Classes_ok fu s1 a2 b3) rfl rfl ⟨⟨_, rfl, .rfl⟩, ⟨_, rfl, .rfl⟩, ⟨_, rfl, .rfl⟩, trivial⟩ (fun _ => rfl) call12 rfl rfl fun r8 hr8 => ?_; refine po_nil ?_; exact pn_end ⟨rfl, trivial⟩ trivial rfl) fun r8 hr8 => ?_
          refine pdv_step0 [10, 11] [72] [] [5] [5] [(36, .agg (cScript s1))] [(5, .box [.sl 5 false (s1.Classes.map cClass), .sl 7 false (s1.Main.map cOp)])] rfl rfl rfl rfl (by kernel_rfl) (by kernel_rfl) (by kernel_rfl) ⟨rfl, trivial⟩ (fun w0 X X0 σ0 => by refine po_evs (T := tab) 1 rfl rfl ?_; refine po_nil ?_; exact pn_end0 ⟨rfl, trivial⟩ ⟨rfl, trivial⟩ rfl) ?_
          refine pdv_step0 [6] [74] [] [] [] [(37, .v (.string ⟨⟨x4⟩⟩))] [] rfl rfl rfl rfl (by kernel_rfl) (by kernel_rfl) (by kernel_rfl) trivial (fun w0 X X0 σ0 => by refine po_evs (T := tab) 1 rfl rfl ?_; refine po_nil ?_; exact pn_end0 ⟨rfl, trivial⟩ trivial rfl) ?_
          refine pdv_step0 [8] [76] [] [] [] [(38, .v (.string ⟨⟨y5⟩⟩))] [] rfl rfl rfl rfl (by kernel_rfl) (by kernel_rfl) (by kernel_rfl) trivial (fun w0 X X0 σ0 => by refine po_evs (T := tab) 1 rfl rfl ?_; refine po_nil ?_; exact pn_end0 ⟨rfl, trivial⟩ trivial rfl) ?_
          refine pdv_step (M := (Lab_Names_m fu s1 x4 y5)) (ment := [(78, [])]) [72, 74, 76] [78] [] [] [] (fun r9 => [(39, .agg (cScript r9))]) (fun r9 => []) rfl rfl (fun _ => rfl) (fun _ => rfl) (by kernel_rfl) (by kernel_rfl) (fun _ => by kernel_rfl) (fun _ => trivial) (fun w0 X X0 σ0 => by refine po_call (enc := fun (r9 : Script) => .agg (cScript r9)) (qs := [.agg (cScript s1), .v (.string ⟨⟨x4⟩⟩), .v (.string ⟨⟨y5⟩⟩)]) (Lab_Names_ok fu s1 x4 y5) rfl rfl ⟨⟨_, rfl, .rfl⟩, ⟨_, rfl, .rfl⟩, ⟨_, rfl, .rfl⟩, trivial⟩ (fun _ => rfl) call17 rfl rfl fun r9 hr9 => ?_; refine po_nil ?_; exact pn_end ⟨rfl, trivial⟩ trivial rfl) fun r9 hr9 => ?_
          refine pdv_step0 [] [22, 23] [11] [] [] [(11, .loc 11 0)] [(11, .box [.v (.slice none 0 0), .v (.slice none 0 0)])] rfl rfl rfl rfl (by kernel_rfl) (by kernel_rfl) (by kernel_rfl) trivial (fun w0 X X0 σ0 => by refine po_alloc (T := tab) 11 rfl rfl rfl rfl rfl rfl rfl rfl rfl ?_; refine po_nil ?_; exact pn_end0 ⟨rfl, trivial⟩ ⟨rfl, trivial⟩ rfl) ?_
          refine pdv_step0 [] [24, 25] [12] [] [] [(12, .loc 12 0)] [(12, .box [.v (.slice none 0 0), .v (.slice none 0 0)])] rfl rfl rfl rfl (by kernel_rfl) (by kernel_rfl) (by kernel_rfl) trivial (fun w0 X X0 σ0 => by refine po_alloc (T := tab) 12 rfl rfl rfl rfl rfl rfl rfl rfl rfl ?_; refine po_nil ?_; exact pn_end0 ⟨rfl, trivial⟩ ⟨rfl, trivial⟩ rfl) ?_
          refine pdv_step0 [22, 23, 70] [23] [] [11] [] [] [(11, .box [.sl 5 false (r8.Classes.map cClass), .sl 7 false (r8.Main.map cOp)])] rfl rfl rfl rfl (by kernel_rfl) (by kernel_rfl) (by kernel_rfl) trivial (fun w0 X X0 σ0 => by refine po_store (T := tab) rfl rfl rfl rfl rfl rfl rfl rfl rfl rfl rfl rfl ?_; refine po_nil ?_; exact pn_end0 trivial ⟨rfl, trivial⟩ rfl) ?_
          refine pdv_step0 [24, 25, 78] [25] [] [12] [] [] [(12, .box [.sl 5 false (r9.Classes.map cClass), .sl 7 false (r9.Main.map cOp)])] rfl rfl rfl rfl (by kernel_rfl) (by kernel_rfl) (by kernel_rfl) trivial (fun w0 X X0 σ0 => by refine po_store (T := tab) rfl rfl rfl rfl rfl rfl rfl rfl rfl rfl rfl rfl ?_; refine po_nil ?_; exact pn_end0 trivial ⟨rfl, trivial⟩ rfl) ?_
          refine pdv_nil rfl rfl ?_
          refine pn_seq ?_
          refine pw_seq ?_
          refine pw_seq ?_
          refine pw_draw mixed (by kernel_rfl) ?_
          refine pd_evs (T := tab) 1 rfl rfl ?_
          refine pd_call (enc := fun (r10 : Bool) => .v (.bool r10)) (qs := [.agg (cScript r8)]) (Engine_Allowed_ok fu r8) rfl rfl ⟨⟨_, rfl, .rfl⟩, trivial⟩ (fun _ => rfl) call24 rfl rfl fun r10 hr10 => ?_
          refine pd_evs (T := tab) 1 rfl rfl ?_
          refine pd_call (enc := fun (r11 : Bool) => .v (.bool r11)) (qs := [.agg (cScript s1)]) (Engine_Allowed_ok fu s1) rfl rfl ⟨⟨_, rfl, .rfl⟩, trivial⟩ (fun _ => rfl) call24 rfl rfl fun r11 hr11 => ?_
          refine pd_evs (T := tab) 2 rfl rfl ?_
          refine pd_split (j := 45) rfl ?_ ?_
          · refine pd_evs (T := tab) 42 rfl rfl ?_
            refine pd_nil ?_
            refine pn_seq (pw_then rfl ?_)
            refine pw_seq ?_
            refine pw_region ?_
            refine po_evs (T := tab) 1 rfl rfl ?_
            refine po_nil ?_
            refine pn_seq ?_
            exact pw_retN (T := tab) rfl rfl rfl ⟨rfl, rfl⟩ trivial rfl
          · refine pd_evs (T := tab) 1 rfl rfl ?_
            refine pd_call (enc := fun (r12 : Bool) => .v (.bool r12)) (qs := [.agg (cScript r9)]) (Engine_Allowed_ok fu r9) rfl rfl ⟨⟨_, rfl, .rfl⟩, trivial⟩ (fun _ => rfl) call24 rfl rfl fun r12 hr12 => ?_
            refine pd_evs (T := tab) 1 rfl rfl ?_
            refine pd_call (enc := fun (r13 : Bool) => .v (.bool r13)) (qs := [.agg (cScript s1)]) (Engine_Allowed_ok fu s1) rfl rfl ⟨⟨_, rfl, .rfl⟩, trivial⟩ (fun _ => rfl) call24 rfl rfl fun r13 hr13 => ?_
            refine pd_evs (T := tab) 3 rfl rfl ?_
            refine pd_split (j := 52) rfl ?_ ?_
            · refine pd_evs (T := tab) 35 rfl rfl ?_
              refine pd_nil ?_
              refine pn_seq (pw_then rfl ?_)
              refine pw_seq ?_
              refine pw_region ?_
              refine po_evs (T := tab) 1 rfl rfl ?_
              refine po_nil ?_
              refine pn_seq ?_
              exact pw_retN (T := tab) rfl rfl rfl ⟨rfl, rfl⟩ trivial rfl
            · refine pd_evs (T := tab) 2 rfl rfl ?_
              refine pd_len (T := tab) cOp r8.Main rfl rfl rfl rfl rfl rfl rfl rfl ?_
              refine pd_evs (T := tab) 2 rfl rfl ?_
              refine pd_len (T := tab) cOp s1.Main rfl rfl rfl rfl rfl rfl rfl rfl ?_
              refine pd_evs (T := tab) 3 rfl rfl ?_
              refine pd_split (j := 61) rfl ?_ ?_
              · refine pd_evs (T := tab) 26 rfl rfl ?_
                refine pd_nil ?_
                refine pn_seq (pw_then rfl ?_)
                refine pw_seq ?_
                refine pw_region ?_
                refine po_evs (T := tab) 1 rfl rfl ?_
                refine po_nil ?_
                refine pn_seq ?_
                exact pw_retN (T := tab) rfl rfl rfl ⟨rfl, rfl⟩ trivial rfl
              · refine pd_evs (T := tab) 2 rfl rfl ?_
                refine pd_len (T := tab) cOp r9.Main rfl rfl rfl rfl rfl rfl rfl rfl ?_
                refine pd_evs (T := tab) 2 rfl rfl ?_
                refine pd_len (T := tab) cOp s1.Main rfl rfl rfl rfl rfl rfl rfl rfl ?_
                refine pd_evs (T := tab) 3 rfl rfl ?_
                refine pd_split (j := 70) rfl ?_ ?_
                · refine pd_evs (T := tab) 17 rfl rfl ?_
                  refine pd_nil ?_
                  refine pn_seq (pw_then rfl ?_)
                  refine pw_seq ?_
                  refine pw_region ?_
                  refine po_evs (T := tab) 1 rfl rfl ?_
                  refine po_nil ?_
                  refine pn_seq ?_
                  exact pw_retN (T := tab) rfl rfl rfl ⟨rfl, rfl⟩ trivial rfl
                · refine pd_evs (T := tab) 2 rfl rfl ?_
                  refine pd_len (T := tab) cClass r8.Classes rfl rfl rfl rfl rfl rfl rfl rfl ?_
                  refine pd_evs (T := tab) 2 rfl rfl ?_
                  refine pd_len (T := tab) cClass s1.Classes rfl rfl rfl rfl rfl rfl rfl rfl ?_
                  refine pd_evs (T := tab) 3 rfl rfl ?_
                  refine pd_split (j := 79) rfl ?_ ?_
                  · refine pd_evs (T := tab) 8 rfl rfl ?_
                    refine pd_nil ?_
                    refine pn_seq (pw_then rfl ?_)
                    refine pw_seq ?_
                    refine pw_region ?_
                    refine po_evs (T := tab) 1 rfl rfl ?_
                    refine po_nil ?_
                    refine pn_seq ?_
                    exact pw_retN (T := tab) rfl rfl rfl ⟨rfl, rfl⟩ trivial rfl
                  · refine pd_evs (T := tab) 2 rfl rfl ?_
                    refine pd_len (T := tab) cClass r9.Classes rfl rfl rfl rfl rfl rfl rfl rfl ?_
                    refine pd_evs (T := tab) 2 rfl rfl ?_
                    refine pd_len (T := tab) cClass s1.Classes rfl rfl rfl rfl rfl rfl rfl rfl ?_
                    refine pd_evs (T := tab) 2 rfl rfl ?_
                    refine pd_nil ?_
                    refine pn_seq ?_
                    refine pw_cnd rfl ?_ ?_
                    · refine pw_seq ?_
                      refine pw_region ?_
                      refine po_evs (T := tab) 1 rfl rfl ?_
                      refine po_nil ?_
                      refine pn_seq ?_
                      exact pw_retN (T := tab) rfl rfl rfl ⟨rfl, rfl⟩ trivial rfl
                    · refine pw_skip ?_
                      refine pn_seq ?_
                      refine pw_seq ?_
                      refine pw_seq ?_
                      refine pw_region ?_
                      refine po_evs (T := tab) 1 rfl rfl ?_
                      refine po_nil ?_
                      refine pn_seq ?_
                      refine pw_block ?_
                      refine pw_loop' (Instarlaw25_LabKeeps_l1 fu s1 a2 b3 r8 r9) (fun (i14 : Int) => [(1, .v (.int .i64 a2)), (2, .v (.int .i64 b3)), (5, .loc 5 0), (11, .loc 11 0), (12, .loc 12 0), (13, .v (.int .i64 i14))]) (fun (i14 : Int) => [(12, .box [.sl 5 false (r9.Classes.map cClass), .sl 7 false (r9.Main.map cOp)]), (11, .box [.sl 5 false (r8.Classes.map cClass), .sl 7 false (r8.Main.map cOp)]), (5, .box [.sl 5 false (s1.Classes.map cClass), .sl 7 false (s1.Main.map cOp)])]) fu 0 (fun _ => rfl) ⟨rfl, rfl, rfl, rfl, rfl, rfl, trivial⟩ ⟨rfl, rfl, rfl, trivial⟩ rfl ?_
                      rintro k1 i14
                      refine pw_seq ?_
                      refine pw_seq ?_
                      refine pw_region ?_
                      refine po_evs (T := tab) 3 rfl rfl ?_
                      refine po_len (T := tab) cOp s1.Main rfl rfl rfl rfl rfl rfl rfl rfl ?_
                      refine po_evs (T := tab) 1 rfl rfl ?_
                      refine po_nil ?_
                      refine pn_seq ?_
                      refine pw_cnd rfl ?_ ?_
                      · refine pw_skip ?_
                        refine pn_seq ?_
                        refine pw_seq ?_
                        refine pw_block ?_
                        refine pw_seq ?_
                        refine pw_draw mixed (by kernel_rfl) ?_
                        refine pd_evs (T := tab) 3 rfl rfl ?_
                        refine pd_idx (T := tab) cOp r8.Main rfl rfl rfl rfl rfl rfl rfl fun y15 hy15 => ?_
                        refine pd_evs (T := tab) 5 rfl rfl ?_
                        refine pd_idx (T := tab) cOp s1.Main rfl rfl rfl rfl rfl rfl rfl fun y16 hy16 => ?_
                        refine pd_evs (T := tab) 4 rfl rfl ?_
                        refine pd_split (j := 108) rfl ?_ ?_
                        · refine pd_evs (T := tab) 44 rfl rfl ?_
                          refine pd_nil ?_
                          refine pn_seq (pw_then rfl ?_)
                          refine pw_seq ?_
                          refine pw_region ?_
                          refine po_evs (T := tab) 1 rfl rfl ?_
                          refine po_nil ?_
                          refine pn_seq ?_
                          exact pw_retN (T := tab) rfl rfl rfl ⟨rfl, rfl⟩ trivial rfl
                        · refine pd_evs (T := tab) 3 rfl rfl ?_
                          refine pd_idx (T := tab) cOp r9.Main rfl rfl rfl rfl rfl rfl rfl fun y17 hy17 => ?_
                          refine pd_evs (T := tab) 5 rfl rfl ?_
                          refine pd_idx (T := tab) cOp s1.Main rfl rfl rfl rfl rfl rfl rfl fun y18 hy18 => ?_
                          refine pd_evs (T := tab) 5 rfl rfl ?_
                          refine pd_split (j := 123) rfl ?_ ?_
                          · refine pd_evs (T := tab) 29 rfl rfl ?_
                            refine pd_nil ?_
                            refine pn_seq (pw_then rfl ?_)
                            refine pw_seq ?_
                            refine pw_region ?_
                            refine po_evs (T := tab) 1 rfl rfl ?_
                            refine po_nil ?_
                            refine pn_seq ?_
                            exact pw_retN (T := tab) rfl rfl rfl ⟨rfl, rfl⟩ trivial rfl
                          · refine pd_evs (T := tab) 3 rfl rfl ?_
                            refine pd_idx (T := tab) cOp r8.Main rfl rfl rfl rfl rfl rfl rfl fun y19 hy19 => ?_
                            refine pd_evs (T := tab) 5 rfl rfl ?_
                            refine pd_idx (T := tab) cOp s1.Main rfl rfl rfl rfl rfl rfl rfl fun y20 hy20 => ?_
                            refine pd_evs (T := tab) 5 rfl rfl ?_
                            refine pd_split (j := 138) rfl ?_ ?_
                            · refine pd_evs (T := tab) 14 rfl rfl ?_
                              refine pd_nil ?_
                              refine pn_seq (pw_then rfl ?_)
                              refine pw_seq ?_
                              refine pw_region ?_
                              refine po_evs (T := tab) 1 rfl rfl ?_
                              refine po_nil ?_
                              refine pn_seq ?_
                              exact pw_retN (T := tab) rfl rfl rfl ⟨rfl, rfl⟩ trivial rfl
                            · refine pd_evs (T := tab) 3 rfl rfl ?_
                              refine pd_idx (T := tab) cOp r9.Main rfl rfl rfl rfl rfl rfl rfl fun y21 hy21 => ?_
                              refine pd_evs (T := tab) 5 rfl rfl ?_
                              refine pd_idx (T := tab) cOp s1.Main rfl rfl rfl rfl rfl rfl rfl fun y22 hy22 => ?_
                              refine pd_evs (T := tab) 4 rfl rfl ?_
                              refine pd_nil ?_
                              refine pn_seq ?_
                              refine pw_cnd rfl ?_ ?_
                              · refine pw_seq ?_
                                refine pw_region ?_
                                refine po_evs (T := tab) 1 rfl rfl ?_
                                refine po_nil ?_
                                refine pn_seq ?_
                                exact pw_retN (T := tab) rfl rfl rfl ⟨rfl, rfl⟩ trivial rfl
                              · refine pw_skip ?_
                                refine pn_block ?_
                                refine pn_seq ?_
                                refine pw_region ?_
                                refine po_evs (T := tab) 1 rfl rfl ?_
                                refine po_arith' (T := tab) rfl rfl rfl rfl fun i23 hi23 => ?_
                                refine po_evs (T := tab) 1 rfl rfl ?_
                                refine po_nil ?_
                                exact pn_iter' i23 ⟨rfl, rfl, rfl, rfl, rfl, rfl, trivial⟩ ⟨rfl, rfl, rfl, trivial⟩ rfl
                      · refine pw_exit rfl ?_
                        refine pn_seq ?_
                        refine pw_seq ?_
                        refine pw_region ?_
                        refine po_joinK (Instarlaw25_LabKeeps_j1 fu s1 a2 b3 r8 r9) (fun (in24 : Bool) => [(1, .v (.int .i64 a2)), (2, .v (.int .i64 b3)), (5, .loc 5 0), (11, .loc 11 0), (12, .loc 12 0), (14, .v (.bool in24))]) (fun (in24 : Bool) => [(12, .box [.sl 5 false (r9.Classes.map cClass), .sl 7 false (r9.Main.map cOp)]), (11, .box [.sl 5 false (r8.Classes.map cClass), .sl 7 false (r8.Main.map cOp)]), (5, .box [.sl 5 false (s1.Classes.map cClass), .sl 7 false (s1.Main.map cOp)])]) ?_ fun hj1 => ?_
                        · rintro in24
                          refine pn_seq ?_
                          refine pw_seq ?_
                          refine pw_seq ?_
                          refine pw_region ?_
                          refine po_evs (T := tab) 1 rfl rfl ?_
                          refine po_nil ?_
                          refine pn_seq ?_
                          refine pw_block ?_
                          refine pw_loop' (Instarlaw25_LabKeeps_l2 fu s1 a2 b3 r8 r9 in24) (fun (i25 : Int) => [(1, .v (.int .i64 a2)), (2, .v (.int .i64 b3)), (5, .loc 5 0), (11, .loc 11 0), (12, .loc 12 0), (14, .v (.bool in24)), (15, .v (.int .i64 i25))]) (fun (i25 : Int) => [(12, .box [.sl 5 false (r9.Classes.map cClass), .sl 7 false (r9.Main.map cOp)]), (11, .box [.sl 5 false (r8.Classes.map cClass), .sl 7 false (r8.Main.map cOp)]), (5, .box [.sl 5 false (s1.Classes.map cClass), .sl 7 false (s1.Main.map cOp)])]) fu 0 (fun _ => rfl) ⟨rfl, rfl, rfl, rfl, rfl, rfl, rfl, trivial⟩ ⟨rfl, rfl, rfl, trivial⟩ rfl ?_
                          rintro k2 i25
                          refine pw_seq ?_
                          refine pw_seq ?_
                          refine pw_region ?_
                          refine po_evs (T := tab) 3 rfl rfl ?_
                          refine po_len (T := tab) cClass s1.Classes rfl rfl rfl rfl rfl rfl rfl rfl ?_
                          refine po_evs (T := tab) 1 rfl rfl ?_
                          refine po_nil ?_
                          refine pn_seq ?_
                          refine pw_cnd rfl ?_ ?_
                          · refine pw_skip ?_
                            refine pn_seq ?_
                            refine pw_seq ?_
                            refine pw_block ?_
                            refine pw_seq ?_
                            refine pw_region ?_
                            refine po_evs (T := tab) 2 rfl rfl ?_
                            refine po_nil ?_
                            refine pn_seq ?_
                            refine pw_seq ?_
                            refine pw_seq ?_
                            refine pw_region ?_
                            refine po_joinB (Instarlaw25_LabKeeps_j2 fu s1 r8 r9 i25 (Instarlaw25_LabKeeps_l2 fu s1 a2 b3 r8 r9 in24 k2)) (fun (from26 : Int) => [(1, .v (.int .i64 a2)), (2, .v (.int .i64 b3)), (5, .loc 5 0), (11, .loc 11 0), (12, .loc 12 0), (14, .v (.bool in24)), (15, .v (.int .i64 i25)), (16, .v (.int .i64 from26))]) (fun (from26 : Int) => [(12, .box [.sl 5 false (r9.Classes.map cClass), .sl 7 false (r9.Main.map cOp)]), (11, .box [.sl 5 false (r8.Classes.map cClass), .sl 7 false (r8.Main.map cOp)]), (5, .box [.sl 5 false (s1.Classes.map cClass), .sl 7 false (s1.Main.map cOp)])]) ?_ fun hj2 => ?_
                            · rintro from26
                              refine pn_seq ?_
                              refine pw_seq ?_
                              refine pw_draw mixed (by kernel_rfl) ?_
                              refine pd_evs (T := tab) 3 rfl rfl ?_
                              refine pd_idx (T := tab) cClass r8.Classes rfl rfl rfl rfl rfl rfl rfl fun y27 hy27 => ?_
                              refine pd_evs (T := tab) 1 rfl rfl ?_
                              refine pd_call (enc := fun (r28 : Bool) => .v (.bool r28)) (qs := [.agg (cClass y27)]) (Lab_Calm_ok fu y27) rfl rfl ⟨⟨_, rfl, .rfl⟩, trivial⟩ (fun _ => rfl) call9 rfl rfl fun r28 hr28 => ?_
                              refine pd_evs (T := tab) 3 rfl rfl ?_
                              refine pd_idx (T := tab) cClass s1.Classes rfl rfl rfl rfl rfl rfl rfl fun y29 hy29 => ?_
                              refine pd_evs (T := tab) 1 rfl rfl ?_
                              refine pd_call (enc := fun (r30 : Bool) => .v (.bool r30)) (qs := [.agg (cClass y29)]) (Lab_Calm_ok fu y29) rfl rfl ⟨⟨_, rfl, .rfl⟩, trivial⟩ (fun _ => rfl) call9 rfl rfl fun r30 hr30 => ?_
                              refine pd_evs (T := tab) 2 rfl rfl ?_
                              refine pd_split (j := 208) rfl ?_ ?_
                              · refine pd_evs (T := tab) 46 rfl rfl ?_
                                refine pd_nil ?_
                                refine pn_seq (pw_then rfl ?_)
                                refine pw_seq ?_
                                refine pw_region ?_
                                refine po_evs (T := tab) 1 rfl rfl ?_
                                refine po_nil ?_
                                refine pn_seq ?_
                                exact pw_retN (T := tab) rfl rfl rfl ⟨rfl, rfl⟩ trivial rfl
                              · refine pd_evs (T := tab) 3 rfl rfl ?_
                                refine pd_idx (T := tab) cClass r9.Classes rfl rfl rfl rfl rfl rfl rfl fun y31 hy31 => ?_
                                refine pd_evs (T := tab) 1 rfl rfl ?_
                                refine pd_call (enc := fun (r32 : Bool) => .v (.bool r32)) (qs := [.agg (cClass y31)]) (Lab_Calm_ok fu y31) rfl rfl ⟨⟨_, rfl, .rfl⟩, trivial⟩ (fun _ => rfl) call9 rfl rfl fun r32 hr32 => ?_
                                refine pd_evs (T := tab) 3 rfl rfl ?_
                                refine pd_idx (T := tab) cClass s1.Classes rfl rfl rfl rfl rfl rfl rfl fun y33 hy33 => ?_
                                refine pd_evs (T := tab) 1 rfl rfl ?_
                                refine pd_call (enc := fun (r34 : Bool) => .v (.bool r34)) (qs := [.agg (cClass y33)]) (Lab_Calm_ok fu y33) rfl rfl ⟨⟨_, rfl, .rfl⟩, trivial⟩ (fun _ => rfl) call9 rfl rfl fun r34 hr34 => ?_
                                refine pd_evs (T := tab) 3 rfl rfl ?_
                                refine pd_split (j := 223) rfl ?_ ?_
                                · refine pd_evs (T := tab) 31 rfl rfl ?_
                                  refine pd_nil ?_
                                  refine pn_seq (pw_then rfl ?_)
                                  refine pw_seq ?_
                                  refine pw_region ?_
                                  refine po_evs (T := tab) 1 rfl rfl ?_
                                  refine po_nil ?_
                                  refine pn_seq ?_
                                  exact pw_retN (T := tab) rfl rfl rfl ⟨rfl, rfl⟩ trivial rfl
                                · refine pd_evs (T := tab) 3 rfl rfl ?_
                                  refine pd_idx (T := tab) cClass r8.Classes rfl rfl rfl rfl rfl rfl rfl fun y35 hy35 => ?_
                                  refine pd_evs (T := tab) 5 rfl rfl ?_
                                  refine pd_idx (T := tab) cClass s1.Classes rfl rfl rfl rfl rfl rfl rfl fun y36 hy36 => ?_
                                  refine pd_evs (T := tab) 5 rfl rfl ?_
                                  refine pd_split (j := 238) rfl ?_ ?_
                                  · refine pd_evs (T := tab) 16 rfl rfl ?_
                                    refine pd_nil ?_
                                    refine pn_seq (pw_then rfl ?_)
                                    refine pw_seq ?_
                                    refine pw_region ?_
                                    refine po_evs (T := tab) 1 rfl rfl ?_
                                    refine po_nil ?_
                                    refine pn_seq ?_
                                    exact pw_retN (T := tab) rfl rfl rfl ⟨rfl, rfl⟩ trivial rfl
                                  · refine pd_evs (T := tab) 3 rfl rfl ?_
                                    refine pd_idx (T := tab) cClass r8.Classes rfl rfl rfl rfl rfl rfl rfl fun y37 hy37 => ?_
                                    refine pd_evs (T := tab) 2 rfl rfl ?_
                                    refine pd_len (T := tab) cHook y37.Hooks rfl rfl rfl rfl rfl rfl rfl rfl ?_
                                    refine pd_evs (T := tab) 3 rfl rfl ?_
                                    refine pd_idx (T := tab) cClass s1.Classes rfl rfl rfl rfl rfl rfl rfl fun y38 hy38 => ?_
                                    refine pd_evs (T := tab) 2 rfl rfl ?_
                                    refine pd_len (T := tab) cHook y38.Hooks rfl rfl rfl rfl rfl rfl rfl rfl ?_
                                    refine pd_evs (T := tab) 2 rfl rfl ?_
                                    refine pd_nil ?_
                                    refine pn_seq ?_
                                    refine pw_cnd rfl ?_ ?_
                                    · refine pw_seq ?_
                                      refine pw_region ?_
                                      refine po_evs (T := tab) 1 rfl rfl ?_
                                      refine po_nil ?_
                                      refine pn_seq ?_
                                      exact pw_retN (T := tab) rfl rfl rfl ⟨rfl, rfl⟩ trivial rfl
                                    · refine pw_skip ?_
                                      refine pn_block ?_
                                      refine pn_seq ?_
                                      refine pw_region ?_
                                      refine po_evs (T := tab) 1 rfl rfl ?_
                                      refine po_arith' (T := tab) rfl rfl rfl rfl fun i39 hi39 => ?_
                                      refine po_evs (T := tab) 1 rfl rfl ?_
                                      refine po_nil ?_
                                      exact pn_iter' i39 ⟨rfl, rfl, rfl, rfl, rfl, rfl, rfl, trivial⟩ ⟨rfl, rfl, rfl, trivial⟩ rfl
                            · refine po_evs (T := tab) 2 rfl rfl ?_
                              refine po_split (j := 182) rfl ?_ ?_
                              · refine po_evs (T := tab) 4 rfl rfl ?_
                                refine po_nil ?_
                                refine pn_seq ?_
                                refine pw_cnd rfl ?_ ?_
                                · refine pw_region ?_
                                  refine po_evs (T := tab) 2 rfl rfl ?_
                                  refine po_nil ?_
                                  exact pn_sub' (hj2 b3) ⟨rfl, rfl, rfl, rfl, rfl, rfl, rfl, rfl, trivial⟩ ⟨rfl, rfl, rfl, trivial⟩ rfl
                                · refine pw_seq ?_
                                  refine pw_region ?_
                                  refine po_evs (T := tab) 2 rfl rfl ?_
                                  refine po_split (j := 189) rfl ?_ ?_
                                  · refine po_evs (T := tab) 4 rfl rfl ?_
                                    refine po_nil ?_
                                    refine pn_seq ?_
                                    refine pw_cnd rfl ?_ ?_
                                    · refine pw_region ?_
                                      refine po_evs (T := tab) 2 rfl rfl ?_
                                      refine po_nil ?_
                                      exact pn_sub' (hj2 a2) ⟨rfl, rfl, rfl, rfl, rfl, rfl, rfl, rfl, trivial⟩ ⟨rfl, rfl, rfl, trivial⟩ rfl
                                    · refine pw_skip ?_
                                      exact pn_sub' (hj2 i25) ⟨rfl, rfl, rfl, rfl, rfl, rfl, rfl, rfl, trivial⟩ ⟨rfl, rfl, rfl, trivial⟩ rfl
                                  · refine po_evs (T := tab) 4 rfl rfl ?_
                                    refine po_nil ?_
                                    refine pn_seq (pw_else rfl ?_)
                                    refine pw_skip ?_
                                    exact pn_sub' (hj2 i25) ⟨rfl, rfl, rfl, rfl, rfl, rfl, rfl, rfl, trivial⟩ ⟨rfl, rfl, rfl, trivial⟩ rfl
                              · refine po_evs (T := tab) 4 rfl rfl ?_
                                refine po_nil ?_
                                refine pn_seq (pw_else rfl ?_)
                                refine pw_seq ?_
                                refine pw_region ?_
                                refine po_evs (T := tab) 2 rfl rfl ?_
                                refine po_split (j := 189) rfl ?_ ?_
                                · refine po_evs (T := tab) 4 rfl rfl ?_
                                  refine po_nil ?_
                                  refine pn_seq ?_
                                  refine pw_cnd rfl ?_ ?_
                                  · refine pw_region ?_
                                    refine po_evs (T := tab) 2 rfl rfl ?_
                                    refine po_nil ?_
                                    exact pn_sub' (hj2 a2) ⟨rfl, rfl, rfl, rfl, rfl, rfl, rfl, rfl, trivial⟩ ⟨rfl, rfl, rfl, trivial⟩ rfl
                                  · refine pw_skip ?_
                                    exact pn_sub' (hj2 i25) ⟨rfl, rfl, rfl, rfl, rfl, rfl, rfl, rfl, trivial⟩ ⟨rfl, rfl, rfl, trivial⟩ rfl
                                · refine po_evs (T := tab) 4 rfl rfl ?_
                                  refine po_nil ?_
                                  refine pn_seq (pw_else rfl ?_)
                                  refine pw_skip ?_
                                  exact pn_sub' (hj2 i25) ⟨rfl, rfl, rfl, rfl, rfl, rfl, rfl, rfl, trivial⟩ ⟨rfl, rfl, rfl, trivial⟩ rfl
                          · refine pw_exit rfl ?_
                            refine pn_seq ?_
                            refine pw_seq ?_
                            refine pw_region ?_
                            refine po_evs (T := tab) 1 rfl rfl ?_
                            refine po_nil ?_
                            refine pn_seq ?_
                            exact pw_retN (T := tab) rfl rfl rfl ⟨rfl, rfl⟩ trivial rfl
                        · refine po_evs (T := tab) 3 rfl rfl ?_
                          refine po_split (j := 155) rfl ?_ ?_
                          · refine po_evs (T := tab) 4 rfl rfl ?_
                            refine po_split (j := 159) rfl ?_ ?_
                            · refine po_evs (T := tab) 3 rfl rfl ?_
                              refine po_len (T := tab) cClass s1.Classes rfl rfl rfl rfl rfl rfl rfl rfl ?_
                              refine po_evs (T := tab) 3 rfl rfl ?_
                              refine po_split (j := 166) rfl ?_ ?_
                              · refine po_evs (T := tab) 3 rfl rfl ?_
                                refine po_len (T := tab) cClass s1.Classes rfl rfl rfl rfl rfl rfl rfl rfl ?_
                                refine po_evs (T := tab) 3 rfl rfl ?_
                                refine po_nil ?_
                                exact pn_sub' (hj1 (decide (b3 < ((s1.Classes.length : Nat) : Int)))) ⟨rfl, rfl, rfl, rfl, rfl, rfl, trivial⟩ ⟨rfl, rfl, rfl, trivial⟩ rfl
                              · refine po_evs (T := tab) 7 rfl rfl ?_
                                refine po_nil ?_
                                exact pn_sub' (hj1 false) ⟨rfl, rfl, rfl, rfl, rfl, rfl, trivial⟩ ⟨rfl, rfl, rfl, trivial⟩ rfl
                            · refine po_evs (T := tab) 14 rfl rfl ?_
                              refine po_nil ?_
                              exact pn_sub' (hj1 false) ⟨rfl, rfl, rfl, rfl, rfl, rfl, trivial⟩ ⟨rfl, rfl, rfl, trivial⟩ rfl
                          · refine po_evs (T := tab) 18 rfl rfl ?_
                            refine po_nil ?_
                            exact pn_sub' (hj1 false) ⟨rfl, rfl, rfl, rfl, rfl, rfl, trivial⟩ ⟨rfl, rfl, rfl, trivial⟩ rfl

end Go.Proofs.Ytcojcgljfgljjaa
