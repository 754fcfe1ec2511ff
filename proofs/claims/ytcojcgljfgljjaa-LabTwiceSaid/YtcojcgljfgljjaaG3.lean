/- Models and proofs, printed by emit2.py. -/
import Derived.Test.YtcojcgljfgljjaaG2
namespace Go.Proofs.Ytcojcgljfgljjaa
open Go Go.Pw
set_option linter.unusedVariables false

set_option maxHeartbeats 10000000 in
set_option maxRecDepth 100000 in
theorem Instarlaw25_LabKeeps_ok (fu : Nat) (s1 : Script) (a2 : Int) (b3 : Int) (x4 : Bs) (y5 : Bs) : ∀ r, Instarlaw25_LabKeeps_m fu s1 a2 b3 x4 y5 = some r → DC Try.prog 4 [.agg (cScript s1), .v (.int .i64 a2), .v (.int .i64 b3), .v (.string ⟨⟨x4⟩⟩), .v (.string ⟨⟨y5⟩⟩)] (.v (.bool r)) := by
  intro r hr
  refine fc_intro (args := [.agg (cScript s1), .v (.int .i64 a2), .v (.int .i64 b3), .v (.string ⟨⟨x4⟩⟩), .v (.string ⟨⟨y5⟩⟩)]) (S := []) (N0 := []) (post := fun r p S => p = .v (.bool r) ∧ S = []) Try.func4 rfl rfl hr fun w0 X X0 σ0 => ?_
  refine pw_seq ?_
  refine pw_region ?_
  refine po_box  5 rfl rfl rfl rfl rfl rfl rfl rfl rfl rfl ?_
  refine po_evs (T := tab) 1 rfl rfl ?_
  refine po_nil ?_
  refine pn_seq ?_
  refine pw_seq ?_
  refine pw_seq ?_
  refine pw_region ?_
  refine po_call (enc := fun (r6 : Bool) => .v (.bool r6)) (qs := []) (Instarlaw25_awake_ok fu) rfl rfl trivial (fun _ => rfl) call6 rfl rfl fun r6 hr6 => ?_
  refine po_evs (T := tab) 1 rfl rfl ?_
  refine po_nil ?_
  refine pn_seq ?_
  refine pw_cnd rfl ?_ ?_
  · refine pw_seq ?_
    refine pw_region ?_
    refine po_evs (T := tab) 1 rfl rfl ?_
    refine po_nil ?_
    refine pn_seq ?_
    exact pw_retN (T := tab) rfl rfl rfl ⟨rfl, rfl⟩ trivial rfl
  · refine pw_skip ?_
    refine pn_seq ?_
    refine pw_seq ?_
    refine pw_seq ?_
    refine pw_region ?_
    refine po_evs (T := tab) 1 rfl rfl ?_
    refine po_call (enc := fun (r7 : Bool) => .v (.bool r7)) (qs := [.agg (cScript s1)]) (Instarlaw25_few_ok fu s1) rfl rfl ⟨⟨_, rfl, .rfl⟩, trivial⟩ (fun _ => rfl) call7 rfl rfl fun r7 hr7 => ?_
    refine po_evs (T := tab) 2 rfl rfl ?_
    refine po_split (j := 22) rfl ?_ ?_
    · refine po_evs (T := tab) 9 rfl rfl ?_
      refine po_nil ?_
      refine pn_seq (pw_then rfl ?_)
      refine pw_seq ?_
      refine pw_region ?_
      refine po_evs (T := tab) 1 rfl rfl ?_
      refine po_nil ?_
      refine pn_seq ?_
      exact pw_retN (T := tab) rfl rfl rfl ⟨rfl, rfl⟩ trivial rfl
    · refine po_evs (T := tab) 5 rfl rfl ?_
      refine po_split (j := 27) rfl ?_ ?_
      · refine po_evs (T := tab) 4 rfl rfl ?_
        refine po_nil ?_
        refine pn_seq (pw_then rfl ?_)
        refine pw_seq ?_
        refine pw_region ?_
        refine po_evs (T := tab) 1 rfl rfl ?_
        refine po_nil ?_
        refine pn_seq ?_
        exact pw_retN (T := tab) rfl rfl rfl ⟨rfl, rfl⟩ trivial rfl
      · refine po_evs (T := tab) 4 rfl rfl ?_
        refine po_nil ?_
        refine pn_seq ?_
        refine pw_cnd rfl ?_ ?_
        · refine pw_seq ?_
          refine pw_region ?_
          refine po_evs (T := tab) 1 rfl rfl ?_
          refine po_nil ?_
          refine pn_seq ?_
          exact pw_retN (T := tab) rfl rfl rfl ⟨rfl, rfl⟩ trivial rfl
        · refine pw_skip ?_
          refine pn_seq ?_
          refine pw_seq ?_
          refine pw_sub' (E' := [(1, .v (.int .i64 a2)), (2, .v (.int .i64 b3)), (3, .v (.string ⟨⟨x4⟩⟩)), (4, .v (.string ⟨⟨y5⟩⟩)), (5, .loc 5 0)]) (S' := [(5, .box [.sl 5 false (s1.Classes.map cClass), .sl 7 false (s1.Main.map cOp)])]) ?_ ⟨rfl, rfl, rfl, rfl, rfl, trivial⟩ ⟨rfl, trivial⟩ rfl
          refine pw_drawV [0, 0, 0, 7, 0, 0, 0, 127, 0, 0, 1023, 2047] mixed (by kernel_rfl) (by kernel_rfl) rfl rfl ?_
          refine pdv_step0 [10, 11] [64] [] [5] [5] [(32, .agg (cScript s1))] [(5, .box [.sl 5 false (s1.Classes.map cClass), .sl 7 false (s1.Main.map cOp)])] rfl rfl rfl rfl (by kernel_rfl) (by kernel_rfl) (by kernel_rfl) ⟨rfl, trivial⟩ (fun w0 X X0 σ0 => by refine po_evs (T := tab) 1 rfl rfl ?_; refine po_nil ?_; exact pn_end0 ⟨rfl, trivial⟩ ⟨rfl, trivial⟩ rfl) ?_
          refine pdv_step0 [2] [66] [] [] [] [(33, .v (.int .i64 a2))] [] rfl rfl rfl rfl (by kernel_rfl) (by kernel_rfl) (by kernel_rfl) trivial (fun w0 X X0 σ0 => by refine po_evs (T := tab) 1 rfl rfl ?_; refine po_nil ?_; exact pn_end0 ⟨rfl, trivial⟩ trivial rfl) ?_
          refine pdv_step0 [4] [68] [] [] [] [(34, .v (.int .i64 b3))] [] rfl rfl rfl rfl (by kernel_rfl) (by kernel_rfl) (by kernel_rfl) trivial (fun w0 X X0 σ0 => by refine po_evs (T := tab) 1 rfl rfl ?_; refine po_nil ?_; exact pn_end0 ⟨rfl, trivial⟩ trivial rfl) ?_
          refine pdv_step (M := (Lab_Classes_m fu s1 a2 b3)) (ment := [(70, [])]) [64, 66, 68] [70] [] [] [] (fun r8 => [(35, .agg (cScript r8))]) (fun r8 => []) rfl rfl (fun _ => rfl) (fun _ => rfl) (by kernel_rfl) (by kernel_rfl) (fun _ => by kernel_rfl) (fun _ => trivial) (fun w0 X X0 σ0 => by refine po_call (enc := fun (r8 : Script) => .agg (cScript r8)) (qs := [.agg (cScript s1), .v (.int .i64 a2), .v (.int .i64 b3)]) (Lab_Classes_ok fu s1 a2 b3) rfl rfl ⟨⟨_, rfl, .rfl⟩, ⟨_, rfl, .rfl⟩, ⟨_, rfl, .rfl⟩, trivial⟩ (fun _ => rfl) call12 rfl rfl fun r8 hr8 => ?_; refine po_nil ?_; exact pn_end ⟨rfl, trivial⟩ trivial rfl) fun r8 hr8 => ?_
          refine pdv_step0 [10, 11] [72] [] [5] [5] [(36, .agg (cScript s1))] [(5, .box [.sl 5 false (s1.Classes.map cClass), .sl 7 false (s1.Main.map cOp)])] rfl rfl rfl rfl (by kernel_rfl) (by kernel_rfl) (by kernel_rfl) ⟨rfl, trivial⟩ (fun w0 X X0 σ0 => by refine po_evs (T := tab) 1 rfl rfl ?_; refine po_nil ?_; exact pn_end0 ⟨rfl, trivial⟩ ⟨rfl, trivial⟩ rfl) ?_
          refine pdv_step0 [6] [74] [] [] [] [(37, .v (.string ⟨⟨x4⟩⟩))] [] rfl rfl rfl rfl (by kernel_rfl) (by kernel_rfl) (by kernel_rfl) trivial (fun w0 X X0 σ0 => by refine po_evs (T := tab) 1 rfl rfl ?_; refine po_nil ?_; exact pn_end0 ⟨rfl, trivial⟩ trivial rfl) ?_
          refine pdv_step0 [8] [76] [] [] [] [(38, .v (.string ⟨⟨y5⟩⟩))] [] rfl rfl rfl rfl (by kernel_rfl) (by kernel_rfl) (by kernel_rfl) trivial (fun w0 X X0 σ0 => by refine po_evs (T := tab) 1 rfl rfl ?_; refine po_nil ?_; exact pn_end0 ⟨rfl, trivial⟩ trivial rfl) ?_
          refine pdv_step (M := (Lab_Names_m fu s1 x4 y5)) (ment := [(78, [])]) [72, 74, 76] [78] [] [] [] (fun r9 => [(39, .agg (cScript r9))]) (fun r9 => []) rfl rfl (fun _ => rfl) (fun _ => rfl) (by kernel_rfl) (by kernel_rfl) (fun _ => by kernel_rfl) (fun _ => trivial) (fun w0 X X0 σ0 => by refine po_call (enc := fun (r9 : Script) => .agg (cScript r9)) (qs := [.agg (cScript s1), .v (.string ⟨⟨x4⟩⟩), .v (.string ⟨⟨y5⟩⟩)]) (Lab_Names_ok fu s1 x4 y5) rfl rfl ⟨⟨_, rfl, .rfl⟩, ⟨_, rfl, .rfl⟩, ⟨_, rfl, .rfl⟩, trivial⟩ (fun _ => rfl) call17 rfl rfl fun r9 hr9 => ?_; refine po_nil ?_; exact pn_end ⟨rfl, trivial⟩ trivial rfl) fun r9 hr9 => ?_
          refine pdv_step0 [] [22, 23] [11] [] [] [(11, .loc 11 0)] [(11, .box [.v (.slice none 0 0), .v (.slice none 0 0)])] rfl rfl rfl rfl (by kernel_rfl) (by kernel_rfl) (by kernel_rfl) trivial (fun w0 X X0 σ0 => by refine po_alloc (T := tab) 11 rfl rfl rfl rfl rfl rfl rfl rfl rfl ?_; refine po_nil ?_; exact pn_end0 ⟨rfl, trivial⟩ ⟨rfl, trivial⟩ rfl) ?_
          refine pdv_step0 [] [24, 25] [12] [] [] [(12, .loc 12 0)] [(12, .box [.v (.slice none 0 0), .v (.slice none 0 0)])] rfl rfl rfl rfl (by kernel_rfl) (by kernel_rfl) (by kernel_rfl) trivial (fun w0 X X0 σ0 => by refine po_alloc (T := tab) 12 rfl rfl rfl rfl rfl rfl rfl rfl rfl ?_; refine po_nil ?_; exact pn_end0 ⟨rfl, trivial⟩ ⟨rfl, trivial⟩ rfl) ?_
          refine pdv_step0 [22, 23, 70] [23] [] [11] [] [] [(11, .box [.sl 5 false (r8.Classes.map cClass), .sl 7 false (r8.Main.map cOp)])] rfl rfl rfl rfl (by kernel_rfl) (by kernel_rfl) (by kernel_rfl) trivial (fun w0 X X0 σ0 => by refine po_store (T := tab) rfl rfl rfl rfl rfl rfl rfl rfl rfl rfl rfl rfl ?_; refine po_nil ?_; exact pn_end0 trivial ⟨rfl, trivial⟩ rfl) ?_
          refine pdv_step0 [24, 25, 78] [25] [] [12] [] [] [(12, .box [.sl 5 false (r9.Classes.map cClass), .sl 7 false (r9.Main.map cOp)])] rfl rfl rfl rfl (by kernel_rfl) (by kernel_rfl) (by kernel_rfl) trivial (fun w0 X X0 σ0 => by refine po_store (T := tab) rfl rfl rfl rfl rfl rfl rfl rfl rfl rfl rfl rfl ?_; refine po_nil ?_; exact pn_end0 trivial ⟨rfl, trivial⟩ rfl) ?_
          refine pdv_nil rfl rfl ?_
          refine pn_seq ?_
          refine pw_seq ?_
          refine pw_seq ?_
          refine pw_draw mixed (by kernel_rfl) ?_
          refine pd_evs (T := tab) 1 rfl rfl ?_
          refine pd_call (enc := fun (r10 : Bool) => .v (.bool r10)) (qs := [.agg (cScript r8)]) (Engine_Allowed_ok fu r8) rfl rfl ⟨⟨_, rfl, .rfl⟩, trivial⟩ (fun _ => rfl) call24 rfl rfl fun r10 hr10 => ?_
          refine pd_evs (T := tab) 1 rfl rfl ?_
          refine pd_call (enc := fun (r11 : Bool) => .v (.bool r11)) (qs := [.agg (cScript s1)]) (Engine_Allowed_ok fu s1) rfl rfl ⟨⟨_, rfl, .rfl⟩, trivial⟩ (fun _ => rfl) call24 rfl rfl fun r11 hr11 => ?_
          refine pd_evs (T := tab) 2 rfl rfl ?_
          refine pd_split (j := 45) rfl ?_ ?_
          · refine pd_evs (T := tab) 42 rfl rfl ?_
            refine pd_nil ?_
            refine pn_seq (pw_then rfl ?_)
            refine pw_seq ?_
            refine pw_region ?_
            refine po_evs (T := tab) 1 rfl rfl ?_
            refine po_nil ?_
            refine pn_seq ?_
            exact pw_retN (T := tab) rfl rfl rfl ⟨rfl, rfl⟩ trivial rfl
          · refine pd_evs (T := tab) 1 rfl rfl ?_
            refine pd_call (enc := fun (r12 : Bool) => .v (.bool r12)) (qs := [.agg (cScript r9)]) (Engine_Allowed_ok fu r9) rfl rfl ⟨⟨_, rfl, .rfl⟩, trivial⟩ (fun _ => rfl) call24 rfl rfl fun r12 hr12 => ?_
            refine pd_evs (T := tab) 1 rfl rfl ?_
            refine pd_call (enc := fun (r13 : Bool) => .v (.bool r13)) (qs := [.agg (cScript s1)]) (Engine_Allowed_ok fu s1) rfl rfl ⟨⟨_, rfl, .rfl⟩, trivial⟩ (fun _ => rfl) call24 rfl rfl fun r13 hr13 => ?_
            refine pd_evs (T := tab) 3 rfl rfl ?_
            refine pd_split (j := 52) rfl ?_ ?_
            · refine pd_evs (T := tab) 35 rfl rfl ?_
              refine pd_nil ?_
              refine pn_seq (pw_then rfl ?_)
              refine pw_seq ?_
              refine pw_region ?_
              refine po_evs (T := tab) 1 rfl rfl ?_
              refine po_nil ?_
              refine pn_seq ?_
              exact pw_retN (T := tab) rfl rfl rfl ⟨rfl, rfl⟩ trivial rfl
            · refine pd_evs (T := tab) 2 rfl rfl ?_
              refine pd_len (T := tab) cOp r8.Main rfl rfl rfl rfl rfl rfl rfl rfl ?_
              refine pd_evs (T := tab) 2 rfl rfl ?_
              refine pd_len (T := tab) cOp s1.Main rfl rfl rfl rfl rfl rfl rfl rfl ?_
              refine pd_evs (T := tab) 3 rfl rfl ?_
              refine pd_split (j := 61) rfl ?_ ?_
              · refine pd_evs (T := tab) 26 rfl rfl ?_
                refine pd_nil ?_
                refine pn_seq (pw_then rfl ?_)
                refine pw_seq ?_
                refine pw_region ?_
                refine po_evs (T := tab) 1 rfl rfl ?_
                refine po_nil ?_
                refine pn_seq ?_
                exact pw_retN (T := tab) rfl rfl rfl ⟨rfl, rfl⟩ trivial rfl
              · refine pd_evs (T := tab) 2 rfl rfl ?_
                refine pd_len (T := tab) cOp r9.Main rfl rfl rfl rfl rfl rfl rfl rfl ?_
                refine pd_evs (T := tab) 2 rfl rfl ?_
                refine pd_len (T := tab) cOp s1.Main rfl rfl rfl rfl rfl rfl rfl rfl ?_
                refine pd_evs (T := tab) 3 rfl rfl ?_
                refine pd_split (j := 70) rfl ?_ ?_
                · refine pd_evs (T := tab) 17 rfl rfl ?_
                  refine pd_nil ?_
                  refine pn_seq (pw_then rfl ?_)
                  refine pw_seq ?_
                  refine pw_region ?_
                  refine po_evs (T := tab) 1 rfl rfl ?_
                  refine po_nil ?_
                  refine pn_seq ?_
                  exact pw_retN (T := tab) rfl rfl rfl ⟨rfl, rfl⟩ trivial rfl
                · refine pd_evs (T := tab) 2 rfl rfl ?_
                  refine pd_len (T := tab) cClass r8.Classes rfl rfl rfl rfl rfl rfl rfl rfl ?_
                  refine pd_evs (T := tab) 2 rfl rfl ?_
                  refine pd_len (T := tab) cClass s1.Classes rfl rfl rfl rfl rfl rfl rfl rfl ?_
                  refine pd_evs (T := tab) 3 rfl rfl ?_
                  refine pd_split (j := 79) rfl ?_ ?_
                  · refine pd_evs (T := tab) 8 rfl rfl ?_
                    refine pd_nil ?_
                    refine pn_seq (pw_then rfl ?_)
                    refine pw_seq ?_
                    refine pw_region ?_
                    refine po_evs (T := tab) 1 rfl rfl ?_
                    refine po_nil ?_
                    refine pn_seq ?_
                    exact pw_retN (T := tab) rfl rfl rfl ⟨rfl, rfl⟩ trivial rfl
                  · refine pd_evs (T := tab) 2 rfl rfl ?_
                    refine pd_len (T := tab) cClass r9.Classes rfl rfl rfl rfl rfl rfl rfl rfl ?_
                    refine pd_evs (T := tab) 2 rfl rfl ?_
                    refine pd_len (T := tab) cClass s1.Classes rfl rfl rfl rfl rfl rfl rfl rfl ?_
                    refine pd_evs (T := tab) 2 rfl rfl ?_
                    refine pd_nil ?_
                    refine pn_seq ?_
                    refine pw_cnd rfl ?_ ?_
                    · refine pw_seq ?_
                      refine pw_region ?_
                      refine po_evs (T := tab) 1 rfl rfl ?_
                      refine po_nil ?_
                      refine pn_seq ?_
                      exact pw_retN (T := tab) rfl rfl rfl ⟨rfl, rfl⟩ trivial rfl
                    · refine pw_skip ?_
                      refine pn_seq ?_
                      refine pw_seq ?_
                      refine pw_seq ?_
                      refine pw_region ?_
                      refine po_evs (T := tab) 1 rfl rfl ?_
                      refine po_nil ?_
                      refine pn_seq ?_
                      refine pw_block ?_
                      refine pw_loop' (Instarlaw25_LabKeeps_l1 fu s1 a2 b3 r8 r9) (fun (i14 : Int) => [(1, .v (.int .i64 a2)), (2, .v (.int .i64 b3)), (5, .loc 5 0), (11, .loc 11 0), (12, .loc 12 0), (13, .v (.int .i64 i14))]) (fun (i14 : Int) => [(12, .box [.sl 5 false (r9.Classes.map cClass), .sl 7 false (r9.Main.map cOp)]), (11, .box [.sl 5 false (r8.Classes.map cClass), .sl 7 false (r8.Main.map cOp)]), (5, .box [.sl 5 false (s1.Classes.map cClass), .sl 7 false (s1.Main.map cOp)])]) fu 0 (fun _ => rfl) ⟨rfl, rfl, rfl, rfl, rfl, rfl, trivial⟩ ⟨rfl, rfl, rfl, trivial⟩ rfl ?_
                      rintro k1 i14
                      refine pw_seq ?_
                      refine pw_seq ?_
                      refine pw_region ?_
                      refine po_evs (T := tab) 3 rfl rfl ?_
                      refine po_len (T := tab) cOp s1.Main rfl rfl rfl rfl rfl rfl rfl rfl ?_
                      refine po_evs (T := tab) 1 rfl rfl ?_
                      refine po_nil ?_
                      refine pn_seq ?_
                      refine pw_cnd rfl ?_ ?_
                      · refine pw_skip ?_
                        refine pn_seq ?_
                        refine pw_seq ?_
                        refine pw_block ?_
                        refine pw_seq ?_
                        refine pw_draw mixed (by kernel_rfl) ?_
                        refine pd_evs (T := tab) 3 rfl rfl ?_
                        refine pd_idx (T := tab) cOp r8.Main rfl rfl rfl rfl rfl rfl rfl fun y15 hy15 => ?_
                        refine pd_evs (T := tab) 5 rfl rfl ?_
                        refine pd_idx (T := tab) cOp s1.Main rfl rfl rfl rfl rfl rfl rfl fun y16 hy16 => ?_
                        refine pd_evs (T := tab) 4 rfl rfl ?_
                        refine pd_split (j := 108) rfl ?_ ?_
                        · refine pd_evs (T := tab) 44 rfl rfl ?_
                          refine pd_nil ?_
                          refine pn_seq (pw_then rfl ?_)
                          refine pw_seq ?_
                          refine pw_region ?_
                          refine po_evs (T := tab) 1 rfl rfl ?_
                          refine po_nil ?_
                          refine pn_seq ?_
                          exact pw_retN (T := tab) rfl rfl rfl ⟨rfl, rfl⟩ trivial rfl
                        · refine pd_evs (T := tab) 3 rfl rfl ?_
                          refine pd_idx (T := tab) cOp r9.Main rfl rfl rfl rfl rfl rfl rfl fun y17 hy17 => ?_
                          refine pd_evs (T := tab) 5 rfl rfl ?_
                          refine pd_idx (T := tab) cOp s1.Main rfl rfl rfl rfl rfl rfl rfl fun y18 hy18 => ?_
                          refine pd_evs (T := tab) 5 rfl rfl ?_
                          refine pd_split (j := 123) rfl ?_ ?_
                          · refine pd_evs (T := tab) 29 rfl rfl ?_
                            refine pd_nil ?_
                            refine pn_seq (pw_then rfl ?_)
                            refine pw_seq ?_
                            refine pw_region ?_
                            refine po_evs (T := tab) 1 rfl rfl ?_
                            refine po_nil ?_
                            refine pn_seq ?_
                            exact pw_retN (T := tab) rfl rfl rfl ⟨rfl, rfl⟩ trivial rfl
                          · refine pd_evs (T := tab) 3 rfl rfl ?_
                            refine pd_idx (T := tab) cOp r8.Main rfl rfl rfl rfl rfl rfl rfl fun y19 hy19 => ?_
                            refine pd_evs (T := tab) 5 rfl rfl ?_
                            refine pd_idx (T := tab) cOp s1.Main rfl rfl rfl rfl rfl rfl rfl fun y20 hy20 => ?_
                            refine pd_evs (T := tab) 5 rfl rfl ?_
                            refine pd_split (j := 138) rfl ?_ ?_
                            · refine pd_evs (T := tab) 14 rfl rfl ?_
                              refine pd_nil ?_
                              refine pn_seq (pw_then rfl ?_)
                              refine pw_seq ?_
                              refine pw_region ?_
                              refine po_evs (T := tab) 1 rfl rfl ?_
                              refine po_nil ?_
                              refine pn_seq ?_
                              exact pw_retN (T := tab) rfl rfl rfl ⟨rfl, rfl⟩ trivial rfl
                            · refine pd_evs (T := tab) 3 rfl rfl ?_
                              refine pd_idx (T := tab) cOp r9.Main rfl rfl rfl rfl rfl rfl rfl fun y21 hy21 => ?_
                              refine pd_evs (T := tab) 5 rfl rfl ?_
                              refine pd_idx (T := tab) cOp s1.Main rfl rfl rfl rfl rfl rfl rfl fun y22 hy22 => ?_
                              refine pd_evs (T := tab) 4 rfl rfl ?_
                              refine pd_nil ?_
                              refine pn_seq ?_
                              refine pw_cnd rfl ?_ ?_
                              · refine pw_seq ?_
                                refine pw_region ?_
                                refine po_evs (T := tab) 1 rfl rfl ?_
                                refine po_nil ?_
                                refine pn_seq ?_
                                exact pw_retN (T := tab) rfl rfl rfl ⟨rfl, rfl⟩ trivial rfl
                              · refine pw_skip ?_
                                refine pn_block ?_
                                refine pn_seq ?_
                                refine pw_region ?_
                                refine po_evs (T := tab) 1 rfl rfl ?_
                                refine po_arith' (T := tab) rfl rfl rfl rfl fun i23 hi23 => ?_
                                refine po_evs (T := tab) 1 rfl rfl ?_
                                refine po_nil ?_
                                exact pn_iter' i23 ⟨rfl, rfl, rfl, rfl, rfl, rfl, trivial⟩ ⟨rfl, rfl, rfl, trivial⟩ rfl
                      · refine pw_exit rfl ?_
                        refine pn_seq ?_
                        refine pw_seq ?_
                        refine pw_region ?_
                        refine po_joinK (Instarlaw25_LabKeeps_j1 fu s1 a2 b3 r8 r9) (fun (in24 : Bool) => [(1, .v (.int .i64 a2)), (2, .v (.int .i64 b3)), (5, .loc 5 0), (11, .loc 11 0), (12, .loc 12 0), (14, .v (.bool in24))]) (fun (in24 : Bool) => [(12, .box [.sl 5 false (r9.Classes.map cClass), .sl 7 false (r9.Main.map cOp)]), (11, .box [.sl 5 false (r8.Classes.map cClass), .sl 7 false (r8.Main.map cOp)]), (5, .box [.sl 5 false (s1.Classes.map cClass), .sl 7 false (s1.Main.map cOp)])]) ?_ fun hj1 => ?_
                        · rintro in24
                          refine pn_seq ?_
                          refine pw_seq ?_
                          refine pw_seq ?_
                          refine pw_region ?_
                          refine po_evs (T := tab) 1 rfl rfl ?_
                          refine po_nil ?_
                          refine pn_seq ?_
                          refine pw_block ?_
                          refine pw_loop' (Instarlaw25_LabKeeps_l2 fu s1 a2 b3 r8 r9 in24) (fun (i25 : Int) => [(1, .v (.int .i64 a2)), (2, .v (.int .i64 b3)), (5, .loc 5 0), (11, .loc 11 0), (12, .loc 12 0), (14, .v (.bool in24)), (15, .v (.int .i64 i25))]) (fun (i25 : Int) => [(12, .box [.sl 5 false (r9.Classes.map cClass), .sl 7 false (r9.Main.map cOp)]), (11, .box [.sl 5 false (r8.Classes.map cClass), .sl 7 false (r8.Main.map cOp)]), (5, .box [.sl 5 false (s1.Classes.map cClass), .sl 7 false (s1.Main.map cOp)])]) fu 0 (fun _ => rfl) ⟨rfl, rfl, rfl, rfl, rfl, rfl, rfl, trivial⟩ ⟨rfl, rfl, rfl, trivial⟩ rfl ?_
                          rintro k2 i25
                          refine pw_seq ?_
                          refine pw_seq ?_
                          refine pw_region ?_
                          refine po_evs (T := tab) 3 rfl rfl ?_
                          refine po_len (T := tab) cClass s1.Classes rfl rfl rfl rfl rfl rfl rfl rfl ?_
                          refine po_evs (T := tab) 1 rfl rfl ?_
                          refine po_nil ?_
                          refine pn_seq ?_
                          refine pw_cnd rfl ?_ ?_
                          · refine pw_skip ?_
                            refine pn_seq ?_
                            refine pw_seq ?_
                            refine pw_block ?_
                            refine pw_seq ?_
                            refine pw_region ?_
                            refine po_evs (T := tab) 2 rfl rfl ?_
                            refine po_nil ?_
                            refine pn_seq ?_
                            refine pw_seq ?_
                            refine pw_seq ?_
                            refine pw_region ?_
                            refine po_joinB (Instarlaw25_LabKeeps_j2 fu s1 r8 r9 i25 (Instarlaw25_LabKeeps_l2 fu s1 a2 b3 r8 r9 in24 k2)) (fun (from26 : Int) => [(1, .v (.int .i64 a2)), (2, .v (.int .i64 b3)), (5, .loc 5 0), (11, .loc 11 0), (12, .loc 12 0), (14, .v (.bool in24)), (15, .v (.int .i64 i25)), (16, .v (.int .i64 from26))]) (fun (from26 : Int) => [(12, .box [.sl 5 false (r9.Classes.map cClass), .sl 7 false (r9.Main.map cOp)]), (11, .box [.sl 5 false (r8.Classes.map cClass), .sl 7 false (r8.Main.map cOp)]), (5, .box [.sl 5 false (s1.Classes.map cClass), .sl 7 false (s1.Main.map cOp)])]) ?_ fun hj2 => ?_
                            · rintro from26
                              refine pn_seq ?_
                              refine pw_seq ?_
                              refine pw_draw mixed (by kernel_rfl) ?_
                              refine pd_evs (T := tab) 3 rfl rfl ?_
                              refine pd_idx (T := tab) cClass r8.Classes rfl rfl rfl rfl rfl rfl rfl fun y27 hy27 => ?_
                              refine pd_evs (T := tab) 1 rfl rfl ?_
                              refine pd_call (enc := fun (r28 : Bool) => .v (.bool r28)) (qs := [.agg (cClass y27)]) (Lab_Calm_ok fu y27) rfl rfl ⟨⟨_, rfl, .rfl⟩, trivial⟩ (fun _ => rfl) call9 rfl rfl fun r28 hr28 => ?_
                              refine pd_evs (T := tab) 3 rfl rfl ?_
                              refine pd_idx (T := tab) cClass s1.Classes rfl rfl rfl rfl rfl rfl rfl fun y29 hy29 => ?_
                              refine pd_evs (T := tab) 1 rfl rfl ?_
                              refine pd_call (enc := fun (r30 : Bool) => .v (.bool r30)) (qs := [.agg (cClass y29)]) (Lab_Calm_ok fu y29) rfl rfl ⟨⟨_, rfl, .rfl⟩, trivial⟩ (fun _ => rfl) call9 rfl rfl fun r30 hr30 => ?_
                              refine pd_evs (T := tab) 2 rfl rfl ?_
                              refine pd_split (j := 208) rfl ?_ ?_
                              · refine pd_evs (T := tab) 46 rfl rfl ?_
                                refine pd_nil ?_
                                refine pn_seq (pw_then rfl ?_)
                                refine pw_seq ?_
                                refine pw_region ?_
                                refine po_evs (T := tab) 1 rfl rfl ?_
                                refine po_nil ?_
                                refine pn_seq ?_
                                exact pw_retN (T := tab) rfl rfl rfl ⟨rfl, rfl⟩ trivial rfl
                              · refine pd_evs (T := tab) 3 rfl rfl ?_
                                refine pd_idx (T := tab) cClass r9.Classes rfl rfl rfl rfl rfl rfl rfl fun y31 hy31 => ?_
                                refine pd_evs (T := tab) 1 rfl rfl ?_
                                refine pd_call (enc := fun (r32 : Bool) => .v (.bool r32)) (qs := [.agg (cClass y31)]) (Lab_Calm_ok fu y31) rfl rfl ⟨⟨_, rfl, .rfl⟩, trivial⟩ (fun _ => rfl) call9 rfl rfl fun r32 hr32 => ?_
                                refine pd_evs (T := tab) 3 rfl rfl ?_
                                refine pd_idx (T := tab) cClass s1.Classes rfl rfl rfl rfl rfl rfl rfl fun y33 hy33 => ?_
                                refine pd_evs (T := tab) 1 rfl rfl ?_
                                refine pd_call (enc := fun (r34 : Bool) => .v (.bool r34)) (qs := [.agg (cClass y33)]) (Lab_Calm_ok fu y33) rfl rfl ⟨⟨_, rfl, .rfl⟩, trivial⟩ (fun _ => rfl) call9 rfl rfl fun r34 hr34 => ?_
                                refine pd_evs (T := tab) 3 rfl rfl ?_
                                refine pd_split (j := 223) rfl ?_ ?_
                                · refine pd_evs (T := tab) 31 rfl rfl ?_
                                  refine pd_nil ?_
                                  refine pn_seq (pw_then rfl ?_)
                                  refine pw_seq ?_
                                  refine pw_region ?_
                                  refine po_evs (T := tab) 1 rfl rfl ?_
                                  refine po_nil ?_
                                  refine pn_seq ?_
                                  exact pw_retN (T := tab) rfl rfl rfl ⟨rfl, rfl⟩ trivial rfl
                                · refine pd_evs (T := tab) 3 rfl rfl ?_
                                  refine pd_idx (T := tab) cClass r8.Classes rfl rfl rfl rfl rfl rfl rfl fun y35 hy35 => ?_
                                  refine pd_evs (T := tab) 5 rfl rfl ?_
                                  refine pd_idx (T := tab) cClass s1.Classes rfl rfl rfl rfl rfl rfl rfl fun y36 hy36 => ?_
                                  refine pd_evs (T := tab) 5 rfl rfl ?_
                                  refine pd_split (j := 238) rfl ?_ ?_
                                  · refine pd_evs (T := tab) 16 rfl rfl ?_
                                    refine pd_nil ?_
                                    refine pn_seq (pw_then rfl ?_)
                                    refine pw_seq ?_
                                    refine pw_region ?_
                                    refine po_evs (T := tab) 1 rfl rfl ?_
                                    refine po_nil ?_
                                    refine pn_seq ?_
                                    exact pw_retN (T := tab) rfl rfl rfl ⟨rfl, rfl⟩ trivial rfl
                                  · refine pd_evs (T := tab) 3 rfl rfl ?_
                                    refine pd_idx (T := tab) cClass r8.Classes rfl rfl rfl rfl rfl rfl rfl fun y37 hy37 => ?_
                                    refine pd_evs (T := tab) 2 rfl rfl ?_
                                    refine pd_len (T := tab) cHook y37.Hooks rfl rfl rfl rfl rfl rfl rfl rfl ?_
                                    refine pd_evs (T := tab) 3 rfl rfl ?_
                                    refine pd_idx (T := tab) cClass s1.Classes rfl rfl rfl rfl rfl rfl rfl fun y38 hy38 => ?_
                                    refine pd_evs (T := tab) 2 rfl rfl ?_
                                    refine pd_len (T := tab) cHook y38.Hooks rfl rfl rfl rfl rfl rfl rfl rfl ?_
                                    refine pd_evs (T := tab) 2 rfl rfl ?_
                                    refine pd_nil ?_
                                    refine pn_seq ?_
                                    refine pw_cnd rfl ?_ ?_
                                    · refine pw_seq ?_
                                      refine pw_region ?_
                                      refine po_evs (T := tab) 1 rfl rfl ?_
                                      refine po_nil ?_
                                      refine pn_seq ?_
                                      exact pw_retN (T := tab) rfl rfl rfl ⟨rfl, rfl⟩ trivial rfl
                                    · refine pw_skip ?_
                                      refine pn_block ?_
                                      refine pn_seq ?_
                                      refine pw_region ?_
                                      refine po_evs (T := tab) 1 rfl rfl ?_
                                      refine po_arith' (T := tab) rfl rfl rfl rfl fun i39 hi39 => ?_
                                      refine po_evs (T := tab) 1 rfl rfl ?_
                                      refine po_nil ?_
                                      exact pn_iter' i39 ⟨rfl, rfl, rfl, rfl, rfl, rfl, rfl, trivial⟩ ⟨rfl, rfl, rfl, trivial⟩ rfl
                            · refine po_evs (T := tab) 2 rfl rfl ?_
                              refine po_split (j := 182) rfl ?_ ?_
                              · refine po_evs (T := tab) 4 rfl rfl ?_
                                refine po_nil ?_
                                refine pn_seq ?_
                                refine pw_cnd rfl ?_ ?_
                                · refine pw_region ?_
                                  refine po_evs (T := tab) 2 rfl rfl ?_
                                  refine po_nil ?_
                                  exact pn_sub' (hj2 b3) ⟨rfl, rfl, rfl, rfl, rfl, rfl, rfl, rfl, trivial⟩ ⟨rfl, rfl, rfl, trivial⟩ rfl
                                · refine pw_seq ?_
                                  refine pw_region ?_
                                  refine po_evs (T := tab) 2 rfl rfl ?_
                                  refine po_split (j := 189) rfl ?_ ?_
                                  · refine po_evs (T := tab) 4 rfl rfl ?_
                                    refine po_nil ?_
                                    refine pn_seq ?_
                                    refine pw_cnd rfl ?_ ?_
                                    · refine pw_region ?_
                                      refine po_evs (T := tab) 2 rfl rfl ?_
                                      refine po_nil ?_
                                      exact pn_sub' (hj2 a2) ⟨rfl, rfl, rfl, rfl, rfl, rfl, rfl, rfl, trivial⟩ ⟨rfl, rfl, rfl, trivial⟩ rfl
                                    · refine pw_skip ?_
                                      exact pn_sub' (hj2 i25) ⟨rfl, rfl, rfl, rfl, rfl, rfl, rfl, rfl, trivial⟩ ⟨rfl, rfl, rfl, trivial⟩ rfl
                                  · refine po_evs (T := tab) 4 rfl rfl ?_
                                    refine po_nil ?_
                                    refine pn_seq (pw_else rfl ?_)
                                    refine pw_skip ?_
                                    exact pn_sub' (hj2 i25) ⟨rfl, rfl, rfl, rfl, rfl, rfl, rfl, rfl, trivial⟩ ⟨rfl, rfl, rfl, trivial⟩ rfl
                              · refine po_evs (T := tab) 4 rfl rfl ?_
                                refine po_nil ?_
                                refine pn_seq (pw_else rfl ?_)
                                refine pw_seq ?_
                                refine pw_region ?_
                                refine po_evs (T := tab) 2 rfl rfl ?_
                                refine po_split (j := 189) rfl ?_ ?_
                                · refine po_evs (T := tab) 4 rfl rfl ?_
                                  refine po_nil ?_
                                  refine pn_seq ?_
                                  refine pw_cnd rfl ?_ ?_
                                  · refine pw_region ?_
                                    refine po_evs (T := tab) 2 rfl rfl ?_
                                    refine po_nil ?_
                                    exact pn_sub' (hj2 a2) ⟨rfl, rfl, rfl, rfl, rfl, rfl, rfl, rfl, trivial⟩ ⟨rfl, rfl, rfl, trivial⟩ rfl
                                  · refine pw_skip ?_
                                    exact pn_sub' (hj2 i25) ⟨rfl, rfl, rfl, rfl, rfl, rfl, rfl, rfl, trivial⟩ ⟨rfl, rfl, rfl, trivial⟩ rfl
                                · refine po_evs (T := tab) 4 rfl rfl ?_
                                  refine po_nil ?_
                                  refine pn_seq (pw_else rfl ?_)
                                  refine pw_skip ?_
                                  exact pn_sub' (hj2 i25) ⟨rfl, rfl, rfl, rfl, rfl, rfl, rfl, rfl, trivial⟩ ⟨rfl, rfl, rfl, trivial⟩ rfl
                          · refine pw_exit rfl ?_
                            refine pn_seq ?_
                            refine pw_seq ?_
                            refine pw_region ?_
                            refine po_evs (T := tab) 1 rfl rfl ?_
                            refine po_nil ?_
                            refine pn_seq ?_
                            exact pw_retN (T := tab) rfl rfl rfl ⟨rfl, rfl⟩ trivial rfl
                        · refine po_evs (T := tab) 3 rfl rfl ?_
                          refine po_split (j := 155) rfl ?_ ?_
                          · refine po_evs (T := tab) 4 rfl rfl ?_
                            refine po_split (j := 159) rfl ?_ ?_
                            · refine po_evs (T := tab) 3 rfl rfl ?_
                              refine po_len (T := tab) cClass s1.Classes rfl rfl rfl rfl rfl rfl rfl rfl ?_
                              refine po_evs (T := tab) 3 rfl rfl ?_
                              refine po_split (j := 166) rfl ?_ ?_
                              · refine po_evs (T := tab) 3 rfl rfl ?_
                                refine po_len (T := tab) cClass s1.Classes rfl rfl rfl rfl rfl rfl rfl rfl ?_
                                refine po_evs (T := tab) 3 rfl rfl ?_
                                refine po_nil ?_
                                exact pn_sub' (hj1 (decide (b3 < ((s1.Classes.length : Nat) : Int)))) ⟨rfl, rfl, rfl, rfl, rfl, rfl, trivial⟩ ⟨rfl, rfl, rfl, trivial⟩ rfl
                              · refine po_evs (T := tab) 7 rfl rfl ?_
                                refine po_nil ?_
                                exact pn_sub' (hj1 false) ⟨rfl, rfl, rfl, rfl, rfl, rfl, trivial⟩ ⟨rfl, rfl, rfl, trivial⟩ rfl
                            · refine po_evs (T := tab) 14 rfl rfl ?_
                              refine po_nil ?_
                              exact pn_sub' (hj1 false) ⟨rfl, rfl, rfl, rfl, rfl, rfl, trivial⟩ ⟨rfl, rfl, rfl, trivial⟩ rfl
                          · refine po_evs (T := tab) 18 rfl rfl ?_
                            refine po_nil ?_
                            exact pn_sub' (hj1 false) ⟨rfl, rfl, rfl, rfl, rfl, rfl, trivial⟩ ⟨rfl, rfl, rfl, trivial⟩ rfl

def Attr_Right_1_m (fu : Nat) (a1 : Attr) : Option Bool := bnd (Name_Fit_m fu a1.Name) fun r2 => cnd (r2.2 != 0) (some true) (cnd (!(r2.1 == a1.Name)) (some true) (some (decide (((a1.Value.length : Nat) : Int) > 200))))

set_option maxRecDepth 100000 in
theorem Attr_Right_1_ok (fu : Nat) (a1 : Attr) : ∀ r, Attr_Right_1_m fu a1 = some r → DC Try.prog 104 [.agg (cAttr a1)] (.v (.bool r)) := by
  intro r hr
  refine fc_intro (args := [.agg (cAttr a1)]) (S := []) (N0 := []) (post := fun r p S => p = .v (.bool r) ∧ S = []) Try.func104 rfl rfl hr fun w0 X X0 σ0 => ?_
  refine pw_seq ?_
  refine pw_region ?_
  refine po_box  1 rfl rfl rfl rfl rfl rfl rfl rfl rfl rfl ?_
  refine po_evs (T := tab) 1 rfl rfl ?_
  refine po_nil ?_
  refine pn_seq ?_
  refine pw_seq ?_
  refine pw_region ?_
  refine po_evs (T := tab) 2 rfl rfl ?_
  refine po_call (enc := fun (r2 : (Bs × Int)) => .tup [.v (.string ⟨⟨r2.1⟩⟩), .v (.int .i64 r2.2)]) (qs := [.v (.string ⟨⟨a1.Name⟩⟩)]) (Name_Fit_ok fu a1.Name) rfl rfl ⟨⟨_, rfl, .rfl⟩, trivial⟩ (fun _ => rfl) call71 rfl rfl fun r2 hr2 => ?_
  refine po_evs (T := tab) 5 rfl rfl ?_
  refine po_nil ?_
  refine pn_seq ?_
  refine pw_seq ?_
  refine pw_region ?_
  refine po_evs (T := tab) 3 rfl rfl ?_
  refine po_split (j := 13) rfl ?_ ?_
  · refine po_evs (T := tab) 12 rfl rfl ?_
    refine po_nil ?_
    refine pn_seq ?_
    exact pw_retN (T := tab) rfl rfl rfl ⟨rfl, rfl⟩ trivial rfl
  · refine po_evs (T := tab) 6 rfl rfl ?_
    refine po_split (j := 19) rfl ?_ ?_
    · refine po_evs (T := tab) 6 rfl rfl ?_
      refine po_nil ?_
      refine pn_seq ?_
      exact pw_retN (T := tab) rfl rfl rfl ⟨rfl, rfl⟩ trivial rfl
    · refine po_evs (T := tab) 6 rfl rfl ?_
      refine po_nil ?_
      refine pn_seq ?_
      exact pw_retN (T := tab) rfl rfl rfl ⟨rfl, rfl⟩ trivial rfl

def Slices_IndexFunc_apiAttr_l1 (t1 : Attr → Option Bool) (s1 : (List Attr)) : Nat → Int → Option Int
  | 0, _ => none
  | k1 + 1, t2 => cnd (decide (t2 < ((s1.length : Nat) : Int))) (bnd (idx s1 t2) fun y3 => bnd (t1 y3) fun r4 => cnd r4 (some t2) (bnd (rng .i64 (t2 + 1)) fun i5 => (Slices_IndexFunc_apiAttr_l1 t1 s1 k1) i5)) (some (-1))

def Slices_IndexFunc_apiAttr_m (fu : Nat) (t1 : Attr → Option Bool) (s1 : (List Attr)) : Option Int := (Slices_IndexFunc_apiAttr_l1 t1 s1) fu 0

set_option maxHeartbeats 10000000 in
set_option maxRecDepth 100000 in
theorem Slices_IndexFunc_apiAttr_ok (fu : Nat) (s1 : (List Attr)) : ∀ r, Slices_IndexFunc_apiAttr_m fu (fun (z1 : Attr) => Attr_Right_1_m fu z1) s1 = some r → DC Try.prog 110 [.sl 2 false (s1.map cAttr), .fn (.func 104) [] []] (.v (.int .i64 r)) := by
  intro r hr
  refine fc_intro (args := [.sl 2 false (s1.map cAttr), .fn (.func 104) [] []]) (S := []) (N0 := []) (post := fun r p S => p = .v (.int .i64 r) ∧ S = []) Try.func110 rfl rfl hr fun w0 X X0 σ0 => ?_
  refine pw_seq ?_
  refine pw_region ?_
  refine po_evs (T := tab) 1 rfl rfl ?_
  refine po_nil ?_
  refine pn_seq ?_
  refine pw_seq ?_
  refine pw_seq ?_
  refine pw_region ?_
  refine po_evs (T := tab) 1 rfl rfl ?_
  refine po_len (T := tab) cAttr s1 rfl rfl rfl rfl rfl rfl rfl rfl ?_
  refine po_evs (T := tab) 1 rfl rfl ?_
  refine po_nil ?_
  refine pn_seq ?_
  refine pw_block ?_
  refine pw_loop' (Slices_IndexFunc_apiAttr_l1 (fun (z1 : Attr) => Attr_Right_1_m fu z1) s1) (fun (t2 : Int) => [(0, .sl 2 false (s1.map cAttr)), (1, .fn (.func 104) [] []), (7, .v (.int .i64 ((s1.length : Nat) : Int))), (8, .v (.int .i64 t2))]) (fun (t2 : Int) => []) fu 0 (fun _ => rfl) ⟨rfl, rfl, rfl, rfl, trivial⟩ trivial rfl ?_
  rintro k1 t2
  refine pw_seq ?_
  refine pw_region ?_
  refine po_evs (T := tab) 1 rfl rfl ?_
  refine po_nil ?_
  refine pn_seq ?_
  refine pw_seq ?_
  refine pw_cnd rfl ?_ ?_
  · refine pw_skip ?_
    refine pn_seq ?_
    refine pw_seq ?_
    refine pw_block ?_
    refine pw_seq ?_
    refine pw_region ?_
    refine po_evs (T := tab) 2 rfl rfl ?_
    refine po_nil ?_
    refine pn_seq ?_
    refine pw_seq ?_
    refine pw_region ?_
    refine po_evs (T := tab) 3 rfl rfl ?_
    refine po_idx (T := tab) cAttr s1 rfl rfl rfl rfl rfl rfl rfl fun y3 hy3 => ?_
    refine po_evs (T := tab) 1 rfl rfl ?_
    refine po_callv (enc := fun (r4 : Bool) => .v (.bool r4)) (first := []) (cap := []) (qs := [.agg (cAttr y3)]) (Sc := []) (Attr_Right_1_ok fu y3) (subS_of trivial rfl) rfl rfl rfl rfl ⟨⟨_, rfl, .rfl⟩, trivial⟩ (fun _ => rfl) call104 rfl rfl fun r4 hr4 => ?_
    refine po_nil ?_
    refine pn_seq ?_
    refine pw_cnd rfl ?_ ?_
    · refine pw_seq ?_
      refine pw_region ?_
      refine po_evs (T := tab) 2 rfl rfl ?_
      refine po_nil ?_
      refine pn_seq ?_
      exact pw_retN (T := tab) rfl rfl rfl ⟨rfl, rfl⟩ trivial rfl
    · refine pw_skip ?_
      refine pn_block ?_
      refine pn_seq ?_
      refine pw_region ?_
      refine po_arith' (T := tab) rfl rfl rfl rfl fun i5 hi5 => ?_
      refine po_evs (T := tab) 1 rfl rfl ?_
      refine po_nil ?_
      exact pn_iter' i5 ⟨rfl, rfl, rfl, rfl, trivial⟩ trivial rfl
  · refine pw_exit rfl ?_
    refine pn_seq ?_
    refine pw_seq ?_
    refine pw_region ?_
    refine po_evs (T := tab) 1 rfl rfl ?_
    refine po_nil ?_
    refine pn_seq ?_
    exact pw_retN (T := tab) rfl rfl rfl ⟨rfl, rfl⟩ trivial rfl

def Slices_ContainsFunc_apiAttr_m (fu : Nat) (t1 : Attr → Option Bool) (s1 : (List Attr)) : Option Bool := bnd (Slices_IndexFunc_apiAttr_m fu t1 s1) fun r2 => some (decide (r2 ≥ 0))

set_option maxRecDepth 100000 in
theorem Slices_ContainsFunc_apiAttr_ok (fu : Nat) (s1 : (List Attr)) : ∀ r, Slices_ContainsFunc_apiAttr_m fu (fun (z1 : Attr) => Attr_Right_1_m fu z1) s1 = some r → DC Try.prog 105 [.sl 2 false (s1.map cAttr), .fn (.func 104) [] []] (.v (.bool r)) := by
  intro r hr
  refine fc_intro (args := [.sl 2 false (s1.map cAttr), .fn (.func 104) [] []]) (S := []) (N0 := []) (post := fun r p S => p = .v (.bool r) ∧ S = []) Try.func105 rfl rfl hr fun w0 X X0 σ0 => ?_
  refine pw_seq ?_
  refine pw_region ?_
  refine po_evs (T := tab) 1 rfl rfl ?_
  refine po_nil ?_
  refine pn_seq ?_
  refine pw_seq ?_
  refine pw_region ?_
  refine po_evs (T := tab) 2 rfl rfl ?_
  refine po_call (enc := fun (r2 : Int) => .v (.int .i64 r2)) (qs := [.sl 2 false (s1.map cAttr), .fn (.func 104) [] []]) (Slices_IndexFunc_apiAttr_ok fu s1) rfl rfl ⟨⟨_, rfl, .rfl⟩, ⟨_, rfl, .rfl⟩, trivial⟩ (fun _ => rfl) call110 rfl rfl fun r2 hr2 => ?_
  refine po_evs (T := tab) 2 rfl rfl ?_
  refine po_nil ?_
  refine pn_seq ?_
  exact pw_retN (T := tab) rfl rfl rfl ⟨rfl, rfl⟩ trivial rfl

def Attr_table_l1 (l1 : (List Attr)) : Nat → Int × (List (Bs × Attr)) → Option (List (Bs × Attr))
  | 0, _ => none
  | k1 + 1, (t2, l3) => cnd (decide (t2 < ((l1.length : Nat) : Int))) (bnd (idx l1 t2) fun y4 => bnd (rng .i64 (t2 + 1)) fun i5 => (Attr_table_l1 l1 k1) (i5, (mput l3 y4.Name y4))) (some l3)

def Attr_table_m (fu : Nat) (l1 : (List Attr)) : Option (List (Bs × Attr)) := (Attr_table_l1 l1) fu (0, ([] : (List (Bs × Attr))))

set_option maxHeartbeats 10000000 in
set_option maxRecDepth 100000 in
theorem Attr_table_ok (fu : Nat) (l1 : (List Attr)) : ∀ r, Attr_table_m fu l1 = some r → FC Try.prog 106 [.sl 2 false (l1.map cAttr)] [] [] fun p S' => p = .own 6 ∧ S' = [(6, .mp (r.map fun p => (keyS p.1, .agg (cAttr p.2))))] := by
  intro r hr
  refine fc_intro (args := [.sl 2 false (l1.map cAttr)]) (S := []) (N0 := []) (post := fun r p S => p = .own 6 ∧ S = [(6, .mp (r.map fun p => (keyS p.1, .agg (cAttr p.2))))]) Try.func106 rfl rfl hr fun w0 X X0 σ0 => ?_
  refine pw_seq ?_
  refine pw_region ?_
  refine po_evs (T := tab) 1 rfl rfl ?_
  refine po_nil ?_
  refine pn_seq ?_
  refine pw_seq ?_
  refine pw_region ?_
  refine po_makeMap 6 rfl rfl rfl rfl rfl rfl rfl ?_
  refine po_evs (T := tab) 1 rfl rfl ?_
  refine po_nil ?_
  refine pn_seq ?_
  refine pw_seq ?_
  refine pw_seq ?_
  refine pw_region ?_
  refine po_evs (T := tab) 1 rfl rfl ?_
  refine po_len (T := tab) cAttr l1 rfl rfl rfl rfl rfl rfl rfl rfl ?_
  refine po_evs (T := tab) 1 rfl rfl ?_
  refine po_nil ?_
  refine pn_seq ?_
  refine pw_block ?_
  refine pw_loop' (Attr_table_l1 l1) (fun ((t2, l3) : Int × (List (Bs × Attr))) => [(3, .own 6), (7, .sl 2 false (l1.map cAttr)), (8, .v (.int .i64 ((l1.length : Nat) : Int))), (9, .v (.int .i64 t2))]) (fun ((t2, l3) : Int × (List (Bs × Attr))) => [(6, .mp (l3.map fun p => (keyS p.1, .agg (cAttr p.2))))]) fu (0, ([] : (List (Bs × Attr)))) (fun _ => rfl) ⟨rfl, rfl, rfl, rfl, trivial⟩ ⟨rfl, trivial⟩ rfl ?_
  rintro k1 ⟨t2, l3⟩
  refine pw_seq ?_
  refine pw_region ?_
  refine po_evs (T := tab) 1 rfl rfl ?_
  refine po_nil ?_
  refine pn_seq ?_
  refine pw_seq ?_
  refine pw_cnd rfl ?_ ?_
  · refine pw_skip ?_
    refine pn_seq ?_
    refine pw_seq ?_
    refine pw_block ?_
    refine pw_seq ?_
    refine pw_region ?_
    refine po_idx (T := tab) cAttr l1 rfl rfl rfl rfl rfl rfl rfl fun y4 hy4 => ?_
    refine po_evs (T := tab) 1 rfl rfl ?_
    refine po_alloc (T := tab) 5 rfl rfl rfl rfl rfl rfl rfl rfl rfl ?_
    refine po_store (T := tab) rfl rfl rfl rfl rfl rfl rfl rfl rfl rfl rfl rfl ?_
    refine po_nil ?_
    refine pn_seq ?_
    refine pw_region ?_
    refine po_evs (T := tab) 4 rfl rfl ?_
    refine po_mapUpdate keyS_enc (fun v => .agg (cAttr v)) l3 y4.Name y4 Try.underlying119 Try.underlying9 rfl rfl rfl rfl rfl rfl rfl rfl rfl ?_
    refine po_nil ?_
    refine pn_block ?_
    refine pn_seq ?_
    refine pw_region ?_
    refine po_arith' (T := tab) rfl rfl rfl rfl fun i5 hi5 => ?_
    refine po_evs (T := tab) 1 rfl rfl ?_
    refine po_nil ?_
    exact pn_iter' (i5, (mput l3 y4.Name y4)) ⟨rfl, rfl, rfl, rfl, trivial⟩ ⟨rfl, trivial⟩ rfl
  · refine pw_exit rfl ?_
    refine pn_seq ?_
    refine pw_seq ?_
    refine pw_region ?_
    refine po_evs (T := tab) 2 rfl rfl ?_
    refine po_nil ?_
    refine pn_seq ?_
    exact pw_retN (T := tab) rfl rfl rfl ⟨rfl, rfl⟩ ⟨rfl, trivial⟩ rfl

def Attr_Right_m (fu : Nat) (l1 : (List Attr)) : Option Bool := cnd (decide (((l1.length : Nat) : Int) ≤ 40)) (bnd (Slices_ContainsFunc_apiAttr_m fu (fun (z1 : Attr) => Attr_Right_1_m fu z1) l1) fun r2 => cnd (!r2) (bnd (Attr_table_m fu l1) fun r3 => some (((r3.length : Nat) : Int) == ((l1.length : Nat) : Int))) (some false)) (some false)

set_option maxRecDepth 100000 in
theorem Attr_Right_ok (fu : Nat) (l1 : (List Attr)) : ∀ r, Attr_Right_m fu l1 = some r → DC Try.prog 93 [.sl 2 false (l1.map cAttr)] (.v (.bool r)) := by
  intro r hr
  refine fc_intro (args := [.sl 2 false (l1.map cAttr)]) (S := []) (N0 := []) (post := fun r p S => p = .v (.bool r) ∧ S = []) Try.func93 rfl rfl hr fun w0 X X0 σ0 => ?_
  refine pw_seq ?_
  refine pw_region ?_
  refine po_evs (T := tab) 1 rfl rfl ?_
  refine po_nil ?_
  refine pn_seq ?_
  refine pw_seq ?_
  refine pw_region ?_
  refine po_evs (T := tab) 1 rfl rfl ?_
  refine po_nil ?_
  refine pn_seq ?_
  refine pw_seq ?_
  refine pw_region ?_
  refine po_evs (T := tab) 1 rfl rfl ?_
  refine po_len (T := tab) cAttr l1 rfl rfl rfl rfl rfl rfl rfl rfl ?_
  refine po_evs (T := tab) 2 rfl rfl ?_
  refine po_split (j := 7) rfl ?_ ?_
  · refine po_evs (T := tab) 2 rfl rfl ?_
    refine po_call (enc := fun (r2 : Bool) => .v (.bool r2)) (qs := [.sl 2 false (l1.map cAttr), .fn (.func 104) [] []]) (Slices_ContainsFunc_apiAttr_ok fu l1) rfl rfl ⟨⟨_, rfl, .rfl⟩, ⟨_, rfl, .rfl⟩, trivial⟩ (fun _ => rfl) call105 rfl rfl fun r2 hr2 => ?_
    refine po_evs (T := tab) 3 rfl rfl ?_
    refine po_split (j := 13) rfl ?_ ?_
    · refine po_evs (T := tab) 1 rfl rfl ?_
      refine po_turn [2150] (enc := fun (r3 : (List (Bs × Attr))) => .own 2150) (Sr := fun (r3 : (List (Bs × Attr))) => [(2150, .mp (r3.map fun p => (keyS p.1, .agg (cAttr p.2))))]) (first := []) (cap := []) (qs := [.sl 2 false (l1.map cAttr)]) (Sc := []) (N0 := []) (NR := [2150]) (fun r3 hr3 => fc_ren [(6, 2150)] [6] (Attr_table_ok fu l1 _ hr3) rfl rfl rfl rfl rfl rfl) trivial (fun _ => rfl) rfl rfl rfl rfl rfl rfl rfl (fun _ => rfl) (fun _ => rfl) rfl rfl rfl ⟨⟨_, rfl, .rfl⟩, trivial⟩ call106 rfl rfl fun r3 hr3 => ?_
      refine po_len_map (keyS) (fun v => .agg (cAttr v)) r3 Try.underlying119 rfl rfl rfl rfl rfl rfl rfl rfl ?_
      refine po_evs (T := tab) 1 rfl rfl ?_
      refine po_len (T := tab) cAttr l1 rfl rfl rfl rfl rfl rfl rfl rfl ?_
      refine po_evs (T := tab) 3 rfl rfl ?_
      refine po_nil ?_
      refine pn_seq ?_
      exact pw_retN (T := tab) rfl rfl rfl ⟨rfl, rfl⟩ trivial rfl
    · refine po_evs (T := tab) 8 rfl rfl ?_
      refine po_nil ?_
      refine pn_seq ?_
      exact pw_retN (T := tab) rfl rfl rfl ⟨rfl, rfl⟩ trivial rfl
  · refine po_evs (T := tab) 14 rfl rfl ?_
    refine po_nil ?_
    refine pn_seq ?_
    exact pw_retN (T := tab) rfl rfl rfl ⟨rfl, rfl⟩ trivial rfl

def Forest_named_j1 (x1 : Node) (c6 : Bs) : Option Bool := cnd (x1.Name == ([] : Bs)) (cnd (x1.Is == ([] : Bs)) (cnd (c6 == ([] : Bs)) (some (((x1.Attrs.length : Nat) : Int) == 0)) (some false)) (some false)) (some false)

def Forest_named_m (fu : Nat) (x1 : Node) : Option Bool := cnd (x1.Kind == 1) (bnd (Name_Fit_m fu x1.Name) fun r2 => cnd (r2.2 == 0) (cnd (r2.1 == x1.Name) (cnd (x1.Is == ([] : Bs)) (cnd (x1.Data == ([] : Bs)) (bnd (Attr_Right_m fu x1.Attrs) fun r3 => some r3) (some false)) (bnd (Name_Custom_m fu x1.Is) fun r4 => cnd r4 (cnd (x1.Data == ([] : Bs)) (bnd (Attr_Right_m fu x1.Attrs) fun r5 => some r5) (some false)) (some false))) (some false)) (some false)) (cnd (x1.Kind == 2) (cnd (decide (((x1.Data.length : Nat) : Int) > 200)) (some false) ((Forest_named_j1 x1) [])) (cnd (x1.Kind == 0) (cnd (x1.Kind == 0) ((Forest_named_j1 x1) x1.Data) (some false)) (cnd (x1.Kind == 3) (cnd (x1.Kind == 3) ((Forest_named_j1 x1) x1.Data) (some false)) (cnd (x1.Kind == 4) ((Forest_named_j1 x1) x1.Data) (some false)))))

set_option maxHeartbeats 10000000 in
set_option maxRecDepth 100000 in
theorem Forest_named_ok (fu : Nat) (x1 : Node) : ∀ r, Forest_named_m fu x1 = some r → DC Try.prog 76 [.agg (cNode x1)] (.v (.bool r)) := by
  intro r hr
  refine fc_intro (args := [.agg (cNode x1)]) (S := []) (N0 := []) (post := fun r p S => p = .v (.bool r) ∧ S = []) Try.func76 rfl rfl hr fun w0 X X0 σ0 => ?_
  refine pw_seq ?_
  refine pw_region ?_
  refine po_box  1 rfl rfl rfl rfl rfl rfl rfl rfl rfl rfl ?_
  refine po_evs (T := tab) 1 rfl rfl ?_
  refine po_nil ?_
  refine pn_seq ?_
  refine pw_seq ?_
  refine pw_seq ?_
  refine pw_region ?_
  refine po_evs (T := tab) 2 rfl rfl ?_
  refine po_nil ?_
  refine pn_seq ?_
  refine pw_block ?_
  refine pw_seq ?_
  refine pw_joinK (Forest_named_j1 x1) (fun (c6 : Bs) => [(1, .loc 1 0)]) (fun (c6 : Bs) => [(1, .box [.v (.int .i64 x1.Kind), .v (.string ⟨⟨x1.Name⟩⟩), .v (.string ⟨⟨x1.Is⟩⟩), .v (.string ⟨⟨c6⟩⟩), .sl 2 false (x1.Attrs.map cAttr), .v (.int .i64 x1.Parent), .sl 1 false (x1.Kids.map cInt_i64), .v (.int .i64 x1.Host), .v (.int .i64 x1.Under), .v (.int .i64 x1.Doc)])]) ?_ fun hj1 => ?_
  · rintro c6
    refine pn_seq ?_
    refine pw_seq ?_
    refine pw_seq ?_
    refine pw_region ?_
    refine po_evs (T := tab) 4 rfl rfl ?_
    refine po_split (j := 57) rfl ?_ ?_
    · refine po_evs (T := tab) 5 rfl rfl ?_
      refine po_split (j := 62) rfl ?_ ?_
      · refine po_evs (T := tab) 5 rfl rfl ?_
        refine po_split (j := 67) rfl ?_ ?_
        · refine po_evs (T := tab) 2 rfl rfl ?_
          refine po_len (T := tab) cAttr x1.Attrs rfl rfl rfl rfl rfl rfl rfl rfl ?_
          refine po_evs (T := tab) 3 rfl rfl ?_
          refine po_nil ?_
          refine pn_seq ?_
          exact pw_retN (T := tab) rfl rfl rfl ⟨rfl, rfl⟩ trivial rfl
        · refine po_evs (T := tab) 6 rfl rfl ?_
          refine po_nil ?_
          refine pn_seq ?_
          exact pw_retN (T := tab) rfl rfl rfl ⟨rfl, rfl⟩ trivial rfl
      · refine po_evs (T := tab) 11 rfl rfl ?_
        refine po_nil ?_
        refine pn_seq ?_
        exact pw_retN (T := tab) rfl rfl rfl ⟨rfl, rfl⟩ trivial rfl
    · refine po_evs (T := tab) 16 rfl rfl ?_
      refine po_nil ?_
      refine pn_seq ?_
      exact pw_retN (T := tab) rfl rfl rfl ⟨rfl, rfl⟩ trivial rfl
  · refine pw_block ?_
    refine pw_seq ?_
    refine pw_block ?_
    refine pw_seq ?_
    refine pw_block ?_
    refine pw_seq ?_
    refine pw_seq ?_
    refine pw_seq ?_
    refine pw_region ?_
    refine po_evs (T := tab) 2 rfl rfl ?_
    refine po_nil ?_
    refine pn_seq ?_
    refine pw_cnd rfl ?_ ?_
    · refine pw_exit rfl ?_
      refine pn_seq ?_
      refine pw_seq ?_
      refine pw_seq ?_
      refine pw_region ?_
      refine po_evs (T := tab) 2 rfl rfl ?_
      refine po_call (enc := fun (r2 : (Bs × Int)) => .tup [.v (.string ⟨⟨r2.1⟩⟩), .v (.int .i64 r2.2)]) (qs := [.v (.string ⟨⟨x1.Name⟩⟩)]) (Name_Fit_ok fu x1.Name) rfl rfl ⟨⟨_, rfl, .rfl⟩, trivial⟩ (fun _ => rfl) call71 rfl rfl fun r2 hr2 => ?_
      refine po_evs (T := tab) 5 rfl rfl ?_
      refine po_nil ?_
      refine pn_seq ?_
      refine pw_seq ?_
      refine pw_region ?_
      refine po_evs (T := tab) 3 rfl rfl ?_
      refine po_split (j := 23) rfl ?_ ?_
      · refine po_evs (T := tab) 6 rfl rfl ?_
        refine po_split (j := 29) rfl ?_ ?_
        · refine po_evs (T := tab) 4 rfl rfl ?_
          refine po_split (j := 33) rfl ?_ ?_
          · refine po_evs (T := tab) 11 rfl rfl ?_
            refine po_split (j := 44) rfl ?_ ?_
            · refine po_evs (T := tab) 2 rfl rfl ?_
              refine po_call (enc := fun (r3 : Bool) => .v (.bool r3)) (qs := [.sl 2 false (x1.Attrs.map cAttr)]) (Attr_Right_ok fu x1.Attrs) rfl rfl ⟨⟨_, rfl, .rfl⟩, trivial⟩ (fun _ => rfl) call93 rfl rfl fun r3 hr3 => ?_
              refine po_evs (T := tab) 2 rfl rfl ?_
              refine po_nil ?_
              refine pn_seq ?_
              exact pw_retN (T := tab) rfl rfl rfl ⟨rfl, rfl⟩ trivial rfl
            · refine po_evs (T := tab) 5 rfl rfl ?_
              refine po_nil ?_
              refine pn_seq ?_
              exact pw_retN (T := tab) rfl rfl rfl ⟨rfl, rfl⟩ trivial rfl
          · refine po_evs (T := tab) 2 rfl rfl ?_
            refine po_call (enc := fun (r4 : Bool) => .v (.bool r4)) (qs := [.v (.string ⟨⟨x1.Is⟩⟩)]) (Name_Custom_ok fu x1.Is) rfl rfl ⟨⟨_, rfl, .rfl⟩, trivial⟩ (fun _ => rfl) call64 rfl rfl fun r4 hr4 => ?_
            refine po_evs (T := tab) 3 rfl rfl ?_
            refine po_split (j := 39) rfl ?_ ?_
            · refine po_evs (T := tab) 5 rfl rfl ?_
              refine po_split (j := 44) rfl ?_ ?_
              · refine po_evs (T := tab) 2 rfl rfl ?_
                refine po_call (enc := fun (r5 : Bool) => .v (.bool r5)) (qs := [.sl 2 false (x1.Attrs.map cAttr)]) (Attr_Right_ok fu x1.Attrs) rfl rfl ⟨⟨_, rfl, .rfl⟩, trivial⟩ (fun _ => rfl) call93 rfl rfl fun r5 hr5 => ?_
                refine po_evs (T := tab) 2 rfl rfl ?_
                refine po_nil ?_
                refine pn_seq ?_
                exact pw_retN (T := tab) rfl rfl rfl ⟨rfl, rfl⟩ trivial rfl
              · refine po_evs (T := tab) 5 rfl rfl ?_
                refine po_nil ?_
                refine pn_seq ?_
                exact pw_retN (T := tab) rfl rfl rfl ⟨rfl, rfl⟩ trivial rfl
            · refine po_evs (T := tab) 10 rfl rfl ?_
              refine po_nil ?_
              refine pn_seq ?_
              exact pw_retN (T := tab) rfl rfl rfl ⟨rfl, rfl⟩ trivial rfl
        · refine po_evs (T := tab) 20 rfl rfl ?_
          refine po_nil ?_
          refine pn_seq ?_
          exact pw_retN (T := tab) rfl rfl rfl ⟨rfl, rfl⟩ trivial rfl
      · refine po_evs (T := tab) 26 rfl rfl ?_
        refine po_nil ?_
        refine pn_seq ?_
        exact pw_retN (T := tab) rfl rfl rfl ⟨rfl, rfl⟩ trivial rfl
    · refine pw_skip ?_
      refine pn_seq ?_
      refine pw_seq ?_
      refine pw_seq ?_
      refine pw_region ?_
      refine po_evs (T := tab) 2 rfl rfl ?_
      refine po_nil ?_
      refine pn_seq ?_
      refine pw_cnd rfl ?_ ?_
      · refine pw_exit rfl ?_
        refine pn_seq ?_
        refine pw_seq ?_
        refine pw_seq ?_
        refine pw_region ?_
        refine po_evs (T := tab) 4 rfl rfl ?_
        refine po_nil ?_
        refine pn_seq ?_
        refine pw_cnd rfl ?_ ?_
        · refine pw_seq ?_
          refine pw_region ?_
          refine po_evs (T := tab) 1 rfl rfl ?_
          refine po_nil ?_
          refine pn_seq ?_
          exact pw_retN (T := tab) rfl rfl rfl ⟨rfl, rfl⟩ trivial rfl
        · refine pw_skip ?_
          refine pn_seq ?_
          refine pw_region ?_
          refine po_evs (T := tab) 1 rfl rfl ?_
          refine po_store (T := tab) rfl rfl rfl rfl rfl rfl rfl rfl rfl rfl rfl rfl ?_
          refine po_nil ?_
          refine pn_block ?_
          exact pn_sub' (hj1 []) ⟨rfl, trivial⟩ ⟨rfl, trivial⟩ rfl
      · refine pw_skip ?_
        refine pn_seq ?_
        refine pw_seq ?_
        refine pw_seq ?_
        refine pw_region ?_
        refine po_evs (T := tab) 2 rfl rfl ?_
        refine po_nil ?_
        refine pn_seq ?_
        refine pw_cnd rfl ?_ ?_
        · refine pw_skip ?_
          refine pn_seq ?_
          refine pw_cnd rfl ?_ ?_
          · refine pw_exit rfl ?_
            exact pn_sub' (hj1 x1.Data) ⟨rfl, trivial⟩ ⟨rfl, trivial⟩ rfl
          · refine pw_skip ?_
            refine pn_seq ?_
            refine pw_exit rfl ?_
            refine pn_seq ?_
            refine pw_seq ?_
            refine pw_region ?_
            refine po_evs (T := tab) 1 rfl rfl ?_
            refine po_nil ?_
            refine pn_seq ?_
            exact pw_retN (T := tab) rfl rfl rfl ⟨rfl, rfl⟩ trivial rfl
        · refine pw_seq ?_
          refine pw_region ?_
          refine po_evs (T := tab) 2 rfl rfl ?_
          refine po_nil ?_
          refine pn_seq ?_
          refine pw_cnd rfl ?_ ?_
          · refine pw_skip ?_
            refine pn_seq ?_
            refine pw_cnd rfl ?_ ?_
            · refine pw_exit rfl ?_
              exact pn_sub' (hj1 x1.Data) ⟨rfl, trivial⟩ ⟨rfl, trivial⟩ rfl
            · refine pw_skip ?_
              refine pn_seq ?_
              refine pw_exit rfl ?_
              refine pn_seq ?_
              refine pw_seq ?_
              refine pw_region ?_
              refine po_evs (T := tab) 1 rfl rfl ?_
              refine po_nil ?_
              refine pn_seq ?_
              exact pw_retN (T := tab) rfl rfl rfl ⟨rfl, rfl⟩ trivial rfl
          · refine pw_region ?_
            refine po_evs (T := tab) 2 rfl rfl ?_
            refine po_nil ?_
            refine pn_seq ?_
            refine pw_cnd rfl ?_ ?_
            · refine pw_exit rfl ?_
              exact pn_sub' (hj1 x1.Data) ⟨rfl, trivial⟩ ⟨rfl, trivial⟩ rfl
            · refine pw_skip ?_
              refine pn_seq ?_
              refine pw_exit rfl ?_
              refine pn_seq ?_
              refine pw_seq ?_
              refine pw_region ?_
              refine po_evs (T := tab) 1 rfl rfl ?_
              refine po_nil ?_
              refine pn_seq ?_
              exact pw_retN (T := tab) rfl rfl rfl ⟨rfl, rfl⟩ trivial rfl

def Forest_view_there_m (_fu : Nat) (v1 : Forest_view) (n2 : Int) : Option Bool := cnd (decide (n2 ≥ 0)) (some (decide (n2 < ((v1.Forest.Nodes.length : Nat) : Int)))) (some false)

set_option maxRecDepth 100000 in
theorem Forest_view_there_ok (fu : Nat) (v1 : Forest_view) (n2 : Int) : ∀ r, Forest_view_there_m fu v1 n2 = some r → DC Try.prog 95 [.agg (cForest_view v1), .v (.int .i64 n2)] (.v (.bool r)) := by
  intro r hr
  refine fc_intro (args := [.agg (cForest_view v1), .v (.int .i64 n2)]) (S := []) (N0 := []) (post := fun r p S => p = .v (.bool r) ∧ S = []) Try.func95 rfl rfl hr fun w0 X X0 σ0 => ?_
  refine pw_seq ?_
  refine pw_region ?_
  refine po_box  2 rfl rfl rfl rfl rfl rfl rfl rfl rfl rfl ?_
  refine po_evs (T := tab) 1 rfl rfl ?_
  refine po_nil ?_
  refine pn_seq ?_
  refine pw_seq ?_
  refine pw_region ?_
  refine po_evs (T := tab) 3 rfl rfl ?_
  refine po_split (j := 7) rfl ?_ ?_
  · refine po_evs (T := tab) 4 rfl rfl ?_
    refine po_len (T := tab) cNode v1.Forest.Nodes rfl rfl rfl rfl rfl rfl rfl rfl ?_
    refine po_evs (T := tab) 3 rfl rfl ?_
    refine po_nil ?_
    refine pn_seq ?_
    exact pw_retN (T := tab) rfl rfl rfl ⟨rfl, rfl⟩ trivial rfl
  · refine po_evs (T := tab) 8 rfl rfl ?_
    refine po_nil ?_
    refine pn_seq ?_
    exact pw_retN (T := tab) rfl rfl rfl ⟨rfl, rfl⟩ trivial rfl

def Forest_view_is_m (fu : Nat) (v1 : Forest_view) (n2 : Int) (kind3 : Int) : Option Bool := bnd (Forest_view_there_m fu v1 n2) fun r4 => cnd r4 (bnd (idx v1.Forest.Nodes n2) fun y5 => some (y5.Kind == kind3)) (some false)

set_option maxRecDepth 100000 in
theorem Forest_view_is_ok (fu : Nat) (v1 : Forest_view) (n2 : Int) (kind3 : Int) : ∀ r, Forest_view_is_m fu v1 n2 kind3 = some r → DC Try.prog 94 [.agg (cForest_view v1), .v (.int .i64 n2), .v (.int .i64 kind3)] (.v (.bool r)) := by
  intro r hr
  refine fc_intro (args := [.agg (cForest_view v1), .v (.int .i64 n2), .v (.int .i64 kind3)]) (S := []) (N0 := []) (post := fun r p S => p = .v (.bool r) ∧ S = []) Try.func94 rfl rfl hr fun w0 X X0 σ0 => ?_
  refine pw_seq ?_
  refine pw_region ?_
  refine po_box  3 rfl rfl rfl rfl rfl rfl rfl rfl rfl rfl ?_
  refine po_evs (T := tab) 1 rfl rfl ?_
  refine po_nil ?_
  refine pn_seq ?_
  refine pw_seq ?_
  refine pw_region ?_
  refine po_evs (T := tab) 2 rfl rfl ?_
  refine po_call (enc := fun (r4 : Bool) => .v (.bool r4)) (qs := [.agg (cForest_view v1), .v (.int .i64 n2)]) (Forest_view_there_ok fu v1 n2) rfl rfl ⟨⟨_, rfl, .rfl⟩, ⟨_, rfl, .rfl⟩, trivial⟩ (fun _ => rfl) call95 rfl rfl fun r4 hr4 => ?_
  refine po_evs (T := tab) 1 rfl rfl ?_
  refine po_split (j := 10) rfl ?_ ?_
  · refine po_evs (T := tab) 4 rfl rfl ?_
    refine po_idx (T := tab) cNode v1.Forest.Nodes rfl rfl rfl rfl rfl rfl rfl fun y5 hy5 => ?_
    refine po_evs (T := tab) 6 rfl rfl ?_
    refine po_nil ?_
    refine pn_seq ?_
    exact pw_retN (T := tab) rfl rfl rfl ⟨rfl, rfl⟩ trivial rfl
  · refine po_evs (T := tab) 11 rfl rfl ?_
    refine po_nil ?_
    refine pn_seq ?_
    exact pw_retN (T := tab) rfl rfl rfl ⟨rfl, rfl⟩ trivial rfl

def Forest_view_owned_m (fu : Nat) (v1 : Forest_view) (n2 : Int) : Option Bool := bnd (idx v1.Forest.Nodes n2) fun y3 => bnd (Forest_view_is_m fu v1 y3.Doc 0) fun r4 => cnd r4 (cnd (y3.Kind != 0) (some true) (some (y3.Doc == n2))) (some false)

set_option maxRecDepth 100000 in
theorem Forest_view_owned_ok (fu : Nat) (v1 : Forest_view) (n2 : Int) : ∀ r, Forest_view_owned_m fu v1 n2 = some r → DC Try.prog 77 [.agg (cForest_view v1), .v (.int .i64 n2)] (.v (.bool r)) := by
  intro r hr
  refine fc_intro (args := [.agg (cForest_view v1), .v (.int .i64 n2)]) (S := []) (N0 := []) (post := fun r p S => p = .v (.bool r) ∧ S = []) Try.func77 rfl rfl hr fun w0 X X0 σ0 => ?_
  refine pw_seq ?_
  refine pw_region ?_
  refine po_box  2 rfl rfl rfl rfl rfl rfl rfl rfl rfl rfl ?_
  refine po_evs (T := tab) 1 rfl rfl ?_
  refine po_nil ?_
  refine pn_seq ?_
  refine pw_seq ?_
  refine pw_region ?_
  refine po_evs (T := tab) 4 rfl rfl ?_
  refine po_idx (T := tab) cNode v1.Forest.Nodes rfl rfl rfl rfl rfl rfl rfl fun y3 hy3 => ?_
  refine po_evs (T := tab) 1 rfl rfl ?_
  refine po_alloc (T := tab) 5 rfl rfl rfl rfl rfl rfl rfl rfl rfl ?_
  refine po_store (T := tab) rfl rfl rfl rfl rfl rfl rfl rfl rfl rfl rfl rfl ?_
  refine po_nil ?_
  refine pn_seq ?_
  refine pw_seq ?_
  refine pw_region ?_
  refine po_evs (T := tab) 3 rfl rfl ?_
  refine po_call (enc := fun (r4 : Bool) => .v (.bool r4)) (qs := [.agg (cForest_view v1), .v (.int .i64 y3.Doc), .v (.int .i64 0)]) (Forest_view_is_ok fu v1 y3.Doc 0) rfl rfl ⟨⟨_, rfl, .rfl⟩, ⟨_, rfl, .rfl⟩, ⟨_, rfl, .rfl⟩, trivial⟩ (fun _ => rfl) call94 rfl rfl fun r4 hr4 => ?_
  refine po_evs (T := tab) 1 rfl rfl ?_
  refine po_split (j := 16) rfl ?_ ?_
  · refine po_evs (T := tab) 4 rfl rfl ?_
    refine po_split (j := 20) rfl ?_ ?_
    · refine po_evs (T := tab) 7 rfl rfl ?_
      refine po_nil ?_
      refine pn_seq ?_
      exact pw_retN (T := tab) rfl rfl rfl ⟨rfl, rfl⟩ trivial rfl
    · refine po_evs (T := tab) 7 rfl rfl ?_
      refine po_nil ?_
      refine pn_seq ?_
      exact pw_retN (T := tab) rfl rfl rfl ⟨rfl, rfl⟩ trivial rfl
  · refine po_evs (T := tab) 11 rfl rfl ?_
    refine po_nil ?_
    refine pn_seq ?_
    exact pw_retN (T := tab) rfl rfl rfl ⟨rfl, rfl⟩ trivial rfl

def Forest_holder_m (_fu : Nat) (kind1 : Int) : Option Bool := cnd (kind1 == 0) (cnd (kind1 == 0) (some true) (some false)) (cnd (kind1 == 1) (cnd (kind1 == 1) (some true) (some false)) (cnd (kind1 == 3) (cnd (kind1 == 3) (some true) (some false)) (cnd (kind1 == 4) (some true) (some false))))

set_option maxHeartbeats 10000000 in
set_option maxRecDepth 100000 in
theorem Forest_holder_ok (fu : Nat) (kind1 : Int) : ∀ r, Forest_holder_m fu kind1 = some r → DC Try.prog 96 [.v (.int .i64 kind1)] (.v (.bool r)) := by
  intro r hr
  refine fc_intro (args := [.v (.int .i64 kind1)]) (S := []) (N0 := []) (post := fun r p S => p = .v (.bool r) ∧ S = []) Try.func96 rfl rfl hr fun w0 X X0 σ0 => ?_
  refine pw_seq ?_
  refine pw_region ?_
  refine po_evs (T := tab) 1 rfl rfl ?_
  refine po_nil ?_
  refine pn_seq ?_
  refine pw_seq ?_
  refine pw_seq ?_
  refine pw_region ?_
  refine po_evs (T := tab) 1 rfl rfl ?_
  refine po_nil ?_
  refine pn_seq ?_
  refine pw_block ?_
  refine pw_seq ?_
  refine pw_seq ?_
  refine pw_region ?_
  refine po_evs (T := tab) 2 rfl rfl ?_
  refine po_nil ?_
  refine pn_seq ?_
  refine pw_cnd rfl ?_ ?_
  · refine pw_skip ?_
    refine pn_seq ?_
    refine pw_cnd rfl ?_ ?_
    · refine pw_seq ?_
      refine pw_region ?_
      refine po_evs (T := tab) 1 rfl rfl ?_
      refine po_nil ?_
      refine pn_seq ?_
      exact pw_retN (T := tab) rfl rfl rfl ⟨rfl, rfl⟩ trivial rfl
    · refine pw_skip ?_
      refine pn_block ?_
      refine pn_seq ?_
      refine pw_seq ?_
      refine pw_region ?_
      refine po_evs (T := tab) 1 rfl rfl ?_
      refine po_nil ?_
      refine pn_seq ?_
      exact pw_retN (T := tab) rfl rfl rfl ⟨rfl, rfl⟩ trivial rfl
  · refine pw_seq ?_
    refine pw_region ?_
    refine po_evs (T := tab) 2 rfl rfl ?_
    refine po_nil ?_
    refine pn_seq ?_
    refine pw_cnd rfl ?_ ?_
    · refine pw_skip ?_
      refine pn_seq ?_
      refine pw_cnd rfl ?_ ?_
      · refine pw_seq ?_
        refine pw_region ?_
        refine po_evs (T := tab) 1 rfl rfl ?_
        refine po_nil ?_
        refine pn_seq ?_
        exact pw_retN (T := tab) rfl rfl rfl ⟨rfl, rfl⟩ trivial rfl
      · refine pw_skip ?_
        refine pn_block ?_
        refine pn_seq ?_
        refine pw_seq ?_
        refine pw_region ?_
        refine po_evs (T := tab) 1 rfl rfl ?_
        refine po_nil ?_
        refine pn_seq ?_
        exact pw_retN (T := tab) rfl rfl rfl ⟨rfl, rfl⟩ trivial rfl
    · refine pw_seq ?_
      refine pw_region ?_
      refine po_evs (T := tab) 2 rfl rfl ?_
      refine po_nil ?_
      refine pn_seq ?_
      refine pw_cnd rfl ?_ ?_
      · refine pw_skip ?_
        refine pn_seq ?_
        refine pw_cnd rfl ?_ ?_
        · refine pw_seq ?_
          refine pw_region ?_
          refine po_evs (T := tab) 1 rfl rfl ?_
          refine po_nil ?_
          refine pn_seq ?_
          exact pw_retN (T := tab) rfl rfl rfl ⟨rfl, rfl⟩ trivial rfl
        · refine pw_skip ?_
          refine pn_block ?_
          refine pn_seq ?_
          refine pw_seq ?_
          refine pw_region ?_
          refine po_evs (T := tab) 1 rfl rfl ?_
          refine po_nil ?_
          refine pn_seq ?_
          exact pw_retN (T := tab) rfl rfl rfl ⟨rfl, rfl⟩ trivial rfl
      · refine pw_region ?_
        refine po_evs (T := tab) 2 rfl rfl ?_
        refine po_nil ?_
        refine pn_seq ?_
        refine pw_cnd rfl ?_ ?_
        · refine pw_seq ?_
          refine pw_region ?_
          refine po_evs (T := tab) 1 rfl rfl ?_
          refine po_nil ?_
          refine pn_seq ?_
          exact pw_retN (T := tab) rfl rfl rfl ⟨rfl, rfl⟩ trivial rfl
        · refine pw_skip ?_
          refine pn_block ?_
          refine pn_seq ?_
          refine pw_seq ?_
          refine pw_region ?_
          refine po_evs (T := tab) 1 rfl rfl ?_
          refine po_nil ?_
          refine pn_seq ?_
          exact pw_retN (T := tab) rfl rfl rfl ⟨rfl, rfl⟩ trivial rfl

def Slices_Index_int_l1 (s1 : (List Int)) (v2 : Int) : Nat → Int → Option Int
  | 0, _ => none
  | k1 + 1, t3 => cnd (decide (t3 < ((s1.length : Nat) : Int))) (bnd (idx s1 t3) fun y4 => cnd (v2 == y4) (some t3) (bnd (rng .i64 (t3 + 1)) fun i5 => (Slices_Index_int_l1 s1 v2 k1) i5)) (some (-1))

def Slices_Index_int_m (fu : Nat) (s1 : (List Int)) (v2 : Int) : Option Int := (Slices_Index_int_l1 s1 v2) fu 0

set_option maxHeartbeats 10000000 in
set_option maxRecDepth 100000 in
theorem Slices_Index_int_ok (fu : Nat) (s1 : (List Int)) (v2 : Int) : ∀ r, Slices_Index_int_m fu s1 v2 = some r → DC Try.prog 107 [.sl 1 false (s1.map cInt_i64), .v (.int .i64 v2)] (.v (.int .i64 r)) := by
  intro r hr
  refine fc_intro (args := [.sl 1 false (s1.map cInt_i64), .v (.int .i64 v2)]) (S := []) (N0 := []) (post := fun r p S => p = .v (.int .i64 r) ∧ S = []) Try.func107 rfl rfl hr fun w0 X X0 σ0 => ?_
  refine pw_seq ?_
  refine pw_region ?_
  refine po_evs (T := tab) 1 rfl rfl ?_
  refine po_nil ?_
  refine pn_seq ?_
  refine pw_seq ?_
  refine pw_seq ?_
  refine pw_region ?_
  refine po_evs (T := tab) 1 rfl rfl ?_
  refine po_len (T := tab) cInt_i64 s1 rfl rfl rfl rfl rfl rfl rfl rfl ?_
  refine po_evs (T := tab) 1 rfl rfl ?_
  refine po_nil ?_
  refine pn_seq ?_
  refine pw_block ?_
  refine pw_loop' (Slices_Index_int_l1 s1 v2) (fun (t3 : Int) => [(0, .sl 1 false (s1.map cInt_i64)), (1, .v (.int .i64 v2)), (7, .v (.int .i64 ((s1.length : Nat) : Int))), (8, .v (.int .i64 t3))]) (fun (t3 : Int) => []) fu 0 (fun _ => rfl) ⟨rfl, rfl, rfl, rfl, trivial⟩ trivial rfl ?_
  rintro k1 t3
  refine pw_seq ?_
  refine pw_region ?_
  refine po_evs (T := tab) 1 rfl rfl ?_
  refine po_nil ?_
  refine pn_seq ?_
  refine pw_seq ?_
  refine pw_cnd rfl ?_ ?_
  · refine pw_skip ?_
    refine pn_seq ?_
    refine pw_seq ?_
    refine pw_block ?_
    refine pw_seq ?_
    refine pw_region ?_
    refine po_evs (T := tab) 2 rfl rfl ?_
    refine po_nil ?_
    refine pn_seq ?_
    refine pw_seq ?_
    refine pw_region ?_
    refine po_evs (T := tab) 3 rfl rfl ?_
    refine po_idx (T := tab) cInt_i64 s1 rfl rfl rfl rfl rfl rfl rfl fun y4 hy4 => ?_
    refine po_evs (T := tab) 2 rfl rfl ?_
    refine po_nil ?_
    refine pn_seq ?_
    refine pw_cnd rfl ?_ ?_
    · refine pw_seq ?_
      refine pw_region ?_
      refine po_evs (T := tab) 2 rfl rfl ?_
      refine po_nil ?_
      refine pn_seq ?_
      exact pw_retN (T := tab) rfl rfl rfl ⟨rfl, rfl⟩ trivial rfl
    · refine pw_skip ?_
      refine pn_block ?_
      refine pn_seq ?_
      refine pw_region ?_
      refine po_arith' (T := tab) rfl rfl rfl rfl fun i5 hi5 => ?_
      refine po_evs (T := tab) 1 rfl rfl ?_
      refine po_nil ?_
      exact pn_iter' i5 ⟨rfl, rfl, rfl, rfl, trivial⟩ trivial rfl
  · refine pw_exit rfl ?_
    refine pn_seq ?_
    refine pw_seq ?_
    refine pw_region ?_
    refine po_evs (T := tab) 1 rfl rfl ?_
    refine po_nil ?_
    refine pn_seq ?_
    exact pw_retN (T := tab) rfl rfl rfl ⟨rfl, rfl⟩ trivial rfl

def Slices_Contains_int_m (fu : Nat) (s1 : (List Int)) (v2 : Int) : Option Bool := bnd (Slices_Index_int_m fu s1 v2) fun r3 => some (decide (r3 ≥ 0))

set_option maxRecDepth 100000 in
theorem Slices_Contains_int_ok (fu : Nat) (s1 : (List Int)) (v2 : Int) : ∀ r, Slices_Contains_int_m fu s1 v2 = some r → DC Try.prog 97 [.sl 1 false (s1.map cInt_i64), .v (.int .i64 v2)] (.v (.bool r)) := by
  intro r hr
  refine fc_intro (args := [.sl 1 false (s1.map cInt_i64), .v (.int .i64 v2)]) (S := []) (N0 := []) (post := fun r p S => p = .v (.bool r) ∧ S = []) Try.func97 rfl rfl hr fun w0 X X0 σ0 => ?_
  refine pw_seq ?_
  refine pw_region ?_
  refine po_evs (T := tab) 1 rfl rfl ?_
  refine po_nil ?_
  refine pn_seq ?_
  refine pw_seq ?_
  refine pw_region ?_
  refine po_evs (T := tab) 2 rfl rfl ?_
  refine po_call (enc := fun (r3 : Int) => .v (.int .i64 r3)) (qs := [.sl 1 false (s1.map cInt_i64), .v (.int .i64 v2)]) (Slices_Index_int_ok fu s1 v2) rfl rfl ⟨⟨_, rfl, .rfl⟩, ⟨_, rfl, .rfl⟩, trivial⟩ (fun _ => rfl) call107 rfl rfl fun r3 hr3 => ?_
  refine po_evs (T := tab) 2 rfl rfl ?_
  refine po_nil ?_
  refine pn_seq ?_
  exact pw_retN (T := tab) rfl rfl rfl ⟨rfl, rfl⟩ trivial rfl

def Forest_view_hung_j1 (fu : Nat) (v1 : Forest_view) (n2 : Int) (y3 : Node) (below4 : Bool) : Option Bool := cnd below4 (bnd (Forest_view_there_m fu v1 y3.Parent) fun r5 => cnd r5 (bnd (idx v1.Forest.Nodes y3.Parent) fun y6 => bnd (Forest_holder_m fu y6.Kind) fun r7 => cnd r7 (bnd (idx v1.Forest.Nodes y3.Parent) fun y8 => bnd (Slices_Contains_int_m fu y8.Kids n2) fun r9 => some r9) (some false)) (some false)) (some false)

def Forest_view_hung_m (fu : Nat) (v1 : Forest_view) (n2 : Int) : Option Bool := bnd (idx v1.Forest.Nodes n2) fun y3 => cnd (y3.Parent == (-1)) (some true) (cnd (y3.Kind == 1) ((Forest_view_hung_j1 fu v1 n2 y3) true) ((Forest_view_hung_j1 fu v1 n2 y3) (y3.Kind == 2)))

set_option maxHeartbeats 10000000 in
set_option maxRecDepth 100000 in
theorem Forest_view_hung_ok (fu : Nat) (v1 : Forest_view) (n2 : Int) : ∀ r, Forest_view_hung_m fu v1 n2 = some r → DC Try.prog 78 [.agg (cForest_view v1), .v (.int .i64 n2)] (.v (.bool r)) := by
  intro r hr
  refine fc_intro (args := [.agg (cForest_view v1), .v (.int .i64 n2)]) (S := []) (N0 := []) (post := fun r p S => p = .v (.bool r) ∧ S = []) Try.func78 rfl rfl hr fun w0 X X0 σ0 => ?_
  refine pw_seq ?_
  refine pw_region ?_
  refine po_box  2 rfl rfl rfl rfl rfl rfl rfl rfl rfl rfl ?_
  refine po_evs (T := tab) 1 rfl rfl ?_
  refine po_nil ?_
  refine pn_seq ?_
  refine pw_seq ?_
  refine pw_region ?_
  refine po_evs (T := tab) 4 rfl rfl ?_
  refine po_idx (T := tab) cNode v1.Forest.Nodes rfl rfl rfl rfl rfl rfl rfl fun y3 hy3 => ?_
  refine po_evs (T := tab) 1 rfl rfl ?_
  refine po_alloc (T := tab) 5 rfl rfl rfl rfl rfl rfl rfl rfl rfl ?_
  refine po_store (T := tab) rfl rfl rfl rfl rfl rfl rfl rfl rfl rfl rfl rfl ?_
  refine po_nil ?_
  refine pn_seq ?_
  refine pw_seq ?_
  refine pw_seq ?_
  refine pw_region ?_
  refine po_evs (T := tab) 3 rfl rfl ?_
  refine po_nil ?_
  refine pn_seq ?_
  refine pw_cnd rfl ?_ ?_
  · refine pw_seq ?_
    refine pw_region ?_
    refine po_evs (T := tab) 1 rfl rfl ?_
    refine po_nil ?_
    refine pn_seq ?_
    exact pw_retN (T := tab) rfl rfl rfl ⟨rfl, rfl⟩ trivial rfl
  · refine pw_skip ?_
    refine pn_seq ?_
    refine pw_seq ?_
    refine pw_region ?_
    refine po_joinK (Forest_view_hung_j1 fu v1 n2 y3) (fun (below4 : Bool) => [(1, .v (.int .i64 n2)), (2, .loc 2 0), (5, .loc 5 0), (6, .v (.bool below4))]) (fun (below4 : Bool) => [(5, .box [.v (.int .i64 y3.Kind), .v (.string ⟨⟨y3.Name⟩⟩), .v (.string ⟨⟨y3.Is⟩⟩), .v (.string ⟨⟨y3.Data⟩⟩), .sl 2 false (y3.Attrs.map cAttr), .v (.int .i64 y3.Parent), .sl 1 false (y3.Kids.map cInt_i64), .v (.int .i64 y3.Host), .v (.int .i64 y3.Under), .v (.int .i64 y3.Doc)]), (2, .box [.sl 10 false (v1.Forest.Nodes.map cNode), .v (.int .i64 v1.Forest.Most)])]) ?_ fun hj1 => ?_
    · rintro below4
      refine pn_seq ?_
      refine pw_seq ?_
      refine pw_region ?_
      refine po_evs (T := tab) 2 rfl rfl ?_
      refine po_split (j := 25) rfl ?_ ?_
      · refine po_evs (T := tab) 3 rfl rfl ?_
        refine po_call (enc := fun (r5 : Bool) => .v (.bool r5)) (qs := [.agg (cForest_view v1), .v (.int .i64 y3.Parent)]) (Forest_view_there_ok fu v1 y3.Parent) rfl rfl ⟨⟨_, rfl, .rfl⟩, ⟨_, rfl, .rfl⟩, trivial⟩ (fun _ => rfl) call95 rfl rfl fun r5 hr5 => ?_
        refine po_evs (T := tab) 2 rfl rfl ?_
        refine po_split (j := 31) rfl ?_ ?_
        · refine po_evs (T := tab) 5 rfl rfl ?_
          refine po_idx (T := tab) cNode v1.Forest.Nodes rfl rfl rfl rfl rfl rfl rfl fun y6 hy6 => ?_
          refine po_evs (T := tab) 2 rfl rfl ?_
          refine po_call (enc := fun (r7 : Bool) => .v (.bool r7)) (qs := [.v (.int .i64 y6.Kind)]) (Forest_holder_ok fu y6.Kind) rfl rfl ⟨⟨_, rfl, .rfl⟩, trivial⟩ (fun _ => rfl) call96 rfl rfl fun r7 hr7 => ?_
          refine po_evs (T := tab) 2 rfl rfl ?_
          refine po_split (j := 42) rfl ?_ ?_
          · refine po_evs (T := tab) 5 rfl rfl ?_
            refine po_idx (T := tab) cNode v1.Forest.Nodes rfl rfl rfl rfl rfl rfl rfl fun y8 hy8 => ?_
            refine po_evs (T := tab) 3 rfl rfl ?_
            refine po_call (enc := fun (r9 : Bool) => .v (.bool r9)) (qs := [.sl 1 false (y8.Kids.map cInt_i64), .v (.int .i64 n2)]) (Slices_Contains_int_ok fu y8.Kids n2) rfl rfl ⟨⟨_, rfl, .rfl⟩, ⟨_, rfl, .rfl⟩, trivial⟩ (fun _ => rfl) call97 rfl rfl fun r9 hr9 => ?_
            refine po_evs (T := tab) 2 rfl rfl ?_
            refine po_nil ?_
            refine pn_seq ?_
            exact pw_retN (T := tab) rfl rfl rfl ⟨rfl, rfl⟩ trivial rfl
          · refine po_evs (T := tab) 12 rfl rfl ?_
            refine po_nil ?_
            refine pn_seq ?_
            exact pw_retN (T := tab) rfl rfl rfl ⟨rfl, rfl⟩ trivial rfl
        · refine po_evs (T := tab) 23 rfl rfl ?_
          refine po_nil ?_
          refine pn_seq ?_
          exact pw_retN (T := tab) rfl rfl rfl ⟨rfl, rfl⟩ trivial rfl
      · refine po_evs (T := tab) 29 rfl rfl ?_
        refine po_nil ?_
        refine pn_seq ?_
        exact pw_retN (T := tab) rfl rfl rfl ⟨rfl, rfl⟩ trivial rfl
    · refine po_evs (T := tab) 4 rfl rfl ?_
      refine po_split (j := 19) rfl ?_ ?_
      · refine po_evs (T := tab) 5 rfl rfl ?_
        refine po_nil ?_
        exact pn_sub' (hj1 true) ⟨rfl, rfl, rfl, rfl, trivial⟩ ⟨rfl, rfl, trivial⟩ rfl
      · refine po_evs (T := tab) 5 rfl rfl ?_
        refine po_nil ?_
        exact pn_sub' (hj1 (y3.Kind == 2)) ⟨rfl, rfl, rfl, rfl, trivial⟩ ⟨rfl, rfl, trivial⟩ rfl

def Forest_view_bears_l1 (fu : Nat) (v1 : Forest_view) (n2 : Int) (y3 : Node) : Nat → Int × Int × (List (Int × Int)) → Option Bool
  | 0, _ => none
  | k1 + 1, (elems4, t5, l6) => cnd (decide (t5 < ((y3.Kids.length : Nat) : Int))) (bnd (idx y3.Kids t5) fun y7 => bnd (Forest_view_there_m fu v1 y7) fun r8 => cnd (!r8) (some false) (cnd (decide ((mget l6 y7 0) > 0)) (some false) (bnd (idx v1.Forest.Nodes y7) fun y9 => cnd (y9.Parent != n2) (some false) (bnd (idx v1.Forest.Nodes y7) fun y10 => cnd (y10.Doc != y3.Doc) (some false) (bnd (rng .i64 ((mget l6 y7 0) + 1)) fun i11 => bnd (idx v1.Forest.Nodes y7) fun y12 => cnd (y12.Kind == 1) (bnd (rng .i64 (elems4 + 1)) fun i13 => bnd (rng .i64 (t5 + 1)) fun i14 => (Forest_view_bears_l1 fu v1 n2 y3 k1) (i13, i14, (mput l6 y7 i11))) (cnd (y12.Kind == 2) (cnd (y3.Kind == 0) (some false) (bnd (rng .i64 (t5 + 1)) fun i15 => (Forest_view_bears_l1 fu v1 n2 y3 k1) (elems4, i15, (mput l6 y7 i11)))) (some false))))))) (bnd (Forest_holder_m fu y3.Kind) fun r16 => cnd r16 (cnd (y3.Kind != 0) (some true) (some (decide (elems4 ≤ 1)))) (cnd (((y3.Kids.length : Nat) : Int) == 0) (cnd (y3.Kind != 0) (some true) (some (decide (elems4 ≤ 1)))) (some false)))

def Forest_view_bears_m (fu : Nat) (v1 : Forest_view) (n2 : Int) : Option Bool := bnd (idx v1.Forest.Nodes n2) fun y3 => (Forest_view_bears_l1 fu v1 n2 y3) fu (0, 0, ([] : (List (Int × Int))))

set_option maxHeartbeats 10000000 in
set_option maxRecDepth 100000 in
theorem Forest_view_bears_ok (fu : Nat) (v1 : Forest_view) (n2 : Int) : ∀ r, Forest_view_bears_m fu v1 n2 = some r → DC Try.prog 79 [.agg (cForest_view v1), .v (.int .i64 n2)] (.v (.bool r)) := by
  intro r hr
  refine fc_intro (args := [.agg (cForest_view v1), .v (.int .i64 n2)]) (S := []) (N0 := []) (post := fun r p S => p = .v (.bool r) ∧ S = []) Try.func79 rfl rfl hr fun w0 X X0 σ0 => ?_
  refine pw_seq ?_
  refine pw_region ?_
  refine po_box  2 rfl rfl rfl rfl rfl rfl rfl rfl rfl rfl ?_
  refine po_evs (T := tab) 1 rfl rfl ?_
  refine po_nil ?_
  refine pn_seq ?_
  refine pw_seq ?_
  refine pw_region ?_
  refine po_evs (T := tab) 4 rfl rfl ?_
  refine po_idx (T := tab) cNode v1.Forest.Nodes rfl rfl rfl rfl rfl rfl rfl fun y3 hy3 => ?_
  refine po_evs (T := tab) 1 rfl rfl ?_
  refine po_alloc (T := tab) 5 rfl rfl rfl rfl rfl rfl rfl rfl rfl ?_
  refine po_store (T := tab) rfl rfl rfl rfl rfl rfl rfl rfl rfl rfl rfl rfl ?_
  refine po_nil ?_
  refine pn_seq ?_
  refine pw_seq ?_
  refine pw_region ?_
  refine po_makeMap 16 rfl rfl rfl rfl rfl rfl rfl ?_
  refine po_evs (T := tab) 1 rfl rfl ?_
  refine po_nil ?_
  refine pn_seq ?_
  refine pw_seq ?_
  refine pw_region ?_
  refine po_evs (T := tab) 1 rfl rfl ?_
  refine po_nil ?_
  refine pn_seq ?_
  refine pw_seq ?_
  refine pw_seq ?_
  refine pw_region ?_
  refine po_evs (T := tab) 2 rfl rfl ?_
  refine po_len (T := tab) cInt_i64 y3.Kids rfl rfl rfl rfl rfl rfl rfl rfl ?_
  refine po_evs (T := tab) 1 rfl rfl ?_
  refine po_nil ?_
  refine pn_seq ?_
  refine pw_block ?_
  refine pw_loop' (Forest_view_bears_l1 fu v1 n2 y3) (fun ((elems4, t5, l6) : Int × Int × (List (Int × Int))) => [(1, .v (.int .i64 n2)), (2, .loc 2 0), (5, .loc 5 0), (6, .own 16), (7, .v (.int .i64 elems4)), (18, .sl 1 false (y3.Kids.map cInt_i64)), (19, .v (.int .i64 ((y3.Kids.length : Nat) : Int))), (20, .v (.int .i64 t5))]) (fun ((elems4, t5, l6) : Int × Int × (List (Int × Int))) => [(16, .mp (l6.map fun p => (keyI .i64 p.1, .v (.int .i64 p.2)))), (5, .box [.v (.int .i64 y3.Kind), .v (.string ⟨⟨y3.Name⟩⟩), .v (.string ⟨⟨y3.Is⟩⟩), .v (.string ⟨⟨y3.Data⟩⟩), .sl 2 false (y3.Attrs.map cAttr), .v (.int .i64 y3.Parent), .sl 1 false (y3.Kids.map cInt_i64), .v (.int .i64 y3.Host), .v (.int .i64 y3.Under), .v (.int .i64 y3.Doc)]), (2, .box [.sl 10 false (v1.Forest.Nodes.map cNode), .v (.int .i64 v1.Forest.Most)])]) fu (0, 0, ([] : (List (Int × Int)))) (fun _ => rfl) ⟨rfl, rfl, rfl, rfl, rfl, rfl, rfl, rfl, trivial⟩ ⟨rfl, rfl, rfl, trivial⟩ rfl ?_
  rintro k1 ⟨elems4, t5, l6⟩
  refine pw_seq ?_
  refine pw_region ?_
  refine po_evs (T := tab) 1 rfl rfl ?_
  refine po_nil ?_
  refine pn_seq ?_
  refine pw_seq ?_
  refine pw_cnd rfl ?_ ?_
  · refine pw_skip ?_
    refine pn_seq ?_
    refine pw_seq ?_
    refine pw_block ?_
    refine pw_seq ?_
    refine pw_region ?_
    refine po_idx (T := tab) cInt_i64 y3.Kids rfl rfl rfl rfl rfl rfl rfl fun y7 hy7 => ?_
    refine po_evs (T := tab) 2 rfl rfl ?_
    refine po_nil ?_
    refine pn_seq ?_
    refine pw_seq ?_
    refine pw_seq ?_
    refine pw_sub' (E' := [(1, .v (.int .i64 n2)), (2, .loc 2 0), (5, .loc 5 0), (6, .own 16), (7, .v (.int .i64 elems4)), (18, .sl 1 false (y3.Kids.map cInt_i64)), (19, .v (.int .i64 ((y3.Kids.length : Nat) : Int))), (20, .v (.int .i64 t5)), (9, .v (.int .i64 y7))]) (S' := [(16, .mp (l6.map fun p => (keyI .i64 p.1, .v (.int .i64 p.2)))), (5, .box [.v (.int .i64 y3.Kind), .v (.string ⟨⟨y3.Name⟩⟩), .v (.string ⟨⟨y3.Is⟩⟩), .v (.string ⟨⟨y3.Data⟩⟩), .sl 2 false (y3.Attrs.map cAttr), .v (.int .i64 y3.Parent), .sl 1 false (y3.Kids.map cInt_i64), .v (.int .i64 y3.Host), .v (.int .i64 y3.Under), .v (.int .i64 y3.Doc)]), (2, .box [.sl 10 false (v1.Forest.Nodes.map cNode), .v (.int .i64 v1.Forest.Most)])]) ?_ ⟨rfl, rfl, rfl, rfl, rfl, rfl, rfl, rfl, rfl, trivial⟩ ⟨rfl, rfl, rfl, trivial⟩ rfl
    refine pw_drawV [0, 0, 3, 7, 15, 31, 31, 127, 255, 511, 1023, 2047, 4095, 8191, 2047, 32767, 65535, 131071, 2047, 524287, 1048575, 2097151, 4194303, 8388607, 16777215, 4194303, 67108863, 134217727, 268435455, 4194303, 541065215, 2147483647, 4294967295] mixed (by kernel_rfl) (by kernel_rfl) rfl rfl ?_
    refine pdv_step0 [4, 5] [48] [] [2] [2] [(24, .agg (cForest_view v1))] [(2, .box [.sl 10 false (v1.Forest.Nodes.map cNode), .v (.int .i64 v1.Forest.Most)])] rfl rfl rfl rfl (by kernel_rfl) (by kernel_rfl) (by kernel_rfl) ⟨rfl, trivial⟩ (fun w0 X X0 σ0 => by refine po_evs (T := tab) 1 rfl rfl ?_; refine po_nil ?_; exact pn_end0 ⟨rfl, trivial⟩ ⟨rfl, trivial⟩ rfl) ?_
    refine pdv_step0 [18] [50] [] [] [] [(25, .v (.int .i64 y7))] [] rfl rfl rfl rfl (by kernel_rfl) (by kernel_rfl) (by kernel_rfl) trivial (fun w0 X X0 σ0 => by refine po_evs (T := tab) 1 rfl rfl ?_; refine po_nil ?_; exact pn_end0 ⟨rfl, trivial⟩ trivial rfl) ?_
    refine pdv_step (M := (Forest_view_there_m fu v1 y7)) (ment := [(52, [])]) [48, 50] [52] [] [] [] (fun r8 => [(26, .v (.bool r8))]) (fun r8 => []) rfl rfl (fun _ => rfl) (fun _ => rfl) (by kernel_rfl) (by kernel_rfl) (fun _ => by kernel_rfl) (fun _ => trivial) (fun w0 X X0 σ0 => by refine po_call (enc := fun (r8 : Bool) => .v (.bool r8)) (qs := [.agg (cForest_view v1), .v (.int .i64 y7)]) (Forest_view_there_ok fu v1 y7) rfl rfl ⟨⟨_, rfl, .rfl⟩, ⟨_, rfl, .rfl⟩, trivial⟩ (fun _ => rfl) call95 rfl rfl fun r8 hr8 => ?_; refine po_nil ?_; exact pn_end ⟨rfl, trivial⟩ trivial rfl) fun r8 hr8 => ?_
    refine pdv_step0 [52] [54] [] [] [] [(27, .v (.bool (!r8)))] [] rfl rfl rfl rfl (by kernel_rfl) (by kernel_rfl) (by kernel_rfl) trivial (fun w0 X X0 σ0 => by refine po_evs (T := tab) 1 rfl rfl ?_; refine po_nil ?_; exact pn_end0 ⟨rfl, trivial⟩ trivial rfl) ?_
    refine pdv_step0 [54] [56] [] [] [] [(28, .v (.bool (!r8)))] [] rfl rfl rfl rfl (by kernel_rfl) (by kernel_rfl) (by kernel_rfl) trivial (fun w0 X X0 σ0 => by refine po_evs (T := tab) 1 rfl rfl ?_; refine po_nil ?_; exact pn_end0 ⟨rfl, trivial⟩ trivial rfl) ?_
    refine pdv_split (t := 28) rfl ?_ ?_
    · refine pdv_step0 [56] [58] [] [] [] [(29, .tup [])] [] rfl rfl rfl rfl (by kernel_rfl) (by kernel_rfl) (by kernel_rfl) trivial (fun w0 X X0 σ0 => by refine po_evs (T := tab) 1 rfl rfl ?_; refine po_nil ?_; exact pn_end0 ⟨rfl, trivial⟩ trivial rfl) ?_
      refine pdv_step0 [56] [60] [] [] [] [(30, .tup [])] [] rfl rfl rfl rfl (by kernel_rfl) (by kernel_rfl) (by kernel_rfl) trivial (fun w0 X X0 σ0 => by refine po_evs (T := tab) 1 rfl rfl ?_; refine po_nil ?_; exact pn_end0 ⟨rfl, trivial⟩ trivial rfl) ?_
      refine pdv_step0 [56] [62] [] [] [] [(31, .tup [])] [] rfl rfl rfl rfl (by kernel_rfl) (by kernel_rfl) (by kernel_rfl) trivial (fun w0 X X0 σ0 => by refine po_evs (T := tab) 1 rfl rfl ?_; refine po_nil ?_; exact pn_end0 ⟨rfl, trivial⟩ trivial rfl) ?_
      refine pdv_step0 [56] [64] [] [] [] [(32, .tup [])] [] rfl rfl rfl rfl (by kernel_rfl) (by kernel_rfl) (by kernel_rfl) trivial (fun w0 X X0 σ0 => by refine po_evs (T := tab) 1 rfl rfl ?_; refine po_nil ?_; exact pn_end0 ⟨rfl, trivial⟩ trivial rfl) ?_
      refine pdv_step0 [56, 64] [66] [] [] [] [(33, .v (.bool true))] [] rfl rfl rfl rfl (by kernel_rfl) (by kernel_rfl) (by kernel_rfl) trivial (fun w0 X X0 σ0 => by refine po_evs (T := tab) 1 rfl rfl ?_; refine po_nil ?_; exact pn_end0 ⟨rfl, trivial⟩ trivial rfl) ?_
      refine pdv_step0 [66] [68] [] [] [] [(34, .v (.bool true))] [] rfl rfl rfl rfl (by kernel_rfl) (by kernel_rfl) (by kernel_rfl) trivial (fun w0 X X0 σ0 => by refine po_evs (T := tab) 1 rfl rfl ?_; refine po_nil ?_; exact pn_end0 ⟨rfl, trivial⟩ trivial rfl) ?_
      refine pdv_step0 [68] [70] [] [] [] [(35, .tup [])] [] rfl rfl rfl rfl (by kernel_rfl) (by kernel_rfl) (by kernel_rfl) trivial (fun w0 X X0 σ0 => by refine po_evs (T := tab) 1 rfl rfl ?_; refine po_nil ?_; exact pn_end0 ⟨rfl, trivial⟩ trivial rfl) ?_
      refine pdv_step0 [68] [72] [] [] [] [(36, .tup [])] [] rfl rfl rfl rfl (by kernel_rfl) (by kernel_rfl) (by kernel_rfl) trivial (fun w0 X X0 σ0 => by refine po_evs (T := tab) 1 rfl rfl ?_; refine po_nil ?_; exact pn_end0 ⟨rfl, trivial⟩ trivial rfl) ?_
      refine pdv_step0 [68] [74] [] [] [] [(37, .tup [])] [] rfl rfl rfl rfl (by kernel_rfl) (by kernel_rfl) (by kernel_rfl) trivial (fun w0 X X0 σ0 => by refine po_evs (T := tab) 1 rfl rfl ?_; refine po_nil ?_; exact pn_end0 ⟨rfl, trivial⟩ trivial rfl) ?_
      refine pdv_step0 [68] [76] [] [] [] [(38, .tup [])] [] rfl rfl rfl rfl (by kernel_rfl) (by kernel_rfl) (by kernel_rfl) trivial (fun w0 X X0 σ0 => by refine po_evs (T := tab) 1 rfl rfl ?_; refine po_nil ?_; exact pn_end0 ⟨rfl, trivial⟩ trivial rfl) ?_
      refine pdv_step0 [68] [78] [] [] [] [(39, .tup [])] [] rfl rfl rfl rfl (by kernel_rfl) (by kernel_rfl) (by kernel_rfl) trivial (fun w0 X X0 σ0 => by refine po_evs (T := tab) 1 rfl rfl ?_; refine po_nil ?_; exact pn_end0 ⟨rfl, trivial⟩ trivial rfl) ?_
      refine pdv_step0 [68] [80] [] [] [] [(40, .tup [])] [] rfl rfl rfl rfl (by kernel_rfl) (by kernel_rfl) (by kernel_rfl) trivial (fun w0 X X0 σ0 => by refine po_evs (T := tab) 1 rfl rfl ?_; refine po_nil ?_; exact pn_end0 ⟨rfl, trivial⟩ trivial rfl) ?_
      refine pdv_step0 [68] [82] [] [] [] [(41, .tup [])] [] rfl rfl rfl rfl (by kernel_rfl) (by kernel_rfl) (by kernel_rfl) trivial (fun w0 X X0 σ0 => by refine po_evs (T := tab) 1 rfl rfl ?_; refine po_nil ?_; exact pn_end0 ⟨rfl, trivial⟩ trivial rfl) ?_
      refine pdv_step0 [68] [84] [] [] [] [(42, .tup [])] [] rfl rfl rfl rfl (by kernel_rfl) (by kernel_rfl) (by kernel_rfl) trivial (fun w0 X X0 σ0 => by refine po_evs (T := tab) 1 rfl rfl ?_; refine po_nil ?_; exact pn_end0 ⟨rfl, trivial⟩ trivial rfl) ?_
      refine pdv_step0 [68] [86] [] [] [] [(43, .tup [])] [] rfl rfl rfl rfl (by kernel_rfl) (by kernel_rfl) (by kernel_rfl) trivial (fun w0 X X0 σ0 => by refine po_evs (T := tab) 1 rfl rfl ?_; refine po_nil ?_; exact pn_end0 ⟨rfl, trivial⟩ trivial rfl) ?_
      refine pdv_step0 [68, 86] [88] [] [] [] [(44, .v (.bool true))] [] rfl rfl rfl rfl (by kernel_rfl) (by kernel_rfl) (by kernel_rfl) trivial (fun w0 X X0 σ0 => by refine po_evs (T := tab) 1 rfl rfl ?_; refine po_nil ?_; exact pn_end0 ⟨rfl, trivial⟩ trivial rfl) ?_
      refine pdv_step0 [88] [90] [] [] [] [(45, .v (.bool true))] [] rfl rfl rfl rfl (by kernel_rfl) (by kernel_rfl) (by kernel_rfl) trivial (fun w0 X X0 σ0 => by refine po_evs (T := tab) 1 rfl rfl ?_; refine po_nil ?_; exact pn_end0 ⟨rfl, trivial⟩ trivial rfl) ?_
      refine pdv_step0 [90] [92] [] [] [] [(46, .tup [])] [] rfl rfl rfl rfl (by kernel_rfl) (by kernel_rfl) (by kernel_rfl) trivial (fun w0 X X0 σ0 => by refine po_evs (T := tab) 1 rfl rfl ?_; refine po_nil ?_; exact pn_end0 ⟨rfl, trivial⟩ trivial rfl) ?_
      refine pdv_step0 [90] [94] [] [] [] [(47, .tup [])] [] rfl rfl rfl rfl (by kernel_rfl) (by kernel_rfl) (by kernel_rfl) trivial (fun w0 X X0 σ0 => by refine po_evs (T := tab) 1 rfl rfl ?_; refine po_nil ?_; exact pn_end0 ⟨rfl, trivial⟩ trivial rfl) ?_
      refine pdv_step0 [90] [96] [] [] [] [(48, .tup [])] [] rfl rfl rfl rfl (by kernel_rfl) (by kernel_rfl) (by kernel_rfl) trivial (fun w0 X X0 σ0 => by refine po_evs (T := tab) 1 rfl rfl ?_; refine po_nil ?_; exact pn_end0 ⟨rfl, trivial⟩ trivial rfl) ?_
      refine pdv_step0 [90] [98] [] [] [] [(49, .tup [])] [] rfl rfl rfl rfl (by kernel_rfl) (by kernel_rfl) (by kernel_rfl) trivial (fun w0 X X0 σ0 => by refine po_evs (T := tab) 1 rfl rfl ?_; refine po_nil ?_; exact pn_end0 ⟨rfl, trivial⟩ trivial rfl) ?_
      refine pdv_step0 [90] [100] [] [] [] [(50, .tup [])] [] rfl rfl rfl rfl (by kernel_rfl) (by kernel_rfl) (by kernel_rfl) trivial (fun w0 X X0 σ0 => by refine po_evs (T := tab) 1 rfl rfl ?_; refine po_nil ?_; exact pn_end0 ⟨rfl, trivial⟩ trivial rfl) ?_
      refine pdv_step0 [90] [102] [] [] [] [(51, .tup [])] [] rfl rfl rfl rfl (by kernel_rfl) (by kernel_rfl) (by kernel_rfl) trivial (fun w0 X X0 σ0 => by refine po_evs (T := tab) 1 rfl rfl ?_; refine po_nil ?_; exact pn_end0 ⟨rfl, trivial⟩ trivial rfl) ?_
      refine pdv_step0 [90] [104] [] [] [] [(52, .tup [])] [] rfl rfl rfl rfl (by kernel_rfl) (by kernel_rfl) (by kernel_rfl) trivial (fun w0 X X0 σ0 => by refine po_evs (T := tab) 1 rfl rfl ?_; refine po_nil ?_; exact pn_end0 ⟨rfl, trivial⟩ trivial rfl) ?_
      refine pdv_step0 [90] [106] [] [] [] [(53, .tup [])] [] rfl rfl rfl rfl (by kernel_rfl) (by kernel_rfl) (by kernel_rfl) trivial (fun w0 X X0 σ0 => by refine po_evs (T := tab) 1 rfl rfl ?_; refine po_nil ?_; exact pn_end0 ⟨rfl, trivial⟩ trivial rfl) ?_
      refine pdv_step0 [90] [108] [] [] [] [(54, .tup [])] [] rfl rfl rfl rfl (by kernel_rfl) (by kernel_rfl) (by kernel_rfl) trivial (fun w0 X X0 σ0 => by refine po_evs (T := tab) 1 rfl rfl ?_; refine po_nil ?_; exact pn_end0 ⟨rfl, trivial⟩ trivial rfl) ?_
      refine pdv_step0 [90] [110] [] [] [] [(55, .tup [])] [] rfl rfl rfl rfl (by kernel_rfl) (by kernel_rfl) (by kernel_rfl) trivial (fun w0 X X0 σ0 => by refine po_evs (T := tab) 1 rfl rfl ?_; refine po_nil ?_; exact pn_end0 ⟨rfl, trivial⟩ trivial rfl) ?_
      refine pdv_step0 [90, 110] [112] [] [] [] [(56, .v (.bool true))] [] rfl rfl rfl rfl (by kernel_rfl) (by kernel_rfl) (by kernel_rfl) trivial (fun w0 X X0 σ0 => by refine po_evs (T := tab) 1 rfl rfl ?_; refine po_nil ?_; exact pn_end0 ⟨rfl, trivial⟩ trivial rfl) ?_
      refine pdv_nil rfl rfl ?_
      refine pn_seq (pw_then rfl ?_)
      refine pw_seq ?_
      refine pw_region ?_
      refine po_evs (T := tab) 1 rfl rfl ?_
      refine po_nil ?_
      refine pn_seq ?_
      exact pw_retN (T := tab) rfl rfl rfl ⟨rfl, rfl⟩ trivial rfl
    · refine pdv_step0 [12, 56] [58] [] [16] [] [(29, .own 16)] [] rfl rfl rfl rfl (by kernel_rfl) (by kernel_rfl) (by kernel_rfl) trivial (fun w0 X X0 σ0 => by refine po_evs (T := tab) 1 rfl rfl ?_; refine po_nil ?_; exact pn_end0 ⟨rfl, trivial⟩ trivial rfl) ?_
      refine pdv_step0 [18, 56] [60] [] [] [] [(30, .v (.int .i64 y7))] [] rfl rfl rfl rfl (by kernel_rfl) (by kernel_rfl) (by kernel_rfl) trivial (fun w0 X X0 σ0 => by refine po_evs (T := tab) 1 rfl rfl ?_; refine po_nil ?_; exact pn_end0 ⟨rfl, trivial⟩ trivial rfl) ?_
      refine pdv_step0 [33, 56, 58, 60] [62] [] [16] [16] [(31, .v (.int .i64 (mget l6 y7 0)))] [(16, .mp (l6.map fun p => (keyI .i64 p.1, .v (.int .i64 p.2))))] rfl rfl rfl rfl (by kernel_rfl) (by kernel_rfl) (by kernel_rfl) ⟨rfl, trivial⟩ (fun w0 X X0 σ0 => by refine po_lookup (T := tab) (keyI_enc .i64) (fun v => .v (.int .i64 v)) l6 y7 0 Try.underlying112 Try.underlying3 rfl rfl rfl rfl rfl rfl rfl rfl rfl rfl ?_; refine po_nil ?_; exact pn_end0 ⟨rfl, trivial⟩ ⟨rfl, trivial⟩ rfl) ?_
      refine pdv_step0 [56, 62] [64] [] [] [] [(32, .v (.bool (decide ((mget l6 y7 0) > 0))))] [] rfl rfl rfl rfl (by kernel_rfl) (by kernel_rfl) (by kernel_rfl) trivial (fun w0 X X0 σ0 => by refine po_evs (T := tab) 1 rfl rfl ?_; refine po_nil ?_; exact pn_end0 ⟨rfl, trivial⟩ trivial rfl) ?_
      refine pdv_step0 [56, 64] [66] [] [] [] [(33, .v (.bool (decide ((mget l6 y7 0) > 0))))] [] rfl rfl rfl rfl (by kernel_rfl) (by kernel_rfl) (by kernel_rfl) trivial (fun w0 X X0 σ0 => by refine po_evs (T := tab) 1 rfl rfl ?_; refine po_nil ?_; exact pn_end0 ⟨rfl, trivial⟩ trivial rfl) ?_
      refine pdv_step0 [66] [68] [] [] [] [(34, .v (.bool (decide ((mget l6 y7 0) > 0))))] [] rfl rfl rfl rfl (by kernel_rfl) (by kernel_rfl) (by kernel_rfl) trivial (fun w0 X X0 σ0 => by refine po_evs (T := tab) 1 rfl rfl ?_; refine po_nil ?_; exact pn_end0 ⟨rfl, trivial⟩ trivial rfl) ?_
      refine pdv_split (t := 34) rfl ?_ ?_
      · refine pdv_step0 [68] [70] [] [] [] [(35, .tup [])] [] rfl rfl rfl rfl (by kernel_rfl) (by kernel_rfl) (by kernel_rfl) trivial (fun w0 X X0 σ0 => by refine po_evs (T := tab) 1 rfl rfl ?_; refine po_nil ?_; exact pn_end0 ⟨rfl, trivial⟩ trivial rfl) ?_
        refine pdv_step0 [68] [72] [] [] [] [(36, .tup [])] [] rfl rfl rfl rfl (by kernel_rfl) (by kernel_rfl) (by kernel_rfl) trivial (fun w0 X X0 σ0 => by refine po_evs (T := tab) 1 rfl rfl ?_; refine po_nil ?_; exact pn_end0 ⟨rfl, trivial⟩ trivial rfl) ?_
        refine pdv_step0 [68] [74] [] [] [] [(37, .tup [])] [] rfl rfl rfl rfl (by kernel_rfl) (by kernel_rfl) (by kernel_rfl) trivial (fun w0 X X0 σ0 => by refine po_evs (T := tab) 1 rfl rfl ?_; refine po_nil ?_; exact pn_end0 ⟨rfl, trivial⟩ trivial rfl) ?_
        refine pdv_step0 [68] [76] [] [] [] [(38, .tup [])] [] rfl rfl rfl rfl (by kernel_rfl) (by kernel_rfl) (by kernel_rfl) trivial (fun w0 X X0 σ0 => by refine po_evs (T := tab) 1 rfl rfl ?_; refine po_nil ?_; exact pn_end0 ⟨rfl, trivial⟩ trivial rfl) ?_
        refine pdv_step0 [68] [78] [] [] [] [(39, .tup [])] [] rfl rfl rfl rfl (by kernel_rfl) (by kernel_rfl) (by kernel_rfl) trivial (fun w0 X X0 σ0 => by refine po_evs (T := tab) 1 rfl rfl ?_; refine po_nil ?_; exact pn_end0 ⟨rfl, trivial⟩ trivial rfl) ?_
        refine pdv_step0 [68] [80] [] [] [] [(40, .tup [])] [] rfl rfl rfl rfl (by kernel_rfl) (by kernel_rfl) (by kernel_rfl) trivial (fun w0 X X0 σ0 => by refine po_evs (T := tab) 1 rfl rfl ?_; refine po_nil ?_; exact pn_end0 ⟨rfl, trivial⟩ trivial rfl) ?_
        refine pdv_step0 [68] [82] [] [] [] [(41, .tup [])] [] rfl rfl rfl rfl (by kernel_rfl) (by kernel_rfl) (by kernel_rfl) trivial (fun w0 X X0 σ0 => by refine po_evs (T := tab) 1 rfl rfl ?_; refine po_nil ?_; exact pn_end0 ⟨rfl, trivial⟩ trivial rfl) ?_
        refine pdv_step0 [68] [84] [] [] [] [(42, .tup [])] [] rfl rfl rfl rfl (by kernel_rfl) (by kernel_rfl) (by kernel_rfl) trivial (fun w0 X X0 σ0 => by refine po_evs (T := tab) 1 rfl rfl ?_; refine po_nil ?_; exact pn_end0 ⟨rfl, trivial⟩ trivial rfl) ?_
        refine pdv_step0 [68] [86] [] [] [] [(43, .tup [])] [] rfl rfl rfl rfl (by kernel_rfl) (by kernel_rfl) (by kernel_rfl) trivial (fun w0 X X0 σ0 => by refine po_evs (T := tab) 1 rfl rfl ?_; refine po_nil ?_; exact pn_end0 ⟨rfl, trivial⟩ trivial rfl) ?_
        refine pdv_step0 [68, 86] [88] [] [] [] [(44, .v (.bool true))] [] rfl rfl rfl rfl (by kernel_rfl) (by kernel_rfl) (by kernel_rfl) trivial (fun w0 X X0 σ0 => by refine po_evs (T := tab) 1 rfl rfl ?_; refine po_nil ?_; exact pn_end0 ⟨rfl, trivial⟩ trivial rfl) ?_
        refine pdv_step0 [88] [90] [] [] [] [(45, .v (.bool true))] [] rfl rfl rfl rfl (by kernel_rfl) (by kernel_rfl) (by kernel_rfl) trivial (fun w0 X X0 σ0 => by refine po_evs (T := tab) 1 rfl rfl ?_; refine po_nil ?_; exact pn_end0 ⟨rfl, trivial⟩ trivial rfl) ?_
        refine pdv_step0 [90] [92] [] [] [] [(46, .tup [])] [] rfl rfl rfl rfl (by kernel_rfl) (by kernel_rfl) (by kernel_rfl) trivial (fun w0 X X0 σ0 => by refine po_evs (T := tab) 1 rfl rfl ?_; refine po_nil ?_; exact pn_end0 ⟨rfl, trivial⟩ trivial rfl) ?_
        refine pdv_step0 [90] [94] [] [] [] [(47, .tup [])] [] rfl rfl rfl rfl (by kernel_rfl) (by kernel_rfl) (by kernel_rfl) trivial (fun w0 X X0 σ0 => by refine po_evs (T := tab) 1 rfl rfl ?_; refine po_nil ?_; exact pn_end0 ⟨rfl, trivial⟩ trivial rfl) ?_
        refine pdv_step0 [90] [96] [] [] [] [(48, .tup [])] [] rfl rfl rfl rfl (by kernel_rfl) (by kernel_rfl) (by kernel_rfl) trivial (fun w0 X X0 σ0 => by refine po_evs (T := tab) 1 rfl rfl ?_; refine po_nil ?_; exact pn_end0 ⟨rfl, trivial⟩ trivial rfl) ?_
        refine pdv_step0 [90] [98] [] [] [] [(49, .tup [])] [] rfl rfl rfl rfl (by kernel_rfl) (by kernel_rfl) (by kernel_rfl) trivial (fun w0 X X0 σ0 => by refine po_evs (T := tab) 1 rfl rfl ?_; refine po_nil ?_; exact pn_end0 ⟨rfl, trivial⟩ trivial rfl) ?_
        refine pdv_step0 [90] [100] [] [] [] [(50, .tup [])] [] rfl rfl rfl rfl (by kernel_rfl) (by kernel_rfl) (by kernel_rfl) trivial (fun w0 X X0 σ0 => by refine po_evs (T := tab) 1 rfl rfl ?_; refine po_nil ?_; exact pn_end0 ⟨rfl, trivial⟩ trivial rfl) ?_
        refine pdv_step0 [90] [102] [] [] [] [(51, .tup [])] [] rfl rfl rfl rfl (by kernel_rfl) (by kernel_rfl) (by kernel_rfl) trivial (fun w0 X X0 σ0 => by refine po_evs (T := tab) 1 rfl rfl ?_; refine po_nil ?_; exact pn_end0 ⟨rfl, trivial⟩ trivial rfl) ?_
        refine pdv_step0 [90] [104] [] [] [] [(52, .tup [])] [] rfl rfl rfl rfl (by kernel_rfl) (by kernel_rfl) (by kernel_rfl) trivial (fun w0 X X0 σ0 => by refine po_evs (T := tab) 1 rfl rfl ?_; refine po_nil ?_; exact pn_end0 ⟨rfl, trivial⟩ trivial rfl) ?_
        refine pdv_step0 [90] [106] [] [] [] [(53, .tup [])] [] rfl rfl rfl rfl (by kernel_rfl) (by kernel_rfl) (by kernel_rfl) trivial (fun w0 X X0 σ0 => by refine po_evs (T := tab) 1 rfl rfl ?_; refine po_nil ?_; exact pn_end0 ⟨rfl, trivial⟩ trivial rfl) ?_
        refine pdv_step0 [90] [108] [] [] [] [(54, .tup [])] [] rfl rfl rfl rfl (by kernel_rfl) (by kernel_rfl) (by kernel_rfl) trivial (fun w0 X X0 σ0 => by refine po_evs (T := tab) 1 rfl rfl ?_; refine po_nil ?_; exact pn_end0 ⟨rfl, trivial⟩ trivial rfl) ?_
        refine pdv_step0 [90] [110] [] [] [] [(55, .tup [])] [] rfl rfl rfl rfl (by kernel_rfl) (by kernel_rfl) (by kernel_rfl) trivial (fun w0 X X0 σ0 => by refine po_evs (T := tab) 1 rfl rfl ?_; refine po_nil ?_; exact pn_end0 ⟨rfl, trivial⟩ trivial rfl) ?_
        refine pdv_step0 [90, 110] [112] [] [] [] [(56, .v (.bool true))] [] rfl rfl rfl rfl (by kernel_rfl) (by kernel_rfl) (by kernel_rfl) trivial (fun w0 X X0 σ0 => by refine po_evs (T := tab) 1 rfl rfl ?_; refine po_nil ?_; exact pn_end0 ⟨rfl, trivial⟩ trivial rfl) ?_
        refine pdv_nil rfl rfl ?_
        refine pn_seq (pw_then rfl ?_)
        refine pw_seq ?_
        refine pw_region ?_
        refine po_evs (T := tab) 1 rfl rfl ?_
        refine po_nil ?_
        refine pn_seq ?_
        exact pw_retN (T := tab) rfl rfl rfl ⟨rfl, rfl⟩ trivial rfl
      · refine pdv_step0 [4, 68] [70] [] [2] [] [(35, .loc 2 0)] [] rfl rfl rfl rfl (by kernel_rfl) (by kernel_rfl) (by kernel_rfl) trivial (fun w0 X X0 σ0 => by refine po_evs (T := tab) 1 rfl rfl ?_; refine po_nil ?_; exact pn_end0 ⟨rfl, trivial⟩ trivial rfl) ?_
        refine pdv_step0 [68, 70] [72] [] [2] [] [(36, .loc 2 0)] [] rfl rfl rfl rfl (by kernel_rfl) (by kernel_rfl) (by kernel_rfl) trivial (fun w0 X X0 σ0 => by refine po_evs (T := tab) 1 rfl rfl ?_; refine po_nil ?_; exact pn_end0 ⟨rfl, trivial⟩ trivial rfl) ?_
        refine pdv_step0 [5, 68, 72] [74] [] [2] [2] [(37, .sl 10 false (v1.Forest.Nodes.map cNode))] [(2, .box [.sl 10 false (v1.Forest.Nodes.map cNode), .v (.int .i64 v1.Forest.Most)])] rfl rfl rfl rfl (by kernel_rfl) (by kernel_rfl) (by kernel_rfl) ⟨rfl, trivial⟩ (fun w0 X X0 σ0 => by refine po_evs (T := tab) 1 rfl rfl ?_; refine po_nil ?_; exact pn_end0 ⟨rfl, trivial⟩ ⟨rfl, trivial⟩ rfl) ?_
        refine pdv_step0 [18, 68] [76] [] [] [] [(38, .v (.int .i64 y7))] [] rfl rfl rfl rfl (by kernel_rfl) (by kernel_rfl) (by kernel_rfl) trivial (fun w0 X X0 σ0 => by refine po_evs (T := tab) 1 rfl rfl ?_; refine po_nil ?_; exact pn_end0 ⟨rfl, trivial⟩ trivial rfl) ?_
        refine pdv_step (M := (idx v1.Forest.Nodes y7)) (ment := [(78, [])]) [68, 74, 76] [78] [] [] [] (fun y9 => [(39, .el (cNode y9) 0)]) (fun y9 => []) rfl rfl (fun _ => rfl) (fun _ => rfl) (by kernel_rfl) (by kernel_rfl) (fun _ => by kernel_rfl) (fun _ => trivial) (fun w0 X X0 σ0 => by refine po_idx (T := tab) cNode v1.Forest.Nodes rfl rfl rfl rfl rfl rfl rfl fun y9 hy9 => ?_; refine po_nil ?_; exact pn_end ⟨rfl, trivial⟩ trivial rfl) fun y9 hy9 => ?_
        refine pdv_step0 [68, 78] [80] [] [] [] [(40, .el (cNode y9) 5)] [] rfl rfl rfl rfl (by kernel_rfl) (by kernel_rfl) (by kernel_rfl) trivial (fun w0 X X0 σ0 => by refine po_evs (T := tab) 1 rfl rfl ?_; refine po_nil ?_; exact pn_end0 ⟨rfl, trivial⟩ trivial rfl) ?_
        refine pdv_step0 [68, 80] [82] [] [] [] [(41, .v (.int .i64 y9.Parent))] [] rfl rfl rfl rfl (by kernel_rfl) (by kernel_rfl) (by kernel_rfl) trivial (fun w0 X X0 σ0 => by refine po_evs (T := tab) 1 rfl rfl ?_; refine po_nil ?_; exact pn_end0 ⟨rfl, trivial⟩ trivial rfl) ?_
        refine pdv_step0 [2, 68] [84] [] [] [] [(42, .v (.int .i64 n2))] [] rfl rfl rfl rfl (by kernel_rfl) (by kernel_rfl) (by kernel_rfl) trivial (fun w0 X X0 σ0 => by refine po_evs (T := tab) 1 rfl rfl ?_; refine po_nil ?_; exact pn_end0 ⟨rfl, trivial⟩ trivial rfl) ?_
        refine pdv_step0 [68, 82, 84] [86] [] [] [] [(43, .v (.bool (y9.Parent != n2)))] [] rfl rfl rfl rfl (by kernel_rfl) (by kernel_rfl) (by kernel_rfl) trivial (fun w0 X X0 σ0 => by refine po_evs (T := tab) 1 rfl rfl ?_; refine po_nil ?_; exact pn_end0 ⟨rfl, trivial⟩ trivial rfl) ?_
        refine pdv_step0 [68, 86] [88] [] [] [] [(44, .v (.bool (y9.Parent != n2)))] [] rfl rfl rfl rfl (by kernel_rfl) (by kernel_rfl) (by kernel_rfl) trivial (fun w0 X X0 σ0 => by refine po_evs (T := tab) 1 rfl rfl ?_; refine po_nil ?_; exact pn_end0 ⟨rfl, trivial⟩ trivial rfl) ?_
        refine pdv_step0 [88] [90] [] [] [] [(45, .v (.bool (y9.Parent != n2)))] [] rfl rfl rfl rfl (by kernel_rfl) (by kernel_rfl) (by kernel_rfl) trivial (fun w0 X X0 σ0 => by refine po_evs (T := tab) 1 rfl rfl ?_; refine po_nil ?_; exact pn_end0 ⟨rfl, trivial⟩ trivial rfl) ?_
        refine pdv_split (t := 45) rfl ?_ ?_
        · refine pdv_step0 [90] [92] [] [] [] [(46, .tup [])] [] rfl rfl rfl rfl (by kernel_rfl) (by kernel_rfl) (by kernel_rfl) trivial (fun w0 X X0 σ0 => by refine po_evs (T := tab) 1 rfl rfl ?_; refine po_nil ?_; exact pn_end0 ⟨rfl, trivial⟩ trivial rfl) ?_
          refine pdv_step0 [90] [94] [] [] [] [(47, .tup [])] [] rfl rfl rfl rfl (by kernel_rfl) (by kernel_rfl) (by kernel_rfl) trivial (fun w0 X X0 σ0 => by refine po_evs (T := tab) 1 rfl rfl ?_; refine po_nil ?_; exact pn_end0 ⟨rfl, trivial⟩ trivial rfl) ?_
          refine pdv_step0 [90] [96] [] [] [] [(48, .tup [])] [] rfl rfl rfl rfl (by kernel_rfl) (by kernel_rfl) (by kernel_rfl) trivial (fun w0 X X0 σ0 => by refine po_evs (T := tab) 1 rfl rfl ?_; refine po_nil ?_; exact pn_end0 ⟨rfl, trivial⟩ trivial rfl) ?_
          refine pdv_step0 [90] [98] [] [] [] [(49, .tup [])] [] rfl rfl rfl rfl (by kernel_rfl) (by kernel_rfl) (by kernel_rfl) trivial (fun w0 X X0 σ0 => by refine po_evs (T := tab) 1 rfl rfl ?_; refine po_nil ?_; exact pn_end0 ⟨rfl, trivial⟩ trivial rfl) ?_
          refine pdv_step0 [90] [100] [] [] [] [(50, .tup [])] [] rfl rfl rfl rfl (by kernel_rfl) (by kernel_rfl) (by kernel_rfl) trivial (fun w0 X X0 σ0 => by refine po_evs (T := tab) 1 rfl rfl ?_; refine po_nil ?_; exact pn_end0 ⟨rfl, trivial⟩ trivial rfl) ?_
          refine pdv_step0 [90] [102] [] [] [] [(51, .tup [])] [] rfl rfl rfl rfl (by kernel_rfl) (by kernel_rfl) (by kernel_rfl) trivial (fun w0 X X0 σ0 => by refine po_evs (T := tab) 1 rfl rfl ?_; refine po_nil ?_; exact pn_end0 ⟨rfl, trivial⟩ trivial rfl) ?_
          refine pdv_step0 [90] [104] [] [] [] [(52, .tup [])] [] rfl rfl rfl rfl (by kernel_rfl) (by kernel_rfl) (by kernel_rfl) trivial (fun w0 X X0 σ0 => by refine po_evs (T := tab) 1 rfl rfl ?_; refine po_nil ?_; exact pn_end0 ⟨rfl, trivial⟩ trivial rfl) ?_
          refine pdv_step0 [90] [106] [] [] [] [(53, .tup [])] [] rfl rfl rfl rfl (by kernel_rfl) (by kernel_rfl) (by kernel_rfl) trivial (fun w0 X X0 σ0 => by refine po_evs (T := tab) 1 rfl rfl ?_; refine po_nil ?_; exact pn_end0 ⟨rfl, trivial⟩ trivial rfl) ?_
          refine pdv_step0 [90] [108] [] [] [] [(54, .tup [])] [] rfl rfl rfl rfl (by kernel_rfl) (by kernel_rfl) (by kernel_rfl) trivial (fun w0 X X0 σ0 => by refine po_evs (T := tab) 1 rfl rfl ?_; refine po_nil ?_; exact pn_end0 ⟨rfl, trivial⟩ trivial rfl) ?_
          refine pdv_step0 [90] [110] [] [] [] [(55, .tup [])] [] rfl rfl rfl rfl (by kernel_rfl) (by kernel_rfl) (by kernel_rfl) trivial (fun w0 X X0 σ0 => by refine po_evs (T := tab) 1 rfl rfl ?_; refine po_nil ?_; exact pn_end0 ⟨rfl, trivial⟩ trivial rfl) ?_
          refine pdv_step0 [90, 110] [112] [] [] [] [(56, .v (.bool true))] [] rfl rfl rfl rfl (by kernel_rfl) (by kernel_rfl) (by kernel_rfl) trivial (fun w0 X X0 σ0 => by refine po_evs (T := tab) 1 rfl rfl ?_; refine po_nil ?_; exact pn_end0 ⟨rfl, trivial⟩ trivial rfl) ?_
          refine pdv_nil rfl rfl ?_
          refine pn_seq (pw_then rfl ?_)
          refine pw_seq ?_
          refine pw_region ?_
          refine po_evs (T := tab) 1 rfl rfl ?_
          refine po_nil ?_
          refine pn_seq ?_
          exact pw_retN (T := tab) rfl rfl rfl ⟨rfl, rfl⟩ trivial rfl
        · refine pdv_step0 [4, 90] [92] [] [2] [] [(46, .loc 2 0)] [] rfl rfl rfl rfl (by kernel_rfl) (by kernel_rfl) (by kernel_rfl) trivial (fun w0 X X0 σ0 => by refine po_evs (T := tab) 1 rfl rfl ?_; refine po_nil ?_; exact pn_end0 ⟨rfl, trivial⟩ trivial rfl) ?_
          refine pdv_step0 [90, 92] [94] [] [2] [] [(47, .loc 2 0)] [] rfl rfl rfl rfl (by kernel_rfl) (by kernel_rfl) (by kernel_rfl) trivial (fun w0 X X0 σ0 => by refine po_evs (T := tab) 1 rfl rfl ?_; refine po_nil ?_; exact pn_end0 ⟨rfl, trivial⟩ trivial rfl) ?_
          refine pdv_step0 [5, 90, 94] [96] [] [2] [2] [(48, .sl 10 false (v1.Forest.Nodes.map cNode))] [(2, .box [.sl 10 false (v1.Forest.Nodes.map cNode), .v (.int .i64 v1.Forest.Most)])] rfl rfl rfl rfl (by kernel_rfl) (by kernel_rfl) (by kernel_rfl) ⟨rfl, trivial⟩ (fun w0 X X0 σ0 => by refine po_evs (T := tab) 1 rfl rfl ?_; refine po_nil ?_; exact pn_end0 ⟨rfl, trivial⟩ ⟨rfl, trivial⟩ rfl) ?_
          refine pdv_step0 [18, 90] [98] [] [] [] [(49, .v (.int .i64 y7))] [] rfl rfl rfl rfl (by kernel_rfl) (by kernel_rfl) (by kernel_rfl) trivial (fun w0 X X0 σ0 => by refine po_evs (T := tab) 1 rfl rfl ?_; refine po_nil ?_; exact pn_end0 ⟨rfl, trivial⟩ trivial rfl) ?_
          refine pdv_step (M := (idx v1.Forest.Nodes y7)) (ment := [(100, [])]) [90, 96, 98] [100] [] [] [] (fun y10 => [(50, .el (cNode y10) 0)]) (fun y10 => []) rfl rfl (fun _ => rfl) (fun _ => rfl) (by kernel_rfl) (by kernel_rfl) (fun _ => by kernel_rfl) (fun _ => trivial) (fun w0 X X0 σ0 => by refine po_idx (T := tab) cNode v1.Forest.Nodes rfl rfl rfl rfl rfl rfl rfl fun y10 hy10 => ?_; refine po_nil ?_; exact pn_end ⟨rfl, trivial⟩ trivial rfl) fun y10 hy10 => ?_
          refine pdv_step0 [90, 100] [102] [] [] [] [(51, .el (cNode y10) 9)] [] rfl rfl rfl rfl (by kernel_rfl) (by kernel_rfl) (by kernel_rfl) trivial (fun w0 X X0 σ0 => by refine po_evs (T := tab) 1 rfl rfl ?_; refine po_nil ?_; exact pn_end0 ⟨rfl, trivial⟩ trivial rfl) ?_
          refine pdv_step0 [90, 102] [104] [] [] [] [(52, .v (.int .i64 y10.Doc))] [] rfl rfl rfl rfl (by kernel_rfl) (by kernel_rfl) (by kernel_rfl) trivial (fun w0 X X0 σ0 => by refine po_evs (T := tab) 1 rfl rfl ?_; refine po_nil ?_; exact pn_end0 ⟨rfl, trivial⟩ trivial rfl) ?_
          refine pdv_step0 [10, 90] [106] [] [5] [] [(53, .loc 5 9)] [] rfl rfl rfl rfl (by kernel_rfl) (by kernel_rfl) (by kernel_rfl) trivial (fun w0 X X0 σ0 => by refine po_evs (T := tab) 1 rfl rfl ?_; refine po_nil ?_; exact pn_end0 ⟨rfl, trivial⟩ trivial rfl) ?_
          refine pdv_step0 [11, 90, 106] [108] [] [5] [5] [(54, .v (.int .i64 y3.Doc))] [(5, .box [.v (.int .i64 y3.Kind), .v (.string ⟨⟨y3.Name⟩⟩), .v (.string ⟨⟨y3.Is⟩⟩), .v (.string ⟨⟨y3.Data⟩⟩), .sl 2 false (y3.Attrs.map cAttr), .v (.int .i64 y3.Parent), .sl 1 false (y3.Kids.map cInt_i64), .v (.int .i64 y3.Host), .v (.int .i64 y3.Under), .v (.int .i64 y3.Doc)])] rfl rfl rfl rfl (by kernel_rfl) (by kernel_rfl) (by kernel_rfl) ⟨rfl, trivial⟩ (fun w0 X X0 σ0 => by refine po_evs (T := tab) 1 rfl rfl ?_; refine po_nil ?_; exact pn_end0 ⟨rfl, trivial⟩ ⟨rfl, trivial⟩ rfl) ?_
          refine pdv_step0 [90, 104, 108] [110] [] [] [] [(55, .v (.bool (y10.Doc != y3.Doc)))] [] rfl rfl rfl rfl (by kernel_rfl) (by kernel_rfl) (by kernel_rfl) trivial (fun w0 X X0 σ0 => by refine po_evs (T := tab) 1 rfl rfl ?_; refine po_nil ?_; exact pn_end0 ⟨rfl, trivial⟩ trivial rfl) ?_
          refine pdv_step0 [90, 110] [112] [] [] [] [(56, .v (.bool (y10.Doc != y3.Doc)))] [] rfl rfl rfl rfl (by kernel_rfl) (by kernel_rfl) (by kernel_rfl) trivial (fun w0 X X0 σ0 => by refine po_evs (T := tab) 1 rfl rfl ?_; refine po_nil ?_; exact pn_end0 ⟨rfl, trivial⟩ trivial rfl) ?_
          refine pdv_nil rfl rfl ?_
          refine pn_seq ?_
          refine pw_cnd rfl ?_ ?_
          · refine pw_seq ?_
            refine pw_region ?_
            refine po_evs (T := tab) 1 rfl rfl ?_
            refine po_nil ?_
            refine pn_seq ?_
            exact pw_retN (T := tab) rfl rfl rfl ⟨rfl, rfl⟩ trivial rfl
          · refine pw_skip ?_
            refine pn_seq ?_
            refine pw_seq ?_
            refine pw_region ?_
            refine po_evs (T := tab) 2 rfl rfl ?_
            refine po_lookup (T := tab) (keyI_enc .i64) (fun v => .v (.int .i64 v)) l6 y7 0 Try.underlying112 Try.underlying3 rfl rfl rfl rfl rfl rfl rfl rfl rfl rfl ?_
            refine po_arith' (T := tab) rfl rfl rfl rfl fun i11 hi11 => ?_
            refine po_mapUpdate (keyI_enc .i64) (fun v => .v (.int .i64 v)) l6 y7 i11 Try.underlying112 Try.underlying3 rfl rfl rfl rfl rfl rfl rfl rfl rfl ?_
            refine po_nil ?_
            refine pn_seq ?_
            refine pw_seq ?_
            refine pw_region ?_
            refine po_evs (T := tab) 4 rfl rfl ?_
            refine po_idx (T := tab) cNode v1.Forest.Nodes rfl rfl rfl rfl rfl rfl rfl fun y12 hy12 => ?_
            refine po_evs (T := tab) 2 rfl rfl ?_
            refine po_nil ?_
            refine pn_seq ?_
            refine pw_block ?_
            refine pw_seq ?_
            refine pw_region ?_
            refine po_evs (T := tab) 2 rfl rfl ?_
            refine po_nil ?_
            refine pn_seq ?_
            refine pw_cnd rfl ?_ ?_
            · refine pw_region ?_
              refine po_evs (T := tab) 1 rfl rfl ?_
              refine po_arith' (T := tab) rfl rfl rfl rfl fun i13 hi13 => ?_
              refine po_evs (T := tab) 1 rfl rfl ?_
              refine po_nil ?_
              refine pn_block ?_
              refine pn_block ?_
              refine pn_seq ?_
              refine pw_region ?_
              refine po_arith' (T := tab) rfl rfl rfl rfl fun i14 hi14 => ?_
              refine po_evs (T := tab) 1 rfl rfl ?_
              refine po_nil ?_
              exact pn_iter' (i13, i14, (mput l6 y7 i11)) ⟨rfl, rfl, rfl, rfl, rfl, rfl, rfl, rfl, trivial⟩ ⟨rfl, rfl, rfl, trivial⟩ rfl
            · refine pw_seq ?_
              refine pw_region ?_
              refine po_evs (T := tab) 2 rfl rfl ?_
              refine po_nil ?_
              refine pn_seq ?_
              refine pw_cnd rfl ?_ ?_
              · refine pw_seq ?_
                refine pw_region ?_
                refine po_evs (T := tab) 3 rfl rfl ?_
                refine po_nil ?_
                refine pn_seq ?_
                refine pw_cnd rfl ?_ ?_
                · refine pw_seq ?_
                  refine pw_region ?_
                  refine po_evs (T := tab) 1 rfl rfl ?_
                  refine po_nil ?_
                  refine pn_seq ?_
                  exact pw_retN (T := tab) rfl rfl rfl ⟨rfl, rfl⟩ trivial rfl
                · refine pw_skip ?_
                  refine pn_block ?_
                  refine pn_block ?_
                  refine pn_seq ?_
                  refine pw_region ?_
                  refine po_arith' (T := tab) rfl rfl rfl rfl fun i15 hi15 => ?_
                  refine po_evs (T := tab) 1 rfl rfl ?_
                  refine po_nil ?_
                  exact pn_iter' (elems4, i15, (mput l6 y7 i11)) ⟨rfl, rfl, rfl, rfl, rfl, rfl, rfl, rfl, trivial⟩ ⟨rfl, rfl, rfl, trivial⟩ rfl
              · refine pw_seq ?_
                refine pw_region ?_
                refine po_evs (T := tab) 1 rfl rfl ?_
                refine po_nil ?_
                refine pn_seq ?_
                exact pw_retN (T := tab) rfl rfl rfl ⟨rfl, rfl⟩ trivial rfl
  · refine pw_exit rfl ?_
    refine pn_seq ?_
    refine pw_seq ?_
    refine pw_region ?_
    refine po_evs (T := tab) 2 rfl rfl ?_
    refine po_call (enc := fun (r16 : Bool) => .v (.bool r16)) (qs := [.v (.int .i64 y3.Kind)]) (Forest_holder_ok fu y3.Kind) rfl rfl ⟨⟨_, rfl, .rfl⟩, trivial⟩ (fun _ => rfl) call96 rfl rfl fun r16 hr16 => ?_
    refine po_evs (T := tab) 1 rfl rfl ?_
    refine po_split (j := 81) rfl ?_ ?_
    · refine po_evs (T := tab) 10 rfl rfl ?_
      refine po_split (j := 91) rfl ?_ ?_
      · refine po_evs (T := tab) 5 rfl rfl ?_
        refine po_nil ?_
        refine pn_seq ?_
        exact pw_retN (T := tab) rfl rfl rfl ⟨rfl, rfl⟩ trivial rfl
      · refine po_evs (T := tab) 5 rfl rfl ?_
        refine po_nil ?_
        refine pn_seq ?_
        exact pw_retN (T := tab) rfl rfl rfl ⟨rfl, rfl⟩ trivial rfl
    · refine po_evs (T := tab) 2 rfl rfl ?_
      refine po_len (T := tab) cInt_i64 y3.Kids rfl rfl rfl rfl rfl rfl rfl rfl ?_
      refine po_evs (T := tab) 3 rfl rfl ?_
      refine po_split (j := 87) rfl ?_ ?_
      · refine po_evs (T := tab) 4 rfl rfl ?_
        refine po_split (j := 91) rfl ?_ ?_
        · refine po_evs (T := tab) 5 rfl rfl ?_
          refine po_nil ?_
          refine pn_seq ?_
          exact pw_retN (T := tab) rfl rfl rfl ⟨rfl, rfl⟩ trivial rfl
        · refine po_evs (T := tab) 5 rfl rfl ?_
          refine po_nil ?_
          refine pn_seq ?_
          exact pw_retN (T := tab) rfl rfl rfl ⟨rfl, rfl⟩ trivial rfl
      · refine po_evs (T := tab) 9 rfl rfl ?_
        refine po_nil ?_
        refine pn_seq ?_
        exact pw_retN (T := tab) rfl rfl rfl ⟨rfl, rfl⟩ trivial rfl

def Forest_view_shaded_j2 (host7 : Bool) (under10 : Bool) : Option Bool := cnd host7 (some under10) (some false)

def Forest_view_shaded_j1 (fu : Nat) (v1 : Forest_view) (n2 : Int) (y3 : Node) (host7 : Bool) : Option Bool := cnd (y3.Under == (-1)) ((Forest_view_shaded_j2 host7) true) (cnd (y3.Kind == 1) (bnd (Forest_view_is_m fu v1 y3.Under 4) fun r8 => cnd r8 (bnd (idx v1.Forest.Nodes y3.Under) fun y9 => (Forest_view_shaded_j2 host7) (y9.Host == n2)) ((Forest_view_shaded_j2 host7) false)) ((Forest_view_shaded_j2 host7) false))

def Forest_view_shaded_m (fu : Nat) (v1 : Forest_view) (n2 : Int) : Option Bool := bnd (idx v1.Forest.Nodes n2) fun y3 => cnd (y3.Kind == 4) (bnd (Forest_view_is_m fu v1 y3.Host 1) fun r4 => cnd r4 (bnd (idx v1.Forest.Nodes y3.Host) fun y5 => cnd (y5.Under == n2) (bnd (idx v1.Forest.Nodes y3.Host) fun y6 => (Forest_view_shaded_j1 fu v1 n2 y3) (y6.Doc == y3.Doc)) ((Forest_view_shaded_j1 fu v1 n2 y3) false)) ((Forest_view_shaded_j1 fu v1 n2 y3) false)) ((Forest_view_shaded_j1 fu v1 n2 y3) (y3.Host == (-1)))

set_option maxHeartbeats 10000000 in
set_option maxRecDepth 100000 in
theorem Forest_view_shaded_ok (fu : Nat) (v1 : Forest_view) (n2 : Int) : ∀ r, Forest_view_shaded_m fu v1 n2 = some r → DC Try.prog 80 [.agg (cForest_view v1), .v (.int .i64 n2)] (.v (.bool r)) := by
  intro r hr
  refine fc_intro (args := [.agg (cForest_view v1), .v (.int .i64 n2)]) (S := []) (N0 := []) (post := fun r p S => p = .v (.bool r) ∧ S = []) Try.func80 rfl rfl hr fun w0 X X0 σ0 => ?_
  refine pw_seq ?_
  refine pw_region ?_
  refine po_box  2 rfl rfl rfl rfl rfl rfl rfl rfl rfl rfl ?_
  refine po_evs (T := tab) 1 rfl rfl ?_
  refine po_nil ?_
  refine pn_seq ?_
  refine pw_seq ?_
  refine pw_region ?_
  refine po_evs (T := tab) 4 rfl rfl ?_
  refine po_idx (T := tab) cNode v1.Forest.Nodes rfl rfl rfl rfl rfl rfl rfl fun y3 hy3 => ?_
  refine po_evs (T := tab) 1 rfl rfl ?_
  refine po_alloc (T := tab) 5 rfl rfl rfl rfl rfl rfl rfl rfl rfl ?_
  refine po_store (T := tab) rfl rfl rfl rfl rfl rfl rfl rfl rfl rfl rfl rfl ?_
  refine po_nil ?_
  refine pn_seq ?_
  refine pw_seq ?_
  refine pw_region ?_
  refine po_evs (T := tab) 4 rfl rfl ?_
  refine po_nil ?_
  refine pn_seq ?_
  refine pw_seq ?_
  refine pw_seq ?_
  refine pw_region ?_
  refine po_evs (T := tab) 3 rfl rfl ?_
  refine po_nil ?_
  refine pn_seq ?_
  refine pw_joinK (Forest_view_shaded_j1 fu v1 n2 y3) (fun (host7 : Bool) => [(1, .v (.int .i64 n2)), (2, .loc 2 0), (5, .loc 5 0), (6, .v (.bool host7))]) (fun (host7 : Bool) => [(5, .box [.v (.int .i64 y3.Kind), .v (.string ⟨⟨y3.Name⟩⟩), .v (.string ⟨⟨y3.Is⟩⟩), .v (.string ⟨⟨y3.Data⟩⟩), .sl 2 false (y3.Attrs.map cAttr), .v (.int .i64 y3.Parent), .sl 1 false (y3.Kids.map cInt_i64), .v (.int .i64 y3.Host), .v (.int .i64 y3.Under), .v (.int .i64 y3.Doc)]), (2, .box [.sl 10 false (v1.Forest.Nodes.map cNode), .v (.int .i64 v1.Forest.Most)])]) ?_ fun hj1 => ?_
  · rintro host7
    refine pn_seq ?_
    refine pw_seq ?_
    refine pw_region ?_
    refine po_joinK (Forest_view_shaded_j2 host7) (fun (under10 : Bool) => [(6, .v (.bool host7)), (7, .v (.bool under10))]) (fun (under10 : Bool) => []) ?_ fun hj2 => ?_
    · rintro under10
      refine pn_seq ?_
      refine pw_seq ?_
      refine pw_region ?_
      refine po_evs (T := tab) 2 rfl rfl ?_
      refine po_split (j := 76) rfl ?_ ?_
      · refine po_evs (T := tab) 3 rfl rfl ?_
        refine po_nil ?_
        refine pn_seq ?_
        exact pw_retN (T := tab) rfl rfl rfl ⟨rfl, rfl⟩ trivial rfl
      · refine po_evs (T := tab) 3 rfl rfl ?_
        refine po_nil ?_
        refine pn_seq ?_
        exact pw_retN (T := tab) rfl rfl rfl ⟨rfl, rfl⟩ trivial rfl
    · refine po_evs (T := tab) 4 rfl rfl ?_
      refine po_split (j := 52) rfl ?_ ?_
      · refine po_evs (T := tab) 23 rfl rfl ?_
        refine po_nil ?_
        exact pn_sub' (hj2 true) ⟨rfl, rfl, trivial⟩ trivial rfl
      · refine po_evs (T := tab) 4 rfl rfl ?_
        refine po_split (j := 56) rfl ?_ ?_
        · refine po_evs (T := tab) 3 rfl rfl ?_
          refine po_call (enc := fun (r8 : Bool) => .v (.bool r8)) (qs := [.agg (cForest_view v1), .v (.int .i64 y3.Under), .v (.int .i64 4)]) (Forest_view_is_ok fu v1 y3.Under 4) rfl rfl ⟨⟨_, rfl, .rfl⟩, ⟨_, rfl, .rfl⟩, ⟨_, rfl, .rfl⟩, trivial⟩ (fun _ => rfl) call94 rfl rfl fun r8 hr8 => ?_
          refine po_evs (T := tab) 2 rfl rfl ?_
          refine po_split (j := 62) rfl ?_ ?_
          · refine po_evs (T := tab) 5 rfl rfl ?_
            refine po_idx (T := tab) cNode v1.Forest.Nodes rfl rfl rfl rfl rfl rfl rfl fun y9 hy9 => ?_
            refine po_evs (T := tab) 7 rfl rfl ?_
            refine po_nil ?_
            exact pn_sub' (hj2 (y9.Host == n2)) ⟨rfl, rfl, trivial⟩ trivial rfl
          · refine po_evs (T := tab) 13 rfl rfl ?_
            refine po_nil ?_
            exact pn_sub' (hj2 false) ⟨rfl, rfl, trivial⟩ trivial rfl
        · refine po_evs (T := tab) 19 rfl rfl ?_
          refine po_nil ?_
          exact pn_sub' (hj2 false) ⟨rfl, rfl, trivial⟩ trivial rfl
  · refine pw_cnd rfl ?_ ?_
    · refine pw_draw mixed (by kernel_rfl) ?_
      refine pd_evs (T := tab) 3 rfl rfl ?_
      refine pd_call (enc := fun (r4 : Bool) => .v (.bool r4)) (qs := [.agg (cForest_view v1), .v (.int .i64 y3.Host), .v (.int .i64 1)]) (Forest_view_is_ok fu v1 y3.Host 1) rfl rfl ⟨⟨_, rfl, .rfl⟩, ⟨_, rfl, .rfl⟩, ⟨_, rfl, .rfl⟩, trivial⟩ (fun _ => rfl) call94 rfl rfl fun r4 hr4 => ?_
      refine pd_evs (T := tab) 1 rfl rfl ?_
      refine pd_split (j := 24) rfl ?_ ?_
      · refine pd_evs (T := tab) 5 rfl rfl ?_
        refine pd_idx (T := tab) cNode v1.Forest.Nodes rfl rfl rfl rfl rfl rfl rfl fun y5 hy5 => ?_
        refine pd_evs (T := tab) 6 rfl rfl ?_
        refine pd_split (j := 36) rfl ?_ ?_
        · refine pd_evs (T := tab) 5 rfl rfl ?_
          refine pd_idx (T := tab) cNode v1.Forest.Nodes rfl rfl rfl rfl rfl rfl rfl fun y6 hy6 => ?_
          refine pd_evs (T := tab) 7 rfl rfl ?_
          refine pd_nil ?_
          exact pn_sub' (hj1 (y6.Doc == y3.Doc)) ⟨rfl, rfl, rfl, rfl, trivial⟩ ⟨rfl, rfl, trivial⟩ rfl
        · refine pd_evs (T := tab) 13 rfl rfl ?_
          refine pd_nil ?_
          exact pn_sub' (hj1 false) ⟨rfl, rfl, rfl, rfl, trivial⟩ ⟨rfl, rfl, trivial⟩ rfl
      · refine pd_evs (T := tab) 25 rfl rfl ?_
        refine pd_nil ?_
        exact pn_sub' (hj1 false) ⟨rfl, rfl, rfl, rfl, trivial⟩ ⟨rfl, rfl, trivial⟩ rfl
    · refine pw_skip ?_
      exact pn_sub' (hj1 (y3.Host == (-1))) ⟨rfl, rfl, rfl, rfl, trivial⟩ ⟨rfl, rfl, trivial⟩ rfl

def Forest_view_up_m (_fu : Nat) (v1 : Forest_view) (n2 : Int) : Option Int := bnd (idx v1.Forest.Nodes n2) fun y3 => cnd (y3.Parent != (-1)) (some y3.Parent) (bnd (idx v1.Forest.Nodes n2) fun y4 => some y4.Host)

set_option maxRecDepth 100000 in
theorem Forest_view_up_ok (fu : Nat) (v1 : Forest_view) (n2 : Int) : ∀ r, Forest_view_up_m fu v1 n2 = some r → DC Try.prog 98 [.agg (cForest_view v1), .v (.int .i64 n2)] (.v (.int .i64 r)) := by
  intro r hr
  refine fc_intro (args := [.agg (cForest_view v1), .v (.int .i64 n2)]) (S := []) (N0 := []) (post := fun r p S => p = .v (.int .i64 r) ∧ S = []) Try.func98 rfl rfl hr fun w0 X X0 σ0 => ?_
  refine pw_seq ?_
  refine pw_region ?_
  refine po_box  2 rfl rfl rfl rfl rfl rfl rfl rfl rfl rfl ?_
  refine po_evs (T := tab) 1 rfl rfl ?_
  refine po_nil ?_
  refine pn_seq ?_
  refine pw_seq ?_
  refine pw_seq ?_
  refine pw_region ?_
  refine po_evs (T := tab) 4 rfl rfl ?_
  refine po_idx (T := tab) cNode v1.Forest.Nodes rfl rfl rfl rfl rfl rfl rfl fun y3 hy3 => ?_
  refine po_evs (T := tab) 3 rfl rfl ?_
  refine po_nil ?_
  refine pn_seq ?_
  refine pw_seq ?_
  refine pw_region ?_
  refine po_evs (T := tab) 2 rfl rfl ?_
  refine po_nil ?_
  refine pn_seq ?_
  refine pw_cnd rfl ?_ ?_
  · refine pw_seq ?_
    refine pw_region ?_
    refine po_evs (T := tab) 2 rfl rfl ?_
    refine po_nil ?_
    refine pn_seq ?_
    exact pw_retN (T := tab) rfl rfl rfl ⟨rfl, rfl⟩ trivial rfl
  · refine pw_skip ?_
    refine pn_seq ?_
    refine pw_seq ?_
    refine pw_region ?_
    refine po_evs (T := tab) 4 rfl rfl ?_
    refine po_idx (T := tab) cNode v1.Forest.Nodes rfl rfl rfl rfl rfl rfl rfl fun y4 hy4 => ?_
    refine po_evs (T := tab) 3 rfl rfl ?_
    refine po_nil ?_
    refine pn_seq ?_
    exact pw_retN (T := tab) rfl rfl rfl ⟨rfl, rfl⟩ trivial rfl

def Forest_view_ends_l1 (fu : Nat) (v1 : Forest_view) : Nat → Int × Int → Option Bool
  | 0, _ => none
  | k1 + 1, (n3, t4) => cnd (decide (t4 < ((v1.Forest.Nodes.length : Nat) : Int))) (bnd (Forest_view_up_m fu v1 n3) fun r5 => cnd (r5 == (-1)) (some true) (bnd (rng .i64 (t4 + 1)) fun i6 => (Forest_view_ends_l1 fu v1 k1) (r5, i6))) (some false)

def Forest_view_ends_m (fu : Nat) (v1 : Forest_view) (n2 : Int) : Option Bool := (Forest_view_ends_l1 fu v1) fu (n2, 0)

set_option maxHeartbeats 10000000 in
set_option maxRecDepth 100000 in
theorem Forest_view_ends_ok (fu : Nat) (v1 : Forest_view) (n2 : Int) : ∀ r, Forest_view_ends_m fu v1 n2 = some r → DC Try.prog 81 [.agg (cForest_view v1), .v (.int .i64 n2)] (.v (.bool r)) := by
  intro r hr
  refine fc_intro (args := [.agg (cForest_view v1), .v (.int .i64 n2)]) (S := []) (N0 := []) (post := fun r p S => p = .v (.bool r) ∧ S = []) Try.func81 rfl rfl hr fun w0 X X0 σ0 => ?_
  refine pw_seq ?_
  refine pw_region ?_
  refine po_box  2 rfl rfl rfl rfl rfl rfl rfl rfl rfl rfl ?_
  refine po_evs (T := tab) 1 rfl rfl ?_
  refine po_nil ?_
  refine pn_seq ?_
  refine pw_seq ?_
  refine pw_seq ?_
  refine pw_region ?_
  refine po_evs (T := tab) 3 rfl rfl ?_
  refine po_len (T := tab) cNode v1.Forest.Nodes rfl rfl rfl rfl rfl rfl rfl rfl ?_
  refine po_evs (T := tab) 1 rfl rfl ?_
  refine po_nil ?_
  refine pn_seq ?_
  refine pw_block ?_
  refine pw_loop' (Forest_view_ends_l1 fu v1) (fun ((n3, t4) : Int × Int) => [(1, .v (.int .i64 n3)), (2, .loc 2 0), (8, .v (.int .i64 ((v1.Forest.Nodes.length : Nat) : Int))), (9, .v (.int .i64 t4))]) (fun ((n3, t4) : Int × Int) => [(2, .box [.sl 10 false (v1.Forest.Nodes.map cNode), .v (.int .i64 v1.Forest.Most)])]) fu (n2, 0) (fun _ => rfl) ⟨rfl, rfl, rfl, rfl, trivial⟩ ⟨rfl, trivial⟩ rfl ?_
  rintro k1 ⟨n3, t4⟩
  refine pw_seq ?_
  refine pw_region ?_
  refine po_evs (T := tab) 1 rfl rfl ?_
  refine po_nil ?_
  refine pn_seq ?_
  refine pw_seq ?_
  refine pw_cnd rfl ?_ ?_
  · refine pw_skip ?_
    refine pn_seq ?_
    refine pw_seq ?_
    refine pw_block ?_
    refine pw_seq ?_
    refine pw_region ?_
    refine po_evs (T := tab) 2 rfl rfl ?_
    refine po_call (enc := fun (r5 : Int) => .v (.int .i64 r5)) (qs := [.agg (cForest_view v1), .v (.int .i64 n3)]) (Forest_view_up_ok fu v1 n3) rfl rfl ⟨⟨_, rfl, .rfl⟩, ⟨_, rfl, .rfl⟩, trivial⟩ (fun _ => rfl) call98 rfl rfl fun r5 hr5 => ?_
    refine po_evs (T := tab) 1 rfl rfl ?_
    refine po_nil ?_
    refine pn_seq ?_
    refine pw_seq ?_
    refine pw_region ?_
    refine po_evs (T := tab) 2 rfl rfl ?_
    refine po_nil ?_
    refine pn_seq ?_
    refine pw_cnd rfl ?_ ?_
    · refine pw_seq ?_
      refine pw_region ?_
      refine po_evs (T := tab) 1 rfl rfl ?_
      refine po_nil ?_
      refine pn_seq ?_
      exact pw_retN (T := tab) rfl rfl rfl ⟨rfl, rfl⟩ trivial rfl
    · refine pw_skip ?_
      refine pn_block ?_
      refine pn_seq ?_
      refine pw_region ?_
      refine po_arith' (T := tab) rfl rfl rfl rfl fun i6 hi6 => ?_
      refine po_evs (T := tab) 1 rfl rfl ?_
      refine po_nil ?_
      exact pn_iter' (r5, i6) ⟨rfl, rfl, rfl, rfl, trivial⟩ ⟨rfl, trivial⟩ rfl
  · refine pw_exit rfl ?_
    refine pn_seq ?_
    refine pw_seq ?_
    refine pw_region ?_
    refine po_evs (T := tab) 1 rfl rfl ?_
    refine po_nil ?_
    refine pn_seq ?_
    exact pw_retN (T := tab) rfl rfl rfl ⟨rfl, rfl⟩ trivial rfl

def Forest_view_right_l2 (fu : Nat) (v1 : Forest_view) : Nat → Int → Option Bool
  | 0, _ => none
  | k2 + 1, t11 => cnd (decide (t11 < ((v1.Forest.Nodes.length : Nat) : Int))) (bnd (Forest_view_ends_m fu v1 t11) fun r12 => cnd (!r12) (some false) (bnd (rng .i64 (t11 + 1)) fun i13 => (Forest_view_right_l2 fu v1 k2) i13)) (some true)

def Forest_view_right_l1 (fu : Nat) (v1 : Forest_view) : Nat → Int → Option Bool
  | 0, _ => none
  | k1 + 1, t3 => cnd (decide (t3 < ((v1.Forest.Nodes.length : Nat) : Int))) (bnd (idx v1.Forest.Nodes t3) fun y4 => bnd (Forest_named_m fu y4) fun r5 => cnd (!r5) (some false) (bnd (Forest_view_owned_m fu v1 t3) fun r6 => cnd (!r6) (some false) (bnd (Forest_view_hung_m fu v1 t3) fun r7 => cnd (!r7) (some false) (bnd (Forest_view_bears_m fu v1 t3) fun r8 => cnd (!r8) (some false) (bnd (Forest_view_shaded_m fu v1 t3) fun r9 => cnd (!r9) (some false) (bnd (rng .i64 (t3 + 1)) fun i10 => (Forest_view_right_l1 fu v1 k1) i10)))))) ((Forest_view_right_l2 fu v1) fu 0)

def Forest_view_right_m (fu : Nat) (v1 : Forest_view) : Option Bool := cnd (decide (v1.Forest.Most < 1)) (some false) (cnd (decide (v1.Forest.Most > 400)) (some false) (cnd (decide (((v1.Forest.Nodes.length : Nat) : Int) < 1)) (some false) (cnd (decide (((v1.Forest.Nodes.length : Nat) : Int) > v1.Forest.Most)) (some false) (bnd (idx v1.Forest.Nodes 0) fun y2 => cnd (y2.Kind != 0) (some false) ((Forest_view_right_l1 fu v1) fu 0)))))

set_option maxHeartbeats 10000000 in
set_option maxRecDepth 100000 in
theorem Forest_view_right_ok (fu : Nat) (v1 : Forest_view) : ∀ r, Forest_view_right_m fu v1 = some r → DC Try.prog 55 [.agg (cForest_view v1)] (.v (.bool r)) := by
  intro r hr
  refine fc_intro (args := [.agg (cForest_view v1)]) (S := []) (N0 := []) (post := fun r p S => p = .v (.bool r) ∧ S = []) Try.func55 rfl rfl hr fun w0 X X0 σ0 => ?_
  refine pw_seq ?_
  refine pw_region ?_
  refine po_box  1 rfl rfl rfl rfl rfl rfl rfl rfl rfl rfl ?_
  refine po_evs (T := tab) 1 rfl rfl ?_
  refine po_nil ?_
  refine pn_seq ?_
  refine pw_seq ?_
  refine pw_seq ?_
  refine pw_region ?_
  refine po_evs (T := tab) 5 rfl rfl ?_
  refine po_split (j := 10) rfl ?_ ?_
  · refine po_evs (T := tab) 31 rfl rfl ?_
    refine po_nil ?_
    refine pn_seq (pw_then rfl ?_)
    refine pw_seq ?_
    refine pw_region ?_
    refine po_evs (T := tab) 1 rfl rfl ?_
    refine po_nil ?_
    refine pn_seq ?_
    exact pw_retN (T := tab) rfl rfl rfl ⟨rfl, rfl⟩ trivial rfl
  · refine po_evs (T := tab) 6 rfl rfl ?_
    refine po_split (j := 16) rfl ?_ ?_
    · refine po_evs (T := tab) 25 rfl rfl ?_
      refine po_nil ?_
      refine pn_seq (pw_then rfl ?_)
      refine pw_seq ?_
      refine pw_region ?_
      refine po_evs (T := tab) 1 rfl rfl ?_
      refine po_nil ?_
      refine pn_seq ?_
      exact pw_retN (T := tab) rfl rfl rfl ⟨rfl, rfl⟩ trivial rfl
    · refine po_evs (T := tab) 3 rfl rfl ?_
      refine po_len (T := tab) cNode v1.Forest.Nodes rfl rfl rfl rfl rfl rfl rfl rfl ?_
      refine po_evs (T := tab) 3 rfl rfl ?_
      refine po_split (j := 23) rfl ?_ ?_
      · refine po_evs (T := tab) 18 rfl rfl ?_
        refine po_nil ?_
        refine pn_seq (pw_then rfl ?_)
        refine pw_seq ?_
        refine pw_region ?_
        refine po_evs (T := tab) 1 rfl rfl ?_
        refine po_nil ?_
        refine pn_seq ?_
        exact pw_retN (T := tab) rfl rfl rfl ⟨rfl, rfl⟩ trivial rfl
      · refine po_evs (T := tab) 3 rfl rfl ?_
        refine po_len (T := tab) cNode v1.Forest.Nodes rfl rfl rfl rfl rfl rfl rfl rfl ?_
        refine po_evs (T := tab) 6 rfl rfl ?_
        refine po_split (j := 33) rfl ?_ ?_
        · refine po_evs (T := tab) 8 rfl rfl ?_
          refine po_nil ?_
          refine pn_seq (pw_then rfl ?_)
          refine pw_seq ?_
          refine pw_region ?_
          refine po_evs (T := tab) 1 rfl rfl ?_
          refine po_nil ?_
          refine pn_seq ?_
          exact pw_retN (T := tab) rfl rfl rfl ⟨rfl, rfl⟩ trivial rfl
        · refine po_evs (T := tab) 3 rfl rfl ?_
          refine po_idx (T := tab) cNode v1.Forest.Nodes rfl rfl rfl rfl rfl rfl rfl fun y2 hy2 => ?_
          refine po_evs (T := tab) 4 rfl rfl ?_
          refine po_nil ?_
          refine pn_seq ?_
          refine pw_cnd rfl ?_ ?_
          · refine pw_seq ?_
            refine pw_region ?_
            refine po_evs (T := tab) 1 rfl rfl ?_
            refine po_nil ?_
            refine pn_seq ?_
            exact pw_retN (T := tab) rfl rfl rfl ⟨rfl, rfl⟩ trivial rfl
          · refine pw_skip ?_
            refine pn_seq ?_
            refine pw_seq ?_
            refine pw_seq ?_
            refine pw_region ?_
            refine po_evs (T := tab) 3 rfl rfl ?_
            refine po_len (T := tab) cNode v1.Forest.Nodes rfl rfl rfl rfl rfl rfl rfl rfl ?_
            refine po_evs (T := tab) 1 rfl rfl ?_
            refine po_nil ?_
            refine pn_seq ?_
            refine pw_block ?_
            refine pw_loop' (Forest_view_right_l1 fu v1) (fun (t3 : Int) => [(1, .loc 1 0), (44, .sl 10 false (v1.Forest.Nodes.map cNode)), (45, .v (.int .i64 ((v1.Forest.Nodes.length : Nat) : Int))), (46, .v (.int .i64 t3))]) (fun (t3 : Int) => [(1, .box [.sl 10 false (v1.Forest.Nodes.map cNode), .v (.int .i64 v1.Forest.Most)])]) fu 0 (fun _ => rfl) ⟨rfl, rfl, rfl, rfl, trivial⟩ ⟨rfl, trivial⟩ rfl ?_
            rintro k1 t3
            refine pw_seq ?_
            refine pw_region ?_
            refine po_evs (T := tab) 1 rfl rfl ?_
            refine po_nil ?_
            refine pn_seq ?_
            refine pw_seq ?_
            refine pw_cnd rfl ?_ ?_
            · refine pw_skip ?_
              refine pn_seq ?_
              refine pw_seq ?_
              refine pw_block ?_
              refine pw_seq ?_
              refine pw_region ?_
              refine po_evs (T := tab) 1 rfl rfl ?_
              refine po_idx (T := tab) cNode v1.Forest.Nodes rfl rfl rfl rfl rfl rfl rfl fun y4 hy4 => ?_
              refine po_evs (T := tab) 1 rfl rfl ?_
              refine po_alloc (T := tab) 4 rfl rfl rfl rfl rfl rfl rfl rfl rfl ?_
              refine po_evs (T := tab) 1 rfl rfl ?_
              refine po_store (T := tab) rfl rfl rfl rfl rfl rfl rfl rfl rfl rfl rfl rfl ?_
              refine po_nil ?_
              refine pn_seq ?_
              refine pw_seq ?_
              refine pw_region ?_
              refine po_evs (T := tab) 1 rfl rfl ?_
              refine po_call (enc := fun (r5 : Bool) => .v (.bool r5)) (qs := [.agg (cNode y4)]) (Forest_named_ok fu y4) rfl rfl ⟨⟨_, rfl, .rfl⟩, trivial⟩ (fun _ => rfl) call76 rfl rfl fun r5 hr5 => ?_
              refine po_evs (T := tab) 2 rfl rfl ?_
              refine po_split (j := 54) rfl ?_ ?_
              · refine po_evs (T := tab) 23 rfl rfl ?_
                refine po_nil ?_
                refine pn_seq (pw_then rfl ?_)
                refine pw_seq ?_
                refine pw_region ?_
                refine po_evs (T := tab) 1 rfl rfl ?_
                refine po_nil ?_
                refine pn_seq ?_
                exact pw_retN (T := tab) rfl rfl rfl ⟨rfl, rfl⟩ trivial rfl
              · refine po_evs (T := tab) 2 rfl rfl ?_
                refine po_call (enc := fun (r6 : Bool) => .v (.bool r6)) (qs := [.agg (cForest_view v1), .v (.int .i64 t3)]) (Forest_view_owned_ok fu v1 t3) rfl rfl ⟨⟨_, rfl, .rfl⟩, ⟨_, rfl, .rfl⟩, trivial⟩ (fun _ => rfl) call77 rfl rfl fun r6 hr6 => ?_
                refine po_evs (T := tab) 3 rfl rfl ?_
                refine po_split (j := 60) rfl ?_ ?_
                · refine po_evs (T := tab) 17 rfl rfl ?_
                  refine po_nil ?_
                  refine pn_seq (pw_then rfl ?_)
                  refine pw_seq ?_
                  refine pw_region ?_
                  refine po_evs (T := tab) 1 rfl rfl ?_
                  refine po_nil ?_
                  refine pn_seq ?_
                  exact pw_retN (T := tab) rfl rfl rfl ⟨rfl, rfl⟩ trivial rfl
                · refine po_evs (T := tab) 2 rfl rfl ?_
                  refine po_call (enc := fun (r7 : Bool) => .v (.bool r7)) (qs := [.agg (cForest_view v1), .v (.int .i64 t3)]) (Forest_view_hung_ok fu v1 t3) rfl rfl ⟨⟨_, rfl, .rfl⟩, ⟨_, rfl, .rfl⟩, trivial⟩ (fun _ => rfl) call78 rfl rfl fun r7 hr7 => ?_
                  refine po_evs (T := tab) 3 rfl rfl ?_
                  refine po_split (j := 66) rfl ?_ ?_
                  · refine po_evs (T := tab) 11 rfl rfl ?_
                    refine po_nil ?_
                    refine pn_seq (pw_then rfl ?_)
                    refine pw_seq ?_
                    refine pw_region ?_
                    refine po_evs (T := tab) 1 rfl rfl ?_
                    refine po_nil ?_
                    refine pn_seq ?_
                    exact pw_retN (T := tab) rfl rfl rfl ⟨rfl, rfl⟩ trivial rfl
                  · refine po_evs (T := tab) 2 rfl rfl ?_
                    refine po_call (enc := fun (r8 : Bool) => .v (.bool r8)) (qs := [.agg (cForest_view v1), .v (.int .i64 t3)]) (Forest_view_bears_ok fu v1 t3) rfl rfl ⟨⟨_, rfl, .rfl⟩, ⟨_, rfl, .rfl⟩, trivial⟩ (fun _ => rfl) call79 rfl rfl fun r8 hr8 => ?_
                    refine po_evs (T := tab) 3 rfl rfl ?_
                    refine po_split (j := 72) rfl ?_ ?_
                    · refine po_evs (T := tab) 5 rfl rfl ?_
                      refine po_nil ?_
                      refine pn_seq (pw_then rfl ?_)
                      refine pw_seq ?_
                      refine pw_region ?_
                      refine po_evs (T := tab) 1 rfl rfl ?_
                      refine po_nil ?_
                      refine pn_seq ?_
                      exact pw_retN (T := tab) rfl rfl rfl ⟨rfl, rfl⟩ trivial rfl
                    · refine po_evs (T := tab) 2 rfl rfl ?_
                      refine po_call (enc := fun (r9 : Bool) => .v (.bool r9)) (qs := [.agg (cForest_view v1), .v (.int .i64 t3)]) (Forest_view_shaded_ok fu v1 t3) rfl rfl ⟨⟨_, rfl, .rfl⟩, ⟨_, rfl, .rfl⟩, trivial⟩ (fun _ => rfl) call80 rfl rfl fun r9 hr9 => ?_
                      refine po_evs (T := tab) 2 rfl rfl ?_
                      refine po_nil ?_
                      refine pn_seq ?_
                      refine pw_cnd rfl ?_ ?_
                      · refine pw_seq ?_
                        refine pw_region ?_
                        refine po_evs (T := tab) 1 rfl rfl ?_
                        refine po_nil ?_
                        refine pn_seq ?_
                        exact pw_retN (T := tab) rfl rfl rfl ⟨rfl, rfl⟩ trivial rfl
                      · refine pw_skip ?_
                        refine pn_block ?_
                        refine pn_seq ?_
                        refine pw_region ?_
                        refine po_arith' (T := tab) rfl rfl rfl rfl fun i10 hi10 => ?_
                        refine po_evs (T := tab) 1 rfl rfl ?_
                        refine po_nil ?_
                        exact pn_iter' i10 ⟨rfl, rfl, rfl, rfl, trivial⟩ ⟨rfl, trivial⟩ rfl
            · refine pw_exit rfl ?_
              refine pn_seq ?_
              refine pw_seq ?_
              refine pw_seq ?_
              refine pw_region ?_
              refine po_evs (T := tab) 3 rfl rfl ?_
              refine po_len (T := tab) cNode v1.Forest.Nodes rfl rfl rfl rfl rfl rfl rfl rfl ?_
              refine po_evs (T := tab) 1 rfl rfl ?_
              refine po_nil ?_
              refine pn_seq ?_
              refine pw_block ?_
              refine pw_loop' (Forest_view_right_l2 fu v1) (fun (t11 : Int) => [(1, .loc 1 0), (82, .v (.int .i64 ((v1.Forest.Nodes.length : Nat) : Int))), (83, .v (.int .i64 t11))]) (fun (t11 : Int) => [(1, .box [.sl 10 false (v1.Forest.Nodes.map cNode), .v (.int .i64 v1.Forest.Most)])]) fu 0 (fun _ => rfl) ⟨rfl, rfl, rfl, trivial⟩ ⟨rfl, trivial⟩ rfl ?_
              rintro k2 t11
              refine pw_seq ?_
              refine pw_region ?_
              refine po_evs (T := tab) 1 rfl rfl ?_
              refine po_nil ?_
              refine pn_seq ?_
              refine pw_seq ?_
              refine pw_cnd rfl ?_ ?_
              · refine pw_skip ?_
                refine pn_seq ?_
                refine pw_seq ?_
                refine pw_block ?_
                refine pw_seq ?_
                refine pw_region ?_
                refine po_evs (T := tab) 2 rfl rfl ?_
                refine po_nil ?_
                refine pn_seq ?_
                refine pw_seq ?_
                refine pw_region ?_
                refine po_evs (T := tab) 2 rfl rfl ?_
                refine po_call (enc := fun (r12 : Bool) => .v (.bool r12)) (qs := [.agg (cForest_view v1), .v (.int .i64 t11)]) (Forest_view_ends_ok fu v1 t11) rfl rfl ⟨⟨_, rfl, .rfl⟩, ⟨_, rfl, .rfl⟩, trivial⟩ (fun _ => rfl) call81 rfl rfl fun r12 hr12 => ?_
                refine po_evs (T := tab) 1 rfl rfl ?_
                refine po_nil ?_
                refine pn_seq ?_
                refine pw_cnd rfl ?_ ?_
                · refine pw_seq ?_
                  refine pw_region ?_
                  refine po_evs (T := tab) 1 rfl rfl ?_
                  refine po_nil ?_
                  refine pn_seq ?_
                  exact pw_retN (T := tab) rfl rfl rfl ⟨rfl, rfl⟩ trivial rfl
                · refine pw_skip ?_
                  refine pn_block ?_
                  refine pn_seq ?_
                  refine pw_region ?_
                  refine po_arith' (T := tab) rfl rfl rfl rfl fun i13 hi13 => ?_
                  refine po_evs (T := tab) 1 rfl rfl ?_
                  refine po_nil ?_
                  exact pn_iter' i13 ⟨rfl, rfl, rfl, trivial⟩ ⟨rfl, trivial⟩ rfl
              · refine pw_exit rfl ?_
                refine pn_seq ?_
                refine pw_seq ?_
                refine pw_region ?_
                refine po_evs (T := tab) 1 rfl rfl ?_
                refine po_nil ?_
                refine pn_seq ?_
                exact pw_retN (T := tab) rfl rfl rfl ⟨rfl, rfl⟩ trivial rfl

def Forest_Right_m (fu : Nat) (f1 : Forest) : Option Bool := bnd (Forest_view_right_m fu (⟨(⟨f1.Nodes, f1.Most⟩ : Forest)⟩ : Forest_view)) fun r2 => some r2

set_option maxRecDepth 100000 in
theorem Forest_Right_ok (fu : Nat) (f1 : Forest) : ∀ r, Forest_Right_m fu f1 = some r → DC Try.prog 25 [.agg (cForest f1)] (.v (.bool r)) := by
  intro r hr
  refine fc_intro (args := [.agg (cForest f1)]) (S := []) (N0 := []) (post := fun r p S => p = .v (.bool r) ∧ S = []) Try.func25 rfl rfl hr fun w0 X X0 σ0 => ?_
  refine pw_seq ?_
  refine pw_region ?_
  refine po_box  1 rfl rfl rfl rfl rfl rfl rfl rfl rfl rfl ?_
  refine po_evs (T := tab) 1 rfl rfl ?_
  refine po_nil ?_
  refine pn_seq ?_
  refine pw_seq ?_
  refine pw_region ?_
  refine po_evs (T := tab) 1 rfl rfl ?_
  refine po_build (T := tab) rfl rfl rfl rfl rfl rfl rfl ?_
  refine po_call (enc := fun (r2 : Bool) => .v (.bool r2)) (qs := [.agg (cForest_view (⟨(⟨f1.Nodes, f1.Most⟩ : Forest)⟩ : Forest_view))]) (Forest_view_right_ok fu (⟨(⟨f1.Nodes, f1.Most⟩ : Forest)⟩ : Forest_view)) rfl rfl ⟨⟨_, rfl, .rfl⟩, trivial⟩ (fun _ => rfl) call55 rfl rfl fun r2 hr2 => ?_
  refine po_evs (T := tab) 1 rfl rfl ?_
  refine po_nil ?_
  refine pn_seq ?_
  exact pw_retN (T := tab) rfl rfl rfl ⟨rfl, rfl⟩ trivial rfl

def Instarlaw25_small_l1 (fu : Nat) (l1 : (List Op)) : Nat → Int → Option Bool
  | 0, _ => none
  | k1 + 1, i2 => cnd (decide (i2 < ((l1.length : Nat) : Int))) (bnd (idx l1 i2) fun y3 => bnd (Name_Small_m fu y3.S) fun r4 => bnd (idx l1 i2) fun y5 => cnd (!(r4 == y5.S)) (some false) (bnd (rng .i64 (i2 + 1)) fun i6 => (Instarlaw25_small_l1 fu l1 k1) i6)) (some true)

def Instarlaw25_small_m (fu : Nat) (l1 : (List Op)) : Option Bool := (Instarlaw25_small_l1 fu l1) fu 0

set_option maxHeartbeats 10000000 in
set_option maxRecDepth 100000 in
theorem Instarlaw25_small_ok (fu : Nat) (l1 : (List Op)) : ∀ r, Instarlaw25_small_m fu l1 = some r → DC Try.prog 26 [.sl 7 false (l1.map cOp)] (.v (.bool r)) := by
  intro r hr
  refine fc_intro (args := [.sl 7 false (l1.map cOp)]) (S := []) (N0 := []) (post := fun r p S => p = .v (.bool r) ∧ S = []) Try.func26 rfl rfl hr fun w0 X X0 σ0 => ?_
  refine pw_seq ?_
  refine pw_region ?_
  refine po_evs (T := tab) 1 rfl rfl ?_
  refine po_nil ?_
  refine pn_seq ?_
  refine pw_seq ?_
  refine pw_seq ?_
  refine pw_region ?_
  refine po_evs (T := tab) 1 rfl rfl ?_
  refine po_nil ?_
  refine pn_seq ?_
  refine pw_block ?_
  refine pw_loop' (Instarlaw25_small_l1 fu l1) (fun (i2 : Int) => [(0, .sl 7 false (l1.map cOp)), (3, .v (.int .i64 i2))]) (fun (i2 : Int) => []) fu 0 (fun _ => rfl) ⟨rfl, rfl, trivial⟩ trivial rfl ?_
  rintro k1 i2
  refine pw_seq ?_
  refine pw_seq ?_
  refine pw_region ?_
  refine po_evs (T := tab) 2 rfl rfl ?_
  refine po_len (T := tab) cOp l1 rfl rfl rfl rfl rfl rfl rfl rfl ?_
  refine po_evs (T := tab) 1 rfl rfl ?_
  refine po_nil ?_
  refine pn_seq ?_
  refine pw_cnd rfl ?_ ?_
  · refine pw_skip ?_
    refine pn_seq ?_
    refine pw_seq ?_
    refine pw_block ?_
    refine pw_seq ?_
    refine pw_draw mixed (by kernel_rfl) ?_
    refine pd_evs (T := tab) 2 rfl rfl ?_
    refine pd_idx (T := tab) cOp l1 rfl rfl rfl rfl rfl rfl rfl fun y3 hy3 => ?_
    refine pd_evs (T := tab) 2 rfl rfl ?_
    refine pd_call (enc := fun (r4 : Bs) => .v (.string ⟨⟨r4⟩⟩)) (qs := [.v (.string ⟨⟨y3.S⟩⟩)]) (Name_Small_ok fu y3.S) rfl rfl ⟨⟨_, rfl, .rfl⟩, trivial⟩ (fun _ => rfl) call44 rfl rfl fun r4 hr4 => ?_
    refine pd_evs (T := tab) 2 rfl rfl ?_
    refine pd_idx (T := tab) cOp l1 rfl rfl rfl rfl rfl rfl rfl fun y5 hy5 => ?_
    refine pd_evs (T := tab) 3 rfl rfl ?_
    refine pd_nil ?_
    refine pn_seq ?_
    refine pw_cnd rfl ?_ ?_
    · refine pw_seq ?_
      refine pw_region ?_
      refine po_evs (T := tab) 1 rfl rfl ?_
      refine po_nil ?_
      refine pn_seq ?_
      exact pw_retN (T := tab) rfl rfl rfl ⟨rfl, rfl⟩ trivial rfl
    · refine pw_skip ?_
      refine pn_block ?_
      refine pn_seq ?_
      refine pw_region ?_
      refine po_evs (T := tab) 1 rfl rfl ?_
      refine po_arith' (T := tab) rfl rfl rfl rfl fun i6 hi6 => ?_
      refine po_evs (T := tab) 1 rfl rfl ?_
      refine po_nil ?_
      exact pn_iter' i6 ⟨rfl, rfl, trivial⟩ trivial rfl
  · refine pw_exit rfl ?_
    refine pn_seq ?_
    refine pw_seq ?_
    refine pw_region ?_
    refine po_evs (T := tab) 1 rfl rfl ?_
    refine po_nil ?_
    refine pn_seq ?_
    exact pw_retN (T := tab) rfl rfl rfl ⟨rfl, rfl⟩ trivial rfl

def Instarlaw25_LabTwice_l2 (fu : Nat) (s1 : Script) (i34 : Int) (rc1 : (Bool × Int) → Option Bool) : Nat → Bool × Int → Option Bool
  | 0, _ => none
  | k2 + 1, (all40, k41) => bnd (idx s1.Classes i34) fun y42 => cnd (decide (k41 < ((y42.Hooks.length : Nat) : Int))) (cnd all40 (bnd (idx s1.Classes i34) fun y43 => bnd (idx y43.Hooks k41) fun y44 => bnd (Instarlaw25_small_m fu y44.Do) fun r45 => bnd (rng .i64 (k41 + 1)) fun i46 => (Instarlaw25_LabTwice_l2 fu s1 i34 rc1 k2) (r45, i46)) (bnd (rng .i64 (k41 + 1)) fun i47 => (Instarlaw25_LabTwice_l2 fu s1 i34 rc1 k2) (false, i47))) (bnd (rng .i64 (i34 + 1)) fun i48 => rc1 (all40, i48))

def Instarlaw25_LabTwice_j1 (fu : Nat) (s1 : Script) (i34 : Int) (rc1 : (Bool × Int) → Option Bool) (all39 : Bool) : Option Bool := (Instarlaw25_LabTwice_l2 fu s1 i34 rc1) fu (all39, 0)

def Instarlaw25_LabTwice_l1 (fu : Nat) (s1 : Script) (x6 : Bs) (y7 : Bs) (r29 : Script) : Nat → Bool × Int → Option Bool
  | 0, _ => none
  | k1 + 1, (all33, i34) => cnd (decide (i34 < ((s1.Classes.length : Nat) : Int))) (cnd all33 (bnd (idx s1.Classes i34) fun y35 => bnd (Instarlaw25_small_m fu y35.Peek) fun r36 => cnd r36 (bnd (idx s1.Classes i34) fun y37 => bnd (Instarlaw25_small_m fu y37.Make) fun r38 => (Instarlaw25_LabTwice_j1 fu s1 i34 (Instarlaw25_LabTwice_l1 fu s1 x6 y7 r29 k1)) r38) ((Instarlaw25_LabTwice_j1 fu s1 i34 (Instarlaw25_LabTwice_l1 fu s1 x6 y7 r29 k1)) false)) ((Instarlaw25_LabTwice_j1 fu s1 i34 (Instarlaw25_LabTwice_l1 fu s1 x6 y7 r29 k1)) false)) (cnd (!all33) (some true) (bnd (Lab_Names_m fu r29 x6 y7) fun r49 => bnd (Instarref22_Same_m fu r49 s1) fun r50 => some r50))

def Instarlaw25_LabTwice_m (fu : Nat) (s1 : Script) (l2 : (List Mark)) (f3 : Forest) (a4 : Int) (b5 : Int) (x6 : Bs) (y7 : Bs) : Option Bool := bnd (Instarlaw25_awake_m fu) fun r8 => cnd (!r8) (some false) (bnd (Instarlaw25_few_m fu s1) fun r9 => cnd (!r9) (some true) (cnd (decide (((l2.length : Nat) : Int) > 200)) (some true) (bnd (Instarref03_Short_m fu f3) fun r10 => cnd (!r10) (some true) (cnd (decide (((x6.length : Nat) : Int) > 300)) (some true) (cnd (decide (((y7.length : Nat) : Int) > 300)) (some true) (bnd (Lab_Classes_m fu s1 a4 b5) fun r11 => bnd (Lab_Classes_m fu s1 b5 a4) fun r12 => bnd (Instarref22_Same_m fu r11 r12) fun r13 => cnd (!r13) (some false) (bnd (Lab_Classes_m fu r11 a4 b5) fun r14 => bnd (Instarref22_Same_m fu r14 s1) fun r15 => cnd (!r15) (some false) (bnd (Lab_Classes_m fu s1 a4 a4) fun r16 => bnd (Instarref22_Same_m fu r16 s1) fun r17 => cnd (!r17) (some false) (bnd (Lab_MarksClasses_m fu l2 a4 b5) fun r18 => bnd (Lab_MarksNames_m fu l2 x6 y7) fun r19 => bnd (Lab_MarksClasses_m fu r18 b5 a4) fun r20 => bnd (Instarref20_Marks_m fu r20 l2) fun r21 => cnd (!r21) (some false) (bnd (Lab_MarksNames_m fu r19 y7 x6) fun r22 => bnd (Instarref20_Marks_m fu r22 l2) fun r23 => cnd (!r23) (some false) (bnd (Lab_ForestNames_m fu f3 x6 y7) fun r24 => bnd (Lab_ForestNames_m fu r24 y7 x6) fun r25 => bnd (Instarref03_Same_m fu r25 f3) fun r26 => cnd (!r26) (some false) (bnd (Forest_Right_m fu f3) fun r27 => bnd (Forest_Right_m fu r24) fun r28 => cnd (!(r27 == r28)) (some false) (bnd (Lab_Names_m fu s1 x6 y7) fun r29 => bnd (Lab_Names_m fu s1 y7 x6) fun r30 => bnd (Instarref22_Same_m fu r29 r30) fun r31 => cnd (!r31) (some false) (bnd (Instarlaw25_small_m fu s1.Main) fun r32 => (Instarlaw25_LabTwice_l1 fu s1 x6 y7 r29) fu (r32, 0)))))))))))))))

set_option maxHeartbeats 10000000 in
set_option maxRecDepth 100000 in
theorem Instarlaw25_LabTwice_ok (fu : Nat) (s1 : Script) (l2 : (List Mark)) (f3 : Forest) (a4 : Int) (b5 : Int) (x6 : Bs) (y7 : Bs) : ∀ r, Instarlaw25_LabTwice_m fu s1 l2 f3 a4 b5 x6 y7 = some r → DC Try.prog 5 [.agg (cScript s1), .sl 13 false (l2.map cMark), .agg (cForest f3), .v (.int .i64 a4), .v (.int .i64 b5), .v (.string ⟨⟨x6⟩⟩), .v (.string ⟨⟨y7⟩⟩)] (.v (.bool r)) := by
  intro r hr
  refine fc_intro (args := [.agg (cScript s1), .sl 13 false (l2.map cMark), .agg (cForest f3), .v (.int .i64 a4), .v (.int .i64 b5), .v (.string ⟨⟨x6⟩⟩), .v (.string ⟨⟨y7⟩⟩)]) (S := []) (N0 := []) (post := fun r p S => p = .v (.bool r) ∧ S = []) Try.func5 rfl rfl hr fun w0 X X0 σ0 => ?_
  refine pw_seq ?_
  refine pw_region ?_
  refine po_box  7 rfl rfl rfl rfl rfl rfl rfl rfl rfl rfl ?_
  refine po_box  9 rfl rfl rfl rfl rfl rfl rfl rfl rfl rfl ?_
  refine po_evs (T := tab) 1 rfl rfl ?_
  refine po_nil ?_
  refine pn_seq ?_
  refine pw_seq ?_
  refine pw_seq ?_
  refine pw_region ?_
  refine po_call (enc := fun (r8 : Bool) => .v (.bool r8)) (qs := []) (Instarlaw25_awake_ok fu) rfl rfl trivial (fun _ => rfl) call6 rfl rfl fun r8 hr8 => ?_
  refine po_evs (T := tab) 1 rfl rfl ?_
  refine po_nil ?_
  refine pn_seq ?_
  refine pw_cnd rfl ?_ ?_
  · refine pw_seq ?_
    refine pw_region ?_
    refine po_evs (T := tab) 1 rfl rfl ?_
    refine po_nil ?_
    refine pn_seq ?_
    exact pw_retN (T := tab) rfl rfl rfl ⟨rfl, rfl⟩ trivial rfl
  · refine pw_skip ?_
    refine pn_seq ?_
    refine pw_seq ?_
    refine pw_seq ?_
    refine pw_region ?_
    refine po_evs (T := tab) 1 rfl rfl ?_
    refine po_call (enc := fun (r9 : Bool) => .v (.bool r9)) (qs := [.agg (cScript s1)]) (Instarlaw25_few_ok fu s1) rfl rfl ⟨⟨_, rfl, .rfl⟩, trivial⟩ (fun _ => rfl) call7 rfl rfl fun r9 hr9 => ?_
    refine po_evs (T := tab) 2 rfl rfl ?_
    refine po_split (j := 28) rfl ?_ ?_
    · refine po_evs (T := tab) 19 rfl rfl ?_
      refine po_nil ?_
      refine pn_seq (pw_then rfl ?_)
      refine pw_seq ?_
      refine pw_region ?_
      refine po_evs (T := tab) 1 rfl rfl ?_
      refine po_nil ?_
      refine pn_seq ?_
      exact pw_retN (T := tab) rfl rfl rfl ⟨rfl, rfl⟩ trivial rfl
    · refine po_evs (T := tab) 1 rfl rfl ?_
      refine po_len (T := tab) cMark l2 rfl rfl rfl rfl rfl rfl rfl rfl ?_
      refine po_evs (T := tab) 3 rfl rfl ?_
      refine po_split (j := 33) rfl ?_ ?_
      · refine po_evs (T := tab) 14 rfl rfl ?_
        refine po_nil ?_
        refine pn_seq (pw_then rfl ?_)
        refine pw_seq ?_
        refine pw_region ?_
        refine po_evs (T := tab) 1 rfl rfl ?_
        refine po_nil ?_
        refine pn_seq ?_
        exact pw_retN (T := tab) rfl rfl rfl ⟨rfl, rfl⟩ trivial rfl
      · refine po_evs (T := tab) 1 rfl rfl ?_
        refine po_call (enc := fun (r10 : Bool) => .v (.bool r10)) (qs := [.agg (cForest f3)]) (Instarref03_Short_ok fu f3) rfl rfl ⟨⟨_, rfl, .rfl⟩, trivial⟩ (fun _ => rfl) call8 rfl rfl fun r10 hr10 => ?_
        refine po_evs (T := tab) 3 rfl rfl ?_
        refine po_split (j := 38) rfl ?_ ?_
        · refine po_evs (T := tab) 9 rfl rfl ?_
          refine po_nil ?_
          refine pn_seq (pw_then rfl ?_)
          refine pw_seq ?_
          refine pw_region ?_
          refine po_evs (T := tab) 1 rfl rfl ?_
          refine po_nil ?_
          refine pn_seq ?_
          exact pw_retN (T := tab) rfl rfl rfl ⟨rfl, rfl⟩ trivial rfl
        · refine po_evs (T := tab) 5 rfl rfl ?_
          refine po_split (j := 43) rfl ?_ ?_
          · refine po_evs (T := tab) 4 rfl rfl ?_
            refine po_nil ?_
            refine pn_seq (pw_then rfl ?_)
            refine pw_seq ?_
            refine pw_region ?_
            refine po_evs (T := tab) 1 rfl rfl ?_
            refine po_nil ?_
            refine pn_seq ?_
            exact pw_retN (T := tab) rfl rfl rfl ⟨rfl, rfl⟩ trivial rfl
          · refine po_evs (T := tab) 4 rfl rfl ?_
            refine po_nil ?_
            refine pn_seq ?_
            refine pw_cnd rfl ?_ ?_
            · refine pw_seq ?_
              refine pw_region ?_
              refine po_evs (T := tab) 1 rfl rfl ?_
              refine po_nil ?_
              refine pn_seq ?_
              exact pw_retN (T := tab) rfl rfl rfl ⟨rfl, rfl⟩ trivial rfl
            · refine pw_skip ?_
              refine pn_seq ?_
              refine pw_seq ?_
              refine pw_region ?_
              refine po_evs (T := tab) 3 rfl rfl ?_
              refine po_call (enc := fun (r11 : Script) => .agg (cScript r11)) (qs := [.agg (cScript s1), .v (.int .i64 a4), .v (.int .i64 b5)]) (Lab_Classes_ok fu s1 a4 b5) rfl rfl ⟨⟨_, rfl, .rfl⟩, ⟨_, rfl, .rfl⟩, ⟨_, rfl, .rfl⟩, trivial⟩ (fun _ => rfl) call12 rfl rfl fun r11 hr11 => ?_
              refine po_alloc (T := tab) 15 rfl rfl rfl rfl rfl rfl rfl rfl rfl ?_
              refine po_store (T := tab) rfl rfl rfl rfl rfl rfl rfl rfl rfl rfl rfl rfl ?_
              refine po_nil ?_
              refine pn_seq ?_
              refine pw_seq ?_
              refine pw_seq ?_
              refine pw_draw mixed (by kernel_rfl) ?_
              refine pd_evs (T := tab) 4 rfl rfl ?_
              refine pd_call (enc := fun (r12 : Script) => .agg (cScript r12)) (qs := [.agg (cScript s1), .v (.int .i64 b5), .v (.int .i64 a4)]) (Lab_Classes_ok fu s1 b5 a4) rfl rfl ⟨⟨_, rfl, .rfl⟩, ⟨_, rfl, .rfl⟩, ⟨_, rfl, .rfl⟩, trivial⟩ (fun _ => rfl) call12 rfl rfl fun r12 hr12 => ?_
              refine pd_call (enc := fun (r13 : Bool) => .v (.bool r13)) (qs := [.agg (cScript r11), .agg (cScript r12)]) (Instarref22_Same_ok fu r11 r12) rfl rfl ⟨⟨_, rfl, .rfl⟩, ⟨_, rfl, .rfl⟩, trivial⟩ (fun _ => rfl) call11 rfl rfl fun r13 hr13 => ?_
              refine pd_evs (T := tab) 2 rfl rfl ?_
              refine pd_split (j := 59) rfl ?_ ?_
              · refine pd_evs (T := tab) 17 rfl rfl ?_
                refine pd_nil ?_
                refine pn_seq (pw_then rfl ?_)
                refine pw_seq ?_
                refine pw_region ?_
                refine po_evs (T := tab) 1 rfl rfl ?_
                refine po_nil ?_
                refine pn_seq ?_
                exact pw_retN (T := tab) rfl rfl rfl ⟨rfl, rfl⟩ trivial rfl
              · refine pd_evs (T := tab) 3 rfl rfl ?_
                refine pd_call (enc := fun (r14 : Script) => .agg (cScript r14)) (qs := [.agg (cScript r11), .v (.int .i64 a4), .v (.int .i64 b5)]) (Lab_Classes_ok fu r11 a4 b5) rfl rfl ⟨⟨_, rfl, .rfl⟩, ⟨_, rfl, .rfl⟩, ⟨_, rfl, .rfl⟩, trivial⟩ (fun _ => rfl) call12 rfl rfl fun r14 hr14 => ?_
                refine pd_evs (T := tab) 1 rfl rfl ?_
                refine pd_call (enc := fun (r15 : Bool) => .v (.bool r15)) (qs := [.agg (cScript r14), .agg (cScript s1)]) (Instarref22_Same_ok fu r14 s1) rfl rfl ⟨⟨_, rfl, .rfl⟩, ⟨_, rfl, .rfl⟩, trivial⟩ (fun _ => rfl) call11 rfl rfl fun r15 hr15 => ?_
                refine pd_evs (T := tab) 3 rfl rfl ?_
                refine pd_split (j := 68) rfl ?_ ?_
                · refine pd_evs (T := tab) 8 rfl rfl ?_
                  refine pd_nil ?_
                  refine pn_seq (pw_then rfl ?_)
                  refine pw_seq ?_
                  refine pw_region ?_
                  refine po_evs (T := tab) 1 rfl rfl ?_
                  refine po_nil ?_
                  refine pn_seq ?_
                  exact pw_retN (T := tab) rfl rfl rfl ⟨rfl, rfl⟩ trivial rfl
                · refine pd_evs (T := tab) 3 rfl rfl ?_
                  refine pd_call (enc := fun (r16 : Script) => .agg (cScript r16)) (qs := [.agg (cScript s1), .v (.int .i64 a4), .v (.int .i64 a4)]) (Lab_Classes_ok fu s1 a4 a4) rfl rfl ⟨⟨_, rfl, .rfl⟩, ⟨_, rfl, .rfl⟩, ⟨_, rfl, .rfl⟩, trivial⟩ (fun _ => rfl) call12 rfl rfl fun r16 hr16 => ?_
                  refine pd_evs (T := tab) 1 rfl rfl ?_
                  refine pd_call (enc := fun (r17 : Bool) => .v (.bool r17)) (qs := [.agg (cScript r16), .agg (cScript s1)]) (Instarref22_Same_ok fu r16 s1) rfl rfl ⟨⟨_, rfl, .rfl⟩, ⟨_, rfl, .rfl⟩, trivial⟩ (fun _ => rfl) call11 rfl rfl fun r17 hr17 => ?_
                  refine pd_evs (T := tab) 2 rfl rfl ?_
                  refine pd_nil ?_
                  refine pn_seq ?_
                  refine pw_cnd rfl ?_ ?_
                  · refine pw_seq ?_
                    refine pw_region ?_
                    refine po_evs (T := tab) 1 rfl rfl ?_
                    refine po_nil ?_
                    refine pn_seq ?_
                    exact pw_retN (T := tab) rfl rfl rfl ⟨rfl, rfl⟩ trivial rfl
                  · refine pw_skip ?_
                    refine pn_seq ?_
                    refine pw_seq ?_
                    refine pw_region ?_
                    refine po_evs (T := tab) 3 rfl rfl ?_
                    refine po_call (enc := fun (r18 : (List Mark)) => .sl 13 false (r18.map cMark)) (qs := [.sl 13 false (l2.map cMark), .v (.int .i64 a4), .v (.int .i64 b5)]) (Lab_MarksClasses_ok fu l2 a4 b5) rfl rfl ⟨⟨_, rfl, .rfl⟩, ⟨_, rfl, .rfl⟩, ⟨_, rfl, .rfl⟩, trivial⟩ (fun _ => rfl) call15 rfl rfl fun r18 hr18 => ?_
                    refine po_evs (T := tab) 1 rfl rfl ?_
                    refine po_nil ?_
                    refine pn_seq ?_
                    refine pw_seq ?_
                    refine pw_region ?_
                    refine po_evs (T := tab) 3 rfl rfl ?_
                    refine po_call (enc := fun (r19 : (List Mark)) => .sl 13 false (r19.map cMark)) (qs := [.sl 13 false (l2.map cMark), .v (.string ⟨⟨x6⟩⟩), .v (.string ⟨⟨y7⟩⟩)]) (Lab_MarksNames_ok fu l2 x6 y7) rfl rfl ⟨⟨_, rfl, .rfl⟩, ⟨_, rfl, .rfl⟩, ⟨_, rfl, .rfl⟩, trivial⟩ (fun _ => rfl) call19 rfl rfl fun r19 hr19 => ?_
                    refine po_evs (T := tab) 1 rfl rfl ?_
                    refine po_nil ?_
                    refine pn_seq ?_
                    refine pw_seq ?_
                    refine pw_seq ?_
                    refine pw_region ?_
                    refine po_evs (T := tab) 3 rfl rfl ?_
                    refine po_call (enc := fun (r20 : (List Mark)) => .sl 13 false (r20.map cMark)) (qs := [.sl 13 false (r18.map cMark), .v (.int .i64 b5), .v (.int .i64 a4)]) (Lab_MarksClasses_ok fu r18 b5 a4) rfl rfl ⟨⟨_, rfl, .rfl⟩, ⟨_, rfl, .rfl⟩, ⟨_, rfl, .rfl⟩, trivial⟩ (fun _ => rfl) call15 rfl rfl fun r20 hr20 => ?_
                    refine po_evs (T := tab) 1 rfl rfl ?_
                    refine po_call (enc := fun (r21 : Bool) => .v (.bool r21)) (qs := [.sl 13 false (r20.map cMark), .sl 13 false (l2.map cMark)]) (Instarref20_Marks_ok fu r20 l2) rfl rfl ⟨⟨_, rfl, .rfl⟩, ⟨_, rfl, .rfl⟩, trivial⟩ (fun _ => rfl) call14 rfl rfl fun r21 hr21 => ?_
                    refine po_evs (T := tab) 2 rfl rfl ?_
                    refine po_split (j := 92) rfl ?_ ?_
                    · refine po_evs (T := tab) 8 rfl rfl ?_
                      refine po_nil ?_
                      refine pn_seq (pw_then rfl ?_)
                      refine pw_seq ?_
                      refine pw_region ?_
                      refine po_evs (T := tab) 1 rfl rfl ?_
                      refine po_nil ?_
                      refine pn_seq ?_
                      exact pw_retN (T := tab) rfl rfl rfl ⟨rfl, rfl⟩ trivial rfl
                    · refine po_evs (T := tab) 3 rfl rfl ?_
                      refine po_call (enc := fun (r22 : (List Mark)) => .sl 13 false (r22.map cMark)) (qs := [.sl 13 false (r19.map cMark), .v (.string ⟨⟨y7⟩⟩), .v (.string ⟨⟨x6⟩⟩)]) (Lab_MarksNames_ok fu r19 y7 x6) rfl rfl ⟨⟨_, rfl, .rfl⟩, ⟨_, rfl, .rfl⟩, ⟨_, rfl, .rfl⟩, trivial⟩ (fun _ => rfl) call19 rfl rfl fun r22 hr22 => ?_
                      refine po_evs (T := tab) 1 rfl rfl ?_
                      refine po_call (enc := fun (r23 : Bool) => .v (.bool r23)) (qs := [.sl 13 false (r22.map cMark), .sl 13 false (l2.map cMark)]) (Instarref20_Marks_ok fu r22 l2) rfl rfl ⟨⟨_, rfl, .rfl⟩, ⟨_, rfl, .rfl⟩, trivial⟩ (fun _ => rfl) call14 rfl rfl fun r23 hr23 => ?_
                      refine po_evs (T := tab) 2 rfl rfl ?_
                      refine po_nil ?_
                      refine pn_seq ?_
                      refine pw_cnd rfl ?_ ?_
                      · refine pw_seq ?_
                        refine pw_region ?_
                        refine po_evs (T := tab) 1 rfl rfl ?_
                        refine po_nil ?_
                        refine pn_seq ?_
                        exact pw_retN (T := tab) rfl rfl rfl ⟨rfl, rfl⟩ trivial rfl
                      · refine pw_skip ?_
                        refine pn_seq ?_
                        refine pw_seq ?_
                        refine pw_region ?_
                        refine po_evs (T := tab) 3 rfl rfl ?_
                        refine po_call (enc := fun (r24 : Forest) => .agg (cForest r24)) (qs := [.agg (cForest f3), .v (.string ⟨⟨x6⟩⟩), .v (.string ⟨⟨y7⟩⟩)]) (Lab_ForestNames_ok fu f3 x6 y7) rfl rfl ⟨⟨_, rfl, .rfl⟩, ⟨_, rfl, .rfl⟩, ⟨_, rfl, .rfl⟩, trivial⟩ (fun _ => rfl) call22 rfl rfl fun r24 hr24 => ?_
                        refine po_alloc (T := tab) 18 rfl rfl rfl rfl rfl rfl rfl rfl rfl ?_
                        refine po_store (T := tab) rfl rfl rfl rfl rfl rfl rfl rfl rfl rfl rfl rfl ?_
                        refine po_nil ?_
                        refine pn_seq ?_
                        refine pw_seq ?_
                        refine pw_seq ?_
                        refine pw_draw mixed (by kernel_rfl) ?_
                        refine pd_evs (T := tab) 3 rfl rfl ?_
                        refine pd_call (enc := fun (r25 : Forest) => .agg (cForest r25)) (qs := [.agg (cForest r24), .v (.string ⟨⟨y7⟩⟩), .v (.string ⟨⟨x6⟩⟩)]) (Lab_ForestNames_ok fu r24 y7 x6) rfl rfl ⟨⟨_, rfl, .rfl⟩, ⟨_, rfl, .rfl⟩, ⟨_, rfl, .rfl⟩, trivial⟩ (fun _ => rfl) call22 rfl rfl fun r25 hr25 => ?_
                        refine pd_evs (T := tab) 1 rfl rfl ?_
                        refine pd_call (enc := fun (r26 : Bool) => .v (.bool r26)) (qs := [.agg (cForest r25), .agg (cForest f3)]) (Instarref03_Same_ok fu r25 f3) rfl rfl ⟨⟨_, rfl, .rfl⟩, ⟨_, rfl, .rfl⟩, trivial⟩ (fun _ => rfl) call21 rfl rfl fun r26 hr26 => ?_
                        refine pd_evs (T := tab) 2 rfl rfl ?_
                        refine pd_split (j := 112) rfl ?_ ?_
                        · refine pd_evs (T := tab) 6 rfl rfl ?_
                          refine pd_nil ?_
                          refine pn_seq (pw_then rfl ?_)
                          refine pw_seq ?_
                          refine pw_region ?_
                          refine po_evs (T := tab) 1 rfl rfl ?_
                          refine po_nil ?_
                          refine pn_seq ?_
                          exact pw_retN (T := tab) rfl rfl rfl ⟨rfl, rfl⟩ trivial rfl
                        · refine pd_evs (T := tab) 1 rfl rfl ?_
                          refine pd_call (enc := fun (r27 : Bool) => .v (.bool r27)) (qs := [.agg (cForest f3)]) (Forest_Right_ok fu f3) rfl rfl ⟨⟨_, rfl, .rfl⟩, trivial⟩ (fun _ => rfl) call25 rfl rfl fun r27 hr27 => ?_
                          refine pd_evs (T := tab) 1 rfl rfl ?_
                          refine pd_call (enc := fun (r28 : Bool) => .v (.bool r28)) (qs := [.agg (cForest r24)]) (Forest_Right_ok fu r24) rfl rfl ⟨⟨_, rfl, .rfl⟩, trivial⟩ (fun _ => rfl) call25 rfl rfl fun r28 hr28 => ?_
                          refine pd_evs (T := tab) 2 rfl rfl ?_
                          refine pd_nil ?_
                          refine pn_seq ?_
                          refine pw_cnd rfl ?_ ?_
                          · refine pw_seq ?_
                            refine pw_region ?_
                            refine po_evs (T := tab) 1 rfl rfl ?_
                            refine po_nil ?_
                            refine pn_seq ?_
                            exact pw_retN (T := tab) rfl rfl rfl ⟨rfl, rfl⟩ trivial rfl
                          · refine pw_skip ?_
                            refine pn_seq ?_
                            refine pw_seq ?_
                            refine pw_region ?_
                            refine po_evs (T := tab) 3 rfl rfl ?_
                            refine po_call (enc := fun (r29 : Script) => .agg (cScript r29)) (qs := [.agg (cScript s1), .v (.string ⟨⟨x6⟩⟩), .v (.string ⟨⟨y7⟩⟩)]) (Lab_Names_ok fu s1 x6 y7) rfl rfl ⟨⟨_, rfl, .rfl⟩, ⟨_, rfl, .rfl⟩, ⟨_, rfl, .rfl⟩, trivial⟩ (fun _ => rfl) call17 rfl rfl fun r29 hr29 => ?_
                            refine po_alloc (T := tab) 19 rfl rfl rfl rfl rfl rfl rfl rfl rfl ?_
                            refine po_store (T := tab) rfl rfl rfl rfl rfl rfl rfl rfl rfl rfl rfl rfl ?_
                            refine po_nil ?_
                            refine pn_seq ?_
                            refine pw_seq ?_
                            refine pw_seq ?_
                            refine pw_draw mixed (by kernel_rfl) ?_
                            refine pd_evs (T := tab) 4 rfl rfl ?_
                            refine pd_call (enc := fun (r30 : Script) => .agg (cScript r30)) (qs := [.agg (cScript s1), .v (.string ⟨⟨y7⟩⟩), .v (.string ⟨⟨x6⟩⟩)]) (Lab_Names_ok fu s1 y7 x6) rfl rfl ⟨⟨_, rfl, .rfl⟩, ⟨_, rfl, .rfl⟩, ⟨_, rfl, .rfl⟩, trivial⟩ (fun _ => rfl) call17 rfl rfl fun r30 hr30 => ?_
                            refine pd_call (enc := fun (r31 : Bool) => .v (.bool r31)) (qs := [.agg (cScript r29), .agg (cScript r30)]) (Instarref22_Same_ok fu r29 r30) rfl rfl ⟨⟨_, rfl, .rfl⟩, ⟨_, rfl, .rfl⟩, trivial⟩ (fun _ => rfl) call11 rfl rfl fun r31 hr31 => ?_
                            refine pd_evs (T := tab) 1 rfl rfl ?_
                            refine pd_nil ?_
                            refine pn_seq ?_
                            refine pw_cnd rfl ?_ ?_
                            · refine pw_seq ?_
                              refine pw_region ?_
                              refine po_evs (T := tab) 1 rfl rfl ?_
                              refine po_nil ?_
                              refine pn_seq ?_
                              exact pw_retN (T := tab) rfl rfl rfl ⟨rfl, rfl⟩ trivial rfl
                            · refine pw_skip ?_
                              refine pn_seq ?_
                              refine pw_seq ?_
                              refine pw_region ?_
                              refine po_evs (T := tab) 2 rfl rfl ?_
                              refine po_call (enc := fun (r32 : Bool) => .v (.bool r32)) (qs := [.sl 7 false (s1.Main.map cOp)]) (Instarlaw25_small_ok fu s1.Main) rfl rfl ⟨⟨_, rfl, .rfl⟩, trivial⟩ (fun _ => rfl) call26 rfl rfl fun r32 hr32 => ?_
                              refine po_evs (T := tab) 1 rfl rfl ?_
                              refine po_nil ?_
                              refine pn_seq ?_
                              refine pw_seq ?_
                              refine pw_seq ?_
                              refine pw_region ?_
                              refine po_evs (T := tab) 1 rfl rfl ?_
                              refine po_nil ?_
                              refine pn_seq ?_
                              refine pw_block ?_
                              refine pw_loop' (Instarlaw25_LabTwice_l1 fu s1 x6 y7 r29) (fun ((all33, i34) : Bool × Int) => [(5, .v (.string ⟨⟨x6⟩⟩)), (6, .v (.string ⟨⟨y7⟩⟩)), (7, .loc 7 0), (19, .loc 19 0), (20, .v (.bool all33)), (21, .v (.int .i64 i34))]) (fun ((all33, i34) : Bool × Int) => [(19, .box [.sl 5 false (r29.Classes.map cClass), .sl 7 false (r29.Main.map cOp)]), (7, .box [.sl 5 false (s1.Classes.map cClass), .sl 7 false (s1.Main.map cOp)])]) fu (r32, 0) (fun _ => rfl) ⟨rfl, rfl, rfl, rfl, rfl, rfl, trivial⟩ ⟨rfl, rfl, trivial⟩ rfl ?_
                              rintro k1 ⟨all33, i34⟩
                              refine pw_seq ?_
                              refine pw_seq ?_
                              refine pw_region ?_
                              refine po_evs (T := tab) 3 rfl rfl ?_
                              refine po_len (T := tab) cClass s1.Classes rfl rfl rfl rfl rfl rfl rfl rfl ?_
                              refine po_evs (T := tab) 1 rfl rfl ?_
                              refine po_nil ?_
                              refine pn_seq ?_
                              refine pw_cnd rfl ?_ ?_
                              · refine pw_skip ?_
                                refine pn_seq ?_
                                refine pw_seq ?_
                                refine pw_block ?_
                                refine pw_seq ?_
                                refine pw_region ?_
                                refine po_joinK (Instarlaw25_LabTwice_j1 fu s1 i34 (Instarlaw25_LabTwice_l1 fu s1 x6 y7 r29 k1)) (fun (all39 : Bool) => [(5, .v (.string ⟨⟨x6⟩⟩)), (6, .v (.string ⟨⟨y7⟩⟩)), (7, .loc 7 0), (19, .loc 19 0), (20, .v (.bool all39)), (21, .v (.int .i64 i34))]) (fun (all39 : Bool) => [(19, .box [.sl 5 false (r29.Classes.map cClass), .sl 7 false (r29.Main.map cOp)]), (7, .box [.sl 5 false (s1.Classes.map cClass), .sl 7 false (s1.Main.map cOp)])]) ?_ fun hj1 => ?_
                                · rintro all39
                                  refine pn_seq ?_
                                  refine pw_seq ?_
                                  refine pw_region ?_
                                  refine po_evs (T := tab) 1 rfl rfl ?_
                                  refine po_nil ?_
                                  refine pn_seq ?_
                                  refine pw_block ?_
                                  refine pw_loop' (Instarlaw25_LabTwice_l2 fu s1 i34 (Instarlaw25_LabTwice_l1 fu s1 x6 y7 r29 k1)) (fun ((all40, k41) : Bool × Int) => [(5, .v (.string ⟨⟨x6⟩⟩)), (6, .v (.string ⟨⟨y7⟩⟩)), (7, .loc 7 0), (19, .loc 19 0), (20, .v (.bool all40)), (21, .v (.int .i64 i34)), (22, .v (.int .i64 k41))]) (fun ((all40, k41) : Bool × Int) => [(19, .box [.sl 5 false (r29.Classes.map cClass), .sl 7 false (r29.Main.map cOp)]), (7, .box [.sl 5 false (s1.Classes.map cClass), .sl 7 false (s1.Main.map cOp)])]) fu (all39, 0) (fun _ => rfl) ⟨rfl, rfl, rfl, rfl, rfl, rfl, rfl, trivial⟩ ⟨rfl, rfl, trivial⟩ rfl ?_
                                  rintro k2 ⟨all40, k41⟩
                                  refine pw_seq ?_
                                  refine pw_seq ?_
                                  refine pw_region ?_
                                  refine po_evs (T := tab) 4 rfl rfl ?_
                                  refine po_idx (T := tab) cClass s1.Classes rfl rfl rfl rfl rfl rfl rfl fun y42 hy42 => ?_
                                  refine po_evs (T := tab) 2 rfl rfl ?_
                                  refine po_len (T := tab) cHook y42.Hooks rfl rfl rfl rfl rfl rfl rfl rfl ?_
                                  refine po_evs (T := tab) 1 rfl rfl ?_
                                  refine po_nil ?_
                                  refine pn_seq ?_
                                  refine pw_cnd rfl ?_ ?_
                                  · refine pw_skip ?_
                                    refine pn_seq ?_
                                    refine pw_seq ?_
                                    refine pw_block ?_
                                    refine pw_region ?_
                                    refine po_evs (T := tab) 2 rfl rfl ?_
                                    refine po_split (j := 171) rfl ?_ ?_
                                    · refine po_evs (T := tab) 3 rfl rfl ?_
                                      refine po_idx (T := tab) cClass s1.Classes rfl rfl rfl rfl rfl rfl rfl fun y43 hy43 => ?_
                                      refine po_evs (T := tab) 3 rfl rfl ?_
                                      refine po_idx (T := tab) cHook y43.Hooks rfl rfl rfl rfl rfl rfl rfl fun y44 hy44 => ?_
                                      refine po_evs (T := tab) 2 rfl rfl ?_
                                      refine po_call (enc := fun (r45 : Bool) => .v (.bool r45)) (qs := [.sl 7 false (y44.Do.map cOp)]) (Instarlaw25_small_ok fu y44.Do) rfl rfl ⟨⟨_, rfl, .rfl⟩, trivial⟩ (fun _ => rfl) call26 rfl rfl fun r45 hr45 => ?_
                                      refine po_evs (T := tab) 2 rfl rfl ?_
                                      refine po_nil ?_
                                      refine pn_block ?_
                                      refine pn_seq ?_
                                      refine pw_region ?_
                                      refine po_evs (T := tab) 1 rfl rfl ?_
                                      refine po_arith' (T := tab) rfl rfl rfl rfl fun i46 hi46 => ?_
                                      refine po_evs (T := tab) 1 rfl rfl ?_
                                      refine po_nil ?_
                                      exact pn_iter' (r45, i46) ⟨rfl, rfl, rfl, rfl, rfl, rfl, rfl, trivial⟩ ⟨rfl, rfl, trivial⟩ rfl
                                    · refine po_evs (T := tab) 13 rfl rfl ?_
                                      refine po_nil ?_
                                      refine pn_block ?_
                                      refine pn_seq ?_
                                      refine pw_region ?_
                                      refine po_evs (T := tab) 1 rfl rfl ?_
                                      refine po_arith' (T := tab) rfl rfl rfl rfl fun i47 hi47 => ?_
                                      refine po_evs (T := tab) 1 rfl rfl ?_
                                      refine po_nil ?_
                                      exact pn_iter' (false, i47) ⟨rfl, rfl, rfl, rfl, rfl, rfl, rfl, trivial⟩ ⟨rfl, rfl, trivial⟩ rfl
                                  · refine pw_exit rfl ?_
                                    refine pn_block ?_
                                    refine pn_seq ?_
                                    refine pw_region ?_
                                    refine po_evs (T := tab) 1 rfl rfl ?_
                                    refine po_arith' (T := tab) rfl rfl rfl rfl fun i48 hi48 => ?_
                                    refine po_evs (T := tab) 1 rfl rfl ?_
                                    refine po_nil ?_
                                    exact pn_iter' (all40, i48) ⟨rfl, rfl, rfl, rfl, rfl, rfl, trivial⟩ ⟨rfl, rfl, trivial⟩ rfl
                                · refine po_evs (T := tab) 2 rfl rfl ?_
                                  refine po_split (j := 141) rfl ?_ ?_
                                  · refine po_evs (T := tab) 3 rfl rfl ?_
                                    refine po_idx (T := tab) cClass s1.Classes rfl rfl rfl rfl rfl rfl rfl fun y35 hy35 => ?_
                                    refine po_evs (T := tab) 2 rfl rfl ?_
                                    refine po_call (enc := fun (r36 : Bool) => .v (.bool r36)) (qs := [.sl 7 false (y35.Peek.map cOp)]) (Instarlaw25_small_ok fu y35.Peek) rfl rfl ⟨⟨_, rfl, .rfl⟩, trivial⟩ (fun _ => rfl) call26 rfl rfl fun r36 hr36 => ?_
                                    refine po_evs (T := tab) 2 rfl rfl ?_
                                    refine po_split (j := 150) rfl ?_ ?_
                                    · refine po_evs (T := tab) 3 rfl rfl ?_
                                      refine po_idx (T := tab) cClass s1.Classes rfl rfl rfl rfl rfl rfl rfl fun y37 hy37 => ?_
                                      refine po_evs (T := tab) 2 rfl rfl ?_
                                      refine po_call (enc := fun (r38 : Bool) => .v (.bool r38)) (qs := [.sl 7 false (y37.Make.map cOp)]) (Instarlaw25_small_ok fu y37.Make) rfl rfl ⟨⟨_, rfl, .rfl⟩, trivial⟩ (fun _ => rfl) call26 rfl rfl fun r38 hr38 => ?_
                                      refine po_evs (T := tab) 2 rfl rfl ?_
                                      refine po_nil ?_
                                      exact pn_sub' (hj1 r38) ⟨rfl, rfl, rfl, rfl, rfl, rfl, trivial⟩ ⟨rfl, rfl, trivial⟩ rfl
                                    · refine po_evs (T := tab) 9 rfl rfl ?_
                                      refine po_nil ?_
                                      exact pn_sub' (hj1 false) ⟨rfl, rfl, rfl, rfl, rfl, rfl, trivial⟩ ⟨rfl, rfl, trivial⟩ rfl
                                  · refine po_evs (T := tab) 18 rfl rfl ?_
                                    refine po_nil ?_
                                    exact pn_sub' (hj1 false) ⟨rfl, rfl, rfl, rfl, rfl, rfl, trivial⟩ ⟨rfl, rfl, trivial⟩ rfl
                              · refine pw_exit rfl ?_
                                refine pn_seq ?_
                                refine pw_seq ?_
                                refine pw_draw mixed (by kernel_rfl) ?_
                                refine pd_evs (T := tab) 3 rfl rfl ?_
                                refine pd_split (j := 186) rfl ?_ ?_
                                · refine pd_evs (T := tab) 8 rfl rfl ?_
                                  refine pd_nil ?_
                                  refine pn_seq ?_
                                  exact pw_retN (T := tab) rfl rfl rfl ⟨rfl, rfl⟩ trivial rfl
                                · refine pd_evs (T := tab) 3 rfl rfl ?_
                                  refine pd_call (enc := fun (r49 : Script) => .agg (cScript r49)) (qs := [.agg (cScript r29), .v (.string ⟨⟨x6⟩⟩), .v (.string ⟨⟨y7⟩⟩)]) (Lab_Names_ok fu r29 x6 y7) rfl rfl ⟨⟨_, rfl, .rfl⟩, ⟨_, rfl, .rfl⟩, ⟨_, rfl, .rfl⟩, trivial⟩ (fun _ => rfl) call17 rfl rfl fun r49 hr49 => ?_
                                  refine pd_evs (T := tab) 1 rfl rfl ?_
                                  refine pd_call (enc := fun (r50 : Bool) => .v (.bool r50)) (qs := [.agg (cScript r49), .agg (cScript s1)]) (Instarref22_Same_ok fu r49 s1) rfl rfl ⟨⟨_, rfl, .rfl⟩, ⟨_, rfl, .rfl⟩, trivial⟩ (fun _ => rfl) call11 rfl rfl fun r50 hr50 => ?_
                                  refine pd_evs (T := tab) 2 rfl rfl ?_
                                  refine pd_nil ?_
                                  refine pn_seq ?_
                                  exact pw_retN (T := tab) rfl rfl rfl ⟨rfl, rfl⟩ trivial rfl

end Go.Proofs.Ytcojcgljfgljjaa
