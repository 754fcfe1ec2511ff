/- Models and proofs, printed by emit2.py. -/
import Derived.Test.YtoakfflcpcdbeaaDoorG1
namespace Go.Proofs.YtoakfflcpcdbeaaDoor
open Go Go.Pw
set_option linter.unusedVariables false

set_option maxHeartbeats 10000000 in
set_option maxRecDepth 100000 in
theorem Instarref24_mark_ok (fu : Nat) (c1 : Instarref24_Scan) : ∀ r, Instarref24_mark_m fu c1 = some r → DC laidL Tryd.prog 30 [.agg (cInstarref24_Scan c1)] (.tup [.agg (cMark r.1), .agg (cInstarref24_Scan r.2)]) := by
  intro r hr
  refine fc_intro (args := [.agg (cInstarref24_Scan c1)]) (S := []) (N0 := []) (post := fun r p S => p = .tup [.agg (cMark r.1), .agg (cInstarref24_Scan r.2)] ∧ S = []) Tryd.func30 rfl rfl hr fun w0 X X0 σ0 _ => ?_
  refine pw_seq ?_
  refine pw_region ?_
  refine po_box  1 rfl rfl rfl rfl rfl rfl rfl rfl rfl rfl ?_
  refine po_alloc (T := tab) 2 rfl rfl rfl rfl rfl rfl rfl rfl rfl ?_
  refine po_alloc (T := tab) 3 rfl rfl rfl rfl rfl rfl rfl rfl rfl ?_
  refine po_nil ?_
  refine pn_seq ?_
  refine pw_seq ?_
  refine pw_region ?_
  refine po_build (T := tab) rfl rfl rfl rfl rfl rfl rfl ?_
  refine po_alloc (T := tab) 4 rfl rfl rfl rfl rfl rfl rfl rfl rfl ?_
  refine po_store (T := tab) rfl rfl rfl rfl rfl rfl rfl rfl rfl rfl rfl rfl ?_
  refine po_nil ?_
  refine pn_seq ?_
  refine pw_seq ?_
  refine pw_seq ?_
  refine pw_region ?_
  refine po_evs (T := tab) 1 rfl rfl ?_
  refine po_nil ?_
  refine pn_seq ?_
  refine pw_block ?_
  refine pw_loop' (Instarref24_mark_l1 fu c1) (fun ((kind2, c3) : Int × Int) => [(1, .loc 1 0), (2, .loc 2 0), (3, .loc 3 0), (4, .loc 4 0), (5, .v (.int .i64 kind2))]) (fun ((kind2, c3) : Int × Int) => [(4, .box 29 [.v (.int .i64 c3), .v (.int .i64 0), .v (.int .i64 0), .v (.int .i64 0), .v (.int .i64 0), .v (.string ⟨⟨[]⟩⟩), .v (.bool false), .v (.bool false), .v (.string ⟨⟨[]⟩⟩), .v (.string ⟨⟨[]⟩⟩), .v (.int .i64 0), .v (.int .i64 0), .v (.bool false)]), (3, .box 70 [.v (.string ⟨⟨[]⟩⟩), .v (.int .i64 0), .v (.bool false)]), (2, .box 29 [.v (.int .i64 0), .v (.int .i64 0), .v (.int .i64 0), .v (.int .i64 0), .v (.int .i64 0), .v (.string ⟨⟨[]⟩⟩), .v (.bool false), .v (.bool false), .v (.string ⟨⟨[]⟩⟩), .v (.string ⟨⟨[]⟩⟩), .v (.int .i64 0), .v (.int .i64 0), .v (.bool false)]), (1, .box 70 [.v (.string ⟨⟨c1.S⟩⟩), .v (.int .i64 c1.At), .v (.bool c1.Bad)])]) fu (1, 0) (fun _ => rfl) ⟨rfl, rfl, rfl, rfl, rfl, trivial⟩ ⟨rfl, rfl, rfl, rfl, trivial⟩ rfl ?_
  rintro k1 ⟨kind2, c3⟩
  refine pw_seq ?_
  refine pw_seq ?_
  refine pw_region ?_
  refine po_evs (T := tab) 2 rfl rfl ?_
  refine po_nil ?_
  refine pn_seq ?_
  refine pw_cnd rfl ?_ ?_
  · refine pw_skip ?_
    refine pn_seq ?_
    refine pw_seq ?_
    refine pw_block ?_
    refine pw_seq ?_
    refine pw_draw mixed (by kernel_rfl) ?_
    refine pd_evs (T := tab) 2 rfl rfl ?_
    refine pd_call (enc := fun (r4 : Bs) => .v (.string ⟨⟨r4⟩⟩)) (qs := [.v (.int .i64 kind2)]) (Instarref24_Word_ok fu kind2) rfl rfl ⟨⟨_, rfl, .rfl⟩, trivial⟩ (fun _ => rfl) call22 rfl rfl fun r4 hr4 => ?_
    refine pd_cat rfl rfl rfl rfl rfl rfl fun s5 hs5 => ?_
    refine pd_call (enc := fun (r6 : Instarref24_Scan) => .agg (cInstarref24_Scan r6)) (qs := [.agg (cInstarref24_Scan c1), .v (.string ⟨⟨s5⟩⟩)]) (Instarref24_need_ok fu c1 s5) rfl rfl ⟨⟨_, rfl, .rfl⟩, ⟨_, rfl, .rfl⟩, trivial⟩ (fun _ => rfl) call42 rfl rfl fun r6 hr6 => ?_
    refine pd_evs (T := tab) 2 rfl rfl ?_
    refine pd_nil ?_
    refine pn_seq ?_
    refine pw_cnd rfl ?_ ?_
    · refine pw_region ?_
      refine po_evs (T := tab) 2 rfl rfl ?_
      refine po_store (T := tab) rfl rfl rfl rfl rfl rfl rfl rfl rfl rfl rfl rfl ?_
      refine po_nil ?_
      refine pn_block ?_
      refine pn_seq ?_
      refine pw_region ?_
      refine po_evs (T := tab) 1 rfl rfl ?_
      refine po_arith' (T := tab) rfl rfl rfl rfl fun i7 hi7 => ?_
      refine po_evs (T := tab) 1 rfl rfl ?_
      refine po_nil ?_
      exact pn_iter' (i7, kind2) ⟨rfl, rfl, rfl, rfl, rfl, trivial⟩ ⟨rfl, rfl, rfl, rfl, trivial⟩ rfl
    · refine pw_skip ?_
      refine pn_block ?_
      refine pn_seq ?_
      refine pw_region ?_
      refine po_evs (T := tab) 1 rfl rfl ?_
      refine po_arith' (T := tab) rfl rfl rfl rfl fun i8 hi8 => ?_
      refine po_evs (T := tab) 1 rfl rfl ?_
      refine po_nil ?_
      exact pn_iter' (i8, c3) ⟨rfl, rfl, rfl, rfl, rfl, trivial⟩ ⟨rfl, rfl, rfl, rfl, trivial⟩ rfl
  · refine pw_exit rfl ?_
    refine pn_seq ?_
    refine pw_seq ?_
    refine pw_sub' (E' := [(1, .loc 1 0), (2, .loc 2 0), (3, .loc 3 0), (4, .loc 4 0)]) (S' := [(4, .box 29 [.v (.int .i64 c3), .v (.int .i64 0), .v (.int .i64 0), .v (.int .i64 0), .v (.int .i64 0), .v (.string ⟨⟨[]⟩⟩), .v (.bool false), .v (.bool false), .v (.string ⟨⟨[]⟩⟩), .v (.string ⟨⟨[]⟩⟩), .v (.int .i64 0), .v (.int .i64 0), .v (.bool false)]), (3, .box 70 [.v (.string ⟨⟨[]⟩⟩), .v (.int .i64 0), .v (.bool false)]), (2, .box 29 [.v (.int .i64 0), .v (.int .i64 0), .v (.int .i64 0), .v (.int .i64 0), .v (.int .i64 0), .v (.string ⟨⟨[]⟩⟩), .v (.bool false), .v (.bool false), .v (.string ⟨⟨[]⟩⟩), .v (.string ⟨⟨[]⟩⟩), .v (.int .i64 0), .v (.int .i64 0), .v (.bool false)]), (1, .box 70 [.v (.string ⟨⟨c1.S⟩⟩), .v (.int .i64 c1.At), .v (.bool c1.Bad)])]) ?_ ⟨rfl, rfl, rfl, rfl, trivial⟩ ⟨rfl, rfl, rfl, rfl, trivial⟩ rfl
    refine pw_drawV [0, 0, 2, 6, 15, 31] mixed (by kernel_rfl) (by kernel_rfl) rfl rfl ?_
    refine pdv_step0 [2, 3] [42] [] [1] [1] [(21, .agg (cInstarref24_Scan c1))] [(1, .box 70 [.v (.string ⟨⟨c1.S⟩⟩), .v (.int .i64 c1.At), .v (.bool c1.Bad)])] rfl rfl rfl rfl (by kernel_rfl) (by kernel_rfl) (by kernel_rfl) ⟨rfl, trivial⟩ (fun w0 X X0 σ0 _ => by refine po_evs (T := tab) 1 rfl rfl ?_; refine po_nil ?_; exact pn_end0 ⟨rfl, trivial⟩ ⟨rfl, trivial⟩ rfl) ?_
    refine pdv_step0 [8] [44] [] [4] [] [(22, .loc 4 0)] [] rfl rfl rfl rfl (by kernel_rfl) (by kernel_rfl) (by kernel_rfl) trivial (fun w0 X X0 σ0 _ => by refine po_evs (T := tab) 1 rfl rfl ?_; refine po_nil ?_; exact pn_end0 ⟨rfl, trivial⟩ trivial rfl) ?_
    refine pdv_step0 [9, 44] [46] [] [4] [4] [(23, .v (.int .i64 c3))] [(4, .box 29 [.v (.int .i64 c3), .v (.int .i64 0), .v (.int .i64 0), .v (.int .i64 0), .v (.int .i64 0), .v (.string ⟨⟨[]⟩⟩), .v (.bool false), .v (.bool false), .v (.string ⟨⟨[]⟩⟩), .v (.string ⟨⟨[]⟩⟩), .v (.int .i64 0), .v (.int .i64 0), .v (.bool false)])] rfl rfl rfl rfl (by kernel_rfl) (by kernel_rfl) (by kernel_rfl) ⟨rfl, trivial⟩ (fun w0 X X0 σ0 _ => by refine po_evs (T := tab) 1 rfl rfl ?_; refine po_nil ?_; exact pn_end0 ⟨rfl, trivial⟩ ⟨rfl, trivial⟩ rfl) ?_
    refine pdv_step (M := (Instarref24_Word_m fu c3)) (ment := [(48, [])]) [46] [48] [] [] [] (fun r9 => [(24, .v (.string ⟨⟨r9⟩⟩))]) (fun r9 => []) rfl rfl (fun _ => rfl) (fun _ => rfl) (by kernel_rfl) (by kernel_rfl) (fun _ => by kernel_rfl) (fun _ => trivial) (fun w0 X X0 σ0 _ => by refine po_call (enc := fun (r9 : Bs) => .v (.string ⟨⟨r9⟩⟩)) (qs := [.v (.int .i64 c3)]) (Instarref24_Word_ok fu c3) rfl rfl ⟨⟨_, rfl, .rfl⟩, trivial⟩ (fun _ => rfl) call22 rfl rfl fun r9 hr9 => ?_; refine po_nil ?_; exact pn_end ⟨rfl, trivial⟩ trivial rfl) fun r9 hr9 => ?_
    refine pdv_step (M := (Instarref24_need_m fu c1 r9)) (ment := [(50, [])]) [42, 48] [50] [] [] [] (fun r10 => [(25, .agg (cInstarref24_Scan r10))]) (fun r10 => []) rfl rfl (fun _ => rfl) (fun _ => rfl) (by kernel_rfl) (by kernel_rfl) (fun _ => by kernel_rfl) (fun _ => trivial) (fun w0 X X0 σ0 _ => by refine po_call (enc := fun (r10 : Instarref24_Scan) => .agg (cInstarref24_Scan r10)) (qs := [.agg (cInstarref24_Scan c1), .v (.string ⟨⟨r9⟩⟩)]) (Instarref24_need_ok fu c1 r9) rfl rfl ⟨⟨_, rfl, .rfl⟩, ⟨_, rfl, .rfl⟩, trivial⟩ (fun _ => rfl) call42 rfl rfl fun r10 hr10 => ?_; refine po_nil ?_; exact pn_end ⟨rfl, trivial⟩ trivial rfl) fun r10 hr10 => ?_
    refine pdv_step0 [2, 3, 50] [3] [] [1] [] [] [(1, .box 70 [.v (.string ⟨⟨r10.S⟩⟩), .v (.int .i64 r10.At), .v (.bool r10.Bad)])] rfl rfl rfl rfl (by kernel_rfl) (by kernel_rfl) (by kernel_rfl) trivial (fun w0 X X0 σ0 _ => by refine po_store (T := tab) rfl rfl rfl rfl rfl rfl rfl rfl rfl rfl rfl rfl ?_; refine po_nil ?_; exact pn_end0 trivial ⟨rfl, trivial⟩ rfl) ?_
    refine pdv_nil rfl rfl ?_
    refine pn_seq ?_
    refine pw_seq ?_
    refine pw_region ?_
    refine po_evs (T := tab) 1 rfl rfl ?_
    refine po_nil ?_
    refine pn_seq ?_
    refine pw_seq ?_
    refine pw_region ?_
    refine po_evs (T := tab) 1 rfl rfl ?_
    refine po_call (enc := fun (r11 : (Int × Instarref24_Scan)) => .tup [.v (.int .i64 r11.1), .agg (cInstarref24_Scan r11.2)]) (qs := [.agg (cInstarref24_Scan r10)]) (Instarref24_number_ok fu r10) rfl rfl ⟨⟨_, rfl, .rfl⟩, trivial⟩ (fun _ => rfl) call43 rfl rfl fun r11 hr11 => ?_
    refine po_evs (T := tab) 4 rfl rfl ?_
    refine po_store (T := tab) rfl rfl rfl rfl rfl rfl rfl rfl rfl rfl rfl rfl ?_
    refine po_store (T := tab) rfl rfl rfl rfl rfl rfl rfl rfl rfl rfl rfl rfl ?_
    refine po_nil ?_
    refine pn_seq ?_
    refine pw_seq ?_
    refine pw_region ?_
    refine po_evs (T := tab) 1 rfl rfl ?_
    refine po_call (enc := fun (r12 : (Int × Instarref24_Scan)) => .tup [.v (.int .i64 r12.1), .agg (cInstarref24_Scan r12.2)]) (qs := [.agg (cInstarref24_Scan r11.2)]) (Instarref24_number_ok fu r11.2) rfl rfl ⟨⟨_, rfl, .rfl⟩, trivial⟩ (fun _ => rfl) call43 rfl rfl fun r12 hr12 => ?_
    refine po_evs (T := tab) 4 rfl rfl ?_
    refine po_store (T := tab) rfl rfl rfl rfl rfl rfl rfl rfl rfl rfl rfl rfl ?_
    refine po_store (T := tab) rfl rfl rfl rfl rfl rfl rfl rfl rfl rfl rfl rfl ?_
    refine po_nil ?_
    refine pn_seq ?_
    refine pw_seq ?_
    refine pw_region ?_
    refine po_evs (T := tab) 1 rfl rfl ?_
    refine po_call (enc := fun (r13 : (Int × Instarref24_Scan)) => .tup [.v (.int .i64 r13.1), .agg (cInstarref24_Scan r13.2)]) (qs := [.agg (cInstarref24_Scan r12.2)]) (Instarref24_number_ok fu r12.2) rfl rfl ⟨⟨_, rfl, .rfl⟩, trivial⟩ (fun _ => rfl) call43 rfl rfl fun r13 hr13 => ?_
    refine po_evs (T := tab) 4 rfl rfl ?_
    refine po_store (T := tab) rfl rfl rfl rfl rfl rfl rfl rfl rfl rfl rfl rfl ?_
    refine po_store (T := tab) rfl rfl rfl rfl rfl rfl rfl rfl rfl rfl rfl rfl ?_
    refine po_nil ?_
    refine pn_seq ?_
    refine pw_seq ?_
    refine pw_region ?_
    refine po_evs (T := tab) 1 rfl rfl ?_
    refine po_call (enc := fun (r14 : (Int × Instarref24_Scan)) => .tup [.v (.int .i64 r14.1), .agg (cInstarref24_Scan r14.2)]) (qs := [.agg (cInstarref24_Scan r13.2)]) (Instarref24_number_ok fu r13.2) rfl rfl ⟨⟨_, rfl, .rfl⟩, trivial⟩ (fun _ => rfl) call43 rfl rfl fun r14 hr14 => ?_
    refine po_evs (T := tab) 4 rfl rfl ?_
    refine po_store (T := tab) rfl rfl rfl rfl rfl rfl rfl rfl rfl rfl rfl rfl ?_
    refine po_nil ?_
    refine pn_seq ?_
    refine pw_seq ?_
    refine pw_region ?_
    refine po_evs (T := tab) 2 rfl rfl ?_
    refine po_store (T := tab) rfl rfl rfl rfl rfl rfl rfl rfl rfl rfl rfl rfl ?_
    refine po_nil ?_
    refine pn_seq ?_
    refine pw_seq ?_
    refine pw_seq ?_
    refine pw_region ?_
    refine po_evs (T := tab) 3 rfl rfl ?_
    refine po_nil ?_
    refine pn_seq ?_
    refine pw_joinK (Instarref24_mark_j1 fu c3 r11 r12 r13 r14) (fun (c15 : Bool) => [(1, .loc 1 0), (2, .loc 2 0), (3, .loc 3 0), (4, .loc 4 0)]) (fun (c15 : Bool) => [(4, .box 29 [.v (.int .i64 c3), .v (.int .i64 r11.1), .v (.int .i64 r12.1), .v (.int .i64 r13.1), .v (.int .i64 r14.1), .v (.string ⟨⟨[]⟩⟩), .v (.bool false), .v (.bool false), .v (.string ⟨⟨[]⟩⟩), .v (.string ⟨⟨[]⟩⟩), .v (.int .i64 0), .v (.int .i64 0), .v (.bool false)]), (3, .box 70 [.v (.string ⟨⟨[]⟩⟩), .v (.int .i64 0), .v (.bool false)]), (2, .box 29 [.v (.int .i64 0), .v (.int .i64 0), .v (.int .i64 0), .v (.int .i64 0), .v (.int .i64 0), .v (.string ⟨⟨[]⟩⟩), .v (.bool false), .v (.bool false), .v (.string ⟨⟨[]⟩⟩), .v (.string ⟨⟨[]⟩⟩), .v (.int .i64 0), .v (.int .i64 0), .v (.bool false)]), (1, .box 70 [.v (.string ⟨⟨r14.2.S⟩⟩), .v (.int .i64 r14.2.At), .v (.bool c15)])]) ?_ fun hj1 => ?_
    · rintro c15
      refine pn_seq ?_
      refine pw_seq ?_
      refine pw_seq ?_
      refine pw_region ?_
      refine po_evs (T := tab) 1 rfl rfl ?_
      refine po_call (enc := fun (r16 : Instarref24_Scan) => .agg (cInstarref24_Scan r16)) (qs := [.agg (cInstarref24_Scan (⟨r14.2.S, r14.2.At, c15⟩ : Instarref24_Scan)), .v (.string ⟨⟨[10]⟩⟩)]) (Instarref24_need_ok fu (⟨r14.2.S, r14.2.At, c15⟩ : Instarref24_Scan) [10]) rfl rfl ⟨⟨_, rfl, .rfl⟩, ⟨_, rfl, .rfl⟩, trivial⟩ (fun _ => rfl) call42 rfl rfl fun r16 hr16 => ?_
      refine po_evs (T := tab) 2 rfl rfl ?_
      refine po_nil ?_
      refine pn_seq ?_
      refine pw_cnd rfl ?_ ?_
      · refine pw_seq ?_
        refine pw_sub' (E' := [(1, .loc 1 0), (2, .loc 2 0), (3, .loc 3 0), (4, .loc 4 0)]) (S' := [(4, .box 29 [.v (.int .i64 c3), .v (.int .i64 r11.1), .v (.int .i64 r12.1), .v (.int .i64 r13.1), .v (.int .i64 r14.1), .v (.string ⟨⟨[]⟩⟩), .v (.bool false), .v (.bool false), .v (.string ⟨⟨[]⟩⟩), .v (.string ⟨⟨[]⟩⟩), .v (.int .i64 0), .v (.int .i64 0), .v (.bool false)]), (3, .box 70 [.v (.string ⟨⟨[]⟩⟩), .v (.int .i64 0), .v (.bool false)]), (2, .box 29 [.v (.int .i64 0), .v (.int .i64 0), .v (.int .i64 0), .v (.int .i64 0), .v (.int .i64 0), .v (.string ⟨⟨[]⟩⟩), .v (.bool false), .v (.bool false), .v (.string ⟨⟨[]⟩⟩), .v (.string ⟨⟨[]⟩⟩), .v (.int .i64 0), .v (.int .i64 0), .v (.bool false)]), (1, .box 70 [.v (.string ⟨⟨r14.2.S⟩⟩), .v (.int .i64 r14.2.At), .v (.bool c15)])]) ?_ ⟨rfl, rfl, rfl, rfl, trivial⟩ ⟨rfl, rfl, rfl, rfl, trivial⟩ rfl
        refine pw_drawV [0, 0, 2, 7, 15] mixed (by kernel_rfl) (by kernel_rfl) rfl rfl ?_
        refine pdv_step0 [8, 9] [118] [] [4] [4] [(59, .agg [.v (.int .i64 c3), .v (.int .i64 r11.1), .v (.int .i64 r12.1), .v (.int .i64 r13.1), .v (.int .i64 r14.1), .v (.string ⟨⟨[]⟩⟩), .v (.bool false), .v (.bool false), .v (.string ⟨⟨[]⟩⟩), .v (.string ⟨⟨[]⟩⟩), .v (.int .i64 0), .v (.int .i64 0), .v (.bool false)])] [(4, .box 29 [.v (.int .i64 c3), .v (.int .i64 r11.1), .v (.int .i64 r12.1), .v (.int .i64 r13.1), .v (.int .i64 r14.1), .v (.string ⟨⟨[]⟩⟩), .v (.bool false), .v (.bool false), .v (.string ⟨⟨[]⟩⟩), .v (.string ⟨⟨[]⟩⟩), .v (.int .i64 0), .v (.int .i64 0), .v (.bool false)])] rfl rfl rfl rfl (by kernel_rfl) (by kernel_rfl) (by kernel_rfl) ⟨rfl, trivial⟩ (fun w0 X X0 σ0 _ => by refine po_evs (T := tab) 1 rfl rfl ?_; refine po_nil ?_; exact pn_end0 ⟨rfl, trivial⟩ ⟨rfl, trivial⟩ rfl) ?_
        refine pdv_step0 [2, 3] [120] [] [1] [1] [(60, .agg [.v (.string ⟨⟨r14.2.S⟩⟩), .v (.int .i64 r14.2.At), .v (.bool c15)])] [(1, .box 70 [.v (.string ⟨⟨r14.2.S⟩⟩), .v (.int .i64 r14.2.At), .v (.bool c15)])] rfl rfl rfl rfl (by kernel_rfl) (by kernel_rfl) (by kernel_rfl) ⟨rfl, trivial⟩ (fun w0 X X0 σ0 _ => by refine po_evs (T := tab) 1 rfl rfl ?_; refine po_nil ?_; exact pn_end0 ⟨rfl, trivial⟩ ⟨rfl, trivial⟩ rfl) ?_
        refine pdv_step (M := (Instarref24_need_m fu (⟨r14.2.S, r14.2.At, c15⟩ : Instarref24_Scan) [10])) (ment := [(122, [])]) [120] [122] [] [] [] (fun r17 => [(61, .agg (cInstarref24_Scan r17))]) (fun r17 => []) rfl rfl (fun _ => rfl) (fun _ => rfl) (by kernel_rfl) (by kernel_rfl) (fun _ => by kernel_rfl) (fun _ => trivial) (fun w0 X X0 σ0 _ => by refine po_call (enc := fun (r17 : Instarref24_Scan) => .agg (cInstarref24_Scan r17)) (qs := [.agg (cInstarref24_Scan (⟨r14.2.S, r14.2.At, c15⟩ : Instarref24_Scan)), .v (.string ⟨⟨[10]⟩⟩)]) (Instarref24_need_ok fu (⟨r14.2.S, r14.2.At, c15⟩ : Instarref24_Scan) [10]) rfl rfl ⟨⟨_, rfl, .rfl⟩, ⟨_, rfl, .rfl⟩, trivial⟩ (fun _ => rfl) call42 rfl rfl fun r17 hr17 => ?_; refine po_nil ?_; exact pn_end ⟨rfl, trivial⟩ trivial rfl) fun r17 hr17 => ?_
        refine pdv_step0 [4, 5, 118] [5] [] [2] [] [] [(2, .box 29 [.v (.int .i64 c3), .v (.int .i64 r11.1), .v (.int .i64 r12.1), .v (.int .i64 r13.1), .v (.int .i64 r14.1), .v (.string ⟨⟨[]⟩⟩), .v (.bool false), .v (.bool false), .v (.string ⟨⟨[]⟩⟩), .v (.string ⟨⟨[]⟩⟩), .v (.int .i64 0), .v (.int .i64 0), .v (.bool false)])] rfl rfl rfl rfl (by kernel_rfl) (by kernel_rfl) (by kernel_rfl) trivial (fun w0 X X0 σ0 _ => by refine po_store (T := tab) rfl rfl rfl rfl rfl rfl rfl rfl rfl rfl rfl rfl ?_; refine po_nil ?_; exact pn_end0 trivial ⟨rfl, trivial⟩ rfl) ?_
        refine pdv_step0 [6, 7, 122] [7] [] [3] [] [] [(3, .box 70 [.v (.string ⟨⟨r17.S⟩⟩), .v (.int .i64 r17.At), .v (.bool r17.Bad)])] rfl rfl rfl rfl (by kernel_rfl) (by kernel_rfl) (by kernel_rfl) trivial (fun w0 X X0 σ0 _ => by refine po_store (T := tab) rfl rfl rfl rfl rfl rfl rfl rfl rfl rfl rfl rfl ?_; refine po_nil ?_; exact pn_end0 trivial ⟨rfl, trivial⟩ rfl) ?_
        refine pdv_nil rfl rfl ?_
        refine pn_seq ?_
        exact pw_retN (T := tab) rfl rfl rfl ⟨rfl, rfl⟩ trivial rfl
      · refine pw_skip ?_
        refine pn_seq ?_
        refine pw_seq ?_
        refine pw_region ?_
        refine po_evs (T := tab) 1 rfl rfl ?_
        refine po_call (enc := fun (r18 : (Bs × Instarref24_Scan)) => .tup [.v (.string ⟨⟨r18.1⟩⟩), .agg (cInstarref24_Scan r18.2)]) (qs := [.agg (cInstarref24_Scan (⟨r14.2.S, r14.2.At, c15⟩ : Instarref24_Scan))]) (Instarref24_text_ok fu (⟨r14.2.S, r14.2.At, c15⟩ : Instarref24_Scan)) rfl rfl ⟨⟨_, rfl, .rfl⟩, trivial⟩ (fun _ => rfl) call44 rfl rfl fun r18 hr18 => ?_
        refine po_evs (T := tab) 4 rfl rfl ?_
        refine po_store (T := tab) rfl rfl rfl rfl rfl rfl rfl rfl rfl rfl rfl rfl ?_
        refine po_store (T := tab) rfl rfl rfl rfl rfl rfl rfl rfl rfl rfl rfl rfl ?_
        refine po_nil ?_
        refine pn_seq ?_
        refine pw_seq ?_
        refine pw_region ?_
        refine po_evs (T := tab) 1 rfl rfl ?_
        refine po_call (enc := fun (r19 : (Bool × Instarref24_Scan)) => .tup [.v (.bool r19.1), .agg (cInstarref24_Scan r19.2)]) (qs := [.agg (cInstarref24_Scan r18.2)]) (Instarref24_bit_ok fu r18.2) rfl rfl ⟨⟨_, rfl, .rfl⟩, trivial⟩ (fun _ => rfl) call45 rfl rfl fun r19 hr19 => ?_
        refine po_evs (T := tab) 4 rfl rfl ?_
        refine po_store (T := tab) rfl rfl rfl rfl rfl rfl rfl rfl rfl rfl rfl rfl ?_
        refine po_store (T := tab) rfl rfl rfl rfl rfl rfl rfl rfl rfl rfl rfl rfl ?_
        refine po_nil ?_
        refine pn_seq ?_
        refine pw_seq ?_
        refine pw_region ?_
        refine po_evs (T := tab) 1 rfl rfl ?_
        refine po_call (enc := fun (r20 : (Bool × Instarref24_Scan)) => .tup [.v (.bool r20.1), .agg (cInstarref24_Scan r20.2)]) (qs := [.agg (cInstarref24_Scan r19.2)]) (Instarref24_bit_ok fu r19.2) rfl rfl ⟨⟨_, rfl, .rfl⟩, trivial⟩ (fun _ => rfl) call45 rfl rfl fun r20 hr20 => ?_
        refine po_evs (T := tab) 4 rfl rfl ?_
        refine po_store (T := tab) rfl rfl rfl rfl rfl rfl rfl rfl rfl rfl rfl rfl ?_
        refine po_store (T := tab) rfl rfl rfl rfl rfl rfl rfl rfl rfl rfl rfl rfl ?_
        refine po_nil ?_
        refine pn_seq ?_
        refine pw_seq ?_
        refine pw_region ?_
        refine po_evs (T := tab) 1 rfl rfl ?_
        refine po_call (enc := fun (r21 : (Bs × Instarref24_Scan)) => .tup [.v (.string ⟨⟨r21.1⟩⟩), .agg (cInstarref24_Scan r21.2)]) (qs := [.agg (cInstarref24_Scan r20.2)]) (Instarref24_text_ok fu r20.2) rfl rfl ⟨⟨_, rfl, .rfl⟩, trivial⟩ (fun _ => rfl) call44 rfl rfl fun r21 hr21 => ?_
        refine po_evs (T := tab) 4 rfl rfl ?_
        refine po_store (T := tab) rfl rfl rfl rfl rfl rfl rfl rfl rfl rfl rfl rfl ?_
        refine po_store (T := tab) rfl rfl rfl rfl rfl rfl rfl rfl rfl rfl rfl rfl ?_
        refine po_nil ?_
        refine pn_seq ?_
        refine pw_seq ?_
        refine pw_region ?_
        refine po_evs (T := tab) 1 rfl rfl ?_
        refine po_call (enc := fun (r22 : (Bs × Instarref24_Scan)) => .tup [.v (.string ⟨⟨r22.1⟩⟩), .agg (cInstarref24_Scan r22.2)]) (qs := [.agg (cInstarref24_Scan r21.2)]) (Instarref24_text_ok fu r21.2) rfl rfl ⟨⟨_, rfl, .rfl⟩, trivial⟩ (fun _ => rfl) call44 rfl rfl fun r22 hr22 => ?_
        refine po_evs (T := tab) 4 rfl rfl ?_
        refine po_store (T := tab) rfl rfl rfl rfl rfl rfl rfl rfl rfl rfl rfl rfl ?_
        refine po_store (T := tab) rfl rfl rfl rfl rfl rfl rfl rfl rfl rfl rfl rfl ?_
        refine po_nil ?_
        refine pn_seq ?_
        refine pw_seq ?_
        refine pw_region ?_
        refine po_evs (T := tab) 1 rfl rfl ?_
        refine po_call (enc := fun (r23 : (Int × Instarref24_Scan)) => .tup [.v (.int .i64 r23.1), .agg (cInstarref24_Scan r23.2)]) (qs := [.agg (cInstarref24_Scan r22.2)]) (Instarref24_number_ok fu r22.2) rfl rfl ⟨⟨_, rfl, .rfl⟩, trivial⟩ (fun _ => rfl) call43 rfl rfl fun r23 hr23 => ?_
        refine po_evs (T := tab) 4 rfl rfl ?_
        refine po_store (T := tab) rfl rfl rfl rfl rfl rfl rfl rfl rfl rfl rfl rfl ?_
        refine po_store (T := tab) rfl rfl rfl rfl rfl rfl rfl rfl rfl rfl rfl rfl ?_
        refine po_nil ?_
        refine pn_seq ?_
        refine pw_seq ?_
        refine pw_region ?_
        refine po_evs (T := tab) 1 rfl rfl ?_
        refine po_call (enc := fun (r24 : (Int × Instarref24_Scan)) => .tup [.v (.int .i64 r24.1), .agg (cInstarref24_Scan r24.2)]) (qs := [.agg (cInstarref24_Scan r23.2)]) (Instarref24_number_ok fu r23.2) rfl rfl ⟨⟨_, rfl, .rfl⟩, trivial⟩ (fun _ => rfl) call43 rfl rfl fun r24 hr24 => ?_
        refine po_evs (T := tab) 4 rfl rfl ?_
        refine po_store (T := tab) rfl rfl rfl rfl rfl rfl rfl rfl rfl rfl rfl rfl ?_
        refine po_store (T := tab) rfl rfl rfl rfl rfl rfl rfl rfl rfl rfl rfl rfl ?_
        refine po_nil ?_
        refine pn_seq ?_
        refine pw_seq ?_
        refine pw_region ?_
        refine po_evs (T := tab) 1 rfl rfl ?_
        refine po_call (enc := fun (r25 : (Bool × Instarref24_Scan)) => .tup [.v (.bool r25.1), .agg (cInstarref24_Scan r25.2)]) (qs := [.agg (cInstarref24_Scan r24.2)]) (Instarref24_bit_ok fu r24.2) rfl rfl ⟨⟨_, rfl, .rfl⟩, trivial⟩ (fun _ => rfl) call45 rfl rfl fun r25 hr25 => ?_
        refine po_evs (T := tab) 4 rfl rfl ?_
        refine po_store (T := tab) rfl rfl rfl rfl rfl rfl rfl rfl rfl rfl rfl rfl ?_
        refine po_store (T := tab) rfl rfl rfl rfl rfl rfl rfl rfl rfl rfl rfl rfl ?_
        refine po_nil ?_
        refine pn_seq ?_
        refine pw_seq ?_
        refine pw_seq ?_
        refine pw_region ?_
        refine po_evs (T := tab) 11 rfl rfl ?_
        refine po_build (T := tab) rfl rfl rfl rfl rfl rfl rfl ?_
        refine po_eq eqf_29 rfl rfl rfl rfl rfl rfl rfl ?_
        refine po_nil ?_
        refine pn_seq ?_
        refine pw_cnd rfl ?_ ?_
        · refine pw_region ?_
          refine po_evs (T := tab) 1 rfl rfl ?_
          refine po_store (T := tab) rfl rfl rfl rfl rfl rfl rfl rfl rfl rfl rfl rfl ?_
          refine po_nil ?_
          refine pn_seq ?_
          refine pw_seq ?_
          refine pw_sub' (E' := [(1, .loc 1 0), (2, .loc 2 0), (3, .loc 3 0), (4, .loc 4 0)]) (S' := [(4, .box 29 [.v (.int .i64 c3), .v (.int .i64 r11.1), .v (.int .i64 r12.1), .v (.int .i64 r13.1), .v (.int .i64 r14.1), .v (.string ⟨⟨r18.1⟩⟩), .v (.bool r19.1), .v (.bool r20.1), .v (.string ⟨⟨r21.1⟩⟩), .v (.string ⟨⟨r22.1⟩⟩), .v (.int .i64 r23.1), .v (.int .i64 r24.1), .v (.bool r25.1)]), (3, .box 70 [.v (.string ⟨⟨[]⟩⟩), .v (.int .i64 0), .v (.bool false)]), (2, .box 29 [.v (.int .i64 0), .v (.int .i64 0), .v (.int .i64 0), .v (.int .i64 0), .v (.int .i64 0), .v (.string ⟨⟨[]⟩⟩), .v (.bool false), .v (.bool false), .v (.string ⟨⟨[]⟩⟩), .v (.string ⟨⟨[]⟩⟩), .v (.int .i64 0), .v (.int .i64 0), .v (.bool false)]), (1, .box 70 [.v (.string ⟨⟨r25.2.S⟩⟩), .v (.int .i64 r25.2.At), .v (.bool true)])]) ?_ ⟨rfl, rfl, rfl, rfl, trivial⟩ ⟨rfl, rfl, rfl, rfl, trivial⟩ rfl
          refine pw_drawV [0, 0, 2, 7, 15] mixed (by kernel_rfl) (by kernel_rfl) rfl rfl ?_
          refine pdv_step0 [8, 9] [248] [] [4] [4] [(124, .agg [.v (.int .i64 c3), .v (.int .i64 r11.1), .v (.int .i64 r12.1), .v (.int .i64 r13.1), .v (.int .i64 r14.1), .v (.string ⟨⟨r18.1⟩⟩), .v (.bool r19.1), .v (.bool r20.1), .v (.string ⟨⟨r21.1⟩⟩), .v (.string ⟨⟨r22.1⟩⟩), .v (.int .i64 r23.1), .v (.int .i64 r24.1), .v (.bool r25.1)])] [(4, .box 29 [.v (.int .i64 c3), .v (.int .i64 r11.1), .v (.int .i64 r12.1), .v (.int .i64 r13.1), .v (.int .i64 r14.1), .v (.string ⟨⟨r18.1⟩⟩), .v (.bool r19.1), .v (.bool r20.1), .v (.string ⟨⟨r21.1⟩⟩), .v (.string ⟨⟨r22.1⟩⟩), .v (.int .i64 r23.1), .v (.int .i64 r24.1), .v (.bool r25.1)])] rfl rfl rfl rfl (by kernel_rfl) (by kernel_rfl) (by kernel_rfl) ⟨rfl, trivial⟩ (fun w0 X X0 σ0 _ => by refine po_evs (T := tab) 1 rfl rfl ?_; refine po_nil ?_; exact pn_end0 ⟨rfl, trivial⟩ ⟨rfl, trivial⟩ rfl) ?_
          refine pdv_step0 [2, 3] [250] [] [1] [1] [(125, .agg [.v (.string ⟨⟨r25.2.S⟩⟩), .v (.int .i64 r25.2.At), .v (.bool true)])] [(1, .box 70 [.v (.string ⟨⟨r25.2.S⟩⟩), .v (.int .i64 r25.2.At), .v (.bool true)])] rfl rfl rfl rfl (by kernel_rfl) (by kernel_rfl) (by kernel_rfl) ⟨rfl, trivial⟩ (fun w0 X X0 σ0 _ => by refine po_evs (T := tab) 1 rfl rfl ?_; refine po_nil ?_; exact pn_end0 ⟨rfl, trivial⟩ ⟨rfl, trivial⟩ rfl) ?_
          refine pdv_step (M := (Instarref24_need_m fu (⟨r25.2.S, r25.2.At, true⟩ : Instarref24_Scan) [10])) (ment := [(252, [])]) [250] [252] [] [] [] (fun r26 => [(126, .agg (cInstarref24_Scan r26))]) (fun r26 => []) rfl rfl (fun _ => rfl) (fun _ => rfl) (by kernel_rfl) (by kernel_rfl) (fun _ => by kernel_rfl) (fun _ => trivial) (fun w0 X X0 σ0 _ => by refine po_call (enc := fun (r26 : Instarref24_Scan) => .agg (cInstarref24_Scan r26)) (qs := [.agg (cInstarref24_Scan (⟨r25.2.S, r25.2.At, true⟩ : Instarref24_Scan)), .v (.string ⟨⟨[10]⟩⟩)]) (Instarref24_need_ok fu (⟨r25.2.S, r25.2.At, true⟩ : Instarref24_Scan) [10]) rfl rfl ⟨⟨_, rfl, .rfl⟩, ⟨_, rfl, .rfl⟩, trivial⟩ (fun _ => rfl) call42 rfl rfl fun r26 hr26 => ?_; refine po_nil ?_; exact pn_end ⟨rfl, trivial⟩ trivial rfl) fun r26 hr26 => ?_
          refine pdv_step0 [4, 5, 248] [5] [] [2] [] [] [(2, .box 29 [.v (.int .i64 c3), .v (.int .i64 r11.1), .v (.int .i64 r12.1), .v (.int .i64 r13.1), .v (.int .i64 r14.1), .v (.string ⟨⟨r18.1⟩⟩), .v (.bool r19.1), .v (.bool r20.1), .v (.string ⟨⟨r21.1⟩⟩), .v (.string ⟨⟨r22.1⟩⟩), .v (.int .i64 r23.1), .v (.int .i64 r24.1), .v (.bool r25.1)])] rfl rfl rfl rfl (by kernel_rfl) (by kernel_rfl) (by kernel_rfl) trivial (fun w0 X X0 σ0 _ => by refine po_store (T := tab) rfl rfl rfl rfl rfl rfl rfl rfl rfl rfl rfl rfl ?_; refine po_nil ?_; exact pn_end0 trivial ⟨rfl, trivial⟩ rfl) ?_
          refine pdv_step0 [6, 7, 252] [7] [] [3] [] [] [(3, .box 70 [.v (.string ⟨⟨r26.S⟩⟩), .v (.int .i64 r26.At), .v (.bool r26.Bad)])] rfl rfl rfl rfl (by kernel_rfl) (by kernel_rfl) (by kernel_rfl) trivial (fun w0 X X0 σ0 _ => by refine po_store (T := tab) rfl rfl rfl rfl rfl rfl rfl rfl rfl rfl rfl rfl ?_; refine po_nil ?_; exact pn_end0 trivial ⟨rfl, trivial⟩ rfl) ?_
          refine pdv_nil rfl rfl ?_
          refine pn_seq ?_
          exact pw_retN (T := tab) rfl rfl rfl ⟨rfl, rfl⟩ trivial rfl
        · refine pw_skip ?_
          refine pn_seq ?_
          refine pw_seq ?_
          refine pw_sub' (E' := [(1, .loc 1 0), (2, .loc 2 0), (3, .loc 3 0), (4, .loc 4 0)]) (S' := [(4, .box 29 [.v (.int .i64 c3), .v (.int .i64 r11.1), .v (.int .i64 r12.1), .v (.int .i64 r13.1), .v (.int .i64 r14.1), .v (.string ⟨⟨r18.1⟩⟩), .v (.bool r19.1), .v (.bool r20.1), .v (.string ⟨⟨r21.1⟩⟩), .v (.string ⟨⟨r22.1⟩⟩), .v (.int .i64 r23.1), .v (.int .i64 r24.1), .v (.bool r25.1)]), (3, .box 70 [.v (.string ⟨⟨[]⟩⟩), .v (.int .i64 0), .v (.bool false)]), (2, .box 29 [.v (.int .i64 0), .v (.int .i64 0), .v (.int .i64 0), .v (.int .i64 0), .v (.int .i64 0), .v (.string ⟨⟨[]⟩⟩), .v (.bool false), .v (.bool false), .v (.string ⟨⟨[]⟩⟩), .v (.string ⟨⟨[]⟩⟩), .v (.int .i64 0), .v (.int .i64 0), .v (.bool false)]), (1, .box 70 [.v (.string ⟨⟨r25.2.S⟩⟩), .v (.int .i64 r25.2.At), .v (.bool r25.2.Bad)])]) ?_ ⟨rfl, rfl, rfl, rfl, trivial⟩ ⟨rfl, rfl, rfl, rfl, trivial⟩ rfl
          refine pw_drawV [0, 0, 2, 7, 15] mixed (by kernel_rfl) (by kernel_rfl) rfl rfl ?_
          refine pdv_step0 [8, 9] [248] [] [4] [4] [(124, .agg [.v (.int .i64 c3), .v (.int .i64 r11.1), .v (.int .i64 r12.1), .v (.int .i64 r13.1), .v (.int .i64 r14.1), .v (.string ⟨⟨r18.1⟩⟩), .v (.bool r19.1), .v (.bool r20.1), .v (.string ⟨⟨r21.1⟩⟩), .v (.string ⟨⟨r22.1⟩⟩), .v (.int .i64 r23.1), .v (.int .i64 r24.1), .v (.bool r25.1)])] [(4, .box 29 [.v (.int .i64 c3), .v (.int .i64 r11.1), .v (.int .i64 r12.1), .v (.int .i64 r13.1), .v (.int .i64 r14.1), .v (.string ⟨⟨r18.1⟩⟩), .v (.bool r19.1), .v (.bool r20.1), .v (.string ⟨⟨r21.1⟩⟩), .v (.string ⟨⟨r22.1⟩⟩), .v (.int .i64 r23.1), .v (.int .i64 r24.1), .v (.bool r25.1)])] rfl rfl rfl rfl (by kernel_rfl) (by kernel_rfl) (by kernel_rfl) ⟨rfl, trivial⟩ (fun w0 X X0 σ0 _ => by refine po_evs (T := tab) 1 rfl rfl ?_; refine po_nil ?_; exact pn_end0 ⟨rfl, trivial⟩ ⟨rfl, trivial⟩ rfl) ?_
          refine pdv_step0 [2, 3] [250] [] [1] [1] [(125, .agg (cInstarref24_Scan r25.2))] [(1, .box 70 [.v (.string ⟨⟨r25.2.S⟩⟩), .v (.int .i64 r25.2.At), .v (.bool r25.2.Bad)])] rfl rfl rfl rfl (by kernel_rfl) (by kernel_rfl) (by kernel_rfl) ⟨rfl, trivial⟩ (fun w0 X X0 σ0 _ => by refine po_evs (T := tab) 1 rfl rfl ?_; refine po_nil ?_; exact pn_end0 ⟨rfl, trivial⟩ ⟨rfl, trivial⟩ rfl) ?_
          refine pdv_step (M := (Instarref24_need_m fu r25.2 [10])) (ment := [(252, [])]) [250] [252] [] [] [] (fun r27 => [(126, .agg (cInstarref24_Scan r27))]) (fun r27 => []) rfl rfl (fun _ => rfl) (fun _ => rfl) (by kernel_rfl) (by kernel_rfl) (fun _ => by kernel_rfl) (fun _ => trivial) (fun w0 X X0 σ0 _ => by refine po_call (enc := fun (r27 : Instarref24_Scan) => .agg (cInstarref24_Scan r27)) (qs := [.agg (cInstarref24_Scan r25.2), .v (.string ⟨⟨[10]⟩⟩)]) (Instarref24_need_ok fu r25.2 [10]) rfl rfl ⟨⟨_, rfl, .rfl⟩, ⟨_, rfl, .rfl⟩, trivial⟩ (fun _ => rfl) call42 rfl rfl fun r27 hr27 => ?_; refine po_nil ?_; exact pn_end ⟨rfl, trivial⟩ trivial rfl) fun r27 hr27 => ?_
          refine pdv_step0 [4, 5, 248] [5] [] [2] [] [] [(2, .box 29 [.v (.int .i64 c3), .v (.int .i64 r11.1), .v (.int .i64 r12.1), .v (.int .i64 r13.1), .v (.int .i64 r14.1), .v (.string ⟨⟨r18.1⟩⟩), .v (.bool r19.1), .v (.bool r20.1), .v (.string ⟨⟨r21.1⟩⟩), .v (.string ⟨⟨r22.1⟩⟩), .v (.int .i64 r23.1), .v (.int .i64 r24.1), .v (.bool r25.1)])] rfl rfl rfl rfl (by kernel_rfl) (by kernel_rfl) (by kernel_rfl) trivial (fun w0 X X0 σ0 _ => by refine po_store (T := tab) rfl rfl rfl rfl rfl rfl rfl rfl rfl rfl rfl rfl ?_; refine po_nil ?_; exact pn_end0 trivial ⟨rfl, trivial⟩ rfl) ?_
          refine pdv_step0 [6, 7, 252] [7] [] [3] [] [] [(3, .box 70 [.v (.string ⟨⟨r27.S⟩⟩), .v (.int .i64 r27.At), .v (.bool r27.Bad)])] rfl rfl rfl rfl (by kernel_rfl) (by kernel_rfl) (by kernel_rfl) trivial (fun w0 X X0 σ0 _ => by refine po_store (T := tab) rfl rfl rfl rfl rfl rfl rfl rfl rfl rfl rfl rfl ?_; refine po_nil ?_; exact pn_end0 trivial ⟨rfl, trivial⟩ rfl) ?_
          refine pdv_nil rfl rfl ?_
          refine pn_seq ?_
          exact pw_retN (T := tab) rfl rfl rfl ⟨rfl, rfl⟩ trivial rfl
    · refine pw_cnd rfl ?_ ?_
      · refine pw_region ?_
        refine po_evs (T := tab) 1 rfl rfl ?_
        refine po_store (T := tab) rfl rfl rfl rfl rfl rfl rfl rfl rfl rfl rfl rfl ?_
        refine po_nil ?_
        exact pn_sub' (hj1 true) ⟨rfl, rfl, rfl, rfl, trivial⟩ ⟨rfl, rfl, rfl, rfl, trivial⟩ rfl
      · refine pw_skip ?_
        exact pn_sub' (hj1 r14.2.Bad) ⟨rfl, rfl, rfl, rfl, trivial⟩ ⟨rfl, rfl, rfl, rfl, trivial⟩ rfl

def Instarref24_Read_l1 (fu : Nat) (s1 : Bs) : Nat → (List Mark) × Bs × Int × Bool → Option ((List Mark) × Bool)
  | 0, _ => none
  | k1 + 1, (l2, c3, c4, c5) => cnd (decide (c4 < ((s1.length : Nat) : Int))) (bnd (Instarref24_mark_m fu (⟨c3, c4, c5⟩ : Instarref24_Scan)) fun r6 => cnd r6.2.Bad (some ([], false)) (bnd (roomy 120 (l2.length + ([r6.1] : List Mark).length)) fun _ => (Instarref24_Read_l1 fu s1 k1) ((l2 ++ [r6.1]), r6.2.S, r6.2.At, r6.2.Bad))) (some (l2, true))

def Instarref24_Read_m (fu : Nat) (s1 : Bs) : Option ((List Mark) × Bool) := (Instarref24_Read_l1 fu s1) fu ([], s1, 0, false)

set_option maxHeartbeats 10000000 in
set_option maxRecDepth 100000 in
theorem Instarref24_Read_ok (fu : Nat) (s1 : Bs) : ∀ r, Instarref24_Read_m fu s1 = some r → DC laidL Tryd.prog 13 [.v (.string ⟨⟨s1⟩⟩)] (.tup [.sl 13 false (r.1.map cMark), .v (.bool r.2)]) := by
  intro r hr
  refine fc_intro (args := [.v (.string ⟨⟨s1⟩⟩)]) (S := []) (N0 := []) (post := fun r p S => p = .tup [.sl 13 false (r.1.map cMark), .v (.bool r.2)] ∧ S = []) Tryd.func13 rfl rfl hr fun w0 X X0 σ0 _ => ?_
  refine pw_seq ?_
  refine pw_region ?_
  refine po_evs (T := tab) 2 rfl rfl ?_
  refine po_nil ?_
  refine pn_seq ?_
  refine pw_seq ?_
  refine pw_region ?_
  refine po_evs (T := tab) 1 rfl rfl ?_
  refine po_nil ?_
  refine pn_seq ?_
  refine pw_seq ?_
  refine pw_region ?_
  refine po_evs (T := tab) 1 rfl rfl ?_
  refine po_build (T := tab) rfl rfl rfl rfl rfl rfl rfl ?_
  refine po_alloc (T := tab) 5 rfl rfl rfl rfl rfl rfl rfl rfl rfl ?_
  refine po_store (T := tab) rfl rfl rfl rfl rfl rfl rfl rfl rfl rfl rfl rfl ?_
  refine po_nil ?_
  refine pn_seq ?_
  refine pw_seq ?_
  refine pw_block ?_
  refine pw_own_nil 1025 29 13 4 rfl rfl rfl rfl ?_
  refine pw_loop' (Instarref24_Read_l1 fu s1) (fun ((l2, c3, c4, c5) : (List Mark) × Bs × Int × Bool) => [(0, .v (.string ⟨⟨s1⟩⟩)), (4, .own 1025), (5, .loc 5 0)]) (fun ((l2, c3, c4, c5) : (List Mark) × Bs × Int × Bool) => [(1025, .arr 29 13 (l2.map cMark)), (5, .box 70 [.v (.string ⟨⟨c3⟩⟩), .v (.int .i64 c4), .v (.bool c5)])]) fu ([], s1, 0, false) (fun _ => rfl) ⟨rfl, rfl, rfl, trivial⟩ ⟨rfl, rfl, trivial⟩ rfl ?_
  rintro k1 ⟨l2, c3, c4, c5⟩
  refine pw_seq ?_
  refine pw_seq ?_
  refine pw_region ?_
  refine po_evs (T := tab) 5 rfl rfl ?_
  refine po_nil ?_
  refine pn_seq ?_
  refine pw_cnd rfl ?_ ?_
  · refine pw_skip ?_
    refine pn_seq ?_
    refine pw_block ?_
    refine pw_seq ?_
    refine pw_region ?_
    refine po_evs (T := tab) 1 rfl rfl ?_
    refine po_call (enc := fun (r6 : (Mark × Instarref24_Scan)) => .tup [.agg (cMark r6.1), .agg (cInstarref24_Scan r6.2)]) (qs := [.agg (cInstarref24_Scan (⟨c3, c4, c5⟩ : Instarref24_Scan))]) (Instarref24_mark_ok fu (⟨c3, c4, c5⟩ : Instarref24_Scan)) rfl rfl ⟨⟨_, rfl, .rfl⟩, trivial⟩ (fun _ => rfl) call30 rfl rfl fun r6 hr6 => ?_
    refine po_evs (T := tab) 3 rfl rfl ?_
    refine po_alloc (T := tab) 6 rfl rfl rfl rfl rfl rfl rfl rfl rfl ?_
    refine po_alloc (T := tab) 7 rfl rfl rfl rfl rfl rfl rfl rfl rfl ?_
    refine po_store (T := tab) rfl rfl rfl rfl rfl rfl rfl rfl rfl rfl rfl rfl ?_
    refine po_store (T := tab) rfl rfl rfl rfl rfl rfl rfl rfl rfl rfl rfl rfl ?_
    refine po_nil ?_
    refine pn_seq ?_
    refine pw_seq ?_
    refine pw_seq ?_
    refine pw_region ?_
    refine po_evs (T := tab) 2 rfl rfl ?_
    refine po_nil ?_
    refine pn_seq ?_
    refine pw_cnd rfl ?_ ?_
    · refine pw_seq ?_
      refine pw_region ?_
      refine po_evs (T := tab) 2 rfl rfl ?_
      refine po_nil ?_
      refine pn_seq ?_
      refine pw_coe 2 (q := .sl 13 false ([].map cMark)) rfl .nil ?_
      exact pw_retN (T := tab) rfl rfl rfl ⟨rfl, rfl⟩ trivial rfl
    · refine pw_skip ?_
      refine pn_seq ?_
      refine pw_seq ?_
      refine pw_region ?_
      refine po_evs (T := tab) 2 rfl rfl ?_
      refine po_lit (T := tab) (rows := [r6.1].map cMark) 24 rfl rfl rfl rfl rfl rfl rfl rfl rfl rfl rfl rfl rfl rfl ?_
      refine po_append (T := tab) cMark l2 ([r6.1] : List Mark) rfl rfl rfl rfl rfl rfl rfl rfl rfl rfl rfl rfl rfl rfl (cMark_one _) rfl rfl rfl rfl rfl ?_
      refine po_evs (T := tab) 1 rfl rfl ?_
      refine po_nil ?_
      refine pn_seq ?_
      refine pw_region ?_
      refine po_evs (T := tab) 1 rfl rfl ?_
      refine po_store (T := tab) rfl rfl rfl rfl rfl rfl rfl rfl rfl rfl rfl rfl ?_
      refine po_nil ?_
      refine pn_block ?_
      exact pn_iter' ((l2 ++ [r6.1]), r6.2.S, r6.2.At, r6.2.Bad) ⟨rfl, rfl, rfl, trivial⟩ ⟨rfl, rfl, trivial⟩ rfl
  · refine pw_exit rfl ?_
    refine pn_seq ?_
    refine pw_seq ?_
    refine pw_region ?_
    refine po_evs (T := tab) 3 rfl rfl ?_
    refine po_nil ?_
    refine pn_seq ?_
    refine pw_freeze 1025 rfl rfl rfl ?_
    exact pw_retN (T := tab) rfl rfl rfl ⟨rfl, rfl⟩ trivial rfl

def Instarref20_Marks_l1 (a1 : (List Mark)) (b2 : (List Mark)) : Nat → Int → Option Bool
  | 0, _ => none
  | k1 + 1, i3 => cnd (decide (i3 < ((a1.length : Nat) : Int))) (bnd (idx a1 i3) fun y4 => bnd (idx b2 i3) fun y5 => cnd (!(eqMark y4 y5)) (some false) (bnd (rng .i64 (i3 + 1)) fun i6 => (Instarref20_Marks_l1 a1 b2 k1) i6)) (some true)

def Instarref20_Marks_m (fu : Nat) (a1 : (List Mark)) (b2 : (List Mark)) : Option Bool := cnd (((a1.length : Nat) : Int) != ((b2.length : Nat) : Int)) (some false) ((Instarref20_Marks_l1 a1 b2) fu 0)

set_option maxHeartbeats 10000000 in
set_option maxRecDepth 100000 in
theorem Instarref20_Marks_ok (fu : Nat) (a1 : (List Mark)) (b2 : (List Mark)) : ∀ r, Instarref20_Marks_m fu a1 b2 = some r → DC laidL Tryd.prog 14 [.sl 13 false (a1.map cMark), .sl 13 false (b2.map cMark)] (.v (.bool r)) := by
  intro r hr
  refine fc_intro (args := [.sl 13 false (a1.map cMark), .sl 13 false (b2.map cMark)]) (S := []) (N0 := []) (post := fun r p S => p = .v (.bool r) ∧ S = []) Tryd.func14 rfl rfl hr fun w0 X X0 σ0 _ => ?_
  refine pw_seq ?_
  refine pw_region ?_
  refine po_evs (T := tab) 1 rfl rfl ?_
  refine po_nil ?_
  refine pn_seq ?_
  refine pw_seq ?_
  refine pw_seq ?_
  refine pw_region ?_
  refine po_evs (T := tab) 1 rfl rfl ?_
  refine po_len (T := tab) cMark a1 rfl rfl rfl rfl rfl rfl rfl rfl ?_
  refine po_evs (T := tab) 1 rfl rfl ?_
  refine po_len (T := tab) cMark b2 rfl rfl rfl rfl rfl rfl rfl rfl ?_
  refine po_evs (T := tab) 1 rfl rfl ?_
  refine po_nil ?_
  refine pn_seq ?_
  refine pw_cnd rfl ?_ ?_
  · refine pw_seq ?_
    refine pw_region ?_
    refine po_evs (T := tab) 1 rfl rfl ?_
    refine po_nil ?_
    refine pn_seq ?_
    exact pw_retN (T := tab) rfl rfl rfl ⟨rfl, rfl⟩ trivial rfl
  · refine pw_skip ?_
    refine pn_seq ?_
    refine pw_seq ?_
    refine pw_seq ?_
    refine pw_region ?_
    refine po_evs (T := tab) 1 rfl rfl ?_
    refine po_nil ?_
    refine pn_seq ?_
    refine pw_block ?_
    refine pw_loop' (Instarref20_Marks_l1 a1 b2) (fun (i3 : Int) => [(0, .sl 13 false (a1.map cMark)), (1, .sl 13 false (b2.map cMark)), (5, .v (.int .i64 i3))]) (fun (i3 : Int) => []) fu 0 (fun _ => rfl) ⟨rfl, rfl, rfl, trivial⟩ trivial rfl ?_
    rintro k1 i3
    refine pw_seq ?_
    refine pw_seq ?_
    refine pw_region ?_
    refine po_evs (T := tab) 2 rfl rfl ?_
    refine po_len (T := tab) cMark a1 rfl rfl rfl rfl rfl rfl rfl rfl ?_
    refine po_evs (T := tab) 1 rfl rfl ?_
    refine po_nil ?_
    refine pn_seq ?_
    refine pw_cnd rfl ?_ ?_
    · refine pw_skip ?_
      refine pn_seq ?_
      refine pw_seq ?_
      refine pw_block ?_
      refine pw_seq ?_
      refine pw_draw mixed (by kernel_rfl) ?_
      refine pd_evs (T := tab) 2 rfl rfl ?_
      refine pd_idx (T := tab) cMark a1 rfl rfl rfl rfl rfl rfl rfl fun y4 hy4 => ?_
      refine pd_evs (T := tab) 3 rfl rfl ?_
      refine pd_idx (T := tab) cMark b2 rfl rfl rfl rfl rfl rfl rfl fun y5 hy5 => ?_
      refine pd_evs (T := tab) 1 rfl rfl ?_
      refine pd_ne eqf_29 rfl rfl rfl rfl rfl rfl rfl ?_
      refine pd_nil ?_
      refine pn_seq ?_
      refine pw_cnd rfl ?_ ?_
      · refine pw_seq ?_
        refine pw_region ?_
        refine po_evs (T := tab) 1 rfl rfl ?_
        refine po_nil ?_
        refine pn_seq ?_
        exact pw_retN (T := tab) rfl rfl rfl ⟨rfl, rfl⟩ trivial rfl
      · refine pw_skip ?_
        refine pn_block ?_
        refine pn_seq ?_
        refine pw_region ?_
        refine po_evs (T := tab) 1 rfl rfl ?_
        refine po_arith' (T := tab) rfl rfl rfl rfl fun i6 hi6 => ?_
        refine po_evs (T := tab) 1 rfl rfl ?_
        refine po_nil ?_
        exact pn_iter' i6 ⟨rfl, rfl, rfl, trivial⟩ trivial rfl
    · refine pw_exit rfl ?_
      refine pn_seq ?_
      refine pw_seq ?_
      refine pw_region ?_
      refine po_evs (T := tab) 1 rfl rfl ?_
      refine po_nil ?_
      refine pn_seq ?_
      exact pw_retN (T := tab) rfl rfl rfl ⟨rfl, rfl⟩ trivial rfl

def Instarlaw24_TaleRight_j1 (i6 : Int) (want7 : Bs) (r9 : (Bs × Int)) (rc1 : (Bool × Int × Bs) → Option Bool) (x_ : Unit) : Option Bool := cnd (r9.2 != 1) (some false) (cnd (!(r9.1 == ([] : Bs))) (some false) (bnd (rng .i64 (i6 + 1)) fun i18 => rc1 (false, i18, want7)))

def Instarlaw24_TaleRight_j2 (fu : Nat) (s2 : Bs) (x_ : Unit) : Option Bool := bnd (Tale_Read_m fu s2) fun r21 => bnd (Instarref24_Read_m fu s2) fun r22 => bnd (Instarref20_Marks_m fu r21.1 r22.1) fun r23 => cnd r23 (cnd ((r21.2 == 0) == r22.2) (cnd r22.2 (some true) (some (r21.2 == 2))) (some false)) (some false)

def Instarlaw24_TaleRight_l1 (fu : Nat) (l1 : (List Mark)) (s2 : Bs) : Nat → Bool × Int × Bs → Option Bool
  | 0, _ => none
  | k1 + 1, (may5, i6, want7) => cnd (decide (i6 < ((l1.length : Nat) : Int))) (bnd (idx l1 i6) fun y8 => bnd (Tale_One_m fu y8) fun r9 => bnd (idx l1 i6) fun y10 => cnd (decide (y10.Kind < 1)) ((Instarlaw24_TaleRight_j1 i6 want7 r9 (Instarlaw24_TaleRight_l1 fu l1 s2 k1)) ()) (bnd (idx l1 i6) fun y11 => cnd (decide (y11.Kind > 10)) ((Instarlaw24_TaleRight_j1 i6 want7 r9 (Instarlaw24_TaleRight_l1 fu l1 s2 k1)) ()) (cnd (r9.2 != 0) (some false) (bnd (idx l1 i6) fun y12 => bnd (Instarref24_One_m fu y12) fun r13 => cnd (!(r9.1 == r13)) (some false) (bnd (idx l1 i6) fun y14 => bnd (Instarref24_One_m fu y14) fun r15 => bnd (cat r15 ([10] : Bs)) fun s16 => bnd (cat want7 s16) fun s17 => bnd (rng .i64 (i6 + 1)) fun i19 => (Instarlaw24_TaleRight_l1 fu l1 s2 k1) (may5, i19, s17)))))) (bnd (Tale_Put_m fu l1) fun r20 => cnd may5 (cnd (r20.2 != 0) (some false) (cnd (!(r20.1 == want7)) (some false) (cnd (!may5) (cnd (r20.2 != 1) (some false) (cnd (!(r20.1 == ([] : Bs))) (some false) ((Instarlaw24_TaleRight_j2 fu s2) ()))) ((Instarlaw24_TaleRight_j2 fu s2) ())))) (cnd (!may5) (cnd (r20.2 != 1) (some false) (cnd (!(r20.1 == ([] : Bs))) (some false) ((Instarlaw24_TaleRight_j2 fu s2) ()))) ((Instarlaw24_TaleRight_j2 fu s2) ())))

def Instarlaw24_TaleRight_m (fu : Nat) (l1 : (List Mark)) (s2 : Bs) : Option Bool := bnd (Instarlaw24_awake_m fu) fun r3 => cnd (!r3) (some false) (bnd (Instarlaw24_short_m fu l1) fun r4 => cnd (!r4) (some true) (cnd (decide (((s2.length : Nat) : Int) > 4000)) (some true) ((Instarlaw24_TaleRight_l1 fu l1 s2) fu (true, 0, []))))

set_option maxHeartbeats 10000000 in
set_option maxRecDepth 100000 in
theorem Instarlaw24_TaleRight_ok (fu : Nat) (l1 : (List Mark)) (s2 : Bs) : ∀ r, Instarlaw24_TaleRight_m fu l1 s2 = some r → DC laidL Tryd.prog 3 [.sl 13 false (l1.map cMark), .v (.string ⟨⟨s2⟩⟩)] (.v (.bool r)) := by
  intro r hr
  refine fc_intro (args := [.sl 13 false (l1.map cMark), .v (.string ⟨⟨s2⟩⟩)]) (S := []) (N0 := []) (post := fun r p S => p = .v (.bool r) ∧ S = []) Tryd.func3 rfl rfl hr fun w0 X X0 σ0 _ => ?_
  refine pw_seq ?_
  refine pw_region ?_
  refine po_evs (T := tab) 1 rfl rfl ?_
  refine po_nil ?_
  refine pn_seq ?_
  refine pw_seq ?_
  refine pw_seq ?_
  refine pw_region ?_
  refine po_call (enc := fun (r3 : Bool) => .v (.bool r3)) (qs := []) (Instarlaw24_awake_ok fu) rfl rfl trivial (fun _ => rfl) call7 rfl rfl fun r3 hr3 => ?_
  refine po_evs (T := tab) 1 rfl rfl ?_
  refine po_nil ?_
  refine pn_seq ?_
  refine pw_cnd rfl ?_ ?_
  · refine pw_seq ?_
    refine pw_region ?_
    refine po_evs (T := tab) 1 rfl rfl ?_
    refine po_nil ?_
    refine pn_seq ?_
    exact pw_retN (T := tab) rfl rfl rfl ⟨rfl, rfl⟩ trivial rfl
  · refine pw_skip ?_
    refine pn_seq ?_
    refine pw_seq ?_
    refine pw_seq ?_
    refine pw_region ?_
    refine po_evs (T := tab) 1 rfl rfl ?_
    refine po_call (enc := fun (r4 : Bool) => .v (.bool r4)) (qs := [.sl 13 false (l1.map cMark)]) (Instarlaw24_short_ok fu l1) rfl rfl ⟨⟨_, rfl, .rfl⟩, trivial⟩ (fun _ => rfl) call8 rfl rfl fun r4 hr4 => ?_
    refine po_evs (T := tab) 2 rfl rfl ?_
    refine po_split (j := 21) rfl ?_ ?_
    · refine po_evs (T := tab) 4 rfl rfl ?_
      refine po_nil ?_
      refine pn_seq (pw_then rfl ?_)
      refine pw_seq ?_
      refine pw_region ?_
      refine po_evs (T := tab) 1 rfl rfl ?_
      refine po_nil ?_
      refine pn_seq ?_
      exact pw_retN (T := tab) rfl rfl rfl ⟨rfl, rfl⟩ trivial rfl
    · refine po_evs (T := tab) 4 rfl rfl ?_
      refine po_nil ?_
      refine pn_seq ?_
      refine pw_cnd rfl ?_ ?_
      · refine pw_seq ?_
        refine pw_region ?_
        refine po_evs (T := tab) 1 rfl rfl ?_
        refine po_nil ?_
        refine pn_seq ?_
        exact pw_retN (T := tab) rfl rfl rfl ⟨rfl, rfl⟩ trivial rfl
      · refine pw_skip ?_
        refine pn_seq ?_
        refine pw_seq ?_
        refine pw_region ?_
        refine po_evs (T := tab) 1 rfl rfl ?_
        refine po_nil ?_
        refine pn_seq ?_
        refine pw_seq ?_
        refine pw_region ?_
        refine po_evs (T := tab) 1 rfl rfl ?_
        refine po_nil ?_
        refine pn_seq ?_
        refine pw_seq ?_
        refine pw_seq ?_
        refine pw_region ?_
        refine po_evs (T := tab) 1 rfl rfl ?_
        refine po_nil ?_
        refine pn_seq ?_
        refine pw_block ?_
        refine pw_loop' (Instarlaw24_TaleRight_l1 fu l1 s2) (fun ((may5, i6, want7) : Bool × Int × Bs) => [(0, .sl 13 false (l1.map cMark)), (1, .v (.string ⟨⟨s2⟩⟩)), (5, .v (.string ⟨⟨want7⟩⟩)), (6, .v (.bool may5)), (7, .v (.int .i64 i6))]) (fun ((may5, i6, want7) : Bool × Int × Bs) => []) fu (true, 0, []) (fun _ => rfl) ⟨rfl, rfl, rfl, rfl, rfl, trivial⟩ trivial rfl ?_
        rintro k1 ⟨may5, i6, want7⟩
        refine pw_seq ?_
        refine pw_seq ?_
        refine pw_region ?_
        refine po_evs (T := tab) 2 rfl rfl ?_
        refine po_len (T := tab) cMark l1 rfl rfl rfl rfl rfl rfl rfl rfl ?_
        refine po_evs (T := tab) 1 rfl rfl ?_
        refine po_nil ?_
        refine pn_seq ?_
        refine pw_cnd rfl ?_ ?_
        · refine pw_skip ?_
          refine pn_seq ?_
          refine pw_seq ?_
          refine pw_block ?_
          refine pw_seq ?_
          refine pw_region ?_
          refine po_evs (T := tab) 2 rfl rfl ?_
          refine po_idx (T := tab) cMark l1 rfl rfl rfl rfl rfl rfl rfl fun y8 hy8 => ?_
          refine po_evs (T := tab) 1 rfl rfl ?_
          refine po_call (enc := fun (r9 : (Bs × Int)) => .tup [.v (.string ⟨⟨r9.1⟩⟩), .v (.int .i64 r9.2)]) (qs := [.agg (cMark y8)]) (Tale_One_ok fu y8) rfl rfl ⟨⟨_, rfl, .rfl⟩, trivial⟩ (fun _ => rfl) call9 rfl rfl fun r9 hr9 => ?_
          refine po_evs (T := tab) 5 rfl rfl ?_
          refine po_nil ?_
          refine pn_seq ?_
          refine pw_seq ?_
          refine pw_seq ?_
          refine pw_region ?_
          refine po_joinX (Instarlaw24_TaleRight_j1 i6 want7 r9 (Instarlaw24_TaleRight_l1 fu l1 s2 k1)) (fun (_ : Unit) => [(0, .sl 13 false (l1.map cMark)), (1, .v (.string ⟨⟨s2⟩⟩)), (5, .v (.string ⟨⟨want7⟩⟩)), (7, .v (.int .i64 i6)), (8, .v (.string ⟨⟨r9.1⟩⟩)), (9, .v (.int .i64 r9.2))]) (fun (_ : Unit) => []) ?_ fun hj1 => ?_
          · rintro _
            refine pw_seq ?_
            refine pw_region ?_
            refine po_evs (T := tab) 1 rfl rfl ?_
            refine po_nil ?_
            refine pn_seq ?_
            refine pw_seq ?_
            refine pw_seq ?_
            refine pw_region ?_
            refine po_evs (T := tab) 3 rfl rfl ?_
            refine po_split (j := 56) rfl ?_ ?_
            · refine po_evs (T := tab) 3 rfl rfl ?_
              refine po_nil ?_
              refine pn_seq (pw_then rfl ?_)
              refine pw_seq ?_
              refine pw_region ?_
              refine po_evs (T := tab) 1 rfl rfl ?_
              refine po_nil ?_
              refine pn_seq ?_
              exact pw_retN (T := tab) rfl rfl rfl ⟨rfl, rfl⟩ trivial rfl
            · refine po_evs (T := tab) 3 rfl rfl ?_
              refine po_nil ?_
              refine pn_seq ?_
              refine pw_cnd rfl ?_ ?_
              · refine pw_seq ?_
                refine pw_region ?_
                refine po_evs (T := tab) 1 rfl rfl ?_
                refine po_nil ?_
                refine pn_seq ?_
                exact pw_retN (T := tab) rfl rfl rfl ⟨rfl, rfl⟩ trivial rfl
              · refine pw_skip ?_
                refine pn_seq ?_
                refine pw_exit rfl ?_
                refine pn_seq ?_
                refine pw_region ?_
                refine po_evs (T := tab) 1 rfl rfl ?_
                refine po_arith' (T := tab) rfl rfl rfl rfl fun i18 hi18 => ?_
                refine po_evs (T := tab) 1 rfl rfl ?_
                refine po_nil ?_
                exact pn_iter' (false, i18, want7) ⟨rfl, rfl, rfl, rfl, rfl, trivial⟩ trivial rfl
          · refine po_evs (T := tab) 2 rfl rfl ?_
            refine po_idx (T := tab) cMark l1 rfl rfl rfl rfl rfl rfl rfl fun y10 hy10 => ?_
            refine po_evs (T := tab) 4 rfl rfl ?_
            refine po_split (j := 46) rfl ?_ ?_
            · refine po_evs (T := tab) 7 rfl rfl ?_
              refine po_nil ?_
              refine pn_seq (pw_then rfl ?_)
              exact pw_sub' (hj1 ()) ⟨rfl, rfl, rfl, rfl, rfl, rfl, trivial⟩ trivial rfl
            · refine po_evs (T := tab) 2 rfl rfl ?_
              refine po_idx (T := tab) cMark l1 rfl rfl rfl rfl rfl rfl rfl fun y11 hy11 => ?_
              refine po_evs (T := tab) 4 rfl rfl ?_
              refine po_nil ?_
              refine pn_seq ?_
              refine pw_cnd rfl ?_ ?_
              · exact pw_sub' (hj1 ()) ⟨rfl, rfl, rfl, rfl, rfl, rfl, trivial⟩ trivial rfl
              · refine pw_skip ?_
                refine pn_seq ?_
                refine pw_seq ?_
                refine pw_seq ?_
                refine pw_region ?_
                refine po_evs (T := tab) 3 rfl rfl ?_
                refine po_split (j := 62) rfl ?_ ?_
                · refine po_evs (T := tab) 8 rfl rfl ?_
                  refine po_nil ?_
                  refine pn_seq (pw_then rfl ?_)
                  refine pw_seq ?_
                  refine pw_region ?_
                  refine po_evs (T := tab) 1 rfl rfl ?_
                  refine po_nil ?_
                  refine pn_seq ?_
                  exact pw_retN (T := tab) rfl rfl rfl ⟨rfl, rfl⟩ trivial rfl
                · refine po_evs (T := tab) 3 rfl rfl ?_
                  refine po_idx (T := tab) cMark l1 rfl rfl rfl rfl rfl rfl rfl fun y12 hy12 => ?_
                  refine po_evs (T := tab) 1 rfl rfl ?_
                  refine po_call (enc := fun (r13 : Bs) => .v (.string ⟨⟨r13⟩⟩)) (qs := [.agg (cMark y12)]) (Instarref24_One_ok fu y12) rfl rfl ⟨⟨_, rfl, .rfl⟩, trivial⟩ (fun _ => rfl) call10 rfl rfl fun r13 hr13 => ?_
                  refine po_evs (T := tab) 2 rfl rfl ?_
                  refine po_nil ?_
                  refine pn_seq ?_
                  refine pw_cnd rfl ?_ ?_
                  · refine pw_seq ?_
                    refine pw_region ?_
                    refine po_evs (T := tab) 1 rfl rfl ?_
                    refine po_nil ?_
                    refine pn_seq ?_
                    exact pw_retN (T := tab) rfl rfl rfl ⟨rfl, rfl⟩ trivial rfl
                  · refine pw_skip ?_
                    refine pn_seq ?_
                    refine pw_region ?_
                    refine po_evs (T := tab) 3 rfl rfl ?_
                    refine po_idx (T := tab) cMark l1 rfl rfl rfl rfl rfl rfl rfl fun y14 hy14 => ?_
                    refine po_evs (T := tab) 1 rfl rfl ?_
                    refine po_call (enc := fun (r15 : Bs) => .v (.string ⟨⟨r15⟩⟩)) (qs := [.agg (cMark y14)]) (Instarref24_One_ok fu y14) rfl rfl ⟨⟨_, rfl, .rfl⟩, trivial⟩ (fun _ => rfl) call10 rfl rfl fun r15 hr15 => ?_
                    refine po_cat rfl rfl rfl rfl rfl rfl fun s16 hs16 => ?_
                    refine po_cat rfl rfl rfl rfl rfl rfl fun s17 hs17 => ?_
                    refine po_evs (T := tab) 1 rfl rfl ?_
                    refine po_nil ?_
                    refine pn_block ?_
                    refine pn_seq ?_
                    refine pw_region ?_
                    refine po_evs (T := tab) 1 rfl rfl ?_
                    refine po_arith' (T := tab) rfl rfl rfl rfl fun i19 hi19 => ?_
                    refine po_evs (T := tab) 1 rfl rfl ?_
                    refine po_nil ?_
                    exact pn_iter' (may5, i19, s17) ⟨rfl, rfl, rfl, rfl, rfl, trivial⟩ trivial rfl
        · refine pw_exit rfl ?_
          refine pn_seq ?_
          refine pw_seq ?_
          refine pw_region ?_
          refine po_evs (T := tab) 1 rfl rfl ?_
          refine po_call (enc := fun (r20 : (Bs × Int)) => .tup [.v (.string ⟨⟨r20.1⟩⟩), .v (.int .i64 r20.2)]) (qs := [.sl 13 false (l1.map cMark)]) (Tale_Put_ok fu l1) rfl rfl ⟨⟨_, rfl, .rfl⟩, trivial⟩ (fun _ => rfl) call11 rfl rfl fun r20 hr20 => ?_
          refine po_evs (T := tab) 5 rfl rfl ?_
          refine po_nil ?_
          refine pn_seq ?_
          refine pw_seq ?_
          refine pw_seq ?_
          refine pw_region ?_
          refine po_joinB (Instarlaw24_TaleRight_j2 fu s2) (fun (_ : Unit) => [(1, .v (.string ⟨⟨s2⟩⟩))]) (fun (_ : Unit) => []) ?_ fun hj2 => ?_
          · rintro _
            refine pn_seq ?_
            refine pw_seq ?_
            refine pw_region ?_
            refine po_evs (T := tab) 1 rfl rfl ?_
            refine po_call (enc := fun (r21 : ((List Mark) × Int)) => .tup [.sl 13 false (r21.1.map cMark), .v (.int .i64 r21.2)]) (qs := [.v (.string ⟨⟨s2⟩⟩)]) (Tale_Read_ok fu s2) rfl rfl ⟨⟨_, rfl, .rfl⟩, trivial⟩ (fun _ => rfl) call12 rfl rfl fun r21 hr21 => ?_
            refine po_evs (T := tab) 5 rfl rfl ?_
            refine po_nil ?_
            refine pn_seq ?_
            refine pw_seq ?_
            refine pw_region ?_
            refine po_evs (T := tab) 1 rfl rfl ?_
            refine po_call (enc := fun (r22 : ((List Mark) × Bool)) => .tup [.sl 13 false (r22.1.map cMark), .v (.bool r22.2)]) (qs := [.v (.string ⟨⟨s2⟩⟩)]) (Instarref24_Read_ok fu s2) rfl rfl ⟨⟨_, rfl, .rfl⟩, trivial⟩ (fun _ => rfl) call13 rfl rfl fun r22 hr22 => ?_
            refine po_evs (T := tab) 5 rfl rfl ?_
            refine po_nil ?_
            refine pn_seq ?_
            refine pw_seq ?_
            refine pw_region ?_
            refine po_evs (T := tab) 2 rfl rfl ?_
            refine po_call (enc := fun (r23 : Bool) => .v (.bool r23)) (qs := [.sl 13 false (r21.1.map cMark), .sl 13 false (r22.1.map cMark)]) (Instarref20_Marks_ok fu r21.1 r22.1) rfl rfl ⟨⟨_, rfl, .rfl⟩, ⟨_, rfl, .rfl⟩, trivial⟩ (fun _ => rfl) call14 rfl rfl fun r23 hr23 => ?_
            refine po_evs (T := tab) 1 rfl rfl ?_
            refine po_split (j := 119) rfl ?_ ?_
            · refine po_evs (T := tab) 6 rfl rfl ?_
              refine po_split (j := 125) rfl ?_ ?_
              · refine po_evs (T := tab) 2 rfl rfl ?_
                refine po_split (j := 127) rfl ?_ ?_
                · refine po_evs (T := tab) 5 rfl rfl ?_
                  refine po_nil ?_
                  refine pn_seq ?_
                  exact pw_retN (T := tab) rfl rfl rfl ⟨rfl, rfl⟩ trivial rfl
                · refine po_evs (T := tab) 5 rfl rfl ?_
                  refine po_nil ?_
                  refine pn_seq ?_
                  exact pw_retN (T := tab) rfl rfl rfl ⟨rfl, rfl⟩ trivial rfl
              · refine po_evs (T := tab) 7 rfl rfl ?_
                refine po_nil ?_
                refine pn_seq ?_
                exact pw_retN (T := tab) rfl rfl rfl ⟨rfl, rfl⟩ trivial rfl
            · refine po_evs (T := tab) 13 rfl rfl ?_
              refine po_nil ?_
              refine pn_seq ?_
              exact pw_retN (T := tab) rfl rfl rfl ⟨rfl, rfl⟩ trivial rfl
          · refine po_evs (T := tab) 2 rfl rfl ?_
            refine po_split (j := 85) rfl ?_ ?_
            · refine po_evs (T := tab) 3 rfl rfl ?_
              refine po_split (j := 88) rfl ?_ ?_
              · refine po_evs (T := tab) 17 rfl rfl ?_
                refine po_nil ?_
                refine pn_seq (pw_then rfl ?_)
                refine pw_seq ?_
                refine pw_region ?_
                refine po_evs (T := tab) 1 rfl rfl ?_
                refine po_nil ?_
                refine pn_seq ?_
                exact pw_retN (T := tab) rfl rfl rfl ⟨rfl, rfl⟩ trivial rfl
              · refine po_evs (T := tab) 6 rfl rfl ?_
                refine po_split (j := 94) rfl ?_ ?_
                · refine po_evs (T := tab) 11 rfl rfl ?_
                  refine po_nil ?_
                  refine pn_seq (pw_then rfl ?_)
                  refine pw_seq ?_
                  refine pw_region ?_
                  refine po_evs (T := tab) 1 rfl rfl ?_
                  refine po_nil ?_
                  refine pn_seq ?_
                  exact pw_retN (T := tab) rfl rfl rfl ⟨rfl, rfl⟩ trivial rfl
                · refine po_evs (T := tab) 3 rfl rfl ?_
                  refine po_split (j := 97) rfl ?_ ?_
                  · refine po_evs (T := tab) 3 rfl rfl ?_
                    refine po_split (j := 100) rfl ?_ ?_
                    · refine po_evs (T := tab) 5 rfl rfl ?_
                      refine po_nil ?_
                      refine pn_seq (pw_then rfl ?_)
                      refine pw_seq ?_
                      refine pw_region ?_
                      refine po_evs (T := tab) 1 rfl rfl ?_
                      refine po_nil ?_
                      refine pn_seq ?_
                      exact pw_retN (T := tab) rfl rfl rfl ⟨rfl, rfl⟩ trivial rfl
                    · refine po_evs (T := tab) 5 rfl rfl ?_
                      refine po_nil ?_
                      refine pn_seq ?_
                      refine pw_cnd rfl ?_ ?_
                      · refine pw_seq ?_
                        refine pw_region ?_
                        refine po_evs (T := tab) 1 rfl rfl ?_
                        refine po_nil ?_
                        refine pn_seq ?_
                        exact pw_retN (T := tab) rfl rfl rfl ⟨rfl, rfl⟩ trivial rfl
                      · refine pw_skip ?_
                        exact pn_sub' (hj2 ()) ⟨rfl, trivial⟩ trivial rfl
                  · refine po_evs (T := tab) 8 rfl rfl ?_
                    refine po_nil ?_
                    refine pn_seq (pw_else rfl ?_)
                    refine pw_skip ?_
                    exact pn_sub' (hj2 ()) ⟨rfl, trivial⟩ trivial rfl
            · refine po_evs (T := tab) 12 rfl rfl ?_
              refine po_split (j := 97) rfl ?_ ?_
              · refine po_evs (T := tab) 3 rfl rfl ?_
                refine po_split (j := 100) rfl ?_ ?_
                · refine po_evs (T := tab) 5 rfl rfl ?_
                  refine po_nil ?_
                  refine pn_seq (pw_then rfl ?_)
                  refine pw_seq ?_
                  refine pw_region ?_
                  refine po_evs (T := tab) 1 rfl rfl ?_
                  refine po_nil ?_
                  refine pn_seq ?_
                  exact pw_retN (T := tab) rfl rfl rfl ⟨rfl, rfl⟩ trivial rfl
                · refine po_evs (T := tab) 5 rfl rfl ?_
                  refine po_nil ?_
                  refine pn_seq ?_
                  refine pw_cnd rfl ?_ ?_
                  · refine pw_seq ?_
                    refine pw_region ?_
                    refine po_evs (T := tab) 1 rfl rfl ?_
                    refine po_nil ?_
                    refine pn_seq ?_
                    exact pw_retN (T := tab) rfl rfl rfl ⟨rfl, rfl⟩ trivial rfl
                  · refine pw_skip ?_
                    exact pn_sub' (hj2 ()) ⟨rfl, trivial⟩ trivial rfl
              · refine po_evs (T := tab) 8 rfl rfl ?_
                refine po_nil ?_
                refine pn_seq (pw_else rfl ?_)
                refine pw_skip ?_
                exact pn_sub' (hj2 ()) ⟨rfl, trivial⟩ trivial rfl

def Instarlaw24_TaleBack_j1 (r6 : (Bs × Int)) (r7 : (Bs × Int)) (x_ : Unit) : Option Bool := cnd (r6.2 == 0) (cnd (r7.2 == 0) (some true) (cnd (r7.2 == 1) (some (r7.1 == ([] : Bs))) (some false))) (cnd (r6.2 == 1) (cnd (r6.1 == ([] : Bs)) (cnd (r7.2 == 0) (some true) (cnd (r7.2 == 1) (some (r7.1 == ([] : Bs))) (some false))) (some false)) (some false))

def Instarlaw24_TaleBack_m (fu : Nat) (l1 : (List Mark)) (m2 : (List Mark)) : Option Bool := bnd (Instarlaw24_awake_m fu) fun r3 => cnd (!r3) (some false) (bnd (Instarlaw24_short_m fu l1) fun r4 => cnd (!r4) (some true) (bnd (Instarlaw24_short_m fu m2) fun r5 => cnd (!r5) (some true) (bnd (Tale_Put_m fu l1) fun r6 => bnd (Tale_Put_m fu m2) fun r7 => cnd (r6.2 != 0) ((Instarlaw24_TaleBack_j1 r6 r7) ()) (cnd (r7.2 != 0) ((Instarlaw24_TaleBack_j1 r6 r7) ()) (bnd (Tale_Read_m fu r6.1) fun r8 => bnd (cat r6.1 r7.1) fun s9 => bnd (Tale_Read_m fu s9) fun r10 => cnd (r8.2 == 0) (cnd (r10.2 == 0) (bnd (Instarref20_Marks_m fu r8.1 l1) fun r11 => cnd r11 (bnd (roomy 120 (([] : List Mark).length + l1.length)) fun _ => bnd (roomy 120 ((([] : List Mark) ++ l1).length + m2.length)) fun _ => bnd (Instarref20_Marks_m fu r10.1 ((([] : List Mark) ++ l1) ++ m2)) fun r12 => some r12) (some false)) (some false)) (some false))))))

set_option maxHeartbeats 10000000 in
set_option maxRecDepth 100000 in
theorem Instarlaw24_TaleBack_ok (fu : Nat) (l1 : (List Mark)) (m2 : (List Mark)) : ∀ r, Instarlaw24_TaleBack_m fu l1 m2 = some r → DC laidL Tryd.prog 4 [.sl 13 false (l1.map cMark), .sl 13 false (m2.map cMark)] (.v (.bool r)) := by
  intro r hr
  refine fc_intro (args := [.sl 13 false (l1.map cMark), .sl 13 false (m2.map cMark)]) (S := []) (N0 := []) (post := fun r p S => p = .v (.bool r) ∧ S = []) Tryd.func4 rfl rfl hr fun w0 X X0 σ0 _ => ?_
  refine pw_seq ?_
  refine pw_region ?_
  refine po_evs (T := tab) 1 rfl rfl ?_
  refine po_nil ?_
  refine pn_seq ?_
  refine pw_seq ?_
  refine pw_seq ?_
  refine pw_region ?_
  refine po_call (enc := fun (r3 : Bool) => .v (.bool r3)) (qs := []) (Instarlaw24_awake_ok fu) rfl rfl trivial (fun _ => rfl) call7 rfl rfl fun r3 hr3 => ?_
  refine po_evs (T := tab) 1 rfl rfl ?_
  refine po_nil ?_
  refine pn_seq ?_
  refine pw_cnd rfl ?_ ?_
  · refine pw_seq ?_
    refine pw_region ?_
    refine po_evs (T := tab) 1 rfl rfl ?_
    refine po_nil ?_
    refine pn_seq ?_
    exact pw_retN (T := tab) rfl rfl rfl ⟨rfl, rfl⟩ trivial rfl
  · refine pw_skip ?_
    refine pn_seq ?_
    refine pw_seq ?_
    refine pw_seq ?_
    refine pw_region ?_
    refine po_evs (T := tab) 1 rfl rfl ?_
    refine po_call (enc := fun (r4 : Bool) => .v (.bool r4)) (qs := [.sl 13 false (l1.map cMark)]) (Instarlaw24_short_ok fu l1) rfl rfl ⟨⟨_, rfl, .rfl⟩, trivial⟩ (fun _ => rfl) call8 rfl rfl fun r4 hr4 => ?_
    refine po_evs (T := tab) 2 rfl rfl ?_
    refine po_split (j := 18) rfl ?_ ?_
    · refine po_evs (T := tab) 4 rfl rfl ?_
      refine po_nil ?_
      refine pn_seq (pw_then rfl ?_)
      refine pw_seq ?_
      refine pw_region ?_
      refine po_evs (T := tab) 1 rfl rfl ?_
      refine po_nil ?_
      refine pn_seq ?_
      exact pw_retN (T := tab) rfl rfl rfl ⟨rfl, rfl⟩ trivial rfl
    · refine po_evs (T := tab) 1 rfl rfl ?_
      refine po_call (enc := fun (r5 : Bool) => .v (.bool r5)) (qs := [.sl 13 false (m2.map cMark)]) (Instarlaw24_short_ok fu m2) rfl rfl ⟨⟨_, rfl, .rfl⟩, trivial⟩ (fun _ => rfl) call8 rfl rfl fun r5 hr5 => ?_
      refine po_evs (T := tab) 2 rfl rfl ?_
      refine po_nil ?_
      refine pn_seq ?_
      refine pw_cnd rfl ?_ ?_
      · refine pw_seq ?_
        refine pw_region ?_
        refine po_evs (T := tab) 1 rfl rfl ?_
        refine po_nil ?_
        refine pn_seq ?_
        exact pw_retN (T := tab) rfl rfl rfl ⟨rfl, rfl⟩ trivial rfl
      · refine pw_skip ?_
        refine pn_seq ?_
        refine pw_seq ?_
        refine pw_region ?_
        refine po_evs (T := tab) 1 rfl rfl ?_
        refine po_call (enc := fun (r6 : (Bs × Int)) => .tup [.v (.string ⟨⟨r6.1⟩⟩), .v (.int .i64 r6.2)]) (qs := [.sl 13 false (l1.map cMark)]) (Tale_Put_ok fu l1) rfl rfl ⟨⟨_, rfl, .rfl⟩, trivial⟩ (fun _ => rfl) call11 rfl rfl fun r6 hr6 => ?_
        refine po_evs (T := tab) 5 rfl rfl ?_
        refine po_nil ?_
        refine pn_seq ?_
        refine pw_seq ?_
        refine pw_region ?_
        refine po_evs (T := tab) 1 rfl rfl ?_
        refine po_call (enc := fun (r7 : (Bs × Int)) => .tup [.v (.string ⟨⟨r7.1⟩⟩), .v (.int .i64 r7.2)]) (qs := [.sl 13 false (m2.map cMark)]) (Tale_Put_ok fu m2) rfl rfl ⟨⟨_, rfl, .rfl⟩, trivial⟩ (fun _ => rfl) call11 rfl rfl fun r7 hr7 => ?_
        refine po_evs (T := tab) 5 rfl rfl ?_
        refine po_nil ?_
        refine pn_seq ?_
        refine pw_seq ?_
        refine pw_seq ?_
        refine pw_region ?_
        refine po_joinX (Instarlaw24_TaleBack_j1 r6 r7) (fun (_ : Unit) => [(5, .v (.string ⟨⟨r6.1⟩⟩)), (6, .v (.int .i64 r6.2)), (7, .v (.string ⟨⟨r7.1⟩⟩)), (8, .v (.int .i64 r7.2))]) (fun (_ : Unit) => []) ?_ fun hj1 => ?_
        · rintro _
          refine pw_seq ?_
          refine pw_region ?_
          refine po_evs (T := tab) 3 rfl rfl ?_
          refine po_split (j := 41) rfl ?_ ?_
          · refine po_evs (T := tab) 11 rfl rfl ?_
            refine po_split (j := 52) rfl ?_ ?_
            · refine po_evs (T := tab) 9 rfl rfl ?_
              refine po_nil ?_
              refine pn_seq ?_
              exact pw_retN (T := tab) rfl rfl rfl ⟨rfl, rfl⟩ trivial rfl
            · refine po_evs (T := tab) 3 rfl rfl ?_
              refine po_split (j := 55) rfl ?_ ?_
              · refine po_evs (T := tab) 6 rfl rfl ?_
                refine po_nil ?_
                refine pn_seq ?_
                exact pw_retN (T := tab) rfl rfl rfl ⟨rfl, rfl⟩ trivial rfl
              · refine po_evs (T := tab) 6 rfl rfl ?_
                refine po_nil ?_
                refine pn_seq ?_
                exact pw_retN (T := tab) rfl rfl rfl ⟨rfl, rfl⟩ trivial rfl
          · refine po_evs (T := tab) 3 rfl rfl ?_
            refine po_split (j := 44) rfl ?_ ?_
            · refine po_evs (T := tab) 5 rfl rfl ?_
              refine po_split (j := 49) rfl ?_ ?_
              · refine po_evs (T := tab) 3 rfl rfl ?_
                refine po_split (j := 52) rfl ?_ ?_
                · refine po_evs (T := tab) 9 rfl rfl ?_
                  refine po_nil ?_
                  refine pn_seq ?_
                  exact pw_retN (T := tab) rfl rfl rfl ⟨rfl, rfl⟩ trivial rfl
                · refine po_evs (T := tab) 3 rfl rfl ?_
                  refine po_split (j := 55) rfl ?_ ?_
                  · refine po_evs (T := tab) 6 rfl rfl ?_
                    refine po_nil ?_
                    refine pn_seq ?_
                    exact pw_retN (T := tab) rfl rfl rfl ⟨rfl, rfl⟩ trivial rfl
                  · refine po_evs (T := tab) 6 rfl rfl ?_
                    refine po_nil ?_
                    refine pn_seq ?_
                    exact pw_retN (T := tab) rfl rfl rfl ⟨rfl, rfl⟩ trivial rfl
              · refine po_evs (T := tab) 12 rfl rfl ?_
                refine po_nil ?_
                refine pn_seq ?_
                exact pw_retN (T := tab) rfl rfl rfl ⟨rfl, rfl⟩ trivial rfl
            · refine po_evs (T := tab) 17 rfl rfl ?_
              refine po_nil ?_
              refine pn_seq ?_
              exact pw_retN (T := tab) rfl rfl rfl ⟨rfl, rfl⟩ trivial rfl
        · refine po_evs (T := tab) 3 rfl rfl ?_
          refine po_split (j := 35) rfl ?_ ?_
          · refine po_evs (T := tab) 3 rfl rfl ?_
            refine po_nil ?_
            refine pn_seq (pw_then rfl ?_)
            exact pw_sub' (hj1 ()) ⟨rfl, rfl, rfl, rfl, trivial⟩ trivial rfl
          · refine po_evs (T := tab) 3 rfl rfl ?_
            refine po_nil ?_
            refine pn_seq ?_
            refine pw_cnd rfl ?_ ?_
            · exact pw_sub' (hj1 ()) ⟨rfl, rfl, rfl, rfl, trivial⟩ trivial rfl
            · refine pw_skip ?_
              refine pn_seq ?_
              refine pw_seq ?_
              refine pw_region ?_
              refine po_evs (T := tab) 1 rfl rfl ?_
              refine po_call (enc := fun (r8 : ((List Mark) × Int)) => .tup [.sl 13 false (r8.1.map cMark), .v (.int .i64 r8.2)]) (qs := [.v (.string ⟨⟨r6.1⟩⟩)]) (Tale_Read_ok fu r6.1) rfl rfl ⟨⟨_, rfl, .rfl⟩, trivial⟩ (fun _ => rfl) call12 rfl rfl fun r8 hr8 => ?_
              refine po_evs (T := tab) 5 rfl rfl ?_
              refine po_nil ?_
              refine pn_seq ?_
              refine pw_seq ?_
              refine pw_region ?_
              refine po_evs (T := tab) 2 rfl rfl ?_
              refine po_cat rfl rfl rfl rfl rfl rfl fun s9 hs9 => ?_
              refine po_call (enc := fun (r10 : ((List Mark) × Int)) => .tup [.sl 13 false (r10.1.map cMark), .v (.int .i64 r10.2)]) (qs := [.v (.string ⟨⟨s9⟩⟩)]) (Tale_Read_ok fu s9) rfl rfl ⟨⟨_, rfl, .rfl⟩, trivial⟩ (fun _ => rfl) call12 rfl rfl fun r10 hr10 => ?_
              refine po_evs (T := tab) 5 rfl rfl ?_
              refine po_nil ?_
              refine pn_seq ?_
              refine pw_seq ?_
              refine pw_region ?_
              refine po_evs (T := tab) 3 rfl rfl ?_
              refine po_split (j := 75) rfl ?_ ?_
              · refine po_evs (T := tab) 4 rfl rfl ?_
                refine po_split (j := 79) rfl ?_ ?_
                · refine po_evs (T := tab) 2 rfl rfl ?_
                  refine po_call (enc := fun (r11 : Bool) => .v (.bool r11)) (qs := [.sl 13 false (r8.1.map cMark), .sl 13 false (l1.map cMark)]) (Instarref20_Marks_ok fu r8.1 l1) rfl rfl ⟨⟨_, rfl, .rfl⟩, ⟨_, rfl, .rfl⟩, trivial⟩ (fun _ => rfl) call14 rfl rfl fun r11 hr11 => ?_
                  refine po_evs (T := tab) 2 rfl rfl ?_
                  refine po_split (j := 84) rfl ?_ ?_
                  · refine po_evs (T := tab) 1 rfl rfl ?_
                    refine po_lit (T := tab) (rows := ([] : List Mark).map cMark) 86 rfl rfl rfl rfl rfl rfl rfl rfl rfl rfl rfl rfl rfl rfl ?_
                    refine po_evs (T := tab) 1 rfl rfl ?_
                    refine po_append (T := tab) cMark ([] : List Mark) l1 rfl rfl rfl rfl rfl rfl rfl rfl rfl rfl rfl rfl rfl rfl (cMark_one _) rfl rfl rfl rfl rfl ?_
                    refine po_evs (T := tab) 1 rfl rfl ?_
                    refine po_append (T := tab) cMark (([] : List Mark) ++ l1) m2 rfl rfl rfl rfl rfl rfl rfl rfl rfl rfl rfl rfl rfl rfl (cMark_one _) rfl rfl rfl rfl rfl ?_
                    refine po_freeze 86 rfl rfl rfl ?_
                    refine po_call (enc := fun (r12 : Bool) => .v (.bool r12)) (qs := [.sl 13 false (r10.1.map cMark), .sl 13 false (((([] : List Mark) ++ l1) ++ m2).map cMark)]) (Instarref20_Marks_ok fu r10.1 ((([] : List Mark) ++ l1) ++ m2)) rfl rfl ⟨⟨_, rfl, .rfl⟩, ⟨_, rfl, .rfl⟩, trivial⟩ (fun _ => rfl) call14 rfl rfl fun r12 hr12 => ?_
                    refine po_evs (T := tab) 2 rfl rfl ?_
                    refine po_nil ?_
                    refine pn_seq ?_
                    exact pw_retN (T := tab) rfl rfl rfl ⟨rfl, rfl⟩ trivial rfl
                  · refine po_evs (T := tab) 9 rfl rfl ?_
                    refine po_nil ?_
                    refine pn_seq ?_
                    exact pw_retN (T := tab) rfl rfl rfl ⟨rfl, rfl⟩ trivial rfl
                · refine po_evs (T := tab) 14 rfl rfl ?_
                  refine po_nil ?_
                  refine pn_seq ?_
                  exact pw_retN (T := tab) rfl rfl rfl ⟨rfl, rfl⟩ trivial rfl
              · refine po_evs (T := tab) 18 rfl rfl ?_
                refine po_nil ?_
                refine pn_seq ?_
                exact pw_retN (T := tab) rfl rfl rfl ⟨rfl, rfl⟩ trivial rfl

def Instarlaw24_TaleReads_m (fu : Nat) (s1 : Bs) : Option Bool := bnd (Instarlaw24_awake_m fu) fun r2 => cnd (!r2) (some false) (cnd (decide (((s1.length : Nat) : Int) > 8000)) (some true) (bnd (Tale_Read_m fu s1) fun r3 => cnd (r3.2 != 0) (cnd (r3.2 == 2) (some (((r3.1.length : Nat) : Int) == 0)) (some false)) (bnd (Tale_Put_m fu r3.1) fun r4 => cnd (r4.2 != 0) (some false) (cnd (!(r4.1 == s1)) (some false) (bnd (cat s1 ([10] : Bs)) fun s5 => bnd (Tale_Read_m fu s5) fun r6 => cnd (((s1.length : Nat) : Int) == 0) (cnd (r6.2 == 2) (some (((r3.1.length : Nat) : Int) == 0)) (some false)) (bnd (rng .i64 (((s1.length : Nat) : Int) - 1)) fun i7 => bnd (piece s1 0 i7) fun s8 => bnd (Tale_Read_m fu s8) fun r9 => cnd (r6.2 == 2) (some (r9.2 == 2)) (some false)))))))

set_option maxHeartbeats 10000000 in
set_option maxRecDepth 100000 in
theorem Instarlaw24_TaleReads_ok (fu : Nat) (s1 : Bs) : ∀ r, Instarlaw24_TaleReads_m fu s1 = some r → DC laidL Tryd.prog 5 [.v (.string ⟨⟨s1⟩⟩)] (.v (.bool r)) := by
  intro r hr
  refine fc_intro (args := [.v (.string ⟨⟨s1⟩⟩)]) (S := []) (N0 := []) (post := fun r p S => p = .v (.bool r) ∧ S = []) Tryd.func5 rfl rfl hr fun w0 X X0 σ0 _ => ?_
  refine pw_seq ?_
  refine pw_region ?_
  refine po_evs (T := tab) 1 rfl rfl ?_
  refine po_nil ?_
  refine pn_seq ?_
  refine pw_seq ?_
  refine pw_seq ?_
  refine pw_region ?_
  refine po_call (enc := fun (r2 : Bool) => .v (.bool r2)) (qs := []) (Instarlaw24_awake_ok fu) rfl rfl trivial (fun _ => rfl) call7 rfl rfl fun r2 hr2 => ?_
  refine po_evs (T := tab) 1 rfl rfl ?_
  refine po_nil ?_
  refine pn_seq ?_
  refine pw_cnd rfl ?_ ?_
  · refine pw_seq ?_
    refine pw_region ?_
    refine po_evs (T := tab) 1 rfl rfl ?_
    refine po_nil ?_
    refine pn_seq ?_
    exact pw_retN (T := tab) rfl rfl rfl ⟨rfl, rfl⟩ trivial rfl
  · refine pw_skip ?_
    refine pn_seq ?_
    refine pw_seq ?_
    refine pw_seq ?_
    refine pw_region ?_
    refine po_evs (T := tab) 3 rfl rfl ?_
    refine po_nil ?_
    refine pn_seq ?_
    refine pw_cnd rfl ?_ ?_
    · refine pw_seq ?_
      refine pw_region ?_
      refine po_evs (T := tab) 1 rfl rfl ?_
      refine po_nil ?_
      refine pn_seq ?_
      exact pw_retN (T := tab) rfl rfl rfl ⟨rfl, rfl⟩ trivial rfl
    · refine pw_skip ?_
      refine pn_seq ?_
      refine pw_seq ?_
      refine pw_region ?_
      refine po_evs (T := tab) 1 rfl rfl ?_
      refine po_call (enc := fun (r3 : ((List Mark) × Int)) => .tup [.sl 13 false (r3.1.map cMark), .v (.int .i64 r3.2)]) (qs := [.v (.string ⟨⟨s1⟩⟩)]) (Tale_Read_ok fu s1) rfl rfl ⟨⟨_, rfl, .rfl⟩, trivial⟩ (fun _ => rfl) call12 rfl rfl fun r3 hr3 => ?_
      refine po_evs (T := tab) 5 rfl rfl ?_
      refine po_nil ?_
      refine pn_seq ?_
      refine pw_seq ?_
      refine pw_seq ?_
      refine pw_region ?_
      refine po_evs (T := tab) 2 rfl rfl ?_
      refine po_nil ?_
      refine pn_seq ?_
      refine pw_cnd rfl ?_ ?_
      · refine pw_seq ?_
        refine pw_region ?_
        refine po_evs (T := tab) 3 rfl rfl ?_
        refine po_split (j := 25) rfl ?_ ?_
        · refine po_evs (T := tab) 1 rfl rfl ?_
          refine po_len (T := tab) cMark r3.1 rfl rfl rfl rfl rfl rfl rfl rfl ?_
          refine po_evs (T := tab) 3 rfl rfl ?_
          refine po_nil ?_
          refine pn_seq ?_
          exact pw_retN (T := tab) rfl rfl rfl ⟨rfl, rfl⟩ trivial rfl
        · refine po_evs (T := tab) 5 rfl rfl ?_
          refine po_nil ?_
          refine pn_seq ?_
          exact pw_retN (T := tab) rfl rfl rfl ⟨rfl, rfl⟩ trivial rfl
      · refine pw_skip ?_
        refine pn_seq ?_
        refine pw_seq ?_
        refine pw_region ?_
        refine po_evs (T := tab) 1 rfl rfl ?_
        refine po_call (enc := fun (r4 : (Bs × Int)) => .tup [.v (.string ⟨⟨r4.1⟩⟩), .v (.int .i64 r4.2)]) (qs := [.sl 13 false (r3.1.map cMark)]) (Tale_Put_ok fu r3.1) rfl rfl ⟨⟨_, rfl, .rfl⟩, trivial⟩ (fun _ => rfl) call11 rfl rfl fun r4 hr4 => ?_
        refine po_evs (T := tab) 5 rfl rfl ?_
        refine po_nil ?_
        refine pn_seq ?_
        refine pw_seq ?_
        refine pw_seq ?_
        refine pw_region ?_
        refine po_evs (T := tab) 3 rfl rfl ?_
        refine po_split (j := 37) rfl ?_ ?_
        · refine po_evs (T := tab) 4 rfl rfl ?_
          refine po_nil ?_
          refine pn_seq (pw_then rfl ?_)
          refine pw_seq ?_
          refine pw_region ?_
          refine po_evs (T := tab) 1 rfl rfl ?_
          refine po_nil ?_
          refine pn_seq ?_
          exact pw_retN (T := tab) rfl rfl rfl ⟨rfl, rfl⟩ trivial rfl
        · refine po_evs (T := tab) 4 rfl rfl ?_
          refine po_nil ?_
          refine pn_seq ?_
          refine pw_cnd rfl ?_ ?_
          · refine pw_seq ?_
            refine pw_region ?_
            refine po_evs (T := tab) 1 rfl rfl ?_
            refine po_nil ?_
            refine pn_seq ?_
            exact pw_retN (T := tab) rfl rfl rfl ⟨rfl, rfl⟩ trivial rfl
          · refine pw_skip ?_
            refine pn_seq ?_
            refine pw_seq ?_
            refine pw_region ?_
            refine po_evs (T := tab) 1 rfl rfl ?_
            refine po_cat rfl rfl rfl rfl rfl rfl fun s5 hs5 => ?_
            refine po_call (enc := fun (r6 : ((List Mark) × Int)) => .tup [.sl 13 false (r6.1.map cMark), .v (.int .i64 r6.2)]) (qs := [.v (.string ⟨⟨s5⟩⟩)]) (Tale_Read_ok fu s5) rfl rfl ⟨⟨_, rfl, .rfl⟩, trivial⟩ (fun _ => rfl) call12 rfl rfl fun r6 hr6 => ?_
            refine po_evs (T := tab) 5 rfl rfl ?_
            refine po_nil ?_
            refine pn_seq ?_
            refine pw_seq ?_
            refine pw_seq ?_
            refine pw_region ?_
            refine po_evs (T := tab) 3 rfl rfl ?_
            refine po_nil ?_
            refine pn_seq ?_
            refine pw_cnd rfl ?_ ?_
            · refine pw_seq ?_
              refine pw_region ?_
              refine po_evs (T := tab) 3 rfl rfl ?_
              refine po_split (j := 53) rfl ?_ ?_
              · refine po_evs (T := tab) 1 rfl rfl ?_
                refine po_len (T := tab) cMark r3.1 rfl rfl rfl rfl rfl rfl rfl rfl ?_
                refine po_evs (T := tab) 3 rfl rfl ?_
                refine po_nil ?_
                refine pn_seq ?_
                exact pw_retN (T := tab) rfl rfl rfl ⟨rfl, rfl⟩ trivial rfl
              · refine po_evs (T := tab) 5 rfl rfl ?_
                refine po_nil ?_
                refine pn_seq ?_
                exact pw_retN (T := tab) rfl rfl rfl ⟨rfl, rfl⟩ trivial rfl
            · refine pw_skip ?_
              refine pn_seq ?_
              refine pw_seq ?_
              refine pw_region ?_
              refine po_evs (T := tab) 3 rfl rfl ?_
              refine po_arith' (T := tab) rfl rfl rfl rfl fun i7 hi7 => ?_
              refine po_sub (T := tab) rfl rfl rfl rfl rfl rfl rfl rfl fun s8 hs8 => ?_
              refine po_call (enc := fun (r9 : ((List Mark) × Int)) => .tup [.sl 13 false (r9.1.map cMark), .v (.int .i64 r9.2)]) (qs := [.v (.string ⟨⟨s8⟩⟩)]) (Tale_Read_ok fu s8) rfl rfl ⟨⟨_, rfl, .rfl⟩, trivial⟩ (fun _ => rfl) call12 rfl rfl fun r9 hr9 => ?_
              refine po_evs (T := tab) 5 rfl rfl ?_
              refine po_nil ?_
              refine pn_seq ?_
              refine pw_seq ?_
              refine pw_region ?_
              refine po_evs (T := tab) 3 rfl rfl ?_
              refine po_split (j := 69) rfl ?_ ?_
              · refine po_evs (T := tab) 4 rfl rfl ?_
                refine po_nil ?_
                refine pn_seq ?_
                exact pw_retN (T := tab) rfl rfl rfl ⟨rfl, rfl⟩ trivial rfl
              · refine po_evs (T := tab) 4 rfl rfl ?_
                refine po_nil ?_
                refine pn_seq ?_
                exact pw_retN (T := tab) rfl rfl rfl ⟨rfl, rfl⟩ trivial rfl

def Instarlaw24_TaleOne_j1 (a1 : Mark) (b2 : Mark) (r5 : (Bs × Int)) (r6 : (Bs × Int)) (x_ : Unit) : Option Bool := cnd (decide (a1.Kind ≥ 1)) (cnd ((r5.2 == 0) == (decide (a1.Kind ≤ 10))) (cnd (decide (b2.Kind ≥ 1)) (some ((r6.2 == 0) == (decide (b2.Kind ≤ 10)))) (some ((r6.2 == 0) == false))) (some false)) (cnd ((r5.2 == 0) == false) (cnd (decide (b2.Kind ≥ 1)) (some ((r6.2 == 0) == (decide (b2.Kind ≤ 10)))) (some ((r6.2 == 0) == false))) (some false))

def Instarlaw24_TaleOne_l1 (fu : Nat) (a1 : Mark) (b2 : Mark) (r5 : (Bs × Int)) (r6 : (Bs × Int)) : Nat → Int → Option Bool
  | 0, _ => none
  | k1 + 1, i7 => cnd (decide (i7 < ((r5.1.length : Nat) : Int))) (bnd (chr r5.1 i7) fun b8 => cnd (b8 == 10) (some false) (bnd (rng .i64 (i7 + 1)) fun i9 => (Instarlaw24_TaleOne_l1 fu a1 b2 r5 r6 k1) i9)) (bnd (Tale_Put_m fu [a1, b2]) fun r10 => cnd ((r5.1 == r6.1) == (eqMark a1 b2)) (cnd (r10.2 == 0) (bnd (cat r5.1 ([10] : Bs)) fun s11 => bnd (cat s11 r6.1) fun s12 => bnd (cat s12 ([10] : Bs)) fun s13 => some (r10.1 == s13)) (some false)) (some false))

def Instarlaw24_TaleOne_m (fu : Nat) (a1 : Mark) (b2 : Mark) : Option Bool := bnd (Instarlaw24_awake_m fu) fun r3 => cnd (!r3) (some false) (bnd (Instarlaw24_short_m fu [a1, b2]) fun r4 => cnd (!r4) (some true) (bnd (Tale_One_m fu a1) fun r5 => bnd (Tale_One_m fu b2) fun r6 => cnd (r5.2 != 0) ((Instarlaw24_TaleOne_j1 a1 b2 r5 r6) ()) (cnd (r6.2 != 0) ((Instarlaw24_TaleOne_j1 a1 b2 r5 r6) ()) ((Instarlaw24_TaleOne_l1 fu a1 b2 r5 r6) fu 0))))

set_option maxHeartbeats 10000000 in
set_option maxRecDepth 100000 in
theorem Instarlaw24_TaleOne_ok (fu : Nat) (a1 : Mark) (b2 : Mark) : ∀ r, Instarlaw24_TaleOne_m fu a1 b2 = some r → DC laidL Tryd.prog 6 [.agg (cMark a1), .agg (cMark b2)] (.v (.bool r)) := by
  intro r hr
  refine fc_intro (args := [.agg (cMark a1), .agg (cMark b2)]) (S := []) (N0 := []) (post := fun r p S => p = .v (.bool r) ∧ S = []) Tryd.func6 rfl rfl hr fun w0 X X0 σ0 _ => ?_
  refine pw_seq ?_
  refine pw_region ?_
  refine po_box  2 rfl rfl rfl rfl rfl rfl rfl rfl rfl rfl ?_
  refine po_box  3 rfl rfl rfl rfl rfl rfl rfl rfl rfl rfl ?_
  refine po_evs (T := tab) 1 rfl rfl ?_
  refine po_nil ?_
  refine pn_seq ?_
  refine pw_seq ?_
  refine pw_seq ?_
  refine pw_region ?_
  refine po_call (enc := fun (r3 : Bool) => .v (.bool r3)) (qs := []) (Instarlaw24_awake_ok fu) rfl rfl trivial (fun _ => rfl) call7 rfl rfl fun r3 hr3 => ?_
  refine po_evs (T := tab) 1 rfl rfl ?_
  refine po_nil ?_
  refine pn_seq ?_
  refine pw_cnd rfl ?_ ?_
  · refine pw_seq ?_
    refine pw_region ?_
    refine po_evs (T := tab) 1 rfl rfl ?_
    refine po_nil ?_
    refine pn_seq ?_
    exact pw_retN (T := tab) rfl rfl rfl ⟨rfl, rfl⟩ trivial rfl
  · refine pw_skip ?_
    refine pn_seq ?_
    refine pw_seq ?_
    refine pw_seq ?_
    refine pw_region ?_
    refine po_evs (T := tab) 2 rfl rfl ?_
    refine po_lit (T := tab) (rows := [a1, b2].map cMark) 16 rfl rfl rfl rfl rfl rfl rfl rfl rfl rfl rfl rfl rfl rfl ?_
    refine po_freeze 16 rfl rfl rfl ?_
    refine po_call (enc := fun (r4 : Bool) => .v (.bool r4)) (qs := [.sl 13 false ([a1, b2].map cMark)]) (Instarlaw24_short_ok fu [a1, b2]) rfl rfl ⟨⟨_, rfl, .rfl⟩, trivial⟩ (fun _ => rfl) call8 rfl rfl fun r4 hr4 => ?_
    refine po_evs (T := tab) 1 rfl rfl ?_
    refine po_nil ?_
    refine pn_seq ?_
    refine pw_cnd rfl ?_ ?_
    · refine pw_seq ?_
      refine pw_region ?_
      refine po_evs (T := tab) 1 rfl rfl ?_
      refine po_nil ?_
      refine pn_seq ?_
      exact pw_retN (T := tab) rfl rfl rfl ⟨rfl, rfl⟩ trivial rfl
    · refine pw_skip ?_
      refine pn_seq ?_
      refine pw_seq ?_
      refine pw_region ?_
      refine po_evs (T := tab) 1 rfl rfl ?_
      refine po_call (enc := fun (r5 : (Bs × Int)) => .tup [.v (.string ⟨⟨r5.1⟩⟩), .v (.int .i64 r5.2)]) (qs := [.agg (cMark a1)]) (Tale_One_ok fu a1) rfl rfl ⟨⟨_, rfl, .rfl⟩, trivial⟩ (fun _ => rfl) call9 rfl rfl fun r5 hr5 => ?_
      refine po_evs (T := tab) 5 rfl rfl ?_
      refine po_nil ?_
      refine pn_seq ?_
      refine pw_seq ?_
      refine pw_region ?_
      refine po_evs (T := tab) 1 rfl rfl ?_
      refine po_call (enc := fun (r6 : (Bs × Int)) => .tup [.v (.string ⟨⟨r6.1⟩⟩), .v (.int .i64 r6.2)]) (qs := [.agg (cMark b2)]) (Tale_One_ok fu b2) rfl rfl ⟨⟨_, rfl, .rfl⟩, trivial⟩ (fun _ => rfl) call9 rfl rfl fun r6 hr6 => ?_
      refine po_evs (T := tab) 5 rfl rfl ?_
      refine po_nil ?_
      refine pn_seq ?_
      refine pw_seq ?_
      refine pw_seq ?_
      refine pw_region ?_
      refine po_joinX (Instarlaw24_TaleOne_j1 a1 b2 r5 r6) (fun (_ : Unit) => [(2, .loc 2 0), (3, .loc 3 0), (6, .v (.int .i64 r5.2)), (8, .v (.int .i64 r6.2))]) (fun (_ : Unit) => [(3, .box 29 [.v (.int .i64 b2.Kind), .v (.int .i64 b2.Depth), .v (.int .i64 b2.Node), .v (.int .i64 b2.What), .v (.int .i64 b2.Err), .v (.string ⟨⟨b2.Name⟩⟩), .v (.bool b2.Had), .v (.bool b2.Has), .v (.string ⟨⟨b2.Old⟩⟩), .v (.string ⟨⟨b2.New⟩⟩), .v (.int .i64 b2.From), .v (.int .i64 b2.To), .v (.bool b2.On)]), (2, .box 29 [.v (.int .i64 a1.Kind), .v (.int .i64 a1.Depth), .v (.int .i64 a1.Node), .v (.int .i64 a1.What), .v (.int .i64 a1.Err), .v (.string ⟨⟨a1.Name⟩⟩), .v (.bool a1.Had), .v (.bool a1.Has), .v (.string ⟨⟨a1.Old⟩⟩), .v (.string ⟨⟨a1.New⟩⟩), .v (.int .i64 a1.From), .v (.int .i64 a1.To), .v (.bool a1.On)])]) ?_ fun hj1 => ?_
      · rintro _
        refine pw_seq ?_
        refine pw_region ?_
        refine po_evs (T := tab) 6 rfl rfl ?_
        refine po_split (j := 40) rfl ?_ ?_
        · refine po_evs (T := tab) 6 rfl rfl ?_
          refine po_split (j := 46) rfl ?_ ?_
          · refine po_evs (T := tab) 6 rfl rfl ?_
            refine po_split (j := 52) rfl ?_ ?_
            · refine po_evs (T := tab) 7 rfl rfl ?_
              refine po_nil ?_
              refine pn_seq ?_
              exact pw_retN (T := tab) rfl rfl rfl ⟨rfl, rfl⟩ trivial rfl
            · refine po_evs (T := tab) 7 rfl rfl ?_
              refine po_nil ?_
              refine pn_seq ?_
              exact pw_retN (T := tab) rfl rfl rfl ⟨rfl, rfl⟩ trivial rfl
          · refine po_evs (T := tab) 13 rfl rfl ?_
            refine po_nil ?_
            refine pn_seq ?_
            exact pw_retN (T := tab) rfl rfl rfl ⟨rfl, rfl⟩ trivial rfl
        · refine po_evs (T := tab) 6 rfl rfl ?_
          refine po_split (j := 46) rfl ?_ ?_
          · refine po_evs (T := tab) 6 rfl rfl ?_
            refine po_split (j := 52) rfl ?_ ?_
            · refine po_evs (T := tab) 7 rfl rfl ?_
              refine po_nil ?_
              refine pn_seq ?_
              exact pw_retN (T := tab) rfl rfl rfl ⟨rfl, rfl⟩ trivial rfl
            · refine po_evs (T := tab) 7 rfl rfl ?_
              refine po_nil ?_
              refine pn_seq ?_
              exact pw_retN (T := tab) rfl rfl rfl ⟨rfl, rfl⟩ trivial rfl
          · refine po_evs (T := tab) 13 rfl rfl ?_
            refine po_nil ?_
            refine pn_seq ?_
            exact pw_retN (T := tab) rfl rfl rfl ⟨rfl, rfl⟩ trivial rfl
      · refine po_evs (T := tab) 3 rfl rfl ?_
        refine po_split (j := 31) rfl ?_ ?_
        · refine po_evs (T := tab) 3 rfl rfl ?_
          refine po_nil ?_
          refine pn_seq (pw_then rfl ?_)
          exact pw_sub' (hj1 ()) ⟨rfl, rfl, rfl, rfl, trivial⟩ ⟨rfl, rfl, trivial⟩ rfl
        · refine po_evs (T := tab) 3 rfl rfl ?_
          refine po_nil ?_
          refine pn_seq ?_
          refine pw_cnd rfl ?_ ?_
          · exact pw_sub' (hj1 ()) ⟨rfl, rfl, rfl, rfl, trivial⟩ ⟨rfl, rfl, trivial⟩ rfl
          · refine pw_skip ?_
            refine pn_seq ?_
            refine pw_seq ?_
            refine pw_seq ?_
            refine pw_region ?_
            refine po_evs (T := tab) 1 rfl rfl ?_
            refine po_nil ?_
            refine pn_seq ?_
            refine pw_block ?_
            refine pw_loop' (Instarlaw24_TaleOne_l1 fu a1 b2 r5 r6) (fun (i7 : Int) => [(2, .loc 2 0), (3, .loc 3 0), (5, .v (.string ⟨⟨r5.1⟩⟩)), (7, .v (.string ⟨⟨r6.1⟩⟩)), (9, .v (.int .i64 i7))]) (fun (i7 : Int) => [(3, .box 29 [.v (.int .i64 b2.Kind), .v (.int .i64 b2.Depth), .v (.int .i64 b2.Node), .v (.int .i64 b2.What), .v (.int .i64 b2.Err), .v (.string ⟨⟨b2.Name⟩⟩), .v (.bool b2.Had), .v (.bool b2.Has), .v (.string ⟨⟨b2.Old⟩⟩), .v (.string ⟨⟨b2.New⟩⟩), .v (.int .i64 b2.From), .v (.int .i64 b2.To), .v (.bool b2.On)]), (2, .box 29 [.v (.int .i64 a1.Kind), .v (.int .i64 a1.Depth), .v (.int .i64 a1.Node), .v (.int .i64 a1.What), .v (.int .i64 a1.Err), .v (.string ⟨⟨a1.Name⟩⟩), .v (.bool a1.Had), .v (.bool a1.Has), .v (.string ⟨⟨a1.Old⟩⟩), .v (.string ⟨⟨a1.New⟩⟩), .v (.int .i64 a1.From), .v (.int .i64 a1.To), .v (.bool a1.On)])]) fu 0 (fun _ => rfl) ⟨rfl, rfl, rfl, rfl, rfl, trivial⟩ ⟨rfl, rfl, trivial⟩ rfl ?_
            rintro k1 i7
            refine pw_seq ?_
            refine pw_seq ?_
            refine pw_region ?_
            refine po_evs (T := tab) 4 rfl rfl ?_
            refine po_nil ?_
            refine pn_seq ?_
            refine pw_cnd rfl ?_ ?_
            · refine pw_skip ?_
              refine pn_seq ?_
              refine pw_seq ?_
              refine pw_block ?_
              refine pw_seq ?_
              refine pw_region ?_
              refine po_evs (T := tab) 2 rfl rfl ?_
              refine po_chr (T := tab) (s := r5.1) rfl rfl rfl rfl rfl rfl rfl fun b8 hb8 => ?_
              refine po_evs (T := tab) 1 rfl rfl ?_
              refine po_nil ?_
              refine pn_seq ?_
              refine pw_cnd rfl ?_ ?_
              · refine pw_seq ?_
                refine pw_region ?_
                refine po_evs (T := tab) 1 rfl rfl ?_
                refine po_nil ?_
                refine pn_seq ?_
                exact pw_retN (T := tab) rfl rfl rfl ⟨rfl, rfl⟩ trivial rfl
              · refine pw_skip ?_
                refine pn_block ?_
                refine pn_seq ?_
                refine pw_region ?_
                refine po_evs (T := tab) 1 rfl rfl ?_
                refine po_arith' (T := tab) rfl rfl rfl rfl fun i9 hi9 => ?_
                refine po_evs (T := tab) 1 rfl rfl ?_
                refine po_nil ?_
                exact pn_iter' i9 ⟨rfl, rfl, rfl, rfl, rfl, trivial⟩ ⟨rfl, rfl, trivial⟩ rfl
            · refine pw_exit rfl ?_
              refine pn_seq ?_
              refine pw_seq ?_
              refine pw_region ?_
              refine po_evs (T := tab) 2 rfl rfl ?_
              refine po_lit (T := tab) (rows := [a1, b2].map cMark) 72 rfl rfl rfl rfl rfl rfl rfl rfl rfl rfl rfl rfl rfl rfl ?_
              refine po_freeze 72 rfl rfl rfl ?_
              refine po_call (enc := fun (r10 : (Bs × Int)) => .tup [.v (.string ⟨⟨r10.1⟩⟩), .v (.int .i64 r10.2)]) (qs := [.sl 13 false ([a1, b2].map cMark)]) (Tale_Put_ok fu [a1, b2]) rfl rfl ⟨⟨_, rfl, .rfl⟩, trivial⟩ (fun _ => rfl) call11 rfl rfl fun r10 hr10 => ?_
              refine po_evs (T := tab) 5 rfl rfl ?_
              refine po_nil ?_
              refine pn_seq ?_
              refine pw_seq ?_
              refine pw_region ?_
              refine po_evs (T := tab) 5 rfl rfl ?_
              refine po_eq eqf_29 rfl rfl rfl rfl rfl rfl rfl ?_
              refine po_evs (T := tab) 2 rfl rfl ?_
              refine po_split (j := 83) rfl ?_ ?_
              · refine po_evs (T := tab) 4 rfl rfl ?_
                refine po_split (j := 87) rfl ?_ ?_
                · refine po_evs (T := tab) 2 rfl rfl ?_
                  refine po_cat rfl rfl rfl rfl rfl rfl fun s11 hs11 => ?_
                  refine po_evs (T := tab) 1 rfl rfl ?_
                  refine po_cat rfl rfl rfl rfl rfl rfl fun s12 hs12 => ?_
                  refine po_cat rfl rfl rfl rfl rfl rfl fun s13 hs13 => ?_
                  refine po_evs (T := tab) 3 rfl rfl ?_
                  refine po_nil ?_
                  refine pn_seq ?_
                  exact pw_retN (T := tab) rfl rfl rfl ⟨rfl, rfl⟩ trivial rfl
                · refine po_evs (T := tab) 9 rfl rfl ?_
                  refine po_nil ?_
                  refine pn_seq ?_
                  exact pw_retN (T := tab) rfl rfl rfl ⟨rfl, rfl⟩ trivial rfl
              · refine po_evs (T := tab) 13 rfl rfl ?_
                refine po_nil ?_
                refine pn_seq ?_
                exact pw_retN (T := tab) rfl rfl rfl ⟨rfl, rfl⟩ trivial rfl

def Internal_strconv_small_m (_fu : Nat) (i1 : Int) : Option Bs := cnd (decide (i1 < 10)) (bnd (rng .i64 (i1 + 1)) fun i2 => bnd (piece ([48, 49, 50, 51, 52, 53, 54, 55, 56, 57, 97, 98, 99, 100, 101, 102, 103, 104, 105, 106, 107, 108, 109, 110, 111, 112, 113, 114, 115, 116, 117, 118, 119, 120, 121, 122] : Bs) i1 i2) fun s3 => some s3) (bnd (rng .i64 (i1 * 2)) fun i4 => bnd (rng .i64 (i1 * 2)) fun i5 => bnd (rng .i64 (i5 + 2)) fun i6 => bnd (piece ([48, 48, 48, 49, 48, 50, 48, 51, 48, 52, 48, 53, 48, 54, 48, 55, 48, 56, 48, 57, 49, 48, 49, 49, 49, 50, 49, 51, 49, 52, 49, 53, 49, 54, 49, 55, 49, 56, 49, 57, 50, 48, 50, 49, 50, 50, 50, 51, 50, 52, 50, 53, 50, 54, 50, 55, 50, 56, 50, 57, 51, 48, 51, 49, 51, 50, 51, 51, 51, 52, 51, 53, 51, 54, 51, 55, 51, 56, 51, 57, 52, 48, 52, 49, 52, 50, 52, 51, 52, 52, 52, 53, 52, 54, 52, 55, 52, 56, 52, 57, 53, 48, 53, 49, 53, 50, 53, 51, 53, 52, 53, 53, 53, 54, 53, 55, 53, 56, 53, 57, 54, 48, 54, 49, 54, 50, 54, 51, 54, 52, 54, 53, 54, 54, 54, 55, 54, 56, 54, 57, 55, 48, 55, 49, 55, 50, 55, 51, 55, 52, 55, 53, 55, 54, 55, 55, 55, 56, 55, 57, 56, 48, 56, 49, 56, 50, 56, 51, 56, 52, 56, 53, 56, 54, 56, 55, 56, 56, 56, 57, 57, 48, 57, 49, 57, 50, 57, 51, 57, 52, 57, 53, 57, 54, 57, 55, 57, 56, 57, 57] : Bs) i4 i6) fun s7 => some s7)

set_option maxRecDepth 100000 in
theorem Internal_strconv_small_ok (fu : Nat) (i1 : Int) : ∀ r, Internal_strconv_small_m fu i1 = some r → DC laidL Tryd.prog 66 [.v (.int .i64 i1)] (.v (.string ⟨⟨r⟩⟩)) := by
  intro r hr
  refine fc_intro (args := [.v (.int .i64 i1)]) (S := []) (N0 := []) (post := fun r p S => p = .v (.string ⟨⟨r⟩⟩) ∧ S = []) Tryd.func66 rfl rfl hr fun w0 X X0 σ0 _ => ?_
  refine pw_seq ?_
  refine pw_region ?_
  refine po_evs (T := tab) 1 rfl rfl ?_
  refine po_nil ?_
  refine pn_seq ?_
  refine pw_seq ?_
  refine pw_seq ?_
  refine pw_region ?_
  refine po_evs (T := tab) 2 rfl rfl ?_
  refine po_nil ?_
  refine pn_seq ?_
  refine pw_cnd rfl ?_ ?_
  · refine pw_seq ?_
    refine pw_region ?_
    refine po_evs (T := tab) 2 rfl rfl ?_
    refine po_arith' (T := tab) rfl rfl rfl rfl fun i2 hi2 => ?_
    refine po_sub (T := tab) rfl rfl rfl rfl rfl rfl rfl rfl fun s3 hs3 => ?_
    refine po_evs (T := tab) 1 rfl rfl ?_
    refine po_nil ?_
    refine pn_seq ?_
    exact pw_retN (T := tab) rfl rfl rfl ⟨rfl, rfl⟩ trivial rfl
  · refine pw_skip ?_
    refine pn_seq ?_
    refine pw_seq ?_
    refine pw_region ?_
    refine po_evs (T := tab) 1 rfl rfl ?_
    refine po_arith' (T := tab) rfl rfl rfl rfl fun i4 hi4 => ?_
    refine po_evs (T := tab) 1 rfl rfl ?_
    refine po_arith' (T := tab) rfl rfl rfl rfl fun i5 hi5 => ?_
    refine po_arith' (T := tab) rfl rfl rfl rfl fun i6 hi6 => ?_
    refine po_sub (T := tab) rfl rfl rfl rfl rfl rfl rfl rfl fun s7 hs7 => ?_
    refine po_evs (T := tab) 1 rfl rfl ?_
    refine po_nil ?_
    refine pn_seq ?_
    exact pw_retN (T := tab) rfl rfl rfl ⟨rfl, rfl⟩ trivial rfl

def Internal_strconv_bool2_int_m (_fu : Nat) (b1 : Bool) : Option Int := cnd b1 (some 1) (some 0)

set_option maxRecDepth 100000 in
theorem Internal_strconv_bool2_int_ok (fu : Nat) (b1 : Bool) : ∀ r, Internal_strconv_bool2_int_m fu b1 = some r → DC laidL Tryd.prog 78 [.v (.bool b1)] (.v (.int .i64 r)) := by
  intro r hr
  refine fc_intro (args := [.v (.bool b1)]) (S := []) (N0 := []) (post := fun r p S => p = .v (.int .i64 r) ∧ S = []) Tryd.func78 rfl rfl hr fun w0 X X0 σ0 _ => ?_
  refine pw_seq ?_
  refine pw_region ?_
  refine po_evs (T := tab) 1 rfl rfl ?_
  refine po_nil ?_
  refine pn_seq ?_
  refine pw_seq ?_
  refine pw_seq ?_
  refine pw_region ?_
  refine po_evs (T := tab) 1 rfl rfl ?_
  refine po_nil ?_
  refine pn_seq ?_
  refine pw_cnd rfl ?_ ?_
  · refine pw_seq ?_
    refine pw_region ?_
    refine po_evs (T := tab) 1 rfl rfl ?_
    refine po_nil ?_
    refine pn_seq ?_
    exact pw_retN (T := tab) rfl rfl rfl ⟨rfl, rfl⟩ trivial rfl
  · refine pw_skip ?_
    refine pn_seq ?_
    refine pw_seq ?_
    refine pw_region ?_
    refine po_evs (T := tab) 1 rfl rfl ?_
    refine po_nil ?_
    refine pn_seq ?_
    exact pw_retN (T := tab) rfl rfl rfl ⟨rfl, rfl⟩ trivial rfl

def Internal_bytealg_Cutover_m (_fu : Nat) (n1 : Int) : Option Int := bnd (rng .i64 (n1 + 16)) fun i2 => bnd (quoW .i64 i2 8) fun q3 => some q3

set_option maxRecDepth 100000 in
theorem Internal_bytealg_Cutover_ok (fu : Nat) (n1 : Int) : ∀ r, Internal_bytealg_Cutover_m fu n1 = some r → DC laidL Tryd.prog 82 [.v (.int .i64 n1)] (.v (.int .i64 r)) := by
  intro r hr
  refine fc_intro (args := [.v (.int .i64 n1)]) (S := []) (N0 := []) (post := fun r p S => p = .v (.int .i64 r) ∧ S = []) Tryd.func82 rfl rfl hr fun w0 X X0 σ0 _ => ?_
  refine pw_seq ?_
  refine pw_region ?_
  refine po_evs (T := tab) 1 rfl rfl ?_
  refine po_nil ?_
  refine pn_seq ?_
  refine pw_seq ?_
  refine pw_region ?_
  refine po_evs (T := tab) 1 rfl rfl ?_
  refine po_arith' (T := tab) rfl rfl rfl rfl fun i2 hi2 => ?_
  refine po_quo rfl rfl rfl rfl rfl rfl fun q3 hq3 => ?_
  refine po_evs (T := tab) 1 rfl rfl ?_
  refine po_nil ?_
  refine pn_seq ?_
  exact pw_retN (T := tab) rfl rfl rfl ⟨rfl, rfl⟩ trivial rfl

end Go.Proofs.YtoakfflcpcdbeaaDoor
