/- Models and proofs, printed by emit2.py. -/
import Derived.Test.YtkngnghbnhgfjaaGreatG1
namespace Go.Proofs.YtkngnghbnhgfjaaGreat
open Go Go.Pw
set_option linter.unusedVariables false

set_option maxHeartbeats 10000000 in
set_option maxRecDepth 100000 in
theorem Print_reader_elem_i2_ok (sg44 : Int → Int → Bs → Bool → (List (Node × Bool)) → Option (Int × Bs × Bool × (List (Node × Bool)))) (ih44 : ∀ (c1 : Int) (c2 : Int) (c3 : Bs) (c4 : Bool) (l5 : (List (Node × Bool))) r, sg44 c1 c2 c3 c4 l5 = some r → FC laidL Tryz.prog 19 [.loc 900000 0] [(900000, .box 52 [.own 900001, .v (.int .i64 c1), .v (.int .i64 c2), .v (.string ⟨⟨c3⟩⟩), .v (.bool c4)]), (900001, .tre 37 10 6 3 (l5.map fun x : Node × Bool => (cNode x.1, x.2)))] [900000] fun p S' => p = .v (.int .i64 r.1) ∧ S' = [(900000, .box 52 [.own 900001, .v (.int .i64 c1), .v (.int .i64 c2), .v (.string ⟨⟨r.2.1⟩⟩), .v (.bool r.2.2.1)]), (900001, .tre 37 10 6 3 (r.2.2.2.map fun x : Node × Bool => (cNode x.1, x.2)))]) (fu : Nat) (c1 : Int) (c2 : Int) (c3 : Bs) (c4 : Bool) (l5 : (List (Node × Bool))) : ∀ r, Print_reader_elem_m sg44 fu c1 c2 c3 c4 l5 = some r → FC laidL Tryz.prog 41 [.loc 900000 0] [(900000, .box 52 [.own 900001, .v (.int .i64 c1), .v (.int .i64 c2), .v (.string ⟨⟨c3⟩⟩), .v (.bool c4)]), (900001, .tre 37 10 6 3 (l5.map fun x : Node × Bool => (cNode x.1, x.2)))] [900000] fun p S' => p = .v (.int .i64 r.1) ∧ S' = [(900000, .box 52 [.own 900001, .v (.int .i64 c1), .v (.int .i64 c2), .v (.string ⟨⟨r.2.1⟩⟩), .v (.bool r.2.2.1)]), (900001, .tre 37 10 6 3 (r.2.2.2.map fun x : Node × Bool => (cNode x.1, x.2)))] := by
  intro r hr
  refine fc_intro (args := [.loc 900000 0]) (S := [(900000, .box 52 [.own 900001, .v (.int .i64 c1), .v (.int .i64 c2), .v (.string ⟨⟨c3⟩⟩), .v (.bool c4)]), (900001, .tre 37 10 6 3 (l5.map fun x : Node × Bool => (cNode x.1, x.2)))]) (N0 := [900000]) (post := fun r p S => p = .v (.int .i64 r.1) ∧ S = [(900000, .box 52 [.own 900001, .v (.int .i64 c1), .v (.int .i64 c2), .v (.string ⟨⟨r.2.1⟩⟩), .v (.bool r.2.2.1)]), (900001, .tre 37 10 6 3 (r.2.2.2.map fun x : Node × Bool => (cNode x.1, x.2)))]) Tryz.func41 rfl rfl hr fun w0 X X0 σ0 _ => ?_
  refine pw_seq ?_
  refine pw_region ?_
  refine po_evs (T := tab) 1 rfl rfl ?_
  refine po_nil ?_
  refine pn_seq ?_
  refine pw_seq ?_
  refine pw_region ?_
  refine po_evs (T := tab) 1 rfl rfl ?_
  refine po_turn [] (enc := fun (r6 : (Bs × Bs)) => .v (.string ⟨⟨r6.1⟩⟩)) (Sr := fun (r6 : (Bs × Bs)) => [(900000, .box 52 [.own 900001, .v (.int .i64 c1), .v (.int .i64 c2), .v (.string ⟨⟨r6.2⟩⟩), .v (.bool c4)]), (900001, .tre 37 10 6 3 (l5.map fun x : Node × Bool => (cNode x.1, x.2)))]) (first := []) (cap := []) (qs := [.loc 900000 0]) (Sc := [(900000, .box 52 [.own 900001, .v (.int .i64 c1), .v (.int .i64 c2), .v (.string ⟨⟨c3⟩⟩), .v (.bool c4)]), (900001, .tre 37 10 6 3 (l5.map fun x : Node × Bool => (cNode x.1, x.2)))]) (N0 := [900000, 900001]) (NR := [900000, 900001]) (fun r6 hr6 => fc_ren [(900000, 900000), (900001, 900001)] [900000, 900001] (Print_reader_word_ok fu c1 c2 c3 c4 l5 _ hr6) rfl rfl rfl rfl rfl rfl) ⟨rfl, rfl, trivial⟩ (fun _ => rfl) rfl rfl rfl rfl rfl rfl rfl (fun _ => rfl) (fun _ => rfl) rfl rfl rfl ⟨⟨_, rfl, .rfl⟩, trivial⟩ call65 rfl rfl fun r6 hr6 => ?_
  refine po_build (T := tab) rfl rfl rfl rfl rfl rfl rfl ?_
  refine po_alloc (T := tab) 3 rfl rfl rfl rfl rfl rfl rfl rfl rfl ?_
  refine po_store (T := tab) rfl rfl rfl rfl rfl rfl rfl rfl rfl rfl rfl rfl ?_
  refine po_nil ?_
  refine pn_seq ?_
  refine pw_seq ?_
  refine pw_seq ?_
  refine pw_region ?_
  refine po_evs (T := tab) 1 rfl rfl ?_
  refine po_turn [] (enc := fun (r7 : (Bool × Bs)) => .v (.bool r7.1)) (Sr := fun (r7 : (Bool × Bs)) => [(900000, .box 52 [.own 900001, .v (.int .i64 c1), .v (.int .i64 c2), .v (.string ⟨⟨r7.2⟩⟩), .v (.bool c4)]), (900001, .tre 37 10 6 3 (l5.map fun x : Node × Bool => (cNode x.1, x.2)))]) (first := []) (cap := []) (qs := [.loc 900000 0, .v (.string ⟨⟨[33]⟩⟩)]) (Sc := [(900000, .box 52 [.own 900001, .v (.int .i64 c1), .v (.int .i64 c2), .v (.string ⟨⟨r6.2⟩⟩), .v (.bool c4)]), (900001, .tre 37 10 6 3 (l5.map fun x : Node × Bool => (cNode x.1, x.2)))]) (N0 := [900000, 900001]) (NR := [900000, 900001]) (fun r7 hr7 => fc_ren [(900000, 900000), (900001, 900001)] [900000, 900001] (Print_reader_take_ok fu [33] c1 c2 r6.2 c4 l5 _ hr7) rfl rfl rfl rfl rfl rfl) ⟨rfl, rfl, trivial⟩ (fun _ => rfl) rfl rfl rfl rfl rfl rfl rfl (fun _ => rfl) (fun _ => rfl) rfl rfl rfl ⟨⟨_, rfl, .rfl⟩, ⟨_, rfl, .rfl⟩, trivial⟩ call40 rfl rfl fun r7 hr7 => ?_
  refine po_nil ?_
  refine pn_seq ?_
  refine pw_joinK (Print_reader_elem_j1 sg44 fu c1 c2 l5 r6) (fun ((c9, c10, c11) : Bs × Bool × Bs) => [(0, .loc 900000 0), (3, .loc 3 0)]) (fun ((c9, c10, c11) : Bs × Bool × Bs) => [(900000, .box 52 [.own 900001, .v (.int .i64 c1), .v (.int .i64 c2), .v (.string ⟨⟨c9⟩⟩), .v (.bool c10)]), (900001, .tre 37 10 6 3 (l5.map fun x : Node × Bool => (cNode x.1, x.2))), (3, .box 37 [.v (.int .i64 1), .v (.string ⟨⟨r6.1⟩⟩), .v (.string ⟨⟨c11⟩⟩), .v (.string ⟨⟨[]⟩⟩), .v (.slice none 0 0), .v (.int .i64 0), .v (.slice none 0 0), .v (.int .i64 0), .v (.int .i64 0), .v (.int .i64 0)])]) ?_ fun hj1 => ?_
  · rintro ⟨c9, c10, c11⟩
    refine pn_seq ?_
    refine pw_seq ?_
    refine pw_joinK (Print_reader_elem_j2 sg44 fu c1 c2 l5 r6 c11) (fun ((c19, c20, l21) : Bs × Bool × (List Attr)) => [(0, .loc 900000 0), (3, .loc 3 0)]) (fun ((c19, c20, l21) : Bs × Bool × (List Attr)) => [(900000, .box 52 [.own 900001, .v (.int .i64 c1), .v (.int .i64 c2), .v (.string ⟨⟨c19⟩⟩), .v (.bool c20)]), (900001, .tre 37 10 6 3 (l5.map fun x : Node × Bool => (cNode x.1, x.2))), (1048, .arr 42 2 (l21.map cAttr)), (3, .box 37 [.v (.int .i64 1), .v (.string ⟨⟨r6.1⟩⟩), .v (.string ⟨⟨c11⟩⟩), .v (.string ⟨⟨[]⟩⟩), .own 1048, .v (.int .i64 0), .v (.slice none 0 0), .v (.int .i64 0), .v (.int .i64 0), .v (.int .i64 0)])]) ?_ fun hj2 => ?_
    · rintro ⟨c19, c20, l21⟩
      refine pn_seq ?_
      refine pw_seq ?_
      refine pw_region ?_
      refine po_evs (T := tab) 1 rfl rfl ?_
      refine po_turn [] (enc := fun (r22 : (Bs × Bool)) => .tup []) (Sr := fun (r22 : (Bs × Bool)) => [(900000, .box 52 [.own 900001, .v (.int .i64 c1), .v (.int .i64 c2), .v (.string ⟨⟨r22.1⟩⟩), .v (.bool r22.2)]), (900001, .tre 37 10 6 3 (l5.map fun x : Node × Bool => (cNode x.1, x.2)))]) (first := []) (cap := []) (qs := [.loc 900000 0, .v (.string ⟨⟨[62]⟩⟩)]) (Sc := [(900000, .box 52 [.own 900001, .v (.int .i64 c1), .v (.int .i64 c2), .v (.string ⟨⟨c19⟩⟩), .v (.bool c20)]), (900001, .tre 37 10 6 3 (l5.map fun x : Node × Bool => (cNode x.1, x.2)))]) (N0 := [900000, 900001]) (NR := [900000, 900001]) (fun r22 hr22 => fc_ren [(900000, 900000), (900001, 900001)] [900000, 900001] (Print_reader_must_ok fu [62] c1 c2 c19 c20 l5 _ hr22) rfl rfl rfl rfl rfl rfl) ⟨rfl, rfl, trivial⟩ (fun _ => rfl) rfl rfl rfl rfl rfl rfl rfl (fun _ => rfl) (fun _ => rfl) rfl rfl rfl ⟨⟨_, rfl, .rfl⟩, ⟨_, rfl, .rfl⟩, trivial⟩ call66 rfl rfl fun r22 hr22 => ?_
      refine po_nil ?_
      refine pn_seq ?_
      refine pw_seq ?_
      refine pw_region ?_
      refine po_evs (T := tab) 2 rfl rfl ?_
      refine po_freeze 1048 rfl rfl rfl ?_
      refine po_turn [900001] (enc := fun (r23 : (Int × (List (Node × Bool)))) => .v (.int .i64 r23.1)) (Sr := fun (r23 : (Int × (List (Node × Bool)))) => [(900000, .box 52 [.own 900001, .v (.int .i64 c1), .v (.int .i64 c2), .v (.string ⟨⟨r22.1⟩⟩), .v (.bool r22.2)]), (900001, .tre 37 10 6 3 (r23.2.map fun x : Node × Bool => (cNode x.1, x.2)))]) (first := []) (cap := []) (qs := [.loc 900000 0, .agg [.v (.int .i64 1), .v (.string ⟨⟨r6.1⟩⟩), .v (.string ⟨⟨c11⟩⟩), .v (.string ⟨⟨[]⟩⟩), .sl 2 false (l21.map cAttr), .v (.int .i64 0), .v (.slice none 0 0), .v (.int .i64 0), .v (.int .i64 0), .v (.int .i64 0)]]) (Sc := [(900000, .box 52 [.own 900001, .v (.int .i64 c1), .v (.int .i64 c2), .v (.string ⟨⟨r22.1⟩⟩), .v (.bool r22.2)]), (900001, .tre 37 10 6 3 (l5.map fun x : Node × Bool => (cNode x.1, x.2)))]) (N0 := [900000]) (NR := [900000, 900001]) (fun r23 hr23 => fc_ren [(900000, 900000), (900001, 900001)] [900000, 900001] (Print_reader_add_ok fu 1 r6.1 c11 [] l21 0 0 0 0 c1 c2 r22.1 r22.2 l5 _ hr23) rfl rfl rfl rfl rfl rfl) ⟨rfl, rfl, trivial⟩ (fun _ => rfl) rfl rfl rfl rfl rfl rfl rfl (fun _ => rfl) (fun _ => rfl) rfl rfl rfl ⟨⟨_, rfl, .rfl⟩, ⟨_, rfl, .rfl⟩, trivial⟩ call42 rfl rfl fun r23 hr23 => ?_
      refine po_evs (T := tab) 1 rfl rfl ?_
      refine po_nil ?_
      refine pn_seq ?_
      refine pw_seq ?_
      refine pw_seq ?_
      refine pw_region ?_
      refine po_evs (T := tab) 6 rfl rfl ?_
      refine po_split (j := 60) rfl ?_ ?_
      · refine po_evs (T := tab) 1 rfl rfl ?_
        refine po_turn [] (enc := fun (r24 : (Bool × Bs)) => .v (.bool r24.1)) (Sr := fun (r24 : (Bool × Bs)) => [(900000, .box 52 [.own 900001, .v (.int .i64 c1), .v (.int .i64 c2), .v (.string ⟨⟨r24.2⟩⟩), .v (.bool r22.2)]), (900001, .tre 37 10 6 3 (r23.2.map fun x : Node × Bool => (cNode x.1, x.2)))]) (first := []) (cap := []) (qs := [.loc 900000 0, .v (.string ⟨⟨[123]⟩⟩)]) (Sc := [(900000, .box 52 [.own 900001, .v (.int .i64 c1), .v (.int .i64 c2), .v (.string ⟨⟨r22.1⟩⟩), .v (.bool r22.2)]), (900001, .tre 37 10 6 3 (r23.2.map fun x : Node × Bool => (cNode x.1, x.2)))]) (N0 := [900000, 900001]) (NR := [900000, 900001]) (fun r24 hr24 => fc_ren [(900000, 900000), (900001, 900001)] [900000, 900001] (Print_reader_take_ok fu [123] c1 c2 r22.1 r22.2 r23.2 _ hr24) rfl rfl rfl rfl rfl rfl) ⟨rfl, rfl, trivial⟩ (fun _ => rfl) rfl rfl rfl rfl rfl rfl rfl (fun _ => rfl) (fun _ => rfl) rfl rfl rfl ⟨⟨_, rfl, .rfl⟩, ⟨_, rfl, .rfl⟩, trivial⟩ call40 rfl rfl fun r24 hr24 => ?_
        refine po_evs (T := tab) 1 rfl rfl ?_
        refine po_nil ?_
        refine pn_seq ?_
        refine pw_cnd rfl ?_ ?_
        · refine pw_seq ?_
          refine pw_region ?_
          refine po_evs (T := tab) 1 rfl rfl ?_
          refine po_build (T := tab) rfl rfl rfl rfl rfl rfl rfl ?_
          refine po_turn [900001] (enc := fun (r25 : (Int × (List (Node × Bool)))) => .v (.int .i64 r25.1)) (Sr := fun (r25 : (Int × (List (Node × Bool)))) => [(900000, .box 52 [.own 900001, .v (.int .i64 c1), .v (.int .i64 c2), .v (.string ⟨⟨r24.2⟩⟩), .v (.bool r22.2)]), (900001, .tre 37 10 6 3 (r25.2.map fun x : Node × Bool => (cNode x.1, x.2)))]) (first := []) (cap := []) (qs := [.loc 900000 0, .agg [.v (.int .i64 4), .v (.string ⟨⟨[]⟩⟩), .v (.string ⟨⟨[]⟩⟩), .v (.string ⟨⟨[]⟩⟩), .sl 2 false ([].map cAttr), .v (.int .i64 0), .v (.slice none 0 0), .v (.int .i64 0), .v (.int .i64 0), .v (.int .i64 0)]]) (Sc := [(900000, .box 52 [.own 900001, .v (.int .i64 c1), .v (.int .i64 c2), .v (.string ⟨⟨r24.2⟩⟩), .v (.bool r22.2)]), (900001, .tre 37 10 6 3 (r23.2.map fun x : Node × Bool => (cNode x.1, x.2)))]) (N0 := [900000]) (NR := [900000, 900001]) (fun r25 hr25 => fc_ren [(900000, 900000), (900001, 900001)] [900000, 900001] (Print_reader_add_ok fu 4 [] [] [] [] 0 0 0 0 c1 c2 r24.2 r22.2 r23.2 _ hr25) rfl rfl rfl rfl rfl rfl) ⟨rfl, rfl, trivial⟩ (fun _ => rfl) rfl rfl rfl rfl rfl rfl rfl (fun _ => rfl) (fun _ => rfl) rfl rfl rfl ⟨⟨_, rfl, .rfl⟩, ⟨_, rfl, (.agg ⟨.rfl, .rfl, .rfl, .rfl, .nil, .rfl, .rfl, .rfl, .rfl, .rfl, trivial⟩)⟩, trivial⟩ call42 rfl rfl fun r25 hr25 => ?_
          refine po_evs (T := tab) 1 rfl rfl ?_
          refine po_nil ?_
          refine pn_seq ?_
          refine pw_seq ?_
          refine pw_sub' (E' := [(0, .loc 900000 0), (3, .loc 3 0), (5, .v (.int .i64 r23.1)), (6, .v (.int .i64 r25.1))]) (S' := [(900000, .box 52 [.own 900001, .v (.int .i64 c1), .v (.int .i64 c2), .v (.string ⟨⟨r24.2⟩⟩), .v (.bool r22.2)]), (900001, .tre 37 10 6 3 (r25.2.map fun x : Node × Bool => (cNode x.1, x.2))), (3, .box 37 [.v (.int .i64 1), .v (.string ⟨⟨r6.1⟩⟩), .v (.string ⟨⟨c11⟩⟩), .v (.string ⟨⟨[]⟩⟩), .sl 2 false (l21.map cAttr), .v (.int .i64 0), .v (.slice none 0 0), .v (.int .i64 0), .v (.int .i64 0), .v (.int .i64 0)])]) ?_ ⟨rfl, rfl, rfl, rfl, trivial⟩ ⟨rfl, rfl, rfl, trivial⟩ rfl
          refine pw_drawV [0, 1, 3, 7, 15, 0, 0, 64, 192, 448, 960, 0, 0, 0, 6143, 22527, 55295, 131071, 262143, 524287] mixed (by kernel_rfl) (by kernel_rfl) rfl rfl ?_
          refine pdv_step0 [0] [134] [] [900000] [] [(67, .loc 900000 0)] [] rfl rfl rfl rfl (by kernel_rfl) (by kernel_rfl) (by kernel_rfl) trivial (fun w0 X X0 σ0 _ => by refine po_evs (T := tab) 1 rfl rfl ?_; refine po_nil ?_; exact pn_end0 ⟨rfl, trivial⟩ trivial rfl) ?_
          refine pdv_step0 [134] [136] [] [900000] [] [(68, .loc 900000 0)] [] rfl rfl rfl rfl (by kernel_rfl) (by kernel_rfl) (by kernel_rfl) trivial (fun w0 X X0 σ0 _ => by refine po_evs (T := tab) 1 rfl rfl ?_; refine po_nil ?_; exact pn_end0 ⟨rfl, trivial⟩ trivial rfl) ?_
          refine pdv_step0 [136] [138] [] [900000] [] [(69, .loc 900000 0)] [] rfl rfl rfl rfl (by kernel_rfl) (by kernel_rfl) (by kernel_rfl) trivial (fun w0 X X0 σ0 _ => by refine po_evs (T := tab) 1 rfl rfl ?_; refine po_nil ?_; exact pn_end0 ⟨rfl, trivial⟩ trivial rfl) ?_
          refine pdv_step0 [138] [140] [] [900000] [] [(70, .loc 900000 0)] [] rfl rfl rfl rfl (by kernel_rfl) (by kernel_rfl) (by kernel_rfl) trivial (fun w0 X X0 σ0 _ => by refine po_evs (T := tab) 1 rfl rfl ?_; refine po_nil ?_; exact pn_end0 ⟨rfl, trivial⟩ trivial rfl) ?_
          refine pdv_step0 [140, 1800001] [142] [] [900000, 900001] [900000] [(71, .own 900001)] [(900000, .box 52 [.own 900001, .v (.int .i64 c1), .v (.int .i64 c2), .v (.string ⟨⟨r24.2⟩⟩), .v (.bool r22.2)])] rfl rfl rfl rfl (by kernel_rfl) (by kernel_rfl) (by kernel_rfl) ⟨rfl, trivial⟩ (fun w0 X X0 σ0 _ => by refine po_evs (T := tab) 1 rfl rfl ?_; refine po_nil ?_; exact pn_end0 ⟨rfl, trivial⟩ ⟨rfl, trivial⟩ rfl) ?_
          refine pdv_step0 [12] [144] [] [] [] [(72, .v (.int .i64 r25.1))] [] rfl rfl rfl rfl (by kernel_rfl) (by kernel_rfl) (by kernel_rfl) trivial (fun w0 X X0 σ0 _ => by refine po_evs (T := tab) 1 rfl rfl ?_; refine po_nil ?_; exact pn_end0 ⟨rfl, trivial⟩ trivial rfl) ?_
          refine pdv_step0 [0] [146] [] [900000] [] [(73, .loc 900000 0)] [] rfl rfl rfl rfl (by kernel_rfl) (by kernel_rfl) (by kernel_rfl) trivial (fun w0 X X0 σ0 _ => by refine po_evs (T := tab) 1 rfl rfl ?_; refine po_nil ?_; exact pn_end0 ⟨rfl, trivial⟩ trivial rfl) ?_
          refine pdv_step0 [146] [148] [] [900000] [] [(74, .loc 900000 0)] [] rfl rfl rfl rfl (by kernel_rfl) (by kernel_rfl) (by kernel_rfl) trivial (fun w0 X X0 σ0 _ => by refine po_evs (T := tab) 1 rfl rfl ?_; refine po_nil ?_; exact pn_end0 ⟨rfl, trivial⟩ trivial rfl) ?_
          refine pdv_step0 [148] [150] [] [900000] [] [(75, .loc 900000 0)] [] rfl rfl rfl rfl (by kernel_rfl) (by kernel_rfl) (by kernel_rfl) trivial (fun w0 X X0 σ0 _ => by refine po_evs (T := tab) 1 rfl rfl ?_; refine po_nil ?_; exact pn_end0 ⟨rfl, trivial⟩ trivial rfl) ?_
          refine pdv_step0 [150] [152] [] [900000] [] [(76, .loc 900000 0)] [] rfl rfl rfl rfl (by kernel_rfl) (by kernel_rfl) (by kernel_rfl) trivial (fun w0 X X0 σ0 _ => by refine po_evs (T := tab) 1 rfl rfl ?_; refine po_nil ?_; exact pn_end0 ⟨rfl, trivial⟩ trivial rfl) ?_
          refine pdv_step0 [152, 1800001] [154] [] [900000, 900001] [900000] [(77, .own 900001)] [(900000, .box 52 [.own 900001, .v (.int .i64 c1), .v (.int .i64 c2), .v (.string ⟨⟨r24.2⟩⟩), .v (.bool r22.2)])] rfl rfl rfl rfl (by kernel_rfl) (by kernel_rfl) (by kernel_rfl) ⟨rfl, trivial⟩ (fun w0 X X0 σ0 _ => by refine po_evs (T := tab) 1 rfl rfl ?_; refine po_nil ?_; exact pn_end0 ⟨rfl, trivial⟩ ⟨rfl, trivial⟩ rfl) ?_
          refine pdv_step0 [10] [156] [] [] [] [(78, .v (.int .i64 r23.1))] [] rfl rfl rfl rfl (by kernel_rfl) (by kernel_rfl) (by kernel_rfl) trivial (fun w0 X X0 σ0 _ => by refine po_evs (T := tab) 1 rfl rfl ?_; refine po_nil ?_; exact pn_end0 ⟨rfl, trivial⟩ trivial rfl) ?_
          refine pdv_step0 [10] [158] [] [] [] [(79, .v (.int .i64 r23.1))] [] rfl rfl rfl rfl (by kernel_rfl) (by kernel_rfl) (by kernel_rfl) trivial (fun w0 X X0 σ0 _ => by refine po_evs (T := tab) 1 rfl rfl ?_; refine po_nil ?_; exact pn_end0 ⟨rfl, trivial⟩ trivial rfl) ?_
          refine pdv_step0 [12] [160] [] [] [] [(80, .v (.int .i64 r25.1))] [] rfl rfl rfl rfl (by kernel_rfl) (by kernel_rfl) (by kernel_rfl) trivial (fun w0 X X0 σ0 _ => by refine po_evs (T := tab) 1 rfl rfl ?_; refine po_nil ?_; exact pn_end0 ⟨rfl, trivial⟩ trivial rfl) ?_
          refine pdv_step (M := (idx r25.2 r25.1)) (ment := [(162, [900001])]) [142, 144, 1800003] [162] [] [900001] [900001] (fun y26 => [(81, .ela 900001 10 (r25.1).toNat 0)]) (fun y26 => [(900001, .tre 37 10 6 3 (r25.2.map fun x : Node × Bool => (cNode x.1, x.2)))]) rfl rfl (fun _ => rfl) (fun _ => rfl) (by kernel_rfl) (by kernel_rfl) (fun _ => by kernel_rfl) (fun _ => ⟨rfl, trivial⟩) (fun w0 X X0 σ0 _ => by refine po_idx_tre (T := tab) r25.2 (by simp) rfl rfl rfl rfl rfl rfl rfl rfl fun y26 hy26 => ?_; refine po_nil ?_; exact pn_end ⟨rfl, trivial⟩ ⟨rfl, trivial⟩ rfl) fun y26 hy26 => ?_
          refine pdv_step0 [162] [164] [] [900001] [] [(82, .ela 900001 10 (r25.1).toNat 7)] [] rfl rfl rfl rfl (by kernel_rfl) (by kernel_rfl) (by kernel_rfl) trivial (fun w0 X X0 σ0 _ => by refine po_evs (T := tab) 1 rfl rfl ?_; refine po_nil ?_; exact pn_end0 ⟨rfl, trivial⟩ trivial rfl) ?_
          refine pdv_step0 [158, 162, 164, 1800003] [162, 164, 1800003] [] [900001] [] [] [(900001, .tre 37 10 6 3 ((r25.2.set (r25.1).toNat ((⟨y26.1.Kind, y26.1.Name, y26.1.Is, y26.1.Data, y26.1.Attrs, y26.1.Parent, y26.1.Kids, r23.1, y26.1.Under, y26.1.Doc⟩ : Node), y26.2)).map fun x : Node × Bool => (cNode x.1, x.2)))] rfl rfl rfl rfl (by kernel_rfl) (by kernel_rfl) (by kernel_rfl) trivial (fun w0 X X0 σ0 _ => by refine po_store_tre (T := tab) (fun x : Node × Bool => (cNode x.1, x.2)) r25.2 y26 (((⟨y26.1.Kind, y26.1.Name, y26.1.Is, y26.1.Data, y26.1.Attrs, y26.1.Parent, y26.1.Kids, r23.1, y26.1.Under, y26.1.Doc⟩ : Node), y26.2) : Node × Bool) (idx_at hy26) rfl rfl rfl rfl rfl rfl rfl rfl rfl rfl rfl rfl rfl rfl rfl ?_; refine po_nil ?_; exact pn_end0 trivial ⟨rfl, trivial⟩ rfl) ?_
          refine pdv_step (M := (idx (r25.2.set (r25.1).toNat ((⟨y26.1.Kind, y26.1.Name, y26.1.Is, y26.1.Data, y26.1.Attrs, y26.1.Parent, y26.1.Kids, r23.1, y26.1.Under, y26.1.Doc⟩ : Node), y26.2)) r23.1)) (ment := [(166, [900001])]) [154, 156, 1800003] [166] [] [900001] [900001] (fun y27 => [(83, .ela 900001 10 (r23.1).toNat 0)]) (fun y27 => [(900001, .tre 37 10 6 3 ((r25.2.set (r25.1).toNat ((⟨y26.1.Kind, y26.1.Name, y26.1.Is, y26.1.Data, y26.1.Attrs, y26.1.Parent, y26.1.Kids, r23.1, y26.1.Under, y26.1.Doc⟩ : Node), y26.2)).map fun x : Node × Bool => (cNode x.1, x.2)))]) rfl rfl (fun _ => rfl) (fun _ => rfl) (by kernel_rfl) (by kernel_rfl) (fun _ => by kernel_rfl) (fun _ => ⟨rfl, trivial⟩) (fun w0 X X0 σ0 _ => by refine po_idx_tre (T := tab) (r25.2.set (r25.1).toNat ((⟨y26.1.Kind, y26.1.Name, y26.1.Is, y26.1.Data, y26.1.Attrs, y26.1.Parent, y26.1.Kids, r23.1, y26.1.Under, y26.1.Doc⟩ : Node), y26.2)) (by simp) rfl rfl rfl rfl rfl rfl rfl rfl fun y27 hy27 => ?_; refine po_nil ?_; exact pn_end ⟨rfl, trivial⟩ ⟨rfl, trivial⟩ rfl) fun y27 hy27 => ?_
          refine pdv_step0 [166] [168] [] [900001] [] [(84, .ela 900001 10 (r23.1).toNat 8)] [] rfl rfl rfl rfl (by kernel_rfl) (by kernel_rfl) (by kernel_rfl) trivial (fun w0 X X0 σ0 _ => by refine po_evs (T := tab) 1 rfl rfl ?_; refine po_nil ?_; exact pn_end0 ⟨rfl, trivial⟩ trivial rfl) ?_
          refine pdv_step0 [160, 166, 168, 1800003] [166, 168, 1800003] [] [900001] [] [] [(900001, .tre 37 10 6 3 (((r25.2.set (r25.1).toNat ((⟨y26.1.Kind, y26.1.Name, y26.1.Is, y26.1.Data, y26.1.Attrs, y26.1.Parent, y26.1.Kids, r23.1, y26.1.Under, y26.1.Doc⟩ : Node), y26.2)).set (r23.1).toNat ((⟨y27.1.Kind, y27.1.Name, y27.1.Is, y27.1.Data, y27.1.Attrs, y27.1.Parent, y27.1.Kids, y27.1.Host, r25.1, y27.1.Doc⟩ : Node), y27.2)).map fun x : Node × Bool => (cNode x.1, x.2)))] rfl rfl rfl rfl (by kernel_rfl) (by kernel_rfl) (by kernel_rfl) trivial (fun w0 X X0 σ0 _ => by refine po_store_tre (T := tab) (fun x : Node × Bool => (cNode x.1, x.2)) (r25.2.set (r25.1).toNat ((⟨y26.1.Kind, y26.1.Name, y26.1.Is, y26.1.Data, y26.1.Attrs, y26.1.Parent, y26.1.Kids, r23.1, y26.1.Under, y26.1.Doc⟩ : Node), y26.2)) y27 (((⟨y27.1.Kind, y27.1.Name, y27.1.Is, y27.1.Data, y27.1.Attrs, y27.1.Parent, y27.1.Kids, y27.1.Host, r25.1, y27.1.Doc⟩ : Node), y27.2) : Node × Bool) (idx_at hy27) rfl rfl rfl rfl rfl rfl rfl rfl rfl rfl rfl rfl rfl rfl rfl ?_; refine po_nil ?_; exact pn_end0 trivial ⟨rfl, trivial⟩ rfl) ?_
          refine pdv_nil rfl rfl ?_
          refine pn_seq ?_
          refine pw_region ?_
          refine po_evs (T := tab) 2 rfl rfl ?_
          refine po_turn [900001] (enc := fun (r28 : (Bs × Bool × (List (Node × Bool)))) => .tup []) (Sr := fun (r28 : (Bs × Bool × (List (Node × Bool)))) => [(900000, .box 52 [.own 900001, .v (.int .i64 c1), .v (.int .i64 c2), .v (.string ⟨⟨r28.1⟩⟩), .v (.bool r28.2.1)]), (900001, .tre 37 10 6 3 (r28.2.2.map fun x : Node × Bool => (cNode x.1, x.2)))]) (first := []) (cap := []) (qs := [.loc 900000 0, .v (.int .i64 r25.1), .v (.string ⟨⟨[125]⟩⟩)]) (Sc := [(900000, .box 52 [.own 900001, .v (.int .i64 c1), .v (.int .i64 c2), .v (.string ⟨⟨r24.2⟩⟩), .v (.bool r22.2)]), (900001, .tre 37 10 6 3 (((r25.2.set (r25.1).toNat ((⟨y26.1.Kind, y26.1.Name, y26.1.Is, y26.1.Data, y26.1.Attrs, y26.1.Parent, y26.1.Kids, r23.1, y26.1.Under, y26.1.Doc⟩ : Node), y26.2)).set (r23.1).toNat ((⟨y27.1.Kind, y27.1.Name, y27.1.Is, y27.1.Data, y27.1.Attrs, y27.1.Parent, y27.1.Kids, y27.1.Host, r25.1, y27.1.Doc⟩ : Node), y27.2)).map fun x : Node × Bool => (cNode x.1, x.2)))]) (N0 := [900000]) (NR := [900000, 900001]) (fun r28 hr28 => fc_ren [(900000, 900000), (900001, 900001)] [900000, 900001] (Print_reader_kids_i2_ok sg44 ih44 fu r25.1 [125] c1 c2 r24.2 r22.2 ((r25.2.set (r25.1).toNat ((⟨y26.1.Kind, y26.1.Name, y26.1.Is, y26.1.Data, y26.1.Attrs, y26.1.Parent, y26.1.Kids, r23.1, y26.1.Under, y26.1.Doc⟩ : Node), y26.2)).set (r23.1).toNat ((⟨y27.1.Kind, y27.1.Name, y27.1.Is, y27.1.Data, y27.1.Attrs, y27.1.Parent, y27.1.Kids, y27.1.Host, r25.1, y27.1.Doc⟩ : Node), y27.2)) _ hr28) rfl rfl rfl rfl rfl rfl) ⟨rfl, rfl, trivial⟩ (fun _ => rfl) rfl rfl rfl rfl rfl rfl rfl (fun _ => rfl) (fun _ => rfl) rfl rfl rfl ⟨⟨_, rfl, .rfl⟩, ⟨_, rfl, .rfl⟩, ⟨_, rfl, .rfl⟩, trivial⟩ call43 rfl rfl fun r28 hr28 => ?_
          refine po_nil ?_
          refine pn_seq ?_
          refine pw_seq ?_
          refine pw_region ?_
          refine po_evs (T := tab) 4 rfl rfl ?_
          refine po_cat rfl rfl rfl rfl rfl rfl fun s29 hs29 => ?_
          refine po_cat rfl rfl rfl rfl rfl rfl fun s30 hs30 => ?_
          refine po_turn [900001] (enc := fun (r31 : (Bs × Bool × (List (Node × Bool)))) => .tup []) (Sr := fun (r31 : (Bs × Bool × (List (Node × Bool)))) => [(900000, .box 52 [.own 900001, .v (.int .i64 c1), .v (.int .i64 c2), .v (.string ⟨⟨r31.1⟩⟩), .v (.bool r31.2.1)]), (900001, .tre 37 10 6 3 (r31.2.2.map fun x : Node × Bool => (cNode x.1, x.2)))]) (first := []) (cap := []) (qs := [.loc 900000 0, .v (.int .i64 r23.1), .v (.string ⟨⟨s30⟩⟩)]) (Sc := [(900000, .box 52 [.own 900001, .v (.int .i64 c1), .v (.int .i64 c2), .v (.string ⟨⟨r28.1⟩⟩), .v (.bool r28.2.1)]), (900001, .tre 37 10 6 3 (r28.2.2.map fun x : Node × Bool => (cNode x.1, x.2)))]) (N0 := [900000]) (NR := [900000, 900001]) (fun r31 hr31 => fc_ren [(900000, 900000), (900001, 900001)] [900000, 900001] (Print_reader_kids_i2_ok sg44 ih44 fu r23.1 s30 c1 c2 r28.1 r28.2.1 r28.2.2 _ hr31) rfl rfl rfl rfl rfl rfl) ⟨rfl, rfl, trivial⟩ (fun _ => rfl) rfl rfl rfl rfl rfl rfl rfl (fun _ => rfl) (fun _ => rfl) rfl rfl rfl ⟨⟨_, rfl, .rfl⟩, ⟨_, rfl, .rfl⟩, ⟨_, rfl, .rfl⟩, trivial⟩ call43 rfl rfl fun r31 hr31 => ?_
          refine po_nil ?_
          refine pn_seq ?_
          refine pw_seq ?_
          refine pw_region ?_
          refine po_evs (T := tab) 2 rfl rfl ?_
          refine po_nil ?_
          refine pn_seq ?_
          exact pw_retN (T := tab) rfl rfl rfl ⟨rfl, rfl⟩ ⟨rfl, rfl, trivial⟩ rfl
        · refine pw_skip ?_
          refine pn_seq ?_
          refine pw_seq ?_
          refine pw_region ?_
          refine po_evs (T := tab) 4 rfl rfl ?_
          refine po_cat rfl rfl rfl rfl rfl rfl fun s32 hs32 => ?_
          refine po_cat rfl rfl rfl rfl rfl rfl fun s33 hs33 => ?_
          refine po_turn [900001] (enc := fun (r34 : (Bs × Bool × (List (Node × Bool)))) => .tup []) (Sr := fun (r34 : (Bs × Bool × (List (Node × Bool)))) => [(900000, .box 52 [.own 900001, .v (.int .i64 c1), .v (.int .i64 c2), .v (.string ⟨⟨r34.1⟩⟩), .v (.bool r34.2.1)]), (900001, .tre 37 10 6 3 (r34.2.2.map fun x : Node × Bool => (cNode x.1, x.2)))]) (first := []) (cap := []) (qs := [.loc 900000 0, .v (.int .i64 r23.1), .v (.string ⟨⟨s33⟩⟩)]) (Sc := [(900000, .box 52 [.own 900001, .v (.int .i64 c1), .v (.int .i64 c2), .v (.string ⟨⟨r24.2⟩⟩), .v (.bool r22.2)]), (900001, .tre 37 10 6 3 (r23.2.map fun x : Node × Bool => (cNode x.1, x.2)))]) (N0 := [900000]) (NR := [900000, 900001]) (fun r34 hr34 => fc_ren [(900000, 900000), (900001, 900001)] [900000, 900001] (Print_reader_kids_i2_ok sg44 ih44 fu r23.1 s33 c1 c2 r24.2 r22.2 r23.2 _ hr34) rfl rfl rfl rfl rfl rfl) ⟨rfl, rfl, trivial⟩ (fun _ => rfl) rfl rfl rfl rfl rfl rfl rfl (fun _ => rfl) (fun _ => rfl) rfl rfl rfl ⟨⟨_, rfl, .rfl⟩, ⟨_, rfl, .rfl⟩, ⟨_, rfl, .rfl⟩, trivial⟩ call43 rfl rfl fun r34 hr34 => ?_
          refine po_nil ?_
          refine pn_seq ?_
          refine pw_seq ?_
          refine pw_region ?_
          refine po_evs (T := tab) 2 rfl rfl ?_
          refine po_nil ?_
          refine pn_seq ?_
          exact pw_retN (T := tab) rfl rfl rfl ⟨rfl, rfl⟩ ⟨rfl, rfl, trivial⟩ rfl
      · refine po_evs (T := tab) 3 rfl rfl ?_
        refine po_nil ?_
        refine pn_seq (pw_else rfl ?_)
        refine pw_skip ?_
        refine pn_seq ?_
        refine pw_seq ?_
        refine pw_region ?_
        refine po_evs (T := tab) 4 rfl rfl ?_
        refine po_cat rfl rfl rfl rfl rfl rfl fun s35 hs35 => ?_
        refine po_cat rfl rfl rfl rfl rfl rfl fun s36 hs36 => ?_
        refine po_turn [900001] (enc := fun (r37 : (Bs × Bool × (List (Node × Bool)))) => .tup []) (Sr := fun (r37 : (Bs × Bool × (List (Node × Bool)))) => [(900000, .box 52 [.own 900001, .v (.int .i64 c1), .v (.int .i64 c2), .v (.string ⟨⟨r37.1⟩⟩), .v (.bool r37.2.1)]), (900001, .tre 37 10 6 3 (r37.2.2.map fun x : Node × Bool => (cNode x.1, x.2)))]) (first := []) (cap := []) (qs := [.loc 900000 0, .v (.int .i64 r23.1), .v (.string ⟨⟨s36⟩⟩)]) (Sc := [(900000, .box 52 [.own 900001, .v (.int .i64 c1), .v (.int .i64 c2), .v (.string ⟨⟨r22.1⟩⟩), .v (.bool r22.2)]), (900001, .tre 37 10 6 3 (r23.2.map fun x : Node × Bool => (cNode x.1, x.2)))]) (N0 := [900000]) (NR := [900000, 900001]) (fun r37 hr37 => fc_ren [(900000, 900000), (900001, 900001)] [900000, 900001] (Print_reader_kids_i2_ok sg44 ih44 fu r23.1 s36 c1 c2 r22.1 r22.2 r23.2 _ hr37) rfl rfl rfl rfl rfl rfl) ⟨rfl, rfl, trivial⟩ (fun _ => rfl) rfl rfl rfl rfl rfl rfl rfl (fun _ => rfl) (fun _ => rfl) rfl rfl rfl ⟨⟨_, rfl, .rfl⟩, ⟨_, rfl, .rfl⟩, ⟨_, rfl, .rfl⟩, trivial⟩ call43 rfl rfl fun r37 hr37 => ?_
        refine po_nil ?_
        refine pn_seq ?_
        refine pw_seq ?_
        refine pw_region ?_
        refine po_evs (T := tab) 2 rfl rfl ?_
        refine po_nil ?_
        refine pn_seq ?_
        exact pw_retN (T := tab) rfl rfl rfl ⟨rfl, rfl⟩ ⟨rfl, rfl, trivial⟩ rfl
    · refine pw_block ?_
      refine pw_own_nilS 1048 42 2 3 4 rfl rfl rfl rfl rfl rfl ?_
      refine pw_loop' (Print_reader_elem_l1 sg44 fu c1 c2 l5 r6 c11) (fun ((c12, c13, l14) : Bs × Bool × (List Attr)) => [(0, .loc 900000 0), (3, .loc 3 0)]) (fun ((c12, c13, l14) : Bs × Bool × (List Attr)) => [(1048, .arr 42 2 (l14.map cAttr)), (900000, .box 52 [.own 900001, .v (.int .i64 c1), .v (.int .i64 c2), .v (.string ⟨⟨c12⟩⟩), .v (.bool c13)]), (900001, .tre 37 10 6 3 (l5.map fun x : Node × Bool => (cNode x.1, x.2))), (3, .box 37 [.v (.int .i64 1), .v (.string ⟨⟨r6.1⟩⟩), .v (.string ⟨⟨c11⟩⟩), .v (.string ⟨⟨[]⟩⟩), .own 1048, .v (.int .i64 0), .v (.slice none 0 0), .v (.int .i64 0), .v (.int .i64 0), .v (.int .i64 0)])]) fu (c9, c10, []) (fun _ => rfl) ⟨rfl, rfl, trivial⟩ ⟨rfl, rfl, rfl, rfl, trivial⟩ rfl ?_
      rintro k1 ⟨c12, c13, l14⟩
      refine pw_seq ?_
      refine pw_seq ?_
      refine pw_region ?_
      refine po_evs (T := tab) 6 rfl rfl ?_
      refine po_split (j := 32) rfl ?_ ?_
      · refine po_evs (T := tab) 1 rfl rfl ?_
        refine po_turn [] (enc := fun (r15 : (Bool × Bs)) => .v (.bool r15.1)) (Sr := fun (r15 : (Bool × Bs)) => [(900000, .box 52 [.own 900001, .v (.int .i64 c1), .v (.int .i64 c2), .v (.string ⟨⟨r15.2⟩⟩), .v (.bool c13)]), (900001, .tre 37 10 6 3 (l5.map fun x : Node × Bool => (cNode x.1, x.2)))]) (first := []) (cap := []) (qs := [.loc 900000 0, .v (.string ⟨⟨[32]⟩⟩)]) (Sc := [(900000, .box 52 [.own 900001, .v (.int .i64 c1), .v (.int .i64 c2), .v (.string ⟨⟨c12⟩⟩), .v (.bool c13)]), (900001, .tre 37 10 6 3 (l5.map fun x : Node × Bool => (cNode x.1, x.2)))]) (N0 := [900000, 900001]) (NR := [900000, 900001]) (fun r15 hr15 => fc_ren [(900000, 900000), (900001, 900001)] [900000, 900001] (Print_reader_take_ok fu [32] c1 c2 c12 c13 l5 _ hr15) rfl rfl rfl rfl rfl rfl) ⟨rfl, rfl, trivial⟩ (fun _ => rfl) rfl rfl rfl rfl rfl rfl rfl (fun _ => rfl) (fun _ => rfl) rfl rfl rfl ⟨⟨_, rfl, .rfl⟩, ⟨_, rfl, .rfl⟩, trivial⟩ call40 rfl rfl fun r15 hr15 => ?_
        refine po_evs (T := tab) 1 rfl rfl ?_
        refine po_nil ?_
        refine pn_seq ?_
        refine pw_cnd rfl ?_ ?_
        · refine pw_skip ?_
          refine pn_seq ?_
          refine pw_block ?_
          refine pw_seq ?_
          refine pw_region ?_
          refine po_evs (T := tab) 1 rfl rfl ?_
          refine po_turn [] (enc := fun (r16 : (Bs × Bs)) => .v (.string ⟨⟨r16.1⟩⟩)) (Sr := fun (r16 : (Bs × Bs)) => [(900000, .box 52 [.own 900001, .v (.int .i64 c1), .v (.int .i64 c2), .v (.string ⟨⟨r16.2⟩⟩), .v (.bool c13)]), (900001, .tre 37 10 6 3 (l5.map fun x : Node × Bool => (cNode x.1, x.2)))]) (first := []) (cap := []) (qs := [.loc 900000 0]) (Sc := [(900000, .box 52 [.own 900001, .v (.int .i64 c1), .v (.int .i64 c2), .v (.string ⟨⟨r15.2⟩⟩), .v (.bool c13)]), (900001, .tre 37 10 6 3 (l5.map fun x : Node × Bool => (cNode x.1, x.2)))]) (N0 := [900000, 900001]) (NR := [900000, 900001]) (fun r16 hr16 => fc_ren [(900000, 900000), (900001, 900001)] [900000, 900001] (Print_reader_word_ok fu c1 c2 r15.2 c13 l5 _ hr16) rfl rfl rfl rfl rfl rfl) ⟨rfl, rfl, trivial⟩ (fun _ => rfl) rfl rfl rfl rfl rfl rfl rfl (fun _ => rfl) (fun _ => rfl) rfl rfl rfl ⟨⟨_, rfl, .rfl⟩, trivial⟩ call65 rfl rfl fun r16 hr16 => ?_
          refine po_build (T := tab) rfl rfl rfl rfl rfl rfl rfl ?_
          refine po_alloc (T := tab) 4 rfl rfl rfl rfl rfl rfl rfl rfl rfl ?_
          refine po_store (T := tab) rfl rfl rfl rfl rfl rfl rfl rfl rfl rfl rfl rfl ?_
          refine po_nil ?_
          refine pn_seq ?_
          refine pw_seq ?_
          refine pw_region ?_
          refine po_evs (T := tab) 1 rfl rfl ?_
          refine po_turn [] (enc := fun (r17 : (Bs × Bool)) => .tup []) (Sr := fun (r17 : (Bs × Bool)) => [(900000, .box 52 [.own 900001, .v (.int .i64 c1), .v (.int .i64 c2), .v (.string ⟨⟨r17.1⟩⟩), .v (.bool r17.2)]), (900001, .tre 37 10 6 3 (l5.map fun x : Node × Bool => (cNode x.1, x.2)))]) (first := []) (cap := []) (qs := [.loc 900000 0, .v (.string ⟨⟨[61]⟩⟩)]) (Sc := [(900000, .box 52 [.own 900001, .v (.int .i64 c1), .v (.int .i64 c2), .v (.string ⟨⟨r16.2⟩⟩), .v (.bool c13)]), (900001, .tre 37 10 6 3 (l5.map fun x : Node × Bool => (cNode x.1, x.2)))]) (N0 := [900000, 900001]) (NR := [900000, 900001]) (fun r17 hr17 => fc_ren [(900000, 900000), (900001, 900001)] [900000, 900001] (Print_reader_must_ok fu [61] c1 c2 r16.2 c13 l5 _ hr17) rfl rfl rfl rfl rfl rfl) ⟨rfl, rfl, trivial⟩ (fun _ => rfl) rfl rfl rfl rfl rfl rfl rfl (fun _ => rfl) (fun _ => rfl) rfl rfl rfl ⟨⟨_, rfl, .rfl⟩, ⟨_, rfl, .rfl⟩, trivial⟩ call66 rfl rfl fun r17 hr17 => ?_
          refine po_nil ?_
          refine pn_seq ?_
          refine pw_seq ?_
          refine pw_region ?_
          refine po_evs (T := tab) 1 rfl rfl ?_
          refine po_turn [] (enc := fun (r18 : (Bs × Bs × Bool)) => .v (.string ⟨⟨r18.1⟩⟩)) (Sr := fun (r18 : (Bs × Bs × Bool)) => [(900000, .box 52 [.own 900001, .v (.int .i64 c1), .v (.int .i64 c2), .v (.string ⟨⟨r18.2.1⟩⟩), .v (.bool r18.2.2)]), (900001, .tre 37 10 6 3 (l5.map fun x : Node × Bool => (cNode x.1, x.2)))]) (first := []) (cap := []) (qs := [.loc 900000 0]) (Sc := [(900000, .box 52 [.own 900001, .v (.int .i64 c1), .v (.int .i64 c2), .v (.string ⟨⟨r17.1⟩⟩), .v (.bool r17.2)]), (900001, .tre 37 10 6 3 (l5.map fun x : Node × Bool => (cNode x.1, x.2)))]) (N0 := [900000, 900001]) (NR := [900000, 900001]) (fun r18 hr18 => fc_ren [(900000, 900000), (900001, 900001)] [900000, 900001] (Print_reader_quoted_ok fu c1 c2 r17.1 r17.2 l5 _ hr18) rfl rfl rfl rfl rfl rfl) ⟨rfl, rfl, trivial⟩ (fun _ => rfl) rfl rfl rfl rfl rfl rfl rfl (fun _ => rfl) (fun _ => rfl) rfl rfl rfl ⟨⟨_, rfl, .rfl⟩, trivial⟩ call44 rfl rfl fun r18 hr18 => ?_
          refine po_evs (T := tab) 1 rfl rfl ?_
          refine po_store (T := tab) rfl rfl rfl rfl rfl rfl rfl rfl rfl rfl rfl rfl ?_
          refine po_nil ?_
          refine pn_seq ?_
          refine pw_region ?_
          refine po_evs (T := tab) 3 rfl rfl ?_
          refine po_lit (T := tab) (rows := [(⟨r16.1, r18.1⟩ : Attr)].map cAttr) 47 rfl rfl rfl rfl rfl rfl rfl rfl rfl rfl rfl rfl rfl rfl ?_
          refine po_append (T := tab) cAttr l14 ([(⟨r16.1, r18.1⟩ : Attr)] : List Attr) rfl rfl rfl rfl rfl rfl rfl rfl rfl rfl rfl rfl rfl rfl (cAttr_one _) rfl rfl rfl rfl rfl ?_
          refine po_evs (T := tab) 1 rfl rfl ?_
          refine po_store (T := tab) rfl rfl rfl rfl rfl rfl rfl rfl rfl rfl rfl rfl ?_
          refine po_nil ?_
          refine pn_block ?_
          exact pn_iter' (r18.2.1, r18.2.2, (l14 ++ [(⟨r16.1, r18.1⟩ : Attr)])) ⟨rfl, rfl, trivial⟩ ⟨rfl, rfl, rfl, rfl, trivial⟩ rfl
        · refine pw_exit rfl ?_
          exact pn_sub' (hj2 (r15.2, c13, l14)) ⟨rfl, rfl, trivial⟩ ⟨rfl, rfl, rfl, rfl, trivial⟩ rfl
      · refine po_evs (T := tab) 3 rfl rfl ?_
        refine po_nil ?_
        refine pn_seq (pw_else rfl ?_)
        refine pw_exit rfl ?_
        exact pn_sub' (hj2 (c12, c13, l14)) ⟨rfl, rfl, trivial⟩ ⟨rfl, rfl, rfl, rfl, trivial⟩ rfl
  · refine pw_cnd rfl ?_ ?_
    · refine pw_seq ?_
      refine pw_region ?_
      refine po_evs (T := tab) 1 rfl rfl ?_
      refine po_turn [] (enc := fun (r8 : (Bs × Bs)) => .v (.string ⟨⟨r8.1⟩⟩)) (Sr := fun (r8 : (Bs × Bs)) => [(900000, .box 52 [.own 900001, .v (.int .i64 c1), .v (.int .i64 c2), .v (.string ⟨⟨r8.2⟩⟩), .v (.bool c4)]), (900001, .tre 37 10 6 3 (l5.map fun x : Node × Bool => (cNode x.1, x.2)))]) (first := []) (cap := []) (qs := [.loc 900000 0]) (Sc := [(900000, .box 52 [.own 900001, .v (.int .i64 c1), .v (.int .i64 c2), .v (.string ⟨⟨r7.2⟩⟩), .v (.bool c4)]), (900001, .tre 37 10 6 3 (l5.map fun x : Node × Bool => (cNode x.1, x.2)))]) (N0 := [900000, 900001]) (NR := [900000, 900001]) (fun r8 hr8 => fc_ren [(900000, 900000), (900001, 900001)] [900000, 900001] (Print_reader_word_ok fu c1 c2 r7.2 c4 l5 _ hr8) rfl rfl rfl rfl rfl rfl) ⟨rfl, rfl, trivial⟩ (fun _ => rfl) rfl rfl rfl rfl rfl rfl rfl (fun _ => rfl) (fun _ => rfl) rfl rfl rfl ⟨⟨_, rfl, .rfl⟩, trivial⟩ call65 rfl rfl fun r8 hr8 => ?_
      refine po_evs (T := tab) 1 rfl rfl ?_
      refine po_store (T := tab) rfl rfl rfl rfl rfl rfl rfl rfl rfl rfl rfl rfl ?_
      refine po_nil ?_
      refine pn_seq ?_
      refine pw_region ?_
      refine po_evs (T := tab) 6 rfl rfl ?_
      refine po_split (j := 20) rfl ?_ ?_
      · refine po_evs (T := tab) 6 rfl rfl ?_
        refine po_store (T := tab) rfl rfl rfl rfl rfl rfl rfl rfl rfl rfl rfl rfl ?_
        refine po_nil ?_
        exact pn_sub' (hj1 (r8.2, true, r8.1)) ⟨rfl, rfl, trivial⟩ ⟨rfl, rfl, rfl, trivial⟩ rfl
      · refine po_evs (T := tab) 6 rfl rfl ?_
        refine po_store (T := tab) rfl rfl rfl rfl rfl rfl rfl rfl rfl rfl rfl rfl ?_
        refine po_nil ?_
        exact pn_sub' (hj1 (r8.2, (r8.1 == ([] : Bs)), r8.1)) ⟨rfl, rfl, trivial⟩ ⟨rfl, rfl, rfl, trivial⟩ rfl
    · refine pw_skip ?_
      exact pn_sub' (hj1 (r7.2, c4, [])) ⟨rfl, rfl, trivial⟩ ⟨rfl, rfl, rfl, trivial⟩ rfl

def Print_reader_node_m : Nat → Int → Int → Bs → Bool → (List (Node × Bool)) → Option (Int × Bs × Bool × (List (Node × Bool)))
  | 0, _, _, _, _, _ => none
  | fu + 1, c1, c2, c3, c4, l5 => bnd (Print_reader_take_m fu [60] c3) fun r6 => cnd r6.1 (bnd (Print_reader_elem_m (Print_reader_node_m fu) fu c1 c2 r6.2 c4 l5) fun r7 => some (r7.1, r7.2.1, r7.2.2.1, r7.2.2.2)) (bnd (Print_reader_take_m fu [91] r6.2) fun r8 => cnd r8.1 (bnd (Print_reader_add_m fu 3 [] [] [] [] c2 l5) fun r9 => bnd (Print_reader_kids_m (Print_reader_node_m fu) fu r9.1 [93] c1 c2 r8.2 c4 r9.2) fun r10 => some (r9.1, r10.1, r10.2.1, r10.2.2)) (bnd (Print_reader_quoted_m fu r8.2 c4) fun r11 => bnd (Print_reader_add_m fu 2 [] [] r11.1 [] c2 l5) fun r12 => some (r12.1, r11.2.1, r11.2.2, r12.2)))

set_option maxHeartbeats 10000000 in
set_option maxRecDepth 100000 in
theorem Print_reader_node_ok : ∀ (fu : Nat) (c1 : Int) (c2 : Int) (c3 : Bs) (c4 : Bool) (l5 : (List (Node × Bool))) r, Print_reader_node_m fu c1 c2 c3 c4 l5 = some r → FC laidL Tryz.prog 19 [.loc 900000 0] [(900000, .box 52 [.own 900001, .v (.int .i64 c1), .v (.int .i64 c2), .v (.string ⟨⟨c3⟩⟩), .v (.bool c4)]), (900001, .tre 37 10 6 3 (l5.map fun x : Node × Bool => (cNode x.1, x.2)))] [900000] fun p S' => p = .v (.int .i64 r.1) ∧ S' = [(900000, .box 52 [.own 900001, .v (.int .i64 c1), .v (.int .i64 c2), .v (.string ⟨⟨r.2.1⟩⟩), .v (.bool r.2.2.1)]), (900001, .tre 37 10 6 3 (r.2.2.2.map fun x : Node × Bool => (cNode x.1, x.2)))]
  | 0, _, _, _, _, _, _, h => by cases h
  | fu + 1, c1, c2, c3, c4, l5, r, hr => by
    have ih := Print_reader_node_ok fu
    refine fc_intro (args := [.loc 900000 0]) (S := [(900000, .box 52 [.own 900001, .v (.int .i64 c1), .v (.int .i64 c2), .v (.string ⟨⟨c3⟩⟩), .v (.bool c4)]), (900001, .tre 37 10 6 3 (l5.map fun x : Node × Bool => (cNode x.1, x.2)))]) (N0 := [900000]) (post := fun r p S => p = .v (.int .i64 r.1) ∧ S = [(900000, .box 52 [.own 900001, .v (.int .i64 c1), .v (.int .i64 c2), .v (.string ⟨⟨r.2.1⟩⟩), .v (.bool r.2.2.1)]), (900001, .tre 37 10 6 3 (r.2.2.2.map fun x : Node × Bool => (cNode x.1, x.2)))]) Tryz.func19 rfl rfl hr fun w0 X X0 σ0 _ => ?_
    refine pw_seq ?_
    refine pw_region ?_
    refine po_evs (T := tab) 1 rfl rfl ?_
    refine po_nil ?_
    refine pn_seq ?_
    refine pw_seq ?_
    refine pw_block ?_
    refine pw_seq ?_
    refine pw_region ?_
    refine po_evs (T := tab) 1 rfl rfl ?_
    refine po_turn [] (enc := fun (r6 : (Bool × Bs)) => .v (.bool r6.1)) (Sr := fun (r6 : (Bool × Bs)) => [(900000, .box 52 [.own 900001, .v (.int .i64 c1), .v (.int .i64 c2), .v (.string ⟨⟨r6.2⟩⟩), .v (.bool c4)]), (900001, .tre 37 10 6 3 (l5.map fun x : Node × Bool => (cNode x.1, x.2)))]) (first := []) (cap := []) (qs := [.loc 900000 0, .v (.string ⟨⟨[60]⟩⟩)]) (Sc := [(900000, .box 52 [.own 900001, .v (.int .i64 c1), .v (.int .i64 c2), .v (.string ⟨⟨c3⟩⟩), .v (.bool c4)]), (900001, .tre 37 10 6 3 (l5.map fun x : Node × Bool => (cNode x.1, x.2)))]) (N0 := [900000, 900001]) (NR := [900000, 900001]) (fun r6 hr6 => fc_ren [(900000, 900000), (900001, 900001)] [900000, 900001] (Print_reader_take_ok fu [60] c1 c2 c3 c4 l5 _ hr6) rfl rfl rfl rfl rfl rfl) ⟨rfl, rfl, trivial⟩ (fun _ => rfl) rfl rfl rfl rfl rfl rfl rfl (fun _ => rfl) (fun _ => rfl) rfl rfl rfl ⟨⟨_, rfl, .rfl⟩, ⟨_, rfl, .rfl⟩, trivial⟩ call40 rfl rfl fun r6 hr6 => ?_
    refine po_evs (T := tab) 1 rfl rfl ?_
    refine po_nil ?_
    refine pn_seq ?_
    refine pw_cnd rfl ?_ ?_
    · refine pw_seq ?_
      refine pw_region ?_
      refine po_evs (T := tab) 1 rfl rfl ?_
      refine po_turn [900001] (enc := fun (r7 : (Int × Bs × Bool × (List (Node × Bool)))) => .v (.int .i64 r7.1)) (Sr := fun (r7 : (Int × Bs × Bool × (List (Node × Bool)))) => [(900000, .box 52 [.own 900001, .v (.int .i64 c1), .v (.int .i64 c2), .v (.string ⟨⟨r7.2.1⟩⟩), .v (.bool r7.2.2.1)]), (900001, .tre 37 10 6 3 (r7.2.2.2.map fun x : Node × Bool => (cNode x.1, x.2)))]) (first := []) (cap := []) (qs := [.loc 900000 0]) (Sc := [(900000, .box 52 [.own 900001, .v (.int .i64 c1), .v (.int .i64 c2), .v (.string ⟨⟨r6.2⟩⟩), .v (.bool c4)]), (900001, .tre 37 10 6 3 (l5.map fun x : Node × Bool => (cNode x.1, x.2)))]) (N0 := [900000]) (NR := [900000, 900001]) (fun r7 hr7 => fc_ren [(900000, 900000), (900001, 900001)] [900000, 900001] (Print_reader_elem_i2_ok (Print_reader_node_m fu) ih fu c1 c2 r6.2 c4 l5 _ hr7) rfl rfl rfl rfl rfl rfl) ⟨rfl, rfl, trivial⟩ (fun _ => rfl) rfl rfl rfl rfl rfl rfl rfl (fun _ => rfl) (fun _ => rfl) rfl rfl rfl ⟨⟨_, rfl, .rfl⟩, trivial⟩ call41 rfl rfl fun r7 hr7 => ?_
      refine po_evs (T := tab) 1 rfl rfl ?_
      refine po_nil ?_
      refine pn_seq ?_
      exact pw_retN (T := tab) rfl rfl rfl ⟨rfl, rfl⟩ ⟨rfl, rfl, trivial⟩ rfl
    · refine pw_seq ?_
      refine pw_region ?_
      refine po_evs (T := tab) 1 rfl rfl ?_
      refine po_turn [] (enc := fun (r8 : (Bool × Bs)) => .v (.bool r8.1)) (Sr := fun (r8 : (Bool × Bs)) => [(900000, .box 52 [.own 900001, .v (.int .i64 c1), .v (.int .i64 c2), .v (.string ⟨⟨r8.2⟩⟩), .v (.bool c4)]), (900001, .tre 37 10 6 3 (l5.map fun x : Node × Bool => (cNode x.1, x.2)))]) (first := []) (cap := []) (qs := [.loc 900000 0, .v (.string ⟨⟨[91]⟩⟩)]) (Sc := [(900000, .box 52 [.own 900001, .v (.int .i64 c1), .v (.int .i64 c2), .v (.string ⟨⟨r6.2⟩⟩), .v (.bool c4)]), (900001, .tre 37 10 6 3 (l5.map fun x : Node × Bool => (cNode x.1, x.2)))]) (N0 := [900000, 900001]) (NR := [900000, 900001]) (fun r8 hr8 => fc_ren [(900000, 900000), (900001, 900001)] [900000, 900001] (Print_reader_take_ok fu [91] c1 c2 r6.2 c4 l5 _ hr8) rfl rfl rfl rfl rfl rfl) ⟨rfl, rfl, trivial⟩ (fun _ => rfl) rfl rfl rfl rfl rfl rfl rfl (fun _ => rfl) (fun _ => rfl) rfl rfl rfl ⟨⟨_, rfl, .rfl⟩, ⟨_, rfl, .rfl⟩, trivial⟩ call40 rfl rfl fun r8 hr8 => ?_
      refine po_evs (T := tab) 1 rfl rfl ?_
      refine po_nil ?_
      refine pn_seq ?_
      refine pw_cnd rfl ?_ ?_
      · refine pw_seq ?_
        refine pw_region ?_
        refine po_evs (T := tab) 1 rfl rfl ?_
        refine po_build (T := tab) rfl rfl rfl rfl rfl rfl rfl ?_
        refine po_turn [900001] (enc := fun (r9 : (Int × (List (Node × Bool)))) => .v (.int .i64 r9.1)) (Sr := fun (r9 : (Int × (List (Node × Bool)))) => [(900000, .box 52 [.own 900001, .v (.int .i64 c1), .v (.int .i64 c2), .v (.string ⟨⟨r8.2⟩⟩), .v (.bool c4)]), (900001, .tre 37 10 6 3 (r9.2.map fun x : Node × Bool => (cNode x.1, x.2)))]) (first := []) (cap := []) (qs := [.loc 900000 0, .agg [.v (.int .i64 3), .v (.string ⟨⟨[]⟩⟩), .v (.string ⟨⟨[]⟩⟩), .v (.string ⟨⟨[]⟩⟩), .sl 2 false ([].map cAttr), .v (.int .i64 0), .v (.slice none 0 0), .v (.int .i64 0), .v (.int .i64 0), .v (.int .i64 0)]]) (Sc := [(900000, .box 52 [.own 900001, .v (.int .i64 c1), .v (.int .i64 c2), .v (.string ⟨⟨r8.2⟩⟩), .v (.bool c4)]), (900001, .tre 37 10 6 3 (l5.map fun x : Node × Bool => (cNode x.1, x.2)))]) (N0 := [900000]) (NR := [900000, 900001]) (fun r9 hr9 => fc_ren [(900000, 900000), (900001, 900001)] [900000, 900001] (Print_reader_add_ok fu 3 [] [] [] [] 0 0 0 0 c1 c2 r8.2 c4 l5 _ hr9) rfl rfl rfl rfl rfl rfl) ⟨rfl, rfl, trivial⟩ (fun _ => rfl) rfl rfl rfl rfl rfl rfl rfl (fun _ => rfl) (fun _ => rfl) rfl rfl rfl ⟨⟨_, rfl, .rfl⟩, ⟨_, rfl, (.agg ⟨.rfl, .rfl, .rfl, .rfl, .nil, .rfl, .rfl, .rfl, .rfl, .rfl, trivial⟩)⟩, trivial⟩ call42 rfl rfl fun r9 hr9 => ?_
        refine po_evs (T := tab) 1 rfl rfl ?_
        refine po_nil ?_
        refine pn_seq ?_
        refine pw_seq ?_
        refine pw_region ?_
        refine po_evs (T := tab) 2 rfl rfl ?_
        refine po_turn [900001] (enc := fun (r10 : (Bs × Bool × (List (Node × Bool)))) => .tup []) (Sr := fun (r10 : (Bs × Bool × (List (Node × Bool)))) => [(900000, .box 52 [.own 900001, .v (.int .i64 c1), .v (.int .i64 c2), .v (.string ⟨⟨r10.1⟩⟩), .v (.bool r10.2.1)]), (900001, .tre 37 10 6 3 (r10.2.2.map fun x : Node × Bool => (cNode x.1, x.2)))]) (first := []) (cap := []) (qs := [.loc 900000 0, .v (.int .i64 r9.1), .v (.string ⟨⟨[93]⟩⟩)]) (Sc := [(900000, .box 52 [.own 900001, .v (.int .i64 c1), .v (.int .i64 c2), .v (.string ⟨⟨r8.2⟩⟩), .v (.bool c4)]), (900001, .tre 37 10 6 3 (r9.2.map fun x : Node × Bool => (cNode x.1, x.2)))]) (N0 := [900000]) (NR := [900000, 900001]) (fun r10 hr10 => fc_ren [(900000, 900000), (900001, 900001)] [900000, 900001] (Print_reader_kids_i2_ok (Print_reader_node_m fu) ih fu r9.1 [93] c1 c2 r8.2 c4 r9.2 _ hr10) rfl rfl rfl rfl rfl rfl) ⟨rfl, rfl, trivial⟩ (fun _ => rfl) rfl rfl rfl rfl rfl rfl rfl (fun _ => rfl) (fun _ => rfl) rfl rfl rfl ⟨⟨_, rfl, .rfl⟩, ⟨_, rfl, .rfl⟩, ⟨_, rfl, .rfl⟩, trivial⟩ call43 rfl rfl fun r10 hr10 => ?_
        refine po_nil ?_
        refine pn_seq ?_
        refine pw_seq ?_
        refine pw_region ?_
        refine po_evs (T := tab) 2 rfl rfl ?_
        refine po_nil ?_
        refine pn_seq ?_
        exact pw_retN (T := tab) rfl rfl rfl ⟨rfl, rfl⟩ ⟨rfl, rfl, trivial⟩ rfl
      · refine pw_skip ?_
        refine pn_block ?_
        refine pn_seq ?_
        refine pw_seq ?_
        refine pw_region ?_
        refine po_evs (T := tab) 2 rfl rfl ?_
        refine po_turn [] (enc := fun (r11 : (Bs × Bs × Bool)) => .v (.string ⟨⟨r11.1⟩⟩)) (Sr := fun (r11 : (Bs × Bs × Bool)) => [(900000, .box 52 [.own 900001, .v (.int .i64 c1), .v (.int .i64 c2), .v (.string ⟨⟨r11.2.1⟩⟩), .v (.bool r11.2.2)]), (900001, .tre 37 10 6 3 (l5.map fun x : Node × Bool => (cNode x.1, x.2)))]) (first := []) (cap := []) (qs := [.loc 900000 0]) (Sc := [(900000, .box 52 [.own 900001, .v (.int .i64 c1), .v (.int .i64 c2), .v (.string ⟨⟨r8.2⟩⟩), .v (.bool c4)]), (900001, .tre 37 10 6 3 (l5.map fun x : Node × Bool => (cNode x.1, x.2)))]) (N0 := [900000, 900001]) (NR := [900000, 900001]) (fun r11 hr11 => fc_ren [(900000, 900000), (900001, 900001)] [900000, 900001] (Print_reader_quoted_ok fu c1 c2 r8.2 c4 l5 _ hr11) rfl rfl rfl rfl rfl rfl) ⟨rfl, rfl, trivial⟩ (fun _ => rfl) rfl rfl rfl rfl rfl rfl rfl (fun _ => rfl) (fun _ => rfl) rfl rfl rfl ⟨⟨_, rfl, .rfl⟩, trivial⟩ call44 rfl rfl fun r11 hr11 => ?_
        refine po_build (T := tab) rfl rfl rfl rfl rfl rfl rfl ?_
        refine po_turn [900001] (enc := fun (r12 : (Int × (List (Node × Bool)))) => .v (.int .i64 r12.1)) (Sr := fun (r12 : (Int × (List (Node × Bool)))) => [(900000, .box 52 [.own 900001, .v (.int .i64 c1), .v (.int .i64 c2), .v (.string ⟨⟨r11.2.1⟩⟩), .v (.bool r11.2.2)]), (900001, .tre 37 10 6 3 (r12.2.map fun x : Node × Bool => (cNode x.1, x.2)))]) (first := []) (cap := []) (qs := [.loc 900000 0, .agg [.v (.int .i64 2), .v (.string ⟨⟨[]⟩⟩), .v (.string ⟨⟨[]⟩⟩), .v (.string ⟨⟨r11.1⟩⟩), .sl 2 false ([].map cAttr), .v (.int .i64 0), .v (.slice none 0 0), .v (.int .i64 0), .v (.int .i64 0), .v (.int .i64 0)]]) (Sc := [(900000, .box 52 [.own 900001, .v (.int .i64 c1), .v (.int .i64 c2), .v (.string ⟨⟨r11.2.1⟩⟩), .v (.bool r11.2.2)]), (900001, .tre 37 10 6 3 (l5.map fun x : Node × Bool => (cNode x.1, x.2)))]) (N0 := [900000]) (NR := [900000, 900001]) (fun r12 hr12 => fc_ren [(900000, 900000), (900001, 900001)] [900000, 900001] (Print_reader_add_ok fu 2 [] [] r11.1 [] 0 0 0 0 c1 c2 r11.2.1 r11.2.2 l5 _ hr12) rfl rfl rfl rfl rfl rfl) ⟨rfl, rfl, trivial⟩ (fun _ => rfl) rfl rfl rfl rfl rfl rfl rfl (fun _ => rfl) (fun _ => rfl) rfl rfl rfl ⟨⟨_, rfl, .rfl⟩, ⟨_, rfl, (.agg ⟨.rfl, .rfl, .rfl, .rfl, .nil, .rfl, .rfl, .rfl, .rfl, .rfl, trivial⟩)⟩, trivial⟩ call42 rfl rfl fun r12 hr12 => ?_
        refine po_evs (T := tab) 1 rfl rfl ?_
        refine po_nil ?_
        refine pn_seq ?_
        exact pw_retN (T := tab) rfl rfl rfl ⟨rfl, rfl⟩ ⟨rfl, rfl, trivial⟩ rfl

def Print_Read_m (fu : Nat) (f1 : Forest) (doc2 : Int) (s3 : Bs) : Option (Forest × Int × Int) := bnd (Forest_Right_m fu f1) fun r4 => cnd (!r4) (some (f1, (-1), 1)) (cnd (decide (doc2 < 0)) (some (f1, (-1), 1)) (cnd (decide (doc2 ≥ ((f1.Nodes.length : Nat) : Int))) (some (f1, (-1), 1)) (bnd (idx f1.Nodes doc2) fun y5 => cnd (y5.Kind != 0) (some (f1, (-1), 1)) (cnd (decide (((s3.length : Nat) : Int) > 16384)) (some (f1, (-1), 3)) (bnd (Slices_Clone_apiNode_m fu f1.Nodes) fun r6 => bnd (Print_reader_node_m fu 400 doc2 s3 false (r6.map fun x => (x, false))) fun r7 => cnd r7.2.2.1 (some (f1, (-1), 2)) (cnd (!(r7.2.1 == ([] : Bs))) (some (f1, (-1), 2)) (bnd (Forest_Right_m fu (⟨(r7.2.2.2.map Prod.fst), 400⟩ : Forest)) fun r8 => cnd (!r8) (some (f1, (-1), 2)) (cnd (decide ((((r7.2.2.2.map Prod.fst).length : Nat) : Int) > f1.Most)) (some (f1, (-1), 8)) (some ((⟨(r7.2.2.2.map Prod.fst), f1.Most⟩ : Forest), ((f1.Nodes.length : Nat) : Int), 0))))))))))

set_option maxHeartbeats 10000000 in
set_option maxRecDepth 100000 in
theorem Print_Read_ok (fu : Nat) (f1 : Forest) (doc2 : Int) (s3 : Bs) : ∀ r, Print_Read_m fu f1 doc2 s3 = some r → DC laidL Tryz.prog 9 [.agg (cForest f1), .v (.int .i64 doc2), .v (.string ⟨⟨s3⟩⟩)] (.tup [.agg (cForest r.1), .v (.int .i64 r.2.1), .v (.int .i64 r.2.2)]) := by
  intro r hr
  refine fc_intro (args := [.agg (cForest f1), .v (.int .i64 doc2), .v (.string ⟨⟨s3⟩⟩)]) (S := []) (N0 := []) (post := fun r p S => p = .tup [.agg (cForest r.1), .v (.int .i64 r.2.1), .v (.int .i64 r.2.2)] ∧ S = []) Tryz.func9 rfl rfl hr fun w0 X X0 σ0 _ => ?_
  refine pw_seq ?_
  refine pw_region ?_
  refine po_box  3 rfl rfl rfl rfl rfl rfl rfl rfl rfl rfl ?_
  refine po_alloc (T := tab) 6 rfl rfl rfl rfl rfl rfl rfl rfl rfl ?_
  refine po_evs (T := tab) 2 rfl rfl ?_
  refine po_nil ?_
  refine pn_seq ?_
  refine pw_seq ?_
  refine pw_block ?_
  refine pw_seq ?_
  refine pw_region ?_
  refine po_evs (T := tab) 1 rfl rfl ?_
  refine po_call (enc := fun (r4 : Bool) => .v (.bool r4)) (qs := [.agg (cForest f1)]) (Forest_Right_ok fu f1) rfl rfl ⟨⟨_, rfl, .rfl⟩, trivial⟩ (fun _ => rfl) call8 rfl rfl fun r4 hr4 => ?_
  refine po_evs (T := tab) 2 rfl rfl ?_
  refine po_split (j := 15) rfl ?_ ?_
  · refine po_evs (T := tab) 20 rfl rfl ?_
    refine po_nil ?_
    refine pn_seq (pw_then rfl ?_)
    refine pw_seq ?_
    refine pw_region ?_
    refine po_evs (T := tab) 1 rfl rfl ?_
    refine po_store (T := tab) rfl rfl rfl rfl rfl rfl rfl rfl rfl rfl rfl rfl ?_
    refine po_evs (T := tab) 2 rfl rfl ?_
    refine po_nil ?_
    refine pn_seq ?_
    exact pw_retN (T := tab) rfl rfl rfl ⟨rfl, rfl⟩ trivial rfl
  · refine po_evs (T := tab) 4 rfl rfl ?_
    refine po_split (j := 19) rfl ?_ ?_
    · refine po_evs (T := tab) 16 rfl rfl ?_
      refine po_nil ?_
      refine pn_seq (pw_then rfl ?_)
      refine pw_seq ?_
      refine pw_region ?_
      refine po_evs (T := tab) 1 rfl rfl ?_
      refine po_store (T := tab) rfl rfl rfl rfl rfl rfl rfl rfl rfl rfl rfl rfl ?_
      refine po_evs (T := tab) 2 rfl rfl ?_
      refine po_nil ?_
      refine pn_seq ?_
      exact pw_retN (T := tab) rfl rfl rfl ⟨rfl, rfl⟩ trivial rfl
    · refine po_evs (T := tab) 3 rfl rfl ?_
      refine po_len (T := tab) cNode f1.Nodes rfl rfl rfl rfl rfl rfl rfl rfl ?_
      refine po_evs (T := tab) 3 rfl rfl ?_
      refine po_split (j := 26) rfl ?_ ?_
      · refine po_evs (T := tab) 9 rfl rfl ?_
        refine po_nil ?_
        refine pn_seq (pw_then rfl ?_)
        refine pw_seq ?_
        refine pw_region ?_
        refine po_evs (T := tab) 1 rfl rfl ?_
        refine po_store (T := tab) rfl rfl rfl rfl rfl rfl rfl rfl rfl rfl rfl rfl ?_
        refine po_evs (T := tab) 2 rfl rfl ?_
        refine po_nil ?_
        refine pn_seq ?_
        exact pw_retN (T := tab) rfl rfl rfl ⟨rfl, rfl⟩ trivial rfl
      · refine po_evs (T := tab) 3 rfl rfl ?_
        refine po_idx (T := tab) cNode f1.Nodes rfl rfl rfl rfl rfl rfl rfl fun y5 hy5 => ?_
        refine po_evs (T := tab) 5 rfl rfl ?_
        refine po_nil ?_
        refine pn_seq ?_
        refine pw_cnd rfl ?_ ?_
        · refine pw_seq ?_
          refine pw_region ?_
          refine po_evs (T := tab) 1 rfl rfl ?_
          refine po_store (T := tab) rfl rfl rfl rfl rfl rfl rfl rfl rfl rfl rfl rfl ?_
          refine po_evs (T := tab) 2 rfl rfl ?_
          refine po_nil ?_
          refine pn_seq ?_
          exact pw_retN (T := tab) rfl rfl rfl ⟨rfl, rfl⟩ trivial rfl
        · refine pw_seq ?_
          refine pw_region ?_
          refine po_evs (T := tab) 4 rfl rfl ?_
          refine po_nil ?_
          refine pn_seq ?_
          refine pw_cnd rfl ?_ ?_
          · refine pw_seq ?_
            refine pw_region ?_
            refine po_evs (T := tab) 1 rfl rfl ?_
            refine po_store (T := tab) rfl rfl rfl rfl rfl rfl rfl rfl rfl rfl rfl rfl ?_
            refine po_evs (T := tab) 2 rfl rfl ?_
            refine po_nil ?_
            refine pn_seq ?_
            exact pw_retN (T := tab) rfl rfl rfl ⟨rfl, rfl⟩ trivial rfl
          · refine pw_skip ?_
            refine pn_block ?_
            refine pn_seq ?_
            refine pw_seq ?_
            refine pw_region ?_
            refine po_evs (T := tab) 2 rfl rfl ?_
            refine po_len (T := tab) cNode f1.Nodes rfl rfl rfl rfl rfl rfl rfl rfl ?_
            refine po_evs (T := tab) 1 rfl rfl ?_
            refine po_nil ?_
            refine pn_seq ?_
            refine pw_seq ?_
            refine pw_region ?_
            refine po_evs (T := tab) 2 rfl rfl ?_
            refine po_turn [2460] (enc := fun (r6 : (List Node)) => .own 2460) (Sr := fun (r6 : (List Node)) => [(2460, .arr 37 10 (r6.map cNode))]) (first := []) (cap := []) (qs := [.sl 10 false (f1.Nodes.map cNode)]) (Sc := []) (N0 := []) (NR := [2460]) (fun r6 hr6 => fc_ren [(5, 2460)] [5] (Slices_Clone_apiNode_ok fu f1.Nodes _ hr6) rfl rfl rfl rfl rfl rfl) trivial (fun _ => rfl) rfl rfl rfl rfl rfl rfl rfl (fun _ => rfl) (fun _ => rfl) rfl rfl rfl ⟨⟨_, rfl, .rfl⟩, trivial⟩ call18 rfl rfl fun r6 hr6 => ?_
            refine po_toT 2460 6 3 cNode r6 rfl rfl rfl rfl ?_
            refine po_build (T := tab) rfl rfl rfl rfl rfl rfl rfl ?_
            refine po_evs (T := tab) 2 rfl rfl ?_
            refine po_build (T := tab) rfl rfl rfl rfl rfl rfl rfl ?_
            refine po_box  51 rfl rfl rfl rfl rfl rfl rfl rfl rfl rfl ?_
            refine po_evs (T := tab) 1 rfl rfl ?_
            refine po_nil ?_
            refine pn_seq ?_
            refine pw_seq ?_
            refine pw_region ?_
            refine po_evs (T := tab) 1 rfl rfl ?_
            refine po_turn [2460] (enc := fun (r7 : (Int × Bs × Bool × (List (Node × Bool)))) => .v (.int .i64 r7.1)) (Sr := fun (r7 : (Int × Bs × Bool × (List (Node × Bool)))) => [(51, .box 52 [.own 2460, .v (.int .i64 400), .v (.int .i64 doc2), .v (.string ⟨⟨r7.2.1⟩⟩), .v (.bool r7.2.2.1)]), (2460, .tre 37 10 6 3 (r7.2.2.2.map fun x : Node × Bool => (cNode x.1, x.2)))]) (first := []) (cap := []) (qs := [.loc 51 0]) (Sc := [(51, .box 52 [.own 2460, .v (.int .i64 400), .v (.int .i64 doc2), .v (.string ⟨⟨s3⟩⟩), .v (.bool false)]), (2460, .tre 37 10 6 3 ((r6.map fun x => (x, false)).map fun x : Node × Bool => (cNode x.1, x.2)))]) (N0 := [51]) (NR := [51, 2460]) (fun r7 hr7 => fc_ren [(900000, 51), (900001, 2460)] [900000, 900001] (Print_reader_node_ok fu 400 doc2 s3 false (r6.map fun x => (x, false)) _ hr7) rfl rfl rfl rfl rfl rfl) ⟨rfl, rfl, trivial⟩ (fun _ => rfl) rfl rfl rfl rfl rfl rfl rfl (fun _ => rfl) (fun _ => rfl) rfl rfl rfl ⟨⟨_, rfl, .rfl⟩, trivial⟩ call19 rfl rfl fun r7 hr7 => ?_
            refine po_nil ?_
            refine pn_seq ?_
            refine pw_seq ?_
            refine pw_seq ?_
            refine pw_region ?_
            refine po_evs (T := tab) 5 rfl rfl ?_
            refine po_split (j := 58) rfl ?_ ?_
            · refine po_evs (T := tab) 14 rfl rfl ?_
              refine po_nil ?_
              refine pn_seq (pw_then rfl ?_)
              refine pw_seq ?_
              refine pw_region ?_
              refine po_evs (T := tab) 1 rfl rfl ?_
              refine po_store (T := tab) rfl rfl rfl rfl rfl rfl rfl rfl rfl rfl rfl rfl ?_
              refine po_evs (T := tab) 2 rfl rfl ?_
              refine po_nil ?_
              refine pn_seq ?_
              exact pw_retN (T := tab) rfl rfl rfl ⟨rfl, rfl⟩ trivial rfl
            · refine po_evs (T := tab) 7 rfl rfl ?_
              refine po_split (j := 65) rfl ?_ ?_
              · refine po_evs (T := tab) 7 rfl rfl ?_
                refine po_nil ?_
                refine pn_seq (pw_then rfl ?_)
                refine pw_seq ?_
                refine pw_region ?_
                refine po_evs (T := tab) 1 rfl rfl ?_
                refine po_store (T := tab) rfl rfl rfl rfl rfl rfl rfl rfl rfl rfl rfl rfl ?_
                refine po_evs (T := tab) 2 rfl rfl ?_
                refine po_nil ?_
                refine pn_seq ?_
                exact pw_retN (T := tab) rfl rfl rfl ⟨rfl, rfl⟩ trivial rfl
              · refine po_evs (T := tab) 4 rfl rfl ?_
                refine po_freezeT 2460 (fun x : Node × Bool => (cNode x.1, x.2)) Prod.fst cNode r7.2.2.2 (fun _ => rfl) (fun _ => rfl) rfl rfl rfl ?_
                refine po_call (enc := fun (r8 : Bool) => .v (.bool r8)) (qs := [.agg (cForest (⟨(r7.2.2.2.map Prod.fst), 400⟩ : Forest))]) (Forest_Right_ok fu (⟨(r7.2.2.2.map Prod.fst), 400⟩ : Forest)) rfl rfl ⟨⟨_, rfl, .rfl⟩, trivial⟩ (fun _ => rfl) call8 rfl rfl fun r8 hr8 => ?_
                refine po_evs (T := tab) 2 rfl rfl ?_
                refine po_nil ?_
                refine pn_seq ?_
                refine pw_cnd rfl ?_ ?_
                · refine pw_seq ?_
                  refine pw_region ?_
                  refine po_evs (T := tab) 1 rfl rfl ?_
                  refine po_store (T := tab) rfl rfl rfl rfl rfl rfl rfl rfl rfl rfl rfl rfl ?_
                  refine po_evs (T := tab) 2 rfl rfl ?_
                  refine po_nil ?_
                  refine pn_seq ?_
                  exact pw_retN (T := tab) rfl rfl rfl ⟨rfl, rfl⟩ trivial rfl
                · refine pw_skip ?_
                  refine pn_seq ?_
                  refine pw_seq ?_
                  refine pw_seq ?_
                  refine pw_draw mixed (by kernel_rfl) ?_
                  refine pd_evs (T := tab) 5 rfl rfl ?_
                  refine pd_len (T := tab) cNode (r7.2.2.2.map Prod.fst) rfl rfl rfl rfl rfl rfl rfl rfl ?_
                  refine pd_evs (T := tab) 3 rfl rfl ?_
                  refine pd_nil ?_
                  refine pn_seq ?_
                  refine pw_cnd rfl ?_ ?_
                  · refine pw_seq ?_
                    refine pw_region ?_
                    refine po_evs (T := tab) 1 rfl rfl ?_
                    refine po_store (T := tab) rfl rfl rfl rfl rfl rfl rfl rfl rfl rfl rfl rfl ?_
                    refine po_evs (T := tab) 2 rfl rfl ?_
                    refine po_nil ?_
                    refine pn_seq ?_
                    exact pw_retN (T := tab) rfl rfl rfl ⟨rfl, rfl⟩ trivial rfl
                  · refine pw_skip ?_
                    refine pn_seq ?_
                    refine pw_seq ?_
                    refine pw_region ?_
                    refine po_evs (T := tab) 6 rfl rfl ?_
                    refine po_store (T := tab) rfl rfl rfl rfl rfl rfl rfl rfl rfl rfl rfl rfl ?_
                    refine po_nil ?_
                    refine pn_seq ?_
                    refine pw_seq ?_
                    refine pw_region ?_
                    refine po_evs (T := tab) 5 rfl rfl ?_
                    refine po_store (T := tab) rfl rfl rfl rfl rfl rfl rfl rfl rfl rfl rfl rfl ?_
                    refine po_evs (T := tab) 2 rfl rfl ?_
                    refine po_nil ?_
                    refine pn_seq ?_
                    exact pw_retN (T := tab) rfl rfl rfl ⟨rfl, rfl⟩ trivial rfl

def Print_Fresh_m (fu : Nat) (s1 : Bs) (most2 : Int) : Option (Forest × Int × Int) := bnd (Forest_New_m fu most2) fun r3 => cnd (r3.2 != 0) (some ((⟨[], 0⟩ : Forest), (-1), r3.2)) (bnd (Print_Read_m fu r3.1 0 s1) fun r4 => cnd (r4.2.2 != 0) (some ((⟨[], 0⟩ : Forest), (-1), r4.2.2)) (some (r4.1, r4.2.1, 0)))

set_option maxHeartbeats 10000000 in
set_option maxRecDepth 100000 in
theorem Print_Fresh_ok (fu : Nat) (s1 : Bs) (most2 : Int) : ∀ r, Print_Fresh_m fu s1 most2 = some r → DC laidL Tryz.prog 16 [.v (.string ⟨⟨s1⟩⟩), .v (.int .i64 most2)] (.tup [.agg (cForest r.1), .v (.int .i64 r.2.1), .v (.int .i64 r.2.2)]) := by
  intro r hr
  refine fc_intro (args := [.v (.string ⟨⟨s1⟩⟩), .v (.int .i64 most2)]) (S := []) (N0 := []) (post := fun r p S => p = .tup [.agg (cForest r.1), .v (.int .i64 r.2.1), .v (.int .i64 r.2.2)] ∧ S = []) Tryz.func16 rfl rfl hr fun w0 X X0 σ0 _ => ?_
  refine pw_seq ?_
  refine pw_region ?_
  refine po_alloc (T := tab) 4 rfl rfl rfl rfl rfl rfl rfl rfl rfl ?_
  refine po_evs (T := tab) 2 rfl rfl ?_
  refine po_nil ?_
  refine pn_seq ?_
  refine pw_seq ?_
  refine pw_region ?_
  refine po_evs (T := tab) 1 rfl rfl ?_
  refine po_call (enc := fun (r3 : (Forest × Int)) => .tup [.agg (cForest r3.1), .v (.int .i64 r3.2)]) (qs := [.v (.int .i64 most2)]) (Forest_New_ok fu most2) rfl rfl ⟨⟨_, rfl, .rfl⟩, trivial⟩ (fun _ => rfl) call33 rfl rfl fun r3 hr3 => ?_
  refine po_evs (T := tab) 3 rfl rfl ?_
  refine po_alloc (T := tab) 7 rfl rfl rfl rfl rfl rfl rfl rfl rfl ?_
  refine po_store (T := tab) rfl rfl rfl rfl rfl rfl rfl rfl rfl rfl rfl rfl ?_
  refine po_evs (T := tab) 1 rfl rfl ?_
  refine po_nil ?_
  refine pn_seq ?_
  refine pw_seq ?_
  refine pw_seq ?_
  refine pw_region ?_
  refine po_evs (T := tab) 2 rfl rfl ?_
  refine po_nil ?_
  refine pn_seq ?_
  refine pw_cnd rfl ?_ ?_
  · refine pw_seq ?_
    refine pw_region ?_
    refine po_build (T := tab) rfl rfl rfl rfl rfl rfl rfl ?_
    refine po_evs (T := tab) 1 rfl rfl ?_
    refine po_store (T := tab) rfl rfl rfl rfl rfl rfl rfl rfl rfl rfl rfl rfl ?_
    refine po_evs (T := tab) 2 rfl rfl ?_
    refine po_nil ?_
    refine pn_seq ?_
    refine pw_coeS 4 [.sl 10 false ([].map cNode), .v (.int .i64 0)] rfl ⟨.nil, .rfl, trivial⟩ rfl ?_
    exact pw_retN (T := tab) rfl rfl rfl ⟨rfl, rfl⟩ trivial rfl
  · refine pw_skip ?_
    refine pn_seq ?_
    refine pw_seq ?_
    refine pw_region ?_
    refine po_evs (T := tab) 2 rfl rfl ?_
    refine po_call (enc := fun (r4 : (Forest × Int × Int)) => .tup [.agg (cForest r4.1), .v (.int .i64 r4.2.1), .v (.int .i64 r4.2.2)]) (qs := [.agg (cForest r3.1), .v (.int .i64 0), .v (.string ⟨⟨s1⟩⟩)]) (Print_Read_ok fu r3.1 0 s1) rfl rfl ⟨⟨_, rfl, .rfl⟩, ⟨_, rfl, .rfl⟩, ⟨_, rfl, .rfl⟩, trivial⟩ (fun _ => rfl) call9 rfl rfl fun r4 hr4 => ?_
    refine po_evs (T := tab) 4 rfl rfl ?_
    refine po_alloc (T := tab) 9 rfl rfl rfl rfl rfl rfl rfl rfl rfl ?_
    refine po_store (T := tab) rfl rfl rfl rfl rfl rfl rfl rfl rfl rfl rfl rfl ?_
    refine po_evs (T := tab) 2 rfl rfl ?_
    refine po_nil ?_
    refine pn_seq ?_
    refine pw_seq ?_
    refine pw_seq ?_
    refine pw_region ?_
    refine po_evs (T := tab) 2 rfl rfl ?_
    refine po_nil ?_
    refine pn_seq ?_
    refine pw_cnd rfl ?_ ?_
    · refine pw_seq ?_
      refine pw_region ?_
      refine po_build (T := tab) rfl rfl rfl rfl rfl rfl rfl ?_
      refine po_evs (T := tab) 1 rfl rfl ?_
      refine po_store (T := tab) rfl rfl rfl rfl rfl rfl rfl rfl rfl rfl rfl rfl ?_
      refine po_evs (T := tab) 2 rfl rfl ?_
      refine po_nil ?_
      refine pn_seq ?_
      refine pw_coeS 4 [.sl 10 false ([].map cNode), .v (.int .i64 0)] rfl ⟨.nil, .rfl, trivial⟩ rfl ?_
      exact pw_retN (T := tab) rfl rfl rfl ⟨rfl, rfl⟩ trivial rfl
    · refine pw_skip ?_
      refine pn_seq ?_
      refine pw_seq ?_
      refine pw_region ?_
      refine po_evs (T := tab) 2 rfl rfl ?_
      refine po_store (T := tab) rfl rfl rfl rfl rfl rfl rfl rfl rfl rfl rfl rfl ?_
      refine po_evs (T := tab) 2 rfl rfl ?_
      refine po_nil ?_
      refine pn_seq ?_
      exact pw_retN (T := tab) rfl rfl rfl ⟨rfl, rfl⟩ trivial rfl

set_option maxRecDepth 100000 in
theorem Strings_Builder_copyCheck_i2_ok (fu : Nat) (c1 : (List Node)) (c2 : Int) (l3 : (List Int)) : ∀ r, Strings_Builder_copyCheck_m fu = some r → FC laidL Tryz.prog 68 [.loc 900000 0] [(900000, .box 60 [.nloc 900000 0, .ownb 900001, .sl 10 false (c1.map cNode), .v (.int .i64 c2)]), (900001, .arr 5 1 (l3.map cInt_u8))] [900000, 900001] fun p S' => p = .tup [] ∧ S' = [(900000, .box 60 [.nloc 900000 0, .ownb 900001, .sl 10 false (c1.map cNode), .v (.int .i64 c2)]), (900001, .arr 5 1 (l3.map cInt_u8))] := by
  intro r hr
  refine fc_intro (args := [.loc 900000 0]) (S := [(900000, .box 60 [.nloc 900000 0, .ownb 900001, .sl 10 false (c1.map cNode), .v (.int .i64 c2)]), (900001, .arr 5 1 (l3.map cInt_u8))]) (N0 := [900000, 900001]) (post := fun r p S => p = .tup [] ∧ S = [(900000, .box 60 [.nloc 900000 0, .ownb 900001, .sl 10 false (c1.map cNode), .v (.int .i64 c2)]), (900001, .arr 5 1 (l3.map cInt_u8))]) Tryz.func68 rfl rfl hr fun w0 X X0 σ0 _ => ?_
  refine pw_seq ?_
  refine pw_region ?_
  refine po_evs (T := tab) 3 rfl rfl ?_
  refine po_nsplit 900000 0 rfl rfl rfl rfl rfl rfl ?_ ?_
  · refine po_evs (T := tab) 1 rfl rfl ?_
    refine po_ptr (T := tab) Tryz.underlying55 rfl rfl rfl rfl rfl rfl rfl rfl ?_
    refine po_nil ?_
    refine pn_seq ?_
    refine pw_then rfl ?_
    refine pw_region ?_
    refine po_evs (T := tab) 2 rfl rfl ?_
    refine po_noescape (T := tab) Tryz.underlying55 Tryz.underlying131 rfl rfl Tryz.func91 rfl rfl rfl rfl rfl rfl rfl rfl rfl (by kernel_rfl) rfl rfl rfl rfl rfl rfl rfl rfl rfl rfl rfl ?_
    refine po_evs (T := tab) 2 rfl rfl ?_
    refine po_store (T := tab) rfl rfl rfl rfl rfl rfl rfl rfl rfl rfl rfl rfl ?_
    refine po_nil ?_
    refine pn_coeS 900000 [.nloc 900000 0, .ownb 900001, .sl 10 false (c1.map cNode), .v (.int .i64 c2)] rfl ⟨.nloc1, .rfl, .rfl, .rfl, trivial⟩ rfl ?_
    exact pn_retN (T := tab) rfl rfl rfl ⟨rfl, rfl⟩ ⟨rfl, rfl, trivial⟩ rfl
  · refine po_evs (T := tab) 1 rfl rfl ?_
    refine po_ptr (T := tab) Tryz.underlying55 rfl rfl rfl rfl rfl rfl rfl rfl ?_
    refine po_nil ?_
    refine pn_seq ?_
    refine pw_else rfl ?_
    refine pw_seq ?_
    refine pw_region ?_
    refine po_evs (T := tab) 5 rfl rfl ?_
    refine po_ptr (T := tab) Tryz.underlying55 rfl rfl rfl rfl rfl rfl rfl rfl ?_
    refine po_nil ?_
    refine pn_seq ?_
    refine pw_else rfl ?_
    refine pw_skip ?_
    refine pn_coeS 900000 [.nloc 900000 0, .ownb 900001, .sl 10 false (c1.map cNode), .v (.int .i64 c2)] rfl ⟨.nloc1, .rfl, .rfl, .rfl, trivial⟩ rfl ?_
    exact pn_retN (T := tab) rfl rfl rfl ⟨rfl, rfl⟩ ⟨rfl, rfl, trivial⟩ rfl

def Strings_Builder_WriteString_m (fu : Nat) (s1 : Bs) (l4 : (List Int)) : Option (Int × Bool × (List Int)) := bnd (Strings_Builder_copyCheck_m fu) fun r5 => bnd (roomy 1 (l4.length + s1.length)) fun _ => some (((s1.length : Nat) : Int), false, (l4 ++ bytesOf s1))

set_option maxRecDepth 100000 in
theorem Strings_Builder_WriteString_ok (fu : Nat) (s1 : Bs) (c2 : (List Node)) (c3 : Int) (l4 : (List Int)) : ∀ r, Strings_Builder_WriteString_m fu s1 l4 = some r → FC laidL Tryz.prog 45 [.loc 900000 0, .v (.string ⟨⟨s1⟩⟩)] [(900000, .box 60 [.nloc 900000 0, .ownb 900001, .sl 10 false (c2.map cNode), .v (.int .i64 c3)]), (900001, .arr 5 1 (l4.map cInt_u8))] [900000] fun p S' => p = .tup [.v (.int .i64 r.1), .err r.2.1] ∧ S' = [(900000, .box 60 [.nloc 900000 0, .ownb 900001, .sl 10 false (c2.map cNode), .v (.int .i64 c3)]), (900001, .arr 5 1 (r.2.2.map cInt_u8))] := by
  intro r hr
  refine fc_intro (args := [.loc 900000 0, .v (.string ⟨⟨s1⟩⟩)]) (S := [(900000, .box 60 [.nloc 900000 0, .ownb 900001, .sl 10 false (c2.map cNode), .v (.int .i64 c3)]), (900001, .arr 5 1 (l4.map cInt_u8))]) (N0 := [900000]) (post := fun r p S => p = .tup [.v (.int .i64 r.1), .err r.2.1] ∧ S = [(900000, .box 60 [.nloc 900000 0, .ownb 900001, .sl 10 false (c2.map cNode), .v (.int .i64 c3)]), (900001, .arr 5 1 (r.2.2.map cInt_u8))]) Tryz.func45 rfl rfl hr fun w0 X X0 σ0 _ => ?_
  refine pw_seq ?_
  refine pw_region ?_
  refine po_evs (T := tab) 2 rfl rfl ?_
  refine po_nil ?_
  refine pn_seq ?_
  refine pw_seq ?_
  refine pw_region ?_
  refine po_evs (T := tab) 1 rfl rfl ?_
  refine po_callv (enc := fun (r5 : Unit) => .tup []) (first := []) (cap := []) (qs := [.loc 900000 0]) (Sc := [(900000, .box 60 [.nloc 900000 0, .ownb 900001, .sl 10 false (c2.map cNode), .v (.int .i64 c3)]), (900001, .arr 5 1 (l4.map cInt_u8))]) (fun r5 hr5 => fc_ren [(900000, 900000), (900001, 900001)] [900000, 900001] (Strings_Builder_copyCheck_i2_ok fu c2 c3 l4 _ hr5) rfl rfl rfl rfl rfl rfl) (subS_of ⟨rfl, rfl, trivial⟩ rfl) rfl rfl rfl rfl ⟨⟨_, rfl, .rfl⟩, trivial⟩ (fun _ => rfl) call68 rfl rfl fun r5 hr5 => ?_
  refine po_nil ?_
  refine pn_seq ?_
  refine pw_seq ?_
  refine pw_region ?_
  refine po_evs (T := tab) 6 rfl rfl ?_
  refine po_append_str (T := tab) cInt_u8 l4 (fun _ => rfl) rfl rfl rfl rfl rfl rfl rfl rfl rfl rfl rfl rfl rfl rfl rfl rfl ?_
  refine po_evs (T := tab) 2 rfl rfl ?_
  refine po_store (T := tab) rfl rfl rfl rfl rfl rfl rfl rfl rfl rfl rfl rfl ?_
  refine po_nil ?_
  refine pn_seq ?_
  refine pw_seq ?_
  refine pw_region ?_
  refine po_evs (T := tab) 4 rfl rfl ?_
  refine po_nil ?_
  refine pn_seq ?_
  refine pw_coe 5 (q := .err false) rfl .err0 ?_
  exact pw_retN (T := tab) rfl rfl rfl ⟨rfl, rfl⟩ ⟨rfl, rfl, trivial⟩ rfl

def Print_printer_all_l1 (sg64 : Int → (List Node) → Int → (List Int) → Option (List Int)) (l1 : (List Int)) (c2 : (List Node)) (c3 : Int) : Nat → Int × (List Int) → Option (List Int)
  | 0, _ => none
  | k1 + 1, (t5, l6) => cnd (decide (t5 < ((l1.length : Nat) : Int))) (bnd (idx l1 t5) fun y7 => bnd (sg64 y7 c2 c3 l6) fun r8 => bnd (rng .i64 (t5 + 1)) fun i9 => (Print_printer_all_l1 sg64 l1 c2 c3 k1) (i9, r8)) (some l6)

def Print_printer_all_m (sg64 : Int → (List Node) → Int → (List Int) → Option (List Int)) (fu : Nat) (l1 : (List Int)) (c2 : (List Node)) (c3 : Int) (l4 : (List Int)) : Option (List Int) := (Print_printer_all_l1 sg64 l1 c2 c3) fu (0, l4)

set_option maxRecDepth 100000 in
theorem Print_printer_all_i2_ok (sg64 : Int → (List Node) → Int → (List Int) → Option (List Int)) (ih64 : ∀ (n1 : Int) (c2 : (List Node)) (c3 : Int) (l4 : (List Int)) r, sg64 n1 c2 c3 l4 = some r → FC laidL Tryz.prog 20 [.loc 900000 0, .v (.int .i64 n1)] [(900000, .box 60 [.nloc 900000 0, .ownb 900001, .sl 10 false (c2.map cNode), .v (.int .i64 c3)]), (900001, .arr 5 1 (l4.map cInt_u8))] [900000] fun p S' => p = .tup [] ∧ S' = [(900000, .box 60 [.nloc 900000 0, .ownb 900001, .sl 10 false (c2.map cNode), .v (.int .i64 c3)]), (900001, .arr 5 1 (r.map cInt_u8))]) (fu : Nat) (l1 : (List Int)) (c2 : (List Node)) (c3 : Int) (l4 : (List Int)) : ∀ r, Print_printer_all_m sg64 fu l1 c2 c3 l4 = some r → FC laidL Tryz.prog 69 [.loc 900000 0, .sl 1 false (l1.map cInt_i64)] [(900000, .box 60 [.nloc 900000 0, .ownb 900001, .sl 10 false (c2.map cNode), .v (.int .i64 c3)]), (900001, .arr 5 1 (l4.map cInt_u8))] [900000] fun p S' => p = .tup [] ∧ S' = [(900000, .box 60 [.nloc 900000 0, .ownb 900001, .sl 10 false (c2.map cNode), .v (.int .i64 c3)]), (900001, .arr 5 1 (r.map cInt_u8))] := by
  intro r hr
  refine fc_intro (args := [.loc 900000 0, .sl 1 false (l1.map cInt_i64)]) (S := [(900000, .box 60 [.nloc 900000 0, .ownb 900001, .sl 10 false (c2.map cNode), .v (.int .i64 c3)]), (900001, .arr 5 1 (l4.map cInt_u8))]) (N0 := [900000]) (post := fun r p S => p = .tup [] ∧ S = [(900000, .box 60 [.nloc 900000 0, .ownb 900001, .sl 10 false (c2.map cNode), .v (.int .i64 c3)]), (900001, .arr 5 1 (r.map cInt_u8))]) Tryz.func69 rfl rfl hr fun w0 X X0 σ0 _ => ?_
  refine pw_seq ?_
  refine pw_region ?_
  refine po_evs (T := tab) 1 rfl rfl ?_
  refine po_len (T := tab) cInt_i64 l1 rfl rfl rfl rfl rfl rfl rfl rfl ?_
  refine po_evs (T := tab) 1 rfl rfl ?_
  refine po_nil ?_
  refine pn_seq ?_
  refine pw_block ?_
  refine pw_loop' (Print_printer_all_l1 sg64 l1 c2 c3) (fun ((t5, l6) : Int × (List Int)) => [(0, .loc 900000 0), (6, .sl 1 false (l1.map cInt_i64)), (7, .v (.int .i64 ((l1.length : Nat) : Int))), (8, .v (.int .i64 t5))]) (fun ((t5, l6) : Int × (List Int)) => [(900000, .box 60 [.nloc 900000 0, .ownb 900001, .sl 10 false (c2.map cNode), .v (.int .i64 c3)]), (900001, .arr 5 1 (l6.map cInt_u8))]) fu (0, l4) (fun _ => rfl) ⟨rfl, rfl, rfl, rfl, trivial⟩ ⟨rfl, rfl, trivial⟩ rfl ?_
  rintro k1 ⟨t5, l6⟩
  refine pw_seq ?_
  refine pw_region ?_
  refine po_evs (T := tab) 1 rfl rfl ?_
  refine po_nil ?_
  refine pn_seq ?_
  refine pw_seq ?_
  refine pw_cnd rfl ?_ ?_
  · refine pw_skip ?_
    refine pn_seq ?_
    refine pw_seq ?_
    refine pw_block ?_
    refine pw_seq ?_
    refine pw_region ?_
    refine po_idx (T := tab) cInt_i64 l1 rfl rfl rfl rfl rfl rfl rfl fun y7 hy7 => ?_
    refine po_evs (T := tab) 2 rfl rfl ?_
    refine po_nil ?_
    refine pn_seq ?_
    refine pw_region ?_
    refine po_evs (T := tab) 2 rfl rfl ?_
    refine po_turn [900001] (enc := fun (r8 : (List Int)) => .tup []) (Sr := fun (r8 : (List Int)) => [(900000, .box 60 [.nloc 900000 0, .ownb 900001, .sl 10 false (c2.map cNode), .v (.int .i64 c3)]), (900001, .arr 5 1 (r8.map cInt_u8))]) (first := []) (cap := []) (qs := [.loc 900000 0, .v (.int .i64 y7)]) (Sc := [(900000, .box 60 [.nloc 900000 0, .ownb 900001, .sl 10 false (c2.map cNode), .v (.int .i64 c3)]), (900001, .arr 5 1 (l6.map cInt_u8))]) (N0 := [900000]) (NR := [900000, 900001]) (fun r8 hr8 => fc_ren [(900000, 900000), (900001, 900001)] [900000, 900001] (ih64 y7 c2 c3 l6 _ hr8) rfl rfl rfl rfl rfl rfl) ⟨rfl, rfl, trivial⟩ (fun _ => rfl) rfl rfl rfl rfl rfl rfl rfl (fun _ => rfl) (fun _ => rfl) rfl rfl rfl ⟨⟨_, rfl, .rfl⟩, ⟨_, rfl, .rfl⟩, trivial⟩ call20 rfl rfl fun r8 hr8 => ?_
    refine po_nil ?_
    refine pn_block ?_
    refine pn_seq ?_
    refine pw_region ?_
    refine po_arith' (T := tab) rfl rfl rfl rfl fun i9 hi9 => ?_
    refine po_evs (T := tab) 1 rfl rfl ?_
    refine po_nil ?_
    exact pn_iter' (i9, r8) ⟨rfl, rfl, rfl, rfl, trivial⟩ ⟨rfl, rfl, trivial⟩ rfl
  · refine pw_exit rfl ?_
    exact pn_retN (T := tab) rfl rfl rfl ⟨rfl, rfl⟩ ⟨rfl, rfl, trivial⟩ rfl

def Print_printer_between_m (sg64 : Int → (List Node) → Int → (List Int) → Option (List Int)) (fu : Nat) (open1 : Bs) (shut2 : Bs) (n3 : Int) (c4 : (List Node)) (c5 : Int) (l6 : (List Int)) : Option (List Int) := bnd (Strings_Builder_WriteString_m fu open1 l6) fun r7 => bnd (idx c4 n3) fun y8 => bnd (Print_printer_all_m sg64 fu y8.Kids c4 c5 r7.2.2) fun r9 => bnd (Strings_Builder_WriteString_m fu shut2 r9) fun r10 => some r10.2.2

set_option maxRecDepth 100000 in
theorem Print_printer_between_i2_ok (sg64 : Int → (List Node) → Int → (List Int) → Option (List Int)) (ih64 : ∀ (n1 : Int) (c2 : (List Node)) (c3 : Int) (l4 : (List Int)) r, sg64 n1 c2 c3 l4 = some r → FC laidL Tryz.prog 20 [.loc 900000 0, .v (.int .i64 n1)] [(900000, .box 60 [.nloc 900000 0, .ownb 900001, .sl 10 false (c2.map cNode), .v (.int .i64 c3)]), (900001, .arr 5 1 (l4.map cInt_u8))] [900000] fun p S' => p = .tup [] ∧ S' = [(900000, .box 60 [.nloc 900000 0, .ownb 900001, .sl 10 false (c2.map cNode), .v (.int .i64 c3)]), (900001, .arr 5 1 (r.map cInt_u8))]) (fu : Nat) (open1 : Bs) (shut2 : Bs) (n3 : Int) (c4 : (List Node)) (c5 : Int) (l6 : (List Int)) : ∀ r, Print_printer_between_m sg64 fu open1 shut2 n3 c4 c5 l6 = some r → FC laidL Tryz.prog 46 [.loc 900000 0, .v (.string ⟨⟨open1⟩⟩), .v (.string ⟨⟨shut2⟩⟩), .v (.int .i64 n3)] [(900000, .box 60 [.nloc 900000 0, .ownb 900001, .sl 10 false (c4.map cNode), .v (.int .i64 c5)]), (900001, .arr 5 1 (l6.map cInt_u8))] [900000] fun p S' => p = .tup [] ∧ S' = [(900000, .box 60 [.nloc 900000 0, .ownb 900001, .sl 10 false (c4.map cNode), .v (.int .i64 c5)]), (900001, .arr 5 1 (r.map cInt_u8))] := by
  intro r hr
  refine fc_intro (args := [.loc 900000 0, .v (.string ⟨⟨open1⟩⟩), .v (.string ⟨⟨shut2⟩⟩), .v (.int .i64 n3)]) (S := [(900000, .box 60 [.nloc 900000 0, .ownb 900001, .sl 10 false (c4.map cNode), .v (.int .i64 c5)]), (900001, .arr 5 1 (l6.map cInt_u8))]) (N0 := [900000]) (post := fun r p S => p = .tup [] ∧ S = [(900000, .box 60 [.nloc 900000 0, .ownb 900001, .sl 10 false (c4.map cNode), .v (.int .i64 c5)]), (900001, .arr 5 1 (r.map cInt_u8))]) Tryz.func46 rfl rfl hr fun w0 X X0 σ0 _ => ?_
  refine pw_seq ?_
  refine pw_region ?_
  refine po_evs (T := tab) 4 rfl rfl ?_
  refine po_turn [900001] (enc := fun (r7 : (Int × Bool × (List Int))) => .tup [.v (.int .i64 r7.1), .err r7.2.1]) (Sr := fun (r7 : (Int × Bool × (List Int))) => [(900000, .box 60 [.nloc 900000 0, .ownb 900001, .sl 10 false (c4.map cNode), .v (.int .i64 c5)]), (900001, .arr 5 1 (r7.2.2.map cInt_u8))]) (first := []) (cap := []) (qs := [.loc 900000 0, .v (.string ⟨⟨open1⟩⟩)]) (Sc := [(900000, .box 60 [.nloc 900000 0, .ownb 900001, .sl 10 false (c4.map cNode), .v (.int .i64 c5)]), (900001, .arr 5 1 (l6.map cInt_u8))]) (N0 := [900000]) (NR := [900000, 900001]) (fun r7 hr7 => fc_ren [(900000, 900000), (900001, 900001)] [900000, 900001] (Strings_Builder_WriteString_ok fu open1 c4 c5 l6 _ hr7) rfl rfl rfl rfl rfl rfl) ⟨rfl, rfl, trivial⟩ (fun _ => rfl) rfl rfl rfl rfl rfl rfl rfl (fun _ => rfl) (fun _ => rfl) rfl rfl rfl ⟨⟨_, rfl, .rfl⟩, ⟨_, rfl, .rfl⟩, trivial⟩ call45 rfl rfl fun r7 hr7 => ?_
  refine po_nil ?_
  refine pn_seq ?_
  refine pw_seq ?_
  refine pw_region ?_
  refine po_evs (T := tab) 7 rfl rfl ?_
  refine po_idx (T := tab) cNode c4 rfl rfl rfl rfl rfl rfl rfl fun y8 hy8 => ?_
  refine po_evs (T := tab) 2 rfl rfl ?_
  refine po_turn [900001] (enc := fun (r9 : (List Int)) => .tup []) (Sr := fun (r9 : (List Int)) => [(900000, .box 60 [.nloc 900000 0, .ownb 900001, .sl 10 false (c4.map cNode), .v (.int .i64 c5)]), (900001, .arr 5 1 (r9.map cInt_u8))]) (first := []) (cap := []) (qs := [.loc 900000 0, .sl 1 false (y8.Kids.map cInt_i64)]) (Sc := [(900000, .box 60 [.nloc 900000 0, .ownb 900001, .sl 10 false (c4.map cNode), .v (.int .i64 c5)]), (900001, .arr 5 1 (r7.2.2.map cInt_u8))]) (N0 := [900000]) (NR := [900000, 900001]) (fun r9 hr9 => fc_ren [(900000, 900000), (900001, 900001)] [900000, 900001] (Print_printer_all_i2_ok sg64 ih64 fu y8.Kids c4 c5 r7.2.2 _ hr9) rfl rfl rfl rfl rfl rfl) ⟨rfl, rfl, trivial⟩ (fun _ => rfl) rfl rfl rfl rfl rfl rfl rfl (fun _ => rfl) (fun _ => rfl) rfl rfl rfl ⟨⟨_, rfl, .rfl⟩, ⟨_, rfl, .rfl⟩, trivial⟩ call69 rfl rfl fun r9 hr9 => ?_
  refine po_nil ?_
  refine pn_seq ?_
  refine pw_region ?_
  refine po_evs (T := tab) 4 rfl rfl ?_
  refine po_turn [900001] (enc := fun (r10 : (Int × Bool × (List Int))) => .tup [.v (.int .i64 r10.1), .err r10.2.1]) (Sr := fun (r10 : (Int × Bool × (List Int))) => [(900000, .box 60 [.nloc 900000 0, .ownb 900001, .sl 10 false (c4.map cNode), .v (.int .i64 c5)]), (900001, .arr 5 1 (r10.2.2.map cInt_u8))]) (first := []) (cap := []) (qs := [.loc 900000 0, .v (.string ⟨⟨shut2⟩⟩)]) (Sc := [(900000, .box 60 [.nloc 900000 0, .ownb 900001, .sl 10 false (c4.map cNode), .v (.int .i64 c5)]), (900001, .arr 5 1 (r9.map cInt_u8))]) (N0 := [900000]) (NR := [900000, 900001]) (fun r10 hr10 => fc_ren [(900000, 900000), (900001, 900001)] [900000, 900001] (Strings_Builder_WriteString_ok fu shut2 c4 c5 r9 _ hr10) rfl rfl rfl rfl rfl rfl) ⟨rfl, rfl, trivial⟩ (fun _ => rfl) rfl rfl rfl rfl rfl rfl rfl (fun _ => rfl) (fun _ => rfl) rfl rfl rfl ⟨⟨_, rfl, .rfl⟩, ⟨_, rfl, .rfl⟩, trivial⟩ call45 rfl rfl fun r10 hr10 => ?_
  refine po_nil ?_
  exact pn_retN (T := tab) rfl rfl rfl ⟨rfl, rfl⟩ ⟨rfl, rfl, trivial⟩ rfl

def Print_printer_node_l1 (sf : Int → (List Node) → Int → (List Int) → Option (List Int)) (fu : Nat) (n1 : Int) (c2 : (List Node)) (c3 : Int) (y5 : Node) : Nat → Int × (List Int) → Option (List Int)
  | 0, _ => none
  | k1 + 1, (t16, l17) => cnd (decide (t16 < ((y5.Attrs.length : Nat) : Int))) (bnd (idx y5.Attrs t16) fun y18 => bnd (cat ([32] : Bs) y18.Name) fun s19 => bnd (cat s19 ([61] : Bs)) fun s20 => bnd (quote_m fu y18.Value) fun r21 => bnd (cat s20 r21) fun s22 => bnd (Strings_Builder_WriteString_m fu s22 l17) fun r23 => bnd (rng .i64 (t16 + 1)) fun i24 => (Print_printer_node_l1 sf fu n1 c2 c3 y5 k1) (i24, r23.2.2)) (bnd (Strings_Builder_WriteString_m fu [62] l17) fun r25 => cnd (y5.Under != (-1)) (bnd (sf y5.Under c2 c3 r25.2.2) fun r26 => bnd (cat ([60, 47] : Bs) y5.Name) fun s27 => bnd (cat s27 ([62] : Bs)) fun s28 => bnd (Print_printer_between_m sf fu [] s28 n1 c2 c3 r26) fun r29 => some r29) (bnd (cat ([60, 47] : Bs) y5.Name) fun s30 => bnd (cat s30 ([62] : Bs)) fun s31 => bnd (Print_printer_between_m sf fu [] s31 n1 c2 c3 r25.2.2) fun r32 => some r32))

def Print_printer_node_j1 (sf : Int → (List Node) → Int → (List Int) → Option (List Int)) (fu : Nat) (n1 : Int) (c2 : (List Node)) (c3 : Int) (y5 : Node) (l15 : (List Int)) : Option (List Int) := (Print_printer_node_l1 sf fu n1 c2 c3 y5) fu (0, l15)

def Print_printer_node_m : Nat → Int → (List Node) → Int → (List Int) → Option (List Int)
  | 0, _, _, _, _ => none
  | fu + 1, n1, c2, c3, l4 => bnd (idx c2 n1) fun y5 => cnd (y5.Kind == 2) (bnd (quote_m fu y5.Data) fun r6 => bnd (Strings_Builder_WriteString_m fu r6 l4) fun r7 => some r7.2.2) (cnd (y5.Kind == 3) (bnd (Print_printer_between_m (Print_printer_node_m fu) fu [91] [93] n1 c2 c3 l4) fun r8 => some r8) (cnd (y5.Kind == 4) (bnd (Print_printer_between_m (Print_printer_node_m fu) fu [123] [125] n1 c2 c3 l4) fun r9 => some r9) (cnd (y5.Kind == 0) (bnd (Print_printer_between_m (Print_printer_node_m fu) fu [40] [41] n1 c2 c3 l4) fun r10 => some r10) (bnd (cat ([60] : Bs) y5.Name) fun s11 => bnd (Strings_Builder_WriteString_m fu s11 l4) fun r12 => cnd (!(y5.Is == ([] : Bs))) (bnd (cat ([33] : Bs) y5.Is) fun s13 => bnd (Strings_Builder_WriteString_m fu s13 r12.2.2) fun r14 => (Print_printer_node_j1 (Print_printer_node_m fu) fu n1 c2 c3 y5) r14.2.2) ((Print_printer_node_j1 (Print_printer_node_m fu) fu n1 c2 c3 y5) r12.2.2)))))

set_option maxHeartbeats 10000000 in
set_option maxRecDepth 100000 in
theorem Print_printer_node_ok : ∀ (fu : Nat) (n1 : Int) (c2 : (List Node)) (c3 : Int) (l4 : (List Int)) r, Print_printer_node_m fu n1 c2 c3 l4 = some r → FC laidL Tryz.prog 20 [.loc 900000 0, .v (.int .i64 n1)] [(900000, .box 60 [.nloc 900000 0, .ownb 900001, .sl 10 false (c2.map cNode), .v (.int .i64 c3)]), (900001, .arr 5 1 (l4.map cInt_u8))] [900000] fun p S' => p = .tup [] ∧ S' = [(900000, .box 60 [.nloc 900000 0, .ownb 900001, .sl 10 false (c2.map cNode), .v (.int .i64 c3)]), (900001, .arr 5 1 (r.map cInt_u8))]
  | 0, _, _, _, _, _, h => by cases h
  | fu + 1, n1, c2, c3, l4, r, hr => by
    have ih := Print_printer_node_ok fu
    refine fc_intro (args := [.loc 900000 0, .v (.int .i64 n1)]) (S := [(900000, .box 60 [.nloc 900000 0, .ownb 900001, .sl 10 false (c2.map cNode), .v (.int .i64 c3)]), (900001, .arr 5 1 (l4.map cInt_u8))]) (N0 := [900000]) (post := fun r p S => p = .tup [] ∧ S = [(900000, .box 60 [.nloc 900000 0, .ownb 900001, .sl 10 false (c2.map cNode), .v (.int .i64 c3)]), (900001, .arr 5 1 (r.map cInt_u8))]) Tryz.func20 rfl rfl hr fun w0 X X0 σ0 _ => ?_
    refine pw_seq ?_
    refine pw_region ?_
    refine po_evs (T := tab) 6 rfl rfl ?_
    refine po_idx (T := tab) cNode c2 rfl rfl rfl rfl rfl rfl rfl fun y5 hy5 => ?_
    refine po_evs (T := tab) 1 rfl rfl ?_
    refine po_alloc (T := tab) 4 rfl rfl rfl rfl rfl rfl rfl rfl rfl ?_
    refine po_store (T := tab) rfl rfl rfl rfl rfl rfl rfl rfl rfl rfl rfl rfl ?_
    refine po_nil ?_
    refine pn_seq ?_
    refine pw_seq ?_
    refine pw_region ?_
    refine po_evs (T := tab) 2 rfl rfl ?_
    refine po_nil ?_
    refine pn_seq ?_
    refine pw_block ?_
    refine pw_seq ?_
    refine pw_region ?_
    refine po_evs (T := tab) 2 rfl rfl ?_
    refine po_nil ?_
    refine pn_seq ?_
    refine pw_cnd rfl ?_ ?_
    · refine pw_sub' (E' := [(0, .loc 900000 0), (4, .loc 4 0)]) (S' := [(4, .box 37 [.v (.int .i64 y5.Kind), .v (.string ⟨⟨y5.Name⟩⟩), .v (.string ⟨⟨y5.Is⟩⟩), .v (.string ⟨⟨y5.Data⟩⟩), .sl 2 false (y5.Attrs.map cAttr), .v (.int .i64 y5.Parent), .sl 1 false (y5.Kids.map cInt_i64), .v (.int .i64 y5.Host), .v (.int .i64 y5.Under), .v (.int .i64 y5.Doc)]), (900000, .box 60 [.nloc 900000 0, .ownb 900001, .sl 10 false (c2.map cNode), .v (.int .i64 c3)]), (900001, .arr 5 1 (l4.map cInt_u8))]) ?_ ⟨rfl, rfl, trivial⟩ ⟨rfl, rfl, rfl, trivial⟩ rfl
      refine pw_drawV [0, 1, 3, 0, 8, 24, 63] mixed (by kernel_rfl) (by kernel_rfl) rfl rfl ?_
      refine pdv_step0 [0] [148] [] [900000] [] [(74, .loc 900000 0)] [] rfl rfl rfl rfl (by kernel_rfl) (by kernel_rfl) (by kernel_rfl) trivial (fun w0 X X0 σ0 _ => by refine po_evs (T := tab) 1 rfl rfl ?_; refine po_nil ?_; exact pn_end0 ⟨rfl, trivial⟩ trivial rfl) ?_
      refine pdv_step0 [148] [150] [] [900000] [] [(75, .loc 900000 0)] [] rfl rfl rfl rfl (by kernel_rfl) (by kernel_rfl) (by kernel_rfl) trivial (fun w0 X X0 σ0 _ => by refine po_evs (T := tab) 1 rfl rfl ?_; refine po_nil ?_; exact pn_end0 ⟨rfl, trivial⟩ trivial rfl) ?_
      refine pdv_step0 [150] [152] [] [900000] [] [(76, .loc 900000 0)] [] rfl rfl rfl rfl (by kernel_rfl) (by kernel_rfl) (by kernel_rfl) trivial (fun w0 X X0 σ0 _ => by refine po_evs (T := tab) 1 rfl rfl ?_; refine po_nil ?_; exact pn_end0 ⟨rfl, trivial⟩ trivial rfl) ?_
      refine pdv_step0 [8] [154] [] [4] [] [(77, .loc 4 3)] [] rfl rfl rfl rfl (by kernel_rfl) (by kernel_rfl) (by kernel_rfl) trivial (fun w0 X X0 σ0 _ => by refine po_evs (T := tab) 1 rfl rfl ?_; refine po_nil ?_; exact pn_end0 ⟨rfl, trivial⟩ trivial rfl) ?_
      refine pdv_step0 [9, 154] [156] [] [4] [4] [(78, .v (.string ⟨⟨y5.Data⟩⟩))] [(4, .box 37 [.v (.int .i64 y5.Kind), .v (.string ⟨⟨y5.Name⟩⟩), .v (.string ⟨⟨y5.Is⟩⟩), .v (.string ⟨⟨y5.Data⟩⟩), .sl 2 false (y5.Attrs.map cAttr), .v (.int .i64 y5.Parent), .sl 1 false (y5.Kids.map cInt_i64), .v (.int .i64 y5.Host), .v (.int .i64 y5.Under), .v (.int .i64 y5.Doc)])] rfl rfl rfl rfl (by kernel_rfl) (by kernel_rfl) (by kernel_rfl) ⟨rfl, trivial⟩ (fun w0 X X0 σ0 _ => by refine po_evs (T := tab) 1 rfl rfl ?_; refine po_nil ?_; exact pn_end0 ⟨rfl, trivial⟩ ⟨rfl, trivial⟩ rfl) ?_
      refine pdv_step (M := (quote_m fu y5.Data)) (ment := [(158, [])]) [156] [158] [] [] [] (fun r6 => [(79, .v (.string ⟨⟨r6⟩⟩))]) (fun r6 => []) rfl rfl (fun _ => rfl) (fun _ => rfl) (by kernel_rfl) (by kernel_rfl) (fun _ => by kernel_rfl) (fun _ => trivial) (fun w0 X X0 σ0 _ => by refine po_call (enc := fun (r6 : Bs) => .v (.string ⟨⟨r6⟩⟩)) (qs := [.v (.string ⟨⟨y5.Data⟩⟩)]) (quote_ok fu y5.Data) rfl rfl ⟨⟨_, rfl, .rfl⟩, trivial⟩ (fun _ => rfl) call13 rfl rfl fun r6 hr6 => ?_; refine po_nil ?_; exact pn_end ⟨rfl, trivial⟩ trivial rfl) fun r6 hr6 => ?_
      refine pdv_step (M := (Strings_Builder_WriteString_m fu r6 l4)) (ment := [(160, []), (1800003, []), (1800001, [900000, 900001])]) [152, 158, 1800001, 1800003] [160, 1800003, 1800001] [900001] [900000] [] (fun r7 => [(80, .tup [.v (.int .i64 r7.1), .err r7.2.1])]) (fun r7 => [(900001, .arr 5 1 (r7.2.2.map cInt_u8)), (900000, .box 60 [.nloc 900000 0, .ownb 900001, .sl 10 false (c2.map cNode), .v (.int .i64 c3)])]) rfl rfl (fun _ => rfl) (fun _ => rfl) (by kernel_rfl) (by kernel_rfl) (fun _ => by kernel_rfl) (fun _ => trivial) (fun w0 X X0 σ0 _ => by refine po_turn [900001] (enc := fun (r7 : (Int × Bool × (List Int))) => .tup [.v (.int .i64 r7.1), .err r7.2.1]) (Sr := fun (r7 : (Int × Bool × (List Int))) => [(900000, .box 60 [.nloc 900000 0, .ownb 900001, .sl 10 false (c2.map cNode), .v (.int .i64 c3)]), (900001, .arr 5 1 (r7.2.2.map cInt_u8))]) (first := []) (cap := []) (qs := [.loc 900000 0, .v (.string ⟨⟨r6⟩⟩)]) (Sc := [(900000, .box 60 [.nloc 900000 0, .ownb 900001, .sl 10 false (c2.map cNode), .v (.int .i64 c3)]), (900001, .arr 5 1 (l4.map cInt_u8))]) (N0 := [900000]) (NR := [900000, 900001]) (fun r7 hr7 => fc_ren [(900000, 900000), (900001, 900001)] [900000, 900001] (Strings_Builder_WriteString_ok fu r6 c2 c3 l4 _ hr7) rfl rfl rfl rfl rfl rfl) ⟨rfl, rfl, trivial⟩ (fun _ => rfl) rfl rfl rfl rfl rfl rfl rfl (fun _ => rfl) (fun _ => rfl) rfl rfl rfl ⟨⟨_, rfl, .rfl⟩, ⟨_, rfl, .rfl⟩, trivial⟩ call45 rfl rfl fun r7 hr7 => ?_; refine po_nil ?_; exact pn_end ⟨rfl, trivial⟩ ⟨rfl, rfl, trivial⟩ rfl) fun r7 hr7 => ?_
      refine pdv_nil rfl rfl ?_
      refine pn_block ?_
      exact pn_retN (T := tab) rfl rfl rfl ⟨rfl, rfl⟩ ⟨rfl, rfl, trivial⟩ rfl
    · refine pw_seq ?_
      refine pw_region ?_
      refine po_evs (T := tab) 2 rfl rfl ?_
      refine po_nil ?_
      refine pn_seq ?_
      refine pw_cnd rfl ?_ ?_
      · refine pw_region ?_
        refine po_evs (T := tab) 2 rfl rfl ?_
        refine po_turn [900001] (enc := fun (r8 : (List Int)) => .tup []) (Sr := fun (r8 : (List Int)) => [(900000, .box 60 [.nloc 900000 0, .ownb 900001, .sl 10 false (c2.map cNode), .v (.int .i64 c3)]), (900001, .arr 5 1 (r8.map cInt_u8))]) (first := []) (cap := []) (qs := [.loc 900000 0, .v (.string ⟨⟨[91]⟩⟩), .v (.string ⟨⟨[93]⟩⟩), .v (.int .i64 n1)]) (Sc := [(900000, .box 60 [.nloc 900000 0, .ownb 900001, .sl 10 false (c2.map cNode), .v (.int .i64 c3)]), (900001, .arr 5 1 (l4.map cInt_u8))]) (N0 := [900000]) (NR := [900000, 900001]) (fun r8 hr8 => fc_ren [(900000, 900000), (900001, 900001)] [900000, 900001] (Print_printer_between_i2_ok (Print_printer_node_m fu) ih fu [91] [93] n1 c2 c3 l4 _ hr8) rfl rfl rfl rfl rfl rfl) ⟨rfl, rfl, trivial⟩ (fun _ => rfl) rfl rfl rfl rfl rfl rfl rfl (fun _ => rfl) (fun _ => rfl) rfl rfl rfl ⟨⟨_, rfl, .rfl⟩, ⟨_, rfl, .rfl⟩, ⟨_, rfl, .rfl⟩, ⟨_, rfl, .rfl⟩, trivial⟩ call46 rfl rfl fun r8 hr8 => ?_
        refine po_nil ?_
        refine pn_block ?_
        exact pn_retN (T := tab) rfl rfl rfl ⟨rfl, rfl⟩ ⟨rfl, rfl, trivial⟩ rfl
      · refine pw_seq ?_
        refine pw_region ?_
        refine po_evs (T := tab) 2 rfl rfl ?_
        refine po_nil ?_
        refine pn_seq ?_
        refine pw_cnd rfl ?_ ?_
        · refine pw_region ?_
          refine po_evs (T := tab) 2 rfl rfl ?_
          refine po_turn [900001] (enc := fun (r9 : (List Int)) => .tup []) (Sr := fun (r9 : (List Int)) => [(900000, .box 60 [.nloc 900000 0, .ownb 900001, .sl 10 false (c2.map cNode), .v (.int .i64 c3)]), (900001, .arr 5 1 (r9.map cInt_u8))]) (first := []) (cap := []) (qs := [.loc 900000 0, .v (.string ⟨⟨[123]⟩⟩), .v (.string ⟨⟨[125]⟩⟩), .v (.int .i64 n1)]) (Sc := [(900000, .box 60 [.nloc 900000 0, .ownb 900001, .sl 10 false (c2.map cNode), .v (.int .i64 c3)]), (900001, .arr 5 1 (l4.map cInt_u8))]) (N0 := [900000]) (NR := [900000, 900001]) (fun r9 hr9 => fc_ren [(900000, 900000), (900001, 900001)] [900000, 900001] (Print_printer_between_i2_ok (Print_printer_node_m fu) ih fu [123] [125] n1 c2 c3 l4 _ hr9) rfl rfl rfl rfl rfl rfl) ⟨rfl, rfl, trivial⟩ (fun _ => rfl) rfl rfl rfl rfl rfl rfl rfl (fun _ => rfl) (fun _ => rfl) rfl rfl rfl ⟨⟨_, rfl, .rfl⟩, ⟨_, rfl, .rfl⟩, ⟨_, rfl, .rfl⟩, ⟨_, rfl, .rfl⟩, trivial⟩ call46 rfl rfl fun r9 hr9 => ?_
          refine po_nil ?_
          refine pn_block ?_
          exact pn_retN (T := tab) rfl rfl rfl ⟨rfl, rfl⟩ ⟨rfl, rfl, trivial⟩ rfl
        · refine pw_seq ?_
          refine pw_region ?_
          refine po_evs (T := tab) 2 rfl rfl ?_
          refine po_nil ?_
          refine pn_seq ?_
          refine pw_cnd rfl ?_ ?_
          · refine pw_region ?_
            refine po_evs (T := tab) 2 rfl rfl ?_
            refine po_turn [900001] (enc := fun (r10 : (List Int)) => .tup []) (Sr := fun (r10 : (List Int)) => [(900000, .box 60 [.nloc 900000 0, .ownb 900001, .sl 10 false (c2.map cNode), .v (.int .i64 c3)]), (900001, .arr 5 1 (r10.map cInt_u8))]) (first := []) (cap := []) (qs := [.loc 900000 0, .v (.string ⟨⟨[40]⟩⟩), .v (.string ⟨⟨[41]⟩⟩), .v (.int .i64 n1)]) (Sc := [(900000, .box 60 [.nloc 900000 0, .ownb 900001, .sl 10 false (c2.map cNode), .v (.int .i64 c3)]), (900001, .arr 5 1 (l4.map cInt_u8))]) (N0 := [900000]) (NR := [900000, 900001]) (fun r10 hr10 => fc_ren [(900000, 900000), (900001, 900001)] [900000, 900001] (Print_printer_between_i2_ok (Print_printer_node_m fu) ih fu [40] [41] n1 c2 c3 l4 _ hr10) rfl rfl rfl rfl rfl rfl) ⟨rfl, rfl, trivial⟩ (fun _ => rfl) rfl rfl rfl rfl rfl rfl rfl (fun _ => rfl) (fun _ => rfl) rfl rfl rfl ⟨⟨_, rfl, .rfl⟩, ⟨_, rfl, .rfl⟩, ⟨_, rfl, .rfl⟩, ⟨_, rfl, .rfl⟩, trivial⟩ call46 rfl rfl fun r10 hr10 => ?_
            refine po_nil ?_
            refine pn_block ?_
            exact pn_retN (T := tab) rfl rfl rfl ⟨rfl, rfl⟩ ⟨rfl, rfl, trivial⟩ rfl
          · refine pw_seq ?_
            refine pw_sub' (E' := [(0, .loc 900000 0), (1, .v (.int .i64 n1)), (4, .loc 4 0)]) (S' := [(4, .box 37 [.v (.int .i64 y5.Kind), .v (.string ⟨⟨y5.Name⟩⟩), .v (.string ⟨⟨y5.Is⟩⟩), .v (.string ⟨⟨y5.Data⟩⟩), .sl 2 false (y5.Attrs.map cAttr), .v (.int .i64 y5.Parent), .sl 1 false (y5.Kids.map cInt_i64), .v (.int .i64 y5.Host), .v (.int .i64 y5.Under), .v (.int .i64 y5.Doc)]), (900000, .box 60 [.nloc 900000 0, .ownb 900001, .sl 10 false (c2.map cNode), .v (.int .i64 c3)]), (900001, .arr 5 1 (l4.map cInt_u8))]) ?_ ⟨rfl, rfl, rfl, trivial⟩ ⟨rfl, rfl, rfl, trivial⟩ rfl
            refine pw_drawV [0, 1, 3, 0, 8, 24, 63] mixed (by kernel_rfl) (by kernel_rfl) rfl rfl ?_
            refine pdv_step0 [0] [34] [] [900000] [] [(17, .loc 900000 0)] [] rfl rfl rfl rfl (by kernel_rfl) (by kernel_rfl) (by kernel_rfl) trivial (fun w0 X X0 σ0 _ => by refine po_evs (T := tab) 1 rfl rfl ?_; refine po_nil ?_; exact pn_end0 ⟨rfl, trivial⟩ trivial rfl) ?_
            refine pdv_step0 [34] [36] [] [900000] [] [(18, .loc 900000 0)] [] rfl rfl rfl rfl (by kernel_rfl) (by kernel_rfl) (by kernel_rfl) trivial (fun w0 X X0 σ0 _ => by refine po_evs (T := tab) 1 rfl rfl ?_; refine po_nil ?_; exact pn_end0 ⟨rfl, trivial⟩ trivial rfl) ?_
            refine pdv_step0 [36] [38] [] [900000] [] [(19, .loc 900000 0)] [] rfl rfl rfl rfl (by kernel_rfl) (by kernel_rfl) (by kernel_rfl) trivial (fun w0 X X0 σ0 _ => by refine po_evs (T := tab) 1 rfl rfl ?_; refine po_nil ?_; exact pn_end0 ⟨rfl, trivial⟩ trivial rfl) ?_
            refine pdv_step0 [8] [40] [] [4] [] [(20, .loc 4 1)] [] rfl rfl rfl rfl (by kernel_rfl) (by kernel_rfl) (by kernel_rfl) trivial (fun w0 X X0 σ0 _ => by refine po_evs (T := tab) 1 rfl rfl ?_; refine po_nil ?_; exact pn_end0 ⟨rfl, trivial⟩ trivial rfl) ?_
            refine pdv_step0 [9, 40] [42] [] [4] [4] [(21, .v (.string ⟨⟨y5.Name⟩⟩))] [(4, .box 37 [.v (.int .i64 y5.Kind), .v (.string ⟨⟨y5.Name⟩⟩), .v (.string ⟨⟨y5.Is⟩⟩), .v (.string ⟨⟨y5.Data⟩⟩), .sl 2 false (y5.Attrs.map cAttr), .v (.int .i64 y5.Parent), .sl 1 false (y5.Kids.map cInt_i64), .v (.int .i64 y5.Host), .v (.int .i64 y5.Under), .v (.int .i64 y5.Doc)])] rfl rfl rfl rfl (by kernel_rfl) (by kernel_rfl) (by kernel_rfl) ⟨rfl, trivial⟩ (fun w0 X X0 σ0 _ => by refine po_evs (T := tab) 1 rfl rfl ?_; refine po_nil ?_; exact pn_end0 ⟨rfl, trivial⟩ ⟨rfl, trivial⟩ rfl) ?_
            refine pdv_step (M := (cat ([60] : Bs) y5.Name)) (ment := [(44, [])]) [42] [44] [] [] [] (fun s11 => [(22, .v (.string ⟨⟨s11⟩⟩))]) (fun s11 => []) rfl rfl (fun _ => rfl) (fun _ => rfl) (by kernel_rfl) (by kernel_rfl) (fun _ => by kernel_rfl) (fun _ => trivial) (fun w0 X X0 σ0 _ => by refine po_cat rfl rfl rfl rfl rfl rfl fun s11 hs11 => ?_; refine po_nil ?_; exact pn_end ⟨rfl, trivial⟩ trivial rfl) fun s11 hs11 => ?_
            refine pdv_step (M := (Strings_Builder_WriteString_m fu s11 l4)) (ment := [(46, []), (1800003, []), (1800001, [900000, 900001])]) [38, 44, 1800001, 1800003] [46, 1800003, 1800001] [900001] [900000] [] (fun r12 => [(23, .tup [.v (.int .i64 r12.1), .err r12.2.1])]) (fun r12 => [(900001, .arr 5 1 (r12.2.2.map cInt_u8)), (900000, .box 60 [.nloc 900000 0, .ownb 900001, .sl 10 false (c2.map cNode), .v (.int .i64 c3)])]) rfl rfl (fun _ => rfl) (fun _ => rfl) (by kernel_rfl) (by kernel_rfl) (fun _ => by kernel_rfl) (fun _ => trivial) (fun w0 X X0 σ0 _ => by refine po_turn [900001] (enc := fun (r12 : (Int × Bool × (List Int))) => .tup [.v (.int .i64 r12.1), .err r12.2.1]) (Sr := fun (r12 : (Int × Bool × (List Int))) => [(900000, .box 60 [.nloc 900000 0, .ownb 900001, .sl 10 false (c2.map cNode), .v (.int .i64 c3)]), (900001, .arr 5 1 (r12.2.2.map cInt_u8))]) (first := []) (cap := []) (qs := [.loc 900000 0, .v (.string ⟨⟨s11⟩⟩)]) (Sc := [(900000, .box 60 [.nloc 900000 0, .ownb 900001, .sl 10 false (c2.map cNode), .v (.int .i64 c3)]), (900001, .arr 5 1 (l4.map cInt_u8))]) (N0 := [900000]) (NR := [900000, 900001]) (fun r12 hr12 => fc_ren [(900000, 900000), (900001, 900001)] [900000, 900001] (Strings_Builder_WriteString_ok fu s11 c2 c3 l4 _ hr12) rfl rfl rfl rfl rfl rfl) ⟨rfl, rfl, trivial⟩ (fun _ => rfl) rfl rfl rfl rfl rfl rfl rfl (fun _ => rfl) (fun _ => rfl) rfl rfl rfl ⟨⟨_, rfl, .rfl⟩, ⟨_, rfl, .rfl⟩, trivial⟩ call45 rfl rfl fun r12 hr12 => ?_; refine po_nil ?_; exact pn_end ⟨rfl, trivial⟩ ⟨rfl, rfl, trivial⟩ rfl) fun r12 hr12 => ?_
            refine pdv_nil rfl rfl ?_
            refine pn_seq ?_
            refine pw_seq ?_
            refine pw_seq ?_
            refine pw_region ?_
            refine po_evs (T := tab) 3 rfl rfl ?_
            refine po_nil ?_
            refine pn_seq ?_
            refine pw_joinK (Print_printer_node_j1 (Print_printer_node_m fu) fu n1 c2 c3 y5) (fun (l15 : (List Int)) => [(0, .loc 900000 0), (1, .v (.int .i64 n1)), (4, .loc 4 0)]) (fun (l15 : (List Int)) => [(900000, .box 60 [.nloc 900000 0, .ownb 900001, .sl 10 false (c2.map cNode), .v (.int .i64 c3)]), (900001, .arr 5 1 (l15.map cInt_u8)), (4, .box 37 [.v (.int .i64 y5.Kind), .v (.string ⟨⟨y5.Name⟩⟩), .v (.string ⟨⟨y5.Is⟩⟩), .v (.string ⟨⟨y5.Data⟩⟩), .sl 2 false (y5.Attrs.map cAttr), .v (.int .i64 y5.Parent), .sl 1 false (y5.Kids.map cInt_i64), .v (.int .i64 y5.Host), .v (.int .i64 y5.Under), .v (.int .i64 y5.Doc)])]) ?_ fun hj1 => ?_
            · rintro l15
              refine pn_seq ?_
              refine pw_seq ?_
              refine pw_seq ?_
              refine pw_region ?_
              refine po_evs (T := tab) 2 rfl rfl ?_
              refine po_len (T := tab) cAttr y5.Attrs rfl rfl rfl rfl rfl rfl rfl rfl ?_
              refine po_evs (T := tab) 1 rfl rfl ?_
              refine po_nil ?_
              refine pn_seq ?_
              refine pw_block ?_
              refine pw_loop' (Print_printer_node_l1 (Print_printer_node_m fu) fu n1 c2 c3 y5) (fun ((t16, l17) : Int × (List Int)) => [(0, .loc 900000 0), (1, .v (.int .i64 n1)), (4, .loc 4 0), (35, .sl 2 false (y5.Attrs.map cAttr)), (36, .v (.int .i64 ((y5.Attrs.length : Nat) : Int))), (37, .v (.int .i64 t16))]) (fun ((t16, l17) : Int × (List Int)) => [(900000, .box 60 [.nloc 900000 0, .ownb 900001, .sl 10 false (c2.map cNode), .v (.int .i64 c3)]), (900001, .arr 5 1 (l17.map cInt_u8)), (4, .box 37 [.v (.int .i64 y5.Kind), .v (.string ⟨⟨y5.Name⟩⟩), .v (.string ⟨⟨y5.Is⟩⟩), .v (.string ⟨⟨y5.Data⟩⟩), .sl 2 false (y5.Attrs.map cAttr), .v (.int .i64 y5.Parent), .sl 1 false (y5.Kids.map cInt_i64), .v (.int .i64 y5.Host), .v (.int .i64 y5.Under), .v (.int .i64 y5.Doc)])]) fu (0, l15) (fun _ => rfl) ⟨rfl, rfl, rfl, rfl, rfl, rfl, trivial⟩ ⟨rfl, rfl, rfl, trivial⟩ rfl ?_
              rintro k1 ⟨t16, l17⟩
              refine pw_seq ?_
              refine pw_region ?_
              refine po_evs (T := tab) 1 rfl rfl ?_
              refine po_nil ?_
              refine pn_seq ?_
              refine pw_seq ?_
              refine pw_cnd rfl ?_ ?_
              · refine pw_skip ?_
                refine pn_seq ?_
                refine pw_seq ?_
                refine pw_block ?_
                refine pw_seq ?_
                refine pw_region ?_
                refine po_idx (T := tab) cAttr y5.Attrs rfl rfl rfl rfl rfl rfl rfl fun y18 hy18 => ?_
                refine po_evs (T := tab) 1 rfl rfl ?_
                refine po_alloc (T := tab) 6 rfl rfl rfl rfl rfl rfl rfl rfl rfl ?_
                refine po_store (T := tab) rfl rfl rfl rfl rfl rfl rfl rfl rfl rfl rfl rfl ?_
                refine po_nil ?_
                refine pn_seq ?_
                refine pw_sub' (E' := [(0, .loc 900000 0), (1, .v (.int .i64 n1)), (4, .loc 4 0), (35, .sl 2 false (y5.Attrs.map cAttr)), (36, .v (.int .i64 ((y5.Attrs.length : Nat) : Int))), (37, .v (.int .i64 t16)), (6, .loc 6 0)]) (S' := [(6, .box 42 [.v (.string ⟨⟨y18.Name⟩⟩), .v (.string ⟨⟨y18.Value⟩⟩)]), (900000, .box 60 [.nloc 900000 0, .ownb 900001, .sl 10 false (c2.map cNode), .v (.int .i64 c3)]), (900001, .arr 5 1 (l17.map cInt_u8)), (4, .box 37 [.v (.int .i64 y5.Kind), .v (.string ⟨⟨y5.Name⟩⟩), .v (.string ⟨⟨y5.Is⟩⟩), .v (.string ⟨⟨y5.Data⟩⟩), .sl 2 false (y5.Attrs.map cAttr), .v (.int .i64 y5.Parent), .sl 1 false (y5.Kids.map cInt_i64), .v (.int .i64 y5.Host), .v (.int .i64 y5.Under), .v (.int .i64 y5.Doc)])]) ?_ ⟨rfl, rfl, rfl, rfl, rfl, rfl, rfl, trivial⟩ ⟨rfl, rfl, rfl, rfl, trivial⟩ rfl
                refine pw_drawV [0, 1, 3, 0, 8, 24, 56, 0, 128, 384, 1016, 2047] mixed (by kernel_rfl) (by kernel_rfl) rfl rfl ?_
                refine pdv_step0 [0] [82] [] [900000] [] [(41, .loc 900000 0)] [] rfl rfl rfl rfl (by kernel_rfl) (by kernel_rfl) (by kernel_rfl) trivial (fun w0 X X0 σ0 _ => by refine po_evs (T := tab) 1 rfl rfl ?_; refine po_nil ?_; exact pn_end0 ⟨rfl, trivial⟩ trivial rfl) ?_
                refine pdv_step0 [82] [84] [] [900000] [] [(42, .loc 900000 0)] [] rfl rfl rfl rfl (by kernel_rfl) (by kernel_rfl) (by kernel_rfl) trivial (fun w0 X X0 σ0 _ => by refine po_evs (T := tab) 1 rfl rfl ?_; refine po_nil ?_; exact pn_end0 ⟨rfl, trivial⟩ trivial rfl) ?_
                refine pdv_step0 [84] [86] [] [900000] [] [(43, .loc 900000 0)] [] rfl rfl rfl rfl (by kernel_rfl) (by kernel_rfl) (by kernel_rfl) trivial (fun w0 X X0 σ0 _ => by refine po_evs (T := tab) 1 rfl rfl ?_; refine po_nil ?_; exact pn_end0 ⟨rfl, trivial⟩ trivial rfl) ?_
                refine pdv_step0 [12] [88] [] [6] [] [(44, .loc 6 0)] [] rfl rfl rfl rfl (by kernel_rfl) (by kernel_rfl) (by kernel_rfl) trivial (fun w0 X X0 σ0 _ => by refine po_evs (T := tab) 1 rfl rfl ?_; refine po_nil ?_; exact pn_end0 ⟨rfl, trivial⟩ trivial rfl) ?_
                refine pdv_step0 [13, 88] [90] [] [6] [6] [(45, .v (.string ⟨⟨y18.Name⟩⟩))] [(6, .box 42 [.v (.string ⟨⟨y18.Name⟩⟩), .v (.string ⟨⟨y18.Value⟩⟩)])] rfl rfl rfl rfl (by kernel_rfl) (by kernel_rfl) (by kernel_rfl) ⟨rfl, trivial⟩ (fun w0 X X0 σ0 _ => by refine po_evs (T := tab) 1 rfl rfl ?_; refine po_nil ?_; exact pn_end0 ⟨rfl, trivial⟩ ⟨rfl, trivial⟩ rfl) ?_
                refine pdv_step (M := (cat ([32] : Bs) y18.Name)) (ment := [(92, [])]) [90] [92] [] [] [] (fun s19 => [(46, .v (.string ⟨⟨s19⟩⟩))]) (fun s19 => []) rfl rfl (fun _ => rfl) (fun _ => rfl) (by kernel_rfl) (by kernel_rfl) (fun _ => by kernel_rfl) (fun _ => trivial) (fun w0 X X0 σ0 _ => by refine po_cat rfl rfl rfl rfl rfl rfl fun s19 hs19 => ?_; refine po_nil ?_; exact pn_end ⟨rfl, trivial⟩ trivial rfl) fun s19 hs19 => ?_
                refine pdv_step (M := (cat s19 ([61] : Bs))) (ment := [(94, [])]) [92] [94] [] [] [] (fun s20 => [(47, .v (.string ⟨⟨s20⟩⟩))]) (fun s20 => []) rfl rfl (fun _ => rfl) (fun _ => rfl) (by kernel_rfl) (by kernel_rfl) (fun _ => by kernel_rfl) (fun _ => trivial) (fun w0 X X0 σ0 _ => by refine po_cat rfl rfl rfl rfl rfl rfl fun s20 hs20 => ?_; refine po_nil ?_; exact pn_end ⟨rfl, trivial⟩ trivial rfl) fun s20 hs20 => ?_
                refine pdv_step0 [12] [96] [] [6] [] [(48, .loc 6 1)] [] rfl rfl rfl rfl (by kernel_rfl) (by kernel_rfl) (by kernel_rfl) trivial (fun w0 X X0 σ0 _ => by refine po_evs (T := tab) 1 rfl rfl ?_; refine po_nil ?_; exact pn_end0 ⟨rfl, trivial⟩ trivial rfl) ?_
                refine pdv_step0 [13, 96] [98] [] [6] [6] [(49, .v (.string ⟨⟨y18.Value⟩⟩))] [(6, .box 42 [.v (.string ⟨⟨y18.Name⟩⟩), .v (.string ⟨⟨y18.Value⟩⟩)])] rfl rfl rfl rfl (by kernel_rfl) (by kernel_rfl) (by kernel_rfl) ⟨rfl, trivial⟩ (fun w0 X X0 σ0 _ => by refine po_evs (T := tab) 1 rfl rfl ?_; refine po_nil ?_; exact pn_end0 ⟨rfl, trivial⟩ ⟨rfl, trivial⟩ rfl) ?_
                refine pdv_step (M := (quote_m fu y18.Value)) (ment := [(100, [])]) [98] [100] [] [] [] (fun r21 => [(50, .v (.string ⟨⟨r21⟩⟩))]) (fun r21 => []) rfl rfl (fun _ => rfl) (fun _ => rfl) (by kernel_rfl) (by kernel_rfl) (fun _ => by kernel_rfl) (fun _ => trivial) (fun w0 X X0 σ0 _ => by refine po_call (enc := fun (r21 : Bs) => .v (.string ⟨⟨r21⟩⟩)) (qs := [.v (.string ⟨⟨y18.Value⟩⟩)]) (quote_ok fu y18.Value) rfl rfl ⟨⟨_, rfl, .rfl⟩, trivial⟩ (fun _ => rfl) call13 rfl rfl fun r21 hr21 => ?_; refine po_nil ?_; exact pn_end ⟨rfl, trivial⟩ trivial rfl) fun r21 hr21 => ?_
                refine pdv_step (M := (cat s20 r21)) (ment := [(102, [])]) [94, 100] [102] [] [] [] (fun s22 => [(51, .v (.string ⟨⟨s22⟩⟩))]) (fun s22 => []) rfl rfl (fun _ => rfl) (fun _ => rfl) (by kernel_rfl) (by kernel_rfl) (fun _ => by kernel_rfl) (fun _ => trivial) (fun w0 X X0 σ0 _ => by refine po_cat rfl rfl rfl rfl rfl rfl fun s22 hs22 => ?_; refine po_nil ?_; exact pn_end ⟨rfl, trivial⟩ trivial rfl) fun s22 hs22 => ?_
                refine pdv_step (M := (Strings_Builder_WriteString_m fu s22 l17)) (ment := [(104, []), (1800003, []), (1800001, [900000, 900001])]) [86, 102, 1800001, 1800003] [104, 1800003, 1800001] [900001] [900000] [] (fun r23 => [(52, .tup [.v (.int .i64 r23.1), .err r23.2.1])]) (fun r23 => [(900001, .arr 5 1 (r23.2.2.map cInt_u8)), (900000, .box 60 [.nloc 900000 0, .ownb 900001, .sl 10 false (c2.map cNode), .v (.int .i64 c3)])]) rfl rfl (fun _ => rfl) (fun _ => rfl) (by kernel_rfl) (by kernel_rfl) (fun _ => by kernel_rfl) (fun _ => trivial) (fun w0 X X0 σ0 _ => by refine po_turn [900001] (enc := fun (r23 : (Int × Bool × (List Int))) => .tup [.v (.int .i64 r23.1), .err r23.2.1]) (Sr := fun (r23 : (Int × Bool × (List Int))) => [(900000, .box 60 [.nloc 900000 0, .ownb 900001, .sl 10 false (c2.map cNode), .v (.int .i64 c3)]), (900001, .arr 5 1 (r23.2.2.map cInt_u8))]) (first := []) (cap := []) (qs := [.loc 900000 0, .v (.string ⟨⟨s22⟩⟩)]) (Sc := [(900000, .box 60 [.nloc 900000 0, .ownb 900001, .sl 10 false (c2.map cNode), .v (.int .i64 c3)]), (900001, .arr 5 1 (l17.map cInt_u8))]) (N0 := [900000]) (NR := [900000, 900001]) (fun r23 hr23 => fc_ren [(900000, 900000), (900001, 900001)] [900000, 900001] (Strings_Builder_WriteString_ok fu s22 c2 c3 l17 _ hr23) rfl rfl rfl rfl rfl rfl) ⟨rfl, rfl, trivial⟩ (fun _ => rfl) rfl rfl rfl rfl rfl rfl rfl (fun _ => rfl) (fun _ => rfl) rfl rfl rfl ⟨⟨_, rfl, .rfl⟩, ⟨_, rfl, .rfl⟩, trivial⟩ call45 rfl rfl fun r23 hr23 => ?_; refine po_nil ?_; exact pn_end ⟨rfl, trivial⟩ ⟨rfl, rfl, trivial⟩ rfl) fun r23 hr23 => ?_
                refine pdv_nil rfl rfl ?_
                refine pn_block ?_
                refine pn_seq ?_
                refine pw_region ?_
                refine po_arith' (T := tab) rfl rfl rfl rfl fun i24 hi24 => ?_
                refine po_evs (T := tab) 1 rfl rfl ?_
                refine po_nil ?_
                exact pn_iter' (i24, r23.2.2) ⟨rfl, rfl, rfl, rfl, rfl, rfl, trivial⟩ ⟨rfl, rfl, rfl, trivial⟩ rfl
              · refine pw_exit rfl ?_
                refine pn_seq ?_
                refine pw_seq ?_
                refine pw_region ?_
                refine po_evs (T := tab) 3 rfl rfl ?_
                refine po_turn [900001] (enc := fun (r25 : (Int × Bool × (List Int))) => .tup [.v (.int .i64 r25.1), .err r25.2.1]) (Sr := fun (r25 : (Int × Bool × (List Int))) => [(900000, .box 60 [.nloc 900000 0, .ownb 900001, .sl 10 false (c2.map cNode), .v (.int .i64 c3)]), (900001, .arr 5 1 (r25.2.2.map cInt_u8))]) (first := []) (cap := []) (qs := [.loc 900000 0, .v (.string ⟨⟨[62]⟩⟩)]) (Sc := [(900000, .box 60 [.nloc 900000 0, .ownb 900001, .sl 10 false (c2.map cNode), .v (.int .i64 c3)]), (900001, .arr 5 1 (l17.map cInt_u8))]) (N0 := [900000]) (NR := [900000, 900001]) (fun r25 hr25 => fc_ren [(900000, 900000), (900001, 900001)] [900000, 900001] (Strings_Builder_WriteString_ok fu [62] c2 c3 l17 _ hr25) rfl rfl rfl rfl rfl rfl) ⟨rfl, rfl, trivial⟩ (fun _ => rfl) rfl rfl rfl rfl rfl rfl rfl (fun _ => rfl) (fun _ => rfl) rfl rfl rfl ⟨⟨_, rfl, .rfl⟩, ⟨_, rfl, .rfl⟩, trivial⟩ call45 rfl rfl fun r25 hr25 => ?_
                refine po_nil ?_
                refine pn_seq ?_
                refine pw_seq ?_
                refine pw_seq ?_
                refine pw_region ?_
                refine po_evs (T := tab) 3 rfl rfl ?_
                refine po_nil ?_
                refine pn_seq ?_
                refine pw_cnd rfl ?_ ?_
                · refine pw_region ?_
                  refine po_evs (T := tab) 3 rfl rfl ?_
                  refine po_turn [900001] (enc := fun (r26 : (List Int)) => .tup []) (Sr := fun (r26 : (List Int)) => [(900000, .box 60 [.nloc 900000 0, .ownb 900001, .sl 10 false (c2.map cNode), .v (.int .i64 c3)]), (900001, .arr 5 1 (r26.map cInt_u8))]) (first := []) (cap := []) (qs := [.loc 900000 0, .v (.int .i64 y5.Under)]) (Sc := [(900000, .box 60 [.nloc 900000 0, .ownb 900001, .sl 10 false (c2.map cNode), .v (.int .i64 c3)]), (900001, .arr 5 1 (r25.2.2.map cInt_u8))]) (N0 := [900000]) (NR := [900000, 900001]) (fun r26 hr26 => fc_ren [(900000, 900000), (900001, 900001)] [900000, 900001] (ih y5.Under c2 c3 r25.2.2 _ hr26) rfl rfl rfl rfl rfl rfl) ⟨rfl, rfl, trivial⟩ (fun _ => rfl) rfl rfl rfl rfl rfl rfl rfl (fun _ => rfl) (fun _ => rfl) rfl rfl rfl ⟨⟨_, rfl, .rfl⟩, ⟨_, rfl, .rfl⟩, trivial⟩ call20 rfl rfl fun r26 hr26 => ?_
                  refine po_nil ?_
                  refine pn_seq ?_
                  refine pw_region ?_
                  refine po_evs (T := tab) 3 rfl rfl ?_
                  refine po_cat rfl rfl rfl rfl rfl rfl fun s27 hs27 => ?_
                  refine po_cat rfl rfl rfl rfl rfl rfl fun s28 hs28 => ?_
                  refine po_evs (T := tab) 1 rfl rfl ?_
                  refine po_turn [900001] (enc := fun (r29 : (List Int)) => .tup []) (Sr := fun (r29 : (List Int)) => [(900000, .box 60 [.nloc 900000 0, .ownb 900001, .sl 10 false (c2.map cNode), .v (.int .i64 c3)]), (900001, .arr 5 1 (r29.map cInt_u8))]) (first := []) (cap := []) (qs := [.loc 900000 0, .v (.string ⟨⟨[]⟩⟩), .v (.string ⟨⟨s28⟩⟩), .v (.int .i64 n1)]) (Sc := [(900000, .box 60 [.nloc 900000 0, .ownb 900001, .sl 10 false (c2.map cNode), .v (.int .i64 c3)]), (900001, .arr 5 1 (r26.map cInt_u8))]) (N0 := [900000]) (NR := [900000, 900001]) (fun r29 hr29 => fc_ren [(900000, 900000), (900001, 900001)] [900000, 900001] (Print_printer_between_i2_ok (Print_printer_node_m fu) ih fu [] s28 n1 c2 c3 r26 _ hr29) rfl rfl rfl rfl rfl rfl) ⟨rfl, rfl, trivial⟩ (fun _ => rfl) rfl rfl rfl rfl rfl rfl rfl (fun _ => rfl) (fun _ => rfl) rfl rfl rfl ⟨⟨_, rfl, .rfl⟩, ⟨_, rfl, .rfl⟩, ⟨_, rfl, .rfl⟩, ⟨_, rfl, .rfl⟩, trivial⟩ call46 rfl rfl fun r29 hr29 => ?_
                  refine po_nil ?_
                  refine pn_block ?_
                  exact pn_retN (T := tab) rfl rfl rfl ⟨rfl, rfl⟩ ⟨rfl, rfl, trivial⟩ rfl
                · refine pw_skip ?_
                  refine pn_seq ?_
                  refine pw_region ?_
                  refine po_evs (T := tab) 3 rfl rfl ?_
                  refine po_cat rfl rfl rfl rfl rfl rfl fun s30 hs30 => ?_
                  refine po_cat rfl rfl rfl rfl rfl rfl fun s31 hs31 => ?_
                  refine po_evs (T := tab) 1 rfl rfl ?_
                  refine po_turn [900001] (enc := fun (r32 : (List Int)) => .tup []) (Sr := fun (r32 : (List Int)) => [(900000, .box 60 [.nloc 900000 0, .ownb 900001, .sl 10 false (c2.map cNode), .v (.int .i64 c3)]), (900001, .arr 5 1 (r32.map cInt_u8))]) (first := []) (cap := []) (qs := [.loc 900000 0, .v (.string ⟨⟨[]⟩⟩), .v (.string ⟨⟨s31⟩⟩), .v (.int .i64 n1)]) (Sc := [(900000, .box 60 [.nloc 900000 0, .ownb 900001, .sl 10 false (c2.map cNode), .v (.int .i64 c3)]), (900001, .arr 5 1 (r25.2.2.map cInt_u8))]) (N0 := [900000]) (NR := [900000, 900001]) (fun r32 hr32 => fc_ren [(900000, 900000), (900001, 900001)] [900000, 900001] (Print_printer_between_i2_ok (Print_printer_node_m fu) ih fu [] s31 n1 c2 c3 r25.2.2 _ hr32) rfl rfl rfl rfl rfl rfl) ⟨rfl, rfl, trivial⟩ (fun _ => rfl) rfl rfl rfl rfl rfl rfl rfl (fun _ => rfl) (fun _ => rfl) rfl rfl rfl ⟨⟨_, rfl, .rfl⟩, ⟨_, rfl, .rfl⟩, ⟨_, rfl, .rfl⟩, ⟨_, rfl, .rfl⟩, trivial⟩ call46 rfl rfl fun r32 hr32 => ?_
                  refine po_nil ?_
                  refine pn_block ?_
                  exact pn_retN (T := tab) rfl rfl rfl ⟨rfl, rfl⟩ ⟨rfl, rfl, trivial⟩ rfl
            · refine pw_cnd rfl ?_ ?_
              · refine pw_sub' (E' := [(0, .loc 900000 0), (1, .v (.int .i64 n1)), (4, .loc 4 0)]) (S' := [(900000, .box 60 [.nloc 900000 0, .ownb 900001, .sl 10 false (c2.map cNode), .v (.int .i64 c3)]), (900001, .arr 5 1 (r12.2.2.map cInt_u8)), (4, .box 37 [.v (.int .i64 y5.Kind), .v (.string ⟨⟨y5.Name⟩⟩), .v (.string ⟨⟨y5.Is⟩⟩), .v (.string ⟨⟨y5.Data⟩⟩), .sl 2 false (y5.Attrs.map cAttr), .v (.int .i64 y5.Parent), .sl 1 false (y5.Kids.map cInt_i64), .v (.int .i64 y5.Host), .v (.int .i64 y5.Under), .v (.int .i64 y5.Doc)])]) ?_ ⟨rfl, rfl, rfl, trivial⟩ ⟨rfl, rfl, rfl, trivial⟩ rfl
                refine pw_drawV [0, 1, 3, 0, 8, 24, 63] mixed (by kernel_rfl) (by kernel_rfl) rfl rfl ?_
                refine pdv_step0 [0] [54] [] [900000] [] [(27, .loc 900000 0)] [] rfl rfl rfl rfl (by kernel_rfl) (by kernel_rfl) (by kernel_rfl) trivial (fun w0 X X0 σ0 _ => by refine po_evs (T := tab) 1 rfl rfl ?_; refine po_nil ?_; exact pn_end0 ⟨rfl, trivial⟩ trivial rfl) ?_
                refine pdv_step0 [54] [56] [] [900000] [] [(28, .loc 900000 0)] [] rfl rfl rfl rfl (by kernel_rfl) (by kernel_rfl) (by kernel_rfl) trivial (fun w0 X X0 σ0 _ => by refine po_evs (T := tab) 1 rfl rfl ?_; refine po_nil ?_; exact pn_end0 ⟨rfl, trivial⟩ trivial rfl) ?_
                refine pdv_step0 [56] [58] [] [900000] [] [(29, .loc 900000 0)] [] rfl rfl rfl rfl (by kernel_rfl) (by kernel_rfl) (by kernel_rfl) trivial (fun w0 X X0 σ0 _ => by refine po_evs (T := tab) 1 rfl rfl ?_; refine po_nil ?_; exact pn_end0 ⟨rfl, trivial⟩ trivial rfl) ?_
                refine pdv_step0 [8] [60] [] [4] [] [(30, .loc 4 2)] [] rfl rfl rfl rfl (by kernel_rfl) (by kernel_rfl) (by kernel_rfl) trivial (fun w0 X X0 σ0 _ => by refine po_evs (T := tab) 1 rfl rfl ?_; refine po_nil ?_; exact pn_end0 ⟨rfl, trivial⟩ trivial rfl) ?_
                refine pdv_step0 [9, 60] [62] [] [4] [4] [(31, .v (.string ⟨⟨y5.Is⟩⟩))] [(4, .box 37 [.v (.int .i64 y5.Kind), .v (.string ⟨⟨y5.Name⟩⟩), .v (.string ⟨⟨y5.Is⟩⟩), .v (.string ⟨⟨y5.Data⟩⟩), .sl 2 false (y5.Attrs.map cAttr), .v (.int .i64 y5.Parent), .sl 1 false (y5.Kids.map cInt_i64), .v (.int .i64 y5.Host), .v (.int .i64 y5.Under), .v (.int .i64 y5.Doc)])] rfl rfl rfl rfl (by kernel_rfl) (by kernel_rfl) (by kernel_rfl) ⟨rfl, trivial⟩ (fun w0 X X0 σ0 _ => by refine po_evs (T := tab) 1 rfl rfl ?_; refine po_nil ?_; exact pn_end0 ⟨rfl, trivial⟩ ⟨rfl, trivial⟩ rfl) ?_
                refine pdv_step (M := (cat ([33] : Bs) y5.Is)) (ment := [(64, [])]) [62] [64] [] [] [] (fun s13 => [(32, .v (.string ⟨⟨s13⟩⟩))]) (fun s13 => []) rfl rfl (fun _ => rfl) (fun _ => rfl) (by kernel_rfl) (by kernel_rfl) (fun _ => by kernel_rfl) (fun _ => trivial) (fun w0 X X0 σ0 _ => by refine po_cat rfl rfl rfl rfl rfl rfl fun s13 hs13 => ?_; refine po_nil ?_; exact pn_end ⟨rfl, trivial⟩ trivial rfl) fun s13 hs13 => ?_
                refine pdv_step (M := (Strings_Builder_WriteString_m fu s13 r12.2.2)) (ment := [(66, []), (1800003, []), (1800001, [900000, 900001])]) [58, 64, 1800001, 1800003] [66, 1800003, 1800001] [900001] [900000] [] (fun r14 => [(33, .tup [.v (.int .i64 r14.1), .err r14.2.1])]) (fun r14 => [(900001, .arr 5 1 (r14.2.2.map cInt_u8)), (900000, .box 60 [.nloc 900000 0, .ownb 900001, .sl 10 false (c2.map cNode), .v (.int .i64 c3)])]) rfl rfl (fun _ => rfl) (fun _ => rfl) (by kernel_rfl) (by kernel_rfl) (fun _ => by kernel_rfl) (fun _ => trivial) (fun w0 X X0 σ0 _ => by refine po_turn [900001] (enc := fun (r14 : (Int × Bool × (List Int))) => .tup [.v (.int .i64 r14.1), .err r14.2.1]) (Sr := fun (r14 : (Int × Bool × (List Int))) => [(900000, .box 60 [.nloc 900000 0, .ownb 900001, .sl 10 false (c2.map cNode), .v (.int .i64 c3)]), (900001, .arr 5 1 (r14.2.2.map cInt_u8))]) (first := []) (cap := []) (qs := [.loc 900000 0, .v (.string ⟨⟨s13⟩⟩)]) (Sc := [(900000, .box 60 [.nloc 900000 0, .ownb 900001, .sl 10 false (c2.map cNode), .v (.int .i64 c3)]), (900001, .arr 5 1 (r12.2.2.map cInt_u8))]) (N0 := [900000]) (NR := [900000, 900001]) (fun r14 hr14 => fc_ren [(900000, 900000), (900001, 900001)] [900000, 900001] (Strings_Builder_WriteString_ok fu s13 c2 c3 r12.2.2 _ hr14) rfl rfl rfl rfl rfl rfl) ⟨rfl, rfl, trivial⟩ (fun _ => rfl) rfl rfl rfl rfl rfl rfl rfl (fun _ => rfl) (fun _ => rfl) rfl rfl rfl ⟨⟨_, rfl, .rfl⟩, ⟨_, rfl, .rfl⟩, trivial⟩ call45 rfl rfl fun r14 hr14 => ?_; refine po_nil ?_; exact pn_end ⟨rfl, trivial⟩ ⟨rfl, rfl, trivial⟩ rfl) fun r14 hr14 => ?_
                refine pdv_nil rfl rfl ?_
                exact pn_sub' (hj1 r14.2.2) ⟨rfl, rfl, rfl, trivial⟩ ⟨rfl, rfl, rfl, trivial⟩ rfl
              · refine pw_skip ?_
                exact pn_sub' (hj1 r12.2.2) ⟨rfl, rfl, rfl, trivial⟩ ⟨rfl, rfl, rfl, trivial⟩ rfl

def Strings_Builder_String_v2_m (_fu : Nat) (l3 : (List Int)) : Option Bs := some (strOf l3)

set_option maxRecDepth 100000 in
theorem Strings_Builder_String_i2_ok (fu : Nat) (c1 : (List Node)) (c2 : Int) (l3 : (List Int)) : ∀ r, Strings_Builder_String_v2_m fu l3 = some r → FC laidL Tryz.prog 21 [.loc 900000 0] [(900000, .box 60 [.nloc 900000 0, .ownb 900001, .sl 10 false (c1.map cNode), .v (.int .i64 c2)]), (900001, .arr 5 1 (l3.map cInt_u8))] [900000, 900001] fun p S' => p = .v (.string ⟨⟨r⟩⟩) ∧ S' = [(900000, .box 60 [.nloc 900000 0, .junk, .sl 10 false (c1.map cNode), .v (.int .i64 c2)])] := by
  intro r hr
  refine fc_intro (args := [.loc 900000 0]) (S := [(900000, .box 60 [.nloc 900000 0, .ownb 900001, .sl 10 false (c1.map cNode), .v (.int .i64 c2)]), (900001, .arr 5 1 (l3.map cInt_u8))]) (N0 := [900000, 900001]) (post := fun r p S => p = .v (.string ⟨⟨r⟩⟩) ∧ S = [(900000, .box 60 [.nloc 900000 0, .junk, .sl 10 false (c1.map cNode), .v (.int .i64 c2)])]) Tryz.func21 rfl rfl hr fun w0 X X0 σ0 _ => ?_
  refine pw_seq ?_
  refine pw_region ?_
  refine po_evs (T := tab) 1 rfl rfl ?_
  refine po_nil ?_
  refine pn_seq ?_
  refine pw_seq ?_
  refine pw_sub' (E' := [(0, .loc 900000 0)]) (S' := [(900000, .box 60 [.nloc 900000 0, .ownb 900001, .sl 10 false (c1.map cNode), .v (.int .i64 c2)]), (900001, .arr 5 1 (l3.map cInt_u8))]) ?_ ⟨rfl, trivial⟩ ⟨rfl, rfl, trivial⟩ rfl
  refine pw_drawV [0, 1, 3, 7, 15, 0, 32, 96, 224, 480, 1023, 2047] mixed (by kernel_rfl) (by kernel_rfl) rfl rfl ?_
  refine pdv_step0 [0] [6] [] [900000] [] [(3, .loc 900000 0)] [] rfl rfl rfl rfl (by kernel_rfl) (by kernel_rfl) (by kernel_rfl) trivial (fun w0 X X0 σ0 _ => by refine po_evs (T := tab) 1 rfl rfl ?_; refine po_nil ?_; exact pn_end0 ⟨rfl, trivial⟩ trivial rfl) ?_
  refine pdv_step0 [6] [8] [] [900000] [] [(4, .loc 900000 0)] [] rfl rfl rfl rfl (by kernel_rfl) (by kernel_rfl) (by kernel_rfl) trivial (fun w0 X X0 σ0 _ => by refine po_evs (T := tab) 1 rfl rfl ?_; refine po_nil ?_; exact pn_end0 ⟨rfl, trivial⟩ trivial rfl) ?_
  refine pdv_step0 [8] [10] [] [900000] [] [(5, .loc 900000 1)] [] rfl rfl rfl rfl (by kernel_rfl) (by kernel_rfl) (by kernel_rfl) trivial (fun w0 X X0 σ0 _ => by refine po_evs (T := tab) 1 rfl rfl ?_; refine po_nil ?_; exact pn_end0 ⟨rfl, trivial⟩ trivial rfl) ?_
  refine pdv_step0 [10, 1800001] [12] [] [900000, 900001] [900000] [(6, .ownb 900001)] [(900000, .box 60 [.nloc 900000 0, .ownb 900001, .sl 10 false (c1.map cNode), .v (.int .i64 c2)])] rfl rfl rfl rfl (by kernel_rfl) (by kernel_rfl) (by kernel_rfl) ⟨rfl, trivial⟩ (fun w0 X X0 σ0 _ => by refine po_evs (T := tab) 1 rfl rfl ?_; refine po_nil ?_; exact pn_end0 ⟨rfl, trivial⟩ ⟨rfl, trivial⟩ rfl) ?_
  refine pdv_step0 [12, 1800003] [14] [] [900001] [900001] [(7, .dat 900001)] [(900001, .arr 5 1 (l3.map cInt_u8))] rfl rfl rfl rfl (by kernel_rfl) (by kernel_rfl) (by kernel_rfl) ⟨rfl, trivial⟩ (fun w0 X X0 σ0 _ => by refine po_sliceData rfl rfl rfl rfl rfl rfl ?_; refine po_nil ?_; exact pn_end0 ⟨rfl, trivial⟩ ⟨rfl, trivial⟩ rfl) ?_
  refine pdv_step0 [0] [16] [] [900000] [] [(8, .loc 900000 0)] [] rfl rfl rfl rfl (by kernel_rfl) (by kernel_rfl) (by kernel_rfl) trivial (fun w0 X X0 σ0 _ => by refine po_evs (T := tab) 1 rfl rfl ?_; refine po_nil ?_; exact pn_end0 ⟨rfl, trivial⟩ trivial rfl) ?_
  refine pdv_step0 [16] [18] [] [900000] [] [(9, .loc 900000 0)] [] rfl rfl rfl rfl (by kernel_rfl) (by kernel_rfl) (by kernel_rfl) trivial (fun w0 X X0 σ0 _ => by refine po_evs (T := tab) 1 rfl rfl ?_; refine po_nil ?_; exact pn_end0 ⟨rfl, trivial⟩ trivial rfl) ?_
  refine pdv_step0 [18] [20] [] [900000] [] [(10, .loc 900000 1)] [] rfl rfl rfl rfl (by kernel_rfl) (by kernel_rfl) (by kernel_rfl) trivial (fun w0 X X0 σ0 _ => by refine po_evs (T := tab) 1 rfl rfl ?_; refine po_nil ?_; exact pn_end0 ⟨rfl, trivial⟩ trivial rfl) ?_
  refine pdv_step0 [20, 1800001] [22] [] [900000, 900001] [900000] [(11, .ownb 900001)] [(900000, .box 60 [.nloc 900000 0, .ownb 900001, .sl 10 false (c1.map cNode), .v (.int .i64 c2)])] rfl rfl rfl rfl (by kernel_rfl) (by kernel_rfl) (by kernel_rfl) ⟨rfl, trivial⟩ (fun w0 X X0 σ0 _ => by refine po_evs (T := tab) 1 rfl rfl ?_; refine po_nil ?_; exact pn_end0 ⟨rfl, trivial⟩ ⟨rfl, trivial⟩ rfl) ?_
  refine pdv_step0 [22, 1800003] [24, 22] [] [900001] [900001] [(12, .v (.int .i64 ((l3.length : Nat) : Int))), (11, .own 900001)] [(900001, .arr 5 1 (l3.map cInt_u8))] rfl rfl rfl rfl (by kernel_rfl) (by kernel_rfl) (by kernel_rfl) ⟨rfl, trivial⟩ (fun w0 X X0 σ0 _ => by refine po_coe 11 (q := .own 900001) rfl .ownb ?_; refine po_len_own (T := tab) cInt_u8 l3 rfl rfl rfl rfl rfl rfl rfl rfl rfl ?_; refine po_nil ?_; exact pn_end0 ⟨rfl, rfl, trivial⟩ ⟨rfl, trivial⟩ rfl) ?_
  refine pdv_step0 [12, 14, 22, 24, 1800001, 1800003] [26, 12, 14, 22, 1800001, 1800003] [] [900000, 900001] [] [(13, .v (.string ⟨⟨(strOf l3)⟩⟩)), (11, .sl 1 false (l3.map cInt_u8))] [(900000, .box 60 [.nloc 900000 0, .junk, .sl 10 false (c1.map cNode), .v (.int .i64 c2)])] rfl rfl rfl rfl (by kernel_rfl) (by kernel_rfl) (by kernel_rfl) trivial (fun w0 X X0 σ0 _ => by refine po_usString cInt_u8 l3 (fun _ => rfl) rfl rfl rfl rfl rfl rfl rfl Tryz.underlying85 (by kernel_rfl) rfl rfl rfl rfl ?_; refine po_nil ?_; exact pn_end0 ⟨rfl, rfl, trivial⟩ ⟨rfl, trivial⟩ rfl) ?_
  refine pdv_step0 [26] [4] [] [] [] [(2, .v (.string ⟨⟨(strOf l3)⟩⟩))] [] rfl rfl rfl rfl (by kernel_rfl) (by kernel_rfl) (by kernel_rfl) trivial (fun w0 X X0 σ0 _ => by refine po_evs (T := tab) 1 rfl rfl ?_; refine po_nil ?_; exact pn_end0 ⟨rfl, trivial⟩ trivial rfl) ?_
  refine pdv_nil rfl rfl ?_
  refine pn_seq ?_
  exact pw_retN (T := tab) rfl rfl rfl ⟨rfl, rfl⟩ ⟨rfl, trivial⟩ rfl

def Print_Put_m (fu : Nat) (f1 : Forest) (n2 : Int) : Option (Bs × Int) := bnd (Forest_Right_m fu f1) fun r3 => cnd (!r3) (some ([], 1)) (cnd (decide (n2 < 0)) (some ([], 1)) (cnd (decide (n2 ≥ ((f1.Nodes.length : Nat) : Int))) (some ([], 1)) (bnd (Print_printer_node_m fu n2 f1.Nodes f1.Most []) fun r4 => bnd (Strings_Builder_String_v2_m fu r4) fun r5 => some (r5, 0))))

set_option maxHeartbeats 10000000 in
set_option maxRecDepth 100000 in
theorem Print_Put_ok (fu : Nat) (f1 : Forest) (n2 : Int) : ∀ r, Print_Put_m fu f1 n2 = some r → DC laidL Tryz.prog 11 [.agg (cForest f1), .v (.int .i64 n2)] (.tup [.v (.string ⟨⟨r.1⟩⟩), .v (.int .i64 r.2)]) := by
  intro r hr
  refine fc_intro (args := [.agg (cForest f1), .v (.int .i64 n2)]) (S := []) (N0 := []) (post := fun r p S => p = .tup [.v (.string ⟨⟨r.1⟩⟩), .v (.int .i64 r.2)] ∧ S = []) Tryz.func11 rfl rfl hr fun w0 X X0 σ0 _ => ?_
  refine pw_seq ?_
  refine pw_region ?_
  refine po_box  2 rfl rfl rfl rfl rfl rfl rfl rfl rfl rfl ?_
  refine po_evs (T := tab) 2 rfl rfl ?_
  refine po_nil ?_
  refine pn_seq ?_
  refine pw_seq ?_
  refine pw_seq ?_
  refine pw_region ?_
  refine po_evs (T := tab) 1 rfl rfl ?_
  refine po_call (enc := fun (r3 : Bool) => .v (.bool r3)) (qs := [.agg (cForest f1)]) (Forest_Right_ok fu f1) rfl rfl ⟨⟨_, rfl, .rfl⟩, trivial⟩ (fun _ => rfl) call8 rfl rfl fun r3 hr3 => ?_
  refine po_evs (T := tab) 2 rfl rfl ?_
  refine po_split (j := 10) rfl ?_ ?_
  · refine po_evs (T := tab) 10 rfl rfl ?_
    refine po_nil ?_
    refine pn_seq (pw_then rfl ?_)
    refine pw_seq ?_
    refine pw_region ?_
    refine po_evs (T := tab) 2 rfl rfl ?_
    refine po_nil ?_
    refine pn_seq ?_
    exact pw_retN (T := tab) rfl rfl rfl ⟨rfl, rfl⟩ trivial rfl
  · refine po_evs (T := tab) 4 rfl rfl ?_
    refine po_split (j := 14) rfl ?_ ?_
    · refine po_evs (T := tab) 6 rfl rfl ?_
      refine po_nil ?_
      refine pn_seq (pw_then rfl ?_)
      refine pw_seq ?_
      refine pw_region ?_
      refine po_evs (T := tab) 2 rfl rfl ?_
      refine po_nil ?_
      refine pn_seq ?_
      exact pw_retN (T := tab) rfl rfl rfl ⟨rfl, rfl⟩ trivial rfl
    · refine po_evs (T := tab) 3 rfl rfl ?_
      refine po_len (T := tab) cNode f1.Nodes rfl rfl rfl rfl rfl rfl rfl rfl ?_
      refine po_evs (T := tab) 2 rfl rfl ?_
      refine po_nil ?_
      refine pn_seq ?_
      refine pw_cnd rfl ?_ ?_
      · refine pw_seq ?_
        refine pw_region ?_
        refine po_evs (T := tab) 2 rfl rfl ?_
        refine po_nil ?_
        refine pn_seq ?_
        exact pw_retN (T := tab) rfl rfl rfl ⟨rfl, rfl⟩ trivial rfl
      · refine pw_skip ?_
        refine pn_seq ?_
        refine pw_seq ?_
        refine pw_region ?_
        refine po_evs (T := tab) 1 rfl rfl ?_
        refine po_build (T := tab) rfl rfl rfl rfl rfl rfl rfl ?_
        refine po_box  23 rfl rfl rfl rfl rfl rfl rfl rfl rfl rfl ?_
        refine po_coeS 23 [.nloc 23 0, .v (.slice none 0 0), .sl 10 false (f1.Nodes.map cNode), .v (.int .i64 f1.Most)] rfl ⟨.nloc0, .rfl, .rfl, .rfl, trivial⟩ rfl ?_
        refine po_ownb_nilS 5230 5 1 23 1 rfl rfl rfl rfl rfl rfl ?_
        refine po_evs (T := tab) 1 rfl rfl ?_
        refine po_nil ?_
        refine pn_seq ?_
        refine pw_seq ?_
        refine pw_region ?_
        refine po_evs (T := tab) 2 rfl rfl ?_
        refine po_turn [5230] (enc := fun (r4 : (List Int)) => .tup []) (Sr := fun (r4 : (List Int)) => [(23, .box 60 [.nloc 23 0, .ownb 5230, .sl 10 false (f1.Nodes.map cNode), .v (.int .i64 f1.Most)]), (5230, .arr 5 1 (r4.map cInt_u8))]) (first := []) (cap := []) (qs := [.loc 23 0, .v (.int .i64 n2)]) (Sc := [(23, .box 60 [.nloc 23 0, .ownb 5230, .sl 10 false (f1.Nodes.map cNode), .v (.int .i64 f1.Most)]), (5230, .arr 5 1 ([].map cInt_u8))]) (N0 := [23]) (NR := [23, 5230]) (fun r4 hr4 => fc_ren [(900000, 23), (900001, 5230)] [900000, 900001] (Print_printer_node_ok fu n2 f1.Nodes f1.Most [] _ hr4) rfl rfl rfl rfl rfl rfl) ⟨rfl, rfl, trivial⟩ (fun _ => rfl) rfl rfl rfl rfl rfl rfl rfl (fun _ => rfl) (fun _ => rfl) rfl rfl rfl ⟨⟨_, rfl, .rfl⟩, ⟨_, rfl, .rfl⟩, trivial⟩ call20 rfl rfl fun r4 hr4 => ?_
        refine po_nil ?_
        refine pn_seq ?_
        refine pw_seq ?_
        refine pw_region ?_
        refine po_evs (T := tab) 3 rfl rfl ?_
        refine po_turn [] (enc := fun (r5 : Bs) => .v (.string ⟨⟨r5⟩⟩)) (Sr := fun (r5 : Bs) => [(23, .box 60 [.nloc 23 0, .junk, .sl 10 false (f1.Nodes.map cNode), .v (.int .i64 f1.Most)])]) (first := []) (cap := []) (qs := [.loc 23 0]) (Sc := [(23, .box 60 [.nloc 23 0, .ownb 5230, .sl 10 false (f1.Nodes.map cNode), .v (.int .i64 f1.Most)]), (5230, .arr 5 1 (r4.map cInt_u8))]) (N0 := [23, 5230]) (NR := [23]) (fun r5 hr5 => fc_ren [(900000, 23), (900001, 5230)] [900000, 900001] (Strings_Builder_String_i2_ok fu f1.Nodes f1.Most r4 _ hr5) rfl rfl rfl rfl rfl rfl) ⟨rfl, rfl, trivial⟩ (fun _ => rfl) rfl rfl rfl rfl rfl rfl rfl (fun _ => rfl) (fun _ => rfl) rfl rfl rfl ⟨⟨_, rfl, .rfl⟩, trivial⟩ call21 rfl rfl fun r5 hr5 => ?_
        refine po_evs (T := tab) 2 rfl rfl ?_
        refine po_nil ?_
        refine pn_seq ?_
        exact pw_retN (T := tab) rfl rfl rfl ⟨rfl, rfl⟩ trivial rfl

def Instarlaw08_awake_m (fu : Nat) : Option Bool := bnd (Print_Fresh_m fu [60, 112, 33, 120, 45, 98, 32, 97, 61, 34, 49, 34, 62, 123, 60, 98, 62, 60, 47, 98, 62, 125, 34, 104, 92, 34, 34, 60, 105, 62, 60, 47, 105, 62, 60, 47, 112, 62] 20) fun r1 => bnd (Print_Put_m fu r1.1 r1.2.1) fun r2 => cnd (r1.2.2 == 0) (cnd (r2.2 == 0) (cnd (r2.1 == ([60, 112, 33, 120, 45, 98, 32, 97, 61, 34, 49, 34, 62, 123, 60, 98, 62, 60, 47, 98, 62, 125, 34, 104, 92, 34, 34, 60, 105, 62, 60, 47, 105, 62, 60, 47, 112, 62] : Bs)) (cnd (((r1.1.Nodes.length : Nat) : Int) == 6) (cnd (r1.2.1 == 1) (bnd (idx r1.1.Nodes 1) fun y3 => cnd (y3.Is == ([120, 45, 98] : Bs)) (bnd (idx r1.1.Nodes 4) fun y4 => cnd (y4.Data == ([104, 34] : Bs)) (bnd (quote_m fu ([92] : Bs)) fun r5 => some (r5 == ([34, 92, 92, 34] : Bs))) (some false)) (some false)) (some false)) (some false)) (some false)) (some false)) (some false)

set_option maxHeartbeats 10000000 in
set_option maxRecDepth 100000 in
theorem Instarlaw08_awake_ok (fu : Nat) : ∀ r, Instarlaw08_awake_m fu = some r → DC laidL Tryz.prog 6 [] (.v (.bool r)) := by
  intro r hr
  refine fc_intro (args := []) (S := []) (N0 := []) (post := fun r p S => p = .v (.bool r) ∧ S = []) Tryz.func6 rfl rfl hr fun w0 X X0 σ0 _ => ?_
  refine pw_seq ?_
  refine pw_region ?_
  refine po_evs (T := tab) 1 rfl rfl ?_
  refine po_nil ?_
  refine pn_seq ?_
  refine pw_seq ?_
  refine pw_region ?_
  refine po_call (enc := fun (r1 : (Forest × Int × Int)) => .tup [.agg (cForest r1.1), .v (.int .i64 r1.2.1), .v (.int .i64 r1.2.2)]) (qs := [.v (.string ⟨⟨[60, 112, 33, 120, 45, 98, 32, 97, 61, 34, 49, 34, 62, 123, 60, 98, 62, 60, 47, 98, 62, 125, 34, 104, 92, 34, 34, 60, 105, 62, 60, 47, 105, 62, 60, 47, 112, 62]⟩⟩), .v (.int .i64 20)]) (Print_Fresh_ok fu [60, 112, 33, 120, 45, 98, 32, 97, 61, 34, 49, 34, 62, 123, 60, 98, 62, 60, 47, 98, 62, 125, 34, 104, 92, 34, 34, 60, 105, 62, 60, 47, 105, 62, 60, 47, 112, 62] 20) rfl rfl ⟨⟨_, rfl, .rfl⟩, ⟨_, rfl, .rfl⟩, trivial⟩ (fun _ => rfl) call16 rfl rfl fun r1 hr1 => ?_
  refine po_evs (T := tab) 4 rfl rfl ?_
  refine po_alloc (T := tab) 1 rfl rfl rfl rfl rfl rfl rfl rfl rfl ?_
  refine po_store (T := tab) rfl rfl rfl rfl rfl rfl rfl rfl rfl rfl rfl rfl ?_
  refine po_evs (T := tab) 2 rfl rfl ?_
  refine po_nil ?_
  refine pn_seq ?_
  refine pw_seq ?_
  refine pw_region ?_
  refine po_evs (T := tab) 2 rfl rfl ?_
  refine po_call (enc := fun (r2 : (Bs × Int)) => .tup [.v (.string ⟨⟨r2.1⟩⟩), .v (.int .i64 r2.2)]) (qs := [.agg (cForest r1.1), .v (.int .i64 r1.2.1)]) (Print_Put_ok fu r1.1 r1.2.1) rfl rfl ⟨⟨_, rfl, .rfl⟩, ⟨_, rfl, .rfl⟩, trivial⟩ (fun _ => rfl) call11 rfl rfl fun r2 hr2 => ?_
  refine po_evs (T := tab) 5 rfl rfl ?_
  refine po_nil ?_
  refine pn_seq ?_
  refine pw_seq ?_
  refine pw_region ?_
  refine po_evs (T := tab) 3 rfl rfl ?_
  refine po_split (j := 19) rfl ?_ ?_
  · refine po_evs (T := tab) 4 rfl rfl ?_
    refine po_split (j := 23) rfl ?_ ?_
    · refine po_evs (T := tab) 4 rfl rfl ?_
      refine po_split (j := 27) rfl ?_ ?_
      · refine po_evs (T := tab) 2 rfl rfl ?_
        refine po_len (T := tab) cNode r1.1.Nodes rfl rfl rfl rfl rfl rfl rfl rfl ?_
        refine po_evs (T := tab) 3 rfl rfl ?_
        refine po_split (j := 33) rfl ?_ ?_
        · refine po_evs (T := tab) 4 rfl rfl ?_
          refine po_split (j := 37) rfl ?_ ?_
          · refine po_evs (T := tab) 2 rfl rfl ?_
            refine po_idx (T := tab) cNode r1.1.Nodes rfl rfl rfl rfl rfl rfl rfl fun y3 hy3 => ?_
            refine po_evs (T := tab) 5 rfl rfl ?_
            refine po_split (j := 45) rfl ?_ ?_
            · refine po_evs (T := tab) 2 rfl rfl ?_
              refine po_idx (T := tab) cNode r1.1.Nodes rfl rfl rfl rfl rfl rfl rfl fun y4 hy4 => ?_
              refine po_evs (T := tab) 5 rfl rfl ?_
              refine po_split (j := 53) rfl ?_ ?_
              · refine po_call (enc := fun (r5 : Bs) => .v (.string ⟨⟨r5⟩⟩)) (qs := [.v (.string ⟨⟨[92]⟩⟩)]) (quote_ok fu ([92] : Bs)) rfl rfl ⟨⟨_, rfl, .rfl⟩, trivial⟩ (fun _ => rfl) call13 rfl rfl fun r5 hr5 => ?_
                refine po_evs (T := tab) 3 rfl rfl ?_
                refine po_nil ?_
                refine pn_seq ?_
                exact pw_retN (T := tab) rfl rfl rfl ⟨rfl, rfl⟩ trivial rfl
              · refine po_evs (T := tab) 4 rfl rfl ?_
                refine po_nil ?_
                refine pn_seq ?_
                exact pw_retN (T := tab) rfl rfl rfl ⟨rfl, rfl⟩ trivial rfl
            · refine po_evs (T := tab) 12 rfl rfl ?_
              refine po_nil ?_
              refine pn_seq ?_
              exact pw_retN (T := tab) rfl rfl rfl ⟨rfl, rfl⟩ trivial rfl
          · refine po_evs (T := tab) 20 rfl rfl ?_
            refine po_nil ?_
            refine pn_seq ?_
            exact pw_retN (T := tab) rfl rfl rfl ⟨rfl, rfl⟩ trivial rfl
        · refine po_evs (T := tab) 24 rfl rfl ?_
          refine po_nil ?_
          refine pn_seq ?_
          exact pw_retN (T := tab) rfl rfl rfl ⟨rfl, rfl⟩ trivial rfl
      · refine po_evs (T := tab) 30 rfl rfl ?_
        refine po_nil ?_
        refine pn_seq ?_
        exact pw_retN (T := tab) rfl rfl rfl ⟨rfl, rfl⟩ trivial rfl
    · refine po_evs (T := tab) 34 rfl rfl ?_
      refine po_nil ?_
      refine pn_seq ?_
      exact pw_retN (T := tab) rfl rfl rfl ⟨rfl, rfl⟩ trivial rfl
  · refine po_evs (T := tab) 38 rfl rfl ?_
    refine po_nil ?_
    refine pn_seq ?_
    exact pw_retN (T := tab) rfl rfl rfl ⟨rfl, rfl⟩ trivial rfl

def Instarref03_Short_l1 (f1 : Forest) : Nat → Int → Option Bool
  | 0, _ => none
  | k1 + 1, i2 => cnd (decide (i2 < ((f1.Nodes.length : Nat) : Int))) (bnd (idx f1.Nodes i2) fun y3 => cnd (decide (((y3.Kids.length : Nat) : Int) > 60)) (some false) (bnd (idx f1.Nodes i2) fun y4 => cnd (decide (((y4.Attrs.length : Nat) : Int) > 60)) (some false) (bnd (idx f1.Nodes i2) fun y5 => cnd (decide (((y5.Name.length : Nat) : Int) > 300)) (some false) (bnd (rng .i64 (i2 + 1)) fun i6 => (Instarref03_Short_l1 f1 k1) i6)))) (some true)

def Instarref03_Short_m (fu : Nat) (f1 : Forest) : Option Bool := cnd (decide (((f1.Nodes.length : Nat) : Int) > 60)) (some false) ((Instarref03_Short_l1 f1) fu 0)

set_option maxHeartbeats 10000000 in
set_option maxRecDepth 100000 in
theorem Instarref03_Short_ok (fu : Nat) (f1 : Forest) : ∀ r, Instarref03_Short_m fu f1 = some r → DC laidL Tryz.prog 7 [.agg (cForest f1)] (.v (.bool r)) := by
  intro r hr
  refine fc_intro (args := [.agg (cForest f1)]) (S := []) (N0 := []) (post := fun r p S => p = .v (.bool r) ∧ S = []) Tryz.func7 rfl rfl hr fun w0 X X0 σ0 _ => ?_
  refine pw_seq ?_
  refine pw_region ?_
  refine po_box  1 rfl rfl rfl rfl rfl rfl rfl rfl rfl rfl ?_
  refine po_evs (T := tab) 1 rfl rfl ?_
  refine po_nil ?_
  refine pn_seq ?_
  refine pw_seq ?_
  refine pw_seq ?_
  refine pw_region ?_
  refine po_evs (T := tab) 2 rfl rfl ?_
  refine po_len (T := tab) cNode f1.Nodes rfl rfl rfl rfl rfl rfl rfl rfl ?_
  refine po_evs (T := tab) 1 rfl rfl ?_
  refine po_nil ?_
  refine pn_seq ?_
  refine pw_cnd rfl ?_ ?_
  · refine pw_seq ?_
    refine pw_region ?_
    refine po_evs (T := tab) 1 rfl rfl ?_
    refine po_nil ?_
    refine pn_seq ?_
    exact pw_retN (T := tab) rfl rfl rfl ⟨rfl, rfl⟩ trivial rfl
  · refine pw_skip ?_
    refine pn_seq ?_
    refine pw_seq ?_
    refine pw_seq ?_
    refine pw_region ?_
    refine po_evs (T := tab) 1 rfl rfl ?_
    refine po_nil ?_
    refine pn_seq ?_
    refine pw_block ?_
    refine pw_loop' (Instarref03_Short_l1 f1) (fun (i2 : Int) => [(1, .loc 1 0), (3, .v (.int .i64 i2))]) (fun (i2 : Int) => [(1, .box 24 [.sl 10 false (f1.Nodes.map cNode), .v (.int .i64 f1.Most)])]) fu 0 (fun _ => rfl) ⟨rfl, rfl, trivial⟩ ⟨rfl, trivial⟩ rfl ?_
    rintro k1 i2
    refine pw_seq ?_
    refine pw_seq ?_
    refine pw_region ?_
    refine po_evs (T := tab) 3 rfl rfl ?_
    refine po_len (T := tab) cNode f1.Nodes rfl rfl rfl rfl rfl rfl rfl rfl ?_
    refine po_evs (T := tab) 1 rfl rfl ?_
    refine po_nil ?_
    refine pn_seq ?_
    refine pw_cnd rfl ?_ ?_
    · refine pw_skip ?_
      refine pn_seq ?_
      refine pw_seq ?_
      refine pw_block ?_
      refine pw_seq ?_
      refine pw_region ?_
      refine po_evs (T := tab) 3 rfl rfl ?_
      refine po_idx (T := tab) cNode f1.Nodes rfl rfl rfl rfl rfl rfl rfl fun y3 hy3 => ?_
      refine po_evs (T := tab) 2 rfl rfl ?_
      refine po_len (T := tab) cInt_i64 y3.Kids rfl rfl rfl rfl rfl rfl rfl rfl ?_
      refine po_evs (T := tab) 2 rfl rfl ?_
      refine po_split (j := 23) rfl ?_ ?_
      · refine po_evs (T := tab) 19 rfl rfl ?_
        refine po_nil ?_
        refine pn_seq (pw_then rfl ?_)
        refine pw_seq ?_
        refine pw_region ?_
        refine po_evs (T := tab) 1 rfl rfl ?_
        refine po_nil ?_
        refine pn_seq ?_
        exact pw_retN (T := tab) rfl rfl rfl ⟨rfl, rfl⟩ trivial rfl
      · refine po_evs (T := tab) 3 rfl rfl ?_
        refine po_idx (T := tab) cNode f1.Nodes rfl rfl rfl rfl rfl rfl rfl fun y4 hy4 => ?_
        refine po_evs (T := tab) 2 rfl rfl ?_
        refine po_len (T := tab) cAttr y4.Attrs rfl rfl rfl rfl rfl rfl rfl rfl ?_
        refine po_evs (T := tab) 3 rfl rfl ?_
        refine po_split (j := 33) rfl ?_ ?_
        · refine po_evs (T := tab) 9 rfl rfl ?_
          refine po_nil ?_
          refine pn_seq (pw_then rfl ?_)
          refine pw_seq ?_
          refine pw_region ?_
          refine po_evs (T := tab) 1 rfl rfl ?_
          refine po_nil ?_
          refine pn_seq ?_
          exact pw_retN (T := tab) rfl rfl rfl ⟨rfl, rfl⟩ trivial rfl
        · refine po_evs (T := tab) 3 rfl rfl ?_
          refine po_idx (T := tab) cNode f1.Nodes rfl rfl rfl rfl rfl rfl rfl fun y5 hy5 => ?_
          refine po_evs (T := tab) 5 rfl rfl ?_
          refine po_nil ?_
          refine pn_seq ?_
          refine pw_cnd rfl ?_ ?_
          · refine pw_seq ?_
            refine pw_region ?_
            refine po_evs (T := tab) 1 rfl rfl ?_
            refine po_nil ?_
            refine pn_seq ?_
            exact pw_retN (T := tab) rfl rfl rfl ⟨rfl, rfl⟩ trivial rfl
          · refine pw_skip ?_
            refine pn_block ?_
            refine pn_seq ?_
            refine pw_region ?_
            refine po_evs (T := tab) 1 rfl rfl ?_
            refine po_arith' (T := tab) rfl rfl rfl rfl fun i6 hi6 => ?_
            refine po_evs (T := tab) 1 rfl rfl ?_
            refine po_nil ?_
            exact pn_iter' i6 ⟨rfl, rfl, trivial⟩ ⟨rfl, trivial⟩ rfl
    · refine pw_exit rfl ?_
      refine pn_seq ?_
      refine pw_seq ?_
      refine pw_region ?_
      refine po_evs (T := tab) 1 rfl rfl ?_
      refine po_nil ?_
      refine pn_seq ?_
      exact pw_retN (T := tab) rfl rfl rfl ⟨rfl, rfl⟩ trivial rfl

def Twin_there_1_m (_fu : Nat) (n1 : Int) (c2 : Forest) : Option Bool := cnd (decide (n1 < 0)) (some true) (some (decide (n1 ≥ ((c2.Nodes.length : Nat) : Int))))

set_option maxRecDepth 100000 in
theorem Twin_there_1_ok (fu : Nat) (n1 : Int) (c2 : Forest) : ∀ r, Twin_there_1_m fu n1 c2 = some r → FC laidL Tryz.prog 50 [.v (.int .i64 n1), .loc 900000 0] [(900000, .box 24 [.sl 10 false (c2.Nodes.map cNode), .v (.int .i64 c2.Most)])] [900000] fun p S' => p = .v (.bool r) ∧ S' = [(900000, .box 24 [.sl 10 false (c2.Nodes.map cNode), .v (.int .i64 c2.Most)])] := by
  intro r hr
  refine fc_intro (args := [.v (.int .i64 n1), .loc 900000 0]) (S := [(900000, .box 24 [.sl 10 false (c2.Nodes.map cNode), .v (.int .i64 c2.Most)])]) (N0 := [900000]) (post := fun r p S => p = .v (.bool r) ∧ S = [(900000, .box 24 [.sl 10 false (c2.Nodes.map cNode), .v (.int .i64 c2.Most)])]) Tryz.func50 rfl rfl hr fun w0 X X0 σ0 _ => ?_
  refine pw_seq ?_
  refine pw_region ?_
  refine po_evs (T := tab) 1 rfl rfl ?_
  refine po_nil ?_
  refine pn_seq ?_
  refine pw_seq ?_
  refine pw_region ?_
  refine po_evs (T := tab) 3 rfl rfl ?_
  refine po_split (j := 6) rfl ?_ ?_
  · refine po_evs (T := tab) 7 rfl rfl ?_
    refine po_nil ?_
    refine pn_seq ?_
    exact pw_retN (T := tab) rfl rfl rfl ⟨rfl, rfl⟩ ⟨rfl, trivial⟩ rfl
  · refine po_evs (T := tab) 3 rfl rfl ?_
    refine po_len (T := tab) cNode c2.Nodes rfl rfl rfl rfl rfl rfl rfl rfl ?_
    refine po_evs (T := tab) 3 rfl rfl ?_
    refine po_nil ?_
    refine pn_seq ?_
    exact pw_retN (T := tab) rfl rfl rfl ⟨rfl, rfl⟩ ⟨rfl, trivial⟩ rfl

def Slices_IndexFunc_int_l1 (t1 : Int → Option Bool) (s1 : (List Int)) : Nat → Int → Option Int
  | 0, _ => none
  | k1 + 1, t3 => cnd (decide (t3 < ((s1.length : Nat) : Int))) (bnd (idx s1 t3) fun y4 => bnd (t1 y4) fun r5 => cnd r5 (some t3) (bnd (rng .i64 (t3 + 1)) fun i6 => (Slices_IndexFunc_int_l1 t1 s1 k1) i6)) (some (-1))

def Slices_IndexFunc_int_m (fu : Nat) (t1 : Int → Option Bool) (s1 : (List Int)) : Option Int := (Slices_IndexFunc_int_l1 t1 s1) fu 0

set_option maxHeartbeats 10000000 in
set_option maxRecDepth 100000 in
theorem Slices_IndexFunc_int_ok (fu : Nat) (s1 : (List Int)) (c2 : Forest) : ∀ r, Slices_IndexFunc_int_m fu (fun (z1 : Int) => Twin_there_1_m fu z1 c2) s1 = some r → FC laidL Tryz.prog 73 [.sl 1 false (s1.map cInt_i64), .fn (.func 50) [] [.loc 900000 0]] [(900000, .box 24 [.sl 10 false (c2.Nodes.map cNode), .v (.int .i64 c2.Most)])] [900000] fun p S' => p = .v (.int .i64 r) ∧ S' = [(900000, .box 24 [.sl 10 false (c2.Nodes.map cNode), .v (.int .i64 c2.Most)])] := by
  intro r hr
  refine fc_intro (args := [.sl 1 false (s1.map cInt_i64), .fn (.func 50) [] [.loc 900000 0]]) (S := [(900000, .box 24 [.sl 10 false (c2.Nodes.map cNode), .v (.int .i64 c2.Most)])]) (N0 := [900000]) (post := fun r p S => p = .v (.int .i64 r) ∧ S = [(900000, .box 24 [.sl 10 false (c2.Nodes.map cNode), .v (.int .i64 c2.Most)])]) Tryz.func73 rfl rfl hr fun w0 X X0 σ0 _ => ?_
  refine pw_seq ?_
  refine pw_region ?_
  refine po_evs (T := tab) 1 rfl rfl ?_
  refine po_nil ?_
  refine pn_seq ?_
  refine pw_seq ?_
  refine pw_seq ?_
  refine pw_region ?_
  refine po_evs (T := tab) 1 rfl rfl ?_
  refine po_len (T := tab) cInt_i64 s1 rfl rfl rfl rfl rfl rfl rfl rfl ?_
  refine po_evs (T := tab) 1 rfl rfl ?_
  refine po_nil ?_
  refine pn_seq ?_
  refine pw_block ?_
  refine pw_loop' (Slices_IndexFunc_int_l1 (fun (z1 : Int) => Twin_there_1_m fu z1 c2) s1) (fun (t3 : Int) => [(0, .sl 1 false (s1.map cInt_i64)), (1, .fn (.func 50) [] [.loc 900000 0]), (7, .v (.int .i64 ((s1.length : Nat) : Int))), (8, .v (.int .i64 t3))]) (fun (t3 : Int) => [(900000, .box 24 [.sl 10 false (c2.Nodes.map cNode), .v (.int .i64 c2.Most)])]) fu 0 (fun _ => rfl) ⟨rfl, rfl, rfl, rfl, trivial⟩ ⟨rfl, trivial⟩ rfl ?_
  rintro k1 t3
  refine pw_seq ?_
  refine pw_region ?_
  refine po_evs (T := tab) 1 rfl rfl ?_
  refine po_nil ?_
  refine pn_seq ?_
  refine pw_seq ?_
  refine pw_cnd rfl ?_ ?_
  · refine pw_skip ?_
    refine pn_seq ?_
    refine pw_seq ?_
    refine pw_block ?_
    refine pw_seq ?_
    refine pw_region ?_
    refine po_evs (T := tab) 2 rfl rfl ?_
    refine po_nil ?_
    refine pn_seq ?_
    refine pw_seq ?_
    refine pw_region ?_
    refine po_evs (T := tab) 3 rfl rfl ?_
    refine po_idx (T := tab) cInt_i64 s1 rfl rfl rfl rfl rfl rfl rfl fun y4 hy4 => ?_
    refine po_evs (T := tab) 1 rfl rfl ?_
    refine po_callv (enc := fun (r5 : Bool) => .v (.bool r5)) (first := []) (cap := [.loc 900000 0]) (qs := [.v (.int .i64 y4)]) (Sc := [(900000, .box 24 [.sl 10 false (c2.Nodes.map cNode), .v (.int .i64 c2.Most)])]) (fun r5 hr5 => fc_ren [(900000, 900000)] [900000] (Twin_there_1_ok fu y4 c2 _ hr5) rfl rfl rfl rfl rfl rfl) (subS_of ⟨rfl, trivial⟩ rfl) rfl rfl rfl rfl ⟨⟨_, rfl, .rfl⟩, trivial⟩ (fun _ => rfl) call50 rfl rfl fun r5 hr5 => ?_
    refine po_nil ?_
    refine pn_seq ?_
    refine pw_cnd rfl ?_ ?_
    · refine pw_seq ?_
      refine pw_region ?_
      refine po_evs (T := tab) 2 rfl rfl ?_
      refine po_nil ?_
      refine pn_seq ?_
      exact pw_retN (T := tab) rfl rfl rfl ⟨rfl, rfl⟩ ⟨rfl, trivial⟩ rfl
    · refine pw_skip ?_
      refine pn_block ?_
      refine pn_seq ?_
      refine pw_region ?_
      refine po_arith' (T := tab) rfl rfl rfl rfl fun i6 hi6 => ?_
      refine po_evs (T := tab) 1 rfl rfl ?_
      refine po_nil ?_
      exact pn_iter' i6 ⟨rfl, rfl, rfl, rfl, trivial⟩ ⟨rfl, trivial⟩ rfl
  · refine pw_exit rfl ?_
    refine pn_seq ?_
    refine pw_seq ?_
    refine pw_region ?_
    refine po_evs (T := tab) 1 rfl rfl ?_
    refine po_nil ?_
    refine pn_seq ?_
    exact pw_retN (T := tab) rfl rfl rfl ⟨rfl, rfl⟩ ⟨rfl, trivial⟩ rfl

def Slices_ContainsFunc_int_m (fu : Nat) (t1 : Int → Option Bool) (s1 : (List Int)) : Option Bool := bnd (Slices_IndexFunc_int_m fu t1 s1) fun r3 => some (decide (r3 ≥ 0))

set_option maxRecDepth 100000 in
theorem Slices_ContainsFunc_int_ok (fu : Nat) (s1 : (List Int)) (c2 : Forest) : ∀ r, Slices_ContainsFunc_int_m fu (fun (z1 : Int) => Twin_there_1_m fu z1 c2) s1 = some r → FC laidL Tryz.prog 49 [.sl 1 false (s1.map cInt_i64), .fn (.func 50) [] [.loc 900000 0]] [(900000, .box 24 [.sl 10 false (c2.Nodes.map cNode), .v (.int .i64 c2.Most)])] [900000] fun p S' => p = .v (.bool r) ∧ S' = [(900000, .box 24 [.sl 10 false (c2.Nodes.map cNode), .v (.int .i64 c2.Most)])] := by
  intro r hr
  refine fc_intro (args := [.sl 1 false (s1.map cInt_i64), .fn (.func 50) [] [.loc 900000 0]]) (S := [(900000, .box 24 [.sl 10 false (c2.Nodes.map cNode), .v (.int .i64 c2.Most)])]) (N0 := [900000]) (post := fun r p S => p = .v (.bool r) ∧ S = [(900000, .box 24 [.sl 10 false (c2.Nodes.map cNode), .v (.int .i64 c2.Most)])]) Tryz.func49 rfl rfl hr fun w0 X X0 σ0 _ => ?_
  refine pw_seq ?_
  refine pw_region ?_
  refine po_evs (T := tab) 1 rfl rfl ?_
  refine po_nil ?_
  refine pn_seq ?_
  refine pw_seq ?_
  refine pw_region ?_
  refine po_evs (T := tab) 2 rfl rfl ?_
  refine po_callv (enc := fun (r3 : Int) => .v (.int .i64 r3)) (first := []) (cap := []) (qs := [.sl 1 false (s1.map cInt_i64), .fn (.func 50) [] [.loc 900000 0]]) (Sc := [(900000, .box 24 [.sl 10 false (c2.Nodes.map cNode), .v (.int .i64 c2.Most)])]) (fun r3 hr3 => fc_ren [(900000, 900000)] [900000] (Slices_IndexFunc_int_ok fu s1 c2 _ hr3) rfl rfl rfl rfl rfl rfl) (subS_of ⟨rfl, trivial⟩ rfl) rfl rfl rfl rfl ⟨⟨_, rfl, .rfl⟩, ⟨_, rfl, .rfl⟩, trivial⟩ (fun _ => rfl) call73 rfl rfl fun r3 hr3 => ?_
  refine po_evs (T := tab) 2 rfl rfl ?_
  refine po_nil ?_
  refine pn_seq ?_
  exact pw_retN (T := tab) rfl rfl rfl ⟨rfl, rfl⟩ ⟨rfl, trivial⟩ rfl

def Twin_there_m (fu : Nat) (f1 : Forest) (l2 : (List Int)) : Option Bool := bnd (Forest_Right_m fu f1) fun r3 => cnd r3 (bnd (Slices_ContainsFunc_int_m fu (fun (z1 : Int) => Twin_there_1_m fu z1 f1) l2) fun r4 => some (!r4)) (some false)

set_option maxRecDepth 100000 in
theorem Twin_there_ok (fu : Nat) (f1 : Forest) (l2 : (List Int)) : ∀ r, Twin_there_m fu f1 l2 = some r → DC laidL Tryz.prog 26 [.agg (cForest f1), .sl 1 false (l2.map cInt_i64)] (.v (.bool r)) := by
  intro r hr
  refine fc_intro (args := [.agg (cForest f1), .sl 1 false (l2.map cInt_i64)]) (S := []) (N0 := []) (post := fun r p S => p = .v (.bool r) ∧ S = []) Tryz.func26 rfl rfl hr fun w0 X X0 σ0 _ => ?_
  refine pw_seq ?_
  refine pw_region ?_
  refine po_box  2 rfl rfl rfl rfl rfl rfl rfl rfl rfl rfl ?_
  refine po_evs (T := tab) 1 rfl rfl ?_
  refine po_nil ?_
  refine pn_seq ?_
  refine pw_seq ?_
  refine pw_region ?_
  refine po_evs (T := tab) 1 rfl rfl ?_
  refine po_call (enc := fun (r3 : Bool) => .v (.bool r3)) (qs := [.agg (cForest f1)]) (Forest_Right_ok fu f1) rfl rfl ⟨⟨_, rfl, .rfl⟩, trivial⟩ (fun _ => rfl) call8 rfl rfl fun r3 hr3 => ?_
  refine po_evs (T := tab) 1 rfl rfl ?_
  refine po_split (j := 7) rfl ?_ ?_
  · refine po_evs (T := tab) 2 rfl rfl ?_
    refine po_callv (enc := fun (r4 : Bool) => .v (.bool r4)) (first := []) (cap := []) (qs := [.sl 1 false (l2.map cInt_i64), .fn (.func 50) [] [.loc 2 0]]) (Sc := [(2, .box 24 [.sl 10 false (f1.Nodes.map cNode), .v (.int .i64 f1.Most)])]) (fun r4 hr4 => fc_ren [(900000, 2)] [900000] (Slices_ContainsFunc_int_ok fu l2 f1 _ hr4) rfl rfl rfl rfl rfl rfl) (subS_of ⟨rfl, trivial⟩ rfl) rfl rfl rfl rfl ⟨⟨_, rfl, .rfl⟩, ⟨_, rfl, .rfl⟩, trivial⟩ (fun _ => rfl) call49 rfl rfl fun r4 hr4 => ?_
    refine po_evs (T := tab) 3 rfl rfl ?_
    refine po_nil ?_
    refine pn_seq ?_
    exact pw_retN (T := tab) rfl rfl rfl ⟨rfl, rfl⟩ trivial rfl
  · refine po_evs (T := tab) 6 rfl rfl ?_
    refine po_nil ?_
    refine pn_seq ?_
    exact pw_retN (T := tab) rfl rfl rfl ⟨rfl, rfl⟩ trivial rfl

def Forest_asked_1_m (fu : Nat) (n1 : Int) (c2 : Forest_view) : Option Bool := bnd (Forest_view_there_m fu c2 n1) fun r3 => some (!r3)

set_option maxRecDepth 100000 in
theorem Forest_asked_1_ok (fu : Nat) (n1 : Int) (c2 : Forest_view) : ∀ r, Forest_asked_1_m fu n1 c2 = some r → FC laidL Tryz.prog 74 [.v (.int .i64 n1), .loc 900000 0] [(900000, .box 48 [.sl 10 false (c2.Forest.Nodes.map cNode), .v (.int .i64 c2.Forest.Most)])] [900000] fun p S' => p = .v (.bool r) ∧ S' = [(900000, .box 48 [.sl 10 false (c2.Forest.Nodes.map cNode), .v (.int .i64 c2.Forest.Most)])] := by
  intro r hr
  refine fc_intro (args := [.v (.int .i64 n1), .loc 900000 0]) (S := [(900000, .box 48 [.sl 10 false (c2.Forest.Nodes.map cNode), .v (.int .i64 c2.Forest.Most)])]) (N0 := [900000]) (post := fun r p S => p = .v (.bool r) ∧ S = [(900000, .box 48 [.sl 10 false (c2.Forest.Nodes.map cNode), .v (.int .i64 c2.Forest.Most)])]) Tryz.func74 rfl rfl hr fun w0 X X0 σ0 _ => ?_
  refine pw_seq ?_
  refine pw_region ?_
  refine po_evs (T := tab) 1 rfl rfl ?_
  refine po_nil ?_
  refine pn_seq ?_
  refine pw_seq ?_
  refine pw_region ?_
  refine po_evs (T := tab) 2 rfl rfl ?_
  refine po_call (enc := fun (r3 : Bool) => .v (.bool r3)) (qs := [.agg (cForest_view c2), .v (.int .i64 n1)]) (Forest_view_there_ok fu c2 n1) rfl rfl ⟨⟨_, rfl, .rfl⟩, ⟨_, rfl, .rfl⟩, trivial⟩ (fun _ => rfl) call60 rfl rfl fun r3 hr3 => ?_
  refine po_evs (T := tab) 2 rfl rfl ?_
  refine po_nil ?_
  refine pn_seq ?_
  exact pw_retN (T := tab) rfl rfl rfl ⟨rfl, rfl⟩ ⟨rfl, trivial⟩ rfl

set_option maxHeartbeats 10000000 in
set_option maxRecDepth 100000 in
theorem Slices_IndexFunc_int_i2_ok (fu : Nat) (s1 : (List Int)) (c2 : Forest_view) : ∀ r, Slices_IndexFunc_int_m fu (fun (z1 : Int) => Forest_asked_1_m fu z1 c2) s1 = some r → FC laidL Tryz.prog 73 [.sl 1 false (s1.map cInt_i64), .fn (.func 74) [] [.loc 900000 0]] [(900000, .box 48 [.sl 10 false (c2.Forest.Nodes.map cNode), .v (.int .i64 c2.Forest.Most)])] [900000] fun p S' => p = .v (.int .i64 r) ∧ S' = [(900000, .box 48 [.sl 10 false (c2.Forest.Nodes.map cNode), .v (.int .i64 c2.Forest.Most)])] := by
  intro r hr
  refine fc_intro (args := [.sl 1 false (s1.map cInt_i64), .fn (.func 74) [] [.loc 900000 0]]) (S := [(900000, .box 48 [.sl 10 false (c2.Forest.Nodes.map cNode), .v (.int .i64 c2.Forest.Most)])]) (N0 := [900000]) (post := fun r p S => p = .v (.int .i64 r) ∧ S = [(900000, .box 48 [.sl 10 false (c2.Forest.Nodes.map cNode), .v (.int .i64 c2.Forest.Most)])]) Tryz.func73 rfl rfl hr fun w0 X X0 σ0 _ => ?_
  refine pw_seq ?_
  refine pw_region ?_
  refine po_evs (T := tab) 1 rfl rfl ?_
  refine po_nil ?_
  refine pn_seq ?_
  refine pw_seq ?_
  refine pw_seq ?_
  refine pw_region ?_
  refine po_evs (T := tab) 1 rfl rfl ?_
  refine po_len (T := tab) cInt_i64 s1 rfl rfl rfl rfl rfl rfl rfl rfl ?_
  refine po_evs (T := tab) 1 rfl rfl ?_
  refine po_nil ?_
  refine pn_seq ?_
  refine pw_block ?_
  refine pw_loop' (Slices_IndexFunc_int_l1 (fun (z1 : Int) => Forest_asked_1_m fu z1 c2) s1) (fun (t3 : Int) => [(0, .sl 1 false (s1.map cInt_i64)), (1, .fn (.func 74) [] [.loc 900000 0]), (7, .v (.int .i64 ((s1.length : Nat) : Int))), (8, .v (.int .i64 t3))]) (fun (t3 : Int) => [(900000, .box 48 [.sl 10 false (c2.Forest.Nodes.map cNode), .v (.int .i64 c2.Forest.Most)])]) fu 0 (fun _ => rfl) ⟨rfl, rfl, rfl, rfl, trivial⟩ ⟨rfl, trivial⟩ rfl ?_
  rintro k1 t3
  refine pw_seq ?_
  refine pw_region ?_
  refine po_evs (T := tab) 1 rfl rfl ?_
  refine po_nil ?_
  refine pn_seq ?_
  refine pw_seq ?_
  refine pw_cnd rfl ?_ ?_
  · refine pw_skip ?_
    refine pn_seq ?_
    refine pw_seq ?_
    refine pw_block ?_
    refine pw_seq ?_
    refine pw_region ?_
    refine po_evs (T := tab) 2 rfl rfl ?_
    refine po_nil ?_
    refine pn_seq ?_
    refine pw_seq ?_
    refine pw_region ?_
    refine po_evs (T := tab) 3 rfl rfl ?_
    refine po_idx (T := tab) cInt_i64 s1 rfl rfl rfl rfl rfl rfl rfl fun y4 hy4 => ?_
    refine po_evs (T := tab) 1 rfl rfl ?_
    refine po_callv (enc := fun (r5 : Bool) => .v (.bool r5)) (first := []) (cap := [.loc 900000 0]) (qs := [.v (.int .i64 y4)]) (Sc := [(900000, .box 48 [.sl 10 false (c2.Forest.Nodes.map cNode), .v (.int .i64 c2.Forest.Most)])]) (fun r5 hr5 => fc_ren [(900000, 900000)] [900000] (Forest_asked_1_ok fu y4 c2 _ hr5) rfl rfl rfl rfl rfl rfl) (subS_of ⟨rfl, trivial⟩ rfl) rfl rfl rfl rfl ⟨⟨_, rfl, .rfl⟩, trivial⟩ (fun _ => rfl) call74 rfl rfl fun r5 hr5 => ?_
    refine po_nil ?_
    refine pn_seq ?_
    refine pw_cnd rfl ?_ ?_
    · refine pw_seq ?_
      refine pw_region ?_
      refine po_evs (T := tab) 2 rfl rfl ?_
      refine po_nil ?_
      refine pn_seq ?_
      exact pw_retN (T := tab) rfl rfl rfl ⟨rfl, rfl⟩ ⟨rfl, trivial⟩ rfl
    · refine pw_skip ?_
      refine pn_block ?_
      refine pn_seq ?_
      refine pw_region ?_
      refine po_arith' (T := tab) rfl rfl rfl rfl fun i6 hi6 => ?_
      refine po_evs (T := tab) 1 rfl rfl ?_
      refine po_nil ?_
      exact pn_iter' i6 ⟨rfl, rfl, rfl, rfl, trivial⟩ ⟨rfl, trivial⟩ rfl
  · refine pw_exit rfl ?_
    refine pn_seq ?_
    refine pw_seq ?_
    refine pw_region ?_
    refine po_evs (T := tab) 1 rfl rfl ?_
    refine po_nil ?_
    refine pn_seq ?_
    exact pw_retN (T := tab) rfl rfl rfl ⟨rfl, rfl⟩ ⟨rfl, trivial⟩ rfl

set_option maxRecDepth 100000 in
theorem Slices_ContainsFunc_int_i2_ok (fu : Nat) (s1 : (List Int)) (c2 : Forest_view) : ∀ r, Slices_ContainsFunc_int_m fu (fun (z1 : Int) => Forest_asked_1_m fu z1 c2) s1 = some r → FC laidL Tryz.prog 49 [.sl 1 false (s1.map cInt_i64), .fn (.func 74) [] [.loc 900000 0]] [(900000, .box 48 [.sl 10 false (c2.Forest.Nodes.map cNode), .v (.int .i64 c2.Forest.Most)])] [900000] fun p S' => p = .v (.bool r) ∧ S' = [(900000, .box 48 [.sl 10 false (c2.Forest.Nodes.map cNode), .v (.int .i64 c2.Forest.Most)])] := by
  intro r hr
  refine fc_intro (args := [.sl 1 false (s1.map cInt_i64), .fn (.func 74) [] [.loc 900000 0]]) (S := [(900000, .box 48 [.sl 10 false (c2.Forest.Nodes.map cNode), .v (.int .i64 c2.Forest.Most)])]) (N0 := [900000]) (post := fun r p S => p = .v (.bool r) ∧ S = [(900000, .box 48 [.sl 10 false (c2.Forest.Nodes.map cNode), .v (.int .i64 c2.Forest.Most)])]) Tryz.func49 rfl rfl hr fun w0 X X0 σ0 _ => ?_
  refine pw_seq ?_
  refine pw_region ?_
  refine po_evs (T := tab) 1 rfl rfl ?_
  refine po_nil ?_
  refine pn_seq ?_
  refine pw_seq ?_
  refine pw_region ?_
  refine po_evs (T := tab) 2 rfl rfl ?_
  refine po_callv (enc := fun (r3 : Int) => .v (.int .i64 r3)) (first := []) (cap := []) (qs := [.sl 1 false (s1.map cInt_i64), .fn (.func 74) [] [.loc 900000 0]]) (Sc := [(900000, .box 48 [.sl 10 false (c2.Forest.Nodes.map cNode), .v (.int .i64 c2.Forest.Most)])]) (fun r3 hr3 => fc_ren [(900000, 900000)] [900000] (Slices_IndexFunc_int_i2_ok fu s1 c2 _ hr3) rfl rfl rfl rfl rfl rfl) (subS_of ⟨rfl, trivial⟩ rfl) rfl rfl rfl rfl ⟨⟨_, rfl, .rfl⟩, ⟨_, rfl, .rfl⟩, trivial⟩ (fun _ => rfl) call73 rfl rfl fun r3 hr3 => ?_
  refine po_evs (T := tab) 2 rfl rfl ?_
  refine po_nil ?_
  refine pn_seq ?_
  exact pw_retN (T := tab) rfl rfl rfl ⟨rfl, rfl⟩ ⟨rfl, trivial⟩ rfl

def Forest_asked_m (fu : Nat) (f1 : Forest) (l2 : (List Int)) : Option Bool := bnd (Forest_view_right_m fu (⟨(⟨f1.Nodes, f1.Most⟩ : Forest)⟩ : Forest_view)) fun r3 => cnd r3 (bnd (Slices_ContainsFunc_int_m fu (fun (z1 : Int) => Forest_asked_1_m fu z1 (⟨(⟨f1.Nodes, f1.Most⟩ : Forest)⟩ : Forest_view)) l2) fun r4 => some (!r4)) (some false)

set_option maxRecDepth 100000 in
theorem Forest_asked_ok (fu : Nat) (f1 : Forest) (l2 : (List Int)) : ∀ r, Forest_asked_m fu f1 l2 = some r → DC laidL Tryz.prog 51 [.agg (cForest f1), .sl 1 false (l2.map cInt_i64)] (.v (.bool r)) := by
  intro r hr
  refine fc_intro (args := [.agg (cForest f1), .sl 1 false (l2.map cInt_i64)]) (S := []) (N0 := []) (post := fun r p S => p = .v (.bool r) ∧ S = []) Tryz.func51 rfl rfl hr fun w0 X X0 σ0 _ => ?_
  refine pw_seq ?_
  refine pw_region ?_
  refine po_box  2 rfl rfl rfl rfl rfl rfl rfl rfl rfl rfl ?_
  refine po_evs (T := tab) 1 rfl rfl ?_
  refine po_nil ?_
  refine pn_seq ?_
  refine pw_seq ?_
  refine pw_region ?_
  refine po_evs (T := tab) 1 rfl rfl ?_
  refine po_build (T := tab) rfl rfl rfl rfl rfl rfl rfl ?_
  refine po_alloc (T := tab) 5 rfl rfl rfl rfl rfl rfl rfl rfl rfl ?_
  refine po_store (T := tab) rfl rfl rfl rfl rfl rfl rfl rfl rfl rfl rfl rfl ?_
  refine po_nil ?_
  refine pn_seq ?_
  refine pw_seq ?_
  refine pw_region ?_
  refine po_evs (T := tab) 1 rfl rfl ?_
  refine po_call (enc := fun (r3 : Bool) => .v (.bool r3)) (qs := [.agg (cForest_view (⟨(⟨f1.Nodes, f1.Most⟩ : Forest)⟩ : Forest_view))]) (Forest_view_right_ok fu (⟨(⟨f1.Nodes, f1.Most⟩ : Forest)⟩ : Forest_view)) rfl rfl ⟨⟨_, rfl, .rfl⟩, trivial⟩ (fun _ => rfl) call17 rfl rfl fun r3 hr3 => ?_
  refine po_evs (T := tab) 1 rfl rfl ?_
  refine po_split (j := 10) rfl ?_ ?_
  · refine po_evs (T := tab) 2 rfl rfl ?_
    refine po_callv (enc := fun (r4 : Bool) => .v (.bool r4)) (first := []) (cap := []) (qs := [.sl 1 false (l2.map cInt_i64), .fn (.func 74) [] [.loc 5 0]]) (Sc := [(5, .box 48 [.sl 10 false (f1.Nodes.map cNode), .v (.int .i64 f1.Most)])]) (fun r4 hr4 => fc_ren [(900000, 5)] [900000] (Slices_ContainsFunc_int_i2_ok fu l2 (⟨(⟨f1.Nodes, f1.Most⟩ : Forest)⟩ : Forest_view) _ hr4) rfl rfl rfl rfl rfl rfl) (subS_of ⟨rfl, trivial⟩ rfl) rfl rfl rfl rfl ⟨⟨_, rfl, .rfl⟩, ⟨_, rfl, .rfl⟩, trivial⟩ (fun _ => rfl) call49 rfl rfl fun r4 hr4 => ?_
    refine po_evs (T := tab) 3 rfl rfl ?_
    refine po_nil ?_
    refine pn_seq ?_
    exact pw_retN (T := tab) rfl rfl rfl ⟨rfl, rfl⟩ trivial rfl
  · refine po_evs (T := tab) 6 rfl rfl ?_
    refine po_nil ?_
    refine pn_seq ?_
    exact pw_retN (T := tab) rfl rfl rfl ⟨rfl, rfl⟩ trivial rfl

def Forest_Order_l2 (l4 : (List Int)) (y7 : Int) (y9 : Node) (rc1 : ((List Int) × (List Int)) → Option (List Int)) : Nat → (List Int) → Option (List Int)
  | 0, l10 => rc1 ((l4 ++ [y7]), l10)
  | k2 + 1, l10 => bnd (y9.Kids[k2]?) fun y11 => bnd (roomy 8 (l10.length + ([y11] : List Int).length)) fun _ => (Forest_Order_l2 l4 y7 y9 rc1 k2) (l10 ++ [y11])

def Forest_Order_l1 (f1 : Forest) : Nat → (List Int) × (List Int) → Option (List Int)
  | 0, _ => none
  | k1 + 1, (l4, l5) => cnd (decide (((l5.length : Nat) : Int) > 0)) (bnd (rng .i64 (((l5.length : Nat) : Int) - 1)) fun i6 => bnd (idx l5 i6) fun y7 => bnd (piece l5 0 i6) fun l8 => bnd (roomy 8 (l4.length + ([y7] : List Int).length)) fun _ => bnd (idx f1.Nodes y7) fun y9 => (Forest_Order_l2 l4 y7 y9 (Forest_Order_l1 f1 k1)) y9.Kids.length l8) (some l4)

def Forest_Order_m (fu : Nat) (f1 : Forest) (n2 : Int) : Option (List Int) := bnd (Forest_asked_m fu f1 [n2]) fun r3 => cnd (!r3) (some []) ((Forest_Order_l1 f1) fu ([], [n2]))

set_option maxHeartbeats 10000000 in
set_option maxRecDepth 100000 in
theorem Forest_Order_ok (fu : Nat) (f1 : Forest) (n2 : Int) : ∀ r, Forest_Order_m fu f1 n2 = some r → DC laidL Tryz.prog 27 [.agg (cForest f1), .v (.int .i64 n2)] (.sl 1 false (r.map cInt_i64)) := by
  intro r hr
  refine fc_intro (args := [.agg (cForest f1), .v (.int .i64 n2)]) (S := []) (N0 := []) (post := fun r p S => p = .sl 1 false (r.map cInt_i64) ∧ S = []) Tryz.func27 rfl rfl hr fun w0 X X0 σ0 _ => ?_
  refine pw_seq ?_
  refine pw_region ?_
  refine po_box  2 rfl rfl rfl rfl rfl rfl rfl rfl rfl rfl ?_
  refine po_evs (T := tab) 1 rfl rfl ?_
  refine po_nil ?_
  refine pn_seq ?_
  refine pw_seq ?_
  refine pw_seq ?_
  refine pw_region ?_
  refine po_evs (T := tab) 2 rfl rfl ?_
  refine po_lit (T := tab) (rows := [n2].map cInt_i64) 13 rfl rfl rfl rfl rfl rfl rfl rfl rfl rfl rfl rfl rfl rfl ?_
  refine po_freeze 13 rfl rfl rfl ?_
  refine po_call (enc := fun (r3 : Bool) => .v (.bool r3)) (qs := [.agg (cForest f1), .sl 1 false ([n2].map cInt_i64)]) (Forest_asked_ok fu f1 [n2]) rfl rfl ⟨⟨_, rfl, .rfl⟩, ⟨_, rfl, .rfl⟩, trivial⟩ (fun _ => rfl) call51 rfl rfl fun r3 hr3 => ?_
  refine po_evs (T := tab) 1 rfl rfl ?_
  refine po_nil ?_
  refine pn_seq ?_
  refine pw_cnd rfl ?_ ?_
  · refine pw_seq ?_
    refine pw_region ?_
    refine po_evs (T := tab) 1 rfl rfl ?_
    refine po_nil ?_
    refine pn_seq ?_
    refine pw_coe 4 (q := .sl 1 false ([].map cInt_i64)) rfl .nil ?_
    exact pw_retN (T := tab) rfl rfl rfl ⟨rfl, rfl⟩ trivial rfl
  · refine pw_skip ?_
    refine pn_seq ?_
    refine pw_seq ?_
    refine pw_region ?_
    refine po_evs (T := tab) 1 rfl rfl ?_
    refine po_nil ?_
    refine pn_seq ?_
    refine pw_seq ?_
    refine pw_seq ?_
    refine pw_region ?_
    refine po_evs (T := tab) 1 rfl rfl ?_
    refine po_lit (T := tab) (rows := [n2].map cInt_i64) 17 rfl rfl rfl rfl rfl rfl rfl rfl rfl rfl rfl rfl rfl rfl ?_
    refine po_alloc (T := tab) 6 rfl rfl rfl rfl rfl rfl rfl rfl rfl ?_
    refine po_store (T := tab) rfl rfl rfl rfl rfl rfl rfl rfl rfl rfl rfl rfl ?_
    refine po_nil ?_
    refine pn_seq ?_
    refine pw_block ?_
    refine pw_own_nil 1034 3 1 5 rfl rfl rfl rfl ?_
    refine pw_loop' (Forest_Order_l1 f1) (fun ((l4, l5) : (List Int) × (List Int)) => [(2, .loc 2 0), (5, .own 1034), (6, .loc 6 0)]) (fun ((l4, l5) : (List Int) × (List Int)) => [(1034, .arr 3 1 (l4.map cInt_i64)), (6, .box 35 [.own 17]), (17, .arr 3 1 (l5.map cInt_i64)), (2, .box 24 [.sl 10 false (f1.Nodes.map cNode), .v (.int .i64 f1.Most)])]) fu ([], [n2]) (fun _ => rfl) ⟨rfl, rfl, rfl, trivial⟩ ⟨rfl, rfl, rfl, rfl, trivial⟩ rfl ?_
    rintro k1 ⟨l4, l5⟩
    refine pw_seq ?_
    refine pw_seq ?_
    refine pw_region ?_
    refine po_evs (T := tab) 1 rfl rfl ?_
    refine po_len_own (T := tab) cInt_i64 l5 rfl rfl rfl rfl rfl rfl rfl rfl rfl ?_
    refine po_evs (T := tab) 1 rfl rfl ?_
    refine po_nil ?_
    refine pn_seq ?_
    refine pw_cnd rfl ?_ ?_
    · refine pw_skip ?_
      refine pn_seq ?_
      refine pw_seq ?_
      refine pw_block ?_
      refine pw_seq ?_
      refine pw_region ?_
      refine po_evs (T := tab) 1 rfl rfl ?_
      refine po_len_own (T := tab) cInt_i64 l5 rfl rfl rfl rfl rfl rfl rfl rfl rfl ?_
      refine po_arith' (T := tab) rfl rfl rfl rfl fun i6 hi6 => ?_
      refine po_evs (T := tab) 1 rfl rfl ?_
      refine po_nil ?_
      refine pn_seq ?_
      refine pw_seq ?_
      refine pw_region ?_
      refine po_evs (T := tab) 2 rfl rfl ?_
      refine po_idx_own (T := tab) cInt_i64 l5 rfl rfl rfl rfl rfl rfl rfl rfl fun y7 hy7 => ?_
      refine po_load_ela (T := tab) cInt_i64 l5 y7 (idx_at hy7) rfl rfl rfl rfl rfl rfl rfl rfl ?_
      refine po_evs (T := tab) 1 rfl rfl ?_
      refine po_nil ?_
      refine pn_seq ?_
      refine pw_seq ?_
      refine pw_region ?_
      refine po_evs (T := tab) 2 rfl rfl ?_
      refine po_own_cut (T := tab) cInt_i64 l5 rfl rfl rfl rfl rfl rfl rfl rfl rfl rfl rfl fun l8 hl8 => ?_
      refine po_store (T := tab) rfl rfl rfl rfl rfl rfl rfl rfl rfl rfl rfl rfl ?_
      refine po_nil ?_
      refine pn_seq ?_
      refine pw_seq ?_
      refine pw_region ?_
      refine po_evs (T := tab) 2 rfl rfl ?_
      refine po_lit (T := tab) (rows := [y7].map cInt_i64) 33 rfl rfl rfl rfl rfl rfl rfl rfl rfl rfl rfl rfl rfl rfl ?_
      refine po_append (T := tab) cInt_i64 l4 ([y7] : List Int) rfl rfl rfl rfl rfl rfl rfl rfl rfl rfl rfl rfl rfl rfl (cInt_i64_one _) rfl rfl rfl rfl rfl ?_
      refine po_evs (T := tab) 1 rfl rfl ?_
      refine po_nil ?_
      refine pn_seq ?_
      refine pw_seq ?_
      refine pw_region ?_
      refine po_evs (T := tab) 3 rfl rfl ?_
      refine po_idx (T := tab) cNode f1.Nodes rfl rfl rfl rfl rfl rfl rfl fun y9 hy9 => ?_
      refine po_evs (T := tab) 2 rfl rfl ?_
      refine po_backward (n := 3041) tab Tryz.func32 rfl rfl rfl rfl rfl rfl rfl rfl rfl rfl rfl rfl ⟨⟨_, rfl, .rfl⟩, trivial⟩ call32 rfl rfl ?_
      refine po_nil ?_
      refine pn_seq ?_
      refine pw_block ?_
      refine pw_back (T := tab) (enc := cInt_i64) (enc' := fun (y11 : Int) => .v (.int .i64 y11)) (xs := y9.Kids) (x0 := l8) (n := 3041) (tS := 35) (tE := 3) (tI := 3) (tB := 4) (tF := 69) (g := 54) (M := (Forest_Order_l2 l4 y7 y9 (Forest_Order_l1 f1 k1))) (Sf := fun (l10 : (List Int)) => [(1034, .arr 3 1 ((l4 ++ [y7]).map cInt_i64)), (17, .arr 3 1 (l10.map cInt_i64)), (6, .box 35 [.own 17]), (2, .box 24 [.sl 10 false (f1.Nodes.map cNode), .v (.int .i64 f1.Most)])]) (N1 := [2, 6, 1034]) (E0 := [(2, .loc 2 0), (5, .own 1034), (6, .loc 6 0)]) (E1 := fun k2 y11 => [(2, .loc 2 0), (5, .own 1034), (6, .loc 6 0), (42, .v (.int .i64 ((k2 : Nat) : Int))), (43, .v (.int .i64 y11)), (10, .v (.int .i64 y11))]) Tryz.func54 rfl rfl rfl call54 rfl rfl (fun _ => rfl) (fun _ => rfl) rfl rfl ⟨rfl, rfl, rfl, trivial⟩ rfl rfl ⟨rfl, rfl, rfl, rfl, trivial⟩ rfl rfl rfl rfl rfl rfl ?_ ?_ ?_
      · rintro k2 y11 l10 hy w0 X X0 σ0 _ _
        refine po_evs (T := tab) 1 rfl rfl ?_
        refine po_nil ?_
        exact pn_end0 ⟨rfl, rfl, rfl, rfl, rfl, rfl, trivial⟩ ⟨rfl, rfl, rfl, rfl, trivial⟩ rfl
      · rintro k2 y11 l10 hy w0 X X0 σ0 _ _
        refine po_known hy ?_
        refine po_evs (T := tab) 2 rfl rfl ?_
        refine po_lit (T := tab) (rows := [y11].map cInt_i64) 46 rfl rfl rfl rfl rfl rfl rfl rfl rfl rfl rfl rfl rfl rfl ?_
        refine po_append (T := tab) cInt_i64 l10 ([y11] : List Int) rfl rfl rfl rfl rfl rfl rfl rfl rfl rfl rfl rfl rfl rfl (cInt_i64_one _) rfl rfl rfl rfl rfl ?_
        refine po_store (T := tab) rfl rfl rfl rfl rfl rfl rfl rfl rfl rfl rfl rfl ?_
        refine po_nil ?_
        exact pn_iter' (l10 ++ [y11]) trivial ⟨rfl, rfl, rfl, rfl, trivial⟩ rfl
      · rintro l10
        refine pn_block ?_
        refine pn_block ?_
        refine pn_seq ?_
        refine pw_seq ?_
        refine pw_region ?_
        refine po_evs (T := tab) 1 rfl rfl ?_
        refine po_nil ?_
        refine pn_seq ?_
        refine pw_region ?_
        refine po_alloc (T := tab) 6 rfl rfl rfl rfl rfl rfl rfl rfl rfl ?_
        refine po_store (T := tab) rfl rfl rfl rfl rfl rfl rfl rfl rfl rfl rfl rfl ?_
        refine po_nil ?_
        exact pn_iter' ((l4 ++ [y7]), l10) ⟨rfl, rfl, rfl, trivial⟩ ⟨rfl, rfl, rfl, rfl, trivial⟩ rfl
    · refine pw_exit rfl ?_
      refine pn_seq ?_
      refine pw_seq ?_
      refine pw_region ?_
      refine po_evs (T := tab) 2 rfl rfl ?_
      refine po_nil ?_
      refine pn_seq ?_
      refine pw_freeze 1034 rfl rfl rfl ?_
      exact pw_retN (T := tab) rfl rfl rfl ⟨rfl, rfl⟩ trivial rfl

def Attr_Alike_1_m (_fu : Nat) (a1 : Attr) (l2 : (List (Bs × Attr))) : Option Bool := cnd (!(mhas l2 a1.Name)) (some true) (some (!(eqAttr (mget l2 a1.Name (⟨[], []⟩ : Attr)) a1)))

set_option maxRecDepth 100000 in
theorem Attr_Alike_1_ok (fu : Nat) (a1 : Attr) (l2 : (List (Bs × Attr))) : ∀ r, Attr_Alike_1_m fu a1 l2 = some r → FC laidL Tryz.prog 77 [.agg (cAttr a1), .loc 900000 0] [(900000, .box 119 [.own 900001]), (900001, .mp (l2.map fun p : Bs × Attr => (keyS p.1, .agg (cAttr p.2))))] [900000, 900001] fun p S' => p = .v (.bool r) ∧ S' = [(900000, .box 119 [.own 900001]), (900001, .mp (l2.map fun p : Bs × Attr => (keyS p.1, .agg (cAttr p.2))))] := by
  intro r hr
  refine fc_intro (args := [.agg (cAttr a1), .loc 900000 0]) (S := [(900000, .box 119 [.own 900001]), (900001, .mp (l2.map fun p : Bs × Attr => (keyS p.1, .agg (cAttr p.2))))]) (N0 := [900000, 900001]) (post := fun r p S => p = .v (.bool r) ∧ S = [(900000, .box 119 [.own 900001]), (900001, .mp (l2.map fun p : Bs × Attr => (keyS p.1, .agg (cAttr p.2))))]) Tryz.func77 rfl rfl hr fun w0 X X0 σ0 _ => ?_
  refine pw_seq ?_
  refine pw_region ?_
  refine po_box  2 rfl rfl rfl rfl rfl rfl rfl rfl rfl rfl ?_
  refine po_evs (T := tab) 1 rfl rfl ?_
  refine po_nil ?_
  refine pn_seq ?_
  refine pw_seq ?_
  refine pw_region ?_
  refine po_evs (T := tab) 3 rfl rfl ?_
  refine po_lookup2 (T := tab) keyS_enc (fun v => .agg (cAttr v)) l2 a1.Name (⟨[], []⟩ : Attr) Tryz.underlying119 Tryz.underlying9 rfl rfl rfl rfl rfl rfl rfl rfl rfl ?_
  refine po_evs (T := tab) 3 rfl rfl ?_
  refine po_alloc (T := tab) 4 rfl rfl rfl rfl rfl rfl rfl rfl rfl ?_
  refine po_store (T := tab) rfl rfl rfl rfl rfl rfl rfl rfl rfl rfl rfl rfl ?_
  refine po_evs (T := tab) 1 rfl rfl ?_
  refine po_nil ?_
  refine pn_seq ?_
  refine pw_seq ?_
  refine pw_region ?_
  refine po_evs (T := tab) 3 rfl rfl ?_
  refine po_split (j := 15) rfl ?_ ?_
  · refine po_evs (T := tab) 5 rfl rfl ?_
    refine po_nil ?_
    refine pn_seq ?_
    exact pw_retN (T := tab) rfl rfl rfl ⟨rfl, rfl⟩ ⟨rfl, rfl, trivial⟩ rfl
  · refine po_evs (T := tab) 2 rfl rfl ?_
    refine po_ne eqf_42 rfl rfl rfl rfl rfl rfl rfl ?_
    refine po_evs (T := tab) 2 rfl rfl ?_
    refine po_nil ?_
    refine pn_seq ?_
    exact pw_retN (T := tab) rfl rfl rfl ⟨rfl, rfl⟩ ⟨rfl, rfl, trivial⟩ rfl

def Slices_IndexFunc_apiAttr_v2_l1 (t1 : Attr → Option Bool) (s1 : (List Attr)) : Nat → Int → Option Int
  | 0, _ => none
  | k1 + 1, t3 => cnd (decide (t3 < ((s1.length : Nat) : Int))) (bnd (idx s1 t3) fun y4 => bnd (t1 y4) fun r5 => cnd r5 (some t3) (bnd (rng .i64 (t3 + 1)) fun i6 => (Slices_IndexFunc_apiAttr_v2_l1 t1 s1 k1) i6)) (some (-1))

def Slices_IndexFunc_apiAttr_v2_m (fu : Nat) (t1 : Attr → Option Bool) (s1 : (List Attr)) : Option Int := (Slices_IndexFunc_apiAttr_v2_l1 t1 s1) fu 0

set_option maxHeartbeats 10000000 in
set_option maxRecDepth 100000 in
theorem Slices_IndexFunc_apiAttr_i2_ok (fu : Nat) (s1 : (List Attr)) (l2 : (List (Bs × Attr))) : ∀ r, Slices_IndexFunc_apiAttr_v2_m fu (fun (z1 : Attr) => Attr_Alike_1_m fu z1 l2) s1 = some r → FC laidL Tryz.prog 98 [.sl 2 false (s1.map cAttr), .fn (.func 77) [] [.loc 900000 0]] [(900000, .box 119 [.own 900001]), (900001, .mp (l2.map fun p : Bs × Attr => (keyS p.1, .agg (cAttr p.2))))] [900000, 900001] fun p S' => p = .v (.int .i64 r) ∧ S' = [(900000, .box 119 [.own 900001]), (900001, .mp (l2.map fun p : Bs × Attr => (keyS p.1, .agg (cAttr p.2))))] := by
  intro r hr
  refine fc_intro (args := [.sl 2 false (s1.map cAttr), .fn (.func 77) [] [.loc 900000 0]]) (S := [(900000, .box 119 [.own 900001]), (900001, .mp (l2.map fun p : Bs × Attr => (keyS p.1, .agg (cAttr p.2))))]) (N0 := [900000, 900001]) (post := fun r p S => p = .v (.int .i64 r) ∧ S = [(900000, .box 119 [.own 900001]), (900001, .mp (l2.map fun p : Bs × Attr => (keyS p.1, .agg (cAttr p.2))))]) Tryz.func98 rfl rfl hr fun w0 X X0 σ0 _ => ?_
  refine pw_seq ?_
  refine pw_region ?_
  refine po_evs (T := tab) 1 rfl rfl ?_
  refine po_nil ?_
  refine pn_seq ?_
  refine pw_seq ?_
  refine pw_seq ?_
  refine pw_region ?_
  refine po_evs (T := tab) 1 rfl rfl ?_
  refine po_len (T := tab) cAttr s1 rfl rfl rfl rfl rfl rfl rfl rfl ?_
  refine po_evs (T := tab) 1 rfl rfl ?_
  refine po_nil ?_
  refine pn_seq ?_
  refine pw_block ?_
  refine pw_loop' (Slices_IndexFunc_apiAttr_v2_l1 (fun (z1 : Attr) => Attr_Alike_1_m fu z1 l2) s1) (fun (t3 : Int) => [(0, .sl 2 false (s1.map cAttr)), (1, .fn (.func 77) [] [.loc 900000 0]), (7, .v (.int .i64 ((s1.length : Nat) : Int))), (8, .v (.int .i64 t3))]) (fun (t3 : Int) => [(900000, .box 119 [.own 900001]), (900001, .mp (l2.map fun p : Bs × Attr => (keyS p.1, .agg (cAttr p.2))))]) fu 0 (fun _ => rfl) ⟨rfl, rfl, rfl, rfl, trivial⟩ ⟨rfl, rfl, trivial⟩ rfl ?_
  rintro k1 t3
  refine pw_seq ?_
  refine pw_region ?_
  refine po_evs (T := tab) 1 rfl rfl ?_
  refine po_nil ?_
  refine pn_seq ?_
  refine pw_seq ?_
  refine pw_cnd rfl ?_ ?_
  · refine pw_skip ?_
    refine pn_seq ?_
    refine pw_seq ?_
    refine pw_block ?_
    refine pw_seq ?_
    refine pw_region ?_
    refine po_evs (T := tab) 2 rfl rfl ?_
    refine po_nil ?_
    refine pn_seq ?_
    refine pw_seq ?_
    refine pw_region ?_
    refine po_evs (T := tab) 3 rfl rfl ?_
    refine po_idx (T := tab) cAttr s1 rfl rfl rfl rfl rfl rfl rfl fun y4 hy4 => ?_
    refine po_evs (T := tab) 1 rfl rfl ?_
    refine po_callv (enc := fun (r5 : Bool) => .v (.bool r5)) (first := []) (cap := [.loc 900000 0]) (qs := [.agg (cAttr y4)]) (Sc := [(900000, .box 119 [.own 900001]), (900001, .mp (l2.map fun p : Bs × Attr => (keyS p.1, .agg (cAttr p.2))))]) (fun r5 hr5 => fc_ren [(900000, 900000), (900001, 900001)] [900000, 900001] (Attr_Alike_1_ok fu y4 l2 _ hr5) rfl rfl rfl rfl rfl rfl) (subS_of ⟨rfl, rfl, trivial⟩ rfl) rfl rfl rfl rfl ⟨⟨_, rfl, .rfl⟩, trivial⟩ (fun _ => rfl) call77 rfl rfl fun r5 hr5 => ?_
    refine po_nil ?_
    refine pn_seq ?_
    refine pw_cnd rfl ?_ ?_
    · refine pw_seq ?_
      refine pw_region ?_
      refine po_evs (T := tab) 2 rfl rfl ?_
      refine po_nil ?_
      refine pn_seq ?_
      exact pw_retN (T := tab) rfl rfl rfl ⟨rfl, rfl⟩ ⟨rfl, rfl, trivial⟩ rfl
    · refine pw_skip ?_
      refine pn_block ?_
      refine pn_seq ?_
      refine pw_region ?_
      refine po_arith' (T := tab) rfl rfl rfl rfl fun i6 hi6 => ?_
      refine po_evs (T := tab) 1 rfl rfl ?_
      refine po_nil ?_
      exact pn_iter' i6 ⟨rfl, rfl, rfl, rfl, trivial⟩ ⟨rfl, rfl, trivial⟩ rfl
  · refine pw_exit rfl ?_
    refine pn_seq ?_
    refine pw_seq ?_
    refine pw_region ?_
    refine po_evs (T := tab) 1 rfl rfl ?_
    refine po_nil ?_
    refine pn_seq ?_
    exact pw_retN (T := tab) rfl rfl rfl ⟨rfl, rfl⟩ ⟨rfl, rfl, trivial⟩ rfl

def Slices_ContainsFunc_apiAttr_v2_m (fu : Nat) (t1 : Attr → Option Bool) (s1 : (List Attr)) : Option Bool := bnd (Slices_IndexFunc_apiAttr_v2_m fu t1 s1) fun r3 => some (decide (r3 ≥ 0))

set_option maxRecDepth 100000 in
theorem Slices_ContainsFunc_apiAttr_i2_ok (fu : Nat) (s1 : (List Attr)) (l2 : (List (Bs × Attr))) : ∀ r, Slices_ContainsFunc_apiAttr_v2_m fu (fun (z1 : Attr) => Attr_Alike_1_m fu z1 l2) s1 = some r → FC laidL Tryz.prog 76 [.sl 2 false (s1.map cAttr), .fn (.func 77) [] [.loc 900000 0]] [(900000, .box 119 [.own 900001]), (900001, .mp (l2.map fun p : Bs × Attr => (keyS p.1, .agg (cAttr p.2))))] [900000, 900001] fun p S' => p = .v (.bool r) ∧ S' = [(900000, .box 119 [.own 900001]), (900001, .mp (l2.map fun p : Bs × Attr => (keyS p.1, .agg (cAttr p.2))))] := by
  intro r hr
  refine fc_intro (args := [.sl 2 false (s1.map cAttr), .fn (.func 77) [] [.loc 900000 0]]) (S := [(900000, .box 119 [.own 900001]), (900001, .mp (l2.map fun p : Bs × Attr => (keyS p.1, .agg (cAttr p.2))))]) (N0 := [900000, 900001]) (post := fun r p S => p = .v (.bool r) ∧ S = [(900000, .box 119 [.own 900001]), (900001, .mp (l2.map fun p : Bs × Attr => (keyS p.1, .agg (cAttr p.2))))]) Tryz.func76 rfl rfl hr fun w0 X X0 σ0 _ => ?_
  refine pw_seq ?_
  refine pw_region ?_
  refine po_evs (T := tab) 1 rfl rfl ?_
  refine po_nil ?_
  refine pn_seq ?_
  refine pw_seq ?_
  refine pw_region ?_
  refine po_evs (T := tab) 2 rfl rfl ?_
  refine po_callv (enc := fun (r3 : Int) => .v (.int .i64 r3)) (first := []) (cap := []) (qs := [.sl 2 false (s1.map cAttr), .fn (.func 77) [] [.loc 900000 0]]) (Sc := [(900000, .box 119 [.own 900001]), (900001, .mp (l2.map fun p : Bs × Attr => (keyS p.1, .agg (cAttr p.2))))]) (fun r3 hr3 => fc_ren [(900000, 900000), (900001, 900001)] [900000, 900001] (Slices_IndexFunc_apiAttr_i2_ok fu s1 l2 _ hr3) rfl rfl rfl rfl rfl rfl) (subS_of ⟨rfl, rfl, trivial⟩ rfl) rfl rfl rfl rfl ⟨⟨_, rfl, .rfl⟩, ⟨_, rfl, .rfl⟩, trivial⟩ (fun _ => rfl) call98 rfl rfl fun r3 hr3 => ?_
  refine po_evs (T := tab) 2 rfl rfl ?_
  refine po_nil ?_
  refine pn_seq ?_
  exact pw_retN (T := tab) rfl rfl rfl ⟨rfl, rfl⟩ ⟨rfl, rfl, trivial⟩ rfl

def Attr_Alike_m (fu : Nat) (l1 : (List Attr)) (m2 : (List Attr)) : Option Bool := bnd (Attr_Right_m fu l1) fun r3 => cnd (!r3) (some false) (bnd (Attr_Right_m fu m2) fun r4 => cnd (!r4) (some false) (cnd (((l1.length : Nat) : Int) != ((m2.length : Nat) : Int)) (some false) (bnd (Attr_table_m fu m2) fun r5 => bnd (Slices_ContainsFunc_apiAttr_v2_m fu (fun (z1 : Attr) => Attr_Alike_1_m fu z1 r5) l1) fun r6 => some (!r6))))

set_option maxHeartbeats 10000000 in
set_option maxRecDepth 100000 in
theorem Attr_Alike_ok (fu : Nat) (l1 : (List Attr)) (m2 : (List Attr)) : ∀ r, Attr_Alike_m fu l1 m2 = some r → DC laidL Tryz.prog 52 [.sl 2 false (l1.map cAttr), .sl 2 false (m2.map cAttr)] (.v (.bool r)) := by
  intro r hr
  refine fc_intro (args := [.sl 2 false (l1.map cAttr), .sl 2 false (m2.map cAttr)]) (S := []) (N0 := []) (post := fun r p S => p = .v (.bool r) ∧ S = []) Tryz.func52 rfl rfl hr fun w0 X X0 σ0 _ => ?_
  refine pw_seq ?_
  refine pw_region ?_
  refine po_evs (T := tab) 1 rfl rfl ?_
  refine po_nil ?_
  refine pn_seq ?_
  refine pw_seq ?_
  refine pw_seq ?_
  refine pw_region ?_
  refine po_evs (T := tab) 1 rfl rfl ?_
  refine po_call (enc := fun (r3 : Bool) => .v (.bool r3)) (qs := [.sl 2 false (l1.map cAttr)]) (Attr_Right_ok fu l1) rfl rfl ⟨⟨_, rfl, .rfl⟩, trivial⟩ (fun _ => rfl) call58 rfl rfl fun r3 hr3 => ?_
  refine po_evs (T := tab) 2 rfl rfl ?_
  refine po_split (j := 9) rfl ?_ ?_
  · refine po_evs (T := tab) 11 rfl rfl ?_
    refine po_nil ?_
    refine pn_seq (pw_then rfl ?_)
    refine pw_seq ?_
    refine pw_region ?_
    refine po_evs (T := tab) 1 rfl rfl ?_
    refine po_nil ?_
    refine pn_seq ?_
    exact pw_retN (T := tab) rfl rfl rfl ⟨rfl, rfl⟩ trivial rfl
  · refine po_evs (T := tab) 1 rfl rfl ?_
    refine po_call (enc := fun (r4 : Bool) => .v (.bool r4)) (qs := [.sl 2 false (m2.map cAttr)]) (Attr_Right_ok fu m2) rfl rfl ⟨⟨_, rfl, .rfl⟩, trivial⟩ (fun _ => rfl) call58 rfl rfl fun r4 hr4 => ?_
    refine po_evs (T := tab) 3 rfl rfl ?_
    refine po_split (j := 14) rfl ?_ ?_
    · refine po_evs (T := tab) 6 rfl rfl ?_
      refine po_nil ?_
      refine pn_seq (pw_then rfl ?_)
      refine pw_seq ?_
      refine pw_region ?_
      refine po_evs (T := tab) 1 rfl rfl ?_
      refine po_nil ?_
      refine pn_seq ?_
      exact pw_retN (T := tab) rfl rfl rfl ⟨rfl, rfl⟩ trivial rfl
    · refine po_evs (T := tab) 1 rfl rfl ?_
      refine po_len (T := tab) cAttr l1 rfl rfl rfl rfl rfl rfl rfl rfl ?_
      refine po_evs (T := tab) 1 rfl rfl ?_
      refine po_len (T := tab) cAttr m2 rfl rfl rfl rfl rfl rfl rfl rfl ?_
      refine po_evs (T := tab) 2 rfl rfl ?_
      refine po_nil ?_
      refine pn_seq ?_
      refine pw_cnd rfl ?_ ?_
      · refine pw_seq ?_
        refine pw_region ?_
        refine po_evs (T := tab) 1 rfl rfl ?_
        refine po_nil ?_
        refine pn_seq ?_
        exact pw_retN (T := tab) rfl rfl rfl ⟨rfl, rfl⟩ trivial rfl
      · refine pw_skip ?_
        refine pn_seq ?_
        refine pw_seq ?_
        refine pw_region ?_
        refine po_evs (T := tab) 1 rfl rfl ?_
        refine po_turn [2220] (enc := fun (r5 : (List (Bs × Attr))) => .own 2220) (Sr := fun (r5 : (List (Bs × Attr))) => [(2220, .mp (r5.map fun p : Bs × Attr => (keyS p.1, .agg (cAttr p.2))))]) (first := []) (cap := []) (qs := [.sl 2 false (m2.map cAttr)]) (Sc := []) (N0 := []) (NR := [2220]) (fun r5 hr5 => fc_ren [(6, 2220)] [6] (Attr_table_ok fu m2 _ hr5) rfl rfl rfl rfl rfl rfl) trivial (fun _ => rfl) rfl rfl rfl rfl rfl rfl rfl (fun _ => rfl) (fun _ => rfl) rfl rfl rfl ⟨⟨_, rfl, .rfl⟩, trivial⟩ call75 rfl rfl fun r5 hr5 => ?_
        refine po_alloc (T := tab) 5 rfl rfl rfl rfl rfl rfl rfl rfl rfl ?_
        refine po_store (T := tab) rfl rfl rfl rfl rfl rfl rfl rfl rfl rfl rfl rfl ?_
        refine po_nil ?_
        refine pn_seq ?_
        refine pw_seq ?_
        refine pw_region ?_
        refine po_evs (T := tab) 2 rfl rfl ?_
        refine po_callv (enc := fun (r6 : Bool) => .v (.bool r6)) (first := []) (cap := []) (qs := [.sl 2 false (l1.map cAttr), .fn (.func 77) [] [.loc 5 0]]) (Sc := [(5, .box 119 [.own 2220]), (2220, .mp (r5.map fun p : Bs × Attr => (keyS p.1, .agg (cAttr p.2))))]) (fun r6 hr6 => fc_ren [(900000, 5), (900001, 2220)] [900000, 900001] (Slices_ContainsFunc_apiAttr_i2_ok fu l1 r5 _ hr6) rfl rfl rfl rfl rfl rfl) (subS_of ⟨rfl, rfl, trivial⟩ rfl) rfl rfl rfl rfl ⟨⟨_, rfl, .rfl⟩, ⟨_, rfl, .rfl⟩, trivial⟩ (fun _ => rfl) call76 rfl rfl fun r6 hr6 => ?_
        refine po_evs (T := tab) 2 rfl rfl ?_
        refine po_nil ?_
        refine pn_seq ?_
        exact pw_retN (T := tab) rfl rfl rfl ⟨rfl, rfl⟩ trivial rfl

def Twin_alike_m (fu : Nat) (x1 : Node) (y2 : Node) : Option Bool := cnd (x1.Kind == y2.Kind) (cnd (x1.Name == y2.Name) (cnd (x1.Is == y2.Is) (cnd (x1.Data == y2.Data) (bnd (Attr_Alike_m fu x1.Attrs y2.Attrs) fun r3 => cnd r3 (some (((x1.Kids.length : Nat) : Int) == ((y2.Kids.length : Nat) : Int))) (some false)) (some false)) (some false)) (some false)) (some false)

set_option maxHeartbeats 10000000 in
set_option maxRecDepth 100000 in
theorem Twin_alike_ok (fu : Nat) (x1 : Node) (y2 : Node) : ∀ r, Twin_alike_m fu x1 y2 = some r → DC laidL Tryz.prog 30 [.agg (cNode x1), .agg (cNode y2)] (.v (.bool r)) := by
  intro r hr
  refine fc_intro (args := [.agg (cNode x1), .agg (cNode y2)]) (S := []) (N0 := []) (post := fun r p S => p = .v (.bool r) ∧ S = []) Tryz.func30 rfl rfl hr fun w0 X X0 σ0 _ => ?_
  refine pw_seq ?_
  refine pw_region ?_
  refine po_box  2 rfl rfl rfl rfl rfl rfl rfl rfl rfl rfl ?_
  refine po_box  3 rfl rfl rfl rfl rfl rfl rfl rfl rfl rfl ?_
  refine po_evs (T := tab) 1 rfl rfl ?_
  refine po_nil ?_
  refine pn_seq ?_
  refine pw_seq ?_
  refine pw_region ?_
  refine po_evs (T := tab) 6 rfl rfl ?_
  refine po_split (j := 10) rfl ?_ ?_
  · refine po_evs (T := tab) 7 rfl rfl ?_
    refine po_split (j := 17) rfl ?_ ?_
    · refine po_evs (T := tab) 7 rfl rfl ?_
      refine po_split (j := 24) rfl ?_ ?_
      · refine po_evs (T := tab) 7 rfl rfl ?_
        refine po_split (j := 31) rfl ?_ ?_
        · refine po_evs (T := tab) 4 rfl rfl ?_
          refine po_call (enc := fun (r3 : Bool) => .v (.bool r3)) (qs := [.sl 2 false (x1.Attrs.map cAttr), .sl 2 false (y2.Attrs.map cAttr)]) (Attr_Alike_ok fu x1.Attrs y2.Attrs) rfl rfl ⟨⟨_, rfl, .rfl⟩, ⟨_, rfl, .rfl⟩, trivial⟩ (fun _ => rfl) call52 rfl rfl fun r3 hr3 => ?_
          refine po_evs (T := tab) 2 rfl rfl ?_
          refine po_split (j := 38) rfl ?_ ?_
          · refine po_evs (T := tab) 2 rfl rfl ?_
            refine po_len (T := tab) cInt_i64 x1.Kids rfl rfl rfl rfl rfl rfl rfl rfl ?_
            refine po_evs (T := tab) 2 rfl rfl ?_
            refine po_len (T := tab) cInt_i64 y2.Kids rfl rfl rfl rfl rfl rfl rfl rfl ?_
            refine po_evs (T := tab) 3 rfl rfl ?_
            refine po_nil ?_
            refine pn_seq ?_
            exact pw_retN (T := tab) rfl rfl rfl ⟨rfl, rfl⟩ trivial rfl
          · refine po_evs (T := tab) 9 rfl rfl ?_
            refine po_nil ?_
            refine pn_seq ?_
            exact pw_retN (T := tab) rfl rfl rfl ⟨rfl, rfl⟩ trivial rfl
        · refine po_evs (T := tab) 16 rfl rfl ?_
          refine po_nil ?_
          refine pn_seq ?_
          exact pw_retN (T := tab) rfl rfl rfl ⟨rfl, rfl⟩ trivial rfl
      · refine po_evs (T := tab) 23 rfl rfl ?_
        refine po_nil ?_
        refine pn_seq ?_
        exact pw_retN (T := tab) rfl rfl rfl ⟨rfl, rfl⟩ trivial rfl
    · refine po_evs (T := tab) 30 rfl rfl ?_
      refine po_nil ?_
      refine pn_seq ?_
      exact pw_retN (T := tab) rfl rfl rfl ⟨rfl, rfl⟩ trivial rfl
  · refine po_evs (T := tab) 37 rfl rfl ?_
    refine po_nil ?_
    refine pn_seq ?_
    exact pw_retN (T := tab) rfl rfl rfl ⟨rfl, rfl⟩ trivial rfl

def Twin_Alike_1_m (fu : Nat) (x1 : Int) (y2 : Int) (c3 : Forest) : Option Bool := bnd (idx c3.Nodes x1) fun y4 => bnd (idx c3.Nodes y2) fun y5 => bnd (Twin_alike_m fu y4 y5) fun r6 => some r6

set_option maxRecDepth 100000 in
theorem Twin_Alike_1_ok (fu : Nat) (x1 : Int) (y2 : Int) (c3 : Forest) : ∀ r, Twin_Alike_1_m fu x1 y2 c3 = some r → FC laidL Tryz.prog 29 [.v (.int .i64 x1), .v (.int .i64 y2), .loc 900000 0] [(900000, .box 24 [.sl 10 false (c3.Nodes.map cNode), .v (.int .i64 c3.Most)])] [900000] fun p S' => p = .v (.bool r) ∧ S' = [(900000, .box 24 [.sl 10 false (c3.Nodes.map cNode), .v (.int .i64 c3.Most)])] := by
  intro r hr
  refine fc_intro (args := [.v (.int .i64 x1), .v (.int .i64 y2), .loc 900000 0]) (S := [(900000, .box 24 [.sl 10 false (c3.Nodes.map cNode), .v (.int .i64 c3.Most)])]) (N0 := [900000]) (post := fun r p S => p = .v (.bool r) ∧ S = [(900000, .box 24 [.sl 10 false (c3.Nodes.map cNode), .v (.int .i64 c3.Most)])]) Tryz.func29 rfl rfl hr fun w0 X X0 σ0 _ => ?_
  refine pw_seq ?_
  refine pw_region ?_
  refine po_evs (T := tab) 1 rfl rfl ?_
  refine po_nil ?_
  refine pn_seq ?_
  refine pw_seq ?_
  refine pw_draw mixed (by kernel_rfl) ?_
  refine pd_evs (T := tab) 3 rfl rfl ?_
  refine pd_idx (T := tab) cNode c3.Nodes rfl rfl rfl rfl rfl rfl rfl fun y4 hy4 => ?_
  refine pd_evs (T := tab) 4 rfl rfl ?_
  refine pd_idx (T := tab) cNode c3.Nodes rfl rfl rfl rfl rfl rfl rfl fun y5 hy5 => ?_
  refine pd_evs (T := tab) 1 rfl rfl ?_
  refine pd_call (enc := fun (r6 : Bool) => .v (.bool r6)) (qs := [.agg (cNode y4), .agg (cNode y5)]) (Twin_alike_ok fu y4 y5) rfl rfl ⟨⟨_, rfl, .rfl⟩, ⟨_, rfl, .rfl⟩, trivial⟩ (fun _ => rfl) call30 rfl rfl fun r6 hr6 => ?_
  refine pd_evs (T := tab) 1 rfl rfl ?_
  refine pd_nil ?_
  refine pn_seq ?_
  exact pw_retN (T := tab) rfl rfl rfl ⟨rfl, rfl⟩ ⟨rfl, trivial⟩ rfl

def Slices_EqualFunc_int_l1 (t1 : Int → Int → Option Bool) (s11 : (List Int)) (s22 : (List Int)) : Nat → Int → Option Bool
  | 0, _ => none
  | k1 + 1, t4 => cnd (decide (t4 < ((s11.length : Nat) : Int))) (bnd (idx s11 t4) fun y5 => bnd (idx s22 t4) fun y6 => bnd (t1 y5 y6) fun r7 => cnd (!r7) (some false) (bnd (rng .i64 (t4 + 1)) fun i8 => (Slices_EqualFunc_int_l1 t1 s11 s22 k1) i8)) (some true)

def Slices_EqualFunc_int_m (fu : Nat) (t1 : Int → Int → Option Bool) (s11 : (List Int)) (s22 : (List Int)) : Option Bool := cnd (((s11.length : Nat) : Int) != ((s22.length : Nat) : Int)) (some false) ((Slices_EqualFunc_int_l1 t1 s11 s22) fu 0)

set_option maxHeartbeats 10000000 in
set_option maxRecDepth 100000 in
theorem Slices_EqualFunc_int_ok (fu : Nat) (s11 : (List Int)) (s22 : (List Int)) (c3 : Forest) : ∀ r, Slices_EqualFunc_int_m fu (fun (z1 : Int) (z2 : Int) => Twin_Alike_1_m fu z1 z2 c3) s11 s22 = some r → FC laidL Tryz.prog 28 [.sl 1 false (s11.map cInt_i64), .sl 1 false (s22.map cInt_i64), .fn (.func 29) [] [.loc 900000 0]] [(900000, .box 24 [.sl 10 false (c3.Nodes.map cNode), .v (.int .i64 c3.Most)])] [900000] fun p S' => p = .v (.bool r) ∧ S' = [(900000, .box 24 [.sl 10 false (c3.Nodes.map cNode), .v (.int .i64 c3.Most)])] := by
  intro r hr
  refine fc_intro (args := [.sl 1 false (s11.map cInt_i64), .sl 1 false (s22.map cInt_i64), .fn (.func 29) [] [.loc 900000 0]]) (S := [(900000, .box 24 [.sl 10 false (c3.Nodes.map cNode), .v (.int .i64 c3.Most)])]) (N0 := [900000]) (post := fun r p S => p = .v (.bool r) ∧ S = [(900000, .box 24 [.sl 10 false (c3.Nodes.map cNode), .v (.int .i64 c3.Most)])]) Tryz.func28 rfl rfl hr fun w0 X X0 σ0 _ => ?_
  refine pw_seq ?_
  refine pw_region ?_
  refine po_evs (T := tab) 1 rfl rfl ?_
  refine po_nil ?_
  refine pn_seq ?_
  refine pw_seq ?_
  refine pw_seq ?_
  refine pw_region ?_
  refine po_evs (T := tab) 1 rfl rfl ?_
  refine po_len (T := tab) cInt_i64 s11 rfl rfl rfl rfl rfl rfl rfl rfl ?_
  refine po_evs (T := tab) 1 rfl rfl ?_
  refine po_len (T := tab) cInt_i64 s22 rfl rfl rfl rfl rfl rfl rfl rfl ?_
  refine po_evs (T := tab) 1 rfl rfl ?_
  refine po_nil ?_
  refine pn_seq ?_
  refine pw_cnd rfl ?_ ?_
  · refine pw_seq ?_
    refine pw_region ?_
    refine po_evs (T := tab) 1 rfl rfl ?_
    refine po_nil ?_
    refine pn_seq ?_
    exact pw_retN (T := tab) rfl rfl rfl ⟨rfl, rfl⟩ ⟨rfl, trivial⟩ rfl
  · refine pw_skip ?_
    refine pn_seq ?_
    refine pw_seq ?_
    refine pw_seq ?_
    refine pw_region ?_
    refine po_evs (T := tab) 1 rfl rfl ?_
    refine po_len (T := tab) cInt_i64 s11 rfl rfl rfl rfl rfl rfl rfl rfl ?_
    refine po_evs (T := tab) 1 rfl rfl ?_
    refine po_nil ?_
    refine pn_seq ?_
    refine pw_block ?_
    refine pw_loop' (Slices_EqualFunc_int_l1 (fun (z1 : Int) (z2 : Int) => Twin_Alike_1_m fu z1 z2 c3) s11 s22) (fun (t4 : Int) => [(1, .sl 1 false (s22.map cInt_i64)), (2, .fn (.func 29) [] [.loc 900000 0]), (15, .sl 1 false (s11.map cInt_i64)), (16, .v (.int .i64 ((s11.length : Nat) : Int))), (17, .v (.int .i64 t4))]) (fun (t4 : Int) => [(900000, .box 24 [.sl 10 false (c3.Nodes.map cNode), .v (.int .i64 c3.Most)])]) fu 0 (fun _ => rfl) ⟨rfl, rfl, rfl, rfl, rfl, trivial⟩ ⟨rfl, trivial⟩ rfl ?_
    rintro k1 t4
    refine pw_seq ?_
    refine pw_region ?_
    refine po_evs (T := tab) 1 rfl rfl ?_
    refine po_nil ?_
    refine pn_seq ?_
    refine pw_seq ?_
    refine pw_cnd rfl ?_ ?_
    · refine pw_skip ?_
      refine pn_seq ?_
      refine pw_seq ?_
      refine pw_block ?_
      refine pw_seq ?_
      refine pw_region ?_
      refine po_evs (T := tab) 1 rfl rfl ?_
      refine po_idx (T := tab) cInt_i64 s11 rfl rfl rfl rfl rfl rfl rfl fun y5 hy5 => ?_
      refine po_evs (T := tab) 3 rfl rfl ?_
      refine po_nil ?_
      refine pn_seq ?_
      refine pw_seq ?_
      refine pw_region ?_
      refine po_evs (T := tab) 2 rfl rfl ?_
      refine po_idx (T := tab) cInt_i64 s22 rfl rfl rfl rfl rfl rfl rfl fun y6 hy6 => ?_
      refine po_evs (T := tab) 2 rfl rfl ?_
      refine po_nil ?_
      refine pn_seq ?_
      refine pw_seq ?_
      refine pw_region ?_
      refine po_evs (T := tab) 3 rfl rfl ?_
      refine po_callv (enc := fun (r7 : Bool) => .v (.bool r7)) (first := []) (cap := [.loc 900000 0]) (qs := [.v (.int .i64 y5), .v (.int .i64 y6)]) (Sc := [(900000, .box 24 [.sl 10 false (c3.Nodes.map cNode), .v (.int .i64 c3.Most)])]) (fun r7 hr7 => fc_ren [(900000, 900000)] [900000] (Twin_Alike_1_ok fu y5 y6 c3 _ hr7) rfl rfl rfl rfl rfl rfl) (subS_of ⟨rfl, trivial⟩ rfl) rfl rfl rfl rfl ⟨⟨_, rfl, .rfl⟩, ⟨_, rfl, .rfl⟩, trivial⟩ (fun _ => rfl) call29 rfl rfl fun r7 hr7 => ?_
      refine po_evs (T := tab) 1 rfl rfl ?_
      refine po_nil ?_
      refine pn_seq ?_
      refine pw_cnd rfl ?_ ?_
      · refine pw_seq ?_
        refine pw_region ?_
        refine po_evs (T := tab) 1 rfl rfl ?_
        refine po_nil ?_
        refine pn_seq ?_
        exact pw_retN (T := tab) rfl rfl rfl ⟨rfl, rfl⟩ ⟨rfl, trivial⟩ rfl
      · refine pw_skip ?_
        refine pn_block ?_
        refine pn_seq ?_
        refine pw_region ?_
        refine po_arith' (T := tab) rfl rfl rfl rfl fun i8 hi8 => ?_
        refine po_evs (T := tab) 1 rfl rfl ?_
        refine po_nil ?_
        exact pn_iter' i8 ⟨rfl, rfl, rfl, rfl, rfl, trivial⟩ ⟨rfl, trivial⟩ rfl
    · refine pw_exit rfl ?_
      refine pn_seq ?_
      refine pw_seq ?_
      refine pw_region ?_
      refine po_evs (T := tab) 1 rfl rfl ?_
      refine po_nil ?_
      refine pn_seq ?_
      exact pw_retN (T := tab) rfl rfl rfl ⟨rfl, rfl⟩ ⟨rfl, trivial⟩ rfl

def Twin_Alike_m (fu : Nat) (f1 : Forest) (a2 : Int) (b3 : Int) : Option Bool := bnd (Twin_there_m fu f1 [a2, b3]) fun r4 => cnd (!r4) (some false) (bnd (Forest_Order_m fu f1 a2) fun r5 => bnd (Forest_Order_m fu f1 b3) fun r6 => bnd (Slices_EqualFunc_int_m fu (fun (z1 : Int) (z2 : Int) => Twin_Alike_1_m fu z1 z2 f1) r5 r6) fun r7 => some r7)

set_option maxRecDepth 100000 in
theorem Twin_Alike_ok (fu : Nat) (f1 : Forest) (a2 : Int) (b3 : Int) : ∀ r, Twin_Alike_m fu f1 a2 b3 = some r → DC laidL Tryz.prog 14 [.agg (cForest f1), .v (.int .i64 a2), .v (.int .i64 b3)] (.v (.bool r)) := by
  intro r hr
  refine fc_intro (args := [.agg (cForest f1), .v (.int .i64 a2), .v (.int .i64 b3)]) (S := []) (N0 := []) (post := fun r p S => p = .v (.bool r) ∧ S = []) Tryz.func14 rfl rfl hr fun w0 X X0 σ0 _ => ?_
  refine pw_seq ?_
  refine pw_region ?_
  refine po_box  3 rfl rfl rfl rfl rfl rfl rfl rfl rfl rfl ?_
  refine po_evs (T := tab) 1 rfl rfl ?_
  refine po_nil ?_
  refine pn_seq ?_
  refine pw_seq ?_
  refine pw_seq ?_
  refine pw_region ?_
  refine po_evs (T := tab) 3 rfl rfl ?_
  refine po_lit (T := tab) (rows := [a2, b3].map cInt_i64) 12 rfl rfl rfl rfl rfl rfl rfl rfl rfl rfl rfl rfl rfl rfl ?_
  refine po_freeze 12 rfl rfl rfl ?_
  refine po_call (enc := fun (r4 : Bool) => .v (.bool r4)) (qs := [.agg (cForest f1), .sl 1 false ([a2, b3].map cInt_i64)]) (Twin_there_ok fu f1 [a2, b3]) rfl rfl ⟨⟨_, rfl, .rfl⟩, ⟨_, rfl, .rfl⟩, trivial⟩ (fun _ => rfl) call26 rfl rfl fun r4 hr4 => ?_
  refine po_evs (T := tab) 1 rfl rfl ?_
  refine po_nil ?_
  refine pn_seq ?_
  refine pw_cnd rfl ?_ ?_
  · refine pw_seq ?_
    refine pw_region ?_
    refine po_evs (T := tab) 1 rfl rfl ?_
    refine po_nil ?_
    refine pn_seq ?_
    exact pw_retN (T := tab) rfl rfl rfl ⟨rfl, rfl⟩ trivial rfl
  · refine pw_skip ?_
    refine pn_seq ?_
    refine pw_seq ?_
    refine pw_draw mixed (by kernel_rfl) ?_
    refine pd_evs (T := tab) 2 rfl rfl ?_
    refine pd_call (enc := fun (r5 : (List Int)) => .sl 1 false (r5.map cInt_i64)) (qs := [.agg (cForest f1), .v (.int .i64 a2)]) (Forest_Order_ok fu f1 a2) rfl rfl ⟨⟨_, rfl, .rfl⟩, ⟨_, rfl, .rfl⟩, trivial⟩ (fun _ => rfl) call27 rfl rfl fun r5 hr5 => ?_
    refine pd_evs (T := tab) 2 rfl rfl ?_
    refine pd_call (enc := fun (r6 : (List Int)) => .sl 1 false (r6.map cInt_i64)) (qs := [.agg (cForest f1), .v (.int .i64 b3)]) (Forest_Order_ok fu f1 b3) rfl rfl ⟨⟨_, rfl, .rfl⟩, ⟨_, rfl, .rfl⟩, trivial⟩ (fun _ => rfl) call27 rfl rfl fun r6 hr6 => ?_
    refine pd_evs (T := tab) 2 rfl rfl ?_
    refine pd_nil ?_
    refine pn_seq ?_
    refine pw_seq ?_
    refine pw_region ?_
    refine po_evs (T := tab) 3 rfl rfl ?_
    refine po_callv (enc := fun (r7 : Bool) => .v (.bool r7)) (first := []) (cap := []) (qs := [.sl 1 false (r5.map cInt_i64), .sl 1 false (r6.map cInt_i64), .fn (.func 29) [] [.loc 3 0]]) (Sc := [(3, .box 24 [.sl 10 false (f1.Nodes.map cNode), .v (.int .i64 f1.Most)])]) (fun r7 hr7 => fc_ren [(900000, 3)] [900000] (Slices_EqualFunc_int_ok fu r5 r6 f1 _ hr7) rfl rfl rfl rfl rfl rfl) (subS_of ⟨rfl, trivial⟩ rfl) rfl rfl rfl rfl ⟨⟨_, rfl, .rfl⟩, ⟨_, rfl, .rfl⟩, ⟨_, rfl, .rfl⟩, trivial⟩ (fun _ => rfl) call28 rfl rfl fun r7 hr7 => ?_
    refine po_evs (T := tab) 1 rfl rfl ?_
    refine po_nil ?_
    refine pn_seq ?_
    exact pw_retN (T := tab) rfl rfl rfl ⟨rfl, rfl⟩ trivial rfl

def Shade_there_1_m (_fu : Nat) (n1 : Int) (c2 : Forest) : Option Bool := cnd (decide (n1 < 0)) (some true) (some (decide (n1 ≥ ((c2.Nodes.length : Nat) : Int))))

set_option maxRecDepth 100000 in
theorem Shade_there_1_ok (fu : Nat) (n1 : Int) (c2 : Forest) : ∀ r, Shade_there_1_m fu n1 c2 = some r → FC laidL Tryz.prog 53 [.v (.int .i64 n1), .loc 900000 0] [(900000, .box 24 [.sl 10 false (c2.Nodes.map cNode), .v (.int .i64 c2.Most)])] [900000] fun p S' => p = .v (.bool r) ∧ S' = [(900000, .box 24 [.sl 10 false (c2.Nodes.map cNode), .v (.int .i64 c2.Most)])] := by
  intro r hr
  refine fc_intro (args := [.v (.int .i64 n1), .loc 900000 0]) (S := [(900000, .box 24 [.sl 10 false (c2.Nodes.map cNode), .v (.int .i64 c2.Most)])]) (N0 := [900000]) (post := fun r p S => p = .v (.bool r) ∧ S = [(900000, .box 24 [.sl 10 false (c2.Nodes.map cNode), .v (.int .i64 c2.Most)])]) Tryz.func53 rfl rfl hr fun w0 X X0 σ0 _ => ?_
  refine pw_seq ?_
  refine pw_region ?_
  refine po_evs (T := tab) 1 rfl rfl ?_
  refine po_nil ?_
  refine pn_seq ?_
  refine pw_seq ?_
  refine pw_region ?_
  refine po_evs (T := tab) 3 rfl rfl ?_
  refine po_split (j := 6) rfl ?_ ?_
  · refine po_evs (T := tab) 7 rfl rfl ?_
    refine po_nil ?_
    refine pn_seq ?_
    exact pw_retN (T := tab) rfl rfl rfl ⟨rfl, rfl⟩ ⟨rfl, trivial⟩ rfl
  · refine po_evs (T := tab) 3 rfl rfl ?_
    refine po_len (T := tab) cNode c2.Nodes rfl rfl rfl rfl rfl rfl rfl rfl ?_
    refine po_evs (T := tab) 3 rfl rfl ?_
    refine po_nil ?_
    refine pn_seq ?_
    exact pw_retN (T := tab) rfl rfl rfl ⟨rfl, rfl⟩ ⟨rfl, trivial⟩ rfl

set_option maxHeartbeats 10000000 in
set_option maxRecDepth 100000 in
theorem Slices_IndexFunc_int_i3_ok (fu : Nat) (s1 : (List Int)) (c2 : Forest) : ∀ r, Slices_IndexFunc_int_m fu (fun (z1 : Int) => Shade_there_1_m fu z1 c2) s1 = some r → FC laidL Tryz.prog 73 [.sl 1 false (s1.map cInt_i64), .fn (.func 53) [] [.loc 900000 0]] [(900000, .box 24 [.sl 10 false (c2.Nodes.map cNode), .v (.int .i64 c2.Most)])] [900000] fun p S' => p = .v (.int .i64 r) ∧ S' = [(900000, .box 24 [.sl 10 false (c2.Nodes.map cNode), .v (.int .i64 c2.Most)])] := by
  intro r hr
  refine fc_intro (args := [.sl 1 false (s1.map cInt_i64), .fn (.func 53) [] [.loc 900000 0]]) (S := [(900000, .box 24 [.sl 10 false (c2.Nodes.map cNode), .v (.int .i64 c2.Most)])]) (N0 := [900000]) (post := fun r p S => p = .v (.int .i64 r) ∧ S = [(900000, .box 24 [.sl 10 false (c2.Nodes.map cNode), .v (.int .i64 c2.Most)])]) Tryz.func73 rfl rfl hr fun w0 X X0 σ0 _ => ?_
  refine pw_seq ?_
  refine pw_region ?_
  refine po_evs (T := tab) 1 rfl rfl ?_
  refine po_nil ?_
  refine pn_seq ?_
  refine pw_seq ?_
  refine pw_seq ?_
  refine pw_region ?_
  refine po_evs (T := tab) 1 rfl rfl ?_
  refine po_len (T := tab) cInt_i64 s1 rfl rfl rfl rfl rfl rfl rfl rfl ?_
  refine po_evs (T := tab) 1 rfl rfl ?_
  refine po_nil ?_
  refine pn_seq ?_
  refine pw_block ?_
  refine pw_loop' (Slices_IndexFunc_int_l1 (fun (z1 : Int) => Shade_there_1_m fu z1 c2) s1) (fun (t3 : Int) => [(0, .sl 1 false (s1.map cInt_i64)), (1, .fn (.func 53) [] [.loc 900000 0]), (7, .v (.int .i64 ((s1.length : Nat) : Int))), (8, .v (.int .i64 t3))]) (fun (t3 : Int) => [(900000, .box 24 [.sl 10 false (c2.Nodes.map cNode), .v (.int .i64 c2.Most)])]) fu 0 (fun _ => rfl) ⟨rfl, rfl, rfl, rfl, trivial⟩ ⟨rfl, trivial⟩ rfl ?_
  rintro k1 t3
  refine pw_seq ?_
  refine pw_region ?_
  refine po_evs (T := tab) 1 rfl rfl ?_
  refine po_nil ?_
  refine pn_seq ?_
  refine pw_seq ?_
  refine pw_cnd rfl ?_ ?_
  · refine pw_skip ?_
    refine pn_seq ?_
    refine pw_seq ?_
    refine pw_block ?_
    refine pw_seq ?_
    refine pw_region ?_
    refine po_evs (T := tab) 2 rfl rfl ?_
    refine po_nil ?_
    refine pn_seq ?_
    refine pw_seq ?_
    refine pw_region ?_
    refine po_evs (T := tab) 3 rfl rfl ?_
    refine po_idx (T := tab) cInt_i64 s1 rfl rfl rfl rfl rfl rfl rfl fun y4 hy4 => ?_
    refine po_evs (T := tab) 1 rfl rfl ?_
    refine po_callv (enc := fun (r5 : Bool) => .v (.bool r5)) (first := []) (cap := [.loc 900000 0]) (qs := [.v (.int .i64 y4)]) (Sc := [(900000, .box 24 [.sl 10 false (c2.Nodes.map cNode), .v (.int .i64 c2.Most)])]) (fun r5 hr5 => fc_ren [(900000, 900000)] [900000] (Shade_there_1_ok fu y4 c2 _ hr5) rfl rfl rfl rfl rfl rfl) (subS_of ⟨rfl, trivial⟩ rfl) rfl rfl rfl rfl ⟨⟨_, rfl, .rfl⟩, trivial⟩ (fun _ => rfl) call53 rfl rfl fun r5 hr5 => ?_
    refine po_nil ?_
    refine pn_seq ?_
    refine pw_cnd rfl ?_ ?_
    · refine pw_seq ?_
      refine pw_region ?_
      refine po_evs (T := tab) 2 rfl rfl ?_
      refine po_nil ?_
      refine pn_seq ?_
      exact pw_retN (T := tab) rfl rfl rfl ⟨rfl, rfl⟩ ⟨rfl, trivial⟩ rfl
    · refine pw_skip ?_
      refine pn_block ?_
      refine pn_seq ?_
      refine pw_region ?_
      refine po_arith' (T := tab) rfl rfl rfl rfl fun i6 hi6 => ?_
      refine po_evs (T := tab) 1 rfl rfl ?_
      refine po_nil ?_
      exact pn_iter' i6 ⟨rfl, rfl, rfl, rfl, trivial⟩ ⟨rfl, trivial⟩ rfl
  · refine pw_exit rfl ?_
    refine pn_seq ?_
    refine pw_seq ?_
    refine pw_region ?_
    refine po_evs (T := tab) 1 rfl rfl ?_
    refine po_nil ?_
    refine pn_seq ?_
    exact pw_retN (T := tab) rfl rfl rfl ⟨rfl, rfl⟩ ⟨rfl, trivial⟩ rfl

set_option maxRecDepth 100000 in
theorem Slices_ContainsFunc_int_i3_ok (fu : Nat) (s1 : (List Int)) (c2 : Forest) : ∀ r, Slices_ContainsFunc_int_m fu (fun (z1 : Int) => Shade_there_1_m fu z1 c2) s1 = some r → FC laidL Tryz.prog 49 [.sl 1 false (s1.map cInt_i64), .fn (.func 53) [] [.loc 900000 0]] [(900000, .box 24 [.sl 10 false (c2.Nodes.map cNode), .v (.int .i64 c2.Most)])] [900000] fun p S' => p = .v (.bool r) ∧ S' = [(900000, .box 24 [.sl 10 false (c2.Nodes.map cNode), .v (.int .i64 c2.Most)])] := by
  intro r hr
  refine fc_intro (args := [.sl 1 false (s1.map cInt_i64), .fn (.func 53) [] [.loc 900000 0]]) (S := [(900000, .box 24 [.sl 10 false (c2.Nodes.map cNode), .v (.int .i64 c2.Most)])]) (N0 := [900000]) (post := fun r p S => p = .v (.bool r) ∧ S = [(900000, .box 24 [.sl 10 false (c2.Nodes.map cNode), .v (.int .i64 c2.Most)])]) Tryz.func49 rfl rfl hr fun w0 X X0 σ0 _ => ?_
  refine pw_seq ?_
  refine pw_region ?_
  refine po_evs (T := tab) 1 rfl rfl ?_
  refine po_nil ?_
  refine pn_seq ?_
  refine pw_seq ?_
  refine pw_region ?_
  refine po_evs (T := tab) 2 rfl rfl ?_
  refine po_callv (enc := fun (r3 : Int) => .v (.int .i64 r3)) (first := []) (cap := []) (qs := [.sl 1 false (s1.map cInt_i64), .fn (.func 53) [] [.loc 900000 0]]) (Sc := [(900000, .box 24 [.sl 10 false (c2.Nodes.map cNode), .v (.int .i64 c2.Most)])]) (fun r3 hr3 => fc_ren [(900000, 900000)] [900000] (Slices_IndexFunc_int_i3_ok fu s1 c2 _ hr3) rfl rfl rfl rfl rfl rfl) (subS_of ⟨rfl, trivial⟩ rfl) rfl rfl rfl rfl ⟨⟨_, rfl, .rfl⟩, ⟨_, rfl, .rfl⟩, trivial⟩ (fun _ => rfl) call73 rfl rfl fun r3 hr3 => ?_
  refine po_evs (T := tab) 2 rfl rfl ?_
  refine po_nil ?_
  refine pn_seq ?_
  exact pw_retN (T := tab) rfl rfl rfl ⟨rfl, rfl⟩ ⟨rfl, trivial⟩ rfl

def Shade_there_m (fu : Nat) (f1 : Forest) (l2 : (List Int)) : Option Bool := bnd (Forest_Right_m fu f1) fun r3 => cnd r3 (bnd (Slices_ContainsFunc_int_m fu (fun (z1 : Int) => Shade_there_1_m fu z1 f1) l2) fun r4 => some (!r4)) (some false)

set_option maxRecDepth 100000 in
theorem Shade_there_ok (fu : Nat) (f1 : Forest) (l2 : (List Int)) : ∀ r, Shade_there_m fu f1 l2 = some r → DC laidL Tryz.prog 31 [.agg (cForest f1), .sl 1 false (l2.map cInt_i64)] (.v (.bool r)) := by
  intro r hr
  refine fc_intro (args := [.agg (cForest f1), .sl 1 false (l2.map cInt_i64)]) (S := []) (N0 := []) (post := fun r p S => p = .v (.bool r) ∧ S = []) Tryz.func31 rfl rfl hr fun w0 X X0 σ0 _ => ?_
  refine pw_seq ?_
  refine pw_region ?_
  refine po_box  2 rfl rfl rfl rfl rfl rfl rfl rfl rfl rfl ?_
  refine po_evs (T := tab) 1 rfl rfl ?_
  refine po_nil ?_
  refine pn_seq ?_
  refine pw_seq ?_
  refine pw_region ?_
  refine po_evs (T := tab) 2 rfl rfl ?_
  refine po_nil ?_
  refine pn_seq ?_
  refine pw_seq ?_
  refine pw_region ?_
  refine po_evs (T := tab) 1 rfl rfl ?_
  refine po_call (enc := fun (r3 : Bool) => .v (.bool r3)) (qs := [.agg (cForest f1)]) (Forest_Right_ok fu f1) rfl rfl ⟨⟨_, rfl, .rfl⟩, trivial⟩ (fun _ => rfl) call8 rfl rfl fun r3 hr3 => ?_
  refine po_evs (T := tab) 1 rfl rfl ?_
  refine po_split (j := 9) rfl ?_ ?_
  · refine po_evs (T := tab) 2 rfl rfl ?_
    refine po_callv (enc := fun (r4 : Bool) => .v (.bool r4)) (first := []) (cap := []) (qs := [.sl 1 false (l2.map cInt_i64), .fn (.func 53) [] [.loc 2 0]]) (Sc := [(2, .box 24 [.sl 10 false (f1.Nodes.map cNode), .v (.int .i64 f1.Most)])]) (fun r4 hr4 => fc_ren [(900000, 2)] [900000] (Slices_ContainsFunc_int_i3_ok fu l2 f1 _ hr4) rfl rfl rfl rfl rfl rfl) (subS_of ⟨rfl, trivial⟩ rfl) rfl rfl rfl rfl ⟨⟨_, rfl, .rfl⟩, ⟨_, rfl, .rfl⟩, trivial⟩ (fun _ => rfl) call49 rfl rfl fun r4 hr4 => ?_
    refine po_evs (T := tab) 3 rfl rfl ?_
    refine po_nil ?_
    refine pn_seq ?_
    exact pw_retN (T := tab) rfl rfl rfl ⟨rfl, rfl⟩ trivial rfl
  · refine po_evs (T := tab) 6 rfl rfl ?_
    refine po_nil ?_
    refine pn_seq ?_
    exact pw_retN (T := tab) rfl rfl rfl ⟨rfl, rfl⟩ trivial rfl

def Shade_All_l2 (l4 : (List Int)) (y7 : Int) (y9 : Node) (rc1 : ((List Int) × (List Int)) → Option (List Int)) : Nat → (List Int) → Option (List Int)
  | 0, l10 => cnd (y9.Under != (-1)) (bnd (roomy 8 (l10.length + ([y9.Under] : List Int).length)) fun _ => rc1 ((l4 ++ [y7]), (l10 ++ [y9.Under]))) (rc1 ((l4 ++ [y7]), l10))
  | k2 + 1, l10 => bnd (y9.Kids[k2]?) fun y11 => bnd (roomy 8 (l10.length + ([y11] : List Int).length)) fun _ => (Shade_All_l2 l4 y7 y9 rc1 k2) (l10 ++ [y11])

def Shade_All_l1 (f1 : Forest) : Nat → (List Int) × (List Int) → Option (List Int)
  | 0, _ => none
  | k1 + 1, (l4, l5) => cnd (decide (((l5.length : Nat) : Int) > 0)) (bnd (rng .i64 (((l5.length : Nat) : Int) - 1)) fun i6 => bnd (idx l5 i6) fun y7 => bnd (piece l5 0 i6) fun l8 => bnd (roomy 8 (l4.length + ([y7] : List Int).length)) fun _ => bnd (idx f1.Nodes y7) fun y9 => (Shade_All_l2 l4 y7 y9 (Shade_All_l1 f1 k1)) y9.Kids.length l8) (some l4)

def Shade_All_m (fu : Nat) (f1 : Forest) (n2 : Int) : Option (List Int) := bnd (Shade_there_m fu f1 [n2]) fun r3 => cnd (!r3) (some ([] : List Int)) ((Shade_All_l1 f1) fu ([], [n2]))

set_option maxHeartbeats 10000000 in
set_option maxRecDepth 100000 in
theorem Shade_All_ok (fu : Nat) (f1 : Forest) (n2 : Int) : ∀ r, Shade_All_m fu f1 n2 = some r → FC laidL Tryz.prog 15 [.agg (cForest f1), .v (.int .i64 n2)] [] [] fun p S' => p = .own 1035 ∧ S' = [(1035, .arr 3 1 (r.map cInt_i64))] := by
  intro r hr
  refine fc_intro (args := [.agg (cForest f1), .v (.int .i64 n2)]) (S := []) (N0 := []) (post := fun r p S => p = .own 1035 ∧ S = [(1035, .arr 3 1 (r.map cInt_i64))]) Tryz.func15 rfl rfl hr fun w0 X X0 σ0 _ => ?_
  refine pw_seq ?_
  refine pw_region ?_
  refine po_box  2 rfl rfl rfl rfl rfl rfl rfl rfl rfl rfl ?_
  refine po_evs (T := tab) 1 rfl rfl ?_
  refine po_nil ?_
  refine pn_seq ?_
  refine pw_seq ?_
  refine pw_seq ?_
  refine pw_region ?_
  refine po_evs (T := tab) 2 rfl rfl ?_
  refine po_lit (T := tab) (rows := [n2].map cInt_i64) 14 rfl rfl rfl rfl rfl rfl rfl rfl rfl rfl rfl rfl rfl rfl ?_
  refine po_freeze 14 rfl rfl rfl ?_
  refine po_call (enc := fun (r3 : Bool) => .v (.bool r3)) (qs := [.agg (cForest f1), .sl 1 false ([n2].map cInt_i64)]) (Shade_there_ok fu f1 [n2]) rfl rfl ⟨⟨_, rfl, .rfl⟩, ⟨_, rfl, .rfl⟩, trivial⟩ (fun _ => rfl) call31 rfl rfl fun r3 hr3 => ?_
  refine po_evs (T := tab) 1 rfl rfl ?_
  refine po_nil ?_
  refine pn_seq ?_
  refine pw_cnd rfl ?_ ?_
  · refine pw_seq ?_
    refine pw_region ?_
    refine po_evs (T := tab) 1 rfl rfl ?_
    refine po_nil ?_
    refine pn_seq ?_
    refine pw_own_nil 1035 3 1 4 rfl rfl rfl rfl ?_
    exact pw_retN (T := tab) rfl rfl rfl ⟨rfl, rfl⟩ ⟨rfl, trivial⟩ rfl
  · refine pw_skip ?_
    refine pn_seq ?_
    refine pw_seq ?_
    refine pw_region ?_
    refine po_evs (T := tab) 1 rfl rfl ?_
    refine po_nil ?_
    refine pn_seq ?_
    refine pw_seq ?_
    refine pw_seq ?_
    refine pw_region ?_
    refine po_evs (T := tab) 1 rfl rfl ?_
    refine po_lit (T := tab) (rows := [n2].map cInt_i64) 18 rfl rfl rfl rfl rfl rfl rfl rfl rfl rfl rfl rfl rfl rfl ?_
    refine po_alloc (T := tab) 6 rfl rfl rfl rfl rfl rfl rfl rfl rfl ?_
    refine po_store (T := tab) rfl rfl rfl rfl rfl rfl rfl rfl rfl rfl rfl rfl ?_
    refine po_nil ?_
    refine pn_seq ?_
    refine pw_block ?_
    refine pw_own_nil 1035 3 1 5 rfl rfl rfl rfl ?_
    refine pw_loop' (Shade_All_l1 f1) (fun ((l4, l5) : (List Int) × (List Int)) => [(2, .loc 2 0), (5, .own 1035), (6, .loc 6 0)]) (fun ((l4, l5) : (List Int) × (List Int)) => [(1035, .arr 3 1 (l4.map cInt_i64)), (6, .box 35 [.own 18]), (18, .arr 3 1 (l5.map cInt_i64)), (2, .box 24 [.sl 10 false (f1.Nodes.map cNode), .v (.int .i64 f1.Most)])]) fu ([], [n2]) (fun _ => rfl) ⟨rfl, rfl, rfl, trivial⟩ ⟨rfl, rfl, rfl, rfl, trivial⟩ rfl ?_
    rintro k1 ⟨l4, l5⟩
    refine pw_seq ?_
    refine pw_seq ?_
    refine pw_region ?_
    refine po_evs (T := tab) 1 rfl rfl ?_
    refine po_len_own (T := tab) cInt_i64 l5 rfl rfl rfl rfl rfl rfl rfl rfl rfl ?_
    refine po_evs (T := tab) 1 rfl rfl ?_
    refine po_nil ?_
    refine pn_seq ?_
    refine pw_cnd rfl ?_ ?_
    · refine pw_skip ?_
      refine pn_seq ?_
      refine pw_seq ?_
      refine pw_block ?_
      refine pw_seq ?_
      refine pw_region ?_
      refine po_evs (T := tab) 1 rfl rfl ?_
      refine po_len_own (T := tab) cInt_i64 l5 rfl rfl rfl rfl rfl rfl rfl rfl rfl ?_
      refine po_arith' (T := tab) rfl rfl rfl rfl fun i6 hi6 => ?_
      refine po_evs (T := tab) 1 rfl rfl ?_
      refine po_nil ?_
      refine pn_seq ?_
      refine pw_seq ?_
      refine pw_region ?_
      refine po_evs (T := tab) 2 rfl rfl ?_
      refine po_idx_own (T := tab) cInt_i64 l5 rfl rfl rfl rfl rfl rfl rfl rfl fun y7 hy7 => ?_
      refine po_load_ela (T := tab) cInt_i64 l5 y7 (idx_at hy7) rfl rfl rfl rfl rfl rfl rfl rfl ?_
      refine po_evs (T := tab) 1 rfl rfl ?_
      refine po_nil ?_
      refine pn_seq ?_
      refine pw_seq ?_
      refine pw_region ?_
      refine po_evs (T := tab) 2 rfl rfl ?_
      refine po_own_cut (T := tab) cInt_i64 l5 rfl rfl rfl rfl rfl rfl rfl rfl rfl rfl rfl fun l8 hl8 => ?_
      refine po_store (T := tab) rfl rfl rfl rfl rfl rfl rfl rfl rfl rfl rfl rfl ?_
      refine po_nil ?_
      refine pn_seq ?_
      refine pw_seq ?_
      refine pw_region ?_
      refine po_evs (T := tab) 2 rfl rfl ?_
      refine po_lit (T := tab) (rows := [y7].map cInt_i64) 34 rfl rfl rfl rfl rfl rfl rfl rfl rfl rfl rfl rfl rfl rfl ?_
      refine po_append (T := tab) cInt_i64 l4 ([y7] : List Int) rfl rfl rfl rfl rfl rfl rfl rfl rfl rfl rfl rfl rfl rfl (cInt_i64_one _) rfl rfl rfl rfl rfl ?_
      refine po_evs (T := tab) 1 rfl rfl ?_
      refine po_nil ?_
      refine pn_seq ?_
      refine pw_seq ?_
      refine pw_region ?_
      refine po_evs (T := tab) 3 rfl rfl ?_
      refine po_idx (T := tab) cNode f1.Nodes rfl rfl rfl rfl rfl rfl rfl fun y9 hy9 => ?_
      refine po_evs (T := tab) 1 rfl rfl ?_
      refine po_alloc (T := tab) 9 rfl rfl rfl rfl rfl rfl rfl rfl rfl ?_
      refine po_store (T := tab) rfl rfl rfl rfl rfl rfl rfl rfl rfl rfl rfl rfl ?_
      refine po_nil ?_
      refine pn_seq ?_
      refine pw_seq ?_
      refine pw_seq ?_
      refine pw_region ?_
      refine po_evs (T := tab) 2 rfl rfl ?_
      refine po_backward (n := 3043) tab Tryz.func32 rfl rfl rfl rfl rfl rfl rfl rfl rfl rfl rfl rfl ⟨⟨_, rfl, .rfl⟩, trivial⟩ call32 rfl rfl ?_
      refine po_nil ?_
      refine pn_seq ?_
      refine pw_block ?_
      refine pw_back (T := tab) (enc := cInt_i64) (enc' := fun (y11 : Int) => .v (.int .i64 y11)) (xs := y9.Kids) (x0 := l8) (n := 3043) (tS := 35) (tE := 3) (tI := 3) (tB := 4) (tF := 69) (g := 54) (M := (Shade_All_l2 l4 y7 y9 (Shade_All_l1 f1 k1))) (Sf := fun (l10 : (List Int)) => [(9, .box 37 [.v (.int .i64 y9.Kind), .v (.string ⟨⟨y9.Name⟩⟩), .v (.string ⟨⟨y9.Is⟩⟩), .v (.string ⟨⟨y9.Data⟩⟩), .sl 2 false (y9.Attrs.map cAttr), .v (.int .i64 y9.Parent), .sl 1 false (y9.Kids.map cInt_i64), .v (.int .i64 y9.Host), .v (.int .i64 y9.Under), .v (.int .i64 y9.Doc)]), (1035, .arr 3 1 ((l4 ++ [y7]).map cInt_i64)), (18, .arr 3 1 (l10.map cInt_i64)), (6, .box 35 [.own 18]), (2, .box 24 [.sl 10 false (f1.Nodes.map cNode), .v (.int .i64 f1.Most)])]) (N1 := [2, 6, 9, 1035]) (E0 := [(2, .loc 2 0), (5, .own 1035), (6, .loc 6 0), (9, .loc 9 0)]) (E1 := fun k2 y11 => [(2, .loc 2 0), (5, .own 1035), (6, .loc 6 0), (9, .loc 9 0), (44, .v (.int .i64 ((k2 : Nat) : Int))), (45, .v (.int .i64 y11)), (11, .v (.int .i64 y11))]) Tryz.func54 rfl rfl rfl call54 rfl rfl (fun _ => rfl) (fun _ => rfl) rfl rfl ⟨rfl, rfl, rfl, rfl, trivial⟩ rfl rfl ⟨rfl, rfl, rfl, rfl, rfl, trivial⟩ rfl rfl rfl rfl rfl rfl ?_ ?_ ?_
      · rintro k2 y11 l10 hy w0 X X0 σ0 _ _
        refine po_evs (T := tab) 1 rfl rfl ?_
        refine po_nil ?_
        exact pn_end0 ⟨rfl, rfl, rfl, rfl, rfl, rfl, rfl, trivial⟩ ⟨rfl, rfl, rfl, rfl, rfl, trivial⟩ rfl
      · rintro k2 y11 l10 hy w0 X X0 σ0 _ _
        refine po_known hy ?_
        refine po_evs (T := tab) 2 rfl rfl ?_
        refine po_lit (T := tab) (rows := [y11].map cInt_i64) 48 rfl rfl rfl rfl rfl rfl rfl rfl rfl rfl rfl rfl rfl rfl ?_
        refine po_append (T := tab) cInt_i64 l10 ([y11] : List Int) rfl rfl rfl rfl rfl rfl rfl rfl rfl rfl rfl rfl rfl rfl (cInt_i64_one _) rfl rfl rfl rfl rfl ?_
        refine po_store (T := tab) rfl rfl rfl rfl rfl rfl rfl rfl rfl rfl rfl rfl ?_
        refine po_nil ?_
        exact pn_iter' (l10 ++ [y11]) trivial ⟨rfl, rfl, rfl, rfl, rfl, trivial⟩ rfl
      · rintro l10
        refine pn_block ?_
        refine pn_seq ?_
        refine pw_seq ?_
        refine pw_region ?_
        refine po_evs (T := tab) 3 rfl rfl ?_
        refine po_nil ?_
        refine pn_seq ?_
        refine pw_cnd rfl ?_ ?_
        · refine pw_region ?_
          refine po_evs (T := tab) 3 rfl rfl ?_
          refine po_lit (T := tab) (rows := [y9.Under].map cInt_i64) 56 rfl rfl rfl rfl rfl rfl rfl rfl rfl rfl rfl rfl rfl rfl ?_
          refine po_append (T := tab) cInt_i64 l10 ([y9.Under] : List Int) rfl rfl rfl rfl rfl rfl rfl rfl rfl rfl rfl rfl rfl rfl (cInt_i64_one _) rfl rfl rfl rfl rfl ?_
          refine po_store (T := tab) rfl rfl rfl rfl rfl rfl rfl rfl rfl rfl rfl rfl ?_
          refine po_nil ?_
          refine pn_block ?_
          refine pn_seq ?_
          refine pw_seq ?_
          refine pw_region ?_
          refine po_evs (T := tab) 1 rfl rfl ?_
          refine po_nil ?_
          refine pn_seq ?_
          refine pw_region ?_
          refine po_alloc (T := tab) 6 rfl rfl rfl rfl rfl rfl rfl rfl rfl ?_
          refine po_store (T := tab) rfl rfl rfl rfl rfl rfl rfl rfl rfl rfl rfl rfl ?_
          refine po_nil ?_
          exact pn_iter' ((l4 ++ [y7]), (l10 ++ [y9.Under])) ⟨rfl, rfl, rfl, trivial⟩ ⟨rfl, rfl, rfl, rfl, trivial⟩ rfl
        · refine pw_skip ?_
          refine pn_block ?_
          refine pn_seq ?_
          refine pw_seq ?_
          refine pw_region ?_
          refine po_evs (T := tab) 1 rfl rfl ?_
          refine po_nil ?_
          refine pn_seq ?_
          refine pw_region ?_
          refine po_alloc (T := tab) 6 rfl rfl rfl rfl rfl rfl rfl rfl rfl ?_
          refine po_store (T := tab) rfl rfl rfl rfl rfl rfl rfl rfl rfl rfl rfl rfl ?_
          refine po_nil ?_
          exact pn_iter' ((l4 ++ [y7]), l10) ⟨rfl, rfl, rfl, trivial⟩ ⟨rfl, rfl, rfl, rfl, trivial⟩ rfl
    · refine pw_exit rfl ?_
      refine pn_seq ?_
      refine pw_seq ?_
      refine pw_region ?_
      refine po_evs (T := tab) 2 rfl rfl ?_
      refine po_nil ?_
      refine pn_seq ?_
      exact pw_retN (T := tab) rfl rfl rfl ⟨rfl, rfl⟩ ⟨rfl, trivial⟩ rfl

def Instarlaw08_PrintBack_l1 (r11 : (Forest × Int × Int)) (r15 : (List Int)) (r16 : (List Int)) : Nat → Int → Option Bool
  | 0, _ => none
  | k1 + 1, k17 => cnd (decide (k17 < ((r16.length : Nat) : Int))) (bnd (idx r16 k17) fun y18 => bnd (rng .i64 (r11.2.1 + k17)) fun i19 => cnd (y18 != i19) (some false) (bnd (idx r15 k17) fun y20 => bnd (idx r11.1.Nodes y20) fun y21 => bnd (idx r16 k17) fun y22 => bnd (idx r11.1.Nodes y22) fun y23 => cnd (y21.Kind != y23.Kind) (some false) (bnd (idx r15 k17) fun y24 => bnd (idx r11.1.Nodes y24) fun y25 => bnd (idx r16 k17) fun y26 => bnd (idx r11.1.Nodes y26) fun y27 => cnd (!(y25.Data == y27.Data)) (some false) (bnd (idx r15 k17) fun y28 => bnd (idx r11.1.Nodes y28) fun y29 => bnd (idx r16 k17) fun y30 => bnd (idx r11.1.Nodes y30) fun y31 => cnd (!(y29.Name == y31.Name)) (some false) (bnd (rng .i64 (k17 + 1)) fun i32 => (Instarlaw08_PrintBack_l1 r11 r15 r16 k1) i32))))) (some true)

def Instarlaw08_PrintBack_m (fu : Nat) (f1 : Forest) (a2 : Int) : Option Bool := bnd (Instarlaw08_awake_m fu) fun r3 => cnd (!r3) (some false) (bnd (Instarref03_Short_m fu f1) fun r4 => cnd (!r4) (some true) (bnd (Forest_Right_m fu f1) fun r5 => cnd (!r5) (some true) (bnd (rng .i64 a2) fun i6 => bnd (remI i6 ((f1.Nodes.length : Nat) : Int)) fun m7 => bnd (Print_Put_m fu f1 m7) fun r8 => cnd (r8.2 != 0) (some (r8.2 == 0)) (cnd (decide (((r8.1.length : Nat) : Int) > 16384)) (some (r8.2 == 0)) (bnd (idx f1.Nodes m7) fun y9 => bnd (idx f1.Nodes m7) fun y10 => bnd (Print_Read_m fu (⟨f1.Nodes, 400⟩ : Forest) y10.Doc r8.1) fun r11 => cnd (y9.Kind == 0) (cnd (r11.2.2 == 2) (some (r11.2.1 == (-1))) (some false)) (cnd (y9.Kind == 4) (cnd (r11.2.2 == 2) (some (r11.2.1 == (-1))) (some false)) (bnd (Print_Put_m fu r11.1 r11.2.1) fun r12 => cnd (r11.2.2 != 0) (some false) (cnd (r12.2 != 0) (some false) (cnd (!(r12.1 == r8.1)) (some false) (bnd (Forest_Right_m fu r11.1) fun r13 => cnd (!r13) (some false) (cnd (r11.2.1 != ((f1.Nodes.length : Nat) : Int)) (some false) (bnd (Twin_Alike_m fu r11.1 m7 r11.2.1) fun r14 => cnd (!r14) (some false) (bnd (Shade_All_m fu r11.1 m7) fun r15 => bnd (Shade_All_m fu r11.1 r11.2.1) fun r16 => cnd (((r15.length : Nat) : Int) != ((r16.length : Nat) : Int)) (some false) ((Instarlaw08_PrintBack_l1 r11 r15 r16) fu 0))))))))))))))

set_option maxHeartbeats 10000000 in
set_option maxRecDepth 100000 in
theorem Instarlaw08_PrintBack_ok (fu : Nat) (f1 : Forest) (a2 : Int) : ∀ r, Instarlaw08_PrintBack_m fu f1 a2 = some r → DC laidL Tryz.prog 5 [.agg (cForest f1), .v (.int .u8 a2)] (.v (.bool r)) := by
  intro r hr
  refine fc_intro (args := [.agg (cForest f1), .v (.int .u8 a2)]) (S := []) (N0 := []) (post := fun r p S => p = .v (.bool r) ∧ S = []) Tryz.func5 rfl rfl hr fun w0 X X0 σ0 _ => ?_
  refine pw_seq ?_
  refine pw_region ?_
  refine po_box  2 rfl rfl rfl rfl rfl rfl rfl rfl rfl rfl ?_
  refine po_evs (T := tab) 1 rfl rfl ?_
  refine po_nil ?_
  refine pn_seq ?_
  refine pw_seq ?_
  refine pw_seq ?_
  refine pw_region ?_
  refine po_call (enc := fun (r3 : Bool) => .v (.bool r3)) (qs := []) (Instarlaw08_awake_ok fu) rfl rfl trivial (fun _ => rfl) call6 rfl rfl fun r3 hr3 => ?_
  refine po_evs (T := tab) 1 rfl rfl ?_
  refine po_nil ?_
  refine pn_seq ?_
  refine pw_cnd rfl ?_ ?_
  · refine pw_seq ?_
    refine pw_region ?_
    refine po_evs (T := tab) 1 rfl rfl ?_
    refine po_nil ?_
    refine pn_seq ?_
    exact pw_retN (T := tab) rfl rfl rfl ⟨rfl, rfl⟩ trivial rfl
  · refine pw_skip ?_
    refine pn_seq ?_
    refine pw_seq ?_
    refine pw_seq ?_
    refine pw_region ?_
    refine po_evs (T := tab) 1 rfl rfl ?_
    refine po_call (enc := fun (r4 : Bool) => .v (.bool r4)) (qs := [.agg (cForest f1)]) (Instarref03_Short_ok fu f1) rfl rfl ⟨⟨_, rfl, .rfl⟩, trivial⟩ (fun _ => rfl) call7 rfl rfl fun r4 hr4 => ?_
    refine po_evs (T := tab) 2 rfl rfl ?_
    refine po_split (j := 22) rfl ?_ ?_
    · refine po_evs (T := tab) 4 rfl rfl ?_
      refine po_nil ?_
      refine pn_seq (pw_then rfl ?_)
      refine pw_seq ?_
      refine pw_region ?_
      refine po_evs (T := tab) 1 rfl rfl ?_
      refine po_nil ?_
      refine pn_seq ?_
      exact pw_retN (T := tab) rfl rfl rfl ⟨rfl, rfl⟩ trivial rfl
    · refine po_evs (T := tab) 1 rfl rfl ?_
      refine po_call (enc := fun (r5 : Bool) => .v (.bool r5)) (qs := [.agg (cForest f1)]) (Forest_Right_ok fu f1) rfl rfl ⟨⟨_, rfl, .rfl⟩, trivial⟩ (fun _ => rfl) call8 rfl rfl fun r5 hr5 => ?_
      refine po_evs (T := tab) 2 rfl rfl ?_
      refine po_nil ?_
      refine pn_seq ?_
      refine pw_cnd rfl ?_ ?_
      · refine pw_seq ?_
        refine pw_region ?_
        refine po_evs (T := tab) 1 rfl rfl ?_
        refine po_nil ?_
        refine pn_seq ?_
        exact pw_retN (T := tab) rfl rfl rfl ⟨rfl, rfl⟩ trivial rfl
      · refine pw_skip ?_
        refine pn_seq ?_
        refine pw_seq ?_
        refine pw_region ?_
        refine po_evs (T := tab) 1 rfl rfl ?_
        refine po_arith' (T := tab) rfl rfl rfl rfl fun i6 hi6 => ?_
        refine po_evs (T := tab) 2 rfl rfl ?_
        refine po_len (T := tab) cNode f1.Nodes rfl rfl rfl rfl rfl rfl rfl rfl ?_
        refine po_rem rfl rfl rfl rfl rfl rfl fun m7 hm7 => ?_
        refine po_evs (T := tab) 1 rfl rfl ?_
        refine po_nil ?_
        refine pn_seq ?_
        refine pw_seq ?_
        refine pw_region ?_
        refine po_evs (T := tab) 2 rfl rfl ?_
        refine po_call (enc := fun (r8 : (Bs × Int)) => .tup [.v (.string ⟨⟨r8.1⟩⟩), .v (.int .i64 r8.2)]) (qs := [.agg (cForest f1), .v (.int .i64 m7)]) (Print_Put_ok fu f1 m7) rfl rfl ⟨⟨_, rfl, .rfl⟩, ⟨_, rfl, .rfl⟩, trivial⟩ (fun _ => rfl) call11 rfl rfl fun r8 hr8 => ?_
        refine po_evs (T := tab) 5 rfl rfl ?_
        refine po_nil ?_
        refine pn_seq ?_
        refine pw_seq ?_
        refine pw_seq ?_
        refine pw_region ?_
        refine po_evs (T := tab) 3 rfl rfl ?_
        refine po_split (j := 41) rfl ?_ ?_
        · refine po_evs (T := tab) 4 rfl rfl ?_
          refine po_nil ?_
          refine pn_seq (pw_then rfl ?_)
          refine pw_seq ?_
          refine pw_region ?_
          refine po_evs (T := tab) 3 rfl rfl ?_
          refine po_nil ?_
          refine pn_seq ?_
          exact pw_retN (T := tab) rfl rfl rfl ⟨rfl, rfl⟩ trivial rfl
        · refine po_evs (T := tab) 4 rfl rfl ?_
          refine po_nil ?_
          refine pn_seq ?_
          refine pw_cnd rfl ?_ ?_
          · refine pw_seq ?_
            refine pw_region ?_
            refine po_evs (T := tab) 3 rfl rfl ?_
            refine po_nil ?_
            refine pn_seq ?_
            exact pw_retN (T := tab) rfl rfl rfl ⟨rfl, rfl⟩ trivial rfl
          · refine pw_skip ?_
            refine pn_seq ?_
            refine pw_seq ?_
            refine pw_region ?_
            refine po_evs (T := tab) 3 rfl rfl ?_
            refine po_idx (T := tab) cNode f1.Nodes rfl rfl rfl rfl rfl rfl rfl fun y9 hy9 => ?_
            refine po_evs (T := tab) 3 rfl rfl ?_
            refine po_nil ?_
            refine pn_seq ?_
            refine pw_seq ?_
            refine pw_region ?_
            refine po_evs (T := tab) 1 rfl rfl ?_
            refine po_store (T := tab) rfl rfl rfl rfl rfl rfl rfl rfl rfl rfl rfl rfl ?_
            refine po_nil ?_
            refine pn_seq ?_
            refine pw_seq ?_
            refine pw_sub' (E' := [(2, .loc 2 0), (5, .v (.int .i64 m7)), (6, .v (.string ⟨⟨r8.1⟩⟩)), (8, .v (.int .i64 y9.Kind))]) (S' := [(2, .box 24 [.sl 10 false (f1.Nodes.map cNode), .v (.int .i64 400)])]) ?_ ⟨rfl, rfl, rfl, rfl, trivial⟩ ⟨rfl, trivial⟩ rfl
            refine pw_drawV [0, 0, 2, 0, 14, 30, 62, 0, 255, 511, 1023, 1023, 1023, 0, 10239, 28671, 65535] mixed (by kernel_rfl) (by kernel_rfl) rfl rfl ?_
            refine pdv_step0 [4, 5] [112] [] [2] [2] [(56, .agg [.sl 10 false (f1.Nodes.map cNode), .v (.int .i64 400)])] [(2, .box 24 [.sl 10 false (f1.Nodes.map cNode), .v (.int .i64 400)])] rfl rfl rfl rfl (by kernel_rfl) (by kernel_rfl) (by kernel_rfl) ⟨rfl, trivial⟩ (fun w0 X X0 σ0 _ => by refine po_evs (T := tab) 1 rfl rfl ?_; refine po_nil ?_; exact pn_end0 ⟨rfl, trivial⟩ ⟨rfl, trivial⟩ rfl) ?_
            refine pdv_step0 [4] [114] [] [2] [] [(57, .loc 2 0)] [] rfl rfl rfl rfl (by kernel_rfl) (by kernel_rfl) (by kernel_rfl) trivial (fun w0 X X0 σ0 _ => by refine po_evs (T := tab) 1 rfl rfl ?_; refine po_nil ?_; exact pn_end0 ⟨rfl, trivial⟩ trivial rfl) ?_
            refine pdv_step0 [5, 114] [116] [] [2] [2] [(58, .sl 10 false (f1.Nodes.map cNode))] [(2, .box 24 [.sl 10 false (f1.Nodes.map cNode), .v (.int .i64 400)])] rfl rfl rfl rfl (by kernel_rfl) (by kernel_rfl) (by kernel_rfl) ⟨rfl, trivial⟩ (fun w0 X X0 σ0 _ => by refine po_evs (T := tab) 1 rfl rfl ?_; refine po_nil ?_; exact pn_end0 ⟨rfl, trivial⟩ ⟨rfl, trivial⟩ rfl) ?_
            refine pdv_step0 [10] [118] [] [] [] [(59, .v (.int .i64 m7))] [] rfl rfl rfl rfl (by kernel_rfl) (by kernel_rfl) (by kernel_rfl) trivial (fun w0 X X0 σ0 _ => by refine po_evs (T := tab) 1 rfl rfl ?_; refine po_nil ?_; exact pn_end0 ⟨rfl, trivial⟩ trivial rfl) ?_
            refine pdv_step (M := (idx f1.Nodes m7)) (ment := [(120, [])]) [116, 118] [120] [] [] [] (fun y10 => [(60, .el (cNode y10) 0)]) (fun y10 => []) rfl rfl (fun _ => rfl) (fun _ => rfl) (by kernel_rfl) (by kernel_rfl) (fun _ => by kernel_rfl) (fun _ => trivial) (fun w0 X X0 σ0 _ => by refine po_idx (T := tab) cNode f1.Nodes rfl rfl rfl rfl rfl rfl rfl fun y10 hy10 => ?_; refine po_nil ?_; exact pn_end ⟨rfl, trivial⟩ trivial rfl) fun y10 hy10 => ?_
            refine pdv_step0 [120] [122] [] [] [] [(61, .el (cNode y10) 9)] [] rfl rfl rfl rfl (by kernel_rfl) (by kernel_rfl) (by kernel_rfl) trivial (fun w0 X X0 σ0 _ => by refine po_evs (T := tab) 1 rfl rfl ?_; refine po_nil ?_; exact pn_end0 ⟨rfl, trivial⟩ trivial rfl) ?_
            refine pdv_step0 [122] [124] [] [] [] [(62, .v (.int .i64 y10.Doc))] [] rfl rfl rfl rfl (by kernel_rfl) (by kernel_rfl) (by kernel_rfl) trivial (fun w0 X X0 σ0 _ => by refine po_evs (T := tab) 1 rfl rfl ?_; refine po_nil ?_; exact pn_end0 ⟨rfl, trivial⟩ trivial rfl) ?_
            refine pdv_step0 [12] [126] [] [] [] [(63, .v (.string ⟨⟨r8.1⟩⟩))] [] rfl rfl rfl rfl (by kernel_rfl) (by kernel_rfl) (by kernel_rfl) trivial (fun w0 X X0 σ0 _ => by refine po_evs (T := tab) 1 rfl rfl ?_; refine po_nil ?_; exact pn_end0 ⟨rfl, trivial⟩ trivial rfl) ?_
            refine pdv_step (M := (Print_Read_m fu (⟨f1.Nodes, 400⟩ : Forest) y10.Doc r8.1)) (ment := [(128, [])]) [112, 124, 126] [128] [] [] [] (fun r11 => [(64, .tup [.agg (cForest r11.1), .v (.int .i64 r11.2.1), .v (.int .i64 r11.2.2)])]) (fun r11 => []) rfl rfl (fun _ => rfl) (fun _ => rfl) (by kernel_rfl) (by kernel_rfl) (fun _ => by kernel_rfl) (fun _ => trivial) (fun w0 X X0 σ0 _ => by refine po_call (enc := fun (r11 : (Forest × Int × Int)) => .tup [.agg (cForest r11.1), .v (.int .i64 r11.2.1), .v (.int .i64 r11.2.2)]) (qs := [.agg (cForest (⟨f1.Nodes, 400⟩ : Forest)), .v (.int .i64 y10.Doc), .v (.string ⟨⟨r8.1⟩⟩)]) (Print_Read_ok fu (⟨f1.Nodes, 400⟩ : Forest) y10.Doc r8.1) rfl rfl ⟨⟨_, rfl, .rfl⟩, ⟨_, rfl, .rfl⟩, ⟨_, rfl, .rfl⟩, trivial⟩ (fun _ => rfl) call9 rfl rfl fun r11 hr11 => ?_; refine po_nil ?_; exact pn_end ⟨rfl, trivial⟩ trivial rfl) fun r11 hr11 => ?_
            refine pdv_step0 [128] [110] [] [] [] [(55, .tup [.agg (cForest r11.1), .v (.int .i64 r11.2.1), .v (.int .i64 r11.2.2)])] [] rfl rfl rfl rfl (by kernel_rfl) (by kernel_rfl) (by kernel_rfl) trivial (fun w0 X X0 σ0 _ => by refine po_evs (T := tab) 1 rfl rfl ?_; refine po_nil ?_; exact pn_end0 ⟨rfl, trivial⟩ trivial rfl) ?_
            refine pdv_step0 [110] [130] [] [] [] [(65, .agg (cForest r11.1))] [] rfl rfl rfl rfl (by kernel_rfl) (by kernel_rfl) (by kernel_rfl) trivial (fun w0 X X0 σ0 _ => by refine po_evs (T := tab) 1 rfl rfl ?_; refine po_nil ?_; exact pn_end0 ⟨rfl, trivial⟩ trivial rfl) ?_
            refine pdv_step0 [110] [132] [] [] [] [(66, .v (.int .i64 r11.2.1))] [] rfl rfl rfl rfl (by kernel_rfl) (by kernel_rfl) (by kernel_rfl) trivial (fun w0 X X0 σ0 _ => by refine po_evs (T := tab) 1 rfl rfl ?_; refine po_nil ?_; exact pn_end0 ⟨rfl, trivial⟩ trivial rfl) ?_
            refine pdv_step0 [110] [134] [] [] [] [(67, .v (.int .i64 r11.2.2))] [] rfl rfl rfl rfl (by kernel_rfl) (by kernel_rfl) (by kernel_rfl) trivial (fun w0 X X0 σ0 _ => by refine po_evs (T := tab) 1 rfl rfl ?_; refine po_nil ?_; exact pn_end0 ⟨rfl, trivial⟩ trivial rfl) ?_
            refine pdv_step0 [] [18, 19] [9] [] [] [(9, .loc 9 0)] [(9, .box 24 [.v (.slice none 0 0), .v (.int .i64 0)])] rfl rfl rfl rfl (by kernel_rfl) (by kernel_rfl) (by kernel_rfl) trivial (fun w0 X X0 σ0 _ => by refine po_alloc (T := tab) 9 rfl rfl rfl rfl rfl rfl rfl rfl rfl ?_; refine po_nil ?_; exact pn_end0 ⟨rfl, trivial⟩ ⟨rfl, trivial⟩ rfl) ?_
            refine pdv_step0 [18, 19, 130] [19] [] [9] [] [] [(9, .box 24 [.sl 10 false (r11.1.Nodes.map cNode), .v (.int .i64 r11.1.Most)])] rfl rfl rfl rfl (by kernel_rfl) (by kernel_rfl) (by kernel_rfl) trivial (fun w0 X X0 σ0 _ => by refine po_store (T := tab) rfl rfl rfl rfl rfl rfl rfl rfl rfl rfl rfl rfl ?_; refine po_nil ?_; exact pn_end0 trivial ⟨rfl, trivial⟩ rfl) ?_
            refine pdv_step0 [132] [20] [] [] [] [(10, .v (.int .i64 r11.2.1))] [] rfl rfl rfl rfl (by kernel_rfl) (by kernel_rfl) (by kernel_rfl) trivial (fun w0 X X0 σ0 _ => by refine po_evs (T := tab) 1 rfl rfl ?_; refine po_nil ?_; exact pn_end0 ⟨rfl, trivial⟩ trivial rfl) ?_
            refine pdv_step0 [134] [22] [] [] [] [(11, .v (.int .i64 r11.2.2))] [] rfl rfl rfl rfl (by kernel_rfl) (by kernel_rfl) (by kernel_rfl) trivial (fun w0 X X0 σ0 _ => by refine po_evs (T := tab) 1 rfl rfl ?_; refine po_nil ?_; exact pn_end0 ⟨rfl, trivial⟩ trivial rfl) ?_
            refine pdv_nil rfl rfl ?_
            refine pn_seq ?_
            refine pw_seq ?_
            refine pw_seq ?_
            refine pw_region ?_
            refine po_evs (T := tab) 3 rfl rfl ?_
            refine po_split (j := 70) rfl ?_ ?_
            · refine po_evs (T := tab) 3 rfl rfl ?_
              refine po_nil ?_
              refine pn_seq (pw_then rfl ?_)
              refine pw_seq ?_
              refine pw_region ?_
              refine po_evs (T := tab) 3 rfl rfl ?_
              refine po_split (j := 76) rfl ?_ ?_
              · refine po_evs (T := tab) 4 rfl rfl ?_
                refine po_nil ?_
                refine pn_seq ?_
                exact pw_retN (T := tab) rfl rfl rfl ⟨rfl, rfl⟩ trivial rfl
              · refine po_evs (T := tab) 4 rfl rfl ?_
                refine po_nil ?_
                refine pn_seq ?_
                exact pw_retN (T := tab) rfl rfl rfl ⟨rfl, rfl⟩ trivial rfl
            · refine po_evs (T := tab) 3 rfl rfl ?_
              refine po_nil ?_
              refine pn_seq ?_
              refine pw_cnd rfl ?_ ?_
              · refine pw_seq ?_
                refine pw_region ?_
                refine po_evs (T := tab) 3 rfl rfl ?_
                refine po_split (j := 76) rfl ?_ ?_
                · refine po_evs (T := tab) 4 rfl rfl ?_
                  refine po_nil ?_
                  refine pn_seq ?_
                  exact pw_retN (T := tab) rfl rfl rfl ⟨rfl, rfl⟩ trivial rfl
                · refine po_evs (T := tab) 4 rfl rfl ?_
                  refine po_nil ?_
                  refine pn_seq ?_
                  exact pw_retN (T := tab) rfl rfl rfl ⟨rfl, rfl⟩ trivial rfl
              · refine pw_skip ?_
                refine pn_seq ?_
                refine pw_seq ?_
                refine pw_region ?_
                refine po_evs (T := tab) 2 rfl rfl ?_
                refine po_call (enc := fun (r12 : (Bs × Int)) => .tup [.v (.string ⟨⟨r12.1⟩⟩), .v (.int .i64 r12.2)]) (qs := [.agg (cForest r11.1), .v (.int .i64 r11.2.1)]) (Print_Put_ok fu r11.1 r11.2.1) rfl rfl ⟨⟨_, rfl, .rfl⟩, ⟨_, rfl, .rfl⟩, trivial⟩ (fun _ => rfl) call11 rfl rfl fun r12 hr12 => ?_
                refine po_evs (T := tab) 5 rfl rfl ?_
                refine po_nil ?_
                refine pn_seq ?_
                refine pw_seq ?_
                refine pw_seq ?_
                refine pw_region ?_
                refine po_evs (T := tab) 3 rfl rfl ?_
                refine po_split (j := 88) rfl ?_ ?_
                · refine po_evs (T := tab) 27 rfl rfl ?_
                  refine po_nil ?_
                  refine pn_seq (pw_then rfl ?_)
                  refine pw_seq ?_
                  refine pw_region ?_
                  refine po_evs (T := tab) 1 rfl rfl ?_
                  refine po_nil ?_
                  refine pn_seq ?_
                  exact pw_retN (T := tab) rfl rfl rfl ⟨rfl, rfl⟩ trivial rfl
                · refine po_evs (T := tab) 4 rfl rfl ?_
                  refine po_split (j := 92) rfl ?_ ?_
                  · refine po_evs (T := tab) 23 rfl rfl ?_
                    refine po_nil ?_
                    refine pn_seq (pw_then rfl ?_)
                    refine pw_seq ?_
                    refine pw_region ?_
                    refine po_evs (T := tab) 1 rfl rfl ?_
                    refine po_nil ?_
                    refine pn_seq ?_
                    exact pw_retN (T := tab) rfl rfl rfl ⟨rfl, rfl⟩ trivial rfl
                  · refine po_evs (T := tab) 5 rfl rfl ?_
                    refine po_split (j := 97) rfl ?_ ?_
                    · refine po_evs (T := tab) 18 rfl rfl ?_
                      refine po_nil ?_
                      refine pn_seq (pw_then rfl ?_)
                      refine pw_seq ?_
                      refine pw_region ?_
                      refine po_evs (T := tab) 1 rfl rfl ?_
                      refine po_nil ?_
                      refine pn_seq ?_
                      exact pw_retN (T := tab) rfl rfl rfl ⟨rfl, rfl⟩ trivial rfl
                    · refine po_evs (T := tab) 1 rfl rfl ?_
                      refine po_call (enc := fun (r13 : Bool) => .v (.bool r13)) (qs := [.agg (cForest r11.1)]) (Forest_Right_ok fu r11.1) rfl rfl ⟨⟨_, rfl, .rfl⟩, trivial⟩ (fun _ => rfl) call8 rfl rfl fun r13 hr13 => ?_
                      refine po_evs (T := tab) 3 rfl rfl ?_
                      refine po_split (j := 102) rfl ?_ ?_
                      · refine po_evs (T := tab) 13 rfl rfl ?_
                        refine po_nil ?_
                        refine pn_seq (pw_then rfl ?_)
                        refine pw_seq ?_
                        refine pw_region ?_
                        refine po_evs (T := tab) 1 rfl rfl ?_
                        refine po_nil ?_
                        refine pn_seq ?_
                        exact pw_retN (T := tab) rfl rfl rfl ⟨rfl, rfl⟩ trivial rfl
                      · refine po_evs (T := tab) 3 rfl rfl ?_
                        refine po_len (T := tab) cNode f1.Nodes rfl rfl rfl rfl rfl rfl rfl rfl ?_
                        refine po_evs (T := tab) 3 rfl rfl ?_
                        refine po_split (j := 109) rfl ?_ ?_
                        · refine po_evs (T := tab) 6 rfl rfl ?_
                          refine po_nil ?_
                          refine pn_seq (pw_then rfl ?_)
                          refine pw_seq ?_
                          refine pw_region ?_
                          refine po_evs (T := tab) 1 rfl rfl ?_
                          refine po_nil ?_
                          refine pn_seq ?_
                          exact pw_retN (T := tab) rfl rfl rfl ⟨rfl, rfl⟩ trivial rfl
                        · refine po_evs (T := tab) 3 rfl rfl ?_
                          refine po_call (enc := fun (r14 : Bool) => .v (.bool r14)) (qs := [.agg (cForest r11.1), .v (.int .i64 m7), .v (.int .i64 r11.2.1)]) (Twin_Alike_ok fu r11.1 m7 r11.2.1) rfl rfl ⟨⟨_, rfl, .rfl⟩, ⟨_, rfl, .rfl⟩, ⟨_, rfl, .rfl⟩, trivial⟩ (fun _ => rfl) call14 rfl rfl fun r14 hr14 => ?_
                          refine po_evs (T := tab) 2 rfl rfl ?_
                          refine po_nil ?_
                          refine pn_seq ?_
                          refine pw_cnd rfl ?_ ?_
                          · refine pw_seq ?_
                            refine pw_region ?_
                            refine po_evs (T := tab) 1 rfl rfl ?_
                            refine po_nil ?_
                            refine pn_seq ?_
                            exact pw_retN (T := tab) rfl rfl rfl ⟨rfl, rfl⟩ trivial rfl
                          · refine pw_skip ?_
                            refine pn_seq ?_
                            refine pw_seq ?_
                            refine pw_sub' (E' := [(5, .v (.int .i64 m7)), (9, .loc 9 0), (10, .v (.int .i64 r11.2.1))]) (S' := [(9, .box 24 [.sl 10 false (r11.1.Nodes.map cNode), .v (.int .i64 r11.1.Most)])]) ?_ ⟨rfl, rfl, rfl, trivial⟩ ⟨rfl, trivial⟩ rfl
                            refine pw_drawV [0, 0, 3, 0, 0, 31, 63, 127] mixed (by kernel_rfl) (by kernel_rfl) rfl rfl ?_
                            refine pdv_step0 [18, 19] [232] [] [9] [9] [(116, .agg (cForest r11.1))] [(9, .box 24 [.sl 10 false (r11.1.Nodes.map cNode), .v (.int .i64 r11.1.Most)])] rfl rfl rfl rfl (by kernel_rfl) (by kernel_rfl) (by kernel_rfl) ⟨rfl, trivial⟩ (fun w0 X X0 σ0 _ => by refine po_evs (T := tab) 1 rfl rfl ?_; refine po_nil ?_; exact pn_end0 ⟨rfl, trivial⟩ ⟨rfl, trivial⟩ rfl) ?_
                            refine pdv_step0 [10] [234] [] [] [] [(117, .v (.int .i64 m7))] [] rfl rfl rfl rfl (by kernel_rfl) (by kernel_rfl) (by kernel_rfl) trivial (fun w0 X X0 σ0 _ => by refine po_evs (T := tab) 1 rfl rfl ?_; refine po_nil ?_; exact pn_end0 ⟨rfl, trivial⟩ trivial rfl) ?_
                            refine pdv_step (M := (Shade_All_m fu r11.1 m7)) (ment := [(236, []), (6361, [])]) [232, 234] [236, 6361] [3180] [] [] (fun r15 => [(118, .sl 1 false (r15.map cInt_i64))]) (fun r15 => []) rfl rfl (fun _ => rfl) (fun _ => rfl) (by kernel_rfl) (by kernel_rfl) (fun _ => by kernel_rfl) (fun _ => trivial) (fun w0 X X0 σ0 _ => by refine po_turn [3180] (enc := fun (r15 : (List Int)) => .own 3180) (Sr := fun (r15 : (List Int)) => [(3180, .arr 3 1 (r15.map cInt_i64))]) (first := []) (cap := []) (qs := [.agg (cForest r11.1), .v (.int .i64 m7)]) (Sc := []) (N0 := []) (NR := [3180]) (fun r15 hr15 => fc_ren [(1035, 3180)] [1035] (Shade_All_ok fu r11.1 m7 _ hr15) rfl rfl rfl rfl rfl rfl) trivial (fun _ => rfl) rfl rfl rfl rfl rfl rfl rfl (fun _ => rfl) (fun _ => rfl) rfl rfl rfl ⟨⟨_, rfl, .rfl⟩, ⟨_, rfl, .rfl⟩, trivial⟩ call15 rfl rfl fun r15 hr15 => ?_; refine po_freeze 3180 rfl rfl rfl ?_; refine po_nil ?_; exact pn_end ⟨rfl, trivial⟩ trivial rfl) fun r15 hr15 => ?_
                            refine pdv_step0 [18, 19] [238] [] [9] [9] [(119, .agg (cForest r11.1))] [(9, .box 24 [.sl 10 false (r11.1.Nodes.map cNode), .v (.int .i64 r11.1.Most)])] rfl rfl rfl rfl (by kernel_rfl) (by kernel_rfl) (by kernel_rfl) ⟨rfl, trivial⟩ (fun w0 X X0 σ0 _ => by refine po_evs (T := tab) 1 rfl rfl ?_; refine po_nil ?_; exact pn_end0 ⟨rfl, trivial⟩ ⟨rfl, trivial⟩ rfl) ?_
                            refine pdv_step0 [20] [240] [] [] [] [(120, .v (.int .i64 r11.2.1))] [] rfl rfl rfl rfl (by kernel_rfl) (by kernel_rfl) (by kernel_rfl) trivial (fun w0 X X0 σ0 _ => by refine po_evs (T := tab) 1 rfl rfl ?_; refine po_nil ?_; exact pn_end0 ⟨rfl, trivial⟩ trivial rfl) ?_
                            refine pdv_step (M := (Shade_All_m fu r11.1 r11.2.1)) (ment := [(242, []), (6421, [])]) [238, 240] [242, 6421] [3210] [] [] (fun r16 => [(121, .sl 1 false (r16.map cInt_i64))]) (fun r16 => []) rfl rfl (fun _ => rfl) (fun _ => rfl) (by kernel_rfl) (by kernel_rfl) (fun _ => by kernel_rfl) (fun _ => trivial) (fun w0 X X0 σ0 _ => by refine po_turn [3210] (enc := fun (r16 : (List Int)) => .own 3210) (Sr := fun (r16 : (List Int)) => [(3210, .arr 3 1 (r16.map cInt_i64))]) (first := []) (cap := []) (qs := [.agg (cForest r11.1), .v (.int .i64 r11.2.1)]) (Sc := []) (N0 := []) (NR := [3210]) (fun r16 hr16 => fc_ren [(1035, 3210)] [1035] (Shade_All_ok fu r11.1 r11.2.1 _ hr16) rfl rfl rfl rfl rfl rfl) trivial (fun _ => rfl) rfl rfl rfl rfl rfl rfl rfl (fun _ => rfl) (fun _ => rfl) rfl rfl rfl ⟨⟨_, rfl, .rfl⟩, ⟨_, rfl, .rfl⟩, trivial⟩ call15 rfl rfl fun r16 hr16 => ?_; refine po_freeze 3210 rfl rfl rfl ?_; refine po_nil ?_; exact pn_end ⟨rfl, trivial⟩ trivial rfl) fun r16 hr16 => ?_
                            refine pdv_step0 [236] [28] [] [] [] [(14, .sl 1 false (r15.map cInt_i64))] [] rfl rfl rfl rfl (by kernel_rfl) (by kernel_rfl) (by kernel_rfl) trivial (fun w0 X X0 σ0 _ => by refine po_evs (T := tab) 1 rfl rfl ?_; refine po_nil ?_; exact pn_end0 ⟨rfl, trivial⟩ trivial rfl) ?_
                            refine pdv_step0 [242] [30] [] [] [] [(15, .sl 1 false (r16.map cInt_i64))] [] rfl rfl rfl rfl (by kernel_rfl) (by kernel_rfl) (by kernel_rfl) trivial (fun w0 X X0 σ0 _ => by refine po_evs (T := tab) 1 rfl rfl ?_; refine po_nil ?_; exact pn_end0 ⟨rfl, trivial⟩ trivial rfl) ?_
                            refine pdv_nil rfl rfl ?_
                            refine pn_seq ?_
                            refine pw_seq ?_
                            refine pw_seq ?_
                            refine pw_region ?_
                            refine po_evs (T := tab) 1 rfl rfl ?_
                            refine po_len (T := tab) cInt_i64 r15 rfl rfl rfl rfl rfl rfl rfl rfl ?_
                            refine po_evs (T := tab) 1 rfl rfl ?_
                            refine po_len (T := tab) cInt_i64 r16 rfl rfl rfl rfl rfl rfl rfl rfl ?_
                            refine po_evs (T := tab) 1 rfl rfl ?_
                            refine po_nil ?_
                            refine pn_seq ?_
                            refine pw_cnd rfl ?_ ?_
                            · refine pw_seq ?_
                              refine pw_region ?_
                              refine po_evs (T := tab) 1 rfl rfl ?_
                              refine po_nil ?_
                              refine pn_seq ?_
                              exact pw_retN (T := tab) rfl rfl rfl ⟨rfl, rfl⟩ trivial rfl
                            · refine pw_skip ?_
                              refine pn_seq ?_
                              refine pw_seq ?_
                              refine pw_seq ?_
                              refine pw_region ?_
                              refine po_evs (T := tab) 1 rfl rfl ?_
                              refine po_nil ?_
                              refine pn_seq ?_
                              refine pw_block ?_
                              refine pw_loop' (Instarlaw08_PrintBack_l1 r11 r15 r16) (fun (k17 : Int) => [(9, .loc 9 0), (10, .v (.int .i64 r11.2.1)), (14, .sl 1 false (r15.map cInt_i64)), (15, .sl 1 false (r16.map cInt_i64)), (16, .v (.int .i64 k17))]) (fun (k17 : Int) => [(9, .box 24 [.sl 10 false (r11.1.Nodes.map cNode), .v (.int .i64 r11.1.Most)])]) fu 0 (fun _ => rfl) ⟨rfl, rfl, rfl, rfl, rfl, trivial⟩ ⟨rfl, trivial⟩ rfl ?_
                              rintro k1 k17
                              refine pw_seq ?_
                              refine pw_seq ?_
                              refine pw_region ?_
                              refine po_evs (T := tab) 2 rfl rfl ?_
                              refine po_len (T := tab) cInt_i64 r16 rfl rfl rfl rfl rfl rfl rfl rfl ?_
                              refine po_evs (T := tab) 1 rfl rfl ?_
                              refine po_nil ?_
                              refine pn_seq ?_
                              refine pw_cnd rfl ?_ ?_
                              · refine pw_skip ?_
                                refine pn_seq ?_
                                refine pw_seq ?_
                                refine pw_block ?_
                                refine pw_seq ?_
                                refine pw_draw mixed (by kernel_rfl) ?_
                                refine pd_evs (T := tab) 2 rfl rfl ?_
                                refine pd_idx (T := tab) cInt_i64 r16 rfl rfl rfl rfl rfl rfl rfl fun y18 hy18 => ?_
                                refine pd_evs (T := tab) 3 rfl rfl ?_
                                refine pd_arith (T := tab) rfl rfl rfl rfl fun i19 hi19 => ?_
                                refine pd_evs (T := tab) 2 rfl rfl ?_
                                refine pd_split (j := 141) rfl ?_ ?_
                                · refine pd_evs (T := tab) 62 rfl rfl ?_
                                  refine pd_nil ?_
                                  refine pn_seq (pw_then rfl ?_)
                                  refine pw_seq ?_
                                  refine pw_region ?_
                                  refine po_evs (T := tab) 1 rfl rfl ?_
                                  refine po_nil ?_
                                  refine pn_seq ?_
                                  exact pw_retN (T := tab) rfl rfl rfl ⟨rfl, rfl⟩ trivial rfl
                                · refine pd_evs (T := tab) 4 rfl rfl ?_
                                  refine pd_idx (T := tab) cInt_i64 r15 rfl rfl rfl rfl rfl rfl rfl fun y20 hy20 => ?_
                                  refine pd_evs (T := tab) 1 rfl rfl ?_
                                  refine pd_idx (T := tab) cNode r11.1.Nodes rfl rfl rfl rfl rfl rfl rfl fun y21 hy21 => ?_
                                  refine pd_evs (T := tab) 6 rfl rfl ?_
                                  refine pd_idx (T := tab) cInt_i64 r16 rfl rfl rfl rfl rfl rfl rfl fun y22 hy22 => ?_
                                  refine pd_evs (T := tab) 1 rfl rfl ?_
                                  refine pd_idx (T := tab) cNode r11.1.Nodes rfl rfl rfl rfl rfl rfl rfl fun y23 hy23 => ?_
                                  refine pd_evs (T := tab) 5 rfl rfl ?_
                                  refine pd_split (j := 162) rfl ?_ ?_
                                  · refine pd_evs (T := tab) 41 rfl rfl ?_
                                    refine pd_nil ?_
                                    refine pn_seq (pw_then rfl ?_)
                                    refine pw_seq ?_
                                    refine pw_region ?_
                                    refine po_evs (T := tab) 1 rfl rfl ?_
                                    refine po_nil ?_
                                    refine pn_seq ?_
                                    exact pw_retN (T := tab) rfl rfl rfl ⟨rfl, rfl⟩ trivial rfl
                                  · refine pd_evs (T := tab) 4 rfl rfl ?_
                                    refine pd_idx (T := tab) cInt_i64 r15 rfl rfl rfl rfl rfl rfl rfl fun y24 hy24 => ?_
                                    refine pd_evs (T := tab) 1 rfl rfl ?_
                                    refine pd_idx (T := tab) cNode r11.1.Nodes rfl rfl rfl rfl rfl rfl rfl fun y25 hy25 => ?_
                                    refine pd_evs (T := tab) 6 rfl rfl ?_
                                    refine pd_idx (T := tab) cInt_i64 r16 rfl rfl rfl rfl rfl rfl rfl fun y26 hy26 => ?_
                                    refine pd_evs (T := tab) 1 rfl rfl ?_
                                    refine pd_idx (T := tab) cNode r11.1.Nodes rfl rfl rfl rfl rfl rfl rfl fun y27 hy27 => ?_
                                    refine pd_evs (T := tab) 5 rfl rfl ?_
                                    refine pd_split (j := 183) rfl ?_ ?_
                                    · refine pd_evs (T := tab) 20 rfl rfl ?_
                                      refine pd_nil ?_
                                      refine pn_seq (pw_then rfl ?_)
                                      refine pw_seq ?_
                                      refine pw_region ?_
                                      refine po_evs (T := tab) 1 rfl rfl ?_
                                      refine po_nil ?_
                                      refine pn_seq ?_
                                      exact pw_retN (T := tab) rfl rfl rfl ⟨rfl, rfl⟩ trivial rfl
                                    · refine pd_evs (T := tab) 4 rfl rfl ?_
                                      refine pd_idx (T := tab) cInt_i64 r15 rfl rfl rfl rfl rfl rfl rfl fun y28 hy28 => ?_
                                      refine pd_evs (T := tab) 1 rfl rfl ?_
                                      refine pd_idx (T := tab) cNode r11.1.Nodes rfl rfl rfl rfl rfl rfl rfl fun y29 hy29 => ?_
                                      refine pd_evs (T := tab) 6 rfl rfl ?_
                                      refine pd_idx (T := tab) cInt_i64 r16 rfl rfl rfl rfl rfl rfl rfl fun y30 hy30 => ?_
                                      refine pd_evs (T := tab) 1 rfl rfl ?_
                                      refine pd_idx (T := tab) cNode r11.1.Nodes rfl rfl rfl rfl rfl rfl rfl fun y31 hy31 => ?_
                                      refine pd_evs (T := tab) 4 rfl rfl ?_
                                      refine pd_nil ?_
                                      refine pn_seq ?_
                                      refine pw_cnd rfl ?_ ?_
                                      · refine pw_seq ?_
                                        refine pw_region ?_
                                        refine po_evs (T := tab) 1 rfl rfl ?_
                                        refine po_nil ?_
                                        refine pn_seq ?_
                                        exact pw_retN (T := tab) rfl rfl rfl ⟨rfl, rfl⟩ trivial rfl
                                      · refine pw_skip ?_
                                        refine pn_block ?_
                                        refine pn_seq ?_
                                        refine pw_region ?_
                                        refine po_evs (T := tab) 1 rfl rfl ?_
                                        refine po_arith' (T := tab) rfl rfl rfl rfl fun i32 hi32 => ?_
                                        refine po_evs (T := tab) 1 rfl rfl ?_
                                        refine po_nil ?_
                                        exact pn_iter' i32 ⟨rfl, rfl, rfl, rfl, rfl, trivial⟩ ⟨rfl, trivial⟩ rfl
                              · refine pw_exit rfl ?_
                                refine pn_seq ?_
                                refine pw_seq ?_
                                refine pw_region ?_
                                refine po_evs (T := tab) 1 rfl rfl ?_
                                refine po_nil ?_
                                refine pn_seq ?_
                                exact pw_retN (T := tab) rfl rfl rfl ⟨rfl, rfl⟩ trivial rfl

end Go.Proofs.YtkngnghbnhgfjaaGreat
