/- Models and proofs, printed by emit2.py. -/
import Derived.Test.YtcaepigodglihaaG1
namespace Go.Proofs.Ytcaepigodglihaa
open Go Go.Pw
set_option linter.unusedVariables false

set_option maxRecDepth 100000 in
theorem Slices_ContainsFunc_int_i2_ok (fu : Nat) (s1 : (List Int)) (c2 : Forest) : ∀ r, Slices_ContainsFunc_int_m fu (fun (z1 : Int) => Shade_there_1_m fu z1 c2) s1 = some r → FC Try.prog 94 [.sl 1 false (s1.map cInt_i64), .fn (.func 97) [] [.loc 900000 0]] [(900000, .box [.sl 10 false (c2.Nodes.map cNode), .v (.int .i64 c2.Most)])] [900000] fun p S' => p = .v (.bool r) ∧ S' = [(900000, .box [.sl 10 false (c2.Nodes.map cNode), .v (.int .i64 c2.Most)])] := by
  intro r hr
  refine fc_intro (args := [.sl 1 false (s1.map cInt_i64), .fn (.func 97) [] [.loc 900000 0]]) (S := [(900000, .box [.sl 10 false (c2.Nodes.map cNode), .v (.int .i64 c2.Most)])]) (N0 := [900000]) (post := fun r p S => p = .v (.bool r) ∧ S = [(900000, .box [.sl 10 false (c2.Nodes.map cNode), .v (.int .i64 c2.Most)])]) Try.func94 rfl rfl hr fun w0 X X0 σ0 => ?_
  refine pw_seq ?_
  refine pw_region ?_
  refine po_evs (T := tab) 1 rfl rfl ?_
  refine po_nil ?_
  refine pn_seq ?_
  refine pw_seq ?_
  refine pw_region ?_
  refine po_evs (T := tab) 2 rfl rfl ?_
  refine po_callv (enc := fun (r3 : Int) => .v (.int .i64 r3)) (first := []) (cap := []) (qs := [.sl 1 false (s1.map cInt_i64), .fn (.func 97) [] [.loc 900000 0]]) (Sc := [(900000, .box [.sl 10 false (c2.Nodes.map cNode), .v (.int .i64 c2.Most)])]) (fun r3 hr3 => fc_ren [(900000, 900000)] [900000] (Slices_IndexFunc_int_i2_ok fu s1 c2 _ hr3) rfl rfl rfl rfl rfl rfl) (subS_of ⟨rfl, trivial⟩ rfl) rfl rfl rfl rfl ⟨⟨_, rfl, .rfl⟩, ⟨_, rfl, .rfl⟩, trivial⟩ (fun _ => rfl) call105 rfl rfl fun r3 hr3 => ?_
  refine po_evs (T := tab) 2 rfl rfl ?_
  refine po_nil ?_
  refine pn_seq ?_
  exact pw_retN (T := tab) rfl rfl rfl ⟨rfl, rfl⟩ ⟨rfl, trivial⟩ rfl

def Shade_there_m (fu : Nat) (f1 : Forest) (l2 : (List Int)) : Option Bool := bnd (Forest_Right_m fu f1) fun r3 => cnd r3 (bnd (Slices_ContainsFunc_int_m fu (fun (z1 : Int) => Shade_there_1_m fu z1 f1) l2) fun r4 => some (!r4)) (some false)

set_option maxRecDepth 100000 in
theorem Shade_there_ok (fu : Nat) (f1 : Forest) (l2 : (List Int)) : ∀ r, Shade_there_m fu f1 l2 = some r → DC Try.prog 69 [.agg (cForest f1), .sl 1 false (l2.map cInt_i64)] (.v (.bool r)) := by
  intro r hr
  refine fc_intro (args := [.agg (cForest f1), .sl 1 false (l2.map cInt_i64)]) (S := []) (N0 := []) (post := fun r p S => p = .v (.bool r) ∧ S = []) Try.func69 rfl rfl hr fun w0 X X0 σ0 => ?_
  refine pw_seq ?_
  refine pw_region ?_
  refine po_box  2 rfl rfl rfl rfl rfl rfl rfl rfl rfl rfl ?_
  refine po_evs (T := tab) 1 rfl rfl ?_
  refine po_nil ?_
  refine pn_seq ?_
  refine pw_seq ?_
  refine pw_region ?_
  refine po_evs (T := tab) 2 rfl rfl ?_
  refine po_nil ?_
  refine pn_seq ?_
  refine pw_seq ?_
  refine pw_region ?_
  refine po_evs (T := tab) 1 rfl rfl ?_
  refine po_call (enc := fun (r3 : Bool) => .v (.bool r3)) (qs := [.agg (cForest f1)]) (Forest_Right_ok fu f1) rfl rfl ⟨⟨_, rfl, .rfl⟩, trivial⟩ (fun _ => rfl) call19 rfl rfl fun r3 hr3 => ?_
  refine po_evs (T := tab) 1 rfl rfl ?_
  refine po_split (j := 9) rfl ?_ ?_
  · refine po_evs (T := tab) 2 rfl rfl ?_
    refine po_callv (enc := fun (r4 : Bool) => .v (.bool r4)) (first := []) (cap := []) (qs := [.sl 1 false (l2.map cInt_i64), .fn (.func 97) [] [.loc 2 0]]) (Sc := [(2, .box [.sl 10 false (f1.Nodes.map cNode), .v (.int .i64 f1.Most)])]) (fun r4 hr4 => fc_ren [(900000, 2)] [900000] (Slices_ContainsFunc_int_i2_ok fu l2 f1 _ hr4) rfl rfl rfl rfl rfl rfl) (subS_of ⟨rfl, trivial⟩ rfl) rfl rfl rfl rfl ⟨⟨_, rfl, .rfl⟩, ⟨_, rfl, .rfl⟩, trivial⟩ (fun _ => rfl) call94 rfl rfl fun r4 hr4 => ?_
    refine po_evs (T := tab) 3 rfl rfl ?_
    refine po_nil ?_
    refine pn_seq ?_
    exact pw_retN (T := tab) rfl rfl rfl ⟨rfl, rfl⟩ trivial rfl
  · refine po_evs (T := tab) 6 rfl rfl ?_
    refine po_nil ?_
    refine pn_seq ?_
    exact pw_retN (T := tab) rfl rfl rfl ⟨rfl, rfl⟩ trivial rfl

def Shade_hosts_m (_fu : Nat) : Option (List Bs) := some [[100, 105, 118], [112], [115, 112, 97, 110]]

set_option maxRecDepth 100000 in
theorem Shade_hosts_ok (fu : Nat) : ∀ r, Shade_hosts_m fu = some r → DC Try.prog 72 [] (.sl 1 false (r.map cStr)) := by
  intro r hr
  refine fc_intro (args := []) (S := []) (N0 := []) (post := fun r p S => p = .sl 1 false (r.map cStr) ∧ S = []) Try.func72 rfl rfl hr fun w0 X X0 σ0 => ?_
  refine pw_seq ?_
  refine pw_region ?_
  refine po_evs (T := tab) 1 rfl rfl ?_
  refine po_nil ?_
  refine pn_seq ?_
  refine pw_seq ?_
  refine pw_region ?_
  refine po_lit (T := tab) (rows := [[100, 105, 118], [112], [115, 112, 97, 110]].map cStr) 1 rfl rfl rfl rfl rfl rfl rfl rfl rfl rfl rfl rfl rfl rfl ?_
  refine po_evs (T := tab) 1 rfl rfl ?_
  refine po_nil ?_
  refine pn_seq ?_
  refine pw_freeze 1 rfl rfl rfl ?_
  exact pw_retN (T := tab) rfl rfl rfl ⟨rfl, rfl⟩ trivial rfl

def Shade_Attach_j1 (fu : Nat) (f1 : Forest) (n2 : Int) (y4 : Node) (x_ : Unit) : Option (Forest × Int × Int) := cnd (y4.Under != (-1)) (some (f1, (-1), 10)) (cnd (((f1.Nodes.length : Nat) : Int) == f1.Most) (some (f1, (-1), 8)) (bnd (Slices_Clone_apiNode_m fu f1.Nodes) fun r8 => bnd (roomy 136 (r8.length + ([(⟨4, [], [], [], [], (-1), [], n2, (-1), y4.Doc⟩ : Node)] : List Node).length)) fun _ => bnd (idx (r8 ++ [(⟨4, [], [], [], [], (-1), [], n2, (-1), y4.Doc⟩ : Node)]) n2) fun y9 => some ((⟨((r8 ++ [(⟨4, [], [], [], [], (-1), [], n2, (-1), y4.Doc⟩ : Node)]).set (n2).toNat (⟨y9.Kind, y9.Name, y9.Is, y9.Data, y9.Attrs, y9.Parent, y9.Kids, y9.Host, ((f1.Nodes.length : Nat) : Int), y9.Doc⟩ : Node)), f1.Most⟩ : Forest), ((f1.Nodes.length : Nat) : Int), 0)))

def Shade_Attach_m (fu : Nat) (f1 : Forest) (n2 : Int) : Option (Forest × Int × Int) := bnd (Shade_there_m fu f1 [n2]) fun r3 => cnd (!r3) (some (f1, (-1), 1)) (bnd (idx f1.Nodes n2) fun y4 => cnd (y4.Kind != 1) (some (f1, (-1), 5)) (bnd (Name_Custom_m fu y4.Name) fun r5 => cnd (!r5) (bnd (Shade_hosts_m fu) fun r6 => bnd (Slices_Contains_string_m fu r6 y4.Name) fun r7 => cnd (!r7) (some (f1, (-1), 5)) ((Shade_Attach_j1 fu f1 n2 y4) ())) ((Shade_Attach_j1 fu f1 n2 y4) ())))

set_option maxHeartbeats 10000000 in
set_option maxRecDepth 100000 in
theorem Shade_Attach_ok (fu : Nat) (f1 : Forest) (n2 : Int) : ∀ r, Shade_Attach_m fu f1 n2 = some r → DC Try.prog 38 [.agg (cForest f1), .v (.int .i64 n2)] (.tup [.agg (cForest r.1), .v (.int .i64 r.2.1), .v (.int .i64 r.2.2)]) := by
  intro r hr
  refine fc_intro (args := [.agg (cForest f1), .v (.int .i64 n2)]) (S := []) (N0 := []) (post := fun r p S => p = .tup [.agg (cForest r.1), .v (.int .i64 r.2.1), .v (.int .i64 r.2.2)] ∧ S = []) Try.func38 rfl rfl hr fun w0 X X0 σ0 => ?_
  refine pw_seq ?_
  refine pw_region ?_
  refine po_box  2 rfl rfl rfl rfl rfl rfl rfl rfl rfl rfl ?_
  refine po_alloc (T := tab) 4 rfl rfl rfl rfl rfl rfl rfl rfl rfl ?_
  refine po_evs (T := tab) 2 rfl rfl ?_
  refine po_nil ?_
  refine pn_seq ?_
  refine pw_seq ?_
  refine pw_seq ?_
  refine pw_region ?_
  refine po_evs (T := tab) 2 rfl rfl ?_
  refine po_lit (T := tab) (rows := [n2].map cInt_i64) 11 rfl rfl rfl rfl rfl rfl rfl rfl rfl rfl rfl rfl rfl rfl ?_
  refine po_freeze 11 rfl rfl rfl ?_
  refine po_call (enc := fun (r3 : Bool) => .v (.bool r3)) (qs := [.agg (cForest f1), .sl 1 false ([n2].map cInt_i64)]) (Shade_there_ok fu f1 [n2]) rfl rfl ⟨⟨_, rfl, .rfl⟩, ⟨_, rfl, .rfl⟩, trivial⟩ (fun _ => rfl) call69 rfl rfl fun r3 hr3 => ?_
  refine po_evs (T := tab) 1 rfl rfl ?_
  refine po_nil ?_
  refine pn_seq ?_
  refine pw_cnd rfl ?_ ?_
  · refine pw_seq ?_
    refine pw_region ?_
    refine po_evs (T := tab) 1 rfl rfl ?_
    refine po_store (T := tab) rfl rfl rfl rfl rfl rfl rfl rfl rfl rfl rfl rfl ?_
    refine po_evs (T := tab) 2 rfl rfl ?_
    refine po_nil ?_
    refine pn_seq ?_
    exact pw_retN (T := tab) rfl rfl rfl ⟨rfl, rfl⟩ trivial rfl
  · refine pw_skip ?_
    refine pn_seq ?_
    refine pw_seq ?_
    refine pw_region ?_
    refine po_evs (T := tab) 3 rfl rfl ?_
    refine po_idx (T := tab) cNode f1.Nodes rfl rfl rfl rfl rfl rfl rfl fun y4 hy4 => ?_
    refine po_evs (T := tab) 1 rfl rfl ?_
    refine po_alloc (T := tab) 7 rfl rfl rfl rfl rfl rfl rfl rfl rfl ?_
    refine po_store (T := tab) rfl rfl rfl rfl rfl rfl rfl rfl rfl rfl rfl rfl ?_
    refine po_nil ?_
    refine pn_seq ?_
    refine pw_seq ?_
    refine pw_block ?_
    refine pw_seq ?_
    refine pw_draw mixed (by kernel_rfl) ?_
    refine pd_joinY (Shade_Attach_j1 fu f1 n2 y4) (fun (_ : Unit) => [(1, .v (.int .i64 n2)), (2, .loc 2 0), (4, .loc 4 0), (7, .loc 7 0)]) (fun (_ : Unit) => [(7, .box [.v (.int .i64 y4.Kind), .v (.string ⟨⟨y4.Name⟩⟩), .v (.string ⟨⟨y4.Is⟩⟩), .v (.string ⟨⟨y4.Data⟩⟩), .sl 2 false (y4.Attrs.map cAttr), .v (.int .i64 y4.Parent), .sl 1 false (y4.Kids.map cInt_i64), .v (.int .i64 y4.Host), .v (.int .i64 y4.Under), .v (.int .i64 y4.Doc)]), (4, .box [.v (.slice none 0 0), .v (.int .i64 0)]), (2, .box [.sl 10 false (f1.Nodes.map cNode), .v (.int .i64 f1.Most)])]) ?_ fun hj1 => ?_
    · rintro _
      refine pw_seq ?_
      refine pw_region ?_
      refine po_evs (T := tab) 4 rfl rfl ?_
      refine po_nil ?_
      refine pn_seq ?_
      refine pw_cnd rfl ?_ ?_
      · refine pw_seq ?_
        refine pw_region ?_
        refine po_evs (T := tab) 1 rfl rfl ?_
        refine po_store (T := tab) rfl rfl rfl rfl rfl rfl rfl rfl rfl rfl rfl rfl ?_
        refine po_evs (T := tab) 2 rfl rfl ?_
        refine po_nil ?_
        refine pn_seq ?_
        exact pw_retN (T := tab) rfl rfl rfl ⟨rfl, rfl⟩ trivial rfl
      · refine pw_seq ?_
        refine pw_region ?_
        refine po_evs (T := tab) 2 rfl rfl ?_
        refine po_len (T := tab) cNode f1.Nodes rfl rfl rfl rfl rfl rfl rfl rfl ?_
        refine po_evs (T := tab) 4 rfl rfl ?_
        refine po_nil ?_
        refine pn_seq ?_
        refine pw_cnd rfl ?_ ?_
        · refine pw_seq ?_
          refine pw_region ?_
          refine po_evs (T := tab) 1 rfl rfl ?_
          refine po_store (T := tab) rfl rfl rfl rfl rfl rfl rfl rfl rfl rfl rfl rfl ?_
          refine po_evs (T := tab) 2 rfl rfl ?_
          refine po_nil ?_
          refine pn_seq ?_
          exact pw_retN (T := tab) rfl rfl rfl ⟨rfl, rfl⟩ trivial rfl
        · refine pw_skip ?_
          refine pn_block ?_
          refine pn_seq ?_
          refine pw_seq ?_
          refine pw_region ?_
          refine po_evs (T := tab) 2 rfl rfl ?_
          refine po_len (T := tab) cNode f1.Nodes rfl rfl rfl rfl rfl rfl rfl rfl ?_
          refine po_evs (T := tab) 1 rfl rfl ?_
          refine po_nil ?_
          refine pn_seq ?_
          refine pw_seq ?_
          refine pw_sub' (E' := [(1, .v (.int .i64 n2)), (2, .loc 2 0), (4, .loc 4 0), (7, .loc 7 0), (8, .v (.int .i64 ((f1.Nodes.length : Nat) : Int)))]) (S' := [(7, .box [.v (.int .i64 y4.Kind), .v (.string ⟨⟨y4.Name⟩⟩), .v (.string ⟨⟨y4.Is⟩⟩), .v (.string ⟨⟨y4.Data⟩⟩), .sl 2 false (y4.Attrs.map cAttr), .v (.int .i64 y4.Parent), .sl 1 false (y4.Kids.map cInt_i64), .v (.int .i64 y4.Host), .v (.int .i64 y4.Under), .v (.int .i64 y4.Doc)]), (4, .box [.v (.slice none 0 0), .v (.int .i64 0)]), (2, .box [.sl 10 false (f1.Nodes.map cNode), .v (.int .i64 f1.Most)])]) ?_ ⟨rfl, rfl, rfl, rfl, rfl, trivial⟩ ⟨rfl, rfl, rfl, trivial⟩ rfl
          refine pw_drawV [0, 1, 3, 0, 0, 16, 56, 120, 255, 511, 1023] mixed (by kernel_rfl) (by kernel_rfl) rfl rfl ?_
          refine pdv_step0 [4] [108] [] [2] [] [(54, .loc 2 0)] [] rfl rfl rfl rfl (by kernel_rfl) (by kernel_rfl) (by kernel_rfl) trivial (fun w0 X X0 σ0 => by refine po_evs (T := tab) 1 rfl rfl ?_; refine po_nil ?_; exact pn_end0 ⟨rfl, trivial⟩ trivial rfl) ?_
          refine pdv_step0 [5, 108] [110] [] [2] [2] [(55, .sl 10 false (f1.Nodes.map cNode))] [(2, .box [.sl 10 false (f1.Nodes.map cNode), .v (.int .i64 f1.Most)])] rfl rfl rfl rfl (by kernel_rfl) (by kernel_rfl) (by kernel_rfl) ⟨rfl, trivial⟩ (fun w0 X X0 σ0 => by refine po_evs (T := tab) 1 rfl rfl ?_; refine po_nil ?_; exact pn_end0 ⟨rfl, trivial⟩ ⟨rfl, trivial⟩ rfl) ?_
          refine pdv_step (M := (Slices_Clone_apiNode_m fu f1.Nodes)) (ment := [(112, [2560]), (5121, [])]) [110] [112, 5121] [2560] [] [] (fun r8 => [(56, .own 2560)]) (fun r8 => [(2560, .arr 28 10 (r8.map cNode))]) rfl rfl (fun _ => rfl) (fun _ => rfl) (by kernel_rfl) (by kernel_rfl) (fun _ => by kernel_rfl) (fun _ => trivial) (fun w0 X X0 σ0 => by refine po_turn [2560] (enc := fun (r8 : (List Node)) => .own 2560) (Sr := fun (r8 : (List Node)) => [(2560, .arr 28 10 (r8.map cNode))]) (first := []) (cap := []) (qs := [.sl 10 false (f1.Nodes.map cNode)]) (Sc := []) (N0 := []) (NR := [2560]) (fun r8 hr8 => fc_ren [(5, 2560)] [5] (Slices_Clone_apiNode_ok fu f1.Nodes _ hr8) rfl rfl rfl rfl rfl rfl) trivial (fun _ => rfl) rfl rfl rfl rfl rfl rfl rfl (fun _ => rfl) (fun _ => rfl) rfl rfl rfl ⟨⟨_, rfl, .rfl⟩, trivial⟩ call62 rfl rfl fun r8 hr8 => ?_; refine po_nil ?_; exact pn_end ⟨rfl, trivial⟩ ⟨rfl, trivial⟩ rfl) fun r8 hr8 => ?_
          refine pdv_step0 [2] [114] [] [] [] [(57, .v (.int .i64 n2))] [] rfl rfl rfl rfl (by kernel_rfl) (by kernel_rfl) (by kernel_rfl) trivial (fun w0 X X0 σ0 => by refine po_evs (T := tab) 1 rfl rfl ?_; refine po_nil ?_; exact pn_end0 ⟨rfl, trivial⟩ trivial rfl) ?_
          refine pdv_step0 [14] [116] [] [7] [] [(58, .loc 7 9)] [] rfl rfl rfl rfl (by kernel_rfl) (by kernel_rfl) (by kernel_rfl) trivial (fun w0 X X0 σ0 => by refine po_evs (T := tab) 1 rfl rfl ?_; refine po_nil ?_; exact pn_end0 ⟨rfl, trivial⟩ trivial rfl) ?_
          refine pdv_step0 [15, 116] [118] [] [7] [7] [(59, .v (.int .i64 y4.Doc))] [(7, .box [.v (.int .i64 y4.Kind), .v (.string ⟨⟨y4.Name⟩⟩), .v (.string ⟨⟨y4.Is⟩⟩), .v (.string ⟨⟨y4.Data⟩⟩), .sl 2 false (y4.Attrs.map cAttr), .v (.int .i64 y4.Parent), .sl 1 false (y4.Kids.map cInt_i64), .v (.int .i64 y4.Host), .v (.int .i64 y4.Under), .v (.int .i64 y4.Doc)])] rfl rfl rfl rfl (by kernel_rfl) (by kernel_rfl) (by kernel_rfl) ⟨rfl, trivial⟩ (fun w0 X X0 σ0 => by refine po_evs (T := tab) 1 rfl rfl ?_; refine po_nil ?_; exact pn_end0 ⟨rfl, trivial⟩ ⟨rfl, trivial⟩ rfl) ?_
          refine pdv_step0 [114, 118] [120] [] [] [] [(60, .agg [.v (.int .i64 4), .v (.string ⟨⟨[]⟩⟩), .v (.string ⟨⟨[]⟩⟩), .v (.string ⟨⟨[]⟩⟩), .v (.slice none 0 0), .v (.int .i64 (-1)), .v (.slice none 0 0), .v (.int .i64 n2), .v (.int .i64 (-1)), .v (.int .i64 y4.Doc)])] [] rfl rfl rfl rfl (by kernel_rfl) (by kernel_rfl) (by kernel_rfl) trivial (fun w0 X X0 σ0 => by refine po_build (T := tab) rfl rfl rfl rfl rfl rfl rfl ?_; refine po_nil ?_; exact pn_end0 ⟨rfl, trivial⟩ trivial rfl) ?_
          refine pdv_step0 [120] [122, 120, 123] [61] [] [] [(61, .own 61), (60, .agg [.v (.int .i64 4), .v (.string ⟨⟨[]⟩⟩), .v (.string ⟨⟨[]⟩⟩), .v (.string ⟨⟨[]⟩⟩), .sl 2 false ([].map cAttr), .v (.int .i64 (-1)), .sl 1 false ([].map cInt_i64), .v (.int .i64 n2), .v (.int .i64 (-1)), .v (.int .i64 y4.Doc)])] [(61, .arr 28 10 ([(⟨4, [], [], [], [], (-1), [], n2, (-1), y4.Doc⟩ : Node)].map cNode))] rfl rfl rfl rfl (by kernel_rfl) (by kernel_rfl) (by kernel_rfl) trivial (fun w0 X X0 σ0 => by refine po_coe 60 rfl (.agg (ds := [.v (.int .i64 4), .v (.string ⟨⟨[]⟩⟩), .v (.string ⟨⟨[]⟩⟩), .v (.string ⟨⟨[]⟩⟩), .sl 2 false ([].map cAttr), .v (.int .i64 (-1)), .sl 1 false ([].map cInt_i64), .v (.int .i64 n2), .v (.int .i64 (-1)), .v (.int .i64 y4.Doc)]) ⟨.rfl, .rfl, .rfl, .rfl, .nil, .rfl, .nil, .rfl, .rfl, .rfl, trivial⟩) ?_; refine po_lit (T := tab) (rows := [(⟨4, [], [], [], [], (-1), [], n2, (-1), y4.Doc⟩ : Node)].map cNode) 61 rfl rfl rfl rfl rfl rfl rfl rfl rfl rfl rfl rfl rfl rfl ?_; refine po_nil ?_; exact pn_end0 ⟨rfl, rfl, trivial⟩ ⟨rfl, trivial⟩ rfl) ?_
          refine pdv_step (M := (roomy 136 (r8.length + ([(⟨4, [], [], [], [], (-1), [], n2, (-1), y4.Doc⟩ : Node)] : List Node).length))) (ment := [(124, [2560]), (112, []), (5121, [])]) [112, 122, 123, 5121] [124, 112, 5121] [2560] [61] [61] (fun _ => [(62, .own 2560)]) (fun _ => [(2560, .arr 28 10 ((r8 ++ [(⟨4, [], [], [], [], (-1), [], n2, (-1), y4.Doc⟩ : Node)]).map cNode)), (61, .arr 28 10 ([(⟨4, [], [], [], [], (-1), [], n2, (-1), y4.Doc⟩ : Node)].map cNode))]) rfl rfl (fun _ => rfl) (fun _ => rfl) (by kernel_rfl) (by kernel_rfl) (fun _ => by kernel_rfl) (fun _ => ⟨rfl, trivial⟩) (fun w0 X X0 σ0 => by refine po_append (T := tab) cNode r8 ([(⟨4, [], [], [], [], (-1), [], n2, (-1), y4.Doc⟩ : Node)] : List Node) rfl rfl rfl rfl rfl rfl rfl rfl rfl rfl rfl rfl rfl rfl (cNode_one _) rfl rfl rfl rfl rfl ?_; refine po_nil ?_; exact pn_end ⟨rfl, trivial⟩ ⟨rfl, rfl, trivial⟩ rfl) fun _ h0 => ?_
          refine pdv_step0 [4] [126] [] [2] [] [(63, .loc 2 0)] [] rfl rfl rfl rfl (by kernel_rfl) (by kernel_rfl) (by kernel_rfl) trivial (fun w0 X X0 σ0 => by refine po_evs (T := tab) 1 rfl rfl ?_; refine po_nil ?_; exact pn_end0 ⟨rfl, trivial⟩ trivial rfl) ?_
          refine pdv_step0 [5, 124, 126, 5121] [5] [] [2, 2560] [2560] [] [(2, .box [.own 2560, .v (.int .i64 f1.Most)]), (2560, .arr 28 10 ((r8 ++ [(⟨4, [], [], [], [], (-1), [], n2, (-1), y4.Doc⟩ : Node)]).map cNode))] rfl rfl rfl rfl (by kernel_rfl) (by kernel_rfl) (by kernel_rfl) ⟨rfl, trivial⟩ (fun w0 X X0 σ0 => by refine po_store (T := tab) rfl rfl rfl rfl rfl rfl rfl rfl rfl rfl rfl rfl ?_; refine po_nil ?_; exact pn_end0 trivial ⟨rfl, rfl, trivial⟩ rfl) ?_
          refine pdv_nil rfl rfl ?_
          refine pn_seq ?_
          refine pw_seq ?_
          refine pw_region ?_
          refine po_evs (T := tab) 4 rfl rfl ?_
          refine po_idx_own (T := tab) cNode (r8 ++ [(⟨4, [], [], [], [], (-1), [], n2, (-1), y4.Doc⟩ : Node)]) rfl rfl rfl rfl rfl rfl rfl rfl fun y9 hy9 => ?_
          refine po_evs (T := tab) 1 rfl rfl ?_
          refine po_store_ela (T := tab) cNode (r8 ++ [(⟨4, [], [], [], [], (-1), [], n2, (-1), y4.Doc⟩ : Node)]) y9 (⟨y9.Kind, y9.Name, y9.Is, y9.Data, y9.Attrs, y9.Parent, y9.Kids, y9.Host, ((f1.Nodes.length : Nat) : Int), y9.Doc⟩ : Node) (idx_at hy9) rfl rfl rfl rfl rfl rfl rfl rfl rfl rfl rfl rfl rfl ?_
          refine po_nil ?_
          refine pn_seq ?_
          refine pw_seq ?_
          refine pw_region ?_
          refine po_evs (T := tab) 2 rfl rfl ?_
          refine po_store (T := tab) rfl rfl rfl rfl rfl rfl rfl rfl rfl rfl rfl rfl ?_
          refine po_evs (T := tab) 2 rfl rfl ?_
          refine po_nil ?_
          refine pn_seq ?_
          refine pw_freeze 2560 rfl rfl rfl ?_
          exact pw_retN (T := tab) rfl rfl rfl ⟨rfl, rfl⟩ trivial rfl
    · refine pd_evs (T := tab) 4 rfl rfl ?_
      refine pd_split (j := 24) rfl ?_ ?_
      · refine pd_evs (T := tab) 13 rfl rfl ?_
        refine pd_nil ?_
        refine pn_seq (pw_then rfl ?_)
        refine pw_seq ?_
        refine pw_region ?_
        refine po_evs (T := tab) 1 rfl rfl ?_
        refine po_store (T := tab) rfl rfl rfl rfl rfl rfl rfl rfl rfl rfl rfl rfl ?_
        refine po_evs (T := tab) 2 rfl rfl ?_
        refine po_nil ?_
        refine pn_seq ?_
        exact pw_retN (T := tab) rfl rfl rfl ⟨rfl, rfl⟩ trivial rfl
      · refine pd_evs (T := tab) 2 rfl rfl ?_
        refine pd_call (enc := fun (r5 : Bool) => .v (.bool r5)) (qs := [.v (.string ⟨⟨y4.Name⟩⟩)]) (Name_Custom_ok fu y4.Name) rfl rfl ⟨⟨_, rfl, .rfl⟩, trivial⟩ (fun _ => rfl) call70 rfl rfl fun r5 hr5 => ?_
        refine pd_evs (T := tab) 2 rfl rfl ?_
        refine pd_split (j := 29) rfl ?_ ?_
        · refine pd_call (enc := fun (r6 : (List Bs)) => .sl 1 false (r6.map cStr)) (qs := []) (Shade_hosts_ok fu) rfl rfl trivial (fun _ => rfl) call72 rfl rfl fun r6 hr6 => ?_
          refine pd_evs (T := tab) 2 rfl rfl ?_
          refine pd_call (enc := fun (r7 : Bool) => .v (.bool r7)) (qs := [.sl 1 false (r6.map cStr), .v (.string ⟨⟨y4.Name⟩⟩)]) (Slices_Contains_string_ok fu r6 y4.Name) rfl rfl ⟨⟨_, rfl, .rfl⟩, ⟨_, rfl, .rfl⟩, trivial⟩ (fun _ => rfl) call71 rfl rfl fun r7 hr7 => ?_
          refine pd_evs (T := tab) 4 rfl rfl ?_
          refine pd_nil ?_
          refine pn_seq ?_
          refine pw_cnd rfl ?_ ?_
          · refine pw_seq ?_
            refine pw_region ?_
            refine po_evs (T := tab) 1 rfl rfl ?_
            refine po_store (T := tab) rfl rfl rfl rfl rfl rfl rfl rfl rfl rfl rfl rfl ?_
            refine po_evs (T := tab) 2 rfl rfl ?_
            refine po_nil ?_
            refine pn_seq ?_
            exact pw_retN (T := tab) rfl rfl rfl ⟨rfl, rfl⟩ trivial rfl
          · exact pw_sub' (hj1 ()) ⟨rfl, rfl, rfl, rfl, trivial⟩ ⟨rfl, rfl, rfl, trivial⟩ rfl
        · refine pd_evs (T := tab) 8 rfl rfl ?_
          refine pd_nil ?_
          refine pn_seq (pw_else rfl ?_)
          exact pw_sub' (hj1 ()) ⟨rfl, rfl, rfl, rfl, trivial⟩ ⟨rfl, rfl, rfl, trivial⟩ rfl

def Shade_All_l2 (l4 : (List Int)) (y7 : Int) (y9 : Node) (rc1 : ((List Int) × (List Int)) → Option (List Int)) : Nat → (List Int) → Option (List Int)
  | 0, l10 => cnd (y9.Under != (-1)) (bnd (roomy 8 (l10.length + ([y9.Under] : List Int).length)) fun _ => rc1 ((l4 ++ [y7]), (l10 ++ [y9.Under]))) (rc1 ((l4 ++ [y7]), l10))
  | k2 + 1, l10 => bnd (y9.Kids[k2]?) fun y11 => bnd (roomy 8 (l10.length + ([y11] : List Int).length)) fun _ => (Shade_All_l2 l4 y7 y9 rc1 k2) (l10 ++ [y11])

def Shade_All_l1 (f1 : Forest) : Nat → (List Int) × (List Int) → Option (List Int)
  | 0, _ => none
  | k1 + 1, (l4, l5) => cnd (decide (((l5.length : Nat) : Int) > 0)) (bnd (rng .i64 (((l5.length : Nat) : Int) - 1)) fun i6 => bnd (idx l5 i6) fun y7 => bnd (piece l5 0 i6) fun l8 => bnd (roomy 8 (l4.length + ([y7] : List Int).length)) fun _ => bnd (idx f1.Nodes y7) fun y9 => (Shade_All_l2 l4 y7 y9 (Shade_All_l1 f1 k1)) y9.Kids.length l8) (some l4)

def Shade_All_m (fu : Nat) (f1 : Forest) (n2 : Int) : Option (List Int) := bnd (Shade_there_m fu f1 [n2]) fun r3 => cnd (!r3) (some ([] : List Int)) ((Shade_All_l1 f1) fu ([], [n2]))

set_option maxHeartbeats 10000000 in
set_option maxRecDepth 100000 in
theorem Shade_All_ok (fu : Nat) (f1 : Forest) (n2 : Int) : ∀ r, Shade_All_m fu f1 n2 = some r → FC Try.prog 41 [.agg (cForest f1), .v (.int .i64 n2)] [] [] fun p S' => p = .own 1035 ∧ S' = [(1035, .arr 3 1 (r.map cInt_i64))] := by
  intro r hr
  refine fc_intro (args := [.agg (cForest f1), .v (.int .i64 n2)]) (S := []) (N0 := []) (post := fun r p S => p = .own 1035 ∧ S = [(1035, .arr 3 1 (r.map cInt_i64))]) Try.func41 rfl rfl hr fun w0 X X0 σ0 => ?_
  refine pw_seq ?_
  refine pw_region ?_
  refine po_box  2 rfl rfl rfl rfl rfl rfl rfl rfl rfl rfl ?_
  refine po_evs (T := tab) 1 rfl rfl ?_
  refine po_nil ?_
  refine pn_seq ?_
  refine pw_seq ?_
  refine pw_seq ?_
  refine pw_region ?_
  refine po_evs (T := tab) 2 rfl rfl ?_
  refine po_lit (T := tab) (rows := [n2].map cInt_i64) 14 rfl rfl rfl rfl rfl rfl rfl rfl rfl rfl rfl rfl rfl rfl ?_
  refine po_freeze 14 rfl rfl rfl ?_
  refine po_call (enc := fun (r3 : Bool) => .v (.bool r3)) (qs := [.agg (cForest f1), .sl 1 false ([n2].map cInt_i64)]) (Shade_there_ok fu f1 [n2]) rfl rfl ⟨⟨_, rfl, .rfl⟩, ⟨_, rfl, .rfl⟩, trivial⟩ (fun _ => rfl) call69 rfl rfl fun r3 hr3 => ?_
  refine po_evs (T := tab) 1 rfl rfl ?_
  refine po_nil ?_
  refine pn_seq ?_
  refine pw_cnd rfl ?_ ?_
  · refine pw_seq ?_
    refine pw_region ?_
    refine po_evs (T := tab) 1 rfl rfl ?_
    refine po_nil ?_
    refine pn_seq ?_
    refine pw_own_nil 1035 3 1 4 rfl rfl rfl rfl ?_
    exact pw_retN (T := tab) rfl rfl rfl ⟨rfl, rfl⟩ ⟨rfl, trivial⟩ rfl
  · refine pw_skip ?_
    refine pn_seq ?_
    refine pw_seq ?_
    refine pw_region ?_
    refine po_evs (T := tab) 1 rfl rfl ?_
    refine po_nil ?_
    refine pn_seq ?_
    refine pw_seq ?_
    refine pw_seq ?_
    refine pw_region ?_
    refine po_evs (T := tab) 1 rfl rfl ?_
    refine po_lit (T := tab) (rows := [n2].map cInt_i64) 18 rfl rfl rfl rfl rfl rfl rfl rfl rfl rfl rfl rfl rfl rfl ?_
    refine po_alloc (T := tab) 6 rfl rfl rfl rfl rfl rfl rfl rfl rfl ?_
    refine po_store (T := tab) rfl rfl rfl rfl rfl rfl rfl rfl rfl rfl rfl rfl ?_
    refine po_nil ?_
    refine pn_seq ?_
    refine pw_block ?_
    refine pw_own_nil 1035 3 1 5 rfl rfl rfl rfl ?_
    refine pw_loop' (Shade_All_l1 f1) (fun ((l4, l5) : (List Int) × (List Int)) => [(2, .loc 2 0), (5, .own 1035), (6, .loc 6 0)]) (fun ((l4, l5) : (List Int) × (List Int)) => [(1035, .arr 3 1 (l4.map cInt_i64)), (6, .box [.own 18]), (18, .arr 3 1 (l5.map cInt_i64)), (2, .box [.sl 10 false (f1.Nodes.map cNode), .v (.int .i64 f1.Most)])]) fu ([], [n2]) (fun _ => rfl) ⟨rfl, rfl, rfl, trivial⟩ ⟨rfl, rfl, rfl, rfl, trivial⟩ rfl ?_
    rintro k1 ⟨l4, l5⟩
    refine pw_seq ?_
    refine pw_seq ?_
    refine pw_region ?_
    refine po_evs (T := tab) 1 rfl rfl ?_
    refine po_len_own (T := tab) cInt_i64 l5 rfl rfl rfl rfl rfl rfl rfl rfl rfl ?_
    refine po_evs (T := tab) 1 rfl rfl ?_
    refine po_nil ?_
    refine pn_seq ?_
    refine pw_cnd rfl ?_ ?_
    · refine pw_skip ?_
      refine pn_seq ?_
      refine pw_seq ?_
      refine pw_block ?_
      refine pw_seq ?_
      refine pw_region ?_
      refine po_evs (T := tab) 1 rfl rfl ?_
      refine po_len_own (T := tab) cInt_i64 l5 rfl rfl rfl rfl rfl rfl rfl rfl rfl ?_
      refine po_arith' (T := tab) rfl rfl rfl rfl fun i6 hi6 => ?_
      refine po_evs (T := tab) 1 rfl rfl ?_
      refine po_nil ?_
      refine pn_seq ?_
      refine pw_seq ?_
      refine pw_region ?_
      refine po_evs (T := tab) 2 rfl rfl ?_
      refine po_idx_own (T := tab) cInt_i64 l5 rfl rfl rfl rfl rfl rfl rfl rfl fun y7 hy7 => ?_
      refine po_load_ela (T := tab) cInt_i64 l5 y7 (idx_at hy7) rfl rfl rfl rfl rfl rfl rfl rfl ?_
      refine po_evs (T := tab) 1 rfl rfl ?_
      refine po_nil ?_
      refine pn_seq ?_
      refine pw_seq ?_
      refine pw_region ?_
      refine po_evs (T := tab) 2 rfl rfl ?_
      refine po_own_cut (T := tab) cInt_i64 l5 rfl rfl rfl rfl rfl rfl rfl rfl rfl rfl rfl fun l8 hl8 => ?_
      refine po_store (T := tab) rfl rfl rfl rfl rfl rfl rfl rfl rfl rfl rfl rfl ?_
      refine po_nil ?_
      refine pn_seq ?_
      refine pw_seq ?_
      refine pw_region ?_
      refine po_evs (T := tab) 2 rfl rfl ?_
      refine po_lit (T := tab) (rows := [y7].map cInt_i64) 34 rfl rfl rfl rfl rfl rfl rfl rfl rfl rfl rfl rfl rfl rfl ?_
      refine po_append (T := tab) cInt_i64 l4 ([y7] : List Int) rfl rfl rfl rfl rfl rfl rfl rfl rfl rfl rfl rfl rfl rfl (cInt_i64_one _) rfl rfl rfl rfl rfl ?_
      refine po_evs (T := tab) 1 rfl rfl ?_
      refine po_nil ?_
      refine pn_seq ?_
      refine pw_seq ?_
      refine pw_region ?_
      refine po_evs (T := tab) 3 rfl rfl ?_
      refine po_idx (T := tab) cNode f1.Nodes rfl rfl rfl rfl rfl rfl rfl fun y9 hy9 => ?_
      refine po_evs (T := tab) 1 rfl rfl ?_
      refine po_alloc (T := tab) 9 rfl rfl rfl rfl rfl rfl rfl rfl rfl ?_
      refine po_store (T := tab) rfl rfl rfl rfl rfl rfl rfl rfl rfl rfl rfl rfl ?_
      refine po_nil ?_
      refine pn_seq ?_
      refine pw_seq ?_
      refine pw_seq ?_
      refine pw_region ?_
      refine po_evs (T := tab) 2 rfl rfl ?_
      refine po_backward (n := 3043) tab Try.func66 rfl rfl rfl rfl rfl rfl rfl rfl rfl rfl rfl rfl ⟨⟨_, rfl, .rfl⟩, trivial⟩ call66 rfl rfl ?_
      refine po_nil ?_
      refine pn_seq ?_
      refine pw_block ?_
      refine pw_back (T := tab) (enc := cInt_i64) (enc' := fun (y11 : Int) => .v (.int .i64 y11)) (xs := y9.Kids) (x0 := l8) (n := 3043) (tS := 26) (tE := 3) (tI := 3) (tB := 4) (tF := 65) (g := 96) (M := (Shade_All_l2 l4 y7 y9 (Shade_All_l1 f1 k1))) (Sf := fun (l10 : (List Int)) => [(9, .box [.v (.int .i64 y9.Kind), .v (.string ⟨⟨y9.Name⟩⟩), .v (.string ⟨⟨y9.Is⟩⟩), .v (.string ⟨⟨y9.Data⟩⟩), .sl 2 false (y9.Attrs.map cAttr), .v (.int .i64 y9.Parent), .sl 1 false (y9.Kids.map cInt_i64), .v (.int .i64 y9.Host), .v (.int .i64 y9.Under), .v (.int .i64 y9.Doc)]), (1035, .arr 3 1 ((l4 ++ [y7]).map cInt_i64)), (18, .arr 3 1 (l10.map cInt_i64)), (6, .box [.own 18]), (2, .box [.sl 10 false (f1.Nodes.map cNode), .v (.int .i64 f1.Most)])]) (N1 := [2, 6, 9, 1035]) (E0 := [(2, .loc 2 0), (5, .own 1035), (6, .loc 6 0), (9, .loc 9 0)]) (E1 := fun k2 y11 => [(2, .loc 2 0), (5, .own 1035), (6, .loc 6 0), (9, .loc 9 0), (44, .v (.int .i64 ((k2 : Nat) : Int))), (45, .v (.int .i64 y11)), (11, .v (.int .i64 y11))]) Try.func96 rfl rfl rfl call96 rfl rfl (fun _ => rfl) (fun _ => rfl) rfl rfl ⟨rfl, rfl, rfl, rfl, trivial⟩ rfl rfl ⟨rfl, rfl, rfl, rfl, rfl, trivial⟩ rfl rfl rfl rfl rfl rfl ?_ ?_ ?_
      · rintro k2 y11 l10 hy w0 X X0 σ0
        refine po_evs (T := tab) 1 rfl rfl ?_
        refine po_nil ?_
        exact pn_end0 ⟨rfl, rfl, rfl, rfl, rfl, rfl, rfl, trivial⟩ ⟨rfl, rfl, rfl, rfl, rfl, trivial⟩ rfl
      · rintro k2 y11 l10 hy w0 X X0 σ0
        refine po_known hy ?_
        refine po_evs (T := tab) 2 rfl rfl ?_
        refine po_lit (T := tab) (rows := [y11].map cInt_i64) 48 rfl rfl rfl rfl rfl rfl rfl rfl rfl rfl rfl rfl rfl rfl ?_
        refine po_append (T := tab) cInt_i64 l10 ([y11] : List Int) rfl rfl rfl rfl rfl rfl rfl rfl rfl rfl rfl rfl rfl rfl (cInt_i64_one _) rfl rfl rfl rfl rfl ?_
        refine po_store (T := tab) rfl rfl rfl rfl rfl rfl rfl rfl rfl rfl rfl rfl ?_
        refine po_nil ?_
        exact pn_iter' (l10 ++ [y11]) trivial ⟨rfl, rfl, rfl, rfl, rfl, trivial⟩ rfl
      · rintro l10
        refine pn_block ?_
        refine pn_seq ?_
        refine pw_seq ?_
        refine pw_region ?_
        refine po_evs (T := tab) 3 rfl rfl ?_
        refine po_nil ?_
        refine pn_seq ?_
        refine pw_cnd rfl ?_ ?_
        · refine pw_region ?_
          refine po_evs (T := tab) 3 rfl rfl ?_
          refine po_lit (T := tab) (rows := [y9.Under].map cInt_i64) 56 rfl rfl rfl rfl rfl rfl rfl rfl rfl rfl rfl rfl rfl rfl ?_
          refine po_append (T := tab) cInt_i64 l10 ([y9.Under] : List Int) rfl rfl rfl rfl rfl rfl rfl rfl rfl rfl rfl rfl rfl rfl (cInt_i64_one _) rfl rfl rfl rfl rfl ?_
          refine po_store (T := tab) rfl rfl rfl rfl rfl rfl rfl rfl rfl rfl rfl rfl ?_
          refine po_nil ?_
          refine pn_block ?_
          refine pn_seq ?_
          refine pw_seq ?_
          refine pw_region ?_
          refine po_evs (T := tab) 1 rfl rfl ?_
          refine po_nil ?_
          refine pn_seq ?_
          refine pw_region ?_
          refine po_alloc (T := tab) 6 rfl rfl rfl rfl rfl rfl rfl rfl rfl ?_
          refine po_store (T := tab) rfl rfl rfl rfl rfl rfl rfl rfl rfl rfl rfl rfl ?_
          refine po_nil ?_
          exact pn_iter' ((l4 ++ [y7]), (l10 ++ [y9.Under])) ⟨rfl, rfl, rfl, trivial⟩ ⟨rfl, rfl, rfl, rfl, trivial⟩ rfl
        · refine pw_skip ?_
          refine pn_block ?_
          refine pn_seq ?_
          refine pw_seq ?_
          refine pw_region ?_
          refine po_evs (T := tab) 1 rfl rfl ?_
          refine po_nil ?_
          refine pn_seq ?_
          refine pw_region ?_
          refine po_alloc (T := tab) 6 rfl rfl rfl rfl rfl rfl rfl rfl rfl ?_
          refine po_store (T := tab) rfl rfl rfl rfl rfl rfl rfl rfl rfl rfl rfl rfl ?_
          refine po_nil ?_
          exact pn_iter' ((l4 ++ [y7]), l10) ⟨rfl, rfl, rfl, trivial⟩ ⟨rfl, rfl, rfl, rfl, trivial⟩ rfl
    · refine pw_exit rfl ?_
      refine pn_seq ?_
      refine pw_seq ?_
      refine pw_region ?_
      refine po_evs (T := tab) 2 rfl rfl ?_
      refine po_nil ?_
      refine pn_seq ?_
      exact pw_retN (T := tab) rfl rfl rfl ⟨rfl, rfl⟩ ⟨rfl, trivial⟩ rfl

def Shade_up_m (_fu : Nat) (f1 : Forest) (n2 : Int) : Option Int := bnd (idx f1.Nodes n2) fun y3 => cnd (y3.Parent != (-1)) (some y3.Parent) (bnd (idx f1.Nodes n2) fun y4 => some y4.Host)

set_option maxRecDepth 100000 in
theorem Shade_up_ok (fu : Nat) (f1 : Forest) (n2 : Int) : ∀ r, Shade_up_m fu f1 n2 = some r → DC Try.prog 73 [.agg (cForest f1), .v (.int .i64 n2)] (.v (.int .i64 r)) := by
  intro r hr
  refine fc_intro (args := [.agg (cForest f1), .v (.int .i64 n2)]) (S := []) (N0 := []) (post := fun r p S => p = .v (.int .i64 r) ∧ S = []) Try.func73 rfl rfl hr fun w0 X X0 σ0 => ?_
  refine pw_seq ?_
  refine pw_region ?_
  refine po_box  2 rfl rfl rfl rfl rfl rfl rfl rfl rfl rfl ?_
  refine po_evs (T := tab) 1 rfl rfl ?_
  refine po_nil ?_
  refine pn_seq ?_
  refine pw_seq ?_
  refine pw_seq ?_
  refine pw_region ?_
  refine po_evs (T := tab) 3 rfl rfl ?_
  refine po_idx (T := tab) cNode f1.Nodes rfl rfl rfl rfl rfl rfl rfl fun y3 hy3 => ?_
  refine po_evs (T := tab) 3 rfl rfl ?_
  refine po_nil ?_
  refine pn_seq ?_
  refine pw_seq ?_
  refine pw_region ?_
  refine po_evs (T := tab) 2 rfl rfl ?_
  refine po_nil ?_
  refine pn_seq ?_
  refine pw_cnd rfl ?_ ?_
  · refine pw_seq ?_
    refine pw_region ?_
    refine po_evs (T := tab) 2 rfl rfl ?_
    refine po_nil ?_
    refine pn_seq ?_
    exact pw_retN (T := tab) rfl rfl rfl ⟨rfl, rfl⟩ trivial rfl
  · refine pw_skip ?_
    refine pn_seq ?_
    refine pw_seq ?_
    refine pw_region ?_
    refine po_evs (T := tab) 3 rfl rfl ?_
    refine po_idx (T := tab) cNode f1.Nodes rfl rfl rfl rfl rfl rfl rfl fun y4 hy4 => ?_
    refine po_evs (T := tab) 3 rfl rfl ?_
    refine po_nil ?_
    refine pn_seq ?_
    exact pw_retN (T := tab) rfl rfl rfl ⟨rfl, rfl⟩ trivial rfl

def Shade_Top_l1 (fu : Nat) (f1 : Forest) : Nat → Int → Option Int
  | 0, _ => none
  | k1 + 1, n4 => bnd (Shade_up_m fu f1 n4) fun r5 => cnd (r5 != (-1)) (bnd (Shade_up_m fu f1 n4) fun r6 => (Shade_Top_l1 fu f1 k1) r6) (some n4)

def Shade_Top_m (fu : Nat) (f1 : Forest) (n2 : Int) : Option Int := bnd (Shade_there_m fu f1 [n2]) fun r3 => cnd (!r3) (some (-1)) ((Shade_Top_l1 fu f1) fu n2)

set_option maxHeartbeats 10000000 in
set_option maxRecDepth 100000 in
theorem Shade_Top_ok (fu : Nat) (f1 : Forest) (n2 : Int) : ∀ r, Shade_Top_m fu f1 n2 = some r → DC Try.prog 39 [.agg (cForest f1), .v (.int .i64 n2)] (.v (.int .i64 r)) := by
  intro r hr
  refine fc_intro (args := [.agg (cForest f1), .v (.int .i64 n2)]) (S := []) (N0 := []) (post := fun r p S => p = .v (.int .i64 r) ∧ S = []) Try.func39 rfl rfl hr fun w0 X X0 σ0 => ?_
  refine pw_seq ?_
  refine pw_region ?_
  refine po_box  2 rfl rfl rfl rfl rfl rfl rfl rfl rfl rfl ?_
  refine po_evs (T := tab) 1 rfl rfl ?_
  refine po_nil ?_
  refine pn_seq ?_
  refine pw_seq ?_
  refine pw_seq ?_
  refine pw_region ?_
  refine po_evs (T := tab) 2 rfl rfl ?_
  refine po_lit (T := tab) (rows := [n2].map cInt_i64) 7 rfl rfl rfl rfl rfl rfl rfl rfl rfl rfl rfl rfl rfl rfl ?_
  refine po_freeze 7 rfl rfl rfl ?_
  refine po_call (enc := fun (r3 : Bool) => .v (.bool r3)) (qs := [.agg (cForest f1), .sl 1 false ([n2].map cInt_i64)]) (Shade_there_ok fu f1 [n2]) rfl rfl ⟨⟨_, rfl, .rfl⟩, ⟨_, rfl, .rfl⟩, trivial⟩ (fun _ => rfl) call69 rfl rfl fun r3 hr3 => ?_
  refine po_evs (T := tab) 1 rfl rfl ?_
  refine po_nil ?_
  refine pn_seq ?_
  refine pw_cnd rfl ?_ ?_
  · refine pw_seq ?_
    refine pw_region ?_
    refine po_evs (T := tab) 1 rfl rfl ?_
    refine po_nil ?_
    refine pn_seq ?_
    exact pw_retN (T := tab) rfl rfl rfl ⟨rfl, rfl⟩ trivial rfl
  · refine pw_skip ?_
    refine pn_seq ?_
    refine pw_seq ?_
    refine pw_block ?_
    refine pw_loop' (Shade_Top_l1 fu f1) (fun (n4 : Int) => [(1, .v (.int .i64 n4)), (2, .loc 2 0)]) (fun (n4 : Int) => [(2, .box [.sl 10 false (f1.Nodes.map cNode), .v (.int .i64 f1.Most)])]) fu n2 (fun _ => rfl) ⟨rfl, rfl, trivial⟩ ⟨rfl, trivial⟩ rfl ?_
    rintro k1 n4
    refine pw_seq ?_
    refine pw_seq ?_
    refine pw_region ?_
    refine po_evs (T := tab) 2 rfl rfl ?_
    refine po_call (enc := fun (r5 : Int) => .v (.int .i64 r5)) (qs := [.agg (cForest f1), .v (.int .i64 n4)]) (Shade_up_ok fu f1 n4) rfl rfl ⟨⟨_, rfl, .rfl⟩, ⟨_, rfl, .rfl⟩, trivial⟩ (fun _ => rfl) call73 rfl rfl fun r5 hr5 => ?_
    refine po_evs (T := tab) 1 rfl rfl ?_
    refine po_nil ?_
    refine pn_seq ?_
    refine pw_cnd rfl ?_ ?_
    · refine pw_skip ?_
      refine pn_seq ?_
      refine pw_block ?_
      refine pw_region ?_
      refine po_evs (T := tab) 2 rfl rfl ?_
      refine po_call (enc := fun (r6 : Int) => .v (.int .i64 r6)) (qs := [.agg (cForest f1), .v (.int .i64 n4)]) (Shade_up_ok fu f1 n4) rfl rfl ⟨⟨_, rfl, .rfl⟩, ⟨_, rfl, .rfl⟩, trivial⟩ (fun _ => rfl) call73 rfl rfl fun r6 hr6 => ?_
      refine po_evs (T := tab) 1 rfl rfl ?_
      refine po_nil ?_
      refine pn_block ?_
      exact pn_iter' r6 ⟨rfl, rfl, trivial⟩ ⟨rfl, trivial⟩ rfl
    · refine pw_exit rfl ?_
      refine pn_seq ?_
      refine pw_seq ?_
      refine pw_region ?_
      refine po_evs (T := tab) 2 rfl rfl ?_
      refine po_nil ?_
      refine pn_seq ?_
      exact pw_retN (T := tab) rfl rfl rfl ⟨rfl, rfl⟩ trivial rfl

def Shade_Connected_m (fu : Nat) (f1 : Forest) (n2 : Int) : Option Bool := bnd (Shade_Top_m fu f1 n2) fun r3 => cnd (r3 != (-1)) (bnd (idx f1.Nodes r3) fun y4 => some (y4.Kind == 0)) (some false)

set_option maxRecDepth 100000 in
theorem Shade_Connected_ok (fu : Nat) (f1 : Forest) (n2 : Int) : ∀ r, Shade_Connected_m fu f1 n2 = some r → DC Try.prog 40 [.agg (cForest f1), .v (.int .i64 n2)] (.v (.bool r)) := by
  intro r hr
  refine fc_intro (args := [.agg (cForest f1), .v (.int .i64 n2)]) (S := []) (N0 := []) (post := fun r p S => p = .v (.bool r) ∧ S = []) Try.func40 rfl rfl hr fun w0 X X0 σ0 => ?_
  refine pw_seq ?_
  refine pw_region ?_
  refine po_box  2 rfl rfl rfl rfl rfl rfl rfl rfl rfl rfl ?_
  refine po_evs (T := tab) 1 rfl rfl ?_
  refine po_nil ?_
  refine pn_seq ?_
  refine pw_seq ?_
  refine pw_region ?_
  refine po_evs (T := tab) 2 rfl rfl ?_
  refine po_call (enc := fun (r3 : Int) => .v (.int .i64 r3)) (qs := [.agg (cForest f1), .v (.int .i64 n2)]) (Shade_Top_ok fu f1 n2) rfl rfl ⟨⟨_, rfl, .rfl⟩, ⟨_, rfl, .rfl⟩, trivial⟩ (fun _ => rfl) call39 rfl rfl fun r3 hr3 => ?_
  refine po_evs (T := tab) 1 rfl rfl ?_
  refine po_nil ?_
  refine pn_seq ?_
  refine pw_seq ?_
  refine pw_region ?_
  refine po_evs (T := tab) 3 rfl rfl ?_
  refine po_split (j := 11) rfl ?_ ?_
  · refine po_evs (T := tab) 3 rfl rfl ?_
    refine po_idx (T := tab) cNode f1.Nodes rfl rfl rfl rfl rfl rfl rfl fun y4 hy4 => ?_
    refine po_evs (T := tab) 5 rfl rfl ?_
    refine po_nil ?_
    refine pn_seq ?_
    exact pw_retN (T := tab) rfl rfl rfl ⟨rfl, rfl⟩ trivial rfl
  · refine po_evs (T := tab) 9 rfl rfl ?_
    refine po_nil ?_
    refine pn_seq ?_
    exact pw_retN (T := tab) rfl rfl rfl ⟨rfl, rfl⟩ trivial rfl

def Shade_Over_l1 (fu : Nat) (f1 : Forest) (a2 : Int) : Nat → Int → Option Bool
  | 0, _ => none
  | k1 + 1, b5 => cnd (b5 != (-1)) (cnd (b5 != a2) (bnd (Shade_up_m fu f1 b5) fun r6 => (Shade_Over_l1 fu f1 a2 k1) r6) (some (b5 == a2))) (some (b5 == a2))

def Shade_Over_m (fu : Nat) (f1 : Forest) (a2 : Int) (b3 : Int) : Option Bool := bnd (Shade_there_m fu f1 [a2, b3]) fun r4 => cnd (!r4) (some false) ((Shade_Over_l1 fu f1 a2) fu b3)

set_option maxHeartbeats 10000000 in
set_option maxRecDepth 100000 in
theorem Shade_Over_ok (fu : Nat) (f1 : Forest) (a2 : Int) (b3 : Int) : ∀ r, Shade_Over_m fu f1 a2 b3 = some r → DC Try.prog 43 [.agg (cForest f1), .v (.int .i64 a2), .v (.int .i64 b3)] (.v (.bool r)) := by
  intro r hr
  refine fc_intro (args := [.agg (cForest f1), .v (.int .i64 a2), .v (.int .i64 b3)]) (S := []) (N0 := []) (post := fun r p S => p = .v (.bool r) ∧ S = []) Try.func43 rfl rfl hr fun w0 X X0 σ0 => ?_
  refine pw_seq ?_
  refine pw_region ?_
  refine po_box  3 rfl rfl rfl rfl rfl rfl rfl rfl rfl rfl ?_
  refine po_evs (T := tab) 1 rfl rfl ?_
  refine po_nil ?_
  refine pn_seq ?_
  refine pw_seq ?_
  refine pw_seq ?_
  refine pw_region ?_
  refine po_evs (T := tab) 3 rfl rfl ?_
  refine po_lit (T := tab) (rows := [a2, b3].map cInt_i64) 10 rfl rfl rfl rfl rfl rfl rfl rfl rfl rfl rfl rfl rfl rfl ?_
  refine po_freeze 10 rfl rfl rfl ?_
  refine po_call (enc := fun (r4 : Bool) => .v (.bool r4)) (qs := [.agg (cForest f1), .sl 1 false ([a2, b3].map cInt_i64)]) (Shade_there_ok fu f1 [a2, b3]) rfl rfl ⟨⟨_, rfl, .rfl⟩, ⟨_, rfl, .rfl⟩, trivial⟩ (fun _ => rfl) call69 rfl rfl fun r4 hr4 => ?_
  refine po_evs (T := tab) 1 rfl rfl ?_
  refine po_nil ?_
  refine pn_seq ?_
  refine pw_cnd rfl ?_ ?_
  · refine pw_seq ?_
    refine pw_region ?_
    refine po_evs (T := tab) 1 rfl rfl ?_
    refine po_nil ?_
    refine pn_seq ?_
    exact pw_retN (T := tab) rfl rfl rfl ⟨rfl, rfl⟩ trivial rfl
  · refine pw_skip ?_
    refine pn_seq ?_
    refine pw_seq ?_
    refine pw_block ?_
    refine pw_loop' (Shade_Over_l1 fu f1 a2) (fun (b5 : Int) => [(1, .v (.int .i64 a2)), (2, .v (.int .i64 b5)), (3, .loc 3 0)]) (fun (b5 : Int) => [(3, .box [.sl 10 false (f1.Nodes.map cNode), .v (.int .i64 f1.Most)])]) fu b3 (fun _ => rfl) ⟨rfl, rfl, rfl, trivial⟩ ⟨rfl, trivial⟩ rfl ?_
    rintro k1 b5
    refine pw_seq ?_
    refine pw_seq ?_
    refine pw_region ?_
    refine po_evs (T := tab) 3 rfl rfl ?_
    refine po_split (j := 15) rfl ?_ ?_
    · refine po_evs (T := tab) 4 rfl rfl ?_
      refine po_nil ?_
      refine pn_seq ?_
      refine pw_cnd rfl ?_ ?_
      · refine pw_skip ?_
        refine pn_seq ?_
        refine pw_block ?_
        refine pw_region ?_
        refine po_evs (T := tab) 2 rfl rfl ?_
        refine po_call (enc := fun (r6 : Int) => .v (.int .i64 r6)) (qs := [.agg (cForest f1), .v (.int .i64 b5)]) (Shade_up_ok fu f1 b5) rfl rfl ⟨⟨_, rfl, .rfl⟩, ⟨_, rfl, .rfl⟩, trivial⟩ (fun _ => rfl) call73 rfl rfl fun r6 hr6 => ?_
        refine po_evs (T := tab) 1 rfl rfl ?_
        refine po_nil ?_
        refine pn_block ?_
        exact pn_iter' r6 ⟨rfl, rfl, rfl, trivial⟩ ⟨rfl, trivial⟩ rfl
      · refine pw_exit rfl ?_
        refine pn_seq ?_
        refine pw_seq ?_
        refine pw_region ?_
        refine po_evs (T := tab) 4 rfl rfl ?_
        refine po_nil ?_
        refine pn_seq ?_
        exact pw_retN (T := tab) rfl rfl rfl ⟨rfl, rfl⟩ trivial rfl
    · refine po_evs (T := tab) 4 rfl rfl ?_
      refine po_nil ?_
      refine pn_seq (pw_else rfl ?_)
      refine pw_exit rfl ?_
      refine pn_seq ?_
      refine pw_seq ?_
      refine pw_region ?_
      refine po_evs (T := tab) 4 rfl rfl ?_
      refine po_nil ?_
      refine pn_seq ?_
      exact pw_retN (T := tab) rfl rfl rfl ⟨rfl, rfl⟩ trivial rfl

def Shade_Elems_1_m (_fu : Nat) (k1 : Int) (c2 : Forest) : Option Bool := bnd (idx c2.Nodes k1) fun y3 => some (y3.Kind != 1)

set_option maxRecDepth 100000 in
theorem Shade_Elems_1_ok (fu : Nat) (k1 : Int) (c2 : Forest) : ∀ r, Shade_Elems_1_m fu k1 c2 = some r → FC Try.prog 75 [.v (.int .i64 k1), .loc 900000 0] [(900000, .box [.sl 10 false (c2.Nodes.map cNode), .v (.int .i64 c2.Most)])] [900000] fun p S' => p = .v (.bool r) ∧ S' = [(900000, .box [.sl 10 false (c2.Nodes.map cNode), .v (.int .i64 c2.Most)])] := by
  intro r hr
  refine fc_intro (args := [.v (.int .i64 k1), .loc 900000 0]) (S := [(900000, .box [.sl 10 false (c2.Nodes.map cNode), .v (.int .i64 c2.Most)])]) (N0 := [900000]) (post := fun r p S => p = .v (.bool r) ∧ S = [(900000, .box [.sl 10 false (c2.Nodes.map cNode), .v (.int .i64 c2.Most)])]) Try.func75 rfl rfl hr fun w0 X X0 σ0 => ?_
  refine pw_seq ?_
  refine pw_region ?_
  refine po_evs (T := tab) 1 rfl rfl ?_
  refine po_nil ?_
  refine pn_seq ?_
  refine pw_seq ?_
  refine pw_region ?_
  refine po_evs (T := tab) 3 rfl rfl ?_
  refine po_idx (T := tab) cNode c2.Nodes rfl rfl rfl rfl rfl rfl rfl fun y3 hy3 => ?_
  refine po_evs (T := tab) 4 rfl rfl ?_
  refine po_nil ?_
  refine pn_seq ?_
  exact pw_retN (T := tab) rfl rfl rfl ⟨rfl, rfl⟩ ⟨rfl, trivial⟩ rfl

def Slices_IndexFunc_int_v2_l1 (t1 : Int → Option Bool) (l1 : (List Int)) : Nat → Int → Option Int
  | 0, _ => none
  | k1 + 1, t3 => cnd (decide (t3 < ((l1.length : Nat) : Int))) (bnd (idx l1 t3) fun y4 => bnd (t1 y4) fun r5 => cnd r5 (some t3) (bnd (rng .i64 (t3 + 1)) fun i6 => (Slices_IndexFunc_int_v2_l1 t1 l1 k1) i6)) (some (-1))

def Slices_IndexFunc_int_v2_m (fu : Nat) (t1 : Int → Option Bool) (l1 : (List Int)) : Option Int := (Slices_IndexFunc_int_v2_l1 t1 l1) fu 0

set_option maxHeartbeats 10000000 in
set_option maxRecDepth 100000 in
theorem Slices_IndexFunc_int_i3_ok (fu : Nat) (l1 : (List Int)) (c2 : Forest) : ∀ r, Slices_IndexFunc_int_v2_m fu (fun (z1 : Int) => Shade_Elems_1_m fu z1 c2) l1 = some r → FC Try.prog 105 [.own 900000, .fn (.func 75) [] [.loc 900001 0]] [(900000, .arr 3 1 (l1.map cInt_i64)), (900001, .box [.sl 10 false (c2.Nodes.map cNode), .v (.int .i64 c2.Most)])] [900000, 900001] fun p S' => p = .v (.int .i64 r) ∧ S' = [(900000, .arr 3 1 (l1.map cInt_i64)), (900001, .box [.sl 10 false (c2.Nodes.map cNode), .v (.int .i64 c2.Most)])] := by
  intro r hr
  refine fc_intro (args := [.own 900000, .fn (.func 75) [] [.loc 900001 0]]) (S := [(900000, .arr 3 1 (l1.map cInt_i64)), (900001, .box [.sl 10 false (c2.Nodes.map cNode), .v (.int .i64 c2.Most)])]) (N0 := [900000, 900001]) (post := fun r p S => p = .v (.int .i64 r) ∧ S = [(900000, .arr 3 1 (l1.map cInt_i64)), (900001, .box [.sl 10 false (c2.Nodes.map cNode), .v (.int .i64 c2.Most)])]) Try.func105 rfl rfl hr fun w0 X X0 σ0 => ?_
  refine pw_seq ?_
  refine pw_region ?_
  refine po_evs (T := tab) 1 rfl rfl ?_
  refine po_nil ?_
  refine pn_seq ?_
  refine pw_seq ?_
  refine pw_seq ?_
  refine pw_region ?_
  refine po_evs (T := tab) 1 rfl rfl ?_
  refine po_len_own (T := tab) cInt_i64 l1 rfl rfl rfl rfl rfl rfl rfl rfl rfl ?_
  refine po_evs (T := tab) 1 rfl rfl ?_
  refine po_nil ?_
  refine pn_seq ?_
  refine pw_block ?_
  refine pw_loop' (Slices_IndexFunc_int_v2_l1 (fun (z1 : Int) => Shade_Elems_1_m fu z1 c2) l1) (fun (t3 : Int) => [(0, .own 900000), (1, .fn (.func 75) [] [.loc 900001 0]), (7, .v (.int .i64 ((l1.length : Nat) : Int))), (8, .v (.int .i64 t3))]) (fun (t3 : Int) => [(900000, .arr 3 1 (l1.map cInt_i64)), (900001, .box [.sl 10 false (c2.Nodes.map cNode), .v (.int .i64 c2.Most)])]) fu 0 (fun _ => rfl) ⟨rfl, rfl, rfl, rfl, trivial⟩ ⟨rfl, rfl, trivial⟩ rfl ?_
  rintro k1 t3
  refine pw_seq ?_
  refine pw_region ?_
  refine po_evs (T := tab) 1 rfl rfl ?_
  refine po_nil ?_
  refine pn_seq ?_
  refine pw_seq ?_
  refine pw_cnd rfl ?_ ?_
  · refine pw_skip ?_
    refine pn_seq ?_
    refine pw_seq ?_
    refine pw_block ?_
    refine pw_seq ?_
    refine pw_region ?_
    refine po_evs (T := tab) 2 rfl rfl ?_
    refine po_nil ?_
    refine pn_seq ?_
    refine pw_seq ?_
    refine pw_region ?_
    refine po_evs (T := tab) 3 rfl rfl ?_
    refine po_idx_own (T := tab) cInt_i64 l1 rfl rfl rfl rfl rfl rfl rfl rfl fun y4 hy4 => ?_
    refine po_load_ela (T := tab) cInt_i64 l1 y4 (idx_at hy4) rfl rfl rfl rfl rfl rfl rfl rfl ?_
    refine po_callv (enc := fun (r5 : Bool) => .v (.bool r5)) (first := []) (cap := [.loc 900001 0]) (qs := [.v (.int .i64 y4)]) (Sc := [(900001, .box [.sl 10 false (c2.Nodes.map cNode), .v (.int .i64 c2.Most)])]) (fun r5 hr5 => fc_ren [(900000, 900001)] [900000] (Shade_Elems_1_ok fu y4 c2 _ hr5) rfl rfl rfl rfl rfl rfl) (subS_of ⟨rfl, trivial⟩ rfl) rfl rfl rfl rfl ⟨⟨_, rfl, .rfl⟩, trivial⟩ (fun _ => rfl) call75 rfl rfl fun r5 hr5 => ?_
    refine po_nil ?_
    refine pn_seq ?_
    refine pw_cnd rfl ?_ ?_
    · refine pw_seq ?_
      refine pw_region ?_
      refine po_evs (T := tab) 2 rfl rfl ?_
      refine po_nil ?_
      refine pn_seq ?_
      exact pw_retN (T := tab) rfl rfl rfl ⟨rfl, rfl⟩ ⟨rfl, rfl, trivial⟩ rfl
    · refine pw_skip ?_
      refine pn_block ?_
      refine pn_seq ?_
      refine pw_region ?_
      refine po_arith' (T := tab) rfl rfl rfl rfl fun i6 hi6 => ?_
      refine po_evs (T := tab) 1 rfl rfl ?_
      refine po_nil ?_
      exact pn_iter' i6 ⟨rfl, rfl, rfl, rfl, trivial⟩ ⟨rfl, rfl, trivial⟩ rfl
  · refine pw_exit rfl ?_
    refine pn_seq ?_
    refine pw_seq ?_
    refine pw_region ?_
    refine po_evs (T := tab) 1 rfl rfl ?_
    refine po_nil ?_
    refine pn_seq ?_
    exact pw_retN (T := tab) rfl rfl rfl ⟨rfl, rfl⟩ ⟨rfl, rfl, trivial⟩ rfl

def Slices_DeleteFunc_int_l1 (t1 : Int → Option Bool) : Nat → Int × Int × (List Int) → Option (List Int)
  | 0, _ => none
  | k1 + 1, (i5, j6, l7) => cnd (decide (j6 < ((l7.length : Nat) : Int))) (bnd (idx l7 j6) fun y8 => bnd (t1 y8) fun r9 => cnd (!r9) (bnd (idx l7 i5) fun y10 => bnd (rng .i64 (i5 + 1)) fun i11 => bnd (rng .i64 (j6 + 1)) fun i12 => (Slices_DeleteFunc_int_l1 t1 k1) (i11, i12, (l7.set (i5).toNat y8))) (bnd (rng .i64 (j6 + 1)) fun i13 => (Slices_DeleteFunc_int_l1 t1 k1) (i5, i13, l7))) (bnd (tailz l7 i5 (0 : Int)) fun l14 => bnd (piece l14 0 i5) fun l15 => some l15)

def Slices_DeleteFunc_int_m (fu : Nat) (t1 : Int → Option Bool) (l1 : (List Int)) : Option (List Int) := bnd (Slices_IndexFunc_int_v2_m fu t1 l1) fun r3 => cnd (r3 == (-1)) (some l1) (bnd (rng .i64 (r3 + 1)) fun i4 => (Slices_DeleteFunc_int_l1 t1) fu (r3, i4, l1))

set_option maxHeartbeats 10000000 in
set_option maxRecDepth 100000 in
theorem Slices_DeleteFunc_int_ok (fu : Nat) (l1 : (List Int)) (c2 : Forest) : ∀ r, Slices_DeleteFunc_int_m fu (fun (z1 : Int) => Shade_Elems_1_m fu z1 c2) l1 = some r → FC Try.prog 74 [.own 900000, .fn (.func 75) [] [.loc 900001 0]] [(900000, .arr 3 1 (l1.map cInt_i64)), (900001, .box [.sl 10 false (c2.Nodes.map cNode), .v (.int .i64 c2.Most)])] [900001] fun p S' => p = .own 900000 ∧ S' = [(900000, .arr 3 1 (r.map cInt_i64)), (900001, .box [.sl 10 false (c2.Nodes.map cNode), .v (.int .i64 c2.Most)])] := by
  intro r hr
  refine fc_intro (args := [.own 900000, .fn (.func 75) [] [.loc 900001 0]]) (S := [(900000, .arr 3 1 (l1.map cInt_i64)), (900001, .box [.sl 10 false (c2.Nodes.map cNode), .v (.int .i64 c2.Most)])]) (N0 := [900001]) (post := fun r p S => p = .own 900000 ∧ S = [(900000, .arr 3 1 (r.map cInt_i64)), (900001, .box [.sl 10 false (c2.Nodes.map cNode), .v (.int .i64 c2.Most)])]) Try.func74 rfl rfl hr fun w0 X X0 σ0 => ?_
  refine pw_seq ?_
  refine pw_region ?_
  refine po_evs (T := tab) 1 rfl rfl ?_
  refine po_nil ?_
  refine pn_seq ?_
  refine pw_seq ?_
  refine pw_region ?_
  refine po_evs (T := tab) 2 rfl rfl ?_
  refine po_callv (enc := fun (r3 : Int) => .v (.int .i64 r3)) (first := []) (cap := []) (qs := [.own 900000, .fn (.func 75) [] [.loc 900001 0]]) (Sc := [(900000, .arr 3 1 (l1.map cInt_i64)), (900001, .box [.sl 10 false (c2.Nodes.map cNode), .v (.int .i64 c2.Most)])]) (fun r3 hr3 => fc_ren [(900000, 900000), (900001, 900001)] [900000, 900001] (Slices_IndexFunc_int_i3_ok fu l1 c2 _ hr3) rfl rfl rfl rfl rfl rfl) (subS_of ⟨rfl, rfl, trivial⟩ rfl) rfl rfl rfl rfl ⟨⟨_, rfl, .rfl⟩, ⟨_, rfl, .rfl⟩, trivial⟩ (fun _ => rfl) call105 rfl rfl fun r3 hr3 => ?_
  refine po_evs (T := tab) 1 rfl rfl ?_
  refine po_nil ?_
  refine pn_seq ?_
  refine pw_seq ?_
  refine pw_seq ?_
  refine pw_region ?_
  refine po_evs (T := tab) 2 rfl rfl ?_
  refine po_nil ?_
  refine pn_seq ?_
  refine pw_cnd rfl ?_ ?_
  · refine pw_seq ?_
    refine pw_region ?_
    refine po_evs (T := tab) 2 rfl rfl ?_
    refine po_nil ?_
    refine pn_seq ?_
    exact pw_retN (T := tab) rfl rfl rfl ⟨rfl, rfl⟩ ⟨rfl, rfl, trivial⟩ rfl
  · refine pw_skip ?_
    refine pn_seq ?_
    refine pw_seq ?_
    refine pw_seq ?_
    refine pw_region ?_
    refine po_evs (T := tab) 1 rfl rfl ?_
    refine po_arith' (T := tab) rfl rfl rfl rfl fun i4 hi4 => ?_
    refine po_evs (T := tab) 1 rfl rfl ?_
    refine po_nil ?_
    refine pn_seq ?_
    refine pw_block ?_
    refine pw_loop' (Slices_DeleteFunc_int_l1 (fun (z1 : Int) => Shade_Elems_1_m fu z1 c2)) (fun ((i5, j6, l7) : Int × Int × (List Int)) => [(0, .own 900000), (1, .fn (.func 75) [] [.loc 900001 0]), (5, .v (.int .i64 i5)), (6, .v (.int .i64 j6))]) (fun ((i5, j6, l7) : Int × Int × (List Int)) => [(900000, .arr 3 1 (l7.map cInt_i64)), (900001, .box [.sl 10 false (c2.Nodes.map cNode), .v (.int .i64 c2.Most)])]) fu (r3, i4, l1) (fun _ => rfl) ⟨rfl, rfl, rfl, rfl, trivial⟩ ⟨rfl, rfl, trivial⟩ rfl ?_
    rintro k1 ⟨i5, j6, l7⟩
    refine pw_seq ?_
    refine pw_seq ?_
    refine pw_region ?_
    refine po_evs (T := tab) 2 rfl rfl ?_
    refine po_len_own (T := tab) cInt_i64 l7 rfl rfl rfl rfl rfl rfl rfl rfl rfl ?_
    refine po_evs (T := tab) 1 rfl rfl ?_
    refine po_nil ?_
    refine pn_seq ?_
    refine pw_cnd rfl ?_ ?_
    · refine pw_skip ?_
      refine pn_seq ?_
      refine pw_seq ?_
      refine pw_block ?_
      refine pw_seq ?_
      refine pw_region ?_
      refine po_evs (T := tab) 2 rfl rfl ?_
      refine po_idx_own (T := tab) cInt_i64 l7 rfl rfl rfl rfl rfl rfl rfl rfl fun y8 hy8 => ?_
      refine po_load_ela (T := tab) cInt_i64 l7 y8 (idx_at hy8) rfl rfl rfl rfl rfl rfl rfl rfl ?_
      refine po_evs (T := tab) 1 rfl rfl ?_
      refine po_nil ?_
      refine pn_seq ?_
      refine pw_seq ?_
      refine pw_region ?_
      refine po_evs (T := tab) 2 rfl rfl ?_
      refine po_callv (enc := fun (r9 : Bool) => .v (.bool r9)) (first := []) (cap := [.loc 900001 0]) (qs := [.v (.int .i64 y8)]) (Sc := [(900001, .box [.sl 10 false (c2.Nodes.map cNode), .v (.int .i64 c2.Most)])]) (fun r9 hr9 => fc_ren [(900000, 900001)] [900000] (Shade_Elems_1_ok fu y8 c2 _ hr9) rfl rfl rfl rfl rfl rfl) (subS_of ⟨rfl, trivial⟩ rfl) rfl rfl rfl rfl ⟨⟨_, rfl, .rfl⟩, trivial⟩ (fun _ => rfl) call75 rfl rfl fun r9 hr9 => ?_
      refine po_evs (T := tab) 1 rfl rfl ?_
      refine po_nil ?_
      refine pn_seq ?_
      refine pw_cnd rfl ?_ ?_
      · refine pw_seq ?_
        refine pw_region ?_
        refine po_evs (T := tab) 3 rfl rfl ?_
        refine po_idx_own (T := tab) cInt_i64 l7 rfl rfl rfl rfl rfl rfl rfl rfl fun y10 hy10 => ?_
        refine po_store_ela (T := tab) cInt_i64 l7 y10 y8 (idx_at hy10) rfl rfl rfl rfl rfl rfl rfl rfl rfl rfl rfl rfl rfl ?_
        refine po_nil ?_
        refine pn_seq ?_
        refine pw_region ?_
        refine po_evs (T := tab) 1 rfl rfl ?_
        refine po_arith' (T := tab) rfl rfl rfl rfl fun i11 hi11 => ?_
        refine po_evs (T := tab) 1 rfl rfl ?_
        refine po_nil ?_
        refine pn_block ?_
        refine pn_seq ?_
        refine pw_region ?_
        refine po_evs (T := tab) 1 rfl rfl ?_
        refine po_arith' (T := tab) rfl rfl rfl rfl fun i12 hi12 => ?_
        refine po_evs (T := tab) 1 rfl rfl ?_
        refine po_nil ?_
        exact pn_iter' (i11, i12, (l7.set (i5).toNat y8)) ⟨rfl, rfl, rfl, rfl, trivial⟩ ⟨rfl, rfl, trivial⟩ rfl
      · refine pw_skip ?_
        refine pn_block ?_
        refine pn_seq ?_
        refine pw_region ?_
        refine po_evs (T := tab) 1 rfl rfl ?_
        refine po_arith' (T := tab) rfl rfl rfl rfl fun i13 hi13 => ?_
        refine po_evs (T := tab) 1 rfl rfl ?_
        refine po_nil ?_
        exact pn_iter' (i5, i13, l7) ⟨rfl, rfl, rfl, rfl, trivial⟩ ⟨rfl, rfl, trivial⟩ rfl
    · refine pw_exit rfl ?_
      refine pn_seq ?_
      refine pw_seq ?_
      refine pw_region ?_
      refine po_evs (T := tab) 2 rfl rfl ?_
      refine po_clear (T := tab) cInt_i64 l7 (0 : Int) (S' := fun l14 => [(900000, .arr 3 1 (l14.map cInt_i64)), (900001, .box [.sl 10 false (c2.Nodes.map cNode), .v (.int .i64 c2.Most)])]) rfl rfl rfl rfl rfl rfl rfl rfl rfl rfl rfl rfl rfl rfl rfl rfl rfl rfl (fun _ => rfl) fun l14 hl14 => ?_
      refine po_nil ?_
      refine pn_seq ?_
      refine pw_seq ?_
      refine pw_region ?_
      refine po_evs (T := tab) 2 rfl rfl ?_
      refine po_own_cut (T := tab) cInt_i64 l14 rfl rfl rfl rfl rfl rfl rfl rfl rfl rfl rfl fun l15 hl15 => ?_
      refine po_evs (T := tab) 1 rfl rfl ?_
      refine po_nil ?_
      refine pn_seq ?_
      exact pw_retN (T := tab) rfl rfl rfl ⟨rfl, rfl⟩ ⟨rfl, rfl, trivial⟩ rfl

def Shade_Elems_m (fu : Nat) (f1 : Forest) (n2 : Int) : Option (List Int) := bnd (Shade_All_m fu f1 n2) fun r3 => bnd (Slices_DeleteFunc_int_m fu (fun (z1 : Int) => Shade_Elems_1_m fu z1 f1) r3) fun r4 => some r4

set_option maxRecDepth 100000 in
theorem Shade_Elems_ok (fu : Nat) (f1 : Forest) (n2 : Int) : ∀ r, Shade_Elems_m fu f1 n2 = some r → DC Try.prog 42 [.agg (cForest f1), .v (.int .i64 n2)] (.sl 1 false (r.map cInt_i64)) := by
  intro r hr
  refine fc_intro (args := [.agg (cForest f1), .v (.int .i64 n2)]) (S := []) (N0 := []) (post := fun r p S => p = .sl 1 false (r.map cInt_i64) ∧ S = []) Try.func42 rfl rfl hr fun w0 X X0 σ0 => ?_
  refine pw_seq ?_
  refine pw_region ?_
  refine po_box  2 rfl rfl rfl rfl rfl rfl rfl rfl rfl rfl ?_
  refine po_evs (T := tab) 1 rfl rfl ?_
  refine po_nil ?_
  refine pn_seq ?_
  refine pw_seq ?_
  refine pw_region ?_
  refine po_evs (T := tab) 2 rfl rfl ?_
  refine po_turn [2070] (enc := fun (r3 : (List Int)) => .own 2070) (Sr := fun (r3 : (List Int)) => [(2070, .arr 3 1 (r3.map cInt_i64))]) (first := []) (cap := []) (qs := [.agg (cForest f1), .v (.int .i64 n2)]) (Sc := []) (N0 := []) (NR := [2070]) (fun r3 hr3 => fc_ren [(1035, 2070)] [1035] (Shade_All_ok fu f1 n2 _ hr3) rfl rfl rfl rfl rfl rfl) trivial (fun _ => rfl) rfl rfl rfl rfl rfl rfl rfl (fun _ => rfl) (fun _ => rfl) rfl rfl rfl ⟨⟨_, rfl, .rfl⟩, ⟨_, rfl, .rfl⟩, trivial⟩ call41 rfl rfl fun r3 hr3 => ?_
  refine po_evs (T := tab) 1 rfl rfl ?_
  refine po_turn [2070] (enc := fun (r4 : (List Int)) => .own 2070) (Sr := fun (r4 : (List Int)) => [(2070, .arr 3 1 (r4.map cInt_i64)), (2, .box [.sl 10 false (f1.Nodes.map cNode), .v (.int .i64 f1.Most)])]) (first := []) (cap := []) (qs := [.own 2070, .fn (.func 75) [] [.loc 2 0]]) (Sc := [(2070, .arr 3 1 (r3.map cInt_i64)), (2, .box [.sl 10 false (f1.Nodes.map cNode), .v (.int .i64 f1.Most)])]) (N0 := [2]) (NR := [2070, 2]) (fun r4 hr4 => fc_ren [(900000, 2070), (900001, 2)] [900000, 900001] (Slices_DeleteFunc_int_ok fu r3 f1 _ hr4) rfl rfl rfl rfl rfl rfl) ⟨rfl, rfl, trivial⟩ (fun _ => rfl) rfl rfl rfl rfl rfl rfl rfl (fun _ => rfl) (fun _ => rfl) rfl rfl rfl ⟨⟨_, rfl, .rfl⟩, ⟨_, rfl, .rfl⟩, trivial⟩ call74 rfl rfl fun r4 hr4 => ?_
  refine po_evs (T := tab) 1 rfl rfl ?_
  refine po_nil ?_
  refine pn_seq ?_
  refine pw_freeze 2070 rfl rfl rfl ?_
  exact pw_retN (T := tab) rfl rfl rfl ⟨rfl, rfl⟩ trivial rfl

def Instarlaw04_awake_m (fu : Nat) : Option Bool := bnd (Forest_New_m fu 5) fun r1 => bnd (Forest_Make_m fu r1.1 (⟨1, [100, 105, 118], [], [], [], 0, [], 0, 0, 0⟩ : Node)) fun r2 => bnd (Shade_Attach_m fu r2.1 r2.2.1) fun r3 => bnd (Shade_Attach_m fu r3.1 r2.2.1) fun r4 => bnd (Shade_All_m fu r3.1 r2.2.1) fun r5 => cnd (r1.2 == 0) (cnd (r2.2.2 == 0) (cnd (r3.2.2 == 0) (cnd (r3.2.1 == 2) (cnd (r4.2.2 == 10) (cnd (((r5.length : Nat) : Int) == 2) (bnd (idx r5 1) fun y6 => cnd (y6 == 2) (bnd (Shade_Top_m fu r3.1 r3.2.1) fun r7 => cnd (r7 == r2.2.1) (bnd (Shade_Connected_m fu r3.1 r3.2.1) fun r8 => cnd (!r8) (bnd (Shade_Connected_m fu r3.1 0) fun r9 => cnd r9 (bnd (Shade_Over_m fu r3.1 r2.2.1 r3.2.1) fun r10 => cnd r10 (bnd (Shade_Elems_m fu r3.1 r2.2.1) fun r11 => some (((r11.length : Nat) : Int) == 1)) (some false)) (some false)) (some false)) (some false)) (some false)) (some false)) (some false)) (some false)) (some false)) (some false)) (some false)

set_option maxHeartbeats 10000000 in
set_option maxRecDepth 100000 in
theorem Instarlaw04_awake_ok (fu : Nat) : ∀ r, Instarlaw04_awake_m fu = some r → DC Try.prog 37 [] (.v (.bool r)) := by
  intro r hr
  refine fc_intro (args := []) (S := []) (N0 := []) (post := fun r p S => p = .v (.bool r) ∧ S = []) Try.func37 rfl rfl hr fun w0 X X0 σ0 => ?_
  refine pw_seq ?_
  refine pw_region ?_
  refine po_evs (T := tab) 1 rfl rfl ?_
  refine po_nil ?_
  refine pn_seq ?_
  refine pw_seq ?_
  refine pw_region ?_
  refine po_call (enc := fun (r1 : (Forest × Int)) => .tup [.agg (cForest r1.1), .v (.int .i64 r1.2)]) (qs := [.v (.int .i64 5)]) (Forest_New_ok fu 5) rfl rfl ⟨⟨_, rfl, .rfl⟩, trivial⟩ (fun _ => rfl) call17 rfl rfl fun r1 hr1 => ?_
  refine po_evs (T := tab) 3 rfl rfl ?_
  refine po_alloc (T := tab) 1 rfl rfl rfl rfl rfl rfl rfl rfl rfl ?_
  refine po_store (T := tab) rfl rfl rfl rfl rfl rfl rfl rfl rfl rfl rfl rfl ?_
  refine po_evs (T := tab) 1 rfl rfl ?_
  refine po_nil ?_
  refine pn_seq ?_
  refine pw_seq ?_
  refine pw_region ?_
  refine po_evs (T := tab) 1 rfl rfl ?_
  refine po_build (T := tab) rfl rfl rfl rfl rfl rfl rfl ?_
  refine po_call (enc := fun (r2 : (Forest × Int × Int)) => .tup [.agg (cForest r2.1), .v (.int .i64 r2.2.1), .v (.int .i64 r2.2.2)]) (qs := [.agg (cForest r1.1), .agg (cNode (⟨1, [100, 105, 118], [], [], [], 0, [], 0, 0, 0⟩ : Node))]) (Forest_Make_ok fu r1.1 (⟨1, [100, 105, 118], [], [], [], 0, [], 0, 0, 0⟩ : Node)) rfl rfl ⟨⟨_, rfl, .rfl⟩, ⟨_, rfl, (.agg ⟨.rfl, .rfl, .rfl, .rfl, .nil, .rfl, .nil, .rfl, .rfl, .rfl, trivial⟩)⟩, trivial⟩ (fun _ => rfl) call18 rfl rfl fun r2 hr2 => ?_
  refine po_evs (T := tab) 4 rfl rfl ?_
  refine po_store (T := tab) rfl rfl rfl rfl rfl rfl rfl rfl rfl rfl rfl rfl ?_
  refine po_evs (T := tab) 2 rfl rfl ?_
  refine po_nil ?_
  refine pn_seq ?_
  refine pw_seq ?_
  refine pw_region ?_
  refine po_evs (T := tab) 2 rfl rfl ?_
  refine po_call (enc := fun (r3 : (Forest × Int × Int)) => .tup [.agg (cForest r3.1), .v (.int .i64 r3.2.1), .v (.int .i64 r3.2.2)]) (qs := [.agg (cForest r2.1), .v (.int .i64 r2.2.1)]) (Shade_Attach_ok fu r2.1 r2.2.1) rfl rfl ⟨⟨_, rfl, .rfl⟩, ⟨_, rfl, .rfl⟩, trivial⟩ (fun _ => rfl) call38 rfl rfl fun r3 hr3 => ?_
  refine po_evs (T := tab) 4 rfl rfl ?_
  refine po_store (T := tab) rfl rfl rfl rfl rfl rfl rfl rfl rfl rfl rfl rfl ?_
  refine po_evs (T := tab) 2 rfl rfl ?_
  refine po_nil ?_
  refine pn_seq ?_
  refine pw_seq ?_
  refine pw_region ?_
  refine po_evs (T := tab) 2 rfl rfl ?_
  refine po_call (enc := fun (r4 : (Forest × Int × Int)) => .tup [.agg (cForest r4.1), .v (.int .i64 r4.2.1), .v (.int .i64 r4.2.2)]) (qs := [.agg (cForest r3.1), .v (.int .i64 r2.2.1)]) (Shade_Attach_ok fu r3.1 r2.2.1) rfl rfl ⟨⟨_, rfl, .rfl⟩, ⟨_, rfl, .rfl⟩, trivial⟩ (fun _ => rfl) call38 rfl rfl fun r4 hr4 => ?_
  refine po_evs (T := tab) 4 rfl rfl ?_
  refine po_alloc (T := tab) 7 rfl rfl rfl rfl rfl rfl rfl rfl rfl ?_
  refine po_store (T := tab) rfl rfl rfl rfl rfl rfl rfl rfl rfl rfl rfl rfl ?_
  refine po_evs (T := tab) 2 rfl rfl ?_
  refine po_nil ?_
  refine pn_seq ?_
  refine pw_seq ?_
  refine pw_region ?_
  refine po_evs (T := tab) 2 rfl rfl ?_
  refine po_turn [2380] (enc := fun (r5 : (List Int)) => .own 2380) (Sr := fun (r5 : (List Int)) => [(2380, .arr 3 1 (r5.map cInt_i64))]) (first := []) (cap := []) (qs := [.agg (cForest r3.1), .v (.int .i64 r2.2.1)]) (Sc := []) (N0 := []) (NR := [2380]) (fun r5 hr5 => fc_ren [(1035, 2380)] [1035] (Shade_All_ok fu r3.1 r2.2.1 _ hr5) rfl rfl rfl rfl rfl rfl) trivial (fun _ => rfl) rfl rfl rfl rfl rfl rfl rfl (fun _ => rfl) (fun _ => rfl) rfl rfl rfl ⟨⟨_, rfl, .rfl⟩, ⟨_, rfl, .rfl⟩, trivial⟩ call41 rfl rfl fun r5 hr5 => ?_
  refine po_freeze 2380 rfl rfl rfl ?_
  refine po_evs (T := tab) 1 rfl rfl ?_
  refine po_nil ?_
  refine pn_seq ?_
  refine pw_seq ?_
  refine pw_region ?_
  refine po_evs (T := tab) 3 rfl rfl ?_
  refine po_split (j := 41) rfl ?_ ?_
  · refine po_evs (T := tab) 4 rfl rfl ?_
    refine po_split (j := 45) rfl ?_ ?_
    · refine po_evs (T := tab) 4 rfl rfl ?_
      refine po_split (j := 49) rfl ?_ ?_
      · refine po_evs (T := tab) 4 rfl rfl ?_
        refine po_split (j := 53) rfl ?_ ?_
        · refine po_evs (T := tab) 4 rfl rfl ?_
          refine po_split (j := 57) rfl ?_ ?_
          · refine po_evs (T := tab) 1 rfl rfl ?_
            refine po_len (T := tab) cInt_i64 r5 rfl rfl rfl rfl rfl rfl rfl rfl ?_
            refine po_evs (T := tab) 3 rfl rfl ?_
            refine po_split (j := 62) rfl ?_ ?_
            · refine po_evs (T := tab) 1 rfl rfl ?_
              refine po_idx (T := tab) cInt_i64 r5 rfl rfl rfl rfl rfl rfl rfl fun y6 hy6 => ?_
              refine po_evs (T := tab) 4 rfl rfl ?_
              refine po_split (j := 68) rfl ?_ ?_
              · refine po_evs (T := tab) 2 rfl rfl ?_
                refine po_call (enc := fun (r7 : Int) => .v (.int .i64 r7)) (qs := [.agg (cForest r3.1), .v (.int .i64 r3.2.1)]) (Shade_Top_ok fu r3.1 r3.2.1) rfl rfl ⟨⟨_, rfl, .rfl⟩, ⟨_, rfl, .rfl⟩, trivial⟩ (fun _ => rfl) call39 rfl rfl fun r7 hr7 => ?_
                refine po_evs (T := tab) 4 rfl rfl ?_
                refine po_split (j := 75) rfl ?_ ?_
                · refine po_evs (T := tab) 2 rfl rfl ?_
                  refine po_call (enc := fun (r8 : Bool) => .v (.bool r8)) (qs := [.agg (cForest r3.1), .v (.int .i64 r3.2.1)]) (Shade_Connected_ok fu r3.1 r3.2.1) rfl rfl ⟨⟨_, rfl, .rfl⟩, ⟨_, rfl, .rfl⟩, trivial⟩ (fun _ => rfl) call40 rfl rfl fun r8 hr8 => ?_
                  refine po_evs (T := tab) 3 rfl rfl ?_
                  refine po_split (j := 81) rfl ?_ ?_
                  · refine po_evs (T := tab) 1 rfl rfl ?_
                    refine po_call (enc := fun (r9 : Bool) => .v (.bool r9)) (qs := [.agg (cForest r3.1), .v (.int .i64 0)]) (Shade_Connected_ok fu r3.1 0) rfl rfl ⟨⟨_, rfl, .rfl⟩, ⟨_, rfl, .rfl⟩, trivial⟩ (fun _ => rfl) call40 rfl rfl fun r9 hr9 => ?_
                    refine po_evs (T := tab) 2 rfl rfl ?_
                    refine po_split (j := 85) rfl ?_ ?_
                    · refine po_evs (T := tab) 3 rfl rfl ?_
                      refine po_call (enc := fun (r10 : Bool) => .v (.bool r10)) (qs := [.agg (cForest r3.1), .v (.int .i64 r2.2.1), .v (.int .i64 r3.2.1)]) (Shade_Over_ok fu r3.1 r2.2.1 r3.2.1) rfl rfl ⟨⟨_, rfl, .rfl⟩, ⟨_, rfl, .rfl⟩, ⟨_, rfl, .rfl⟩, trivial⟩ (fun _ => rfl) call43 rfl rfl fun r10 hr10 => ?_
                      refine po_evs (T := tab) 2 rfl rfl ?_
                      refine po_split (j := 91) rfl ?_ ?_
                      · refine po_evs (T := tab) 2 rfl rfl ?_
                        refine po_call (enc := fun (r11 : (List Int)) => .sl 1 false (r11.map cInt_i64)) (qs := [.agg (cForest r3.1), .v (.int .i64 r2.2.1)]) (Shade_Elems_ok fu r3.1 r2.2.1) rfl rfl ⟨⟨_, rfl, .rfl⟩, ⟨_, rfl, .rfl⟩, trivial⟩ (fun _ => rfl) call42 rfl rfl fun r11 hr11 => ?_
                        refine po_len (T := tab) cInt_i64 r11 rfl rfl rfl rfl rfl rfl rfl rfl ?_
                        refine po_evs (T := tab) 3 rfl rfl ?_
                        refine po_nil ?_
                        refine pn_seq ?_
                        exact pw_retN (T := tab) rfl rfl rfl ⟨rfl, rfl⟩ trivial rfl
                      · refine po_evs (T := tab) 7 rfl rfl ?_
                        refine po_nil ?_
                        refine pn_seq ?_
                        exact pw_retN (T := tab) rfl rfl rfl ⟨rfl, rfl⟩ trivial rfl
                    · refine po_evs (T := tab) 13 rfl rfl ?_
                      refine po_nil ?_
                      refine pn_seq ?_
                      exact pw_retN (T := tab) rfl rfl rfl ⟨rfl, rfl⟩ trivial rfl
                  · refine po_evs (T := tab) 17 rfl rfl ?_
                    refine po_nil ?_
                    refine pn_seq ?_
                    exact pw_retN (T := tab) rfl rfl rfl ⟨rfl, rfl⟩ trivial rfl
                · refine po_evs (T := tab) 23 rfl rfl ?_
                  refine po_nil ?_
                  refine pn_seq ?_
                  exact pw_retN (T := tab) rfl rfl rfl ⟨rfl, rfl⟩ trivial rfl
              · refine po_evs (T := tab) 30 rfl rfl ?_
                refine po_nil ?_
                refine pn_seq ?_
                exact pw_retN (T := tab) rfl rfl rfl ⟨rfl, rfl⟩ trivial rfl
            · refine po_evs (T := tab) 36 rfl rfl ?_
              refine po_nil ?_
              refine pn_seq ?_
              exact pw_retN (T := tab) rfl rfl rfl ⟨rfl, rfl⟩ trivial rfl
          · refine po_evs (T := tab) 41 rfl rfl ?_
            refine po_nil ?_
            refine pn_seq ?_
            exact pw_retN (T := tab) rfl rfl rfl ⟨rfl, rfl⟩ trivial rfl
        · refine po_evs (T := tab) 45 rfl rfl ?_
          refine po_nil ?_
          refine pn_seq ?_
          exact pw_retN (T := tab) rfl rfl rfl ⟨rfl, rfl⟩ trivial rfl
      · refine po_evs (T := tab) 49 rfl rfl ?_
        refine po_nil ?_
        refine pn_seq ?_
        exact pw_retN (T := tab) rfl rfl rfl ⟨rfl, rfl⟩ trivial rfl
    · refine po_evs (T := tab) 53 rfl rfl ?_
      refine po_nil ?_
      refine pn_seq ?_
      exact pw_retN (T := tab) rfl rfl rfl ⟨rfl, rfl⟩ trivial rfl
  · refine po_evs (T := tab) 57 rfl rfl ?_
    refine po_nil ?_
    refine pn_seq ?_
    exact pw_retN (T := tab) rfl rfl rfl ⟨rfl, rfl⟩ trivial rfl

def Instarref04_Top_m : Nat → Forest → Int → Option Int
  | 0, _, _ => none
  | fu + 1, f1, n2 => bnd (idx f1.Nodes n2) fun y3 => cnd (y3.Parent != (-1)) (bnd (idx f1.Nodes n2) fun y4 => bnd ((Instarref04_Top_m fu) f1 y4.Parent) fun r5 => some r5) (bnd (idx f1.Nodes n2) fun y6 => cnd (y6.Host != (-1)) (bnd (idx f1.Nodes n2) fun y7 => bnd ((Instarref04_Top_m fu) f1 y7.Host) fun r8 => some r8) (some n2))

set_option maxHeartbeats 10000000 in
set_option maxRecDepth 100000 in
theorem Instarref04_Top_ok : ∀ (fu : Nat) (f1 : Forest) (n2 : Int) r, Instarref04_Top_m fu f1 n2 = some r → DC Try.prog 45 [.agg (cForest f1), .v (.int .i64 n2)] (.v (.int .i64 r))
  | 0, _, _, _, h => by cases h
  | fu + 1, f1, n2, r, hr => by
    have ih := Instarref04_Top_ok fu
    refine fc_intro (args := [.agg (cForest f1), .v (.int .i64 n2)]) (S := []) (N0 := []) (post := fun r p S => p = .v (.int .i64 r) ∧ S = []) Try.func45 rfl rfl hr fun w0 X X0 σ0 => ?_
    refine pw_seq ?_
    refine pw_region ?_
    refine po_box  2 rfl rfl rfl rfl rfl rfl rfl rfl rfl rfl ?_
    refine po_evs (T := tab) 1 rfl rfl ?_
    refine po_nil ?_
    refine pn_seq ?_
    refine pw_seq ?_
    refine pw_seq ?_
    refine pw_region ?_
    refine po_evs (T := tab) 3 rfl rfl ?_
    refine po_idx (T := tab) cNode f1.Nodes rfl rfl rfl rfl rfl rfl rfl fun y3 hy3 => ?_
    refine po_evs (T := tab) 3 rfl rfl ?_
    refine po_nil ?_
    refine pn_seq ?_
    refine pw_cnd rfl ?_ ?_
    · refine pw_seq ?_
      refine pw_draw mixed (by kernel_rfl) ?_
      refine pd_evs (T := tab) 4 rfl rfl ?_
      refine pd_idx (T := tab) cNode f1.Nodes rfl rfl rfl rfl rfl rfl rfl fun y4 hy4 => ?_
      refine pd_evs (T := tab) 2 rfl rfl ?_
      refine pd_call (enc := fun (r5 : Int) => .v (.int .i64 r5)) (qs := [.agg (cForest f1), .v (.int .i64 y4.Parent)]) (ih f1 y4.Parent) rfl rfl ⟨⟨_, rfl, .rfl⟩, ⟨_, rfl, .rfl⟩, trivial⟩ (fun _ => rfl) call45 rfl rfl fun r5 hr5 => ?_
      refine pd_evs (T := tab) 1 rfl rfl ?_
      refine pd_nil ?_
      refine pn_seq ?_
      exact pw_retN (T := tab) rfl rfl rfl ⟨rfl, rfl⟩ trivial rfl
    · refine pw_skip ?_
      refine pn_seq ?_
      refine pw_seq ?_
      refine pw_seq ?_
      refine pw_region ?_
      refine po_evs (T := tab) 3 rfl rfl ?_
      refine po_idx (T := tab) cNode f1.Nodes rfl rfl rfl rfl rfl rfl rfl fun y6 hy6 => ?_
      refine po_evs (T := tab) 3 rfl rfl ?_
      refine po_nil ?_
      refine pn_seq ?_
      refine pw_cnd rfl ?_ ?_
      · refine pw_seq ?_
        refine pw_draw mixed (by kernel_rfl) ?_
        refine pd_evs (T := tab) 4 rfl rfl ?_
        refine pd_idx (T := tab) cNode f1.Nodes rfl rfl rfl rfl rfl rfl rfl fun y7 hy7 => ?_
        refine pd_evs (T := tab) 2 rfl rfl ?_
        refine pd_call (enc := fun (r8 : Int) => .v (.int .i64 r8)) (qs := [.agg (cForest f1), .v (.int .i64 y7.Host)]) (ih f1 y7.Host) rfl rfl ⟨⟨_, rfl, .rfl⟩, ⟨_, rfl, .rfl⟩, trivial⟩ (fun _ => rfl) call45 rfl rfl fun r8 hr8 => ?_
        refine pd_evs (T := tab) 1 rfl rfl ?_
        refine pd_nil ?_
        refine pn_seq ?_
        exact pw_retN (T := tab) rfl rfl rfl ⟨rfl, rfl⟩ trivial rfl
      · refine pw_skip ?_
        refine pn_seq ?_
        refine pw_seq ?_
        refine pw_region ?_
        refine po_evs (T := tab) 2 rfl rfl ?_
        refine po_nil ?_
        refine pn_seq ?_
        exact pw_retN (T := tab) rfl rfl rfl ⟨rfl, rfl⟩ trivial rfl

def Instarref04_Connected_m (fu : Nat) (f1 : Forest) (n2 : Int) : Option Bool := bnd (Instarref04_Top_m fu f1 n2) fun r3 => bnd (idx f1.Nodes r3) fun y4 => some (y4.Kind == 0)

set_option maxRecDepth 100000 in
theorem Instarref04_Connected_ok (fu : Nat) (f1 : Forest) (n2 : Int) : ∀ r, Instarref04_Connected_m fu f1 n2 = some r → DC Try.prog 46 [.agg (cForest f1), .v (.int .i64 n2)] (.v (.bool r)) := by
  intro r hr
  refine fc_intro (args := [.agg (cForest f1), .v (.int .i64 n2)]) (S := []) (N0 := []) (post := fun r p S => p = .v (.bool r) ∧ S = []) Try.func46 rfl rfl hr fun w0 X X0 σ0 => ?_
  refine pw_seq ?_
  refine pw_region ?_
  refine po_box  2 rfl rfl rfl rfl rfl rfl rfl rfl rfl rfl ?_
  refine po_evs (T := tab) 1 rfl rfl ?_
  refine po_nil ?_
  refine pn_seq ?_
  refine pw_seq ?_
  refine pw_draw mixed (by kernel_rfl) ?_
  refine pd_evs (T := tab) 4 rfl rfl ?_
  refine pd_call (enc := fun (r3 : Int) => .v (.int .i64 r3)) (qs := [.agg (cForest f1), .v (.int .i64 n2)]) (Instarref04_Top_ok fu f1 n2) rfl rfl ⟨⟨_, rfl, .rfl⟩, ⟨_, rfl, .rfl⟩, trivial⟩ (fun _ => rfl) call45 rfl rfl fun r3 hr3 => ?_
  refine pd_idx (T := tab) cNode f1.Nodes rfl rfl rfl rfl rfl rfl rfl fun y4 hy4 => ?_
  refine pd_evs (T := tab) 4 rfl rfl ?_
  refine pd_nil ?_
  refine pn_seq ?_
  exact pw_retN (T := tab) rfl rfl rfl ⟨rfl, rfl⟩ trivial rfl

def Instarref04_All_l1 (sf : Forest → Int → Option (List Int)) (f1 : Forest) (n2 : Int) : Nat → Int × (List Int) → Option (List Int)
  | 0, _ => none
  | k1 + 1, (i7, l8) => bnd (idx f1.Nodes n2) fun y9 => cnd (decide (i7 < ((y9.Kids.length : Nat) : Int))) (bnd (idx f1.Nodes n2) fun y10 => bnd (idx y10.Kids i7) fun y11 => bnd (sf f1 y11) fun r12 => bnd (roomy 8 (l8.length + r12.length)) fun _ => bnd (rng .i64 (i7 + 1)) fun i13 => (Instarref04_All_l1 sf f1 n2 k1) (i13, (l8 ++ r12))) (some l8)

def Instarref04_All_j1 (sf : Forest → Int → Option (List Int)) (fu : Nat) (f1 : Forest) (n2 : Int) (l6 : (List Int)) : Option (List Int) := (Instarref04_All_l1 sf f1 n2) fu (0, l6)

def Instarref04_All_m : Nat → Forest → Int → Option (List Int)
  | 0, _, _ => none
  | fu + 1, f1, n2 => bnd (idx f1.Nodes n2) fun y3 => cnd (y3.Under != (-1)) (bnd (idx f1.Nodes n2) fun y4 => bnd ((Instarref04_All_m fu) f1 y4.Under) fun r5 => bnd (roomy 8 (([n2] : List Int).length + r5.length)) fun _ => (Instarref04_All_j1 (Instarref04_All_m fu) fu f1 n2) ([n2] ++ r5)) ((Instarref04_All_j1 (Instarref04_All_m fu) fu f1 n2) [n2])

set_option maxHeartbeats 10000000 in
set_option maxRecDepth 100000 in
theorem Instarref04_All_ok : ∀ (fu : Nat) (f1 : Forest) (n2 : Int) r, Instarref04_All_m fu f1 n2 = some r → DC Try.prog 47 [.agg (cForest f1), .v (.int .i64 n2)] (.sl 1 false (r.map cInt_i64))
  | 0, _, _, _, h => by cases h
  | fu + 1, f1, n2, r, hr => by
    have ih := Instarref04_All_ok fu
    refine fc_intro (args := [.agg (cForest f1), .v (.int .i64 n2)]) (S := []) (N0 := []) (post := fun r p S => p = .sl 1 false (r.map cInt_i64) ∧ S = []) Try.func47 rfl rfl hr fun w0 X X0 σ0 => ?_
    refine pw_seq ?_
    refine pw_region ?_
    refine po_box  2 rfl rfl rfl rfl rfl rfl rfl rfl rfl rfl ?_
    refine po_evs (T := tab) 1 rfl rfl ?_
    refine po_nil ?_
    refine pn_seq ?_
    refine pw_seq ?_
    refine pw_region ?_
    refine po_evs (T := tab) 1 rfl rfl ?_
    refine po_lit (T := tab) (rows := [n2].map cInt_i64) 8 rfl rfl rfl rfl rfl rfl rfl rfl rfl rfl rfl rfl rfl rfl ?_
    refine po_evs (T := tab) 1 rfl rfl ?_
    refine po_nil ?_
    refine pn_seq ?_
    refine pw_seq ?_
    refine pw_seq ?_
    refine pw_region ?_
    refine po_evs (T := tab) 3 rfl rfl ?_
    refine po_idx (T := tab) cNode f1.Nodes rfl rfl rfl rfl rfl rfl rfl fun y3 hy3 => ?_
    refine po_evs (T := tab) 3 rfl rfl ?_
    refine po_nil ?_
    refine pn_seq ?_
    refine pw_joinK (Instarref04_All_j1 (Instarref04_All_m fu) fu f1 n2) (fun (l6 : (List Int)) => [(1, .v (.int .i64 n2)), (2, .loc 2 0), (5, .own 8)]) (fun (l6 : (List Int)) => [(8, .arr 3 1 (l6.map cInt_i64)), (2, .box [.sl 10 false (f1.Nodes.map cNode), .v (.int .i64 f1.Most)])]) ?_ fun hj1 => ?_
    · rintro l6
      refine pn_seq ?_
      refine pw_seq ?_
      refine pw_seq ?_
      refine pw_region ?_
      refine po_evs (T := tab) 1 rfl rfl ?_
      refine po_nil ?_
      refine pn_seq ?_
      refine pw_block ?_
      refine pw_loop' (Instarref04_All_l1 (Instarref04_All_m fu) f1 n2) (fun ((i7, l8) : Int × (List Int)) => [(1, .v (.int .i64 n2)), (2, .loc 2 0), (5, .own 8), (6, .v (.int .i64 i7))]) (fun ((i7, l8) : Int × (List Int)) => [(8, .arr 3 1 (l8.map cInt_i64)), (2, .box [.sl 10 false (f1.Nodes.map cNode), .v (.int .i64 f1.Most)])]) fu (0, l6) (fun _ => rfl) ⟨rfl, rfl, rfl, rfl, trivial⟩ ⟨rfl, rfl, trivial⟩ rfl ?_
      rintro k1 ⟨i7, l8⟩
      refine pw_seq ?_
      refine pw_seq ?_
      refine pw_region ?_
      refine po_evs (T := tab) 4 rfl rfl ?_
      refine po_idx (T := tab) cNode f1.Nodes rfl rfl rfl rfl rfl rfl rfl fun y9 hy9 => ?_
      refine po_evs (T := tab) 2 rfl rfl ?_
      refine po_len (T := tab) cInt_i64 y9.Kids rfl rfl rfl rfl rfl rfl rfl rfl ?_
      refine po_evs (T := tab) 1 rfl rfl ?_
      refine po_nil ?_
      refine pn_seq ?_
      refine pw_cnd rfl ?_ ?_
      · refine pw_skip ?_
        refine pn_seq ?_
        refine pw_seq ?_
        refine pw_block ?_
        refine pw_sub' (E' := [(1, .v (.int .i64 n2)), (2, .loc 2 0), (5, .own 8), (6, .v (.int .i64 i7))]) (S' := [(8, .arr 3 1 (l8.map cInt_i64)), (2, .box [.sl 10 false (f1.Nodes.map cNode), .v (.int .i64 f1.Most)])]) ?_ ⟨rfl, rfl, rfl, rfl, trivial⟩ ⟨rfl, rfl, trivial⟩ rfl
        refine pw_drawV [0, 0, 0, 4, 0, 28, 60, 124, 0, 508, 1020, 2046, 4095, 8191] mixed (by kernel_rfl) (by kernel_rfl) rfl rfl ?_
        refine pdv_step0 [10] [74] [] [8] [] [(37, .own 8)] [] rfl rfl rfl rfl (by kernel_rfl) (by kernel_rfl) (by kernel_rfl) trivial (fun w0 X X0 σ0 => by refine po_evs (T := tab) 1 rfl rfl ?_; refine po_nil ?_; exact pn_end0 ⟨rfl, trivial⟩ trivial rfl) ?_
        refine pdv_step0 [4, 5] [76] [] [2] [2] [(38, .agg (cForest f1))] [(2, .box [.sl 10 false (f1.Nodes.map cNode), .v (.int .i64 f1.Most)])] rfl rfl rfl rfl (by kernel_rfl) (by kernel_rfl) (by kernel_rfl) ⟨rfl, trivial⟩ (fun w0 X X0 σ0 => by refine po_evs (T := tab) 1 rfl rfl ?_; refine po_nil ?_; exact pn_end0 ⟨rfl, trivial⟩ ⟨rfl, trivial⟩ rfl) ?_
        refine pdv_step0 [4] [78] [] [2] [] [(39, .loc 2 0)] [] rfl rfl rfl rfl (by kernel_rfl) (by kernel_rfl) (by kernel_rfl) trivial (fun w0 X X0 σ0 => by refine po_evs (T := tab) 1 rfl rfl ?_; refine po_nil ?_; exact pn_end0 ⟨rfl, trivial⟩ trivial rfl) ?_
        refine pdv_step0 [5, 78] [80] [] [2] [2] [(40, .sl 10 false (f1.Nodes.map cNode))] [(2, .box [.sl 10 false (f1.Nodes.map cNode), .v (.int .i64 f1.Most)])] rfl rfl rfl rfl (by kernel_rfl) (by kernel_rfl) (by kernel_rfl) ⟨rfl, trivial⟩ (fun w0 X X0 σ0 => by refine po_evs (T := tab) 1 rfl rfl ?_; refine po_nil ?_; exact pn_end0 ⟨rfl, trivial⟩ ⟨rfl, trivial⟩ rfl) ?_
        refine pdv_step0 [2] [82] [] [] [] [(41, .v (.int .i64 n2))] [] rfl rfl rfl rfl (by kernel_rfl) (by kernel_rfl) (by kernel_rfl) trivial (fun w0 X X0 σ0 => by refine po_evs (T := tab) 1 rfl rfl ?_; refine po_nil ?_; exact pn_end0 ⟨rfl, trivial⟩ trivial rfl) ?_
        refine pdv_step (M := (idx f1.Nodes n2)) (ment := [(84, [])]) [80, 82] [84] [] [] [] (fun y10 => [(42, .el (cNode y10) 0)]) (fun y10 => []) rfl rfl (fun _ => rfl) (fun _ => rfl) (by kernel_rfl) (by kernel_rfl) (fun _ => by kernel_rfl) (fun _ => trivial) (fun w0 X X0 σ0 => by refine po_idx (T := tab) cNode f1.Nodes rfl rfl rfl rfl rfl rfl rfl fun y10 hy10 => ?_; refine po_nil ?_; exact pn_end ⟨rfl, trivial⟩ trivial rfl) fun y10 hy10 => ?_
        refine pdv_step0 [84] [86] [] [] [] [(43, .el (cNode y10) 6)] [] rfl rfl rfl rfl (by kernel_rfl) (by kernel_rfl) (by kernel_rfl) trivial (fun w0 X X0 σ0 => by refine po_evs (T := tab) 1 rfl rfl ?_; refine po_nil ?_; exact pn_end0 ⟨rfl, trivial⟩ trivial rfl) ?_
        refine pdv_step0 [86] [88] [] [] [] [(44, .sl 1 false (y10.Kids.map cInt_i64))] [] rfl rfl rfl rfl (by kernel_rfl) (by kernel_rfl) (by kernel_rfl) trivial (fun w0 X X0 σ0 => by refine po_evs (T := tab) 1 rfl rfl ?_; refine po_nil ?_; exact pn_end0 ⟨rfl, trivial⟩ trivial rfl) ?_
        refine pdv_step0 [12] [90] [] [] [] [(45, .v (.int .i64 i7))] [] rfl rfl rfl rfl (by kernel_rfl) (by kernel_rfl) (by kernel_rfl) trivial (fun w0 X X0 σ0 => by refine po_evs (T := tab) 1 rfl rfl ?_; refine po_nil ?_; exact pn_end0 ⟨rfl, trivial⟩ trivial rfl) ?_
        refine pdv_step (M := (idx y10.Kids i7)) (ment := [(92, [])]) [88, 90] [92] [] [] [] (fun y11 => [(46, .el (cInt_i64 y11) 0)]) (fun y11 => []) rfl rfl (fun _ => rfl) (fun _ => rfl) (by kernel_rfl) (by kernel_rfl) (fun _ => by kernel_rfl) (fun _ => trivial) (fun w0 X X0 σ0 => by refine po_idx (T := tab) cInt_i64 y10.Kids rfl rfl rfl rfl rfl rfl rfl fun y11 hy11 => ?_; refine po_nil ?_; exact pn_end ⟨rfl, trivial⟩ trivial rfl) fun y11 hy11 => ?_
        refine pdv_step0 [92] [94] [] [] [] [(47, .v (.int .i64 y11))] [] rfl rfl rfl rfl (by kernel_rfl) (by kernel_rfl) (by kernel_rfl) trivial (fun w0 X X0 σ0 => by refine po_evs (T := tab) 1 rfl rfl ?_; refine po_nil ?_; exact pn_end0 ⟨rfl, trivial⟩ trivial rfl) ?_
        refine pdv_step (M := ((Instarref04_All_m fu) f1 y11)) (ment := [(96, [])]) [76, 94] [96] [] [] [] (fun r12 => [(48, .sl 1 false (r12.map cInt_i64))]) (fun r12 => []) rfl rfl (fun _ => rfl) (fun _ => rfl) (by kernel_rfl) (by kernel_rfl) (fun _ => by kernel_rfl) (fun _ => trivial) (fun w0 X X0 σ0 => by refine po_call (enc := fun (r12 : (List Int)) => .sl 1 false (r12.map cInt_i64)) (qs := [.agg (cForest f1), .v (.int .i64 y11)]) (ih f1 y11) rfl rfl ⟨⟨_, rfl, .rfl⟩, ⟨_, rfl, .rfl⟩, trivial⟩ (fun _ => rfl) call47 rfl rfl fun r12 hr12 => ?_; refine po_nil ?_; exact pn_end ⟨rfl, trivial⟩ trivial rfl) fun r12 hr12 => ?_
        refine pdv_step (M := (roomy 8 (l8.length + r12.length))) (ment := [(98, [8]), (10, []), (74, []), (17, [])]) [10, 17, 74, 96] [98, 10, 74, 17] [8] [] [] (fun _ => [(49, .own 8)]) (fun _ => [(8, .arr 3 1 ((l8 ++ r12).map cInt_i64))]) rfl rfl (fun _ => rfl) (fun _ => rfl) (by kernel_rfl) (by kernel_rfl) (fun _ => by kernel_rfl) (fun _ => trivial) (fun w0 X X0 σ0 => by refine po_append (T := tab) cInt_i64 l8 r12 rfl rfl rfl rfl rfl rfl rfl rfl rfl rfl rfl rfl rfl rfl (cInt_i64_one _) rfl rfl rfl rfl rfl ?_; refine po_nil ?_; exact pn_end ⟨rfl, trivial⟩ ⟨rfl, trivial⟩ rfl) fun _ h0 => ?_
        refine pdv_step0 [98] [10] [] [8] [] [(5, .own 8)] [] rfl rfl rfl rfl (by kernel_rfl) (by kernel_rfl) (by kernel_rfl) trivial (fun w0 X X0 σ0 => by refine po_evs (T := tab) 1 rfl rfl ?_; refine po_nil ?_; exact pn_end0 ⟨rfl, trivial⟩ trivial rfl) ?_
        refine pdv_nil rfl rfl ?_
        refine pn_block ?_
        refine pn_seq ?_
        refine pw_region ?_
        refine po_evs (T := tab) 1 rfl rfl ?_
        refine po_arith' (T := tab) rfl rfl rfl rfl fun i13 hi13 => ?_
        refine po_evs (T := tab) 1 rfl rfl ?_
        refine po_nil ?_
        exact pn_iter' (i13, (l8 ++ r12)) ⟨rfl, rfl, rfl, rfl, trivial⟩ ⟨rfl, rfl, trivial⟩ rfl
      · refine pw_exit rfl ?_
        refine pn_seq ?_
        refine pw_seq ?_
        refine pw_region ?_
        refine po_evs (T := tab) 2 rfl rfl ?_
        refine po_nil ?_
        refine pn_seq ?_
        refine pw_freeze 8 rfl rfl rfl ?_
        exact pw_retN (T := tab) rfl rfl rfl ⟨rfl, rfl⟩ trivial rfl
    · refine pw_cnd rfl ?_ ?_
      · refine pw_sub' (E' := [(1, .v (.int .i64 n2)), (2, .loc 2 0), (5, .own 8)]) (S' := [(8, .arr 3 1 ([n2].map cInt_i64)), (2, .box [.sl 10 false (f1.Nodes.map cNode), .v (.int .i64 f1.Most)])]) ?_ ⟨rfl, rfl, rfl, trivial⟩ ⟨rfl, rfl, trivial⟩ rfl
        refine pw_drawV [0, 0, 0, 4, 0, 28, 60, 124, 254, 511, 1023] mixed (by kernel_rfl) (by kernel_rfl) rfl rfl ?_
        refine pdv_step0 [10] [32] [] [8] [] [(16, .own 8)] [] rfl rfl rfl rfl (by kernel_rfl) (by kernel_rfl) (by kernel_rfl) trivial (fun w0 X X0 σ0 => by refine po_evs (T := tab) 1 rfl rfl ?_; refine po_nil ?_; exact pn_end0 ⟨rfl, trivial⟩ trivial rfl) ?_
        refine pdv_step0 [4, 5] [34] [] [2] [2] [(17, .agg (cForest f1))] [(2, .box [.sl 10 false (f1.Nodes.map cNode), .v (.int .i64 f1.Most)])] rfl rfl rfl rfl (by kernel_rfl) (by kernel_rfl) (by kernel_rfl) ⟨rfl, trivial⟩ (fun w0 X X0 σ0 => by refine po_evs (T := tab) 1 rfl rfl ?_; refine po_nil ?_; exact pn_end0 ⟨rfl, trivial⟩ ⟨rfl, trivial⟩ rfl) ?_
        refine pdv_step0 [4] [36] [] [2] [] [(18, .loc 2 0)] [] rfl rfl rfl rfl (by kernel_rfl) (by kernel_rfl) (by kernel_rfl) trivial (fun w0 X X0 σ0 => by refine po_evs (T := tab) 1 rfl rfl ?_; refine po_nil ?_; exact pn_end0 ⟨rfl, trivial⟩ trivial rfl) ?_
        refine pdv_step0 [5, 36] [38] [] [2] [2] [(19, .sl 10 false (f1.Nodes.map cNode))] [(2, .box [.sl 10 false (f1.Nodes.map cNode), .v (.int .i64 f1.Most)])] rfl rfl rfl rfl (by kernel_rfl) (by kernel_rfl) (by kernel_rfl) ⟨rfl, trivial⟩ (fun w0 X X0 σ0 => by refine po_evs (T := tab) 1 rfl rfl ?_; refine po_nil ?_; exact pn_end0 ⟨rfl, trivial⟩ ⟨rfl, trivial⟩ rfl) ?_
        refine pdv_step0 [2] [40] [] [] [] [(20, .v (.int .i64 n2))] [] rfl rfl rfl rfl (by kernel_rfl) (by kernel_rfl) (by kernel_rfl) trivial (fun w0 X X0 σ0 => by refine po_evs (T := tab) 1 rfl rfl ?_; refine po_nil ?_; exact pn_end0 ⟨rfl, trivial⟩ trivial rfl) ?_
        refine pdv_step (M := (idx f1.Nodes n2)) (ment := [(42, [])]) [38, 40] [42] [] [] [] (fun y4 => [(21, .el (cNode y4) 0)]) (fun y4 => []) rfl rfl (fun _ => rfl) (fun _ => rfl) (by kernel_rfl) (by kernel_rfl) (fun _ => by kernel_rfl) (fun _ => trivial) (fun w0 X X0 σ0 => by refine po_idx (T := tab) cNode f1.Nodes rfl rfl rfl rfl rfl rfl rfl fun y4 hy4 => ?_; refine po_nil ?_; exact pn_end ⟨rfl, trivial⟩ trivial rfl) fun y4 hy4 => ?_
        refine pdv_step0 [42] [44] [] [] [] [(22, .el (cNode y4) 8)] [] rfl rfl rfl rfl (by kernel_rfl) (by kernel_rfl) (by kernel_rfl) trivial (fun w0 X X0 σ0 => by refine po_evs (T := tab) 1 rfl rfl ?_; refine po_nil ?_; exact pn_end0 ⟨rfl, trivial⟩ trivial rfl) ?_
        refine pdv_step0 [44] [46] [] [] [] [(23, .v (.int .i64 y4.Under))] [] rfl rfl rfl rfl (by kernel_rfl) (by kernel_rfl) (by kernel_rfl) trivial (fun w0 X X0 σ0 => by refine po_evs (T := tab) 1 rfl rfl ?_; refine po_nil ?_; exact pn_end0 ⟨rfl, trivial⟩ trivial rfl) ?_
        refine pdv_step (M := ((Instarref04_All_m fu) f1 y4.Under)) (ment := [(48, [])]) [34, 46] [48] [] [] [] (fun r5 => [(24, .sl 1 false (r5.map cInt_i64))]) (fun r5 => []) rfl rfl (fun _ => rfl) (fun _ => rfl) (by kernel_rfl) (by kernel_rfl) (fun _ => by kernel_rfl) (fun _ => trivial) (fun w0 X X0 σ0 => by refine po_call (enc := fun (r5 : (List Int)) => .sl 1 false (r5.map cInt_i64)) (qs := [.agg (cForest f1), .v (.int .i64 y4.Under)]) (ih f1 y4.Under) rfl rfl ⟨⟨_, rfl, .rfl⟩, ⟨_, rfl, .rfl⟩, trivial⟩ (fun _ => rfl) call47 rfl rfl fun r5 hr5 => ?_; refine po_nil ?_; exact pn_end ⟨rfl, trivial⟩ trivial rfl) fun r5 hr5 => ?_
        refine pdv_step (M := (roomy 8 (([n2] : List Int).length + r5.length))) (ment := [(50, [8]), (10, []), (32, []), (17, [])]) [10, 17, 32, 48] [50, 10, 32, 17] [8] [] [] (fun _ => [(25, .own 8)]) (fun _ => [(8, .arr 3 1 (([n2] ++ r5).map cInt_i64))]) rfl rfl (fun _ => rfl) (fun _ => rfl) (by kernel_rfl) (by kernel_rfl) (fun _ => by kernel_rfl) (fun _ => trivial) (fun w0 X X0 σ0 => by refine po_append (T := tab) cInt_i64 ([n2] : List Int) r5 rfl rfl rfl rfl rfl rfl rfl rfl rfl rfl rfl rfl rfl rfl (cInt_i64_one _) rfl rfl rfl rfl rfl ?_; refine po_nil ?_; exact pn_end ⟨rfl, trivial⟩ ⟨rfl, trivial⟩ rfl) fun _ h0 => ?_
        refine pdv_step0 [50] [10] [] [8] [] [(5, .own 8)] [] rfl rfl rfl rfl (by kernel_rfl) (by kernel_rfl) (by kernel_rfl) trivial (fun w0 X X0 σ0 => by refine po_evs (T := tab) 1 rfl rfl ?_; refine po_nil ?_; exact pn_end0 ⟨rfl, trivial⟩ trivial rfl) ?_
        refine pdv_nil rfl rfl ?_
        exact pn_sub' (hj1 ([n2] ++ r5)) ⟨rfl, rfl, rfl, trivial⟩ ⟨rfl, rfl, trivial⟩ rfl
      · refine pw_skip ?_
        exact pn_sub' (hj1 [n2]) ⟨rfl, rfl, rfl, trivial⟩ ⟨rfl, rfl, trivial⟩ rfl

def Instarref04_Elems_l1 (f1 : Forest) (r3 : (List Int)) : Nat → Int × (List Int) → Option (List Int)
  | 0, _ => none
  | k1 + 1, (i4, l5) => cnd (decide (i4 < ((r3.length : Nat) : Int))) (bnd (idx r3 i4) fun y6 => bnd (idx f1.Nodes y6) fun y7 => cnd (y7.Kind == 1) (bnd (idx r3 i4) fun y8 => bnd (roomy 8 (l5.length + ([y8] : List Int).length)) fun _ => bnd (rng .i64 (i4 + 1)) fun i9 => (Instarref04_Elems_l1 f1 r3 k1) (i9, (l5 ++ [y8]))) (bnd (rng .i64 (i4 + 1)) fun i10 => (Instarref04_Elems_l1 f1 r3 k1) (i10, l5))) (some l5)

def Instarref04_Elems_m (fu : Nat) (f1 : Forest) (n2 : Int) : Option (List Int) := bnd (Instarref04_All_m fu f1 n2) fun r3 => (Instarref04_Elems_l1 f1 r3) fu (0, [])

set_option maxHeartbeats 10000000 in
set_option maxRecDepth 100000 in
theorem Instarref04_Elems_ok (fu : Nat) (f1 : Forest) (n2 : Int) : ∀ r, Instarref04_Elems_m fu f1 n2 = some r → DC Try.prog 48 [.agg (cForest f1), .v (.int .i64 n2)] (.sl 1 false (r.map cInt_i64)) := by
  intro r hr
  refine fc_intro (args := [.agg (cForest f1), .v (.int .i64 n2)]) (S := []) (N0 := []) (post := fun r p S => p = .sl 1 false (r.map cInt_i64) ∧ S = []) Try.func48 rfl rfl hr fun w0 X X0 σ0 => ?_
  refine pw_seq ?_
  refine pw_region ?_
  refine po_box  2 rfl rfl rfl rfl rfl rfl rfl rfl rfl rfl ?_
  refine po_evs (T := tab) 1 rfl rfl ?_
  refine po_nil ?_
  refine pn_seq ?_
  refine pw_seq ?_
  refine pw_region ?_
  refine po_evs (T := tab) 1 rfl rfl ?_
  refine po_nil ?_
  refine pn_seq ?_
  refine pw_seq ?_
  refine pw_region ?_
  refine po_evs (T := tab) 2 rfl rfl ?_
  refine po_call (enc := fun (r3 : (List Int)) => .sl 1 false (r3.map cInt_i64)) (qs := [.agg (cForest f1), .v (.int .i64 n2)]) (Instarref04_All_ok fu f1 n2) rfl rfl ⟨⟨_, rfl, .rfl⟩, ⟨_, rfl, .rfl⟩, trivial⟩ (fun _ => rfl) call47 rfl rfl fun r3 hr3 => ?_
  refine po_evs (T := tab) 1 rfl rfl ?_
  refine po_nil ?_
  refine pn_seq ?_
  refine pw_seq ?_
  refine pw_seq ?_
  refine pw_region ?_
  refine po_evs (T := tab) 1 rfl rfl ?_
  refine po_nil ?_
  refine pn_seq ?_
  refine pw_block ?_
  refine pw_own_nil 1033 3 1 5 rfl rfl rfl rfl ?_
  refine pw_loop' (Instarref04_Elems_l1 f1 r3) (fun ((i4, l5) : Int × (List Int)) => [(2, .loc 2 0), (5, .own 1033), (6, .sl 1 false (r3.map cInt_i64)), (7, .v (.int .i64 i4))]) (fun ((i4, l5) : Int × (List Int)) => [(1033, .arr 3 1 (l5.map cInt_i64)), (2, .box [.sl 10 false (f1.Nodes.map cNode), .v (.int .i64 f1.Most)])]) fu (0, []) (fun _ => rfl) ⟨rfl, rfl, rfl, rfl, trivial⟩ ⟨rfl, rfl, trivial⟩ rfl ?_
  rintro k1 ⟨i4, l5⟩
  refine pw_seq ?_
  refine pw_seq ?_
  refine pw_region ?_
  refine po_evs (T := tab) 2 rfl rfl ?_
  refine po_len (T := tab) cInt_i64 r3 rfl rfl rfl rfl rfl rfl rfl rfl ?_
  refine po_evs (T := tab) 1 rfl rfl ?_
  refine po_nil ?_
  refine pn_seq ?_
  refine pw_cnd rfl ?_ ?_
  · refine pw_skip ?_
    refine pn_seq ?_
    refine pw_seq ?_
    refine pw_block ?_
    refine pw_seq ?_
    refine pw_draw mixed (by kernel_rfl) ?_
    refine pd_evs (T := tab) 4 rfl rfl ?_
    refine pd_idx (T := tab) cInt_i64 r3 rfl rfl rfl rfl rfl rfl rfl fun y6 hy6 => ?_
    refine pd_evs (T := tab) 1 rfl rfl ?_
    refine pd_idx (T := tab) cNode f1.Nodes rfl rfl rfl rfl rfl rfl rfl fun y7 hy7 => ?_
    refine pd_evs (T := tab) 3 rfl rfl ?_
    refine pd_nil ?_
    refine pn_seq ?_
    refine pw_cnd rfl ?_ ?_
    · refine pw_region ?_
      refine po_evs (T := tab) 3 rfl rfl ?_
      refine po_idx (T := tab) cInt_i64 r3 rfl rfl rfl rfl rfl rfl rfl fun y8 hy8 => ?_
      refine po_evs (T := tab) 1 rfl rfl ?_
      refine po_lit (T := tab) (rows := [y8].map cInt_i64) 32 rfl rfl rfl rfl rfl rfl rfl rfl rfl rfl rfl rfl rfl rfl ?_
      refine po_append (T := tab) cInt_i64 l5 ([y8] : List Int) rfl rfl rfl rfl rfl rfl rfl rfl rfl rfl rfl rfl rfl rfl (cInt_i64_one _) rfl rfl rfl rfl rfl ?_
      refine po_evs (T := tab) 1 rfl rfl ?_
      refine po_nil ?_
      refine pn_block ?_
      refine pn_seq ?_
      refine pw_region ?_
      refine po_evs (T := tab) 1 rfl rfl ?_
      refine po_arith' (T := tab) rfl rfl rfl rfl fun i9 hi9 => ?_
      refine po_evs (T := tab) 1 rfl rfl ?_
      refine po_nil ?_
      exact pn_iter' (i9, (l5 ++ [y8])) ⟨rfl, rfl, rfl, rfl, trivial⟩ ⟨rfl, rfl, trivial⟩ rfl
    · refine pw_skip ?_
      refine pn_block ?_
      refine pn_seq ?_
      refine pw_region ?_
      refine po_evs (T := tab) 1 rfl rfl ?_
      refine po_arith' (T := tab) rfl rfl rfl rfl fun i10 hi10 => ?_
      refine po_evs (T := tab) 1 rfl rfl ?_
      refine po_nil ?_
      exact pn_iter' (i10, l5) ⟨rfl, rfl, rfl, rfl, trivial⟩ ⟨rfl, rfl, trivial⟩ rfl
  · refine pw_exit rfl ?_
    refine pn_seq ?_
    refine pw_seq ?_
    refine pw_region ?_
    refine po_evs (T := tab) 2 rfl rfl ?_
    refine po_nil ?_
    refine pn_seq ?_
    refine pw_freeze 1033 rfl rfl rfl ?_
    exact pw_retN (T := tab) rfl rfl rfl ⟨rfl, rfl⟩ trivial rfl

def Instarref04_Over_m (fu : Nat) (f1 : Forest) (a2 : Int) (b3 : Int) : Option Bool := bnd (Instarref04_All_m fu f1 a2) fun r4 => bnd (Instarref03_Has_m fu r4 b3) fun r5 => some (decide (r5 > 0))

set_option maxRecDepth 100000 in
theorem Instarref04_Over_ok (fu : Nat) (f1 : Forest) (a2 : Int) (b3 : Int) : ∀ r, Instarref04_Over_m fu f1 a2 b3 = some r → DC Try.prog 49 [.agg (cForest f1), .v (.int .i64 a2), .v (.int .i64 b3)] (.v (.bool r)) := by
  intro r hr
  refine fc_intro (args := [.agg (cForest f1), .v (.int .i64 a2), .v (.int .i64 b3)]) (S := []) (N0 := []) (post := fun r p S => p = .v (.bool r) ∧ S = []) Try.func49 rfl rfl hr fun w0 X X0 σ0 => ?_
  refine pw_seq ?_
  refine pw_region ?_
  refine po_box  3 rfl rfl rfl rfl rfl rfl rfl rfl rfl rfl ?_
  refine po_evs (T := tab) 1 rfl rfl ?_
  refine po_nil ?_
  refine pn_seq ?_
  refine pw_seq ?_
  refine pw_region ?_
  refine po_evs (T := tab) 2 rfl rfl ?_
  refine po_call (enc := fun (r4 : (List Int)) => .sl 1 false (r4.map cInt_i64)) (qs := [.agg (cForest f1), .v (.int .i64 a2)]) (Instarref04_All_ok fu f1 a2) rfl rfl ⟨⟨_, rfl, .rfl⟩, ⟨_, rfl, .rfl⟩, trivial⟩ (fun _ => rfl) call47 rfl rfl fun r4 hr4 => ?_
  refine po_evs (T := tab) 1 rfl rfl ?_
  refine po_call (enc := fun (r5 : Int) => .v (.int .i64 r5)) (qs := [.sl 1 false (r4.map cInt_i64), .v (.int .i64 b3)]) (Instarref03_Has_ok fu r4 b3) rfl rfl ⟨⟨_, rfl, .rfl⟩, ⟨_, rfl, .rfl⟩, trivial⟩ (fun _ => rfl) call34 rfl rfl fun r5 hr5 => ?_
  refine po_evs (T := tab) 2 rfl rfl ?_
  refine po_nil ?_
  refine pn_seq ?_
  exact pw_retN (T := tab) rfl rfl rfl ⟨rfl, rfl⟩ trivial rfl

def Instarlaw04_ShadeOver_j1 (fu : Nat) (f1 : Forest) (m9 : Int) (x_ : Unit) : Option Bool := bnd (idx f1.Nodes m9) fun y42 => cnd (y42.Kind == 0) (bnd (Shade_Connected_m fu f1 m9) fun r43 => cnd r43 (bnd (Shade_Top_m fu f1 m9) fun r44 => some (r44 == m9)) (some false)) (cnd (y42.Parent != (-1)) (bnd (Shade_Connected_m fu f1 m9) fun r45 => bnd (Shade_Connected_m fu f1 y42.Parent) fun r46 => cnd (r45 == r46) (bnd (Shade_Top_m fu f1 m9) fun r47 => bnd (Shade_Top_m fu f1 y42.Parent) fun r48 => some (r47 == r48)) (some false)) (cnd (y42.Host != (-1)) (bnd (Shade_Connected_m fu f1 m9) fun r49 => bnd (Shade_Connected_m fu f1 y42.Host) fun r50 => cnd (r49 == r50) (bnd (Shade_Top_m fu f1 m9) fun r51 => bnd (Shade_Top_m fu f1 y42.Host) fun r52 => some (r51 == r52)) (some false)) (bnd (Shade_Connected_m fu f1 m9) fun r53 => cnd (!r53) (bnd (Shade_Top_m fu f1 m9) fun r54 => some (r54 == m9)) (some false))))

def Instarlaw04_ShadeOver_m (fu : Nat) (f1 : Forest) (a2 : Int) (b3 : Int) (c4 : Int) : Option Bool := bnd (Instarlaw04_awake_m fu) fun r5 => cnd (!r5) (some false) (bnd (Instarref03_Short_m fu f1) fun r6 => cnd (!r6) (some true) (bnd (Forest_Right_m fu f1) fun r7 => cnd (!r7) (some true) (bnd (rng .i64 a2) fun i8 => bnd (remI i8 ((f1.Nodes.length : Nat) : Int)) fun m9 => bnd (rng .i64 b3) fun i10 => bnd (remI i10 ((f1.Nodes.length : Nat) : Int)) fun m11 => bnd (rng .i64 c4) fun i12 => bnd (remI i12 ((f1.Nodes.length : Nat) : Int)) fun m13 => bnd (Shade_Over_m fu f1 m9 m9) fun r14 => cnd (!r14) (some false) (bnd (Shade_Over_m fu f1 m9 m11) fun r15 => cnd r15 (bnd (Shade_Over_m fu f1 m11 m13) fun r16 => cnd r16 (bnd (Shade_Over_m fu f1 m9 m13) fun r17 => cnd (!r17) (some false) (cnd (m9 != m11) (bnd (Shade_Over_m fu f1 m9 m11) fun r18 => cnd r18 (bnd (Shade_Over_m fu f1 m11 m9) fun r19 => cnd r19 (some false) (bnd (Forest_Holds_m fu f1 m9 m11) fun r20 => cnd r20 (bnd (Shade_Over_m fu f1 m9 m11) fun r21 => cnd (!r21) (some false) ((Instarlaw04_ShadeOver_j1 fu f1 m9) ())) ((Instarlaw04_ShadeOver_j1 fu f1 m9) ()))) (bnd (Forest_Holds_m fu f1 m9 m11) fun r22 => cnd r22 (bnd (Shade_Over_m fu f1 m9 m11) fun r23 => cnd (!r23) (some false) ((Instarlaw04_ShadeOver_j1 fu f1 m9) ())) ((Instarlaw04_ShadeOver_j1 fu f1 m9) ()))) (bnd (Forest_Holds_m fu f1 m9 m11) fun r24 => cnd r24 (bnd (Shade_Over_m fu f1 m9 m11) fun r25 => cnd (!r25) (some false) ((Instarlaw04_ShadeOver_j1 fu f1 m9) ())) ((Instarlaw04_ShadeOver_j1 fu f1 m9) ())))) (cnd (m9 != m11) (bnd (Shade_Over_m fu f1 m9 m11) fun r26 => cnd r26 (bnd (Shade_Over_m fu f1 m11 m9) fun r27 => cnd r27 (some false) (bnd (Forest_Holds_m fu f1 m9 m11) fun r28 => cnd r28 (bnd (Shade_Over_m fu f1 m9 m11) fun r29 => cnd (!r29) (some false) ((Instarlaw04_ShadeOver_j1 fu f1 m9) ())) ((Instarlaw04_ShadeOver_j1 fu f1 m9) ()))) (bnd (Forest_Holds_m fu f1 m9 m11) fun r30 => cnd r30 (bnd (Shade_Over_m fu f1 m9 m11) fun r31 => cnd (!r31) (some false) ((Instarlaw04_ShadeOver_j1 fu f1 m9) ())) ((Instarlaw04_ShadeOver_j1 fu f1 m9) ()))) (bnd (Forest_Holds_m fu f1 m9 m11) fun r32 => cnd r32 (bnd (Shade_Over_m fu f1 m9 m11) fun r33 => cnd (!r33) (some false) ((Instarlaw04_ShadeOver_j1 fu f1 m9) ())) ((Instarlaw04_ShadeOver_j1 fu f1 m9) ())))) (cnd (m9 != m11) (bnd (Shade_Over_m fu f1 m9 m11) fun r34 => cnd r34 (bnd (Shade_Over_m fu f1 m11 m9) fun r35 => cnd r35 (some false) (bnd (Forest_Holds_m fu f1 m9 m11) fun r36 => cnd r36 (bnd (Shade_Over_m fu f1 m9 m11) fun r37 => cnd (!r37) (some false) ((Instarlaw04_ShadeOver_j1 fu f1 m9) ())) ((Instarlaw04_ShadeOver_j1 fu f1 m9) ()))) (bnd (Forest_Holds_m fu f1 m9 m11) fun r38 => cnd r38 (bnd (Shade_Over_m fu f1 m9 m11) fun r39 => cnd (!r39) (some false) ((Instarlaw04_ShadeOver_j1 fu f1 m9) ())) ((Instarlaw04_ShadeOver_j1 fu f1 m9) ()))) (bnd (Forest_Holds_m fu f1 m9 m11) fun r40 => cnd r40 (bnd (Shade_Over_m fu f1 m9 m11) fun r41 => cnd (!r41) (some false) ((Instarlaw04_ShadeOver_j1 fu f1 m9) ())) ((Instarlaw04_ShadeOver_j1 fu f1 m9) ())))))))

set_option maxHeartbeats 10000000 in
set_option maxRecDepth 100000 in
theorem Instarlaw04_ShadeOver_ok (fu : Nat) (f1 : Forest) (a2 : Int) (b3 : Int) (c4 : Int) : ∀ r, Instarlaw04_ShadeOver_m fu f1 a2 b3 c4 = some r → DC Try.prog 10 [.agg (cForest f1), .v (.int .u8 a2), .v (.int .u8 b3), .v (.int .u8 c4)] (.v (.bool r)) := by
  intro r hr
  refine fc_intro (args := [.agg (cForest f1), .v (.int .u8 a2), .v (.int .u8 b3), .v (.int .u8 c4)]) (S := []) (N0 := []) (post := fun r p S => p = .v (.bool r) ∧ S = []) Try.func10 rfl rfl hr fun w0 X X0 σ0 => ?_
  refine pw_seq ?_
  refine pw_region ?_
  refine po_box  4 rfl rfl rfl rfl rfl rfl rfl rfl rfl rfl ?_
  refine po_evs (T := tab) 1 rfl rfl ?_
  refine po_nil ?_
  refine pn_seq ?_
  refine pw_seq ?_
  refine pw_seq ?_
  refine pw_region ?_
  refine po_call (enc := fun (r5 : Bool) => .v (.bool r5)) (qs := []) (Instarlaw04_awake_ok fu) rfl rfl trivial (fun _ => rfl) call37 rfl rfl fun r5 hr5 => ?_
  refine po_evs (T := tab) 1 rfl rfl ?_
  refine po_nil ?_
  refine pn_seq ?_
  refine pw_cnd rfl ?_ ?_
  · refine pw_seq ?_
    refine pw_region ?_
    refine po_evs (T := tab) 1 rfl rfl ?_
    refine po_nil ?_
    refine pn_seq ?_
    exact pw_retN (T := tab) rfl rfl rfl ⟨rfl, rfl⟩ trivial rfl
  · refine pw_skip ?_
    refine pn_seq ?_
    refine pw_seq ?_
    refine pw_seq ?_
    refine pw_region ?_
    refine po_evs (T := tab) 1 rfl rfl ?_
    refine po_call (enc := fun (r6 : Bool) => .v (.bool r6)) (qs := [.agg (cForest f1)]) (Instarref03_Short_ok fu f1) rfl rfl ⟨⟨_, rfl, .rfl⟩, trivial⟩ (fun _ => rfl) call15 rfl rfl fun r6 hr6 => ?_
    refine po_evs (T := tab) 2 rfl rfl ?_
    refine po_split (j := 18) rfl ?_ ?_
    · refine po_evs (T := tab) 4 rfl rfl ?_
      refine po_nil ?_
      refine pn_seq (pw_then rfl ?_)
      refine pw_seq ?_
      refine pw_region ?_
      refine po_evs (T := tab) 1 rfl rfl ?_
      refine po_nil ?_
      refine pn_seq ?_
      exact pw_retN (T := tab) rfl rfl rfl ⟨rfl, rfl⟩ trivial rfl
    · refine po_evs (T := tab) 1 rfl rfl ?_
      refine po_call (enc := fun (r7 : Bool) => .v (.bool r7)) (qs := [.agg (cForest f1)]) (Forest_Right_ok fu f1) rfl rfl ⟨⟨_, rfl, .rfl⟩, trivial⟩ (fun _ => rfl) call19 rfl rfl fun r7 hr7 => ?_
      refine po_evs (T := tab) 2 rfl rfl ?_
      refine po_nil ?_
      refine pn_seq ?_
      refine pw_cnd rfl ?_ ?_
      · refine pw_seq ?_
        refine pw_region ?_
        refine po_evs (T := tab) 1 rfl rfl ?_
        refine po_nil ?_
        refine pn_seq ?_
        exact pw_retN (T := tab) rfl rfl rfl ⟨rfl, rfl⟩ trivial rfl
      · refine pw_skip ?_
        refine pn_seq ?_
        refine pw_seq ?_
        refine pw_draw mixed (by kernel_rfl) ?_
        refine pd_evs (T := tab) 1 rfl rfl ?_
        refine pd_arith (T := tab) rfl rfl rfl rfl fun i8 hi8 => ?_
        refine pd_evs (T := tab) 2 rfl rfl ?_
        refine pd_len (T := tab) cNode f1.Nodes rfl rfl rfl rfl rfl rfl rfl rfl ?_
        refine pd_rem rfl rfl rfl rfl rfl rfl fun m9 hm9 => ?_
        refine pd_evs (T := tab) 1 rfl rfl ?_
        refine pd_arith (T := tab) rfl rfl rfl rfl fun i10 hi10 => ?_
        refine pd_evs (T := tab) 2 rfl rfl ?_
        refine pd_len (T := tab) cNode f1.Nodes rfl rfl rfl rfl rfl rfl rfl rfl ?_
        refine pd_rem rfl rfl rfl rfl rfl rfl fun m11 hm11 => ?_
        refine pd_evs (T := tab) 1 rfl rfl ?_
        refine pd_arith (T := tab) rfl rfl rfl rfl fun i12 hi12 => ?_
        refine pd_evs (T := tab) 2 rfl rfl ?_
        refine pd_len (T := tab) cNode f1.Nodes rfl rfl rfl rfl rfl rfl rfl rfl ?_
        refine pd_rem rfl rfl rfl rfl rfl rfl fun m13 hm13 => ?_
        refine pd_evs (T := tab) 3 rfl rfl ?_
        refine pd_nil ?_
        refine pn_seq ?_
        refine pw_seq ?_
        refine pw_seq ?_
        refine pw_region ?_
        refine po_joinB (Instarlaw04_ShadeOver_j1 fu f1 m9) (fun (_ : Unit) => [(4, .loc 4 0), (9, .v (.int .i64 m9))]) (fun (_ : Unit) => [(4, .box [.sl 10 false (f1.Nodes.map cNode), .v (.int .i64 f1.Most)])]) ?_ fun hj1 => ?_
        · rintro _
          refine pn_seq ?_
          refine pw_seq ?_
          refine pw_region ?_
          refine po_evs (T := tab) 3 rfl rfl ?_
          refine po_idx (T := tab) cNode f1.Nodes rfl rfl rfl rfl rfl rfl rfl fun y42 hy42 => ?_
          refine po_evs (T := tab) 1 rfl rfl ?_
          refine po_alloc (T := tab) 12 rfl rfl rfl rfl rfl rfl rfl rfl rfl ?_
          refine po_store (T := tab) rfl rfl rfl rfl rfl rfl rfl rfl rfl rfl rfl rfl ?_
          refine po_nil ?_
          refine pn_seq ?_
          refine pw_seq ?_
          refine pw_block ?_
          refine pw_seq ?_
          refine pw_region ?_
          refine po_evs (T := tab) 4 rfl rfl ?_
          refine po_nil ?_
          refine pn_seq ?_
          refine pw_cnd rfl ?_ ?_
          · refine pw_seq ?_
            refine pw_region ?_
            refine po_evs (T := tab) 2 rfl rfl ?_
            refine po_call (enc := fun (r43 : Bool) => .v (.bool r43)) (qs := [.agg (cForest f1), .v (.int .i64 m9)]) (Shade_Connected_ok fu f1 m9) rfl rfl ⟨⟨_, rfl, .rfl⟩, ⟨_, rfl, .rfl⟩, trivial⟩ (fun _ => rfl) call40 rfl rfl fun r43 hr43 => ?_
            refine po_evs (T := tab) 1 rfl rfl ?_
            refine po_split (j := 107) rfl ?_ ?_
            · refine po_evs (T := tab) 2 rfl rfl ?_
              refine po_call (enc := fun (r44 : Int) => .v (.int .i64 r44)) (qs := [.agg (cForest f1), .v (.int .i64 m9)]) (Shade_Top_ok fu f1 m9) rfl rfl ⟨⟨_, rfl, .rfl⟩, ⟨_, rfl, .rfl⟩, trivial⟩ (fun _ => rfl) call39 rfl rfl fun r44 hr44 => ?_
              refine po_evs (T := tab) 4 rfl rfl ?_
              refine po_nil ?_
              refine pn_seq ?_
              exact pw_retN (T := tab) rfl rfl rfl ⟨rfl, rfl⟩ trivial rfl
            · refine po_evs (T := tab) 7 rfl rfl ?_
              refine po_nil ?_
              refine pn_seq ?_
              exact pw_retN (T := tab) rfl rfl rfl ⟨rfl, rfl⟩ trivial rfl
          · refine pw_seq ?_
            refine pw_region ?_
            refine po_evs (T := tab) 4 rfl rfl ?_
            refine po_nil ?_
            refine pn_seq ?_
            refine pw_cnd rfl ?_ ?_
            · refine pw_seq ?_
              refine pw_draw mixed (by kernel_rfl) ?_
              refine pd_evs (T := tab) 2 rfl rfl ?_
              refine pd_call (enc := fun (r45 : Bool) => .v (.bool r45)) (qs := [.agg (cForest f1), .v (.int .i64 m9)]) (Shade_Connected_ok fu f1 m9) rfl rfl ⟨⟨_, rfl, .rfl⟩, ⟨_, rfl, .rfl⟩, trivial⟩ (fun _ => rfl) call40 rfl rfl fun r45 hr45 => ?_
              refine pd_evs (T := tab) 3 rfl rfl ?_
              refine pd_call (enc := fun (r46 : Bool) => .v (.bool r46)) (qs := [.agg (cForest f1), .v (.int .i64 y42.Parent)]) (Shade_Connected_ok fu f1 y42.Parent) rfl rfl ⟨⟨_, rfl, .rfl⟩, ⟨_, rfl, .rfl⟩, trivial⟩ (fun _ => rfl) call40 rfl rfl fun r46 hr46 => ?_
              refine pd_evs (T := tab) 2 rfl rfl ?_
              refine pd_split (j := 126) rfl ?_ ?_
              · refine pd_evs (T := tab) 2 rfl rfl ?_
                refine pd_call (enc := fun (r47 : Int) => .v (.int .i64 r47)) (qs := [.agg (cForest f1), .v (.int .i64 m9)]) (Shade_Top_ok fu f1 m9) rfl rfl ⟨⟨_, rfl, .rfl⟩, ⟨_, rfl, .rfl⟩, trivial⟩ (fun _ => rfl) call39 rfl rfl fun r47 hr47 => ?_
                refine pd_evs (T := tab) 3 rfl rfl ?_
                refine pd_call (enc := fun (r48 : Int) => .v (.int .i64 r48)) (qs := [.agg (cForest f1), .v (.int .i64 y42.Parent)]) (Shade_Top_ok fu f1 y42.Parent) rfl rfl ⟨⟨_, rfl, .rfl⟩, ⟨_, rfl, .rfl⟩, trivial⟩ (fun _ => rfl) call39 rfl rfl fun r48 hr48 => ?_
                refine pd_evs (T := tab) 3 rfl rfl ?_
                refine pd_nil ?_
                refine pn_seq ?_
                exact pw_retN (T := tab) rfl rfl rfl ⟨rfl, rfl⟩ trivial rfl
              · refine pd_evs (T := tab) 10 rfl rfl ?_
                refine pd_nil ?_
                refine pn_seq ?_
                exact pw_retN (T := tab) rfl rfl rfl ⟨rfl, rfl⟩ trivial rfl
            · refine pw_seq ?_
              refine pw_region ?_
              refine po_evs (T := tab) 4 rfl rfl ?_
              refine po_nil ?_
              refine pn_seq ?_
              refine pw_cnd rfl ?_ ?_
              · refine pw_seq ?_
                refine pw_draw mixed (by kernel_rfl) ?_
                refine pd_evs (T := tab) 2 rfl rfl ?_
                refine pd_call (enc := fun (r49 : Bool) => .v (.bool r49)) (qs := [.agg (cForest f1), .v (.int .i64 m9)]) (Shade_Connected_ok fu f1 m9) rfl rfl ⟨⟨_, rfl, .rfl⟩, ⟨_, rfl, .rfl⟩, trivial⟩ (fun _ => rfl) call40 rfl rfl fun r49 hr49 => ?_
                refine pd_evs (T := tab) 3 rfl rfl ?_
                refine pd_call (enc := fun (r50 : Bool) => .v (.bool r50)) (qs := [.agg (cForest f1), .v (.int .i64 y42.Host)]) (Shade_Connected_ok fu f1 y42.Host) rfl rfl ⟨⟨_, rfl, .rfl⟩, ⟨_, rfl, .rfl⟩, trivial⟩ (fun _ => rfl) call40 rfl rfl fun r50 hr50 => ?_
                refine pd_evs (T := tab) 2 rfl rfl ?_
                refine pd_split (j := 148) rfl ?_ ?_
                · refine pd_evs (T := tab) 2 rfl rfl ?_
                  refine pd_call (enc := fun (r51 : Int) => .v (.int .i64 r51)) (qs := [.agg (cForest f1), .v (.int .i64 m9)]) (Shade_Top_ok fu f1 m9) rfl rfl ⟨⟨_, rfl, .rfl⟩, ⟨_, rfl, .rfl⟩, trivial⟩ (fun _ => rfl) call39 rfl rfl fun r51 hr51 => ?_
                  refine pd_evs (T := tab) 3 rfl rfl ?_
                  refine pd_call (enc := fun (r52 : Int) => .v (.int .i64 r52)) (qs := [.agg (cForest f1), .v (.int .i64 y42.Host)]) (Shade_Top_ok fu f1 y42.Host) rfl rfl ⟨⟨_, rfl, .rfl⟩, ⟨_, rfl, .rfl⟩, trivial⟩ (fun _ => rfl) call39 rfl rfl fun r52 hr52 => ?_
                  refine pd_evs (T := tab) 3 rfl rfl ?_
                  refine pd_nil ?_
                  refine pn_seq ?_
                  exact pw_retN (T := tab) rfl rfl rfl ⟨rfl, rfl⟩ trivial rfl
                · refine pd_evs (T := tab) 10 rfl rfl ?_
                  refine pd_nil ?_
                  refine pn_seq ?_
                  exact pw_retN (T := tab) rfl rfl rfl ⟨rfl, rfl⟩ trivial rfl
              · refine pw_skip ?_
                refine pn_block ?_
                refine pn_seq ?_
                refine pw_seq ?_
                refine pw_region ?_
                refine po_evs (T := tab) 2 rfl rfl ?_
                refine po_call (enc := fun (r53 : Bool) => .v (.bool r53)) (qs := [.agg (cForest f1), .v (.int .i64 m9)]) (Shade_Connected_ok fu f1 m9) rfl rfl ⟨⟨_, rfl, .rfl⟩, ⟨_, rfl, .rfl⟩, trivial⟩ (fun _ => rfl) call40 rfl rfl fun r53 hr53 => ?_
                refine po_evs (T := tab) 2 rfl rfl ?_
                refine po_split (j := 162) rfl ?_ ?_
                · refine po_evs (T := tab) 2 rfl rfl ?_
                  refine po_call (enc := fun (r54 : Int) => .v (.int .i64 r54)) (qs := [.agg (cForest f1), .v (.int .i64 m9)]) (Shade_Top_ok fu f1 m9) rfl rfl ⟨⟨_, rfl, .rfl⟩, ⟨_, rfl, .rfl⟩, trivial⟩ (fun _ => rfl) call39 rfl rfl fun r54 hr54 => ?_
                  refine po_evs (T := tab) 4 rfl rfl ?_
                  refine po_nil ?_
                  refine pn_seq ?_
                  exact pw_retN (T := tab) rfl rfl rfl ⟨rfl, rfl⟩ trivial rfl
                · refine po_evs (T := tab) 7 rfl rfl ?_
                  refine po_nil ?_
                  refine pn_seq ?_
                  exact pw_retN (T := tab) rfl rfl rfl ⟨rfl, rfl⟩ trivial rfl
        · refine po_evs (T := tab) 3 rfl rfl ?_
          refine po_call (enc := fun (r14 : Bool) => .v (.bool r14)) (qs := [.agg (cForest f1), .v (.int .i64 m9), .v (.int .i64 m9)]) (Shade_Over_ok fu f1 m9 m9) rfl rfl ⟨⟨_, rfl, .rfl⟩, ⟨_, rfl, .rfl⟩, ⟨_, rfl, .rfl⟩, trivial⟩ (fun _ => rfl) call43 rfl rfl fun r14 hr14 => ?_
          refine po_evs (T := tab) 2 rfl rfl ?_
          refine po_split (j := 46) rfl ?_ ?_
          · refine po_evs (T := tab) 48 rfl rfl ?_
            refine po_nil ?_
            refine pn_seq (pw_then rfl ?_)
            refine pw_seq ?_
            refine pw_region ?_
            refine po_evs (T := tab) 1 rfl rfl ?_
            refine po_nil ?_
            refine pn_seq ?_
            exact pw_retN (T := tab) rfl rfl rfl ⟨rfl, rfl⟩ trivial rfl
          · refine po_evs (T := tab) 3 rfl rfl ?_
            refine po_call (enc := fun (r15 : Bool) => .v (.bool r15)) (qs := [.agg (cForest f1), .v (.int .i64 m9), .v (.int .i64 m11)]) (Shade_Over_ok fu f1 m9 m11) rfl rfl ⟨⟨_, rfl, .rfl⟩, ⟨_, rfl, .rfl⟩, ⟨_, rfl, .rfl⟩, trivial⟩ (fun _ => rfl) call43 rfl rfl fun r15 hr15 => ?_
            refine po_evs (T := tab) 1 rfl rfl ?_
            refine po_split (j := 51) rfl ?_ ?_
            · refine po_evs (T := tab) 3 rfl rfl ?_
              refine po_call (enc := fun (r16 : Bool) => .v (.bool r16)) (qs := [.agg (cForest f1), .v (.int .i64 m11), .v (.int .i64 m13)]) (Shade_Over_ok fu f1 m11 m13) rfl rfl ⟨⟨_, rfl, .rfl⟩, ⟨_, rfl, .rfl⟩, ⟨_, rfl, .rfl⟩, trivial⟩ (fun _ => rfl) call43 rfl rfl fun r16 hr16 => ?_
              refine po_evs (T := tab) 2 rfl rfl ?_
              refine po_split (j := 57) rfl ?_ ?_
              · refine po_evs (T := tab) 3 rfl rfl ?_
                refine po_call (enc := fun (r17 : Bool) => .v (.bool r17)) (qs := [.agg (cForest f1), .v (.int .i64 m9), .v (.int .i64 m13)]) (Shade_Over_ok fu f1 m9 m13) rfl rfl ⟨⟨_, rfl, .rfl⟩, ⟨_, rfl, .rfl⟩, ⟨_, rfl, .rfl⟩, trivial⟩ (fun _ => rfl) call43 rfl rfl fun r17 hr17 => ?_
                refine po_evs (T := tab) 4 rfl rfl ?_
                refine po_split (j := 65) rfl ?_ ?_
                · refine po_evs (T := tab) 29 rfl rfl ?_
                  refine po_nil ?_
                  refine pn_seq (pw_then rfl ?_)
                  refine pw_seq ?_
                  refine pw_region ?_
                  refine po_evs (T := tab) 1 rfl rfl ?_
                  refine po_nil ?_
                  refine pn_seq ?_
                  exact pw_retN (T := tab) rfl rfl rfl ⟨rfl, rfl⟩ trivial rfl
                · refine po_evs (T := tab) 4 rfl rfl ?_
                  refine po_split (j := 69) rfl ?_ ?_
                  · refine po_evs (T := tab) 3 rfl rfl ?_
                    refine po_call (enc := fun (r18 : Bool) => .v (.bool r18)) (qs := [.agg (cForest f1), .v (.int .i64 m9), .v (.int .i64 m11)]) (Shade_Over_ok fu f1 m9 m11) rfl rfl ⟨⟨_, rfl, .rfl⟩, ⟨_, rfl, .rfl⟩, ⟨_, rfl, .rfl⟩, trivial⟩ (fun _ => rfl) call43 rfl rfl fun r18 hr18 => ?_
                    refine po_evs (T := tab) 2 rfl rfl ?_
                    refine po_split (j := 75) rfl ?_ ?_
                    · refine po_evs (T := tab) 3 rfl rfl ?_
                      refine po_call (enc := fun (r19 : Bool) => .v (.bool r19)) (qs := [.agg (cForest f1), .v (.int .i64 m11), .v (.int .i64 m9)]) (Shade_Over_ok fu f1 m11 m9) rfl rfl ⟨⟨_, rfl, .rfl⟩, ⟨_, rfl, .rfl⟩, ⟨_, rfl, .rfl⟩, trivial⟩ (fun _ => rfl) call43 rfl rfl fun r19 hr19 => ?_
                      refine po_evs (T := tab) 3 rfl rfl ?_
                      refine po_split (j := 82) rfl ?_ ?_
                      · refine po_evs (T := tab) 12 rfl rfl ?_
                        refine po_nil ?_
                        refine pn_seq (pw_then rfl ?_)
                        refine pw_seq ?_
                        refine pw_region ?_
                        refine po_evs (T := tab) 1 rfl rfl ?_
                        refine po_nil ?_
                        refine pn_seq ?_
                        exact pw_retN (T := tab) rfl rfl rfl ⟨rfl, rfl⟩ trivial rfl
                      · refine po_evs (T := tab) 3 rfl rfl ?_
                        refine po_call (enc := fun (r20 : Bool) => .v (.bool r20)) (qs := [.agg (cForest f1), .v (.int .i64 m9), .v (.int .i64 m11)]) (Forest_Holds_ok fu f1 m9 m11) rfl rfl ⟨⟨_, rfl, .rfl⟩, ⟨_, rfl, .rfl⟩, ⟨_, rfl, .rfl⟩, trivial⟩ (fun _ => rfl) call24 rfl rfl fun r20 hr20 => ?_
                        refine po_evs (T := tab) 1 rfl rfl ?_
                        refine po_split (j := 87) rfl ?_ ?_
                        · refine po_evs (T := tab) 3 rfl rfl ?_
                          refine po_call (enc := fun (r21 : Bool) => .v (.bool r21)) (qs := [.agg (cForest f1), .v (.int .i64 m9), .v (.int .i64 m11)]) (Shade_Over_ok fu f1 m9 m11) rfl rfl ⟨⟨_, rfl, .rfl⟩, ⟨_, rfl, .rfl⟩, ⟨_, rfl, .rfl⟩, trivial⟩ (fun _ => rfl) call43 rfl rfl fun r21 hr21 => ?_
                          refine po_evs (T := tab) 3 rfl rfl ?_
                          refine po_nil ?_
                          refine pn_seq ?_
                          refine pw_cnd rfl ?_ ?_
                          · refine pw_seq ?_
                            refine pw_region ?_
                            refine po_evs (T := tab) 1 rfl rfl ?_
                            refine po_nil ?_
                            refine pn_seq ?_
                            exact pw_retN (T := tab) rfl rfl rfl ⟨rfl, rfl⟩ trivial rfl
                          · refine pw_skip ?_
                            exact pn_sub' (hj1 ()) ⟨rfl, rfl, trivial⟩ ⟨rfl, trivial⟩ rfl
                        · refine po_evs (T := tab) 7 rfl rfl ?_
                          refine po_nil ?_
                          refine pn_seq (pw_else rfl ?_)
                          refine pw_skip ?_
                          exact pn_sub' (hj1 ()) ⟨rfl, rfl, trivial⟩ ⟨rfl, trivial⟩ rfl
                    · refine po_evs (T := tab) 10 rfl rfl ?_
                      refine po_call (enc := fun (r22 : Bool) => .v (.bool r22)) (qs := [.agg (cForest f1), .v (.int .i64 m9), .v (.int .i64 m11)]) (Forest_Holds_ok fu f1 m9 m11) rfl rfl ⟨⟨_, rfl, .rfl⟩, ⟨_, rfl, .rfl⟩, ⟨_, rfl, .rfl⟩, trivial⟩ (fun _ => rfl) call24 rfl rfl fun r22 hr22 => ?_
                      refine po_evs (T := tab) 1 rfl rfl ?_
                      refine po_split (j := 87) rfl ?_ ?_
                      · refine po_evs (T := tab) 3 rfl rfl ?_
                        refine po_call (enc := fun (r23 : Bool) => .v (.bool r23)) (qs := [.agg (cForest f1), .v (.int .i64 m9), .v (.int .i64 m11)]) (Shade_Over_ok fu f1 m9 m11) rfl rfl ⟨⟨_, rfl, .rfl⟩, ⟨_, rfl, .rfl⟩, ⟨_, rfl, .rfl⟩, trivial⟩ (fun _ => rfl) call43 rfl rfl fun r23 hr23 => ?_
                        refine po_evs (T := tab) 3 rfl rfl ?_
                        refine po_nil ?_
                        refine pn_seq ?_
                        refine pw_cnd rfl ?_ ?_
                        · refine pw_seq ?_
                          refine pw_region ?_
                          refine po_evs (T := tab) 1 rfl rfl ?_
                          refine po_nil ?_
                          refine pn_seq ?_
                          exact pw_retN (T := tab) rfl rfl rfl ⟨rfl, rfl⟩ trivial rfl
                        · refine pw_skip ?_
                          exact pn_sub' (hj1 ()) ⟨rfl, rfl, trivial⟩ ⟨rfl, trivial⟩ rfl
                      · refine po_evs (T := tab) 7 rfl rfl ?_
                        refine po_nil ?_
                        refine pn_seq (pw_else rfl ?_)
                        refine pw_skip ?_
                        exact pn_sub' (hj1 ()) ⟨rfl, rfl, trivial⟩ ⟨rfl, trivial⟩ rfl
                  · refine po_evs (T := tab) 16 rfl rfl ?_
                    refine po_call (enc := fun (r24 : Bool) => .v (.bool r24)) (qs := [.agg (cForest f1), .v (.int .i64 m9), .v (.int .i64 m11)]) (Forest_Holds_ok fu f1 m9 m11) rfl rfl ⟨⟨_, rfl, .rfl⟩, ⟨_, rfl, .rfl⟩, ⟨_, rfl, .rfl⟩, trivial⟩ (fun _ => rfl) call24 rfl rfl fun r24 hr24 => ?_
                    refine po_evs (T := tab) 1 rfl rfl ?_
                    refine po_split (j := 87) rfl ?_ ?_
                    · refine po_evs (T := tab) 3 rfl rfl ?_
                      refine po_call (enc := fun (r25 : Bool) => .v (.bool r25)) (qs := [.agg (cForest f1), .v (.int .i64 m9), .v (.int .i64 m11)]) (Shade_Over_ok fu f1 m9 m11) rfl rfl ⟨⟨_, rfl, .rfl⟩, ⟨_, rfl, .rfl⟩, ⟨_, rfl, .rfl⟩, trivial⟩ (fun _ => rfl) call43 rfl rfl fun r25 hr25 => ?_
                      refine po_evs (T := tab) 3 rfl rfl ?_
                      refine po_nil ?_
                      refine pn_seq ?_
                      refine pw_cnd rfl ?_ ?_
                      · refine pw_seq ?_
                        refine pw_region ?_
                        refine po_evs (T := tab) 1 rfl rfl ?_
                        refine po_nil ?_
                        refine pn_seq ?_
                        exact pw_retN (T := tab) rfl rfl rfl ⟨rfl, rfl⟩ trivial rfl
                      · refine pw_skip ?_
                        exact pn_sub' (hj1 ()) ⟨rfl, rfl, trivial⟩ ⟨rfl, trivial⟩ rfl
                    · refine po_evs (T := tab) 7 rfl rfl ?_
                      refine po_nil ?_
                      refine pn_seq (pw_else rfl ?_)
                      refine pw_skip ?_
                      exact pn_sub' (hj1 ()) ⟨rfl, rfl, trivial⟩ ⟨rfl, trivial⟩ rfl
              · refine po_evs (T := tab) 12 rfl rfl ?_
                refine po_split (j := 69) rfl ?_ ?_
                · refine po_evs (T := tab) 3 rfl rfl ?_
                  refine po_call (enc := fun (r26 : Bool) => .v (.bool r26)) (qs := [.agg (cForest f1), .v (.int .i64 m9), .v (.int .i64 m11)]) (Shade_Over_ok fu f1 m9 m11) rfl rfl ⟨⟨_, rfl, .rfl⟩, ⟨_, rfl, .rfl⟩, ⟨_, rfl, .rfl⟩, trivial⟩ (fun _ => rfl) call43 rfl rfl fun r26 hr26 => ?_
                  refine po_evs (T := tab) 2 rfl rfl ?_
                  refine po_split (j := 75) rfl ?_ ?_
                  · refine po_evs (T := tab) 3 rfl rfl ?_
                    refine po_call (enc := fun (r27 : Bool) => .v (.bool r27)) (qs := [.agg (cForest f1), .v (.int .i64 m11), .v (.int .i64 m9)]) (Shade_Over_ok fu f1 m11 m9) rfl rfl ⟨⟨_, rfl, .rfl⟩, ⟨_, rfl, .rfl⟩, ⟨_, rfl, .rfl⟩, trivial⟩ (fun _ => rfl) call43 rfl rfl fun r27 hr27 => ?_
                    refine po_evs (T := tab) 3 rfl rfl ?_
                    refine po_split (j := 82) rfl ?_ ?_
                    · refine po_evs (T := tab) 12 rfl rfl ?_
                      refine po_nil ?_
                      refine pn_seq (pw_then rfl ?_)
                      refine pw_seq ?_
                      refine pw_region ?_
                      refine po_evs (T := tab) 1 rfl rfl ?_
                      refine po_nil ?_
                      refine pn_seq ?_
                      exact pw_retN (T := tab) rfl rfl rfl ⟨rfl, rfl⟩ trivial rfl
                    · refine po_evs (T := tab) 3 rfl rfl ?_
                      refine po_call (enc := fun (r28 : Bool) => .v (.bool r28)) (qs := [.agg (cForest f1), .v (.int .i64 m9), .v (.int .i64 m11)]) (Forest_Holds_ok fu f1 m9 m11) rfl rfl ⟨⟨_, rfl, .rfl⟩, ⟨_, rfl, .rfl⟩, ⟨_, rfl, .rfl⟩, trivial⟩ (fun _ => rfl) call24 rfl rfl fun r28 hr28 => ?_
                      refine po_evs (T := tab) 1 rfl rfl ?_
                      refine po_split (j := 87) rfl ?_ ?_
                      · refine po_evs (T := tab) 3 rfl rfl ?_
                        refine po_call (enc := fun (r29 : Bool) => .v (.bool r29)) (qs := [.agg (cForest f1), .v (.int .i64 m9), .v (.int .i64 m11)]) (Shade_Over_ok fu f1 m9 m11) rfl rfl ⟨⟨_, rfl, .rfl⟩, ⟨_, rfl, .rfl⟩, ⟨_, rfl, .rfl⟩, trivial⟩ (fun _ => rfl) call43 rfl rfl fun r29 hr29 => ?_
                        refine po_evs (T := tab) 3 rfl rfl ?_
                        refine po_nil ?_
                        refine pn_seq ?_
                        refine pw_cnd rfl ?_ ?_
                        · refine pw_seq ?_
                          refine pw_region ?_
                          refine po_evs (T := tab) 1 rfl rfl ?_
                          refine po_nil ?_
                          refine pn_seq ?_
                          exact pw_retN (T := tab) rfl rfl rfl ⟨rfl, rfl⟩ trivial rfl
                        · refine pw_skip ?_
                          exact pn_sub' (hj1 ()) ⟨rfl, rfl, trivial⟩ ⟨rfl, trivial⟩ rfl
                      · refine po_evs (T := tab) 7 rfl rfl ?_
                        refine po_nil ?_
                        refine pn_seq (pw_else rfl ?_)
                        refine pw_skip ?_
                        exact pn_sub' (hj1 ()) ⟨rfl, rfl, trivial⟩ ⟨rfl, trivial⟩ rfl
                  · refine po_evs (T := tab) 10 rfl rfl ?_
                    refine po_call (enc := fun (r30 : Bool) => .v (.bool r30)) (qs := [.agg (cForest f1), .v (.int .i64 m9), .v (.int .i64 m11)]) (Forest_Holds_ok fu f1 m9 m11) rfl rfl ⟨⟨_, rfl, .rfl⟩, ⟨_, rfl, .rfl⟩, ⟨_, rfl, .rfl⟩, trivial⟩ (fun _ => rfl) call24 rfl rfl fun r30 hr30 => ?_
                    refine po_evs (T := tab) 1 rfl rfl ?_
                    refine po_split (j := 87) rfl ?_ ?_
                    · refine po_evs (T := tab) 3 rfl rfl ?_
                      refine po_call (enc := fun (r31 : Bool) => .v (.bool r31)) (qs := [.agg (cForest f1), .v (.int .i64 m9), .v (.int .i64 m11)]) (Shade_Over_ok fu f1 m9 m11) rfl rfl ⟨⟨_, rfl, .rfl⟩, ⟨_, rfl, .rfl⟩, ⟨_, rfl, .rfl⟩, trivial⟩ (fun _ => rfl) call43 rfl rfl fun r31 hr31 => ?_
                      refine po_evs (T := tab) 3 rfl rfl ?_
                      refine po_nil ?_
                      refine pn_seq ?_
                      refine pw_cnd rfl ?_ ?_
                      · refine pw_seq ?_
                        refine pw_region ?_
                        refine po_evs (T := tab) 1 rfl rfl ?_
                        refine po_nil ?_
                        refine pn_seq ?_
                        exact pw_retN (T := tab) rfl rfl rfl ⟨rfl, rfl⟩ trivial rfl
                      · refine pw_skip ?_
                        exact pn_sub' (hj1 ()) ⟨rfl, rfl, trivial⟩ ⟨rfl, trivial⟩ rfl
                    · refine po_evs (T := tab) 7 rfl rfl ?_
                      refine po_nil ?_
                      refine pn_seq (pw_else rfl ?_)
                      refine pw_skip ?_
                      exact pn_sub' (hj1 ()) ⟨rfl, rfl, trivial⟩ ⟨rfl, trivial⟩ rfl
                · refine po_evs (T := tab) 16 rfl rfl ?_
                  refine po_call (enc := fun (r32 : Bool) => .v (.bool r32)) (qs := [.agg (cForest f1), .v (.int .i64 m9), .v (.int .i64 m11)]) (Forest_Holds_ok fu f1 m9 m11) rfl rfl ⟨⟨_, rfl, .rfl⟩, ⟨_, rfl, .rfl⟩, ⟨_, rfl, .rfl⟩, trivial⟩ (fun _ => rfl) call24 rfl rfl fun r32 hr32 => ?_
                  refine po_evs (T := tab) 1 rfl rfl ?_
                  refine po_split (j := 87) rfl ?_ ?_
                  · refine po_evs (T := tab) 3 rfl rfl ?_
                    refine po_call (enc := fun (r33 : Bool) => .v (.bool r33)) (qs := [.agg (cForest f1), .v (.int .i64 m9), .v (.int .i64 m11)]) (Shade_Over_ok fu f1 m9 m11) rfl rfl ⟨⟨_, rfl, .rfl⟩, ⟨_, rfl, .rfl⟩, ⟨_, rfl, .rfl⟩, trivial⟩ (fun _ => rfl) call43 rfl rfl fun r33 hr33 => ?_
                    refine po_evs (T := tab) 3 rfl rfl ?_
                    refine po_nil ?_
                    refine pn_seq ?_
                    refine pw_cnd rfl ?_ ?_
                    · refine pw_seq ?_
                      refine pw_region ?_
                      refine po_evs (T := tab) 1 rfl rfl ?_
                      refine po_nil ?_
                      refine pn_seq ?_
                      exact pw_retN (T := tab) rfl rfl rfl ⟨rfl, rfl⟩ trivial rfl
                    · refine pw_skip ?_
                      exact pn_sub' (hj1 ()) ⟨rfl, rfl, trivial⟩ ⟨rfl, trivial⟩ rfl
                  · refine po_evs (T := tab) 7 rfl rfl ?_
                    refine po_nil ?_
                    refine pn_seq (pw_else rfl ?_)
                    refine pw_skip ?_
                    exact pn_sub' (hj1 ()) ⟨rfl, rfl, trivial⟩ ⟨rfl, trivial⟩ rfl
            · refine po_evs (T := tab) 18 rfl rfl ?_
              refine po_split (j := 69) rfl ?_ ?_
              · refine po_evs (T := tab) 3 rfl rfl ?_
                refine po_call (enc := fun (r34 : Bool) => .v (.bool r34)) (qs := [.agg (cForest f1), .v (.int .i64 m9), .v (.int .i64 m11)]) (Shade_Over_ok fu f1 m9 m11) rfl rfl ⟨⟨_, rfl, .rfl⟩, ⟨_, rfl, .rfl⟩, ⟨_, rfl, .rfl⟩, trivial⟩ (fun _ => rfl) call43 rfl rfl fun r34 hr34 => ?_
                refine po_evs (T := tab) 2 rfl rfl ?_
                refine po_split (j := 75) rfl ?_ ?_
                · refine po_evs (T := tab) 3 rfl rfl ?_
                  refine po_call (enc := fun (r35 : Bool) => .v (.bool r35)) (qs := [.agg (cForest f1), .v (.int .i64 m11), .v (.int .i64 m9)]) (Shade_Over_ok fu f1 m11 m9) rfl rfl ⟨⟨_, rfl, .rfl⟩, ⟨_, rfl, .rfl⟩, ⟨_, rfl, .rfl⟩, trivial⟩ (fun _ => rfl) call43 rfl rfl fun r35 hr35 => ?_
                  refine po_evs (T := tab) 3 rfl rfl ?_
                  refine po_split (j := 82) rfl ?_ ?_
                  · refine po_evs (T := tab) 12 rfl rfl ?_
                    refine po_nil ?_
                    refine pn_seq (pw_then rfl ?_)
                    refine pw_seq ?_
                    refine pw_region ?_
                    refine po_evs (T := tab) 1 rfl rfl ?_
                    refine po_nil ?_
                    refine pn_seq ?_
                    exact pw_retN (T := tab) rfl rfl rfl ⟨rfl, rfl⟩ trivial rfl
                  · refine po_evs (T := tab) 3 rfl rfl ?_
                    refine po_call (enc := fun (r36 : Bool) => .v (.bool r36)) (qs := [.agg (cForest f1), .v (.int .i64 m9), .v (.int .i64 m11)]) (Forest_Holds_ok fu f1 m9 m11) rfl rfl ⟨⟨_, rfl, .rfl⟩, ⟨_, rfl, .rfl⟩, ⟨_, rfl, .rfl⟩, trivial⟩ (fun _ => rfl) call24 rfl rfl fun r36 hr36 => ?_
                    refine po_evs (T := tab) 1 rfl rfl ?_
                    refine po_split (j := 87) rfl ?_ ?_
                    · refine po_evs (T := tab) 3 rfl rfl ?_
                      refine po_call (enc := fun (r37 : Bool) => .v (.bool r37)) (qs := [.agg (cForest f1), .v (.int .i64 m9), .v (.int .i64 m11)]) (Shade_Over_ok fu f1 m9 m11) rfl rfl ⟨⟨_, rfl, .rfl⟩, ⟨_, rfl, .rfl⟩, ⟨_, rfl, .rfl⟩, trivial⟩ (fun _ => rfl) call43 rfl rfl fun r37 hr37 => ?_
                      refine po_evs (T := tab) 3 rfl rfl ?_
                      refine po_nil ?_
                      refine pn_seq ?_
                      refine pw_cnd rfl ?_ ?_
                      · refine pw_seq ?_
                        refine pw_region ?_
                        refine po_evs (T := tab) 1 rfl rfl ?_
                        refine po_nil ?_
                        refine pn_seq ?_
                        exact pw_retN (T := tab) rfl rfl rfl ⟨rfl, rfl⟩ trivial rfl
                      · refine pw_skip ?_
                        exact pn_sub' (hj1 ()) ⟨rfl, rfl, trivial⟩ ⟨rfl, trivial⟩ rfl
                    · refine po_evs (T := tab) 7 rfl rfl ?_
                      refine po_nil ?_
                      refine pn_seq (pw_else rfl ?_)
                      refine pw_skip ?_
                      exact pn_sub' (hj1 ()) ⟨rfl, rfl, trivial⟩ ⟨rfl, trivial⟩ rfl
                · refine po_evs (T := tab) 10 rfl rfl ?_
                  refine po_call (enc := fun (r38 : Bool) => .v (.bool r38)) (qs := [.agg (cForest f1), .v (.int .i64 m9), .v (.int .i64 m11)]) (Forest_Holds_ok fu f1 m9 m11) rfl rfl ⟨⟨_, rfl, .rfl⟩, ⟨_, rfl, .rfl⟩, ⟨_, rfl, .rfl⟩, trivial⟩ (fun _ => rfl) call24 rfl rfl fun r38 hr38 => ?_
                  refine po_evs (T := tab) 1 rfl rfl ?_
                  refine po_split (j := 87) rfl ?_ ?_
                  · refine po_evs (T := tab) 3 rfl rfl ?_
                    refine po_call (enc := fun (r39 : Bool) => .v (.bool r39)) (qs := [.agg (cForest f1), .v (.int .i64 m9), .v (.int .i64 m11)]) (Shade_Over_ok fu f1 m9 m11) rfl rfl ⟨⟨_, rfl, .rfl⟩, ⟨_, rfl, .rfl⟩, ⟨_, rfl, .rfl⟩, trivial⟩ (fun _ => rfl) call43 rfl rfl fun r39 hr39 => ?_
                    refine po_evs (T := tab) 3 rfl rfl ?_
                    refine po_nil ?_
                    refine pn_seq ?_
                    refine pw_cnd rfl ?_ ?_
                    · refine pw_seq ?_
                      refine pw_region ?_
                      refine po_evs (T := tab) 1 rfl rfl ?_
                      refine po_nil ?_
                      refine pn_seq ?_
                      exact pw_retN (T := tab) rfl rfl rfl ⟨rfl, rfl⟩ trivial rfl
                    · refine pw_skip ?_
                      exact pn_sub' (hj1 ()) ⟨rfl, rfl, trivial⟩ ⟨rfl, trivial⟩ rfl
                  · refine po_evs (T := tab) 7 rfl rfl ?_
                    refine po_nil ?_
                    refine pn_seq (pw_else rfl ?_)
                    refine pw_skip ?_
                    exact pn_sub' (hj1 ()) ⟨rfl, rfl, trivial⟩ ⟨rfl, trivial⟩ rfl
              · refine po_evs (T := tab) 16 rfl rfl ?_
                refine po_call (enc := fun (r40 : Bool) => .v (.bool r40)) (qs := [.agg (cForest f1), .v (.int .i64 m9), .v (.int .i64 m11)]) (Forest_Holds_ok fu f1 m9 m11) rfl rfl ⟨⟨_, rfl, .rfl⟩, ⟨_, rfl, .rfl⟩, ⟨_, rfl, .rfl⟩, trivial⟩ (fun _ => rfl) call24 rfl rfl fun r40 hr40 => ?_
                refine po_evs (T := tab) 1 rfl rfl ?_
                refine po_split (j := 87) rfl ?_ ?_
                · refine po_evs (T := tab) 3 rfl rfl ?_
                  refine po_call (enc := fun (r41 : Bool) => .v (.bool r41)) (qs := [.agg (cForest f1), .v (.int .i64 m9), .v (.int .i64 m11)]) (Shade_Over_ok fu f1 m9 m11) rfl rfl ⟨⟨_, rfl, .rfl⟩, ⟨_, rfl, .rfl⟩, ⟨_, rfl, .rfl⟩, trivial⟩ (fun _ => rfl) call43 rfl rfl fun r41 hr41 => ?_
                  refine po_evs (T := tab) 3 rfl rfl ?_
                  refine po_nil ?_
                  refine pn_seq ?_
                  refine pw_cnd rfl ?_ ?_
                  · refine pw_seq ?_
                    refine pw_region ?_
                    refine po_evs (T := tab) 1 rfl rfl ?_
                    refine po_nil ?_
                    refine pn_seq ?_
                    exact pw_retN (T := tab) rfl rfl rfl ⟨rfl, rfl⟩ trivial rfl
                  · refine pw_skip ?_
                    exact pn_sub' (hj1 ()) ⟨rfl, rfl, trivial⟩ ⟨rfl, trivial⟩ rfl
                · refine po_evs (T := tab) 7 rfl rfl ?_
                  refine po_nil ?_
                  refine pn_seq (pw_else rfl ?_)
                  refine pw_skip ?_
                  exact pn_sub' (hj1 ()) ⟨rfl, rfl, trivial⟩ ⟨rfl, trivial⟩ rfl

def Instarlaw04_ShadeAll_j1 (fu : Nat) (f1 : Forest) (r8 : (List Int)) (i24 : Int) (y26 : Node) (rc3 : Int → Option Bool) (x_ : Unit) : Option Bool := cnd (decide (((y26.Kids.length : Nat) : Int) > 0)) (cnd (y26.Under != (-1)) (bnd (idx y26.Kids 0) fun y30 => bnd (Instarref03_Find_m fu r8 y30) fun r31 => bnd (rng .i64 (i24 + 1)) fun i32 => bnd (Shade_All_m fu f1 y26.Under) fun r33 => bnd (rng .i64 (i32 + ((r33.length : Nat) : Int))) fun i34 => cnd (r31 != i34) (some false) (bnd (rng .i64 (i24 + 1)) fun i35 => rc3 i35)) (bnd (rng .i64 (i24 + 1)) fun i36 => rc3 i36)) (bnd (rng .i64 (i24 + 1)) fun i37 => rc3 i37)

def Instarlaw04_ShadeAll_l3 (fu : Nat) (f1 : Forest) (m7 : Int) (r8 : (List Int)) (r16 : (List Int)) : Nat → Int → Option Bool
  | 0, _ => none
  | k3 + 1, i24 => cnd (decide (i24 < ((r8.length : Nat) : Int))) (bnd (idx r8 i24) fun y25 => bnd (idx f1.Nodes y25) fun y26 => cnd (y26.Under != (-1)) (bnd (rng .i64 (i24 + 1)) fun i27 => cnd (decide (i27 ≥ ((r8.length : Nat) : Int))) (some false) (bnd (rng .i64 (i24 + 1)) fun i28 => bnd (idx r8 i28) fun y29 => cnd (y29 != y26.Under) (some false) ((Instarlaw04_ShadeAll_j1 fu f1 r8 i24 y26 (Instarlaw04_ShadeAll_l3 fu f1 m7 r8 r16 k3)) ()))) ((Instarlaw04_ShadeAll_j1 fu f1 r8 i24 y26 (Instarlaw04_ShadeAll_l3 fu f1 m7 r8 r16 k3)) ())) (cnd (decide (((r8.length : Nat) : Int) ≥ ((r16.length : Nat) : Int))) (bnd (idx r8 0) fun y38 => cnd (y38 == m7) (bnd (Shade_Connected_m fu f1 m7) fun r39 => bnd (Shade_Top_m fu f1 m7) fun r40 => bnd (idx f1.Nodes r40) fun y41 => some (r39 == (y41.Kind == 0))) (some false)) (some false))

def Instarlaw04_ShadeAll_l2 (fu : Nat) (f1 : Forest) (m7 : Int) (r8 : (List Int)) (r16 : (List Int)) : Nat → Int → Option Bool
  | 0, _ => none
  | k2 + 1, i17 => cnd (decide (i17 < ((r16.length : Nat) : Int))) (bnd (rng .i64 (i17 - 1)) fun i18 => bnd (idx r16 i18) fun y19 => bnd (Instarref03_Find_m fu r8 y19) fun r20 => bnd (idx r16 i17) fun y21 => bnd (Instarref03_Find_m fu r8 y21) fun r22 => cnd (decide (r20 ≥ r22)) (some false) (bnd (rng .i64 (i17 + 1)) fun i23 => (Instarlaw04_ShadeAll_l2 fu f1 m7 r8 r16 k2) i23)) ((Instarlaw04_ShadeAll_l3 fu f1 m7 r8 r16) fu 0)

def Instarlaw04_ShadeAll_l1 (fu : Nat) (f1 : Forest) (m7 : Int) (r8 : (List Int)) : Nat → Int → Option Bool
  | 0, _ => none
  | k1 + 1, k9 => cnd (decide (k9 < ((f1.Nodes.length : Nat) : Int))) (bnd (Instarref03_Has_m fu r8 k9) fun r10 => bnd (Shade_Over_m fu f1 m7 k9) fun r11 => cnd (!(r11 == (r10 == 1))) (some false) (cnd (decide (r10 > 1)) (some false) (cnd (r10 == 1) (bnd (Shade_Top_m fu f1 k9) fun r12 => bnd (Shade_Top_m fu f1 m7) fun r13 => cnd (r12 != r13) (some false) (bnd (rng .i64 (k9 + 1)) fun i14 => (Instarlaw04_ShadeAll_l1 fu f1 m7 r8 k1) i14)) (bnd (rng .i64 (k9 + 1)) fun i15 => (Instarlaw04_ShadeAll_l1 fu f1 m7 r8 k1) i15)))) (bnd (Forest_Order_m fu f1 m7) fun r16 => (Instarlaw04_ShadeAll_l2 fu f1 m7 r8 r16) fu 1)

def Instarlaw04_ShadeAll_m (fu : Nat) (f1 : Forest) (a2 : Int) : Option Bool := bnd (Instarlaw04_awake_m fu) fun r3 => cnd (!r3) (some false) (bnd (Instarref03_Short_m fu f1) fun r4 => cnd (!r4) (some true) (bnd (Forest_Right_m fu f1) fun r5 => cnd (!r5) (some true) (bnd (rng .i64 a2) fun i6 => bnd (remI i6 ((f1.Nodes.length : Nat) : Int)) fun m7 => bnd (Shade_All_m fu f1 m7) fun r8 => (Instarlaw04_ShadeAll_l1 fu f1 m7 r8) fu 0)))

set_option maxHeartbeats 10000000 in
set_option maxRecDepth 100000 in
theorem Instarlaw04_ShadeAll_ok (fu : Nat) (f1 : Forest) (a2 : Int) : ∀ r, Instarlaw04_ShadeAll_m fu f1 a2 = some r → DC Try.prog 12 [.agg (cForest f1), .v (.int .u8 a2)] (.v (.bool r)) := by
  intro r hr
  refine fc_intro (args := [.agg (cForest f1), .v (.int .u8 a2)]) (S := []) (N0 := []) (post := fun r p S => p = .v (.bool r) ∧ S = []) Try.func12 rfl rfl hr fun w0 X X0 σ0 => ?_
  refine pw_seq ?_
  refine pw_region ?_
  refine po_box  2 rfl rfl rfl rfl rfl rfl rfl rfl rfl rfl ?_
  refine po_evs (T := tab) 1 rfl rfl ?_
  refine po_nil ?_
  refine pn_seq ?_
  refine pw_seq ?_
  refine pw_seq ?_
  refine pw_region ?_
  refine po_call (enc := fun (r3 : Bool) => .v (.bool r3)) (qs := []) (Instarlaw04_awake_ok fu) rfl rfl trivial (fun _ => rfl) call37 rfl rfl fun r3 hr3 => ?_
  refine po_evs (T := tab) 1 rfl rfl ?_
  refine po_nil ?_
  refine pn_seq ?_
  refine pw_cnd rfl ?_ ?_
  · refine pw_seq ?_
    refine pw_region ?_
    refine po_evs (T := tab) 1 rfl rfl ?_
    refine po_nil ?_
    refine pn_seq ?_
    exact pw_retN (T := tab) rfl rfl rfl ⟨rfl, rfl⟩ trivial rfl
  · refine pw_skip ?_
    refine pn_seq ?_
    refine pw_seq ?_
    refine pw_seq ?_
    refine pw_region ?_
    refine po_evs (T := tab) 1 rfl rfl ?_
    refine po_call (enc := fun (r4 : Bool) => .v (.bool r4)) (qs := [.agg (cForest f1)]) (Instarref03_Short_ok fu f1) rfl rfl ⟨⟨_, rfl, .rfl⟩, trivial⟩ (fun _ => rfl) call15 rfl rfl fun r4 hr4 => ?_
    refine po_evs (T := tab) 2 rfl rfl ?_
    refine po_split (j := 18) rfl ?_ ?_
    · refine po_evs (T := tab) 4 rfl rfl ?_
      refine po_nil ?_
      refine pn_seq (pw_then rfl ?_)
      refine pw_seq ?_
      refine pw_region ?_
      refine po_evs (T := tab) 1 rfl rfl ?_
      refine po_nil ?_
      refine pn_seq ?_
      exact pw_retN (T := tab) rfl rfl rfl ⟨rfl, rfl⟩ trivial rfl
    · refine po_evs (T := tab) 1 rfl rfl ?_
      refine po_call (enc := fun (r5 : Bool) => .v (.bool r5)) (qs := [.agg (cForest f1)]) (Forest_Right_ok fu f1) rfl rfl ⟨⟨_, rfl, .rfl⟩, trivial⟩ (fun _ => rfl) call19 rfl rfl fun r5 hr5 => ?_
      refine po_evs (T := tab) 2 rfl rfl ?_
      refine po_nil ?_
      refine pn_seq ?_
      refine pw_cnd rfl ?_ ?_
      · refine pw_seq ?_
        refine pw_region ?_
        refine po_evs (T := tab) 1 rfl rfl ?_
        refine po_nil ?_
        refine pn_seq ?_
        exact pw_retN (T := tab) rfl rfl rfl ⟨rfl, rfl⟩ trivial rfl
      · refine pw_skip ?_
        refine pn_seq ?_
        refine pw_seq ?_
        refine pw_region ?_
        refine po_evs (T := tab) 1 rfl rfl ?_
        refine po_arith' (T := tab) rfl rfl rfl rfl fun i6 hi6 => ?_
        refine po_evs (T := tab) 2 rfl rfl ?_
        refine po_len (T := tab) cNode f1.Nodes rfl rfl rfl rfl rfl rfl rfl rfl ?_
        refine po_rem rfl rfl rfl rfl rfl rfl fun m7 hm7 => ?_
        refine po_evs (T := tab) 1 rfl rfl ?_
        refine po_nil ?_
        refine pn_seq ?_
        refine pw_seq ?_
        refine pw_region ?_
        refine po_evs (T := tab) 2 rfl rfl ?_
        refine po_turn [2310] (enc := fun (r8 : (List Int)) => .own 2310) (Sr := fun (r8 : (List Int)) => [(2310, .arr 3 1 (r8.map cInt_i64))]) (first := []) (cap := []) (qs := [.agg (cForest f1), .v (.int .i64 m7)]) (Sc := []) (N0 := []) (NR := [2310]) (fun r8 hr8 => fc_ren [(1035, 2310)] [1035] (Shade_All_ok fu f1 m7 _ hr8) rfl rfl rfl rfl rfl rfl) trivial (fun _ => rfl) rfl rfl rfl rfl rfl rfl rfl (fun _ => rfl) (fun _ => rfl) rfl rfl rfl ⟨⟨_, rfl, .rfl⟩, ⟨_, rfl, .rfl⟩, trivial⟩ call41 rfl rfl fun r8 hr8 => ?_
        refine po_freeze 2310 rfl rfl rfl ?_
        refine po_evs (T := tab) 1 rfl rfl ?_
        refine po_nil ?_
        refine pn_seq ?_
        refine pw_seq ?_
        refine pw_seq ?_
        refine pw_region ?_
        refine po_evs (T := tab) 1 rfl rfl ?_
        refine po_nil ?_
        refine pn_seq ?_
        refine pw_block ?_
        refine pw_loop' (Instarlaw04_ShadeAll_l1 fu f1 m7 r8) (fun (k9 : Int) => [(2, .loc 2 0), (5, .v (.int .i64 m7)), (6, .sl 1 false (r8.map cInt_i64)), (7, .v (.int .i64 k9))]) (fun (k9 : Int) => [(2, .box [.sl 10 false (f1.Nodes.map cNode), .v (.int .i64 f1.Most)])]) fu 0 (fun _ => rfl) ⟨rfl, rfl, rfl, rfl, trivial⟩ ⟨rfl, trivial⟩ rfl ?_
        rintro k1 k9
        refine pw_seq ?_
        refine pw_seq ?_
        refine pw_region ?_
        refine po_evs (T := tab) 3 rfl rfl ?_
        refine po_len (T := tab) cNode f1.Nodes rfl rfl rfl rfl rfl rfl rfl rfl ?_
        refine po_evs (T := tab) 1 rfl rfl ?_
        refine po_nil ?_
        refine pn_seq ?_
        refine pw_cnd rfl ?_ ?_
        · refine pw_skip ?_
          refine pn_seq ?_
          refine pw_seq ?_
          refine pw_block ?_
          refine pw_seq ?_
          refine pw_region ?_
          refine po_evs (T := tab) 2 rfl rfl ?_
          refine po_call (enc := fun (r10 : Int) => .v (.int .i64 r10)) (qs := [.sl 1 false (r8.map cInt_i64), .v (.int .i64 k9)]) (Instarref03_Has_ok fu r8 k9) rfl rfl ⟨⟨_, rfl, .rfl⟩, ⟨_, rfl, .rfl⟩, trivial⟩ (fun _ => rfl) call34 rfl rfl fun r10 hr10 => ?_
          refine po_evs (T := tab) 1 rfl rfl ?_
          refine po_nil ?_
          refine pn_seq ?_
          refine pw_seq ?_
          refine pw_draw mixed (by kernel_rfl) ?_
          refine pd_evs (T := tab) 3 rfl rfl ?_
          refine pd_call (enc := fun (r11 : Bool) => .v (.bool r11)) (qs := [.agg (cForest f1), .v (.int .i64 m7), .v (.int .i64 k9)]) (Shade_Over_ok fu f1 m7 k9) rfl rfl ⟨⟨_, rfl, .rfl⟩, ⟨_, rfl, .rfl⟩, ⟨_, rfl, .rfl⟩, trivial⟩ (fun _ => rfl) call43 rfl rfl fun r11 hr11 => ?_
          refine pd_evs (T := tab) 4 rfl rfl ?_
          refine pd_split (j := 49) rfl ?_ ?_
          · refine pd_evs (T := tab) 16 rfl rfl ?_
            refine pd_nil ?_
            refine pn_seq (pw_then rfl ?_)
            refine pw_seq ?_
            refine pw_region ?_
            refine po_evs (T := tab) 1 rfl rfl ?_
            refine po_nil ?_
            refine pn_seq ?_
            exact pw_retN (T := tab) rfl rfl rfl ⟨rfl, rfl⟩ trivial rfl
          · refine pd_evs (T := tab) 4 rfl rfl ?_
            refine pd_split (j := 53) rfl ?_ ?_
            · refine pd_evs (T := tab) 12 rfl rfl ?_
              refine pd_nil ?_
              refine pn_seq (pw_then rfl ?_)
              refine pw_seq ?_
              refine pw_region ?_
              refine po_evs (T := tab) 1 rfl rfl ?_
              refine po_nil ?_
              refine pn_seq ?_
              exact pw_retN (T := tab) rfl rfl rfl ⟨rfl, rfl⟩ trivial rfl
            · refine pd_evs (T := tab) 3 rfl rfl ?_
              refine pd_split (j := 56) rfl ?_ ?_
              · refine pd_evs (T := tab) 2 rfl rfl ?_
                refine pd_call (enc := fun (r12 : Int) => .v (.int .i64 r12)) (qs := [.agg (cForest f1), .v (.int .i64 k9)]) (Shade_Top_ok fu f1 k9) rfl rfl ⟨⟨_, rfl, .rfl⟩, ⟨_, rfl, .rfl⟩, trivial⟩ (fun _ => rfl) call39 rfl rfl fun r12 hr12 => ?_
                refine pd_evs (T := tab) 2 rfl rfl ?_
                refine pd_call (enc := fun (r13 : Int) => .v (.int .i64 r13)) (qs := [.agg (cForest f1), .v (.int .i64 m7)]) (Shade_Top_ok fu f1 m7) rfl rfl ⟨⟨_, rfl, .rfl⟩, ⟨_, rfl, .rfl⟩, trivial⟩ (fun _ => rfl) call39 rfl rfl fun r13 hr13 => ?_
                refine pd_evs (T := tab) 3 rfl rfl ?_
                refine pd_nil ?_
                refine pn_seq ?_
                refine pw_cnd rfl ?_ ?_
                · refine pw_seq ?_
                  refine pw_region ?_
                  refine po_evs (T := tab) 1 rfl rfl ?_
                  refine po_nil ?_
                  refine pn_seq ?_
                  exact pw_retN (T := tab) rfl rfl rfl ⟨rfl, rfl⟩ trivial rfl
                · refine pw_skip ?_
                  refine pn_block ?_
                  refine pn_seq ?_
                  refine pw_region ?_
                  refine po_evs (T := tab) 1 rfl rfl ?_
                  refine po_arith' (T := tab) rfl rfl rfl rfl fun i14 hi14 => ?_
                  refine po_evs (T := tab) 1 rfl rfl ?_
                  refine po_nil ?_
                  exact pn_iter' i14 ⟨rfl, rfl, rfl, rfl, trivial⟩ ⟨rfl, trivial⟩ rfl
              · refine pd_evs (T := tab) 9 rfl rfl ?_
                refine pd_nil ?_
                refine pn_seq (pw_else rfl ?_)
                refine pw_skip ?_
                refine pn_block ?_
                refine pn_seq ?_
                refine pw_region ?_
                refine po_evs (T := tab) 1 rfl rfl ?_
                refine po_arith' (T := tab) rfl rfl rfl rfl fun i15 hi15 => ?_
                refine po_evs (T := tab) 1 rfl rfl ?_
                refine po_nil ?_
                exact pn_iter' i15 ⟨rfl, rfl, rfl, rfl, trivial⟩ ⟨rfl, trivial⟩ rfl
        · refine pw_exit rfl ?_
          refine pn_seq ?_
          refine pw_seq ?_
          refine pw_region ?_
          refine po_evs (T := tab) 2 rfl rfl ?_
          refine po_call (enc := fun (r16 : (List Int)) => .sl 1 false (r16.map cInt_i64)) (qs := [.agg (cForest f1), .v (.int .i64 m7)]) (Forest_Order_ok fu f1 m7) rfl rfl ⟨⟨_, rfl, .rfl⟩, ⟨_, rfl, .rfl⟩, trivial⟩ (fun _ => rfl) call23 rfl rfl fun r16 hr16 => ?_
          refine po_evs (T := tab) 1 rfl rfl ?_
          refine po_nil ?_
          refine pn_seq ?_
          refine pw_seq ?_
          refine pw_seq ?_
          refine pw_region ?_
          refine po_evs (T := tab) 1 rfl rfl ?_
          refine po_nil ?_
          refine pn_seq ?_
          refine pw_block ?_
          refine pw_loop' (Instarlaw04_ShadeAll_l2 fu f1 m7 r8 r16) (fun (i17 : Int) => [(2, .loc 2 0), (5, .v (.int .i64 m7)), (6, .sl 1 false (r8.map cInt_i64)), (9, .sl 1 false (r16.map cInt_i64)), (10, .v (.int .i64 i17))]) (fun (i17 : Int) => [(2, .box [.sl 10 false (f1.Nodes.map cNode), .v (.int .i64 f1.Most)])]) fu 1 (fun _ => rfl) ⟨rfl, rfl, rfl, rfl, rfl, trivial⟩ ⟨rfl, trivial⟩ rfl ?_
          rintro k2 i17
          refine pw_seq ?_
          refine pw_seq ?_
          refine pw_region ?_
          refine po_evs (T := tab) 2 rfl rfl ?_
          refine po_len (T := tab) cInt_i64 r16 rfl rfl rfl rfl rfl rfl rfl rfl ?_
          refine po_evs (T := tab) 1 rfl rfl ?_
          refine po_nil ?_
          refine pn_seq ?_
          refine pw_cnd rfl ?_ ?_
          · refine pw_skip ?_
            refine pn_seq ?_
            refine pw_seq ?_
            refine pw_block ?_
            refine pw_seq ?_
            refine pw_draw mixed (by kernel_rfl) ?_
            refine pd_evs (T := tab) 3 rfl rfl ?_
            refine pd_arith (T := tab) rfl rfl rfl rfl fun i18 hi18 => ?_
            refine pd_idx (T := tab) cInt_i64 r16 rfl rfl rfl rfl rfl rfl rfl fun y19 hy19 => ?_
            refine pd_evs (T := tab) 1 rfl rfl ?_
            refine pd_call (enc := fun (r20 : Int) => .v (.int .i64 r20)) (qs := [.sl 1 false (r8.map cInt_i64), .v (.int .i64 y19)]) (Instarref03_Find_ok fu r8 y19) rfl rfl ⟨⟨_, rfl, .rfl⟩, ⟨_, rfl, .rfl⟩, trivial⟩ (fun _ => rfl) call35 rfl rfl fun r20 hr20 => ?_
            refine pd_evs (T := tab) 3 rfl rfl ?_
            refine pd_idx (T := tab) cInt_i64 r16 rfl rfl rfl rfl rfl rfl rfl fun y21 hy21 => ?_
            refine pd_evs (T := tab) 1 rfl rfl ?_
            refine pd_call (enc := fun (r22 : Int) => .v (.int .i64 r22)) (qs := [.sl 1 false (r8.map cInt_i64), .v (.int .i64 y21)]) (Instarref03_Find_ok fu r8 y21) rfl rfl ⟨⟨_, rfl, .rfl⟩, ⟨_, rfl, .rfl⟩, trivial⟩ (fun _ => rfl) call35 rfl rfl fun r22 hr22 => ?_
            refine pd_evs (T := tab) 1 rfl rfl ?_
            refine pd_nil ?_
            refine pn_seq ?_
            refine pw_cnd rfl ?_ ?_
            · refine pw_seq ?_
              refine pw_region ?_
              refine po_evs (T := tab) 1 rfl rfl ?_
              refine po_nil ?_
              refine pn_seq ?_
              exact pw_retN (T := tab) rfl rfl rfl ⟨rfl, rfl⟩ trivial rfl
            · refine pw_skip ?_
              refine pn_block ?_
              refine pn_seq ?_
              refine pw_region ?_
              refine po_evs (T := tab) 1 rfl rfl ?_
              refine po_arith' (T := tab) rfl rfl rfl rfl fun i23 hi23 => ?_
              refine po_evs (T := tab) 1 rfl rfl ?_
              refine po_nil ?_
              exact pn_iter' i23 ⟨rfl, rfl, rfl, rfl, rfl, trivial⟩ ⟨rfl, trivial⟩ rfl
          · refine pw_exit rfl ?_
            refine pn_seq ?_
            refine pw_seq ?_
            refine pw_seq ?_
            refine pw_region ?_
            refine po_evs (T := tab) 1 rfl rfl ?_
            refine po_nil ?_
            refine pn_seq ?_
            refine pw_block ?_
            refine pw_loop' (Instarlaw04_ShadeAll_l3 fu f1 m7 r8 r16) (fun (i24 : Int) => [(2, .loc 2 0), (5, .v (.int .i64 m7)), (6, .sl 1 false (r8.map cInt_i64)), (9, .sl 1 false (r16.map cInt_i64)), (11, .v (.int .i64 i24))]) (fun (i24 : Int) => [(2, .box [.sl 10 false (f1.Nodes.map cNode), .v (.int .i64 f1.Most)])]) fu 0 (fun _ => rfl) ⟨rfl, rfl, rfl, rfl, rfl, trivial⟩ ⟨rfl, trivial⟩ rfl ?_
            rintro k3 i24
            refine pw_seq ?_
            refine pw_seq ?_
            refine pw_region ?_
            refine po_evs (T := tab) 2 rfl rfl ?_
            refine po_len (T := tab) cInt_i64 r8 rfl rfl rfl rfl rfl rfl rfl rfl ?_
            refine po_evs (T := tab) 1 rfl rfl ?_
            refine po_nil ?_
            refine pn_seq ?_
            refine pw_cnd rfl ?_ ?_
            · refine pw_skip ?_
              refine pn_seq ?_
              refine pw_seq ?_
              refine pw_block ?_
              refine pw_seq ?_
              refine pw_sub' (E' := [(2, .loc 2 0), (5, .v (.int .i64 m7)), (6, .sl 1 false (r8.map cInt_i64)), (9, .sl 1 false (r16.map cInt_i64)), (11, .v (.int .i64 i24))]) (S' := [(2, .box [.sl 10 false (f1.Nodes.map cNode), .v (.int .i64 f1.Most)])]) ?_ ⟨rfl, rfl, rfl, rfl, rfl, trivial⟩ ⟨rfl, trivial⟩ rfl
              refine pw_drawV [0, 1, 0, 0, 12, 28, 63, 127, 0, 511] mixed (by kernel_rfl) (by kernel_rfl) rfl rfl ?_
              refine pdv_step0 [4] [190] [] [2] [] [(95, .loc 2 0)] [] rfl rfl rfl rfl (by kernel_rfl) (by kernel_rfl) (by kernel_rfl) trivial (fun w0 X X0 σ0 => by refine po_evs (T := tab) 1 rfl rfl ?_; refine po_nil ?_; exact pn_end0 ⟨rfl, trivial⟩ trivial rfl) ?_
              refine pdv_step0 [5, 190] [192] [] [2] [2] [(96, .sl 10 false (f1.Nodes.map cNode))] [(2, .box [.sl 10 false (f1.Nodes.map cNode), .v (.int .i64 f1.Most)])] rfl rfl rfl rfl (by kernel_rfl) (by kernel_rfl) (by kernel_rfl) ⟨rfl, trivial⟩ (fun w0 X X0 σ0 => by refine po_evs (T := tab) 1 rfl rfl ?_; refine po_nil ?_; exact pn_end0 ⟨rfl, trivial⟩ ⟨rfl, trivial⟩ rfl) ?_
              refine pdv_step0 [12] [194] [] [] [] [(97, .sl 1 false (r8.map cInt_i64))] [] rfl rfl rfl rfl (by kernel_rfl) (by kernel_rfl) (by kernel_rfl) trivial (fun w0 X X0 σ0 => by refine po_evs (T := tab) 1 rfl rfl ?_; refine po_nil ?_; exact pn_end0 ⟨rfl, trivial⟩ trivial rfl) ?_
              refine pdv_step0 [22] [196] [] [] [] [(98, .v (.int .i64 i24))] [] rfl rfl rfl rfl (by kernel_rfl) (by kernel_rfl) (by kernel_rfl) trivial (fun w0 X X0 σ0 => by refine po_evs (T := tab) 1 rfl rfl ?_; refine po_nil ?_; exact pn_end0 ⟨rfl, trivial⟩ trivial rfl) ?_
              refine pdv_step (M := (idx r8 i24)) (ment := [(198, [])]) [194, 196] [198] [] [] [] (fun y25 => [(99, .el (cInt_i64 y25) 0)]) (fun y25 => []) rfl rfl (fun _ => rfl) (fun _ => rfl) (by kernel_rfl) (by kernel_rfl) (fun _ => by kernel_rfl) (fun _ => trivial) (fun w0 X X0 σ0 => by refine po_idx (T := tab) cInt_i64 r8 rfl rfl rfl rfl rfl rfl rfl fun y25 hy25 => ?_; refine po_nil ?_; exact pn_end ⟨rfl, trivial⟩ trivial rfl) fun y25 hy25 => ?_
              refine pdv_step0 [198] [200] [] [] [] [(100, .v (.int .i64 y25))] [] rfl rfl rfl rfl (by kernel_rfl) (by kernel_rfl) (by kernel_rfl) trivial (fun w0 X X0 σ0 => by refine po_evs (T := tab) 1 rfl rfl ?_; refine po_nil ?_; exact pn_end0 ⟨rfl, trivial⟩ trivial rfl) ?_
              refine pdv_step (M := (idx f1.Nodes y25)) (ment := [(202, [])]) [192, 200] [202] [] [] [] (fun y26 => [(101, .el (cNode y26) 0)]) (fun y26 => []) rfl rfl (fun _ => rfl) (fun _ => rfl) (by kernel_rfl) (by kernel_rfl) (fun _ => by kernel_rfl) (fun _ => trivial) (fun w0 X X0 σ0 => by refine po_idx (T := tab) cNode f1.Nodes rfl rfl rfl rfl rfl rfl rfl fun y26 hy26 => ?_; refine po_nil ?_; exact pn_end ⟨rfl, trivial⟩ trivial rfl) fun y26 hy26 => ?_
              refine pdv_step0 [202] [204] [] [] [] [(102, .agg (cNode y26))] [] rfl rfl rfl rfl (by kernel_rfl) (by kernel_rfl) (by kernel_rfl) trivial (fun w0 X X0 σ0 => by refine po_evs (T := tab) 1 rfl rfl ?_; refine po_nil ?_; exact pn_end0 ⟨rfl, trivial⟩ trivial rfl) ?_
              refine pdv_step0 [] [24, 25] [12] [] [] [(12, .loc 12 0)] [(12, .box [.v (.int .i64 0), .v (.string ⟨⟨[]⟩⟩), .v (.string ⟨⟨[]⟩⟩), .v (.string ⟨⟨[]⟩⟩), .v (.slice none 0 0), .v (.int .i64 0), .v (.slice none 0 0), .v (.int .i64 0), .v (.int .i64 0), .v (.int .i64 0)])] rfl rfl rfl rfl (by kernel_rfl) (by kernel_rfl) (by kernel_rfl) trivial (fun w0 X X0 σ0 => by refine po_alloc (T := tab) 12 rfl rfl rfl rfl rfl rfl rfl rfl rfl ?_; refine po_nil ?_; exact pn_end0 ⟨rfl, trivial⟩ ⟨rfl, trivial⟩ rfl) ?_
              refine pdv_step0 [24, 25, 204] [25] [] [12] [] [] [(12, .box [.v (.int .i64 y26.Kind), .v (.string ⟨⟨y26.Name⟩⟩), .v (.string ⟨⟨y26.Is⟩⟩), .v (.string ⟨⟨y26.Data⟩⟩), .sl 2 false (y26.Attrs.map cAttr), .v (.int .i64 y26.Parent), .sl 1 false (y26.Kids.map cInt_i64), .v (.int .i64 y26.Host), .v (.int .i64 y26.Under), .v (.int .i64 y26.Doc)])] rfl rfl rfl rfl (by kernel_rfl) (by kernel_rfl) (by kernel_rfl) trivial (fun w0 X X0 σ0 => by refine po_store (T := tab) rfl rfl rfl rfl rfl rfl rfl rfl rfl rfl rfl rfl ?_; refine po_nil ?_; exact pn_end0 trivial ⟨rfl, trivial⟩ rfl) ?_
              refine pdv_nil rfl rfl ?_
              refine pn_seq ?_
              refine pw_seq ?_
              refine pw_seq ?_
              refine pw_draw mixed (by kernel_rfl) ?_
              refine pd_joinB (Instarlaw04_ShadeAll_j1 fu f1 r8 i24 y26 (Instarlaw04_ShadeAll_l3 fu f1 m7 r8 r16 k3)) (fun (_ : Unit) => [(2, .loc 2 0), (5, .v (.int .i64 m7)), (6, .sl 1 false (r8.map cInt_i64)), (9, .sl 1 false (r16.map cInt_i64)), (11, .v (.int .i64 i24)), (12, .loc 12 0)]) (fun (_ : Unit) => [(12, .box [.v (.int .i64 y26.Kind), .v (.string ⟨⟨y26.Name⟩⟩), .v (.string ⟨⟨y26.Is⟩⟩), .v (.string ⟨⟨y26.Data⟩⟩), .sl 2 false (y26.Attrs.map cAttr), .v (.int .i64 y26.Parent), .sl 1 false (y26.Kids.map cInt_i64), .v (.int .i64 y26.Host), .v (.int .i64 y26.Under), .v (.int .i64 y26.Doc)]), (2, .box [.sl 10 false (f1.Nodes.map cNode), .v (.int .i64 f1.Most)])]) ?_ fun hj1 => ?_
              · rintro _
                refine pn_seq ?_
                refine pw_seq ?_
                refine pw_sub' (E' := [(2, .loc 2 0), (5, .v (.int .i64 m7)), (6, .sl 1 false (r8.map cInt_i64)), (9, .sl 1 false (r16.map cInt_i64)), (11, .v (.int .i64 i24)), (12, .loc 12 0)]) (S' := [(12, .box [.v (.int .i64 y26.Kind), .v (.string ⟨⟨y26.Name⟩⟩), .v (.string ⟨⟨y26.Is⟩⟩), .v (.string ⟨⟨y26.Data⟩⟩), .sl 2 false (y26.Attrs.map cAttr), .v (.int .i64 y26.Parent), .sl 1 false (y26.Kids.map cInt_i64), .v (.int .i64 y26.Host), .v (.int .i64 y26.Under), .v (.int .i64 y26.Doc)]), (2, .box [.sl 10 false (f1.Nodes.map cNode), .v (.int .i64 f1.Most)])]) ?_ ⟨rfl, rfl, rfl, rfl, rfl, rfl, trivial⟩ ⟨rfl, rfl, trivial⟩ rfl
                refine pw_drawV [0, 1, 3, 7, 15, 31, 63, 127, 255, 511, 1023, 1023, 3071, 7167, 15359, 32767, 1023, 66559, 1023, 1023, 525311, 1900543, 3997695, 8388607, 16777215, 33554431] mixed (by kernel_rfl) (by kernel_rfl) rfl rfl ?_
                refine pdv_step0 [24] [246] [] [12] [] [(123, .loc 12 6)] [] rfl rfl rfl rfl (by kernel_rfl) (by kernel_rfl) (by kernel_rfl) trivial (fun w0 X X0 σ0 => by refine po_evs (T := tab) 1 rfl rfl ?_; refine po_nil ?_; exact pn_end0 ⟨rfl, trivial⟩ trivial rfl) ?_
                refine pdv_step0 [25, 246] [248] [] [12] [12] [(124, .sl 1 false (y26.Kids.map cInt_i64))] [(12, .box [.v (.int .i64 y26.Kind), .v (.string ⟨⟨y26.Name⟩⟩), .v (.string ⟨⟨y26.Is⟩⟩), .v (.string ⟨⟨y26.Data⟩⟩), .sl 2 false (y26.Attrs.map cAttr), .v (.int .i64 y26.Parent), .sl 1 false (y26.Kids.map cInt_i64), .v (.int .i64 y26.Host), .v (.int .i64 y26.Under), .v (.int .i64 y26.Doc)])] rfl rfl rfl rfl (by kernel_rfl) (by kernel_rfl) (by kernel_rfl) ⟨rfl, trivial⟩ (fun w0 X X0 σ0 => by refine po_evs (T := tab) 1 rfl rfl ?_; refine po_nil ?_; exact pn_end0 ⟨rfl, trivial⟩ ⟨rfl, trivial⟩ rfl) ?_
                refine pdv_step0 [248] [250] [] [] [] [(125, .v (.int .i64 ((y26.Kids.length : Nat) : Int)))] [] rfl rfl rfl rfl (by kernel_rfl) (by kernel_rfl) (by kernel_rfl) trivial (fun w0 X X0 σ0 => by refine po_len (T := tab) cInt_i64 y26.Kids rfl rfl rfl rfl rfl rfl rfl rfl ?_; refine po_nil ?_; exact pn_end0 ⟨rfl, trivial⟩ trivial rfl) ?_
                refine pdv_step0 [250] [252] [] [] [] [(126, .v (.bool (decide (((y26.Kids.length : Nat) : Int) > 0))))] [] rfl rfl rfl rfl (by kernel_rfl) (by kernel_rfl) (by kernel_rfl) trivial (fun w0 X X0 σ0 => by refine po_evs (T := tab) 1 rfl rfl ?_; refine po_nil ?_; exact pn_end0 ⟨rfl, trivial⟩ trivial rfl) ?_
                refine pdv_step0 [252] [254] [] [] [] [(127, .v (.bool (decide (((y26.Kids.length : Nat) : Int) > 0))))] [] rfl rfl rfl rfl (by kernel_rfl) (by kernel_rfl) (by kernel_rfl) trivial (fun w0 X X0 σ0 => by refine po_evs (T := tab) 1 rfl rfl ?_; refine po_nil ?_; exact pn_end0 ⟨rfl, trivial⟩ trivial rfl) ?_
                refine pdv_split (t := 127) rfl ?_ ?_
                · refine pdv_step0 [24, 254] [256] [] [12] [] [(128, .loc 12 8)] [] rfl rfl rfl rfl (by kernel_rfl) (by kernel_rfl) (by kernel_rfl) trivial (fun w0 X X0 σ0 => by refine po_evs (T := tab) 1 rfl rfl ?_; refine po_nil ?_; exact pn_end0 ⟨rfl, trivial⟩ trivial rfl) ?_
                  refine pdv_step0 [25, 254, 256] [258] [] [12] [12] [(129, .v (.int .i64 y26.Under))] [(12, .box [.v (.int .i64 y26.Kind), .v (.string ⟨⟨y26.Name⟩⟩), .v (.string ⟨⟨y26.Is⟩⟩), .v (.string ⟨⟨y26.Data⟩⟩), .sl 2 false (y26.Attrs.map cAttr), .v (.int .i64 y26.Parent), .sl 1 false (y26.Kids.map cInt_i64), .v (.int .i64 y26.Host), .v (.int .i64 y26.Under), .v (.int .i64 y26.Doc)])] rfl rfl rfl rfl (by kernel_rfl) (by kernel_rfl) (by kernel_rfl) ⟨rfl, trivial⟩ (fun w0 X X0 σ0 => by refine po_evs (T := tab) 1 rfl rfl ?_; refine po_nil ?_; exact pn_end0 ⟨rfl, trivial⟩ ⟨rfl, trivial⟩ rfl) ?_
                  refine pdv_step0 [254, 258] [260] [] [] [] [(130, .v (.bool (y26.Under != (-1))))] [] rfl rfl rfl rfl (by kernel_rfl) (by kernel_rfl) (by kernel_rfl) trivial (fun w0 X X0 σ0 => by refine po_evs (T := tab) 1 rfl rfl ?_; refine po_nil ?_; exact pn_end0 ⟨rfl, trivial⟩ trivial rfl) ?_
                  refine pdv_step0 [254, 260] [262] [] [] [] [(131, .v (.bool (y26.Under != (-1))))] [] rfl rfl rfl rfl (by kernel_rfl) (by kernel_rfl) (by kernel_rfl) trivial (fun w0 X X0 σ0 => by refine po_evs (T := tab) 1 rfl rfl ?_; refine po_nil ?_; exact pn_end0 ⟨rfl, trivial⟩ trivial rfl) ?_
                  refine pdv_step0 [262] [264] [] [] [] [(132, .v (.bool (y26.Under != (-1))))] [] rfl rfl rfl rfl (by kernel_rfl) (by kernel_rfl) (by kernel_rfl) trivial (fun w0 X X0 σ0 => by refine po_evs (T := tab) 1 rfl rfl ?_; refine po_nil ?_; exact pn_end0 ⟨rfl, trivial⟩ trivial rfl) ?_
                  refine pdv_split (t := 132) rfl ?_ ?_
                  · refine pdv_step0 [12, 264] [266] [] [] [] [(133, .sl 1 false (r8.map cInt_i64))] [] rfl rfl rfl rfl (by kernel_rfl) (by kernel_rfl) (by kernel_rfl) trivial (fun w0 X X0 σ0 => by refine po_evs (T := tab) 1 rfl rfl ?_; refine po_nil ?_; exact pn_end0 ⟨rfl, trivial⟩ trivial rfl) ?_
                    refine pdv_step0 [24, 264] [268] [] [12] [] [(134, .loc 12 6)] [] rfl rfl rfl rfl (by kernel_rfl) (by kernel_rfl) (by kernel_rfl) trivial (fun w0 X X0 σ0 => by refine po_evs (T := tab) 1 rfl rfl ?_; refine po_nil ?_; exact pn_end0 ⟨rfl, trivial⟩ trivial rfl) ?_
                    refine pdv_step0 [25, 264, 268] [270] [] [12] [12] [(135, .sl 1 false (y26.Kids.map cInt_i64))] [(12, .box [.v (.int .i64 y26.Kind), .v (.string ⟨⟨y26.Name⟩⟩), .v (.string ⟨⟨y26.Is⟩⟩), .v (.string ⟨⟨y26.Data⟩⟩), .sl 2 false (y26.Attrs.map cAttr), .v (.int .i64 y26.Parent), .sl 1 false (y26.Kids.map cInt_i64), .v (.int .i64 y26.Host), .v (.int .i64 y26.Under), .v (.int .i64 y26.Doc)])] rfl rfl rfl rfl (by kernel_rfl) (by kernel_rfl) (by kernel_rfl) ⟨rfl, trivial⟩ (fun w0 X X0 σ0 => by refine po_evs (T := tab) 1 rfl rfl ?_; refine po_nil ?_; exact pn_end0 ⟨rfl, trivial⟩ ⟨rfl, trivial⟩ rfl) ?_
                    refine pdv_step (M := (idx y26.Kids 0)) (ment := [(272, [])]) [264, 270] [272] [] [] [] (fun y30 => [(136, .el (cInt_i64 y30) 0)]) (fun y30 => []) rfl rfl (fun _ => rfl) (fun _ => rfl) (by kernel_rfl) (by kernel_rfl) (fun _ => by kernel_rfl) (fun _ => trivial) (fun w0 X X0 σ0 => by refine po_idx (T := tab) cInt_i64 y26.Kids rfl rfl rfl rfl rfl rfl rfl fun y30 hy30 => ?_; refine po_nil ?_; exact pn_end ⟨rfl, trivial⟩ trivial rfl) fun y30 hy30 => ?_
                    refine pdv_step0 [264, 272] [274] [] [] [] [(137, .v (.int .i64 y30))] [] rfl rfl rfl rfl (by kernel_rfl) (by kernel_rfl) (by kernel_rfl) trivial (fun w0 X X0 σ0 => by refine po_evs (T := tab) 1 rfl rfl ?_; refine po_nil ?_; exact pn_end0 ⟨rfl, trivial⟩ trivial rfl) ?_
                    refine pdv_step (M := (Instarref03_Find_m fu r8 y30)) (ment := [(276, [])]) [264, 266, 274] [276] [] [] [] (fun r31 => [(138, .v (.int .i64 r31))]) (fun r31 => []) rfl rfl (fun _ => rfl) (fun _ => rfl) (by kernel_rfl) (by kernel_rfl) (fun _ => by kernel_rfl) (fun _ => trivial) (fun w0 X X0 σ0 => by refine po_call (enc := fun (r31 : Int) => .v (.int .i64 r31)) (qs := [.sl 1 false (r8.map cInt_i64), .v (.int .i64 y30)]) (Instarref03_Find_ok fu r8 y30) rfl rfl ⟨⟨_, rfl, .rfl⟩, ⟨_, rfl, .rfl⟩, trivial⟩ (fun _ => rfl) call35 rfl rfl fun r31 hr31 => ?_; refine po_nil ?_; exact pn_end ⟨rfl, trivial⟩ trivial rfl) fun r31 hr31 => ?_
                    refine pdv_step0 [22, 264] [278] [] [] [] [(139, .v (.int .i64 i24))] [] rfl rfl rfl rfl (by kernel_rfl) (by kernel_rfl) (by kernel_rfl) trivial (fun w0 X X0 σ0 => by refine po_evs (T := tab) 1 rfl rfl ?_; refine po_nil ?_; exact pn_end0 ⟨rfl, trivial⟩ trivial rfl) ?_
                    refine pdv_step (M := (rng .i64 (i24 + 1))) (ment := [(280, [])]) [264, 278] [280] [] [] [] (fun i32 => [(140, .v (.int .i64 i32))]) (fun i32 => []) rfl rfl (fun _ => rfl) (fun _ => rfl) (by kernel_rfl) (by kernel_rfl) (fun _ => by kernel_rfl) (fun _ => trivial) (fun w0 X X0 σ0 => by refine po_arith' (T := tab) rfl rfl rfl rfl fun i32 hi32 => ?_; refine po_nil ?_; exact pn_end ⟨rfl, trivial⟩ trivial rfl) fun i32 hi32 => ?_
                    refine pdv_step0 [4, 5, 264] [282] [] [2] [2] [(141, .agg (cForest f1))] [(2, .box [.sl 10 false (f1.Nodes.map cNode), .v (.int .i64 f1.Most)])] rfl rfl rfl rfl (by kernel_rfl) (by kernel_rfl) (by kernel_rfl) ⟨rfl, trivial⟩ (fun w0 X X0 σ0 => by refine po_evs (T := tab) 1 rfl rfl ?_; refine po_nil ?_; exact pn_end0 ⟨rfl, trivial⟩ ⟨rfl, trivial⟩ rfl) ?_
                    refine pdv_step0 [24, 264] [284] [] [12] [] [(142, .loc 12 8)] [] rfl rfl rfl rfl (by kernel_rfl) (by kernel_rfl) (by kernel_rfl) trivial (fun w0 X X0 σ0 => by refine po_evs (T := tab) 1 rfl rfl ?_; refine po_nil ?_; exact pn_end0 ⟨rfl, trivial⟩ trivial rfl) ?_
                    refine pdv_step0 [25, 264, 284] [286] [] [12] [12] [(143, .v (.int .i64 y26.Under))] [(12, .box [.v (.int .i64 y26.Kind), .v (.string ⟨⟨y26.Name⟩⟩), .v (.string ⟨⟨y26.Is⟩⟩), .v (.string ⟨⟨y26.Data⟩⟩), .sl 2 false (y26.Attrs.map cAttr), .v (.int .i64 y26.Parent), .sl 1 false (y26.Kids.map cInt_i64), .v (.int .i64 y26.Host), .v (.int .i64 y26.Under), .v (.int .i64 y26.Doc)])] rfl rfl rfl rfl (by kernel_rfl) (by kernel_rfl) (by kernel_rfl) ⟨rfl, trivial⟩ (fun w0 X X0 σ0 => by refine po_evs (T := tab) 1 rfl rfl ?_; refine po_nil ?_; exact pn_end0 ⟨rfl, trivial⟩ ⟨rfl, trivial⟩ rfl) ?_
                    refine pdv_step (M := (Shade_All_m fu f1 y26.Under)) (ment := [(288, []), (6881, [])]) [264, 282, 286] [288, 6881] [3440] [] [] (fun r33 => [(144, .sl 1 false (r33.map cInt_i64))]) (fun r33 => []) rfl rfl (fun _ => rfl) (fun _ => rfl) (by kernel_rfl) (by kernel_rfl) (fun _ => by kernel_rfl) (fun _ => trivial) (fun w0 X X0 σ0 => by refine po_turn [3440] (enc := fun (r33 : (List Int)) => .own 3440) (Sr := fun (r33 : (List Int)) => [(3440, .arr 3 1 (r33.map cInt_i64))]) (first := []) (cap := []) (qs := [.agg (cForest f1), .v (.int .i64 y26.Under)]) (Sc := []) (N0 := []) (NR := [3440]) (fun r33 hr33 => fc_ren [(1035, 3440)] [1035] (Shade_All_ok fu f1 y26.Under _ hr33) rfl rfl rfl rfl rfl rfl) trivial (fun _ => rfl) rfl rfl rfl rfl rfl rfl rfl (fun _ => rfl) (fun _ => rfl) rfl rfl rfl ⟨⟨_, rfl, .rfl⟩, ⟨_, rfl, .rfl⟩, trivial⟩ call41 rfl rfl fun r33 hr33 => ?_; refine po_freeze 3440 rfl rfl rfl ?_; refine po_nil ?_; exact pn_end ⟨rfl, trivial⟩ trivial rfl) fun r33 hr33 => ?_
                    refine pdv_step0 [264, 288] [290] [] [] [] [(145, .v (.int .i64 ((r33.length : Nat) : Int)))] [] rfl rfl rfl rfl (by kernel_rfl) (by kernel_rfl) (by kernel_rfl) trivial (fun w0 X X0 σ0 => by refine po_len (T := tab) cInt_i64 r33 rfl rfl rfl rfl rfl rfl rfl rfl ?_; refine po_nil ?_; exact pn_end0 ⟨rfl, trivial⟩ trivial rfl) ?_
                    refine pdv_step (M := (rng .i64 (i32 + ((r33.length : Nat) : Int)))) (ment := [(292, [])]) [264, 280, 290] [292] [] [] [] (fun i34 => [(146, .v (.int .i64 i34))]) (fun i34 => []) rfl rfl (fun _ => rfl) (fun _ => rfl) (by kernel_rfl) (by kernel_rfl) (fun _ => by kernel_rfl) (fun _ => trivial) (fun w0 X X0 σ0 => by refine po_arith' (T := tab) rfl rfl rfl rfl fun i34 hi34 => ?_; refine po_nil ?_; exact pn_end ⟨rfl, trivial⟩ trivial rfl) fun i34 hi34 => ?_
                    refine pdv_step0 [264, 276, 292] [294] [] [] [] [(147, .v (.bool (r31 != i34)))] [] rfl rfl rfl rfl (by kernel_rfl) (by kernel_rfl) (by kernel_rfl) trivial (fun w0 X X0 σ0 => by refine po_evs (T := tab) 1 rfl rfl ?_; refine po_nil ?_; exact pn_end0 ⟨rfl, trivial⟩ trivial rfl) ?_
                    refine pdv_step0 [264, 294] [296] [] [] [] [(148, .v (.bool (r31 != i34)))] [] rfl rfl rfl rfl (by kernel_rfl) (by kernel_rfl) (by kernel_rfl) trivial (fun w0 X X0 σ0 => by refine po_evs (T := tab) 1 rfl rfl ?_; refine po_nil ?_; exact pn_end0 ⟨rfl, trivial⟩ trivial rfl) ?_
                    refine pdv_nil rfl rfl ?_
                    refine pn_seq ?_
                    refine pw_cnd rfl ?_ ?_
                    · refine pw_seq ?_
                      refine pw_region ?_
                      refine po_evs (T := tab) 1 rfl rfl ?_
                      refine po_nil ?_
                      refine pn_seq ?_
                      exact pw_retN (T := tab) rfl rfl rfl ⟨rfl, rfl⟩ trivial rfl
                    · refine pw_skip ?_
                      refine pn_block ?_
                      refine pn_seq ?_
                      refine pw_region ?_
                      refine po_evs (T := tab) 1 rfl rfl ?_
                      refine po_arith' (T := tab) rfl rfl rfl rfl fun i35 hi35 => ?_
                      refine po_evs (T := tab) 1 rfl rfl ?_
                      refine po_nil ?_
                      exact pn_iter' i35 ⟨rfl, rfl, rfl, rfl, rfl, trivial⟩ ⟨rfl, trivial⟩ rfl
                  · refine pdv_step0 [264] [266] [] [] [] [(133, .tup [])] [] rfl rfl rfl rfl (by kernel_rfl) (by kernel_rfl) (by kernel_rfl) trivial (fun w0 X X0 σ0 => by refine po_evs (T := tab) 1 rfl rfl ?_; refine po_nil ?_; exact pn_end0 ⟨rfl, trivial⟩ trivial rfl) ?_
                    refine pdv_step0 [264] [268] [] [] [] [(134, .tup [])] [] rfl rfl rfl rfl (by kernel_rfl) (by kernel_rfl) (by kernel_rfl) trivial (fun w0 X X0 σ0 => by refine po_evs (T := tab) 1 rfl rfl ?_; refine po_nil ?_; exact pn_end0 ⟨rfl, trivial⟩ trivial rfl) ?_
                    refine pdv_step0 [264] [270] [] [] [] [(135, .tup [])] [] rfl rfl rfl rfl (by kernel_rfl) (by kernel_rfl) (by kernel_rfl) trivial (fun w0 X X0 σ0 => by refine po_evs (T := tab) 1 rfl rfl ?_; refine po_nil ?_; exact pn_end0 ⟨rfl, trivial⟩ trivial rfl) ?_
                    refine pdv_step0 [264] [272] [] [] [] [(136, .tup [])] [] rfl rfl rfl rfl (by kernel_rfl) (by kernel_rfl) (by kernel_rfl) trivial (fun w0 X X0 σ0 => by refine po_evs (T := tab) 1 rfl rfl ?_; refine po_nil ?_; exact pn_end0 ⟨rfl, trivial⟩ trivial rfl) ?_
                    refine pdv_step0 [264] [274] [] [] [] [(137, .tup [])] [] rfl rfl rfl rfl (by kernel_rfl) (by kernel_rfl) (by kernel_rfl) trivial (fun w0 X X0 σ0 => by refine po_evs (T := tab) 1 rfl rfl ?_; refine po_nil ?_; exact pn_end0 ⟨rfl, trivial⟩ trivial rfl) ?_
                    refine pdv_step0 [264] [276] [] [] [] [(138, .tup [])] [] rfl rfl rfl rfl (by kernel_rfl) (by kernel_rfl) (by kernel_rfl) trivial (fun w0 X X0 σ0 => by refine po_evs (T := tab) 1 rfl rfl ?_; refine po_nil ?_; exact pn_end0 ⟨rfl, trivial⟩ trivial rfl) ?_
                    refine pdv_step0 [264] [278] [] [] [] [(139, .tup [])] [] rfl rfl rfl rfl (by kernel_rfl) (by kernel_rfl) (by kernel_rfl) trivial (fun w0 X X0 σ0 => by refine po_evs (T := tab) 1 rfl rfl ?_; refine po_nil ?_; exact pn_end0 ⟨rfl, trivial⟩ trivial rfl) ?_
                    refine pdv_step0 [264] [280] [] [] [] [(140, .tup [])] [] rfl rfl rfl rfl (by kernel_rfl) (by kernel_rfl) (by kernel_rfl) trivial (fun w0 X X0 σ0 => by refine po_evs (T := tab) 1 rfl rfl ?_; refine po_nil ?_; exact pn_end0 ⟨rfl, trivial⟩ trivial rfl) ?_
                    refine pdv_step0 [264] [282] [] [] [] [(141, .tup [])] [] rfl rfl rfl rfl (by kernel_rfl) (by kernel_rfl) (by kernel_rfl) trivial (fun w0 X X0 σ0 => by refine po_evs (T := tab) 1 rfl rfl ?_; refine po_nil ?_; exact pn_end0 ⟨rfl, trivial⟩ trivial rfl) ?_
                    refine pdv_step0 [264] [284] [] [] [] [(142, .tup [])] [] rfl rfl rfl rfl (by kernel_rfl) (by kernel_rfl) (by kernel_rfl) trivial (fun w0 X X0 σ0 => by refine po_evs (T := tab) 1 rfl rfl ?_; refine po_nil ?_; exact pn_end0 ⟨rfl, trivial⟩ trivial rfl) ?_
                    refine pdv_step0 [264] [286] [] [] [] [(143, .tup [])] [] rfl rfl rfl rfl (by kernel_rfl) (by kernel_rfl) (by kernel_rfl) trivial (fun w0 X X0 σ0 => by refine po_evs (T := tab) 1 rfl rfl ?_; refine po_nil ?_; exact pn_end0 ⟨rfl, trivial⟩ trivial rfl) ?_
                    refine pdv_step0 [264] [288] [] [] [] [(144, .tup [])] [] rfl rfl rfl rfl (by kernel_rfl) (by kernel_rfl) (by kernel_rfl) trivial (fun w0 X X0 σ0 => by refine po_evs (T := tab) 1 rfl rfl ?_; refine po_nil ?_; exact pn_end0 ⟨rfl, trivial⟩ trivial rfl) ?_
                    refine pdv_step0 [264] [290] [] [] [] [(145, .tup [])] [] rfl rfl rfl rfl (by kernel_rfl) (by kernel_rfl) (by kernel_rfl) trivial (fun w0 X X0 σ0 => by refine po_evs (T := tab) 1 rfl rfl ?_; refine po_nil ?_; exact pn_end0 ⟨rfl, trivial⟩ trivial rfl) ?_
                    refine pdv_step0 [264] [292] [] [] [] [(146, .tup [])] [] rfl rfl rfl rfl (by kernel_rfl) (by kernel_rfl) (by kernel_rfl) trivial (fun w0 X X0 σ0 => by refine po_evs (T := tab) 1 rfl rfl ?_; refine po_nil ?_; exact pn_end0 ⟨rfl, trivial⟩ trivial rfl) ?_
                    refine pdv_step0 [264] [294] [] [] [] [(147, .tup [])] [] rfl rfl rfl rfl (by kernel_rfl) (by kernel_rfl) (by kernel_rfl) trivial (fun w0 X X0 σ0 => by refine po_evs (T := tab) 1 rfl rfl ?_; refine po_nil ?_; exact pn_end0 ⟨rfl, trivial⟩ trivial rfl) ?_
                    refine pdv_step0 [264, 294] [296] [] [] [] [(148, .v (.bool false))] [] rfl rfl rfl rfl (by kernel_rfl) (by kernel_rfl) (by kernel_rfl) trivial (fun w0 X X0 σ0 => by refine po_evs (T := tab) 1 rfl rfl ?_; refine po_nil ?_; exact pn_end0 ⟨rfl, trivial⟩ trivial rfl) ?_
                    refine pdv_nil rfl rfl ?_
                    refine pn_seq (pw_else rfl ?_)
                    refine pw_skip ?_
                    refine pn_block ?_
                    refine pn_seq ?_
                    refine pw_region ?_
                    refine po_evs (T := tab) 1 rfl rfl ?_
                    refine po_arith' (T := tab) rfl rfl rfl rfl fun i36 hi36 => ?_
                    refine po_evs (T := tab) 1 rfl rfl ?_
                    refine po_nil ?_
                    exact pn_iter' i36 ⟨rfl, rfl, rfl, rfl, rfl, trivial⟩ ⟨rfl, trivial⟩ rfl
                · refine pdv_step0 [254] [256] [] [] [] [(128, .tup [])] [] rfl rfl rfl rfl (by kernel_rfl) (by kernel_rfl) (by kernel_rfl) trivial (fun w0 X X0 σ0 => by refine po_evs (T := tab) 1 rfl rfl ?_; refine po_nil ?_; exact pn_end0 ⟨rfl, trivial⟩ trivial rfl) ?_
                  refine pdv_step0 [254] [258] [] [] [] [(129, .tup [])] [] rfl rfl rfl rfl (by kernel_rfl) (by kernel_rfl) (by kernel_rfl) trivial (fun w0 X X0 σ0 => by refine po_evs (T := tab) 1 rfl rfl ?_; refine po_nil ?_; exact pn_end0 ⟨rfl, trivial⟩ trivial rfl) ?_
                  refine pdv_step0 [254] [260] [] [] [] [(130, .tup [])] [] rfl rfl rfl rfl (by kernel_rfl) (by kernel_rfl) (by kernel_rfl) trivial (fun w0 X X0 σ0 => by refine po_evs (T := tab) 1 rfl rfl ?_; refine po_nil ?_; exact pn_end0 ⟨rfl, trivial⟩ trivial rfl) ?_
                  refine pdv_step0 [254, 260] [262] [] [] [] [(131, .v (.bool false))] [] rfl rfl rfl rfl (by kernel_rfl) (by kernel_rfl) (by kernel_rfl) trivial (fun w0 X X0 σ0 => by refine po_evs (T := tab) 1 rfl rfl ?_; refine po_nil ?_; exact pn_end0 ⟨rfl, trivial⟩ trivial rfl) ?_
                  refine pdv_step0 [262] [264] [] [] [] [(132, .v (.bool false))] [] rfl rfl rfl rfl (by kernel_rfl) (by kernel_rfl) (by kernel_rfl) trivial (fun w0 X X0 σ0 => by refine po_evs (T := tab) 1 rfl rfl ?_; refine po_nil ?_; exact pn_end0 ⟨rfl, trivial⟩ trivial rfl) ?_
                  refine pdv_step0 [264] [266] [] [] [] [(133, .tup [])] [] rfl rfl rfl rfl (by kernel_rfl) (by kernel_rfl) (by kernel_rfl) trivial (fun w0 X X0 σ0 => by refine po_evs (T := tab) 1 rfl rfl ?_; refine po_nil ?_; exact pn_end0 ⟨rfl, trivial⟩ trivial rfl) ?_
                  refine pdv_step0 [264] [268] [] [] [] [(134, .tup [])] [] rfl rfl rfl rfl (by kernel_rfl) (by kernel_rfl) (by kernel_rfl) trivial (fun w0 X X0 σ0 => by refine po_evs (T := tab) 1 rfl rfl ?_; refine po_nil ?_; exact pn_end0 ⟨rfl, trivial⟩ trivial rfl) ?_
                  refine pdv_step0 [264] [270] [] [] [] [(135, .tup [])] [] rfl rfl rfl rfl (by kernel_rfl) (by kernel_rfl) (by kernel_rfl) trivial (fun w0 X X0 σ0 => by refine po_evs (T := tab) 1 rfl rfl ?_; refine po_nil ?_; exact pn_end0 ⟨rfl, trivial⟩ trivial rfl) ?_
                  refine pdv_step0 [264] [272] [] [] [] [(136, .tup [])] [] rfl rfl rfl rfl (by kernel_rfl) (by kernel_rfl) (by kernel_rfl) trivial (fun w0 X X0 σ0 => by refine po_evs (T := tab) 1 rfl rfl ?_; refine po_nil ?_; exact pn_end0 ⟨rfl, trivial⟩ trivial rfl) ?_
                  refine pdv_step0 [264] [274] [] [] [] [(137, .tup [])] [] rfl rfl rfl rfl (by kernel_rfl) (by kernel_rfl) (by kernel_rfl) trivial (fun w0 X X0 σ0 => by refine po_evs (T := tab) 1 rfl rfl ?_; refine po_nil ?_; exact pn_end0 ⟨rfl, trivial⟩ trivial rfl) ?_
                  refine pdv_step0 [264] [276] [] [] [] [(138, .tup [])] [] rfl rfl rfl rfl (by kernel_rfl) (by kernel_rfl) (by kernel_rfl) trivial (fun w0 X X0 σ0 => by refine po_evs (T := tab) 1 rfl rfl ?_; refine po_nil ?_; exact pn_end0 ⟨rfl, trivial⟩ trivial rfl) ?_
                  refine pdv_step0 [264] [278] [] [] [] [(139, .tup [])] [] rfl rfl rfl rfl (by kernel_rfl) (by kernel_rfl) (by kernel_rfl) trivial (fun w0 X X0 σ0 => by refine po_evs (T := tab) 1 rfl rfl ?_; refine po_nil ?_; exact pn_end0 ⟨rfl, trivial⟩ trivial rfl) ?_
                  refine pdv_step0 [264] [280] [] [] [] [(140, .tup [])] [] rfl rfl rfl rfl (by kernel_rfl) (by kernel_rfl) (by kernel_rfl) trivial (fun w0 X X0 σ0 => by refine po_evs (T := tab) 1 rfl rfl ?_; refine po_nil ?_; exact pn_end0 ⟨rfl, trivial⟩ trivial rfl) ?_
                  refine pdv_step0 [264] [282] [] [] [] [(141, .tup [])] [] rfl rfl rfl rfl (by kernel_rfl) (by kernel_rfl) (by kernel_rfl) trivial (fun w0 X X0 σ0 => by refine po_evs (T := tab) 1 rfl rfl ?_; refine po_nil ?_; exact pn_end0 ⟨rfl, trivial⟩ trivial rfl) ?_
                  refine pdv_step0 [264] [284] [] [] [] [(142, .tup [])] [] rfl rfl rfl rfl (by kernel_rfl) (by kernel_rfl) (by kernel_rfl) trivial (fun w0 X X0 σ0 => by refine po_evs (T := tab) 1 rfl rfl ?_; refine po_nil ?_; exact pn_end0 ⟨rfl, trivial⟩ trivial rfl) ?_
                  refine pdv_step0 [264] [286] [] [] [] [(143, .tup [])] [] rfl rfl rfl rfl (by kernel_rfl) (by kernel_rfl) (by kernel_rfl) trivial (fun w0 X X0 σ0 => by refine po_evs (T := tab) 1 rfl rfl ?_; refine po_nil ?_; exact pn_end0 ⟨rfl, trivial⟩ trivial rfl) ?_
                  refine pdv_step0 [264] [288] [] [] [] [(144, .tup [])] [] rfl rfl rfl rfl (by kernel_rfl) (by kernel_rfl) (by kernel_rfl) trivial (fun w0 X X0 σ0 => by refine po_evs (T := tab) 1 rfl rfl ?_; refine po_nil ?_; exact pn_end0 ⟨rfl, trivial⟩ trivial rfl) ?_
                  refine pdv_step0 [264] [290] [] [] [] [(145, .tup [])] [] rfl rfl rfl rfl (by kernel_rfl) (by kernel_rfl) (by kernel_rfl) trivial (fun w0 X X0 σ0 => by refine po_evs (T := tab) 1 rfl rfl ?_; refine po_nil ?_; exact pn_end0 ⟨rfl, trivial⟩ trivial rfl) ?_
                  refine pdv_step0 [264] [292] [] [] [] [(146, .tup [])] [] rfl rfl rfl rfl (by kernel_rfl) (by kernel_rfl) (by kernel_rfl) trivial (fun w0 X X0 σ0 => by refine po_evs (T := tab) 1 rfl rfl ?_; refine po_nil ?_; exact pn_end0 ⟨rfl, trivial⟩ trivial rfl) ?_
                  refine pdv_step0 [264] [294] [] [] [] [(147, .tup [])] [] rfl rfl rfl rfl (by kernel_rfl) (by kernel_rfl) (by kernel_rfl) trivial (fun w0 X X0 σ0 => by refine po_evs (T := tab) 1 rfl rfl ?_; refine po_nil ?_; exact pn_end0 ⟨rfl, trivial⟩ trivial rfl) ?_
                  refine pdv_step0 [264, 294] [296] [] [] [] [(148, .v (.bool false))] [] rfl rfl rfl rfl (by kernel_rfl) (by kernel_rfl) (by kernel_rfl) trivial (fun w0 X X0 σ0 => by refine po_evs (T := tab) 1 rfl rfl ?_; refine po_nil ?_; exact pn_end0 ⟨rfl, trivial⟩ trivial rfl) ?_
                  refine pdv_nil rfl rfl ?_
                  refine pn_seq (pw_else rfl ?_)
                  refine pw_skip ?_
                  refine pn_block ?_
                  refine pn_seq ?_
                  refine pw_region ?_
                  refine po_evs (T := tab) 1 rfl rfl ?_
                  refine po_arith' (T := tab) rfl rfl rfl rfl fun i37 hi37 => ?_
                  refine po_evs (T := tab) 1 rfl rfl ?_
                  refine po_nil ?_
                  exact pn_iter' i37 ⟨rfl, rfl, rfl, rfl, rfl, trivial⟩ ⟨rfl, trivial⟩ rfl
              · refine pd_evs (T := tab) 4 rfl rfl ?_
                refine pd_split (j := 106) rfl ?_ ?_
                · refine pd_evs (T := tab) 1 rfl rfl ?_
                  refine pd_arith (T := tab) rfl rfl rfl rfl fun i27 hi27 => ?_
                  refine pd_evs (T := tab) 1 rfl rfl ?_
                  refine pd_len (T := tab) cInt_i64 r8 rfl rfl rfl rfl rfl rfl rfl rfl ?_
                  refine pd_evs (T := tab) 2 rfl rfl ?_
                  refine pd_split (j := 112) rfl ?_ ?_
                  · refine pd_evs (T := tab) 10 rfl rfl ?_
                    refine pd_nil ?_
                    refine pn_seq (pw_then rfl ?_)
                    refine pw_seq ?_
                    refine pw_region ?_
                    refine po_evs (T := tab) 1 rfl rfl ?_
                    refine po_nil ?_
                    refine pn_seq ?_
                    exact pw_retN (T := tab) rfl rfl rfl ⟨rfl, rfl⟩ trivial rfl
                  · refine pd_evs (T := tab) 2 rfl rfl ?_
                    refine pd_arith (T := tab) rfl rfl rfl rfl fun i28 hi28 => ?_
                    refine pd_idx (T := tab) cInt_i64 r8 rfl rfl rfl rfl rfl rfl rfl fun y29 hy29 => ?_
                    refine pd_evs (T := tab) 6 rfl rfl ?_
                    refine pd_nil ?_
                    refine pn_seq ?_
                    refine pw_cnd rfl ?_ ?_
                    · refine pw_seq ?_
                      refine pw_region ?_
                      refine po_evs (T := tab) 1 rfl rfl ?_
                      refine po_nil ?_
                      refine pn_seq ?_
                      exact pw_retN (T := tab) rfl rfl rfl ⟨rfl, rfl⟩ trivial rfl
                    · refine pw_skip ?_
                      exact pn_sub' (hj1 ()) ⟨rfl, rfl, rfl, rfl, rfl, rfl, trivial⟩ ⟨rfl, rfl, trivial⟩ rfl
                · refine pd_evs (T := tab) 16 rfl rfl ?_
                  refine pd_nil ?_
                  refine pn_seq (pw_else rfl ?_)
                  refine pw_skip ?_
                  exact pn_sub' (hj1 ()) ⟨rfl, rfl, rfl, rfl, rfl, rfl, trivial⟩ ⟨rfl, rfl, trivial⟩ rfl
            · refine pw_exit rfl ?_
              refine pn_seq ?_
              refine pw_seq ?_
              refine pw_draw mixed (by kernel_rfl) ?_
              refine pd_evs (T := tab) 1 rfl rfl ?_
              refine pd_len (T := tab) cInt_i64 r8 rfl rfl rfl rfl rfl rfl rfl rfl ?_
              refine pd_evs (T := tab) 1 rfl rfl ?_
              refine pd_len (T := tab) cInt_i64 r16 rfl rfl rfl rfl rfl rfl rfl rfl ?_
              refine pd_evs (T := tab) 2 rfl rfl ?_
              refine pd_split (j := 154) rfl ?_ ?_
              · refine pd_evs (T := tab) 1 rfl rfl ?_
                refine pd_idx (T := tab) cInt_i64 r8 rfl rfl rfl rfl rfl rfl rfl fun y38 hy38 => ?_
                refine pd_evs (T := tab) 5 rfl rfl ?_
                refine pd_split (j := 161) rfl ?_ ?_
                · refine pd_evs (T := tab) 2 rfl rfl ?_
                  refine pd_call (enc := fun (r39 : Bool) => .v (.bool r39)) (qs := [.agg (cForest f1), .v (.int .i64 m7)]) (Shade_Connected_ok fu f1 m7) rfl rfl ⟨⟨_, rfl, .rfl⟩, ⟨_, rfl, .rfl⟩, trivial⟩ (fun _ => rfl) call40 rfl rfl fun r39 hr39 => ?_
                  refine pd_evs (T := tab) 4 rfl rfl ?_
                  refine pd_call (enc := fun (r40 : Int) => .v (.int .i64 r40)) (qs := [.agg (cForest f1), .v (.int .i64 m7)]) (Shade_Top_ok fu f1 m7) rfl rfl ⟨⟨_, rfl, .rfl⟩, ⟨_, rfl, .rfl⟩, trivial⟩ (fun _ => rfl) call39 rfl rfl fun r40 hr40 => ?_
                  refine pd_idx (T := tab) cNode f1.Nodes rfl rfl rfl rfl rfl rfl rfl fun y41 hy41 => ?_
                  refine pd_evs (T := tab) 6 rfl rfl ?_
                  refine pd_nil ?_
                  refine pn_seq ?_
                  exact pw_retN (T := tab) rfl rfl rfl ⟨rfl, rfl⟩ trivial rfl
                · refine pd_evs (T := tab) 15 rfl rfl ?_
                  refine pd_nil ?_
                  refine pn_seq ?_
                  exact pw_retN (T := tab) rfl rfl rfl ⟨rfl, rfl⟩ trivial rfl
              · refine pd_evs (T := tab) 22 rfl rfl ?_
                refine pd_nil ?_
                refine pn_seq ?_
                exact pw_retN (T := tab) rfl rfl rfl ⟨rfl, rfl⟩ trivial rfl

end Go.Proofs.Ytcaepigodglihaa
