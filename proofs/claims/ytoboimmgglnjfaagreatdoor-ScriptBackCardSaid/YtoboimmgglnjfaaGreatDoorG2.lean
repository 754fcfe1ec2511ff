/- Models and proofs, printed by emit2.py. -/
import Derived.Test.YtoboimmgglnjfaaGreatDoorG1
namespace Go.Proofs.YtoboimmgglnjfaaGreatDoor
open Go Go.Pw
set_option linter.unusedVariables false
set_option maxHeartbeats 10000000 in
set_option maxRecDepth 100000 in
theorem zF2 (fu : Nat) (s1 : Bs) : ∀ r, zCX fu s1 = some r → DC zAb Tryz.prog 15 [.v (.string ⟨⟨s1⟩⟩)] (.tup [.agg (zBZ r.1), .v (.int .i64 r.2)]) := by
 intro r hr
 refine zAL (r := r)  (args := [.v (.string ⟨⟨s1⟩⟩)]) (S := []) (N0 := []) (post := fun r p S => p = .tup [.agg (zBZ r.1), .v (.int .i64 r.2)] ∧ S = []) Tryz.func15 rfl rfl hr fun w0 X X0 σ0 _ => ?_
 refine sr ?_
 refine zBJ (T := tab) 2 rfl rfl rfl rfl rfl rfl rfl rfl rfl ?_
 refine zBJ (T := tab) 3 rfl rfl rfl rfl rfl rfl rfl rfl rfl ?_
 refine ns ?_
 refine zAE ?_
 refine sr ?_
 refine pe 3 ?_
 refine ns ?_
 refine zAP rfl ?_ ?_
 ·refine sr ?_
  refine zBI (T := tab) rfl rfl rfl rfl rfl rfl rfl ?_
  refine zAN (T := tab) rfl rfl rfl rfl rfl rfl rfl rfl rfl rfl rfl rfl ?_
  refine zAN (T := tab) rfl rfl rfl rfl rfl rfl rfl rfl rfl rfl rfl rfl ?_
  refine ns ?_
  refine zEK 2 [.sl 5 false ([].map zAG), .sl 7 false ([].map cOp)] rfl ⟨.nil, .nil, trivial⟩ rfl ?_
  exact rN
 ·refine zAF ?_
  refine zAA ?_
  refine sr ?_
  refine zBI (T := tab) rfl rfl rfl rfl rfl rfl rfl ?_
  refine zDo  13 rfl rfl rfl rfl rfl rfl rfl rfl rfl rfl ?_
  refine zDA 5130 51 5 13 0 rfl rfl rfl rfl rfl rfl ?_
  refine zDA 5131 43 7 13 1 rfl rfl rfl rfl rfl rfl ?_
  refine zEm 5132 9 1 rfl rfl rfl ?_
  refine zEm 5133 43 7 rfl rfl rfl ?_
  refine zEm 5134 43 7 rfl rfl rfl ?_
  refine zEm 5135 54 2 rfl rfl rfl ?_
  refine zEm 5136 43 7 rfl rfl rfl ?_
  refine zNQ 5135 [.v (.int .i64 0), .own 5136] rfl rfl rfl rfl ?_
  refine zNQ 5130 [.v (.bool false), .own 5132, .own 5133, .own 5134, .own 5135] rfl rfl rfl rfl ?_
  refine zBJ (T := tab) 4 rfl rfl rfl rfl rfl rfl rfl rfl rfl ?_
  refine zAN (T := tab) rfl rfl rfl rfl rfl rfl rfl rfl rfl rfl rfl rfl ?_
  refine ns ?_
  refine zAE ?_
  refine zBA (E' := [(0, .v (.string ⟨⟨s1⟩⟩)), (2, .loc 2 0), (3, .loc 3 0), (4, .loc 4 0)]) (S' := [(4, .box 77 [.loc 13 0]), (5136, .arr 43 7 (([] : List Op).map cOp)), (5135, .box 54 [pfx 2 (([] : List Hook).map zAU) false, .v (.int .i64 0), .own 5136]), (5134, .arr 43 7 (([] : List Op).map cOp)), (5133, .arr 43 7 (([] : List Op).map cOp)), (5132, .arr 9 1 (([] : List Bs).map cStr)), (5131, .arr 43 7 (([] : List Op).map cOp)), (5130, .box 51 [pfx 5 (([] : List Class).map zAG) false, .v (.bool false), .own 5132, .own 5133, .own 5134, .own 5135]), (13, .box 80 [.own 5130, .own 5131, .v (.pointer none), .v (.int .i64 0)]), (3, .box 28 [.v (.int .i64 0)]), (2, .box 25 [.v (.slice none 0 0), .v (.slice none 0 0)])]) ?_ ⟨rfl, rfl, rfl, rfl, trivial⟩ ⟨rfl, rfl, rfl, rfl, rfl, rfl, rfl, rfl, rfl, rfl, rfl, trivial⟩ rfl
  refine zBS [0, 0, 2, 6, 14, 31] mixed (by kernel_rfl) (by kernel_rfl) rfl rfl ?_
  refine vf [8, 9] [28] [] [4, 13] [4] [(14, .loc 13 0)] [(4, .box 77 [.loc 13 0])] ?_
  refine vf [8, 9] [30] [] [4, 13] [4] [(15, .loc 13 0)] [(4, .box 77 [.loc 13 0])] ?_
  refine ve [30] [32] [13] [(16, .loc 13 0)] ?_
  refine ve [32] [34] [13] [(17, .loc 13 0)] ?_
  refine ve [34] [36] [13] [(18, .loc 13 1)] ?_
  refine zAi (M := (zBd fu 300)) (ment := [(38, []), (27, [5130, 5131, 13])]) [27, 28, 36, 10261, 10263, 10265, 10267, 10269, 10271, 10273] [38, 27] [] [13, 5130, 5131, 5132, 5133, 5134, 5135, 5136] [5130, 5131, 5132, 5133, 5134, 5135, 5136] (fun r2 => [(19, .v (.bool r2.1))]) (fun r2 => [(13, .box 80 [.own 5130, .own 5131, .loc 13 1, .v (.int .i64 r2.2)]), (5130, .box 51 [pfx 5 (([] : List Class).map zAG) false, .v (.bool false), .own 5132, .own 5133, .own 5134, .own 5135]), (5131, .arr 43 7 (([] : List Op).map cOp)), (5132, .arr 9 1 (([] : List Bs).map cStr)), (5133, .arr 43 7 (([] : List Op).map cOp)), (5134, .arr 43 7 (([] : List Op).map cOp)), (5135, .box 54 [pfx 2 (([] : List Hook).map zAU) false, .v (.int .i64 0), .own 5136]), (5136, .arr 43 7 (([] : List Op).map cOp))]) rfl rfl (fun _ => rfl) (fun _ => rfl) (by kernel_rfl) (by kernel_rfl) (fun _ => by kernel_rfl) (fun _ => ⟨rfl, rfl, rfl, rfl, rfl, rfl, rfl, trivial⟩) (fun w0 X X0 σ0 _ => by refine zAf [] (enc := fun (r2 : (Bool × Int)) => .v (.bool r2.1)) (Sr := fun (r2 : (Bool × Int)) => [(13, .box 80 [.own 5130, .own 5131, .loc 13 1, .v (.int .i64 r2.2)]), (5130, .box 51 [pfx 5 (([] : List Class).map zAG) false, .v (.bool false), .own 5132, .own 5133, .own 5134, .own 5135]), (5131, .arr 43 7 (([] : List Op).map cOp)), (5132, .arr 9 1 (([] : List Bs).map cStr)), (5133, .arr 43 7 (([] : List Op).map cOp)), (5134, .arr 43 7 (([] : List Op).map cOp)), (5135, .box 54 [pfx 2 (([] : List Hook).map zAU) false, .v (.int .i64 0), .own 5136]), (5136, .arr 43 7 (([] : List Op).map cOp))]) (first := []) (cap := []) (qs := [.loc 13 0, .loc 13 1, .v (.int .i64 300)]) (Sc := [(13, .box 80 [.own 5130, .own 5131, .v (.pointer none), .v (.int .i64 0)]), (5130, .box 51 [pfx 5 (([] : List Class).map zAG) false, .v (.bool false), .own 5132, .own 5133, .own 5134, .own 5135]), (5131, .arr 43 7 (([] : List Op).map cOp)), (5132, .arr 9 1 (([] : List Bs).map cStr)), (5133, .arr 43 7 (([] : List Op).map cOp)), (5134, .arr 43 7 (([] : List Op).map cOp)), (5135, .box 54 [pfx 2 (([] : List Hook).map zAU) false, .v (.int .i64 0), .own 5136]), (5136, .arr 43 7 (([] : List Op).map cOp))]) (N0 := [13, 5130, 5131, 5132, 5133, 5134, 5135, 5136]) (NR := [13, 5130, 5131, 5132, 5133, 5134, 5135, 5136]) (fun r2 hr2 => zA4 [(900000, 13), (900001, 5130), (900002, 5131), (900003, 5132), (900004, 5133), (900005, 5134), (900006, 5135), (900007, 5136)] [900000, 900001, 900002, 900003, 900004, 900005, 900006, 900007] (zFW fu 300 0 (([] : List Class), false) false ([] : List Op) ([] : List Bs) ([] : List Op) ([] : List Op) (([] : List Hook), false) 0 ([] : List Op) _ hr2) rfl rfl rfl rfl rfl rfl) ⟨rfl, rfl, rfl, rfl, rfl, rfl, rfl, rfl, trivial⟩ (fun _ => rfl) rfl rfl rfl rfl rfl rfl rfl (fun _ => rfl) (fun _ => rfl) rfl rfl rfl ⟨⟨_, rfl, .rfl⟩, ⟨_, rfl, .rfl⟩, ⟨_, rfl, .rfl⟩, trivial⟩ zIt rfl rfl fun r2 hr2 => ?_; refine zAB ?_; exact zBn ⟨rfl, trivial⟩ ⟨rfl, rfl, rfl, rfl, rfl, rfl, rfl, rfl, trivial⟩ rfl) fun r2 hr2 => ?_
  refine zB0 rfl rfl ?_
  refine zAA ?_
  refine zAE ?_
  refine sr ?_
  refine pe 1 ?_
  refine zOM (n := 3021) tab Tryz.func39 rfl rfl rfl rfl rfl rfl rfl rfl rfl rfl rfl rfl ⟨⟨_, rfl, .rfl⟩, trivial⟩ call39 rfl rfl ?_
  refine ns ?_
  refine zAM ?_
  refine zEK 13 [.own 5130, .own 5131, .sel 0 [.loc 13 1, .ela 5130 5 (([] : List Class).length) 2, .ela 5130 5 (([] : List Class).length) 3, .ela 5135 2 (([] : List Hook).length) 1], .v (.int .i64 r2.2)] rfl ⟨.rfl, .rfl, (.sel rfl rfl), .rfl, trivial⟩ rfl ?_
  refine zRL fun hfits => ?_
  obtain ⟨lr1, lmid, lhb, lhcut⟩ := zK6 fu
  refine zPi (T := tab) (s := s1) (x0 := (0, r2.2, (([] : List Class), false), false, ([] : List Bs), ([] : List Op), ([] : List Op), (([] : List Hook), false), 0, ([] : List Op), ([] : List Op))) (n := 3021) (tI := 3) (tB := 4) (tF := 41) (M := (zBO fu)) (Sf := fun ((k3, c4, c5, c6, l7, l8, l9, c10, c11, l12, l13) : Nat × Int × (List Class × Bool) × Bool × (List Bs) × (List Op) × (List Op) × (List Hook × Bool) × Int × (List Op) × (List Op)) => [(13, .box 80 [.own 5130, .own 5131, .sel k3 [.loc 13 1, .ela 5130 5 (c5.1.length) 2, .ela 5130 5 (c5.1.length) 3, .ela 5135 2 (c10.1.length) 1], .v (.int .i64 c4)]), (5130, .box 51 [pfx 5 (c5.1.map zAG) c5.2, .v (.bool c6), .own 5132, .own 5133, .own 5134, .own 5135]), (5131, .arr 43 7 (l13.map cOp)), (5132, .arr 9 1 (l7.map cStr)), (5133, .arr 43 7 (l8.map cOp)), (5134, .arr 43 7 (l9.map cOp)), (5135, .box 54 [pfx 2 (c10.1.map zAU) c10.2, .v (.int .i64 c11), .own 5136]), (5136, .arr 43 7 (l12.map cOp)), (4, .box 77 [.loc 13 0]), (3, .box 28 [.v (.int .i64 0)]), (2, .box 25 [.v (.slice none 0 0), .v (.slice none 0 0)])]) (SR := fun r : (Script × Int) => [(2, .box 25 [.sl 5 false (r.1.Classes.map zAG), .sl 7 false (r.1.Main.map cOp)]), (3, .box 28 [.v (.int .i64 r.2)])]) (N1 := [2, 3, 4]) (E0 := [(2, .loc 2 0), (3, .loc 3 0), (4, .loc 4 0)]) (E1 := fun y14 => [(2, .loc 2 0), (3, .loc 3 0), (4, .loc 4 0), (22, .v (.string ⟨⟨y14⟩⟩)), (5, .v (.string ⟨⟨y14⟩⟩))]) hfits Tryz.func73 lhb rfl rfl call73 rfl rfl lhcut rfl rfl ⟨rfl, rfl, rfl, trivial⟩ rfl rfl ⟨rfl, rfl, rfl, rfl, rfl, rfl, rfl, rfl, rfl, rfl, rfl, trivial⟩ rfl rfl rfl rfl ?_ ?_ ?_ ?_
  ·rintro y14 ⟨k3, c4, c5, c6, l7, l8, l9, c10, c11, l12, l13⟩ w0 X X0 σ0 _ _
   refine pe 1 ?_
   refine zAB ?_
   exact zAw ⟨rfl, rfl, rfl, rfl, rfl, trivial⟩ ⟨rfl, rfl, rfl, rfl, rfl, rfl, rfl, rfl, rfl, rfl, rfl, trivial⟩ rfl
  ·rintro y14 ys15 ⟨k3, c4, c5, c6, l7, l8, l9, c10, c11, l12, l13⟩ w0 X X0 σ0 _ _
   refine zAM ?_
   refine sr ?_
   refine pe 1 ?_
   refine zAK (enc := fun (r16 : Bs) => .v (.string ⟨⟨r16⟩⟩)) (qs := [.v (.string ⟨⟨y14⟩⟩), .v (.string ⟨⟨[10]⟩⟩)]) (zFY fu y14 [10]) rfl rfl ⟨⟨_, rfl, .rfl⟩, ⟨_, rfl, .rfl⟩, trivial⟩ (fun _ => rfl) call40 rfl rfl fun r16 hr16 => ?_
   refine pe 1 ?_
   refine ns ?_
   refine zAE ?_
   refine sr ?_
   refine pe 3 ?_
   refine zAO (j := 27) rfl ?_ ?_
   ·refine pe 4 ?_
    refine zAB ?_
    refine zAA (zAg rfl ?_)
    refine zAl rfl ?_
    exact zE2 (k3, c4, c5, c6, l7, l8, l9, c10, c11, l12, l13) ⟨rfl, rfl, rfl, rfl, rfl, rfl, rfl, rfl, rfl, rfl, rfl, trivial⟩ rfl
   ·refine pe 2 ?_
    refine zAf [5130, 5135, 5132, 5133, 5134, 5136] (enc := fun (r17 : (Bool × Nat × Int × (List Class × Bool) × Bool × (List Hook × Bool) × Int × (List Bs) × (List Op) × (List Op) × (List Op))) => .v (.bool r17.1)) (Sr := fun (r17 : (Bool × Nat × Int × (List Class × Bool) × Bool × (List Hook × Bool) × Int × (List Bs) × (List Op) × (List Op) × (List Op))) => [(13, .box 80 [.own 5130, .own 5131, .sel r17.2.1 [.loc 13 1, .ela 5130 5 (r17.2.2.2.1.1.length) 2, .ela 5130 5 (r17.2.2.2.1.1.length) 3, .ela 5135 2 (r17.2.2.2.2.2.1.1.length) 1], .v (.int .i64 r17.2.2.1)]), (5130, .box 51 [pfx 5 (r17.2.2.2.1.1.map zAG) r17.2.2.2.1.2, .v (.bool r17.2.2.2.2.1), .own 5132, .own 5133, .own 5134, .own 5135]), (5131, .arr 43 7 (l13.map cOp)), (5135, .box 54 [pfx 2 (r17.2.2.2.2.2.1.1.map zAU) r17.2.2.2.2.2.1.2, .v (.int .i64 r17.2.2.2.2.2.2.1), .own 5136]), (5132, .arr 9 1 (r17.2.2.2.2.2.2.2.1.map cStr)), (5133, .arr 43 7 (r17.2.2.2.2.2.2.2.2.1.map cOp)), (5134, .arr 43 7 (r17.2.2.2.2.2.2.2.2.2.1.map cOp)), (5136, .arr 43 7 (r17.2.2.2.2.2.2.2.2.2.2.map cOp))]) (first := []) (cap := []) (qs := [.loc 13 0, .v (.string ⟨⟨r16⟩⟩)]) (Sc := [(13, .box 80 [.own 5130, .own 5131, .sel k3 [.loc 13 1, .ela 5130 5 (c5.1.length) 2, .ela 5130 5 (c5.1.length) 3, .ela 5135 2 (c10.1.length) 1], .v (.int .i64 c4)]), (5130, .box 51 [pfx 5 (c5.1.map zAG) c5.2, .v (.bool c6), .own 5132, .own 5133, .own 5134, .own 5135]), (5131, .arr 43 7 (l13.map cOp)), (5135, .box 54 [pfx 2 (c10.1.map zAU) c10.2, .v (.int .i64 c11), .own 5136]), (5132, .arr 9 1 (l7.map cStr)), (5133, .arr 43 7 (l8.map cOp)), (5134, .arr 43 7 (l9.map cOp)), (5136, .arr 43 7 (l12.map cOp))]) (N0 := [13, 5131]) (NR := [13, 5130, 5131, 5135, 5132, 5133, 5134, 5136]) (fun r17 hr17 => zA4 [(900000, 13), (900001, 5130), (900002, 5131), (900003, 5135), (900004, 5132), (900005, 5133), (900006, 5134), (900007, 5136)] [900000, 900001, 900002, 900003, 900004, 900005, 900006, 900007] (zFS fu r16 k3 c4 c5 c6 l13 c10 c11 l7 l8 l9 l12 _ hr17) rfl rfl rfl rfl rfl rfl) ⟨rfl, rfl, rfl, rfl, rfl, rfl, rfl, rfl, trivial⟩ (fun _ => rfl) rfl rfl rfl rfl rfl rfl rfl (fun _ => rfl) (fun _ => rfl) rfl rfl rfl ⟨⟨_, rfl, .rfl⟩, ⟨_, rfl, .rfl⟩, trivial⟩ call41 rfl rfl fun r17 hr17 => ?_
    refine pe 1 ?_
    refine ns ?_
    refine zAP rfl ?_ ?_
    ·refine zAl rfl ?_
     exact zE2 (r17.2.1, r17.2.2.1, r17.2.2.2.1, r17.2.2.2.2.1, r17.2.2.2.2.2.2.2.1, r17.2.2.2.2.2.2.2.2.1, r17.2.2.2.2.2.2.2.2.2.1, r17.2.2.2.2.2.1, r17.2.2.2.2.2.2.1, r17.2.2.2.2.2.2.2.2.2.2, l13) ⟨rfl, rfl, rfl, rfl, rfl, rfl, rfl, rfl, rfl, rfl, rfl, trivial⟩ rfl
    ·refine zAF ?_
     refine zAA ?_
     refine zAE ?_
     refine zAE ?_
     refine zBA (E' := [(2, .loc 2 0), (3, .loc 3 0), (4, .loc 4 0), (22, .v (.string ⟨⟨y14⟩⟩)), (5, .v (.string ⟨⟨r16⟩⟩)), (23, .v (.string ⟨⟨y14⟩⟩)), (24, .v (.string ⟨⟨r16⟩⟩)), (25, .v (.string ⟨⟨r16⟩⟩)), (26, .v (.bool (r16 == ([] : Bs)))), (27, .v (.bool false)), (28, .loc 13 0), (29, .v (.string ⟨⟨r16⟩⟩)), (30, .v (.bool r17.1)), (31, .v (.bool r17.1))]) (S' := [(13, .box 80 [.own 5130, .own 5131, .sel r17.2.1 [.loc 13 1, .ela 5130 5 (r17.2.2.2.1.1.length) 2, .ela 5130 5 (r17.2.2.2.1.1.length) 3, .ela 5135 2 (r17.2.2.2.2.2.1.1.length) 1], .v (.int .i64 r17.2.2.1)]), (5130, .box 51 [pfx 5 (r17.2.2.2.1.1.map zAG) r17.2.2.2.1.2, .v (.bool r17.2.2.2.2.1), .own 5132, .own 5133, .own 5134, .own 5135]), (5131, .arr 43 7 (l13.map cOp)), (5135, .box 54 [pfx 2 (r17.2.2.2.2.2.1.1.map zAU) r17.2.2.2.2.2.1.2, .v (.int .i64 r17.2.2.2.2.2.2.1), .own 5136]), (5132, .arr 9 1 (r17.2.2.2.2.2.2.2.1.map cStr)), (5133, .arr 43 7 (r17.2.2.2.2.2.2.2.2.1.map cOp)), (5134, .arr 43 7 (r17.2.2.2.2.2.2.2.2.2.1.map cOp)), (5136, .arr 43 7 (r17.2.2.2.2.2.2.2.2.2.2.map cOp)), (4, .box 77 [.loc 13 0]), (3, .box 28 [.v (.int .i64 0)]), (2, .box 25 [.v (.slice none 0 0), .v (.slice none 0 0)])]) ?_ ⟨rfl, rfl, rfl, rfl, rfl, rfl, rfl, rfl, rfl, rfl, rfl, rfl, rfl, rfl, trivial⟩ ⟨rfl, rfl, rfl, rfl, rfl, rfl, rfl, rfl, rfl, rfl, rfl, trivial⟩ rfl
     refine zRJ (fun k_ => [(2, .loc 2 0), (3, .loc 3 0), (4, .loc 4 0), (22, .v (.string ⟨⟨y14⟩⟩)), (5, .v (.string ⟨⟨r16⟩⟩)), (23, .v (.string ⟨⟨y14⟩⟩)), (24, .v (.string ⟨⟨r16⟩⟩)), (25, .v (.string ⟨⟨r16⟩⟩)), (26, .v (.bool (r16 == ([] : Bs)))), (27, .v (.bool false)), (28, .loc 13 0), (29, .v (.string ⟨⟨r16⟩⟩)), (30, .v (.bool r17.1)), (31, .v (.bool r17.1))]) (fun k_ => [(13, .box 80 [.own 5130, .own 5131, .sel k_ [.loc 13 1, .ela 5130 5 (r17.2.2.2.1.1.length) 2, .ela 5130 5 (r17.2.2.2.1.1.length) 3, .ela 5135 2 (r17.2.2.2.2.2.1.1.length) 1], .v (.int .i64 r17.2.2.1)]), (5130, .box 51 [pfx 5 (r17.2.2.2.1.1.map zAG) r17.2.2.2.1.2, .v (.bool r17.2.2.2.2.1), .own 5132, .own 5133, .own 5134, .own 5135]), (5131, .arr 43 7 (l13.map cOp)), (5135, .box 54 [pfx 2 (r17.2.2.2.2.2.1.1.map zAU) r17.2.2.2.2.2.1.2, .v (.int .i64 r17.2.2.2.2.2.2.1), .own 5136]), (5132, .arr 9 1 (r17.2.2.2.2.2.2.2.1.map cStr)), (5133, .arr 43 7 (r17.2.2.2.2.2.2.2.2.1.map cOp)), (5134, .arr 43 7 (r17.2.2.2.2.2.2.2.2.2.1.map cOp)), (5136, .arr 43 7 (r17.2.2.2.2.2.2.2.2.2.2.map cOp)), (4, .box 77 [.loc 13 0]), (3, .box 28 [.v (.int .i64 0)]), (2, .box 25 [.v (.slice none 0 0), .v (.slice none 0 0)])]) r17.2.1 ?_ ?_ ?_ ?_
     ·refine zHh (E' := [(2, .loc 2 0), (3, .loc 3 0), (4, .loc 4 0), (22, .v (.string ⟨⟨y14⟩⟩)), (5, .v (.string ⟨⟨r16⟩⟩)), (23, .v (.string ⟨⟨y14⟩⟩)), (24, .v (.string ⟨⟨r16⟩⟩)), (25, .v (.string ⟨⟨r16⟩⟩)), (26, .v (.bool (r16 == ([] : Bs)))), (27, .v (.bool false)), (28, .loc 13 0), (29, .v (.string ⟨⟨r16⟩⟩)), (30, .v (.bool r17.1)), (31, .v (.bool r17.1))]) (S' := [(13, .box 80 [.own 5130, .own 5131, .loc 13 1, .v (.int .i64 r17.2.2.1)]), (5130, .box 51 [pfx 5 (r17.2.2.2.1.1.map zAG) r17.2.2.2.1.2, .v (.bool r17.2.2.2.2.1), .own 5132, .own 5133, .own 5134, .own 5135]), (5131, .arr 43 7 (l13.map cOp)), (5135, .box 54 [pfx 2 (r17.2.2.2.2.2.1.1.map zAU) r17.2.2.2.2.2.1.2, .v (.int .i64 r17.2.2.2.2.2.2.1), .own 5136]), (5132, .arr 9 1 (r17.2.2.2.2.2.2.2.1.map cStr)), (5133, .arr 43 7 (r17.2.2.2.2.2.2.2.2.1.map cOp)), (5134, .arr 43 7 (r17.2.2.2.2.2.2.2.2.2.1.map cOp)), (5136, .arr 43 7 (r17.2.2.2.2.2.2.2.2.2.2.map cOp)), (4, .box 77 [.loc 13 0]), (3, .box 28 [.v (.int .i64 0)]), (2, .box 25 [.v (.slice none 0 0), .v (.slice none 0 0)])]) rfl rfl ?_
      refine zBA (E' := [(2, .loc 2 0), (3, .loc 3 0), (4, .loc 4 0), (5, .v (.string ⟨⟨r16⟩⟩))]) (S' := [(13, .box 80 [.own 5130, .own 5131, .loc 13 1, .v (.int .i64 r17.2.2.1)]), (5130, .box 51 [pfx 5 (r17.2.2.2.1.1.map zAG) r17.2.2.2.1.2, .v (.bool r17.2.2.2.2.1), .own 5132, .own 5133, .own 5134, .own 5135]), (5131, .arr 43 7 (l13.map cOp)), (5135, .box 54 [pfx 2 (r17.2.2.2.2.2.1.1.map zAU) r17.2.2.2.2.2.1.2, .v (.int .i64 r17.2.2.2.2.2.2.1), .own 5136]), (5132, .arr 9 1 (r17.2.2.2.2.2.2.2.1.map cStr)), (5133, .arr 43 7 (r17.2.2.2.2.2.2.2.2.1.map cOp)), (5134, .arr 43 7 (r17.2.2.2.2.2.2.2.2.2.1.map cOp)), (5136, .arr 43 7 (r17.2.2.2.2.2.2.2.2.2.2.map cOp)), (4, .box 77 [.loc 13 0]), (3, .box 28 [.v (.int .i64 0)]), (2, .box 25 [.v (.slice none 0 0), .v (.slice none 0 0)])]) ?_ ⟨rfl, rfl, rfl, rfl, trivial⟩ ⟨rfl, rfl, rfl, rfl, rfl, rfl, rfl, rfl, rfl, rfl, rfl, trivial⟩ rfl
      refine zBS [0, 1, 3, 7, 15, 31, 63, 0, 128, 384, 896, 2047] mixed (by kernel_rfl) (by kernel_rfl) rfl rfl ?_
      refine vf [8, 9] [64] [] [4, 13] [4] [(32, .loc 13 0)] [(4, .box 77 [.loc 13 0])] ?_
      refine ve [64] [66] [13] [(33, .loc 13 0)] ?_
      refine ve [66] [68] [13] [(34, .loc 13 2)] ?_
      refine vf [27, 68] [70] [] [13, 5130, 5131] [13] [(35, .loc 13 1)] [(13, .box 80 [.own 5130, .own 5131, .loc 13 1, .v (.int .i64 r17.2.2.1)])] ?_
      refine ve [70] [72] [13] [(36, .loc 13 1)] ?_
      refine vf [27, 72] [74] [] [13, 5130, 5131] [13] [(37, .own 5131)] [(13, .box 80 [.own 5130, .own 5131, .loc 13 1, .v (.int .i64 r17.2.2.1)])] ?_
      refine zAX [74, 10263] [76] [] [5131] [5131] [(38, .v (.int .i64 ((l13.length : Nat) : Int)))] [(5131, .arr 43 7 (l13.map cOp))] rfl rfl rfl rfl (by kernel_rfl) (by kernel_rfl) (by kernel_rfl) ⟨rfl, trivial⟩ (fun w0 X X0 σ0 _ => by refine zCb (T := tab) cOp l13 rfl rfl rfl rfl rfl rfl rfl rfl rfl ?_; refine zAB ?_; exact zAw ⟨rfl, trivial⟩ ⟨rfl, trivial⟩ rfl) ?_
      refine vf [8, 9] [78] [] [4, 13] [4] [(39, .loc 13 0)] [(4, .box 77 [.loc 13 0])] ?_
      refine ve [78] [80] [13] [(40, .loc 13 0)] ?_
      refine ve [80] [82] [13] [(41, .loc 13 3)] ?_
      refine vf [27, 82] [84] [] [13, 5130, 5131] [13] [(42, .v (.int .i64 r17.2.2.1))] [(13, .box 80 [.own 5130, .own 5131, .loc 13 1, .v (.int .i64 r17.2.2.1)])] ?_
      refine ve [76, 84] [86] [] [(43, .v (.bool (((l13.length : Nat) : Int) == r17.2.2.1)))] ?_
      refine zB0 rfl rfl ?_
      refine zAA ?_
      refine zAP rfl ?_ ?_
      ·refine sr ?_
       refine zBI (T := tab) rfl rfl rfl rfl rfl rfl rfl ?_
       refine zAN (T := tab) rfl rfl rfl rfl rfl rfl rfl rfl rfl rfl rfl rfl ?_
       refine zAN (T := tab) rfl rfl rfl rfl rfl rfl rfl rfl rfl rfl rfl rfl ?_
       refine ns ?_
       refine zEK 2 [.sl 5 false ([].map zAG), .sl 7 false ([].map cOp)] rfl ⟨.nil, .nil, trivial⟩ rfl ?_
       exact zGv rfl ⟨rfl, rfl, trivial⟩ rfl
      ·refine zAF ?_
       refine zAA ?_
       refine sr ?_
       refine pe 1 ?_
       refine zAK (enc := fun (r18 : (Op × Int)) => .tup [.agg (cOp r18.1), .v (.int .i64 r18.2)]) (qs := [.v (.string ⟨⟨r16⟩⟩)]) (zFl fu r16) rfl rfl ⟨⟨_, rfl, .rfl⟩, trivial⟩ (fun _ => rfl) zML rfl rfl fun r18 hr18 => ?_
       refine pe 3 ?_
       refine zBJ (T := tab) 6 rfl rfl rfl rfl rfl rfl rfl rfl rfl ?_
       refine zAN (T := tab) rfl rfl rfl rfl rfl rfl rfl rfl rfl rfl rfl rfl ?_
       refine pe 1 ?_
       refine ns ?_
       refine zBA (E' := [(2, .loc 2 0), (3, .loc 3 0), (4, .loc 4 0), (6, .loc 6 0)]) (S' := [(6, .box 43 [.v (.int .i64 r18.1.Kind), .v (.int .i64 r18.1.A), .v (.int .i64 r18.1.B), .v (.int .i64 r18.1.C), .v (.string ⟨⟨r18.1.S⟩⟩), .v (.string ⟨⟨r18.1.T⟩⟩), .v (.bool r18.1.Must)]), (13, .box 80 [.own 5130, .own 5131, .loc 13 1, .v (.int .i64 r17.2.2.1)]), (5130, .box 51 [pfx 5 (r17.2.2.2.1.1.map zAG) r17.2.2.2.1.2, .v (.bool r17.2.2.2.2.1), .own 5132, .own 5133, .own 5134, .own 5135]), (5131, .arr 43 7 (l13.map cOp)), (5135, .box 54 [pfx 2 (r17.2.2.2.2.2.1.1.map zAU) r17.2.2.2.2.2.1.2, .v (.int .i64 r17.2.2.2.2.2.2.1), .own 5136]), (5132, .arr 9 1 (r17.2.2.2.2.2.2.2.1.map cStr)), (5133, .arr 43 7 (r17.2.2.2.2.2.2.2.2.1.map cOp)), (5134, .arr 43 7 (r17.2.2.2.2.2.2.2.2.2.1.map cOp)), (5136, .arr 43 7 (r17.2.2.2.2.2.2.2.2.2.2.map cOp)), (4, .box 77 [.loc 13 0]), (3, .box 28 [.v (.int .i64 0)]), (2, .box 25 [.v (.slice none 0 0), .v (.slice none 0 0)])]) ?_ ⟨rfl, rfl, rfl, rfl, trivial⟩ ⟨rfl, rfl, rfl, rfl, rfl, rfl, rfl, rfl, rfl, rfl, rfl, rfl, trivial⟩ rfl
       refine zBS [0, 1, 3, 7, 0, 16, 48, 112, 240, 496, 0, 1024, 4080, 8191, 16383] mixed (by kernel_rfl) (by kernel_rfl) rfl rfl ?_
       refine vf [8, 9] [100] [] [4, 13] [4] [(50, .loc 13 0)] [(4, .box 77 [.loc 13 0])] ?_
       refine ve [100] [102] [13] [(51, .loc 13 0)] ?_
       refine ve [102] [104] [13] [(52, .loc 13 2)] ?_
       refine vf [27, 104] [106] [] [13, 5130, 5131] [13] [(53, .loc 13 1)] [(13, .box 80 [.own 5130, .own 5131, .loc 13 1, .v (.int .i64 r17.2.2.1)])] ?_
       refine vf [8, 9] [108] [] [4, 13] [4] [(54, .loc 13 0)] [(4, .box 77 [.loc 13 0])] ?_
       refine ve [108] [110] [13] [(55, .loc 13 0)] ?_
       refine ve [110] [112] [13] [(56, .loc 13 2)] ?_
       refine vf [27, 112] [114] [] [13, 5130, 5131] [13] [(57, .loc 13 1)] [(13, .box 80 [.own 5130, .own 5131, .loc 13 1, .v (.int .i64 r17.2.2.1)])] ?_
       refine ve [114] [116] [13] [(58, .loc 13 1)] ?_
       refine vf [27, 116] [118] [] [13, 5130, 5131] [13] [(59, .own 5131)] [(13, .box 80 [.own 5130, .own 5131, .loc 13 1, .v (.int .i64 r17.2.2.1)])] ?_
       refine vf [12, 13] [120] [] [6] [6] [(60, .agg (cOp r18.1))] [(6, .box 43 [.v (.int .i64 r18.1.Kind), .v (.int .i64 r18.1.A), .v (.int .i64 r18.1.B), .v (.int .i64 r18.1.C), .v (.string ⟨⟨r18.1.S⟩⟩), .v (.string ⟨⟨r18.1.T⟩⟩), .v (.bool r18.1.Must)])] ?_
       refine zAX [120] [122, 123] [61] [] [] [(61, .own 61)] [(61, .arr 43 7 ([r18.1].map cOp))] rfl rfl rfl rfl (by kernel_rfl) (by kernel_rfl) (by kernel_rfl) trivial (fun w0 X X0 σ0 _ => by refine zEJ (T := tab) (rows := [r18.1].map cOp) 61 rfl rfl rfl rfl rfl rfl rfl rfl rfl rfl rfl rfl rfl rfl ?_; refine zAB ?_; exact zAw ⟨rfl, trivial⟩ ⟨rfl, trivial⟩ rfl) ?_
       refine zAi (M := (zEc 72 (l13.length + ([r18.1] : List Op).length))) (ment := [(124, [700062]), (118, []), (10263, []), (1400125, [])]) [118, 122, 123, 10263] [124, 118, 10263, 1400125] [700062] [61, 5131] [61] (fun _ => [(62, .own 700062)]) (fun _ => [(700062, .arr 43 7 ((l13 ++ [r18.1]).map cOp)), (61, .arr 43 7 ([r18.1].map cOp))]) rfl rfl (fun _ => rfl) (fun _ => rfl) (by kernel_rfl) (by kernel_rfl) (fun _ => by kernel_rfl) (fun _ => ⟨rfl, trivial⟩) (fun w0 X X0 σ0 _ => by refine zP2 5131 700062 59 rfl rfl rfl rfl rfl rfl ?_; refine zEL (T := tab) cOp l13 ([r18.1] : List Op) rfl rfl rfl rfl rfl rfl rfl rfl rfl rfl rfl rfl rfl rfl (zJd _) rfl rfl rfl rfl rfl ?_; refine zAB ?_; exact zBn ⟨rfl, trivial⟩ ⟨rfl, rfl, trivial⟩ rfl) fun _ h0 => ?_
       refine ve [106] [126] [13] [(63, .loc 13 1)] ?_
       refine zAX [27, 124, 126, 1400125] [27] [] [13, 5130, 5131, 700062] [700062] [] [(13, .box 80 [.own 5130, .own 700062, .loc 13 1, .v (.int .i64 r17.2.2.1)]), (700062, .arr 43 7 ((l13 ++ [r18.1]).map cOp))] rfl rfl rfl rfl (by kernel_rfl) (by kernel_rfl) (by kernel_rfl) ⟨rfl, trivial⟩ (fun w0 X X0 σ0 _ => by refine zAN (T := tab) rfl rfl rfl rfl rfl rfl rfl rfl rfl rfl rfl rfl ?_; refine zAB ?_; exact zAw trivial ⟨rfl, rfl, trivial⟩ rfl) ?_
       refine zB0 rfl rfl ?_
       refine zAJ ?_
       refine zAZ (E' := []) (S' := [(700062, .arr 43 7 ((l13 ++ [r18.1]).map cOp)), (61, .arr 43 7 ([r18.1].map cOp)), (6, .box 43 [.v (.int .i64 r18.1.Kind), .v (.int .i64 r18.1.A), .v (.int .i64 r18.1.B), .v (.int .i64 r18.1.C), .v (.string ⟨⟨r18.1.S⟩⟩), .v (.string ⟨⟨r18.1.T⟩⟩), .v (.bool r18.1.Must)]), (13, .box 80 [.own 5130, .own 700062, .loc 13 1, .v (.int .i64 r17.2.2.1)]), (5130, .box 51 [pfx 5 (r17.2.2.2.1.1.map zAG) r17.2.2.2.1.2, .v (.bool r17.2.2.2.2.1), .own 5132, .own 5133, .own 5134, .own 5135]), (5135, .box 54 [pfx 2 (r17.2.2.2.2.2.1.1.map zAU) r17.2.2.2.2.2.1.2, .v (.int .i64 r17.2.2.2.2.2.2.1), .own 5136]), (5132, .arr 9 1 (r17.2.2.2.2.2.2.2.1.map cStr)), (5133, .arr 43 7 (r17.2.2.2.2.2.2.2.2.1.map cOp)), (5134, .arr 43 7 (r17.2.2.2.2.2.2.2.2.2.1.map cOp)), (5136, .arr 43 7 (r17.2.2.2.2.2.2.2.2.2.2.map cOp)), (4, .box 77 [.loc 13 0]), (3, .box 28 [.v (.int .i64 0)]), (2, .box 25 [.v (.slice none 0 0), .v (.slice none 0 0)])]) ?_ trivial ⟨rfl, rfl, rfl, rfl, rfl, rfl, rfl, rfl, rfl, rfl, rfl, rfl, rfl, trivial⟩ rfl
       refine zPK 700062 5131 (E' := []) (S' := [(5131, .arr 43 7 ((l13 ++ [r18.1]).map cOp)), (61, .arr 43 7 ([r18.1].map cOp)), (6, .box 43 [.v (.int .i64 r18.1.Kind), .v (.int .i64 r18.1.A), .v (.int .i64 r18.1.B), .v (.int .i64 r18.1.C), .v (.string ⟨⟨r18.1.S⟩⟩), .v (.string ⟨⟨r18.1.T⟩⟩), .v (.bool r18.1.Must)]), (13, .box 80 [.own 5130, .own 5131, .loc 13 1, .v (.int .i64 r17.2.2.1)]), (5130, .box 51 [pfx 5 (r17.2.2.2.1.1.map zAG) r17.2.2.2.1.2, .v (.bool r17.2.2.2.2.1), .own 5132, .own 5133, .own 5134, .own 5135]), (5135, .box 54 [pfx 2 (r17.2.2.2.2.2.1.1.map zAU) r17.2.2.2.2.2.1.2, .v (.int .i64 r17.2.2.2.2.2.2.1), .own 5136]), (5132, .arr 9 1 (r17.2.2.2.2.2.2.2.1.map cStr)), (5133, .arr 43 7 (r17.2.2.2.2.2.2.2.2.1.map cOp)), (5134, .arr 43 7 (r17.2.2.2.2.2.2.2.2.2.1.map cOp)), (5136, .arr 43 7 (r17.2.2.2.2.2.2.2.2.2.2.map cOp)), (4, .box 77 [.loc 13 0]), (3, .box 28 [.v (.int .i64 0)]), (2, .box 25 [.v (.slice none 0 0), .v (.slice none 0 0)])]) rfl rfl rfl rfl rfl rfl ?_
       refine zEZ 13 [.own 5130, .own 5131, .sel 0 [.loc 13 1, .ela 5130 5 (r17.2.2.2.1.1.length) 2, .ela 5130 5 (r17.2.2.2.1.1.length) 3, .ela 5135 2 (r17.2.2.2.2.2.1.1.length) 1], .v (.int .i64 r17.2.2.1)] rfl ⟨.rfl, .rfl, (.sel rfl rfl), .rfl, trivial⟩ rfl ?_
       exact zE2 (0, r17.2.2.1, r17.2.2.2.1, r17.2.2.2.2.1, r17.2.2.2.2.2.2.2.1, r17.2.2.2.2.2.2.2.2.1, r17.2.2.2.2.2.2.2.2.2.1, r17.2.2.2.2.2.1, r17.2.2.2.2.2.2.1, r17.2.2.2.2.2.2.2.2.2.2, (l13 ++ [r18.1])) ⟨rfl, rfl, rfl, rfl, rfl, rfl, rfl, rfl, rfl, rfl, rfl, trivial⟩ rfl
     ·refine zHh (E' := [(2, .loc 2 0), (3, .loc 3 0), (4, .loc 4 0), (22, .v (.string ⟨⟨y14⟩⟩)), (5, .v (.string ⟨⟨r16⟩⟩)), (23, .v (.string ⟨⟨y14⟩⟩)), (24, .v (.string ⟨⟨r16⟩⟩)), (25, .v (.string ⟨⟨r16⟩⟩)), (26, .v (.bool (r16 == ([] : Bs)))), (27, .v (.bool false)), (28, .loc 13 0), (29, .v (.string ⟨⟨r16⟩⟩)), (30, .v (.bool r17.1)), (31, .v (.bool r17.1))]) (S' := [(13, .box 80 [.own 5130, .own 5131, .ela 5130 5 (r17.2.2.2.1.1.length) 2, .v (.int .i64 r17.2.2.1)]), (5130, .box 51 [pfx 5 (r17.2.2.2.1.1.map zAG) r17.2.2.2.1.2, .v (.bool r17.2.2.2.2.1), .own 5132, .own 5133, .own 5134, .own 5135]), (5131, .arr 43 7 (l13.map cOp)), (5135, .box 54 [pfx 2 (r17.2.2.2.2.2.1.1.map zAU) r17.2.2.2.2.2.1.2, .v (.int .i64 r17.2.2.2.2.2.2.1), .own 5136]), (5132, .arr 9 1 (r17.2.2.2.2.2.2.2.1.map cStr)), (5133, .arr 43 7 (r17.2.2.2.2.2.2.2.2.1.map cOp)), (5134, .arr 43 7 (r17.2.2.2.2.2.2.2.2.2.1.map cOp)), (5136, .arr 43 7 (r17.2.2.2.2.2.2.2.2.2.2.map cOp)), (4, .box 77 [.loc 13 0]), (3, .box 28 [.v (.int .i64 0)]), (2, .box 25 [.v (.slice none 0 0), .v (.slice none 0 0)])]) rfl rfl ?_
      refine zBA (E' := [(2, .loc 2 0), (3, .loc 3 0), (4, .loc 4 0), (22, .v (.string ⟨⟨y14⟩⟩)), (5, .v (.string ⟨⟨r16⟩⟩)), (23, .v (.string ⟨⟨y14⟩⟩)), (24, .v (.string ⟨⟨r16⟩⟩)), (25, .v (.string ⟨⟨r16⟩⟩)), (26, .v (.bool (r16 == ([] : Bs)))), (27, .v (.bool false)), (28, .loc 13 0), (29, .v (.string ⟨⟨r16⟩⟩)), (30, .v (.bool r17.1)), (31, .v (.bool r17.1))]) (S' := [(13, .box 80 [.own 5130, .own 5131, .ela 5130 5 (r17.2.2.2.1.1.length) 2, .v (.int .i64 r17.2.2.1)]), (5130, .box 51 [pfx 5 (r17.2.2.2.1.1.map zAG) r17.2.2.2.1.2, .v (.bool r17.2.2.2.2.1), .own 5132, .own 5133, .own 5134, .own 5135]), (5131, .arr 43 7 (l13.map cOp)), (5135, .box 54 [pfx 2 (r17.2.2.2.2.2.1.1.map zAU) r17.2.2.2.2.2.1.2, .v (.int .i64 r17.2.2.2.2.2.2.1), .own 5136]), (5132, .arr 9 1 (r17.2.2.2.2.2.2.2.1.map cStr)), (5133, .arr 43 7 (r17.2.2.2.2.2.2.2.2.1.map cOp)), (5134, .arr 43 7 (r17.2.2.2.2.2.2.2.2.2.1.map cOp)), (5136, .arr 43 7 (r17.2.2.2.2.2.2.2.2.2.2.map cOp)), (4, .box 77 [.loc 13 0]), (3, .box 28 [.v (.int .i64 0)]), (2, .box 25 [.v (.slice none 0 0), .v (.slice none 0 0)])]) ?_ ⟨rfl, rfl, rfl, rfl, rfl, rfl, rfl, rfl, rfl, rfl, rfl, rfl, rfl, rfl, trivial⟩ ⟨rfl, rfl, rfl, rfl, rfl, rfl, rfl, rfl, rfl, rfl, rfl, trivial⟩ rfl
      refine zMO (fun b_ => [(2, .loc 2 0), (3, .loc 3 0), (4, .loc 4 0), (22, .v (.string ⟨⟨y14⟩⟩)), (5, .v (.string ⟨⟨r16⟩⟩)), (23, .v (.string ⟨⟨y14⟩⟩)), (24, .v (.string ⟨⟨r16⟩⟩)), (25, .v (.string ⟨⟨r16⟩⟩)), (26, .v (.bool (r16 == ([] : Bs)))), (27, .v (.bool false)), (28, .loc 13 0), (29, .v (.string ⟨⟨r16⟩⟩)), (30, .v (.bool r17.1)), (31, .v (.bool r17.1))]) (fun b_ => [(13, .box 80 [.own 5130, .own 5131, .ela 5130 5 (r17.2.2.2.1.1.length) 2, .v (.int .i64 r17.2.2.1)]), (5130, .box 51 [pfx 5 (r17.2.2.2.1.1.map zAG) b_, .v (.bool r17.2.2.2.2.1), .own 5132, .own 5133, .own 5134, .own 5135]), (5131, .arr 43 7 (l13.map cOp)), (5135, .box 54 [pfx 2 (r17.2.2.2.2.2.1.1.map zAU) r17.2.2.2.2.2.1.2, .v (.int .i64 r17.2.2.2.2.2.2.1), .own 5136]), (5132, .arr 9 1 (r17.2.2.2.2.2.2.2.1.map cStr)), (5133, .arr 43 7 (r17.2.2.2.2.2.2.2.2.1.map cOp)), (5134, .arr 43 7 (r17.2.2.2.2.2.2.2.2.2.1.map cOp)), (5136, .arr 43 7 (r17.2.2.2.2.2.2.2.2.2.2.map cOp)), (4, .box 77 [.loc 13 0]), (3, .box 28 [.v (.int .i64 0)]), (2, .box 25 [.v (.slice none 0 0), .v (.slice none 0 0)])]) r17.2.2.2.1.2 ?_
      refine zBA (E' := [(2, .loc 2 0), (3, .loc 3 0), (4, .loc 4 0), (5, .v (.string ⟨⟨r16⟩⟩))]) (S' := [(13, .box 80 [.own 5130, .own 5131, .ela 5130 5 (r17.2.2.2.1.1.length) 2, .v (.int .i64 r17.2.2.1)]), (5130, .box 51 [pfx 5 (r17.2.2.2.1.1.map zAG) true, .v (.bool r17.2.2.2.2.1), .own 5132, .own 5133, .own 5134, .own 5135]), (5131, .arr 43 7 (l13.map cOp)), (5135, .box 54 [pfx 2 (r17.2.2.2.2.2.1.1.map zAU) r17.2.2.2.2.2.1.2, .v (.int .i64 r17.2.2.2.2.2.2.1), .own 5136]), (5132, .arr 9 1 (r17.2.2.2.2.2.2.2.1.map cStr)), (5133, .arr 43 7 (r17.2.2.2.2.2.2.2.2.1.map cOp)), (5134, .arr 43 7 (r17.2.2.2.2.2.2.2.2.2.1.map cOp)), (5136, .arr 43 7 (r17.2.2.2.2.2.2.2.2.2.2.map cOp)), (4, .box 77 [.loc 13 0]), (3, .box 28 [.v (.int .i64 0)]), (2, .box 25 [.v (.slice none 0 0), .v (.slice none 0 0)])]) ?_ ⟨rfl, rfl, rfl, rfl, trivial⟩ ⟨rfl, rfl, rfl, rfl, rfl, rfl, rfl, rfl, rfl, rfl, rfl, trivial⟩ rfl
      refine zBS [0, 1, 3, 7, 15, 31, 63, 0, 128, 384, 896, 2047] mixed (by kernel_rfl) (by kernel_rfl) rfl rfl ?_
      refine vf [8, 9] [64] [] [4, 13] [4] [(32, .loc 13 0)] [(4, .box 77 [.loc 13 0])] ?_
      refine ve [64] [66] [13] [(33, .loc 13 0)] ?_
      refine ve [66] [68] [13] [(34, .loc 13 2)] ?_
      refine vf [27, 68] [70] [] [13, 5130, 5131] [13] [(35, .ela 5130 5 (r17.2.2.2.1.1.length) 2)] [(13, .box 80 [.own 5130, .own 5131, .ela 5130 5 (r17.2.2.2.1.1.length) 2, .v (.int .i64 r17.2.2.1)])] ?_
      refine ve [70] [72] [5130] [(36, .ela 5130 5 (r17.2.2.2.1.1.length) 2)] ?_
      refine zAX [72, 10261] [74] [] [5130, 5132, 5133, 5134, 5135] [5130] [(37, .own 5133)] [(5130, .box 51 [pfx 5 (r17.2.2.2.1.1.map zAG) true, .v (.bool r17.2.2.2.2.1), .own 5132, .own 5133, .own 5134, .own 5135])] rfl rfl rfl rfl (by kernel_rfl) (by kernel_rfl) (by kernel_rfl) ⟨rfl, trivial⟩ (fun w0 X X0 σ0 _ => by refine zBz (T := tab) (by simp) rfl rfl rfl rfl rfl rfl rfl rfl ?_; refine zAB ?_; exact zAw ⟨rfl, trivial⟩ ⟨rfl, trivial⟩ rfl) ?_
      refine zAX [74, 10267] [76] [] [5133] [5133] [(38, .v (.int .i64 ((r17.2.2.2.2.2.2.2.2.1.length : Nat) : Int)))] [(5133, .arr 43 7 (r17.2.2.2.2.2.2.2.2.1.map cOp))] rfl rfl rfl rfl (by kernel_rfl) (by kernel_rfl) (by kernel_rfl) ⟨rfl, trivial⟩ (fun w0 X X0 σ0 _ => by refine zCb (T := tab) cOp r17.2.2.2.2.2.2.2.2.1 rfl rfl rfl rfl rfl rfl rfl rfl rfl ?_; refine zAB ?_; exact zAw ⟨rfl, trivial⟩ ⟨rfl, trivial⟩ rfl) ?_
      refine vf [8, 9] [78] [] [4, 13] [4] [(39, .loc 13 0)] [(4, .box 77 [.loc 13 0])] ?_
      refine ve [78] [80] [13] [(40, .loc 13 0)] ?_
      refine ve [80] [82] [13] [(41, .loc 13 3)] ?_
      refine vf [27, 82] [84] [] [13, 5130, 5131] [13] [(42, .v (.int .i64 r17.2.2.1))] [(13, .box 80 [.own 5130, .own 5131, .ela 5130 5 (r17.2.2.2.1.1.length) 2, .v (.int .i64 r17.2.2.1)])] ?_
      refine ve [76, 84] [86] [] [(43, .v (.bool (((r17.2.2.2.2.2.2.2.2.1.length : Nat) : Int) == r17.2.2.1)))] ?_
      refine zB0 rfl rfl ?_
      refine zAA ?_
      refine zAP rfl ?_ ?_
      ·refine sr ?_
       refine zBI (T := tab) rfl rfl rfl rfl rfl rfl rfl ?_
       refine zAN (T := tab) rfl rfl rfl rfl rfl rfl rfl rfl rfl rfl rfl rfl ?_
       refine zAN (T := tab) rfl rfl rfl rfl rfl rfl rfl rfl rfl rfl rfl rfl ?_
       refine ns ?_
       refine zEK 2 [.sl 5 false ([].map zAG), .sl 7 false ([].map cOp)] rfl ⟨.nil, .nil, trivial⟩ rfl ?_
       exact zGv rfl ⟨rfl, rfl, trivial⟩ rfl
      ·refine zAF ?_
       refine zAA ?_
       refine sr ?_
       refine pe 1 ?_
       refine zAK (enc := fun (r19 : (Op × Int)) => .tup [.agg (cOp r19.1), .v (.int .i64 r19.2)]) (qs := [.v (.string ⟨⟨r16⟩⟩)]) (zFl fu r16) rfl rfl ⟨⟨_, rfl, .rfl⟩, trivial⟩ (fun _ => rfl) zML rfl rfl fun r19 hr19 => ?_
       refine pe 3 ?_
       refine zBJ (T := tab) 6 rfl rfl rfl rfl rfl rfl rfl rfl rfl ?_
       refine zAN (T := tab) rfl rfl rfl rfl rfl rfl rfl rfl rfl rfl rfl rfl ?_
       refine pe 1 ?_
       refine ns ?_
       refine zBA (E' := [(2, .loc 2 0), (3, .loc 3 0), (4, .loc 4 0), (6, .loc 6 0)]) (S' := [(6, .box 43 [.v (.int .i64 r19.1.Kind), .v (.int .i64 r19.1.A), .v (.int .i64 r19.1.B), .v (.int .i64 r19.1.C), .v (.string ⟨⟨r19.1.S⟩⟩), .v (.string ⟨⟨r19.1.T⟩⟩), .v (.bool r19.1.Must)]), (13, .box 80 [.own 5130, .own 5131, .ela 5130 5 (r17.2.2.2.1.1.length) 2, .v (.int .i64 r17.2.2.1)]), (5130, .box 51 [pfx 5 (r17.2.2.2.1.1.map zAG) true, .v (.bool r17.2.2.2.2.1), .own 5132, .own 5133, .own 5134, .own 5135]), (5131, .arr 43 7 (l13.map cOp)), (5135, .box 54 [pfx 2 (r17.2.2.2.2.2.1.1.map zAU) r17.2.2.2.2.2.1.2, .v (.int .i64 r17.2.2.2.2.2.2.1), .own 5136]), (5132, .arr 9 1 (r17.2.2.2.2.2.2.2.1.map cStr)), (5133, .arr 43 7 (r17.2.2.2.2.2.2.2.2.1.map cOp)), (5134, .arr 43 7 (r17.2.2.2.2.2.2.2.2.2.1.map cOp)), (5136, .arr 43 7 (r17.2.2.2.2.2.2.2.2.2.2.map cOp)), (4, .box 77 [.loc 13 0]), (3, .box 28 [.v (.int .i64 0)]), (2, .box 25 [.v (.slice none 0 0), .v (.slice none 0 0)])]) ?_ ⟨rfl, rfl, rfl, rfl, trivial⟩ ⟨rfl, rfl, rfl, rfl, rfl, rfl, rfl, rfl, rfl, rfl, rfl, rfl, trivial⟩ rfl
       refine zBS [0, 1, 3, 7, 0, 16, 48, 112, 240, 496, 0, 1024, 4080, 8191, 16383] mixed (by kernel_rfl) (by kernel_rfl) rfl rfl ?_
       refine vf [8, 9] [100] [] [4, 13] [4] [(50, .loc 13 0)] [(4, .box 77 [.loc 13 0])] ?_
       refine ve [100] [102] [13] [(51, .loc 13 0)] ?_
       refine ve [102] [104] [13] [(52, .loc 13 2)] ?_
       refine vf [27, 104] [106] [] [13, 5130, 5131] [13] [(53, .ela 5130 5 (r17.2.2.2.1.1.length) 2)] [(13, .box 80 [.own 5130, .own 5131, .ela 5130 5 (r17.2.2.2.1.1.length) 2, .v (.int .i64 r17.2.2.1)])] ?_
       refine vf [8, 9] [108] [] [4, 13] [4] [(54, .loc 13 0)] [(4, .box 77 [.loc 13 0])] ?_
       refine ve [108] [110] [13] [(55, .loc 13 0)] ?_
       refine ve [110] [112] [13] [(56, .loc 13 2)] ?_
       refine vf [27, 112] [114] [] [13, 5130, 5131] [13] [(57, .ela 5130 5 (r17.2.2.2.1.1.length) 2)] [(13, .box 80 [.own 5130, .own 5131, .ela 5130 5 (r17.2.2.2.1.1.length) 2, .v (.int .i64 r17.2.2.1)])] ?_
       refine ve [114] [116] [5130] [(58, .ela 5130 5 (r17.2.2.2.1.1.length) 2)] ?_
       refine zAX [116, 10261] [118] [] [5130, 5132, 5133, 5134, 5135] [5130] [(59, .own 5133)] [(5130, .box 51 [pfx 5 (r17.2.2.2.1.1.map zAG) true, .v (.bool r17.2.2.2.2.1), .own 5132, .own 5133, .own 5134, .own 5135])] rfl rfl rfl rfl (by kernel_rfl) (by kernel_rfl) (by kernel_rfl) ⟨rfl, trivial⟩ (fun w0 X X0 σ0 _ => by refine zBz (T := tab) (by simp) rfl rfl rfl rfl rfl rfl rfl rfl ?_; refine zAB ?_; exact zAw ⟨rfl, trivial⟩ ⟨rfl, trivial⟩ rfl) ?_
       refine vf [12, 13] [120] [] [6] [6] [(60, .agg (cOp r19.1))] [(6, .box 43 [.v (.int .i64 r19.1.Kind), .v (.int .i64 r19.1.A), .v (.int .i64 r19.1.B), .v (.int .i64 r19.1.C), .v (.string ⟨⟨r19.1.S⟩⟩), .v (.string ⟨⟨r19.1.T⟩⟩), .v (.bool r19.1.Must)])] ?_
       refine zAX [120] [122, 123] [61] [] [] [(61, .own 61)] [(61, .arr 43 7 ([r19.1].map cOp))] rfl rfl rfl rfl (by kernel_rfl) (by kernel_rfl) (by kernel_rfl) trivial (fun w0 X X0 σ0 _ => by refine zEJ (T := tab) (rows := [r19.1].map cOp) 61 rfl rfl rfl rfl rfl rfl rfl rfl rfl rfl rfl rfl rfl rfl ?_; refine zAB ?_; exact zAw ⟨rfl, trivial⟩ ⟨rfl, trivial⟩ rfl) ?_
       refine zAi (M := (zEc 72 (r17.2.2.2.2.2.2.2.2.1.length + ([r19.1] : List Op).length))) (ment := [(124, [5133]), (118, []), (10261, [5132, 5134, 5135]), (10267, [])]) [118, 122, 123, 10261, 10267] [124, 118, 10261, 10267] [5133] [61, 5130, 5132, 5134, 5135] [61] (fun _ => [(62, .own 5133)]) (fun _ => [(5130, .box 51 [pfx 5 (r17.2.2.2.1.1.map zAG) true, .v (.bool r17.2.2.2.2.1), .own 5132, .junk, .own 5134, .own 5135]), (5133, .arr 43 7 ((r17.2.2.2.2.2.2.2.2.1 ++ [r19.1]).map cOp)), (61, .arr 43 7 ([r19.1].map cOp))]) rfl rfl (fun _ => rfl) (fun _ => rfl) (by kernel_rfl) (by kernel_rfl) (fun _ => by kernel_rfl) (fun _ => ⟨rfl, trivial⟩) (fun w0 X X0 σ0 _ => by refine zEL (T := tab) cOp r17.2.2.2.2.2.2.2.2.1 ([r19.1] : List Op) rfl rfl rfl rfl rfl rfl rfl rfl rfl rfl rfl rfl rfl rfl (zJd _) rfl rfl rfl rfl rfl ?_; refine zAB ?_; exact zBn ⟨rfl, trivial⟩ ⟨rfl, rfl, rfl, trivial⟩ rfl) fun _ h0 => ?_
       refine ve [106] [126] [5130] [(63, .ela 5130 5 (r17.2.2.2.1.1.length) 2)] ?_
       refine zAX [124, 126, 10261, 10267] [10261] [] [5130, 5132, 5133, 5134, 5135] [5133] [] [(5130, .box 51 [pfx 5 (r17.2.2.2.1.1.map zAG) true, .v (.bool r17.2.2.2.2.1), .own 5132, .own 5133, .own 5134, .own 5135]), (5133, .arr 43 7 ((r17.2.2.2.2.2.2.2.2.1 ++ [r19.1]).map cOp))] rfl rfl rfl rfl (by kernel_rfl) (by kernel_rfl) (by kernel_rfl) ⟨rfl, trivial⟩ (fun w0 X X0 σ0 _ => by refine zDl (T := tab) (by simp) rfl rfl rfl rfl rfl rfl rfl rfl rfl rfl rfl rfl ?_; refine zAB ?_; exact zAw trivial ⟨rfl, rfl, trivial⟩ rfl) ?_
       refine zB0 rfl rfl ?_
       refine zAJ ?_
       refine zEZ 13 [.own 5130, .own 5131, .sel 1 [.loc 13 1, .ela 5130 5 (r17.2.2.2.1.1.length) 2, .ela 5130 5 (r17.2.2.2.1.1.length) 3, .ela 5135 2 (r17.2.2.2.2.2.1.1.length) 1], .v (.int .i64 r17.2.2.1)] rfl ⟨.rfl, .rfl, (.sel rfl rfl), .rfl, trivial⟩ rfl ?_
       exact zE2 (1, r17.2.2.1, (r17.2.2.2.1.1, true), r17.2.2.2.2.1, r17.2.2.2.2.2.2.2.1, (r17.2.2.2.2.2.2.2.2.1 ++ [r19.1]), r17.2.2.2.2.2.2.2.2.2.1, r17.2.2.2.2.2.1, r17.2.2.2.2.2.2.1, r17.2.2.2.2.2.2.2.2.2.2, l13) ⟨rfl, rfl, rfl, rfl, rfl, rfl, rfl, rfl, rfl, rfl, rfl, trivial⟩ rfl
     ·refine zHh (E' := [(2, .loc 2 0), (3, .loc 3 0), (4, .loc 4 0), (22, .v (.string ⟨⟨y14⟩⟩)), (5, .v (.string ⟨⟨r16⟩⟩)), (23, .v (.string ⟨⟨y14⟩⟩)), (24, .v (.string ⟨⟨r16⟩⟩)), (25, .v (.string ⟨⟨r16⟩⟩)), (26, .v (.bool (r16 == ([] : Bs)))), (27, .v (.bool false)), (28, .loc 13 0), (29, .v (.string ⟨⟨r16⟩⟩)), (30, .v (.bool r17.1)), (31, .v (.bool r17.1))]) (S' := [(13, .box 80 [.own 5130, .own 5131, .ela 5130 5 (r17.2.2.2.1.1.length) 3, .v (.int .i64 r17.2.2.1)]), (5130, .box 51 [pfx 5 (r17.2.2.2.1.1.map zAG) r17.2.2.2.1.2, .v (.bool r17.2.2.2.2.1), .own 5132, .own 5133, .own 5134, .own 5135]), (5131, .arr 43 7 (l13.map cOp)), (5135, .box 54 [pfx 2 (r17.2.2.2.2.2.1.1.map zAU) r17.2.2.2.2.2.1.2, .v (.int .i64 r17.2.2.2.2.2.2.1), .own 5136]), (5132, .arr 9 1 (r17.2.2.2.2.2.2.2.1.map cStr)), (5133, .arr 43 7 (r17.2.2.2.2.2.2.2.2.1.map cOp)), (5134, .arr 43 7 (r17.2.2.2.2.2.2.2.2.2.1.map cOp)), (5136, .arr 43 7 (r17.2.2.2.2.2.2.2.2.2.2.map cOp)), (4, .box 77 [.loc 13 0]), (3, .box 28 [.v (.int .i64 0)]), (2, .box 25 [.v (.slice none 0 0), .v (.slice none 0 0)])]) rfl rfl ?_
      refine zBA (E' := [(2, .loc 2 0), (3, .loc 3 0), (4, .loc 4 0), (22, .v (.string ⟨⟨y14⟩⟩)), (5, .v (.string ⟨⟨r16⟩⟩)), (23, .v (.string ⟨⟨y14⟩⟩)), (24, .v (.string ⟨⟨r16⟩⟩)), (25, .v (.string ⟨⟨r16⟩⟩)), (26, .v (.bool (r16 == ([] : Bs)))), (27, .v (.bool false)), (28, .loc 13 0), (29, .v (.string ⟨⟨r16⟩⟩)), (30, .v (.bool r17.1)), (31, .v (.bool r17.1))]) (S' := [(13, .box 80 [.own 5130, .own 5131, .ela 5130 5 (r17.2.2.2.1.1.length) 3, .v (.int .i64 r17.2.2.1)]), (5130, .box 51 [pfx 5 (r17.2.2.2.1.1.map zAG) r17.2.2.2.1.2, .v (.bool r17.2.2.2.2.1), .own 5132, .own 5133, .own 5134, .own 5135]), (5131, .arr 43 7 (l13.map cOp)), (5135, .box 54 [pfx 2 (r17.2.2.2.2.2.1.1.map zAU) r17.2.2.2.2.2.1.2, .v (.int .i64 r17.2.2.2.2.2.2.1), .own 5136]), (5132, .arr 9 1 (r17.2.2.2.2.2.2.2.1.map cStr)), (5133, .arr 43 7 (r17.2.2.2.2.2.2.2.2.1.map cOp)), (5134, .arr 43 7 (r17.2.2.2.2.2.2.2.2.2.1.map cOp)), (5136, .arr 43 7 (r17.2.2.2.2.2.2.2.2.2.2.map cOp)), (4, .box 77 [.loc 13 0]), (3, .box 28 [.v (.int .i64 0)]), (2, .box 25 [.v (.slice none 0 0), .v (.slice none 0 0)])]) ?_ ⟨rfl, rfl, rfl, rfl, rfl, rfl, rfl, rfl, rfl, rfl, rfl, rfl, rfl, rfl, trivial⟩ ⟨rfl, rfl, rfl, rfl, rfl, rfl, rfl, rfl, rfl, rfl, rfl, trivial⟩ rfl
      refine zMO (fun b_ => [(2, .loc 2 0), (3, .loc 3 0), (4, .loc 4 0), (22, .v (.string ⟨⟨y14⟩⟩)), (5, .v (.string ⟨⟨r16⟩⟩)), (23, .v (.string ⟨⟨y14⟩⟩)), (24, .v (.string ⟨⟨r16⟩⟩)), (25, .v (.string ⟨⟨r16⟩⟩)), (26, .v (.bool (r16 == ([] : Bs)))), (27, .v (.bool false)), (28, .loc 13 0), (29, .v (.string ⟨⟨r16⟩⟩)), (30, .v (.bool r17.1)), (31, .v (.bool r17.1))]) (fun b_ => [(13, .box 80 [.own 5130, .own 5131, .ela 5130 5 (r17.2.2.2.1.1.length) 3, .v (.int .i64 r17.2.2.1)]), (5130, .box 51 [pfx 5 (r17.2.2.2.1.1.map zAG) b_, .v (.bool r17.2.2.2.2.1), .own 5132, .own 5133, .own 5134, .own 5135]), (5131, .arr 43 7 (l13.map cOp)), (5135, .box 54 [pfx 2 (r17.2.2.2.2.2.1.1.map zAU) r17.2.2.2.2.2.1.2, .v (.int .i64 r17.2.2.2.2.2.2.1), .own 5136]), (5132, .arr 9 1 (r17.2.2.2.2.2.2.2.1.map cStr)), (5133, .arr 43 7 (r17.2.2.2.2.2.2.2.2.1.map cOp)), (5134, .arr 43 7 (r17.2.2.2.2.2.2.2.2.2.1.map cOp)), (5136, .arr 43 7 (r17.2.2.2.2.2.2.2.2.2.2.map cOp)), (4, .box 77 [.loc 13 0]), (3, .box 28 [.v (.int .i64 0)]), (2, .box 25 [.v (.slice none 0 0), .v (.slice none 0 0)])]) r17.2.2.2.1.2 ?_
      refine zBA (E' := [(2, .loc 2 0), (3, .loc 3 0), (4, .loc 4 0), (5, .v (.string ⟨⟨r16⟩⟩))]) (S' := [(13, .box 80 [.own 5130, .own 5131, .ela 5130 5 (r17.2.2.2.1.1.length) 3, .v (.int .i64 r17.2.2.1)]), (5130, .box 51 [pfx 5 (r17.2.2.2.1.1.map zAG) true, .v (.bool r17.2.2.2.2.1), .own 5132, .own 5133, .own 5134, .own 5135]), (5131, .arr 43 7 (l13.map cOp)), (5135, .box 54 [pfx 2 (r17.2.2.2.2.2.1.1.map zAU) r17.2.2.2.2.2.1.2, .v (.int .i64 r17.2.2.2.2.2.2.1), .own 5136]), (5132, .arr 9 1 (r17.2.2.2.2.2.2.2.1.map cStr)), (5133, .arr 43 7 (r17.2.2.2.2.2.2.2.2.1.map cOp)), (5134, .arr 43 7 (r17.2.2.2.2.2.2.2.2.2.1.map cOp)), (5136, .arr 43 7 (r17.2.2.2.2.2.2.2.2.2.2.map cOp)), (4, .box 77 [.loc 13 0]), (3, .box 28 [.v (.int .i64 0)]), (2, .box 25 [.v (.slice none 0 0), .v (.slice none 0 0)])]) ?_ ⟨rfl, rfl, rfl, rfl, trivial⟩ ⟨rfl, rfl, rfl, rfl, rfl, rfl, rfl, rfl, rfl, rfl, rfl, trivial⟩ rfl
      refine zBS [0, 1, 3, 7, 15, 31, 63, 0, 128, 384, 896, 2047] mixed (by kernel_rfl) (by kernel_rfl) rfl rfl ?_
      refine vf [8, 9] [64] [] [4, 13] [4] [(32, .loc 13 0)] [(4, .box 77 [.loc 13 0])] ?_
      refine ve [64] [66] [13] [(33, .loc 13 0)] ?_
      refine ve [66] [68] [13] [(34, .loc 13 2)] ?_
      refine vf [27, 68] [70] [] [13, 5130, 5131] [13] [(35, .ela 5130 5 (r17.2.2.2.1.1.length) 3)] [(13, .box 80 [.own 5130, .own 5131, .ela 5130 5 (r17.2.2.2.1.1.length) 3, .v (.int .i64 r17.2.2.1)])] ?_
      refine ve [70] [72] [5130] [(36, .ela 5130 5 (r17.2.2.2.1.1.length) 3)] ?_
      refine zAX [72, 10261] [74] [] [5130, 5132, 5133, 5134, 5135] [5130] [(37, .own 5134)] [(5130, .box 51 [pfx 5 (r17.2.2.2.1.1.map zAG) true, .v (.bool r17.2.2.2.2.1), .own 5132, .own 5133, .own 5134, .own 5135])] rfl rfl rfl rfl (by kernel_rfl) (by kernel_rfl) (by kernel_rfl) ⟨rfl, trivial⟩ (fun w0 X X0 σ0 _ => by refine zBz (T := tab) (by simp) rfl rfl rfl rfl rfl rfl rfl rfl ?_; refine zAB ?_; exact zAw ⟨rfl, trivial⟩ ⟨rfl, trivial⟩ rfl) ?_
      refine zAX [74, 10269] [76] [] [5134] [5134] [(38, .v (.int .i64 ((r17.2.2.2.2.2.2.2.2.2.1.length : Nat) : Int)))] [(5134, .arr 43 7 (r17.2.2.2.2.2.2.2.2.2.1.map cOp))] rfl rfl rfl rfl (by kernel_rfl) (by kernel_rfl) (by kernel_rfl) ⟨rfl, trivial⟩ (fun w0 X X0 σ0 _ => by refine zCb (T := tab) cOp r17.2.2.2.2.2.2.2.2.2.1 rfl rfl rfl rfl rfl rfl rfl rfl rfl ?_; refine zAB ?_; exact zAw ⟨rfl, trivial⟩ ⟨rfl, trivial⟩ rfl) ?_
      refine vf [8, 9] [78] [] [4, 13] [4] [(39, .loc 13 0)] [(4, .box 77 [.loc 13 0])] ?_
      refine ve [78] [80] [13] [(40, .loc 13 0)] ?_
      refine ve [80] [82] [13] [(41, .loc 13 3)] ?_
      refine vf [27, 82] [84] [] [13, 5130, 5131] [13] [(42, .v (.int .i64 r17.2.2.1))] [(13, .box 80 [.own 5130, .own 5131, .ela 5130 5 (r17.2.2.2.1.1.length) 3, .v (.int .i64 r17.2.2.1)])] ?_
      refine ve [76, 84] [86] [] [(43, .v (.bool (((r17.2.2.2.2.2.2.2.2.2.1.length : Nat) : Int) == r17.2.2.1)))] ?_
      refine zB0 rfl rfl ?_
      refine zAA ?_
      refine zAP rfl ?_ ?_
      ·refine sr ?_
       refine zBI (T := tab) rfl rfl rfl rfl rfl rfl rfl ?_
       refine zAN (T := tab) rfl rfl rfl rfl rfl rfl rfl rfl rfl rfl rfl rfl ?_
       refine zAN (T := tab) rfl rfl rfl rfl rfl rfl rfl rfl rfl rfl rfl rfl ?_
       refine ns ?_
       refine zEK 2 [.sl 5 false ([].map zAG), .sl 7 false ([].map cOp)] rfl ⟨.nil, .nil, trivial⟩ rfl ?_
       exact zGv rfl ⟨rfl, rfl, trivial⟩ rfl
      ·refine zAF ?_
       refine zAA ?_
       refine sr ?_
       refine pe 1 ?_
       refine zAK (enc := fun (r20 : (Op × Int)) => .tup [.agg (cOp r20.1), .v (.int .i64 r20.2)]) (qs := [.v (.string ⟨⟨r16⟩⟩)]) (zFl fu r16) rfl rfl ⟨⟨_, rfl, .rfl⟩, trivial⟩ (fun _ => rfl) zML rfl rfl fun r20 hr20 => ?_
       refine pe 3 ?_
       refine zBJ (T := tab) 6 rfl rfl rfl rfl rfl rfl rfl rfl rfl ?_
       refine zAN (T := tab) rfl rfl rfl rfl rfl rfl rfl rfl rfl rfl rfl rfl ?_
       refine pe 1 ?_
       refine ns ?_
       refine zBA (E' := [(2, .loc 2 0), (3, .loc 3 0), (4, .loc 4 0), (6, .loc 6 0)]) (S' := [(6, .box 43 [.v (.int .i64 r20.1.Kind), .v (.int .i64 r20.1.A), .v (.int .i64 r20.1.B), .v (.int .i64 r20.1.C), .v (.string ⟨⟨r20.1.S⟩⟩), .v (.string ⟨⟨r20.1.T⟩⟩), .v (.bool r20.1.Must)]), (13, .box 80 [.own 5130, .own 5131, .ela 5130 5 (r17.2.2.2.1.1.length) 3, .v (.int .i64 r17.2.2.1)]), (5130, .box 51 [pfx 5 (r17.2.2.2.1.1.map zAG) true, .v (.bool r17.2.2.2.2.1), .own 5132, .own 5133, .own 5134, .own 5135]), (5131, .arr 43 7 (l13.map cOp)), (5135, .box 54 [pfx 2 (r17.2.2.2.2.2.1.1.map zAU) r17.2.2.2.2.2.1.2, .v (.int .i64 r17.2.2.2.2.2.2.1), .own 5136]), (5132, .arr 9 1 (r17.2.2.2.2.2.2.2.1.map cStr)), (5133, .arr 43 7 (r17.2.2.2.2.2.2.2.2.1.map cOp)), (5134, .arr 43 7 (r17.2.2.2.2.2.2.2.2.2.1.map cOp)), (5136, .arr 43 7 (r17.2.2.2.2.2.2.2.2.2.2.map cOp)), (4, .box 77 [.loc 13 0]), (3, .box 28 [.v (.int .i64 0)]), (2, .box 25 [.v (.slice none 0 0), .v (.slice none 0 0)])]) ?_ ⟨rfl, rfl, rfl, rfl, trivial⟩ ⟨rfl, rfl, rfl, rfl, rfl, rfl, rfl, rfl, rfl, rfl, rfl, rfl, trivial⟩ rfl
       refine zBS [0, 1, 3, 7, 0, 16, 48, 112, 240, 496, 0, 1024, 4080, 8191, 16383] mixed (by kernel_rfl) (by kernel_rfl) rfl rfl ?_
       refine vf [8, 9] [100] [] [4, 13] [4] [(50, .loc 13 0)] [(4, .box 77 [.loc 13 0])] ?_
       refine ve [100] [102] [13] [(51, .loc 13 0)] ?_
       refine ve [102] [104] [13] [(52, .loc 13 2)] ?_
       refine vf [27, 104] [106] [] [13, 5130, 5131] [13] [(53, .ela 5130 5 (r17.2.2.2.1.1.length) 3)] [(13, .box 80 [.own 5130, .own 5131, .ela 5130 5 (r17.2.2.2.1.1.length) 3, .v (.int .i64 r17.2.2.1)])] ?_
       refine vf [8, 9] [108] [] [4, 13] [4] [(54, .loc 13 0)] [(4, .box 77 [.loc 13 0])] ?_
       refine ve [108] [110] [13] [(55, .loc 13 0)] ?_
       refine ve [110] [112] [13] [(56, .loc 13 2)] ?_
       refine vf [27, 112] [114] [] [13, 5130, 5131] [13] [(57, .ela 5130 5 (r17.2.2.2.1.1.length) 3)] [(13, .box 80 [.own 5130, .own 5131, .ela 5130 5 (r17.2.2.2.1.1.length) 3, .v (.int .i64 r17.2.2.1)])] ?_
       refine ve [114] [116] [5130] [(58, .ela 5130 5 (r17.2.2.2.1.1.length) 3)] ?_
       refine zAX [116, 10261] [118] [] [5130, 5132, 5133, 5134, 5135] [5130] [(59, .own 5134)] [(5130, .box 51 [pfx 5 (r17.2.2.2.1.1.map zAG) true, .v (.bool r17.2.2.2.2.1), .own 5132, .own 5133, .own 5134, .own 5135])] rfl rfl rfl rfl (by kernel_rfl) (by kernel_rfl) (by kernel_rfl) ⟨rfl, trivial⟩ (fun w0 X X0 σ0 _ => by refine zBz (T := tab) (by simp) rfl rfl rfl rfl rfl rfl rfl rfl ?_; refine zAB ?_; exact zAw ⟨rfl, trivial⟩ ⟨rfl, trivial⟩ rfl) ?_
       refine vf [12, 13] [120] [] [6] [6] [(60, .agg (cOp r20.1))] [(6, .box 43 [.v (.int .i64 r20.1.Kind), .v (.int .i64 r20.1.A), .v (.int .i64 r20.1.B), .v (.int .i64 r20.1.C), .v (.string ⟨⟨r20.1.S⟩⟩), .v (.string ⟨⟨r20.1.T⟩⟩), .v (.bool r20.1.Must)])] ?_
       refine zAX [120] [122, 123] [61] [] [] [(61, .own 61)] [(61, .arr 43 7 ([r20.1].map cOp))] rfl rfl rfl rfl (by kernel_rfl) (by kernel_rfl) (by kernel_rfl) trivial (fun w0 X X0 σ0 _ => by refine zEJ (T := tab) (rows := [r20.1].map cOp) 61 rfl rfl rfl rfl rfl rfl rfl rfl rfl rfl rfl rfl rfl rfl ?_; refine zAB ?_; exact zAw ⟨rfl, trivial⟩ ⟨rfl, trivial⟩ rfl) ?_
       refine zAi (M := (zEc 72 (r17.2.2.2.2.2.2.2.2.2.1.length + ([r20.1] : List Op).length))) (ment := [(124, [5134]), (118, []), (10261, [5132, 5133, 5135]), (10269, [])]) [118, 122, 123, 10261, 10269] [124, 118, 10261, 10269] [5134] [61, 5130, 5132, 5133, 5135] [61] (fun _ => [(62, .own 5134)]) (fun _ => [(5130, .box 51 [pfx 5 (r17.2.2.2.1.1.map zAG) true, .v (.bool r17.2.2.2.2.1), .own 5132, .own 5133, .junk, .own 5135]), (5134, .arr 43 7 ((r17.2.2.2.2.2.2.2.2.2.1 ++ [r20.1]).map cOp)), (61, .arr 43 7 ([r20.1].map cOp))]) rfl rfl (fun _ => rfl) (fun _ => rfl) (by kernel_rfl) (by kernel_rfl) (fun _ => by kernel_rfl) (fun _ => ⟨rfl, trivial⟩) (fun w0 X X0 σ0 _ => by refine zEL (T := tab) cOp r17.2.2.2.2.2.2.2.2.2.1 ([r20.1] : List Op) rfl rfl rfl rfl rfl rfl rfl rfl rfl rfl rfl rfl rfl rfl (zJd _) rfl rfl rfl rfl rfl ?_; refine zAB ?_; exact zBn ⟨rfl, trivial⟩ ⟨rfl, rfl, rfl, trivial⟩ rfl) fun _ h0 => ?_
       refine ve [106] [126] [5130] [(63, .ela 5130 5 (r17.2.2.2.1.1.length) 3)] ?_
       refine zAX [124, 126, 10261, 10269] [10261] [] [5130, 5132, 5133, 5134, 5135] [5134] [] [(5130, .box 51 [pfx 5 (r17.2.2.2.1.1.map zAG) true, .v (.bool r17.2.2.2.2.1), .own 5132, .own 5133, .own 5134, .own 5135]), (5134, .arr 43 7 ((r17.2.2.2.2.2.2.2.2.2.1 ++ [r20.1]).map cOp))] rfl rfl rfl rfl (by kernel_rfl) (by kernel_rfl) (by kernel_rfl) ⟨rfl, trivial⟩ (fun w0 X X0 σ0 _ => by refine zDl (T := tab) (by simp) rfl rfl rfl rfl rfl rfl rfl rfl rfl rfl rfl rfl ?_; refine zAB ?_; exact zAw trivial ⟨rfl, rfl, trivial⟩ rfl) ?_
       refine zB0 rfl rfl ?_
       refine zAJ ?_
       refine zEZ 13 [.own 5130, .own 5131, .sel 2 [.loc 13 1, .ela 5130 5 (r17.2.2.2.1.1.length) 2, .ela 5130 5 (r17.2.2.2.1.1.length) 3, .ela 5135 2 (r17.2.2.2.2.2.1.1.length) 1], .v (.int .i64 r17.2.2.1)] rfl ⟨.rfl, .rfl, (.sel rfl rfl), .rfl, trivial⟩ rfl ?_
       exact zE2 (2, r17.2.2.1, (r17.2.2.2.1.1, true), r17.2.2.2.2.1, r17.2.2.2.2.2.2.2.1, r17.2.2.2.2.2.2.2.2.1, (r17.2.2.2.2.2.2.2.2.2.1 ++ [r20.1]), r17.2.2.2.2.2.1, r17.2.2.2.2.2.2.1, r17.2.2.2.2.2.2.2.2.2.2, l13) ⟨rfl, rfl, rfl, rfl, rfl, rfl, rfl, rfl, rfl, rfl, rfl, trivial⟩ rfl
     ·refine zHh (E' := [(2, .loc 2 0), (3, .loc 3 0), (4, .loc 4 0), (22, .v (.string ⟨⟨y14⟩⟩)), (5, .v (.string ⟨⟨r16⟩⟩)), (23, .v (.string ⟨⟨y14⟩⟩)), (24, .v (.string ⟨⟨r16⟩⟩)), (25, .v (.string ⟨⟨r16⟩⟩)), (26, .v (.bool (r16 == ([] : Bs)))), (27, .v (.bool false)), (28, .loc 13 0), (29, .v (.string ⟨⟨r16⟩⟩)), (30, .v (.bool r17.1)), (31, .v (.bool r17.1))]) (S' := [(13, .box 80 [.own 5130, .own 5131, .ela 5135 2 (r17.2.2.2.2.2.1.1.length) 1, .v (.int .i64 r17.2.2.1)]), (5130, .box 51 [pfx 5 (r17.2.2.2.1.1.map zAG) r17.2.2.2.1.2, .v (.bool r17.2.2.2.2.1), .own 5132, .own 5133, .own 5134, .own 5135]), (5131, .arr 43 7 (l13.map cOp)), (5135, .box 54 [pfx 2 (r17.2.2.2.2.2.1.1.map zAU) r17.2.2.2.2.2.1.2, .v (.int .i64 r17.2.2.2.2.2.2.1), .own 5136]), (5132, .arr 9 1 (r17.2.2.2.2.2.2.2.1.map cStr)), (5133, .arr 43 7 (r17.2.2.2.2.2.2.2.2.1.map cOp)), (5134, .arr 43 7 (r17.2.2.2.2.2.2.2.2.2.1.map cOp)), (5136, .arr 43 7 (r17.2.2.2.2.2.2.2.2.2.2.map cOp)), (4, .box 77 [.loc 13 0]), (3, .box 28 [.v (.int .i64 0)]), (2, .box 25 [.v (.slice none 0 0), .v (.slice none 0 0)])]) rfl rfl ?_
      refine zBA (E' := [(2, .loc 2 0), (3, .loc 3 0), (4, .loc 4 0), (22, .v (.string ⟨⟨y14⟩⟩)), (5, .v (.string ⟨⟨r16⟩⟩)), (23, .v (.string ⟨⟨y14⟩⟩)), (24, .v (.string ⟨⟨r16⟩⟩)), (25, .v (.string ⟨⟨r16⟩⟩)), (26, .v (.bool (r16 == ([] : Bs)))), (27, .v (.bool false)), (28, .loc 13 0), (29, .v (.string ⟨⟨r16⟩⟩)), (30, .v (.bool r17.1)), (31, .v (.bool r17.1))]) (S' := [(13, .box 80 [.own 5130, .own 5131, .ela 5135 2 (r17.2.2.2.2.2.1.1.length) 1, .v (.int .i64 r17.2.2.1)]), (5130, .box 51 [pfx 5 (r17.2.2.2.1.1.map zAG) r17.2.2.2.1.2, .v (.bool r17.2.2.2.2.1), .own 5132, .own 5133, .own 5134, .own 5135]), (5131, .arr 43 7 (l13.map cOp)), (5135, .box 54 [pfx 2 (r17.2.2.2.2.2.1.1.map zAU) r17.2.2.2.2.2.1.2, .v (.int .i64 r17.2.2.2.2.2.2.1), .own 5136]), (5132, .arr 9 1 (r17.2.2.2.2.2.2.2.1.map cStr)), (5133, .arr 43 7 (r17.2.2.2.2.2.2.2.2.1.map cOp)), (5134, .arr 43 7 (r17.2.2.2.2.2.2.2.2.2.1.map cOp)), (5136, .arr 43 7 (r17.2.2.2.2.2.2.2.2.2.2.map cOp)), (4, .box 77 [.loc 13 0]), (3, .box 28 [.v (.int .i64 0)]), (2, .box 25 [.v (.slice none 0 0), .v (.slice none 0 0)])]) ?_ ⟨rfl, rfl, rfl, rfl, rfl, rfl, rfl, rfl, rfl, rfl, rfl, rfl, rfl, rfl, trivial⟩ ⟨rfl, rfl, rfl, rfl, rfl, rfl, rfl, rfl, rfl, rfl, rfl, trivial⟩ rfl
      refine zMO (fun b_ => [(2, .loc 2 0), (3, .loc 3 0), (4, .loc 4 0), (22, .v (.string ⟨⟨y14⟩⟩)), (5, .v (.string ⟨⟨r16⟩⟩)), (23, .v (.string ⟨⟨y14⟩⟩)), (24, .v (.string ⟨⟨r16⟩⟩)), (25, .v (.string ⟨⟨r16⟩⟩)), (26, .v (.bool (r16 == ([] : Bs)))), (27, .v (.bool false)), (28, .loc 13 0), (29, .v (.string ⟨⟨r16⟩⟩)), (30, .v (.bool r17.1)), (31, .v (.bool r17.1))]) (fun b_ => [(13, .box 80 [.own 5130, .own 5131, .ela 5135 2 (r17.2.2.2.2.2.1.1.length) 1, .v (.int .i64 r17.2.2.1)]), (5130, .box 51 [pfx 5 (r17.2.2.2.1.1.map zAG) r17.2.2.2.1.2, .v (.bool r17.2.2.2.2.1), .own 5132, .own 5133, .own 5134, .own 5135]), (5131, .arr 43 7 (l13.map cOp)), (5135, .box 54 [pfx 2 (r17.2.2.2.2.2.1.1.map zAU) b_, .v (.int .i64 r17.2.2.2.2.2.2.1), .own 5136]), (5132, .arr 9 1 (r17.2.2.2.2.2.2.2.1.map cStr)), (5133, .arr 43 7 (r17.2.2.2.2.2.2.2.2.1.map cOp)), (5134, .arr 43 7 (r17.2.2.2.2.2.2.2.2.2.1.map cOp)), (5136, .arr 43 7 (r17.2.2.2.2.2.2.2.2.2.2.map cOp)), (4, .box 77 [.loc 13 0]), (3, .box 28 [.v (.int .i64 0)]), (2, .box 25 [.v (.slice none 0 0), .v (.slice none 0 0)])]) r17.2.2.2.2.2.1.2 ?_
      refine zBA (E' := [(2, .loc 2 0), (3, .loc 3 0), (4, .loc 4 0), (5, .v (.string ⟨⟨r16⟩⟩))]) (S' := [(13, .box 80 [.own 5130, .own 5131, .ela 5135 2 (r17.2.2.2.2.2.1.1.length) 1, .v (.int .i64 r17.2.2.1)]), (5130, .box 51 [pfx 5 (r17.2.2.2.1.1.map zAG) r17.2.2.2.1.2, .v (.bool r17.2.2.2.2.1), .own 5132, .own 5133, .own 5134, .own 5135]), (5131, .arr 43 7 (l13.map cOp)), (5135, .box 54 [pfx 2 (r17.2.2.2.2.2.1.1.map zAU) true, .v (.int .i64 r17.2.2.2.2.2.2.1), .own 5136]), (5132, .arr 9 1 (r17.2.2.2.2.2.2.2.1.map cStr)), (5133, .arr 43 7 (r17.2.2.2.2.2.2.2.2.1.map cOp)), (5134, .arr 43 7 (r17.2.2.2.2.2.2.2.2.2.1.map cOp)), (5136, .arr 43 7 (r17.2.2.2.2.2.2.2.2.2.2.map cOp)), (4, .box 77 [.loc 13 0]), (3, .box 28 [.v (.int .i64 0)]), (2, .box 25 [.v (.slice none 0 0), .v (.slice none 0 0)])]) ?_ ⟨rfl, rfl, rfl, rfl, trivial⟩ ⟨rfl, rfl, rfl, rfl, rfl, rfl, rfl, rfl, rfl, rfl, rfl, trivial⟩ rfl
      refine zBS [0, 1, 3, 7, 15, 31, 63, 0, 128, 384, 896, 2047] mixed (by kernel_rfl) (by kernel_rfl) rfl rfl ?_
      refine vf [8, 9] [64] [] [4, 13] [4] [(32, .loc 13 0)] [(4, .box 77 [.loc 13 0])] ?_
      refine ve [64] [66] [13] [(33, .loc 13 0)] ?_
      refine ve [66] [68] [13] [(34, .loc 13 2)] ?_
      refine vf [27, 68] [70] [] [13, 5130, 5131, 5135] [13] [(35, .ela 5135 2 (r17.2.2.2.2.2.1.1.length) 1)] [(13, .box 80 [.own 5130, .own 5131, .ela 5135 2 (r17.2.2.2.2.2.1.1.length) 1, .v (.int .i64 r17.2.2.1)])] ?_
      refine ve [70] [72] [5135] [(36, .ela 5135 2 (r17.2.2.2.2.2.1.1.length) 1)] ?_
      refine zAX [72, 10271] [74] [] [5135, 5136] [5135] [(37, .own 5136)] [(5135, .box 54 [pfx 2 (r17.2.2.2.2.2.1.1.map zAU) true, .v (.int .i64 r17.2.2.2.2.2.2.1), .own 5136])] rfl rfl rfl rfl (by kernel_rfl) (by kernel_rfl) (by kernel_rfl) ⟨rfl, trivial⟩ (fun w0 X X0 σ0 _ => by refine zBz (T := tab) (by simp) rfl rfl rfl rfl rfl rfl rfl rfl ?_; refine zAB ?_; exact zAw ⟨rfl, trivial⟩ ⟨rfl, trivial⟩ rfl) ?_
      refine zAX [74, 10273] [76] [] [5136] [5136] [(38, .v (.int .i64 ((r17.2.2.2.2.2.2.2.2.2.2.length : Nat) : Int)))] [(5136, .arr 43 7 (r17.2.2.2.2.2.2.2.2.2.2.map cOp))] rfl rfl rfl rfl (by kernel_rfl) (by kernel_rfl) (by kernel_rfl) ⟨rfl, trivial⟩ (fun w0 X X0 σ0 _ => by refine zCb (T := tab) cOp r17.2.2.2.2.2.2.2.2.2.2 rfl rfl rfl rfl rfl rfl rfl rfl rfl ?_; refine zAB ?_; exact zAw ⟨rfl, trivial⟩ ⟨rfl, trivial⟩ rfl) ?_
      refine vf [8, 9] [78] [] [4, 13] [4] [(39, .loc 13 0)] [(4, .box 77 [.loc 13 0])] ?_
      refine ve [78] [80] [13] [(40, .loc 13 0)] ?_
      refine ve [80] [82] [13] [(41, .loc 13 3)] ?_
      refine vf [27, 82] [84] [] [13, 5130, 5131, 5135] [13] [(42, .v (.int .i64 r17.2.2.1))] [(13, .box 80 [.own 5130, .own 5131, .ela 5135 2 (r17.2.2.2.2.2.1.1.length) 1, .v (.int .i64 r17.2.2.1)])] ?_
      refine ve [76, 84] [86] [] [(43, .v (.bool (((r17.2.2.2.2.2.2.2.2.2.2.length : Nat) : Int) == r17.2.2.1)))] ?_
      refine zB0 rfl rfl ?_
      refine zAA ?_
      refine zAP rfl ?_ ?_
      ·refine sr ?_
       refine zBI (T := tab) rfl rfl rfl rfl rfl rfl rfl ?_
       refine zAN (T := tab) rfl rfl rfl rfl rfl rfl rfl rfl rfl rfl rfl rfl ?_
       refine zAN (T := tab) rfl rfl rfl rfl rfl rfl rfl rfl rfl rfl rfl rfl ?_
       refine ns ?_
       refine zEK 2 [.sl 5 false ([].map zAG), .sl 7 false ([].map cOp)] rfl ⟨.nil, .nil, trivial⟩ rfl ?_
       exact zGv rfl ⟨rfl, rfl, trivial⟩ rfl
      ·refine zAF ?_
       refine zAA ?_
       refine sr ?_
       refine pe 1 ?_
       refine zAK (enc := fun (r21 : (Op × Int)) => .tup [.agg (cOp r21.1), .v (.int .i64 r21.2)]) (qs := [.v (.string ⟨⟨r16⟩⟩)]) (zFl fu r16) rfl rfl ⟨⟨_, rfl, .rfl⟩, trivial⟩ (fun _ => rfl) zML rfl rfl fun r21 hr21 => ?_
       refine pe 3 ?_
       refine zBJ (T := tab) 6 rfl rfl rfl rfl rfl rfl rfl rfl rfl ?_
       refine zAN (T := tab) rfl rfl rfl rfl rfl rfl rfl rfl rfl rfl rfl rfl ?_
       refine pe 1 ?_
       refine ns ?_
       refine zBA (E' := [(2, .loc 2 0), (3, .loc 3 0), (4, .loc 4 0), (6, .loc 6 0)]) (S' := [(6, .box 43 [.v (.int .i64 r21.1.Kind), .v (.int .i64 r21.1.A), .v (.int .i64 r21.1.B), .v (.int .i64 r21.1.C), .v (.string ⟨⟨r21.1.S⟩⟩), .v (.string ⟨⟨r21.1.T⟩⟩), .v (.bool r21.1.Must)]), (13, .box 80 [.own 5130, .own 5131, .ela 5135 2 (r17.2.2.2.2.2.1.1.length) 1, .v (.int .i64 r17.2.2.1)]), (5130, .box 51 [pfx 5 (r17.2.2.2.1.1.map zAG) r17.2.2.2.1.2, .v (.bool r17.2.2.2.2.1), .own 5132, .own 5133, .own 5134, .own 5135]), (5131, .arr 43 7 (l13.map cOp)), (5135, .box 54 [pfx 2 (r17.2.2.2.2.2.1.1.map zAU) true, .v (.int .i64 r17.2.2.2.2.2.2.1), .own 5136]), (5132, .arr 9 1 (r17.2.2.2.2.2.2.2.1.map cStr)), (5133, .arr 43 7 (r17.2.2.2.2.2.2.2.2.1.map cOp)), (5134, .arr 43 7 (r17.2.2.2.2.2.2.2.2.2.1.map cOp)), (5136, .arr 43 7 (r17.2.2.2.2.2.2.2.2.2.2.map cOp)), (4, .box 77 [.loc 13 0]), (3, .box 28 [.v (.int .i64 0)]), (2, .box 25 [.v (.slice none 0 0), .v (.slice none 0 0)])]) ?_ ⟨rfl, rfl, rfl, rfl, trivial⟩ ⟨rfl, rfl, rfl, rfl, rfl, rfl, rfl, rfl, rfl, rfl, rfl, rfl, trivial⟩ rfl
       refine zBS [0, 1, 3, 7, 0, 16, 48, 112, 240, 496, 0, 1024, 4080, 8191, 16383] mixed (by kernel_rfl) (by kernel_rfl) rfl rfl ?_
       refine vf [8, 9] [100] [] [4, 13] [4] [(50, .loc 13 0)] [(4, .box 77 [.loc 13 0])] ?_
       refine ve [100] [102] [13] [(51, .loc 13 0)] ?_
       refine ve [102] [104] [13] [(52, .loc 13 2)] ?_
       refine vf [27, 104] [106] [] [13, 5130, 5131, 5135] [13] [(53, .ela 5135 2 (r17.2.2.2.2.2.1.1.length) 1)] [(13, .box 80 [.own 5130, .own 5131, .ela 5135 2 (r17.2.2.2.2.2.1.1.length) 1, .v (.int .i64 r17.2.2.1)])] ?_
       refine vf [8, 9] [108] [] [4, 13] [4] [(54, .loc 13 0)] [(4, .box 77 [.loc 13 0])] ?_
       refine ve [108] [110] [13] [(55, .loc 13 0)] ?_
       refine ve [110] [112] [13] [(56, .loc 13 2)] ?_
       refine vf [27, 112] [114] [] [13, 5130, 5131, 5135] [13] [(57, .ela 5135 2 (r17.2.2.2.2.2.1.1.length) 1)] [(13, .box 80 [.own 5130, .own 5131, .ela 5135 2 (r17.2.2.2.2.2.1.1.length) 1, .v (.int .i64 r17.2.2.1)])] ?_
       refine ve [114] [116] [5135] [(58, .ela 5135 2 (r17.2.2.2.2.2.1.1.length) 1)] ?_
       refine zAX [116, 10271] [118] [] [5135, 5136] [5135] [(59, .own 5136)] [(5135, .box 54 [pfx 2 (r17.2.2.2.2.2.1.1.map zAU) true, .v (.int .i64 r17.2.2.2.2.2.2.1), .own 5136])] rfl rfl rfl rfl (by kernel_rfl) (by kernel_rfl) (by kernel_rfl) ⟨rfl, trivial⟩ (fun w0 X X0 σ0 _ => by refine zBz (T := tab) (by simp) rfl rfl rfl rfl rfl rfl rfl rfl ?_; refine zAB ?_; exact zAw ⟨rfl, trivial⟩ ⟨rfl, trivial⟩ rfl) ?_
       refine vf [12, 13] [120] [] [6] [6] [(60, .agg (cOp r21.1))] [(6, .box 43 [.v (.int .i64 r21.1.Kind), .v (.int .i64 r21.1.A), .v (.int .i64 r21.1.B), .v (.int .i64 r21.1.C), .v (.string ⟨⟨r21.1.S⟩⟩), .v (.string ⟨⟨r21.1.T⟩⟩), .v (.bool r21.1.Must)])] ?_
       refine zAX [120] [122, 123] [61] [] [] [(61, .own 61)] [(61, .arr 43 7 ([r21.1].map cOp))] rfl rfl rfl rfl (by kernel_rfl) (by kernel_rfl) (by kernel_rfl) trivial (fun w0 X X0 σ0 _ => by refine zEJ (T := tab) (rows := [r21.1].map cOp) 61 rfl rfl rfl rfl rfl rfl rfl rfl rfl rfl rfl rfl rfl rfl ?_; refine zAB ?_; exact zAw ⟨rfl, trivial⟩ ⟨rfl, trivial⟩ rfl) ?_
       refine zAi (M := (zEc 72 (r17.2.2.2.2.2.2.2.2.2.2.length + ([r21.1] : List Op).length))) (ment := [(124, [5136]), (118, []), (10271, []), (10273, [])]) [118, 122, 123, 10271, 10273] [124, 118, 10271, 10273] [5136] [61, 5135] [61] (fun _ => [(62, .own 5136)]) (fun _ => [(5135, .box 54 [pfx 2 (r17.2.2.2.2.2.1.1.map zAU) true, .v (.int .i64 r17.2.2.2.2.2.2.1), .junk]), (5136, .arr 43 7 ((r17.2.2.2.2.2.2.2.2.2.2 ++ [r21.1]).map cOp)), (61, .arr 43 7 ([r21.1].map cOp))]) rfl rfl (fun _ => rfl) (fun _ => rfl) (by kernel_rfl) (by kernel_rfl) (fun _ => by kernel_rfl) (fun _ => ⟨rfl, trivial⟩) (fun w0 X X0 σ0 _ => by refine zEL (T := tab) cOp r17.2.2.2.2.2.2.2.2.2.2 ([r21.1] : List Op) rfl rfl rfl rfl rfl rfl rfl rfl rfl rfl rfl rfl rfl rfl (zJd _) rfl rfl rfl rfl rfl ?_; refine zAB ?_; exact zBn ⟨rfl, trivial⟩ ⟨rfl, rfl, rfl, trivial⟩ rfl) fun _ h0 => ?_
       refine ve [106] [126] [5135] [(63, .ela 5135 2 (r17.2.2.2.2.2.1.1.length) 1)] ?_
       refine zAX [124, 126, 10271, 10273] [10271] [] [5135, 5136] [5136] [] [(5135, .box 54 [pfx 2 (r17.2.2.2.2.2.1.1.map zAU) true, .v (.int .i64 r17.2.2.2.2.2.2.1), .own 5136]), (5136, .arr 43 7 ((r17.2.2.2.2.2.2.2.2.2.2 ++ [r21.1]).map cOp))] rfl rfl rfl rfl (by kernel_rfl) (by kernel_rfl) (by kernel_rfl) ⟨rfl, trivial⟩ (fun w0 X X0 σ0 _ => by refine zDl (T := tab) (by simp) rfl rfl rfl rfl rfl rfl rfl rfl rfl rfl rfl rfl ?_; refine zAB ?_; exact zAw trivial ⟨rfl, rfl, trivial⟩ rfl) ?_
       refine zB0 rfl rfl ?_
       refine zAJ ?_
       refine zEZ 13 [.own 5130, .own 5131, .sel 3 [.loc 13 1, .ela 5130 5 (r17.2.2.2.1.1.length) 2, .ela 5130 5 (r17.2.2.2.1.1.length) 3, .ela 5135 2 (r17.2.2.2.2.2.1.1.length) 1], .v (.int .i64 r17.2.2.1)] rfl ⟨.rfl, .rfl, (.sel rfl rfl), .rfl, trivial⟩ rfl ?_
       exact zE2 (3, r17.2.2.1, r17.2.2.2.1, r17.2.2.2.2.1, r17.2.2.2.2.2.2.2.1, r17.2.2.2.2.2.2.2.2.1, r17.2.2.2.2.2.2.2.2.2.1, (r17.2.2.2.2.2.1.1, true), r17.2.2.2.2.2.2.1, (r17.2.2.2.2.2.2.2.2.2.2 ++ [r21.1]), l13) ⟨rfl, rfl, rfl, rfl, rfl, rfl, rfl, rfl, rfl, rfl, rfl, trivial⟩ rfl
  ·rintro ⟨k3, c4, c5, c6, l7, l8, l9, c10, c11, l12, l13⟩
   refine zAJ ?_
   refine zAA ?_
   refine sr ?_
   refine pe 4 ?_
   refine zAN (T := tab) rfl rfl rfl rfl rfl rfl rfl rfl rfl rfl rfl rfl ?_
   refine zAN (T := tab) rfl rfl rfl rfl rfl rfl rfl rfl rfl rfl rfl rfl ?_
   refine ns ?_
   refine zEM 5132 rfl rfl rfl ?_; refine zEM 5133 rfl rfl rfl ?_; refine zEM 5134 rfl rfl rfl ?_; refine zEM 5136 rfl rfl rfl ?_; refine zRH 5135 zAU c10.1 (⟨c11, l12⟩ : Hook) rfl rfl rfl rfl ?_; refine zEM 5135 rfl rfl rfl ?_; refine zRH 5130 zAG c5.1 (⟨c6, l7, l8, l9, (c10.1 ++ if c10.2 then [(⟨c11, l12⟩ : Hook)] else [])⟩ : Class) rfl rfl rfl rfl ?_; refine zEM 5130 rfl rfl rfl ?_
   refine zEM 5131 rfl rfl rfl ?_
   exact rN
  ·exact fun r => zKp (T := tab) rfl rfl rfl ⟨rfl, rfl⟩ trivial rfl
def zCh (fu : Nat) (o1 : Op) : Option Bool := cnd (!(eqOp o1 (⟨0, 0, 0, 0, [], [], false⟩ : Op))) (bnd (zD8 fu o1) fun r2 => some (!r2)) (some false)
set_option maxRecDepth 100000 in
theorem zJT (fu : Nat) (o1 : Op) : ∀ r, zCh fu o1 = some r → DC zAb Tryz.prog 33 [.agg (cOp o1)] (.v (.bool r)) := by
 intro r hr
 refine zAL (r := r)  (args := [.agg (cOp o1)]) (S := []) (N0 := []) (post := fun r p S => p = .v (.bool r) ∧ S = []) Tryz.func33 rfl rfl hr fun w0 X X0 σ0 _ => ?_
 refine sr ?_
 refine zDo  1 rfl rfl rfl rfl rfl rfl rfl rfl rfl rfl ?_
 refine pe 1 ?_
 refine ns ?_
 refine sr ?_
 refine pe 1 ?_
 refine zBI (T := tab) rfl rfl rfl rfl rfl rfl rfl ?_
 refine po_ne zOP rfl rfl rfl rfl rfl rfl rfl ?_
 refine pe 1 ?_
 refine zAO (j := 6) rfl ?_ ?_
 ·refine pe 1 ?_
  refine zAK (enc := fun (r2 : Bool) => .v (.bool r2)) (qs := [.agg (cOp o1)]) (zH9 fu o1) rfl rfl ⟨⟨_, rfl, .rfl⟩, trivial⟩ (fun _ => rfl) zRB rfl rfl fun r2 hr2 => ?_
  refine pe 3 ?_
  refine ns ?_
  exact rN
 ·refine pe 5 ?_
  refine ns ?_
  exact rN
def zAy (t1 : Op → Option Bool) (s1 : (List Op)) : Nat → Int → Option Int
 | 0, _ => none
 | k1 + 1, t2 => cnd (decide (t2 < ((s1.length : Nat) : Int))) (bnd (idx s1 t2) fun y3 => bnd (t1 y3) fun r4 => cnd r4 (some t2) (bnd (rng .i64 (t2 + 1)) fun i5 => (zAy t1 s1 k1) i5)) (some (-1))
def zCR (fu : Nat) (t1 : Op → Option Bool) (s1 : (List Op)) : Option Int := (zAy t1 s1) fu 0
set_option maxHeartbeats 10000000 in
set_option maxRecDepth 100000 in
theorem zEY (fu : Nat) (s1 : (List Op)) : ∀ r, zCR fu (fun (z1 : Op) => zCh fu z1) s1 = some r → DC zAb Tryz.prog 69 [.sl 7 false (s1.map cOp), .fn (.func 33) [] []] (.v (.int .i64 r)) := by
 intro r hr
 refine zAL (r := r)  (args := [.sl 7 false (s1.map cOp), .fn (.func 33) [] []]) (S := []) (N0 := []) (post := fun r p S => p = .v (.int .i64 r) ∧ S = []) Tryz.func69 rfl rfl hr fun w0 X X0 σ0 _ => ?_
 refine sr ?_
 refine pe 1 ?_
 refine ns ?_
 refine zAE ?_
 refine sr ?_
 refine pe 1 ?_
 refine zA9 (T := tab) cOp s1 rfl rfl rfl rfl rfl rfl rfl rfl ?_
 refine pe 1 ?_
 refine ns ?_
 refine zAM ?_
 refine zBe (zAy (fun (z1 : Op) => zCh fu z1) s1) (fun (t2 : Int) => [(0, .sl 7 false (s1.map cOp)), (1, .fn (.func 33) [] []), (7, .v (.int .i64 ((s1.length : Nat) : Int))), (8, .v (.int .i64 t2))]) (fun (t2 : Int) => []) fu 0 (fun _ => rfl) ⟨rfl, rfl, rfl, rfl, trivial⟩ trivial rfl ?_
 rintro k1 t2
 refine sr ?_
 refine pe 1 ?_
 refine ns ?_
 refine zAE ?_
 refine zAP rfl ?_ ?_
 ·refine zAF ?_
  refine zAA ?_
  refine zAE ?_
  refine zAM ?_
  refine sr ?_
  refine pe 2 ?_
  refine ns ?_
  refine sr ?_
  refine pe 3 ?_
  refine zCe (T := tab) cOp s1 rfl rfl rfl rfl rfl rfl rfl fun y3 hy3 => ?_
  refine pe 1 ?_
  refine zDh (enc := fun (r4 : Bool) => .v (.bool r4)) (first := []) (cap := []) (qs := [.agg (cOp y3)]) (Sc := []) (zJT fu y3) (zBp trivial rfl) rfl rfl rfl rfl ⟨⟨_, rfl, .rfl⟩, trivial⟩ (fun _ => rfl) call33 rfl rfl fun r4 hr4 => ?_
  refine ns ?_
  refine zAP rfl ?_ ?_
  ·refine sr ?_
   refine pe 2 ?_
   refine ns ?_
   exact rN
  ·refine zAF ?_
   refine zAJ ?_
   refine zAA ?_
   refine zAD ?_
   refine zAS (T := tab) rfl rfl rfl rfl fun i5 hi5 => ?_
   refine pe 1 ?_
   refine zAB ?_
   exact zBG i5 ⟨rfl, rfl, rfl, rfl, trivial⟩ trivial rfl
 ·refine zAl rfl ?_
  refine zAA ?_
  refine sr ?_
  refine pe 1 ?_
  refine ns ?_
  exact rN
def zBa (fu : Nat) (t1 : Op → Option Bool) (s1 : (List Op)) : Option Bool := bnd (zCR fu t1 s1) fun r2 => some (decide (r2 ≥ 0))
set_option maxRecDepth 100000 in
theorem zD7 (fu : Nat) (s1 : (List Op)) : ∀ r, zBa fu (fun (z1 : Op) => zCh fu z1) s1 = some r → DC zAb Tryz.prog 32 [.sl 7 false (s1.map cOp), .fn (.func 33) [] []] (.v (.bool r)) := by
 intro r hr
 refine zAL (r := r)  (args := [.sl 7 false (s1.map cOp), .fn (.func 33) [] []]) (S := []) (N0 := []) (post := fun r p S => p = .v (.bool r) ∧ S = []) Tryz.func32 rfl rfl hr fun w0 X X0 σ0 _ => ?_
 refine sr ?_
 refine pe 1 ?_
 refine ns ?_
 refine sr ?_
 refine pe 2 ?_
 refine zAK (enc := fun (r2 : Int) => .v (.int .i64 r2)) (qs := [.sl 7 false (s1.map cOp), .fn (.func 33) [] []]) (zEY fu s1) rfl rfl ⟨⟨_, rfl, .rfl⟩, ⟨_, rfl, .rfl⟩, trivial⟩ (fun _ => rfl) call69 rfl rfl fun r2 hr2 => ?_
 refine pe 2 ?_
 refine ns ?_
 exact rN
def zBj (fu : Nat) (s1 : Bs) : Option Bool := bnd (zEp fu s1) fun r2 => cnd (r2.2 != 0) (some true) (some (!(r2.1 == s1)))
set_option maxRecDepth 100000 in
theorem zGg (fu : Nat) (s1 : Bs) : ∀ r, zBj fu s1 = some r → DC zAb Tryz.prog 56 [.v (.string ⟨⟨s1⟩⟩)] (.v (.bool r)) := by
 intro r hr
 refine zAL (r := r)  (args := [.v (.string ⟨⟨s1⟩⟩)]) (S := []) (N0 := []) (post := fun r p S => p = .v (.bool r) ∧ S = []) Tryz.func56 rfl rfl hr fun w0 X X0 σ0 _ => ?_
 refine sr ?_
 refine pe 1 ?_
 refine ns ?_
 refine sr ?_
 refine pe 1 ?_
 refine zAK (enc := fun (r2 : (Bs × Int)) => .tup [.v (.string ⟨⟨r2.1⟩⟩), .v (.int .i64 r2.2)]) (qs := [.v (.string ⟨⟨s1⟩⟩)]) (zHs fu s1) rfl rfl ⟨⟨_, rfl, .rfl⟩, trivial⟩ (fun _ => rfl) zQ7 rfl rfl fun r2 hr2 => ?_
 refine pe 5 ?_
 refine ns ?_
 refine sr ?_
 refine pe 3 ?_
 refine zAO (j := 12) rfl ?_ ?_
 ·refine pe 5 ?_
  refine ns ?_
  exact rN
 ·refine pe 5 ?_
  refine ns ?_
  exact rN
def zAv (t1 : Bs → Option Bool) (s1 : (List Bs)) : Nat → Int → Option Int
 | 0, _ => none
 | k1 + 1, t2 => cnd (decide (t2 < ((s1.length : Nat) : Int))) (bnd (idx s1 t2) fun y3 => bnd (t1 y3) fun r4 => cnd r4 (some t2) (bnd (rng .i64 (t2 + 1)) fun i5 => (zAv t1 s1 k1) i5)) (some (-1))
def zCN (fu : Nat) (t1 : Bs → Option Bool) (s1 : (List Bs)) : Option Int := (zAv t1 s1) fu 0
set_option maxHeartbeats 10000000 in
set_option maxRecDepth 100000 in
theorem zEO (fu : Nat) (s1 : (List Bs)) : ∀ r, zCN fu (fun (z1 : Bs) => zBj fu z1) s1 = some r → DC zAb Tryz.prog 94 [.sl 1 false (s1.map cStr), .fn (.func 56) [] []] (.v (.int .i64 r)) := by
 intro r hr
 refine zAL (r := r)  (args := [.sl 1 false (s1.map cStr), .fn (.func 56) [] []]) (S := []) (N0 := []) (post := fun r p S => p = .v (.int .i64 r) ∧ S = []) Tryz.func94 rfl rfl hr fun w0 X X0 σ0 _ => ?_
 refine sr ?_
 refine pe 1 ?_
 refine ns ?_
 refine zAE ?_
 refine sr ?_
 refine pe 1 ?_
 refine zA9 (T := tab) cStr s1 rfl rfl rfl rfl rfl rfl rfl rfl ?_
 refine pe 1 ?_
 refine ns ?_
 refine zAM ?_
 refine zBe (zAv (fun (z1 : Bs) => zBj fu z1) s1) (fun (t2 : Int) => [(0, .sl 1 false (s1.map cStr)), (1, .fn (.func 56) [] []), (7, .v (.int .i64 ((s1.length : Nat) : Int))), (8, .v (.int .i64 t2))]) (fun (t2 : Int) => []) fu 0 (fun _ => rfl) ⟨rfl, rfl, rfl, rfl, trivial⟩ trivial rfl ?_
 rintro k1 t2
 refine sr ?_
 refine pe 1 ?_
 refine ns ?_
 refine zAE ?_
 refine zAP rfl ?_ ?_
 ·refine zAF ?_
  refine zAA ?_
  refine zAE ?_
  refine zAM ?_
  refine sr ?_
  refine pe 2 ?_
  refine ns ?_
  refine sr ?_
  refine pe 3 ?_
  refine zCe (T := tab) cStr s1 rfl rfl rfl rfl rfl rfl rfl fun y3 hy3 => ?_
  refine pe 1 ?_
  refine zDh (enc := fun (r4 : Bool) => .v (.bool r4)) (first := []) (cap := []) (qs := [.v (.string ⟨⟨y3⟩⟩)]) (Sc := []) (zGg fu y3) (zBp trivial rfl) rfl rfl rfl rfl ⟨⟨_, rfl, .rfl⟩, trivial⟩ (fun _ => rfl) call56 rfl rfl fun r4 hr4 => ?_
  refine ns ?_
  refine zAP rfl ?_ ?_
  ·refine sr ?_
   refine pe 2 ?_
   refine ns ?_
   exact rN
  ·refine zAF ?_
   refine zAJ ?_
   refine zAA ?_
   refine zAD ?_
   refine zAS (T := tab) rfl rfl rfl rfl fun i5 hi5 => ?_
   refine pe 1 ?_
   refine zAB ?_
   exact zBG i5 ⟨rfl, rfl, rfl, rfl, trivial⟩ trivial rfl
 ·refine zAl rfl ?_
  refine zAA ?_
  refine sr ?_
  refine pe 1 ?_
  refine ns ?_
  exact rN
def zBV (fu : Nat) (t1 : Bs → Option Bool) (s1 : (List Bs)) : Option Bool := bnd (zCN fu t1 s1) fun r2 => some (decide (r2 ≥ 0))
set_option maxRecDepth 100000 in
theorem zDu (fu : Nat) (s1 : (List Bs)) : ∀ r, zBV fu (fun (z1 : Bs) => zBj fu z1) s1 = some r → DC zAb Tryz.prog 60 [.sl 1 false (s1.map cStr), .fn (.func 56) [] []] (.v (.bool r)) := by
 intro r hr
 refine zAL (r := r)  (args := [.sl 1 false (s1.map cStr), .fn (.func 56) [] []]) (S := []) (N0 := []) (post := fun r p S => p = .v (.bool r) ∧ S = []) Tryz.func60 rfl rfl hr fun w0 X X0 σ0 _ => ?_
 refine sr ?_
 refine pe 1 ?_
 refine ns ?_
 refine sr ?_
 refine pe 2 ?_
 refine zAK (enc := fun (r2 : Int) => .v (.int .i64 r2)) (qs := [.sl 1 false (s1.map cStr), .fn (.func 56) [] []]) (zEO fu s1) rfl rfl ⟨⟨_, rfl, .rfl⟩, ⟨_, rfl, .rfl⟩, trivial⟩ (fun _ => rfl) call94 rfl rfl fun r2 hr2 => ?_
 refine pe 2 ?_
 refine ns ?_
 exact rN
def zDq (_fu : Nat) (l1 : (List Op)) : Option Bool := some (decide (((l1.length : Nat) : Int) > 60))
set_option maxRecDepth 100000 in
theorem zFB (fu : Nat) (l1 : (List Op)) : ∀ r, zDq fu l1 = some r → DC zAb Tryz.prog 59 [.sl 7 false (l1.map cOp)] (.v (.bool r)) := by
 intro r hr
 refine zAL (r := r)  (args := [.sl 7 false (l1.map cOp)]) (S := []) (N0 := []) (post := fun r p S => p = .v (.bool r) ∧ S = []) Tryz.func59 rfl rfl hr fun w0 X X0 σ0 _ => ?_
 refine sr ?_
 refine pe 1 ?_
 refine ns ?_
 refine sr ?_
 refine pe 1 ?_
 refine zA9 (T := tab) cOp l1 rfl rfl rfl rfl rfl rfl rfl rfl ?_
 refine pe 2 ?_
 refine ns ?_
 exact rN
def zBi (fu : Nat) (h1 : Hook) : Option Bool := cnd (decide (h1.Kind < 1)) (some true) (cnd (decide (h1.Kind > 8)) (some true) (bnd (zDq fu h1.Do) fun r2 => some r2))
set_option maxRecDepth 100000 in
theorem zGX (fu : Nat) (h1 : Hook) : ∀ r, zBi fu h1 = some r → DC zAb Tryz.prog 58 [.agg (zAU h1)] (.v (.bool r)) := by
 intro r hr
 refine zAL (r := r)  (args := [.agg (zAU h1)]) (S := []) (N0 := []) (post := fun r p S => p = .v (.bool r) ∧ S = []) Tryz.func58 rfl rfl hr fun w0 X X0 σ0 _ => ?_
 refine sr ?_
 refine zDo  1 rfl rfl rfl rfl rfl rfl rfl rfl rfl rfl ?_
 refine pe 1 ?_
 refine ns ?_
 refine sr ?_
 refine pe 4 ?_
 refine zAO (j := 6) rfl ?_ ?_
 ·refine pe 10 ?_
  refine ns ?_
  exact rN
 ·refine pe 5 ?_
  refine zAO (j := 11) rfl ?_ ?_
  ·refine pe 5 ?_
   refine ns ?_
   exact rN
  ·refine pe 2 ?_
   refine zAK (enc := fun (r2 : Bool) => .v (.bool r2)) (qs := [.sl 7 false (h1.Do.map cOp)]) (zFB fu h1.Do) rfl rfl ⟨⟨_, rfl, .rfl⟩, trivial⟩ (fun _ => rfl) zNI rfl rfl fun r2 hr2 => ?_
   refine pe 2 ?_
   refine ns ?_
   exact rN
def zAr (t1 : Hook → Option Bool) (s1 : (List Hook)) : Nat → Int → Option Int
 | 0, _ => none
 | k1 + 1, t2 => cnd (decide (t2 < ((s1.length : Nat) : Int))) (bnd (idx s1 t2) fun y3 => bnd (t1 y3) fun r4 => cnd r4 (some t2) (bnd (rng .i64 (t2 + 1)) fun i5 => (zAr t1 s1 k1) i5)) (some (-1))
def zCG (fu : Nat) (t1 : Hook → Option Bool) (s1 : (List Hook)) : Option Int := (zAr t1 s1) fu 0
set_option maxHeartbeats 10000000 in
set_option maxRecDepth 100000 in
theorem zEI (fu : Nat) (s1 : (List Hook)) : ∀ r, zCG fu (fun (z1 : Hook) => zBi fu z1) s1 = some r → DC zAb Tryz.prog 95 [.sl 2 false (s1.map zAU), .fn (.func 58) [] []] (.v (.int .i64 r)) := by
 intro r hr
 refine zAL (r := r)  (args := [.sl 2 false (s1.map zAU), .fn (.func 58) [] []]) (S := []) (N0 := []) (post := fun r p S => p = .v (.int .i64 r) ∧ S = []) Tryz.func95 rfl rfl hr fun w0 X X0 σ0 _ => ?_
 refine sr ?_
 refine pe 1 ?_
 refine ns ?_
 refine zAE ?_
 refine sr ?_
 refine pe 1 ?_
 refine zA9 (T := tab) zAU s1 rfl rfl rfl rfl rfl rfl rfl rfl ?_
 refine pe 1 ?_
 refine ns ?_
 refine zAM ?_
 refine zBe (zAr (fun (z1 : Hook) => zBi fu z1) s1) (fun (t2 : Int) => [(0, .sl 2 false (s1.map zAU)), (1, .fn (.func 58) [] []), (7, .v (.int .i64 ((s1.length : Nat) : Int))), (8, .v (.int .i64 t2))]) (fun (t2 : Int) => []) fu 0 (fun _ => rfl) ⟨rfl, rfl, rfl, rfl, trivial⟩ trivial rfl ?_
 rintro k1 t2
 refine sr ?_
 refine pe 1 ?_
 refine ns ?_
 refine zAE ?_
 refine zAP rfl ?_ ?_
 ·refine zAF ?_
  refine zAA ?_
  refine zAE ?_
  refine zAM ?_
  refine sr ?_
  refine pe 2 ?_
  refine ns ?_
  refine sr ?_
  refine pe 3 ?_
  refine zCe (T := tab) zAU s1 rfl rfl rfl rfl rfl rfl rfl fun y3 hy3 => ?_
  refine pe 1 ?_
  refine zDh (enc := fun (r4 : Bool) => .v (.bool r4)) (first := []) (cap := []) (qs := [.agg (zAU y3)]) (Sc := []) (zGX fu y3) (zBp trivial rfl) rfl rfl rfl rfl ⟨⟨_, rfl, .rfl⟩, trivial⟩ (fun _ => rfl) call58 rfl rfl fun r4 hr4 => ?_
  refine ns ?_
  refine zAP rfl ?_ ?_
  ·refine sr ?_
   refine pe 2 ?_
   refine ns ?_
   exact rN
  ·refine zAF ?_
   refine zAJ ?_
   refine zAA ?_
   refine zAD ?_
   refine zAS (T := tab) rfl rfl rfl rfl fun i5 hi5 => ?_
   refine pe 1 ?_
   refine zAB ?_
   exact zBG i5 ⟨rfl, rfl, rfl, rfl, trivial⟩ trivial rfl
 ·refine zAl rfl ?_
  refine zAA ?_
  refine sr ?_
  refine pe 1 ?_
  refine ns ?_
  exact rN
def zBQ (fu : Nat) (t1 : Hook → Option Bool) (s1 : (List Hook)) : Option Bool := bnd (zCG fu t1 s1) fun r2 => some (decide (r2 ≥ 0))
set_option maxRecDepth 100000 in
theorem zDk (fu : Nat) (s1 : (List Hook)) : ∀ r, zBQ fu (fun (z1 : Hook) => zBi fu z1) s1 = some r → DC zAb Tryz.prog 61 [.sl 2 false (s1.map zAU), .fn (.func 58) [] []] (.v (.bool r)) := by
 intro r hr
 refine zAL (r := r)  (args := [.sl 2 false (s1.map zAU), .fn (.func 58) [] []]) (S := []) (N0 := []) (post := fun r p S => p = .v (.bool r) ∧ S = []) Tryz.func61 rfl rfl hr fun w0 X X0 σ0 _ => ?_
 refine sr ?_
 refine pe 1 ?_
 refine ns ?_
 refine sr ?_
 refine pe 2 ?_
 refine zAK (enc := fun (r2 : Int) => .v (.int .i64 r2)) (qs := [.sl 2 false (s1.map zAU), .fn (.func 58) [] []]) (zEI fu s1) rfl rfl ⟨⟨_, rfl, .rfl⟩, ⟨_, rfl, .rfl⟩, trivial⟩ (fun _ => rfl) call95 rfl rfl fun r2 hr2 => ?_
 refine pe 2 ?_
 refine ns ?_
 exact rN
def zDT (fu : Nat) (c1 : Class) : Option Bool := cnd (decide (((c1.Watch.length : Nat) : Int) ≤ 12)) (bnd (zBV fu (fun (z1 : Bs) => zBj fu z1) c1.Watch) fun r2 => cnd (!r2) (cnd (decide (((c1.Hooks.length : Nat) : Int) ≤ 12)) (bnd (zBQ fu (fun (z1 : Hook) => zBi fu z1) c1.Hooks) fun r3 => cnd (!r3) (bnd (zDq fu c1.Peek) fun r4 => cnd (!r4) (bnd (zDq fu c1.Make) fun r5 => some (!r5)) (some false)) (some false)) (some false)) (some false)) (some false)
set_option maxHeartbeats 10000000 in
set_option maxRecDepth 100000 in
theorem zHN (fu : Nat) (c1 : Class) : ∀ r, zDT fu c1 = some r → DC zAb Tryz.prog 21 [.agg (zAG c1)] (.v (.bool r)) := by
 intro r hr
 refine zAL (r := r)  (args := [.agg (zAG c1)]) (S := []) (N0 := []) (post := fun r p S => p = .v (.bool r) ∧ S = []) Tryz.func21 rfl rfl hr fun w0 X X0 σ0 _ => ?_
 refine sr ?_
 refine zDo  1 rfl rfl rfl rfl rfl rfl rfl rfl rfl rfl ?_
 refine pe 1 ?_
 refine ns ?_
 refine sr ?_
 refine pe 1 ?_
 refine ns ?_
 refine sr ?_
 refine pe 1 ?_
 refine ns ?_
 refine sr ?_
 refine pe 2 ?_
 refine zA9 (T := tab) cStr c1.Watch rfl rfl rfl rfl rfl rfl rfl rfl ?_
 refine pe 2 ?_
 refine zAO (j := 9) rfl ?_ ?_
 ·refine pe 3 ?_
  refine zAK (enc := fun (r2 : Bool) => .v (.bool r2)) (qs := [.sl 1 false (c1.Watch.map cStr), .fn (.func 56) [] []]) (zDu fu c1.Watch) rfl rfl ⟨⟨_, rfl, .rfl⟩, ⟨_, rfl, .rfl⟩, trivial⟩ (fun _ => rfl) call60 rfl rfl fun r2 hr2 => ?_
  refine pe 3 ?_
  refine zAO (j := 16) rfl ?_ ?_
  ·refine pe 2 ?_
   refine zA9 (T := tab) zAU c1.Hooks rfl rfl rfl rfl rfl rfl rfl rfl ?_
   refine pe 3 ?_
   refine zAO (j := 22) rfl ?_ ?_
   ·refine pe 3 ?_
    refine zAK (enc := fun (r3 : Bool) => .v (.bool r3)) (qs := [.sl 2 false (c1.Hooks.map zAU), .fn (.func 58) [] []]) (zDk fu c1.Hooks) rfl rfl ⟨⟨_, rfl, .rfl⟩, ⟨_, rfl, .rfl⟩, trivial⟩ (fun _ => rfl) call61 rfl rfl fun r3 hr3 => ?_
    refine pe 3 ?_
    refine zAO (j := 29) rfl ?_ ?_
    ·refine pe 2 ?_
     refine zAK (enc := fun (r4 : Bool) => .v (.bool r4)) (qs := [.sl 7 false (c1.Peek.map cOp)]) (zFB fu c1.Peek) rfl rfl ⟨⟨_, rfl, .rfl⟩, trivial⟩ (fun _ => rfl) zNI rfl rfl fun r4 hr4 => ?_
     refine pe 3 ?_
     refine zAO (j := 35) rfl ?_ ?_
     ·refine pe 2 ?_
      refine zAK (enc := fun (r5 : Bool) => .v (.bool r5)) (qs := [.sl 7 false (c1.Make.map cOp)]) (zFB fu c1.Make) rfl rfl ⟨⟨_, rfl, .rfl⟩, trivial⟩ (fun _ => rfl) zNI rfl rfl fun r5 hr5 => ?_
      refine pe 3 ?_
      refine ns ?_
      exact rN
     ·refine pe 6 ?_
      refine ns ?_
      exact rN
    ·refine pe 12 ?_
     refine ns ?_
     exact rN
   ·refine pe 19 ?_
    refine ns ?_
    exact rN
  ·refine pe 25 ?_
   refine ns ?_
   exact rN
 ·refine pe 32 ?_
  refine ns ?_
  exact rN
def zBt (fu : Nat) (c1 : Class) : Option Bool := bnd (zDT fu c1) fun r2 => some (!r2)
set_option maxRecDepth 100000 in
theorem zGD (fu : Nat) (c1 : Class) : ∀ r, zBt fu c1 = some r → DC zAb Tryz.prog 35 [.agg (zAG c1)] (.v (.bool r)) := by
 intro r hr
 refine zAL (r := r)  (args := [.agg (zAG c1)]) (S := []) (N0 := []) (post := fun r p S => p = .v (.bool r) ∧ S = []) Tryz.func35 rfl rfl hr fun w0 X X0 σ0 _ => ?_
 refine sr ?_
 refine zDo  1 rfl rfl rfl rfl rfl rfl rfl rfl rfl rfl ?_
 refine pe 1 ?_
 refine ns ?_
 refine sr ?_
 refine pe 1 ?_
 refine zAK (enc := fun (r2 : Bool) => .v (.bool r2)) (qs := [.agg (zAG c1)]) (zHN fu c1) rfl rfl ⟨⟨_, rfl, .rfl⟩, trivial⟩ (fun _ => rfl) call21 rfl rfl fun r2 hr2 => ?_
 refine pe 2 ?_
 refine ns ?_
 exact rN
def zAn (t1 : Class → Option Bool) (s1 : (List Class)) : Nat → Int → Option Int
 | 0, _ => none
 | k1 + 1, t2 => cnd (decide (t2 < ((s1.length : Nat) : Int))) (bnd (idx s1 t2) fun y3 => bnd (t1 y3) fun r4 => cnd r4 (some t2) (bnd (rng .i64 (t2 + 1)) fun i5 => (zAn t1 s1 k1) i5)) (some (-1))
def zCC (fu : Nat) (t1 : Class → Option Bool) (s1 : (List Class)) : Option Int := (zAn t1 s1) fu 0
set_option maxHeartbeats 10000000 in
set_option maxRecDepth 100000 in
theorem zD3 (fu : Nat) (s1 : (List Class)) : ∀ r, zCC fu (fun (z1 : Class) => zBt fu z1) s1 = some r → DC zAb Tryz.prog 71 [.sl 5 false (s1.map zAG), .fn (.func 35) [] []] (.v (.int .i64 r)) := by
 intro r hr
 refine zAL (r := r)  (args := [.sl 5 false (s1.map zAG), .fn (.func 35) [] []]) (S := []) (N0 := []) (post := fun r p S => p = .v (.int .i64 r) ∧ S = []) Tryz.func71 rfl rfl hr fun w0 X X0 σ0 _ => ?_
 refine sr ?_
 refine pe 1 ?_
 refine ns ?_
 refine zAE ?_
 refine sr ?_
 refine pe 1 ?_
 refine zA9 (T := tab) zAG s1 rfl rfl rfl rfl rfl rfl rfl rfl ?_
 refine pe 1 ?_
 refine ns ?_
 refine zAM ?_
 refine zBe (zAn (fun (z1 : Class) => zBt fu z1) s1) (fun (t2 : Int) => [(0, .sl 5 false (s1.map zAG)), (1, .fn (.func 35) [] []), (7, .v (.int .i64 ((s1.length : Nat) : Int))), (8, .v (.int .i64 t2))]) (fun (t2 : Int) => []) fu 0 (fun _ => rfl) ⟨rfl, rfl, rfl, rfl, trivial⟩ trivial rfl ?_
 rintro k1 t2
 refine sr ?_
 refine pe 1 ?_
 refine ns ?_
 refine zAE ?_
 refine zAP rfl ?_ ?_
 ·refine zAF ?_
  refine zAA ?_
  refine zAE ?_
  refine zAM ?_
  refine sr ?_
  refine pe 2 ?_
  refine ns ?_
  refine sr ?_
  refine pe 3 ?_
  refine zCe (T := tab) zAG s1 rfl rfl rfl rfl rfl rfl rfl fun y3 hy3 => ?_
  refine pe 1 ?_
  refine zDh (enc := fun (r4 : Bool) => .v (.bool r4)) (first := []) (cap := []) (qs := [.agg (zAG y3)]) (Sc := []) (zGD fu y3) (zBp trivial rfl) rfl rfl rfl rfl ⟨⟨_, rfl, .rfl⟩, trivial⟩ (fun _ => rfl) call35 rfl rfl fun r4 hr4 => ?_
  refine ns ?_
  refine zAP rfl ?_ ?_
  ·refine sr ?_
   refine pe 2 ?_
   refine ns ?_
   exact rN
  ·refine zAF ?_
   refine zAJ ?_
   refine zAA ?_
   refine zAD ?_
   refine zAS (T := tab) rfl rfl rfl rfl fun i5 hi5 => ?_
   refine pe 1 ?_
   refine zAB ?_
   exact zBG i5 ⟨rfl, rfl, rfl, rfl, trivial⟩ trivial rfl
 ·refine zAl rfl ?_
  refine zAA ?_
  refine sr ?_
  refine pe 1 ?_
  refine ns ?_
  exact rN
def zBL (fu : Nat) (t1 : Class → Option Bool) (s1 : (List Class)) : Option Bool := bnd (zCC fu t1 s1) fun r2 => some (decide (r2 ≥ 0))
set_option maxRecDepth 100000 in
theorem zDb (fu : Nat) (s1 : (List Class)) : ∀ r, zBL fu (fun (z1 : Class) => zBt fu z1) s1 = some r → DC zAb Tryz.prog 34 [.sl 5 false (s1.map zAG), .fn (.func 35) [] []] (.v (.bool r)) := by
 intro r hr
 refine zAL (r := r)  (args := [.sl 5 false (s1.map zAG), .fn (.func 35) [] []]) (S := []) (N0 := []) (post := fun r p S => p = .v (.bool r) ∧ S = []) Tryz.func34 rfl rfl hr fun w0 X X0 σ0 _ => ?_
 refine sr ?_
 refine pe 1 ?_
 refine ns ?_
 refine sr ?_
 refine pe 2 ?_
 refine zAK (enc := fun (r2 : Int) => .v (.int .i64 r2)) (qs := [.sl 5 false (s1.map zAG), .fn (.func 35) [] []]) (zD3 fu s1) rfl rfl ⟨⟨_, rfl, .rfl⟩, ⟨_, rfl, .rfl⟩, trivial⟩ (fun _ => rfl) call71 rfl rfl fun r2 hr2 => ?_
 refine pe 2 ?_
 refine ns ?_
 exact rN
def zB8 (fu : Nat) (s1 : Script) : List (List Op × Int) → Unit → Option Bool
 | [], _ => cnd (decide (((s1.Classes.length : Nat) : Int) ≤ 12)) (bnd (zBL fu (fun (z1 : Class) => zBt fu z1) s1.Classes) fun r5 => some (!r5)) (some false)
 | y2 :: ys3, _ => cnd (decide (((y2.1.length : Nat) : Int) > y2.2)) (some false) (bnd (zBa fu (fun (z1 : Op) => zCh fu z1) y2.1) fun r4 => cnd r4 (some false) ((zB8 fu s1 ys3) ()))
def zBP (fu : Nat) (s1 : Script) : Option Bool := (zB8 fu s1) (zAx s1) ()
set_option maxHeartbeats 10000000 in
set_option maxRecDepth 100000 in
theorem zCt (fu : Nat) (s1 : Script) : ∀ r, zBP fu s1 = some r → DC zAb Tryz.prog 13 [.agg (zBZ s1)] (.v (.bool r)) := by
 intro r hr
 refine zAL (r := r)  (args := [.agg (zBZ s1)]) (S := []) (N0 := []) (post := fun r p S => p = .v (.bool r) ∧ S = []) Tryz.func13 rfl rfl hr fun w0 X X0 σ0 _ => ?_
 refine sr ?_
 refine zDo  1 rfl rfl rfl rfl rfl rfl rfl rfl rfl rfl ?_
 refine zBJ (T := tab) 2 rfl rfl rfl rfl rfl rfl rfl rfl rfl ?_
 refine ns ?_
 refine zAE ?_
 refine sr ?_
 refine pe 1 ?_
 refine po_mk (n := 3006) (zKz s1) rfl rfl rfl rfl rfl rfl rfl rfl rfl rfl rfl ⟨⟨_, rfl, .rfl⟩, trivial⟩ call31 rfl rfl ?_
 refine ns ?_
 refine zAM ?_
 refine zSM (ys0 := zAx s1) (p1 := fun y : (List Op × Int) => .sl 7 false (y.1.map cOp)) (p2 := fun y : (List Op × Int) => .v (.int .i64 y.2)) (x0 := ()) (n := 3006) (M := (zB8 fu s1)) (Sf := fun (_ : Unit) => [(2, .box 4 [.v (.bool false)]), (1, .box 25 [.sl 5 false (s1.Classes.map zAG), .sl 7 false (s1.Main.map cOp)])]) (SR := fun r : Bool => [(2, .box 4 [.v (.bool r)])]) (N1 := [1, 2]) (E0 := [(1, .loc 1 0), (2, .loc 2 0)]) (E1 := fun y2 => [(1, .loc 1 0), (2, .loc 2 0), (7, .sl 7 false (y2.1.map cOp)), (8, .v (.int .i64 y2.2)), (3, .sl 7 false (y2.1.map cOp)), (4, .v (.int .i64 y2.2))]) (zKr s1) call68 (fun _ => rfl) (fun _ => rfl) rfl rfl rfl ⟨rfl, rfl, trivial⟩ rfl rfl ⟨rfl, rfl, trivial⟩ rfl rfl rfl rfl ?_ ?_ ?_ ?_
 ·rintro y2 _ w0 X X0 σ0 _ _
  refine sr ?_
  refine pe 1 ?_
  refine ns ?_
  refine zAD ?_
  refine pe 1 ?_
  refine zAB ?_
  exact zFD ⟨rfl, rfl, rfl, rfl, rfl, rfl, trivial⟩ ⟨rfl, rfl, trivial⟩ rfl
 ·rintro y2 ys3 _ w0 X X0 σ0 _ _
  refine zAM ?_
  refine sr ?_
  refine pe 1 ?_
  refine zA9 (T := tab) cOp y2.1 rfl rfl rfl rfl rfl rfl rfl rfl ?_
  refine pe 3 ?_
  refine zAO (j := 13) rfl ?_ ?_
  ·refine pe 3 ?_
   refine zAB ?_
   refine zAA (zAg rfl ?_)
   refine sr ?_
   refine zAN (T := tab) rfl rfl rfl rfl rfl rfl rfl rfl rfl rfl rfl rfl ?_
   refine ns ?_
   exact zGv rfl ⟨rfl, trivial⟩ rfl
  ·refine pe 1 ?_
   refine zAK (enc := fun (r4 : Bool) => .v (.bool r4)) (qs := [.sl 7 false (y2.1.map cOp), .fn (.func 33) [] []]) (zD7 fu y2.1) rfl rfl ⟨⟨_, rfl, .rfl⟩, ⟨_, rfl, .rfl⟩, trivial⟩ (fun _ => rfl) call32 rfl rfl fun r4 hr4 => ?_
   refine pe 1 ?_
   refine ns ?_
   refine zAP rfl ?_ ?_
   ·refine sr ?_
    refine zAN (T := tab) rfl rfl rfl rfl rfl rfl rfl rfl rfl rfl rfl rfl ?_
    refine ns ?_
    exact zGv rfl ⟨rfl, trivial⟩ rfl
   ·refine zAF ?_
    refine zAJ ?_
    exact zE2 () ⟨rfl, rfl, trivial⟩ rfl
 ·rintro _
  refine zAJ ?_
  refine zAA ?_
  refine sr ?_
  refine pe 2 ?_
  refine zA9 (T := tab) zAG s1.Classes rfl rfl rfl rfl rfl rfl rfl rfl ?_
  refine pe 2 ?_
  refine zAO (j := 21) rfl ?_ ?_
  ·refine pe 2 ?_
   refine zAK (enc := fun (r5 : Bool) => .v (.bool r5)) (qs := [.sl 5 false (s1.Classes.map zAG), .fn (.func 35) [] []]) (zDb fu s1.Classes) rfl rfl ⟨⟨_, rfl, .rfl⟩, ⟨_, rfl, .rfl⟩, trivial⟩ (fun _ => rfl) call34 rfl rfl fun r5 hr5 => ?_
   refine pe 2 ?_
   refine zAN (T := tab) rfl rfl rfl rfl rfl rfl rfl rfl rfl rfl rfl rfl ?_
   refine ns ?_
   exact rN
  ·refine pe 5 ?_
   refine zAN (T := tab) rfl rfl rfl rfl rfl rfl rfl rfl rfl rfl rfl rfl ?_
   refine ns ?_
   exact rN
 ·exact fun r => zKp (T := tab) rfl rfl rfl ⟨rfl, rfl⟩ trivial rfl
set_option maxRecDepth 100000 in
theorem zDf (fu : Nat) (l1 : (List Int)) : ∀ r, zAc fu = some r → FC zAb Tryz.prog 98 [.loc 900000 0] [(900000, .box 64 [.nloc 900000 0, .ownb 900001]), (900001, .arr 5 1 (l1.map zAC))] [900000, 900001] fun p S' => p = .tup [] ∧ S' = [(900000, .box 64 [.nloc 900000 0, .ownb 900001]), (900001, .arr 5 1 (l1.map zAC))] := by
 intro r hr
 refine zAL (r := r)  (args := [.loc 900000 0]) (S := [(900000, .box 64 [.nloc 900000 0, .ownb 900001]), (900001, .arr 5 1 (l1.map zAC))]) (N0 := [900000, 900001]) (post := fun r p S => p = .tup [] ∧ S = [(900000, .box 64 [.nloc 900000 0, .ownb 900001]), (900001, .arr 5 1 (l1.map zAC))]) Tryz.func98 rfl rfl hr fun w0 X X0 σ0 _ => ?_
 refine sr ?_
 refine pe 3 ?_
 refine zHr 900000 0 rfl rfl rfl rfl rfl rfl ?_ ?_
 ·refine pe 1 ?_
  refine zGZ (T := tab) Tryz.underlying59 rfl rfl rfl rfl rfl rfl rfl rfl ?_
  refine ns ?_
  refine zAg rfl ?_
  refine zAD ?_
  refine pe 2 ?_
  refine zGF (T := tab) Tryz.underlying59 Tryz.underlying160 rfl rfl Tryz.func120 rfl rfl rfl rfl rfl rfl rfl rfl rfl (by kernel_rfl) rfl rfl rfl rfl rfl rfl rfl rfl rfl rfl rfl ?_
  refine pe 2 ?_
  refine zAN (T := tab) rfl rfl rfl rfl rfl rfl rfl rfl rfl rfl rfl rfl ?_
  refine zAB ?_
  refine zEZ 900000 [.nloc 900000 0, .ownb 900001] rfl ⟨.nloc1, .rfl, trivial⟩ rfl ?_
  exact zDv (T := tab) rfl rfl rfl ⟨rfl, rfl⟩ ⟨rfl, rfl, trivial⟩ rfl
 ·refine pe 1 ?_
  refine zGZ (T := tab) Tryz.underlying59 rfl rfl rfl rfl rfl rfl rfl rfl ?_
  refine ns ?_
  refine zA0 rfl ?_
  refine sr ?_
  refine pe 5 ?_
  refine zGZ (T := tab) Tryz.underlying59 rfl rfl rfl rfl rfl rfl rfl rfl ?_
  refine ns ?_
  refine zA0 rfl ?_
  refine zAF ?_
  refine zEZ 900000 [.nloc 900000 0, .ownb 900001] rfl ⟨.nloc1, .rfl, trivial⟩ rfl ?_
  exact zDv (T := tab) rfl rfl rfl ⟨rfl, rfl⟩ ⟨rfl, rfl, trivial⟩ rfl
set_option maxRecDepth 100000 in
theorem zCH (fu : Nat) (s1 : Bs) (l2 : (List Int)) : ∀ r, zAH fu s1 l2 = some r → FC zAb Tryz.prog 65 [.loc 900000 0, .v (.string ⟨⟨s1⟩⟩)] [(900000, .box 64 [.nloc 900000 0, .ownb 900001]), (900001, .arr 5 1 (l2.map zAC))] [900000] fun p S' => p = .tup [.v (.int .i64 r.1), .err r.2.1] ∧ S' = [(900000, .box 64 [.nloc 900000 0, .ownb 900001]), (900001, .arr 5 1 (r.2.2.map zAC))] := by
 intro r hr
 refine zAL (r := r)  (args := [.loc 900000 0, .v (.string ⟨⟨s1⟩⟩)]) (S := [(900000, .box 64 [.nloc 900000 0, .ownb 900001]), (900001, .arr 5 1 (l2.map zAC))]) (N0 := [900000]) (post := fun r p S => p = .tup [.v (.int .i64 r.1), .err r.2.1] ∧ S = [(900000, .box 64 [.nloc 900000 0, .ownb 900001]), (900001, .arr 5 1 (r.2.2.map zAC))]) Tryz.func65 rfl rfl hr fun w0 X X0 σ0 _ => ?_
 refine sr ?_
 refine pe 2 ?_
 refine ns ?_
 refine sr ?_
 refine pe 1 ?_
 refine zDh (enc := fun (r3 : Unit) => .tup []) (first := []) (cap := []) (qs := [.loc 900000 0]) (Sc := [(900000, .box 64 [.nloc 900000 0, .ownb 900001]), (900001, .arr 5 1 (l2.map zAC))]) (fun r3 hr3 => zA4 [(900000, 900000), (900001, 900001)] [900000, 900001] (zDf fu l2 _ hr3) rfl rfl rfl rfl rfl rfl) (zBp ⟨rfl, rfl, trivial⟩ rfl) rfl rfl rfl rfl ⟨⟨_, rfl, .rfl⟩, trivial⟩ (fun _ => rfl) zOh rfl rfl fun r3 hr3 => ?_
 refine ns ?_
 refine sr ?_
 refine pe 6 ?_
 refine zGd (T := tab) zAC l2 (fun _ => rfl) rfl rfl rfl rfl rfl rfl rfl rfl rfl rfl rfl rfl rfl rfl rfl rfl ?_
 refine pe 2 ?_
 refine zAN (T := tab) rfl rfl rfl rfl rfl rfl rfl rfl rfl rfl rfl rfl ?_
 refine ns ?_
 refine sr ?_
 refine pe 4 ?_
 refine ns ?_
 refine zN8 5 (q := .err false) rfl .err0 ?_
 exact rN
def zAT (fu : Nat) (l1 : (List Bs)) (l2 : (List Int)) : Option (List Int) := bnd (zJo fu l1 ([32] : Bs)) fun r3 => bnd (zAH fu r3 l2) fun r4 => bnd (zAH fu [10] r4.2.2) fun r5 => some r5.2.2
set_option maxRecDepth 100000 in
theorem zA1 (fu : Nat) (l1 : (List Bs)) (l2 : (List Int)) : ∀ r, zAT fu l1 l2 = some r → FC zAb Tryz.prog 26 [.loc 900000 0, .own 900001] [(900000, .box 64 [.nloc 900000 0, .ownb 900002]), (900001, .arr 9 1 (l1.map cStr)), (900002, .arr 5 1 (l2.map zAC))] [900000, 900001] fun p S' => p = .tup [] ∧ S' = [(900000, .box 64 [.nloc 900000 0, .ownb 900002]), (900001, .arr 9 1 (l1.map cStr)), (900002, .arr 5 1 (r.map zAC))] := by
 intro r hr
 refine zAL (r := r)  (args := [.loc 900000 0, .own 900001]) (S := [(900000, .box 64 [.nloc 900000 0, .ownb 900002]), (900001, .arr 9 1 (l1.map cStr)), (900002, .arr 5 1 (l2.map zAC))]) (N0 := [900000, 900001]) (post := fun r p S => p = .tup [] ∧ S = [(900000, .box 64 [.nloc 900000 0, .ownb 900002]), (900001, .arr 9 1 (l1.map cStr)), (900002, .arr 5 1 (r.map zAC))]) Tryz.func26 rfl rfl hr fun w0 X X0 σ0 _ => ?_
 refine zAE ?_
 refine zBA (E' := [(0, .loc 900000 0), (1, .own 900001)]) (S' := [(900000, .box 64 [.nloc 900000 0, .ownb 900002]), (900001, .arr 9 1 (l1.map cStr)), (900002, .arr 5 1 (l2.map zAC))]) ?_ ⟨rfl, rfl, trivial⟩ ⟨rfl, rfl, rfl, trivial⟩ rfl
 refine zBS [0, 1, 3, 0, 8, 31] mixed (by kernel_rfl) (by kernel_rfl) rfl rfl ?_
 refine ve [0] [8] [900000] [(4, .loc 900000 0)] ?_
 refine ve [8] [10] [900000] [(5, .loc 900000 0)] ?_
 refine ve [10] [12] [900000] [(6, .loc 900000 0)] ?_
 refine ve [2] [14] [900001] [(7, .own 900001)] ?_
 refine zAi (M := (zJo fu l1 ([32] : Bs))) (ment := [(16, [])]) [14, 1800003] [16] [] [900001] [900001] (fun r3 => [(8, .v (.string ⟨⟨r3⟩⟩))]) (fun r3 => [(900001, .arr 9 1 (l1.map cStr))]) rfl rfl (fun _ => rfl) (fun _ => rfl) (by kernel_rfl) (by kernel_rfl) (fun _ => by kernel_rfl) (fun _ => ⟨rfl, trivial⟩) (fun w0 X X0 σ0 _ => by refine zDh (enc := fun (r3 : Bs) => .v (.string ⟨⟨r3⟩⟩)) (first := []) (cap := []) (qs := [.own 900001, .v (.string ⟨⟨([32] : Bs)⟩⟩)]) (Sc := [(900001, .arr 9 1 (l1.map cStr))]) (zRw fu 900001 9 l1 ([32] : Bs)) (zBp ⟨rfl, trivial⟩ rfl) rfl rfl rfl rfl ⟨⟨_, rfl, .rfl⟩, ⟨_, rfl, .rfl⟩, trivial⟩ (fun _ => rfl) call66 rfl rfl fun r3 hr3 => ?_; refine zAB ?_; exact zBn ⟨rfl, trivial⟩ ⟨rfl, trivial⟩ rfl) fun r3 hr3 => ?_
 refine zAi (M := (zAH fu r3 l2)) (ment := [(18, []), (1800005, []), (1800001, [900000, 900002])]) [12, 16, 1800001, 1800005] [18, 1800005, 1800001] [900002] [900000] [] (fun r4 => [(9, .tup [.v (.int .i64 r4.1), .err r4.2.1])]) (fun r4 => [(900002, .arr 5 1 (r4.2.2.map zAC)), (900000, .box 64 [.nloc 900000 0, .ownb 900002])]) rfl rfl (fun _ => rfl) (fun _ => rfl) (by kernel_rfl) (by kernel_rfl) (fun _ => by kernel_rfl) (fun _ => trivial) (fun w0 X X0 σ0 _ => by refine zAf [900002] (enc := fun (r4 : (Int × Bool × (List Int))) => .tup [.v (.int .i64 r4.1), .err r4.2.1]) (Sr := fun (r4 : (Int × Bool × (List Int))) => [(900000, .box 64 [.nloc 900000 0, .ownb 900002]), (900002, .arr 5 1 (r4.2.2.map zAC))]) (first := []) (cap := []) (qs := [.loc 900000 0, .v (.string ⟨⟨r3⟩⟩)]) (Sc := [(900000, .box 64 [.nloc 900000 0, .ownb 900002]), (900002, .arr 5 1 (l2.map zAC))]) (N0 := [900000]) (NR := [900000, 900002]) (fun r4 hr4 => zA4 [(900000, 900000), (900001, 900002)] [900000, 900001] (zCH fu r3 l2 _ hr4) rfl rfl rfl rfl rfl rfl) ⟨rfl, rfl, trivial⟩ (fun _ => rfl) rfl rfl rfl rfl rfl rfl rfl (fun _ => rfl) (fun _ => rfl) rfl rfl rfl ⟨⟨_, rfl, .rfl⟩, ⟨_, rfl, .rfl⟩, trivial⟩ zF1 rfl rfl fun r4 hr4 => ?_; refine zAB ?_; exact zBn ⟨rfl, trivial⟩ ⟨rfl, rfl, trivial⟩ rfl) fun r4 hr4 => ?_
 refine zB0 rfl rfl ?_
 refine zAA ?_
 refine zAD ?_
 refine pe 3 ?_
 refine zAf [900002] (enc := fun (r5 : (Int × Bool × (List Int))) => .tup [.v (.int .i64 r5.1), .err r5.2.1]) (Sr := fun (r5 : (Int × Bool × (List Int))) => [(900000, .box 64 [.nloc 900000 0, .ownb 900002]), (900002, .arr 5 1 (r5.2.2.map zAC))]) (first := []) (cap := []) (qs := [.loc 900000 0, .v (.string ⟨⟨[10]⟩⟩)]) (Sc := [(900000, .box 64 [.nloc 900000 0, .ownb 900002]), (900002, .arr 5 1 (r4.2.2.map zAC))]) (N0 := [900000]) (NR := [900000, 900002]) (fun r5 hr5 => zA4 [(900000, 900000), (900001, 900002)] [900000, 900001] (zCH fu [10] r4.2.2 _ hr5) rfl rfl rfl rfl rfl rfl) ⟨rfl, rfl, trivial⟩ (fun _ => rfl) rfl rfl rfl rfl rfl rfl rfl (fun _ => rfl) (fun _ => rfl) rfl rfl rfl ⟨⟨_, rfl, .rfl⟩, ⟨_, rfl, .rfl⟩, trivial⟩ zF1 rfl rfl fun r5 hr5 => ?_
 refine zAB ?_
 exact zDv (T := tab) rfl rfl rfl ⟨rfl, rfl⟩ ⟨rfl, rfl, rfl, trivial⟩ rfl
def zAm (fu : Nat) (l2 : (List Op)) : Nat → Int × (List Int) → Option (List Int)
 | 0, _ => none
 | k1 + 1, (t6, l7) => cnd (decide (t6 < ((l2.length : Nat) : Int))) (bnd (idx l2 t6) fun y8 => bnd (zFk fu y8) fun r9 => cnd (r9.2 != 0) (bnd (zAT fu [[63]] l7) fun r10 => bnd (rng .i64 (t6 + 1)) fun i12 => (zAm fu l2 k1) (i12, r10)) (bnd (zAT fu [r9.1] l7) fun r11 => bnd (rng .i64 (t6 + 1)) fun i13 => (zAm fu l2 k1) (i13, r11))) (some l7)
def zBr (fu : Nat) (l2 : (List Op)) (l5 : (List Int)) : Option (List Int) := (zAm fu l2) fu (0, l5)
def zBC (fu : Nat) (head1 : Bs) (l2 : (List Op)) (l3 : (List Int)) : Option (List Int) := cnd (decide (((l2.length : Nat) : Int) > 0)) (cnd (!(head1 == ([] : Bs))) (bnd (zAT fu [head1] l3) fun r4 => (zBr fu l2) r4) ((zBr fu l2) l3)) ((zBr fu l2) l3)
set_option maxHeartbeats 10000000 in
set_option maxRecDepth 100000 in
theorem zCI (fu : Nat) (head1 : Bs) (l2 : (List Op)) (l3 : (List Int)) : ∀ r, zBC fu head1 l2 l3 = some r → FC zAb Tryz.prog 27 [.loc 900000 0, .v (.string ⟨⟨head1⟩⟩), .sl 7 false (l2.map cOp)] [(900000, .box 64 [.nloc 900000 0, .ownb 900001]), (900001, .arr 5 1 (l3.map zAC))] [900000] fun p S' => p = .tup [] ∧ S' = [(900000, .box 64 [.nloc 900000 0, .ownb 900001]), (900001, .arr 5 1 (r.map zAC))] := by
 intro r hr
 refine zAL (r := r)  (args := [.loc 900000 0, .v (.string ⟨⟨head1⟩⟩), .sl 7 false (l2.map cOp)]) (S := [(900000, .box 64 [.nloc 900000 0, .ownb 900001]), (900001, .arr 5 1 (l3.map zAC))]) (N0 := [900000]) (post := fun r p S => p = .tup [] ∧ S = [(900000, .box 64 [.nloc 900000 0, .ownb 900001]), (900001, .arr 5 1 (r.map zAC))]) Tryz.func27 rfl rfl hr fun w0 X X0 σ0 _ => ?_
 refine zAE ?_
 refine sr ?_
 refine zPe (zBr fu l2) (fun (l5 : (List Int)) => [(0, .loc 900000 0), (2, .sl 7 false (l2.map cOp))]) (fun (l5 : (List Int)) => [(900000, .box 64 [.nloc 900000 0, .ownb 900001]), (900001, .arr 5 1 (l5.map zAC))]) ?_ fun hj1 => ?_
 ·rintro l5
  refine zAA ?_
  refine sr ?_
  refine pe 1 ?_
  refine zA9 (T := tab) cOp l2 rfl rfl rfl rfl rfl rfl rfl rfl ?_
  refine pe 1 ?_
  refine ns ?_
  refine zAM ?_
  refine zBe (zAm fu l2) (fun ((t6, l7) : Int × (List Int)) => [(0, .loc 900000 0), (21, .sl 7 false (l2.map cOp)), (22, .v (.int .i64 ((l2.length : Nat) : Int))), (23, .v (.int .i64 t6))]) (fun ((t6, l7) : Int × (List Int)) => [(900000, .box 64 [.nloc 900000 0, .ownb 900001]), (900001, .arr 5 1 (l7.map zAC))]) fu (0, l5) (fun _ => rfl) ⟨rfl, rfl, rfl, rfl, trivial⟩ ⟨rfl, rfl, trivial⟩ rfl ?_
  rintro k1 ⟨t6, l7⟩
  refine sr ?_
  refine pe 1 ?_
  refine ns ?_
  refine zAE ?_
  refine zAP rfl ?_ ?_
  ·refine zAF ?_
   refine zAA ?_
   refine zAE ?_
   refine zAM ?_
   refine sr ?_
   refine zCe (T := tab) cOp l2 rfl rfl rfl rfl rfl rfl rfl fun y8 hy8 => ?_
   refine pe 1 ?_
   refine zBJ (T := tab) 7 rfl rfl rfl rfl rfl rfl rfl rfl rfl ?_
   refine zAN (T := tab) rfl rfl rfl rfl rfl rfl rfl rfl rfl rfl rfl rfl ?_
   refine ns ?_
   refine sr ?_
   refine pe 1 ?_
   refine zAK (enc := fun (r9 : (Bs × Int)) => .tup [.v (.string ⟨⟨r9.1⟩⟩), .v (.int .i64 r9.2)]) (qs := [.agg (cOp y8)]) (zJ7 fu y8) rfl rfl ⟨⟨_, rfl, .rfl⟩, trivial⟩ (fun _ => rfl) zQy rfl rfl fun r9 hr9 => ?_
   refine pe 5 ?_
   refine ns ?_
   refine zAE ?_
   refine sr ?_
   refine pe 2 ?_
   refine ns ?_
   refine zAP rfl ?_ ?_
   ·refine zAD ?_
    refine pe 1 ?_
    refine ns ?_
    refine zAD ?_
    refine pe 2 ?_
    refine zEJ (T := tab) (rows := [[63]].map cStr) 36 rfl rfl rfl rfl rfl rfl rfl rfl rfl rfl rfl rfl rfl rfl ?_
    refine zAf [900001] (enc := fun (r10 : (List Int)) => .tup []) (Sr := fun (r10 : (List Int)) => [(900000, .box 64 [.nloc 900000 0, .ownb 900001]), (36, .arr 9 1 ([[63]].map cStr)), (900001, .arr 5 1 (r10.map zAC))]) (first := []) (cap := []) (qs := [.loc 900000 0, .own 36]) (Sc := [(900000, .box 64 [.nloc 900000 0, .ownb 900001]), (36, .arr 9 1 ([[63]].map cStr)), (900001, .arr 5 1 (l7.map zAC))]) (N0 := [900000, 36]) (NR := [900000, 36, 900001]) (fun r10 hr10 => zA4 [(900000, 900000), (900001, 36), (900002, 900001)] [900000, 900001, 900002] (zA1 fu [[63]] l7 _ hr10) rfl rfl rfl rfl rfl rfl) ⟨rfl, rfl, rfl, trivial⟩ (fun _ => rfl) rfl rfl rfl rfl rfl rfl rfl (fun _ => rfl) (fun _ => rfl) rfl rfl rfl ⟨⟨_, rfl, .rfl⟩, ⟨_, rfl, .rfl⟩, trivial⟩ zIH rfl rfl fun r10 hr10 => ?_
    refine zAB ?_
    refine zAJ ?_
    refine zAA ?_
    refine zAD ?_
    refine zAS (T := tab) rfl rfl rfl rfl fun i12 hi12 => ?_
    refine pe 1 ?_
    refine zAB ?_
    exact zBG (i12, r10) ⟨rfl, rfl, rfl, rfl, trivial⟩ ⟨rfl, rfl, trivial⟩ rfl
   ·refine zAF ?_
    refine zAA ?_
    refine zAD ?_
    refine pe 2 ?_
    refine zEJ (T := tab) (rows := [r9.1].map cStr) 36 rfl rfl rfl rfl rfl rfl rfl rfl rfl rfl rfl rfl rfl rfl ?_
    refine zAf [900001] (enc := fun (r11 : (List Int)) => .tup []) (Sr := fun (r11 : (List Int)) => [(900000, .box 64 [.nloc 900000 0, .ownb 900001]), (36, .arr 9 1 ([r9.1].map cStr)), (900001, .arr 5 1 (r11.map zAC))]) (first := []) (cap := []) (qs := [.loc 900000 0, .own 36]) (Sc := [(900000, .box 64 [.nloc 900000 0, .ownb 900001]), (36, .arr 9 1 ([r9.1].map cStr)), (900001, .arr 5 1 (l7.map zAC))]) (N0 := [900000, 36]) (NR := [900000, 36, 900001]) (fun r11 hr11 => zA4 [(900000, 900000), (900001, 36), (900002, 900001)] [900000, 900001, 900002] (zA1 fu [r9.1] l7 _ hr11) rfl rfl rfl rfl rfl rfl) ⟨rfl, rfl, rfl, trivial⟩ (fun _ => rfl) rfl rfl rfl rfl rfl rfl rfl (fun _ => rfl) (fun _ => rfl) rfl rfl rfl ⟨⟨_, rfl, .rfl⟩, ⟨_, rfl, .rfl⟩, trivial⟩ zIH rfl rfl fun r11 hr11 => ?_
    refine zAB ?_
    refine zAJ ?_
    refine zAA ?_
    refine zAD ?_
    refine zAS (T := tab) rfl rfl rfl rfl fun i13 hi13 => ?_
    refine pe 1 ?_
    refine zAB ?_
    exact zBG (i13, r11) ⟨rfl, rfl, rfl, rfl, trivial⟩ ⟨rfl, rfl, trivial⟩ rfl
  ·refine zAl rfl ?_
   exact zDv (T := tab) rfl rfl rfl ⟨rfl, rfl⟩ ⟨rfl, rfl, trivial⟩ rfl
 ·refine pe 1 ?_
  refine zA9 (T := tab) cOp l2 rfl rfl rfl rfl rfl rfl rfl rfl ?_
  refine pe 2 ?_
  refine zAO (j := 13) rfl ?_ ?_
  ·refine pe 3 ?_
   refine ns ?_
   refine zAP rfl ?_ ?_
   ·refine zAD ?_
    refine pe 2 ?_
    refine zEJ (T := tab) (rows := [head1].map cStr) 19 rfl rfl rfl rfl rfl rfl rfl rfl rfl rfl rfl rfl rfl rfl ?_
    refine zAf [900001] (enc := fun (r4 : (List Int)) => .tup []) (Sr := fun (r4 : (List Int)) => [(900000, .box 64 [.nloc 900000 0, .ownb 900001]), (19, .arr 9 1 ([head1].map cStr)), (900001, .arr 5 1 (r4.map zAC))]) (first := []) (cap := []) (qs := [.loc 900000 0, .own 19]) (Sc := [(900000, .box 64 [.nloc 900000 0, .ownb 900001]), (19, .arr 9 1 ([head1].map cStr)), (900001, .arr 5 1 (l3.map zAC))]) (N0 := [900000, 19]) (NR := [900000, 19, 900001]) (fun r4 hr4 => zA4 [(900000, 900000), (900001, 19), (900002, 900001)] [900000, 900001, 900002] (zA1 fu [head1] l3 _ hr4) rfl rfl rfl rfl rfl rfl) ⟨rfl, rfl, rfl, trivial⟩ (fun _ => rfl) rfl rfl rfl rfl rfl rfl rfl (fun _ => rfl) (fun _ => rfl) rfl rfl rfl ⟨⟨_, rfl, .rfl⟩, ⟨_, rfl, .rfl⟩, trivial⟩ zIH rfl rfl fun r4 hr4 => ?_
    refine zAB ?_
    exact zAZ (hj1 r4) ⟨rfl, rfl, trivial⟩ ⟨rfl, rfl, trivial⟩ rfl
   ·refine zAF ?_
    exact zAZ (hj1 l3) ⟨rfl, rfl, trivial⟩ ⟨rfl, rfl, trivial⟩ rfl
  ·refine pe 3 ?_
   refine zAB ?_
   refine zAA (zA0 rfl ?_)
   refine zAF ?_
   exact zAZ (hj1 l3) ⟨rfl, rfl, trivial⟩ ⟨rfl, rfl, trivial⟩ rfl
def zCi (_fu : Nat) (l1 : (List Int)) : Option Int := some ((l1.length : Nat) : Int)
set_option maxRecDepth 100000 in
theorem zFG (fu : Nat) (l1 : (List Int)) : ∀ r, zCi fu l1 = some r → FC zAb Tryz.prog 29 [.loc 900000 0] [(900000, .box 64 [.nloc 900000 0, .ownb 900001]), (900001, .arr 5 1 (l1.map zAC))] [900000, 900001] fun p S' => p = .v (.int .i64 r) ∧ S' = [(900000, .box 64 [.nloc 900000 0, .ownb 900001]), (900001, .arr 5 1 (l1.map zAC))] := by
 intro r hr
 refine zAL (r := r)  (args := [.loc 900000 0]) (S := [(900000, .box 64 [.nloc 900000 0, .ownb 900001]), (900001, .arr 5 1 (l1.map zAC))]) (N0 := [900000, 900001]) (post := fun r p S => p = .v (.int .i64 r) ∧ S = [(900000, .box 64 [.nloc 900000 0, .ownb 900001]), (900001, .arr 5 1 (l1.map zAC))]) Tryz.func29 rfl rfl hr fun w0 X X0 σ0 _ => ?_
 refine sr ?_
 refine pe 1 ?_
 refine ns ?_
 refine sr ?_
 refine pe 4 ?_
 refine zJw 6 (q := .own 900001) rfl .ownb ?_
 refine zCb (T := tab) zAC l1 rfl rfl rfl rfl rfl rfl rfl rfl rfl ?_
 refine pe 1 ?_
 refine ns ?_
 exact rN
set_option maxRecDepth 100000 in
theorem zD5 (fu : Nat) (l1 : (List Int)) : ∀ r, zAa fu l1 = some r → FC zAb Tryz.prog 30 [.loc 900000 0] [(900000, .box 64 [.nloc 900000 0, .ownb 900001]), (900001, .arr 5 1 (l1.map zAC))] [900000, 900001] fun p S' => p = .v (.string ⟨⟨r⟩⟩) ∧ S' = [(900000, .box 64 [.nloc 900000 0, .junk])] := by
 intro r hr
 refine zAL (r := r)  (args := [.loc 900000 0]) (S := [(900000, .box 64 [.nloc 900000 0, .ownb 900001]), (900001, .arr 5 1 (l1.map zAC))]) (N0 := [900000, 900001]) (post := fun r p S => p = .v (.string ⟨⟨r⟩⟩) ∧ S = [(900000, .box 64 [.nloc 900000 0, .junk])]) Tryz.func30 rfl rfl hr fun w0 X X0 σ0 _ => ?_
 refine sr ?_
 refine pe 1 ?_
 refine ns ?_
 refine zAE ?_
 refine zBA (E' := [(0, .loc 900000 0)]) (S' := [(900000, .box 64 [.nloc 900000 0, .ownb 900001]), (900001, .arr 5 1 (l1.map zAC))]) ?_ ⟨rfl, trivial⟩ ⟨rfl, rfl, trivial⟩ rfl
 refine zBS [0, 1, 3, 7, 15, 0, 32, 96, 224, 480, 1023, 2047] mixed (by kernel_rfl) (by kernel_rfl) rfl rfl ?_
 refine ve [0] [6] [900000] [(3, .loc 900000 0)] ?_
 refine ve [6] [8] [900000] [(4, .loc 900000 0)] ?_
 refine ve [8] [10] [900000] [(5, .loc 900000 1)] ?_
 refine vf [10, 1800001] [12] [] [900000, 900001] [900000] [(6, .ownb 900001)] [(900000, .box 64 [.nloc 900000 0, .ownb 900001])] ?_
 refine zAX [12, 1800003] [14] [] [900001] [900001] [(7, .dat 900001)] [(900001, .arr 5 1 (l1.map zAC))] rfl rfl rfl rfl (by kernel_rfl) (by kernel_rfl) (by kernel_rfl) ⟨rfl, trivial⟩ (fun w0 X X0 σ0 _ => by refine zFN rfl rfl rfl rfl rfl rfl ?_; refine zAB ?_; exact zAw ⟨rfl, trivial⟩ ⟨rfl, trivial⟩ rfl) ?_
 refine ve [0] [16] [900000] [(8, .loc 900000 0)] ?_
 refine ve [16] [18] [900000] [(9, .loc 900000 0)] ?_
 refine ve [18] [20] [900000] [(10, .loc 900000 1)] ?_
 refine vf [20, 1800001] [22] [] [900000, 900001] [900000] [(11, .ownb 900001)] [(900000, .box 64 [.nloc 900000 0, .ownb 900001])] ?_
 refine zAX [22, 1800003] [24, 22] [] [900001] [900001] [(12, .v (.int .i64 ((l1.length : Nat) : Int))), (11, .own 900001)] [(900001, .arr 5 1 (l1.map zAC))] rfl rfl rfl rfl (by kernel_rfl) (by kernel_rfl) (by kernel_rfl) ⟨rfl, trivial⟩ (fun w0 X X0 σ0 _ => by refine zJw 11 (q := .own 900001) rfl .ownb ?_; refine zCb (T := tab) zAC l1 rfl rfl rfl rfl rfl rfl rfl rfl rfl ?_; refine zAB ?_; exact zAw ⟨rfl, rfl, trivial⟩ ⟨rfl, trivial⟩ rfl) ?_
 refine zAX [12, 14, 22, 24, 1800001, 1800003] [26, 12, 14, 22, 1800001, 1800003] [] [900000, 900001] [] [(13, .v (.string ⟨⟨(zD6 l1)⟩⟩)), (11, .sl 1 false (l1.map zAC))] [(900000, .box 64 [.nloc 900000 0, .junk])] rfl rfl rfl rfl (by kernel_rfl) (by kernel_rfl) (by kernel_rfl) trivial (fun w0 X X0 σ0 _ => by refine zGC zAC l1 (fun _ => rfl) rfl rfl rfl rfl rfl rfl rfl Tryz.underlying127 (by kernel_rfl) rfl rfl rfl rfl ?_; refine zAB ?_; exact zAw ⟨rfl, rfl, trivial⟩ ⟨rfl, trivial⟩ rfl) ?_
 refine ve [26] [4] [] [(2, .v (.string ⟨⟨(zD6 l1)⟩⟩))] ?_
 refine zB0 rfl rfl ?_
 refine zAA ?_
 exact rN
def zCr (fu : Nat) (t3 : Int) (y5 : Class) (rc1 : (Int × (List Int)) → Option (Bs × Int)) : Nat → Int × (List Int) → Option (Bs × Int)
 | 0, _ => none
 | k3 + 1, (t16, l17) => cnd (decide (t16 < ((y5.Hooks.length : Nat) : Int))) (bnd (idx y5.Hooks t16) fun y18 => bnd (zC1 fu) fun r19 => bnd (idx r19 y18.Kind) fun y20 => bnd (zAT fu [[111, 110], y20] l17) fun r21 => bnd (zBC fu [] y18.Do r21) fun r22 => bnd (rng .i64 (t16 + 1)) fun i23 => (zCr fu t3 y5 rc1 k3) (i23, r22)) (bnd (rng .i64 (t3 + 1)) fun i24 => rc1 (i24, l17))
def zCv (fu : Nat) (t3 : Int) (y5 : Class) (rc1 : (Int × (List Int)) → Option (Bs × Int)) : Nat → Int × (List Int) → Option (Bs × Int)
 | 0, _ => none
 | k2 + 1, (t9, l10) => cnd (decide (t9 < ((y5.Watch.length : Nat) : Int))) (bnd (idx y5.Watch t9) fun y11 => bnd (zAT fu [[119, 97, 116, 99, 104], y11] l10) fun r12 => bnd (rng .i64 (t9 + 1)) fun i13 => (zCv fu t3 y5 rc1 k2) (i13, r12)) (bnd (zBC fu [112, 101, 101, 107] y5.Peek l10) fun r14 => bnd (zBC fu [109, 97, 107, 101] y5.Make r14) fun r15 => (zCr fu t3 y5 rc1) fu (0, r15))
def zDM (fu : Nat) (t3 : Int) (y5 : Class) (rc1 : (Int × (List Int)) → Option (Bs × Int)) (l8 : (List Int)) : Option (Bs × Int) := (zCv fu t3 y5 rc1) fu (0, l8)
def zBB (fu : Nat) (s1 : Script) : Nat → Int × (List Int) → Option (Bs × Int)
 | 0, _ => none
 | k1 + 1, (t3, l4) => cnd (decide (t3 < ((s1.Classes.length : Nat) : Int))) (bnd (idx s1.Classes t3) fun y5 => cnd y5.Form (bnd (zAT fu [[99, 108, 97, 115, 115], [102, 111, 114, 109]] l4) fun r6 => (zDM fu t3 y5 (zBB fu s1 k1)) r6) (bnd (zAT fu [[99, 108, 97, 115, 115]] l4) fun r7 => (zDM fu t3 y5 (zBB fu s1 k1)) r7)) (bnd (zBC fu [109, 97, 105, 110] s1.Main l4) fun r25 => bnd (zCi fu r25) fun r26 => cnd (decide (r26 > 16384)) (some ([], 3)) (bnd (zAa fu r25) fun r27 => some (r27, 0)))
def zDF (fu : Nat) (s1 : Script) : Option (Bs × Int) := bnd (zBP fu s1) fun r2 => cnd (!r2) (some ([], 1)) ((zBB fu s1) fu (0, []))
set_option maxHeartbeats 10000000 in
set_option maxRecDepth 100000 in
theorem zGl (fu : Nat) (s1 : Script) : ∀ r, zDF fu s1 = some r → DC zAb Tryz.prog 12 [.agg (zBZ s1)] (.tup [.v (.string ⟨⟨r.1⟩⟩), .v (.int .i64 r.2)]) := by
 intro r hr
 refine zAL (r := r)  (args := [.agg (zBZ s1)]) (S := []) (N0 := []) (post := fun r p S => p = .tup [.v (.string ⟨⟨r.1⟩⟩), .v (.int .i64 r.2)] ∧ S = []) Tryz.func12 rfl rfl hr fun w0 X X0 σ0 _ => ?_
 refine sr ?_
 refine zDo  1 rfl rfl rfl rfl rfl rfl rfl rfl rfl rfl ?_
 refine pe 2 ?_
 refine ns ?_
 refine zAE ?_
 refine sr ?_
 refine pe 1 ?_
 refine zAK (enc := fun (r2 : Bool) => .v (.bool r2)) (qs := [.agg (zBZ s1)]) (zCt fu s1) rfl rfl ⟨⟨_, rfl, .rfl⟩, trivial⟩ (fun _ => rfl) zMW rfl rfl fun r2 hr2 => ?_
 refine pe 1 ?_
 refine ns ?_
 refine zAP rfl ?_ ?_
 ·refine sr ?_
  refine pe 2 ?_
  refine ns ?_
  exact rN
 ·refine zAF ?_
  refine zAA ?_
  refine sr ?_
  refine zBJ (T := tab) 4 rfl rfl rfl rfl rfl rfl rfl rfl rfl ?_
  refine zLY 4 [.nloc 4 0, .v (.slice none 0 0)] rfl ⟨.nloc0, .rfl, trivial⟩ rfl ?_
  refine zFH 5040 5 1 4 1 rfl rfl rfl rfl rfl rfl ?_
  refine ns ?_
  refine zAE ?_
  refine sr ?_
  refine pe 2 ?_
  refine zA9 (T := tab) zAG s1.Classes rfl rfl rfl rfl rfl rfl rfl rfl ?_
  refine pe 1 ?_
  refine ns ?_
  refine zAM ?_
  refine zBe (zBB fu s1) (fun ((t3, l4) : Int × (List Int)) => [(1, .loc 1 0), (4, .loc 4 0), (15, .sl 5 false (s1.Classes.map zAG)), (16, .v (.int .i64 ((s1.Classes.length : Nat) : Int))), (17, .v (.int .i64 t3))]) (fun ((t3, l4) : Int × (List Int)) => [(5040, .arr 5 1 (l4.map zAC)), (4, .box 64 [.nloc 4 0, .ownb 5040]), (1, .box 25 [.sl 5 false (s1.Classes.map zAG), .sl 7 false (s1.Main.map cOp)])]) fu (0, []) (fun _ => rfl) ⟨rfl, rfl, rfl, rfl, rfl, trivial⟩ ⟨rfl, rfl, rfl, trivial⟩ rfl ?_
  rintro k1 ⟨t3, l4⟩
  refine sr ?_
  refine pe 1 ?_
  refine ns ?_
  refine zAE ?_
  refine zAP rfl ?_ ?_
  ·refine zAF ?_
   refine zAA ?_
   refine zAE ?_
   refine zAM ?_
   refine sr ?_
   refine zCe (T := tab) zAG s1.Classes rfl rfl rfl rfl rfl rfl rfl fun y5 hy5 => ?_
   refine pe 1 ?_
   refine zBJ (T := tab) 6 rfl rfl rfl rfl rfl rfl rfl rfl rfl ?_
   refine zAN (T := tab) rfl rfl rfl rfl rfl rfl rfl rfl rfl rfl rfl rfl ?_
   refine ns ?_
   refine zAE ?_
   refine sr ?_
   refine pe 2 ?_
   refine ns ?_
   refine zCD (zDM fu t3 y5 (zBB fu s1 k1)) (fun (l8 : (List Int)) => [(1, .loc 1 0), (4, .loc 4 0), (6, .loc 6 0), (15, .sl 5 false (s1.Classes.map zAG)), (16, .v (.int .i64 ((s1.Classes.length : Nat) : Int))), (17, .v (.int .i64 t3))]) (fun (l8 : (List Int)) => [(4, .box 64 [.nloc 4 0, .ownb 5040]), (5040, .arr 5 1 (l8.map zAC)), (6, .box 51 [.v (.bool y5.Form), .sl 1 false (y5.Watch.map cStr), .sl 7 false (y5.Peek.map cOp), .sl 7 false (y5.Make.map cOp), .sl 2 false (y5.Hooks.map zAU)]), (1, .box 25 [.sl 5 false (s1.Classes.map zAG), .sl 7 false (s1.Main.map cOp)])]) ?_ fun hj1 => ?_
   ·rintro l8
    refine zAA ?_
    refine zAE ?_
    refine sr ?_
    refine pe 2 ?_
    refine zA9 (T := tab) cStr y5.Watch rfl rfl rfl rfl rfl rfl rfl rfl ?_
    refine pe 1 ?_
    refine ns ?_
    refine zAM ?_
    refine zBe (zCv fu t3 y5 (zBB fu s1 k1)) (fun ((t9, l10) : Int × (List Int)) => [(1, .loc 1 0), (4, .loc 4 0), (6, .loc 6 0), (15, .sl 5 false (s1.Classes.map zAG)), (16, .v (.int .i64 ((s1.Classes.length : Nat) : Int))), (17, .v (.int .i64 t3)), (28, .sl 1 false (y5.Watch.map cStr)), (29, .v (.int .i64 ((y5.Watch.length : Nat) : Int))), (30, .v (.int .i64 t9))]) (fun ((t9, l10) : Int × (List Int)) => [(4, .box 64 [.nloc 4 0, .ownb 5040]), (5040, .arr 5 1 (l10.map zAC)), (6, .box 51 [.v (.bool y5.Form), .sl 1 false (y5.Watch.map cStr), .sl 7 false (y5.Peek.map cOp), .sl 7 false (y5.Make.map cOp), .sl 2 false (y5.Hooks.map zAU)]), (1, .box 25 [.sl 5 false (s1.Classes.map zAG), .sl 7 false (s1.Main.map cOp)])]) fu (0, l8) (fun _ => rfl) ⟨rfl, rfl, rfl, rfl, rfl, rfl, rfl, rfl, rfl, trivial⟩ ⟨rfl, rfl, rfl, rfl, trivial⟩ rfl ?_
    rintro k2 ⟨t9, l10⟩
    refine sr ?_
    refine pe 1 ?_
    refine ns ?_
    refine zAE ?_
    refine zAP rfl ?_ ?_
    ·refine zAF ?_
     refine zAA ?_
     refine zAE ?_
     refine zAM ?_
     refine sr ?_
     refine zCe (T := tab) cStr y5.Watch rfl rfl rfl rfl rfl rfl rfl fun y11 hy11 => ?_
     refine pe 2 ?_
     refine ns ?_
     refine zAD ?_
     refine pe 1 ?_
     refine zEJ (T := tab) (rows := [[119, 97, 116, 99, 104], y11].map cStr) 35 rfl rfl rfl rfl rfl rfl rfl rfl rfl rfl rfl rfl rfl rfl ?_
     refine zAf [5040] (enc := fun (r12 : (List Int)) => .tup []) (Sr := fun (r12 : (List Int)) => [(4, .box 64 [.nloc 4 0, .ownb 5040]), (35, .arr 9 1 ([[119, 97, 116, 99, 104], y11].map cStr)), (5040, .arr 5 1 (r12.map zAC))]) (first := []) (cap := []) (qs := [.loc 4 0, .own 35]) (Sc := [(4, .box 64 [.nloc 4 0, .ownb 5040]), (35, .arr 9 1 ([[119, 97, 116, 99, 104], y11].map cStr)), (5040, .arr 5 1 (l10.map zAC))]) (N0 := [4, 35]) (NR := [4, 35, 5040]) (fun r12 hr12 => zA4 [(900000, 4), (900001, 35), (900002, 5040)] [900000, 900001, 900002] (zA1 fu [[119, 97, 116, 99, 104], y11] l10 _ hr12) rfl rfl rfl rfl rfl rfl) ⟨rfl, rfl, rfl, trivial⟩ (fun _ => rfl) rfl rfl rfl rfl rfl rfl rfl (fun _ => rfl) (fun _ => rfl) rfl rfl rfl ⟨⟨_, rfl, .rfl⟩, ⟨_, rfl, .rfl⟩, trivial⟩ zIH rfl rfl fun r12 hr12 => ?_
     refine zAB ?_
     refine zAJ ?_
     refine zAA ?_
     refine zAD ?_
     refine zAS (T := tab) rfl rfl rfl rfl fun i13 hi13 => ?_
     refine pe 1 ?_
     refine zAB ?_
     exact zBG (i13, r12) ⟨rfl, rfl, rfl, rfl, rfl, rfl, rfl, rfl, rfl, trivial⟩ ⟨rfl, rfl, rfl, rfl, trivial⟩ rfl
    ·refine zAl rfl ?_
     refine zAA ?_
     refine sr ?_
     refine pe 2 ?_
     refine zAf [5040] (enc := fun (r14 : (List Int)) => .tup []) (Sr := fun (r14 : (List Int)) => [(4, .box 64 [.nloc 4 0, .ownb 5040]), (5040, .arr 5 1 (r14.map zAC))]) (first := []) (cap := []) (qs := [.loc 4 0, .v (.string ⟨⟨[112, 101, 101, 107]⟩⟩), .sl 7 false (y5.Peek.map cOp)]) (Sc := [(4, .box 64 [.nloc 4 0, .ownb 5040]), (5040, .arr 5 1 (l10.map zAC))]) (N0 := [4]) (NR := [4, 5040]) (fun r14 hr14 => zA4 [(900000, 4), (900001, 5040)] [900000, 900001] (zCI fu [112, 101, 101, 107] y5.Peek l10 _ hr14) rfl rfl rfl rfl rfl rfl) ⟨rfl, rfl, trivial⟩ (fun _ => rfl) rfl rfl rfl rfl rfl rfl rfl (fun _ => rfl) (fun _ => rfl) rfl rfl rfl ⟨⟨_, rfl, .rfl⟩, ⟨_, rfl, .rfl⟩, ⟨_, rfl, .rfl⟩, trivial⟩ zMZ rfl rfl fun r14 hr14 => ?_
     refine ns ?_
     refine sr ?_
     refine pe 2 ?_
     refine zAf [5040] (enc := fun (r15 : (List Int)) => .tup []) (Sr := fun (r15 : (List Int)) => [(4, .box 64 [.nloc 4 0, .ownb 5040]), (5040, .arr 5 1 (r15.map zAC))]) (first := []) (cap := []) (qs := [.loc 4 0, .v (.string ⟨⟨[109, 97, 107, 101]⟩⟩), .sl 7 false (y5.Make.map cOp)]) (Sc := [(4, .box 64 [.nloc 4 0, .ownb 5040]), (5040, .arr 5 1 (r14.map zAC))]) (N0 := [4]) (NR := [4, 5040]) (fun r15 hr15 => zA4 [(900000, 4), (900001, 5040)] [900000, 900001] (zCI fu [109, 97, 107, 101] y5.Make r14 _ hr15) rfl rfl rfl rfl rfl rfl) ⟨rfl, rfl, trivial⟩ (fun _ => rfl) rfl rfl rfl rfl rfl rfl rfl (fun _ => rfl) (fun _ => rfl) rfl rfl rfl ⟨⟨_, rfl, .rfl⟩, ⟨_, rfl, .rfl⟩, ⟨_, rfl, .rfl⟩, trivial⟩ zMZ rfl rfl fun r15 hr15 => ?_
     refine ns ?_
     refine sr ?_
     refine pe 2 ?_
     refine zA9 (T := tab) zAU y5.Hooks rfl rfl rfl rfl rfl rfl rfl rfl ?_
     refine pe 1 ?_
     refine ns ?_
     refine zAM ?_
     refine zBe (zCr fu t3 y5 (zBB fu s1 k1)) (fun ((t16, l17) : Int × (List Int)) => [(1, .loc 1 0), (4, .loc 4 0), (15, .sl 5 false (s1.Classes.map zAG)), (16, .v (.int .i64 ((s1.Classes.length : Nat) : Int))), (17, .v (.int .i64 t3)), (45, .sl 2 false (y5.Hooks.map zAU)), (46, .v (.int .i64 ((y5.Hooks.length : Nat) : Int))), (47, .v (.int .i64 t16))]) (fun ((t16, l17) : Int × (List Int)) => [(4, .box 64 [.nloc 4 0, .ownb 5040]), (5040, .arr 5 1 (l17.map zAC)), (1, .box 25 [.sl 5 false (s1.Classes.map zAG), .sl 7 false (s1.Main.map cOp)])]) fu (0, r15) (fun _ => rfl) ⟨rfl, rfl, rfl, rfl, rfl, rfl, rfl, rfl, trivial⟩ ⟨rfl, rfl, rfl, trivial⟩ rfl ?_
     rintro k3 ⟨t16, l17⟩
     refine sr ?_
     refine pe 1 ?_
     refine ns ?_
     refine zAE ?_
     refine zAP rfl ?_ ?_
     ·refine zAF ?_
      refine zAA ?_
      refine zAE ?_
      refine zAM ?_
      refine sr ?_
      refine zCe (T := tab) zAU y5.Hooks rfl rfl rfl rfl rfl rfl rfl fun y18 hy18 => ?_
      refine pe 1 ?_
      refine zBJ (T := tab) 10 rfl rfl rfl rfl rfl rfl rfl rfl rfl ?_
      refine zAN (T := tab) rfl rfl rfl rfl rfl rfl rfl rfl rfl rfl rfl rfl ?_
      refine ns ?_
      refine zAE ?_
      refine zBA (E' := [(1, .loc 1 0), (4, .loc 4 0), (15, .sl 5 false (s1.Classes.map zAG)), (16, .v (.int .i64 ((s1.Classes.length : Nat) : Int))), (17, .v (.int .i64 t3)), (45, .sl 2 false (y5.Hooks.map zAU)), (46, .v (.int .i64 ((y5.Hooks.length : Nat) : Int))), (47, .v (.int .i64 t16)), (10, .loc 10 0)]) (S' := [(10, .box 54 [.v (.int .i64 y18.Kind), .sl 7 false (y18.Do.map cOp)]), (4, .box 64 [.nloc 4 0, .ownb 5040]), (5040, .arr 5 1 (l17.map zAC)), (1, .box 25 [.sl 5 false (s1.Classes.map zAG), .sl 7 false (s1.Main.map cOp)])]) ?_ ⟨rfl, rfl, rfl, rfl, rfl, rfl, rfl, rfl, rfl, trivial⟩ ⟨rfl, rfl, rfl, rfl, trivial⟩ rfl
      refine zBS [0, 0, 2, 7, 15, 31, 63] mixed (by kernel_rfl) (by kernel_rfl) rfl rfl ?_
      refine zAi (M := (zC1 fu)) (ment := [(102, [])]) [] [102] [] [] [] (fun r19 => [(51, .sl 1 false (r19.map cStr))]) (fun r19 => []) rfl rfl (fun _ => rfl) (fun _ => rfl) (by kernel_rfl) (by kernel_rfl) (fun _ => by kernel_rfl) (fun _ => trivial) (fun w0 X X0 σ0 _ => by refine zAK (enc := fun (r19 : (List Bs)) => .sl 1 false (r19.map cStr)) (qs := []) (zFX fu) rfl rfl trivial (fun _ => rfl) zRC rfl rfl fun r19 hr19 => ?_; refine zAB ?_; exact zBn ⟨rfl, trivial⟩ trivial rfl) fun r19 hr19 => ?_
      refine ve [20] [104] [10] [(52, .loc 10 0)] ?_
      refine vf [21, 104] [106] [] [10] [10] [(53, .v (.int .i64 y18.Kind))] [(10, .box 54 [.v (.int .i64 y18.Kind), .sl 7 false (y18.Do.map cOp)])] ?_
      refine zAi (M := (idx r19 y18.Kind)) (ment := [(108, [])]) [102, 106] [108] [] [] [] (fun y20 => [(54, .el (cStr y20) 0)]) (fun y20 => []) rfl rfl (fun _ => rfl) (fun _ => rfl) (by kernel_rfl) (by kernel_rfl) (fun _ => by kernel_rfl) (fun _ => trivial) (fun w0 X X0 σ0 _ => by refine zCe (T := tab) cStr r19 rfl rfl rfl rfl rfl rfl rfl fun y20 hy20 => ?_; refine zAB ?_; exact zBn ⟨rfl, trivial⟩ trivial rfl) fun y20 hy20 => ?_
      refine ve [108] [110] [] [(55, .v (.string ⟨⟨y20⟩⟩))] ?_
      refine zAX [110] [112, 113] [56] [] [] [(56, .own 56)] [(56, .arr 9 1 ([[111, 110], y20].map cStr))] rfl rfl rfl rfl (by kernel_rfl) (by kernel_rfl) (by kernel_rfl) trivial (fun w0 X X0 σ0 _ => by refine zEJ (T := tab) (rows := [[111, 110], y20].map cStr) 56 rfl rfl rfl rfl rfl rfl rfl rfl rfl rfl rfl rfl rfl rfl ?_; refine zAB ?_; exact zAw ⟨rfl, trivial⟩ ⟨rfl, trivial⟩ rfl) ?_
      refine zAi (M := (zAT fu [[111, 110], y20] l17)) (ment := [(114, []), (10081, []), (9, [4, 5040])]) [8, 9, 112, 113, 10081] [114, 10081, 9] [5040] [4, 56] [56] (fun r21 => [(57, .tup [])]) (fun r21 => [(5040, .arr 5 1 (r21.map zAC)), (4, .box 64 [.nloc 4 0, .ownb 5040]), (56, .arr 9 1 ([[111, 110], y20].map cStr))]) rfl rfl (fun _ => rfl) (fun _ => rfl) (by kernel_rfl) (by kernel_rfl) (fun _ => by kernel_rfl) (fun _ => ⟨rfl, trivial⟩) (fun w0 X X0 σ0 _ => by refine zAf [5040] (enc := fun (r21 : (List Int)) => .tup []) (Sr := fun (r21 : (List Int)) => [(4, .box 64 [.nloc 4 0, .ownb 5040]), (56, .arr 9 1 ([[111, 110], y20].map cStr)), (5040, .arr 5 1 (r21.map zAC))]) (first := []) (cap := []) (qs := [.loc 4 0, .own 56]) (Sc := [(4, .box 64 [.nloc 4 0, .ownb 5040]), (56, .arr 9 1 ([[111, 110], y20].map cStr)), (5040, .arr 5 1 (l17.map zAC))]) (N0 := [4, 56]) (NR := [4, 56, 5040]) (fun r21 hr21 => zA4 [(900000, 4), (900001, 56), (900002, 5040)] [900000, 900001, 900002] (zA1 fu [[111, 110], y20] l17 _ hr21) rfl rfl rfl rfl rfl rfl) ⟨rfl, rfl, rfl, trivial⟩ (fun _ => rfl) rfl rfl rfl rfl rfl rfl rfl (fun _ => rfl) (fun _ => rfl) rfl rfl rfl ⟨⟨_, rfl, .rfl⟩, ⟨_, rfl, .rfl⟩, trivial⟩ zIH rfl rfl fun r21 hr21 => ?_; refine zAB ?_; exact zBn ⟨rfl, trivial⟩ ⟨rfl, rfl, rfl, trivial⟩ rfl) fun r21 hr21 => ?_
      refine zB0 rfl rfl ?_
      refine zAA ?_
      refine zAD ?_
      refine pe 2 ?_
      refine zAf [5040] (enc := fun (r22 : (List Int)) => .tup []) (Sr := fun (r22 : (List Int)) => [(4, .box 64 [.nloc 4 0, .ownb 5040]), (5040, .arr 5 1 (r22.map zAC))]) (first := []) (cap := []) (qs := [.loc 4 0, .v (.string ⟨⟨[]⟩⟩), .sl 7 false (y18.Do.map cOp)]) (Sc := [(4, .box 64 [.nloc 4 0, .ownb 5040]), (5040, .arr 5 1 (r21.map zAC))]) (N0 := [4]) (NR := [4, 5040]) (fun r22 hr22 => zA4 [(900000, 4), (900001, 5040)] [900000, 900001] (zCI fu [] y18.Do r21 _ hr22) rfl rfl rfl rfl rfl rfl) ⟨rfl, rfl, trivial⟩ (fun _ => rfl) rfl rfl rfl rfl rfl rfl rfl (fun _ => rfl) (fun _ => rfl) rfl rfl rfl ⟨⟨_, rfl, .rfl⟩, ⟨_, rfl, .rfl⟩, ⟨_, rfl, .rfl⟩, trivial⟩ zMZ rfl rfl fun r22 hr22 => ?_
      refine zAB ?_
      refine zAJ ?_
      refine zAA ?_
      refine zAD ?_
      refine zAS (T := tab) rfl rfl rfl rfl fun i23 hi23 => ?_
      refine pe 1 ?_
      refine zAB ?_
      exact zBG (i23, r22) ⟨rfl, rfl, rfl, rfl, rfl, rfl, rfl, rfl, trivial⟩ ⟨rfl, rfl, rfl, trivial⟩ rfl
     ·refine zAl rfl ?_
      refine zAJ ?_
      refine zAA ?_
      refine zAD ?_
      refine zAS (T := tab) rfl rfl rfl rfl fun i24 hi24 => ?_
      refine pe 1 ?_
      refine zAB ?_
      exact zBG (i24, l17) ⟨rfl, rfl, rfl, rfl, rfl, trivial⟩ ⟨rfl, rfl, rfl, trivial⟩ rfl
   ·refine zAP rfl ?_ ?_
    ·refine zAD ?_
     refine zEJ (T := tab) (rows := [[99, 108, 97, 115, 115], [102, 111, 114, 109]].map cStr) 23 rfl rfl rfl rfl rfl rfl rfl rfl rfl rfl rfl rfl rfl rfl ?_
     refine zAf [5040] (enc := fun (r6 : (List Int)) => .tup []) (Sr := fun (r6 : (List Int)) => [(4, .box 64 [.nloc 4 0, .ownb 5040]), (23, .arr 9 1 ([[99, 108, 97, 115, 115], [102, 111, 114, 109]].map cStr)), (5040, .arr 5 1 (r6.map zAC))]) (first := []) (cap := []) (qs := [.loc 4 0, .own 23]) (Sc := [(4, .box 64 [.nloc 4 0, .ownb 5040]), (23, .arr 9 1 ([[99, 108, 97, 115, 115], [102, 111, 114, 109]].map cStr)), (5040, .arr 5 1 (l4.map zAC))]) (N0 := [4, 23]) (NR := [4, 23, 5040]) (fun r6 hr6 => zA4 [(900000, 4), (900001, 23), (900002, 5040)] [900000, 900001, 900002] (zA1 fu [[99, 108, 97, 115, 115], [102, 111, 114, 109]] l4 _ hr6) rfl rfl rfl rfl rfl rfl) ⟨rfl, rfl, rfl, trivial⟩ (fun _ => rfl) rfl rfl rfl rfl rfl rfl rfl (fun _ => rfl) (fun _ => rfl) rfl rfl rfl ⟨⟨_, rfl, .rfl⟩, ⟨_, rfl, .rfl⟩, trivial⟩ zIH rfl rfl fun r6 hr6 => ?_
     refine zAB ?_
     exact zAZ (hj1 r6) ⟨rfl, rfl, rfl, rfl, rfl, rfl, trivial⟩ ⟨rfl, rfl, rfl, rfl, trivial⟩ rfl
    ·refine zAD ?_
     refine zEJ (T := tab) (rows := [[99, 108, 97, 115, 115]].map cStr) 25 rfl rfl rfl rfl rfl rfl rfl rfl rfl rfl rfl rfl rfl rfl ?_
     refine zAf [5040] (enc := fun (r7 : (List Int)) => .tup []) (Sr := fun (r7 : (List Int)) => [(4, .box 64 [.nloc 4 0, .ownb 5040]), (25, .arr 9 1 ([[99, 108, 97, 115, 115]].map cStr)), (5040, .arr 5 1 (r7.map zAC))]) (first := []) (cap := []) (qs := [.loc 4 0, .own 25]) (Sc := [(4, .box 64 [.nloc 4 0, .ownb 5040]), (25, .arr 9 1 ([[99, 108, 97, 115, 115]].map cStr)), (5040, .arr 5 1 (l4.map zAC))]) (N0 := [4, 25]) (NR := [4, 25, 5040]) (fun r7 hr7 => zA4 [(900000, 4), (900001, 25), (900002, 5040)] [900000, 900001, 900002] (zA1 fu [[99, 108, 97, 115, 115]] l4 _ hr7) rfl rfl rfl rfl rfl rfl) ⟨rfl, rfl, rfl, trivial⟩ (fun _ => rfl) rfl rfl rfl rfl rfl rfl rfl (fun _ => rfl) (fun _ => rfl) rfl rfl rfl ⟨⟨_, rfl, .rfl⟩, ⟨_, rfl, .rfl⟩, trivial⟩ zIH rfl rfl fun r7 hr7 => ?_
     refine zAB ?_
     exact zAZ (hj1 r7) ⟨rfl, rfl, rfl, rfl, rfl, rfl, trivial⟩ ⟨rfl, rfl, rfl, rfl, trivial⟩ rfl
  ·refine zAl rfl ?_
   refine zAA ?_
   refine sr ?_
   refine pe 2 ?_
   refine zAf [5040] (enc := fun (r25 : (List Int)) => .tup []) (Sr := fun (r25 : (List Int)) => [(4, .box 64 [.nloc 4 0, .ownb 5040]), (5040, .arr 5 1 (r25.map zAC))]) (first := []) (cap := []) (qs := [.loc 4 0, .v (.string ⟨⟨[109, 97, 105, 110]⟩⟩), .sl 7 false (s1.Main.map cOp)]) (Sc := [(4, .box 64 [.nloc 4 0, .ownb 5040]), (5040, .arr 5 1 (l4.map zAC))]) (N0 := [4]) (NR := [4, 5040]) (fun r25 hr25 => zA4 [(900000, 4), (900001, 5040)] [900000, 900001] (zCI fu [109, 97, 105, 110] s1.Main l4 _ hr25) rfl rfl rfl rfl rfl rfl) ⟨rfl, rfl, trivial⟩ (fun _ => rfl) rfl rfl rfl rfl rfl rfl rfl (fun _ => rfl) (fun _ => rfl) rfl rfl rfl ⟨⟨_, rfl, .rfl⟩, ⟨_, rfl, .rfl⟩, ⟨_, rfl, .rfl⟩, trivial⟩ zMZ rfl rfl fun r25 hr25 => ?_
   refine ns ?_
   refine zAE ?_
   refine sr ?_
   refine pe 1 ?_
   refine zDh (enc := fun (r26 : Int) => .v (.int .i64 r26)) (first := []) (cap := []) (qs := [.loc 4 0]) (Sc := [(4, .box 64 [.nloc 4 0, .ownb 5040]), (5040, .arr 5 1 (r25.map zAC))]) (fun r26 hr26 => zA4 [(900000, 4), (900001, 5040)] [900000, 900001] (zFG fu r25 _ hr26) rfl rfl rfl rfl rfl rfl) (zBp ⟨rfl, rfl, trivial⟩ rfl) rfl rfl rfl rfl ⟨⟨_, rfl, .rfl⟩, trivial⟩ (fun _ => rfl) call29 rfl rfl fun r26 hr26 => ?_
   refine pe 1 ?_
   refine ns ?_
   refine zAP rfl ?_ ?_
   ·refine sr ?_
    refine pe 2 ?_
    refine ns ?_
    exact rN
   ·refine zAF ?_
    refine zAA ?_
    refine sr ?_
    refine pe 1 ?_
    refine zAf [] (enc := fun (r27 : Bs) => .v (.string ⟨⟨r27⟩⟩)) (Sr := fun (r27 : Bs) => [(4, .box 64 [.nloc 4 0, .junk])]) (first := []) (cap := []) (qs := [.loc 4 0]) (Sc := [(4, .box 64 [.nloc 4 0, .ownb 5040]), (5040, .arr 5 1 (r25.map zAC))]) (N0 := [4, 5040]) (NR := [4]) (fun r27 hr27 => zA4 [(900000, 4), (900001, 5040)] [900000, 900001] (zD5 fu r25 _ hr27) rfl rfl rfl rfl rfl rfl) ⟨rfl, rfl, trivial⟩ (fun _ => rfl) rfl rfl rfl rfl rfl rfl rfl (fun _ => rfl) (fun _ => rfl) rfl rfl rfl ⟨⟨_, rfl, .rfl⟩, trivial⟩ zLs rfl rfl fun r27 hr27 => ?_
    refine pe 2 ?_
    refine ns ?_
    exact rN
def zCa (fu : Nat) : Option Bool := bnd (zCX fu [99, 108, 97, 115, 115, 32, 102, 111, 114, 109, 10, 119, 97, 116, 99, 104, 32, 97, 10, 109, 97, 107, 101, 10, 115, 117, 112, 101, 114, 10, 111, 110, 32, 99, 97, 109, 101, 10, 33, 116, 104, 114, 111, 119, 10, 109, 97, 105, 110, 10, 100, 101, 102, 105, 110, 101, 32, 48, 32, 34, 120, 45, 97, 34, 32, 34, 34, 10, 63, 10]) fun r1 => bnd (zDF fu r1.1) fun r2 => cnd (r1.2 == 0) (cnd (r2.2 == 0) (cnd (r2.1 == ([99, 108, 97, 115, 115, 32, 102, 111, 114, 109, 10, 119, 97, 116, 99, 104, 32, 97, 10, 109, 97, 107, 101, 10, 115, 117, 112, 101, 114, 10, 111, 110, 32, 99, 97, 109, 101, 10, 33, 116, 104, 114, 111, 119, 10, 109, 97, 105, 110, 10, 100, 101, 102, 105, 110, 101, 32, 48, 32, 34, 120, 45, 97, 34, 32, 34, 34, 10, 63, 10] : Bs)) (cnd (((r1.1.Classes.length : Nat) : Int) == 1) (bnd (idx r1.1.Classes 0) fun y3 => cnd y3.Form (bnd (idx r1.1.Classes 0) fun y4 => cnd (((y4.Make.length : Nat) : Int) == 1) (bnd (idx r1.1.Classes 0) fun y5 => cnd (((y5.Hooks.length : Nat) : Int) == 1) (cnd (((r1.1.Main.length : Nat) : Int) == 2) (bnd (idx r1.1.Main 1) fun y6 => cnd (eqOp y6 (⟨0, 0, 0, 0, [], [], false⟩ : Op)) (bnd (zBP fu r1.1) fun r7 => some r7) (some false)) (some false)) (some false)) (some false)) (some false)) (some false)) (some false)) (some false)) (some false)
set_option maxHeartbeats 10000000 in
set_option maxRecDepth 100000 in
theorem zFq (fu : Nat) : ∀ r, zCa fu = some r → DC zAb Tryz.prog 9 [] (.v (.bool r)) := by
 intro r hr
 refine zAL (r := r)  (args := []) (S := []) (N0 := []) (post := fun r p S => p = .v (.bool r) ∧ S = []) Tryz.func9 rfl rfl hr fun w0 X X0 σ0 _ => ?_
 refine sr ?_
 refine pe 1 ?_
 refine ns ?_
 refine sr ?_
 refine zAK (enc := fun (r1 : (Script × Int)) => .tup [.agg (zBZ r1.1), .v (.int .i64 r1.2)]) (qs := [.v (.string ⟨⟨[99, 108, 97, 115, 115, 32, 102, 111, 114, 109, 10, 119, 97, 116, 99, 104, 32, 97, 10, 109, 97, 107, 101, 10, 115, 117, 112, 101, 114, 10, 111, 110, 32, 99, 97, 109, 101, 10, 33, 116, 104, 114, 111, 119, 10, 109, 97, 105, 110, 10, 100, 101, 102, 105, 110, 101, 32, 48, 32, 34, 120, 45, 97, 34, 32, 34, 34, 10, 63, 10]⟩⟩)]) (zF2 fu [99, 108, 97, 115, 115, 32, 102, 111, 114, 109, 10, 119, 97, 116, 99, 104, 32, 97, 10, 109, 97, 107, 101, 10, 115, 117, 112, 101, 114, 10, 111, 110, 32, 99, 97, 109, 101, 10, 33, 116, 104, 114, 111, 119, 10, 109, 97, 105, 110, 10, 100, 101, 102, 105, 110, 101, 32, 48, 32, 34, 120, 45, 97, 34, 32, 34, 34, 10, 63, 10]) rfl rfl ⟨⟨_, rfl, .rfl⟩, trivial⟩ (fun _ => rfl) zQj rfl rfl fun r1 hr1 => ?_
 refine pe 3 ?_
 refine zBJ (T := tab) 1 rfl rfl rfl rfl rfl rfl rfl rfl rfl ?_
 refine zAN (T := tab) rfl rfl rfl rfl rfl rfl rfl rfl rfl rfl rfl rfl ?_
 refine pe 1 ?_
 refine ns ?_
 refine sr ?_
 refine pe 1 ?_
 refine zAK (enc := fun (r2 : (Bs × Int)) => .tup [.v (.string ⟨⟨r2.1⟩⟩), .v (.int .i64 r2.2)]) (qs := [.agg (zBZ r1.1)]) (zGl fu r1.1) rfl rfl ⟨⟨_, rfl, .rfl⟩, trivial⟩ (fun _ => rfl) zQw rfl rfl fun r2 hr2 => ?_
 refine pe 5 ?_
 refine ns ?_
 refine sr ?_
 refine pe 3 ?_
 refine zAO (j := 16) rfl ?_ ?_
 ·refine pe 4 ?_
  refine zAO (j := 20) rfl ?_ ?_
  ·refine pe 4 ?_
   refine zAO (j := 24) rfl ?_ ?_
   ·refine pe 2 ?_
    refine zA9 (T := tab) zAG r1.1.Classes rfl rfl rfl rfl rfl rfl rfl rfl ?_
    refine pe 3 ?_
    refine zAO (j := 30) rfl ?_ ?_
    ·refine pe 2 ?_
     refine zCe (T := tab) zAG r1.1.Classes rfl rfl rfl rfl rfl rfl rfl fun y3 hy3 => ?_
     refine pe 4 ?_
     refine zAO (j := 37) rfl ?_ ?_
     ·refine pe 2 ?_
      refine zCe (T := tab) zAG r1.1.Classes rfl rfl rfl rfl rfl rfl rfl fun y4 hy4 => ?_
      refine pe 2 ?_
      refine zA9 (T := tab) cOp y4.Make rfl rfl rfl rfl rfl rfl rfl rfl ?_
      refine pe 3 ?_
      refine zAO (j := 46) rfl ?_ ?_
      ·refine pe 2 ?_
       refine zCe (T := tab) zAG r1.1.Classes rfl rfl rfl rfl rfl rfl rfl fun y5 hy5 => ?_
       refine pe 2 ?_
       refine zA9 (T := tab) zAU y5.Hooks rfl rfl rfl rfl rfl rfl rfl rfl ?_
       refine pe 3 ?_
       refine zAO (j := 55) rfl ?_ ?_
       ·refine pe 2 ?_
        refine zA9 (T := tab) cOp r1.1.Main rfl rfl rfl rfl rfl rfl rfl rfl ?_
        refine pe 3 ?_
        refine zAO (j := 61) rfl ?_ ?_
        ·refine pe 2 ?_
         refine zCe (T := tab) cOp r1.1.Main rfl rfl rfl rfl rfl rfl rfl fun y6 hy6 => ?_
         refine pe 1 ?_
         refine zBI (T := tab) rfl rfl rfl rfl rfl rfl rfl ?_
         refine po_eq zOP rfl rfl rfl rfl rfl rfl rfl ?_
         refine pe 2 ?_
         refine zAO (j := 69) rfl ?_ ?_
         ·refine pe 1 ?_
          refine zAK (enc := fun (r7 : Bool) => .v (.bool r7)) (qs := [.agg (zBZ r1.1)]) (zCt fu r1.1) rfl rfl ⟨⟨_, rfl, .rfl⟩, trivial⟩ (fun _ => rfl) zMW rfl rfl fun r7 hr7 => ?_
          refine pe 2 ?_
          refine ns ?_
          exact rN
         ·refine pe 4 ?_
          refine ns ?_
          exact rN
        ·refine pe 12 ?_
         refine ns ?_
         exact rN
       ·refine pe 18 ?_
        refine ns ?_
        exact rN
      ·refine pe 27 ?_
       refine ns ?_
       exact rN
     ·refine pe 36 ?_
      refine ns ?_
      exact rN
    ·refine pe 43 ?_
     refine ns ?_
     exact rN
   ·refine pe 49 ?_
    refine ns ?_
    exact rN
  ·refine pe 53 ?_
   refine ns ?_
   exact rN
 ·refine pe 57 ?_
  refine ns ?_
  exact rN
def zBc (i2 : Int) (y3 : Class) (rc1 : Int → Option Bool) : Nat → Int → Option Bool
 | 0, _ => none
 | k2 + 1, k4 => cnd (decide (k4 < ((y3.Hooks.length : Nat) : Int))) (bnd (idx y3.Hooks k4) fun y5 => cnd (decide (((y5.Do.length : Nat) : Int) > 80)) (some false) (bnd (rng .i64 (k4 + 1)) fun i6 => (zBc i2 y3 rc1 k2) i6)) (bnd (rng .i64 (i2 + 1)) fun i7 => rc1 i7)
def zAp (fu : Nat) (classes1 : (List Class)) : Nat → Int → Option Bool
 | 0, _ => none
 | k1 + 1, i2 => cnd (decide (i2 < ((classes1.length : Nat) : Int))) (bnd (idx classes1 i2) fun y3 => cnd (decide (((y3.Watch.length : Nat) : Int) > 20)) (some false) (cnd (decide (((y3.Hooks.length : Nat) : Int) > 20)) (some false) (cnd (decide (((y3.Peek.length : Nat) : Int) > 80)) (some false) (cnd (decide (((y3.Make.length : Nat) : Int) > 80)) (some false) ((zBc i2 y3 (zAp fu classes1 k1)) fu 0))))) (some true)
def zCV (fu : Nat) (classes1 : (List Class)) : Option Bool := cnd (decide (((classes1.length : Nat) : Int) > 14)) (some false) ((zAp fu classes1) fu 0)
set_option maxHeartbeats 10000000 in
set_option maxRecDepth 100000 in
theorem zFv (fu : Nat) (classes1 : (List Class)) : ∀ r, zCV fu classes1 = some r → DC zAb Tryz.prog 23 [.sl 5 false (classes1.map zAG)] (.v (.bool r)) := by
 intro r hr
 refine zAL (r := r)  (args := [.sl 5 false (classes1.map zAG)]) (S := []) (N0 := []) (post := fun r p S => p = .v (.bool r) ∧ S = []) Tryz.func23 rfl rfl hr fun w0 X X0 σ0 _ => ?_
 refine sr ?_
 refine pe 1 ?_
 refine ns ?_
 refine zAE ?_
 refine sr ?_
 refine pe 1 ?_
 refine zA9 (T := tab) zAG classes1 rfl rfl rfl rfl rfl rfl rfl rfl ?_
 refine pe 1 ?_
 refine ns ?_
 refine zAP rfl ?_ ?_
 ·refine sr ?_
  refine pe 1 ?_
  refine ns ?_
  exact rN
 ·refine zAF ?_
  refine zAA ?_
  refine zAE ?_
  refine sr ?_
  refine pe 1 ?_
  refine ns ?_
  refine zAM ?_
  refine zBe (zAp fu classes1) (fun (i2 : Int) => [(0, .sl 5 false (classes1.map zAG)), (3, .v (.int .i64 i2))]) (fun (i2 : Int) => []) fu 0 (fun _ => rfl) ⟨rfl, rfl, trivial⟩ trivial rfl ?_
  rintro k1 i2
  refine zAE ?_
  refine sr ?_
  refine pe 2 ?_
  refine zA9 (T := tab) zAG classes1 rfl rfl rfl rfl rfl rfl rfl rfl ?_
  refine pe 1 ?_
  refine ns ?_
  refine zAP rfl ?_ ?_
  ·refine zAF ?_
   refine zAA ?_
   refine zAE ?_
   refine zAM ?_
   refine sr ?_
   refine pe 2 ?_
   refine zCe (T := tab) zAG classes1 rfl rfl rfl rfl rfl rfl rfl fun y3 hy3 => ?_
   refine pe 1 ?_
   refine zBJ (T := tab) 4 rfl rfl rfl rfl rfl rfl rfl rfl rfl ?_
   refine zAN (T := tab) rfl rfl rfl rfl rfl rfl rfl rfl rfl rfl rfl rfl ?_
   refine ns ?_
   refine zAE ?_
   refine sr ?_
   refine pe 2 ?_
   refine zA9 (T := tab) cStr y3.Watch rfl rfl rfl rfl rfl rfl rfl rfl ?_
   refine pe 2 ?_
   refine zAO (j := 23) rfl ?_ ?_
   ·refine pe 17 ?_
    refine zAB ?_
    refine zAA (zAg rfl ?_)
    refine sr ?_
    refine pe 1 ?_
    refine ns ?_
    exact rN
   ·refine pe 2 ?_
    refine zA9 (T := tab) zAU y3.Hooks rfl rfl rfl rfl rfl rfl rfl rfl ?_
    refine pe 3 ?_
    refine zAO (j := 29) rfl ?_ ?_
    ·refine pe 11 ?_
     refine zAB ?_
     refine zAA (zAg rfl ?_)
     refine sr ?_
     refine pe 1 ?_
     refine ns ?_
     exact rN
    ·refine pe 2 ?_
     refine zA9 (T := tab) cOp y3.Peek rfl rfl rfl rfl rfl rfl rfl rfl ?_
     refine pe 3 ?_
     refine zAO (j := 35) rfl ?_ ?_
     ·refine pe 5 ?_
      refine zAB ?_
      refine zAA (zAg rfl ?_)
      refine sr ?_
      refine pe 1 ?_
      refine ns ?_
      exact rN
     ·refine pe 2 ?_
      refine zA9 (T := tab) cOp y3.Make rfl rfl rfl rfl rfl rfl rfl rfl ?_
      refine pe 2 ?_
      refine ns ?_
      refine zAP rfl ?_ ?_
      ·refine sr ?_
       refine pe 1 ?_
       refine ns ?_
       exact rN
      ·refine zAF ?_
       refine zAA ?_
       refine sr ?_
       refine pe 1 ?_
       refine ns ?_
       refine zAM ?_
       refine zBe (zBc i2 y3 (zAp fu classes1 k1)) (fun (k4 : Int) => [(0, .sl 5 false (classes1.map zAG)), (3, .v (.int .i64 i2)), (4, .loc 4 0), (5, .v (.int .i64 k4))]) (fun (k4 : Int) => [(4, .box 51 [.v (.bool y3.Form), .sl 1 false (y3.Watch.map cStr), .sl 7 false (y3.Peek.map cOp), .sl 7 false (y3.Make.map cOp), .sl 2 false (y3.Hooks.map zAU)])]) fu 0 (fun _ => rfl) ⟨rfl, rfl, rfl, rfl, trivial⟩ ⟨rfl, trivial⟩ rfl ?_
       rintro k2 k4
       refine zAE ?_
       refine sr ?_
       refine pe 3 ?_
       refine zA9 (T := tab) zAU y3.Hooks rfl rfl rfl rfl rfl rfl rfl rfl ?_
       refine pe 1 ?_
       refine ns ?_
       refine zAP rfl ?_ ?_
       ·refine zAF ?_
        refine zAA ?_
        refine zAE ?_
        refine zAM ?_
        refine sr ?_
        refine pe 3 ?_
        refine zCe (T := tab) zAU y3.Hooks rfl rfl rfl rfl rfl rfl rfl fun y5 hy5 => ?_
        refine pe 2 ?_
        refine zA9 (T := tab) cOp y5.Do rfl rfl rfl rfl rfl rfl rfl rfl ?_
        refine pe 1 ?_
        refine ns ?_
        refine zAP rfl ?_ ?_
        ·refine sr ?_
         refine pe 1 ?_
         refine ns ?_
         exact rN
        ·refine zAF ?_
         refine zAJ ?_
         refine zAA ?_
         refine zAD ?_
         refine pe 1 ?_
         refine zAS (T := tab) rfl rfl rfl rfl fun i6 hi6 => ?_
         refine pe 1 ?_
         refine zAB ?_
         exact zBG i6 ⟨rfl, rfl, rfl, rfl, trivial⟩ ⟨rfl, trivial⟩ rfl
       ·refine zAl rfl ?_
        refine zAJ ?_
        refine zAA ?_
        refine zAD ?_
        refine pe 1 ?_
        refine zAS (T := tab) rfl rfl rfl rfl fun i7 hi7 => ?_
        refine pe 1 ?_
        refine zAB ?_
        exact zBG i7 ⟨rfl, rfl, trivial⟩ trivial rfl
  ·refine zAl rfl ?_
   refine zAA ?_
   refine sr ?_
   refine pe 1 ?_
   refine ns ?_
   exact rN
def zBb (l1 : (List Op)) : Nat → Int → Option Bool
 | 0, _ => none
 | k1 + 1, i2 => cnd (decide (i2 < ((l1.length : Nat) : Int))) (bnd (idx l1 i2) fun y3 => cnd (decide (((y3.S.length : Nat) : Int) > 300)) (some false) (bnd (idx l1 i2) fun y4 => cnd (decide (((y4.T.length : Nat) : Int) > 300)) (some false) (bnd (rng .i64 (i2 + 1)) fun i5 => (zBb l1 k1) i5))) (some true)
def zBU (fu : Nat) (l1 : (List Op)) : Option Bool := (zBb l1) fu 0
set_option maxHeartbeats 10000000 in
set_option maxRecDepth 100000 in
theorem zCQ (fu : Nat) (l1 : (List Op)) : ∀ r, zBU fu l1 = some r → DC zAb Tryz.prog 22 [.sl 7 false (l1.map cOp)] (.v (.bool r)) := by
 intro r hr
 refine zAL (r := r)  (args := [.sl 7 false (l1.map cOp)]) (S := []) (N0 := []) (post := fun r p S => p = .v (.bool r) ∧ S = []) Tryz.func22 rfl rfl hr fun w0 X X0 σ0 _ => ?_
 refine sr ?_
 refine pe 1 ?_
 refine ns ?_
 refine zAE ?_
 refine sr ?_
 refine pe 1 ?_
 refine ns ?_
 refine zAM ?_
 refine zBe (zBb l1) (fun (i2 : Int) => [(0, .sl 7 false (l1.map cOp)), (3, .v (.int .i64 i2))]) (fun (i2 : Int) => []) fu 0 (fun _ => rfl) ⟨rfl, rfl, trivial⟩ trivial rfl ?_
 rintro k1 i2
 refine zAE ?_
 refine sr ?_
 refine pe 2 ?_
 refine zA9 (T := tab) cOp l1 rfl rfl rfl rfl rfl rfl rfl rfl ?_
 refine pe 1 ?_
 refine ns ?_
 refine zAP rfl ?_ ?_
 ·refine zAF ?_
  refine zAA ?_
  refine zAE ?_
  refine zAM ?_
  refine sr ?_
  refine pe 2 ?_
  refine zCe (T := tab) cOp l1 rfl rfl rfl rfl rfl rfl rfl fun y3 hy3 => ?_
  refine pe 5 ?_
  refine zAO (j := 17) rfl ?_ ?_
  ·refine pe 8 ?_
   refine zAB ?_
   refine zAA (zAg rfl ?_)
   refine sr ?_
   refine pe 1 ?_
   refine ns ?_
   exact rN
  ·refine pe 2 ?_
   refine zCe (T := tab) cOp l1 rfl rfl rfl rfl rfl rfl rfl fun y4 hy4 => ?_
   refine pe 5 ?_
   refine ns ?_
   refine zAP rfl ?_ ?_
   ·refine sr ?_
    refine pe 1 ?_
    refine ns ?_
    exact rN
   ·refine zAF ?_
    refine zAJ ?_
    refine zAA ?_
    refine zAD ?_
    refine pe 1 ?_
    refine zAS (T := tab) rfl rfl rfl rfl fun i5 hi5 => ?_
    refine pe 1 ?_
    refine zAB ?_
    exact zBG i5 ⟨rfl, rfl, trivial⟩ trivial rfl
 ·refine zAl rfl ?_
  refine zAA ?_
  refine sr ?_
  refine pe 1 ?_
  refine ns ?_
  exact rN
def zBu (fu : Nat) (i4 : Int) (y5 : Class) (rc1 : Int → Option Bool) : Nat → Int → Option Bool
 | 0, _ => none
 | k3 + 1, k9 => cnd (decide (k9 < ((y5.Hooks.length : Nat) : Int))) (bnd (idx y5.Hooks k9) fun y10 => bnd (zBU fu y10.Do) fun r11 => cnd (!r11) (some false) (bnd (rng .i64 (k9 + 1)) fun i12 => (zBu fu i4 y5 rc1 k3) i12)) (bnd (zBU fu y5.Peek) fun r13 => cnd (!r13) (some false) (bnd (zBU fu y5.Make) fun r14 => cnd (!r14) (some false) (bnd (rng .i64 (i4 + 1)) fun i15 => rc1 i15)))
def zBv (fu : Nat) (i4 : Int) (y5 : Class) (rc1 : Int → Option Bool) : Nat → Int → Option Bool
 | 0, _ => none
 | k2 + 1, k6 => cnd (decide (k6 < ((y5.Watch.length : Nat) : Int))) (bnd (idx y5.Watch k6) fun y7 => cnd (decide (((y7.length : Nat) : Int) > 300)) (some false) (bnd (rng .i64 (k6 + 1)) fun i8 => (zBv fu i4 y5 rc1 k2) i8)) ((zBu fu i4 y5 rc1) fu 0)
def zBK (fu : Nat) (s1 : Script) : Nat → Int → Option Bool
 | 0, _ => none
 | k1 + 1, i4 => cnd (decide (i4 < ((s1.Classes.length : Nat) : Int))) (bnd (idx s1.Classes i4) fun y5 => (zBv fu i4 y5 (zBK fu s1 k1)) fu 0) (some true)
def zCx (fu : Nat) (s1 : Script) : Option Bool := bnd (zCV fu s1.Classes) fun r2 => cnd (!r2) (some false) (cnd (decide (((s1.Main.length : Nat) : Int) > 320)) (some false) (bnd (zBU fu s1.Main) fun r3 => cnd (!r3) (some false) ((zBK fu s1) fu 0)))
set_option maxHeartbeats 10000000 in
set_option maxRecDepth 100000 in
theorem zGQ (fu : Nat) (s1 : Script) : ∀ r, zCx fu s1 = some r → DC zAb Tryz.prog 10 [.agg (zBZ s1)] (.v (.bool r)) := by
 intro r hr
 refine zAL (r := r)  (args := [.agg (zBZ s1)]) (S := []) (N0 := []) (post := fun r p S => p = .v (.bool r) ∧ S = []) Tryz.func10 rfl rfl hr fun w0 X X0 σ0 _ => ?_
 refine sr ?_
 refine zDo  1 rfl rfl rfl rfl rfl rfl rfl rfl rfl rfl ?_
 refine pe 1 ?_
 refine ns ?_
 refine zAE ?_
 refine sr ?_
 refine pe 2 ?_
 refine zAK (enc := fun (r2 : Bool) => .v (.bool r2)) (qs := [.sl 5 false (s1.Classes.map zAG)]) (zFv fu s1.Classes) rfl rfl ⟨⟨_, rfl, .rfl⟩, trivial⟩ (fun _ => rfl) call23 rfl rfl fun r2 hr2 => ?_
 refine pe 2 ?_
 refine zAO (j := 11) rfl ?_ ?_
 ·refine pe 11 ?_
  refine zAB ?_
  refine zAA (zAg rfl ?_)
  refine sr ?_
  refine pe 1 ?_
  refine ns ?_
  exact rN
 ·refine pe 2 ?_
  refine zA9 (T := tab) cOp s1.Main rfl rfl rfl rfl rfl rfl rfl rfl ?_
  refine pe 3 ?_
  refine zAO (j := 17) rfl ?_ ?_
  ·refine pe 5 ?_
   refine zAB ?_
   refine zAA (zAg rfl ?_)
   refine sr ?_
   refine pe 1 ?_
   refine ns ?_
   exact rN
  ·refine pe 2 ?_
   refine zAK (enc := fun (r3 : Bool) => .v (.bool r3)) (qs := [.sl 7 false (s1.Main.map cOp)]) (zCQ fu s1.Main) rfl rfl ⟨⟨_, rfl, .rfl⟩, trivial⟩ (fun _ => rfl) zMX rfl rfl fun r3 hr3 => ?_
   refine pe 2 ?_
   refine ns ?_
   refine zAP rfl ?_ ?_
   ·refine sr ?_
    refine pe 1 ?_
    refine ns ?_
    exact rN
   ·refine zAF ?_
    refine zAA ?_
    refine zAE ?_
    refine sr ?_
    refine pe 1 ?_
    refine ns ?_
    refine zAM ?_
    refine zBe (zBK fu s1) (fun (i4 : Int) => [(1, .loc 1 0), (3, .v (.int .i64 i4))]) (fun (i4 : Int) => [(1, .box 25 [.sl 5 false (s1.Classes.map zAG), .sl 7 false (s1.Main.map cOp)])]) fu 0 (fun _ => rfl) ⟨rfl, rfl, trivial⟩ ⟨rfl, trivial⟩ rfl ?_
    rintro k1 i4
    refine zAE ?_
    refine sr ?_
    refine pe 3 ?_
    refine zA9 (T := tab) zAG s1.Classes rfl rfl rfl rfl rfl rfl rfl rfl ?_
    refine pe 1 ?_
    refine ns ?_
    refine zAP rfl ?_ ?_
    ·refine zAF ?_
     refine zAA ?_
     refine zAE ?_
     refine zAM ?_
     refine sr ?_
     refine pe 3 ?_
     refine zCe (T := tab) zAG s1.Classes rfl rfl rfl rfl rfl rfl rfl fun y5 hy5 => ?_
     refine pe 1 ?_
     refine zBJ (T := tab) 4 rfl rfl rfl rfl rfl rfl rfl rfl rfl ?_
     refine zAN (T := tab) rfl rfl rfl rfl rfl rfl rfl rfl rfl rfl rfl rfl ?_
     refine ns ?_
     refine zAE ?_
     refine sr ?_
     refine pe 1 ?_
     refine ns ?_
     refine zAM ?_
     refine zBe (zBv fu i4 y5 (zBK fu s1 k1)) (fun (k6 : Int) => [(1, .loc 1 0), (3, .v (.int .i64 i4)), (4, .loc 4 0), (5, .v (.int .i64 k6))]) (fun (k6 : Int) => [(4, .box 51 [.v (.bool y5.Form), .sl 1 false (y5.Watch.map cStr), .sl 7 false (y5.Peek.map cOp), .sl 7 false (y5.Make.map cOp), .sl 2 false (y5.Hooks.map zAU)]), (1, .box 25 [.sl 5 false (s1.Classes.map zAG), .sl 7 false (s1.Main.map cOp)])]) fu 0 (fun _ => rfl) ⟨rfl, rfl, rfl, rfl, trivial⟩ ⟨rfl, rfl, trivial⟩ rfl ?_
     rintro k2 k6
     refine zAE ?_
     refine sr ?_
     refine pe 3 ?_
     refine zA9 (T := tab) cStr y5.Watch rfl rfl rfl rfl rfl rfl rfl rfl ?_
     refine pe 1 ?_
     refine ns ?_
     refine zAP rfl ?_ ?_
     ·refine zAF ?_
      refine zAA ?_
      refine zAE ?_
      refine zAM ?_
      refine sr ?_
      refine pe 3 ?_
      refine zCe (T := tab) cStr y5.Watch rfl rfl rfl rfl rfl rfl rfl fun y7 hy7 => ?_
      refine pe 3 ?_
      refine ns ?_
      refine zAP rfl ?_ ?_
      ·refine sr ?_
       refine pe 1 ?_
       refine ns ?_
       exact rN
      ·refine zAF ?_
       refine zAJ ?_
       refine zAA ?_
       refine zAD ?_
       refine pe 1 ?_
       refine zAS (T := tab) rfl rfl rfl rfl fun i8 hi8 => ?_
       refine pe 1 ?_
       refine zAB ?_
       exact zBG i8 ⟨rfl, rfl, rfl, rfl, trivial⟩ ⟨rfl, rfl, trivial⟩ rfl
     ·refine zAl rfl ?_
      refine zAA ?_
      refine zAE ?_
      refine sr ?_
      refine pe 1 ?_
      refine ns ?_
      refine zAM ?_
      refine zBe (zBu fu i4 y5 (zBK fu s1 k1)) (fun (k9 : Int) => [(1, .loc 1 0), (3, .v (.int .i64 i4)), (4, .loc 4 0), (6, .v (.int .i64 k9))]) (fun (k9 : Int) => [(4, .box 51 [.v (.bool y5.Form), .sl 1 false (y5.Watch.map cStr), .sl 7 false (y5.Peek.map cOp), .sl 7 false (y5.Make.map cOp), .sl 2 false (y5.Hooks.map zAU)]), (1, .box 25 [.sl 5 false (s1.Classes.map zAG), .sl 7 false (s1.Main.map cOp)])]) fu 0 (fun _ => rfl) ⟨rfl, rfl, rfl, rfl, trivial⟩ ⟨rfl, rfl, trivial⟩ rfl ?_
      rintro k3 k9
      refine zAE ?_
      refine sr ?_
      refine pe 3 ?_
      refine zA9 (T := tab) zAU y5.Hooks rfl rfl rfl rfl rfl rfl rfl rfl ?_
      refine pe 1 ?_
      refine ns ?_
      refine zAP rfl ?_ ?_
      ·refine zAF ?_
       refine zAA ?_
       refine zAE ?_
       refine zAM ?_
       refine sr ?_
       refine pe 3 ?_
       refine zCe (T := tab) zAU y5.Hooks rfl rfl rfl rfl rfl rfl rfl fun y10 hy10 => ?_
       refine pe 2 ?_
       refine zAK (enc := fun (r11 : Bool) => .v (.bool r11)) (qs := [.sl 7 false (y10.Do.map cOp)]) (zCQ fu y10.Do) rfl rfl ⟨⟨_, rfl, .rfl⟩, trivial⟩ (fun _ => rfl) zMX rfl rfl fun r11 hr11 => ?_
       refine pe 1 ?_
       refine ns ?_
       refine zAP rfl ?_ ?_
       ·refine sr ?_
        refine pe 1 ?_
        refine ns ?_
        exact rN
       ·refine zAF ?_
        refine zAJ ?_
        refine zAA ?_
        refine zAD ?_
        refine pe 1 ?_
        refine zAS (T := tab) rfl rfl rfl rfl fun i12 hi12 => ?_
        refine pe 1 ?_
        refine zAB ?_
        exact zBG i12 ⟨rfl, rfl, rfl, rfl, trivial⟩ ⟨rfl, rfl, trivial⟩ rfl
      ·refine zAl rfl ?_
       refine zAA ?_
       refine sr ?_
       refine pe 2 ?_
       refine zAK (enc := fun (r13 : Bool) => .v (.bool r13)) (qs := [.sl 7 false (y5.Peek.map cOp)]) (zCQ fu y5.Peek) rfl rfl ⟨⟨_, rfl, .rfl⟩, trivial⟩ (fun _ => rfl) zMX rfl rfl fun r13 hr13 => ?_
       refine pe 2 ?_
       refine zAO (j := 68) rfl ?_ ?_
       ·refine pe 5 ?_
        refine zAB ?_
        refine zAA (zAg rfl ?_)
        refine sr ?_
        refine pe 1 ?_
        refine ns ?_
        exact rN
       ·refine pe 2 ?_
        refine zAK (enc := fun (r14 : Bool) => .v (.bool r14)) (qs := [.sl 7 false (y5.Make.map cOp)]) (zCQ fu y5.Make) rfl rfl ⟨⟨_, rfl, .rfl⟩, trivial⟩ (fun _ => rfl) zMX rfl rfl fun r14 hr14 => ?_
        refine pe 2 ?_
        refine ns ?_
        refine zAP rfl ?_ ?_
        ·refine sr ?_
         refine pe 1 ?_
         refine ns ?_
         exact rN
        ·refine zAF ?_
         refine zAJ ?_
         refine zAA ?_
         refine zAD ?_
         refine pe 1 ?_
         refine zAS (T := tab) rfl rfl rfl rfl fun i15 hi15 => ?_
         refine pe 1 ?_
         refine zAB ?_
         exact zBG i15 ⟨rfl, rfl, trivial⟩ ⟨rfl, trivial⟩ rfl
    ·refine zAl rfl ?_
     refine zAA ?_
     refine sr ?_
     refine pe 1 ?_
     refine ns ?_
     exact rN
def zBx (a1 : (List Op)) (b2 : (List Op)) : Nat → Int → Option Bool
 | 0, _ => none
 | k1 + 1, i3 => cnd (decide (i3 < ((a1.length : Nat) : Int))) (bnd (idx a1 i3) fun y4 => bnd (idx b2 i3) fun y5 => cnd (!(eqOp y4 y5)) (some false) (bnd (rng .i64 (i3 + 1)) fun i6 => (zBx a1 b2 k1) i6)) (some true)
def zBg (fu : Nat) (a1 : (List Op)) (b2 : (List Op)) : Option Bool := cnd (((a1.length : Nat) : Int) != ((b2.length : Nat) : Int)) (some false) ((zBx a1 b2) fu 0)
set_option maxHeartbeats 10000000 in
set_option maxRecDepth 100000 in
theorem zCd (fu : Nat) (a1 : (List Op)) (b2 : (List Op)) : ∀ r, zBg fu a1 b2 = some r → DC zAb Tryz.prog 20 [.sl 7 false (a1.map cOp), .sl 7 false (b2.map cOp)] (.v (.bool r)) := by
 intro r hr
 refine zAL (r := r)  (args := [.sl 7 false (a1.map cOp), .sl 7 false (b2.map cOp)]) (S := []) (N0 := []) (post := fun r p S => p = .v (.bool r) ∧ S = []) Tryz.func20 rfl rfl hr fun w0 X X0 σ0 _ => ?_
 refine sr ?_
 refine pe 1 ?_
 refine ns ?_
 refine zAE ?_
 refine sr ?_
 refine pe 1 ?_
 refine zA9 (T := tab) cOp a1 rfl rfl rfl rfl rfl rfl rfl rfl ?_
 refine pe 1 ?_
 refine zA9 (T := tab) cOp b2 rfl rfl rfl rfl rfl rfl rfl rfl ?_
 refine pe 1 ?_
 refine ns ?_
 refine zAP rfl ?_ ?_
 ·refine sr ?_
  refine pe 1 ?_
  refine ns ?_
  exact rN
 ·refine zAF ?_
  refine zAA ?_
  refine zAE ?_
  refine sr ?_
  refine pe 1 ?_
  refine ns ?_
  refine zAM ?_
  refine zBe (zBx a1 b2) (fun (i3 : Int) => [(0, .sl 7 false (a1.map cOp)), (1, .sl 7 false (b2.map cOp)), (5, .v (.int .i64 i3))]) (fun (i3 : Int) => []) fu 0 (fun _ => rfl) ⟨rfl, rfl, rfl, trivial⟩ trivial rfl ?_
  rintro k1 i3
  refine zAE ?_
  refine sr ?_
  refine pe 2 ?_
  refine zA9 (T := tab) cOp a1 rfl rfl rfl rfl rfl rfl rfl rfl ?_
  refine pe 1 ?_
  refine ns ?_
  refine zAP rfl ?_ ?_
  ·refine zAF ?_
   refine zAA ?_
   refine zAE ?_
   refine zAM ?_
   refine zAE ?_
   refine zDy mixed (by kernel_rfl) ?_
   refine zA6 (T := tab) 2 rfl rfl ?_
   refine zFx (T := tab) cOp a1 rfl rfl rfl rfl rfl rfl rfl fun y4 hy4 => ?_
   refine zA6 (T := tab) 3 rfl rfl ?_
   refine zFx (T := tab) cOp b2 rfl rfl rfl rfl rfl rfl rfl fun y5 hy5 => ?_
   refine zA6 (T := tab) 1 rfl rfl ?_
   refine pd_ne zOP rfl rfl rfl rfl rfl rfl rfl ?_
   refine zDU ?_
   refine zAA ?_
   refine zAP rfl ?_ ?_
   ·refine sr ?_
    refine pe 1 ?_
    refine ns ?_
    exact rN
   ·refine zAF ?_
    refine zAJ ?_
    refine zAA ?_
    refine zAD ?_
    refine pe 1 ?_
    refine zAS (T := tab) rfl rfl rfl rfl fun i6 hi6 => ?_
    refine pe 1 ?_
    refine zAB ?_
    exact zBG i6 ⟨rfl, rfl, rfl, trivial⟩ trivial rfl
  ·refine zAl rfl ?_
   refine zAA ?_
   refine sr ?_
   refine pe 1 ?_
   refine ns ?_
   exact rN
def zBD (fu : Nat) (a1 : Class) (b2 : Class) : Nat → Int → Option Bool
 | 0, _ => none
 | k2 + 1, i9 => cnd (decide (i9 < ((a1.Hooks.length : Nat) : Int))) (bnd (idx a1.Hooks i9) fun y10 => bnd (idx b2.Hooks i9) fun y11 => cnd (y10.Kind != y11.Kind) (some false) (bnd (idx a1.Hooks i9) fun y12 => bnd (idx b2.Hooks i9) fun y13 => bnd (zBg fu y12.Do y13.Do) fun r14 => cnd (!r14) (some false) (bnd (rng .i64 (i9 + 1)) fun i15 => (zBD fu a1 b2 k2) i15))) (some true)
def zBF (fu : Nat) (a1 : Class) (b2 : Class) : Nat → Int → Option Bool
 | 0, _ => none
 | k1 + 1, i5 => cnd (decide (i5 < ((a1.Watch.length : Nat) : Int))) (bnd (idx a1.Watch i5) fun y6 => bnd (idx b2.Watch i5) fun y7 => cnd (!(y6 == y7)) (some false) (bnd (rng .i64 (i5 + 1)) fun i8 => (zBF fu a1 b2 k1) i8)) ((zBD fu a1 b2) fu 0)
def zCY (fu : Nat) (a1 : Class) (b2 : Class) : Option Bool := cnd (!(a1.Form == b2.Form)) (some false) (cnd (((a1.Watch.length : Nat) : Int) != ((b2.Watch.length : Nat) : Int)) (some false) (bnd (zBg fu a1.Peek b2.Peek) fun r3 => cnd (!r3) (some false) (bnd (zBg fu a1.Make b2.Make) fun r4 => cnd (!r4) (some false) (cnd (((a1.Hooks.length : Nat) : Int) != ((b2.Hooks.length : Nat) : Int)) (some false) ((zBF fu a1 b2) fu 0)))))
set_option maxHeartbeats 10000000 in
set_option maxRecDepth 100000 in
theorem zFu (fu : Nat) (a1 : Class) (b2 : Class) : ∀ r, zCY fu a1 b2 = some r → DC zAb Tryz.prog 82 [.agg (zAG a1), .agg (zAG b2)] (.v (.bool r)) := by
 intro r hr
 refine zAL (r := r)  (args := [.agg (zAG a1), .agg (zAG b2)]) (S := []) (N0 := []) (post := fun r p S => p = .v (.bool r) ∧ S = []) Tryz.func82 rfl rfl hr fun w0 X X0 σ0 _ => ?_
 refine sr ?_
 refine zDo  2 rfl rfl rfl rfl rfl rfl rfl rfl rfl rfl ?_
 refine zDo  3 rfl rfl rfl rfl rfl rfl rfl rfl rfl rfl ?_
 refine pe 1 ?_
 refine ns ?_
 refine zAE ?_
 refine sr ?_
 refine pe 6 ?_
 refine zAO (j := 12) rfl ?_ ?_
 ·refine pe 33 ?_
  refine zAB ?_
  refine zAA (zAg rfl ?_)
  refine sr ?_
  refine pe 1 ?_
  refine ns ?_
  exact rN
 ·refine pe 2 ?_
  refine zA9 (T := tab) cStr a1.Watch rfl rfl rfl rfl rfl rfl rfl rfl ?_
  refine pe 2 ?_
  refine zA9 (T := tab) cStr b2.Watch rfl rfl rfl rfl rfl rfl rfl rfl ?_
  refine pe 3 ?_
  refine zAO (j := 21) rfl ?_ ?_
  ·refine pe 24 ?_
   refine zAB ?_
   refine zAA (zAg rfl ?_)
   refine sr ?_
   refine pe 1 ?_
   refine ns ?_
   exact rN
  ·refine pe 4 ?_
   refine zAK (enc := fun (r3 : Bool) => .v (.bool r3)) (qs := [.sl 7 false (a1.Peek.map cOp), .sl 7 false (b2.Peek.map cOp)]) (zCd fu a1.Peek b2.Peek) rfl rfl ⟨⟨_, rfl, .rfl⟩, ⟨_, rfl, .rfl⟩, trivial⟩ (fun _ => rfl) zLy rfl rfl fun r3 hr3 => ?_
   refine pe 3 ?_
   refine zAO (j := 29) rfl ?_ ?_
   ·refine pe 16 ?_
    refine zAB ?_
    refine zAA (zAg rfl ?_)
    refine sr ?_
    refine pe 1 ?_
    refine ns ?_
    exact rN
   ·refine pe 4 ?_
    refine zAK (enc := fun (r4 : Bool) => .v (.bool r4)) (qs := [.sl 7 false (a1.Make.map cOp), .sl 7 false (b2.Make.map cOp)]) (zCd fu a1.Make b2.Make) rfl rfl ⟨⟨_, rfl, .rfl⟩, ⟨_, rfl, .rfl⟩, trivial⟩ (fun _ => rfl) zLy rfl rfl fun r4 hr4 => ?_
    refine pe 3 ?_
    refine zAO (j := 37) rfl ?_ ?_
    ·refine pe 8 ?_
     refine zAB ?_
     refine zAA (zAg rfl ?_)
     refine sr ?_
     refine pe 1 ?_
     refine ns ?_
     exact rN
    ·refine pe 2 ?_
     refine zA9 (T := tab) zAU a1.Hooks rfl rfl rfl rfl rfl rfl rfl rfl ?_
     refine pe 2 ?_
     refine zA9 (T := tab) zAU b2.Hooks rfl rfl rfl rfl rfl rfl rfl rfl ?_
     refine pe 2 ?_
     refine ns ?_
     refine zAP rfl ?_ ?_
     ·refine sr ?_
      refine pe 1 ?_
      refine ns ?_
      exact rN
     ·refine zAF ?_
      refine zAA ?_
      refine zAE ?_
      refine sr ?_
      refine pe 1 ?_
      refine ns ?_
      refine zAM ?_
      refine zBe (zBF fu a1 b2) (fun (i5 : Int) => [(2, .loc 2 0), (3, .loc 3 0), (5, .v (.int .i64 i5))]) (fun (i5 : Int) => [(3, .box 51 [.v (.bool b2.Form), .sl 1 false (b2.Watch.map cStr), .sl 7 false (b2.Peek.map cOp), .sl 7 false (b2.Make.map cOp), .sl 2 false (b2.Hooks.map zAU)]), (2, .box 51 [.v (.bool a1.Form), .sl 1 false (a1.Watch.map cStr), .sl 7 false (a1.Peek.map cOp), .sl 7 false (a1.Make.map cOp), .sl 2 false (a1.Hooks.map zAU)])]) fu 0 (fun _ => rfl) ⟨rfl, rfl, rfl, trivial⟩ ⟨rfl, rfl, trivial⟩ rfl ?_
      rintro k1 i5
      refine zAE ?_
      refine sr ?_
      refine pe 3 ?_
      refine zA9 (T := tab) cStr a1.Watch rfl rfl rfl rfl rfl rfl rfl rfl ?_
      refine pe 1 ?_
      refine ns ?_
      refine zAP rfl ?_ ?_
      ·refine zAF ?_
       refine zAA ?_
       refine zAE ?_
       refine zAM ?_
       refine zAE ?_
       refine zDy mixed (by kernel_rfl) ?_
       refine zA6 (T := tab) 3 rfl rfl ?_
       refine zFx (T := tab) cStr a1.Watch rfl rfl rfl rfl rfl rfl rfl fun y6 hy6 => ?_
       refine zA6 (T := tab) 4 rfl rfl ?_
       refine zFx (T := tab) cStr b2.Watch rfl rfl rfl rfl rfl rfl rfl fun y7 hy7 => ?_
       refine zA6 (T := tab) 2 rfl rfl ?_
       refine zDU ?_
       refine zAA ?_
       refine zAP rfl ?_ ?_
       ·refine sr ?_
        refine pe 1 ?_
        refine ns ?_
        exact rN
       ·refine zAF ?_
        refine zAJ ?_
        refine zAA ?_
        refine zAD ?_
        refine pe 1 ?_
        refine zAS (T := tab) rfl rfl rfl rfl fun i8 hi8 => ?_
        refine pe 1 ?_
        refine zAB ?_
        exact zBG i8 ⟨rfl, rfl, rfl, trivial⟩ ⟨rfl, rfl, trivial⟩ rfl
      ·refine zAl rfl ?_
       refine zAA ?_
       refine zAE ?_
       refine sr ?_
       refine pe 1 ?_
       refine ns ?_
       refine zAM ?_
       refine zBe (zBD fu a1 b2) (fun (i9 : Int) => [(2, .loc 2 0), (3, .loc 3 0), (6, .v (.int .i64 i9))]) (fun (i9 : Int) => [(3, .box 51 [.v (.bool b2.Form), .sl 1 false (b2.Watch.map cStr), .sl 7 false (b2.Peek.map cOp), .sl 7 false (b2.Make.map cOp), .sl 2 false (b2.Hooks.map zAU)]), (2, .box 51 [.v (.bool a1.Form), .sl 1 false (a1.Watch.map cStr), .sl 7 false (a1.Peek.map cOp), .sl 7 false (a1.Make.map cOp), .sl 2 false (a1.Hooks.map zAU)])]) fu 0 (fun _ => rfl) ⟨rfl, rfl, rfl, trivial⟩ ⟨rfl, rfl, trivial⟩ rfl ?_
       rintro k2 i9
       refine zAE ?_
       refine sr ?_
       refine pe 3 ?_
       refine zA9 (T := tab) zAU a1.Hooks rfl rfl rfl rfl rfl rfl rfl rfl ?_
       refine pe 1 ?_
       refine ns ?_
       refine zAP rfl ?_ ?_
       ·refine zAF ?_
        refine zAA ?_
        refine zAE ?_
        refine zAM ?_
        refine zAE ?_
        refine zDy mixed (by kernel_rfl) ?_
        refine zA6 (T := tab) 3 rfl rfl ?_
        refine zFx (T := tab) zAU a1.Hooks rfl rfl rfl rfl rfl rfl rfl fun y10 hy10 => ?_
        refine zA6 (T := tab) 5 rfl rfl ?_
        refine zFx (T := tab) zAU b2.Hooks rfl rfl rfl rfl rfl rfl rfl fun y11 hy11 => ?_
        refine zA6 (T := tab) 4 rfl rfl ?_
        refine zFZ (j := 84) rfl ?_ ?_
        ·refine zA6 (T := tab) 15 rfl rfl ?_
         refine zDU ?_
         refine zAA (zAg rfl ?_)
         refine sr ?_
         refine pe 1 ?_
         refine ns ?_
         exact rN
        ·refine zA6 (T := tab) 3 rfl rfl ?_
         refine zFx (T := tab) zAU a1.Hooks rfl rfl rfl rfl rfl rfl rfl fun y12 hy12 => ?_
         refine zA6 (T := tab) 5 rfl rfl ?_
         refine zFx (T := tab) zAU b2.Hooks rfl rfl rfl rfl rfl rfl rfl fun y13 hy13 => ?_
         refine zA6 (T := tab) 2 rfl rfl ?_
         refine zF3 (enc := fun (r14 : Bool) => .v (.bool r14)) (qs := [.sl 7 false (y12.Do.map cOp), .sl 7 false (y13.Do.map cOp)]) (zCd fu y12.Do y13.Do) rfl rfl ⟨⟨_, rfl, .rfl⟩, ⟨_, rfl, .rfl⟩, trivial⟩ (fun _ => rfl) zLy rfl rfl fun r14 hr14 => ?_
         refine zA6 (T := tab) 2 rfl rfl ?_
         refine zDU ?_
         refine zAA ?_
         refine zAP rfl ?_ ?_
         ·refine sr ?_
          refine pe 1 ?_
          refine ns ?_
          exact rN
         ·refine zAF ?_
          refine zAJ ?_
          refine zAA ?_
          refine zAD ?_
          refine pe 1 ?_
          refine zAS (T := tab) rfl rfl rfl rfl fun i15 hi15 => ?_
          refine pe 1 ?_
          refine zAB ?_
          exact zBG i15 ⟨rfl, rfl, rfl, trivial⟩ ⟨rfl, rfl, trivial⟩ rfl
       ·refine zAl rfl ?_
        refine zAA ?_
        refine sr ?_
        refine pe 1 ?_
        refine ns ?_
        exact rN
def zBM (fu : Nat) (a1 : (List Class)) (b2 : (List Class)) : Nat → Int → Option Bool
 | 0, _ => none
 | k1 + 1, i3 => cnd (decide (i3 < ((a1.length : Nat) : Int))) (bnd (idx a1 i3) fun y4 => bnd (idx b2 i3) fun y5 => bnd (zCY fu y4 y5) fun r6 => cnd (!r6) (some false) (bnd (rng .i64 (i3 + 1)) fun i7 => (zBM fu a1 b2 k1) i7)) (some true)
def zCJ (fu : Nat) (a1 : (List Class)) (b2 : (List Class)) : Option Bool := cnd (((a1.length : Nat) : Int) != ((b2.length : Nat) : Int)) (some false) ((zBM fu a1 b2) fu 0)
set_option maxHeartbeats 10000000 in
set_option maxRecDepth 100000 in
theorem zFE (fu : Nat) (a1 : (List Class)) (b2 : (List Class)) : ∀ r, zCJ fu a1 b2 = some r → DC zAb Tryz.prog 45 [.sl 5 false (a1.map zAG), .sl 5 false (b2.map zAG)] (.v (.bool r)) := by
 intro r hr
 refine zAL (r := r)  (args := [.sl 5 false (a1.map zAG), .sl 5 false (b2.map zAG)]) (S := []) (N0 := []) (post := fun r p S => p = .v (.bool r) ∧ S = []) Tryz.func45 rfl rfl hr fun w0 X X0 σ0 _ => ?_
 refine sr ?_
 refine pe 1 ?_
 refine ns ?_
 refine zAE ?_
 refine sr ?_
 refine pe 1 ?_
 refine zA9 (T := tab) zAG a1 rfl rfl rfl rfl rfl rfl rfl rfl ?_
 refine pe 1 ?_
 refine zA9 (T := tab) zAG b2 rfl rfl rfl rfl rfl rfl rfl rfl ?_
 refine pe 1 ?_
 refine ns ?_
 refine zAP rfl ?_ ?_
 ·refine sr ?_
  refine pe 1 ?_
  refine ns ?_
  exact rN
 ·refine zAF ?_
  refine zAA ?_
  refine zAE ?_
  refine sr ?_
  refine pe 1 ?_
  refine ns ?_
  refine zAM ?_
  refine zBe (zBM fu a1 b2) (fun (i3 : Int) => [(0, .sl 5 false (a1.map zAG)), (1, .sl 5 false (b2.map zAG)), (5, .v (.int .i64 i3))]) (fun (i3 : Int) => []) fu 0 (fun _ => rfl) ⟨rfl, rfl, rfl, trivial⟩ trivial rfl ?_
  rintro k1 i3
  refine zAE ?_
  refine sr ?_
  refine pe 2 ?_
  refine zA9 (T := tab) zAG a1 rfl rfl rfl rfl rfl rfl rfl rfl ?_
  refine pe 1 ?_
  refine ns ?_
  refine zAP rfl ?_ ?_
  ·refine zAF ?_
   refine zAA ?_
   refine zAE ?_
   refine zAM ?_
   refine zAE ?_
   refine zDy mixed (by kernel_rfl) ?_
   refine zA6 (T := tab) 2 rfl rfl ?_
   refine zFx (T := tab) zAG a1 rfl rfl rfl rfl rfl rfl rfl fun y4 hy4 => ?_
   refine zA6 (T := tab) 3 rfl rfl ?_
   refine zFx (T := tab) zAG b2 rfl rfl rfl rfl rfl rfl rfl fun y5 hy5 => ?_
   refine zA6 (T := tab) 1 rfl rfl ?_
   refine zF3 (enc := fun (r6 : Bool) => .v (.bool r6)) (qs := [.agg (zAG y4), .agg (zAG y5)]) (zFu fu y4 y5) rfl rfl ⟨⟨_, rfl, .rfl⟩, ⟨_, rfl, .rfl⟩, trivial⟩ (fun _ => rfl) call82 rfl rfl fun r6 hr6 => ?_
   refine zA6 (T := tab) 1 rfl rfl ?_
   refine zDU ?_
   refine zAA ?_
   refine zAP rfl ?_ ?_
   ·refine sr ?_
    refine pe 1 ?_
    refine ns ?_
    exact rN
   ·refine zAF ?_
    refine zAJ ?_
    refine zAA ?_
    refine zAD ?_
    refine pe 1 ?_
    refine zAS (T := tab) rfl rfl rfl rfl fun i7 hi7 => ?_
    refine pe 1 ?_
    refine zAB ?_
    exact zBG i7 ⟨rfl, rfl, rfl, trivial⟩ trivial rfl
  ·refine zAl rfl ?_
   refine zAA ?_
   refine sr ?_
   refine pe 1 ?_
   refine ns ?_
   exact rN
def zBs (fu : Nat) (a1 : Script) (b2 : Script) : Option Bool := bnd (zCJ fu a1.Classes b2.Classes) fun r3 => cnd r3 (bnd (zBg fu a1.Main b2.Main) fun r4 => some r4) (some false)
set_option maxRecDepth 100000 in
theorem zGG (fu : Nat) (a1 : Script) (b2 : Script) : ∀ r, zBs fu a1 b2 = some r → DC zAb Tryz.prog 17 [.agg (zBZ a1), .agg (zBZ b2)] (.v (.bool r)) := by
 intro r hr
 refine zAL (r := r)  (args := [.agg (zBZ a1), .agg (zBZ b2)]) (S := []) (N0 := []) (post := fun r p S => p = .v (.bool r) ∧ S = []) Tryz.func17 rfl rfl hr fun w0 X X0 σ0 _ => ?_
 refine sr ?_
 refine zDo  2 rfl rfl rfl rfl rfl rfl rfl rfl rfl rfl ?_
 refine zDo  3 rfl rfl rfl rfl rfl rfl rfl rfl rfl rfl ?_
 refine pe 1 ?_
 refine ns ?_
 refine sr ?_
 refine pe 4 ?_
 refine zAK (enc := fun (r3 : Bool) => .v (.bool r3)) (qs := [.sl 5 false (a1.Classes.map zAG), .sl 5 false (b2.Classes.map zAG)]) (zFE fu a1.Classes b2.Classes) rfl rfl ⟨⟨_, rfl, .rfl⟩, ⟨_, rfl, .rfl⟩, trivial⟩ (fun _ => rfl) call45 rfl rfl fun r3 hr3 => ?_
 refine pe 1 ?_
 refine zAO (j := 10) rfl ?_ ?_
 ·refine pe 4 ?_
  refine zAK (enc := fun (r4 : Bool) => .v (.bool r4)) (qs := [.sl 7 false (a1.Main.map cOp), .sl 7 false (b2.Main.map cOp)]) (zCd fu a1.Main b2.Main) rfl rfl ⟨⟨_, rfl, .rfl⟩, ⟨_, rfl, .rfl⟩, trivial⟩ (fun _ => rfl) zLy rfl rfl fun r4 hr4 => ?_
  refine pe 2 ?_
  refine ns ?_
  exact rN
 ·refine pe 7 ?_
  refine ns ?_
  exact rN
def zA5 (fu : Nat) (x1 : Script) : Option Bool := bnd (zCa fu) fun r2 => cnd (!r2) (some false) (bnd (zCx fu x1) fun r3 => cnd (!r3) (some true) (bnd (zDF fu x1) fun r4 => cnd (r4.2 != 0) (cnd (r4.1 == ([] : Bs)) (bnd (zBP fu x1) fun r5 => some ((r4.2 == 3) == r5)) (some false)) (bnd (zCX fu r4.1) fun r6 => cnd (r6.2 == 0) (bnd (zBs fu x1 r6.1) fun r7 => cnd r7 (bnd (zBP fu x1) fun r8 => cnd r8 (some (decide (((r4.1.length : Nat) : Int) ≤ 16384))) (some false)) (some false)) (some false))))
set_option maxHeartbeats 10000000 in
set_option maxRecDepth 100000 in
theorem zEW (fu : Nat) (x1 : Script) : ∀ r, zA5 fu x1 = some r → DC zAb Tryz.prog 4 [.agg (zBZ x1)] (.v (.bool r)) := by
 intro r hr
 refine zAL (r := r)  (args := [.agg (zBZ x1)]) (S := []) (N0 := []) (post := fun r p S => p = .v (.bool r) ∧ S = []) Tryz.func4 rfl rfl hr fun w0 X X0 σ0 _ => ?_
 refine sr ?_
 refine zDo  1 rfl rfl rfl rfl rfl rfl rfl rfl rfl rfl ?_
 refine pe 1 ?_
 refine ns ?_
 refine zAE ?_
 refine sr ?_
 refine zAK (enc := fun (r2 : Bool) => .v (.bool r2)) (qs := []) (zFq fu) rfl rfl trivial (fun _ => rfl) call9 rfl rfl fun r2 hr2 => ?_
 refine pe 1 ?_
 refine ns ?_
 refine zAP rfl ?_ ?_
 ·refine sr ?_
  refine pe 1 ?_
  refine ns ?_
  exact rN
 ·refine zAF ?_
  refine zAA ?_
  refine zAE ?_
  refine sr ?_
  refine pe 1 ?_
  refine zAK (enc := fun (r3 : Bool) => .v (.bool r3)) (qs := [.agg (zBZ x1)]) (zGQ fu x1) rfl rfl ⟨⟨_, rfl, .rfl⟩, trivial⟩ (fun _ => rfl) call10 rfl rfl fun r3 hr3 => ?_
  refine pe 1 ?_
  refine ns ?_
  refine zAP rfl ?_ ?_
  ·refine sr ?_
   refine pe 1 ?_
   refine ns ?_
   exact rN
  ·refine zAF ?_
   refine zAA ?_
   refine sr ?_
   refine pe 1 ?_
   refine zAK (enc := fun (r4 : (Bs × Int)) => .tup [.v (.string ⟨⟨r4.1⟩⟩), .v (.int .i64 r4.2)]) (qs := [.agg (zBZ x1)]) (zGl fu x1) rfl rfl ⟨⟨_, rfl, .rfl⟩, trivial⟩ (fun _ => rfl) zQw rfl rfl fun r4 hr4 => ?_
   refine pe 5 ?_
   refine ns ?_
   refine zAE ?_
   refine sr ?_
   refine pe 2 ?_
   refine ns ?_
   refine zAP rfl ?_ ?_
   ·refine sr ?_
    refine pe 3 ?_
    refine zAO (j := 21) rfl ?_ ?_
    ·refine pe 3 ?_
     refine zAK (enc := fun (r5 : Bool) => .v (.bool r5)) (qs := [.agg (zBZ x1)]) (zCt fu x1) rfl rfl ⟨⟨_, rfl, .rfl⟩, trivial⟩ (fun _ => rfl) zMW rfl rfl fun r5 hr5 => ?_
     refine pe 3 ?_
     refine ns ?_
     exact rN
    ·refine pe 7 ?_
     refine ns ?_
     exact rN
   ·refine zAF ?_
    refine zAA ?_
    refine sr ?_
    refine pe 1 ?_
    refine zAK (enc := fun (r6 : (Script × Int)) => .tup [.agg (zBZ r6.1), .v (.int .i64 r6.2)]) (qs := [.v (.string ⟨⟨r4.1⟩⟩)]) (zF2 fu r4.1) rfl rfl ⟨⟨_, rfl, .rfl⟩, trivial⟩ (fun _ => rfl) zQj rfl rfl fun r6 hr6 => ?_
    refine pe 3 ?_
    refine zBJ (T := tab) 5 rfl rfl rfl rfl rfl rfl rfl rfl rfl ?_
    refine zAN (T := tab) rfl rfl rfl rfl rfl rfl rfl rfl rfl rfl rfl rfl ?_
    refine pe 1 ?_
    refine ns ?_
    refine sr ?_
    refine pe 3 ?_
    refine zAO (j := 35) rfl ?_ ?_
    ·refine pe 2 ?_
     refine zAK (enc := fun (r7 : Bool) => .v (.bool r7)) (qs := [.agg (zBZ x1), .agg (zBZ r6.1)]) (zGG fu x1 r6.1) rfl rfl ⟨⟨_, rfl, .rfl⟩, ⟨_, rfl, .rfl⟩, trivial⟩ (fun _ => rfl) call17 rfl rfl fun r7 hr7 => ?_
     refine pe 2 ?_
     refine zAO (j := 40) rfl ?_ ?_
     ·refine pe 1 ?_
      refine zAK (enc := fun (r8 : Bool) => .v (.bool r8)) (qs := [.agg (zBZ x1)]) (zCt fu x1) rfl rfl ⟨⟨_, rfl, .rfl⟩, trivial⟩ (fun _ => rfl) zMW rfl rfl fun r8 hr8 => ?_
      refine pe 2 ?_
      refine zAO (j := 44) rfl ?_ ?_
      ·refine pe 5 ?_
       refine ns ?_
       exact rN
      ·refine pe 5 ?_
       refine ns ?_
       exact rN
     ·refine pe 9 ?_
      refine ns ?_
      exact rN
    ·refine pe 14 ?_
     refine ns ?_
     exact rN
end Go.Proofs.YtoboimmgglnjfaaGreatDoor
