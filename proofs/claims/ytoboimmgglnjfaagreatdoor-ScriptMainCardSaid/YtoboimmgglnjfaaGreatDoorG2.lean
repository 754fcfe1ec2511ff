/- Models and proofs, printed by emit2.py. -/
import Derived.Test.YtoboimmgglnjfaaGreatDoorG1
namespace Go.Proofs.YtoboimmgglnjfaaGreatDoor
open Go Go.Pw
set_option linter.unusedVariables false
set_option maxHeartbeats 10000000 in
set_option maxRecDepth 100000 in
theorem zEQ (fu : Nat) (s1 : Bs) : ∀ r, zCN fu s1 = some r → DC zAi Tryz.prog 15 [.v (.string ⟨⟨s1⟩⟩)] (.tup [.agg (zDB r.1), .v (.int .i64 r.2)]) := by
 intro r hr
 refine zAL (r := r)  (args := [.v (.string ⟨⟨s1⟩⟩)]) (S := []) (N0 := []) (post := fun r p S => p = .tup [.agg (zDB r.1), .v (.int .i64 r.2)] ∧ S = []) Tryz.func15 rfl rfl hr fun w0 X X0 σ0 _ => ?_
 refine sr ?_
 refine zBE (T := tab) 2 rfl rfl rfl rfl rfl rfl rfl rfl rfl ?_
 refine zBE (T := tab) 3 rfl rfl rfl rfl rfl rfl rfl rfl rfl ?_
 refine ns ?_
 refine zAE ?_
 refine sr ?_
 refine pe 3 ?_
 refine ns ?_
 refine zAR rfl ?_ ?_
 ·refine sr ?_
  refine zBI (T := tab) rfl rfl rfl rfl rfl rfl rfl ?_
  refine zAK (T := tab) rfl rfl rfl rfl rfl rfl rfl rfl rfl rfl rfl rfl ?_
  refine zAK (T := tab) rfl rfl rfl rfl rfl rfl rfl rfl rfl rfl rfl rfl ?_
  refine ns ?_
  refine zD4 2 [.sl 5 false ([].map zAI), .sl 7 false ([].map cOp)] rfl ⟨.nil, .nil, trivial⟩ rfl ?_
  exact rN
 ·refine zAG ?_
  refine zAB ?_
  refine sr ?_
  refine zBI (T := tab) rfl rfl rfl rfl rfl rfl rfl ?_
  refine zFC  13 rfl rfl rfl rfl rfl rfl rfl rfl rfl rfl ?_
  refine zCu 5130 51 5 13 0 rfl rfl rfl rfl rfl rfl ?_
  refine zCu 5131 43 7 13 1 rfl rfl rfl rfl rfl rfl ?_
  refine zEl 5132 9 1 rfl rfl rfl ?_
  refine zEl 5133 43 7 rfl rfl rfl ?_
  refine zEl 5134 43 7 rfl rfl rfl ?_
  refine zEl 5135 54 2 rfl rfl rfl ?_
  refine zEl 5136 43 7 rfl rfl rfl ?_
  refine zN3 5135 [.v (.int .i64 0), .own 5136] rfl rfl rfl rfl ?_
  refine zN3 5130 [.v (.bool false), .own 5132, .own 5133, .own 5134, .own 5135] rfl rfl rfl rfl ?_
  refine zBE (T := tab) 4 rfl rfl rfl rfl rfl rfl rfl rfl rfl ?_
  refine zAK (T := tab) rfl rfl rfl rfl rfl rfl rfl rfl rfl rfl rfl rfl ?_
  refine ns ?_
  refine zAE ?_
  refine zBD (E' := [(0, .v (.string ⟨⟨s1⟩⟩)), (2, .loc 2 0), (3, .loc 3 0), (4, .loc 4 0)]) (S' := [(4, .box 77 [.loc 13 0]), (5136, .arr 43 7 (([] : List Op).map cOp)), (5135, .box 54 [pfx 2 (([] : List Hook).map zAa) false, .v (.int .i64 0), .own 5136]), (5134, .arr 43 7 (([] : List Op).map cOp)), (5133, .arr 43 7 (([] : List Op).map cOp)), (5132, .arr 9 1 (([] : List Bs).map cStr)), (5131, .arr 43 7 (([] : List Op).map cOp)), (5130, .box 51 [pfx 5 (([] : List Class).map zAI) false, .v (.bool false), .own 5132, .own 5133, .own 5134, .own 5135]), (13, .box 80 [.own 5130, .own 5131, .v (.pointer none), .v (.int .i64 0)]), (3, .box 28 [.v (.int .i64 0)]), (2, .box 25 [.v (.slice none 0 0), .v (.slice none 0 0)])]) ?_ ⟨rfl, rfl, rfl, rfl, trivial⟩ ⟨rfl, rfl, rfl, rfl, rfl, rfl, rfl, rfl, rfl, rfl, rfl, trivial⟩ rfl
  refine zBM [0, 0, 2, 6, 14, 31] mixed (by kernel_rfl) (by kernel_rfl) rfl rfl ?_
  refine vf [8, 9] [28] [] [4, 13] [4] [(14, .loc 13 0)] [(4, .box 77 [.loc 13 0])] ?_
  refine vf [8, 9] [30] [] [4, 13] [4] [(15, .loc 13 0)] [(4, .box 77 [.loc 13 0])] ?_
  refine ve [30] [32] [13] [(16, .loc 13 0)] ?_
  refine ve [32] [34] [13] [(17, .loc 13 0)] ?_
  refine ve [34] [36] [13] [(18, .loc 13 1)] ?_
  refine zAj (M := (zBW fu 300)) (ment := [(38, []), (27, [5130, 5131, 13])]) [27, 28, 36, 10261, 10263, 10265, 10267, 10269, 10271, 10273] [38, 27] [] [13, 5130, 5131, 5132, 5133, 5134, 5135, 5136] [5130, 5131, 5132, 5133, 5134, 5135, 5136] (fun r2 => [(19, .v (.bool r2.1))]) (fun r2 => [(13, .box 80 [.own 5130, .own 5131, .loc 13 1, .v (.int .i64 r2.2)]), (5130, .box 51 [pfx 5 (([] : List Class).map zAI) false, .v (.bool false), .own 5132, .own 5133, .own 5134, .own 5135]), (5131, .arr 43 7 (([] : List Op).map cOp)), (5132, .arr 9 1 (([] : List Bs).map cStr)), (5133, .arr 43 7 (([] : List Op).map cOp)), (5134, .arr 43 7 (([] : List Op).map cOp)), (5135, .box 54 [pfx 2 (([] : List Hook).map zAa) false, .v (.int .i64 0), .own 5136]), (5136, .arr 43 7 (([] : List Op).map cOp))]) rfl rfl (fun _ => rfl) (fun _ => rfl) (by kernel_rfl) (by kernel_rfl) (fun _ => by kernel_rfl) (fun _ => ⟨rfl, rfl, rfl, rfl, rfl, rfl, rfl, trivial⟩) (fun w0 X X0 σ0 _ => by refine zAh [] (enc := fun (r2 : (Bool × Int)) => .v (.bool r2.1)) (Sr := fun (r2 : (Bool × Int)) => [(13, .box 80 [.own 5130, .own 5131, .loc 13 1, .v (.int .i64 r2.2)]), (5130, .box 51 [pfx 5 (([] : List Class).map zAI) false, .v (.bool false), .own 5132, .own 5133, .own 5134, .own 5135]), (5131, .arr 43 7 (([] : List Op).map cOp)), (5132, .arr 9 1 (([] : List Bs).map cStr)), (5133, .arr 43 7 (([] : List Op).map cOp)), (5134, .arr 43 7 (([] : List Op).map cOp)), (5135, .box 54 [pfx 2 (([] : List Hook).map zAa) false, .v (.int .i64 0), .own 5136]), (5136, .arr 43 7 (([] : List Op).map cOp))]) (first := []) (cap := []) (qs := [.loc 13 0, .loc 13 1, .v (.int .i64 300)]) (Sc := [(13, .box 80 [.own 5130, .own 5131, .v (.pointer none), .v (.int .i64 0)]), (5130, .box 51 [pfx 5 (([] : List Class).map zAI) false, .v (.bool false), .own 5132, .own 5133, .own 5134, .own 5135]), (5131, .arr 43 7 (([] : List Op).map cOp)), (5132, .arr 9 1 (([] : List Bs).map cStr)), (5133, .arr 43 7 (([] : List Op).map cOp)), (5134, .arr 43 7 (([] : List Op).map cOp)), (5135, .box 54 [pfx 2 (([] : List Hook).map zAa) false, .v (.int .i64 0), .own 5136]), (5136, .arr 43 7 (([] : List Op).map cOp))]) (N0 := [13, 5130, 5131, 5132, 5133, 5134, 5135, 5136]) (NR := [13, 5130, 5131, 5132, 5133, 5134, 5135, 5136]) (fun r2 hr2 => zA5 [(900000, 13), (900001, 5130), (900002, 5131), (900003, 5132), (900004, 5133), (900005, 5134), (900006, 5135), (900007, 5136)] [900000, 900001, 900002, 900003, 900004, 900005, 900006, 900007] (zFB fu 300 0 (([] : List Class), false) false ([] : List Op) ([] : List Bs) ([] : List Op) ([] : List Op) (([] : List Hook), false) 0 ([] : List Op) _ hr2) rfl rfl rfl rfl rfl rfl) ⟨rfl, rfl, rfl, rfl, rfl, rfl, rfl, rfl, trivial⟩ (fun _ => rfl) rfl rfl rfl rfl rfl rfl rfl (fun _ => rfl) (fun _ => rfl) rfl rfl rfl ⟨⟨_, rfl, .rfl⟩, ⟨_, rfl, .rfl⟩, ⟨_, rfl, .rfl⟩, trivial⟩ zIa rfl rfl fun r2 hr2 => ?_; refine zAC ?_; exact zBj ⟨rfl, trivial⟩ ⟨rfl, rfl, rfl, rfl, rfl, rfl, rfl, rfl, trivial⟩ rfl) fun r2 hr2 => ?_
  refine zBr rfl rfl ?_
  refine zAB ?_
  refine zAE ?_
  refine sr ?_
  refine pe 1 ?_
  refine zOv (n := 3021) tab Tryz.func39 rfl rfl rfl rfl rfl rfl rfl rfl rfl rfl rfl rfl ⟨⟨_, rfl, .rfl⟩, trivial⟩ call39 rfl rfl ?_
  refine ns ?_
  refine zAP ?_
  refine zD4 13 [.own 5130, .own 5131, .sel 0 [.loc 13 1, .ela 5130 5 (([] : List Class).length) 2, .ela 5130 5 (([] : List Class).length) 3, .ela 5135 2 (([] : List Hook).length) 1], .v (.int .i64 r2.2)] rfl ⟨.rfl, .rfl, (.sel rfl rfl), .rfl, trivial⟩ rfl ?_
  refine zRr fun hfits => ?_
  obtain ⟨lr1, lmid, lhb, lhcut⟩ := zKf fu
  refine zQB (T := tab) (s := s1) (x0 := (0, r2.2, (([] : List Class), false), false, ([] : List Bs), ([] : List Op), ([] : List Op), (([] : List Hook), false), 0, ([] : List Op), ([] : List Op))) (n := 3021) (tI := 3) (tB := 4) (tF := 41) (M := (zBL fu)) (Sf := fun ((k3, c4, c5, c6, l7, l8, l9, c10, c11, l12, l13) : Nat × Int × (List Class × Bool) × Bool × (List Bs) × (List Op) × (List Op) × (List Hook × Bool) × Int × (List Op) × (List Op)) => [(13, .box 80 [.own 5130, .own 5131, .sel k3 [.loc 13 1, .ela 5130 5 (c5.1.length) 2, .ela 5130 5 (c5.1.length) 3, .ela 5135 2 (c10.1.length) 1], .v (.int .i64 c4)]), (5130, .box 51 [pfx 5 (c5.1.map zAI) c5.2, .v (.bool c6), .own 5132, .own 5133, .own 5134, .own 5135]), (5131, .arr 43 7 (l13.map cOp)), (5132, .arr 9 1 (l7.map cStr)), (5133, .arr 43 7 (l8.map cOp)), (5134, .arr 43 7 (l9.map cOp)), (5135, .box 54 [pfx 2 (c10.1.map zAa) c10.2, .v (.int .i64 c11), .own 5136]), (5136, .arr 43 7 (l12.map cOp)), (4, .box 77 [.loc 13 0]), (3, .box 28 [.v (.int .i64 0)]), (2, .box 25 [.v (.slice none 0 0), .v (.slice none 0 0)])]) (SR := fun r : (Script × Int) => [(2, .box 25 [.sl 5 false (r.1.Classes.map zAI), .sl 7 false (r.1.Main.map cOp)]), (3, .box 28 [.v (.int .i64 r.2)])]) (N1 := [2, 3, 4]) (E0 := [(2, .loc 2 0), (3, .loc 3 0), (4, .loc 4 0)]) (E1 := fun y14 => [(2, .loc 2 0), (3, .loc 3 0), (4, .loc 4 0), (22, .v (.string ⟨⟨y14⟩⟩)), (5, .v (.string ⟨⟨y14⟩⟩))]) hfits Tryz.func73 lhb rfl rfl call73 rfl rfl lhcut rfl rfl ⟨rfl, rfl, rfl, trivial⟩ rfl rfl ⟨rfl, rfl, rfl, rfl, rfl, rfl, rfl, rfl, rfl, rfl, rfl, trivial⟩ rfl rfl rfl rfl ?_ ?_ ?_ ?_
  ·rintro y14 ⟨k3, c4, c5, c6, l7, l8, l9, c10, c11, l12, l13⟩ w0 X X0 σ0 _ _
   refine pe 1 ?_
   refine zAC ?_
   exact zAz ⟨rfl, rfl, rfl, rfl, rfl, trivial⟩ ⟨rfl, rfl, rfl, rfl, rfl, rfl, rfl, rfl, rfl, rfl, rfl, trivial⟩ rfl
  ·rintro y14 ys15 ⟨k3, c4, c5, c6, l7, l8, l9, c10, c11, l12, l13⟩ w0 X X0 σ0 _ _
   refine zAP ?_
   refine sr ?_
   refine pe 1 ?_
   refine zAM (enc := fun (r16 : Bs) => .v (.string ⟨⟨r16⟩⟩)) (qs := [.v (.string ⟨⟨y14⟩⟩), .v (.string ⟨⟨[10]⟩⟩)]) (zFM fu y14 [10]) rfl rfl ⟨⟨_, rfl, .rfl⟩, ⟨_, rfl, .rfl⟩, trivial⟩ (fun _ => rfl) call40 rfl rfl fun r16 hr16 => ?_
   refine pe 1 ?_
   refine ns ?_
   refine zAE ?_
   refine sr ?_
   refine pe 3 ?_
   refine zAN (j := 27) rfl ?_ ?_
   ·refine pe 4 ?_
    refine zAC ?_
    refine zAB (zBC rfl ?_)
    refine zAr rfl ?_
    exact zEw (k3, c4, c5, c6, l7, l8, l9, c10, c11, l12, l13) ⟨rfl, rfl, rfl, rfl, rfl, rfl, rfl, rfl, rfl, rfl, rfl, trivial⟩ rfl
   ·refine pe 2 ?_
    refine zAh [5130, 5135, 5132, 5133, 5134, 5136] (enc := fun (r17 : (Bool × Nat × Int × (List Class × Bool) × Bool × (List Hook × Bool) × Int × (List Bs) × (List Op) × (List Op) × (List Op))) => .v (.bool r17.1)) (Sr := fun (r17 : (Bool × Nat × Int × (List Class × Bool) × Bool × (List Hook × Bool) × Int × (List Bs) × (List Op) × (List Op) × (List Op))) => [(13, .box 80 [.own 5130, .own 5131, .sel r17.2.1 [.loc 13 1, .ela 5130 5 (r17.2.2.2.1.1.length) 2, .ela 5130 5 (r17.2.2.2.1.1.length) 3, .ela 5135 2 (r17.2.2.2.2.2.1.1.length) 1], .v (.int .i64 r17.2.2.1)]), (5130, .box 51 [pfx 5 (r17.2.2.2.1.1.map zAI) r17.2.2.2.1.2, .v (.bool r17.2.2.2.2.1), .own 5132, .own 5133, .own 5134, .own 5135]), (5131, .arr 43 7 (l13.map cOp)), (5135, .box 54 [pfx 2 (r17.2.2.2.2.2.1.1.map zAa) r17.2.2.2.2.2.1.2, .v (.int .i64 r17.2.2.2.2.2.2.1), .own 5136]), (5132, .arr 9 1 (r17.2.2.2.2.2.2.2.1.map cStr)), (5133, .arr 43 7 (r17.2.2.2.2.2.2.2.2.1.map cOp)), (5134, .arr 43 7 (r17.2.2.2.2.2.2.2.2.2.1.map cOp)), (5136, .arr 43 7 (r17.2.2.2.2.2.2.2.2.2.2.map cOp))]) (first := []) (cap := []) (qs := [.loc 13 0, .v (.string ⟨⟨r16⟩⟩)]) (Sc := [(13, .box 80 [.own 5130, .own 5131, .sel k3 [.loc 13 1, .ela 5130 5 (c5.1.length) 2, .ela 5130 5 (c5.1.length) 3, .ela 5135 2 (c10.1.length) 1], .v (.int .i64 c4)]), (5130, .box 51 [pfx 5 (c5.1.map zAI) c5.2, .v (.bool c6), .own 5132, .own 5133, .own 5134, .own 5135]), (5131, .arr 43 7 (l13.map cOp)), (5135, .box 54 [pfx 2 (c10.1.map zAa) c10.2, .v (.int .i64 c11), .own 5136]), (5132, .arr 9 1 (l7.map cStr)), (5133, .arr 43 7 (l8.map cOp)), (5134, .arr 43 7 (l9.map cOp)), (5136, .arr 43 7 (l12.map cOp))]) (N0 := [13, 5131]) (NR := [13, 5130, 5131, 5135, 5132, 5133, 5134, 5136]) (fun r17 hr17 => zA5 [(900000, 13), (900001, 5130), (900002, 5131), (900003, 5135), (900004, 5132), (900005, 5133), (900006, 5134), (900007, 5136)] [900000, 900001, 900002, 900003, 900004, 900005, 900006, 900007] (zFO fu r16 k3 c4 c5 c6 l13 c10 c11 l7 l8 l9 l12 _ hr17) rfl rfl rfl rfl rfl rfl) ⟨rfl, rfl, rfl, rfl, rfl, rfl, rfl, rfl, trivial⟩ (fun _ => rfl) rfl rfl rfl rfl rfl rfl rfl (fun _ => rfl) (fun _ => rfl) rfl rfl rfl ⟨⟨_, rfl, .rfl⟩, ⟨_, rfl, .rfl⟩, trivial⟩ call41 rfl rfl fun r17 hr17 => ?_
    refine pe 1 ?_
    refine ns ?_
    refine zAR rfl ?_ ?_
    ·refine zAr rfl ?_
     exact zEw (r17.2.1, r17.2.2.1, r17.2.2.2.1, r17.2.2.2.2.1, r17.2.2.2.2.2.2.2.1, r17.2.2.2.2.2.2.2.2.1, r17.2.2.2.2.2.2.2.2.2.1, r17.2.2.2.2.2.1, r17.2.2.2.2.2.2.1, r17.2.2.2.2.2.2.2.2.2.2, l13) ⟨rfl, rfl, rfl, rfl, rfl, rfl, rfl, rfl, rfl, rfl, rfl, trivial⟩ rfl
    ·refine zAG ?_
     refine zAB ?_
     refine zAE ?_
     refine zAE ?_
     refine zBD (E' := [(2, .loc 2 0), (3, .loc 3 0), (4, .loc 4 0), (22, .v (.string ⟨⟨y14⟩⟩)), (5, .v (.string ⟨⟨r16⟩⟩)), (23, .v (.string ⟨⟨y14⟩⟩)), (24, .v (.string ⟨⟨r16⟩⟩)), (25, .v (.string ⟨⟨r16⟩⟩)), (26, .v (.bool (r16 == ([] : Bs)))), (27, .v (.bool false)), (28, .loc 13 0), (29, .v (.string ⟨⟨r16⟩⟩)), (30, .v (.bool r17.1)), (31, .v (.bool r17.1))]) (S' := [(13, .box 80 [.own 5130, .own 5131, .sel r17.2.1 [.loc 13 1, .ela 5130 5 (r17.2.2.2.1.1.length) 2, .ela 5130 5 (r17.2.2.2.1.1.length) 3, .ela 5135 2 (r17.2.2.2.2.2.1.1.length) 1], .v (.int .i64 r17.2.2.1)]), (5130, .box 51 [pfx 5 (r17.2.2.2.1.1.map zAI) r17.2.2.2.1.2, .v (.bool r17.2.2.2.2.1), .own 5132, .own 5133, .own 5134, .own 5135]), (5131, .arr 43 7 (l13.map cOp)), (5135, .box 54 [pfx 2 (r17.2.2.2.2.2.1.1.map zAa) r17.2.2.2.2.2.1.2, .v (.int .i64 r17.2.2.2.2.2.2.1), .own 5136]), (5132, .arr 9 1 (r17.2.2.2.2.2.2.2.1.map cStr)), (5133, .arr 43 7 (r17.2.2.2.2.2.2.2.2.1.map cOp)), (5134, .arr 43 7 (r17.2.2.2.2.2.2.2.2.2.1.map cOp)), (5136, .arr 43 7 (r17.2.2.2.2.2.2.2.2.2.2.map cOp)), (4, .box 77 [.loc 13 0]), (3, .box 28 [.v (.int .i64 0)]), (2, .box 25 [.v (.slice none 0 0), .v (.slice none 0 0)])]) ?_ ⟨rfl, rfl, rfl, rfl, rfl, rfl, rfl, rfl, rfl, rfl, rfl, rfl, rfl, rfl, trivial⟩ ⟨rfl, rfl, rfl, rfl, rfl, rfl, rfl, rfl, rfl, rfl, rfl, trivial⟩ rfl
     refine zSF (fun k_ => [(2, .loc 2 0), (3, .loc 3 0), (4, .loc 4 0), (22, .v (.string ⟨⟨y14⟩⟩)), (5, .v (.string ⟨⟨r16⟩⟩)), (23, .v (.string ⟨⟨y14⟩⟩)), (24, .v (.string ⟨⟨r16⟩⟩)), (25, .v (.string ⟨⟨r16⟩⟩)), (26, .v (.bool (r16 == ([] : Bs)))), (27, .v (.bool false)), (28, .loc 13 0), (29, .v (.string ⟨⟨r16⟩⟩)), (30, .v (.bool r17.1)), (31, .v (.bool r17.1))]) (fun k_ => [(13, .box 80 [.own 5130, .own 5131, .sel k_ [.loc 13 1, .ela 5130 5 (r17.2.2.2.1.1.length) 2, .ela 5130 5 (r17.2.2.2.1.1.length) 3, .ela 5135 2 (r17.2.2.2.2.2.1.1.length) 1], .v (.int .i64 r17.2.2.1)]), (5130, .box 51 [pfx 5 (r17.2.2.2.1.1.map zAI) r17.2.2.2.1.2, .v (.bool r17.2.2.2.2.1), .own 5132, .own 5133, .own 5134, .own 5135]), (5131, .arr 43 7 (l13.map cOp)), (5135, .box 54 [pfx 2 (r17.2.2.2.2.2.1.1.map zAa) r17.2.2.2.2.2.1.2, .v (.int .i64 r17.2.2.2.2.2.2.1), .own 5136]), (5132, .arr 9 1 (r17.2.2.2.2.2.2.2.1.map cStr)), (5133, .arr 43 7 (r17.2.2.2.2.2.2.2.2.1.map cOp)), (5134, .arr 43 7 (r17.2.2.2.2.2.2.2.2.2.1.map cOp)), (5136, .arr 43 7 (r17.2.2.2.2.2.2.2.2.2.2.map cOp)), (4, .box 77 [.loc 13 0]), (3, .box 28 [.v (.int .i64 0)]), (2, .box 25 [.v (.slice none 0 0), .v (.slice none 0 0)])]) r17.2.1 ?_ ?_ ?_ ?_
     ·refine zHS (E' := [(2, .loc 2 0), (3, .loc 3 0), (4, .loc 4 0), (22, .v (.string ⟨⟨y14⟩⟩)), (5, .v (.string ⟨⟨r16⟩⟩)), (23, .v (.string ⟨⟨y14⟩⟩)), (24, .v (.string ⟨⟨r16⟩⟩)), (25, .v (.string ⟨⟨r16⟩⟩)), (26, .v (.bool (r16 == ([] : Bs)))), (27, .v (.bool false)), (28, .loc 13 0), (29, .v (.string ⟨⟨r16⟩⟩)), (30, .v (.bool r17.1)), (31, .v (.bool r17.1))]) (S' := [(13, .box 80 [.own 5130, .own 5131, .loc 13 1, .v (.int .i64 r17.2.2.1)]), (5130, .box 51 [pfx 5 (r17.2.2.2.1.1.map zAI) r17.2.2.2.1.2, .v (.bool r17.2.2.2.2.1), .own 5132, .own 5133, .own 5134, .own 5135]), (5131, .arr 43 7 (l13.map cOp)), (5135, .box 54 [pfx 2 (r17.2.2.2.2.2.1.1.map zAa) r17.2.2.2.2.2.1.2, .v (.int .i64 r17.2.2.2.2.2.2.1), .own 5136]), (5132, .arr 9 1 (r17.2.2.2.2.2.2.2.1.map cStr)), (5133, .arr 43 7 (r17.2.2.2.2.2.2.2.2.1.map cOp)), (5134, .arr 43 7 (r17.2.2.2.2.2.2.2.2.2.1.map cOp)), (5136, .arr 43 7 (r17.2.2.2.2.2.2.2.2.2.2.map cOp)), (4, .box 77 [.loc 13 0]), (3, .box 28 [.v (.int .i64 0)]), (2, .box 25 [.v (.slice none 0 0), .v (.slice none 0 0)])]) rfl rfl ?_
      refine zBD (E' := [(2, .loc 2 0), (3, .loc 3 0), (4, .loc 4 0), (5, .v (.string ⟨⟨r16⟩⟩))]) (S' := [(13, .box 80 [.own 5130, .own 5131, .loc 13 1, .v (.int .i64 r17.2.2.1)]), (5130, .box 51 [pfx 5 (r17.2.2.2.1.1.map zAI) r17.2.2.2.1.2, .v (.bool r17.2.2.2.2.1), .own 5132, .own 5133, .own 5134, .own 5135]), (5131, .arr 43 7 (l13.map cOp)), (5135, .box 54 [pfx 2 (r17.2.2.2.2.2.1.1.map zAa) r17.2.2.2.2.2.1.2, .v (.int .i64 r17.2.2.2.2.2.2.1), .own 5136]), (5132, .arr 9 1 (r17.2.2.2.2.2.2.2.1.map cStr)), (5133, .arr 43 7 (r17.2.2.2.2.2.2.2.2.1.map cOp)), (5134, .arr 43 7 (r17.2.2.2.2.2.2.2.2.2.1.map cOp)), (5136, .arr 43 7 (r17.2.2.2.2.2.2.2.2.2.2.map cOp)), (4, .box 77 [.loc 13 0]), (3, .box 28 [.v (.int .i64 0)]), (2, .box 25 [.v (.slice none 0 0), .v (.slice none 0 0)])]) ?_ ⟨rfl, rfl, rfl, rfl, trivial⟩ ⟨rfl, rfl, rfl, rfl, rfl, rfl, rfl, rfl, rfl, rfl, rfl, trivial⟩ rfl
      refine zBM [0, 1, 3, 7, 15, 31, 63, 0, 128, 384, 896, 2047] mixed (by kernel_rfl) (by kernel_rfl) rfl rfl ?_
      refine vf [8, 9] [64] [] [4, 13] [4] [(32, .loc 13 0)] [(4, .box 77 [.loc 13 0])] ?_
      refine ve [64] [66] [13] [(33, .loc 13 0)] ?_
      refine ve [66] [68] [13] [(34, .loc 13 2)] ?_
      refine vf [27, 68] [70] [] [13, 5130, 5131] [13] [(35, .loc 13 1)] [(13, .box 80 [.own 5130, .own 5131, .loc 13 1, .v (.int .i64 r17.2.2.1)])] ?_
      refine ve [70] [72] [13] [(36, .loc 13 1)] ?_
      refine vf [27, 72] [74] [] [13, 5130, 5131] [13] [(37, .own 5131)] [(13, .box 80 [.own 5130, .own 5131, .loc 13 1, .v (.int .i64 r17.2.2.1)])] ?_
      refine zAY [74, 10263] [76] [] [5131] [5131] [(38, .v (.int .i64 ((l13.length : Nat) : Int)))] [(5131, .arr 43 7 (l13.map cOp))] rfl rfl rfl rfl (by kernel_rfl) (by kernel_rfl) (by kernel_rfl) ⟨rfl, trivial⟩ (fun w0 X X0 σ0 _ => by refine zCQ (T := tab) cOp l13 rfl rfl rfl rfl rfl rfl rfl rfl rfl ?_; refine zAC ?_; exact zAz ⟨rfl, trivial⟩ ⟨rfl, trivial⟩ rfl) ?_
      refine vf [8, 9] [78] [] [4, 13] [4] [(39, .loc 13 0)] [(4, .box 77 [.loc 13 0])] ?_
      refine ve [78] [80] [13] [(40, .loc 13 0)] ?_
      refine ve [80] [82] [13] [(41, .loc 13 3)] ?_
      refine vf [27, 82] [84] [] [13, 5130, 5131] [13] [(42, .v (.int .i64 r17.2.2.1))] [(13, .box 80 [.own 5130, .own 5131, .loc 13 1, .v (.int .i64 r17.2.2.1)])] ?_
      refine ve [76, 84] [86] [] [(43, .v (.bool (((l13.length : Nat) : Int) == r17.2.2.1)))] ?_
      refine zBr rfl rfl ?_
      refine zAB ?_
      refine zAR rfl ?_ ?_
      ·refine sr ?_
       refine zBI (T := tab) rfl rfl rfl rfl rfl rfl rfl ?_
       refine zAK (T := tab) rfl rfl rfl rfl rfl rfl rfl rfl rfl rfl rfl rfl ?_
       refine zAK (T := tab) rfl rfl rfl rfl rfl rfl rfl rfl rfl rfl rfl rfl ?_
       refine ns ?_
       refine zD4 2 [.sl 5 false ([].map zAI), .sl 7 false ([].map cOp)] rfl ⟨.nil, .nil, trivial⟩ rfl ?_
       exact zGb rfl ⟨rfl, rfl, trivial⟩ rfl
      ·refine zAG ?_
       refine zAB ?_
       refine sr ?_
       refine pe 1 ?_
       refine zAM (enc := fun (r18 : (Op × Int)) => .tup [.agg (cOp r18.1), .v (.int .i64 r18.2)]) (qs := [.v (.string ⟨⟨r16⟩⟩)]) (zEW fu r16) rfl rfl ⟨⟨_, rfl, .rfl⟩, trivial⟩ (fun _ => rfl) zJ7 rfl rfl fun r18 hr18 => ?_
       refine pe 3 ?_
       refine zBE (T := tab) 6 rfl rfl rfl rfl rfl rfl rfl rfl rfl ?_
       refine zAK (T := tab) rfl rfl rfl rfl rfl rfl rfl rfl rfl rfl rfl rfl ?_
       refine pe 1 ?_
       refine ns ?_
       refine zBD (E' := [(2, .loc 2 0), (3, .loc 3 0), (4, .loc 4 0), (6, .loc 6 0)]) (S' := [(6, .box 43 [.v (.int .i64 r18.1.Kind), .v (.int .i64 r18.1.A), .v (.int .i64 r18.1.B), .v (.int .i64 r18.1.C), .v (.string ⟨⟨r18.1.S⟩⟩), .v (.string ⟨⟨r18.1.T⟩⟩), .v (.bool r18.1.Must)]), (13, .box 80 [.own 5130, .own 5131, .loc 13 1, .v (.int .i64 r17.2.2.1)]), (5130, .box 51 [pfx 5 (r17.2.2.2.1.1.map zAI) r17.2.2.2.1.2, .v (.bool r17.2.2.2.2.1), .own 5132, .own 5133, .own 5134, .own 5135]), (5131, .arr 43 7 (l13.map cOp)), (5135, .box 54 [pfx 2 (r17.2.2.2.2.2.1.1.map zAa) r17.2.2.2.2.2.1.2, .v (.int .i64 r17.2.2.2.2.2.2.1), .own 5136]), (5132, .arr 9 1 (r17.2.2.2.2.2.2.2.1.map cStr)), (5133, .arr 43 7 (r17.2.2.2.2.2.2.2.2.1.map cOp)), (5134, .arr 43 7 (r17.2.2.2.2.2.2.2.2.2.1.map cOp)), (5136, .arr 43 7 (r17.2.2.2.2.2.2.2.2.2.2.map cOp)), (4, .box 77 [.loc 13 0]), (3, .box 28 [.v (.int .i64 0)]), (2, .box 25 [.v (.slice none 0 0), .v (.slice none 0 0)])]) ?_ ⟨rfl, rfl, rfl, rfl, trivial⟩ ⟨rfl, rfl, rfl, rfl, rfl, rfl, rfl, rfl, rfl, rfl, rfl, rfl, trivial⟩ rfl
       refine zBM [0, 1, 3, 7, 0, 16, 48, 112, 240, 496, 0, 1024, 4080, 8191, 16383] mixed (by kernel_rfl) (by kernel_rfl) rfl rfl ?_
       refine vf [8, 9] [100] [] [4, 13] [4] [(50, .loc 13 0)] [(4, .box 77 [.loc 13 0])] ?_
       refine ve [100] [102] [13] [(51, .loc 13 0)] ?_
       refine ve [102] [104] [13] [(52, .loc 13 2)] ?_
       refine vf [27, 104] [106] [] [13, 5130, 5131] [13] [(53, .loc 13 1)] [(13, .box 80 [.own 5130, .own 5131, .loc 13 1, .v (.int .i64 r17.2.2.1)])] ?_
       refine vf [8, 9] [108] [] [4, 13] [4] [(54, .loc 13 0)] [(4, .box 77 [.loc 13 0])] ?_
       refine ve [108] [110] [13] [(55, .loc 13 0)] ?_
       refine ve [110] [112] [13] [(56, .loc 13 2)] ?_
       refine vf [27, 112] [114] [] [13, 5130, 5131] [13] [(57, .loc 13 1)] [(13, .box 80 [.own 5130, .own 5131, .loc 13 1, .v (.int .i64 r17.2.2.1)])] ?_
       refine ve [114] [116] [13] [(58, .loc 13 1)] ?_
       refine vf [27, 116] [118] [] [13, 5130, 5131] [13] [(59, .own 5131)] [(13, .box 80 [.own 5130, .own 5131, .loc 13 1, .v (.int .i64 r17.2.2.1)])] ?_
       refine vf [12, 13] [120] [] [6] [6] [(60, .agg (cOp r18.1))] [(6, .box 43 [.v (.int .i64 r18.1.Kind), .v (.int .i64 r18.1.A), .v (.int .i64 r18.1.B), .v (.int .i64 r18.1.C), .v (.string ⟨⟨r18.1.S⟩⟩), .v (.string ⟨⟨r18.1.T⟩⟩), .v (.bool r18.1.Must)])] ?_
       refine zAY [120] [122, 123] [61] [] [] [(61, .own 61)] [(61, .arr 43 7 ([r18.1].map cOp))] rfl rfl rfl rfl (by kernel_rfl) (by kernel_rfl) (by kernel_rfl) trivial (fun w0 X X0 σ0 _ => by refine zDo (T := tab) (rows := [r18.1].map cOp) 61 rfl rfl rfl rfl rfl rfl rfl rfl rfl rfl rfl rfl rfl rfl ?_; refine zAC ?_; exact zAz ⟨rfl, trivial⟩ ⟨rfl, trivial⟩ rfl) ?_
       refine zAj (M := (zED 72 (l13.length + ([r18.1] : List Op).length))) (ment := [(124, [700062]), (118, []), (10263, []), (1400125, [])]) [118, 122, 123, 10263] [124, 118, 10263, 1400125] [700062] [61, 5131] [61] (fun _ => [(62, .own 700062)]) (fun _ => [(700062, .arr 43 7 ((l13 ++ [r18.1]).map cOp)), (61, .arr 43 7 ([r18.1].map cOp))]) rfl rfl (fun _ => rfl) (fun _ => rfl) (by kernel_rfl) (by kernel_rfl) (fun _ => by kernel_rfl) (fun _ => ⟨rfl, trivial⟩) (fun w0 X X0 σ0 _ => by refine zPT 5131 700062 59 rfl rfl rfl rfl rfl rfl ?_; refine zDb (T := tab) cOp l13 ([r18.1] : List Op) rfl rfl rfl rfl rfl rfl rfl rfl rfl rfl rfl rfl rfl rfl (zHq _) rfl rfl rfl rfl rfl ?_; refine zAC ?_; exact zBj ⟨rfl, trivial⟩ ⟨rfl, rfl, trivial⟩ rfl) fun _ h0 => ?_
       refine ve [106] [126] [13] [(63, .loc 13 1)] ?_
       refine zAY [27, 124, 126, 1400125] [27] [] [13, 5130, 5131, 700062] [700062] [] [(13, .box 80 [.own 5130, .own 700062, .loc 13 1, .v (.int .i64 r17.2.2.1)]), (700062, .arr 43 7 ((l13 ++ [r18.1]).map cOp))] rfl rfl rfl rfl (by kernel_rfl) (by kernel_rfl) (by kernel_rfl) ⟨rfl, trivial⟩ (fun w0 X X0 σ0 _ => by refine zAK (T := tab) rfl rfl rfl rfl rfl rfl rfl rfl rfl rfl rfl rfl ?_; refine zAC ?_; exact zAz trivial ⟨rfl, rfl, trivial⟩ rfl) ?_
       refine zBr rfl rfl ?_
       refine zAJ ?_
       refine zAU (E' := []) (S' := [(700062, .arr 43 7 ((l13 ++ [r18.1]).map cOp)), (61, .arr 43 7 ([r18.1].map cOp)), (6, .box 43 [.v (.int .i64 r18.1.Kind), .v (.int .i64 r18.1.A), .v (.int .i64 r18.1.B), .v (.int .i64 r18.1.C), .v (.string ⟨⟨r18.1.S⟩⟩), .v (.string ⟨⟨r18.1.T⟩⟩), .v (.bool r18.1.Must)]), (13, .box 80 [.own 5130, .own 700062, .loc 13 1, .v (.int .i64 r17.2.2.1)]), (5130, .box 51 [pfx 5 (r17.2.2.2.1.1.map zAI) r17.2.2.2.1.2, .v (.bool r17.2.2.2.2.1), .own 5132, .own 5133, .own 5134, .own 5135]), (5135, .box 54 [pfx 2 (r17.2.2.2.2.2.1.1.map zAa) r17.2.2.2.2.2.1.2, .v (.int .i64 r17.2.2.2.2.2.2.1), .own 5136]), (5132, .arr 9 1 (r17.2.2.2.2.2.2.2.1.map cStr)), (5133, .arr 43 7 (r17.2.2.2.2.2.2.2.2.1.map cOp)), (5134, .arr 43 7 (r17.2.2.2.2.2.2.2.2.2.1.map cOp)), (5136, .arr 43 7 (r17.2.2.2.2.2.2.2.2.2.2.map cOp)), (4, .box 77 [.loc 13 0]), (3, .box 28 [.v (.int .i64 0)]), (2, .box 25 [.v (.slice none 0 0), .v (.slice none 0 0)])]) ?_ trivial ⟨rfl, rfl, rfl, rfl, rfl, rfl, rfl, rfl, rfl, rfl, rfl, rfl, rfl, trivial⟩ rfl
       refine zND 700062 5131 (E' := []) (S' := [(5131, .arr 43 7 ((l13 ++ [r18.1]).map cOp)), (61, .arr 43 7 ([r18.1].map cOp)), (6, .box 43 [.v (.int .i64 r18.1.Kind), .v (.int .i64 r18.1.A), .v (.int .i64 r18.1.B), .v (.int .i64 r18.1.C), .v (.string ⟨⟨r18.1.S⟩⟩), .v (.string ⟨⟨r18.1.T⟩⟩), .v (.bool r18.1.Must)]), (13, .box 80 [.own 5130, .own 5131, .loc 13 1, .v (.int .i64 r17.2.2.1)]), (5130, .box 51 [pfx 5 (r17.2.2.2.1.1.map zAI) r17.2.2.2.1.2, .v (.bool r17.2.2.2.2.1), .own 5132, .own 5133, .own 5134, .own 5135]), (5135, .box 54 [pfx 2 (r17.2.2.2.2.2.1.1.map zAa) r17.2.2.2.2.2.1.2, .v (.int .i64 r17.2.2.2.2.2.2.1), .own 5136]), (5132, .arr 9 1 (r17.2.2.2.2.2.2.2.1.map cStr)), (5133, .arr 43 7 (r17.2.2.2.2.2.2.2.2.1.map cOp)), (5134, .arr 43 7 (r17.2.2.2.2.2.2.2.2.2.1.map cOp)), (5136, .arr 43 7 (r17.2.2.2.2.2.2.2.2.2.2.map cOp)), (4, .box 77 [.loc 13 0]), (3, .box 28 [.v (.int .i64 0)]), (2, .box 25 [.v (.slice none 0 0), .v (.slice none 0 0)])]) rfl rfl rfl rfl rfl rfl ?_
       refine zEO 13 [.own 5130, .own 5131, .sel 0 [.loc 13 1, .ela 5130 5 (r17.2.2.2.1.1.length) 2, .ela 5130 5 (r17.2.2.2.1.1.length) 3, .ela 5135 2 (r17.2.2.2.2.2.1.1.length) 1], .v (.int .i64 r17.2.2.1)] rfl ⟨.rfl, .rfl, (.sel rfl rfl), .rfl, trivial⟩ rfl ?_
       exact zEw (0, r17.2.2.1, r17.2.2.2.1, r17.2.2.2.2.1, r17.2.2.2.2.2.2.2.1, r17.2.2.2.2.2.2.2.2.1, r17.2.2.2.2.2.2.2.2.2.1, r17.2.2.2.2.2.1, r17.2.2.2.2.2.2.1, r17.2.2.2.2.2.2.2.2.2.2, (l13 ++ [r18.1])) ⟨rfl, rfl, rfl, rfl, rfl, rfl, rfl, rfl, rfl, rfl, rfl, trivial⟩ rfl
     ·refine zHS (E' := [(2, .loc 2 0), (3, .loc 3 0), (4, .loc 4 0), (22, .v (.string ⟨⟨y14⟩⟩)), (5, .v (.string ⟨⟨r16⟩⟩)), (23, .v (.string ⟨⟨y14⟩⟩)), (24, .v (.string ⟨⟨r16⟩⟩)), (25, .v (.string ⟨⟨r16⟩⟩)), (26, .v (.bool (r16 == ([] : Bs)))), (27, .v (.bool false)), (28, .loc 13 0), (29, .v (.string ⟨⟨r16⟩⟩)), (30, .v (.bool r17.1)), (31, .v (.bool r17.1))]) (S' := [(13, .box 80 [.own 5130, .own 5131, .ela 5130 5 (r17.2.2.2.1.1.length) 2, .v (.int .i64 r17.2.2.1)]), (5130, .box 51 [pfx 5 (r17.2.2.2.1.1.map zAI) r17.2.2.2.1.2, .v (.bool r17.2.2.2.2.1), .own 5132, .own 5133, .own 5134, .own 5135]), (5131, .arr 43 7 (l13.map cOp)), (5135, .box 54 [pfx 2 (r17.2.2.2.2.2.1.1.map zAa) r17.2.2.2.2.2.1.2, .v (.int .i64 r17.2.2.2.2.2.2.1), .own 5136]), (5132, .arr 9 1 (r17.2.2.2.2.2.2.2.1.map cStr)), (5133, .arr 43 7 (r17.2.2.2.2.2.2.2.2.1.map cOp)), (5134, .arr 43 7 (r17.2.2.2.2.2.2.2.2.2.1.map cOp)), (5136, .arr 43 7 (r17.2.2.2.2.2.2.2.2.2.2.map cOp)), (4, .box 77 [.loc 13 0]), (3, .box 28 [.v (.int .i64 0)]), (2, .box 25 [.v (.slice none 0 0), .v (.slice none 0 0)])]) rfl rfl ?_
      refine zBD (E' := [(2, .loc 2 0), (3, .loc 3 0), (4, .loc 4 0), (22, .v (.string ⟨⟨y14⟩⟩)), (5, .v (.string ⟨⟨r16⟩⟩)), (23, .v (.string ⟨⟨y14⟩⟩)), (24, .v (.string ⟨⟨r16⟩⟩)), (25, .v (.string ⟨⟨r16⟩⟩)), (26, .v (.bool (r16 == ([] : Bs)))), (27, .v (.bool false)), (28, .loc 13 0), (29, .v (.string ⟨⟨r16⟩⟩)), (30, .v (.bool r17.1)), (31, .v (.bool r17.1))]) (S' := [(13, .box 80 [.own 5130, .own 5131, .ela 5130 5 (r17.2.2.2.1.1.length) 2, .v (.int .i64 r17.2.2.1)]), (5130, .box 51 [pfx 5 (r17.2.2.2.1.1.map zAI) r17.2.2.2.1.2, .v (.bool r17.2.2.2.2.1), .own 5132, .own 5133, .own 5134, .own 5135]), (5131, .arr 43 7 (l13.map cOp)), (5135, .box 54 [pfx 2 (r17.2.2.2.2.2.1.1.map zAa) r17.2.2.2.2.2.1.2, .v (.int .i64 r17.2.2.2.2.2.2.1), .own 5136]), (5132, .arr 9 1 (r17.2.2.2.2.2.2.2.1.map cStr)), (5133, .arr 43 7 (r17.2.2.2.2.2.2.2.2.1.map cOp)), (5134, .arr 43 7 (r17.2.2.2.2.2.2.2.2.2.1.map cOp)), (5136, .arr 43 7 (r17.2.2.2.2.2.2.2.2.2.2.map cOp)), (4, .box 77 [.loc 13 0]), (3, .box 28 [.v (.int .i64 0)]), (2, .box 25 [.v (.slice none 0 0), .v (.slice none 0 0)])]) ?_ ⟨rfl, rfl, rfl, rfl, rfl, rfl, rfl, rfl, rfl, rfl, rfl, rfl, rfl, rfl, trivial⟩ ⟨rfl, rfl, rfl, rfl, rfl, rfl, rfl, rfl, rfl, rfl, rfl, trivial⟩ rfl
      refine zLu (fun b_ => [(2, .loc 2 0), (3, .loc 3 0), (4, .loc 4 0), (22, .v (.string ⟨⟨y14⟩⟩)), (5, .v (.string ⟨⟨r16⟩⟩)), (23, .v (.string ⟨⟨y14⟩⟩)), (24, .v (.string ⟨⟨r16⟩⟩)), (25, .v (.string ⟨⟨r16⟩⟩)), (26, .v (.bool (r16 == ([] : Bs)))), (27, .v (.bool false)), (28, .loc 13 0), (29, .v (.string ⟨⟨r16⟩⟩)), (30, .v (.bool r17.1)), (31, .v (.bool r17.1))]) (fun b_ => [(13, .box 80 [.own 5130, .own 5131, .ela 5130 5 (r17.2.2.2.1.1.length) 2, .v (.int .i64 r17.2.2.1)]), (5130, .box 51 [pfx 5 (r17.2.2.2.1.1.map zAI) b_, .v (.bool r17.2.2.2.2.1), .own 5132, .own 5133, .own 5134, .own 5135]), (5131, .arr 43 7 (l13.map cOp)), (5135, .box 54 [pfx 2 (r17.2.2.2.2.2.1.1.map zAa) r17.2.2.2.2.2.1.2, .v (.int .i64 r17.2.2.2.2.2.2.1), .own 5136]), (5132, .arr 9 1 (r17.2.2.2.2.2.2.2.1.map cStr)), (5133, .arr 43 7 (r17.2.2.2.2.2.2.2.2.1.map cOp)), (5134, .arr 43 7 (r17.2.2.2.2.2.2.2.2.2.1.map cOp)), (5136, .arr 43 7 (r17.2.2.2.2.2.2.2.2.2.2.map cOp)), (4, .box 77 [.loc 13 0]), (3, .box 28 [.v (.int .i64 0)]), (2, .box 25 [.v (.slice none 0 0), .v (.slice none 0 0)])]) r17.2.2.2.1.2 ?_
      refine zBD (E' := [(2, .loc 2 0), (3, .loc 3 0), (4, .loc 4 0), (5, .v (.string ⟨⟨r16⟩⟩))]) (S' := [(13, .box 80 [.own 5130, .own 5131, .ela 5130 5 (r17.2.2.2.1.1.length) 2, .v (.int .i64 r17.2.2.1)]), (5130, .box 51 [pfx 5 (r17.2.2.2.1.1.map zAI) true, .v (.bool r17.2.2.2.2.1), .own 5132, .own 5133, .own 5134, .own 5135]), (5131, .arr 43 7 (l13.map cOp)), (5135, .box 54 [pfx 2 (r17.2.2.2.2.2.1.1.map zAa) r17.2.2.2.2.2.1.2, .v (.int .i64 r17.2.2.2.2.2.2.1), .own 5136]), (5132, .arr 9 1 (r17.2.2.2.2.2.2.2.1.map cStr)), (5133, .arr 43 7 (r17.2.2.2.2.2.2.2.2.1.map cOp)), (5134, .arr 43 7 (r17.2.2.2.2.2.2.2.2.2.1.map cOp)), (5136, .arr 43 7 (r17.2.2.2.2.2.2.2.2.2.2.map cOp)), (4, .box 77 [.loc 13 0]), (3, .box 28 [.v (.int .i64 0)]), (2, .box 25 [.v (.slice none 0 0), .v (.slice none 0 0)])]) ?_ ⟨rfl, rfl, rfl, rfl, trivial⟩ ⟨rfl, rfl, rfl, rfl, rfl, rfl, rfl, rfl, rfl, rfl, rfl, trivial⟩ rfl
      refine zBM [0, 1, 3, 7, 15, 31, 63, 0, 128, 384, 896, 2047] mixed (by kernel_rfl) (by kernel_rfl) rfl rfl ?_
      refine vf [8, 9] [64] [] [4, 13] [4] [(32, .loc 13 0)] [(4, .box 77 [.loc 13 0])] ?_
      refine ve [64] [66] [13] [(33, .loc 13 0)] ?_
      refine ve [66] [68] [13] [(34, .loc 13 2)] ?_
      refine vf [27, 68] [70] [] [13, 5130, 5131] [13] [(35, .ela 5130 5 (r17.2.2.2.1.1.length) 2)] [(13, .box 80 [.own 5130, .own 5131, .ela 5130 5 (r17.2.2.2.1.1.length) 2, .v (.int .i64 r17.2.2.1)])] ?_
      refine ve [70] [72] [5130] [(36, .ela 5130 5 (r17.2.2.2.1.1.length) 2)] ?_
      refine zAY [72, 10261] [74] [] [5130, 5132, 5133, 5134, 5135] [5130] [(37, .own 5133)] [(5130, .box 51 [pfx 5 (r17.2.2.2.1.1.map zAI) true, .v (.bool r17.2.2.2.2.1), .own 5132, .own 5133, .own 5134, .own 5135])] rfl rfl rfl rfl (by kernel_rfl) (by kernel_rfl) (by kernel_rfl) ⟨rfl, trivial⟩ (fun w0 X X0 σ0 _ => by refine zBq (T := tab) (by simp) rfl rfl rfl rfl rfl rfl rfl rfl ?_; refine zAC ?_; exact zAz ⟨rfl, trivial⟩ ⟨rfl, trivial⟩ rfl) ?_
      refine zAY [74, 10267] [76] [] [5133] [5133] [(38, .v (.int .i64 ((r17.2.2.2.2.2.2.2.2.1.length : Nat) : Int)))] [(5133, .arr 43 7 (r17.2.2.2.2.2.2.2.2.1.map cOp))] rfl rfl rfl rfl (by kernel_rfl) (by kernel_rfl) (by kernel_rfl) ⟨rfl, trivial⟩ (fun w0 X X0 σ0 _ => by refine zCQ (T := tab) cOp r17.2.2.2.2.2.2.2.2.1 rfl rfl rfl rfl rfl rfl rfl rfl rfl ?_; refine zAC ?_; exact zAz ⟨rfl, trivial⟩ ⟨rfl, trivial⟩ rfl) ?_
      refine vf [8, 9] [78] [] [4, 13] [4] [(39, .loc 13 0)] [(4, .box 77 [.loc 13 0])] ?_
      refine ve [78] [80] [13] [(40, .loc 13 0)] ?_
      refine ve [80] [82] [13] [(41, .loc 13 3)] ?_
      refine vf [27, 82] [84] [] [13, 5130, 5131] [13] [(42, .v (.int .i64 r17.2.2.1))] [(13, .box 80 [.own 5130, .own 5131, .ela 5130 5 (r17.2.2.2.1.1.length) 2, .v (.int .i64 r17.2.2.1)])] ?_
      refine ve [76, 84] [86] [] [(43, .v (.bool (((r17.2.2.2.2.2.2.2.2.1.length : Nat) : Int) == r17.2.2.1)))] ?_
      refine zBr rfl rfl ?_
      refine zAB ?_
      refine zAR rfl ?_ ?_
      ·refine sr ?_
       refine zBI (T := tab) rfl rfl rfl rfl rfl rfl rfl ?_
       refine zAK (T := tab) rfl rfl rfl rfl rfl rfl rfl rfl rfl rfl rfl rfl ?_
       refine zAK (T := tab) rfl rfl rfl rfl rfl rfl rfl rfl rfl rfl rfl rfl ?_
       refine ns ?_
       refine zD4 2 [.sl 5 false ([].map zAI), .sl 7 false ([].map cOp)] rfl ⟨.nil, .nil, trivial⟩ rfl ?_
       exact zGb rfl ⟨rfl, rfl, trivial⟩ rfl
      ·refine zAG ?_
       refine zAB ?_
       refine sr ?_
       refine pe 1 ?_
       refine zAM (enc := fun (r19 : (Op × Int)) => .tup [.agg (cOp r19.1), .v (.int .i64 r19.2)]) (qs := [.v (.string ⟨⟨r16⟩⟩)]) (zEW fu r16) rfl rfl ⟨⟨_, rfl, .rfl⟩, trivial⟩ (fun _ => rfl) zJ7 rfl rfl fun r19 hr19 => ?_
       refine pe 3 ?_
       refine zBE (T := tab) 6 rfl rfl rfl rfl rfl rfl rfl rfl rfl ?_
       refine zAK (T := tab) rfl rfl rfl rfl rfl rfl rfl rfl rfl rfl rfl rfl ?_
       refine pe 1 ?_
       refine ns ?_
       refine zBD (E' := [(2, .loc 2 0), (3, .loc 3 0), (4, .loc 4 0), (6, .loc 6 0)]) (S' := [(6, .box 43 [.v (.int .i64 r19.1.Kind), .v (.int .i64 r19.1.A), .v (.int .i64 r19.1.B), .v (.int .i64 r19.1.C), .v (.string ⟨⟨r19.1.S⟩⟩), .v (.string ⟨⟨r19.1.T⟩⟩), .v (.bool r19.1.Must)]), (13, .box 80 [.own 5130, .own 5131, .ela 5130 5 (r17.2.2.2.1.1.length) 2, .v (.int .i64 r17.2.2.1)]), (5130, .box 51 [pfx 5 (r17.2.2.2.1.1.map zAI) true, .v (.bool r17.2.2.2.2.1), .own 5132, .own 5133, .own 5134, .own 5135]), (5131, .arr 43 7 (l13.map cOp)), (5135, .box 54 [pfx 2 (r17.2.2.2.2.2.1.1.map zAa) r17.2.2.2.2.2.1.2, .v (.int .i64 r17.2.2.2.2.2.2.1), .own 5136]), (5132, .arr 9 1 (r17.2.2.2.2.2.2.2.1.map cStr)), (5133, .arr 43 7 (r17.2.2.2.2.2.2.2.2.1.map cOp)), (5134, .arr 43 7 (r17.2.2.2.2.2.2.2.2.2.1.map cOp)), (5136, .arr 43 7 (r17.2.2.2.2.2.2.2.2.2.2.map cOp)), (4, .box 77 [.loc 13 0]), (3, .box 28 [.v (.int .i64 0)]), (2, .box 25 [.v (.slice none 0 0), .v (.slice none 0 0)])]) ?_ ⟨rfl, rfl, rfl, rfl, trivial⟩ ⟨rfl, rfl, rfl, rfl, rfl, rfl, rfl, rfl, rfl, rfl, rfl, rfl, trivial⟩ rfl
       refine zBM [0, 1, 3, 7, 0, 16, 48, 112, 240, 496, 0, 1024, 4080, 8191, 16383] mixed (by kernel_rfl) (by kernel_rfl) rfl rfl ?_
       refine vf [8, 9] [100] [] [4, 13] [4] [(50, .loc 13 0)] [(4, .box 77 [.loc 13 0])] ?_
       refine ve [100] [102] [13] [(51, .loc 13 0)] ?_
       refine ve [102] [104] [13] [(52, .loc 13 2)] ?_
       refine vf [27, 104] [106] [] [13, 5130, 5131] [13] [(53, .ela 5130 5 (r17.2.2.2.1.1.length) 2)] [(13, .box 80 [.own 5130, .own 5131, .ela 5130 5 (r17.2.2.2.1.1.length) 2, .v (.int .i64 r17.2.2.1)])] ?_
       refine vf [8, 9] [108] [] [4, 13] [4] [(54, .loc 13 0)] [(4, .box 77 [.loc 13 0])] ?_
       refine ve [108] [110] [13] [(55, .loc 13 0)] ?_
       refine ve [110] [112] [13] [(56, .loc 13 2)] ?_
       refine vf [27, 112] [114] [] [13, 5130, 5131] [13] [(57, .ela 5130 5 (r17.2.2.2.1.1.length) 2)] [(13, .box 80 [.own 5130, .own 5131, .ela 5130 5 (r17.2.2.2.1.1.length) 2, .v (.int .i64 r17.2.2.1)])] ?_
       refine ve [114] [116] [5130] [(58, .ela 5130 5 (r17.2.2.2.1.1.length) 2)] ?_
       refine zAY [116, 10261] [118] [] [5130, 5132, 5133, 5134, 5135] [5130] [(59, .own 5133)] [(5130, .box 51 [pfx 5 (r17.2.2.2.1.1.map zAI) true, .v (.bool r17.2.2.2.2.1), .own 5132, .own 5133, .own 5134, .own 5135])] rfl rfl rfl rfl (by kernel_rfl) (by kernel_rfl) (by kernel_rfl) ⟨rfl, trivial⟩ (fun w0 X X0 σ0 _ => by refine zBq (T := tab) (by simp) rfl rfl rfl rfl rfl rfl rfl rfl ?_; refine zAC ?_; exact zAz ⟨rfl, trivial⟩ ⟨rfl, trivial⟩ rfl) ?_
       refine vf [12, 13] [120] [] [6] [6] [(60, .agg (cOp r19.1))] [(6, .box 43 [.v (.int .i64 r19.1.Kind), .v (.int .i64 r19.1.A), .v (.int .i64 r19.1.B), .v (.int .i64 r19.1.C), .v (.string ⟨⟨r19.1.S⟩⟩), .v (.string ⟨⟨r19.1.T⟩⟩), .v (.bool r19.1.Must)])] ?_
       refine zAY [120] [122, 123] [61] [] [] [(61, .own 61)] [(61, .arr 43 7 ([r19.1].map cOp))] rfl rfl rfl rfl (by kernel_rfl) (by kernel_rfl) (by kernel_rfl) trivial (fun w0 X X0 σ0 _ => by refine zDo (T := tab) (rows := [r19.1].map cOp) 61 rfl rfl rfl rfl rfl rfl rfl rfl rfl rfl rfl rfl rfl rfl ?_; refine zAC ?_; exact zAz ⟨rfl, trivial⟩ ⟨rfl, trivial⟩ rfl) ?_
       refine zAj (M := (zED 72 (r17.2.2.2.2.2.2.2.2.1.length + ([r19.1] : List Op).length))) (ment := [(124, [5133]), (118, []), (10261, [5132, 5134, 5135]), (10267, [])]) [118, 122, 123, 10261, 10267] [124, 118, 10261, 10267] [5133] [61, 5130, 5132, 5134, 5135] [61] (fun _ => [(62, .own 5133)]) (fun _ => [(5130, .box 51 [pfx 5 (r17.2.2.2.1.1.map zAI) true, .v (.bool r17.2.2.2.2.1), .own 5132, .junk, .own 5134, .own 5135]), (5133, .arr 43 7 ((r17.2.2.2.2.2.2.2.2.1 ++ [r19.1]).map cOp)), (61, .arr 43 7 ([r19.1].map cOp))]) rfl rfl (fun _ => rfl) (fun _ => rfl) (by kernel_rfl) (by kernel_rfl) (fun _ => by kernel_rfl) (fun _ => ⟨rfl, trivial⟩) (fun w0 X X0 σ0 _ => by refine zDb (T := tab) cOp r17.2.2.2.2.2.2.2.2.1 ([r19.1] : List Op) rfl rfl rfl rfl rfl rfl rfl rfl rfl rfl rfl rfl rfl rfl (zHq _) rfl rfl rfl rfl rfl ?_; refine zAC ?_; exact zBj ⟨rfl, trivial⟩ ⟨rfl, rfl, rfl, trivial⟩ rfl) fun _ h0 => ?_
       refine ve [106] [126] [5130] [(63, .ela 5130 5 (r17.2.2.2.1.1.length) 2)] ?_
       refine zAY [124, 126, 10261, 10267] [10261] [] [5130, 5132, 5133, 5134, 5135] [5133] [] [(5130, .box 51 [pfx 5 (r17.2.2.2.1.1.map zAI) true, .v (.bool r17.2.2.2.2.1), .own 5132, .own 5133, .own 5134, .own 5135]), (5133, .arr 43 7 ((r17.2.2.2.2.2.2.2.2.1 ++ [r19.1]).map cOp))] rfl rfl rfl rfl (by kernel_rfl) (by kernel_rfl) (by kernel_rfl) ⟨rfl, trivial⟩ (fun w0 X X0 σ0 _ => by refine zDg (T := tab) (by simp) rfl rfl rfl rfl rfl rfl rfl rfl rfl rfl rfl rfl ?_; refine zAC ?_; exact zAz trivial ⟨rfl, rfl, trivial⟩ rfl) ?_
       refine zBr rfl rfl ?_
       refine zAJ ?_
       refine zEO 13 [.own 5130, .own 5131, .sel 1 [.loc 13 1, .ela 5130 5 (r17.2.2.2.1.1.length) 2, .ela 5130 5 (r17.2.2.2.1.1.length) 3, .ela 5135 2 (r17.2.2.2.2.2.1.1.length) 1], .v (.int .i64 r17.2.2.1)] rfl ⟨.rfl, .rfl, (.sel rfl rfl), .rfl, trivial⟩ rfl ?_
       exact zEw (1, r17.2.2.1, (r17.2.2.2.1.1, true), r17.2.2.2.2.1, r17.2.2.2.2.2.2.2.1, (r17.2.2.2.2.2.2.2.2.1 ++ [r19.1]), r17.2.2.2.2.2.2.2.2.2.1, r17.2.2.2.2.2.1, r17.2.2.2.2.2.2.1, r17.2.2.2.2.2.2.2.2.2.2, l13) ⟨rfl, rfl, rfl, rfl, rfl, rfl, rfl, rfl, rfl, rfl, rfl, trivial⟩ rfl
     ·refine zHS (E' := [(2, .loc 2 0), (3, .loc 3 0), (4, .loc 4 0), (22, .v (.string ⟨⟨y14⟩⟩)), (5, .v (.string ⟨⟨r16⟩⟩)), (23, .v (.string ⟨⟨y14⟩⟩)), (24, .v (.string ⟨⟨r16⟩⟩)), (25, .v (.string ⟨⟨r16⟩⟩)), (26, .v (.bool (r16 == ([] : Bs)))), (27, .v (.bool false)), (28, .loc 13 0), (29, .v (.string ⟨⟨r16⟩⟩)), (30, .v (.bool r17.1)), (31, .v (.bool r17.1))]) (S' := [(13, .box 80 [.own 5130, .own 5131, .ela 5130 5 (r17.2.2.2.1.1.length) 3, .v (.int .i64 r17.2.2.1)]), (5130, .box 51 [pfx 5 (r17.2.2.2.1.1.map zAI) r17.2.2.2.1.2, .v (.bool r17.2.2.2.2.1), .own 5132, .own 5133, .own 5134, .own 5135]), (5131, .arr 43 7 (l13.map cOp)), (5135, .box 54 [pfx 2 (r17.2.2.2.2.2.1.1.map zAa) r17.2.2.2.2.2.1.2, .v (.int .i64 r17.2.2.2.2.2.2.1), .own 5136]), (5132, .arr 9 1 (r17.2.2.2.2.2.2.2.1.map cStr)), (5133, .arr 43 7 (r17.2.2.2.2.2.2.2.2.1.map cOp)), (5134, .arr 43 7 (r17.2.2.2.2.2.2.2.2.2.1.map cOp)), (5136, .arr 43 7 (r17.2.2.2.2.2.2.2.2.2.2.map cOp)), (4, .box 77 [.loc 13 0]), (3, .box 28 [.v (.int .i64 0)]), (2, .box 25 [.v (.slice none 0 0), .v (.slice none 0 0)])]) rfl rfl ?_
      refine zBD (E' := [(2, .loc 2 0), (3, .loc 3 0), (4, .loc 4 0), (22, .v (.string ⟨⟨y14⟩⟩)), (5, .v (.string ⟨⟨r16⟩⟩)), (23, .v (.string ⟨⟨y14⟩⟩)), (24, .v (.string ⟨⟨r16⟩⟩)), (25, .v (.string ⟨⟨r16⟩⟩)), (26, .v (.bool (r16 == ([] : Bs)))), (27, .v (.bool false)), (28, .loc 13 0), (29, .v (.string ⟨⟨r16⟩⟩)), (30, .v (.bool r17.1)), (31, .v (.bool r17.1))]) (S' := [(13, .box 80 [.own 5130, .own 5131, .ela 5130 5 (r17.2.2.2.1.1.length) 3, .v (.int .i64 r17.2.2.1)]), (5130, .box 51 [pfx 5 (r17.2.2.2.1.1.map zAI) r17.2.2.2.1.2, .v (.bool r17.2.2.2.2.1), .own 5132, .own 5133, .own 5134, .own 5135]), (5131, .arr 43 7 (l13.map cOp)), (5135, .box 54 [pfx 2 (r17.2.2.2.2.2.1.1.map zAa) r17.2.2.2.2.2.1.2, .v (.int .i64 r17.2.2.2.2.2.2.1), .own 5136]), (5132, .arr 9 1 (r17.2.2.2.2.2.2.2.1.map cStr)), (5133, .arr 43 7 (r17.2.2.2.2.2.2.2.2.1.map cOp)), (5134, .arr 43 7 (r17.2.2.2.2.2.2.2.2.2.1.map cOp)), (5136, .arr 43 7 (r17.2.2.2.2.2.2.2.2.2.2.map cOp)), (4, .box 77 [.loc 13 0]), (3, .box 28 [.v (.int .i64 0)]), (2, .box 25 [.v (.slice none 0 0), .v (.slice none 0 0)])]) ?_ ⟨rfl, rfl, rfl, rfl, rfl, rfl, rfl, rfl, rfl, rfl, rfl, rfl, rfl, rfl, trivial⟩ ⟨rfl, rfl, rfl, rfl, rfl, rfl, rfl, rfl, rfl, rfl, rfl, trivial⟩ rfl
      refine zLu (fun b_ => [(2, .loc 2 0), (3, .loc 3 0), (4, .loc 4 0), (22, .v (.string ⟨⟨y14⟩⟩)), (5, .v (.string ⟨⟨r16⟩⟩)), (23, .v (.string ⟨⟨y14⟩⟩)), (24, .v (.string ⟨⟨r16⟩⟩)), (25, .v (.string ⟨⟨r16⟩⟩)), (26, .v (.bool (r16 == ([] : Bs)))), (27, .v (.bool false)), (28, .loc 13 0), (29, .v (.string ⟨⟨r16⟩⟩)), (30, .v (.bool r17.1)), (31, .v (.bool r17.1))]) (fun b_ => [(13, .box 80 [.own 5130, .own 5131, .ela 5130 5 (r17.2.2.2.1.1.length) 3, .v (.int .i64 r17.2.2.1)]), (5130, .box 51 [pfx 5 (r17.2.2.2.1.1.map zAI) b_, .v (.bool r17.2.2.2.2.1), .own 5132, .own 5133, .own 5134, .own 5135]), (5131, .arr 43 7 (l13.map cOp)), (5135, .box 54 [pfx 2 (r17.2.2.2.2.2.1.1.map zAa) r17.2.2.2.2.2.1.2, .v (.int .i64 r17.2.2.2.2.2.2.1), .own 5136]), (5132, .arr 9 1 (r17.2.2.2.2.2.2.2.1.map cStr)), (5133, .arr 43 7 (r17.2.2.2.2.2.2.2.2.1.map cOp)), (5134, .arr 43 7 (r17.2.2.2.2.2.2.2.2.2.1.map cOp)), (5136, .arr 43 7 (r17.2.2.2.2.2.2.2.2.2.2.map cOp)), (4, .box 77 [.loc 13 0]), (3, .box 28 [.v (.int .i64 0)]), (2, .box 25 [.v (.slice none 0 0), .v (.slice none 0 0)])]) r17.2.2.2.1.2 ?_
      refine zBD (E' := [(2, .loc 2 0), (3, .loc 3 0), (4, .loc 4 0), (5, .v (.string ⟨⟨r16⟩⟩))]) (S' := [(13, .box 80 [.own 5130, .own 5131, .ela 5130 5 (r17.2.2.2.1.1.length) 3, .v (.int .i64 r17.2.2.1)]), (5130, .box 51 [pfx 5 (r17.2.2.2.1.1.map zAI) true, .v (.bool r17.2.2.2.2.1), .own 5132, .own 5133, .own 5134, .own 5135]), (5131, .arr 43 7 (l13.map cOp)), (5135, .box 54 [pfx 2 (r17.2.2.2.2.2.1.1.map zAa) r17.2.2.2.2.2.1.2, .v (.int .i64 r17.2.2.2.2.2.2.1), .own 5136]), (5132, .arr 9 1 (r17.2.2.2.2.2.2.2.1.map cStr)), (5133, .arr 43 7 (r17.2.2.2.2.2.2.2.2.1.map cOp)), (5134, .arr 43 7 (r17.2.2.2.2.2.2.2.2.2.1.map cOp)), (5136, .arr 43 7 (r17.2.2.2.2.2.2.2.2.2.2.map cOp)), (4, .box 77 [.loc 13 0]), (3, .box 28 [.v (.int .i64 0)]), (2, .box 25 [.v (.slice none 0 0), .v (.slice none 0 0)])]) ?_ ⟨rfl, rfl, rfl, rfl, trivial⟩ ⟨rfl, rfl, rfl, rfl, rfl, rfl, rfl, rfl, rfl, rfl, rfl, trivial⟩ rfl
      refine zBM [0, 1, 3, 7, 15, 31, 63, 0, 128, 384, 896, 2047] mixed (by kernel_rfl) (by kernel_rfl) rfl rfl ?_
      refine vf [8, 9] [64] [] [4, 13] [4] [(32, .loc 13 0)] [(4, .box 77 [.loc 13 0])] ?_
      refine ve [64] [66] [13] [(33, .loc 13 0)] ?_
      refine ve [66] [68] [13] [(34, .loc 13 2)] ?_
      refine vf [27, 68] [70] [] [13, 5130, 5131] [13] [(35, .ela 5130 5 (r17.2.2.2.1.1.length) 3)] [(13, .box 80 [.own 5130, .own 5131, .ela 5130 5 (r17.2.2.2.1.1.length) 3, .v (.int .i64 r17.2.2.1)])] ?_
      refine ve [70] [72] [5130] [(36, .ela 5130 5 (r17.2.2.2.1.1.length) 3)] ?_
      refine zAY [72, 10261] [74] [] [5130, 5132, 5133, 5134, 5135] [5130] [(37, .own 5134)] [(5130, .box 51 [pfx 5 (r17.2.2.2.1.1.map zAI) true, .v (.bool r17.2.2.2.2.1), .own 5132, .own 5133, .own 5134, .own 5135])] rfl rfl rfl rfl (by kernel_rfl) (by kernel_rfl) (by kernel_rfl) ⟨rfl, trivial⟩ (fun w0 X X0 σ0 _ => by refine zBq (T := tab) (by simp) rfl rfl rfl rfl rfl rfl rfl rfl ?_; refine zAC ?_; exact zAz ⟨rfl, trivial⟩ ⟨rfl, trivial⟩ rfl) ?_
      refine zAY [74, 10269] [76] [] [5134] [5134] [(38, .v (.int .i64 ((r17.2.2.2.2.2.2.2.2.2.1.length : Nat) : Int)))] [(5134, .arr 43 7 (r17.2.2.2.2.2.2.2.2.2.1.map cOp))] rfl rfl rfl rfl (by kernel_rfl) (by kernel_rfl) (by kernel_rfl) ⟨rfl, trivial⟩ (fun w0 X X0 σ0 _ => by refine zCQ (T := tab) cOp r17.2.2.2.2.2.2.2.2.2.1 rfl rfl rfl rfl rfl rfl rfl rfl rfl ?_; refine zAC ?_; exact zAz ⟨rfl, trivial⟩ ⟨rfl, trivial⟩ rfl) ?_
      refine vf [8, 9] [78] [] [4, 13] [4] [(39, .loc 13 0)] [(4, .box 77 [.loc 13 0])] ?_
      refine ve [78] [80] [13] [(40, .loc 13 0)] ?_
      refine ve [80] [82] [13] [(41, .loc 13 3)] ?_
      refine vf [27, 82] [84] [] [13, 5130, 5131] [13] [(42, .v (.int .i64 r17.2.2.1))] [(13, .box 80 [.own 5130, .own 5131, .ela 5130 5 (r17.2.2.2.1.1.length) 3, .v (.int .i64 r17.2.2.1)])] ?_
      refine ve [76, 84] [86] [] [(43, .v (.bool (((r17.2.2.2.2.2.2.2.2.2.1.length : Nat) : Int) == r17.2.2.1)))] ?_
      refine zBr rfl rfl ?_
      refine zAB ?_
      refine zAR rfl ?_ ?_
      ·refine sr ?_
       refine zBI (T := tab) rfl rfl rfl rfl rfl rfl rfl ?_
       refine zAK (T := tab) rfl rfl rfl rfl rfl rfl rfl rfl rfl rfl rfl rfl ?_
       refine zAK (T := tab) rfl rfl rfl rfl rfl rfl rfl rfl rfl rfl rfl rfl ?_
       refine ns ?_
       refine zD4 2 [.sl 5 false ([].map zAI), .sl 7 false ([].map cOp)] rfl ⟨.nil, .nil, trivial⟩ rfl ?_
       exact zGb rfl ⟨rfl, rfl, trivial⟩ rfl
      ·refine zAG ?_
       refine zAB ?_
       refine sr ?_
       refine pe 1 ?_
       refine zAM (enc := fun (r20 : (Op × Int)) => .tup [.agg (cOp r20.1), .v (.int .i64 r20.2)]) (qs := [.v (.string ⟨⟨r16⟩⟩)]) (zEW fu r16) rfl rfl ⟨⟨_, rfl, .rfl⟩, trivial⟩ (fun _ => rfl) zJ7 rfl rfl fun r20 hr20 => ?_
       refine pe 3 ?_
       refine zBE (T := tab) 6 rfl rfl rfl rfl rfl rfl rfl rfl rfl ?_
       refine zAK (T := tab) rfl rfl rfl rfl rfl rfl rfl rfl rfl rfl rfl rfl ?_
       refine pe 1 ?_
       refine ns ?_
       refine zBD (E' := [(2, .loc 2 0), (3, .loc 3 0), (4, .loc 4 0), (6, .loc 6 0)]) (S' := [(6, .box 43 [.v (.int .i64 r20.1.Kind), .v (.int .i64 r20.1.A), .v (.int .i64 r20.1.B), .v (.int .i64 r20.1.C), .v (.string ⟨⟨r20.1.S⟩⟩), .v (.string ⟨⟨r20.1.T⟩⟩), .v (.bool r20.1.Must)]), (13, .box 80 [.own 5130, .own 5131, .ela 5130 5 (r17.2.2.2.1.1.length) 3, .v (.int .i64 r17.2.2.1)]), (5130, .box 51 [pfx 5 (r17.2.2.2.1.1.map zAI) true, .v (.bool r17.2.2.2.2.1), .own 5132, .own 5133, .own 5134, .own 5135]), (5131, .arr 43 7 (l13.map cOp)), (5135, .box 54 [pfx 2 (r17.2.2.2.2.2.1.1.map zAa) r17.2.2.2.2.2.1.2, .v (.int .i64 r17.2.2.2.2.2.2.1), .own 5136]), (5132, .arr 9 1 (r17.2.2.2.2.2.2.2.1.map cStr)), (5133, .arr 43 7 (r17.2.2.2.2.2.2.2.2.1.map cOp)), (5134, .arr 43 7 (r17.2.2.2.2.2.2.2.2.2.1.map cOp)), (5136, .arr 43 7 (r17.2.2.2.2.2.2.2.2.2.2.map cOp)), (4, .box 77 [.loc 13 0]), (3, .box 28 [.v (.int .i64 0)]), (2, .box 25 [.v (.slice none 0 0), .v (.slice none 0 0)])]) ?_ ⟨rfl, rfl, rfl, rfl, trivial⟩ ⟨rfl, rfl, rfl, rfl, rfl, rfl, rfl, rfl, rfl, rfl, rfl, rfl, trivial⟩ rfl
       refine zBM [0, 1, 3, 7, 0, 16, 48, 112, 240, 496, 0, 1024, 4080, 8191, 16383] mixed (by kernel_rfl) (by kernel_rfl) rfl rfl ?_
       refine vf [8, 9] [100] [] [4, 13] [4] [(50, .loc 13 0)] [(4, .box 77 [.loc 13 0])] ?_
       refine ve [100] [102] [13] [(51, .loc 13 0)] ?_
       refine ve [102] [104] [13] [(52, .loc 13 2)] ?_
       refine vf [27, 104] [106] [] [13, 5130, 5131] [13] [(53, .ela 5130 5 (r17.2.2.2.1.1.length) 3)] [(13, .box 80 [.own 5130, .own 5131, .ela 5130 5 (r17.2.2.2.1.1.length) 3, .v (.int .i64 r17.2.2.1)])] ?_
       refine vf [8, 9] [108] [] [4, 13] [4] [(54, .loc 13 0)] [(4, .box 77 [.loc 13 0])] ?_
       refine ve [108] [110] [13] [(55, .loc 13 0)] ?_
       refine ve [110] [112] [13] [(56, .loc 13 2)] ?_
       refine vf [27, 112] [114] [] [13, 5130, 5131] [13] [(57, .ela 5130 5 (r17.2.2.2.1.1.length) 3)] [(13, .box 80 [.own 5130, .own 5131, .ela 5130 5 (r17.2.2.2.1.1.length) 3, .v (.int .i64 r17.2.2.1)])] ?_
       refine ve [114] [116] [5130] [(58, .ela 5130 5 (r17.2.2.2.1.1.length) 3)] ?_
       refine zAY [116, 10261] [118] [] [5130, 5132, 5133, 5134, 5135] [5130] [(59, .own 5134)] [(5130, .box 51 [pfx 5 (r17.2.2.2.1.1.map zAI) true, .v (.bool r17.2.2.2.2.1), .own 5132, .own 5133, .own 5134, .own 5135])] rfl rfl rfl rfl (by kernel_rfl) (by kernel_rfl) (by kernel_rfl) ⟨rfl, trivial⟩ (fun w0 X X0 σ0 _ => by refine zBq (T := tab) (by simp) rfl rfl rfl rfl rfl rfl rfl rfl ?_; refine zAC ?_; exact zAz ⟨rfl, trivial⟩ ⟨rfl, trivial⟩ rfl) ?_
       refine vf [12, 13] [120] [] [6] [6] [(60, .agg (cOp r20.1))] [(6, .box 43 [.v (.int .i64 r20.1.Kind), .v (.int .i64 r20.1.A), .v (.int .i64 r20.1.B), .v (.int .i64 r20.1.C), .v (.string ⟨⟨r20.1.S⟩⟩), .v (.string ⟨⟨r20.1.T⟩⟩), .v (.bool r20.1.Must)])] ?_
       refine zAY [120] [122, 123] [61] [] [] [(61, .own 61)] [(61, .arr 43 7 ([r20.1].map cOp))] rfl rfl rfl rfl (by kernel_rfl) (by kernel_rfl) (by kernel_rfl) trivial (fun w0 X X0 σ0 _ => by refine zDo (T := tab) (rows := [r20.1].map cOp) 61 rfl rfl rfl rfl rfl rfl rfl rfl rfl rfl rfl rfl rfl rfl ?_; refine zAC ?_; exact zAz ⟨rfl, trivial⟩ ⟨rfl, trivial⟩ rfl) ?_
       refine zAj (M := (zED 72 (r17.2.2.2.2.2.2.2.2.2.1.length + ([r20.1] : List Op).length))) (ment := [(124, [5134]), (118, []), (10261, [5132, 5133, 5135]), (10269, [])]) [118, 122, 123, 10261, 10269] [124, 118, 10261, 10269] [5134] [61, 5130, 5132, 5133, 5135] [61] (fun _ => [(62, .own 5134)]) (fun _ => [(5130, .box 51 [pfx 5 (r17.2.2.2.1.1.map zAI) true, .v (.bool r17.2.2.2.2.1), .own 5132, .own 5133, .junk, .own 5135]), (5134, .arr 43 7 ((r17.2.2.2.2.2.2.2.2.2.1 ++ [r20.1]).map cOp)), (61, .arr 43 7 ([r20.1].map cOp))]) rfl rfl (fun _ => rfl) (fun _ => rfl) (by kernel_rfl) (by kernel_rfl) (fun _ => by kernel_rfl) (fun _ => ⟨rfl, trivial⟩) (fun w0 X X0 σ0 _ => by refine zDb (T := tab) cOp r17.2.2.2.2.2.2.2.2.2.1 ([r20.1] : List Op) rfl rfl rfl rfl rfl rfl rfl rfl rfl rfl rfl rfl rfl rfl (zHq _) rfl rfl rfl rfl rfl ?_; refine zAC ?_; exact zBj ⟨rfl, trivial⟩ ⟨rfl, rfl, rfl, trivial⟩ rfl) fun _ h0 => ?_
       refine ve [106] [126] [5130] [(63, .ela 5130 5 (r17.2.2.2.1.1.length) 3)] ?_
       refine zAY [124, 126, 10261, 10269] [10261] [] [5130, 5132, 5133, 5134, 5135] [5134] [] [(5130, .box 51 [pfx 5 (r17.2.2.2.1.1.map zAI) true, .v (.bool r17.2.2.2.2.1), .own 5132, .own 5133, .own 5134, .own 5135]), (5134, .arr 43 7 ((r17.2.2.2.2.2.2.2.2.2.1 ++ [r20.1]).map cOp))] rfl rfl rfl rfl (by kernel_rfl) (by kernel_rfl) (by kernel_rfl) ⟨rfl, trivial⟩ (fun w0 X X0 σ0 _ => by refine zDg (T := tab) (by simp) rfl rfl rfl rfl rfl rfl rfl rfl rfl rfl rfl rfl ?_; refine zAC ?_; exact zAz trivial ⟨rfl, rfl, trivial⟩ rfl) ?_
       refine zBr rfl rfl ?_
       refine zAJ ?_
       refine zEO 13 [.own 5130, .own 5131, .sel 2 [.loc 13 1, .ela 5130 5 (r17.2.2.2.1.1.length) 2, .ela 5130 5 (r17.2.2.2.1.1.length) 3, .ela 5135 2 (r17.2.2.2.2.2.1.1.length) 1], .v (.int .i64 r17.2.2.1)] rfl ⟨.rfl, .rfl, (.sel rfl rfl), .rfl, trivial⟩ rfl ?_
       exact zEw (2, r17.2.2.1, (r17.2.2.2.1.1, true), r17.2.2.2.2.1, r17.2.2.2.2.2.2.2.1, r17.2.2.2.2.2.2.2.2.1, (r17.2.2.2.2.2.2.2.2.2.1 ++ [r20.1]), r17.2.2.2.2.2.1, r17.2.2.2.2.2.2.1, r17.2.2.2.2.2.2.2.2.2.2, l13) ⟨rfl, rfl, rfl, rfl, rfl, rfl, rfl, rfl, rfl, rfl, rfl, trivial⟩ rfl
     ·refine zHS (E' := [(2, .loc 2 0), (3, .loc 3 0), (4, .loc 4 0), (22, .v (.string ⟨⟨y14⟩⟩)), (5, .v (.string ⟨⟨r16⟩⟩)), (23, .v (.string ⟨⟨y14⟩⟩)), (24, .v (.string ⟨⟨r16⟩⟩)), (25, .v (.string ⟨⟨r16⟩⟩)), (26, .v (.bool (r16 == ([] : Bs)))), (27, .v (.bool false)), (28, .loc 13 0), (29, .v (.string ⟨⟨r16⟩⟩)), (30, .v (.bool r17.1)), (31, .v (.bool r17.1))]) (S' := [(13, .box 80 [.own 5130, .own 5131, .ela 5135 2 (r17.2.2.2.2.2.1.1.length) 1, .v (.int .i64 r17.2.2.1)]), (5130, .box 51 [pfx 5 (r17.2.2.2.1.1.map zAI) r17.2.2.2.1.2, .v (.bool r17.2.2.2.2.1), .own 5132, .own 5133, .own 5134, .own 5135]), (5131, .arr 43 7 (l13.map cOp)), (5135, .box 54 [pfx 2 (r17.2.2.2.2.2.1.1.map zAa) r17.2.2.2.2.2.1.2, .v (.int .i64 r17.2.2.2.2.2.2.1), .own 5136]), (5132, .arr 9 1 (r17.2.2.2.2.2.2.2.1.map cStr)), (5133, .arr 43 7 (r17.2.2.2.2.2.2.2.2.1.map cOp)), (5134, .arr 43 7 (r17.2.2.2.2.2.2.2.2.2.1.map cOp)), (5136, .arr 43 7 (r17.2.2.2.2.2.2.2.2.2.2.map cOp)), (4, .box 77 [.loc 13 0]), (3, .box 28 [.v (.int .i64 0)]), (2, .box 25 [.v (.slice none 0 0), .v (.slice none 0 0)])]) rfl rfl ?_
      refine zBD (E' := [(2, .loc 2 0), (3, .loc 3 0), (4, .loc 4 0), (22, .v (.string ⟨⟨y14⟩⟩)), (5, .v (.string ⟨⟨r16⟩⟩)), (23, .v (.string ⟨⟨y14⟩⟩)), (24, .v (.string ⟨⟨r16⟩⟩)), (25, .v (.string ⟨⟨r16⟩⟩)), (26, .v (.bool (r16 == ([] : Bs)))), (27, .v (.bool false)), (28, .loc 13 0), (29, .v (.string ⟨⟨r16⟩⟩)), (30, .v (.bool r17.1)), (31, .v (.bool r17.1))]) (S' := [(13, .box 80 [.own 5130, .own 5131, .ela 5135 2 (r17.2.2.2.2.2.1.1.length) 1, .v (.int .i64 r17.2.2.1)]), (5130, .box 51 [pfx 5 (r17.2.2.2.1.1.map zAI) r17.2.2.2.1.2, .v (.bool r17.2.2.2.2.1), .own 5132, .own 5133, .own 5134, .own 5135]), (5131, .arr 43 7 (l13.map cOp)), (5135, .box 54 [pfx 2 (r17.2.2.2.2.2.1.1.map zAa) r17.2.2.2.2.2.1.2, .v (.int .i64 r17.2.2.2.2.2.2.1), .own 5136]), (5132, .arr 9 1 (r17.2.2.2.2.2.2.2.1.map cStr)), (5133, .arr 43 7 (r17.2.2.2.2.2.2.2.2.1.map cOp)), (5134, .arr 43 7 (r17.2.2.2.2.2.2.2.2.2.1.map cOp)), (5136, .arr 43 7 (r17.2.2.2.2.2.2.2.2.2.2.map cOp)), (4, .box 77 [.loc 13 0]), (3, .box 28 [.v (.int .i64 0)]), (2, .box 25 [.v (.slice none 0 0), .v (.slice none 0 0)])]) ?_ ⟨rfl, rfl, rfl, rfl, rfl, rfl, rfl, rfl, rfl, rfl, rfl, rfl, rfl, rfl, trivial⟩ ⟨rfl, rfl, rfl, rfl, rfl, rfl, rfl, rfl, rfl, rfl, rfl, trivial⟩ rfl
      refine zLu (fun b_ => [(2, .loc 2 0), (3, .loc 3 0), (4, .loc 4 0), (22, .v (.string ⟨⟨y14⟩⟩)), (5, .v (.string ⟨⟨r16⟩⟩)), (23, .v (.string ⟨⟨y14⟩⟩)), (24, .v (.string ⟨⟨r16⟩⟩)), (25, .v (.string ⟨⟨r16⟩⟩)), (26, .v (.bool (r16 == ([] : Bs)))), (27, .v (.bool false)), (28, .loc 13 0), (29, .v (.string ⟨⟨r16⟩⟩)), (30, .v (.bool r17.1)), (31, .v (.bool r17.1))]) (fun b_ => [(13, .box 80 [.own 5130, .own 5131, .ela 5135 2 (r17.2.2.2.2.2.1.1.length) 1, .v (.int .i64 r17.2.2.1)]), (5130, .box 51 [pfx 5 (r17.2.2.2.1.1.map zAI) r17.2.2.2.1.2, .v (.bool r17.2.2.2.2.1), .own 5132, .own 5133, .own 5134, .own 5135]), (5131, .arr 43 7 (l13.map cOp)), (5135, .box 54 [pfx 2 (r17.2.2.2.2.2.1.1.map zAa) b_, .v (.int .i64 r17.2.2.2.2.2.2.1), .own 5136]), (5132, .arr 9 1 (r17.2.2.2.2.2.2.2.1.map cStr)), (5133, .arr 43 7 (r17.2.2.2.2.2.2.2.2.1.map cOp)), (5134, .arr 43 7 (r17.2.2.2.2.2.2.2.2.2.1.map cOp)), (5136, .arr 43 7 (r17.2.2.2.2.2.2.2.2.2.2.map cOp)), (4, .box 77 [.loc 13 0]), (3, .box 28 [.v (.int .i64 0)]), (2, .box 25 [.v (.slice none 0 0), .v (.slice none 0 0)])]) r17.2.2.2.2.2.1.2 ?_
      refine zBD (E' := [(2, .loc 2 0), (3, .loc 3 0), (4, .loc 4 0), (5, .v (.string ⟨⟨r16⟩⟩))]) (S' := [(13, .box 80 [.own 5130, .own 5131, .ela 5135 2 (r17.2.2.2.2.2.1.1.length) 1, .v (.int .i64 r17.2.2.1)]), (5130, .box 51 [pfx 5 (r17.2.2.2.1.1.map zAI) r17.2.2.2.1.2, .v (.bool r17.2.2.2.2.1), .own 5132, .own 5133, .own 5134, .own 5135]), (5131, .arr 43 7 (l13.map cOp)), (5135, .box 54 [pfx 2 (r17.2.2.2.2.2.1.1.map zAa) true, .v (.int .i64 r17.2.2.2.2.2.2.1), .own 5136]), (5132, .arr 9 1 (r17.2.2.2.2.2.2.2.1.map cStr)), (5133, .arr 43 7 (r17.2.2.2.2.2.2.2.2.1.map cOp)), (5134, .arr 43 7 (r17.2.2.2.2.2.2.2.2.2.1.map cOp)), (5136, .arr 43 7 (r17.2.2.2.2.2.2.2.2.2.2.map cOp)), (4, .box 77 [.loc 13 0]), (3, .box 28 [.v (.int .i64 0)]), (2, .box 25 [.v (.slice none 0 0), .v (.slice none 0 0)])]) ?_ ⟨rfl, rfl, rfl, rfl, trivial⟩ ⟨rfl, rfl, rfl, rfl, rfl, rfl, rfl, rfl, rfl, rfl, rfl, trivial⟩ rfl
      refine zBM [0, 1, 3, 7, 15, 31, 63, 0, 128, 384, 896, 2047] mixed (by kernel_rfl) (by kernel_rfl) rfl rfl ?_
      refine vf [8, 9] [64] [] [4, 13] [4] [(32, .loc 13 0)] [(4, .box 77 [.loc 13 0])] ?_
      refine ve [64] [66] [13] [(33, .loc 13 0)] ?_
      refine ve [66] [68] [13] [(34, .loc 13 2)] ?_
      refine vf [27, 68] [70] [] [13, 5130, 5131, 5135] [13] [(35, .ela 5135 2 (r17.2.2.2.2.2.1.1.length) 1)] [(13, .box 80 [.own 5130, .own 5131, .ela 5135 2 (r17.2.2.2.2.2.1.1.length) 1, .v (.int .i64 r17.2.2.1)])] ?_
      refine ve [70] [72] [5135] [(36, .ela 5135 2 (r17.2.2.2.2.2.1.1.length) 1)] ?_
      refine zAY [72, 10271] [74] [] [5135, 5136] [5135] [(37, .own 5136)] [(5135, .box 54 [pfx 2 (r17.2.2.2.2.2.1.1.map zAa) true, .v (.int .i64 r17.2.2.2.2.2.2.1), .own 5136])] rfl rfl rfl rfl (by kernel_rfl) (by kernel_rfl) (by kernel_rfl) ⟨rfl, trivial⟩ (fun w0 X X0 σ0 _ => by refine zBq (T := tab) (by simp) rfl rfl rfl rfl rfl rfl rfl rfl ?_; refine zAC ?_; exact zAz ⟨rfl, trivial⟩ ⟨rfl, trivial⟩ rfl) ?_
      refine zAY [74, 10273] [76] [] [5136] [5136] [(38, .v (.int .i64 ((r17.2.2.2.2.2.2.2.2.2.2.length : Nat) : Int)))] [(5136, .arr 43 7 (r17.2.2.2.2.2.2.2.2.2.2.map cOp))] rfl rfl rfl rfl (by kernel_rfl) (by kernel_rfl) (by kernel_rfl) ⟨rfl, trivial⟩ (fun w0 X X0 σ0 _ => by refine zCQ (T := tab) cOp r17.2.2.2.2.2.2.2.2.2.2 rfl rfl rfl rfl rfl rfl rfl rfl rfl ?_; refine zAC ?_; exact zAz ⟨rfl, trivial⟩ ⟨rfl, trivial⟩ rfl) ?_
      refine vf [8, 9] [78] [] [4, 13] [4] [(39, .loc 13 0)] [(4, .box 77 [.loc 13 0])] ?_
      refine ve [78] [80] [13] [(40, .loc 13 0)] ?_
      refine ve [80] [82] [13] [(41, .loc 13 3)] ?_
      refine vf [27, 82] [84] [] [13, 5130, 5131, 5135] [13] [(42, .v (.int .i64 r17.2.2.1))] [(13, .box 80 [.own 5130, .own 5131, .ela 5135 2 (r17.2.2.2.2.2.1.1.length) 1, .v (.int .i64 r17.2.2.1)])] ?_
      refine ve [76, 84] [86] [] [(43, .v (.bool (((r17.2.2.2.2.2.2.2.2.2.2.length : Nat) : Int) == r17.2.2.1)))] ?_
      refine zBr rfl rfl ?_
      refine zAB ?_
      refine zAR rfl ?_ ?_
      ·refine sr ?_
       refine zBI (T := tab) rfl rfl rfl rfl rfl rfl rfl ?_
       refine zAK (T := tab) rfl rfl rfl rfl rfl rfl rfl rfl rfl rfl rfl rfl ?_
       refine zAK (T := tab) rfl rfl rfl rfl rfl rfl rfl rfl rfl rfl rfl rfl ?_
       refine ns ?_
       refine zD4 2 [.sl 5 false ([].map zAI), .sl 7 false ([].map cOp)] rfl ⟨.nil, .nil, trivial⟩ rfl ?_
       exact zGb rfl ⟨rfl, rfl, trivial⟩ rfl
      ·refine zAG ?_
       refine zAB ?_
       refine sr ?_
       refine pe 1 ?_
       refine zAM (enc := fun (r21 : (Op × Int)) => .tup [.agg (cOp r21.1), .v (.int .i64 r21.2)]) (qs := [.v (.string ⟨⟨r16⟩⟩)]) (zEW fu r16) rfl rfl ⟨⟨_, rfl, .rfl⟩, trivial⟩ (fun _ => rfl) zJ7 rfl rfl fun r21 hr21 => ?_
       refine pe 3 ?_
       refine zBE (T := tab) 6 rfl rfl rfl rfl rfl rfl rfl rfl rfl ?_
       refine zAK (T := tab) rfl rfl rfl rfl rfl rfl rfl rfl rfl rfl rfl rfl ?_
       refine pe 1 ?_
       refine ns ?_
       refine zBD (E' := [(2, .loc 2 0), (3, .loc 3 0), (4, .loc 4 0), (6, .loc 6 0)]) (S' := [(6, .box 43 [.v (.int .i64 r21.1.Kind), .v (.int .i64 r21.1.A), .v (.int .i64 r21.1.B), .v (.int .i64 r21.1.C), .v (.string ⟨⟨r21.1.S⟩⟩), .v (.string ⟨⟨r21.1.T⟩⟩), .v (.bool r21.1.Must)]), (13, .box 80 [.own 5130, .own 5131, .ela 5135 2 (r17.2.2.2.2.2.1.1.length) 1, .v (.int .i64 r17.2.2.1)]), (5130, .box 51 [pfx 5 (r17.2.2.2.1.1.map zAI) r17.2.2.2.1.2, .v (.bool r17.2.2.2.2.1), .own 5132, .own 5133, .own 5134, .own 5135]), (5131, .arr 43 7 (l13.map cOp)), (5135, .box 54 [pfx 2 (r17.2.2.2.2.2.1.1.map zAa) true, .v (.int .i64 r17.2.2.2.2.2.2.1), .own 5136]), (5132, .arr 9 1 (r17.2.2.2.2.2.2.2.1.map cStr)), (5133, .arr 43 7 (r17.2.2.2.2.2.2.2.2.1.map cOp)), (5134, .arr 43 7 (r17.2.2.2.2.2.2.2.2.2.1.map cOp)), (5136, .arr 43 7 (r17.2.2.2.2.2.2.2.2.2.2.map cOp)), (4, .box 77 [.loc 13 0]), (3, .box 28 [.v (.int .i64 0)]), (2, .box 25 [.v (.slice none 0 0), .v (.slice none 0 0)])]) ?_ ⟨rfl, rfl, rfl, rfl, trivial⟩ ⟨rfl, rfl, rfl, rfl, rfl, rfl, rfl, rfl, rfl, rfl, rfl, rfl, trivial⟩ rfl
       refine zBM [0, 1, 3, 7, 0, 16, 48, 112, 240, 496, 0, 1024, 4080, 8191, 16383] mixed (by kernel_rfl) (by kernel_rfl) rfl rfl ?_
       refine vf [8, 9] [100] [] [4, 13] [4] [(50, .loc 13 0)] [(4, .box 77 [.loc 13 0])] ?_
       refine ve [100] [102] [13] [(51, .loc 13 0)] ?_
       refine ve [102] [104] [13] [(52, .loc 13 2)] ?_
       refine vf [27, 104] [106] [] [13, 5130, 5131, 5135] [13] [(53, .ela 5135 2 (r17.2.2.2.2.2.1.1.length) 1)] [(13, .box 80 [.own 5130, .own 5131, .ela 5135 2 (r17.2.2.2.2.2.1.1.length) 1, .v (.int .i64 r17.2.2.1)])] ?_
       refine vf [8, 9] [108] [] [4, 13] [4] [(54, .loc 13 0)] [(4, .box 77 [.loc 13 0])] ?_
       refine ve [108] [110] [13] [(55, .loc 13 0)] ?_
       refine ve [110] [112] [13] [(56, .loc 13 2)] ?_
       refine vf [27, 112] [114] [] [13, 5130, 5131, 5135] [13] [(57, .ela 5135 2 (r17.2.2.2.2.2.1.1.length) 1)] [(13, .box 80 [.own 5130, .own 5131, .ela 5135 2 (r17.2.2.2.2.2.1.1.length) 1, .v (.int .i64 r17.2.2.1)])] ?_
       refine ve [114] [116] [5135] [(58, .ela 5135 2 (r17.2.2.2.2.2.1.1.length) 1)] ?_
       refine zAY [116, 10271] [118] [] [5135, 5136] [5135] [(59, .own 5136)] [(5135, .box 54 [pfx 2 (r17.2.2.2.2.2.1.1.map zAa) true, .v (.int .i64 r17.2.2.2.2.2.2.1), .own 5136])] rfl rfl rfl rfl (by kernel_rfl) (by kernel_rfl) (by kernel_rfl) ⟨rfl, trivial⟩ (fun w0 X X0 σ0 _ => by refine zBq (T := tab) (by simp) rfl rfl rfl rfl rfl rfl rfl rfl ?_; refine zAC ?_; exact zAz ⟨rfl, trivial⟩ ⟨rfl, trivial⟩ rfl) ?_
       refine vf [12, 13] [120] [] [6] [6] [(60, .agg (cOp r21.1))] [(6, .box 43 [.v (.int .i64 r21.1.Kind), .v (.int .i64 r21.1.A), .v (.int .i64 r21.1.B), .v (.int .i64 r21.1.C), .v (.string ⟨⟨r21.1.S⟩⟩), .v (.string ⟨⟨r21.1.T⟩⟩), .v (.bool r21.1.Must)])] ?_
       refine zAY [120] [122, 123] [61] [] [] [(61, .own 61)] [(61, .arr 43 7 ([r21.1].map cOp))] rfl rfl rfl rfl (by kernel_rfl) (by kernel_rfl) (by kernel_rfl) trivial (fun w0 X X0 σ0 _ => by refine zDo (T := tab) (rows := [r21.1].map cOp) 61 rfl rfl rfl rfl rfl rfl rfl rfl rfl rfl rfl rfl rfl rfl ?_; refine zAC ?_; exact zAz ⟨rfl, trivial⟩ ⟨rfl, trivial⟩ rfl) ?_
       refine zAj (M := (zED 72 (r17.2.2.2.2.2.2.2.2.2.2.length + ([r21.1] : List Op).length))) (ment := [(124, [5136]), (118, []), (10271, []), (10273, [])]) [118, 122, 123, 10271, 10273] [124, 118, 10271, 10273] [5136] [61, 5135] [61] (fun _ => [(62, .own 5136)]) (fun _ => [(5135, .box 54 [pfx 2 (r17.2.2.2.2.2.1.1.map zAa) true, .v (.int .i64 r17.2.2.2.2.2.2.1), .junk]), (5136, .arr 43 7 ((r17.2.2.2.2.2.2.2.2.2.2 ++ [r21.1]).map cOp)), (61, .arr 43 7 ([r21.1].map cOp))]) rfl rfl (fun _ => rfl) (fun _ => rfl) (by kernel_rfl) (by kernel_rfl) (fun _ => by kernel_rfl) (fun _ => ⟨rfl, trivial⟩) (fun w0 X X0 σ0 _ => by refine zDb (T := tab) cOp r17.2.2.2.2.2.2.2.2.2.2 ([r21.1] : List Op) rfl rfl rfl rfl rfl rfl rfl rfl rfl rfl rfl rfl rfl rfl (zHq _) rfl rfl rfl rfl rfl ?_; refine zAC ?_; exact zBj ⟨rfl, trivial⟩ ⟨rfl, rfl, rfl, trivial⟩ rfl) fun _ h0 => ?_
       refine ve [106] [126] [5135] [(63, .ela 5135 2 (r17.2.2.2.2.2.1.1.length) 1)] ?_
       refine zAY [124, 126, 10271, 10273] [10271] [] [5135, 5136] [5136] [] [(5135, .box 54 [pfx 2 (r17.2.2.2.2.2.1.1.map zAa) true, .v (.int .i64 r17.2.2.2.2.2.2.1), .own 5136]), (5136, .arr 43 7 ((r17.2.2.2.2.2.2.2.2.2.2 ++ [r21.1]).map cOp))] rfl rfl rfl rfl (by kernel_rfl) (by kernel_rfl) (by kernel_rfl) ⟨rfl, trivial⟩ (fun w0 X X0 σ0 _ => by refine zDg (T := tab) (by simp) rfl rfl rfl rfl rfl rfl rfl rfl rfl rfl rfl rfl ?_; refine zAC ?_; exact zAz trivial ⟨rfl, rfl, trivial⟩ rfl) ?_
       refine zBr rfl rfl ?_
       refine zAJ ?_
       refine zEO 13 [.own 5130, .own 5131, .sel 3 [.loc 13 1, .ela 5130 5 (r17.2.2.2.1.1.length) 2, .ela 5130 5 (r17.2.2.2.1.1.length) 3, .ela 5135 2 (r17.2.2.2.2.2.1.1.length) 1], .v (.int .i64 r17.2.2.1)] rfl ⟨.rfl, .rfl, (.sel rfl rfl), .rfl, trivial⟩ rfl ?_
       exact zEw (3, r17.2.2.1, r17.2.2.2.1, r17.2.2.2.2.1, r17.2.2.2.2.2.2.2.1, r17.2.2.2.2.2.2.2.2.1, r17.2.2.2.2.2.2.2.2.2.1, (r17.2.2.2.2.2.1.1, true), r17.2.2.2.2.2.2.1, (r17.2.2.2.2.2.2.2.2.2.2 ++ [r21.1]), l13) ⟨rfl, rfl, rfl, rfl, rfl, rfl, rfl, rfl, rfl, rfl, rfl, trivial⟩ rfl
  ·rintro ⟨k3, c4, c5, c6, l7, l8, l9, c10, c11, l12, l13⟩
   refine zAJ ?_
   refine zAB ?_
   refine sr ?_
   refine pe 4 ?_
   refine zAK (T := tab) rfl rfl rfl rfl rfl rfl rfl rfl rfl rfl rfl rfl ?_
   refine zAK (T := tab) rfl rfl rfl rfl rfl rfl rfl rfl rfl rfl rfl rfl ?_
   refine ns ?_
   refine zEA 5132 rfl rfl rfl ?_; refine zEA 5133 rfl rfl rfl ?_; refine zEA 5134 rfl rfl rfl ?_; refine zEA 5136 rfl rfl rfl ?_; refine zQa 5135 zAa c10.1 (⟨c11, l12⟩ : Hook) rfl rfl rfl rfl ?_; refine zEA 5135 rfl rfl rfl ?_; refine zQa 5130 zAI c5.1 (⟨c6, l7, l8, l9, (c10.1 ++ if c10.2 then [(⟨c11, l12⟩ : Hook)] else [])⟩ : Class) rfl rfl rfl rfl ?_; refine zEA 5130 rfl rfl rfl ?_
   refine zEA 5131 rfl rfl rfl ?_
   exact rN
  ·exact fun r => zKt (T := tab) rfl rfl rfl ⟨rfl, rfl⟩ trivial rfl
def zCZ (fu : Nat) (o1 : Op) : Option Bool := cnd (!(eqOp o1 (⟨0, 0, 0, 0, [], [], false⟩ : Op))) (bnd (zD0 fu o1) fun r2 => some (!r2)) (some false)
set_option maxRecDepth 100000 in
theorem zJQ (fu : Nat) (o1 : Op) : ∀ r, zCZ fu o1 = some r → DC zAi Tryz.prog 33 [.agg (cOp o1)] (.v (.bool r)) := by
 intro r hr
 refine zAL (r := r)  (args := [.agg (cOp o1)]) (S := []) (N0 := []) (post := fun r p S => p = .v (.bool r) ∧ S = []) Tryz.func33 rfl rfl hr fun w0 X X0 σ0 _ => ?_
 refine sr ?_
 refine zFC  1 rfl rfl rfl rfl rfl rfl rfl rfl rfl rfl ?_
 refine pe 1 ?_
 refine ns ?_
 refine sr ?_
 refine pe 1 ?_
 refine zBI (T := tab) rfl rfl rfl rfl rfl rfl rfl ?_
 refine po_ne zNM rfl rfl rfl rfl rfl rfl rfl ?_
 refine pe 1 ?_
 refine zAN (j := 6) rfl ?_ ?_
 ·refine pe 1 ?_
  refine zAM (enc := fun (r2 : Bool) => .v (.bool r2)) (qs := [.agg (cOp o1)]) (zHz fu o1) rfl rfl ⟨⟨_, rfl, .rfl⟩, trivial⟩ (fun _ => rfl) zQf rfl rfl fun r2 hr2 => ?_
  refine pe 3 ?_
  refine ns ?_
  exact rN
 ·refine pe 5 ?_
  refine ns ?_
  exact rN
def zA1 (t1 : Op → Option Bool) (s1 : (List Op)) : Nat → Int → Option Int
 | 0, _ => none
 | k1 + 1, t2 => cnd (decide (t2 < ((s1.length : Nat) : Int))) (bnd (idx s1 t2) fun y3 => bnd (t1 y3) fun r4 => cnd r4 (some t2) (bnd (rng .i64 (t2 + 1)) fun i5 => (zA1 t1 s1 k1) i5)) (some (-1))
def zCG (fu : Nat) (t1 : Op → Option Bool) (s1 : (List Op)) : Option Int := (zA1 t1 s1) fu 0
set_option maxHeartbeats 10000000 in
set_option maxRecDepth 100000 in
theorem zEN (fu : Nat) (s1 : (List Op)) : ∀ r, zCG fu (fun (z1 : Op) => zCZ fu z1) s1 = some r → DC zAi Tryz.prog 69 [.sl 7 false (s1.map cOp), .fn (.func 33) [] []] (.v (.int .i64 r)) := by
 intro r hr
 refine zAL (r := r)  (args := [.sl 7 false (s1.map cOp), .fn (.func 33) [] []]) (S := []) (N0 := []) (post := fun r p S => p = .v (.int .i64 r) ∧ S = []) Tryz.func69 rfl rfl hr fun w0 X X0 σ0 _ => ?_
 refine sr ?_
 refine pe 1 ?_
 refine ns ?_
 refine zAE ?_
 refine sr ?_
 refine pe 1 ?_
 refine zCD (T := tab) cOp s1 rfl rfl rfl rfl rfl rfl rfl rfl ?_
 refine pe 1 ?_
 refine ns ?_
 refine zAP ?_
 refine zCE (zA1 (fun (z1 : Op) => zCZ fu z1) s1) (fun (t2 : Int) => [(0, .sl 7 false (s1.map cOp)), (1, .fn (.func 33) [] []), (7, .v (.int .i64 ((s1.length : Nat) : Int))), (8, .v (.int .i64 t2))]) (fun (t2 : Int) => []) fu 0 (fun _ => rfl) ⟨rfl, rfl, rfl, rfl, trivial⟩ trivial rfl ?_
 rintro k1 t2
 refine sr ?_
 refine pe 1 ?_
 refine ns ?_
 refine zAE ?_
 refine zAR rfl ?_ ?_
 ·refine zAG ?_
  refine zAB ?_
  refine zAE ?_
  refine zAP ?_
  refine sr ?_
  refine pe 2 ?_
  refine ns ?_
  refine sr ?_
  refine pe 3 ?_
  refine zCV (T := tab) cOp s1 rfl rfl rfl rfl rfl rfl rfl fun y3 hy3 => ?_
  refine pe 1 ?_
  refine zDY (enc := fun (r4 : Bool) => .v (.bool r4)) (first := []) (cap := []) (qs := [.agg (cOp y3)]) (Sc := []) (zJQ fu y3) (zBe trivial rfl) rfl rfl rfl rfl ⟨⟨_, rfl, .rfl⟩, trivial⟩ (fun _ => rfl) call33 rfl rfl fun r4 hr4 => ?_
  refine ns ?_
  refine zAR rfl ?_ ?_
  ·refine sr ?_
   refine pe 2 ?_
   refine ns ?_
   exact rN
  ·refine zAG ?_
   refine zAJ ?_
   refine zAB ?_
   refine zAD ?_
   refine zAV (T := tab) rfl rfl rfl rfl fun i5 hi5 => ?_
   refine pe 1 ?_
   refine zAC ?_
   exact zBX i5 ⟨rfl, rfl, rfl, rfl, trivial⟩ trivial rfl
 ·refine zAr rfl ?_
  refine zAB ?_
  refine sr ?_
  refine pe 1 ?_
  refine ns ?_
  exact rN
def zBT (fu : Nat) (t1 : Op → Option Bool) (s1 : (List Op)) : Option Bool := bnd (zCG fu t1 s1) fun r2 => some (decide (r2 ≥ 0))
set_option maxRecDepth 100000 in
theorem zDw (fu : Nat) (s1 : (List Op)) : ∀ r, zBT fu (fun (z1 : Op) => zCZ fu z1) s1 = some r → DC zAi Tryz.prog 32 [.sl 7 false (s1.map cOp), .fn (.func 33) [] []] (.v (.bool r)) := by
 intro r hr
 refine zAL (r := r)  (args := [.sl 7 false (s1.map cOp), .fn (.func 33) [] []]) (S := []) (N0 := []) (post := fun r p S => p = .v (.bool r) ∧ S = []) Tryz.func32 rfl rfl hr fun w0 X X0 σ0 _ => ?_
 refine sr ?_
 refine pe 1 ?_
 refine ns ?_
 refine sr ?_
 refine pe 2 ?_
 refine zAM (enc := fun (r2 : Int) => .v (.int .i64 r2)) (qs := [.sl 7 false (s1.map cOp), .fn (.func 33) [] []]) (zEN fu s1) rfl rfl ⟨⟨_, rfl, .rfl⟩, ⟨_, rfl, .rfl⟩, trivial⟩ (fun _ => rfl) call69 rfl rfl fun r2 hr2 => ?_
 refine pe 2 ?_
 refine ns ?_
 exact rN
def zBb (fu : Nat) (s1 : Bs) : Option Bool := bnd (zEn fu s1) fun r2 => cnd (r2.2 != 0) (some true) (some (!(r2.1 == s1)))
set_option maxRecDepth 100000 in
theorem zGI (fu : Nat) (s1 : Bs) : ∀ r, zBb fu s1 = some r → DC zAi Tryz.prog 56 [.v (.string ⟨⟨s1⟩⟩)] (.v (.bool r)) := by
 intro r hr
 refine zAL (r := r)  (args := [.v (.string ⟨⟨s1⟩⟩)]) (S := []) (N0 := []) (post := fun r p S => p = .v (.bool r) ∧ S = []) Tryz.func56 rfl rfl hr fun w0 X X0 σ0 _ => ?_
 refine sr ?_
 refine pe 1 ?_
 refine ns ?_
 refine sr ?_
 refine pe 1 ?_
 refine zAM (enc := fun (r2 : (Bs × Int)) => .tup [.v (.string ⟨⟨r2.1⟩⟩), .v (.int .i64 r2.2)]) (qs := [.v (.string ⟨⟨s1⟩⟩)]) (zHv fu s1) rfl rfl ⟨⟨_, rfl, .rfl⟩, trivial⟩ (fun _ => rfl) zQS rfl rfl fun r2 hr2 => ?_
 refine pe 5 ?_
 refine ns ?_
 refine sr ?_
 refine pe 3 ?_
 refine zAN (j := 12) rfl ?_ ?_
 ·refine pe 5 ?_
  refine ns ?_
  exact rN
 ·refine pe 5 ?_
  refine ns ?_
  exact rN
def zAy (t1 : Bs → Option Bool) (s1 : (List Bs)) : Nat → Int → Option Int
 | 0, _ => none
 | k1 + 1, t2 => cnd (decide (t2 < ((s1.length : Nat) : Int))) (bnd (idx s1 t2) fun y3 => bnd (t1 y3) fun r4 => cnd r4 (some t2) (bnd (rng .i64 (t2 + 1)) fun i5 => (zAy t1 s1 k1) i5)) (some (-1))
def zCB (fu : Nat) (t1 : Bs → Option Bool) (s1 : (List Bs)) : Option Int := (zAy t1 s1) fu 0
set_option maxHeartbeats 10000000 in
set_option maxRecDepth 100000 in
theorem zEE (fu : Nat) (s1 : (List Bs)) : ∀ r, zCB fu (fun (z1 : Bs) => zBb fu z1) s1 = some r → DC zAi Tryz.prog 94 [.sl 1 false (s1.map cStr), .fn (.func 56) [] []] (.v (.int .i64 r)) := by
 intro r hr
 refine zAL (r := r)  (args := [.sl 1 false (s1.map cStr), .fn (.func 56) [] []]) (S := []) (N0 := []) (post := fun r p S => p = .v (.int .i64 r) ∧ S = []) Tryz.func94 rfl rfl hr fun w0 X X0 σ0 _ => ?_
 refine sr ?_
 refine pe 1 ?_
 refine ns ?_
 refine zAE ?_
 refine sr ?_
 refine pe 1 ?_
 refine zCD (T := tab) cStr s1 rfl rfl rfl rfl rfl rfl rfl rfl ?_
 refine pe 1 ?_
 refine ns ?_
 refine zAP ?_
 refine zCE (zAy (fun (z1 : Bs) => zBb fu z1) s1) (fun (t2 : Int) => [(0, .sl 1 false (s1.map cStr)), (1, .fn (.func 56) [] []), (7, .v (.int .i64 ((s1.length : Nat) : Int))), (8, .v (.int .i64 t2))]) (fun (t2 : Int) => []) fu 0 (fun _ => rfl) ⟨rfl, rfl, rfl, rfl, trivial⟩ trivial rfl ?_
 rintro k1 t2
 refine sr ?_
 refine pe 1 ?_
 refine ns ?_
 refine zAE ?_
 refine zAR rfl ?_ ?_
 ·refine zAG ?_
  refine zAB ?_
  refine zAE ?_
  refine zAP ?_
  refine sr ?_
  refine pe 2 ?_
  refine ns ?_
  refine sr ?_
  refine pe 3 ?_
  refine zCV (T := tab) cStr s1 rfl rfl rfl rfl rfl rfl rfl fun y3 hy3 => ?_
  refine pe 1 ?_
  refine zDY (enc := fun (r4 : Bool) => .v (.bool r4)) (first := []) (cap := []) (qs := [.v (.string ⟨⟨y3⟩⟩)]) (Sc := []) (zGI fu y3) (zBe trivial rfl) rfl rfl rfl rfl ⟨⟨_, rfl, .rfl⟩, trivial⟩ (fun _ => rfl) call56 rfl rfl fun r4 hr4 => ?_
  refine ns ?_
  refine zAR rfl ?_ ?_
  ·refine sr ?_
   refine pe 2 ?_
   refine ns ?_
   exact rN
  ·refine zAG ?_
   refine zAJ ?_
   refine zAB ?_
   refine zAD ?_
   refine zAV (T := tab) rfl rfl rfl rfl fun i5 hi5 => ?_
   refine pe 1 ?_
   refine zAC ?_
   exact zBX i5 ⟨rfl, rfl, rfl, rfl, trivial⟩ trivial rfl
 ·refine zAr rfl ?_
  refine zAB ?_
  refine sr ?_
  refine pe 1 ?_
  refine ns ?_
  exact rN
def zBS (fu : Nat) (t1 : Bs → Option Bool) (s1 : (List Bs)) : Option Bool := bnd (zCB fu t1 s1) fun r2 => some (decide (r2 ≥ 0))
set_option maxRecDepth 100000 in
theorem zDl (fu : Nat) (s1 : (List Bs)) : ∀ r, zBS fu (fun (z1 : Bs) => zBb fu z1) s1 = some r → DC zAi Tryz.prog 60 [.sl 1 false (s1.map cStr), .fn (.func 56) [] []] (.v (.bool r)) := by
 intro r hr
 refine zAL (r := r)  (args := [.sl 1 false (s1.map cStr), .fn (.func 56) [] []]) (S := []) (N0 := []) (post := fun r p S => p = .v (.bool r) ∧ S = []) Tryz.func60 rfl rfl hr fun w0 X X0 σ0 _ => ?_
 refine sr ?_
 refine pe 1 ?_
 refine ns ?_
 refine sr ?_
 refine pe 2 ?_
 refine zAM (enc := fun (r2 : Int) => .v (.int .i64 r2)) (qs := [.sl 1 false (s1.map cStr), .fn (.func 56) [] []]) (zEE fu s1) rfl rfl ⟨⟨_, rfl, .rfl⟩, ⟨_, rfl, .rfl⟩, trivial⟩ (fun _ => rfl) call94 rfl rfl fun r2 hr2 => ?_
 refine pe 2 ?_
 refine ns ?_
 exact rN
def zDd (_fu : Nat) (l1 : (List Op)) : Option Bool := some (decide (((l1.length : Nat) : Int) > 60))
set_option maxRecDepth 100000 in
theorem zEz (fu : Nat) (l1 : (List Op)) : ∀ r, zDd fu l1 = some r → DC zAi Tryz.prog 59 [.sl 7 false (l1.map cOp)] (.v (.bool r)) := by
 intro r hr
 refine zAL (r := r)  (args := [.sl 7 false (l1.map cOp)]) (S := []) (N0 := []) (post := fun r p S => p = .v (.bool r) ∧ S = []) Tryz.func59 rfl rfl hr fun w0 X X0 σ0 _ => ?_
 refine sr ?_
 refine pe 1 ?_
 refine ns ?_
 refine sr ?_
 refine pe 1 ?_
 refine zCD (T := tab) cOp l1 rfl rfl rfl rfl rfl rfl rfl rfl ?_
 refine pe 2 ?_
 refine ns ?_
 exact rN
def zBZ (fu : Nat) (h1 : Hook) : Option Bool := cnd (decide (h1.Kind < 1)) (some true) (cnd (decide (h1.Kind > 8)) (some true) (bnd (zDd fu h1.Do) fun r2 => some r2))
set_option maxRecDepth 100000 in
theorem zGL (fu : Nat) (h1 : Hook) : ∀ r, zBZ fu h1 = some r → DC zAi Tryz.prog 58 [.agg (zAa h1)] (.v (.bool r)) := by
 intro r hr
 refine zAL (r := r)  (args := [.agg (zAa h1)]) (S := []) (N0 := []) (post := fun r p S => p = .v (.bool r) ∧ S = []) Tryz.func58 rfl rfl hr fun w0 X X0 σ0 _ => ?_
 refine sr ?_
 refine zFC  1 rfl rfl rfl rfl rfl rfl rfl rfl rfl rfl ?_
 refine pe 1 ?_
 refine ns ?_
 refine sr ?_
 refine pe 4 ?_
 refine zAN (j := 6) rfl ?_ ?_
 ·refine pe 10 ?_
  refine ns ?_
  exact rN
 ·refine pe 5 ?_
  refine zAN (j := 11) rfl ?_ ?_
  ·refine pe 5 ?_
   refine ns ?_
   exact rN
  ·refine pe 2 ?_
   refine zAM (enc := fun (r2 : Bool) => .v (.bool r2)) (qs := [.sl 7 false (h1.Do.map cOp)]) (zEz fu h1.Do) rfl rfl ⟨⟨_, rfl, .rfl⟩, trivial⟩ (fun _ => rfl) zNj rfl rfl fun r2 hr2 => ?_
   refine pe 2 ?_
   refine ns ?_
   exact rN
def zAw (t1 : Hook → Option Bool) (s1 : (List Hook)) : Nat → Int → Option Int
 | 0, _ => none
 | k1 + 1, t2 => cnd (decide (t2 < ((s1.length : Nat) : Int))) (bnd (idx s1 t2) fun y3 => bnd (t1 y3) fun r4 => cnd r4 (some t2) (bnd (rng .i64 (t2 + 1)) fun i5 => (zAw t1 s1 k1) i5)) (some (-1))
def zB3 (fu : Nat) (t1 : Hook → Option Bool) (s1 : (List Hook)) : Option Int := (zAw t1 s1) fu 0
set_option maxHeartbeats 10000000 in
set_option maxRecDepth 100000 in
theorem zD7 (fu : Nat) (s1 : (List Hook)) : ∀ r, zB3 fu (fun (z1 : Hook) => zBZ fu z1) s1 = some r → DC zAi Tryz.prog 95 [.sl 2 false (s1.map zAa), .fn (.func 58) [] []] (.v (.int .i64 r)) := by
 intro r hr
 refine zAL (r := r)  (args := [.sl 2 false (s1.map zAa), .fn (.func 58) [] []]) (S := []) (N0 := []) (post := fun r p S => p = .v (.int .i64 r) ∧ S = []) Tryz.func95 rfl rfl hr fun w0 X X0 σ0 _ => ?_
 refine sr ?_
 refine pe 1 ?_
 refine ns ?_
 refine zAE ?_
 refine sr ?_
 refine pe 1 ?_
 refine zCD (T := tab) zAa s1 rfl rfl rfl rfl rfl rfl rfl rfl ?_
 refine pe 1 ?_
 refine ns ?_
 refine zAP ?_
 refine zCE (zAw (fun (z1 : Hook) => zBZ fu z1) s1) (fun (t2 : Int) => [(0, .sl 2 false (s1.map zAa)), (1, .fn (.func 58) [] []), (7, .v (.int .i64 ((s1.length : Nat) : Int))), (8, .v (.int .i64 t2))]) (fun (t2 : Int) => []) fu 0 (fun _ => rfl) ⟨rfl, rfl, rfl, rfl, trivial⟩ trivial rfl ?_
 rintro k1 t2
 refine sr ?_
 refine pe 1 ?_
 refine ns ?_
 refine zAE ?_
 refine zAR rfl ?_ ?_
 ·refine zAG ?_
  refine zAB ?_
  refine zAE ?_
  refine zAP ?_
  refine sr ?_
  refine pe 2 ?_
  refine ns ?_
  refine sr ?_
  refine pe 3 ?_
  refine zCV (T := tab) zAa s1 rfl rfl rfl rfl rfl rfl rfl fun y3 hy3 => ?_
  refine pe 1 ?_
  refine zDY (enc := fun (r4 : Bool) => .v (.bool r4)) (first := []) (cap := []) (qs := [.agg (zAa y3)]) (Sc := []) (zGL fu y3) (zBe trivial rfl) rfl rfl rfl rfl ⟨⟨_, rfl, .rfl⟩, trivial⟩ (fun _ => rfl) call58 rfl rfl fun r4 hr4 => ?_
  refine ns ?_
  refine zAR rfl ?_ ?_
  ·refine sr ?_
   refine pe 2 ?_
   refine ns ?_
   exact rN
  ·refine zAG ?_
   refine zAJ ?_
   refine zAB ?_
   refine zAD ?_
   refine zAV (T := tab) rfl rfl rfl rfl fun i5 hi5 => ?_
   refine pe 1 ?_
   refine zAC ?_
   exact zBX i5 ⟨rfl, rfl, rfl, rfl, trivial⟩ trivial rfl
 ·refine zAr rfl ?_
  refine zAB ?_
  refine sr ?_
  refine pe 1 ?_
  refine ns ?_
  exact rN
def zBN (fu : Nat) (t1 : Hook → Option Bool) (s1 : (List Hook)) : Option Bool := bnd (zB3 fu t1 s1) fun r2 => some (decide (r2 ≥ 0))
set_option maxRecDepth 100000 in
theorem zDf (fu : Nat) (s1 : (List Hook)) : ∀ r, zBN fu (fun (z1 : Hook) => zBZ fu z1) s1 = some r → DC zAi Tryz.prog 61 [.sl 2 false (s1.map zAa), .fn (.func 58) [] []] (.v (.bool r)) := by
 intro r hr
 refine zAL (r := r)  (args := [.sl 2 false (s1.map zAa), .fn (.func 58) [] []]) (S := []) (N0 := []) (post := fun r p S => p = .v (.bool r) ∧ S = []) Tryz.func61 rfl rfl hr fun w0 X X0 σ0 _ => ?_
 refine sr ?_
 refine pe 1 ?_
 refine ns ?_
 refine sr ?_
 refine pe 2 ?_
 refine zAM (enc := fun (r2 : Int) => .v (.int .i64 r2)) (qs := [.sl 2 false (s1.map zAa), .fn (.func 58) [] []]) (zD7 fu s1) rfl rfl ⟨⟨_, rfl, .rfl⟩, ⟨_, rfl, .rfl⟩, trivial⟩ (fun _ => rfl) call95 rfl rfl fun r2 hr2 => ?_
 refine pe 2 ?_
 refine ns ?_
 exact rN
def zDE (fu : Nat) (c1 : Class) : Option Bool := cnd (decide (((c1.Watch.length : Nat) : Int) ≤ 12)) (bnd (zBS fu (fun (z1 : Bs) => zBb fu z1) c1.Watch) fun r2 => cnd (!r2) (cnd (decide (((c1.Hooks.length : Nat) : Int) ≤ 12)) (bnd (zBN fu (fun (z1 : Hook) => zBZ fu z1) c1.Hooks) fun r3 => cnd (!r3) (bnd (zDd fu c1.Peek) fun r4 => cnd (!r4) (bnd (zDd fu c1.Make) fun r5 => some (!r5)) (some false)) (some false)) (some false)) (some false)) (some false)
set_option maxHeartbeats 10000000 in
set_option maxRecDepth 100000 in
theorem zG7 (fu : Nat) (c1 : Class) : ∀ r, zDE fu c1 = some r → DC zAi Tryz.prog 21 [.agg (zAI c1)] (.v (.bool r)) := by
 intro r hr
 refine zAL (r := r)  (args := [.agg (zAI c1)]) (S := []) (N0 := []) (post := fun r p S => p = .v (.bool r) ∧ S = []) Tryz.func21 rfl rfl hr fun w0 X X0 σ0 _ => ?_
 refine sr ?_
 refine zFC  1 rfl rfl rfl rfl rfl rfl rfl rfl rfl rfl ?_
 refine pe 1 ?_
 refine ns ?_
 refine sr ?_
 refine pe 1 ?_
 refine ns ?_
 refine sr ?_
 refine pe 1 ?_
 refine ns ?_
 refine sr ?_
 refine pe 2 ?_
 refine zCD (T := tab) cStr c1.Watch rfl rfl rfl rfl rfl rfl rfl rfl ?_
 refine pe 2 ?_
 refine zAN (j := 9) rfl ?_ ?_
 ·refine pe 3 ?_
  refine zAM (enc := fun (r2 : Bool) => .v (.bool r2)) (qs := [.sl 1 false (c1.Watch.map cStr), .fn (.func 56) [] []]) (zDl fu c1.Watch) rfl rfl ⟨⟨_, rfl, .rfl⟩, ⟨_, rfl, .rfl⟩, trivial⟩ (fun _ => rfl) call60 rfl rfl fun r2 hr2 => ?_
  refine pe 3 ?_
  refine zAN (j := 16) rfl ?_ ?_
  ·refine pe 2 ?_
   refine zCD (T := tab) zAa c1.Hooks rfl rfl rfl rfl rfl rfl rfl rfl ?_
   refine pe 3 ?_
   refine zAN (j := 22) rfl ?_ ?_
   ·refine pe 3 ?_
    refine zAM (enc := fun (r3 : Bool) => .v (.bool r3)) (qs := [.sl 2 false (c1.Hooks.map zAa), .fn (.func 58) [] []]) (zDf fu c1.Hooks) rfl rfl ⟨⟨_, rfl, .rfl⟩, ⟨_, rfl, .rfl⟩, trivial⟩ (fun _ => rfl) call61 rfl rfl fun r3 hr3 => ?_
    refine pe 3 ?_
    refine zAN (j := 29) rfl ?_ ?_
    ·refine pe 2 ?_
     refine zAM (enc := fun (r4 : Bool) => .v (.bool r4)) (qs := [.sl 7 false (c1.Peek.map cOp)]) (zEz fu c1.Peek) rfl rfl ⟨⟨_, rfl, .rfl⟩, trivial⟩ (fun _ => rfl) zNj rfl rfl fun r4 hr4 => ?_
     refine pe 3 ?_
     refine zAN (j := 35) rfl ?_ ?_
     ·refine pe 2 ?_
      refine zAM (enc := fun (r5 : Bool) => .v (.bool r5)) (qs := [.sl 7 false (c1.Make.map cOp)]) (zEz fu c1.Make) rfl rfl ⟨⟨_, rfl, .rfl⟩, trivial⟩ (fun _ => rfl) zNj rfl rfl fun r5 hr5 => ?_
      refine pe 3 ?_
      refine ns ?_
      exact rN
     ·refine pe 6 ?_
      refine ns ?_
      exact rN
    ·refine pe 12 ?_
     refine ns ?_
     exact rN
   ·refine pe 19 ?_
    refine ns ?_
    exact rN
  ·refine pe 25 ?_
   refine ns ?_
   exact rN
 ·refine pe 32 ?_
  refine ns ?_
  exact rN
def zBn (fu : Nat) (c1 : Class) : Option Bool := bnd (zDE fu c1) fun r2 => some (!r2)
set_option maxRecDepth 100000 in
theorem zFy (fu : Nat) (c1 : Class) : ∀ r, zBn fu c1 = some r → DC zAi Tryz.prog 35 [.agg (zAI c1)] (.v (.bool r)) := by
 intro r hr
 refine zAL (r := r)  (args := [.agg (zAI c1)]) (S := []) (N0 := []) (post := fun r p S => p = .v (.bool r) ∧ S = []) Tryz.func35 rfl rfl hr fun w0 X X0 σ0 _ => ?_
 refine sr ?_
 refine zFC  1 rfl rfl rfl rfl rfl rfl rfl rfl rfl rfl ?_
 refine pe 1 ?_
 refine ns ?_
 refine sr ?_
 refine pe 1 ?_
 refine zAM (enc := fun (r2 : Bool) => .v (.bool r2)) (qs := [.agg (zAI c1)]) (zG7 fu c1) rfl rfl ⟨⟨_, rfl, .rfl⟩, trivial⟩ (fun _ => rfl) call21 rfl rfl fun r2 hr2 => ?_
 refine pe 2 ?_
 refine ns ?_
 exact rN
def zAp (t1 : Class → Option Bool) (s1 : (List Class)) : Nat → Int → Option Int
 | 0, _ => none
 | k1 + 1, t2 => cnd (decide (t2 < ((s1.length : Nat) : Int))) (bnd (idx s1 t2) fun y3 => bnd (t1 y3) fun r4 => cnd r4 (some t2) (bnd (rng .i64 (t2 + 1)) fun i5 => (zAp t1 s1 k1) i5)) (some (-1))
def zB0 (fu : Nat) (t1 : Class → Option Bool) (s1 : (List Class)) : Option Int := (zAp t1 s1) fu 0
set_option maxHeartbeats 10000000 in
set_option maxRecDepth 100000 in
theorem zDt (fu : Nat) (s1 : (List Class)) : ∀ r, zB0 fu (fun (z1 : Class) => zBn fu z1) s1 = some r → DC zAi Tryz.prog 71 [.sl 5 false (s1.map zAI), .fn (.func 35) [] []] (.v (.int .i64 r)) := by
 intro r hr
 refine zAL (r := r)  (args := [.sl 5 false (s1.map zAI), .fn (.func 35) [] []]) (S := []) (N0 := []) (post := fun r p S => p = .v (.int .i64 r) ∧ S = []) Tryz.func71 rfl rfl hr fun w0 X X0 σ0 _ => ?_
 refine sr ?_
 refine pe 1 ?_
 refine ns ?_
 refine zAE ?_
 refine sr ?_
 refine pe 1 ?_
 refine zCD (T := tab) zAI s1 rfl rfl rfl rfl rfl rfl rfl rfl ?_
 refine pe 1 ?_
 refine ns ?_
 refine zAP ?_
 refine zCE (zAp (fun (z1 : Class) => zBn fu z1) s1) (fun (t2 : Int) => [(0, .sl 5 false (s1.map zAI)), (1, .fn (.func 35) [] []), (7, .v (.int .i64 ((s1.length : Nat) : Int))), (8, .v (.int .i64 t2))]) (fun (t2 : Int) => []) fu 0 (fun _ => rfl) ⟨rfl, rfl, rfl, rfl, trivial⟩ trivial rfl ?_
 rintro k1 t2
 refine sr ?_
 refine pe 1 ?_
 refine ns ?_
 refine zAE ?_
 refine zAR rfl ?_ ?_
 ·refine zAG ?_
  refine zAB ?_
  refine zAE ?_
  refine zAP ?_
  refine sr ?_
  refine pe 2 ?_
  refine ns ?_
  refine sr ?_
  refine pe 3 ?_
  refine zCV (T := tab) zAI s1 rfl rfl rfl rfl rfl rfl rfl fun y3 hy3 => ?_
  refine pe 1 ?_
  refine zDY (enc := fun (r4 : Bool) => .v (.bool r4)) (first := []) (cap := []) (qs := [.agg (zAI y3)]) (Sc := []) (zFy fu y3) (zBe trivial rfl) rfl rfl rfl rfl ⟨⟨_, rfl, .rfl⟩, trivial⟩ (fun _ => rfl) call35 rfl rfl fun r4 hr4 => ?_
  refine ns ?_
  refine zAR rfl ?_ ?_
  ·refine sr ?_
   refine pe 2 ?_
   refine ns ?_
   exact rN
  ·refine zAG ?_
   refine zAJ ?_
   refine zAB ?_
   refine zAD ?_
   refine zAV (T := tab) rfl rfl rfl rfl fun i5 hi5 => ?_
   refine pe 1 ?_
   refine zAC ?_
   exact zBX i5 ⟨rfl, rfl, rfl, rfl, trivial⟩ trivial rfl
 ·refine zAr rfl ?_
  refine zAB ?_
  refine sr ?_
  refine pe 1 ?_
  refine ns ?_
  exact rN
def zBH (fu : Nat) (t1 : Class → Option Bool) (s1 : (List Class)) : Option Bool := bnd (zB0 fu t1 s1) fun r2 => some (decide (r2 ≥ 0))
set_option maxRecDepth 100000 in
theorem zDS (fu : Nat) (s1 : (List Class)) : ∀ r, zBH fu (fun (z1 : Class) => zBn fu z1) s1 = some r → DC zAi Tryz.prog 34 [.sl 5 false (s1.map zAI), .fn (.func 35) [] []] (.v (.bool r)) := by
 intro r hr
 refine zAL (r := r)  (args := [.sl 5 false (s1.map zAI), .fn (.func 35) [] []]) (S := []) (N0 := []) (post := fun r p S => p = .v (.bool r) ∧ S = []) Tryz.func34 rfl rfl hr fun w0 X X0 σ0 _ => ?_
 refine sr ?_
 refine pe 1 ?_
 refine ns ?_
 refine sr ?_
 refine pe 2 ?_
 refine zAM (enc := fun (r2 : Int) => .v (.int .i64 r2)) (qs := [.sl 5 false (s1.map zAI), .fn (.func 35) [] []]) (zDt fu s1) rfl rfl ⟨⟨_, rfl, .rfl⟩, ⟨_, rfl, .rfl⟩, trivial⟩ (fun _ => rfl) call71 rfl rfl fun r2 hr2 => ?_
 refine pe 2 ?_
 refine ns ?_
 exact rN
def zBx (fu : Nat) (s1 : Script) : List (List Op × Int) → Unit → Option Bool
 | [], _ => cnd (decide (((s1.Classes.length : Nat) : Int) ≤ 12)) (bnd (zBH fu (fun (z1 : Class) => zBn fu z1) s1.Classes) fun r5 => some (!r5)) (some false)
 | y2 :: ys3, _ => cnd (decide (((y2.1.length : Nat) : Int) > y2.2)) (some false) (bnd (zBT fu (fun (z1 : Op) => zCZ fu z1) y2.1) fun r4 => cnd r4 (some false) ((zBx fu s1 ys3) ()))
def zCP (fu : Nat) (s1 : Script) : Option Bool := (zBx fu s1) (zA0 s1) ()
set_option maxHeartbeats 10000000 in
set_option maxRecDepth 100000 in
theorem zEX (fu : Nat) (s1 : Script) : ∀ r, zCP fu s1 = some r → DC zAi Tryz.prog 13 [.agg (zDB s1)] (.v (.bool r)) := by
 intro r hr
 refine zAL (r := r)  (args := [.agg (zDB s1)]) (S := []) (N0 := []) (post := fun r p S => p = .v (.bool r) ∧ S = []) Tryz.func13 rfl rfl hr fun w0 X X0 σ0 _ => ?_
 refine sr ?_
 refine zFC  1 rfl rfl rfl rfl rfl rfl rfl rfl rfl rfl ?_
 refine zBE (T := tab) 2 rfl rfl rfl rfl rfl rfl rfl rfl rfl ?_
 refine ns ?_
 refine zAE ?_
 refine sr ?_
 refine pe 1 ?_
 refine po_mk (n := 3006) (zLL s1) rfl rfl rfl rfl rfl rfl rfl rfl rfl rfl rfl ⟨⟨_, rfl, .rfl⟩, trivial⟩ call31 rfl rfl ?_
 refine ns ?_
 refine zAP ?_
 refine zRV (ys0 := zA0 s1) (p1 := fun y : (List Op × Int) => .sl 7 false (y.1.map cOp)) (p2 := fun y : (List Op × Int) => .v (.int .i64 y.2)) (x0 := ()) (n := 3006) (M := (zBx fu s1)) (Sf := fun (_ : Unit) => [(2, .box 4 [.v (.bool false)]), (1, .box 25 [.sl 5 false (s1.Classes.map zAI), .sl 7 false (s1.Main.map cOp)])]) (SR := fun r : Bool => [(2, .box 4 [.v (.bool r)])]) (N1 := [1, 2]) (E0 := [(1, .loc 1 0), (2, .loc 2 0)]) (E1 := fun y2 => [(1, .loc 1 0), (2, .loc 2 0), (7, .sl 7 false (y2.1.map cOp)), (8, .v (.int .i64 y2.2)), (3, .sl 7 false (y2.1.map cOp)), (4, .v (.int .i64 y2.2))]) (zKs s1) call68 (fun _ => rfl) (fun _ => rfl) rfl rfl rfl ⟨rfl, rfl, trivial⟩ rfl rfl ⟨rfl, rfl, trivial⟩ rfl rfl rfl rfl ?_ ?_ ?_ ?_
 ·rintro y2 _ w0 X X0 σ0 _ _
  refine sr ?_
  refine pe 1 ?_
  refine ns ?_
  refine zAD ?_
  refine pe 1 ?_
  refine zAC ?_
  exact zE4 ⟨rfl, rfl, rfl, rfl, rfl, rfl, trivial⟩ ⟨rfl, rfl, trivial⟩ rfl
 ·rintro y2 ys3 _ w0 X X0 σ0 _ _
  refine zAP ?_
  refine sr ?_
  refine pe 1 ?_
  refine zCD (T := tab) cOp y2.1 rfl rfl rfl rfl rfl rfl rfl rfl ?_
  refine pe 3 ?_
  refine zAN (j := 13) rfl ?_ ?_
  ·refine pe 3 ?_
   refine zAC ?_
   refine zAB (zBC rfl ?_)
   refine sr ?_
   refine zAK (T := tab) rfl rfl rfl rfl rfl rfl rfl rfl rfl rfl rfl rfl ?_
   refine ns ?_
   exact zGb rfl ⟨rfl, trivial⟩ rfl
  ·refine pe 1 ?_
   refine zAM (enc := fun (r4 : Bool) => .v (.bool r4)) (qs := [.sl 7 false (y2.1.map cOp), .fn (.func 33) [] []]) (zDw fu y2.1) rfl rfl ⟨⟨_, rfl, .rfl⟩, ⟨_, rfl, .rfl⟩, trivial⟩ (fun _ => rfl) call32 rfl rfl fun r4 hr4 => ?_
   refine pe 1 ?_
   refine ns ?_
   refine zAR rfl ?_ ?_
   ·refine sr ?_
    refine zAK (T := tab) rfl rfl rfl rfl rfl rfl rfl rfl rfl rfl rfl rfl ?_
    refine ns ?_
    exact zGb rfl ⟨rfl, trivial⟩ rfl
   ·refine zAG ?_
    refine zAJ ?_
    exact zEw () ⟨rfl, rfl, trivial⟩ rfl
 ·rintro _
  refine zAJ ?_
  refine zAB ?_
  refine sr ?_
  refine pe 2 ?_
  refine zCD (T := tab) zAI s1.Classes rfl rfl rfl rfl rfl rfl rfl rfl ?_
  refine pe 2 ?_
  refine zAN (j := 21) rfl ?_ ?_
  ·refine pe 2 ?_
   refine zAM (enc := fun (r5 : Bool) => .v (.bool r5)) (qs := [.sl 5 false (s1.Classes.map zAI), .fn (.func 35) [] []]) (zDS fu s1.Classes) rfl rfl ⟨⟨_, rfl, .rfl⟩, ⟨_, rfl, .rfl⟩, trivial⟩ (fun _ => rfl) call34 rfl rfl fun r5 hr5 => ?_
   refine pe 2 ?_
   refine zAK (T := tab) rfl rfl rfl rfl rfl rfl rfl rfl rfl rfl rfl rfl ?_
   refine ns ?_
   exact rN
  ·refine pe 5 ?_
   refine zAK (T := tab) rfl rfl rfl rfl rfl rfl rfl rfl rfl rfl rfl rfl ?_
   refine ns ?_
   exact rN
 ·exact fun r => zKt (T := tab) rfl rfl rfl ⟨rfl, rfl⟩ trivial rfl
set_option maxRecDepth 100000 in
theorem zDV (fu : Nat) (l1 : (List Int)) : ∀ r, zAe fu = some r → FC zAi Tryz.prog 98 [.loc 900000 0] [(900000, .box 64 [.nloc 900000 0, .ownb 900001]), (900001, .arr 5 1 (l1.map zAA))] [900000, 900001] fun p S' => p = .tup [] ∧ S' = [(900000, .box 64 [.nloc 900000 0, .ownb 900001]), (900001, .arr 5 1 (l1.map zAA))] := by
 intro r hr
 refine zAL (r := r)  (args := [.loc 900000 0]) (S := [(900000, .box 64 [.nloc 900000 0, .ownb 900001]), (900001, .arr 5 1 (l1.map zAA))]) (N0 := [900000, 900001]) (post := fun r p S => p = .tup [] ∧ S = [(900000, .box 64 [.nloc 900000 0, .ownb 900001]), (900001, .arr 5 1 (l1.map zAA))]) Tryz.func98 rfl rfl hr fun w0 X X0 σ0 _ => ?_
 refine sr ?_
 refine pe 3 ?_
 refine zHl 900000 0 rfl rfl rfl rfl rfl rfl ?_ ?_
 ·refine pe 1 ?_
  refine zF3 (T := tab) Tryz.underlying59 rfl rfl rfl rfl rfl rfl rfl rfl ?_
  refine ns ?_
  refine zBC rfl ?_
  refine zAD ?_
  refine pe 2 ?_
  refine zF0 (T := tab) Tryz.underlying59 Tryz.underlying160 rfl rfl Tryz.func120 rfl rfl rfl rfl rfl rfl rfl rfl rfl (by kernel_rfl) rfl rfl rfl rfl rfl rfl rfl rfl rfl rfl rfl ?_
  refine pe 2 ?_
  refine zAK (T := tab) rfl rfl rfl rfl rfl rfl rfl rfl rfl rfl rfl rfl ?_
  refine zAC ?_
  refine zEO 900000 [.nloc 900000 0, .ownb 900001] rfl ⟨.nloc1, .rfl, trivial⟩ rfl ?_
  exact zDj (T := tab) rfl rfl rfl ⟨rfl, rfl⟩ ⟨rfl, rfl, trivial⟩ rfl
 ·refine pe 1 ?_
  refine zF3 (T := tab) Tryz.underlying59 rfl rfl rfl rfl rfl rfl rfl rfl ?_
  refine ns ?_
  refine zAx rfl ?_
  refine sr ?_
  refine pe 5 ?_
  refine zF3 (T := tab) Tryz.underlying59 rfl rfl rfl rfl rfl rfl rfl rfl ?_
  refine ns ?_
  refine zAx rfl ?_
  refine zAG ?_
  refine zEO 900000 [.nloc 900000 0, .ownb 900001] rfl ⟨.nloc1, .rfl, trivial⟩ rfl ?_
  exact zDj (T := tab) rfl rfl rfl ⟨rfl, rfl⟩ ⟨rfl, rfl, trivial⟩ rfl
set_option maxRecDepth 100000 in
theorem zB8 (fu : Nat) (s1 : Bs) (l2 : (List Int)) : ∀ r, zAF fu s1 l2 = some r → FC zAi Tryz.prog 65 [.loc 900000 0, .v (.string ⟨⟨s1⟩⟩)] [(900000, .box 64 [.nloc 900000 0, .ownb 900001]), (900001, .arr 5 1 (l2.map zAA))] [900000] fun p S' => p = .tup [.v (.int .i64 r.1), .err r.2.1] ∧ S' = [(900000, .box 64 [.nloc 900000 0, .ownb 900001]), (900001, .arr 5 1 (r.2.2.map zAA))] := by
 intro r hr
 refine zAL (r := r)  (args := [.loc 900000 0, .v (.string ⟨⟨s1⟩⟩)]) (S := [(900000, .box 64 [.nloc 900000 0, .ownb 900001]), (900001, .arr 5 1 (l2.map zAA))]) (N0 := [900000]) (post := fun r p S => p = .tup [.v (.int .i64 r.1), .err r.2.1] ∧ S = [(900000, .box 64 [.nloc 900000 0, .ownb 900001]), (900001, .arr 5 1 (r.2.2.map zAA))]) Tryz.func65 rfl rfl hr fun w0 X X0 σ0 _ => ?_
 refine sr ?_
 refine pe 2 ?_
 refine ns ?_
 refine sr ?_
 refine pe 1 ?_
 refine zDY (enc := fun (r3 : Unit) => .tup []) (first := []) (cap := []) (qs := [.loc 900000 0]) (Sc := [(900000, .box 64 [.nloc 900000 0, .ownb 900001]), (900001, .arr 5 1 (l2.map zAA))]) (fun r3 hr3 => zA5 [(900000, 900000), (900001, 900001)] [900000, 900001] (zDV fu l2 _ hr3) rfl rfl rfl rfl rfl rfl) (zBe ⟨rfl, rfl, trivial⟩ rfl) rfl rfl rfl rfl ⟨⟨_, rfl, .rfl⟩, trivial⟩ (fun _ => rfl) zOw rfl rfl fun r3 hr3 => ?_
 refine ns ?_
 refine sr ?_
 refine pe 6 ?_
 refine zGO (T := tab) zAA l2 (fun _ => rfl) rfl rfl rfl rfl rfl rfl rfl rfl rfl rfl rfl rfl rfl rfl rfl rfl ?_
 refine pe 2 ?_
 refine zAK (T := tab) rfl rfl rfl rfl rfl rfl rfl rfl rfl rfl rfl rfl ?_
 refine ns ?_
 refine sr ?_
 refine pe 4 ?_
 refine ns ?_
 refine zM8 5 (q := .err false) rfl .err0 ?_
 exact rN
def zAT (fu : Nat) (l1 : (List Bs)) (l2 : (List Int)) : Option (List Int) := bnd (zJb fu l1 ([32] : Bs)) fun r3 => bnd (zAF fu r3 l2) fun r4 => bnd (zAF fu [10] r4.2.2) fun r5 => some r5.2.2
set_option maxRecDepth 100000 in
theorem zA3 (fu : Nat) (l1 : (List Bs)) (l2 : (List Int)) : ∀ r, zAT fu l1 l2 = some r → FC zAi Tryz.prog 26 [.loc 900000 0, .own 900001] [(900000, .box 64 [.nloc 900000 0, .ownb 900002]), (900001, .arr 9 1 (l1.map cStr)), (900002, .arr 5 1 (l2.map zAA))] [900000, 900001] fun p S' => p = .tup [] ∧ S' = [(900000, .box 64 [.nloc 900000 0, .ownb 900002]), (900001, .arr 9 1 (l1.map cStr)), (900002, .arr 5 1 (r.map zAA))] := by
 intro r hr
 refine zAL (r := r)  (args := [.loc 900000 0, .own 900001]) (S := [(900000, .box 64 [.nloc 900000 0, .ownb 900002]), (900001, .arr 9 1 (l1.map cStr)), (900002, .arr 5 1 (l2.map zAA))]) (N0 := [900000, 900001]) (post := fun r p S => p = .tup [] ∧ S = [(900000, .box 64 [.nloc 900000 0, .ownb 900002]), (900001, .arr 9 1 (l1.map cStr)), (900002, .arr 5 1 (r.map zAA))]) Tryz.func26 rfl rfl hr fun w0 X X0 σ0 _ => ?_
 refine zAE ?_
 refine zBD (E' := [(0, .loc 900000 0), (1, .own 900001)]) (S' := [(900000, .box 64 [.nloc 900000 0, .ownb 900002]), (900001, .arr 9 1 (l1.map cStr)), (900002, .arr 5 1 (l2.map zAA))]) ?_ ⟨rfl, rfl, trivial⟩ ⟨rfl, rfl, rfl, trivial⟩ rfl
 refine zBM [0, 1, 3, 0, 8, 31] mixed (by kernel_rfl) (by kernel_rfl) rfl rfl ?_
 refine ve [0] [8] [900000] [(4, .loc 900000 0)] ?_
 refine ve [8] [10] [900000] [(5, .loc 900000 0)] ?_
 refine ve [10] [12] [900000] [(6, .loc 900000 0)] ?_
 refine ve [2] [14] [900001] [(7, .own 900001)] ?_
 refine zAj (M := (zJb fu l1 ([32] : Bs))) (ment := [(16, [])]) [14, 1800003] [16] [] [900001] [900001] (fun r3 => [(8, .v (.string ⟨⟨r3⟩⟩))]) (fun r3 => [(900001, .arr 9 1 (l1.map cStr))]) rfl rfl (fun _ => rfl) (fun _ => rfl) (by kernel_rfl) (by kernel_rfl) (fun _ => by kernel_rfl) (fun _ => ⟨rfl, trivial⟩) (fun w0 X X0 σ0 _ => by refine zDY (enc := fun (r3 : Bs) => .v (.string ⟨⟨r3⟩⟩)) (first := []) (cap := []) (qs := [.own 900001, .v (.string ⟨⟨([32] : Bs)⟩⟩)]) (Sc := [(900001, .arr 9 1 (l1.map cStr))]) (zSB fu 900001 9 l1 ([32] : Bs)) (zBe ⟨rfl, trivial⟩ rfl) rfl rfl rfl rfl ⟨⟨_, rfl, .rfl⟩, ⟨_, rfl, .rfl⟩, trivial⟩ (fun _ => rfl) call66 rfl rfl fun r3 hr3 => ?_; refine zAC ?_; exact zBj ⟨rfl, trivial⟩ ⟨rfl, trivial⟩ rfl) fun r3 hr3 => ?_
 refine zAj (M := (zAF fu r3 l2)) (ment := [(18, []), (1800005, []), (1800001, [900000, 900002])]) [12, 16, 1800001, 1800005] [18, 1800005, 1800001] [900002] [900000] [] (fun r4 => [(9, .tup [.v (.int .i64 r4.1), .err r4.2.1])]) (fun r4 => [(900002, .arr 5 1 (r4.2.2.map zAA)), (900000, .box 64 [.nloc 900000 0, .ownb 900002])]) rfl rfl (fun _ => rfl) (fun _ => rfl) (by kernel_rfl) (by kernel_rfl) (fun _ => by kernel_rfl) (fun _ => trivial) (fun w0 X X0 σ0 _ => by refine zAh [900002] (enc := fun (r4 : (Int × Bool × (List Int))) => .tup [.v (.int .i64 r4.1), .err r4.2.1]) (Sr := fun (r4 : (Int × Bool × (List Int))) => [(900000, .box 64 [.nloc 900000 0, .ownb 900002]), (900002, .arr 5 1 (r4.2.2.map zAA))]) (first := []) (cap := []) (qs := [.loc 900000 0, .v (.string ⟨⟨r3⟩⟩)]) (Sc := [(900000, .box 64 [.nloc 900000 0, .ownb 900002]), (900002, .arr 5 1 (l2.map zAA))]) (N0 := [900000]) (NR := [900000, 900002]) (fun r4 hr4 => zA5 [(900000, 900000), (900001, 900002)] [900000, 900001] (zB8 fu r3 l2 _ hr4) rfl rfl rfl rfl rfl rfl) ⟨rfl, rfl, trivial⟩ (fun _ => rfl) rfl rfl rfl rfl rfl rfl rfl (fun _ => rfl) (fun _ => rfl) rfl rfl rfl ⟨⟨_, rfl, .rfl⟩, ⟨_, rfl, .rfl⟩, trivial⟩ zFm rfl rfl fun r4 hr4 => ?_; refine zAC ?_; exact zBj ⟨rfl, trivial⟩ ⟨rfl, rfl, trivial⟩ rfl) fun r4 hr4 => ?_
 refine zBr rfl rfl ?_
 refine zAB ?_
 refine zAD ?_
 refine pe 3 ?_
 refine zAh [900002] (enc := fun (r5 : (Int × Bool × (List Int))) => .tup [.v (.int .i64 r5.1), .err r5.2.1]) (Sr := fun (r5 : (Int × Bool × (List Int))) => [(900000, .box 64 [.nloc 900000 0, .ownb 900002]), (900002, .arr 5 1 (r5.2.2.map zAA))]) (first := []) (cap := []) (qs := [.loc 900000 0, .v (.string ⟨⟨[10]⟩⟩)]) (Sc := [(900000, .box 64 [.nloc 900000 0, .ownb 900002]), (900002, .arr 5 1 (r4.2.2.map zAA))]) (N0 := [900000]) (NR := [900000, 900002]) (fun r5 hr5 => zA5 [(900000, 900000), (900001, 900002)] [900000, 900001] (zB8 fu [10] r4.2.2 _ hr5) rfl rfl rfl rfl rfl rfl) ⟨rfl, rfl, trivial⟩ (fun _ => rfl) rfl rfl rfl rfl rfl rfl rfl (fun _ => rfl) (fun _ => rfl) rfl rfl rfl ⟨⟨_, rfl, .rfl⟩, ⟨_, rfl, .rfl⟩, trivial⟩ zFm rfl rfl fun r5 hr5 => ?_
 refine zAC ?_
 exact zDj (T := tab) rfl rfl rfl ⟨rfl, rfl⟩ ⟨rfl, rfl, rfl, trivial⟩ rfl
def zAk (fu : Nat) (l2 : (List Op)) : Nat → Int × (List Int) → Option (List Int)
 | 0, _ => none
 | k1 + 1, (t6, l7) => cnd (decide (t6 < ((l2.length : Nat) : Int))) (bnd (idx l2 t6) fun y8 => bnd (zFW fu y8) fun r9 => cnd (r9.2 != 0) (bnd (zAT fu [[63]] l7) fun r10 => bnd (rng .i64 (t6 + 1)) fun i12 => (zAk fu l2 k1) (i12, r10)) (bnd (zAT fu [r9.1] l7) fun r11 => bnd (rng .i64 (t6 + 1)) fun i13 => (zAk fu l2 k1) (i13, r11))) (some l7)
def zBf (fu : Nat) (l2 : (List Op)) (l5 : (List Int)) : Option (List Int) := (zAk fu l2) fu (0, l5)
def zBF (fu : Nat) (head1 : Bs) (l2 : (List Op)) (l3 : (List Int)) : Option (List Int) := cnd (decide (((l2.length : Nat) : Int) > 0)) (cnd (!(head1 == ([] : Bs))) (bnd (zAT fu [head1] l3) fun r4 => (zBf fu l2) r4) ((zBf fu l2) l3)) ((zBf fu l2) l3)
set_option maxHeartbeats 10000000 in
set_option maxRecDepth 100000 in
theorem zB7 (fu : Nat) (head1 : Bs) (l2 : (List Op)) (l3 : (List Int)) : ∀ r, zBF fu head1 l2 l3 = some r → FC zAi Tryz.prog 27 [.loc 900000 0, .v (.string ⟨⟨head1⟩⟩), .sl 7 false (l2.map cOp)] [(900000, .box 64 [.nloc 900000 0, .ownb 900001]), (900001, .arr 5 1 (l3.map zAA))] [900000] fun p S' => p = .tup [] ∧ S' = [(900000, .box 64 [.nloc 900000 0, .ownb 900001]), (900001, .arr 5 1 (r.map zAA))] := by
 intro r hr
 refine zAL (r := r)  (args := [.loc 900000 0, .v (.string ⟨⟨head1⟩⟩), .sl 7 false (l2.map cOp)]) (S := [(900000, .box 64 [.nloc 900000 0, .ownb 900001]), (900001, .arr 5 1 (l3.map zAA))]) (N0 := [900000]) (post := fun r p S => p = .tup [] ∧ S = [(900000, .box 64 [.nloc 900000 0, .ownb 900001]), (900001, .arr 5 1 (r.map zAA))]) Tryz.func27 rfl rfl hr fun w0 X X0 σ0 _ => ?_
 refine zAE ?_
 refine sr ?_
 refine zPI (zBf fu l2) (fun (l5 : (List Int)) => [(0, .loc 900000 0), (2, .sl 7 false (l2.map cOp))]) (fun (l5 : (List Int)) => [(900000, .box 64 [.nloc 900000 0, .ownb 900001]), (900001, .arr 5 1 (l5.map zAA))]) ?_ fun hj1 => ?_
 ·rintro l5
  refine zAB ?_
  refine sr ?_
  refine pe 1 ?_
  refine zCD (T := tab) cOp l2 rfl rfl rfl rfl rfl rfl rfl rfl ?_
  refine pe 1 ?_
  refine ns ?_
  refine zAP ?_
  refine zCE (zAk fu l2) (fun ((t6, l7) : Int × (List Int)) => [(0, .loc 900000 0), (21, .sl 7 false (l2.map cOp)), (22, .v (.int .i64 ((l2.length : Nat) : Int))), (23, .v (.int .i64 t6))]) (fun ((t6, l7) : Int × (List Int)) => [(900000, .box 64 [.nloc 900000 0, .ownb 900001]), (900001, .arr 5 1 (l7.map zAA))]) fu (0, l5) (fun _ => rfl) ⟨rfl, rfl, rfl, rfl, trivial⟩ ⟨rfl, rfl, trivial⟩ rfl ?_
  rintro k1 ⟨t6, l7⟩
  refine sr ?_
  refine pe 1 ?_
  refine ns ?_
  refine zAE ?_
  refine zAR rfl ?_ ?_
  ·refine zAG ?_
   refine zAB ?_
   refine zAE ?_
   refine zAP ?_
   refine sr ?_
   refine zCV (T := tab) cOp l2 rfl rfl rfl rfl rfl rfl rfl fun y8 hy8 => ?_
   refine pe 1 ?_
   refine zBE (T := tab) 7 rfl rfl rfl rfl rfl rfl rfl rfl rfl ?_
   refine zAK (T := tab) rfl rfl rfl rfl rfl rfl rfl rfl rfl rfl rfl rfl ?_
   refine ns ?_
   refine sr ?_
   refine pe 1 ?_
   refine zAM (enc := fun (r9 : (Bs × Int)) => .tup [.v (.string ⟨⟨r9.1⟩⟩), .v (.int .i64 r9.2)]) (qs := [.agg (cOp y8)]) (zKI fu y8) rfl rfl ⟨⟨_, rfl, .rfl⟩, trivial⟩ (fun _ => rfl) zQL rfl rfl fun r9 hr9 => ?_
   refine pe 5 ?_
   refine ns ?_
   refine zAE ?_
   refine sr ?_
   refine pe 2 ?_
   refine ns ?_
   refine zAR rfl ?_ ?_
   ·refine zAD ?_
    refine pe 1 ?_
    refine ns ?_
    refine zAD ?_
    refine pe 2 ?_
    refine zDo (T := tab) (rows := [[63]].map cStr) 36 rfl rfl rfl rfl rfl rfl rfl rfl rfl rfl rfl rfl rfl rfl ?_
    refine zAh [900001] (enc := fun (r10 : (List Int)) => .tup []) (Sr := fun (r10 : (List Int)) => [(900000, .box 64 [.nloc 900000 0, .ownb 900001]), (36, .arr 9 1 ([[63]].map cStr)), (900001, .arr 5 1 (r10.map zAA))]) (first := []) (cap := []) (qs := [.loc 900000 0, .own 36]) (Sc := [(900000, .box 64 [.nloc 900000 0, .ownb 900001]), (36, .arr 9 1 ([[63]].map cStr)), (900001, .arr 5 1 (l7.map zAA))]) (N0 := [900000, 36]) (NR := [900000, 36, 900001]) (fun r10 hr10 => zA5 [(900000, 900000), (900001, 36), (900002, 900001)] [900000, 900001, 900002] (zA3 fu [[63]] l7 _ hr10) rfl rfl rfl rfl rfl rfl) ⟨rfl, rfl, rfl, trivial⟩ (fun _ => rfl) rfl rfl rfl rfl rfl rfl rfl (fun _ => rfl) (fun _ => rfl) rfl rfl rfl ⟨⟨_, rfl, .rfl⟩, ⟨_, rfl, .rfl⟩, trivial⟩ zHx rfl rfl fun r10 hr10 => ?_
    refine zAC ?_
    refine zAJ ?_
    refine zAB ?_
    refine zAD ?_
    refine zAV (T := tab) rfl rfl rfl rfl fun i12 hi12 => ?_
    refine pe 1 ?_
    refine zAC ?_
    exact zBX (i12, r10) ⟨rfl, rfl, rfl, rfl, trivial⟩ ⟨rfl, rfl, trivial⟩ rfl
   ·refine zAG ?_
    refine zAB ?_
    refine zAD ?_
    refine pe 2 ?_
    refine zDo (T := tab) (rows := [r9.1].map cStr) 36 rfl rfl rfl rfl rfl rfl rfl rfl rfl rfl rfl rfl rfl rfl ?_
    refine zAh [900001] (enc := fun (r11 : (List Int)) => .tup []) (Sr := fun (r11 : (List Int)) => [(900000, .box 64 [.nloc 900000 0, .ownb 900001]), (36, .arr 9 1 ([r9.1].map cStr)), (900001, .arr 5 1 (r11.map zAA))]) (first := []) (cap := []) (qs := [.loc 900000 0, .own 36]) (Sc := [(900000, .box 64 [.nloc 900000 0, .ownb 900001]), (36, .arr 9 1 ([r9.1].map cStr)), (900001, .arr 5 1 (l7.map zAA))]) (N0 := [900000, 36]) (NR := [900000, 36, 900001]) (fun r11 hr11 => zA5 [(900000, 900000), (900001, 36), (900002, 900001)] [900000, 900001, 900002] (zA3 fu [r9.1] l7 _ hr11) rfl rfl rfl rfl rfl rfl) ⟨rfl, rfl, rfl, trivial⟩ (fun _ => rfl) rfl rfl rfl rfl rfl rfl rfl (fun _ => rfl) (fun _ => rfl) rfl rfl rfl ⟨⟨_, rfl, .rfl⟩, ⟨_, rfl, .rfl⟩, trivial⟩ zHx rfl rfl fun r11 hr11 => ?_
    refine zAC ?_
    refine zAJ ?_
    refine zAB ?_
    refine zAD ?_
    refine zAV (T := tab) rfl rfl rfl rfl fun i13 hi13 => ?_
    refine pe 1 ?_
    refine zAC ?_
    exact zBX (i13, r11) ⟨rfl, rfl, rfl, rfl, trivial⟩ ⟨rfl, rfl, trivial⟩ rfl
  ·refine zAr rfl ?_
   exact zDj (T := tab) rfl rfl rfl ⟨rfl, rfl⟩ ⟨rfl, rfl, trivial⟩ rfl
 ·refine pe 1 ?_
  refine zCD (T := tab) cOp l2 rfl rfl rfl rfl rfl rfl rfl rfl ?_
  refine pe 2 ?_
  refine zAN (j := 13) rfl ?_ ?_
  ·refine pe 3 ?_
   refine ns ?_
   refine zAR rfl ?_ ?_
   ·refine zAD ?_
    refine pe 2 ?_
    refine zDo (T := tab) (rows := [head1].map cStr) 19 rfl rfl rfl rfl rfl rfl rfl rfl rfl rfl rfl rfl rfl rfl ?_
    refine zAh [900001] (enc := fun (r4 : (List Int)) => .tup []) (Sr := fun (r4 : (List Int)) => [(900000, .box 64 [.nloc 900000 0, .ownb 900001]), (19, .arr 9 1 ([head1].map cStr)), (900001, .arr 5 1 (r4.map zAA))]) (first := []) (cap := []) (qs := [.loc 900000 0, .own 19]) (Sc := [(900000, .box 64 [.nloc 900000 0, .ownb 900001]), (19, .arr 9 1 ([head1].map cStr)), (900001, .arr 5 1 (l3.map zAA))]) (N0 := [900000, 19]) (NR := [900000, 19, 900001]) (fun r4 hr4 => zA5 [(900000, 900000), (900001, 19), (900002, 900001)] [900000, 900001, 900002] (zA3 fu [head1] l3 _ hr4) rfl rfl rfl rfl rfl rfl) ⟨rfl, rfl, rfl, trivial⟩ (fun _ => rfl) rfl rfl rfl rfl rfl rfl rfl (fun _ => rfl) (fun _ => rfl) rfl rfl rfl ⟨⟨_, rfl, .rfl⟩, ⟨_, rfl, .rfl⟩, trivial⟩ zHx rfl rfl fun r4 hr4 => ?_
    refine zAC ?_
    exact zAU (hj1 r4) ⟨rfl, rfl, trivial⟩ ⟨rfl, rfl, trivial⟩ rfl
   ·refine zAG ?_
    exact zAU (hj1 l3) ⟨rfl, rfl, trivial⟩ ⟨rfl, rfl, trivial⟩ rfl
  ·refine pe 3 ?_
   refine zAC ?_
   refine zAB (zAx rfl ?_)
   refine zAG ?_
   exact zAU (hj1 l3) ⟨rfl, rfl, trivial⟩ ⟨rfl, rfl, trivial⟩ rfl
def zCY (_fu : Nat) (l1 : (List Int)) : Option Int := some ((l1.length : Nat) : Int)
set_option maxRecDepth 100000 in
theorem zE5 (fu : Nat) (l1 : (List Int)) : ∀ r, zCY fu l1 = some r → FC zAi Tryz.prog 29 [.loc 900000 0] [(900000, .box 64 [.nloc 900000 0, .ownb 900001]), (900001, .arr 5 1 (l1.map zAA))] [900000, 900001] fun p S' => p = .v (.int .i64 r) ∧ S' = [(900000, .box 64 [.nloc 900000 0, .ownb 900001]), (900001, .arr 5 1 (l1.map zAA))] := by
 intro r hr
 refine zAL (r := r)  (args := [.loc 900000 0]) (S := [(900000, .box 64 [.nloc 900000 0, .ownb 900001]), (900001, .arr 5 1 (l1.map zAA))]) (N0 := [900000, 900001]) (post := fun r p S => p = .v (.int .i64 r) ∧ S = [(900000, .box 64 [.nloc 900000 0, .ownb 900001]), (900001, .arr 5 1 (l1.map zAA))]) Tryz.func29 rfl rfl hr fun w0 X X0 σ0 _ => ?_
 refine sr ?_
 refine pe 1 ?_
 refine ns ?_
 refine sr ?_
 refine pe 4 ?_
 refine zKT 6 (q := .own 900001) rfl .ownb ?_
 refine zCQ (T := tab) zAA l1 rfl rfl rfl rfl rfl rfl rfl rfl rfl ?_
 refine pe 1 ?_
 refine ns ?_
 exact rN
set_option maxRecDepth 100000 in
theorem zDu (fu : Nat) (l1 : (List Int)) : ∀ r, zAb fu l1 = some r → FC zAi Tryz.prog 30 [.loc 900000 0] [(900000, .box 64 [.nloc 900000 0, .ownb 900001]), (900001, .arr 5 1 (l1.map zAA))] [900000, 900001] fun p S' => p = .v (.string ⟨⟨r⟩⟩) ∧ S' = [(900000, .box 64 [.nloc 900000 0, .junk])] := by
 intro r hr
 refine zAL (r := r)  (args := [.loc 900000 0]) (S := [(900000, .box 64 [.nloc 900000 0, .ownb 900001]), (900001, .arr 5 1 (l1.map zAA))]) (N0 := [900000, 900001]) (post := fun r p S => p = .v (.string ⟨⟨r⟩⟩) ∧ S = [(900000, .box 64 [.nloc 900000 0, .junk])]) Tryz.func30 rfl rfl hr fun w0 X X0 σ0 _ => ?_
 refine sr ?_
 refine pe 1 ?_
 refine ns ?_
 refine zAE ?_
 refine zBD (E' := [(0, .loc 900000 0)]) (S' := [(900000, .box 64 [.nloc 900000 0, .ownb 900001]), (900001, .arr 5 1 (l1.map zAA))]) ?_ ⟨rfl, trivial⟩ ⟨rfl, rfl, trivial⟩ rfl
 refine zBM [0, 1, 3, 7, 15, 0, 32, 96, 224, 480, 1023, 2047] mixed (by kernel_rfl) (by kernel_rfl) rfl rfl ?_
 refine ve [0] [6] [900000] [(3, .loc 900000 0)] ?_
 refine ve [6] [8] [900000] [(4, .loc 900000 0)] ?_
 refine ve [8] [10] [900000] [(5, .loc 900000 1)] ?_
 refine vf [10, 1800001] [12] [] [900000, 900001] [900000] [(6, .ownb 900001)] [(900000, .box 64 [.nloc 900000 0, .ownb 900001])] ?_
 refine zAY [12, 1800003] [14] [] [900001] [900001] [(7, .dat 900001)] [(900001, .arr 5 1 (l1.map zAA))] rfl rfl rfl rfl (by kernel_rfl) (by kernel_rfl) (by kernel_rfl) ⟨rfl, trivial⟩ (fun w0 X X0 σ0 _ => by refine zFL rfl rfl rfl rfl rfl rfl ?_; refine zAC ?_; exact zAz ⟨rfl, trivial⟩ ⟨rfl, trivial⟩ rfl) ?_
 refine ve [0] [16] [900000] [(8, .loc 900000 0)] ?_
 refine ve [16] [18] [900000] [(9, .loc 900000 0)] ?_
 refine ve [18] [20] [900000] [(10, .loc 900000 1)] ?_
 refine vf [20, 1800001] [22] [] [900000, 900001] [900000] [(11, .ownb 900001)] [(900000, .box 64 [.nloc 900000 0, .ownb 900001])] ?_
 refine zAY [22, 1800003] [24, 22] [] [900001] [900001] [(12, .v (.int .i64 ((l1.length : Nat) : Int))), (11, .own 900001)] [(900001, .arr 5 1 (l1.map zAA))] rfl rfl rfl rfl (by kernel_rfl) (by kernel_rfl) (by kernel_rfl) ⟨rfl, trivial⟩ (fun w0 X X0 σ0 _ => by refine zKT 11 (q := .own 900001) rfl .ownb ?_; refine zCQ (T := tab) zAA l1 rfl rfl rfl rfl rfl rfl rfl rfl rfl ?_; refine zAC ?_; exact zAz ⟨rfl, rfl, trivial⟩ ⟨rfl, trivial⟩ rfl) ?_
 refine zAY [12, 14, 22, 24, 1800001, 1800003] [26, 12, 14, 22, 1800001, 1800003] [] [900000, 900001] [] [(13, .v (.string ⟨⟨(zDx l1)⟩⟩)), (11, .sl 1 false (l1.map zAA))] [(900000, .box 64 [.nloc 900000 0, .junk])] rfl rfl rfl rfl (by kernel_rfl) (by kernel_rfl) (by kernel_rfl) trivial (fun w0 X X0 σ0 _ => by refine zFv zAA l1 (fun _ => rfl) rfl rfl rfl rfl rfl rfl rfl Tryz.underlying127 (by kernel_rfl) rfl rfl rfl rfl ?_; refine zAC ?_; exact zAz ⟨rfl, rfl, trivial⟩ ⟨rfl, trivial⟩ rfl) ?_
 refine ve [26] [4] [] [(2, .v (.string ⟨⟨(zDx l1)⟩⟩))] ?_
 refine zBr rfl rfl ?_
 refine zAB ?_
 exact rN
def zCh (fu : Nat) (t3 : Int) (y5 : Class) (rc1 : (Int × (List Int)) → Option (Bs × Int)) : Nat → Int × (List Int) → Option (Bs × Int)
 | 0, _ => none
 | k3 + 1, (t16, l17) => cnd (decide (t16 < ((y5.Hooks.length : Nat) : Int))) (bnd (idx y5.Hooks t16) fun y18 => bnd (zCq fu) fun r19 => bnd (idx r19 y18.Kind) fun y20 => bnd (zAT fu [[111, 110], y20] l17) fun r21 => bnd (zBF fu [] y18.Do r21) fun r22 => bnd (rng .i64 (t16 + 1)) fun i23 => (zCh fu t3 y5 rc1 k3) (i23, r22)) (bnd (rng .i64 (t3 + 1)) fun i24 => rc1 (i24, l17))
def zCl (fu : Nat) (t3 : Int) (y5 : Class) (rc1 : (Int × (List Int)) → Option (Bs × Int)) : Nat → Int × (List Int) → Option (Bs × Int)
 | 0, _ => none
 | k2 + 1, (t9, l10) => cnd (decide (t9 < ((y5.Watch.length : Nat) : Int))) (bnd (idx y5.Watch t9) fun y11 => bnd (zAT fu [[119, 97, 116, 99, 104], y11] l10) fun r12 => bnd (rng .i64 (t9 + 1)) fun i13 => (zCl fu t3 y5 rc1 k2) (i13, r12)) (bnd (zBF fu [112, 101, 101, 107] y5.Peek l10) fun r14 => bnd (zBF fu [109, 97, 107, 101] y5.Make r14) fun r15 => (zCh fu t3 y5 rc1) fu (0, r15))
def zDD (fu : Nat) (t3 : Int) (y5 : Class) (rc1 : (Int × (List Int)) → Option (Bs × Int)) (l8 : (List Int)) : Option (Bs × Int) := (zCl fu t3 y5 rc1) fu (0, l8)
def zBB (fu : Nat) (s1 : Script) : Nat → Int × (List Int) → Option (Bs × Int)
 | 0, _ => none
 | k1 + 1, (t3, l4) => cnd (decide (t3 < ((s1.Classes.length : Nat) : Int))) (bnd (idx s1.Classes t3) fun y5 => cnd y5.Form (bnd (zAT fu [[99, 108, 97, 115, 115], [102, 111, 114, 109]] l4) fun r6 => (zDD fu t3 y5 (zBB fu s1 k1)) r6) (bnd (zAT fu [[99, 108, 97, 115, 115]] l4) fun r7 => (zDD fu t3 y5 (zBB fu s1 k1)) r7)) (bnd (zBF fu [109, 97, 105, 110] s1.Main l4) fun r25 => bnd (zCY fu r25) fun r26 => cnd (decide (r26 > 16384)) (some ([], 3)) (bnd (zAb fu r25) fun r27 => some (r27, 0)))
def zDh (fu : Nat) (s1 : Script) : Option (Bs × Int) := bnd (zCP fu s1) fun r2 => cnd (!r2) (some ([], 1)) ((zBB fu s1) fu (0, []))
set_option maxHeartbeats 10000000 in
set_option maxRecDepth 100000 in
theorem zIk (fu : Nat) (s1 : Script) : ∀ r, zDh fu s1 = some r → DC zAi Tryz.prog 12 [.agg (zDB s1)] (.tup [.v (.string ⟨⟨r.1⟩⟩), .v (.int .i64 r.2)]) := by
 intro r hr
 refine zAL (r := r)  (args := [.agg (zDB s1)]) (S := []) (N0 := []) (post := fun r p S => p = .tup [.v (.string ⟨⟨r.1⟩⟩), .v (.int .i64 r.2)] ∧ S = []) Tryz.func12 rfl rfl hr fun w0 X X0 σ0 _ => ?_
 refine sr ?_
 refine zFC  1 rfl rfl rfl rfl rfl rfl rfl rfl rfl rfl ?_
 refine pe 2 ?_
 refine ns ?_
 refine zAE ?_
 refine sr ?_
 refine pe 1 ?_
 refine zAM (enc := fun (r2 : Bool) => .v (.bool r2)) (qs := [.agg (zDB s1)]) (zEX fu s1) rfl rfl ⟨⟨_, rfl, .rfl⟩, trivial⟩ (fun _ => rfl) zQj rfl rfl fun r2 hr2 => ?_
 refine pe 1 ?_
 refine ns ?_
 refine zAR rfl ?_ ?_
 ·refine sr ?_
  refine pe 2 ?_
  refine ns ?_
  exact rN
 ·refine zAG ?_
  refine zAB ?_
  refine sr ?_
  refine zBE (T := tab) 4 rfl rfl rfl rfl rfl rfl rfl rfl rfl ?_
  refine zLK 4 [.nloc 4 0, .v (.slice none 0 0)] rfl ⟨.nloc0, .rfl, trivial⟩ rfl ?_
  refine zFK 5040 5 1 4 1 rfl rfl rfl rfl rfl rfl ?_
  refine ns ?_
  refine zAE ?_
  refine sr ?_
  refine pe 2 ?_
  refine zCD (T := tab) zAI s1.Classes rfl rfl rfl rfl rfl rfl rfl rfl ?_
  refine pe 1 ?_
  refine ns ?_
  refine zAP ?_
  refine zCE (zBB fu s1) (fun ((t3, l4) : Int × (List Int)) => [(1, .loc 1 0), (4, .loc 4 0), (15, .sl 5 false (s1.Classes.map zAI)), (16, .v (.int .i64 ((s1.Classes.length : Nat) : Int))), (17, .v (.int .i64 t3))]) (fun ((t3, l4) : Int × (List Int)) => [(5040, .arr 5 1 (l4.map zAA)), (4, .box 64 [.nloc 4 0, .ownb 5040]), (1, .box 25 [.sl 5 false (s1.Classes.map zAI), .sl 7 false (s1.Main.map cOp)])]) fu (0, []) (fun _ => rfl) ⟨rfl, rfl, rfl, rfl, rfl, trivial⟩ ⟨rfl, rfl, rfl, trivial⟩ rfl ?_
  rintro k1 ⟨t3, l4⟩
  refine sr ?_
  refine pe 1 ?_
  refine ns ?_
  refine zAE ?_
  refine zAR rfl ?_ ?_
  ·refine zAG ?_
   refine zAB ?_
   refine zAE ?_
   refine zAP ?_
   refine sr ?_
   refine zCV (T := tab) zAI s1.Classes rfl rfl rfl rfl rfl rfl rfl fun y5 hy5 => ?_
   refine pe 1 ?_
   refine zBE (T := tab) 6 rfl rfl rfl rfl rfl rfl rfl rfl rfl ?_
   refine zAK (T := tab) rfl rfl rfl rfl rfl rfl rfl rfl rfl rfl rfl rfl ?_
   refine ns ?_
   refine zAE ?_
   refine sr ?_
   refine pe 2 ?_
   refine ns ?_
   refine zBl (zDD fu t3 y5 (zBB fu s1 k1)) (fun (l8 : (List Int)) => [(1, .loc 1 0), (4, .loc 4 0), (6, .loc 6 0), (15, .sl 5 false (s1.Classes.map zAI)), (16, .v (.int .i64 ((s1.Classes.length : Nat) : Int))), (17, .v (.int .i64 t3))]) (fun (l8 : (List Int)) => [(4, .box 64 [.nloc 4 0, .ownb 5040]), (5040, .arr 5 1 (l8.map zAA)), (6, .box 51 [.v (.bool y5.Form), .sl 1 false (y5.Watch.map cStr), .sl 7 false (y5.Peek.map cOp), .sl 7 false (y5.Make.map cOp), .sl 2 false (y5.Hooks.map zAa)]), (1, .box 25 [.sl 5 false (s1.Classes.map zAI), .sl 7 false (s1.Main.map cOp)])]) ?_ fun hj1 => ?_
   ·rintro l8
    refine zAB ?_
    refine zAE ?_
    refine sr ?_
    refine pe 2 ?_
    refine zCD (T := tab) cStr y5.Watch rfl rfl rfl rfl rfl rfl rfl rfl ?_
    refine pe 1 ?_
    refine ns ?_
    refine zAP ?_
    refine zCE (zCl fu t3 y5 (zBB fu s1 k1)) (fun ((t9, l10) : Int × (List Int)) => [(1, .loc 1 0), (4, .loc 4 0), (6, .loc 6 0), (15, .sl 5 false (s1.Classes.map zAI)), (16, .v (.int .i64 ((s1.Classes.length : Nat) : Int))), (17, .v (.int .i64 t3)), (28, .sl 1 false (y5.Watch.map cStr)), (29, .v (.int .i64 ((y5.Watch.length : Nat) : Int))), (30, .v (.int .i64 t9))]) (fun ((t9, l10) : Int × (List Int)) => [(4, .box 64 [.nloc 4 0, .ownb 5040]), (5040, .arr 5 1 (l10.map zAA)), (6, .box 51 [.v (.bool y5.Form), .sl 1 false (y5.Watch.map cStr), .sl 7 false (y5.Peek.map cOp), .sl 7 false (y5.Make.map cOp), .sl 2 false (y5.Hooks.map zAa)]), (1, .box 25 [.sl 5 false (s1.Classes.map zAI), .sl 7 false (s1.Main.map cOp)])]) fu (0, l8) (fun _ => rfl) ⟨rfl, rfl, rfl, rfl, rfl, rfl, rfl, rfl, rfl, trivial⟩ ⟨rfl, rfl, rfl, rfl, trivial⟩ rfl ?_
    rintro k2 ⟨t9, l10⟩
    refine sr ?_
    refine pe 1 ?_
    refine ns ?_
    refine zAE ?_
    refine zAR rfl ?_ ?_
    ·refine zAG ?_
     refine zAB ?_
     refine zAE ?_
     refine zAP ?_
     refine sr ?_
     refine zCV (T := tab) cStr y5.Watch rfl rfl rfl rfl rfl rfl rfl fun y11 hy11 => ?_
     refine pe 2 ?_
     refine ns ?_
     refine zAD ?_
     refine pe 1 ?_
     refine zDo (T := tab) (rows := [[119, 97, 116, 99, 104], y11].map cStr) 35 rfl rfl rfl rfl rfl rfl rfl rfl rfl rfl rfl rfl rfl rfl ?_
     refine zAh [5040] (enc := fun (r12 : (List Int)) => .tup []) (Sr := fun (r12 : (List Int)) => [(4, .box 64 [.nloc 4 0, .ownb 5040]), (35, .arr 9 1 ([[119, 97, 116, 99, 104], y11].map cStr)), (5040, .arr 5 1 (r12.map zAA))]) (first := []) (cap := []) (qs := [.loc 4 0, .own 35]) (Sc := [(4, .box 64 [.nloc 4 0, .ownb 5040]), (35, .arr 9 1 ([[119, 97, 116, 99, 104], y11].map cStr)), (5040, .arr 5 1 (l10.map zAA))]) (N0 := [4, 35]) (NR := [4, 35, 5040]) (fun r12 hr12 => zA5 [(900000, 4), (900001, 35), (900002, 5040)] [900000, 900001, 900002] (zA3 fu [[119, 97, 116, 99, 104], y11] l10 _ hr12) rfl rfl rfl rfl rfl rfl) ⟨rfl, rfl, rfl, trivial⟩ (fun _ => rfl) rfl rfl rfl rfl rfl rfl rfl (fun _ => rfl) (fun _ => rfl) rfl rfl rfl ⟨⟨_, rfl, .rfl⟩, ⟨_, rfl, .rfl⟩, trivial⟩ zHx rfl rfl fun r12 hr12 => ?_
     refine zAC ?_
     refine zAJ ?_
     refine zAB ?_
     refine zAD ?_
     refine zAV (T := tab) rfl rfl rfl rfl fun i13 hi13 => ?_
     refine pe 1 ?_
     refine zAC ?_
     exact zBX (i13, r12) ⟨rfl, rfl, rfl, rfl, rfl, rfl, rfl, rfl, rfl, trivial⟩ ⟨rfl, rfl, rfl, rfl, trivial⟩ rfl
    ·refine zAr rfl ?_
     refine zAB ?_
     refine sr ?_
     refine pe 2 ?_
     refine zAh [5040] (enc := fun (r14 : (List Int)) => .tup []) (Sr := fun (r14 : (List Int)) => [(4, .box 64 [.nloc 4 0, .ownb 5040]), (5040, .arr 5 1 (r14.map zAA))]) (first := []) (cap := []) (qs := [.loc 4 0, .v (.string ⟨⟨[112, 101, 101, 107]⟩⟩), .sl 7 false (y5.Peek.map cOp)]) (Sc := [(4, .box 64 [.nloc 4 0, .ownb 5040]), (5040, .arr 5 1 (l10.map zAA))]) (N0 := [4]) (NR := [4, 5040]) (fun r14 hr14 => zA5 [(900000, 4), (900001, 5040)] [900000, 900001] (zB7 fu [112, 101, 101, 107] y5.Peek l10 _ hr14) rfl rfl rfl rfl rfl rfl) ⟨rfl, rfl, trivial⟩ (fun _ => rfl) rfl rfl rfl rfl rfl rfl rfl (fun _ => rfl) (fun _ => rfl) rfl rfl rfl ⟨⟨_, rfl, .rfl⟩, ⟨_, rfl, .rfl⟩, ⟨_, rfl, .rfl⟩, trivial⟩ zLS rfl rfl fun r14 hr14 => ?_
     refine ns ?_
     refine sr ?_
     refine pe 2 ?_
     refine zAh [5040] (enc := fun (r15 : (List Int)) => .tup []) (Sr := fun (r15 : (List Int)) => [(4, .box 64 [.nloc 4 0, .ownb 5040]), (5040, .arr 5 1 (r15.map zAA))]) (first := []) (cap := []) (qs := [.loc 4 0, .v (.string ⟨⟨[109, 97, 107, 101]⟩⟩), .sl 7 false (y5.Make.map cOp)]) (Sc := [(4, .box 64 [.nloc 4 0, .ownb 5040]), (5040, .arr 5 1 (r14.map zAA))]) (N0 := [4]) (NR := [4, 5040]) (fun r15 hr15 => zA5 [(900000, 4), (900001, 5040)] [900000, 900001] (zB7 fu [109, 97, 107, 101] y5.Make r14 _ hr15) rfl rfl rfl rfl rfl rfl) ⟨rfl, rfl, trivial⟩ (fun _ => rfl) rfl rfl rfl rfl rfl rfl rfl (fun _ => rfl) (fun _ => rfl) rfl rfl rfl ⟨⟨_, rfl, .rfl⟩, ⟨_, rfl, .rfl⟩, ⟨_, rfl, .rfl⟩, trivial⟩ zLS rfl rfl fun r15 hr15 => ?_
     refine ns ?_
     refine sr ?_
     refine pe 2 ?_
     refine zCD (T := tab) zAa y5.Hooks rfl rfl rfl rfl rfl rfl rfl rfl ?_
     refine pe 1 ?_
     refine ns ?_
     refine zAP ?_
     refine zCE (zCh fu t3 y5 (zBB fu s1 k1)) (fun ((t16, l17) : Int × (List Int)) => [(1, .loc 1 0), (4, .loc 4 0), (15, .sl 5 false (s1.Classes.map zAI)), (16, .v (.int .i64 ((s1.Classes.length : Nat) : Int))), (17, .v (.int .i64 t3)), (45, .sl 2 false (y5.Hooks.map zAa)), (46, .v (.int .i64 ((y5.Hooks.length : Nat) : Int))), (47, .v (.int .i64 t16))]) (fun ((t16, l17) : Int × (List Int)) => [(4, .box 64 [.nloc 4 0, .ownb 5040]), (5040, .arr 5 1 (l17.map zAA)), (1, .box 25 [.sl 5 false (s1.Classes.map zAI), .sl 7 false (s1.Main.map cOp)])]) fu (0, r15) (fun _ => rfl) ⟨rfl, rfl, rfl, rfl, rfl, rfl, rfl, rfl, trivial⟩ ⟨rfl, rfl, rfl, trivial⟩ rfl ?_
     rintro k3 ⟨t16, l17⟩
     refine sr ?_
     refine pe 1 ?_
     refine ns ?_
     refine zAE ?_
     refine zAR rfl ?_ ?_
     ·refine zAG ?_
      refine zAB ?_
      refine zAE ?_
      refine zAP ?_
      refine sr ?_
      refine zCV (T := tab) zAa y5.Hooks rfl rfl rfl rfl rfl rfl rfl fun y18 hy18 => ?_
      refine pe 1 ?_
      refine zBE (T := tab) 10 rfl rfl rfl rfl rfl rfl rfl rfl rfl ?_
      refine zAK (T := tab) rfl rfl rfl rfl rfl rfl rfl rfl rfl rfl rfl rfl ?_
      refine ns ?_
      refine zAE ?_
      refine zBD (E' := [(1, .loc 1 0), (4, .loc 4 0), (15, .sl 5 false (s1.Classes.map zAI)), (16, .v (.int .i64 ((s1.Classes.length : Nat) : Int))), (17, .v (.int .i64 t3)), (45, .sl 2 false (y5.Hooks.map zAa)), (46, .v (.int .i64 ((y5.Hooks.length : Nat) : Int))), (47, .v (.int .i64 t16)), (10, .loc 10 0)]) (S' := [(10, .box 54 [.v (.int .i64 y18.Kind), .sl 7 false (y18.Do.map cOp)]), (4, .box 64 [.nloc 4 0, .ownb 5040]), (5040, .arr 5 1 (l17.map zAA)), (1, .box 25 [.sl 5 false (s1.Classes.map zAI), .sl 7 false (s1.Main.map cOp)])]) ?_ ⟨rfl, rfl, rfl, rfl, rfl, rfl, rfl, rfl, rfl, trivial⟩ ⟨rfl, rfl, rfl, rfl, trivial⟩ rfl
      refine zBM [0, 0, 2, 7, 15, 31, 63] mixed (by kernel_rfl) (by kernel_rfl) rfl rfl ?_
      refine zAj (M := (zCq fu)) (ment := [(102, [])]) [] [102] [] [] [] (fun r19 => [(51, .sl 1 false (r19.map cStr))]) (fun r19 => []) rfl rfl (fun _ => rfl) (fun _ => rfl) (by kernel_rfl) (by kernel_rfl) (fun _ => by kernel_rfl) (fun _ => trivial) (fun w0 X X0 σ0 _ => by refine zAM (enc := fun (r19 : (List Bs)) => .sl 1 false (r19.map cStr)) (qs := []) (zFI fu) rfl rfl trivial (fun _ => rfl) zQt rfl rfl fun r19 hr19 => ?_; refine zAC ?_; exact zBj ⟨rfl, trivial⟩ trivial rfl) fun r19 hr19 => ?_
      refine ve [20] [104] [10] [(52, .loc 10 0)] ?_
      refine vf [21, 104] [106] [] [10] [10] [(53, .v (.int .i64 y18.Kind))] [(10, .box 54 [.v (.int .i64 y18.Kind), .sl 7 false (y18.Do.map cOp)])] ?_
      refine zAj (M := (idx r19 y18.Kind)) (ment := [(108, [])]) [102, 106] [108] [] [] [] (fun y20 => [(54, .el (cStr y20) 0)]) (fun y20 => []) rfl rfl (fun _ => rfl) (fun _ => rfl) (by kernel_rfl) (by kernel_rfl) (fun _ => by kernel_rfl) (fun _ => trivial) (fun w0 X X0 σ0 _ => by refine zCV (T := tab) cStr r19 rfl rfl rfl rfl rfl rfl rfl fun y20 hy20 => ?_; refine zAC ?_; exact zBj ⟨rfl, trivial⟩ trivial rfl) fun y20 hy20 => ?_
      refine ve [108] [110] [] [(55, .v (.string ⟨⟨y20⟩⟩))] ?_
      refine zAY [110] [112, 113] [56] [] [] [(56, .own 56)] [(56, .arr 9 1 ([[111, 110], y20].map cStr))] rfl rfl rfl rfl (by kernel_rfl) (by kernel_rfl) (by kernel_rfl) trivial (fun w0 X X0 σ0 _ => by refine zDo (T := tab) (rows := [[111, 110], y20].map cStr) 56 rfl rfl rfl rfl rfl rfl rfl rfl rfl rfl rfl rfl rfl rfl ?_; refine zAC ?_; exact zAz ⟨rfl, trivial⟩ ⟨rfl, trivial⟩ rfl) ?_
      refine zAj (M := (zAT fu [[111, 110], y20] l17)) (ment := [(114, []), (10081, []), (9, [4, 5040])]) [8, 9, 112, 113, 10081] [114, 10081, 9] [5040] [4, 56] [56] (fun r21 => [(57, .tup [])]) (fun r21 => [(5040, .arr 5 1 (r21.map zAA)), (4, .box 64 [.nloc 4 0, .ownb 5040]), (56, .arr 9 1 ([[111, 110], y20].map cStr))]) rfl rfl (fun _ => rfl) (fun _ => rfl) (by kernel_rfl) (by kernel_rfl) (fun _ => by kernel_rfl) (fun _ => ⟨rfl, trivial⟩) (fun w0 X X0 σ0 _ => by refine zAh [5040] (enc := fun (r21 : (List Int)) => .tup []) (Sr := fun (r21 : (List Int)) => [(4, .box 64 [.nloc 4 0, .ownb 5040]), (56, .arr 9 1 ([[111, 110], y20].map cStr)), (5040, .arr 5 1 (r21.map zAA))]) (first := []) (cap := []) (qs := [.loc 4 0, .own 56]) (Sc := [(4, .box 64 [.nloc 4 0, .ownb 5040]), (56, .arr 9 1 ([[111, 110], y20].map cStr)), (5040, .arr 5 1 (l17.map zAA))]) (N0 := [4, 56]) (NR := [4, 56, 5040]) (fun r21 hr21 => zA5 [(900000, 4), (900001, 56), (900002, 5040)] [900000, 900001, 900002] (zA3 fu [[111, 110], y20] l17 _ hr21) rfl rfl rfl rfl rfl rfl) ⟨rfl, rfl, rfl, trivial⟩ (fun _ => rfl) rfl rfl rfl rfl rfl rfl rfl (fun _ => rfl) (fun _ => rfl) rfl rfl rfl ⟨⟨_, rfl, .rfl⟩, ⟨_, rfl, .rfl⟩, trivial⟩ zHx rfl rfl fun r21 hr21 => ?_; refine zAC ?_; exact zBj ⟨rfl, trivial⟩ ⟨rfl, rfl, rfl, trivial⟩ rfl) fun r21 hr21 => ?_
      refine zBr rfl rfl ?_
      refine zAB ?_
      refine zAD ?_
      refine pe 2 ?_
      refine zAh [5040] (enc := fun (r22 : (List Int)) => .tup []) (Sr := fun (r22 : (List Int)) => [(4, .box 64 [.nloc 4 0, .ownb 5040]), (5040, .arr 5 1 (r22.map zAA))]) (first := []) (cap := []) (qs := [.loc 4 0, .v (.string ⟨⟨[]⟩⟩), .sl 7 false (y18.Do.map cOp)]) (Sc := [(4, .box 64 [.nloc 4 0, .ownb 5040]), (5040, .arr 5 1 (r21.map zAA))]) (N0 := [4]) (NR := [4, 5040]) (fun r22 hr22 => zA5 [(900000, 4), (900001, 5040)] [900000, 900001] (zB7 fu [] y18.Do r21 _ hr22) rfl rfl rfl rfl rfl rfl) ⟨rfl, rfl, trivial⟩ (fun _ => rfl) rfl rfl rfl rfl rfl rfl rfl (fun _ => rfl) (fun _ => rfl) rfl rfl rfl ⟨⟨_, rfl, .rfl⟩, ⟨_, rfl, .rfl⟩, ⟨_, rfl, .rfl⟩, trivial⟩ zLS rfl rfl fun r22 hr22 => ?_
      refine zAC ?_
      refine zAJ ?_
      refine zAB ?_
      refine zAD ?_
      refine zAV (T := tab) rfl rfl rfl rfl fun i23 hi23 => ?_
      refine pe 1 ?_
      refine zAC ?_
      exact zBX (i23, r22) ⟨rfl, rfl, rfl, rfl, rfl, rfl, rfl, rfl, trivial⟩ ⟨rfl, rfl, rfl, trivial⟩ rfl
     ·refine zAr rfl ?_
      refine zAJ ?_
      refine zAB ?_
      refine zAD ?_
      refine zAV (T := tab) rfl rfl rfl rfl fun i24 hi24 => ?_
      refine pe 1 ?_
      refine zAC ?_
      exact zBX (i24, l17) ⟨rfl, rfl, rfl, rfl, rfl, trivial⟩ ⟨rfl, rfl, rfl, trivial⟩ rfl
   ·refine zAR rfl ?_ ?_
    ·refine zAD ?_
     refine zDo (T := tab) (rows := [[99, 108, 97, 115, 115], [102, 111, 114, 109]].map cStr) 23 rfl rfl rfl rfl rfl rfl rfl rfl rfl rfl rfl rfl rfl rfl ?_
     refine zAh [5040] (enc := fun (r6 : (List Int)) => .tup []) (Sr := fun (r6 : (List Int)) => [(4, .box 64 [.nloc 4 0, .ownb 5040]), (23, .arr 9 1 ([[99, 108, 97, 115, 115], [102, 111, 114, 109]].map cStr)), (5040, .arr 5 1 (r6.map zAA))]) (first := []) (cap := []) (qs := [.loc 4 0, .own 23]) (Sc := [(4, .box 64 [.nloc 4 0, .ownb 5040]), (23, .arr 9 1 ([[99, 108, 97, 115, 115], [102, 111, 114, 109]].map cStr)), (5040, .arr 5 1 (l4.map zAA))]) (N0 := [4, 23]) (NR := [4, 23, 5040]) (fun r6 hr6 => zA5 [(900000, 4), (900001, 23), (900002, 5040)] [900000, 900001, 900002] (zA3 fu [[99, 108, 97, 115, 115], [102, 111, 114, 109]] l4 _ hr6) rfl rfl rfl rfl rfl rfl) ⟨rfl, rfl, rfl, trivial⟩ (fun _ => rfl) rfl rfl rfl rfl rfl rfl rfl (fun _ => rfl) (fun _ => rfl) rfl rfl rfl ⟨⟨_, rfl, .rfl⟩, ⟨_, rfl, .rfl⟩, trivial⟩ zHx rfl rfl fun r6 hr6 => ?_
     refine zAC ?_
     exact zAU (hj1 r6) ⟨rfl, rfl, rfl, rfl, rfl, rfl, trivial⟩ ⟨rfl, rfl, rfl, rfl, trivial⟩ rfl
    ·refine zAD ?_
     refine zDo (T := tab) (rows := [[99, 108, 97, 115, 115]].map cStr) 25 rfl rfl rfl rfl rfl rfl rfl rfl rfl rfl rfl rfl rfl rfl ?_
     refine zAh [5040] (enc := fun (r7 : (List Int)) => .tup []) (Sr := fun (r7 : (List Int)) => [(4, .box 64 [.nloc 4 0, .ownb 5040]), (25, .arr 9 1 ([[99, 108, 97, 115, 115]].map cStr)), (5040, .arr 5 1 (r7.map zAA))]) (first := []) (cap := []) (qs := [.loc 4 0, .own 25]) (Sc := [(4, .box 64 [.nloc 4 0, .ownb 5040]), (25, .arr 9 1 ([[99, 108, 97, 115, 115]].map cStr)), (5040, .arr 5 1 (l4.map zAA))]) (N0 := [4, 25]) (NR := [4, 25, 5040]) (fun r7 hr7 => zA5 [(900000, 4), (900001, 25), (900002, 5040)] [900000, 900001, 900002] (zA3 fu [[99, 108, 97, 115, 115]] l4 _ hr7) rfl rfl rfl rfl rfl rfl) ⟨rfl, rfl, rfl, trivial⟩ (fun _ => rfl) rfl rfl rfl rfl rfl rfl rfl (fun _ => rfl) (fun _ => rfl) rfl rfl rfl ⟨⟨_, rfl, .rfl⟩, ⟨_, rfl, .rfl⟩, trivial⟩ zHx rfl rfl fun r7 hr7 => ?_
     refine zAC ?_
     exact zAU (hj1 r7) ⟨rfl, rfl, rfl, rfl, rfl, rfl, trivial⟩ ⟨rfl, rfl, rfl, rfl, trivial⟩ rfl
  ·refine zAr rfl ?_
   refine zAB ?_
   refine sr ?_
   refine pe 2 ?_
   refine zAh [5040] (enc := fun (r25 : (List Int)) => .tup []) (Sr := fun (r25 : (List Int)) => [(4, .box 64 [.nloc 4 0, .ownb 5040]), (5040, .arr 5 1 (r25.map zAA))]) (first := []) (cap := []) (qs := [.loc 4 0, .v (.string ⟨⟨[109, 97, 105, 110]⟩⟩), .sl 7 false (s1.Main.map cOp)]) (Sc := [(4, .box 64 [.nloc 4 0, .ownb 5040]), (5040, .arr 5 1 (l4.map zAA))]) (N0 := [4]) (NR := [4, 5040]) (fun r25 hr25 => zA5 [(900000, 4), (900001, 5040)] [900000, 900001] (zB7 fu [109, 97, 105, 110] s1.Main l4 _ hr25) rfl rfl rfl rfl rfl rfl) ⟨rfl, rfl, trivial⟩ (fun _ => rfl) rfl rfl rfl rfl rfl rfl rfl (fun _ => rfl) (fun _ => rfl) rfl rfl rfl ⟨⟨_, rfl, .rfl⟩, ⟨_, rfl, .rfl⟩, ⟨_, rfl, .rfl⟩, trivial⟩ zLS rfl rfl fun r25 hr25 => ?_
   refine ns ?_
   refine zAE ?_
   refine sr ?_
   refine pe 1 ?_
   refine zDY (enc := fun (r26 : Int) => .v (.int .i64 r26)) (first := []) (cap := []) (qs := [.loc 4 0]) (Sc := [(4, .box 64 [.nloc 4 0, .ownb 5040]), (5040, .arr 5 1 (r25.map zAA))]) (fun r26 hr26 => zA5 [(900000, 4), (900001, 5040)] [900000, 900001] (zE5 fu r25 _ hr26) rfl rfl rfl rfl rfl rfl) (zBe ⟨rfl, rfl, trivial⟩ rfl) rfl rfl rfl rfl ⟨⟨_, rfl, .rfl⟩, trivial⟩ (fun _ => rfl) call29 rfl rfl fun r26 hr26 => ?_
   refine pe 1 ?_
   refine ns ?_
   refine zAR rfl ?_ ?_
   ·refine sr ?_
    refine pe 2 ?_
    refine ns ?_
    exact rN
   ·refine zAG ?_
    refine zAB ?_
    refine sr ?_
    refine pe 1 ?_
    refine zAh [] (enc := fun (r27 : Bs) => .v (.string ⟨⟨r27⟩⟩)) (Sr := fun (r27 : Bs) => [(4, .box 64 [.nloc 4 0, .junk])]) (first := []) (cap := []) (qs := [.loc 4 0]) (Sc := [(4, .box 64 [.nloc 4 0, .ownb 5040]), (5040, .arr 5 1 (r25.map zAA))]) (N0 := [4, 5040]) (NR := [4]) (fun r27 hr27 => zA5 [(900000, 4), (900001, 5040)] [900000, 900001] (zDu fu r25 _ hr27) rfl rfl rfl rfl rfl rfl) ⟨rfl, rfl, trivial⟩ (fun _ => rfl) rfl rfl rfl rfl rfl rfl rfl (fun _ => rfl) (fun _ => rfl) rfl rfl rfl ⟨⟨_, rfl, .rfl⟩, trivial⟩ zLQ rfl rfl fun r27 hr27 => ?_
    refine pe 2 ?_
    refine ns ?_
    exact rN
def zCM (fu : Nat) : Option Bool := bnd (zCN fu [99, 108, 97, 115, 115, 32, 102, 111, 114, 109, 10, 119, 97, 116, 99, 104, 32, 97, 10, 109, 97, 107, 101, 10, 115, 117, 112, 101, 114, 10, 111, 110, 32, 99, 97, 109, 101, 10, 33, 116, 104, 114, 111, 119, 10, 109, 97, 105, 110, 10, 100, 101, 102, 105, 110, 101, 32, 48, 32, 34, 120, 45, 97, 34, 32, 34, 34, 10, 63, 10]) fun r1 => bnd (zDh fu r1.1) fun r2 => cnd (r1.2 == 0) (cnd (r2.2 == 0) (cnd (r2.1 == ([99, 108, 97, 115, 115, 32, 102, 111, 114, 109, 10, 119, 97, 116, 99, 104, 32, 97, 10, 109, 97, 107, 101, 10, 115, 117, 112, 101, 114, 10, 111, 110, 32, 99, 97, 109, 101, 10, 33, 116, 104, 114, 111, 119, 10, 109, 97, 105, 110, 10, 100, 101, 102, 105, 110, 101, 32, 48, 32, 34, 120, 45, 97, 34, 32, 34, 34, 10, 63, 10] : Bs)) (cnd (((r1.1.Classes.length : Nat) : Int) == 1) (bnd (idx r1.1.Classes 0) fun y3 => cnd y3.Form (bnd (idx r1.1.Classes 0) fun y4 => cnd (((y4.Make.length : Nat) : Int) == 1) (bnd (idx r1.1.Classes 0) fun y5 => cnd (((y5.Hooks.length : Nat) : Int) == 1) (cnd (((r1.1.Main.length : Nat) : Int) == 2) (bnd (idx r1.1.Main 1) fun y6 => cnd (eqOp y6 (⟨0, 0, 0, 0, [], [], false⟩ : Op)) (bnd (zCP fu r1.1) fun r7 => some r7) (some false)) (some false)) (some false)) (some false)) (some false)) (some false)) (some false)) (some false)) (some false)
set_option maxHeartbeats 10000000 in
set_option maxRecDepth 100000 in
theorem zFg (fu : Nat) : ∀ r, zCM fu = some r → DC zAi Tryz.prog 9 [] (.v (.bool r)) := by
 intro r hr
 refine zAL (r := r)  (args := []) (S := []) (N0 := []) (post := fun r p S => p = .v (.bool r) ∧ S = []) Tryz.func9 rfl rfl hr fun w0 X X0 σ0 _ => ?_
 refine sr ?_
 refine pe 1 ?_
 refine ns ?_
 refine sr ?_
 refine zAM (enc := fun (r1 : (Script × Int)) => .tup [.agg (zDB r1.1), .v (.int .i64 r1.2)]) (qs := [.v (.string ⟨⟨[99, 108, 97, 115, 115, 32, 102, 111, 114, 109, 10, 119, 97, 116, 99, 104, 32, 97, 10, 109, 97, 107, 101, 10, 115, 117, 112, 101, 114, 10, 111, 110, 32, 99, 97, 109, 101, 10, 33, 116, 104, 114, 111, 119, 10, 109, 97, 105, 110, 10, 100, 101, 102, 105, 110, 101, 32, 48, 32, 34, 120, 45, 97, 34, 32, 34, 34, 10, 63, 10]⟩⟩)]) (zEQ fu [99, 108, 97, 115, 115, 32, 102, 111, 114, 109, 10, 119, 97, 116, 99, 104, 32, 97, 10, 109, 97, 107, 101, 10, 115, 117, 112, 101, 114, 10, 111, 110, 32, 99, 97, 109, 101, 10, 33, 116, 104, 114, 111, 119, 10, 109, 97, 105, 110, 10, 100, 101, 102, 105, 110, 101, 32, 48, 32, 34, 120, 45, 97, 34, 32, 34, 34, 10, 63, 10]) rfl rfl ⟨⟨_, rfl, .rfl⟩, trivial⟩ (fun _ => rfl) zMu rfl rfl fun r1 hr1 => ?_
 refine pe 3 ?_
 refine zBE (T := tab) 1 rfl rfl rfl rfl rfl rfl rfl rfl rfl ?_
 refine zAK (T := tab) rfl rfl rfl rfl rfl rfl rfl rfl rfl rfl rfl rfl ?_
 refine pe 1 ?_
 refine ns ?_
 refine sr ?_
 refine pe 1 ?_
 refine zAM (enc := fun (r2 : (Bs × Int)) => .tup [.v (.string ⟨⟨r2.1⟩⟩), .v (.int .i64 r2.2)]) (qs := [.agg (zDB r1.1)]) (zIk fu r1.1) rfl rfl ⟨⟨_, rfl, .rfl⟩, trivial⟩ (fun _ => rfl) call12 rfl rfl fun r2 hr2 => ?_
 refine pe 5 ?_
 refine ns ?_
 refine sr ?_
 refine pe 3 ?_
 refine zAN (j := 16) rfl ?_ ?_
 ·refine pe 4 ?_
  refine zAN (j := 20) rfl ?_ ?_
  ·refine pe 4 ?_
   refine zAN (j := 24) rfl ?_ ?_
   ·refine pe 2 ?_
    refine zCD (T := tab) zAI r1.1.Classes rfl rfl rfl rfl rfl rfl rfl rfl ?_
    refine pe 3 ?_
    refine zAN (j := 30) rfl ?_ ?_
    ·refine pe 2 ?_
     refine zCV (T := tab) zAI r1.1.Classes rfl rfl rfl rfl rfl rfl rfl fun y3 hy3 => ?_
     refine pe 4 ?_
     refine zAN (j := 37) rfl ?_ ?_
     ·refine pe 2 ?_
      refine zCV (T := tab) zAI r1.1.Classes rfl rfl rfl rfl rfl rfl rfl fun y4 hy4 => ?_
      refine pe 2 ?_
      refine zCD (T := tab) cOp y4.Make rfl rfl rfl rfl rfl rfl rfl rfl ?_
      refine pe 3 ?_
      refine zAN (j := 46) rfl ?_ ?_
      ·refine pe 2 ?_
       refine zCV (T := tab) zAI r1.1.Classes rfl rfl rfl rfl rfl rfl rfl fun y5 hy5 => ?_
       refine pe 2 ?_
       refine zCD (T := tab) zAa y5.Hooks rfl rfl rfl rfl rfl rfl rfl rfl ?_
       refine pe 3 ?_
       refine zAN (j := 55) rfl ?_ ?_
       ·refine pe 2 ?_
        refine zCD (T := tab) cOp r1.1.Main rfl rfl rfl rfl rfl rfl rfl rfl ?_
        refine pe 3 ?_
        refine zAN (j := 61) rfl ?_ ?_
        ·refine pe 2 ?_
         refine zCV (T := tab) cOp r1.1.Main rfl rfl rfl rfl rfl rfl rfl fun y6 hy6 => ?_
         refine pe 1 ?_
         refine zBI (T := tab) rfl rfl rfl rfl rfl rfl rfl ?_
         refine po_eq zNM rfl rfl rfl rfl rfl rfl rfl ?_
         refine pe 2 ?_
         refine zAN (j := 69) rfl ?_ ?_
         ·refine pe 1 ?_
          refine zAM (enc := fun (r7 : Bool) => .v (.bool r7)) (qs := [.agg (zDB r1.1)]) (zEX fu r1.1) rfl rfl ⟨⟨_, rfl, .rfl⟩, trivial⟩ (fun _ => rfl) zQj rfl rfl fun r7 hr7 => ?_
          refine pe 2 ?_
          refine ns ?_
          exact rN
         ·refine pe 4 ?_
          refine ns ?_
          exact rN
        ·refine pe 12 ?_
         refine ns ?_
         exact rN
       ·refine pe 18 ?_
        refine ns ?_
        exact rN
      ·refine pe 27 ?_
       refine ns ?_
       exact rN
     ·refine pe 36 ?_
      refine ns ?_
      exact rN
    ·refine pe 43 ?_
     refine ns ?_
     exact rN
   ·refine pe 49 ?_
    refine ns ?_
    exact rN
  ·refine pe 53 ?_
   refine ns ?_
   exact rN
 ·refine pe 57 ?_
  refine ns ?_
  exact rN
def zBk (a1 : (List Op)) (b2 : (List Op)) : Nat → Int → Option Bool
 | 0, _ => none
 | k1 + 1, i3 => cnd (decide (i3 < ((a1.length : Nat) : Int))) (bnd (idx a1 i3) fun y4 => bnd (idx b2 i3) fun y5 => cnd (!(eqOp y4 y5)) (some false) (bnd (rng .i64 (i3 + 1)) fun i6 => (zBk a1 b2 k1) i6)) (some true)
def zBR (fu : Nat) (a1 : (List Op)) (b2 : (List Op)) : Option Bool := cnd (((a1.length : Nat) : Int) != ((b2.length : Nat) : Int)) (some false) ((zBk a1 b2) fu 0)
set_option maxHeartbeats 10000000 in
set_option maxRecDepth 100000 in
theorem zEL (fu : Nat) (a1 : (List Op)) (b2 : (List Op)) : ∀ r, zBR fu a1 b2 = some r → DC zAi Tryz.prog 20 [.sl 7 false (a1.map cOp), .sl 7 false (b2.map cOp)] (.v (.bool r)) := by
 intro r hr
 refine zAL (r := r)  (args := [.sl 7 false (a1.map cOp), .sl 7 false (b2.map cOp)]) (S := []) (N0 := []) (post := fun r p S => p = .v (.bool r) ∧ S = []) Tryz.func20 rfl rfl hr fun w0 X X0 σ0 _ => ?_
 refine sr ?_
 refine pe 1 ?_
 refine ns ?_
 refine zAE ?_
 refine sr ?_
 refine pe 1 ?_
 refine zCD (T := tab) cOp a1 rfl rfl rfl rfl rfl rfl rfl rfl ?_
 refine pe 1 ?_
 refine zCD (T := tab) cOp b2 rfl rfl rfl rfl rfl rfl rfl rfl ?_
 refine pe 1 ?_
 refine ns ?_
 refine zAR rfl ?_ ?_
 ·refine sr ?_
  refine pe 1 ?_
  refine ns ?_
  exact rN
 ·refine zAG ?_
  refine zAB ?_
  refine zAE ?_
  refine sr ?_
  refine pe 1 ?_
  refine ns ?_
  refine zAP ?_
  refine zCE (zBk a1 b2) (fun (i3 : Int) => [(0, .sl 7 false (a1.map cOp)), (1, .sl 7 false (b2.map cOp)), (5, .v (.int .i64 i3))]) (fun (i3 : Int) => []) fu 0 (fun _ => rfl) ⟨rfl, rfl, rfl, trivial⟩ trivial rfl ?_
  rintro k1 i3
  refine zAE ?_
  refine sr ?_
  refine pe 2 ?_
  refine zCD (T := tab) cOp a1 rfl rfl rfl rfl rfl rfl rfl rfl ?_
  refine pe 1 ?_
  refine ns ?_
  refine zAR rfl ?_ ?_
  ·refine zAG ?_
   refine zAB ?_
   refine zAE ?_
   refine zAP ?_
   refine zAE ?_
   refine zEu mixed (by kernel_rfl) ?_
   refine zBs (T := tab) 2 rfl rfl ?_
   refine zQX (T := tab) cOp a1 rfl rfl rfl rfl rfl rfl rfl fun y4 hy4 => ?_
   refine zBs (T := tab) 3 rfl rfl ?_
   refine zQX (T := tab) cOp b2 rfl rfl rfl rfl rfl rfl rfl fun y5 hy5 => ?_
   refine zBs (T := tab) 1 rfl rfl ?_
   refine pd_ne zNM rfl rfl rfl rfl rfl rfl rfl ?_
   refine zEG ?_
   refine zAB ?_
   refine zAR rfl ?_ ?_
   ·refine sr ?_
    refine pe 1 ?_
    refine ns ?_
    exact rN
   ·refine zAG ?_
    refine zAJ ?_
    refine zAB ?_
    refine zAD ?_
    refine pe 1 ?_
    refine zAV (T := tab) rfl rfl rfl rfl fun i6 hi6 => ?_
    refine pe 1 ?_
    refine zAC ?_
    exact zBX i6 ⟨rfl, rfl, rfl, trivial⟩ trivial rfl
  ·refine zAr rfl ?_
   refine zAB ?_
   refine sr ?_
   refine pe 1 ?_
   refine ns ?_
   exact rN
def zBQ (s1 : Bs) : Nat → Int → Option Bool
 | 0, _ => none
 | k1 + 1, i2 => cnd (decide (i2 < 6)) (bnd (idx ([[99, 108, 97, 115, 115], [119, 97, 116, 99, 104], [112, 101, 101, 107], [109, 97, 107, 101], [111, 110], [109, 97, 105, 110]] : List Bs) i2) fun y3 => cnd (decide (((s1.length : Nat) : Int) ≥ ((y3.length : Nat) : Int))) (bnd (zC6 s1 0 ((y3.length : Nat) : Int)) fun s4 => cnd (s4 == y3) (some true) (bnd (rng .i64 (i2 + 1)) fun i5 => (zBQ s1 k1) i5)) (bnd (rng .i64 (i2 + 1)) fun i6 => (zBQ s1 k1) i6)) (some false)
def zCU (fu : Nat) (s1 : Bs) : Option Bool := (zBQ s1) fu 0
set_option maxHeartbeats 10000000 in
set_option maxRecDepth 100000 in
theorem zFw (fu : Nat) (s1 : Bs) : ∀ r, zCU fu s1 = some r → DC zAi Tryz.prog 18 [.v (.string ⟨⟨s1⟩⟩)] (.v (.bool r)) := by
 intro r hr
 refine zAL (r := r)  (args := [.v (.string ⟨⟨s1⟩⟩)]) (S := []) (N0 := []) (post := fun r p S => p = .v (.bool r) ∧ S = []) Tryz.func18 rfl rfl hr fun w0 X X0 σ0 _ => ?_
 refine sr ?_
 refine pe 1 ?_
 refine ns ?_
 refine sr ?_
 refine zNa (T := tab) (N := 6) (e := 9) rfl rfl (by kernel_rfl) rfl rfl rfl rfl rfl ?_
 refine zBE (T := tab) 3 rfl rfl rfl rfl rfl rfl rfl rfl rfl ?_
 refine zAK (T := tab) rfl rfl rfl rfl rfl rfl rfl rfl rfl rfl rfl rfl ?_
 refine ns ?_
 refine zAE ?_
 refine sr ?_
 refine pe 1 ?_
 refine ns ?_
 refine zAP ?_
 refine zCE (zBQ s1) (fun (i2 : Int) => [(0, .v (.string ⟨⟨s1⟩⟩)), (3, .loc 3 0), (4, .v (.int .i64 i2))]) (fun (i2 : Int) => [(3, .box 94 [.v (.string ⟨⟨[99, 108, 97, 115, 115]⟩⟩), .v (.string ⟨⟨[119, 97, 116, 99, 104]⟩⟩), .v (.string ⟨⟨[112, 101, 101, 107]⟩⟩), .v (.string ⟨⟨[109, 97, 107, 101]⟩⟩), .v (.string ⟨⟨[111, 110]⟩⟩), .v (.string ⟨⟨[109, 97, 105, 110]⟩⟩)])]) fu 0 (fun _ => rfl) ⟨rfl, rfl, rfl, trivial⟩ ⟨rfl, trivial⟩ rfl ?_
 rintro k1 i2
 refine zAE ?_
 refine sr ?_
 refine pe 2 ?_
 refine ns ?_
 refine zAR rfl ?_ ?_
 ·refine zAG ?_
  refine zAB ?_
  refine zAE ?_
  refine zAP ?_
  refine sr ?_
  refine pe 1 ?_
  refine zNK (T := tab) (N := 6) (e := 9) ([[99, 108, 97, 115, 115], [119, 97, 116, 99, 104], [112, 101, 101, 107], [109, 97, 107, 101], [111, 110], [109, 97, 105, 110]] : List Bs) rfl rfl rfl rfl (by kernel_rfl) rfl rfl rfl rfl fun y3 hy3 => ?_
  refine zML (T := tab) ([[99, 108, 97, 115, 115], [119, 97, 116, 99, 104], [112, 101, 101, 107], [109, 97, 107, 101], [111, 110], [109, 97, 105, 110]] : List Bs) (zL2 hy3) rfl rfl rfl rfl rfl rfl rfl ?_
  refine pe 1 ?_
  refine ns ?_
  refine sr ?_
  refine pe 6 ?_
  refine zAN (j := 19) rfl ?_ ?_
  ·refine pe 3 ?_
   refine zGt (T := tab) rfl rfl rfl rfl rfl rfl rfl rfl fun s4 hs4 => ?_
   refine pe 3 ?_
   refine ns ?_
   refine zAR rfl ?_ ?_
   ·refine sr ?_
    refine pe 1 ?_
    refine ns ?_
    exact rN
   ·refine zAG ?_
    refine zAJ ?_
    refine zAB ?_
    refine zAD ?_
    refine pe 1 ?_
    refine zAV (T := tab) rfl rfl rfl rfl fun i5 hi5 => ?_
    refine pe 1 ?_
    refine zAC ?_
    exact zBX i5 ⟨rfl, rfl, rfl, trivial⟩ ⟨rfl, trivial⟩ rfl
  ·refine pe 7 ?_
   refine zAC ?_
   refine zAB (zAx rfl ?_)
   refine zAG ?_
   refine zAJ ?_
   refine zAB ?_
   refine zAD ?_
   refine pe 1 ?_
   refine zAV (T := tab) rfl rfl rfl rfl fun i6 hi6 => ?_
   refine pe 1 ?_
   refine zAC ?_
   exact zBX i6 ⟨rfl, rfl, rfl, trivial⟩ ⟨rfl, trivial⟩ rfl
 ·refine zAr rfl ?_
  refine zAB ?_
  refine sr ?_
  refine pe 1 ?_
  refine ns ?_
  exact rN
def zAn (fu : Nat) (l1 : (List Bs)) (i3 : Int) (s4 : Bs) (l5 : (List Op)) (rc1 : (Int × Bs × (List Op)) → Option Bool) (bad17 : Bool) : Option Bool := cnd bad17 (bnd (rng .i64 (i3 + 1)) fun i23 => rc1 (i23, s4, l5)) (bnd (idx l1 i3) fun y18 => bnd (cat y18 ([10] : Bs)) fun s19 => bnd (cat s4 s19) fun s20 => bnd (idx l1 i3) fun y21 => bnd (zBt fu y21) fun r22 => bnd (zED 72 (l5.length + ([r22.1] : List Op).length)) fun _ => bnd (rng .i64 (i3 + 1)) fun i24 => rc1 (i24, s20, (l5 ++ [r22.1])))
def zAd (fu : Nat) (l1 : (List Bs)) (i3 : Int) (s4 : Bs) (l5 : (List Op)) (rc1 : (Int × Bs × (List Op)) → Option Bool) : Nat → Bool × Int → Option Bool
 | 0, _ => none
 | k2 + 1, (bad11, k12) => bnd (idx l1 i3) fun y13 => cnd (decide (k12 < ((y13.length : Nat) : Int))) (cnd (!bad11) (bnd (idx l1 i3) fun y14 => bnd (chr y14 k12) fun b15 => bnd (rng .i64 (k12 + 1)) fun i16 => (zAd fu l1 i3 s4 l5 rc1 k2) ((b15 == 10), i16)) ((zAn fu l1 i3 s4 l5 rc1) bad11)) ((zAn fu l1 i3 s4 l5 rc1) bad11)
def zAo (fu : Nat) (l1 : (List Bs)) (i3 : Int) (s4 : Bs) (l5 : (List Op)) (rc1 : (Int × Bs × (List Op)) → Option Bool) (bad10 : Bool) : Option Bool := (zAd fu l1 i3 s4 l5 rc1) fu (bad10, 0)
def zBK (fu : Nat) (x_ : Bs × (List Op)) : Option Bool := match x_ with
 | (s25, l26) => bnd (zCN fu s25) fun r27 => cnd (decide (((s25.length : Nat) : Int) > 16384)) (some (r27.2 == 3)) (bnd (cat ([99, 108, 97, 115, 115, 10, 109, 97, 105, 110, 10] : Bs) s25) fun s28 => bnd (zCN fu s28) fun r29 => cnd (r27.2 == 0) (cnd (((r27.1.Classes.length : Nat) : Int) == 0) (bnd (zBR fu r27.1.Main l26) fun r30 => cnd r30 (cnd (r29.2 == 0) (cnd (((r29.1.Classes.length : Nat) : Int) == 1) (bnd (zBR fu r29.1.Main l26) fun r31 => cnd r31 (some true) (some (decide (((s25.length : Nat) : Int) > 16373)))) (some (decide (((s25.length : Nat) : Int) > 16373)))) (some (decide (((s25.length : Nat) : Int) > 16373)))) (some false)) (some false)) (some false))
def zAS (fu : Nat) (l1 : (List Bs)) : Nat → Int × Bs × (List Op) → Option Bool
 | 0, _ => none
 | k1 + 1, (i3, s4, l5) => cnd (decide (i3 < ((l1.length : Nat) : Int))) (cnd (decide (i3 < 300)) (bnd (idx l1 i3) fun y6 => cnd (((y6.length : Nat) : Int) == 0) ((zAo fu l1 i3 s4 l5 (zAS fu l1 k1)) true) (bnd (idx l1 i3) fun y7 => cnd (decide (((y7.length : Nat) : Int) > 300)) ((zAo fu l1 i3 s4 l5 (zAS fu l1 k1)) true) (bnd (idx l1 i3) fun y8 => bnd (zCU fu y8) fun r9 => (zAo fu l1 i3 s4 l5 (zAS fu l1 k1)) r9))) ((zBK fu) (s4, l5))) ((zBK fu) (s4, l5))
def zA7 (fu : Nat) (l1 : (List Bs)) : Option Bool := bnd (zCM fu) fun r2 => cnd (!r2) (some false) ((zAS fu l1) fu (0, [], []))
set_option maxHeartbeats 10000000 in
set_option maxRecDepth 100000 in
theorem zEP (fu : Nat) (l1 : (List Bs)) : ∀ r, zA7 fu l1 = some r → DC zAi Tryz.prog 6 [.sl 1 false (l1.map cStr)] (.v (.bool r)) := by
 intro r hr
 refine zAL (r := r)  (args := [.sl 1 false (l1.map cStr)]) (S := []) (N0 := []) (post := fun r p S => p = .v (.bool r) ∧ S = []) Tryz.func6 rfl rfl hr fun w0 X X0 σ0 _ => ?_
 refine sr ?_
 refine pe 1 ?_
 refine ns ?_
 refine zAE ?_
 refine sr ?_
 refine zAM (enc := fun (r2 : Bool) => .v (.bool r2)) (qs := []) (zFg fu) rfl rfl trivial (fun _ => rfl) call9 rfl rfl fun r2 hr2 => ?_
 refine pe 1 ?_
 refine ns ?_
 refine zAR rfl ?_ ?_
 ·refine sr ?_
  refine pe 1 ?_
  refine ns ?_
  exact rN
 ·refine zAG ?_
  refine zAB ?_
  refine sr ?_
  refine pe 1 ?_
  refine ns ?_
  refine sr ?_
  refine pe 1 ?_
  refine ns ?_
  refine zAE ?_
  refine sr ?_
  refine pe 1 ?_
  refine ns ?_
  refine zBl (zBK fu) (fun ((s25, l26) : Bs × (List Op)) => [(3, .v (.string ⟨⟨s25⟩⟩)), (4, .own 1086)]) (fun ((s25, l26) : Bs × (List Op)) => [(1086, .arr 43 7 (l26.map cOp))]) ?_ fun hj3 => ?_
  ·rintro ⟨s25, l26⟩
   refine zAB ?_
   refine sr ?_
   refine pe 1 ?_
   refine zAM (enc := fun (r27 : (Script × Int)) => .tup [.agg (zDB r27.1), .v (.int .i64 r27.2)]) (qs := [.v (.string ⟨⟨s25⟩⟩)]) (zEQ fu s25) rfl rfl ⟨⟨_, rfl, .rfl⟩, trivial⟩ (fun _ => rfl) zMu rfl rfl fun r27 hr27 => ?_
   refine pe 3 ?_
   refine zBE (T := tab) 10 rfl rfl rfl rfl rfl rfl rfl rfl rfl ?_
   refine zAK (T := tab) rfl rfl rfl rfl rfl rfl rfl rfl rfl rfl rfl rfl ?_
   refine pe 1 ?_
   refine ns ?_
   refine zAE ?_
   refine sr ?_
   refine pe 3 ?_
   refine ns ?_
   refine zAR rfl ?_ ?_
   ·refine sr ?_
    refine pe 3 ?_
    refine ns ?_
    exact rN
   ·refine zAG ?_
    refine zAB ?_
    refine sr ?_
    refine pe 1 ?_
    refine zIZ rfl rfl rfl rfl rfl rfl fun s28 hs28 => ?_
    refine zAM (enc := fun (r29 : (Script × Int)) => .tup [.agg (zDB r29.1), .v (.int .i64 r29.2)]) (qs := [.v (.string ⟨⟨s28⟩⟩)]) (zEQ fu s28) rfl rfl ⟨⟨_, rfl, .rfl⟩, trivial⟩ (fun _ => rfl) zMu rfl rfl fun r29 hr29 => ?_
    refine pe 3 ?_
    refine zBE (T := tab) 12 rfl rfl rfl rfl rfl rfl rfl rfl rfl ?_
    refine zAK (T := tab) rfl rfl rfl rfl rfl rfl rfl rfl rfl rfl rfl rfl ?_
    refine pe 1 ?_
    refine ns ?_
    refine sr ?_
    refine pe 3 ?_
    refine zAN (j := 105) rfl ?_ ?_
    ·refine pe 2 ?_
     refine zCD (T := tab) zAI r27.1.Classes rfl rfl rfl rfl rfl rfl rfl rfl ?_
     refine pe 3 ?_
     refine zAN (j := 111) rfl ?_ ?_
     ·refine pe 3 ?_
      refine zD8 1086 rfl rfl rfl ?_
      refine zAM (enc := fun (r30 : Bool) => .v (.bool r30)) (qs := [.sl 7 false (r27.1.Main.map cOp), .sl 7 false (l26.map cOp)]) (zEL fu r27.1.Main l26) rfl rfl ⟨⟨_, rfl, .rfl⟩, ⟨_, rfl, .rfl⟩, trivial⟩ (fun _ => rfl) zQu rfl rfl fun r30 hr30 => ?_
      refine pe 2 ?_
      refine zAN (j := 117) rfl ?_ ?_
      ·refine pe 3 ?_
       refine zAN (j := 120) rfl ?_ ?_
       ·refine pe 2 ?_
        refine zCD (T := tab) zAI r29.1.Classes rfl rfl rfl rfl rfl rfl rfl rfl ?_
        refine pe 3 ?_
        refine zAN (j := 126) rfl ?_ ?_
        ·refine pe 3 ?_
         refine zAM (enc := fun (r31 : Bool) => .v (.bool r31)) (qs := [.sl 7 false (r29.1.Main.map cOp), .sl 7 false (l26.map cOp)]) (zEL fu r29.1.Main l26) rfl rfl ⟨⟨_, rfl, .rfl⟩, ⟨_, rfl, .rfl⟩, trivial⟩ (fun _ => rfl) zQu rfl rfl fun r31 hr31 => ?_
         refine pe 2 ?_
         refine zAN (j := 132) rfl ?_ ?_
         ·refine pe 6 ?_
          refine ns ?_
          exact rN
         ·refine pe 6 ?_
          refine ns ?_
          exact rN
        ·refine pe 12 ?_
         refine ns ?_
         exact rN
       ·refine pe 18 ?_
        refine ns ?_
        exact rN
      ·refine pe 21 ?_
       refine ns ?_
       exact rN
     ·refine pe 27 ?_
      refine ns ?_
      exact rN
    ·refine pe 33 ?_
     refine ns ?_
     exact rN
  ·refine zAP ?_
   refine zMg 1086 43 7 4 rfl rfl rfl rfl ?_
   refine zCE (zAS fu l1) (fun ((i3, s4, l5) : Int × Bs × (List Op)) => [(0, .sl 1 false (l1.map cStr)), (3, .v (.string ⟨⟨s4⟩⟩)), (4, .own 1086), (5, .v (.int .i64 i3))]) (fun ((i3, s4, l5) : Int × Bs × (List Op)) => [(1086, .arr 43 7 (l5.map cOp))]) fu (0, [], []) (fun _ => rfl) ⟨rfl, rfl, rfl, rfl, trivial⟩ ⟨rfl, trivial⟩ rfl ?_
   rintro k1 ⟨i3, s4, l5⟩
   refine zAE ?_
   refine sr ?_
   refine pe 2 ?_
   refine zCD (T := tab) cStr l1 rfl rfl rfl rfl rfl rfl rfl rfl ?_
   refine pe 2 ?_
   refine zAN (j := 20) rfl ?_ ?_
   ·refine pe 3 ?_
    refine ns ?_
    refine zAR rfl ?_ ?_
    ·refine zAG ?_
     refine zAB ?_
     refine zAE ?_
     refine zAP ?_
     refine sr ?_
     refine zP1 (zAo fu l1 i3 s4 l5 (zAS fu l1 k1)) (fun (bad10 : Bool) => [(0, .sl 1 false (l1.map cStr)), (3, .v (.string ⟨⟨s4⟩⟩)), (4, .own 1086), (5, .v (.int .i64 i3)), (6, .v (.bool bad10))]) (fun (bad10 : Bool) => [(1086, .arr 43 7 (l5.map cOp))]) ?_ fun hj1 => ?_
     ·rintro bad10
      refine zAB ?_
      refine zAE ?_
      refine sr ?_
      refine pe 1 ?_
      refine ns ?_
      refine zBl (zAn fu l1 i3 s4 l5 (zAS fu l1 k1)) (fun (bad17 : Bool) => [(0, .sl 1 false (l1.map cStr)), (3, .v (.string ⟨⟨s4⟩⟩)), (4, .own 1086), (5, .v (.int .i64 i3)), (6, .v (.bool bad17))]) (fun (bad17 : Bool) => [(1086, .arr 43 7 (l5.map cOp))]) ?_ fun hj2 => ?_
      ·rintro bad17
       refine zAB ?_
       refine zAE ?_
       refine sr ?_
       refine pe 1 ?_
       refine ns ?_
       refine zAR rfl ?_ ?_
       ·refine zAr rfl ?_
        refine zAB ?_
        refine zAD ?_
        refine pe 1 ?_
        refine zAV (T := tab) rfl rfl rfl rfl fun i23 hi23 => ?_
        refine pe 1 ?_
        refine zAC ?_
        exact zBX (i23, s4, l5) ⟨rfl, rfl, rfl, rfl, trivial⟩ ⟨rfl, trivial⟩ rfl
       ·refine zAG ?_
        refine zAB ?_
        refine sr ?_
        refine pe 3 ?_
        refine zCV (T := tab) cStr l1 rfl rfl rfl rfl rfl rfl rfl fun y18 hy18 => ?_
        refine pe 1 ?_
        refine zIZ rfl rfl rfl rfl rfl rfl fun s19 hs19 => ?_
        refine zIZ rfl rfl rfl rfl rfl rfl fun s20 hs20 => ?_
        refine pe 1 ?_
        refine ns ?_
        refine sr ?_
        refine pe 2 ?_
        refine zCV (T := tab) cStr l1 rfl rfl rfl rfl rfl rfl rfl fun y21 hy21 => ?_
        refine pe 1 ?_
        refine zAM (enc := fun (r22 : (Op × Int)) => .tup [.agg (cOp r22.1), .v (.int .i64 r22.2)]) (qs := [.v (.string ⟨⟨y21⟩⟩)]) (zEW fu y21) rfl rfl ⟨⟨_, rfl, .rfl⟩, trivial⟩ (fun _ => rfl) zJ7 rfl rfl fun r22 hr22 => ?_
        refine pe 3 ?_
        refine zBE (T := tab) 8 rfl rfl rfl rfl rfl rfl rfl rfl rfl ?_
        refine zAK (T := tab) rfl rfl rfl rfl rfl rfl rfl rfl rfl rfl rfl rfl ?_
        refine pe 1 ?_
        refine ns ?_
        refine zAD ?_
        refine pe 2 ?_
        refine zDo (T := tab) (rows := [r22.1].map cOp) 85 rfl rfl rfl rfl rfl rfl rfl rfl rfl rfl rfl rfl rfl rfl ?_
        refine zDb (T := tab) cOp l5 ([r22.1] : List Op) rfl rfl rfl rfl rfl rfl rfl rfl rfl rfl rfl rfl rfl rfl (zHq _) rfl rfl rfl rfl rfl ?_
        refine pe 1 ?_
        refine zAC ?_
        refine zAJ ?_
        refine zAB ?_
        refine zAD ?_
        refine pe 1 ?_
        refine zAV (T := tab) rfl rfl rfl rfl fun i24 hi24 => ?_
        refine pe 1 ?_
        refine zAC ?_
        exact zBX (i24, s20, (l5 ++ [r22.1])) ⟨rfl, rfl, rfl, rfl, trivial⟩ ⟨rfl, trivial⟩ rfl
      ·refine zAP ?_
       refine zCE (zAd fu l1 i3 s4 l5 (zAS fu l1 k1)) (fun ((bad11, k12) : Bool × Int) => [(0, .sl 1 false (l1.map cStr)), (3, .v (.string ⟨⟨s4⟩⟩)), (4, .own 1086), (5, .v (.int .i64 i3)), (6, .v (.bool bad11)), (7, .v (.int .i64 k12))]) (fun ((bad11, k12) : Bool × Int) => [(1086, .arr 43 7 (l5.map cOp))]) fu (bad10, 0) (fun _ => rfl) ⟨rfl, rfl, rfl, rfl, rfl, rfl, trivial⟩ ⟨rfl, trivial⟩ rfl ?_
       rintro k2 ⟨bad11, k12⟩
       refine zAE ?_
       refine sr ?_
       refine pe 3 ?_
       refine zCV (T := tab) cStr l1 rfl rfl rfl rfl rfl rfl rfl fun y13 hy13 => ?_
       refine pe 4 ?_
       refine zAN (j := 54) rfl ?_ ?_
       ·refine pe 3 ?_
        refine ns ?_
        refine zAR rfl ?_ ?_
        ·refine zAG ?_
         refine zAB ?_
         refine zAE ?_
         refine zAP ?_
         refine zAD ?_
         refine pe 2 ?_
         refine zCV (T := tab) cStr l1 rfl rfl rfl rfl rfl rfl rfl fun y14 hy14 => ?_
         refine pe 2 ?_
         refine zCn (T := tab) (s := y14) rfl rfl rfl rfl rfl rfl rfl fun b15 hb15 => ?_
         refine pe 2 ?_
         refine zAC ?_
         refine zAJ ?_
         refine zAB ?_
         refine zAD ?_
         refine pe 1 ?_
         refine zAV (T := tab) rfl rfl rfl rfl fun i16 hi16 => ?_
         refine pe 1 ?_
         refine zAC ?_
         exact zBX ((b15 == 10), i16) ⟨rfl, rfl, rfl, rfl, rfl, rfl, trivial⟩ ⟨rfl, trivial⟩ rfl
        ·refine zAr rfl ?_
         exact zAU (hj2 bad11) ⟨rfl, rfl, rfl, rfl, rfl, trivial⟩ ⟨rfl, trivial⟩ rfl
       ·refine pe 3 ?_
        refine zAC ?_
        refine zAB (zAx rfl ?_)
        refine zAr rfl ?_
        exact zAU (hj2 bad11) ⟨rfl, rfl, rfl, rfl, rfl, trivial⟩ ⟨rfl, trivial⟩ rfl
     ·refine pe 2 ?_
      refine zCV (T := tab) cStr l1 rfl rfl rfl rfl rfl rfl rfl fun y6 hy6 => ?_
      refine pe 4 ?_
      refine zAN (j := 32) rfl ?_ ?_
      ·refine pe 15 ?_
       refine zAC ?_
       exact zAU (hj1 true) ⟨rfl, rfl, rfl, rfl, rfl, trivial⟩ ⟨rfl, trivial⟩ rfl
      ·refine pe 2 ?_
       refine zCV (T := tab) cStr l1 rfl rfl rfl rfl rfl rfl rfl fun y7 hy7 => ?_
       refine pe 5 ?_
       refine zAN (j := 40) rfl ?_ ?_
       ·refine pe 7 ?_
        refine zAC ?_
        exact zAU (hj1 true) ⟨rfl, rfl, rfl, rfl, rfl, trivial⟩ ⟨rfl, trivial⟩ rfl
       ·refine pe 2 ?_
        refine zCV (T := tab) cStr l1 rfl rfl rfl rfl rfl rfl rfl fun y8 hy8 => ?_
        refine pe 1 ?_
        refine zAM (enc := fun (r9 : Bool) => .v (.bool r9)) (qs := [.v (.string ⟨⟨y8⟩⟩)]) (zFw fu y8) rfl rfl ⟨⟨_, rfl, .rfl⟩, trivial⟩ (fun _ => rfl) call18 rfl rfl fun r9 hr9 => ?_
        refine pe 2 ?_
        refine zAC ?_
        exact zAU (hj1 r9) ⟨rfl, rfl, rfl, rfl, rfl, trivial⟩ ⟨rfl, trivial⟩ rfl
    ·refine zAr rfl ?_
     exact zAU (hj3 (s4, l5)) ⟨rfl, rfl, trivial⟩ ⟨rfl, trivial⟩ rfl
   ·refine pe 3 ?_
    refine zAC ?_
    refine zAB (zAx rfl ?_)
    refine zAr rfl ?_
    exact zAU (hj3 (s4, l5)) ⟨rfl, rfl, trivial⟩ ⟨rfl, trivial⟩ rfl
end Go.Proofs.YtoboimmgglnjfaaGreatDoor
