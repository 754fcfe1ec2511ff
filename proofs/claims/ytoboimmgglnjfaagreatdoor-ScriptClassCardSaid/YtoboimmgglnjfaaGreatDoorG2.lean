/- Models and proofs, printed by emit2.py. -/
import Derived.Test.YtoboimmgglnjfaaGreatDoorG1
namespace Go.Proofs.YtoboimmgglnjfaaGreatDoor
open Go Go.Pw
set_option maxRecDepth 100000
set_option maxHeartbeats 10000000
set_option linter.unusedVariables false
theorem zD8 (fu:Nat) (s1:Bs):∀r,zCB fu s1=some r->DC zAh Tryz.prog 15 [D s1] (.tup [.agg (zHR r.1),Y r.2]):=by
 refine fcI Tryz.func15 Z fun w0 X X0 σ0 _=>sr ?_
 refine zA4 (T:=tab) 2 Z Z Z Z Z Z Z Z Z ?_
 refine zA4 (T:=tab) 3 Z Z Z Z Z Z Z Z Z ?_
 refine ns (zAD (sr (pq 3 Z (ns ?_))))
 refine zAN Z ?_ ?_
 ·refine sr ?_
  refine zAi (T:=tab) Z Z Z Z Z Z Z ?_
  refine zAI (T:=tab) Z Z Z Z Z Z Z Z Z Z Z Z ?_
  refine zAI (T:=tab) Z Z Z Z Z Z Z Z Z Z Z Z ?_
  refine ns ?_
  refine zDy 2 [.sl 5 false ([].map zAL),.sl 7 false ([].map cOp)] Z ⟨.nil,.nil,trivial⟩ Z ?_
  exact rN
 ·refine zAE (zAA (sr ?_))
  refine zAi (T:=tab) Z Z Z Z Z Z Z ?_
  refine zE8  13 Z Z Z Z Z Z Z Z Z Z ?_
  refine zCn 5130 51 5 13 0 Z Z Z Z Z Z ?_
  refine zCn 5131 43 7 13 1 Z Z Z Z Z Z ?_
  refine zEW 5132 9 1 Z Z Z ?_
  refine zEW 5133 43 7 Z Z Z ?_
  refine zEW 5134 43 7 Z Z Z ?_
  refine zEW 5135 54 2 Z Z Z ?_
  refine zEW 5136 43 7 Z Z Z ?_
  refine zOM 5135 [Y 0,.own 5136] Z Z Z Z ?_
  refine zOM 5130 [O false,.own 5132,.own 5133,.own 5134,.own 5135] Z Z Z Z ?_
  refine zA4 (T:=tab) 4 Z Z Z Z Z Z Z Z Z ?_
  refine zAI (T:=tab) Z Z Z Z Z Z Z Z Z Z Z Z ?_
  refine ns (zAD ?_)
  refine su [(0,D s1),(2,.loc 2 0),(3,.loc 3 0),(4,.loc 4 0)] [(4,.box 77 [.loc 13 0]),(5136,.arr 43 7 (([]:List Op).map cOp)),(5135,.box 54 [pfx 2 (([]:List Hook).map zAX) false,Y 0,.own 5136]),(5134,.arr 43 7 (([]:List Op).map cOp)),(5133,.arr 43 7 (([]:List Op).map cOp)),(5132,.arr 9 1 (([]:List Bs).map cStr)),(5131,.arr 43 7 (([]:List Op).map cOp)),(5130,.box 51 [pfx 5 (([]:List Class).map zAL) false,O false,.own 5132,.own 5133,.own 5134,.own 5135]),(13,.box 80 [.own 5130,.own 5131,.v (.pointer none),Y 0]),(3,.box 28 [Y 0]),(2,.box 25 [.v (.slice none 0 0),.v (.slice none 0 0)])] ?_
  refine zBE [0,0,2,6,14,31] mixed (by kernel_rfl) (by kernel_rfl) Z Z ?_
  refine vf [8,9] [28] [] [4,13] [4] [(14,.loc 13 0)] [(4,.box 77 [.loc 13 0])] ?_
  refine vf [8,9] [30] [] [4,13] [4] [(15,.loc 13 0)] [(4,.box 77 [.loc 13 0])] ?_
  refine ve [30] [32] [13] [(16,.loc 13 0)] ?_
  refine ve [32] [34] [13] [(17,.loc 13 0)] ?_
  refine ve [34] [36] [13] [(18,.loc 13 1)] ?_
  refine vt (zBL fu 300) [(38,[]),(27,[5130,5131,13])] [27,28,36,10261,10263,10265,10267,10269,10271,10273] [38,27] [] [13,5130,5131,5132,5133,5134,5135,5136] [5130,5131,5132,5133,5134,5135,5136] (fun r2=>[(19,O r2.1)]) (fun r2=>[(13,.box 80 [.own 5130,.own 5131,.loc 13 1,Y r2.2]),(5130,.box 51 [pfx 5 (([]:List Class).map zAL) false,O false,.own 5132,.own 5133,.own 5134,.own 5135]),(5131,.arr 43 7 (([]:List Op).map cOp)),(5132,.arr 9 1 (([]:List Bs).map cStr)),(5133,.arr 43 7 (([]:List Op).map cOp)),(5134,.arr 43 7 (([]:List Op).map cOp)),(5135,.box 54 [pfx 2 (([]:List Hook).map zAX) false,Y 0,.own 5136]),(5136,.arr 43 7 (([]:List Op).map cOp))]) Z Z (fun _=>Z) (fun w0 X X0 σ0 _=>by refine tu [] (enc:=fun (r2:(Bool×Int))=>O r2.1) (Sr:=fun (r2:(Bool×Int))=>[(13,.box 80 [.own 5130,.own 5131,.loc 13 1,Y r2.2]),(5130,.box 51 [pfx 5 (([]:List Class).map zAL) false,O false,.own 5132,.own 5133,.own 5134,.own 5135]),(5131,.arr 43 7 (([]:List Op).map cOp)),(5132,.arr 9 1 (([]:List Bs).map cStr)),(5133,.arr 43 7 (([]:List Op).map cOp)),(5134,.arr 43 7 (([]:List Op).map cOp)),(5135,.box 54 [pfx 2 (([]:List Hook).map zAX) false,Y 0,.own 5136]),(5136,.arr 43 7 (([]:List Op).map cOp))]) (qs:=[.loc 13 0,.loc 13 1,Y 300]) (Sc:=[(13,.box 80 [.own 5130,.own 5131,.v (.pointer none),Y 0]),(5130,.box 51 [pfx 5 (([]:List Class).map zAL) false,O false,.own 5132,.own 5133,.own 5134,.own 5135]),(5131,.arr 43 7 (([]:List Op).map cOp)),(5132,.arr 9 1 (([]:List Bs).map cStr)),(5133,.arr 43 7 (([]:List Op).map cOp)),(5134,.arr 43 7 (([]:List Op).map cOp)),(5135,.box 54 [pfx 2 (([]:List Hook).map zAX) false,Y 0,.own 5136]),(5136,.arr 43 7 (([]:List Op).map cOp))]) (N1:=[13,5130,5131,5132,5133,5134,5135,5136]) (NR:=[13,5130,5131,5132,5133,5134,5135,5136]) (fun r2 hr2=>fr [(900000,13),(900001,5130),(900002,5131),(900003,5132),(900004,5133),(900005,5134),(900006,5135),(900007,5136)] [900000,900001,900002,900003,900004,900005,900006,900007] (zEy fu 300 0 (([]:List Class),false) false ([]:List Op) ([]:List Bs) ([]:List Op) ([]:List Op) (([]:List Hook),false) 0 ([]:List Op) _ hr2)) zH3 Z Z Z Z Z Z Z Z fun r2 hr2=>?_;exact pz) fun r2 hr2=>?_
  refine zBd Z Z ?_
  refine zAA (zAD (sr (pq 1 Z ?_)))
  refine zOJ (n:=3021) tab Tryz.func39 Z Z Z Z Z Z Z Z Z Z Z Z ⟨⟨_,Z,.rfl⟩,trivial⟩ call39 Z Z ?_
  refine ns (zAP ?_)
  refine zDy 13 [.own 5130,.own 5131,.sel 0 [.loc 13 1,.ela 5130 5 (([]:List Class).length) 2,.ela 5130 5 (([]:List Class).length) 3,.ela 5135 2 (([]:List Hook).length) 1],Y r2.2] Z ⟨.rfl,.rfl,(.sel Z Z),.rfl,trivial⟩ Z ?_
  refine zRi fun hfits=>?_
  obtain ⟨lr1,lmid,lhb,lhcut⟩:=zKV fu
  refine zPq (T:=tab) (s:=s1) (x0:=(0,r2.2,(([]:List Class),false),false,([]:List Bs),([]:List Op),([]:List Op),(([]:List Hook),false),0,([]:List Op),([]:List Op))) (n:=3021) (tI:=3) (tB:=4) (tF:=41) (M:=(zBB fu)) (Sf:=fun ((k3,c4,c5,c6,l7,l8,l9,c10,c11,l12,l13):Nat×Int×(List Class×Bool)×Bool×(List Bs)×(List Op)×(List Op)×(List Hook×Bool)×Int×(List Op)×(List Op))=>[(13,.box 80 [.own 5130,.own 5131,.sel k3 [.loc 13 1,.ela 5130 5 (c5.1.length) 2,.ela 5130 5 (c5.1.length) 3,.ela 5135 2 (c10.1.length) 1],Y c4]),(5130,.box 51 [pfx 5 (c5.1.map zAL) c5.2,O c6,.own 5132,.own 5133,.own 5134,.own 5135]),(5131,.arr 43 7 (l13.map cOp)),(5132,.arr 9 1 (l7.map cStr)),(5133,.arr 43 7 (l8.map cOp)),(5134,.arr 43 7 (l9.map cOp)),(5135,.box 54 [pfx 2 (c10.1.map zAX) c10.2,Y c11,.own 5136]),(5136,.arr 43 7 (l12.map cOp)),(4,.box 77 [.loc 13 0]),(3,.box 28 [Y 0]),(2,.box 25 [.v (.slice none 0 0),.v (.slice none 0 0)])]) (SR:=fun r:(Script×Int)=>[(2,.box 25 [.sl 5 false (r.1.Classes.map zAL),.sl 7 false (r.1.Main.map cOp)]),(3,.box 28 [Y r.2])]) (N1:=[2,3,4]) (E0:=[(2,.loc 2 0),(3,.loc 3 0),(4,.loc 4 0)]) (E1:=fun y14=>[(2,.loc 2 0),(3,.loc 3 0),(4,.loc 4 0),(22,D y14),(5,D y14)]) hfits Tryz.func73 lhb Z Z call73 Z Z lhcut Z Z ⟨Z,Z,Z,trivial⟩ Z Z ⟨Z,Z,Z,Z,Z,Z,Z,Z,Z,Z,Z,trivial⟩ Z Z Z Z ?_ ?_ ?_ ?_
  ·rintro y14 ⟨k3,c4,c5,c6,l7,l8,l9,c10,c11,l12,l13⟩ w0 X X0 σ0 _ _
   refine pq 1 Z (zAH ?_)
   exact zI9 ⟨Z,Z,Z,Z,Z,trivial⟩ ⟨Z,Z,Z,Z,Z,Z,Z,Z,Z,Z,Z,trivial⟩ Z
  ·rintro y14 ys15 ⟨k3,c4,c5,c6,l7,l8,l9,c10,c11,l12,l13⟩ w0 X X0 σ0 _ _
   refine zAP (sr (pq 1 Z ?_))
   refine pc (zE0 fu y14 [10]) call40 Z Z Z Z fun r16 hr16=>?_
   refine pq 1 Z (ns (zAD (sr (pq 3 Z ?_))))
   refine zAK (j:=27) Z ?_ ?_
   ·refine pq 4 Z (zAH ?_)
    refine zAA (zAc Z ?_)
    refine zA0 Z ?_
    exact zEk (k3,c4,c5,c6,l7,l8,l9,c10,c11,l12,l13) ⟨Z,Z,Z,Z,Z,Z,Z,Z,Z,Z,Z,trivial⟩ Z
   ·refine pq 2 Z ?_
    refine tu [5130,5135,5132,5133,5134,5136] (enc:=fun (r17:(Bool×Nat×Int×(List Class×Bool)×Bool×(List Hook×Bool)×Int×(List Bs)×(List Op)×(List Op)×(List Op)))=>O r17.1) (Sr:=fun (r17:(Bool×Nat×Int×(List Class×Bool)×Bool×(List Hook×Bool)×Int×(List Bs)×(List Op)×(List Op)×(List Op)))=>[(13,.box 80 [.own 5130,.own 5131,.sel r17.2.1 [.loc 13 1,.ela 5130 5 (r17.2.2.2.1.1.length) 2,.ela 5130 5 (r17.2.2.2.1.1.length) 3,.ela 5135 2 (r17.2.2.2.2.2.1.1.length) 1],Y r17.2.2.1]),(5130,.box 51 [pfx 5 (r17.2.2.2.1.1.map zAL) r17.2.2.2.1.2,O r17.2.2.2.2.1,.own 5132,.own 5133,.own 5134,.own 5135]),(5131,.arr 43 7 (l13.map cOp)),(5135,.box 54 [pfx 2 (r17.2.2.2.2.2.1.1.map zAX) r17.2.2.2.2.2.1.2,Y r17.2.2.2.2.2.2.1,.own 5136]),(5132,.arr 9 1 (r17.2.2.2.2.2.2.2.1.map cStr)),(5133,.arr 43 7 (r17.2.2.2.2.2.2.2.2.1.map cOp)),(5134,.arr 43 7 (r17.2.2.2.2.2.2.2.2.2.1.map cOp)),(5136,.arr 43 7 (r17.2.2.2.2.2.2.2.2.2.2.map cOp))]) (qs:=[.loc 13 0,D r16]) (Sc:=[(13,.box 80 [.own 5130,.own 5131,.sel k3 [.loc 13 1,.ela 5130 5 (c5.1.length) 2,.ela 5130 5 (c5.1.length) 3,.ela 5135 2 (c10.1.length) 1],Y c4]),(5130,.box 51 [pfx 5 (c5.1.map zAL) c5.2,O c6,.own 5132,.own 5133,.own 5134,.own 5135]),(5131,.arr 43 7 (l13.map cOp)),(5135,.box 54 [pfx 2 (c10.1.map zAX) c10.2,Y c11,.own 5136]),(5132,.arr 9 1 (l7.map cStr)),(5133,.arr 43 7 (l8.map cOp)),(5134,.arr 43 7 (l9.map cOp)),(5136,.arr 43 7 (l12.map cOp))]) (N1:=[13,5131]) (NR:=[13,5130,5131,5135,5132,5133,5134,5136]) (fun r17 hr17=>fr [(900000,13),(900001,5130),(900002,5131),(900003,5135),(900004,5132),(900005,5133),(900006,5134),(900007,5136)] [900000,900001,900002,900003,900004,900005,900006,900007] (zEz fu r16 k3 c4 c5 c6 l13 c10 c11 l7 l8 l9 l12 _ hr17)) call41 Z Z Z Z Z Z Z Z fun r17 hr17=>?_
    refine pq 1 Z (ns ?_)
    refine zAN Z ?_ ?_
    ·refine zA0 Z ?_
     exact zEk (r17.2.1,r17.2.2.1,r17.2.2.2.1,r17.2.2.2.2.1,r17.2.2.2.2.2.2.2.1,r17.2.2.2.2.2.2.2.2.1,r17.2.2.2.2.2.2.2.2.2.1,r17.2.2.2.2.2.1,r17.2.2.2.2.2.2.1,r17.2.2.2.2.2.2.2.2.2.2,l13) ⟨Z,Z,Z,Z,Z,Z,Z,Z,Z,Z,Z,trivial⟩ Z
    ·refine zAE (zAA (zAD (zAD ?_)))
     refine su [(2,.loc 2 0),(3,.loc 3 0),(4,.loc 4 0),(22,D y14),(5,D r16),(23,D y14),(24,D r16),(25,D r16),(26,O (r16==([]:Bs))),(27,O false),(28,.loc 13 0),(29,D r16),(30,O r17.1),(31,O r17.1)] [(13,.box 80 [.own 5130,.own 5131,.sel r17.2.1 [.loc 13 1,.ela 5130 5 (r17.2.2.2.1.1.length) 2,.ela 5130 5 (r17.2.2.2.1.1.length) 3,.ela 5135 2 (r17.2.2.2.2.2.1.1.length) 1],Y r17.2.2.1]),(5130,.box 51 [pfx 5 (r17.2.2.2.1.1.map zAL) r17.2.2.2.1.2,O r17.2.2.2.2.1,.own 5132,.own 5133,.own 5134,.own 5135]),(5131,.arr 43 7 (l13.map cOp)),(5135,.box 54 [pfx 2 (r17.2.2.2.2.2.1.1.map zAX) r17.2.2.2.2.2.1.2,Y r17.2.2.2.2.2.2.1,.own 5136]),(5132,.arr 9 1 (r17.2.2.2.2.2.2.2.1.map cStr)),(5133,.arr 43 7 (r17.2.2.2.2.2.2.2.2.1.map cOp)),(5134,.arr 43 7 (r17.2.2.2.2.2.2.2.2.2.1.map cOp)),(5136,.arr 43 7 (r17.2.2.2.2.2.2.2.2.2.2.map cOp)),(4,.box 77 [.loc 13 0]),(3,.box 28 [Y 0]),(2,.box 25 [.v (.slice none 0 0),.v (.slice none 0 0)])] ?_
     refine zRk (fun k_=>[(2,.loc 2 0),(3,.loc 3 0),(4,.loc 4 0),(22,D y14),(5,D r16),(23,D y14),(24,D r16),(25,D r16),(26,O (r16==([]:Bs))),(27,O false),(28,.loc 13 0),(29,D r16),(30,O r17.1),(31,O r17.1)]) (fun k_=>[(13,.box 80 [.own 5130,.own 5131,.sel k_ [.loc 13 1,.ela 5130 5 (r17.2.2.2.1.1.length) 2,.ela 5130 5 (r17.2.2.2.1.1.length) 3,.ela 5135 2 (r17.2.2.2.2.2.1.1.length) 1],Y r17.2.2.1]),(5130,.box 51 [pfx 5 (r17.2.2.2.1.1.map zAL) r17.2.2.2.1.2,O r17.2.2.2.2.1,.own 5132,.own 5133,.own 5134,.own 5135]),(5131,.arr 43 7 (l13.map cOp)),(5135,.box 54 [pfx 2 (r17.2.2.2.2.2.1.1.map zAX) r17.2.2.2.2.2.1.2,Y r17.2.2.2.2.2.2.1,.own 5136]),(5132,.arr 9 1 (r17.2.2.2.2.2.2.2.1.map cStr)),(5133,.arr 43 7 (r17.2.2.2.2.2.2.2.2.1.map cOp)),(5134,.arr 43 7 (r17.2.2.2.2.2.2.2.2.2.1.map cOp)),(5136,.arr 43 7 (r17.2.2.2.2.2.2.2.2.2.2.map cOp)),(4,.box 77 [.loc 13 0]),(3,.box 28 [Y 0]),(2,.box 25 [.v (.slice none 0 0),.v (.slice none 0 0)])]) r17.2.1 ?_ ?_ ?_ ?_
     ·refine zHC (E':=[(2,.loc 2 0),(3,.loc 3 0),(4,.loc 4 0),(22,D y14),(5,D r16),(23,D y14),(24,D r16),(25,D r16),(26,O (r16==([]:Bs))),(27,O false),(28,.loc 13 0),(29,D r16),(30,O r17.1),(31,O r17.1)]) (S':=[(13,.box 80 [.own 5130,.own 5131,.loc 13 1,Y r17.2.2.1]),(5130,.box 51 [pfx 5 (r17.2.2.2.1.1.map zAL) r17.2.2.2.1.2,O r17.2.2.2.2.1,.own 5132,.own 5133,.own 5134,.own 5135]),(5131,.arr 43 7 (l13.map cOp)),(5135,.box 54 [pfx 2 (r17.2.2.2.2.2.1.1.map zAX) r17.2.2.2.2.2.1.2,Y r17.2.2.2.2.2.2.1,.own 5136]),(5132,.arr 9 1 (r17.2.2.2.2.2.2.2.1.map cStr)),(5133,.arr 43 7 (r17.2.2.2.2.2.2.2.2.1.map cOp)),(5134,.arr 43 7 (r17.2.2.2.2.2.2.2.2.2.1.map cOp)),(5136,.arr 43 7 (r17.2.2.2.2.2.2.2.2.2.2.map cOp)),(4,.box 77 [.loc 13 0]),(3,.box 28 [Y 0]),(2,.box 25 [.v (.slice none 0 0),.v (.slice none 0 0)])]) Z Z ?_
      refine su [(2,.loc 2 0),(3,.loc 3 0),(4,.loc 4 0),(5,D r16)] [(13,.box 80 [.own 5130,.own 5131,.loc 13 1,Y r17.2.2.1]),(5130,.box 51 [pfx 5 (r17.2.2.2.1.1.map zAL) r17.2.2.2.1.2,O r17.2.2.2.2.1,.own 5132,.own 5133,.own 5134,.own 5135]),(5131,.arr 43 7 (l13.map cOp)),(5135,.box 54 [pfx 2 (r17.2.2.2.2.2.1.1.map zAX) r17.2.2.2.2.2.1.2,Y r17.2.2.2.2.2.2.1,.own 5136]),(5132,.arr 9 1 (r17.2.2.2.2.2.2.2.1.map cStr)),(5133,.arr 43 7 (r17.2.2.2.2.2.2.2.2.1.map cOp)),(5134,.arr 43 7 (r17.2.2.2.2.2.2.2.2.2.1.map cOp)),(5136,.arr 43 7 (r17.2.2.2.2.2.2.2.2.2.2.map cOp)),(4,.box 77 [.loc 13 0]),(3,.box 28 [Y 0]),(2,.box 25 [.v (.slice none 0 0),.v (.slice none 0 0)])] ?_
      refine zBE [0,1,3,7,15,31,63,0,128,384,896,2047] mixed (by kernel_rfl) (by kernel_rfl) Z Z ?_
      refine vf [8,9] [64] [] [4,13] [4] [(32,.loc 13 0)] [(4,.box 77 [.loc 13 0])] ?_
      refine ve [64] [66] [13] [(33,.loc 13 0)] ?_
      refine ve [66] [68] [13] [(34,.loc 13 2)] ?_
      refine vf [27,68] [70] [] [13,5130,5131] [13] [(35,.loc 13 1)] [(13,.box 80 [.own 5130,.own 5131,.loc 13 1,Y r17.2.2.1])] ?_
      refine ve [70] [72] [13] [(36,.loc 13 1)] ?_
      refine vf [27,72] [74] [] [13,5130,5131] [13] [(37,.own 5131)] [(13,.box 80 [.own 5130,.own 5131,.loc 13 1,Y r17.2.2.1])] ?_
      refine vs [74,10263] [76] [] [5131] [5131] [(38,Y ((l13.length:Nat):Int))] [(5131,.arr 43 7 (l13.map cOp))] Z Z (fun w0 X X0 σ0 _=>by refine zCE (T:=tab) cOp l13 Z Z Z Z Z Z Z Z Z ?_;exact py) ?_
      refine vf [8,9] [78] [] [4,13] [4] [(39,.loc 13 0)] [(4,.box 77 [.loc 13 0])] ?_
      refine ve [78] [80] [13] [(40,.loc 13 0)] ?_
      refine ve [80] [82] [13] [(41,.loc 13 3)] ?_
      refine vf [27,82] [84] [] [13,5130,5131] [13] [(42,Y r17.2.2.1)] [(13,.box 80 [.own 5130,.own 5131,.loc 13 1,Y r17.2.2.1])] ?_
      refine ve [76,84] [86] [] [(43,O (((l13.length:Nat):Int)==r17.2.2.1))] ?_
      refine zBd Z Z ?_
      refine zAA ?_
      refine zAN Z ?_ ?_
      ·refine sr ?_
       refine zAi (T:=tab) Z Z Z Z Z Z Z ?_
       refine zAI (T:=tab) Z Z Z Z Z Z Z Z Z Z Z Z ?_
       refine zAI (T:=tab) Z Z Z Z Z Z Z Z Z Z Z Z ?_
       refine ns ?_
       refine zDy 2 [.sl 5 false ([].map zAL),.sl 7 false ([].map cOp)] Z ⟨.nil,.nil,trivial⟩ Z ?_
       exact zGa Z ⟨Z,Z,trivial⟩ Z
      ·refine zAE (zAA (sr (pq 1 Z ?_)))
       refine pc (zFI fu r16) zLT Z Z Z Z fun r18 hr18=>?_
       refine pq 3 Z ?_
       refine zA4 (T:=tab) 6 Z Z Z Z Z Z Z Z Z ?_
       refine zAI (T:=tab) Z Z Z Z Z Z Z Z Z Z Z Z ?_
       refine pq 1 Z (ns ?_)
       refine su [(2,.loc 2 0),(3,.loc 3 0),(4,.loc 4 0),(6,.loc 6 0)] [(6,.box 43 [Y r18.1.Kind,Y r18.1.A,Y r18.1.B,Y r18.1.C,D r18.1.S,D r18.1.T,O r18.1.Must]),(13,.box 80 [.own 5130,.own 5131,.loc 13 1,Y r17.2.2.1]),(5130,.box 51 [pfx 5 (r17.2.2.2.1.1.map zAL) r17.2.2.2.1.2,O r17.2.2.2.2.1,.own 5132,.own 5133,.own 5134,.own 5135]),(5131,.arr 43 7 (l13.map cOp)),(5135,.box 54 [pfx 2 (r17.2.2.2.2.2.1.1.map zAX) r17.2.2.2.2.2.1.2,Y r17.2.2.2.2.2.2.1,.own 5136]),(5132,.arr 9 1 (r17.2.2.2.2.2.2.2.1.map cStr)),(5133,.arr 43 7 (r17.2.2.2.2.2.2.2.2.1.map cOp)),(5134,.arr 43 7 (r17.2.2.2.2.2.2.2.2.2.1.map cOp)),(5136,.arr 43 7 (r17.2.2.2.2.2.2.2.2.2.2.map cOp)),(4,.box 77 [.loc 13 0]),(3,.box 28 [Y 0]),(2,.box 25 [.v (.slice none 0 0),.v (.slice none 0 0)])] ?_
       refine zBE [0,1,3,7,0,16,48,112,240,496,0,1024,4080,8191,16383] mixed (by kernel_rfl) (by kernel_rfl) Z Z ?_
       refine vf [8,9] [100] [] [4,13] [4] [(50,.loc 13 0)] [(4,.box 77 [.loc 13 0])] ?_
       refine ve [100] [102] [13] [(51,.loc 13 0)] ?_
       refine ve [102] [104] [13] [(52,.loc 13 2)] ?_
       refine vf [27,104] [106] [] [13,5130,5131] [13] [(53,.loc 13 1)] [(13,.box 80 [.own 5130,.own 5131,.loc 13 1,Y r17.2.2.1])] ?_
       refine vf [8,9] [108] [] [4,13] [4] [(54,.loc 13 0)] [(4,.box 77 [.loc 13 0])] ?_
       refine ve [108] [110] [13] [(55,.loc 13 0)] ?_
       refine ve [110] [112] [13] [(56,.loc 13 2)] ?_
       refine vf [27,112] [114] [] [13,5130,5131] [13] [(57,.loc 13 1)] [(13,.box 80 [.own 5130,.own 5131,.loc 13 1,Y r17.2.2.1])] ?_
       refine ve [114] [116] [13] [(58,.loc 13 1)] ?_
       refine vf [27,116] [118] [] [13,5130,5131] [13] [(59,.own 5131)] [(13,.box 80 [.own 5130,.own 5131,.loc 13 1,Y r17.2.2.1])] ?_
       refine vf [12,13] [120] [] [6] [6] [(60,.agg (cOp r18.1))] [(6,.box 43 [Y r18.1.Kind,Y r18.1.A,Y r18.1.B,Y r18.1.C,D r18.1.S,D r18.1.T,O r18.1.Must])] ?_
       refine vs [120] [122,123] [61] [] [] [(61,.own 61)] [(61,.arr 43 7 ([r18.1].map cOp))] Z Z (fun w0 X X0 σ0 _=>by refine zCj (T:=tab) (rows:=[r18.1].map cOp) 61 Z Z Z Z Z Z Z Z Z Z Z Z Z Z ?_;exact py) ?_
       refine vt (zEF 72 (l13.length+([r18.1]:List Op).length)) [(124,[700062]),(118,[]),(10263,[]),(1400125,[])] [118,122,123,10263] [124,118,10263,1400125] [700062] [61,5131] [61] (fun _=>[(62,.own 700062)]) (fun _=>[(700062,.arr 43 7 ((l13++[r18.1]).map cOp)),(61,.arr 43 7 ([r18.1].map cOp))]) Z Z (fun _=>Z) (fun w0 X X0 σ0 _=>by refine zPi 5131 700062 59 Z Z Z Z Z Z ?_;refine zDw (T:=tab) cOp l13 ([r18.1]:List Op) Z Z Z Z Z Z Z Z Z Z Z Z Z Z (zIk _) Z Z Z Z Z ?_;exact pz) fun _ h0=>?_
       refine ve [106] [126] [13] [(63,.loc 13 1)] ?_
       refine vs [27,124,126,1400125] [27] [] [13,5130,5131,700062] [700062] [] [(13,.box 80 [.own 5130,.own 700062,.loc 13 1,Y r17.2.2.1]),(700062,.arr 43 7 ((l13++[r18.1]).map cOp))] Z Z (fun w0 X X0 σ0 _=>by refine zAI (T:=tab) Z Z Z Z Z Z Z Z Z Z Z Z ?_;exact py) ?_
       refine zBd Z Z ?_
       refine zAJ ?_
       refine zOF (E':=[]) (S':=[(700062,.arr 43 7 ((l13++[r18.1]).map cOp)),(61,.arr 43 7 ([r18.1].map cOp)),(6,.box 43 [Y r18.1.Kind,Y r18.1.A,Y r18.1.B,Y r18.1.C,D r18.1.S,D r18.1.T,O r18.1.Must]),(13,.box 80 [.own 5130,.own 700062,.loc 13 1,Y r17.2.2.1]),(5130,.box 51 [pfx 5 (r17.2.2.2.1.1.map zAL) r17.2.2.2.1.2,O r17.2.2.2.2.1,.own 5132,.own 5133,.own 5134,.own 5135]),(5135,.box 54 [pfx 2 (r17.2.2.2.2.2.1.1.map zAX) r17.2.2.2.2.2.1.2,Y r17.2.2.2.2.2.2.1,.own 5136]),(5132,.arr 9 1 (r17.2.2.2.2.2.2.2.1.map cStr)),(5133,.arr 43 7 (r17.2.2.2.2.2.2.2.2.1.map cOp)),(5134,.arr 43 7 (r17.2.2.2.2.2.2.2.2.2.1.map cOp)),(5136,.arr 43 7 (r17.2.2.2.2.2.2.2.2.2.2.map cOp)),(4,.box 77 [.loc 13 0]),(3,.box 28 [Y 0]),(2,.box 25 [.v (.slice none 0 0),.v (.slice none 0 0)])]) ?_ trivial ⟨Z,Z,Z,Z,Z,Z,Z,Z,Z,Z,Z,Z,Z,trivial⟩ Z
       refine zOE 700062 5131 (E':=[]) (S':=[(5131,.arr 43 7 ((l13++[r18.1]).map cOp)),(61,.arr 43 7 ([r18.1].map cOp)),(6,.box 43 [Y r18.1.Kind,Y r18.1.A,Y r18.1.B,Y r18.1.C,D r18.1.S,D r18.1.T,O r18.1.Must]),(13,.box 80 [.own 5130,.own 5131,.loc 13 1,Y r17.2.2.1]),(5130,.box 51 [pfx 5 (r17.2.2.2.1.1.map zAL) r17.2.2.2.1.2,O r17.2.2.2.2.1,.own 5132,.own 5133,.own 5134,.own 5135]),(5135,.box 54 [pfx 2 (r17.2.2.2.2.2.1.1.map zAX) r17.2.2.2.2.2.1.2,Y r17.2.2.2.2.2.2.1,.own 5136]),(5132,.arr 9 1 (r17.2.2.2.2.2.2.2.1.map cStr)),(5133,.arr 43 7 (r17.2.2.2.2.2.2.2.2.1.map cOp)),(5134,.arr 43 7 (r17.2.2.2.2.2.2.2.2.2.1.map cOp)),(5136,.arr 43 7 (r17.2.2.2.2.2.2.2.2.2.2.map cOp)),(4,.box 77 [.loc 13 0]),(3,.box 28 [Y 0]),(2,.box 25 [.v (.slice none 0 0),.v (.slice none 0 0)])]) Z Z Z Z Z Z ?_
       refine zED 13 [.own 5130,.own 5131,.sel 0 [.loc 13 1,.ela 5130 5 (r17.2.2.2.1.1.length) 2,.ela 5130 5 (r17.2.2.2.1.1.length) 3,.ela 5135 2 (r17.2.2.2.2.2.1.1.length) 1],Y r17.2.2.1] Z ⟨.rfl,.rfl,(.sel Z Z),.rfl,trivial⟩ Z ?_
       exact zEk (0,r17.2.2.1,r17.2.2.2.1,r17.2.2.2.2.1,r17.2.2.2.2.2.2.2.1,r17.2.2.2.2.2.2.2.2.1,r17.2.2.2.2.2.2.2.2.2.1,r17.2.2.2.2.2.1,r17.2.2.2.2.2.2.1,r17.2.2.2.2.2.2.2.2.2.2,(l13++[r18.1])) ⟨Z,Z,Z,Z,Z,Z,Z,Z,Z,Z,Z,trivial⟩ Z
     ·refine zHC (E':=[(2,.loc 2 0),(3,.loc 3 0),(4,.loc 4 0),(22,D y14),(5,D r16),(23,D y14),(24,D r16),(25,D r16),(26,O (r16==([]:Bs))),(27,O false),(28,.loc 13 0),(29,D r16),(30,O r17.1),(31,O r17.1)]) (S':=[(13,.box 80 [.own 5130,.own 5131,.ela 5130 5 (r17.2.2.2.1.1.length) 2,Y r17.2.2.1]),(5130,.box 51 [pfx 5 (r17.2.2.2.1.1.map zAL) r17.2.2.2.1.2,O r17.2.2.2.2.1,.own 5132,.own 5133,.own 5134,.own 5135]),(5131,.arr 43 7 (l13.map cOp)),(5135,.box 54 [pfx 2 (r17.2.2.2.2.2.1.1.map zAX) r17.2.2.2.2.2.1.2,Y r17.2.2.2.2.2.2.1,.own 5136]),(5132,.arr 9 1 (r17.2.2.2.2.2.2.2.1.map cStr)),(5133,.arr 43 7 (r17.2.2.2.2.2.2.2.2.1.map cOp)),(5134,.arr 43 7 (r17.2.2.2.2.2.2.2.2.2.1.map cOp)),(5136,.arr 43 7 (r17.2.2.2.2.2.2.2.2.2.2.map cOp)),(4,.box 77 [.loc 13 0]),(3,.box 28 [Y 0]),(2,.box 25 [.v (.slice none 0 0),.v (.slice none 0 0)])]) Z Z ?_
      refine su [(2,.loc 2 0),(3,.loc 3 0),(4,.loc 4 0),(22,D y14),(5,D r16),(23,D y14),(24,D r16),(25,D r16),(26,O (r16==([]:Bs))),(27,O false),(28,.loc 13 0),(29,D r16),(30,O r17.1),(31,O r17.1)] [(13,.box 80 [.own 5130,.own 5131,.ela 5130 5 (r17.2.2.2.1.1.length) 2,Y r17.2.2.1]),(5130,.box 51 [pfx 5 (r17.2.2.2.1.1.map zAL) r17.2.2.2.1.2,O r17.2.2.2.2.1,.own 5132,.own 5133,.own 5134,.own 5135]),(5131,.arr 43 7 (l13.map cOp)),(5135,.box 54 [pfx 2 (r17.2.2.2.2.2.1.1.map zAX) r17.2.2.2.2.2.1.2,Y r17.2.2.2.2.2.2.1,.own 5136]),(5132,.arr 9 1 (r17.2.2.2.2.2.2.2.1.map cStr)),(5133,.arr 43 7 (r17.2.2.2.2.2.2.2.2.1.map cOp)),(5134,.arr 43 7 (r17.2.2.2.2.2.2.2.2.2.1.map cOp)),(5136,.arr 43 7 (r17.2.2.2.2.2.2.2.2.2.2.map cOp)),(4,.box 77 [.loc 13 0]),(3,.box 28 [Y 0]),(2,.box 25 [.v (.slice none 0 0),.v (.slice none 0 0)])] ?_
      refine zL6 (fun b_=>[(2,.loc 2 0),(3,.loc 3 0),(4,.loc 4 0),(22,D y14),(5,D r16),(23,D y14),(24,D r16),(25,D r16),(26,O (r16==([]:Bs))),(27,O false),(28,.loc 13 0),(29,D r16),(30,O r17.1),(31,O r17.1)]) (fun b_=>[(13,.box 80 [.own 5130,.own 5131,.ela 5130 5 (r17.2.2.2.1.1.length) 2,Y r17.2.2.1]),(5130,.box 51 [pfx 5 (r17.2.2.2.1.1.map zAL) b_,O r17.2.2.2.2.1,.own 5132,.own 5133,.own 5134,.own 5135]),(5131,.arr 43 7 (l13.map cOp)),(5135,.box 54 [pfx 2 (r17.2.2.2.2.2.1.1.map zAX) r17.2.2.2.2.2.1.2,Y r17.2.2.2.2.2.2.1,.own 5136]),(5132,.arr 9 1 (r17.2.2.2.2.2.2.2.1.map cStr)),(5133,.arr 43 7 (r17.2.2.2.2.2.2.2.2.1.map cOp)),(5134,.arr 43 7 (r17.2.2.2.2.2.2.2.2.2.1.map cOp)),(5136,.arr 43 7 (r17.2.2.2.2.2.2.2.2.2.2.map cOp)),(4,.box 77 [.loc 13 0]),(3,.box 28 [Y 0]),(2,.box 25 [.v (.slice none 0 0),.v (.slice none 0 0)])]) r17.2.2.2.1.2 ?_
      refine su [(2,.loc 2 0),(3,.loc 3 0),(4,.loc 4 0),(5,D r16)] [(13,.box 80 [.own 5130,.own 5131,.ela 5130 5 (r17.2.2.2.1.1.length) 2,Y r17.2.2.1]),(5130,.box 51 [pfx 5 (r17.2.2.2.1.1.map zAL) true,O r17.2.2.2.2.1,.own 5132,.own 5133,.own 5134,.own 5135]),(5131,.arr 43 7 (l13.map cOp)),(5135,.box 54 [pfx 2 (r17.2.2.2.2.2.1.1.map zAX) r17.2.2.2.2.2.1.2,Y r17.2.2.2.2.2.2.1,.own 5136]),(5132,.arr 9 1 (r17.2.2.2.2.2.2.2.1.map cStr)),(5133,.arr 43 7 (r17.2.2.2.2.2.2.2.2.1.map cOp)),(5134,.arr 43 7 (r17.2.2.2.2.2.2.2.2.2.1.map cOp)),(5136,.arr 43 7 (r17.2.2.2.2.2.2.2.2.2.2.map cOp)),(4,.box 77 [.loc 13 0]),(3,.box 28 [Y 0]),(2,.box 25 [.v (.slice none 0 0),.v (.slice none 0 0)])] ?_
      refine zBE [0,1,3,7,15,31,63,0,128,384,896,2047] mixed (by kernel_rfl) (by kernel_rfl) Z Z ?_
      refine vf [8,9] [64] [] [4,13] [4] [(32,.loc 13 0)] [(4,.box 77 [.loc 13 0])] ?_
      refine ve [64] [66] [13] [(33,.loc 13 0)] ?_
      refine ve [66] [68] [13] [(34,.loc 13 2)] ?_
      refine vf [27,68] [70] [] [13,5130,5131] [13] [(35,.ela 5130 5 (r17.2.2.2.1.1.length) 2)] [(13,.box 80 [.own 5130,.own 5131,.ela 5130 5 (r17.2.2.2.1.1.length) 2,Y r17.2.2.1])] ?_
      refine ve [70] [72] [5130] [(36,.ela 5130 5 (r17.2.2.2.1.1.length) 2)] ?_
      refine vs [72,10261] [74] [] [5130,5132,5133,5134,5135] [5130] [(37,.own 5133)] [(5130,.box 51 [pfx 5 (r17.2.2.2.1.1.map zAL) true,O r17.2.2.2.2.1,.own 5132,.own 5133,.own 5134,.own 5135])] Z Z (fun w0 X X0 σ0 _=>by refine zBe (T:=tab) (by simp) Z Z Z Z Z Z Z Z ?_;exact py) ?_
      refine vs [74,10267] [76] [] [5133] [5133] [(38,Y ((r17.2.2.2.2.2.2.2.2.1.length:Nat):Int))] [(5133,.arr 43 7 (r17.2.2.2.2.2.2.2.2.1.map cOp))] Z Z (fun w0 X X0 σ0 _=>by refine zCE (T:=tab) cOp r17.2.2.2.2.2.2.2.2.1 Z Z Z Z Z Z Z Z Z ?_;exact py) ?_
      refine vf [8,9] [78] [] [4,13] [4] [(39,.loc 13 0)] [(4,.box 77 [.loc 13 0])] ?_
      refine ve [78] [80] [13] [(40,.loc 13 0)] ?_
      refine ve [80] [82] [13] [(41,.loc 13 3)] ?_
      refine vf [27,82] [84] [] [13,5130,5131] [13] [(42,Y r17.2.2.1)] [(13,.box 80 [.own 5130,.own 5131,.ela 5130 5 (r17.2.2.2.1.1.length) 2,Y r17.2.2.1])] ?_
      refine ve [76,84] [86] [] [(43,O (((r17.2.2.2.2.2.2.2.2.1.length:Nat):Int)==r17.2.2.1))] ?_
      refine zBd Z Z ?_
      refine zAA ?_
      refine zAN Z ?_ ?_
      ·refine sr ?_
       refine zAi (T:=tab) Z Z Z Z Z Z Z ?_
       refine zAI (T:=tab) Z Z Z Z Z Z Z Z Z Z Z Z ?_
       refine zAI (T:=tab) Z Z Z Z Z Z Z Z Z Z Z Z ?_
       refine ns ?_
       refine zDy 2 [.sl 5 false ([].map zAL),.sl 7 false ([].map cOp)] Z ⟨.nil,.nil,trivial⟩ Z ?_
       exact zGa Z ⟨Z,Z,trivial⟩ Z
      ·refine zAE (zAA (sr (pq 1 Z ?_)))
       refine pc (zFI fu r16) zLT Z Z Z Z fun r19 hr19=>?_
       refine pq 3 Z ?_
       refine zA4 (T:=tab) 6 Z Z Z Z Z Z Z Z Z ?_
       refine zAI (T:=tab) Z Z Z Z Z Z Z Z Z Z Z Z ?_
       refine pq 1 Z (ns ?_)
       refine su [(2,.loc 2 0),(3,.loc 3 0),(4,.loc 4 0),(6,.loc 6 0)] [(6,.box 43 [Y r19.1.Kind,Y r19.1.A,Y r19.1.B,Y r19.1.C,D r19.1.S,D r19.1.T,O r19.1.Must]),(13,.box 80 [.own 5130,.own 5131,.ela 5130 5 (r17.2.2.2.1.1.length) 2,Y r17.2.2.1]),(5130,.box 51 [pfx 5 (r17.2.2.2.1.1.map zAL) true,O r17.2.2.2.2.1,.own 5132,.own 5133,.own 5134,.own 5135]),(5131,.arr 43 7 (l13.map cOp)),(5135,.box 54 [pfx 2 (r17.2.2.2.2.2.1.1.map zAX) r17.2.2.2.2.2.1.2,Y r17.2.2.2.2.2.2.1,.own 5136]),(5132,.arr 9 1 (r17.2.2.2.2.2.2.2.1.map cStr)),(5133,.arr 43 7 (r17.2.2.2.2.2.2.2.2.1.map cOp)),(5134,.arr 43 7 (r17.2.2.2.2.2.2.2.2.2.1.map cOp)),(5136,.arr 43 7 (r17.2.2.2.2.2.2.2.2.2.2.map cOp)),(4,.box 77 [.loc 13 0]),(3,.box 28 [Y 0]),(2,.box 25 [.v (.slice none 0 0),.v (.slice none 0 0)])] ?_
       refine zBE [0,1,3,7,0,16,48,112,240,496,0,1024,4080,8191,16383] mixed (by kernel_rfl) (by kernel_rfl) Z Z ?_
       refine vf [8,9] [100] [] [4,13] [4] [(50,.loc 13 0)] [(4,.box 77 [.loc 13 0])] ?_
       refine ve [100] [102] [13] [(51,.loc 13 0)] ?_
       refine ve [102] [104] [13] [(52,.loc 13 2)] ?_
       refine vf [27,104] [106] [] [13,5130,5131] [13] [(53,.ela 5130 5 (r17.2.2.2.1.1.length) 2)] [(13,.box 80 [.own 5130,.own 5131,.ela 5130 5 (r17.2.2.2.1.1.length) 2,Y r17.2.2.1])] ?_
       refine vf [8,9] [108] [] [4,13] [4] [(54,.loc 13 0)] [(4,.box 77 [.loc 13 0])] ?_
       refine ve [108] [110] [13] [(55,.loc 13 0)] ?_
       refine ve [110] [112] [13] [(56,.loc 13 2)] ?_
       refine vf [27,112] [114] [] [13,5130,5131] [13] [(57,.ela 5130 5 (r17.2.2.2.1.1.length) 2)] [(13,.box 80 [.own 5130,.own 5131,.ela 5130 5 (r17.2.2.2.1.1.length) 2,Y r17.2.2.1])] ?_
       refine ve [114] [116] [5130] [(58,.ela 5130 5 (r17.2.2.2.1.1.length) 2)] ?_
       refine vs [116,10261] [118] [] [5130,5132,5133,5134,5135] [5130] [(59,.own 5133)] [(5130,.box 51 [pfx 5 (r17.2.2.2.1.1.map zAL) true,O r17.2.2.2.2.1,.own 5132,.own 5133,.own 5134,.own 5135])] Z Z (fun w0 X X0 σ0 _=>by refine zBe (T:=tab) (by simp) Z Z Z Z Z Z Z Z ?_;exact py) ?_
       refine vf [12,13] [120] [] [6] [6] [(60,.agg (cOp r19.1))] [(6,.box 43 [Y r19.1.Kind,Y r19.1.A,Y r19.1.B,Y r19.1.C,D r19.1.S,D r19.1.T,O r19.1.Must])] ?_
       refine vs [120] [122,123] [61] [] [] [(61,.own 61)] [(61,.arr 43 7 ([r19.1].map cOp))] Z Z (fun w0 X X0 σ0 _=>by refine zCj (T:=tab) (rows:=[r19.1].map cOp) 61 Z Z Z Z Z Z Z Z Z Z Z Z Z Z ?_;exact py) ?_
       refine vt (zEF 72 (r17.2.2.2.2.2.2.2.2.1.length+([r19.1]:List Op).length)) [(124,[5133]),(118,[]),(10261,[5132,5134,5135]),(10267,[])] [118,122,123,10261,10267] [124,118,10261,10267] [5133] [61,5130,5132,5134,5135] [61] (fun _=>[(62,.own 5133)]) (fun _=>[(5130,.box 51 [pfx 5 (r17.2.2.2.1.1.map zAL) true,O r17.2.2.2.2.1,.own 5132,.junk,.own 5134,.own 5135]),(5133,.arr 43 7 ((r17.2.2.2.2.2.2.2.2.1++[r19.1]).map cOp)),(61,.arr 43 7 ([r19.1].map cOp))]) Z Z (fun _=>Z) (fun w0 X X0 σ0 _=>by refine zDw (T:=tab) cOp r17.2.2.2.2.2.2.2.2.1 ([r19.1]:List Op) Z Z Z Z Z Z Z Z Z Z Z Z Z Z (zIk _) Z Z Z Z Z ?_;exact pz) fun _ h0=>?_
       refine ve [106] [126] [5130] [(63,.ela 5130 5 (r17.2.2.2.1.1.length) 2)] ?_
       refine vs [124,126,10261,10267] [10261] [] [5130,5132,5133,5134,5135] [5133] [] [(5130,.box 51 [pfx 5 (r17.2.2.2.1.1.map zAL) true,O r17.2.2.2.2.1,.own 5132,.own 5133,.own 5134,.own 5135]),(5133,.arr 43 7 ((r17.2.2.2.2.2.2.2.2.1++[r19.1]).map cOp))] Z Z (fun w0 X X0 σ0 _=>by refine zDS (T:=tab) (by simp) Z Z Z Z Z Z Z Z Z Z Z Z ?_;exact py) ?_
       refine zBd Z Z ?_
       refine zAJ ?_
       refine zED 13 [.own 5130,.own 5131,.sel 1 [.loc 13 1,.ela 5130 5 (r17.2.2.2.1.1.length) 2,.ela 5130 5 (r17.2.2.2.1.1.length) 3,.ela 5135 2 (r17.2.2.2.2.2.1.1.length) 1],Y r17.2.2.1] Z ⟨.rfl,.rfl,(.sel Z Z),.rfl,trivial⟩ Z ?_
       exact zEk (1,r17.2.2.1,(r17.2.2.2.1.1,true),r17.2.2.2.2.1,r17.2.2.2.2.2.2.2.1,(r17.2.2.2.2.2.2.2.2.1++[r19.1]),r17.2.2.2.2.2.2.2.2.2.1,r17.2.2.2.2.2.1,r17.2.2.2.2.2.2.1,r17.2.2.2.2.2.2.2.2.2.2,l13) ⟨Z,Z,Z,Z,Z,Z,Z,Z,Z,Z,Z,trivial⟩ Z
     ·refine zHC (E':=[(2,.loc 2 0),(3,.loc 3 0),(4,.loc 4 0),(22,D y14),(5,D r16),(23,D y14),(24,D r16),(25,D r16),(26,O (r16==([]:Bs))),(27,O false),(28,.loc 13 0),(29,D r16),(30,O r17.1),(31,O r17.1)]) (S':=[(13,.box 80 [.own 5130,.own 5131,.ela 5130 5 (r17.2.2.2.1.1.length) 3,Y r17.2.2.1]),(5130,.box 51 [pfx 5 (r17.2.2.2.1.1.map zAL) r17.2.2.2.1.2,O r17.2.2.2.2.1,.own 5132,.own 5133,.own 5134,.own 5135]),(5131,.arr 43 7 (l13.map cOp)),(5135,.box 54 [pfx 2 (r17.2.2.2.2.2.1.1.map zAX) r17.2.2.2.2.2.1.2,Y r17.2.2.2.2.2.2.1,.own 5136]),(5132,.arr 9 1 (r17.2.2.2.2.2.2.2.1.map cStr)),(5133,.arr 43 7 (r17.2.2.2.2.2.2.2.2.1.map cOp)),(5134,.arr 43 7 (r17.2.2.2.2.2.2.2.2.2.1.map cOp)),(5136,.arr 43 7 (r17.2.2.2.2.2.2.2.2.2.2.map cOp)),(4,.box 77 [.loc 13 0]),(3,.box 28 [Y 0]),(2,.box 25 [.v (.slice none 0 0),.v (.slice none 0 0)])]) Z Z ?_
      refine su [(2,.loc 2 0),(3,.loc 3 0),(4,.loc 4 0),(22,D y14),(5,D r16),(23,D y14),(24,D r16),(25,D r16),(26,O (r16==([]:Bs))),(27,O false),(28,.loc 13 0),(29,D r16),(30,O r17.1),(31,O r17.1)] [(13,.box 80 [.own 5130,.own 5131,.ela 5130 5 (r17.2.2.2.1.1.length) 3,Y r17.2.2.1]),(5130,.box 51 [pfx 5 (r17.2.2.2.1.1.map zAL) r17.2.2.2.1.2,O r17.2.2.2.2.1,.own 5132,.own 5133,.own 5134,.own 5135]),(5131,.arr 43 7 (l13.map cOp)),(5135,.box 54 [pfx 2 (r17.2.2.2.2.2.1.1.map zAX) r17.2.2.2.2.2.1.2,Y r17.2.2.2.2.2.2.1,.own 5136]),(5132,.arr 9 1 (r17.2.2.2.2.2.2.2.1.map cStr)),(5133,.arr 43 7 (r17.2.2.2.2.2.2.2.2.1.map cOp)),(5134,.arr 43 7 (r17.2.2.2.2.2.2.2.2.2.1.map cOp)),(5136,.arr 43 7 (r17.2.2.2.2.2.2.2.2.2.2.map cOp)),(4,.box 77 [.loc 13 0]),(3,.box 28 [Y 0]),(2,.box 25 [.v (.slice none 0 0),.v (.slice none 0 0)])] ?_
      refine zL6 (fun b_=>[(2,.loc 2 0),(3,.loc 3 0),(4,.loc 4 0),(22,D y14),(5,D r16),(23,D y14),(24,D r16),(25,D r16),(26,O (r16==([]:Bs))),(27,O false),(28,.loc 13 0),(29,D r16),(30,O r17.1),(31,O r17.1)]) (fun b_=>[(13,.box 80 [.own 5130,.own 5131,.ela 5130 5 (r17.2.2.2.1.1.length) 3,Y r17.2.2.1]),(5130,.box 51 [pfx 5 (r17.2.2.2.1.1.map zAL) b_,O r17.2.2.2.2.1,.own 5132,.own 5133,.own 5134,.own 5135]),(5131,.arr 43 7 (l13.map cOp)),(5135,.box 54 [pfx 2 (r17.2.2.2.2.2.1.1.map zAX) r17.2.2.2.2.2.1.2,Y r17.2.2.2.2.2.2.1,.own 5136]),(5132,.arr 9 1 (r17.2.2.2.2.2.2.2.1.map cStr)),(5133,.arr 43 7 (r17.2.2.2.2.2.2.2.2.1.map cOp)),(5134,.arr 43 7 (r17.2.2.2.2.2.2.2.2.2.1.map cOp)),(5136,.arr 43 7 (r17.2.2.2.2.2.2.2.2.2.2.map cOp)),(4,.box 77 [.loc 13 0]),(3,.box 28 [Y 0]),(2,.box 25 [.v (.slice none 0 0),.v (.slice none 0 0)])]) r17.2.2.2.1.2 ?_
      refine su [(2,.loc 2 0),(3,.loc 3 0),(4,.loc 4 0),(5,D r16)] [(13,.box 80 [.own 5130,.own 5131,.ela 5130 5 (r17.2.2.2.1.1.length) 3,Y r17.2.2.1]),(5130,.box 51 [pfx 5 (r17.2.2.2.1.1.map zAL) true,O r17.2.2.2.2.1,.own 5132,.own 5133,.own 5134,.own 5135]),(5131,.arr 43 7 (l13.map cOp)),(5135,.box 54 [pfx 2 (r17.2.2.2.2.2.1.1.map zAX) r17.2.2.2.2.2.1.2,Y r17.2.2.2.2.2.2.1,.own 5136]),(5132,.arr 9 1 (r17.2.2.2.2.2.2.2.1.map cStr)),(5133,.arr 43 7 (r17.2.2.2.2.2.2.2.2.1.map cOp)),(5134,.arr 43 7 (r17.2.2.2.2.2.2.2.2.2.1.map cOp)),(5136,.arr 43 7 (r17.2.2.2.2.2.2.2.2.2.2.map cOp)),(4,.box 77 [.loc 13 0]),(3,.box 28 [Y 0]),(2,.box 25 [.v (.slice none 0 0),.v (.slice none 0 0)])] ?_
      refine zBE [0,1,3,7,15,31,63,0,128,384,896,2047] mixed (by kernel_rfl) (by kernel_rfl) Z Z ?_
      refine vf [8,9] [64] [] [4,13] [4] [(32,.loc 13 0)] [(4,.box 77 [.loc 13 0])] ?_
      refine ve [64] [66] [13] [(33,.loc 13 0)] ?_
      refine ve [66] [68] [13] [(34,.loc 13 2)] ?_
      refine vf [27,68] [70] [] [13,5130,5131] [13] [(35,.ela 5130 5 (r17.2.2.2.1.1.length) 3)] [(13,.box 80 [.own 5130,.own 5131,.ela 5130 5 (r17.2.2.2.1.1.length) 3,Y r17.2.2.1])] ?_
      refine ve [70] [72] [5130] [(36,.ela 5130 5 (r17.2.2.2.1.1.length) 3)] ?_
      refine vs [72,10261] [74] [] [5130,5132,5133,5134,5135] [5130] [(37,.own 5134)] [(5130,.box 51 [pfx 5 (r17.2.2.2.1.1.map zAL) true,O r17.2.2.2.2.1,.own 5132,.own 5133,.own 5134,.own 5135])] Z Z (fun w0 X X0 σ0 _=>by refine zBe (T:=tab) (by simp) Z Z Z Z Z Z Z Z ?_;exact py) ?_
      refine vs [74,10269] [76] [] [5134] [5134] [(38,Y ((r17.2.2.2.2.2.2.2.2.2.1.length:Nat):Int))] [(5134,.arr 43 7 (r17.2.2.2.2.2.2.2.2.2.1.map cOp))] Z Z (fun w0 X X0 σ0 _=>by refine zCE (T:=tab) cOp r17.2.2.2.2.2.2.2.2.2.1 Z Z Z Z Z Z Z Z Z ?_;exact py) ?_
      refine vf [8,9] [78] [] [4,13] [4] [(39,.loc 13 0)] [(4,.box 77 [.loc 13 0])] ?_
      refine ve [78] [80] [13] [(40,.loc 13 0)] ?_
      refine ve [80] [82] [13] [(41,.loc 13 3)] ?_
      refine vf [27,82] [84] [] [13,5130,5131] [13] [(42,Y r17.2.2.1)] [(13,.box 80 [.own 5130,.own 5131,.ela 5130 5 (r17.2.2.2.1.1.length) 3,Y r17.2.2.1])] ?_
      refine ve [76,84] [86] [] [(43,O (((r17.2.2.2.2.2.2.2.2.2.1.length:Nat):Int)==r17.2.2.1))] ?_
      refine zBd Z Z ?_
      refine zAA ?_
      refine zAN Z ?_ ?_
      ·refine sr ?_
       refine zAi (T:=tab) Z Z Z Z Z Z Z ?_
       refine zAI (T:=tab) Z Z Z Z Z Z Z Z Z Z Z Z ?_
       refine zAI (T:=tab) Z Z Z Z Z Z Z Z Z Z Z Z ?_
       refine ns ?_
       refine zDy 2 [.sl 5 false ([].map zAL),.sl 7 false ([].map cOp)] Z ⟨.nil,.nil,trivial⟩ Z ?_
       exact zGa Z ⟨Z,Z,trivial⟩ Z
      ·refine zAE (zAA (sr (pq 1 Z ?_)))
       refine pc (zFI fu r16) zLT Z Z Z Z fun r20 hr20=>?_
       refine pq 3 Z ?_
       refine zA4 (T:=tab) 6 Z Z Z Z Z Z Z Z Z ?_
       refine zAI (T:=tab) Z Z Z Z Z Z Z Z Z Z Z Z ?_
       refine pq 1 Z (ns ?_)
       refine su [(2,.loc 2 0),(3,.loc 3 0),(4,.loc 4 0),(6,.loc 6 0)] [(6,.box 43 [Y r20.1.Kind,Y r20.1.A,Y r20.1.B,Y r20.1.C,D r20.1.S,D r20.1.T,O r20.1.Must]),(13,.box 80 [.own 5130,.own 5131,.ela 5130 5 (r17.2.2.2.1.1.length) 3,Y r17.2.2.1]),(5130,.box 51 [pfx 5 (r17.2.2.2.1.1.map zAL) true,O r17.2.2.2.2.1,.own 5132,.own 5133,.own 5134,.own 5135]),(5131,.arr 43 7 (l13.map cOp)),(5135,.box 54 [pfx 2 (r17.2.2.2.2.2.1.1.map zAX) r17.2.2.2.2.2.1.2,Y r17.2.2.2.2.2.2.1,.own 5136]),(5132,.arr 9 1 (r17.2.2.2.2.2.2.2.1.map cStr)),(5133,.arr 43 7 (r17.2.2.2.2.2.2.2.2.1.map cOp)),(5134,.arr 43 7 (r17.2.2.2.2.2.2.2.2.2.1.map cOp)),(5136,.arr 43 7 (r17.2.2.2.2.2.2.2.2.2.2.map cOp)),(4,.box 77 [.loc 13 0]),(3,.box 28 [Y 0]),(2,.box 25 [.v (.slice none 0 0),.v (.slice none 0 0)])] ?_
       refine zBE [0,1,3,7,0,16,48,112,240,496,0,1024,4080,8191,16383] mixed (by kernel_rfl) (by kernel_rfl) Z Z ?_
       refine vf [8,9] [100] [] [4,13] [4] [(50,.loc 13 0)] [(4,.box 77 [.loc 13 0])] ?_
       refine ve [100] [102] [13] [(51,.loc 13 0)] ?_
       refine ve [102] [104] [13] [(52,.loc 13 2)] ?_
       refine vf [27,104] [106] [] [13,5130,5131] [13] [(53,.ela 5130 5 (r17.2.2.2.1.1.length) 3)] [(13,.box 80 [.own 5130,.own 5131,.ela 5130 5 (r17.2.2.2.1.1.length) 3,Y r17.2.2.1])] ?_
       refine vf [8,9] [108] [] [4,13] [4] [(54,.loc 13 0)] [(4,.box 77 [.loc 13 0])] ?_
       refine ve [108] [110] [13] [(55,.loc 13 0)] ?_
       refine ve [110] [112] [13] [(56,.loc 13 2)] ?_
       refine vf [27,112] [114] [] [13,5130,5131] [13] [(57,.ela 5130 5 (r17.2.2.2.1.1.length) 3)] [(13,.box 80 [.own 5130,.own 5131,.ela 5130 5 (r17.2.2.2.1.1.length) 3,Y r17.2.2.1])] ?_
       refine ve [114] [116] [5130] [(58,.ela 5130 5 (r17.2.2.2.1.1.length) 3)] ?_
       refine vs [116,10261] [118] [] [5130,5132,5133,5134,5135] [5130] [(59,.own 5134)] [(5130,.box 51 [pfx 5 (r17.2.2.2.1.1.map zAL) true,O r17.2.2.2.2.1,.own 5132,.own 5133,.own 5134,.own 5135])] Z Z (fun w0 X X0 σ0 _=>by refine zBe (T:=tab) (by simp) Z Z Z Z Z Z Z Z ?_;exact py) ?_
       refine vf [12,13] [120] [] [6] [6] [(60,.agg (cOp r20.1))] [(6,.box 43 [Y r20.1.Kind,Y r20.1.A,Y r20.1.B,Y r20.1.C,D r20.1.S,D r20.1.T,O r20.1.Must])] ?_
       refine vs [120] [122,123] [61] [] [] [(61,.own 61)] [(61,.arr 43 7 ([r20.1].map cOp))] Z Z (fun w0 X X0 σ0 _=>by refine zCj (T:=tab) (rows:=[r20.1].map cOp) 61 Z Z Z Z Z Z Z Z Z Z Z Z Z Z ?_;exact py) ?_
       refine vt (zEF 72 (r17.2.2.2.2.2.2.2.2.2.1.length+([r20.1]:List Op).length)) [(124,[5134]),(118,[]),(10261,[5132,5133,5135]),(10269,[])] [118,122,123,10261,10269] [124,118,10261,10269] [5134] [61,5130,5132,5133,5135] [61] (fun _=>[(62,.own 5134)]) (fun _=>[(5130,.box 51 [pfx 5 (r17.2.2.2.1.1.map zAL) true,O r17.2.2.2.2.1,.own 5132,.own 5133,.junk,.own 5135]),(5134,.arr 43 7 ((r17.2.2.2.2.2.2.2.2.2.1++[r20.1]).map cOp)),(61,.arr 43 7 ([r20.1].map cOp))]) Z Z (fun _=>Z) (fun w0 X X0 σ0 _=>by refine zDw (T:=tab) cOp r17.2.2.2.2.2.2.2.2.2.1 ([r20.1]:List Op) Z Z Z Z Z Z Z Z Z Z Z Z Z Z (zIk _) Z Z Z Z Z ?_;exact pz) fun _ h0=>?_
       refine ve [106] [126] [5130] [(63,.ela 5130 5 (r17.2.2.2.1.1.length) 3)] ?_
       refine vs [124,126,10261,10269] [10261] [] [5130,5132,5133,5134,5135] [5134] [] [(5130,.box 51 [pfx 5 (r17.2.2.2.1.1.map zAL) true,O r17.2.2.2.2.1,.own 5132,.own 5133,.own 5134,.own 5135]),(5134,.arr 43 7 ((r17.2.2.2.2.2.2.2.2.2.1++[r20.1]).map cOp))] Z Z (fun w0 X X0 σ0 _=>by refine zDS (T:=tab) (by simp) Z Z Z Z Z Z Z Z Z Z Z Z ?_;exact py) ?_
       refine zBd Z Z ?_
       refine zAJ ?_
       refine zED 13 [.own 5130,.own 5131,.sel 2 [.loc 13 1,.ela 5130 5 (r17.2.2.2.1.1.length) 2,.ela 5130 5 (r17.2.2.2.1.1.length) 3,.ela 5135 2 (r17.2.2.2.2.2.1.1.length) 1],Y r17.2.2.1] Z ⟨.rfl,.rfl,(.sel Z Z),.rfl,trivial⟩ Z ?_
       exact zEk (2,r17.2.2.1,(r17.2.2.2.1.1,true),r17.2.2.2.2.1,r17.2.2.2.2.2.2.2.1,r17.2.2.2.2.2.2.2.2.1,(r17.2.2.2.2.2.2.2.2.2.1++[r20.1]),r17.2.2.2.2.2.1,r17.2.2.2.2.2.2.1,r17.2.2.2.2.2.2.2.2.2.2,l13) ⟨Z,Z,Z,Z,Z,Z,Z,Z,Z,Z,Z,trivial⟩ Z
     ·refine zHC (E':=[(2,.loc 2 0),(3,.loc 3 0),(4,.loc 4 0),(22,D y14),(5,D r16),(23,D y14),(24,D r16),(25,D r16),(26,O (r16==([]:Bs))),(27,O false),(28,.loc 13 0),(29,D r16),(30,O r17.1),(31,O r17.1)]) (S':=[(13,.box 80 [.own 5130,.own 5131,.ela 5135 2 (r17.2.2.2.2.2.1.1.length) 1,Y r17.2.2.1]),(5130,.box 51 [pfx 5 (r17.2.2.2.1.1.map zAL) r17.2.2.2.1.2,O r17.2.2.2.2.1,.own 5132,.own 5133,.own 5134,.own 5135]),(5131,.arr 43 7 (l13.map cOp)),(5135,.box 54 [pfx 2 (r17.2.2.2.2.2.1.1.map zAX) r17.2.2.2.2.2.1.2,Y r17.2.2.2.2.2.2.1,.own 5136]),(5132,.arr 9 1 (r17.2.2.2.2.2.2.2.1.map cStr)),(5133,.arr 43 7 (r17.2.2.2.2.2.2.2.2.1.map cOp)),(5134,.arr 43 7 (r17.2.2.2.2.2.2.2.2.2.1.map cOp)),(5136,.arr 43 7 (r17.2.2.2.2.2.2.2.2.2.2.map cOp)),(4,.box 77 [.loc 13 0]),(3,.box 28 [Y 0]),(2,.box 25 [.v (.slice none 0 0),.v (.slice none 0 0)])]) Z Z ?_
      refine su [(2,.loc 2 0),(3,.loc 3 0),(4,.loc 4 0),(22,D y14),(5,D r16),(23,D y14),(24,D r16),(25,D r16),(26,O (r16==([]:Bs))),(27,O false),(28,.loc 13 0),(29,D r16),(30,O r17.1),(31,O r17.1)] [(13,.box 80 [.own 5130,.own 5131,.ela 5135 2 (r17.2.2.2.2.2.1.1.length) 1,Y r17.2.2.1]),(5130,.box 51 [pfx 5 (r17.2.2.2.1.1.map zAL) r17.2.2.2.1.2,O r17.2.2.2.2.1,.own 5132,.own 5133,.own 5134,.own 5135]),(5131,.arr 43 7 (l13.map cOp)),(5135,.box 54 [pfx 2 (r17.2.2.2.2.2.1.1.map zAX) r17.2.2.2.2.2.1.2,Y r17.2.2.2.2.2.2.1,.own 5136]),(5132,.arr 9 1 (r17.2.2.2.2.2.2.2.1.map cStr)),(5133,.arr 43 7 (r17.2.2.2.2.2.2.2.2.1.map cOp)),(5134,.arr 43 7 (r17.2.2.2.2.2.2.2.2.2.1.map cOp)),(5136,.arr 43 7 (r17.2.2.2.2.2.2.2.2.2.2.map cOp)),(4,.box 77 [.loc 13 0]),(3,.box 28 [Y 0]),(2,.box 25 [.v (.slice none 0 0),.v (.slice none 0 0)])] ?_
      refine zL6 (fun b_=>[(2,.loc 2 0),(3,.loc 3 0),(4,.loc 4 0),(22,D y14),(5,D r16),(23,D y14),(24,D r16),(25,D r16),(26,O (r16==([]:Bs))),(27,O false),(28,.loc 13 0),(29,D r16),(30,O r17.1),(31,O r17.1)]) (fun b_=>[(13,.box 80 [.own 5130,.own 5131,.ela 5135 2 (r17.2.2.2.2.2.1.1.length) 1,Y r17.2.2.1]),(5130,.box 51 [pfx 5 (r17.2.2.2.1.1.map zAL) r17.2.2.2.1.2,O r17.2.2.2.2.1,.own 5132,.own 5133,.own 5134,.own 5135]),(5131,.arr 43 7 (l13.map cOp)),(5135,.box 54 [pfx 2 (r17.2.2.2.2.2.1.1.map zAX) b_,Y r17.2.2.2.2.2.2.1,.own 5136]),(5132,.arr 9 1 (r17.2.2.2.2.2.2.2.1.map cStr)),(5133,.arr 43 7 (r17.2.2.2.2.2.2.2.2.1.map cOp)),(5134,.arr 43 7 (r17.2.2.2.2.2.2.2.2.2.1.map cOp)),(5136,.arr 43 7 (r17.2.2.2.2.2.2.2.2.2.2.map cOp)),(4,.box 77 [.loc 13 0]),(3,.box 28 [Y 0]),(2,.box 25 [.v (.slice none 0 0),.v (.slice none 0 0)])]) r17.2.2.2.2.2.1.2 ?_
      refine su [(2,.loc 2 0),(3,.loc 3 0),(4,.loc 4 0),(5,D r16)] [(13,.box 80 [.own 5130,.own 5131,.ela 5135 2 (r17.2.2.2.2.2.1.1.length) 1,Y r17.2.2.1]),(5130,.box 51 [pfx 5 (r17.2.2.2.1.1.map zAL) r17.2.2.2.1.2,O r17.2.2.2.2.1,.own 5132,.own 5133,.own 5134,.own 5135]),(5131,.arr 43 7 (l13.map cOp)),(5135,.box 54 [pfx 2 (r17.2.2.2.2.2.1.1.map zAX) true,Y r17.2.2.2.2.2.2.1,.own 5136]),(5132,.arr 9 1 (r17.2.2.2.2.2.2.2.1.map cStr)),(5133,.arr 43 7 (r17.2.2.2.2.2.2.2.2.1.map cOp)),(5134,.arr 43 7 (r17.2.2.2.2.2.2.2.2.2.1.map cOp)),(5136,.arr 43 7 (r17.2.2.2.2.2.2.2.2.2.2.map cOp)),(4,.box 77 [.loc 13 0]),(3,.box 28 [Y 0]),(2,.box 25 [.v (.slice none 0 0),.v (.slice none 0 0)])] ?_
      refine zBE [0,1,3,7,15,31,63,0,128,384,896,2047] mixed (by kernel_rfl) (by kernel_rfl) Z Z ?_
      refine vf [8,9] [64] [] [4,13] [4] [(32,.loc 13 0)] [(4,.box 77 [.loc 13 0])] ?_
      refine ve [64] [66] [13] [(33,.loc 13 0)] ?_
      refine ve [66] [68] [13] [(34,.loc 13 2)] ?_
      refine vf [27,68] [70] [] [13,5130,5131,5135] [13] [(35,.ela 5135 2 (r17.2.2.2.2.2.1.1.length) 1)] [(13,.box 80 [.own 5130,.own 5131,.ela 5135 2 (r17.2.2.2.2.2.1.1.length) 1,Y r17.2.2.1])] ?_
      refine ve [70] [72] [5135] [(36,.ela 5135 2 (r17.2.2.2.2.2.1.1.length) 1)] ?_
      refine vs [72,10271] [74] [] [5135,5136] [5135] [(37,.own 5136)] [(5135,.box 54 [pfx 2 (r17.2.2.2.2.2.1.1.map zAX) true,Y r17.2.2.2.2.2.2.1,.own 5136])] Z Z (fun w0 X X0 σ0 _=>by refine zBe (T:=tab) (by simp) Z Z Z Z Z Z Z Z ?_;exact py) ?_
      refine vs [74,10273] [76] [] [5136] [5136] [(38,Y ((r17.2.2.2.2.2.2.2.2.2.2.length:Nat):Int))] [(5136,.arr 43 7 (r17.2.2.2.2.2.2.2.2.2.2.map cOp))] Z Z (fun w0 X X0 σ0 _=>by refine zCE (T:=tab) cOp r17.2.2.2.2.2.2.2.2.2.2 Z Z Z Z Z Z Z Z Z ?_;exact py) ?_
      refine vf [8,9] [78] [] [4,13] [4] [(39,.loc 13 0)] [(4,.box 77 [.loc 13 0])] ?_
      refine ve [78] [80] [13] [(40,.loc 13 0)] ?_
      refine ve [80] [82] [13] [(41,.loc 13 3)] ?_
      refine vf [27,82] [84] [] [13,5130,5131,5135] [13] [(42,Y r17.2.2.1)] [(13,.box 80 [.own 5130,.own 5131,.ela 5135 2 (r17.2.2.2.2.2.1.1.length) 1,Y r17.2.2.1])] ?_
      refine ve [76,84] [86] [] [(43,O (((r17.2.2.2.2.2.2.2.2.2.2.length:Nat):Int)==r17.2.2.1))] ?_
      refine zBd Z Z ?_
      refine zAA ?_
      refine zAN Z ?_ ?_
      ·refine sr ?_
       refine zAi (T:=tab) Z Z Z Z Z Z Z ?_
       refine zAI (T:=tab) Z Z Z Z Z Z Z Z Z Z Z Z ?_
       refine zAI (T:=tab) Z Z Z Z Z Z Z Z Z Z Z Z ?_
       refine ns ?_
       refine zDy 2 [.sl 5 false ([].map zAL),.sl 7 false ([].map cOp)] Z ⟨.nil,.nil,trivial⟩ Z ?_
       exact zGa Z ⟨Z,Z,trivial⟩ Z
      ·refine zAE (zAA (sr (pq 1 Z ?_)))
       refine pc (zFI fu r16) zLT Z Z Z Z fun r21 hr21=>?_
       refine pq 3 Z ?_
       refine zA4 (T:=tab) 6 Z Z Z Z Z Z Z Z Z ?_
       refine zAI (T:=tab) Z Z Z Z Z Z Z Z Z Z Z Z ?_
       refine pq 1 Z (ns ?_)
       refine su [(2,.loc 2 0),(3,.loc 3 0),(4,.loc 4 0),(6,.loc 6 0)] [(6,.box 43 [Y r21.1.Kind,Y r21.1.A,Y r21.1.B,Y r21.1.C,D r21.1.S,D r21.1.T,O r21.1.Must]),(13,.box 80 [.own 5130,.own 5131,.ela 5135 2 (r17.2.2.2.2.2.1.1.length) 1,Y r17.2.2.1]),(5130,.box 51 [pfx 5 (r17.2.2.2.1.1.map zAL) r17.2.2.2.1.2,O r17.2.2.2.2.1,.own 5132,.own 5133,.own 5134,.own 5135]),(5131,.arr 43 7 (l13.map cOp)),(5135,.box 54 [pfx 2 (r17.2.2.2.2.2.1.1.map zAX) true,Y r17.2.2.2.2.2.2.1,.own 5136]),(5132,.arr 9 1 (r17.2.2.2.2.2.2.2.1.map cStr)),(5133,.arr 43 7 (r17.2.2.2.2.2.2.2.2.1.map cOp)),(5134,.arr 43 7 (r17.2.2.2.2.2.2.2.2.2.1.map cOp)),(5136,.arr 43 7 (r17.2.2.2.2.2.2.2.2.2.2.map cOp)),(4,.box 77 [.loc 13 0]),(3,.box 28 [Y 0]),(2,.box 25 [.v (.slice none 0 0),.v (.slice none 0 0)])] ?_
       refine zBE [0,1,3,7,0,16,48,112,240,496,0,1024,4080,8191,16383] mixed (by kernel_rfl) (by kernel_rfl) Z Z ?_
       refine vf [8,9] [100] [] [4,13] [4] [(50,.loc 13 0)] [(4,.box 77 [.loc 13 0])] ?_
       refine ve [100] [102] [13] [(51,.loc 13 0)] ?_
       refine ve [102] [104] [13] [(52,.loc 13 2)] ?_
       refine vf [27,104] [106] [] [13,5130,5131,5135] [13] [(53,.ela 5135 2 (r17.2.2.2.2.2.1.1.length) 1)] [(13,.box 80 [.own 5130,.own 5131,.ela 5135 2 (r17.2.2.2.2.2.1.1.length) 1,Y r17.2.2.1])] ?_
       refine vf [8,9] [108] [] [4,13] [4] [(54,.loc 13 0)] [(4,.box 77 [.loc 13 0])] ?_
       refine ve [108] [110] [13] [(55,.loc 13 0)] ?_
       refine ve [110] [112] [13] [(56,.loc 13 2)] ?_
       refine vf [27,112] [114] [] [13,5130,5131,5135] [13] [(57,.ela 5135 2 (r17.2.2.2.2.2.1.1.length) 1)] [(13,.box 80 [.own 5130,.own 5131,.ela 5135 2 (r17.2.2.2.2.2.1.1.length) 1,Y r17.2.2.1])] ?_
       refine ve [114] [116] [5135] [(58,.ela 5135 2 (r17.2.2.2.2.2.1.1.length) 1)] ?_
       refine vs [116,10271] [118] [] [5135,5136] [5135] [(59,.own 5136)] [(5135,.box 54 [pfx 2 (r17.2.2.2.2.2.1.1.map zAX) true,Y r17.2.2.2.2.2.2.1,.own 5136])] Z Z (fun w0 X X0 σ0 _=>by refine zBe (T:=tab) (by simp) Z Z Z Z Z Z Z Z ?_;exact py) ?_
       refine vf [12,13] [120] [] [6] [6] [(60,.agg (cOp r21.1))] [(6,.box 43 [Y r21.1.Kind,Y r21.1.A,Y r21.1.B,Y r21.1.C,D r21.1.S,D r21.1.T,O r21.1.Must])] ?_
       refine vs [120] [122,123] [61] [] [] [(61,.own 61)] [(61,.arr 43 7 ([r21.1].map cOp))] Z Z (fun w0 X X0 σ0 _=>by refine zCj (T:=tab) (rows:=[r21.1].map cOp) 61 Z Z Z Z Z Z Z Z Z Z Z Z Z Z ?_;exact py) ?_
       refine vt (zEF 72 (r17.2.2.2.2.2.2.2.2.2.2.length+([r21.1]:List Op).length)) [(124,[5136]),(118,[]),(10271,[]),(10273,[])] [118,122,123,10271,10273] [124,118,10271,10273] [5136] [61,5135] [61] (fun _=>[(62,.own 5136)]) (fun _=>[(5135,.box 54 [pfx 2 (r17.2.2.2.2.2.1.1.map zAX) true,Y r17.2.2.2.2.2.2.1,.junk]),(5136,.arr 43 7 ((r17.2.2.2.2.2.2.2.2.2.2++[r21.1]).map cOp)),(61,.arr 43 7 ([r21.1].map cOp))]) Z Z (fun _=>Z) (fun w0 X X0 σ0 _=>by refine zDw (T:=tab) cOp r17.2.2.2.2.2.2.2.2.2.2 ([r21.1]:List Op) Z Z Z Z Z Z Z Z Z Z Z Z Z Z (zIk _) Z Z Z Z Z ?_;exact pz) fun _ h0=>?_
       refine ve [106] [126] [5135] [(63,.ela 5135 2 (r17.2.2.2.2.2.1.1.length) 1)] ?_
       refine vs [124,126,10271,10273] [10271] [] [5135,5136] [5136] [] [(5135,.box 54 [pfx 2 (r17.2.2.2.2.2.1.1.map zAX) true,Y r17.2.2.2.2.2.2.1,.own 5136]),(5136,.arr 43 7 ((r17.2.2.2.2.2.2.2.2.2.2++[r21.1]).map cOp))] Z Z (fun w0 X X0 σ0 _=>by refine zDS (T:=tab) (by simp) Z Z Z Z Z Z Z Z Z Z Z Z ?_;exact py) ?_
       refine zBd Z Z ?_
       refine zAJ ?_
       refine zED 13 [.own 5130,.own 5131,.sel 3 [.loc 13 1,.ela 5130 5 (r17.2.2.2.1.1.length) 2,.ela 5130 5 (r17.2.2.2.1.1.length) 3,.ela 5135 2 (r17.2.2.2.2.2.1.1.length) 1],Y r17.2.2.1] Z ⟨.rfl,.rfl,(.sel Z Z),.rfl,trivial⟩ Z ?_
       exact zEk (3,r17.2.2.1,r17.2.2.2.1,r17.2.2.2.2.1,r17.2.2.2.2.2.2.2.1,r17.2.2.2.2.2.2.2.2.1,r17.2.2.2.2.2.2.2.2.2.1,(r17.2.2.2.2.2.1.1,true),r17.2.2.2.2.2.2.1,(r17.2.2.2.2.2.2.2.2.2.2++[r21.1]),l13) ⟨Z,Z,Z,Z,Z,Z,Z,Z,Z,Z,Z,trivial⟩ Z
  ·rintro ⟨k3,c4,c5,c6,l7,l8,l9,c10,c11,l12,l13⟩
   refine zAJ (zAA (sr (pq 4 Z ?_)))
   refine zAI (T:=tab) Z Z Z Z Z Z Z Z Z Z Z Z ?_
   refine zAI (T:=tab) Z Z Z Z Z Z Z Z Z Z Z Z ?_
   refine ns ?_
   refine zDz 5132 Z Z Z ?_;refine zDz 5133 Z Z Z ?_;refine zDz 5134 Z Z Z ?_;refine zDz 5136 Z Z Z ?_;refine zQm 5135 zAX c10.1 (⟨c11,l12⟩:Hook) Z Z Z Z ?_;refine zDz 5135 Z Z Z ?_;refine zQm 5130 zAL c5.1 (⟨c6,l7,l8,l9,(c10.1++if c10.2 then [(⟨c11,l12⟩:Hook)] else [])⟩:Class) Z Z Z Z ?_;refine zDz 5130 Z Z Z ?_
   refine zDz 5131 Z Z Z ?_
   exact rN
  ·exact fun r=>zK8 (T:=tab) Z Z Z ⟨Z,Z⟩ trivial Z
def zCM (fu:Nat) (o1:Op):Option Bool:=cnd (!(eqOp o1 (⟨0,0,0,0,[],[],false⟩:Op))) (bnd (zDm fu o1) fun r2=>some (!r2)) (some false)
theorem zIg (fu:Nat) (o1:Op):∀r,zCM fu o1=some r->DC zAh Tryz.prog 33 [.agg (cOp o1)] (O r):=by
 refine fcI Tryz.func33 Z fun w0 X X0 σ0 _=>sr (zE8  1 Z Z Z Z Z Z Z Z Z Z (pq 1 Z (ns (sr (pq 1 Z (zAi (T:=tab) Z Z Z Z Z Z Z (po_ne zNX Z Z Z Z Z Z Z (pq 1 Z (zAK (j:=6) Z ?_ ?_)))))))))
 ·exact pq 1 Z (pc (zHJ fu o1) zQP Z Z Z Z fun r2 hr2=>pq 3 Z (ns rN))
 ·exact pq 5 Z (ns rN)
def zAv (t1:Op->Option Bool) (s1:(List Op)):Nat->Int->Option Int
 | 0,_=>none
 | k1+1,t2=>cnd (decide (t2<((s1.length:Nat):Int))) (bnd (idx s1 t2) fun y3=>bnd (t1 y3) fun r4=>cnd r4 (some t2) (bnd (rng .i64 (t2+1)) fun i5=>(zAv t1 s1 k1) i5)) (some (-1))
def zB6 (fu:Nat) (t1:Op->Option Bool) (s1:(List Op)):Option Int:=(zAv t1 s1) fu 0
theorem zD9 (fu:Nat) (s1:(List Op)):∀r,zB6 fu (fun (z1:Op)=>zCM fu z1) s1=some r->DC zAh Tryz.prog 69 [.sl 7 false (s1.map cOp),.fn (.func 33) [] []] (Y r):=by
 refine fcI Tryz.func69 Z fun w0 X X0 σ0 _=>sr (pq 1 Z (ns (zAD (sr (pq 1 Z (zBh (T:=tab) cOp s1 Z Z Z Z Z Z Z Z (pq 1 Z (ns (zAP (lq (zAv (fun (z1:Op)=>zCM fu z1) s1) (fun (t2:Int)=>[(0,.sl 7 false (s1.map cOp)),(1,.fn (.func 33) [] []),(7,Y ((s1.length:Nat):Int)),(8,Y t2)]) (fun (t2:Int)=>[]) fu 0 ?_))))))))))
 rintro k1 t2
 refine sr (pq 1 Z (ns (zAD (zAN Z ?_ ?_))))
 ·refine zAE (zAA (zAD (zAP (sr (pq 2 Z (ns (sr (pq 3 Z (zCi (T:=tab) cOp s1 Z Z Z Z Z Z Z fun y3 hy3=>pq 1 Z (zDK (enc:=fun (r4:Bool)=>O r4) (first:=[]) (cap:=[]) (qs:=[.agg (cOp y3)]) (Sc:=[]) (zIg fu y3) (zBY trivial Z) Z Z Z Z ⟨⟨_,Z,.rfl⟩,trivial⟩ (fun _=>Z) call33 Z Z fun r4 hr4=>ns (zAN Z ?_ ?_)))))))))))
  ·exact sr (pq 2 Z (ns rN))
  ·exact zAE (zAJ (zAA (zAB (zAT (T:=tab) Z Z Z Z fun i5 hi5=>pq 1 Z (zAH (zBt i5 ⟨Z,Z,Z,Z,trivial⟩ trivial Z))))))
 ·exact zA0 Z (zAA (sr (pq 1 Z (ns rN))))
def zBI (fu:Nat) (t1:Op->Option Bool) (s1:(List Op)):Option Bool:=bnd (zB6 fu t1 s1) fun r2=>some (decide (r2>=0))
theorem zDf (fu:Nat) (s1:(List Op)):∀r,zBI fu (fun (z1:Op)=>zCM fu z1) s1=some r->DC zAh Tryz.prog 32 [.sl 7 false (s1.map cOp),.fn (.func 33) [] []] (O r):=by
 exact fcI Tryz.func32 Z fun w0 X X0 σ0 _=>sr (pq 1 Z (ns (sr (pq 2 Z (pc (zD9 fu s1) call69 Z Z Z Z fun r2 hr2=>pq 2 Z (ns rN))))))
def zBO (fu:Nat) (s1:Bs):Option Bool:=bnd (zEG fu s1) fun r2=>cnd (r2.2 != 0) (some true) (some (!(r2.1==s1)))
theorem zF1 (fu:Nat) (s1:Bs):∀r,zBO fu s1=some r->DC zAh Tryz.prog 56 [D s1] (O r):=by
 refine fcI Tryz.func56 Z fun w0 X X0 σ0 _=>sr (pq 1 Z (ns (sr (pq 1 Z (pc (zHH fu s1) zQN Z Z Z Z fun r2 hr2=>pq 5 Z (ns (sr (pq 3 Z (zAK (j:=12) Z ?_ ?_)))))))))
 ·exact pq 5 Z (ns rN)
 ·exact pq 5 Z (ns rN)
def zAr (t1:Bs->Option Bool) (s1:(List Bs)):Nat->Int->Option Int
 | 0,_=>none
 | k1+1,t2=>cnd (decide (t2<((s1.length:Nat):Int))) (bnd (idx s1 t2) fun y3=>bnd (t1 y3) fun r4=>cnd r4 (some t2) (bnd (rng .i64 (t2+1)) fun i5=>(zAr t1 s1 k1) i5)) (some (-1))
def zB2 (fu:Nat) (t1:Bs->Option Bool) (s1:(List Bs)):Option Int:=(zAr t1 s1) fu 0
theorem zD1 (fu:Nat) (s1:(List Bs)):∀r,zB2 fu (fun (z1:Bs)=>zBO fu z1) s1=some r->DC zAh Tryz.prog 94 [.sl 1 false (s1.map cStr),.fn (.func 56) [] []] (Y r):=by
 refine fcI Tryz.func94 Z fun w0 X X0 σ0 _=>sr (pq 1 Z (ns (zAD (sr (pq 1 Z (zBh (T:=tab) cStr s1 Z Z Z Z Z Z Z Z (pq 1 Z (ns (zAP (lq (zAr (fun (z1:Bs)=>zBO fu z1) s1) (fun (t2:Int)=>[(0,.sl 1 false (s1.map cStr)),(1,.fn (.func 56) [] []),(7,Y ((s1.length:Nat):Int)),(8,Y t2)]) (fun (t2:Int)=>[]) fu 0 ?_))))))))))
 rintro k1 t2
 refine sr (pq 1 Z (ns (zAD (zAN Z ?_ ?_))))
 ·refine zAE (zAA (zAD (zAP (sr (pq 2 Z (ns (sr (pq 3 Z (zCi (T:=tab) cStr s1 Z Z Z Z Z Z Z fun y3 hy3=>pq 1 Z (zDK (enc:=fun (r4:Bool)=>O r4) (first:=[]) (cap:=[]) (qs:=[D y3]) (Sc:=[]) (zF1 fu y3) (zBY trivial Z) Z Z Z Z ⟨⟨_,Z,.rfl⟩,trivial⟩ (fun _=>Z) call56 Z Z fun r4 hr4=>ns (zAN Z ?_ ?_)))))))))))
  ·exact sr (pq 2 Z (ns rN))
  ·exact zAE (zAJ (zAA (zAB (zAT (T:=tab) Z Z Z Z fun i5 hi5=>pq 1 Z (zAH (zBt i5 ⟨Z,Z,Z,Z,trivial⟩ trivial Z))))))
 ·exact zA0 Z (zAA (sr (pq 1 Z (ns rN))))
def zBG (fu:Nat) (t1:Bs->Option Bool) (s1:(List Bs)):Option Bool:=bnd (zB2 fu t1 s1) fun r2=>some (decide (r2>=0))
theorem zDW (fu:Nat) (s1:(List Bs)):∀r,zBG fu (fun (z1:Bs)=>zBO fu z1) s1=some r->DC zAh Tryz.prog 60 [.sl 1 false (s1.map cStr),.fn (.func 56) [] []] (O r):=by
 exact fcI Tryz.func60 Z fun w0 X X0 σ0 _=>sr (pq 1 Z (ns (sr (pq 2 Z (pc (zD1 fu s1) call94 Z Z Z Z fun r2 hr2=>pq 2 Z (ns rN))))))
def zDQ (_fu:Nat) (l1:(List Op)):Option Bool:=some (decide (((l1.length:Nat):Int)>60))
theorem zEa (fu:Nat) (l1:(List Op)):∀r,zDQ fu l1=some r->DC zAh Tryz.prog 59 [.sl 7 false (l1.map cOp)] (O r):=by
 exact fcI Tryz.func59 Z fun w0 X X0 σ0 _=>sr (pq 1 Z (ns (sr (pq 1 Z (zBh (T:=tab) cOp l1 Z Z Z Z Z Z Z Z (pq 2 Z (ns rN)))))))
def zBP (fu:Nat) (h1:Hook):Option Bool:=cnd (decide (h1.Kind<1)) (some true) (cnd (decide (h1.Kind>8)) (some true) (bnd (zDQ fu h1.Do) fun r2=>some r2))
theorem zF2 (fu:Nat) (h1:Hook):∀r,zBP fu h1=some r->DC zAh Tryz.prog 58 [.agg (zAX h1)] (O r):=by
 refine fcI Tryz.func58 Z fun w0 X X0 σ0 _=>sr (zE8  1 Z Z Z Z Z Z Z Z Z Z (pq 1 Z (ns (sr (pq 4 Z (zAK (j:=6) Z ?_ ?_))))))
 ·exact pq 10 Z (ns rN)
 ·refine pq 5 Z (zAK (j:=11) Z ?_ ?_)
  ·exact pq 5 Z (ns rN)
  ·exact pq 2 Z (pc (zEa fu h1.Do) zNE Z Z Z Z fun r2 hr2=>pq 2 Z (ns rN))
def zAm (t1:Hook->Option Bool) (s1:(List Hook)):Nat->Int->Option Int
 | 0,_=>none
 | k1+1,t2=>cnd (decide (t2<((s1.length:Nat):Int))) (bnd (idx s1 t2) fun y3=>bnd (t1 y3) fun r4=>cnd r4 (some t2) (bnd (rng .i64 (t2+1)) fun i5=>(zAm t1 s1 k1) i5)) (some (-1))
def zBu (fu:Nat) (t1:Hook->Option Bool) (s1:(List Hook)):Option Int:=(zAm t1 s1) fu 0
theorem zDr (fu:Nat) (s1:(List Hook)):∀r,zBu fu (fun (z1:Hook)=>zBP fu z1) s1=some r->DC zAh Tryz.prog 95 [.sl 2 false (s1.map zAX),.fn (.func 58) [] []] (Y r):=by
 refine fcI Tryz.func95 Z fun w0 X X0 σ0 _=>sr (pq 1 Z (ns (zAD (sr (pq 1 Z (zBh (T:=tab) zAX s1 Z Z Z Z Z Z Z Z (pq 1 Z (ns (zAP (lq (zAm (fun (z1:Hook)=>zBP fu z1) s1) (fun (t2:Int)=>[(0,.sl 2 false (s1.map zAX)),(1,.fn (.func 58) [] []),(7,Y ((s1.length:Nat):Int)),(8,Y t2)]) (fun (t2:Int)=>[]) fu 0 ?_))))))))))
 rintro k1 t2
 refine sr (pq 1 Z (ns (zAD (zAN Z ?_ ?_))))
 ·refine zAE (zAA (zAD (zAP (sr (pq 2 Z (ns (sr (pq 3 Z (zCi (T:=tab) zAX s1 Z Z Z Z Z Z Z fun y3 hy3=>pq 1 Z (zDK (enc:=fun (r4:Bool)=>O r4) (first:=[]) (cap:=[]) (qs:=[.agg (zAX y3)]) (Sc:=[]) (zF2 fu y3) (zBY trivial Z) Z Z Z Z ⟨⟨_,Z,.rfl⟩,trivial⟩ (fun _=>Z) call58 Z Z fun r4 hr4=>ns (zAN Z ?_ ?_)))))))))))
  ·exact sr (pq 2 Z (ns rN))
  ·exact zAE (zAJ (zAA (zAB (zAT (T:=tab) Z Z Z Z fun i5 hi5=>pq 1 Z (zAH (zBt i5 ⟨Z,Z,Z,Z,trivial⟩ trivial Z))))))
 ·exact zA0 Z (zAA (sr (pq 1 Z (ns rN))))
def zBD (fu:Nat) (t1:Hook->Option Bool) (s1:(List Hook)):Option Bool:=bnd (zBu fu t1 s1) fun r2=>some (decide (r2>=0))
theorem zDO (fu:Nat) (s1:(List Hook)):∀r,zBD fu (fun (z1:Hook)=>zBP fu z1) s1=some r->DC zAh Tryz.prog 61 [.sl 2 false (s1.map zAX),.fn (.func 58) [] []] (O r):=by
 exact fcI Tryz.func61 Z fun w0 X X0 σ0 _=>sr (pq 1 Z (ns (sr (pq 2 Z (pc (zDr fu s1) call95 Z Z Z Z fun r2 hr2=>pq 2 Z (ns rN))))))
def zBr (fu:Nat) (c1:Class):Option Bool:=cnd (decide (((c1.Watch.length:Nat):Int)<=12)) (bnd (zBG fu (fun (z1:Bs)=>zBO fu z1) c1.Watch) fun r2=>cnd (!r2) (cnd (decide (((c1.Hooks.length:Nat):Int)<=12)) (bnd (zBD fu (fun (z1:Hook)=>zBP fu z1) c1.Hooks) fun r3=>cnd (!r3) (bnd (zDQ fu c1.Peek) fun r4=>cnd (!r4) (bnd (zDQ fu c1.Make) fun r5=>some (!r5)) (some false)) (some false)) (some false)) (some false)) (some false)
theorem zEo (fu:Nat) (c1:Class):∀r,zBr fu c1=some r->DC zAh Tryz.prog 21 [.agg (zAL c1)] (O r):=by
 refine fcI Tryz.func21 Z fun w0 X X0 σ0 _=>sr (zE8  1 Z Z Z Z Z Z Z Z Z Z (pq 1 Z (ns (sr (pq 1 Z (ns (sr (pq 1 Z (ns (sr (pq 2 Z (zBh (T:=tab) cStr c1.Watch Z Z Z Z Z Z Z Z (pq 2 Z (zAK (j:=9) Z ?_ ?_))))))))))))))
 ·refine pq 3 Z (pc (zDW fu c1.Watch) call60 Z Z Z Z fun r2 hr2=>pq 3 Z (zAK (j:=16) Z ?_ ?_))
  ·refine pq 2 Z (zBh (T:=tab) zAX c1.Hooks Z Z Z Z Z Z Z Z (pq 3 Z (zAK (j:=22) Z ?_ ?_)))
   ·refine pq 3 Z (pc (zDO fu c1.Hooks) call61 Z Z Z Z fun r3 hr3=>pq 3 Z (zAK (j:=29) Z ?_ ?_))
    ·refine pq 2 Z (pc (zEa fu c1.Peek) zNE Z Z Z Z fun r4 hr4=>pq 3 Z (zAK (j:=35) Z ?_ ?_))
     ·exact pq 2 Z (pc (zEa fu c1.Make) zNE Z Z Z Z fun r5 hr5=>pq 3 Z (ns rN))
     ·exact pq 6 Z (ns rN)
    ·exact pq 12 Z (ns rN)
   ·exact pq 19 Z (ns rN)
  ·exact pq 25 Z (ns rN)
 ·exact pq 32 Z (ns rN)
def zBa (fu:Nat) (c1:Class):Option Bool:=bnd (zBr fu c1) fun r2=>some (!r2)
theorem zFk (fu:Nat) (c1:Class):∀r,zBa fu c1=some r->DC zAh Tryz.prog 35 [.agg (zAL c1)] (O r):=by
 exact fcI Tryz.func35 Z fun w0 X X0 σ0 _=>sr (zE8  1 Z Z Z Z Z Z Z Z Z Z (pq 1 Z (ns (sr (pq 1 Z (pc (zEo fu c1) zQH Z Z Z Z fun r2 hr2=>pq 2 Z (ns rN)))))))
def zAj (t1:Class->Option Bool) (s1:(List Class)):Nat->Int->Option Int
 | 0,_=>none
 | k1+1,t2=>cnd (decide (t2<((s1.length:Nat):Int))) (bnd (idx s1 t2) fun y3=>bnd (t1 y3) fun r4=>cnd r4 (some t2) (bnd (rng .i64 (t2+1)) fun i5=>(zAj t1 s1 k1) i5)) (some (-1))
def zBq (fu:Nat) (t1:Class->Option Bool) (s1:(List Class)):Option Int:=(zAj t1 s1) fu 0
theorem zDg (fu:Nat) (s1:(List Class)):∀r,zBq fu (fun (z1:Class)=>zBa fu z1) s1=some r->DC zAh Tryz.prog 71 [.sl 5 false (s1.map zAL),.fn (.func 35) [] []] (Y r):=by
 refine fcI Tryz.func71 Z fun w0 X X0 σ0 _=>sr (pq 1 Z (ns (zAD (sr (pq 1 Z (zBh (T:=tab) zAL s1 Z Z Z Z Z Z Z Z (pq 1 Z (ns (zAP (lq (zAj (fun (z1:Class)=>zBa fu z1) s1) (fun (t2:Int)=>[(0,.sl 5 false (s1.map zAL)),(1,.fn (.func 35) [] []),(7,Y ((s1.length:Nat):Int)),(8,Y t2)]) (fun (t2:Int)=>[]) fu 0 ?_))))))))))
 rintro k1 t2
 refine sr (pq 1 Z (ns (zAD (zAN Z ?_ ?_))))
 ·refine zAE (zAA (zAD (zAP (sr (pq 2 Z (ns (sr (pq 3 Z (zCi (T:=tab) zAL s1 Z Z Z Z Z Z Z fun y3 hy3=>pq 1 Z (zDK (enc:=fun (r4:Bool)=>O r4) (first:=[]) (cap:=[]) (qs:=[.agg (zAL y3)]) (Sc:=[]) (zFk fu y3) (zBY trivial Z) Z Z Z Z ⟨⟨_,Z,.rfl⟩,trivial⟩ (fun _=>Z) call35 Z Z fun r4 hr4=>ns (zAN Z ?_ ?_)))))))))))
  ·exact sr (pq 2 Z (ns rN))
  ·exact zAE (zAJ (zAA (zAB (zAT (T:=tab) Z Z Z Z fun i5 hi5=>pq 1 Z (zAH (zBt i5 ⟨Z,Z,Z,Z,trivial⟩ trivial Z))))))
 ·exact zA0 Z (zAA (sr (pq 1 Z (ns rN))))
def zA8 (fu:Nat) (t1:Class->Option Bool) (s1:(List Class)):Option Bool:=bnd (zBq fu t1 s1) fun r2=>some (decide (r2>=0))
theorem zDD (fu:Nat) (s1:(List Class)):∀r,zA8 fu (fun (z1:Class)=>zBa fu z1) s1=some r->DC zAh Tryz.prog 34 [.sl 5 false (s1.map zAL),.fn (.func 35) [] []] (O r):=by
 exact fcI Tryz.func34 Z fun w0 X X0 σ0 _=>sr (pq 1 Z (ns (sr (pq 2 Z (pc (zDg fu s1) call71 Z Z Z Z fun r2 hr2=>pq 2 Z (ns rN))))))
def zBn (fu:Nat) (s1:Script):List (List Op×Int)->Unit->Option Bool
 | [],_=>cnd (decide (((s1.Classes.length:Nat):Int)<=12)) (bnd (zA8 fu (fun (z1:Class)=>zBa fu z1) s1.Classes) fun r5=>some (!r5)) (some false)
 | y2::ys3,_=>cnd (decide (((y2.1.length:Nat):Int)>y2.2)) (some false) (bnd (zBI fu (fun (z1:Op)=>zCM fu z1) y2.1) fun r4=>cnd r4 (some false) ((zBn fu s1 ys3) ()))
def zCC (fu:Nat) (s1:Script):Option Bool:=(zBn fu s1) (zAt s1) ()
theorem zEL (fu:Nat) (s1:Script):∀r,zCC fu s1=some r->DC zAh Tryz.prog 13 [.agg (zHR s1)] (O r):=by
 refine fcI Tryz.func13 Z fun w0 X X0 σ0 _=>sr (zE8  1 Z Z Z Z Z Z Z Z Z Z (zA4 (T:=tab) 2 Z Z Z Z Z Z Z Z Z (ns (zAD (sr (pq 1 Z (po_mk (n:=3006) (zK5 s1) Z Z Z Z Z Z Z Z Z Z Z ⟨⟨_,Z,.rfl⟩,trivial⟩ call31 Z Z (ns (zAP (zRh (ys0:=zAt s1) (p1:=fun y:(List Op×Int)=>.sl 7 false (y.1.map cOp)) (p2:=fun y:(List Op×Int)=>Y y.2) (x0:=()) (n:=3006) (M:=(zBn fu s1)) (Sf:=fun (_:Unit)=>[(2,.box 4 [O false]),(1,.box 25 [.sl 5 false (s1.Classes.map zAL),.sl 7 false (s1.Main.map cOp)])]) (SR:=fun r:Bool=>[(2,.box 4 [O r])]) (N1:=[1,2]) (E0:=[(1,.loc 1 0),(2,.loc 2 0)]) (E1:=fun y2=>[(1,.loc 1 0),(2,.loc 2 0),(7,.sl 7 false (y2.1.map cOp)),(8,Y y2.2),(3,.sl 7 false (y2.1.map cOp)),(4,Y y2.2)]) (zK6 s1) call68 (fun _=>Z) (fun _=>Z) Z Z Z ⟨Z,Z,trivial⟩ Z Z ⟨Z,Z,trivial⟩ Z Z Z Z ?_ ?_ ?_ ?_))))))))))
 ·rintro y2 _ w0 X X0 σ0 _ _
  exact sr (pq 1 Z (ns (zAB (pq 1 Z (zAH (zEu ⟨Z,Z,Z,Z,Z,Z,trivial⟩ ⟨Z,Z,trivial⟩ Z))))))
 ·rintro y2 ys3 _ w0 X X0 σ0 _ _
  refine zAP (sr (pq 1 Z (zBh (T:=tab) cOp y2.1 Z Z Z Z Z Z Z Z (pq 3 Z (zAK (j:=13) Z ?_ ?_)))))
  ·refine pq 3 Z (zAH (zAA (zAc Z ?_)))
   exact sr (zAI (T:=tab) Z Z Z Z Z Z Z Z Z Z Z Z (ns (zGa Z ⟨Z,trivial⟩ Z)))
  ·refine pq 1 Z (pc (zDf fu y2.1) call32 Z Z Z Z fun r4 hr4=>pq 1 Z (ns (zAN Z ?_ ?_)))
   ·exact sr (zAI (T:=tab) Z Z Z Z Z Z Z Z Z Z Z Z (ns (zGa Z ⟨Z,trivial⟩ Z)))
   ·exact zAE (zAJ (zEk () ⟨Z,Z,trivial⟩ Z))
 ·rintro _
  refine zAJ (zAA (sr (pq 2 Z (zBh (T:=tab) zAL s1.Classes Z Z Z Z Z Z Z Z (pq 2 Z (zAK (j:=21) Z ?_ ?_))))))
  ·exact pq 2 Z (pc (zDD fu s1.Classes) call34 Z Z Z Z fun r5 hr5=>pq 2 Z (zAI (T:=tab) Z Z Z Z Z Z Z Z Z Z Z Z (ns rN)))
  ·exact pq 5 Z (zAI (T:=tab) Z Z Z Z Z Z Z Z Z Z Z Z (ns rN))
 ·exact fun r=>zK8 (T:=tab) Z Z Z ⟨Z,Z⟩ trivial Z
theorem zDF (fu:Nat) (l1:(List Int)):∀r,zAY fu=some r->FC zAh Tryz.prog 98 [.loc 900000 0] [(900000,.box 64 [.nloc 900000 0,.ownb 900001]),(900001,.arr 5 1 (l1.map zAC))] [900000,900001] fun p S'=>p=.tup []/\S'=[(900000,.box 64 [.nloc 900000 0,.ownb 900001]),(900001,.arr 5 1 (l1.map zAC))]:=by
 refine fcI Tryz.func98 Z fun w0 X X0 σ0 _=>sr (pq 3 Z (zHn 900000 0 Z Z Z Z Z Z ?_ ?_))
 ·exact pq 1 Z (zGI (T:=tab) Tryz.underlying59 Z Z Z Z Z Z Z Z (ns (zAc Z (zAB (pq 2 Z (zFu (T:=tab) Tryz.underlying59 Tryz.underlying160 Z Z Tryz.func120 Z Z Z Z Z Z Z Z Z (by kernel_rfl) Z Z Z Z Z Z Z Z Z Z Z (pq 2 Z (zAI (T:=tab) Z Z Z Z Z Z Z Z Z Z Z Z (zAH (zED 900000 [.nloc 900000 0,.ownb 900001] Z ⟨.nloc1,.rfl,trivial⟩ Z (zDY (T:=tab) Z Z Z ⟨Z,Z⟩ ⟨Z,Z,trivial⟩ Z)))))))))))
 ·exact pq 1 Z (zGI (T:=tab) Tryz.underlying59 Z Z Z Z Z Z Z Z (ns (zAs Z (sr (pq 5 Z (zGI (T:=tab) Tryz.underlying59 Z Z Z Z Z Z Z Z (ns (zAs Z (zAE (zED 900000 [.nloc 900000 0,.ownb 900001] Z ⟨.nloc1,.rfl,trivial⟩ Z (zDY (T:=tab) Z Z Z ⟨Z,Z⟩ ⟨Z,Z,trivial⟩ Z)))))))))))
theorem zB0 (fu:Nat) (s1:Bs) (l2:(List Int)):∀r,zAF fu s1 l2=some r->FC zAh Tryz.prog 65 [.loc 900000 0,D s1] [(900000,.box 64 [.nloc 900000 0,.ownb 900001]),(900001,.arr 5 1 (l2.map zAC))] [900000] fun p S'=>p=.tup [Y r.1,.err r.2.1]/\S'=[(900000,.box 64 [.nloc 900000 0,.ownb 900001]),(900001,.arr 5 1 (r.2.2.map zAC))]:=by
 exact fcI Tryz.func65 Z fun w0 X X0 σ0 _=>sr (pq 2 Z (ns (sr (pq 1 Z (zDK (enc:=fun (r3:Unit)=>.tup []) (first:=[]) (cap:=[]) (qs:=[.loc 900000 0]) (Sc:=[(900000,.box 64 [.nloc 900000 0,.ownb 900001]),(900001,.arr 5 1 (l2.map zAC))]) (fun r3 hr3=>zH6 [(900000,900000),(900001,900001)] [900000,900001] (zDF fu l2 _ hr3) Z Z Z Z Z Z) (zBY ⟨Z,Z,trivial⟩ Z) Z Z Z Z ⟨⟨_,Z,.rfl⟩,trivial⟩ (fun _=>Z) zNH Z Z fun r3 hr3=>ns (sr (pq 6 Z (zGH (T:=tab) zAC l2 (fun _=>Z) Z Z Z Z Z Z Z Z Z Z Z Z Z Z Z Z (pq 2 Z (zAI (T:=tab) Z Z Z Z Z Z Z Z Z Z Z Z (ns (sr (pq 4 Z (ns (zOV 5 (q:=.err false) Z .err0 rN)))))))))))))))
def zAQ (fu:Nat) (l1:(List Bs)) (l2:(List Int)):Option (List Int):=bnd (zJu fu l1 ([32]:Bs)) fun r3=>bnd (zAF fu r3 l2) fun r4=>bnd (zAF fu [10] r4.2.2) fun r5=>some r5.2.2
theorem zAx (fu:Nat) (l1:(List Bs)) (l2:(List Int)):∀r,zAQ fu l1 l2=some r->FC zAh Tryz.prog 26 [.loc 900000 0,.own 900001] [(900000,.box 64 [.nloc 900000 0,.ownb 900002]),(900001,.arr 9 1 (l1.map cStr)),(900002,.arr 5 1 (l2.map zAC))] [900000,900001] fun p S'=>p=.tup []/\S'=[(900000,.box 64 [.nloc 900000 0,.ownb 900002]),(900001,.arr 9 1 (l1.map cStr)),(900002,.arr 5 1 (r.map zAC))]:=by
 refine fcI Tryz.func26 Z fun w0 X X0 σ0 _=>zAD (su [(0,.loc 900000 0),(1,.own 900001)] [(900000,.box 64 [.nloc 900000 0,.ownb 900002]),(900001,.arr 9 1 (l1.map cStr)),(900002,.arr 5 1 (l2.map zAC))] (zBE [0,1,3,0,8,31] mixed (by kernel_rfl) (by kernel_rfl) Z Z (ve [0] [8] [900000] [(4,.loc 900000 0)] ?_)))
 refine ve [8] [10] [900000] [(5,.loc 900000 0)] ?_
 refine ve [10] [12] [900000] [(6,.loc 900000 0)] ?_
 refine ve [2] [14] [900001] [(7,.own 900001)] ?_
 refine vt (zJu fu l1 ([32]:Bs)) [(16,[])] [14,1800003] [16] [] [900001] [900001] (fun r3=>[(8,D r3)]) (fun r3=>[(900001,.arr 9 1 (l1.map cStr))]) Z Z (fun _=>Z) (fun w0 X X0 σ0 _=>by refine zDK (enc:=fun (r3:Bs)=>D r3) (first:=[]) (cap:=[]) (qs:=[.own 900001,D ([32]:Bs)]) (Sc:=[(900001,.arr 9 1 (l1.map cStr))]) (zRK fu 900001 9 l1 ([32]:Bs)) (zBY ⟨Z,trivial⟩ Z) Z Z Z Z ⟨⟨_,Z,.rfl⟩,⟨_,Z,.rfl⟩,trivial⟩ (fun _=>Z) call66 Z Z fun r3 hr3=>?_;exact pz) fun r3 hr3=>?_
 refine vt (zAF fu r3 l2) [(18,[]),(1800005,[]),(1800001,[900000,900002])] [12,16,1800001,1800005] [18,1800005,1800001] [900002] [900000] [] (fun r4=>[(9,.tup [Y r4.1,.err r4.2.1])]) (fun r4=>[(900002,.arr 5 1 (r4.2.2.map zAC)),(900000,.box 64 [.nloc 900000 0,.ownb 900002])]) Z Z (fun _=>Z) (fun w0 X X0 σ0 _=>by refine tu [900002] (enc:=fun (r4:(Int×Bool×(List Int)))=>.tup [Y r4.1,.err r4.2.1]) (Sr:=fun (r4:(Int×Bool×(List Int)))=>[(900000,.box 64 [.nloc 900000 0,.ownb 900002]),(900002,.arr 5 1 (r4.2.2.map zAC))]) (qs:=[.loc 900000 0,D r3]) (Sc:=[(900000,.box 64 [.nloc 900000 0,.ownb 900002]),(900002,.arr 5 1 (l2.map zAC))]) (N1:=[900000]) (NR:=[900000,900002]) (fun r4 hr4=>fr [(900000,900000),(900001,900002)] [900000,900001] (zB0 fu r3 l2 _ hr4)) zFd Z Z Z Z Z Z Z Z fun r4 hr4=>?_;exact pz) fun r4 hr4=>?_
 exact zBd Z Z (zAA (zAB (pq 3 Z (tu [900002] (enc:=fun (r5:(Int×Bool×(List Int)))=>.tup [Y r5.1,.err r5.2.1]) (Sr:=fun (r5:(Int×Bool×(List Int)))=>[(900000,.box 64 [.nloc 900000 0,.ownb 900002]),(900002,.arr 5 1 (r5.2.2.map zAC))]) (qs:=[.loc 900000 0,D [10]]) (Sc:=[(900000,.box 64 [.nloc 900000 0,.ownb 900002]),(900002,.arr 5 1 (r4.2.2.map zAC))]) (N1:=[900000]) (NR:=[900000,900002]) (fun r5 hr5=>fr [(900000,900000),(900001,900002)] [900000,900001] (zB0 fu [10] r4.2.2 _ hr5)) zFd Z Z Z Z Z Z Z Z fun r5 hr5=>zAH (zDY (T:=tab) Z Z Z ⟨Z,Z⟩ ⟨Z,Z,Z,trivial⟩ Z)))))
def zAe (fu:Nat) (l2:(List Op)):Nat->Int×(List Int)->Option (List Int)
 | 0,_=>none
 | k1+1,(t6,l7)=>cnd (decide (t6<((l2.length:Nat):Int))) (bnd (idx l2 t6) fun y8=>bnd (zFH fu y8) fun r9=>cnd (r9.2 != 0) (bnd (zAQ fu [[63]] l7) fun r10=>bnd (rng .i64 (t6+1)) fun i12=>(zAe fu l2 k1) (i12,r10)) (bnd (zAQ fu [r9.1] l7) fun r11=>bnd (rng .i64 (t6+1)) fun i13=>(zAe fu l2 k1) (i13,r11))) (some l7)
def zBU (fu:Nat) (l2:(List Op)) (l5:(List Int)):Option (List Int):=(zAe fu l2) fu (0,l5)
def zA6 (fu:Nat) (head1:Bs) (l2:(List Op)) (l3:(List Int)):Option (List Int):=cnd (decide (((l2.length:Nat):Int)>0)) (cnd (!(head1==([]:Bs))) (bnd (zAQ fu [head1] l3) fun r4=>(zBU fu l2) r4) ((zBU fu l2) l3)) ((zBU fu l2) l3)
theorem zBz (fu:Nat) (head1:Bs) (l2:(List Op)) (l3:(List Int)):∀r,zA6 fu head1 l2 l3=some r->FC zAh Tryz.prog 27 [.loc 900000 0,D head1,.sl 7 false (l2.map cOp)] [(900000,.box 64 [.nloc 900000 0,.ownb 900001]),(900001,.arr 5 1 (l3.map zAC))] [900000] fun p S'=>p=.tup []/\S'=[(900000,.box 64 [.nloc 900000 0,.ownb 900001]),(900001,.arr 5 1 (r.map zAC))]:=by
 refine fcI Tryz.func27 Z fun w0 X X0 σ0 _=>zAD (sr (zL1 (zBU fu l2) (fun (l5:(List Int))=>[(0,.loc 900000 0),(2,.sl 7 false (l2.map cOp))]) (fun (l5:(List Int))=>[(900000,.box 64 [.nloc 900000 0,.ownb 900001]),(900001,.arr 5 1 (l5.map zAC))]) ?_ fun hj1=>?_))
 ·rintro l5
  refine zAA (sr (pq 1 Z (zBh (T:=tab) cOp l2 Z Z Z Z Z Z Z Z (pq 1 Z (ns (zAP (lq (zAe fu l2) (fun ((t6,l7):Int×(List Int))=>[(0,.loc 900000 0),(21,.sl 7 false (l2.map cOp)),(22,Y ((l2.length:Nat):Int)),(23,Y t6)]) (fun ((t6,l7):Int×(List Int))=>[(900000,.box 64 [.nloc 900000 0,.ownb 900001]),(900001,.arr 5 1 (l7.map zAC))]) fu (0,l5) ?_)))))))
  rintro k1 ⟨t6,l7⟩
  refine sr (pq 1 Z (ns (zAD (zAN Z ?_ ?_))))
  ·refine zAE (zAA (zAD (zAP (sr (zCi (T:=tab) cOp l2 Z Z Z Z Z Z Z fun y8 hy8=>pq 1 Z (zA4 (T:=tab) 7 Z Z Z Z Z Z Z Z Z (zAI (T:=tab) Z Z Z Z Z Z Z Z Z Z Z Z (ns (sr (pq 1 Z (pc (zJU fu y8) zQM Z Z Z Z fun r9 hr9=>pq 5 Z (ns (zAD (sr (pq 2 Z (ns (zAN Z ?_ ?_)))))))))))))))))
   ·exact zAB (pq 1 Z (ns (zAB (pq 2 Z (zCj (T:=tab) (rows:=[[63]].map cStr) 36 Z Z Z Z Z Z Z Z Z Z Z Z Z Z (tu [900001] (enc:=fun (r10:(List Int))=>.tup []) (Sr:=fun (r10:(List Int))=>[(900000,.box 64 [.nloc 900000 0,.ownb 900001]),(36,.arr 9 1 ([[63]].map cStr)),(900001,.arr 5 1 (r10.map zAC))]) (qs:=[.loc 900000 0,.own 36]) (Sc:=[(900000,.box 64 [.nloc 900000 0,.ownb 900001]),(36,.arr 9 1 ([[63]].map cStr)),(900001,.arr 5 1 (l7.map zAC))]) (N1:=[900000,36]) (NR:=[900000,36,900001]) (fun r10 hr10=>fr [(900000,900000),(900001,36),(900002,900001)] [900000,900001,900002] (zAx fu [[63]] l7 _ hr10)) zHS Z Z Z Z Z Z Z Z fun r10 hr10=>zAH (zAJ (zAA (zAB (zAT (T:=tab) Z Z Z Z fun i12 hi12=>pq 1 Z (zAH (zBt (i12,r10) ⟨Z,Z,Z,Z,trivial⟩ ⟨Z,Z,trivial⟩ Z))))))))))))
   ·exact zAE (zAA (zAB (pq 2 Z (zCj (T:=tab) (rows:=[r9.1].map cStr) 36 Z Z Z Z Z Z Z Z Z Z Z Z Z Z (tu [900001] (enc:=fun (r11:(List Int))=>.tup []) (Sr:=fun (r11:(List Int))=>[(900000,.box 64 [.nloc 900000 0,.ownb 900001]),(36,.arr 9 1 ([r9.1].map cStr)),(900001,.arr 5 1 (r11.map zAC))]) (qs:=[.loc 900000 0,.own 36]) (Sc:=[(900000,.box 64 [.nloc 900000 0,.ownb 900001]),(36,.arr 9 1 ([r9.1].map cStr)),(900001,.arr 5 1 (l7.map zAC))]) (N1:=[900000,36]) (NR:=[900000,36,900001]) (fun r11 hr11=>fr [(900000,900000),(900001,36),(900002,900001)] [900000,900001,900002] (zAx fu [r9.1] l7 _ hr11)) zHS Z Z Z Z Z Z Z Z fun r11 hr11=>zAH (zAJ (zAA (zAB (zAT (T:=tab) Z Z Z Z fun i13 hi13=>pq 1 Z (zAH (zBt (i13,r11) ⟨Z,Z,Z,Z,trivial⟩ ⟨Z,Z,trivial⟩ Z)))))))))))
  ·exact zA0 Z (zDY (T:=tab) Z Z Z ⟨Z,Z⟩ ⟨Z,Z,trivial⟩ Z)
 ·refine pq 1 Z (zBh (T:=tab) cOp l2 Z Z Z Z Z Z Z Z (pq 2 Z (zAK (j:=13) Z ?_ ?_)))
  ·refine pq 3 Z (ns (zAN Z ?_ ?_))
   ·exact zAB (pq 2 Z (zCj (T:=tab) (rows:=[head1].map cStr) 19 Z Z Z Z Z Z Z Z Z Z Z Z Z Z (tu [900001] (enc:=fun (r4:(List Int))=>.tup []) (Sr:=fun (r4:(List Int))=>[(900000,.box 64 [.nloc 900000 0,.ownb 900001]),(19,.arr 9 1 ([head1].map cStr)),(900001,.arr 5 1 (r4.map zAC))]) (qs:=[.loc 900000 0,.own 19]) (Sc:=[(900000,.box 64 [.nloc 900000 0,.ownb 900001]),(19,.arr 9 1 ([head1].map cStr)),(900001,.arr 5 1 (l3.map zAC))]) (N1:=[900000,19]) (NR:=[900000,19,900001]) (fun r4 hr4=>fr [(900000,900000),(900001,19),(900002,900001)] [900000,900001,900002] (zAx fu [head1] l3 _ hr4)) zHS Z Z Z Z Z Z Z Z fun r4 hr4=>zAH (ps (hj1 r4)))))
   ·exact zAE (ps (hj1 l3))
  ·refine pq 3 Z (zAH (zAA (zAs Z ?_)))
   exact zAE (ps (hj1 l3))
def zCN (_fu:Nat) (l1:(List Int)):Option Int:=some ((l1.length:Nat):Int)
theorem zEs (fu:Nat) (l1:(List Int)):∀r,zCN fu l1=some r->FC zAh Tryz.prog 29 [.loc 900000 0] [(900000,.box 64 [.nloc 900000 0,.ownb 900001]),(900001,.arr 5 1 (l1.map zAC))] [900000,900001] fun p S'=>p=Y r/\S'=[(900000,.box 64 [.nloc 900000 0,.ownb 900001]),(900001,.arr 5 1 (l1.map zAC))]:=by
 exact fcI Tryz.func29 Z fun w0 X X0 σ0 _=>sr (pq 1 Z (ns (sr (pq 4 Z (zJ9 6 (q:=.own 900001) Z .ownb (zCE (T:=tab) zAC l1 Z Z Z Z Z Z Z Z Z (pq 1 Z (ns rN))))))))
theorem zDh (fu:Nat) (l1:(List Int)):∀r,zAV fu l1=some r->FC zAh Tryz.prog 30 [.loc 900000 0] [(900000,.box 64 [.nloc 900000 0,.ownb 900001]),(900001,.arr 5 1 (l1.map zAC))] [900000,900001] fun p S'=>p=D r/\S'=[(900000,.box 64 [.nloc 900000 0,.junk])]:=by
 refine fcI Tryz.func30 Z fun w0 X X0 σ0 _=>sr (pq 1 Z (ns (zAD (su [(0,.loc 900000 0)] [(900000,.box 64 [.nloc 900000 0,.ownb 900001]),(900001,.arr 5 1 (l1.map zAC))] (zBE [0,1,3,7,15,0,32,96,224,480,1023,2047] mixed (by kernel_rfl) (by kernel_rfl) Z Z (ve [0] [6] [900000] [(3,.loc 900000 0)] ?_))))))
 refine ve [6] [8] [900000] [(4,.loc 900000 0)] ?_
 refine ve [8] [10] [900000] [(5,.loc 900000 1)] ?_
 refine vf [10,1800001] [12] [] [900000,900001] [900000] [(6,.ownb 900001)] [(900000,.box 64 [.nloc 900000 0,.ownb 900001])] ?_
 refine vs [12,1800003] [14] [] [900001] [900001] [(7,.dat 900001)] [(900001,.arr 5 1 (l1.map zAC))] Z Z (fun w0 X X0 σ0 _=>by refine zFA Z Z Z Z Z Z ?_;exact py) ?_
 refine ve [0] [16] [900000] [(8,.loc 900000 0)] ?_
 refine ve [16] [18] [900000] [(9,.loc 900000 0)] ?_
 refine ve [18] [20] [900000] [(10,.loc 900000 1)] ?_
 refine vf [20,1800001] [22] [] [900000,900001] [900000] [(11,.ownb 900001)] [(900000,.box 64 [.nloc 900000 0,.ownb 900001])] ?_
 refine vs [22,1800003] [24,22] [] [900001] [900001] [(12,Y ((l1.length:Nat):Int)),(11,.own 900001)] [(900001,.arr 5 1 (l1.map zAC))] Z Z (fun w0 X X0 σ0 _=>by refine zJ9 11 (q:=.own 900001) Z .ownb ?_;refine zCE (T:=tab) zAC l1 Z Z Z Z Z Z Z Z Z ?_;exact py) ?_
 refine vs [12,14,22,24,1800001,1800003] [26,12,14,22,1800001,1800003] [] [900000,900001] [] [(13,D (zDk l1)),(11,.sl 1 false (l1.map zAC))] [(900000,.box 64 [.nloc 900000 0,.junk])] Z Z (fun w0 X X0 σ0 _=>by refine zFv zAC l1 (fun _=>Z) Z Z Z Z Z Z Z Tryz.underlying127 (by kernel_rfl) Z Z Z Z ?_;exact py) ?_
 refine ve [26] [4] [] [(2,D (zDk l1))] ?_
 exact zBd Z Z (zAA rN)
def zCZ (fu:Nat) (t3:Int) (y5:Class) (rc1:(Int×(List Int))->Option (Bs×Int)):Nat->Int×(List Int)->Option (Bs×Int)
 | 0,_=>none
 | k3+1,(t16,l17)=>cnd (decide (t16<((y5.Hooks.length:Nat):Int))) (bnd (idx y5.Hooks t16) fun y18=>bnd (zCe fu) fun r19=>bnd (idx r19 y18.Kind) fun y20=>bnd (zAQ fu [[111,110],y20] l17) fun r21=>bnd (zA6 fu [] y18.Do r21) fun r22=>bnd (rng .i64 (t16+1)) fun i23=>(zCZ fu t3 y5 rc1 k3) (i23,r22)) (bnd (rng .i64 (t3+1)) fun i24=>rc1 (i24,l17))
def zCY (fu:Nat) (t3:Int) (y5:Class) (rc1:(Int×(List Int))->Option (Bs×Int)):Nat->Int×(List Int)->Option (Bs×Int)
 | 0,_=>none
 | k2+1,(t9,l10)=>cnd (decide (t9<((y5.Watch.length:Nat):Int))) (bnd (idx y5.Watch t9) fun y11=>bnd (zAQ fu [[119,97,116,99,104],y11] l10) fun r12=>bnd (rng .i64 (t9+1)) fun i13=>(zCY fu t3 y5 rc1 k2) (i13,r12)) (bnd (zA6 fu [112,101,101,107] y5.Peek l10) fun r14=>bnd (zA6 fu [109,97,107,101] y5.Make r14) fun r15=>(zCZ fu t3 y5 rc1) fu (0,r15))
def zCy (fu:Nat) (t3:Int) (y5:Class) (rc1:(Int×(List Int))->Option (Bs×Int)) (l8:(List Int)):Option (Bs×Int):=(zCY fu t3 y5 rc1) fu (0,l8)
def zA3 (fu:Nat) (s1:Script):Nat->Int×(List Int)->Option (Bs×Int)
 | 0,_=>none
 | k1+1,(t3,l4)=>cnd (decide (t3<((s1.Classes.length:Nat):Int))) (bnd (idx s1.Classes t3) fun y5=>cnd y5.Form (bnd (zAQ fu [[99,108,97,115,115],[102,111,114,109]] l4) fun r6=>(zCy fu t3 y5 (zA3 fu s1 k1)) r6) (bnd (zAQ fu [[99,108,97,115,115]] l4) fun r7=>(zCy fu t3 y5 (zA3 fu s1 k1)) r7)) (bnd (zA6 fu [109,97,105,110] s1.Main l4) fun r25=>bnd (zCN fu r25) fun r26=>cnd (decide (r26>16384)) (some ([],3)) (bnd (zAV fu r25) fun r27=>some (r27,0)))
def zDN (fu:Nat) (s1:Script):Option (Bs×Int):=bnd (zCC fu s1) fun r2=>cnd (!r2) (some ([],1)) ((zA3 fu s1) fu (0,[]))
theorem zIf (fu:Nat) (s1:Script):∀r,zDN fu s1=some r->DC zAh Tryz.prog 12 [.agg (zHR s1)] (.tup [D r.1,Y r.2]):=by
 refine fcI Tryz.func12 Z fun w0 X X0 σ0 _=>sr (zE8  1 Z Z Z Z Z Z Z Z Z Z (pq 2 Z (ns (zAD (sr (pq 1 Z (pc (zEL fu s1) zQG Z Z Z Z fun r2 hr2=>pq 1 Z (ns (zAN Z ?_ ?_)))))))))
 ·exact sr (pq 2 Z (ns rN))
 ·refine zAE (zAA (sr (zA4 (T:=tab) 4 Z Z Z Z Z Z Z Z Z ?_)))
  refine zKz 4 [.nloc 4 0,.v (.slice none 0 0)] Z ⟨.nloc0,.rfl,trivial⟩ Z ?_
  refine zE9 5040 5 1 4 1 Z Z Z Z Z Z (ns (zAD (sr (pq 2 Z (zBh (T:=tab) zAL s1.Classes Z Z Z Z Z Z Z Z (pq 1 Z (ns (zAP (lq (zA3 fu s1) (fun ((t3,l4):Int×(List Int))=>[(1,.loc 1 0),(4,.loc 4 0),(15,.sl 5 false (s1.Classes.map zAL)),(16,Y ((s1.Classes.length:Nat):Int)),(17,Y t3)]) (fun ((t3,l4):Int×(List Int))=>[(5040,.arr 5 1 (l4.map zAC)),(4,.box 64 [.nloc 4 0,.ownb 5040]),(1,.box 25 [.sl 5 false (s1.Classes.map zAL),.sl 7 false (s1.Main.map cOp)])]) fu (0,[]) ?_)))))))))
  rintro k1 ⟨t3,l4⟩
  refine sr (pq 1 Z (ns (zAD (zAN Z ?_ ?_))))
  ·refine zAE (zAA (zAD (zAP (sr (zCi (T:=tab) zAL s1.Classes Z Z Z Z Z Z Z fun y5 hy5=>pq 1 Z (zA4 (T:=tab) 6 Z Z Z Z Z Z Z Z Z (zAI (T:=tab) Z Z Z Z Z Z Z Z Z Z Z Z (ns (zAD (sr (pq 2 Z (ns (zBj (zCy fu t3 y5 (zA3 fu s1 k1)) (fun (l8:(List Int))=>[(1,.loc 1 0),(4,.loc 4 0),(6,.loc 6 0),(15,.sl 5 false (s1.Classes.map zAL)),(16,Y ((s1.Classes.length:Nat):Int)),(17,Y t3)]) (fun (l8:(List Int))=>[(4,.box 64 [.nloc 4 0,.ownb 5040]),(5040,.arr 5 1 (l8.map zAC)),(6,.box 51 [O y5.Form,.sl 1 false (y5.Watch.map cStr),.sl 7 false (y5.Peek.map cOp),.sl 7 false (y5.Make.map cOp),.sl 2 false (y5.Hooks.map zAX)]),(1,.box 25 [.sl 5 false (s1.Classes.map zAL),.sl 7 false (s1.Main.map cOp)])]) ?_ fun hj1=>?_)))))))))))))
   ·rintro l8
    refine zAA (zAD (sr (pq 2 Z (zBh (T:=tab) cStr y5.Watch Z Z Z Z Z Z Z Z (pq 1 Z (ns (zAP (lq (zCY fu t3 y5 (zA3 fu s1 k1)) (fun ((t9,l10):Int×(List Int))=>[(1,.loc 1 0),(4,.loc 4 0),(6,.loc 6 0),(15,.sl 5 false (s1.Classes.map zAL)),(16,Y ((s1.Classes.length:Nat):Int)),(17,Y t3),(28,.sl 1 false (y5.Watch.map cStr)),(29,Y ((y5.Watch.length:Nat):Int)),(30,Y t9)]) (fun ((t9,l10):Int×(List Int))=>[(4,.box 64 [.nloc 4 0,.ownb 5040]),(5040,.arr 5 1 (l10.map zAC)),(6,.box 51 [O y5.Form,.sl 1 false (y5.Watch.map cStr),.sl 7 false (y5.Peek.map cOp),.sl 7 false (y5.Make.map cOp),.sl 2 false (y5.Hooks.map zAX)]),(1,.box 25 [.sl 5 false (s1.Classes.map zAL),.sl 7 false (s1.Main.map cOp)])]) fu (0,l8) ?_))))))))
    rintro k2 ⟨t9,l10⟩
    refine sr (pq 1 Z (ns (zAD (zAN Z ?_ ?_))))
    ·refine zAE (zAA (zAD (zAP (sr (zCi (T:=tab) cStr y5.Watch Z Z Z Z Z Z Z fun y11 hy11=>pq 2 Z (ns (zAB (pq 1 Z ?_))))))))
     refine zCj (T:=tab) (rows:=[[119,97,116,99,104],y11].map cStr) 35 Z Z Z Z Z Z Z Z Z Z Z Z Z Z ?_
     exact tu [5040] (enc:=fun (r12:(List Int))=>.tup []) (Sr:=fun (r12:(List Int))=>[(4,.box 64 [.nloc 4 0,.ownb 5040]),(35,.arr 9 1 ([[119,97,116,99,104],y11].map cStr)),(5040,.arr 5 1 (r12.map zAC))]) (qs:=[.loc 4 0,.own 35]) (Sc:=[(4,.box 64 [.nloc 4 0,.ownb 5040]),(35,.arr 9 1 ([[119,97,116,99,104],y11].map cStr)),(5040,.arr 5 1 (l10.map zAC))]) (N1:=[4,35]) (NR:=[4,35,5040]) (fun r12 hr12=>fr [(900000,4),(900001,35),(900002,5040)] [900000,900001,900002] (zAx fu [[119,97,116,99,104],y11] l10 _ hr12)) zHS Z Z Z Z Z Z Z Z fun r12 hr12=>zAH (zAJ (zAA (zAB (zAT (T:=tab) Z Z Z Z fun i13 hi13=>pq 1 Z (zAH (zBt (i13,r12) ⟨Z,Z,Z,Z,Z,Z,Z,Z,Z,trivial⟩ ⟨Z,Z,Z,Z,trivial⟩ Z))))))
    ·refine zA0 Z (zAA (sr (pq 2 Z (tu [5040] (enc:=fun (r14:(List Int))=>.tup []) (Sr:=fun (r14:(List Int))=>[(4,.box 64 [.nloc 4 0,.ownb 5040]),(5040,.arr 5 1 (r14.map zAC))]) (qs:=[.loc 4 0,D [112,101,101,107],.sl 7 false (y5.Peek.map cOp)]) (Sc:=[(4,.box 64 [.nloc 4 0,.ownb 5040]),(5040,.arr 5 1 (l10.map zAC))]) (N1:=[4]) (NR:=[4,5040]) (fun r14 hr14=>fr [(900000,4),(900001,5040)] [900000,900001] (zBz fu [112,101,101,107] y5.Peek l10 _ hr14)) zLU Z Z Z Z Z Z Z Z fun r14 hr14=>ns (sr (pq 2 Z (tu [5040] (enc:=fun (r15:(List Int))=>.tup []) (Sr:=fun (r15:(List Int))=>[(4,.box 64 [.nloc 4 0,.ownb 5040]),(5040,.arr 5 1 (r15.map zAC))]) (qs:=[.loc 4 0,D [109,97,107,101],.sl 7 false (y5.Make.map cOp)]) (Sc:=[(4,.box 64 [.nloc 4 0,.ownb 5040]),(5040,.arr 5 1 (r14.map zAC))]) (N1:=[4]) (NR:=[4,5040]) (fun r15 hr15=>fr [(900000,4),(900001,5040)] [900000,900001] (zBz fu [109,97,107,101] y5.Make r14 _ hr15)) zLU Z Z Z Z Z Z Z Z fun r15 hr15=>ns (sr (pq 2 Z (zBh (T:=tab) zAX y5.Hooks Z Z Z Z Z Z Z Z (pq 1 Z (ns (zAP (lq (zCZ fu t3 y5 (zA3 fu s1 k1)) (fun ((t16,l17):Int×(List Int))=>[(1,.loc 1 0),(4,.loc 4 0),(15,.sl 5 false (s1.Classes.map zAL)),(16,Y ((s1.Classes.length:Nat):Int)),(17,Y t3),(45,.sl 2 false (y5.Hooks.map zAX)),(46,Y ((y5.Hooks.length:Nat):Int)),(47,Y t16)]) (fun ((t16,l17):Int×(List Int))=>[(4,.box 64 [.nloc 4 0,.ownb 5040]),(5040,.arr 5 1 (l17.map zAC)),(1,.box 25 [.sl 5 false (s1.Classes.map zAL),.sl 7 false (s1.Main.map cOp)])]) fu (0,r15) ?_))))))))))))))
     rintro k3 ⟨t16,l17⟩
     refine sr (pq 1 Z (ns (zAD (zAN Z ?_ ?_))))
     ·refine zAE (zAA (zAD (zAP (sr (zCi (T:=tab) zAX y5.Hooks Z Z Z Z Z Z Z fun y18 hy18=>pq 1 Z (zA4 (T:=tab) 10 Z Z Z Z Z Z Z Z Z (zAI (T:=tab) Z Z Z Z Z Z Z Z Z Z Z Z (ns (zAD (su [(1,.loc 1 0),(4,.loc 4 0),(15,.sl 5 false (s1.Classes.map zAL)),(16,Y ((s1.Classes.length:Nat):Int)),(17,Y t3),(45,.sl 2 false (y5.Hooks.map zAX)),(46,Y ((y5.Hooks.length:Nat):Int)),(47,Y t16),(10,.loc 10 0)] [(10,.box 54 [Y y18.Kind,.sl 7 false (y18.Do.map cOp)]),(4,.box 64 [.nloc 4 0,.ownb 5040]),(5040,.arr 5 1 (l17.map zAC)),(1,.box 25 [.sl 5 false (s1.Classes.map zAL),.sl 7 false (s1.Main.map cOp)])] (zBE [0,0,2,7,15,31,63] mixed (by kernel_rfl) (by kernel_rfl) Z Z (vt (zCe fu) [(102,[])] [] [102] [] [] [] (fun r19=>[(51,.sl 1 false (r19.map cStr))]) (fun r19=>[]) Z Z (fun _=>Z) (fun w0 X X0 σ0 _=>by refine zFt (enc:=fun (r19:(List Bs))=>.sl 1 false (r19.map cStr)) (qs:=[]) (zEx fu) Z Z trivial (fun _=>Z) zQI Z Z fun r19 hr19=>?_;exact pz) fun r19 hr19=>?_))))))))))))
      refine ve [20] [104] [10] [(52,.loc 10 0)] ?_
      refine vf [21,104] [106] [] [10] [10] [(53,Y y18.Kind)] [(10,.box 54 [Y y18.Kind,.sl 7 false (y18.Do.map cOp)])] ?_
      refine vt (idx r19 y18.Kind) [(108,[])] [102,106] [108] [] [] [] (fun y20=>[(54,.el (cStr y20) 0)]) (fun y20=>[]) Z Z (fun _=>Z) (fun w0 X X0 σ0 _=>by refine zCi (T:=tab) cStr r19 Z Z Z Z Z Z Z fun y20 hy20=>?_;exact pz) fun y20 hy20=>?_
      refine ve [108] [110] [] [(55,D y20)] ?_
      refine vs [110] [112,113] [56] [] [] [(56,.own 56)] [(56,.arr 9 1 ([[111,110],y20].map cStr))] Z Z (fun w0 X X0 σ0 _=>by refine zCj (T:=tab) (rows:=[[111,110],y20].map cStr) 56 Z Z Z Z Z Z Z Z Z Z Z Z Z Z ?_;exact py) ?_
      refine vt (zAQ fu [[111,110],y20] l17) [(114,[]),(10081,[]),(9,[4,5040])] [8,9,112,113,10081] [114,10081,9] [5040] [4,56] [56] (fun r21=>[(57,.tup [])]) (fun r21=>[(5040,.arr 5 1 (r21.map zAC)),(4,.box 64 [.nloc 4 0,.ownb 5040]),(56,.arr 9 1 ([[111,110],y20].map cStr))]) Z Z (fun _=>Z) (fun w0 X X0 σ0 _=>by refine tu [5040] (enc:=fun (r21:(List Int))=>.tup []) (Sr:=fun (r21:(List Int))=>[(4,.box 64 [.nloc 4 0,.ownb 5040]),(56,.arr 9 1 ([[111,110],y20].map cStr)),(5040,.arr 5 1 (r21.map zAC))]) (qs:=[.loc 4 0,.own 56]) (Sc:=[(4,.box 64 [.nloc 4 0,.ownb 5040]),(56,.arr 9 1 ([[111,110],y20].map cStr)),(5040,.arr 5 1 (l17.map zAC))]) (N1:=[4,56]) (NR:=[4,56,5040]) (fun r21 hr21=>fr [(900000,4),(900001,56),(900002,5040)] [900000,900001,900002] (zAx fu [[111,110],y20] l17 _ hr21)) zHS Z Z Z Z Z Z Z Z fun r21 hr21=>?_;exact pz) fun r21 hr21=>?_
      exact zBd Z Z (zAA (zAB (pq 2 Z (tu [5040] (enc:=fun (r22:(List Int))=>.tup []) (Sr:=fun (r22:(List Int))=>[(4,.box 64 [.nloc 4 0,.ownb 5040]),(5040,.arr 5 1 (r22.map zAC))]) (qs:=[.loc 4 0,D [],.sl 7 false (y18.Do.map cOp)]) (Sc:=[(4,.box 64 [.nloc 4 0,.ownb 5040]),(5040,.arr 5 1 (r21.map zAC))]) (N1:=[4]) (NR:=[4,5040]) (fun r22 hr22=>fr [(900000,4),(900001,5040)] [900000,900001] (zBz fu [] y18.Do r21 _ hr22)) zLU Z Z Z Z Z Z Z Z fun r22 hr22=>zAH (zAJ (zAA (zAB (zAT (T:=tab) Z Z Z Z fun i23 hi23=>pq 1 Z (zAH (zBt (i23,r22) ⟨Z,Z,Z,Z,Z,Z,Z,Z,trivial⟩ ⟨Z,Z,Z,trivial⟩ Z))))))))))
     ·exact zA0 Z (zAJ (zAA (zAB (zAT (T:=tab) Z Z Z Z fun i24 hi24=>pq 1 Z (zAH (zBt (i24,l17) ⟨Z,Z,Z,Z,Z,trivial⟩ ⟨Z,Z,Z,trivial⟩ Z))))))
   ·refine zAN Z ?_ ?_
    ·refine zAB ?_
     refine zCj (T:=tab) (rows:=[[99,108,97,115,115],[102,111,114,109]].map cStr) 23 Z Z Z Z Z Z Z Z Z Z Z Z Z Z ?_
     exact tu [5040] (enc:=fun (r6:(List Int))=>.tup []) (Sr:=fun (r6:(List Int))=>[(4,.box 64 [.nloc 4 0,.ownb 5040]),(23,.arr 9 1 ([[99,108,97,115,115],[102,111,114,109]].map cStr)),(5040,.arr 5 1 (r6.map zAC))]) (qs:=[.loc 4 0,.own 23]) (Sc:=[(4,.box 64 [.nloc 4 0,.ownb 5040]),(23,.arr 9 1 ([[99,108,97,115,115],[102,111,114,109]].map cStr)),(5040,.arr 5 1 (l4.map zAC))]) (N1:=[4,23]) (NR:=[4,23,5040]) (fun r6 hr6=>fr [(900000,4),(900001,23),(900002,5040)] [900000,900001,900002] (zAx fu [[99,108,97,115,115],[102,111,114,109]] l4 _ hr6)) zHS Z Z Z Z Z Z Z Z fun r6 hr6=>zAH (ps (hj1 r6))
    ·refine zAB ?_
     refine zCj (T:=tab) (rows:=[[99,108,97,115,115]].map cStr) 25 Z Z Z Z Z Z Z Z Z Z Z Z Z Z ?_
     exact tu [5040] (enc:=fun (r7:(List Int))=>.tup []) (Sr:=fun (r7:(List Int))=>[(4,.box 64 [.nloc 4 0,.ownb 5040]),(25,.arr 9 1 ([[99,108,97,115,115]].map cStr)),(5040,.arr 5 1 (r7.map zAC))]) (qs:=[.loc 4 0,.own 25]) (Sc:=[(4,.box 64 [.nloc 4 0,.ownb 5040]),(25,.arr 9 1 ([[99,108,97,115,115]].map cStr)),(5040,.arr 5 1 (l4.map zAC))]) (N1:=[4,25]) (NR:=[4,25,5040]) (fun r7 hr7=>fr [(900000,4),(900001,25),(900002,5040)] [900000,900001,900002] (zAx fu [[99,108,97,115,115]] l4 _ hr7)) zHS Z Z Z Z Z Z Z Z fun r7 hr7=>zAH (ps (hj1 r7))
  ·refine zA0 Z (zAA (sr (pq 2 Z (tu [5040] (enc:=fun (r25:(List Int))=>.tup []) (Sr:=fun (r25:(List Int))=>[(4,.box 64 [.nloc 4 0,.ownb 5040]),(5040,.arr 5 1 (r25.map zAC))]) (qs:=[.loc 4 0,D [109,97,105,110],.sl 7 false (s1.Main.map cOp)]) (Sc:=[(4,.box 64 [.nloc 4 0,.ownb 5040]),(5040,.arr 5 1 (l4.map zAC))]) (N1:=[4]) (NR:=[4,5040]) (fun r25 hr25=>fr [(900000,4),(900001,5040)] [900000,900001] (zBz fu [109,97,105,110] s1.Main l4 _ hr25)) zLU Z Z Z Z Z Z Z Z fun r25 hr25=>ns (zAD (sr (pq 1 Z (zDK (enc:=fun (r26:Int)=>Y r26) (first:=[]) (cap:=[]) (qs:=[.loc 4 0]) (Sc:=[(4,.box 64 [.nloc 4 0,.ownb 5040]),(5040,.arr 5 1 (r25.map zAC))]) (fun r26 hr26=>zH6 [(900000,4),(900001,5040)] [900000,900001] (zEs fu r25 _ hr26) Z Z Z Z Z Z) (zBY ⟨Z,Z,trivial⟩ Z) Z Z Z Z ⟨⟨_,Z,.rfl⟩,trivial⟩ (fun _=>Z) call29 Z Z fun r26 hr26=>pq 1 Z (ns (zAN Z ?_ ?_))))))))))
   ·exact sr (pq 2 Z (ns rN))
   ·exact zAE (zAA (sr (pq 1 Z (tu [] (enc:=fun (r27:Bs)=>D r27) (Sr:=fun (r27:Bs)=>[(4,.box 64 [.nloc 4 0,.junk])]) (qs:=[.loc 4 0]) (Sc:=[(4,.box 64 [.nloc 4 0,.ownb 5040]),(5040,.arr 5 1 (r25.map zAC))]) (N1:=[4,5040]) (NR:=[4]) (fun r27 hr27=>fr [(900000,4),(900001,5040)] [900000,900001] (zDh fu r25 _ hr27)) zLV Z Z Z Z Z Z Z Z fun r27 hr27=>pq 2 Z (ns rN)))))
def zB9 (fu:Nat):Option Bool:=bnd (zCB fu [99,108,97,115,115,32,102,111,114,109,10,119,97,116,99,104,32,97,10,109,97,107,101,10,115,117,112,101,114,10,111,110,32,99,97,109,101,10,33,116,104,114,111,119,10,109,97,105,110,10,100,101,102,105,110,101,32,48,32,34,120,45,97,34,32,34,34,10,63,10]) fun r1=>bnd (zDN fu r1.1) fun r2=>cnd (r1.2==0) (cnd (r2.2==0) (cnd (r2.1==([99,108,97,115,115,32,102,111,114,109,10,119,97,116,99,104,32,97,10,109,97,107,101,10,115,117,112,101,114,10,111,110,32,99,97,109,101,10,33,116,104,114,111,119,10,109,97,105,110,10,100,101,102,105,110,101,32,48,32,34,120,45,97,34,32,34,34,10,63,10]:Bs)) (cnd (((r1.1.Classes.length:Nat):Int)==1) (bnd (idx r1.1.Classes 0) fun y3=>cnd y3.Form (bnd (idx r1.1.Classes 0) fun y4=>cnd (((y4.Make.length:Nat):Int)==1) (bnd (idx r1.1.Classes 0) fun y5=>cnd (((y5.Hooks.length:Nat):Int)==1) (cnd (((r1.1.Main.length:Nat):Int)==2) (bnd (idx r1.1.Main 1) fun y6=>cnd (eqOp y6 (⟨0,0,0,0,[],[],false⟩:Op)) (bnd (zCC fu r1.1) fun r7=>some r7) (some false)) (some false)) (some false)) (some false)) (some false)) (some false)) (some false)) (some false)) (some false)
theorem zFY (fu:Nat):∀r,zB9 fu=some r->DC zAh Tryz.prog 9 [] (O r):=by
 refine fcI Tryz.func9 Z fun w0 X X0 σ0 _=>sr (pq 1 Z (ns (sr (pc (zD8 fu [99,108,97,115,115,32,102,111,114,109,10,119,97,116,99,104,32,97,10,109,97,107,101,10,115,117,112,101,114,10,111,110,32,99,97,109,101,10,33,116,104,114,111,119,10,109,97,105,110,10,100,101,102,105,110,101,32,48,32,34,120,45,97,34,32,34,34,10,63,10]) zM8 Z Z Z Z fun r1 hr1=>pq 3 Z (zA4 (T:=tab) 1 Z Z Z Z Z Z Z Z Z (zAI (T:=tab) Z Z Z Z Z Z Z Z Z Z Z Z (pq 1 Z (ns (sr (pq 1 Z (pc (zIf fu r1.1) call12 Z Z Z Z fun r2 hr2=>pq 5 Z (ns (sr (pq 3 Z (zAK (j:=16) Z ?_ ?_)))))))))))))))
 ·refine pq 4 Z (zAK (j:=20) Z ?_ ?_)
  ·refine pq 4 Z (zAK (j:=24) Z ?_ ?_)
   ·refine pq 2 Z (zBh (T:=tab) zAL r1.1.Classes Z Z Z Z Z Z Z Z (pq 3 Z (zAK (j:=30) Z ?_ ?_)))
    ·refine pq 2 Z (zCi (T:=tab) zAL r1.1.Classes Z Z Z Z Z Z Z fun y3 hy3=>pq 4 Z (zAK (j:=37) Z ?_ ?_))
     ·refine pq 2 Z (zCi (T:=tab) zAL r1.1.Classes Z Z Z Z Z Z Z fun y4 hy4=>pq 2 Z (zBh (T:=tab) cOp y4.Make Z Z Z Z Z Z Z Z (pq 3 Z (zAK (j:=46) Z ?_ ?_))))
      ·refine pq 2 Z (zCi (T:=tab) zAL r1.1.Classes Z Z Z Z Z Z Z fun y5 hy5=>pq 2 Z (zBh (T:=tab) zAX y5.Hooks Z Z Z Z Z Z Z Z (pq 3 Z (zAK (j:=55) Z ?_ ?_))))
       ·refine pq 2 Z (zBh (T:=tab) cOp r1.1.Main Z Z Z Z Z Z Z Z (pq 3 Z (zAK (j:=61) Z ?_ ?_)))
        ·refine pq 2 Z (zCi (T:=tab) cOp r1.1.Main Z Z Z Z Z Z Z fun y6 hy6=>pq 1 Z (zAi (T:=tab) Z Z Z Z Z Z Z (po_eq zNX Z Z Z Z Z Z Z (pq 2 Z (zAK (j:=69) Z ?_ ?_)))))
         ·exact pq 1 Z (pc (zEL fu r1.1) zQG Z Z Z Z fun r7 hr7=>pq 2 Z (ns rN))
         ·exact pq 4 Z (ns rN)
        ·exact pq 12 Z (ns rN)
       ·exact pq 18 Z (ns rN)
      ·exact pq 27 Z (ns rN)
     ·exact pq 36 Z (ns rN)
    ·exact pq 43 Z (ns rN)
   ·exact pq 49 Z (ns rN)
  ·exact pq 53 Z (ns rN)
 ·exact pq 57 Z (ns rN)
def zBZ (a1:(List Op)) (b2:(List Op)):Nat->Int->Option Bool
 | 0,_=>none
 | k1+1,i3=>cnd (decide (i3<((a1.length:Nat):Int))) (bnd (idx a1 i3) fun y4=>bnd (idx b2 i3) fun y5=>cnd (!(eqOp y4 y5)) (some false) (bnd (rng .i64 (i3+1)) fun i6=>(zBZ a1 b2 k1) i6)) (some true)
def zAd (fu:Nat) (a1:(List Op)) (b2:(List Op)):Option Bool:=cnd (((a1.length:Nat):Int) != ((b2.length:Nat):Int)) (some false) ((zBZ a1 b2) fu 0)
theorem zBw (fu:Nat) (a1:(List Op)) (b2:(List Op)):∀r,zAd fu a1 b2=some r->DC zAh Tryz.prog 20 [.sl 7 false (a1.map cOp),.sl 7 false (b2.map cOp)] (O r):=by
 refine fcI Tryz.func20 Z fun w0 X X0 σ0 _=>sr (pq 1 Z (ns (zAD (sr (pq 1 Z (zBh (T:=tab) cOp a1 Z Z Z Z Z Z Z Z (pq 1 Z (zBh (T:=tab) cOp b2 Z Z Z Z Z Z Z Z (pq 1 Z (ns (zAN Z ?_ ?_)))))))))))
 ·exact sr (pq 1 Z (ns rN))
 ·refine zAE (zAA (zAD (sr (pq 1 Z (ns (zAP (lq (zBZ a1 b2) (fun (i3:Int)=>[(0,.sl 7 false (a1.map cOp)),(1,.sl 7 false (b2.map cOp)),(5,Y i3)]) (fun (i3:Int)=>[]) fu 0 ?_)))))))
  rintro k1 i3
  refine zAD (sr (pq 2 Z (zBh (T:=tab) cOp a1 Z Z Z Z Z Z Z Z (pq 1 Z (ns (zAN Z ?_ ?_))))))
  ·refine zAE (zAA (zAD (zAP (zAD (zEl mixed (by kernel_rfl) (zBg (T:=tab) 2 Z Z (zQc (T:=tab) cOp a1 Z Z Z Z Z Z Z fun y4 hy4=>zBg (T:=tab) 3 Z Z (zQc (T:=tab) cOp b2 Z Z Z Z Z Z Z fun y5 hy5=>zBg (T:=tab) 1 Z Z (pd_ne zNX Z Z Z Z Z Z Z (zD7 (zAA (zAN Z ?_ ?_))))))))))))
   ·exact sr (pq 1 Z (ns rN))
   ·exact zAE (zAJ (zAA (zAB (pq 1 Z (zAT (T:=tab) Z Z Z Z fun i6 hi6=>pq 1 Z (zAH (zBt i6 ⟨Z,Z,Z,trivial⟩ trivial Z)))))))
  ·exact zA0 Z (zAA (sr (pq 1 Z (ns rN))))
def zAb (fu:Nat) (s10:Bs) (x_:Unit):Option Bool:=bnd (cat s10 ([10,119,97,116,99,104,32,97,10,112,101,101,107,10,109,97,107,101,10]:Bs)) fun s30=>bnd (zCB fu s30) fun r31=>cnd (r31.2==0) (cnd (((r31.1.Classes.length:Nat):Int)==0) (bnd (zAd fu r31.1.Main [(⟨0,0,0,0,[],[],false⟩:Op),(⟨0,0,0,0,[],[],false⟩:Op),(⟨0,0,0,0,[],[],false⟩:Op),(⟨0,0,0,0,[],[],false⟩:Op)]) fun r32=>some r32) (some false)) (some false)
def zA5 (fu:Nat) (form1:Bool) (watch2:Bs) (kind3:Int) (s10:Bs) (s11:Bs):Option Bool:=bnd (cat s11 ([10,119,97,116,99,104,32]:Bs)) fun s12=>bnd (cat s12 watch2) fun s13=>bnd (cat s13 ([10]:Bs)) fun s14=>bnd (cat s14 s10) fun s15=>bnd (cat s15 ([10,114,101,115,116,10,112,101,101,107,10,116,104,114,111,119,10]:Bs)) fun s16=>bnd (zCB fu s16) fun r17=>cnd (r17.2 != 0) (some false) (cnd (((r17.1.Classes.length:Nat):Int) != 1) (some false) (cnd (((r17.1.Main.length:Nat):Int) != 0) (some false) (bnd (idx r17.1.Classes 0) fun y18=>bnd (zBr fu (⟨false,[watch2],[],[],[]⟩:Class)) fun r19=>cnd (!(y18.Form==form1)) (some false) (cnd (((y18.Hooks.length:Nat):Int) != 1) (some false) (bnd (idx y18.Hooks 0) fun y20=>bnd (remI kind3 8) fun m21=>bnd (rng .i64 m21) fun i22=>bnd (rng .i64 (i22+1)) fun i23=>cnd (y20.Kind != i23) (some false) (bnd (idx y18.Hooks 0) fun y24=>bnd (zAd fu y24.Do [(⟨25,0,0,0,[],[],false⟩:Op)]) fun r25=>cnd (!r25) (some false) (bnd (zAd fu y18.Peek [(⟨22,0,0,0,[],[],false⟩:Op)]) fun r26=>cnd (!r26) (some false) (cnd r19 (cnd (((y18.Watch.length:Nat):Int) != 1) (some false) (bnd (idx y18.Watch 0) fun y27=>cnd (!(y27==watch2)) (some false) (cnd (((y18.Make.length:Nat):Int) != 0) (some false) (cnd (!r19) (cnd (((y18.Watch.length:Nat):Int) != 0) (some false) (bnd (zAd fu y18.Make [(⟨0,0,0,0,[],[],false⟩:Op)]) fun r28=>cnd (!r28) (some false) ((zAb fu s10) ()))) ((zAb fu s10) ()))))) (cnd (!r19) (cnd (((y18.Watch.length:Nat):Int) != 0) (some false) (bnd (zAd fu y18.Make [(⟨0,0,0,0,[],[],false⟩:Op)]) fun r29=>cnd (!r29) (some false) ((zAb fu s10) ()))) ((zAb fu s10) ()))))))))))
def zAq (fu:Nat) (form1:Bool) (watch2:Bs) (kind3:Int):Nat->Int->Option Bool
 | 0,_=>none
 | k1+1,i5=>cnd (decide (i5<((watch2.length:Nat):Int))) (bnd (chr watch2 i5) fun b6=>cnd (b6==10) (some true) (bnd (rng .i64 (i5+1)) fun i7=>(zAq fu form1 watch2 kind3 k1) i7)) (bnd (remI kind3 8) fun m8=>bnd (idx ([[99,97,109,101],[119,101,110,116],[109,111,118,101,100],[99,104,97,110,103,101,100],[111,119,110,101,100],[98,97,114,114,101,100],[99,108,101,97,114,101,100],[114,101,115,116,111,114,101,100]]:List Bs) m8) fun y9=>bnd (cat ([111,110,32]:Bs) y9) fun s10=>cnd form1 ((zA5 fu form1 watch2 kind3 s10) [99,108,97,115,115,32,102,111,114,109]) ((zA5 fu form1 watch2 kind3 s10) [99,108,97,115,115]))
def zAu (fu:Nat) (form1:Bool) (watch2:Bs) (kind3:Int):Option Bool:=bnd (zB9 fu) fun r4=>cnd (!r4) (some false) (cnd (decide (((watch2.length:Nat):Int)>300)) (some true) ((zAq fu form1 watch2 kind3) fu 0))
theorem zD0 (fu:Nat) (form1:Bool) (watch2:Bs) (kind3:Int):∀r,zAu fu form1 watch2 kind3=some r->DC zAh Tryz.prog 7 [O form1,D watch2,.v (.int .u8 kind3)] (O r):=by
 refine fcI Tryz.func7 Z fun w0 X X0 σ0 _=>sr (pq 1 Z (ns (zAD (sr ?_))))
 refine zFt (enc:=fun (r4:Bool)=>O r4) (qs:=[]) (zFY fu) Z Z trivial (fun _=>Z) call9 Z Z fun r4 hr4=>?_
 refine pq 1 Z (ns ?_)
 refine zAN Z ?_ ?_
 ·refine sr (pq 1 Z (ns ?_))
  exact rN
 ·refine zAE (zAA (zAD (sr (pq 3 Z (ns ?_)))))
  refine zAN Z ?_ ?_
  ·refine sr (pq 1 Z (ns ?_))
   exact rN
  ·refine zAE (zAA (zAD (sr (pq 1 Z (ns (zAP ?_))))))
   refine lq (zAq fu form1 watch2 kind3) (fun (i5:Int)=>[(0,O form1),(1,D watch2),(2,.v (.int .u8 kind3)),(7,Y i5)]) (fun (i5:Int)=>[]) fu 0 ?_
   rintro k1 i5
   refine zAD (sr (pq 4 Z (ns ?_)))
   refine zAN Z ?_ ?_
   ·refine zAE (zAA (zAD (zAP (sr (pq 2 Z ?_)))))
    refine zCa (T:=tab) (s:=watch2) Z Z Z Z Z Z Z fun b6 hb6=>?_
    refine pq 1 Z (ns ?_)
    refine zAN Z ?_ ?_
    ·refine sr (pq 1 Z (ns ?_))
     exact rN
    ·refine zAE (zAJ (zAA (zAB (pq 1 Z ?_))))
     refine zAT (T:=tab) Z Z Z Z fun i7 hi7=>?_
     refine pq 1 Z (zAH ?_)
     exact zBt i7 ⟨Z,Z,Z,Z,trivial⟩ trivial Z
   ·refine zA0 Z (zAA (sr ?_))
    refine zOH (T:=tab) (N:=8) (e:=9) Z Z (by kernel_rfl) Z Z Z Z Z ?_
    refine zA4 (T:=tab) 8 Z Z Z Z Z Z Z Z Z ?_
    refine zAI (T:=tab) Z Z Z Z Z Z Z Z Z Z Z Z ?_
    refine ns (sr (pq 1 Z ?_))
    refine zQf Z Z Z Z Z Z fun m8 hm8=>?_
    refine zOI (T:=tab) (N:=8) (e:=9) ([[99,97,109,101],[119,101,110,116],[109,111,118,101,100],[99,104,97,110,103,101,100],[111,119,110,101,100],[98,97,114,114,101,100],[99,108,101,97,114,101,100],[114,101,115,116,111,114,101,100]]:List Bs) Z Z Z Z (by kernel_rfl) Z Z Z Z fun y9 hy9=>?_
    refine zMi (T:=tab) ([[99,97,109,101],[119,101,110,116],[109,111,118,101,100],[99,104,97,110,103,101,100],[111,119,110,101,100],[98,97,114,114,101,100],[99,108,101,97,114,101,100],[114,101,115,116,111,114,101,100]]:List Bs) (zLj hy9) Z Z Z Z Z Z Z ?_
    refine zFg Z Z Z Z Z Z fun s10 hs10=>?_
    refine pq 1 Z (ns (sr (pq 1 Z (ns (zAD (sr (pq 1 Z (ns ?_))))))))
    refine zBj (zA5 fu form1 watch2 kind3 s10) (fun (s11:Bs)=>[(0,O form1),(1,D watch2),(2,.v (.int .u8 kind3)),(9,D s10),(10,D s11)]) (fun (s11:Bs)=>[]) ?_ fun hj1=>?_
    ·rintro s11
     refine zAA (sr (pq 1 Z ?_))
     refine zFg Z Z Z Z Z Z fun s12 hs12=>?_
     refine pq 1 Z ?_
     refine zFg Z Z Z Z Z Z fun s13 hs13=>?_
     refine zFg Z Z Z Z Z Z fun s14 hs14=>?_
     refine pq 1 Z ?_
     refine zFg Z Z Z Z Z Z fun s15 hs15=>?_
     refine zFg Z Z Z Z Z Z fun s16 hs16=>?_
     refine pc (zD8 fu s16) zM8 Z Z Z Z fun r17 hr17=>?_
     refine pq 3 Z ?_
     refine zA4 (T:=tab) 11 Z Z Z Z Z Z Z Z Z ?_
     refine zAI (T:=tab) Z Z Z Z Z Z Z Z Z Z Z Z ?_
     refine pq 1 Z (ns (zAD (sr (pq 3 Z ?_))))
     refine zAK (j:=53) Z ?_ ?_
     ·refine pq 11 Z (zAH ?_)
      refine zAA (zAc Z ?_)
      refine sr (pq 1 Z (ns ?_))
      exact rN
     ·refine pq 2 Z ?_
      refine zBh (T:=tab) zAL r17.1.Classes Z Z Z Z Z Z Z Z ?_
      refine pq 3 Z ?_
      refine zAK (j:=59) Z ?_ ?_
      ·refine pq 5 Z (zAH ?_)
       refine zAA (zAc Z ?_)
       refine sr (pq 1 Z (ns ?_))
       exact rN
      ·refine pq 2 Z ?_
       refine zBh (T:=tab) cOp r17.1.Main Z Z Z Z Z Z Z Z ?_
       refine pq 2 Z (ns ?_)
       refine zAN Z ?_ ?_
       ·refine sr (pq 1 Z (ns ?_))
        exact rN
       ·refine zAE (zAA (sr (pq 2 Z ?_)))
        refine zCi (T:=tab) zAL r17.1.Classes Z Z Z Z Z Z Z fun y18 hy18=>?_
        refine pq 1 Z ?_
        refine zA4 (T:=tab) 13 Z Z Z Z Z Z Z Z Z ?_
        refine zAI (T:=tab) Z Z Z Z Z Z Z Z Z Z Z Z ?_
        refine ns (sr (pq 1 Z ?_))
        refine zCj (T:=tab) (rows:=[watch2].map cStr) 70 Z Z Z Z Z Z Z Z Z Z Z Z Z Z ?_
        refine zAi (T:=tab) Z Z Z Z Z Z Z ?_
        refine zCD 70 Z Z Z ?_
        refine zFt (enc:=fun (r19:Bool)=>O r19) (qs:=[.agg (zAL (⟨false,[watch2],[],[],[]⟩:Class))]) (zEo fu (⟨false,[watch2],[],[],[]⟩:Class)) Z Z ⟨⟨_,Z,(.agg ⟨.rfl,.rfl,.nil,.nil,.nil,trivial⟩)⟩,trivial⟩ (fun _=>Z) zQH Z Z fun r19 hr19=>?_
        refine pq 1 Z (ns (zAD (sr (pq 5 Z ?_))))
        refine zAK (j:=77) Z ?_ ?_
        ·refine pq 36 Z (zAH ?_)
         refine zAA (zAc Z ?_)
         refine sr (pq 1 Z (ns ?_))
         exact rN
        ·refine pq 2 Z ?_
         refine zBh (T:=tab) zAX y18.Hooks Z Z Z Z Z Z Z Z ?_
         refine pq 3 Z ?_
         refine zAK (j:=83) Z ?_ ?_
         ·refine pq 30 Z (zAH ?_)
          refine zAA (zAc Z ?_)
          refine sr (pq 1 Z (ns ?_))
          exact rN
         ·refine pq 2 Z ?_
          refine zCi (T:=tab) zAX y18.Hooks Z Z Z Z Z Z Z fun y20 hy20=>?_
          refine pq 3 Z ?_
          refine zQf Z Z Z Z Z Z fun m21 hm21=>?_
          refine zAT (T:=tab) Z Z Z Z fun i22 hi22=>?_
          refine zAT (T:=tab) Z Z Z Z fun i23 hi23=>?_
          refine pq 3 Z ?_
          refine zAK (j:=95) Z ?_ ?_
          ·refine pq 18 Z (zAH ?_)
           refine zAA (zAc Z ?_)
           refine sr (pq 1 Z (ns ?_))
           exact rN
          ·refine pq 2 Z ?_
           refine zCi (T:=tab) zAX y18.Hooks Z Z Z Z Z Z Z fun y24 hy24=>?_
           refine pq 2 Z ?_
           refine zAi (T:=tab) Z Z Z Z Z Z Z ?_
           refine zCj (T:=tab) (rows:=[(⟨25,0,0,0,[],[],false⟩:Op)].map cOp) 102 Z Z Z Z Z Z Z Z Z Z Z Z Z Z ?_
           refine zCD 102 Z Z Z ?_
           refine pc (zBw fu y24.Do [(⟨25,0,0,0,[],[],false⟩:Op)]) zJb Z Z Z Z fun r25 hr25=>?_
           refine pq 3 Z ?_
           refine zAK (j:=106) Z ?_ ?_
           ·refine pq 7 Z (zAH ?_)
            refine zAA (zAc Z ?_)
            refine sr (pq 1 Z (ns ?_))
            exact rN
           ·refine pq 2 Z ?_
            refine zAi (T:=tab) Z Z Z Z Z Z Z ?_
            refine zCj (T:=tab) (rows:=[(⟨22,0,0,0,[],[],false⟩:Op)].map cOp) 110 Z Z Z Z Z Z Z Z Z Z Z Z Z Z ?_
            refine zCD 110 Z Z Z ?_
            refine pc (zBw fu y18.Peek [(⟨22,0,0,0,[],[],false⟩:Op)]) zJb Z Z Z Z fun r26 hr26=>?_
            refine pq 2 Z (ns ?_)
            refine zAN Z ?_ ?_
            ·refine sr (pq 1 Z (ns ?_))
             exact rN
            ·refine zAE (zAA (zAD (sr ?_)))
             refine zL1 (zAb fu s10) (fun (_:Unit)=>[(9,D s10)]) (fun (_:Unit)=>[]) ?_ fun hj2=>?_
             ·rintro _
              refine zAA (sr (pq 1 Z ?_))
              refine zFg Z Z Z Z Z Z fun s30 hs30=>?_
              refine pc (zD8 fu s30) zM8 Z Z Z Z fun r31 hr31=>?_
              refine pq 3 Z ?_
              refine zA4 (T:=tab) 15 Z Z Z Z Z Z Z Z Z ?_
              refine zAI (T:=tab) Z Z Z Z Z Z Z Z Z Z Z Z ?_
              refine pq 1 Z (ns (sr (pq 3 Z ?_)))
              refine zAK (j:=161) Z ?_ ?_
              ·refine pq 2 Z ?_
               refine zBh (T:=tab) zAL r31.1.Classes Z Z Z Z Z Z Z Z ?_
               refine pq 3 Z ?_
               refine zAK (j:=167) Z ?_ ?_
               ·refine pq 2 Z ?_
                refine zAi (T:=tab) Z Z Z Z Z Z Z ?_
                refine zAi (T:=tab) Z Z Z Z Z Z Z ?_
                refine zAi (T:=tab) Z Z Z Z Z Z Z ?_
                refine zAi (T:=tab) Z Z Z Z Z Z Z ?_
                refine zCj (T:=tab) (rows:=[(⟨0,0,0,0,[],[],false⟩:Op),(⟨0,0,0,0,[],[],false⟩:Op),(⟨0,0,0,0,[],[],false⟩:Op),(⟨0,0,0,0,[],[],false⟩:Op)].map cOp) 174 Z Z Z Z Z Z Z Z Z Z Z Z Z Z ?_
                refine zCD 174 Z Z Z ?_
                refine pc (zBw fu r31.1.Main [(⟨0,0,0,0,[],[],false⟩:Op),(⟨0,0,0,0,[],[],false⟩:Op),(⟨0,0,0,0,[],[],false⟩:Op),(⟨0,0,0,0,[],[],false⟩:Op)]) zJb Z Z Z Z fun r32 hr32=>?_
                refine pq 2 Z (ns ?_)
                exact rN
               ·refine pq 10 Z (ns ?_)
                exact rN
              ·refine pq 16 Z (ns ?_)
               exact rN
             ·refine pq 2 Z ?_
              refine zAK (j:=115) Z ?_ ?_
              ·refine pq 2 Z ?_
               refine zBh (T:=tab) cStr y18.Watch Z Z Z Z Z Z Z Z ?_
               refine pq 2 Z ?_
               refine zAK (j:=120) Z ?_ ?_
               ·refine pq 32 Z (zAH ?_)
                refine zAA (zAc Z ?_)
                refine sr (pq 1 Z (ns ?_))
                exact rN
               ·refine pq 2 Z ?_
                refine zCi (T:=tab) cStr y18.Watch Z Z Z Z Z Z Z fun y27 hy27=>?_
                refine pq 5 Z ?_
                refine zAK (j:=128) Z ?_ ?_
                ·refine pq 24 Z (zAH ?_)
                 refine zAA (zAc Z ?_)
                 refine sr (pq 1 Z (ns ?_))
                 exact rN
                ·refine pq 2 Z ?_
                 refine zBh (T:=tab) cOp y18.Make Z Z Z Z Z Z Z Z ?_
                 refine pq 4 Z ?_
                 refine zAK (j:=135) Z ?_ ?_
                 ·refine pq 17 Z (zAH ?_)
                  refine zAA (zAc Z ?_)
                  refine sr (pq 1 Z (ns ?_))
                  exact rN
                 ·refine pq 3 Z ?_
                  refine zAK (j:=138) Z ?_ ?_
                  ·refine pq 2 Z ?_
                   refine zBh (T:=tab) cStr y18.Watch Z Z Z Z Z Z Z Z ?_
                   refine pq 2 Z ?_
                   refine zAK (j:=143) Z ?_ ?_
                   ·refine pq 9 Z (zAH ?_)
                    refine zAA (zAc Z ?_)
                    refine sr (pq 1 Z (ns ?_))
                    exact rN
                   ·refine pq 2 Z ?_
                    refine zAi (T:=tab) Z Z Z Z Z Z Z ?_
                    refine zCj (T:=tab) (rows:=[(⟨0,0,0,0,[],[],false⟩:Op)].map cOp) 147 Z Z Z Z Z Z Z Z Z Z Z Z Z Z ?_
                    refine zCD 147 Z Z Z ?_
                    refine pc (zBw fu y18.Make [(⟨0,0,0,0,[],[],false⟩:Op)]) zJb Z Z Z Z fun r28 hr28=>?_
                    refine pq 4 Z (ns ?_)
                    refine zAN Z ?_ ?_
                    ·refine sr (pq 1 Z (ns ?_))
                     exact rN
                    ·refine zAE ?_
                     exact ps (hj2 ())
                  ·refine pq 14 Z (zAH ?_)
                   refine zAA (zAs Z ?_)
                   refine zAE ?_
                   exact ps (hj2 ())
              ·refine pq 23 Z ?_
               refine zAK (j:=138) Z ?_ ?_
               ·refine pq 2 Z ?_
                refine zBh (T:=tab) cStr y18.Watch Z Z Z Z Z Z Z Z ?_
                refine pq 2 Z ?_
                refine zAK (j:=143) Z ?_ ?_
                ·refine pq 9 Z (zAH ?_)
                 refine zAA (zAc Z ?_)
                 refine sr (pq 1 Z (ns ?_))
                 exact rN
                ·refine pq 2 Z ?_
                 refine zAi (T:=tab) Z Z Z Z Z Z Z ?_
                 refine zCj (T:=tab) (rows:=[(⟨0,0,0,0,[],[],false⟩:Op)].map cOp) 147 Z Z Z Z Z Z Z Z Z Z Z Z Z Z ?_
                 refine zCD 147 Z Z Z ?_
                 refine pc (zBw fu y18.Make [(⟨0,0,0,0,[],[],false⟩:Op)]) zJb Z Z Z Z fun r29 hr29=>?_
                 refine pq 4 Z (ns ?_)
                 refine zAN Z ?_ ?_
                 ·refine sr (pq 1 Z (ns ?_))
                  exact rN
                 ·refine zAE ?_
                  exact ps (hj2 ())
               ·refine pq 14 Z (zAH ?_)
                refine zAA (zAs Z ?_)
                refine zAE ?_
                exact ps (hj2 ())
    ·refine zAN Z ?_ ?_
     ·refine zAB (pq 1 Z (zAH ?_))
      exact ps (hj1 [99,108,97,115,115,32,102,111,114,109])
     ·refine zAE ?_
      exact ps (hj1 [99,108,97,115,115])
end Go.Proofs.YtoboimmgglnjfaaGreatDoor
