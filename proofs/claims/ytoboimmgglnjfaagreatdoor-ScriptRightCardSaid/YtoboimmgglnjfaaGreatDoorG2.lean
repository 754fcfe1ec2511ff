/- Models and proofs, printed by emit2.py. -/
import Derived.Test.YtoboimmgglnjfaaGreatDoorG1
namespace Go.Proofs.YtoboimmgglnjfaaGreatDoor
open Go Go.Pw
set_option maxRecDepth 100000
set_option maxHeartbeats 10000000
set_option linter.unusedVariables false
theorem zH0 (fu:Nat) (s1:Bs):∀r,zES fu s1=some r->DC zAf Tryz.prog 15 [D s1] (.tup [.agg (zE0 r.1),Y r.2]):=by
 refine fcI Tryz.func15 Z fun w0 X X0 σ0 _=>sr ?_
 refine zAs (T:=tab) 2 Z Z Z Z Z Z Z Z Z ?_
 refine zAs (T:=tab) 3 Z Z Z Z Z Z Z Z Z ?_
 refine ns (zAD (sr (pq 3 Z (ns ?_))))
 refine zAH Z ?_ ?_
 ·refine sr ?_
  refine zA4 (T:=tab) Z Z Z Z Z Z Z ?_
  refine zAG (T:=tab) Z Z Z Z Z Z Z Z Z Z Z Z ?_
  refine zAG (T:=tab) Z Z Z Z Z Z Z Z Z Z Z Z ?_
  refine ns ?_
  refine zEk 2 [.sl 5 false ([].map zAM),.sl 7 false ([].map cOp)] Z ⟨.nil,.nil,trivial⟩ Z ?_
  exact rN
 ·refine zAB (zAA (sr ?_))
  refine zA4 (T:=tab) Z Z Z Z Z Z Z ?_
  refine zDl  13 Z Z Z Z Z Z Z Z Z Z ?_
  refine zEj 5130 51 5 13 0 Z Z Z Z Z Z ?_
  refine zEj 5131 43 7 13 1 Z Z Z Z Z Z ?_
  refine zGp 5132 9 1 Z Z Z ?_
  refine zGp 5133 43 7 Z Z Z ?_
  refine zGp 5134 43 7 Z Z Z ?_
  refine zGp 5135 54 2 Z Z Z ?_
  refine zGp 5136 43 7 Z Z Z ?_
  refine zR0 5135 [Y 0,.own 5136] Z Z Z Z ?_
  refine zR0 5130 [O false,.own 5132,.own 5133,.own 5134,.own 5135] Z Z Z Z ?_
  refine zAs (T:=tab) 4 Z Z Z Z Z Z Z Z Z ?_
  refine zAG (T:=tab) Z Z Z Z Z Z Z Z Z Z Z Z ?_
  refine ns (zAD ?_)
  refine su [(0,D s1),(2,.loc 2 0),(3,.loc 3 0),(4,.loc 4 0)] [(4,.box 77 [.loc 13 0]),(5136,.arr 43 7 (([]:List Op).map cOp)),(5135,.box 54 [pfx 2 (([]:List Hook).map zAP) false,Y 0,.own 5136]),(5134,.arr 43 7 (([]:List Op).map cOp)),(5133,.arr 43 7 (([]:List Op).map cOp)),(5132,.arr 9 1 (([]:List Bs).map cStr)),(5131,.arr 43 7 (([]:List Op).map cOp)),(5130,.box 51 [pfx 5 (([]:List Class).map zAM) false,O false,.own 5132,.own 5133,.own 5134,.own 5135]),(13,.box 80 [.own 5130,.own 5131,.v (.pointer none),Y 0]),(3,.box 28 [Y 0]),(2,.box 25 [.v (.slice none 0 0),.v (.slice none 0 0)])] ?_
  refine zBB [0,0,2,6,14,31] mixed (by kernel_rfl) (by kernel_rfl) Z Z ?_
  refine vf [8,9] [28] [] [4,13] [4] [(14,.loc 13 0)] [(4,.box 77 [.loc 13 0])] ?_
  refine vf [8,9] [30] [] [4,13] [4] [(15,.loc 13 0)] [(4,.box 77 [.loc 13 0])] ?_
  refine ve [30] [32] [13] [(16,.loc 13 0)] ?_
  refine ve [32] [34] [13] [(17,.loc 13 0)] ?_
  refine ve [34] [36] [13] [(18,.loc 13 1)] ?_
  refine vt (zCJ fu 300) [(38,[]),(27,[5130,5131,13])] [27,28,36,10261,10263,10265,10267,10269,10271,10273] [38,27] [] [13,5130,5131,5132,5133,5134,5135,5136] [5130,5131,5132,5133,5134,5135,5136] (fun r2=>[(19,O r2.1)]) (fun r2=>[(13,.box 80 [.own 5130,.own 5131,.loc 13 1,Y r2.2]),(5130,.box 51 [pfx 5 (([]:List Class).map zAM) false,O false,.own 5132,.own 5133,.own 5134,.own 5135]),(5131,.arr 43 7 (([]:List Op).map cOp)),(5132,.arr 9 1 (([]:List Bs).map cStr)),(5133,.arr 43 7 (([]:List Op).map cOp)),(5134,.arr 43 7 (([]:List Op).map cOp)),(5135,.box 54 [pfx 2 (([]:List Hook).map zAP) false,Y 0,.own 5136]),(5136,.arr 43 7 (([]:List Op).map cOp))]) Z Z (fun _=>Z) (fun w0 X X0 σ0 _=>by refine tu [] (enc:=fun (r2:(Bool×Int))=>O r2.1) (Sr:=fun (r2:(Bool×Int))=>[(13,.box 80 [.own 5130,.own 5131,.loc 13 1,Y r2.2]),(5130,.box 51 [pfx 5 (([]:List Class).map zAM) false,O false,.own 5132,.own 5133,.own 5134,.own 5135]),(5131,.arr 43 7 (([]:List Op).map cOp)),(5132,.arr 9 1 (([]:List Bs).map cStr)),(5133,.arr 43 7 (([]:List Op).map cOp)),(5134,.arr 43 7 (([]:List Op).map cOp)),(5135,.box 54 [pfx 2 (([]:List Hook).map zAP) false,Y 0,.own 5136]),(5136,.arr 43 7 (([]:List Op).map cOp))]) (qs:=[.loc 13 0,.loc 13 1,Y 300]) (Sc:=[(13,.box 80 [.own 5130,.own 5131,.v (.pointer none),Y 0]),(5130,.box 51 [pfx 5 (([]:List Class).map zAM) false,O false,.own 5132,.own 5133,.own 5134,.own 5135]),(5131,.arr 43 7 (([]:List Op).map cOp)),(5132,.arr 9 1 (([]:List Bs).map cStr)),(5133,.arr 43 7 (([]:List Op).map cOp)),(5134,.arr 43 7 (([]:List Op).map cOp)),(5135,.box 54 [pfx 2 (([]:List Hook).map zAP) false,Y 0,.own 5136]),(5136,.arr 43 7 (([]:List Op).map cOp))]) (N1:=[13,5130,5131,5132,5133,5134,5135,5136]) (NR:=[13,5130,5131,5132,5133,5134,5135,5136]) (fun r2 hr2=>fr [(900000,13),(900001,5130),(900002,5131),(900003,5132),(900004,5133),(900005,5134),(900006,5135),(900007,5136)] [900000,900001,900002,900003,900004,900005,900006,900007] (zHG fu 300 0 (([]:List Class),false) false ([]:List Op) ([]:List Bs) ([]:List Op) ([]:List Op) (([]:List Hook),false) 0 ([]:List Op) _ hr2)) zKv Z Z Z Z Z Z Z Z fun r2 hr2=>?_;exact pz) fun r2 hr2=>?_
  refine zBf Z Z ?_
  refine zAA (zAD (sr (pq 1 Z ?_)))
  refine zRx (n:=3021) tab Tryz.func39 Z Z Z Z Z Z Z Z Z Z Z Z ⟨⟨_,Z,.rfl⟩,trivial⟩ call39 Z Z ?_
  refine ns (zAL ?_)
  refine zEk 13 [.own 5130,.own 5131,.sel 0 [.loc 13 1,.ela 5130 5 (([]:List Class).length) 2,.ela 5130 5 (([]:List Class).length) 3,.ela 5135 2 (([]:List Hook).length) 1],Y r2.2] Z ⟨.rfl,.rfl,(.sel Z Z),.rfl,trivial⟩ Z ?_
  refine zVw fun hfits=>?_
  obtain ⟨lr1,lmid,lhb,lhcut⟩:=zNa fu
  refine zTq (T:=tab) (s:=s1) (x0:=(0,r2.2,(([]:List Class),false),false,([]:List Bs),([]:List Op),([]:List Op),(([]:List Hook),false),0,([]:List Op),([]:List Op))) (n:=3021) (tI:=3) (tB:=4) (tF:=41) (M:=(zB0 fu)) (Sf:=fun ((k3,c4,c5,c6,l7,l8,l9,c10,c11,l12,l13):Nat×Int×(List Class×Bool)×Bool×(List Bs)×(List Op)×(List Op)×(List Hook×Bool)×Int×(List Op)×(List Op))=>[(13,.box 80 [.own 5130,.own 5131,.sel k3 [.loc 13 1,.ela 5130 5 (c5.1.length) 2,.ela 5130 5 (c5.1.length) 3,.ela 5135 2 (c10.1.length) 1],Y c4]),(5130,.box 51 [pfx 5 (c5.1.map zAM) c5.2,O c6,.own 5132,.own 5133,.own 5134,.own 5135]),(5131,.arr 43 7 (l13.map cOp)),(5132,.arr 9 1 (l7.map cStr)),(5133,.arr 43 7 (l8.map cOp)),(5134,.arr 43 7 (l9.map cOp)),(5135,.box 54 [pfx 2 (c10.1.map zAP) c10.2,Y c11,.own 5136]),(5136,.arr 43 7 (l12.map cOp)),(4,.box 77 [.loc 13 0]),(3,.box 28 [Y 0]),(2,.box 25 [.v (.slice none 0 0),.v (.slice none 0 0)])]) (SR:=fun r:(Script×Int)=>[(2,.box 25 [.sl 5 false (r.1.Classes.map zAM),.sl 7 false (r.1.Main.map cOp)]),(3,.box 28 [Y r.2])]) (N1:=[2,3,4]) (E0:=[(2,.loc 2 0),(3,.loc 3 0),(4,.loc 4 0)]) (E1:=fun y14=>[(2,.loc 2 0),(3,.loc 3 0),(4,.loc 4 0),(22,D y14),(5,D y14)]) hfits Tryz.func73 lhb Z Z call73 Z Z lhcut Z Z ⟨Z,Z,Z,trivial⟩ Z Z ⟨Z,Z,Z,Z,Z,Z,Z,Z,Z,Z,Z,trivial⟩ Z Z Z Z ?_ ?_ ?_ ?_
  ·rintro y14 ⟨k3,c4,c5,c6,l7,l8,l9,c10,c11,l12,l13⟩ w0 X X0 σ0 _ _
   refine pq 1 Z (zAE ?_)
   exact zL4 ⟨Z,Z,Z,Z,Z,trivial⟩ ⟨Z,Z,Z,Z,Z,Z,Z,Z,Z,Z,Z,trivial⟩ Z
  ·rintro y14 ys15 ⟨k3,c4,c5,c6,l7,l8,l9,c10,c11,l12,l13⟩ w0 X X0 σ0 _ _
   refine zAL (sr (pq 1 Z ?_))
   refine pc (zHI fu y14 [10]) call40 Z Z Z Z fun r16 hr16=>?_
   refine pq 1 Z (ns (zAD (sr (pq 3 Z ?_))))
   refine zAF (j:=27) Z ?_ ?_
   ·refine pq 4 Z (zAE ?_)
    refine zAA (zAQ Z ?_)
    refine zAY Z ?_
    exact zG2 (k3,c4,c5,c6,l7,l8,l9,c10,c11,l12,l13) ⟨Z,Z,Z,Z,Z,Z,Z,Z,Z,Z,Z,trivial⟩ Z
   ·refine pq 2 Z ?_
    refine tu [5130,5135,5132,5133,5134,5136] (enc:=fun (r17:(Bool×Nat×Int×(List Class×Bool)×Bool×(List Hook×Bool)×Int×(List Bs)×(List Op)×(List Op)×(List Op)))=>O r17.1) (Sr:=fun (r17:(Bool×Nat×Int×(List Class×Bool)×Bool×(List Hook×Bool)×Int×(List Bs)×(List Op)×(List Op)×(List Op)))=>[(13,.box 80 [.own 5130,.own 5131,.sel r17.2.1 [.loc 13 1,.ela 5130 5 (r17.2.2.2.1.1.length) 2,.ela 5130 5 (r17.2.2.2.1.1.length) 3,.ela 5135 2 (r17.2.2.2.2.2.1.1.length) 1],Y r17.2.2.1]),(5130,.box 51 [pfx 5 (r17.2.2.2.1.1.map zAM) r17.2.2.2.1.2,O r17.2.2.2.2.1,.own 5132,.own 5133,.own 5134,.own 5135]),(5131,.arr 43 7 (l13.map cOp)),(5135,.box 54 [pfx 2 (r17.2.2.2.2.2.1.1.map zAP) r17.2.2.2.2.2.1.2,Y r17.2.2.2.2.2.2.1,.own 5136]),(5132,.arr 9 1 (r17.2.2.2.2.2.2.2.1.map cStr)),(5133,.arr 43 7 (r17.2.2.2.2.2.2.2.2.1.map cOp)),(5134,.arr 43 7 (r17.2.2.2.2.2.2.2.2.2.1.map cOp)),(5136,.arr 43 7 (r17.2.2.2.2.2.2.2.2.2.2.map cOp))]) (qs:=[.loc 13 0,D r16]) (Sc:=[(13,.box 80 [.own 5130,.own 5131,.sel k3 [.loc 13 1,.ela 5130 5 (c5.1.length) 2,.ela 5130 5 (c5.1.length) 3,.ela 5135 2 (c10.1.length) 1],Y c4]),(5130,.box 51 [pfx 5 (c5.1.map zAM) c5.2,O c6,.own 5132,.own 5133,.own 5134,.own 5135]),(5131,.arr 43 7 (l13.map cOp)),(5135,.box 54 [pfx 2 (c10.1.map zAP) c10.2,Y c11,.own 5136]),(5132,.arr 9 1 (l7.map cStr)),(5133,.arr 43 7 (l8.map cOp)),(5134,.arr 43 7 (l9.map cOp)),(5136,.arr 43 7 (l12.map cOp))]) (N1:=[13,5131]) (NR:=[13,5130,5131,5135,5132,5133,5134,5136]) (fun r17 hr17=>fr [(900000,13),(900001,5130),(900002,5131),(900003,5135),(900004,5132),(900005,5133),(900006,5134),(900007,5136)] [900000,900001,900002,900003,900004,900005,900006,900007] (zHH fu r16 k3 c4 c5 c6 l13 c10 c11 l7 l8 l9 l12 _ hr17)) call41 Z Z Z Z Z Z Z Z fun r17 hr17=>?_
    refine pq 1 Z (ns ?_)
    refine zAH Z ?_ ?_
    ·refine zAY Z ?_
     exact zG2 (r17.2.1,r17.2.2.1,r17.2.2.2.1,r17.2.2.2.2.1,r17.2.2.2.2.2.2.2.1,r17.2.2.2.2.2.2.2.2.1,r17.2.2.2.2.2.2.2.2.2.1,r17.2.2.2.2.2.1,r17.2.2.2.2.2.2.1,r17.2.2.2.2.2.2.2.2.2.2,l13) ⟨Z,Z,Z,Z,Z,Z,Z,Z,Z,Z,Z,trivial⟩ Z
    ·refine zAB (zAA (zAD (zAD ?_)))
     refine su [(2,.loc 2 0),(3,.loc 3 0),(4,.loc 4 0),(22,D y14),(5,D r16),(23,D y14),(24,D r16),(25,D r16),(26,O (r16==([]:Bs))),(27,O false),(28,.loc 13 0),(29,D r16),(30,O r17.1),(31,O r17.1)] [(13,.box 80 [.own 5130,.own 5131,.sel r17.2.1 [.loc 13 1,.ela 5130 5 (r17.2.2.2.1.1.length) 2,.ela 5130 5 (r17.2.2.2.1.1.length) 3,.ela 5135 2 (r17.2.2.2.2.2.1.1.length) 1],Y r17.2.2.1]),(5130,.box 51 [pfx 5 (r17.2.2.2.1.1.map zAM) r17.2.2.2.1.2,O r17.2.2.2.2.1,.own 5132,.own 5133,.own 5134,.own 5135]),(5131,.arr 43 7 (l13.map cOp)),(5135,.box 54 [pfx 2 (r17.2.2.2.2.2.1.1.map zAP) r17.2.2.2.2.2.1.2,Y r17.2.2.2.2.2.2.1,.own 5136]),(5132,.arr 9 1 (r17.2.2.2.2.2.2.2.1.map cStr)),(5133,.arr 43 7 (r17.2.2.2.2.2.2.2.2.1.map cOp)),(5134,.arr 43 7 (r17.2.2.2.2.2.2.2.2.2.1.map cOp)),(5136,.arr 43 7 (r17.2.2.2.2.2.2.2.2.2.2.map cOp)),(4,.box 77 [.loc 13 0]),(3,.box 28 [Y 0]),(2,.box 25 [.v (.slice none 0 0),.v (.slice none 0 0)])] ?_
     refine zVy (fun k_=>[(2,.loc 2 0),(3,.loc 3 0),(4,.loc 4 0),(22,D y14),(5,D r16),(23,D y14),(24,D r16),(25,D r16),(26,O (r16==([]:Bs))),(27,O false),(28,.loc 13 0),(29,D r16),(30,O r17.1),(31,O r17.1)]) (fun k_=>[(13,.box 80 [.own 5130,.own 5131,.sel k_ [.loc 13 1,.ela 5130 5 (r17.2.2.2.1.1.length) 2,.ela 5130 5 (r17.2.2.2.1.1.length) 3,.ela 5135 2 (r17.2.2.2.2.2.1.1.length) 1],Y r17.2.2.1]),(5130,.box 51 [pfx 5 (r17.2.2.2.1.1.map zAM) r17.2.2.2.1.2,O r17.2.2.2.2.1,.own 5132,.own 5133,.own 5134,.own 5135]),(5131,.arr 43 7 (l13.map cOp)),(5135,.box 54 [pfx 2 (r17.2.2.2.2.2.1.1.map zAP) r17.2.2.2.2.2.1.2,Y r17.2.2.2.2.2.2.1,.own 5136]),(5132,.arr 9 1 (r17.2.2.2.2.2.2.2.1.map cStr)),(5133,.arr 43 7 (r17.2.2.2.2.2.2.2.2.1.map cOp)),(5134,.arr 43 7 (r17.2.2.2.2.2.2.2.2.2.1.map cOp)),(5136,.arr 43 7 (r17.2.2.2.2.2.2.2.2.2.2.map cOp)),(4,.box 77 [.loc 13 0]),(3,.box 28 [Y 0]),(2,.box 25 [.v (.slice none 0 0),.v (.slice none 0 0)])]) r17.2.1 ?_ ?_ ?_ ?_
     ·refine zJu (E':=[(2,.loc 2 0),(3,.loc 3 0),(4,.loc 4 0),(22,D y14),(5,D r16),(23,D y14),(24,D r16),(25,D r16),(26,O (r16==([]:Bs))),(27,O false),(28,.loc 13 0),(29,D r16),(30,O r17.1),(31,O r17.1)]) (S':=[(13,.box 80 [.own 5130,.own 5131,.loc 13 1,Y r17.2.2.1]),(5130,.box 51 [pfx 5 (r17.2.2.2.1.1.map zAM) r17.2.2.2.1.2,O r17.2.2.2.2.1,.own 5132,.own 5133,.own 5134,.own 5135]),(5131,.arr 43 7 (l13.map cOp)),(5135,.box 54 [pfx 2 (r17.2.2.2.2.2.1.1.map zAP) r17.2.2.2.2.2.1.2,Y r17.2.2.2.2.2.2.1,.own 5136]),(5132,.arr 9 1 (r17.2.2.2.2.2.2.2.1.map cStr)),(5133,.arr 43 7 (r17.2.2.2.2.2.2.2.2.1.map cOp)),(5134,.arr 43 7 (r17.2.2.2.2.2.2.2.2.2.1.map cOp)),(5136,.arr 43 7 (r17.2.2.2.2.2.2.2.2.2.2.map cOp)),(4,.box 77 [.loc 13 0]),(3,.box 28 [Y 0]),(2,.box 25 [.v (.slice none 0 0),.v (.slice none 0 0)])]) Z Z ?_
      refine su [(2,.loc 2 0),(3,.loc 3 0),(4,.loc 4 0),(5,D r16)] [(13,.box 80 [.own 5130,.own 5131,.loc 13 1,Y r17.2.2.1]),(5130,.box 51 [pfx 5 (r17.2.2.2.1.1.map zAM) r17.2.2.2.1.2,O r17.2.2.2.2.1,.own 5132,.own 5133,.own 5134,.own 5135]),(5131,.arr 43 7 (l13.map cOp)),(5135,.box 54 [pfx 2 (r17.2.2.2.2.2.1.1.map zAP) r17.2.2.2.2.2.1.2,Y r17.2.2.2.2.2.2.1,.own 5136]),(5132,.arr 9 1 (r17.2.2.2.2.2.2.2.1.map cStr)),(5133,.arr 43 7 (r17.2.2.2.2.2.2.2.2.1.map cOp)),(5134,.arr 43 7 (r17.2.2.2.2.2.2.2.2.2.1.map cOp)),(5136,.arr 43 7 (r17.2.2.2.2.2.2.2.2.2.2.map cOp)),(4,.box 77 [.loc 13 0]),(3,.box 28 [Y 0]),(2,.box 25 [.v (.slice none 0 0),.v (.slice none 0 0)])] ?_
      refine zBB [0,1,3,7,15,31,63,0,128,384,896,2047] mixed (by kernel_rfl) (by kernel_rfl) Z Z ?_
      refine vf [8,9] [64] [] [4,13] [4] [(32,.loc 13 0)] [(4,.box 77 [.loc 13 0])] ?_
      refine ve [64] [66] [13] [(33,.loc 13 0)] ?_
      refine ve [66] [68] [13] [(34,.loc 13 2)] ?_
      refine vf [27,68] [70] [] [13,5130,5131] [13] [(35,.loc 13 1)] [(13,.box 80 [.own 5130,.own 5131,.loc 13 1,Y r17.2.2.1])] ?_
      refine ve [70] [72] [13] [(36,.loc 13 1)] ?_
      refine vf [27,72] [74] [] [13,5130,5131] [13] [(37,.own 5131)] [(13,.box 80 [.own 5130,.own 5131,.loc 13 1,Y r17.2.2.1])] ?_
      refine vs [74,10263] [76] [] [5131] [5131] [(38,Y ((l13.length:Nat):Int))] [(5131,.arr 43 7 (l13.map cOp))] Z Z (fun w0 X X0 σ0 _=>by refine zDK (T:=tab) cOp l13 Z Z Z Z Z Z Z Z Z ?_;exact py) ?_
      refine vf [8,9] [78] [] [4,13] [4] [(39,.loc 13 0)] [(4,.box 77 [.loc 13 0])] ?_
      refine ve [78] [80] [13] [(40,.loc 13 0)] ?_
      refine ve [80] [82] [13] [(41,.loc 13 3)] ?_
      refine vf [27,82] [84] [] [13,5130,5131] [13] [(42,Y r17.2.2.1)] [(13,.box 80 [.own 5130,.own 5131,.loc 13 1,Y r17.2.2.1])] ?_
      refine ve [76,84] [86] [] [(43,O (((l13.length:Nat):Int)==r17.2.2.1))] ?_
      refine zBf Z Z ?_
      refine zAA ?_
      refine zAH Z ?_ ?_
      ·refine sr ?_
       refine zA4 (T:=tab) Z Z Z Z Z Z Z ?_
       refine zAG (T:=tab) Z Z Z Z Z Z Z Z Z Z Z Z ?_
       refine zAG (T:=tab) Z Z Z Z Z Z Z Z Z Z Z Z ?_
       refine ns ?_
       refine zEk 2 [.sl 5 false ([].map zAM),.sl 7 false ([].map cOp)] Z ⟨.nil,.nil,trivial⟩ Z ?_
       exact zJA Z ⟨Z,Z,trivial⟩ Z
      ·refine zAB (zAA (sr (pq 1 Z ?_)))
       refine pc (zHc fu r16) zOZ Z Z Z Z fun r18 hr18=>?_
       refine pq 3 Z ?_
       refine zAs (T:=tab) 6 Z Z Z Z Z Z Z Z Z ?_
       refine zAG (T:=tab) Z Z Z Z Z Z Z Z Z Z Z Z ?_
       refine pq 1 Z (ns ?_)
       refine su [(2,.loc 2 0),(3,.loc 3 0),(4,.loc 4 0),(6,.loc 6 0)] [(6,.box 43 [Y r18.1.Kind,Y r18.1.A,Y r18.1.B,Y r18.1.C,D r18.1.S,D r18.1.T,O r18.1.Must]),(13,.box 80 [.own 5130,.own 5131,.loc 13 1,Y r17.2.2.1]),(5130,.box 51 [pfx 5 (r17.2.2.2.1.1.map zAM) r17.2.2.2.1.2,O r17.2.2.2.2.1,.own 5132,.own 5133,.own 5134,.own 5135]),(5131,.arr 43 7 (l13.map cOp)),(5135,.box 54 [pfx 2 (r17.2.2.2.2.2.1.1.map zAP) r17.2.2.2.2.2.1.2,Y r17.2.2.2.2.2.2.1,.own 5136]),(5132,.arr 9 1 (r17.2.2.2.2.2.2.2.1.map cStr)),(5133,.arr 43 7 (r17.2.2.2.2.2.2.2.2.1.map cOp)),(5134,.arr 43 7 (r17.2.2.2.2.2.2.2.2.2.1.map cOp)),(5136,.arr 43 7 (r17.2.2.2.2.2.2.2.2.2.2.map cOp)),(4,.box 77 [.loc 13 0]),(3,.box 28 [Y 0]),(2,.box 25 [.v (.slice none 0 0),.v (.slice none 0 0)])] ?_
       refine zBB [0,1,3,7,0,16,48,112,240,496,0,1024,4080,8191,16383] mixed (by kernel_rfl) (by kernel_rfl) Z Z ?_
       refine vf [8,9] [100] [] [4,13] [4] [(50,.loc 13 0)] [(4,.box 77 [.loc 13 0])] ?_
       refine ve [100] [102] [13] [(51,.loc 13 0)] ?_
       refine ve [102] [104] [13] [(52,.loc 13 2)] ?_
       refine vf [27,104] [106] [] [13,5130,5131] [13] [(53,.loc 13 1)] [(13,.box 80 [.own 5130,.own 5131,.loc 13 1,Y r17.2.2.1])] ?_
       refine vf [8,9] [108] [] [4,13] [4] [(54,.loc 13 0)] [(4,.box 77 [.loc 13 0])] ?_
       refine ve [108] [110] [13] [(55,.loc 13 0)] ?_
       refine ve [110] [112] [13] [(56,.loc 13 2)] ?_
       refine vf [27,112] [114] [] [13,5130,5131] [13] [(57,.loc 13 1)] [(13,.box 80 [.own 5130,.own 5131,.loc 13 1,Y r17.2.2.1])] ?_
       refine ve [114] [116] [13] [(58,.loc 13 1)] ?_
       refine vf [27,116] [118] [] [13,5130,5131] [13] [(59,.own 5131)] [(13,.box 80 [.own 5130,.own 5131,.loc 13 1,Y r17.2.2.1])] ?_
       refine vf [12,13] [120] [] [6] [6] [(60,.agg (cOp r18.1))] [(6,.box 43 [Y r18.1.Kind,Y r18.1.A,Y r18.1.B,Y r18.1.C,D r18.1.S,D r18.1.T,O r18.1.Must])] ?_
       refine vs [120] [122,123] [61] [] [] [(61,.own 61)] [(61,.arr 43 7 ([r18.1].map cOp))] Z Z (fun w0 X X0 σ0 _=>by refine zBu (T:=tab) (rows:=[r18.1].map cOp) 61 Z Z Z Z Z Z Z Z Z Z Z Z Z Z ?_;exact py) ?_
       refine vt (zBr 72 (l13.length+([r18.1]:List Op).length)) [(124,[700062]),(118,[]),(10263,[]),(1400125,[])] [118,122,123,10263] [124,118,10263,1400125] [700062] [61,5131] [61] (fun _=>[(62,.own 700062)]) (fun _=>[(700062,.arr 43 7 ((l13++[r18.1]).map cOp)),(61,.arr 43 7 ([r18.1].map cOp))]) Z Z (fun _=>Z) (fun w0 X X0 σ0 _=>by refine zTj 5131 700062 59 Z Z Z Z Z Z ?_;refine zAv (T:=tab) cOp l13 ([r18.1]:List Op) Z Z Z Z Z Z Z Z Z Z Z Z Z Z (zDk _) Z Z Z Z Z ?_;exact pz) fun _ h0=>?_
       refine ve [106] [126] [13] [(63,.loc 13 1)] ?_
       refine vs [27,124,126,1400125] [27] [] [13,5130,5131,700062] [700062] [] [(13,.box 80 [.own 5130,.own 700062,.loc 13 1,Y r17.2.2.1]),(700062,.arr 43 7 ((l13++[r18.1]).map cOp))] Z Z (fun w0 X X0 σ0 _=>by refine zAG (T:=tab) Z Z Z Z Z Z Z Z Z Z Z Z ?_;exact py) ?_
       refine zBf Z Z ?_
       refine zAK ?_
       refine zRv (E':=[]) (S':=[(700062,.arr 43 7 ((l13++[r18.1]).map cOp)),(61,.arr 43 7 ([r18.1].map cOp)),(6,.box 43 [Y r18.1.Kind,Y r18.1.A,Y r18.1.B,Y r18.1.C,D r18.1.S,D r18.1.T,O r18.1.Must]),(13,.box 80 [.own 5130,.own 700062,.loc 13 1,Y r17.2.2.1]),(5130,.box 51 [pfx 5 (r17.2.2.2.1.1.map zAM) r17.2.2.2.1.2,O r17.2.2.2.2.1,.own 5132,.own 5133,.own 5134,.own 5135]),(5135,.box 54 [pfx 2 (r17.2.2.2.2.2.1.1.map zAP) r17.2.2.2.2.2.1.2,Y r17.2.2.2.2.2.2.1,.own 5136]),(5132,.arr 9 1 (r17.2.2.2.2.2.2.2.1.map cStr)),(5133,.arr 43 7 (r17.2.2.2.2.2.2.2.2.1.map cOp)),(5134,.arr 43 7 (r17.2.2.2.2.2.2.2.2.2.1.map cOp)),(5136,.arr 43 7 (r17.2.2.2.2.2.2.2.2.2.2.map cOp)),(4,.box 77 [.loc 13 0]),(3,.box 28 [Y 0]),(2,.box 25 [.v (.slice none 0 0),.v (.slice none 0 0)])]) ?_ trivial ⟨Z,Z,Z,Z,Z,Z,Z,Z,Z,Z,Z,Z,Z,trivial⟩ Z
       refine zRu 700062 5131 (E':=[]) (S':=[(5131,.arr 43 7 ((l13++[r18.1]).map cOp)),(61,.arr 43 7 ([r18.1].map cOp)),(6,.box 43 [Y r18.1.Kind,Y r18.1.A,Y r18.1.B,Y r18.1.C,D r18.1.S,D r18.1.T,O r18.1.Must]),(13,.box 80 [.own 5130,.own 5131,.loc 13 1,Y r17.2.2.1]),(5130,.box 51 [pfx 5 (r17.2.2.2.1.1.map zAM) r17.2.2.2.1.2,O r17.2.2.2.2.1,.own 5132,.own 5133,.own 5134,.own 5135]),(5135,.box 54 [pfx 2 (r17.2.2.2.2.2.1.1.map zAP) r17.2.2.2.2.2.1.2,Y r17.2.2.2.2.2.2.1,.own 5136]),(5132,.arr 9 1 (r17.2.2.2.2.2.2.2.1.map cStr)),(5133,.arr 43 7 (r17.2.2.2.2.2.2.2.2.1.map cOp)),(5134,.arr 43 7 (r17.2.2.2.2.2.2.2.2.2.1.map cOp)),(5136,.arr 43 7 (r17.2.2.2.2.2.2.2.2.2.2.map cOp)),(4,.box 77 [.loc 13 0]),(3,.box 28 [Y 0]),(2,.box 25 [.v (.slice none 0 0),.v (.slice none 0 0)])]) Z Z Z Z Z Z ?_
       refine zGW 13 [.own 5130,.own 5131,.sel 0 [.loc 13 1,.ela 5130 5 (r17.2.2.2.1.1.length) 2,.ela 5130 5 (r17.2.2.2.1.1.length) 3,.ela 5135 2 (r17.2.2.2.2.2.1.1.length) 1],Y r17.2.2.1] Z ⟨.rfl,.rfl,(.sel Z Z),.rfl,trivial⟩ Z ?_
       exact zG2 (0,r17.2.2.1,r17.2.2.2.1,r17.2.2.2.2.1,r17.2.2.2.2.2.2.2.1,r17.2.2.2.2.2.2.2.2.1,r17.2.2.2.2.2.2.2.2.2.1,r17.2.2.2.2.2.1,r17.2.2.2.2.2.2.1,r17.2.2.2.2.2.2.2.2.2.2,(l13++[r18.1])) ⟨Z,Z,Z,Z,Z,Z,Z,Z,Z,Z,Z,trivial⟩ Z
     ·refine zJu (E':=[(2,.loc 2 0),(3,.loc 3 0),(4,.loc 4 0),(22,D y14),(5,D r16),(23,D y14),(24,D r16),(25,D r16),(26,O (r16==([]:Bs))),(27,O false),(28,.loc 13 0),(29,D r16),(30,O r17.1),(31,O r17.1)]) (S':=[(13,.box 80 [.own 5130,.own 5131,.ela 5130 5 (r17.2.2.2.1.1.length) 2,Y r17.2.2.1]),(5130,.box 51 [pfx 5 (r17.2.2.2.1.1.map zAM) r17.2.2.2.1.2,O r17.2.2.2.2.1,.own 5132,.own 5133,.own 5134,.own 5135]),(5131,.arr 43 7 (l13.map cOp)),(5135,.box 54 [pfx 2 (r17.2.2.2.2.2.1.1.map zAP) r17.2.2.2.2.2.1.2,Y r17.2.2.2.2.2.2.1,.own 5136]),(5132,.arr 9 1 (r17.2.2.2.2.2.2.2.1.map cStr)),(5133,.arr 43 7 (r17.2.2.2.2.2.2.2.2.1.map cOp)),(5134,.arr 43 7 (r17.2.2.2.2.2.2.2.2.2.1.map cOp)),(5136,.arr 43 7 (r17.2.2.2.2.2.2.2.2.2.2.map cOp)),(4,.box 77 [.loc 13 0]),(3,.box 28 [Y 0]),(2,.box 25 [.v (.slice none 0 0),.v (.slice none 0 0)])]) Z Z ?_
      refine su [(2,.loc 2 0),(3,.loc 3 0),(4,.loc 4 0),(22,D y14),(5,D r16),(23,D y14),(24,D r16),(25,D r16),(26,O (r16==([]:Bs))),(27,O false),(28,.loc 13 0),(29,D r16),(30,O r17.1),(31,O r17.1)] [(13,.box 80 [.own 5130,.own 5131,.ela 5130 5 (r17.2.2.2.1.1.length) 2,Y r17.2.2.1]),(5130,.box 51 [pfx 5 (r17.2.2.2.1.1.map zAM) r17.2.2.2.1.2,O r17.2.2.2.2.1,.own 5132,.own 5133,.own 5134,.own 5135]),(5131,.arr 43 7 (l13.map cOp)),(5135,.box 54 [pfx 2 (r17.2.2.2.2.2.1.1.map zAP) r17.2.2.2.2.2.1.2,Y r17.2.2.2.2.2.2.1,.own 5136]),(5132,.arr 9 1 (r17.2.2.2.2.2.2.2.1.map cStr)),(5133,.arr 43 7 (r17.2.2.2.2.2.2.2.2.1.map cOp)),(5134,.arr 43 7 (r17.2.2.2.2.2.2.2.2.2.1.map cOp)),(5136,.arr 43 7 (r17.2.2.2.2.2.2.2.2.2.2.map cOp)),(4,.box 77 [.loc 13 0]),(3,.box 28 [Y 0]),(2,.box 25 [.v (.slice none 0 0),.v (.slice none 0 0)])] ?_
      refine zPL (fun b_=>[(2,.loc 2 0),(3,.loc 3 0),(4,.loc 4 0),(22,D y14),(5,D r16),(23,D y14),(24,D r16),(25,D r16),(26,O (r16==([]:Bs))),(27,O false),(28,.loc 13 0),(29,D r16),(30,O r17.1),(31,O r17.1)]) (fun b_=>[(13,.box 80 [.own 5130,.own 5131,.ela 5130 5 (r17.2.2.2.1.1.length) 2,Y r17.2.2.1]),(5130,.box 51 [pfx 5 (r17.2.2.2.1.1.map zAM) b_,O r17.2.2.2.2.1,.own 5132,.own 5133,.own 5134,.own 5135]),(5131,.arr 43 7 (l13.map cOp)),(5135,.box 54 [pfx 2 (r17.2.2.2.2.2.1.1.map zAP) r17.2.2.2.2.2.1.2,Y r17.2.2.2.2.2.2.1,.own 5136]),(5132,.arr 9 1 (r17.2.2.2.2.2.2.2.1.map cStr)),(5133,.arr 43 7 (r17.2.2.2.2.2.2.2.2.1.map cOp)),(5134,.arr 43 7 (r17.2.2.2.2.2.2.2.2.2.1.map cOp)),(5136,.arr 43 7 (r17.2.2.2.2.2.2.2.2.2.2.map cOp)),(4,.box 77 [.loc 13 0]),(3,.box 28 [Y 0]),(2,.box 25 [.v (.slice none 0 0),.v (.slice none 0 0)])]) r17.2.2.2.1.2 ?_
      refine su [(2,.loc 2 0),(3,.loc 3 0),(4,.loc 4 0),(5,D r16)] [(13,.box 80 [.own 5130,.own 5131,.ela 5130 5 (r17.2.2.2.1.1.length) 2,Y r17.2.2.1]),(5130,.box 51 [pfx 5 (r17.2.2.2.1.1.map zAM) true,O r17.2.2.2.2.1,.own 5132,.own 5133,.own 5134,.own 5135]),(5131,.arr 43 7 (l13.map cOp)),(5135,.box 54 [pfx 2 (r17.2.2.2.2.2.1.1.map zAP) r17.2.2.2.2.2.1.2,Y r17.2.2.2.2.2.2.1,.own 5136]),(5132,.arr 9 1 (r17.2.2.2.2.2.2.2.1.map cStr)),(5133,.arr 43 7 (r17.2.2.2.2.2.2.2.2.1.map cOp)),(5134,.arr 43 7 (r17.2.2.2.2.2.2.2.2.2.1.map cOp)),(5136,.arr 43 7 (r17.2.2.2.2.2.2.2.2.2.2.map cOp)),(4,.box 77 [.loc 13 0]),(3,.box 28 [Y 0]),(2,.box 25 [.v (.slice none 0 0),.v (.slice none 0 0)])] ?_
      refine zBB [0,1,3,7,15,31,63,0,128,384,896,2047] mixed (by kernel_rfl) (by kernel_rfl) Z Z ?_
      refine vf [8,9] [64] [] [4,13] [4] [(32,.loc 13 0)] [(4,.box 77 [.loc 13 0])] ?_
      refine ve [64] [66] [13] [(33,.loc 13 0)] ?_
      refine ve [66] [68] [13] [(34,.loc 13 2)] ?_
      refine vf [27,68] [70] [] [13,5130,5131] [13] [(35,.ela 5130 5 (r17.2.2.2.1.1.length) 2)] [(13,.box 80 [.own 5130,.own 5131,.ela 5130 5 (r17.2.2.2.1.1.length) 2,Y r17.2.2.1])] ?_
      refine ve [70] [72] [5130] [(36,.ela 5130 5 (r17.2.2.2.1.1.length) 2)] ?_
      refine vs [72,10261] [74] [] [5130,5132,5133,5134,5135] [5130] [(37,.own 5133)] [(5130,.box 51 [pfx 5 (r17.2.2.2.1.1.map zAM) true,O r17.2.2.2.2.1,.own 5132,.own 5133,.own 5134,.own 5135])] Z Z (fun w0 X X0 σ0 _=>by refine zCo (T:=tab) (by simp) Z Z Z Z Z Z Z Z ?_;exact py) ?_
      refine vs [74,10267] [76] [] [5133] [5133] [(38,Y ((r17.2.2.2.2.2.2.2.2.1.length:Nat):Int))] [(5133,.arr 43 7 (r17.2.2.2.2.2.2.2.2.1.map cOp))] Z Z (fun w0 X X0 σ0 _=>by refine zDK (T:=tab) cOp r17.2.2.2.2.2.2.2.2.1 Z Z Z Z Z Z Z Z Z ?_;exact py) ?_
      refine vf [8,9] [78] [] [4,13] [4] [(39,.loc 13 0)] [(4,.box 77 [.loc 13 0])] ?_
      refine ve [78] [80] [13] [(40,.loc 13 0)] ?_
      refine ve [80] [82] [13] [(41,.loc 13 3)] ?_
      refine vf [27,82] [84] [] [13,5130,5131] [13] [(42,Y r17.2.2.1)] [(13,.box 80 [.own 5130,.own 5131,.ela 5130 5 (r17.2.2.2.1.1.length) 2,Y r17.2.2.1])] ?_
      refine ve [76,84] [86] [] [(43,O (((r17.2.2.2.2.2.2.2.2.1.length:Nat):Int)==r17.2.2.1))] ?_
      refine zBf Z Z ?_
      refine zAA ?_
      refine zAH Z ?_ ?_
      ·refine sr ?_
       refine zA4 (T:=tab) Z Z Z Z Z Z Z ?_
       refine zAG (T:=tab) Z Z Z Z Z Z Z Z Z Z Z Z ?_
       refine zAG (T:=tab) Z Z Z Z Z Z Z Z Z Z Z Z ?_
       refine ns ?_
       refine zEk 2 [.sl 5 false ([].map zAM),.sl 7 false ([].map cOp)] Z ⟨.nil,.nil,trivial⟩ Z ?_
       exact zJA Z ⟨Z,Z,trivial⟩ Z
      ·refine zAB (zAA (sr (pq 1 Z ?_)))
       refine pc (zHc fu r16) zOZ Z Z Z Z fun r19 hr19=>?_
       refine pq 3 Z ?_
       refine zAs (T:=tab) 6 Z Z Z Z Z Z Z Z Z ?_
       refine zAG (T:=tab) Z Z Z Z Z Z Z Z Z Z Z Z ?_
       refine pq 1 Z (ns ?_)
       refine su [(2,.loc 2 0),(3,.loc 3 0),(4,.loc 4 0),(6,.loc 6 0)] [(6,.box 43 [Y r19.1.Kind,Y r19.1.A,Y r19.1.B,Y r19.1.C,D r19.1.S,D r19.1.T,O r19.1.Must]),(13,.box 80 [.own 5130,.own 5131,.ela 5130 5 (r17.2.2.2.1.1.length) 2,Y r17.2.2.1]),(5130,.box 51 [pfx 5 (r17.2.2.2.1.1.map zAM) true,O r17.2.2.2.2.1,.own 5132,.own 5133,.own 5134,.own 5135]),(5131,.arr 43 7 (l13.map cOp)),(5135,.box 54 [pfx 2 (r17.2.2.2.2.2.1.1.map zAP) r17.2.2.2.2.2.1.2,Y r17.2.2.2.2.2.2.1,.own 5136]),(5132,.arr 9 1 (r17.2.2.2.2.2.2.2.1.map cStr)),(5133,.arr 43 7 (r17.2.2.2.2.2.2.2.2.1.map cOp)),(5134,.arr 43 7 (r17.2.2.2.2.2.2.2.2.2.1.map cOp)),(5136,.arr 43 7 (r17.2.2.2.2.2.2.2.2.2.2.map cOp)),(4,.box 77 [.loc 13 0]),(3,.box 28 [Y 0]),(2,.box 25 [.v (.slice none 0 0),.v (.slice none 0 0)])] ?_
       refine zBB [0,1,3,7,0,16,48,112,240,496,0,1024,4080,8191,16383] mixed (by kernel_rfl) (by kernel_rfl) Z Z ?_
       refine vf [8,9] [100] [] [4,13] [4] [(50,.loc 13 0)] [(4,.box 77 [.loc 13 0])] ?_
       refine ve [100] [102] [13] [(51,.loc 13 0)] ?_
       refine ve [102] [104] [13] [(52,.loc 13 2)] ?_
       refine vf [27,104] [106] [] [13,5130,5131] [13] [(53,.ela 5130 5 (r17.2.2.2.1.1.length) 2)] [(13,.box 80 [.own 5130,.own 5131,.ela 5130 5 (r17.2.2.2.1.1.length) 2,Y r17.2.2.1])] ?_
       refine vf [8,9] [108] [] [4,13] [4] [(54,.loc 13 0)] [(4,.box 77 [.loc 13 0])] ?_
       refine ve [108] [110] [13] [(55,.loc 13 0)] ?_
       refine ve [110] [112] [13] [(56,.loc 13 2)] ?_
       refine vf [27,112] [114] [] [13,5130,5131] [13] [(57,.ela 5130 5 (r17.2.2.2.1.1.length) 2)] [(13,.box 80 [.own 5130,.own 5131,.ela 5130 5 (r17.2.2.2.1.1.length) 2,Y r17.2.2.1])] ?_
       refine ve [114] [116] [5130] [(58,.ela 5130 5 (r17.2.2.2.1.1.length) 2)] ?_
       refine vs [116,10261] [118] [] [5130,5132,5133,5134,5135] [5130] [(59,.own 5133)] [(5130,.box 51 [pfx 5 (r17.2.2.2.1.1.map zAM) true,O r17.2.2.2.2.1,.own 5132,.own 5133,.own 5134,.own 5135])] Z Z (fun w0 X X0 σ0 _=>by refine zCo (T:=tab) (by simp) Z Z Z Z Z Z Z Z ?_;exact py) ?_
       refine vf [12,13] [120] [] [6] [6] [(60,.agg (cOp r19.1))] [(6,.box 43 [Y r19.1.Kind,Y r19.1.A,Y r19.1.B,Y r19.1.C,D r19.1.S,D r19.1.T,O r19.1.Must])] ?_
       refine vs [120] [122,123] [61] [] [] [(61,.own 61)] [(61,.arr 43 7 ([r19.1].map cOp))] Z Z (fun w0 X X0 σ0 _=>by refine zBu (T:=tab) (rows:=[r19.1].map cOp) 61 Z Z Z Z Z Z Z Z Z Z Z Z Z Z ?_;exact py) ?_
       refine vt (zBr 72 (r17.2.2.2.2.2.2.2.2.1.length+([r19.1]:List Op).length)) [(124,[5133]),(118,[]),(10261,[5132,5134,5135]),(10267,[])] [118,122,123,10261,10267] [124,118,10261,10267] [5133] [61,5130,5132,5134,5135] [61] (fun _=>[(62,.own 5133)]) (fun _=>[(5130,.box 51 [pfx 5 (r17.2.2.2.1.1.map zAM) true,O r17.2.2.2.2.1,.own 5132,.junk,.own 5134,.own 5135]),(5133,.arr 43 7 ((r17.2.2.2.2.2.2.2.2.1++[r19.1]).map cOp)),(61,.arr 43 7 ([r19.1].map cOp))]) Z Z (fun _=>Z) (fun w0 X X0 σ0 _=>by refine zAv (T:=tab) cOp r17.2.2.2.2.2.2.2.2.1 ([r19.1]:List Op) Z Z Z Z Z Z Z Z Z Z Z Z Z Z (zDk _) Z Z Z Z Z ?_;exact pz) fun _ h0=>?_
       refine ve [106] [126] [5130] [(63,.ela 5130 5 (r17.2.2.2.1.1.length) 2)] ?_
       refine vs [124,126,10261,10267] [10261] [] [5130,5132,5133,5134,5135] [5133] [] [(5130,.box 51 [pfx 5 (r17.2.2.2.1.1.map zAM) true,O r17.2.2.2.2.1,.own 5132,.own 5133,.own 5134,.own 5135]),(5133,.arr 43 7 ((r17.2.2.2.2.2.2.2.2.1++[r19.1]).map cOp))] Z Z (fun w0 X X0 σ0 _=>by refine zFW (T:=tab) (by simp) Z Z Z Z Z Z Z Z Z Z Z Z ?_;exact py) ?_
       refine zBf Z Z ?_
       refine zAK ?_
       refine zGW 13 [.own 5130,.own 5131,.sel 1 [.loc 13 1,.ela 5130 5 (r17.2.2.2.1.1.length) 2,.ela 5130 5 (r17.2.2.2.1.1.length) 3,.ela 5135 2 (r17.2.2.2.2.2.1.1.length) 1],Y r17.2.2.1] Z ⟨.rfl,.rfl,(.sel Z Z),.rfl,trivial⟩ Z ?_
       exact zG2 (1,r17.2.2.1,(r17.2.2.2.1.1,true),r17.2.2.2.2.1,r17.2.2.2.2.2.2.2.1,(r17.2.2.2.2.2.2.2.2.1++[r19.1]),r17.2.2.2.2.2.2.2.2.2.1,r17.2.2.2.2.2.1,r17.2.2.2.2.2.2.1,r17.2.2.2.2.2.2.2.2.2.2,l13) ⟨Z,Z,Z,Z,Z,Z,Z,Z,Z,Z,Z,trivial⟩ Z
     ·refine zJu (E':=[(2,.loc 2 0),(3,.loc 3 0),(4,.loc 4 0),(22,D y14),(5,D r16),(23,D y14),(24,D r16),(25,D r16),(26,O (r16==([]:Bs))),(27,O false),(28,.loc 13 0),(29,D r16),(30,O r17.1),(31,O r17.1)]) (S':=[(13,.box 80 [.own 5130,.own 5131,.ela 5130 5 (r17.2.2.2.1.1.length) 3,Y r17.2.2.1]),(5130,.box 51 [pfx 5 (r17.2.2.2.1.1.map zAM) r17.2.2.2.1.2,O r17.2.2.2.2.1,.own 5132,.own 5133,.own 5134,.own 5135]),(5131,.arr 43 7 (l13.map cOp)),(5135,.box 54 [pfx 2 (r17.2.2.2.2.2.1.1.map zAP) r17.2.2.2.2.2.1.2,Y r17.2.2.2.2.2.2.1,.own 5136]),(5132,.arr 9 1 (r17.2.2.2.2.2.2.2.1.map cStr)),(5133,.arr 43 7 (r17.2.2.2.2.2.2.2.2.1.map cOp)),(5134,.arr 43 7 (r17.2.2.2.2.2.2.2.2.2.1.map cOp)),(5136,.arr 43 7 (r17.2.2.2.2.2.2.2.2.2.2.map cOp)),(4,.box 77 [.loc 13 0]),(3,.box 28 [Y 0]),(2,.box 25 [.v (.slice none 0 0),.v (.slice none 0 0)])]) Z Z ?_
      refine su [(2,.loc 2 0),(3,.loc 3 0),(4,.loc 4 0),(22,D y14),(5,D r16),(23,D y14),(24,D r16),(25,D r16),(26,O (r16==([]:Bs))),(27,O false),(28,.loc 13 0),(29,D r16),(30,O r17.1),(31,O r17.1)] [(13,.box 80 [.own 5130,.own 5131,.ela 5130 5 (r17.2.2.2.1.1.length) 3,Y r17.2.2.1]),(5130,.box 51 [pfx 5 (r17.2.2.2.1.1.map zAM) r17.2.2.2.1.2,O r17.2.2.2.2.1,.own 5132,.own 5133,.own 5134,.own 5135]),(5131,.arr 43 7 (l13.map cOp)),(5135,.box 54 [pfx 2 (r17.2.2.2.2.2.1.1.map zAP) r17.2.2.2.2.2.1.2,Y r17.2.2.2.2.2.2.1,.own 5136]),(5132,.arr 9 1 (r17.2.2.2.2.2.2.2.1.map cStr)),(5133,.arr 43 7 (r17.2.2.2.2.2.2.2.2.1.map cOp)),(5134,.arr 43 7 (r17.2.2.2.2.2.2.2.2.2.1.map cOp)),(5136,.arr 43 7 (r17.2.2.2.2.2.2.2.2.2.2.map cOp)),(4,.box 77 [.loc 13 0]),(3,.box 28 [Y 0]),(2,.box 25 [.v (.slice none 0 0),.v (.slice none 0 0)])] ?_
      refine zPL (fun b_=>[(2,.loc 2 0),(3,.loc 3 0),(4,.loc 4 0),(22,D y14),(5,D r16),(23,D y14),(24,D r16),(25,D r16),(26,O (r16==([]:Bs))),(27,O false),(28,.loc 13 0),(29,D r16),(30,O r17.1),(31,O r17.1)]) (fun b_=>[(13,.box 80 [.own 5130,.own 5131,.ela 5130 5 (r17.2.2.2.1.1.length) 3,Y r17.2.2.1]),(5130,.box 51 [pfx 5 (r17.2.2.2.1.1.map zAM) b_,O r17.2.2.2.2.1,.own 5132,.own 5133,.own 5134,.own 5135]),(5131,.arr 43 7 (l13.map cOp)),(5135,.box 54 [pfx 2 (r17.2.2.2.2.2.1.1.map zAP) r17.2.2.2.2.2.1.2,Y r17.2.2.2.2.2.2.1,.own 5136]),(5132,.arr 9 1 (r17.2.2.2.2.2.2.2.1.map cStr)),(5133,.arr 43 7 (r17.2.2.2.2.2.2.2.2.1.map cOp)),(5134,.arr 43 7 (r17.2.2.2.2.2.2.2.2.2.1.map cOp)),(5136,.arr 43 7 (r17.2.2.2.2.2.2.2.2.2.2.map cOp)),(4,.box 77 [.loc 13 0]),(3,.box 28 [Y 0]),(2,.box 25 [.v (.slice none 0 0),.v (.slice none 0 0)])]) r17.2.2.2.1.2 ?_
      refine su [(2,.loc 2 0),(3,.loc 3 0),(4,.loc 4 0),(5,D r16)] [(13,.box 80 [.own 5130,.own 5131,.ela 5130 5 (r17.2.2.2.1.1.length) 3,Y r17.2.2.1]),(5130,.box 51 [pfx 5 (r17.2.2.2.1.1.map zAM) true,O r17.2.2.2.2.1,.own 5132,.own 5133,.own 5134,.own 5135]),(5131,.arr 43 7 (l13.map cOp)),(5135,.box 54 [pfx 2 (r17.2.2.2.2.2.1.1.map zAP) r17.2.2.2.2.2.1.2,Y r17.2.2.2.2.2.2.1,.own 5136]),(5132,.arr 9 1 (r17.2.2.2.2.2.2.2.1.map cStr)),(5133,.arr 43 7 (r17.2.2.2.2.2.2.2.2.1.map cOp)),(5134,.arr 43 7 (r17.2.2.2.2.2.2.2.2.2.1.map cOp)),(5136,.arr 43 7 (r17.2.2.2.2.2.2.2.2.2.2.map cOp)),(4,.box 77 [.loc 13 0]),(3,.box 28 [Y 0]),(2,.box 25 [.v (.slice none 0 0),.v (.slice none 0 0)])] ?_
      refine zBB [0,1,3,7,15,31,63,0,128,384,896,2047] mixed (by kernel_rfl) (by kernel_rfl) Z Z ?_
      refine vf [8,9] [64] [] [4,13] [4] [(32,.loc 13 0)] [(4,.box 77 [.loc 13 0])] ?_
      refine ve [64] [66] [13] [(33,.loc 13 0)] ?_
      refine ve [66] [68] [13] [(34,.loc 13 2)] ?_
      refine vf [27,68] [70] [] [13,5130,5131] [13] [(35,.ela 5130 5 (r17.2.2.2.1.1.length) 3)] [(13,.box 80 [.own 5130,.own 5131,.ela 5130 5 (r17.2.2.2.1.1.length) 3,Y r17.2.2.1])] ?_
      refine ve [70] [72] [5130] [(36,.ela 5130 5 (r17.2.2.2.1.1.length) 3)] ?_
      refine vs [72,10261] [74] [] [5130,5132,5133,5134,5135] [5130] [(37,.own 5134)] [(5130,.box 51 [pfx 5 (r17.2.2.2.1.1.map zAM) true,O r17.2.2.2.2.1,.own 5132,.own 5133,.own 5134,.own 5135])] Z Z (fun w0 X X0 σ0 _=>by refine zCo (T:=tab) (by simp) Z Z Z Z Z Z Z Z ?_;exact py) ?_
      refine vs [74,10269] [76] [] [5134] [5134] [(38,Y ((r17.2.2.2.2.2.2.2.2.2.1.length:Nat):Int))] [(5134,.arr 43 7 (r17.2.2.2.2.2.2.2.2.2.1.map cOp))] Z Z (fun w0 X X0 σ0 _=>by refine zDK (T:=tab) cOp r17.2.2.2.2.2.2.2.2.2.1 Z Z Z Z Z Z Z Z Z ?_;exact py) ?_
      refine vf [8,9] [78] [] [4,13] [4] [(39,.loc 13 0)] [(4,.box 77 [.loc 13 0])] ?_
      refine ve [78] [80] [13] [(40,.loc 13 0)] ?_
      refine ve [80] [82] [13] [(41,.loc 13 3)] ?_
      refine vf [27,82] [84] [] [13,5130,5131] [13] [(42,Y r17.2.2.1)] [(13,.box 80 [.own 5130,.own 5131,.ela 5130 5 (r17.2.2.2.1.1.length) 3,Y r17.2.2.1])] ?_
      refine ve [76,84] [86] [] [(43,O (((r17.2.2.2.2.2.2.2.2.2.1.length:Nat):Int)==r17.2.2.1))] ?_
      refine zBf Z Z ?_
      refine zAA ?_
      refine zAH Z ?_ ?_
      ·refine sr ?_
       refine zA4 (T:=tab) Z Z Z Z Z Z Z ?_
       refine zAG (T:=tab) Z Z Z Z Z Z Z Z Z Z Z Z ?_
       refine zAG (T:=tab) Z Z Z Z Z Z Z Z Z Z Z Z ?_
       refine ns ?_
       refine zEk 2 [.sl 5 false ([].map zAM),.sl 7 false ([].map cOp)] Z ⟨.nil,.nil,trivial⟩ Z ?_
       exact zJA Z ⟨Z,Z,trivial⟩ Z
      ·refine zAB (zAA (sr (pq 1 Z ?_)))
       refine pc (zHc fu r16) zOZ Z Z Z Z fun r20 hr20=>?_
       refine pq 3 Z ?_
       refine zAs (T:=tab) 6 Z Z Z Z Z Z Z Z Z ?_
       refine zAG (T:=tab) Z Z Z Z Z Z Z Z Z Z Z Z ?_
       refine pq 1 Z (ns ?_)
       refine su [(2,.loc 2 0),(3,.loc 3 0),(4,.loc 4 0),(6,.loc 6 0)] [(6,.box 43 [Y r20.1.Kind,Y r20.1.A,Y r20.1.B,Y r20.1.C,D r20.1.S,D r20.1.T,O r20.1.Must]),(13,.box 80 [.own 5130,.own 5131,.ela 5130 5 (r17.2.2.2.1.1.length) 3,Y r17.2.2.1]),(5130,.box 51 [pfx 5 (r17.2.2.2.1.1.map zAM) true,O r17.2.2.2.2.1,.own 5132,.own 5133,.own 5134,.own 5135]),(5131,.arr 43 7 (l13.map cOp)),(5135,.box 54 [pfx 2 (r17.2.2.2.2.2.1.1.map zAP) r17.2.2.2.2.2.1.2,Y r17.2.2.2.2.2.2.1,.own 5136]),(5132,.arr 9 1 (r17.2.2.2.2.2.2.2.1.map cStr)),(5133,.arr 43 7 (r17.2.2.2.2.2.2.2.2.1.map cOp)),(5134,.arr 43 7 (r17.2.2.2.2.2.2.2.2.2.1.map cOp)),(5136,.arr 43 7 (r17.2.2.2.2.2.2.2.2.2.2.map cOp)),(4,.box 77 [.loc 13 0]),(3,.box 28 [Y 0]),(2,.box 25 [.v (.slice none 0 0),.v (.slice none 0 0)])] ?_
       refine zBB [0,1,3,7,0,16,48,112,240,496,0,1024,4080,8191,16383] mixed (by kernel_rfl) (by kernel_rfl) Z Z ?_
       refine vf [8,9] [100] [] [4,13] [4] [(50,.loc 13 0)] [(4,.box 77 [.loc 13 0])] ?_
       refine ve [100] [102] [13] [(51,.loc 13 0)] ?_
       refine ve [102] [104] [13] [(52,.loc 13 2)] ?_
       refine vf [27,104] [106] [] [13,5130,5131] [13] [(53,.ela 5130 5 (r17.2.2.2.1.1.length) 3)] [(13,.box 80 [.own 5130,.own 5131,.ela 5130 5 (r17.2.2.2.1.1.length) 3,Y r17.2.2.1])] ?_
       refine vf [8,9] [108] [] [4,13] [4] [(54,.loc 13 0)] [(4,.box 77 [.loc 13 0])] ?_
       refine ve [108] [110] [13] [(55,.loc 13 0)] ?_
       refine ve [110] [112] [13] [(56,.loc 13 2)] ?_
       refine vf [27,112] [114] [] [13,5130,5131] [13] [(57,.ela 5130 5 (r17.2.2.2.1.1.length) 3)] [(13,.box 80 [.own 5130,.own 5131,.ela 5130 5 (r17.2.2.2.1.1.length) 3,Y r17.2.2.1])] ?_
       refine ve [114] [116] [5130] [(58,.ela 5130 5 (r17.2.2.2.1.1.length) 3)] ?_
       refine vs [116,10261] [118] [] [5130,5132,5133,5134,5135] [5130] [(59,.own 5134)] [(5130,.box 51 [pfx 5 (r17.2.2.2.1.1.map zAM) true,O r17.2.2.2.2.1,.own 5132,.own 5133,.own 5134,.own 5135])] Z Z (fun w0 X X0 σ0 _=>by refine zCo (T:=tab) (by simp) Z Z Z Z Z Z Z Z ?_;exact py) ?_
       refine vf [12,13] [120] [] [6] [6] [(60,.agg (cOp r20.1))] [(6,.box 43 [Y r20.1.Kind,Y r20.1.A,Y r20.1.B,Y r20.1.C,D r20.1.S,D r20.1.T,O r20.1.Must])] ?_
       refine vs [120] [122,123] [61] [] [] [(61,.own 61)] [(61,.arr 43 7 ([r20.1].map cOp))] Z Z (fun w0 X X0 σ0 _=>by refine zBu (T:=tab) (rows:=[r20.1].map cOp) 61 Z Z Z Z Z Z Z Z Z Z Z Z Z Z ?_;exact py) ?_
       refine vt (zBr 72 (r17.2.2.2.2.2.2.2.2.2.1.length+([r20.1]:List Op).length)) [(124,[5134]),(118,[]),(10261,[5132,5133,5135]),(10269,[])] [118,122,123,10261,10269] [124,118,10261,10269] [5134] [61,5130,5132,5133,5135] [61] (fun _=>[(62,.own 5134)]) (fun _=>[(5130,.box 51 [pfx 5 (r17.2.2.2.1.1.map zAM) true,O r17.2.2.2.2.1,.own 5132,.own 5133,.junk,.own 5135]),(5134,.arr 43 7 ((r17.2.2.2.2.2.2.2.2.2.1++[r20.1]).map cOp)),(61,.arr 43 7 ([r20.1].map cOp))]) Z Z (fun _=>Z) (fun w0 X X0 σ0 _=>by refine zAv (T:=tab) cOp r17.2.2.2.2.2.2.2.2.2.1 ([r20.1]:List Op) Z Z Z Z Z Z Z Z Z Z Z Z Z Z (zDk _) Z Z Z Z Z ?_;exact pz) fun _ h0=>?_
       refine ve [106] [126] [5130] [(63,.ela 5130 5 (r17.2.2.2.1.1.length) 3)] ?_
       refine vs [124,126,10261,10269] [10261] [] [5130,5132,5133,5134,5135] [5134] [] [(5130,.box 51 [pfx 5 (r17.2.2.2.1.1.map zAM) true,O r17.2.2.2.2.1,.own 5132,.own 5133,.own 5134,.own 5135]),(5134,.arr 43 7 ((r17.2.2.2.2.2.2.2.2.2.1++[r20.1]).map cOp))] Z Z (fun w0 X X0 σ0 _=>by refine zFW (T:=tab) (by simp) Z Z Z Z Z Z Z Z Z Z Z Z ?_;exact py) ?_
       refine zBf Z Z ?_
       refine zAK ?_
       refine zGW 13 [.own 5130,.own 5131,.sel 2 [.loc 13 1,.ela 5130 5 (r17.2.2.2.1.1.length) 2,.ela 5130 5 (r17.2.2.2.1.1.length) 3,.ela 5135 2 (r17.2.2.2.2.2.1.1.length) 1],Y r17.2.2.1] Z ⟨.rfl,.rfl,(.sel Z Z),.rfl,trivial⟩ Z ?_
       exact zG2 (2,r17.2.2.1,(r17.2.2.2.1.1,true),r17.2.2.2.2.1,r17.2.2.2.2.2.2.2.1,r17.2.2.2.2.2.2.2.2.1,(r17.2.2.2.2.2.2.2.2.2.1++[r20.1]),r17.2.2.2.2.2.1,r17.2.2.2.2.2.2.1,r17.2.2.2.2.2.2.2.2.2.2,l13) ⟨Z,Z,Z,Z,Z,Z,Z,Z,Z,Z,Z,trivial⟩ Z
     ·refine zJu (E':=[(2,.loc 2 0),(3,.loc 3 0),(4,.loc 4 0),(22,D y14),(5,D r16),(23,D y14),(24,D r16),(25,D r16),(26,O (r16==([]:Bs))),(27,O false),(28,.loc 13 0),(29,D r16),(30,O r17.1),(31,O r17.1)]) (S':=[(13,.box 80 [.own 5130,.own 5131,.ela 5135 2 (r17.2.2.2.2.2.1.1.length) 1,Y r17.2.2.1]),(5130,.box 51 [pfx 5 (r17.2.2.2.1.1.map zAM) r17.2.2.2.1.2,O r17.2.2.2.2.1,.own 5132,.own 5133,.own 5134,.own 5135]),(5131,.arr 43 7 (l13.map cOp)),(5135,.box 54 [pfx 2 (r17.2.2.2.2.2.1.1.map zAP) r17.2.2.2.2.2.1.2,Y r17.2.2.2.2.2.2.1,.own 5136]),(5132,.arr 9 1 (r17.2.2.2.2.2.2.2.1.map cStr)),(5133,.arr 43 7 (r17.2.2.2.2.2.2.2.2.1.map cOp)),(5134,.arr 43 7 (r17.2.2.2.2.2.2.2.2.2.1.map cOp)),(5136,.arr 43 7 (r17.2.2.2.2.2.2.2.2.2.2.map cOp)),(4,.box 77 [.loc 13 0]),(3,.box 28 [Y 0]),(2,.box 25 [.v (.slice none 0 0),.v (.slice none 0 0)])]) Z Z ?_
      refine su [(2,.loc 2 0),(3,.loc 3 0),(4,.loc 4 0),(22,D y14),(5,D r16),(23,D y14),(24,D r16),(25,D r16),(26,O (r16==([]:Bs))),(27,O false),(28,.loc 13 0),(29,D r16),(30,O r17.1),(31,O r17.1)] [(13,.box 80 [.own 5130,.own 5131,.ela 5135 2 (r17.2.2.2.2.2.1.1.length) 1,Y r17.2.2.1]),(5130,.box 51 [pfx 5 (r17.2.2.2.1.1.map zAM) r17.2.2.2.1.2,O r17.2.2.2.2.1,.own 5132,.own 5133,.own 5134,.own 5135]),(5131,.arr 43 7 (l13.map cOp)),(5135,.box 54 [pfx 2 (r17.2.2.2.2.2.1.1.map zAP) r17.2.2.2.2.2.1.2,Y r17.2.2.2.2.2.2.1,.own 5136]),(5132,.arr 9 1 (r17.2.2.2.2.2.2.2.1.map cStr)),(5133,.arr 43 7 (r17.2.2.2.2.2.2.2.2.1.map cOp)),(5134,.arr 43 7 (r17.2.2.2.2.2.2.2.2.2.1.map cOp)),(5136,.arr 43 7 (r17.2.2.2.2.2.2.2.2.2.2.map cOp)),(4,.box 77 [.loc 13 0]),(3,.box 28 [Y 0]),(2,.box 25 [.v (.slice none 0 0),.v (.slice none 0 0)])] ?_
      refine zPL (fun b_=>[(2,.loc 2 0),(3,.loc 3 0),(4,.loc 4 0),(22,D y14),(5,D r16),(23,D y14),(24,D r16),(25,D r16),(26,O (r16==([]:Bs))),(27,O false),(28,.loc 13 0),(29,D r16),(30,O r17.1),(31,O r17.1)]) (fun b_=>[(13,.box 80 [.own 5130,.own 5131,.ela 5135 2 (r17.2.2.2.2.2.1.1.length) 1,Y r17.2.2.1]),(5130,.box 51 [pfx 5 (r17.2.2.2.1.1.map zAM) r17.2.2.2.1.2,O r17.2.2.2.2.1,.own 5132,.own 5133,.own 5134,.own 5135]),(5131,.arr 43 7 (l13.map cOp)),(5135,.box 54 [pfx 2 (r17.2.2.2.2.2.1.1.map zAP) b_,Y r17.2.2.2.2.2.2.1,.own 5136]),(5132,.arr 9 1 (r17.2.2.2.2.2.2.2.1.map cStr)),(5133,.arr 43 7 (r17.2.2.2.2.2.2.2.2.1.map cOp)),(5134,.arr 43 7 (r17.2.2.2.2.2.2.2.2.2.1.map cOp)),(5136,.arr 43 7 (r17.2.2.2.2.2.2.2.2.2.2.map cOp)),(4,.box 77 [.loc 13 0]),(3,.box 28 [Y 0]),(2,.box 25 [.v (.slice none 0 0),.v (.slice none 0 0)])]) r17.2.2.2.2.2.1.2 ?_
      refine su [(2,.loc 2 0),(3,.loc 3 0),(4,.loc 4 0),(5,D r16)] [(13,.box 80 [.own 5130,.own 5131,.ela 5135 2 (r17.2.2.2.2.2.1.1.length) 1,Y r17.2.2.1]),(5130,.box 51 [pfx 5 (r17.2.2.2.1.1.map zAM) r17.2.2.2.1.2,O r17.2.2.2.2.1,.own 5132,.own 5133,.own 5134,.own 5135]),(5131,.arr 43 7 (l13.map cOp)),(5135,.box 54 [pfx 2 (r17.2.2.2.2.2.1.1.map zAP) true,Y r17.2.2.2.2.2.2.1,.own 5136]),(5132,.arr 9 1 (r17.2.2.2.2.2.2.2.1.map cStr)),(5133,.arr 43 7 (r17.2.2.2.2.2.2.2.2.1.map cOp)),(5134,.arr 43 7 (r17.2.2.2.2.2.2.2.2.2.1.map cOp)),(5136,.arr 43 7 (r17.2.2.2.2.2.2.2.2.2.2.map cOp)),(4,.box 77 [.loc 13 0]),(3,.box 28 [Y 0]),(2,.box 25 [.v (.slice none 0 0),.v (.slice none 0 0)])] ?_
      refine zBB [0,1,3,7,15,31,63,0,128,384,896,2047] mixed (by kernel_rfl) (by kernel_rfl) Z Z ?_
      refine vf [8,9] [64] [] [4,13] [4] [(32,.loc 13 0)] [(4,.box 77 [.loc 13 0])] ?_
      refine ve [64] [66] [13] [(33,.loc 13 0)] ?_
      refine ve [66] [68] [13] [(34,.loc 13 2)] ?_
      refine vf [27,68] [70] [] [13,5130,5131,5135] [13] [(35,.ela 5135 2 (r17.2.2.2.2.2.1.1.length) 1)] [(13,.box 80 [.own 5130,.own 5131,.ela 5135 2 (r17.2.2.2.2.2.1.1.length) 1,Y r17.2.2.1])] ?_
      refine ve [70] [72] [5135] [(36,.ela 5135 2 (r17.2.2.2.2.2.1.1.length) 1)] ?_
      refine vs [72,10271] [74] [] [5135,5136] [5135] [(37,.own 5136)] [(5135,.box 54 [pfx 2 (r17.2.2.2.2.2.1.1.map zAP) true,Y r17.2.2.2.2.2.2.1,.own 5136])] Z Z (fun w0 X X0 σ0 _=>by refine zCo (T:=tab) (by simp) Z Z Z Z Z Z Z Z ?_;exact py) ?_
      refine vs [74,10273] [76] [] [5136] [5136] [(38,Y ((r17.2.2.2.2.2.2.2.2.2.2.length:Nat):Int))] [(5136,.arr 43 7 (r17.2.2.2.2.2.2.2.2.2.2.map cOp))] Z Z (fun w0 X X0 σ0 _=>by refine zDK (T:=tab) cOp r17.2.2.2.2.2.2.2.2.2.2 Z Z Z Z Z Z Z Z Z ?_;exact py) ?_
      refine vf [8,9] [78] [] [4,13] [4] [(39,.loc 13 0)] [(4,.box 77 [.loc 13 0])] ?_
      refine ve [78] [80] [13] [(40,.loc 13 0)] ?_
      refine ve [80] [82] [13] [(41,.loc 13 3)] ?_
      refine vf [27,82] [84] [] [13,5130,5131,5135] [13] [(42,Y r17.2.2.1)] [(13,.box 80 [.own 5130,.own 5131,.ela 5135 2 (r17.2.2.2.2.2.1.1.length) 1,Y r17.2.2.1])] ?_
      refine ve [76,84] [86] [] [(43,O (((r17.2.2.2.2.2.2.2.2.2.2.length:Nat):Int)==r17.2.2.1))] ?_
      refine zBf Z Z ?_
      refine zAA ?_
      refine zAH Z ?_ ?_
      ·refine sr ?_
       refine zA4 (T:=tab) Z Z Z Z Z Z Z ?_
       refine zAG (T:=tab) Z Z Z Z Z Z Z Z Z Z Z Z ?_
       refine zAG (T:=tab) Z Z Z Z Z Z Z Z Z Z Z Z ?_
       refine ns ?_
       refine zEk 2 [.sl 5 false ([].map zAM),.sl 7 false ([].map cOp)] Z ⟨.nil,.nil,trivial⟩ Z ?_
       exact zJA Z ⟨Z,Z,trivial⟩ Z
      ·refine zAB (zAA (sr (pq 1 Z ?_)))
       refine pc (zHc fu r16) zOZ Z Z Z Z fun r21 hr21=>?_
       refine pq 3 Z ?_
       refine zAs (T:=tab) 6 Z Z Z Z Z Z Z Z Z ?_
       refine zAG (T:=tab) Z Z Z Z Z Z Z Z Z Z Z Z ?_
       refine pq 1 Z (ns ?_)
       refine su [(2,.loc 2 0),(3,.loc 3 0),(4,.loc 4 0),(6,.loc 6 0)] [(6,.box 43 [Y r21.1.Kind,Y r21.1.A,Y r21.1.B,Y r21.1.C,D r21.1.S,D r21.1.T,O r21.1.Must]),(13,.box 80 [.own 5130,.own 5131,.ela 5135 2 (r17.2.2.2.2.2.1.1.length) 1,Y r17.2.2.1]),(5130,.box 51 [pfx 5 (r17.2.2.2.1.1.map zAM) r17.2.2.2.1.2,O r17.2.2.2.2.1,.own 5132,.own 5133,.own 5134,.own 5135]),(5131,.arr 43 7 (l13.map cOp)),(5135,.box 54 [pfx 2 (r17.2.2.2.2.2.1.1.map zAP) true,Y r17.2.2.2.2.2.2.1,.own 5136]),(5132,.arr 9 1 (r17.2.2.2.2.2.2.2.1.map cStr)),(5133,.arr 43 7 (r17.2.2.2.2.2.2.2.2.1.map cOp)),(5134,.arr 43 7 (r17.2.2.2.2.2.2.2.2.2.1.map cOp)),(5136,.arr 43 7 (r17.2.2.2.2.2.2.2.2.2.2.map cOp)),(4,.box 77 [.loc 13 0]),(3,.box 28 [Y 0]),(2,.box 25 [.v (.slice none 0 0),.v (.slice none 0 0)])] ?_
       refine zBB [0,1,3,7,0,16,48,112,240,496,0,1024,4080,8191,16383] mixed (by kernel_rfl) (by kernel_rfl) Z Z ?_
       refine vf [8,9] [100] [] [4,13] [4] [(50,.loc 13 0)] [(4,.box 77 [.loc 13 0])] ?_
       refine ve [100] [102] [13] [(51,.loc 13 0)] ?_
       refine ve [102] [104] [13] [(52,.loc 13 2)] ?_
       refine vf [27,104] [106] [] [13,5130,5131,5135] [13] [(53,.ela 5135 2 (r17.2.2.2.2.2.1.1.length) 1)] [(13,.box 80 [.own 5130,.own 5131,.ela 5135 2 (r17.2.2.2.2.2.1.1.length) 1,Y r17.2.2.1])] ?_
       refine vf [8,9] [108] [] [4,13] [4] [(54,.loc 13 0)] [(4,.box 77 [.loc 13 0])] ?_
       refine ve [108] [110] [13] [(55,.loc 13 0)] ?_
       refine ve [110] [112] [13] [(56,.loc 13 2)] ?_
       refine vf [27,112] [114] [] [13,5130,5131,5135] [13] [(57,.ela 5135 2 (r17.2.2.2.2.2.1.1.length) 1)] [(13,.box 80 [.own 5130,.own 5131,.ela 5135 2 (r17.2.2.2.2.2.1.1.length) 1,Y r17.2.2.1])] ?_
       refine ve [114] [116] [5135] [(58,.ela 5135 2 (r17.2.2.2.2.2.1.1.length) 1)] ?_
       refine vs [116,10271] [118] [] [5135,5136] [5135] [(59,.own 5136)] [(5135,.box 54 [pfx 2 (r17.2.2.2.2.2.1.1.map zAP) true,Y r17.2.2.2.2.2.2.1,.own 5136])] Z Z (fun w0 X X0 σ0 _=>by refine zCo (T:=tab) (by simp) Z Z Z Z Z Z Z Z ?_;exact py) ?_
       refine vf [12,13] [120] [] [6] [6] [(60,.agg (cOp r21.1))] [(6,.box 43 [Y r21.1.Kind,Y r21.1.A,Y r21.1.B,Y r21.1.C,D r21.1.S,D r21.1.T,O r21.1.Must])] ?_
       refine vs [120] [122,123] [61] [] [] [(61,.own 61)] [(61,.arr 43 7 ([r21.1].map cOp))] Z Z (fun w0 X X0 σ0 _=>by refine zBu (T:=tab) (rows:=[r21.1].map cOp) 61 Z Z Z Z Z Z Z Z Z Z Z Z Z Z ?_;exact py) ?_
       refine vt (zBr 72 (r17.2.2.2.2.2.2.2.2.2.2.length+([r21.1]:List Op).length)) [(124,[5136]),(118,[]),(10271,[]),(10273,[])] [118,122,123,10271,10273] [124,118,10271,10273] [5136] [61,5135] [61] (fun _=>[(62,.own 5136)]) (fun _=>[(5135,.box 54 [pfx 2 (r17.2.2.2.2.2.1.1.map zAP) true,Y r17.2.2.2.2.2.2.1,.junk]),(5136,.arr 43 7 ((r17.2.2.2.2.2.2.2.2.2.2++[r21.1]).map cOp)),(61,.arr 43 7 ([r21.1].map cOp))]) Z Z (fun _=>Z) (fun w0 X X0 σ0 _=>by refine zAv (T:=tab) cOp r17.2.2.2.2.2.2.2.2.2.2 ([r21.1]:List Op) Z Z Z Z Z Z Z Z Z Z Z Z Z Z (zDk _) Z Z Z Z Z ?_;exact pz) fun _ h0=>?_
       refine ve [106] [126] [5135] [(63,.ela 5135 2 (r17.2.2.2.2.2.1.1.length) 1)] ?_
       refine vs [124,126,10271,10273] [10271] [] [5135,5136] [5136] [] [(5135,.box 54 [pfx 2 (r17.2.2.2.2.2.1.1.map zAP) true,Y r17.2.2.2.2.2.2.1,.own 5136]),(5136,.arr 43 7 ((r17.2.2.2.2.2.2.2.2.2.2++[r21.1]).map cOp))] Z Z (fun w0 X X0 σ0 _=>by refine zFW (T:=tab) (by simp) Z Z Z Z Z Z Z Z Z Z Z Z ?_;exact py) ?_
       refine zBf Z Z ?_
       refine zAK ?_
       refine zGW 13 [.own 5130,.own 5131,.sel 3 [.loc 13 1,.ela 5130 5 (r17.2.2.2.1.1.length) 2,.ela 5130 5 (r17.2.2.2.1.1.length) 3,.ela 5135 2 (r17.2.2.2.2.2.1.1.length) 1],Y r17.2.2.1] Z ⟨.rfl,.rfl,(.sel Z Z),.rfl,trivial⟩ Z ?_
       exact zG2 (3,r17.2.2.1,r17.2.2.2.1,r17.2.2.2.2.1,r17.2.2.2.2.2.2.2.1,r17.2.2.2.2.2.2.2.2.1,r17.2.2.2.2.2.2.2.2.2.1,(r17.2.2.2.2.2.1.1,true),r17.2.2.2.2.2.2.1,(r17.2.2.2.2.2.2.2.2.2.2++[r21.1]),l13) ⟨Z,Z,Z,Z,Z,Z,Z,Z,Z,Z,Z,trivial⟩ Z
  ·rintro ⟨k3,c4,c5,c6,l7,l8,l9,c10,c11,l12,l13⟩
   refine zAK (zAA (sr (pq 4 Z ?_)))
   refine zAG (T:=tab) Z Z Z Z Z Z Z Z Z Z Z Z ?_
   refine zAG (T:=tab) Z Z Z Z Z Z Z Z Z Z Z Z ?_
   refine ns ?_
   refine zDt 5132 Z Z Z ?_;refine zDt 5133 Z Z Z ?_;refine zDt 5134 Z Z Z ?_;refine zDt 5136 Z Z Z ?_;refine zUy 5135 zAP c10.1 (⟨c11,l12⟩:Hook) Z Z Z Z ?_;refine zDt 5135 Z Z Z ?_;refine zUy 5130 zAM c5.1 (⟨c6,l7,l8,l9,(c10.1++if c10.2 then [(⟨c11,l12⟩:Hook)] else [])⟩:Class) Z Z Z Z ?_;refine zDt 5130 Z Z Z ?_
   refine zDt 5131 Z Z Z ?_
   exact rN
  ·exact fun r=>zOI (T:=tab) Z Z Z ⟨Z,Z⟩ trivial Z
def zD9 (fu:Nat) (o1:Op):Option Bool:=cnd (!(eqOp o1 (⟨0,0,0,0,[],[],false⟩:Op))) (bnd (zFx fu o1) fun r2=>some (!r2)) (some false)
theorem zLa (fu:Nat) (o1:Op):∀r,zD9 fu o1=some r->DC zAf Tryz.prog 33 [.agg (cOp o1)] (O r):=by
 refine fcI Tryz.func33 Z fun w0 X X0 σ0 _=>sr (zDl  1 Z Z Z Z Z Z Z Z Z Z (pq 1 Z (ns (sr (pq 1 Z (zA4 (T:=tab) Z Z Z Z Z Z Z (po_ne zMi Z Z Z Z Z Z Z (pq 1 Z (zAF (j:=6) Z ?_ ?_)))))))))
 ·exact pq 1 Z (pc (zJ5 fu o1) zUd Z Z Z Z fun r2 hr2=>pq 3 Z (ns rN))
 ·exact pq 5 Z (ns rN)
def zBR (t1:Op->Option Bool) (s1:(List Op)):Nat->Int->Option Int
 | 0,_=>none
 | k1+1,t2=>cnd (decide (t2<((s1.length:Nat):Int))) (bnd (idx s1 t2) fun y3=>bnd (t1 y3) fun r4=>cnd r4 (some t2) (bnd (rng .i64 (t2+1)) fun i5=>(zBR t1 s1 k1) i5)) (some (-1))
def zDj (fu:Nat) (t1:Op->Option Bool) (s1:(List Op)):Option Int:=(zBR t1 s1) fu 0
theorem zGQ (fu:Nat) (s1:(List Op)):∀r,zDj fu (fun (z1:Op)=>zD9 fu z1) s1=some r->DC zAf Tryz.prog 69 [.sl 7 false (s1.map cOp),.fn (.func 33) [] []] (Y r):=by
 refine fcI Tryz.func69 Z fun w0 X X0 σ0 _=>sr (pq 1 Z (ns (zAD (sr (pq 1 Z (zAm (T:=tab) cOp s1 Z Z Z Z Z Z Z Z (pq 1 Z (ns (zAL (lq (zBR (fun (z1:Op)=>zD9 fu z1) s1) (fun (t2:Int)=>[(0,.sl 7 false (s1.map cOp)),(1,.fn (.func 33) [] []),(7,Y ((s1.length:Nat):Int)),(8,Y t2)]) (fun (t2:Int)=>[]) fu 0 ?_))))))))))
 rintro k1 t2
 refine sr (pq 1 Z (ns (zAD (zAH Z ?_ ?_))))
 ·refine zAB (zAA (zAD (zAL (sr (pq 2 Z (ns (sr (pq 3 Z (zCN (T:=tab) cOp s1 Z Z Z Z Z Z Z fun y3 hy3=>pq 1 Z (zFO (enc:=fun (r4:Bool)=>O r4) (first:=[]) (cap:=[]) (qs:=[.agg (cOp y3)]) (Sc:=[]) (zLa fu y3) (zCd trivial Z) Z Z Z Z ⟨⟨_,Z,.rfl⟩,trivial⟩ (fun _=>Z) call33 Z Z fun r4 hr4=>ns (zAH Z ?_ ?_)))))))))))
  ·exact sr (pq 2 Z (ns rN))
  ·exact zAB (zAK (zAA (zAC (zAI (T:=tab) Z Z Z Z fun i5 hi5=>pq 1 Z (zAE (zAW i5 ⟨Z,Z,Z,Z,trivial⟩ trivial Z))))))
 ·exact zAY Z (zAA (sr (pq 1 Z (ns rN))))
def zCA (fu:Nat) (t1:Op->Option Bool) (s1:(List Op)):Option Bool:=bnd (zDj fu t1 s1) fun r2=>some (decide (r2>=0))
theorem zFn (fu:Nat) (s1:(List Op)):∀r,zCA fu (fun (z1:Op)=>zD9 fu z1) s1=some r->DC zAf Tryz.prog 32 [.sl 7 false (s1.map cOp),.fn (.func 33) [] []] (O r):=by
 exact fcI Tryz.func32 Z fun w0 X X0 σ0 _=>sr (pq 1 Z (ns (sr (pq 2 Z (pc (zGQ fu s1) call69 Z Z Z Z fun r2 hr2=>pq 2 Z (ns rN))))))
def zCT (fu:Nat) (s1:Bs):Option Bool:=bnd (zGY fu s1) fun r2=>cnd (r2.2 != 0) (some true) (some (!(r2.1==s1)))
theorem zIW (fu:Nat) (s1:Bs):∀r,zCT fu s1=some r->DC zAf Tryz.prog 56 [D s1] (O r):=by
 refine fcI Tryz.func56 Z fun w0 X X0 σ0 _=>sr (pq 1 Z (ns (sr (pq 1 Z (pc (zJ3 fu s1) zUY Z Z Z Z fun r2 hr2=>pq 5 Z (ns (sr (pq 3 Z (zAF (j:=12) Z ?_ ?_)))))))))
 ·exact pq 5 Z (ns rN)
 ·exact pq 5 Z (ns rN)
def zBO (t1:Bs->Option Bool) (s1:(List Bs)):Nat->Int->Option Int
 | 0,_=>none
 | k1+1,t2=>cnd (decide (t2<((s1.length:Nat):Int))) (bnd (idx s1 t2) fun y3=>bnd (t1 y3) fun r4=>cnd r4 (some t2) (bnd (rng .i64 (t2+1)) fun i5=>(zBO t1 s1 k1) i5)) (some (-1))
def zDb (fu:Nat) (t1:Bs->Option Bool) (s1:(List Bs)):Option Int:=(zBO t1 s1) fu 0
theorem zGI (fu:Nat) (s1:(List Bs)):∀r,zDb fu (fun (z1:Bs)=>zCT fu z1) s1=some r->DC zAf Tryz.prog 94 [.sl 1 false (s1.map cStr),.fn (.func 56) [] []] (Y r):=by
 refine fcI Tryz.func94 Z fun w0 X X0 σ0 _=>sr (pq 1 Z (ns (zAD (sr (pq 1 Z (zAm (T:=tab) cStr s1 Z Z Z Z Z Z Z Z (pq 1 Z (ns (zAL (lq (zBO (fun (z1:Bs)=>zCT fu z1) s1) (fun (t2:Int)=>[(0,.sl 1 false (s1.map cStr)),(1,.fn (.func 56) [] []),(7,Y ((s1.length:Nat):Int)),(8,Y t2)]) (fun (t2:Int)=>[]) fu 0 ?_))))))))))
 rintro k1 t2
 refine sr (pq 1 Z (ns (zAD (zAH Z ?_ ?_))))
 ·refine zAB (zAA (zAD (zAL (sr (pq 2 Z (ns (sr (pq 3 Z (zCN (T:=tab) cStr s1 Z Z Z Z Z Z Z fun y3 hy3=>pq 1 Z (zFO (enc:=fun (r4:Bool)=>O r4) (first:=[]) (cap:=[]) (qs:=[D y3]) (Sc:=[]) (zIW fu y3) (zCd trivial Z) Z Z Z Z ⟨⟨_,Z,.rfl⟩,trivial⟩ (fun _=>Z) call56 Z Z fun r4 hr4=>ns (zAH Z ?_ ?_)))))))))))
  ·exact sr (pq 2 Z (ns rN))
  ·exact zAB (zAK (zAA (zAC (zAI (T:=tab) Z Z Z Z fun i5 hi5=>pq 1 Z (zAE (zAW i5 ⟨Z,Z,Z,Z,trivial⟩ trivial Z))))))
 ·exact zAY Z (zAA (sr (pq 1 Z (ns rN))))
def zB6 (fu:Nat) (t1:Bs->Option Bool) (s1:(List Bs)):Option Bool:=bnd (zDb fu t1 s1) fun r2=>some (decide (r2>=0))
theorem zFZ (fu:Nat) (s1:(List Bs)):∀r,zB6 fu (fun (z1:Bs)=>zCT fu z1) s1=some r->DC zAf Tryz.prog 60 [.sl 1 false (s1.map cStr),.fn (.func 56) [] []] (O r):=by
 exact fcI Tryz.func60 Z fun w0 X X0 σ0 _=>sr (pq 1 Z (ns (sr (pq 2 Z (pc (zGI fu s1) call94 Z Z Z Z fun r2 hr2=>pq 2 Z (ns rN))))))
def zFS (_fu:Nat) (l1:(List Op)):Option Bool:=some (decide (((l1.length:Nat):Int)>60))
theorem zGu (fu:Nat) (l1:(List Op)):∀r,zFS fu l1=some r->DC zAf Tryz.prog 59 [.sl 7 false (l1.map cOp)] (O r):=by
 exact fcI Tryz.func59 Z fun w0 X X0 σ0 _=>sr (pq 1 Z (ns (sr (pq 1 Z (zAm (T:=tab) cOp l1 Z Z Z Z Z Z Z Z (pq 2 Z (ns rN)))))))
def zCU (fu:Nat) (h1:Hook):Option Bool:=cnd (decide (h1.Kind<1)) (some true) (cnd (decide (h1.Kind>8)) (some true) (bnd (zFS fu h1.Do) fun r2=>some r2))
theorem zIX (fu:Nat) (h1:Hook):∀r,zCU fu h1=some r->DC zAf Tryz.prog 58 [.agg (zAP h1)] (O r):=by
 refine fcI Tryz.func58 Z fun w0 X X0 σ0 _=>sr (zDl  1 Z Z Z Z Z Z Z Z Z Z (pq 1 Z (ns (sr (pq 4 Z (zAF (j:=6) Z ?_ ?_))))))
 ·exact pq 10 Z (ns rN)
 ·refine pq 5 Z (zAF (j:=11) Z ?_ ?_)
  ·exact pq 5 Z (ns rN)
  ·exact pq 2 Z (pc (zGu fu h1.Do) zQq Z Z Z Z fun r2 hr2=>pq 2 Z (ns rN))
def zBK (t1:Hook->Option Bool) (s1:(List Hook)):Nat->Int->Option Int
 | 0,_=>none
 | k1+1,t2=>cnd (decide (t2<((s1.length:Nat):Int))) (bnd (idx s1 t2) fun y3=>bnd (t1 y3) fun r4=>cnd r4 (some t2) (bnd (rng .i64 (t2+1)) fun i5=>(zBK t1 s1 k1) i5)) (some (-1))
def zDH (fu:Nat) (t1:Hook->Option Bool) (s1:(List Hook)):Option Int:=(zBK t1 s1) fu 0
theorem zF6 (fu:Nat) (s1:(List Hook)):∀r,zDH fu (fun (z1:Hook)=>zCU fu z1) s1=some r->DC zAf Tryz.prog 95 [.sl 2 false (s1.map zAP),.fn (.func 58) [] []] (Y r):=by
 refine fcI Tryz.func95 Z fun w0 X X0 σ0 _=>sr (pq 1 Z (ns (zAD (sr (pq 1 Z (zAm (T:=tab) zAP s1 Z Z Z Z Z Z Z Z (pq 1 Z (ns (zAL (lq (zBK (fun (z1:Hook)=>zCU fu z1) s1) (fun (t2:Int)=>[(0,.sl 2 false (s1.map zAP)),(1,.fn (.func 58) [] []),(7,Y ((s1.length:Nat):Int)),(8,Y t2)]) (fun (t2:Int)=>[]) fu 0 ?_))))))))))
 rintro k1 t2
 refine sr (pq 1 Z (ns (zAD (zAH Z ?_ ?_))))
 ·refine zAB (zAA (zAD (zAL (sr (pq 2 Z (ns (sr (pq 3 Z (zCN (T:=tab) zAP s1 Z Z Z Z Z Z Z fun y3 hy3=>pq 1 Z (zFO (enc:=fun (r4:Bool)=>O r4) (first:=[]) (cap:=[]) (qs:=[.agg (zAP y3)]) (Sc:=[]) (zIX fu y3) (zCd trivial Z) Z Z Z Z ⟨⟨_,Z,.rfl⟩,trivial⟩ (fun _=>Z) call58 Z Z fun r4 hr4=>ns (zAH Z ?_ ?_)))))))))))
  ·exact sr (pq 2 Z (ns rN))
  ·exact zAB (zAK (zAA (zAC (zAI (T:=tab) Z Z Z Z fun i5 hi5=>pq 1 Z (zAE (zAW i5 ⟨Z,Z,Z,Z,trivial⟩ trivial Z))))))
 ·exact zAY Z (zAA (sr (pq 1 Z (ns rN))))
def zB2 (fu:Nat) (t1:Hook->Option Bool) (s1:(List Hook)):Option Bool:=bnd (zDH fu t1 s1) fun r2=>some (decide (r2>=0))
theorem zFQ (fu:Nat) (s1:(List Hook)):∀r,zB2 fu (fun (z1:Hook)=>zCU fu z1) s1=some r->DC zAf Tryz.prog 61 [.sl 2 false (s1.map zAP),.fn (.func 58) [] []] (O r):=by
 exact fcI Tryz.func61 Z fun w0 X X0 σ0 _=>sr (pq 1 Z (ns (sr (pq 2 Z (pc (zF6 fu s1) call95 Z Z Z Z fun r2 hr2=>pq 2 Z (ns rN))))))
def zEz (fu:Nat) (c1:Class):Option Bool:=cnd (decide (((c1.Watch.length:Nat):Int)<=12)) (bnd (zB6 fu (fun (z1:Bs)=>zCT fu z1) c1.Watch) fun r2=>cnd (!r2) (cnd (decide (((c1.Hooks.length:Nat):Int)<=12)) (bnd (zB2 fu (fun (z1:Hook)=>zCU fu z1) c1.Hooks) fun r3=>cnd (!r3) (bnd (zFS fu c1.Peek) fun r4=>cnd (!r4) (bnd (zFS fu c1.Make) fun r5=>some (!r5)) (some false)) (some false)) (some false)) (some false)) (some false)
theorem zJY (fu:Nat) (c1:Class):∀r,zEz fu c1=some r->DC zAf Tryz.prog 21 [.agg (zAM c1)] (O r):=by
 refine fcI Tryz.func21 Z fun w0 X X0 σ0 _=>sr (zDl  1 Z Z Z Z Z Z Z Z Z Z (pq 1 Z (ns (sr (pq 1 Z (ns (sr (pq 1 Z (ns (sr (pq 2 Z (zAm (T:=tab) cStr c1.Watch Z Z Z Z Z Z Z Z (pq 2 Z (zAF (j:=9) Z ?_ ?_))))))))))))))
 ·refine pq 3 Z (pc (zFZ fu c1.Watch) call60 Z Z Z Z fun r2 hr2=>pq 3 Z (zAF (j:=16) Z ?_ ?_))
  ·refine pq 2 Z (zAm (T:=tab) zAP c1.Hooks Z Z Z Z Z Z Z Z (pq 3 Z (zAF (j:=22) Z ?_ ?_)))
   ·refine pq 3 Z (pc (zFQ fu c1.Hooks) call61 Z Z Z Z fun r3 hr3=>pq 3 Z (zAF (j:=29) Z ?_ ?_))
    ·refine pq 2 Z (pc (zGu fu c1.Peek) zQq Z Z Z Z fun r4 hr4=>pq 3 Z (zAF (j:=35) Z ?_ ?_))
     ·exact pq 2 Z (pc (zGu fu c1.Make) zQq Z Z Z Z fun r5 hr5=>pq 3 Z (ns rN))
     ·exact pq 6 Z (ns rN)
    ·exact pq 12 Z (ns rN)
   ·exact pq 19 Z (ns rN)
  ·exact pq 25 Z (ns rN)
 ·exact pq 32 Z (ns rN)
def zCl (fu:Nat) (c1:Class):Option Bool:=bnd (zEz fu c1) fun r2=>some (!r2)
theorem zIA (fu:Nat) (c1:Class):∀r,zCl fu c1=some r->DC zAf Tryz.prog 35 [.agg (zAM c1)] (O r):=by
 exact fcI Tryz.func35 Z fun w0 X X0 σ0 _=>sr (zDl  1 Z Z Z Z Z Z Z Z Z Z (pq 1 Z (ns (sr (pq 1 Z (pc (zJY fu c1) call21 Z Z Z Z fun r2 hr2=>pq 2 Z (ns rN)))))))
def zBF (t1:Class->Option Bool) (s1:(List Class)):Nat->Int->Option Int
 | 0,_=>none
 | k1+1,t2=>cnd (decide (t2<((s1.length:Nat):Int))) (bnd (idx s1 t2) fun y3=>bnd (t1 y3) fun r4=>cnd r4 (some t2) (bnd (rng .i64 (t2+1)) fun i5=>(zBF t1 s1 k1) i5)) (some (-1))
def zDD (fu:Nat) (t1:Class->Option Bool) (s1:(List Class)):Option Int:=(zBF t1 s1) fu 0
theorem zFo (fu:Nat) (s1:(List Class)):∀r,zDD fu (fun (z1:Class)=>zCl fu z1) s1=some r->DC zAf Tryz.prog 71 [.sl 5 false (s1.map zAM),.fn (.func 35) [] []] (Y r):=by
 refine fcI Tryz.func71 Z fun w0 X X0 σ0 _=>sr (pq 1 Z (ns (zAD (sr (pq 1 Z (zAm (T:=tab) zAM s1 Z Z Z Z Z Z Z Z (pq 1 Z (ns (zAL (lq (zBF (fun (z1:Class)=>zCl fu z1) s1) (fun (t2:Int)=>[(0,.sl 5 false (s1.map zAM)),(1,.fn (.func 35) [] []),(7,Y ((s1.length:Nat):Int)),(8,Y t2)]) (fun (t2:Int)=>[]) fu 0 ?_))))))))))
 rintro k1 t2
 refine sr (pq 1 Z (ns (zAD (zAH Z ?_ ?_))))
 ·refine zAB (zAA (zAD (zAL (sr (pq 2 Z (ns (sr (pq 3 Z (zCN (T:=tab) zAM s1 Z Z Z Z Z Z Z fun y3 hy3=>pq 1 Z (zFO (enc:=fun (r4:Bool)=>O r4) (first:=[]) (cap:=[]) (qs:=[.agg (zAM y3)]) (Sc:=[]) (zIA fu y3) (zCd trivial Z) Z Z Z Z ⟨⟨_,Z,.rfl⟩,trivial⟩ (fun _=>Z) call35 Z Z fun r4 hr4=>ns (zAH Z ?_ ?_)))))))))))
  ·exact sr (pq 2 Z (ns rN))
  ·exact zAB (zAK (zAA (zAC (zAI (T:=tab) Z Z Z Z fun i5 hi5=>pq 1 Z (zAE (zAW i5 ⟨Z,Z,Z,Z,trivial⟩ trivial Z))))))
 ·exact zAY Z (zAA (sr (pq 1 Z (ns rN))))
def zBt (fu:Nat) (t1:Class->Option Bool) (s1:(List Class)):Option Bool:=bnd (zDD fu t1 s1) fun r2=>some (decide (r2>=0))
theorem zFE (fu:Nat) (s1:(List Class)):∀r,zBt fu (fun (z1:Class)=>zCl fu z1) s1=some r->DC zAf Tryz.prog 34 [.sl 5 false (s1.map zAM),.fn (.func 35) [] []] (O r):=by
 exact fcI Tryz.func34 Z fun w0 X X0 σ0 _=>sr (pq 1 Z (ns (sr (pq 2 Z (pc (zFo fu s1) call71 Z Z Z Z fun r2 hr2=>pq 2 Z (ns rN))))))
def zC0 (fu:Nat) (s1:Script):List (List Op×Int)->Unit->Option Bool
 | [],_=>cnd (decide (((s1.Classes.length:Nat):Int)<=12)) (bnd (zBt fu (fun (z1:Class)=>zCl fu z1) s1.Classes) fun r5=>some (!r5)) (some false)
 | y2::ys3,_=>cnd (decide (((y2.1.length:Nat):Int)>y2.2)) (some false) (bnd (zCA fu (fun (z1:Op)=>zD9 fu z1) y2.1) fun r4=>cnd r4 (some false) ((zC0 fu s1 ys3) ()))
def zDJ (fu:Nat) (s1:Script):Option Bool:=(zC0 fu s1) (zBJ s1) ()
theorem zFD (fu:Nat) (s1:Script):∀r,zDJ fu s1=some r->DC zAf Tryz.prog 13 [.agg (zE0 s1)] (O r):=by
 refine fcI Tryz.func13 Z fun w0 X X0 σ0 _=>sr (zDl  1 Z Z Z Z Z Z Z Z Z Z (zAs (T:=tab) 2 Z Z Z Z Z Z Z Z Z (ns (zAD (sr (pq 1 Z (po_mk (n:=3006) (zOF s1) Z Z Z Z Z Z Z Z Z Z Z ⟨⟨_,Z,.rfl⟩,trivial⟩ call31 Z Z (ns (zAL (zVv (ys0:=zBJ s1) (p1:=fun y:(List Op×Int)=>.sl 7 false (y.1.map cOp)) (p2:=fun y:(List Op×Int)=>Y y.2) (x0:=()) (n:=3006) (M:=(zC0 fu s1)) (Sf:=fun (_:Unit)=>[(2,.box 4 [O false]),(1,.box 25 [.sl 5 false (s1.Classes.map zAM),.sl 7 false (s1.Main.map cOp)])]) (SR:=fun r:Bool=>[(2,.box 4 [O r])]) (N1:=[1,2]) (E0:=[(1,.loc 1 0),(2,.loc 2 0)]) (E1:=fun y2=>[(1,.loc 1 0),(2,.loc 2 0),(7,.sl 7 false (y2.1.map cOp)),(8,Y y2.2),(3,.sl 7 false (y2.1.map cOp)),(4,Y y2.2)]) (zOG s1) call68 (fun _=>Z) (fun _=>Z) Z Z Z ⟨Z,Z,trivial⟩ Z Z ⟨Z,Z,trivial⟩ Z Z Z Z ?_ ?_ ?_ ?_))))))))))
 ·rintro y2 _ w0 X X0 σ0 _ _
  exact sr (pq 1 Z (ns (zAC (pq 1 Z (zAE (zHC ⟨Z,Z,Z,Z,Z,Z,trivial⟩ ⟨Z,Z,trivial⟩ Z))))))
 ·rintro y2 ys3 _ w0 X X0 σ0 _ _
  refine zAL (sr (pq 1 Z (zAm (T:=tab) cOp y2.1 Z Z Z Z Z Z Z Z (pq 3 Z (zAF (j:=13) Z ?_ ?_)))))
  ·refine pq 3 Z (zAE (zAA (zAQ Z ?_)))
   exact sr (zAG (T:=tab) Z Z Z Z Z Z Z Z Z Z Z Z (ns (zJA Z ⟨Z,trivial⟩ Z)))
  ·refine pq 1 Z (pc (zFn fu y2.1) call32 Z Z Z Z fun r4 hr4=>pq 1 Z (ns (zAH Z ?_ ?_)))
   ·exact sr (zAG (T:=tab) Z Z Z Z Z Z Z Z Z Z Z Z (ns (zJA Z ⟨Z,trivial⟩ Z)))
   ·exact zAB (zAK (zG2 () ⟨Z,Z,trivial⟩ Z))
 ·rintro _
  refine zAK (zAA (sr (pq 2 Z (zAm (T:=tab) zAM s1.Classes Z Z Z Z Z Z Z Z (pq 2 Z (zAF (j:=21) Z ?_ ?_))))))
  ·exact pq 2 Z (pc (zFE fu s1.Classes) call34 Z Z Z Z fun r5 hr5=>pq 2 Z (zAG (T:=tab) Z Z Z Z Z Z Z Z Z Z Z Z (ns rN)))
  ·exact pq 5 Z (zAG (T:=tab) Z Z Z Z Z Z Z Z Z Z Z Z (ns rN))
 ·exact fun r=>zOI (T:=tab) Z Z Z ⟨Z,Z⟩ trivial Z
theorem zFG (fu:Nat) (l1:(List Int)):∀r,zA1 fu=some r->FC zAf Tryz.prog 98 [.loc 900000 0] [(900000,.box 64 [.nloc 900000 0,.ownb 900001]),(900001,.arr 5 1 (l1.map zAN))] [900000,900001] fun p S'=>p=.tup []/\S'=[(900000,.box 64 [.nloc 900000 0,.ownb 900001]),(900001,.arr 5 1 (l1.map zAN))]:=by
 refine fcI Tryz.func98 Z fun w0 X X0 σ0 _=>sr (pq 3 Z (zKb 900000 0 Z Z Z Z Z Z ?_ ?_))
 ·exact pq 1 Z (zIo (T:=tab) Tryz.underlying59 Z Z Z Z Z Z Z Z (ns (zAQ Z (zAC (pq 2 Z (zII (T:=tab) Tryz.underlying59 Tryz.underlying160 Z Z Tryz.func120 Z Z Z Z Z Z Z Z Z (by kernel_rfl) Z Z Z Z Z Z Z Z Z Z Z (pq 2 Z (zAG (T:=tab) Z Z Z Z Z Z Z Z Z Z Z Z (zAE (zGW 900000 [.nloc 900000 0,.ownb 900001] Z ⟨.nloc1,.rfl,trivial⟩ Z (zFc (T:=tab) Z Z Z ⟨Z,Z⟩ ⟨Z,Z,trivial⟩ Z)))))))))))
 ·exact pq 1 Z (zIo (T:=tab) Tryz.underlying59 Z Z Z Z Z Z Z Z (ns (zAZ Z (sr (pq 5 Z (zIo (T:=tab) Tryz.underlying59 Z Z Z Z Z Z Z Z (ns (zAZ Z (zAB (zGW 900000 [.nloc 900000 0,.ownb 900001] Z ⟨.nloc1,.rfl,trivial⟩ Z (zFc (T:=tab) Z Z Z ⟨Z,Z⟩ ⟨Z,Z,trivial⟩ Z)))))))))))
theorem zDY (fu:Nat) (s1:Bs) (l2:(List Int)):∀r,zAO fu s1 l2=some r->FC zAf Tryz.prog 65 [.loc 900000 0,D s1] [(900000,.box 64 [.nloc 900000 0,.ownb 900001]),(900001,.arr 5 1 (l2.map zAN))] [900000] fun p S'=>p=.tup [Y r.1,.err r.2.1]/\S'=[(900000,.box 64 [.nloc 900000 0,.ownb 900001]),(900001,.arr 5 1 (r.2.2.map zAN))]:=by
 exact fcI Tryz.func65 Z fun w0 X X0 σ0 _=>sr (pq 2 Z (ns (sr (pq 1 Z (zFO (enc:=fun (r3:Unit)=>.tup []) (first:=[]) (cap:=[]) (qs:=[.loc 900000 0]) (Sc:=[(900000,.box 64 [.nloc 900000 0,.ownb 900001]),(900001,.arr 5 1 (l2.map zAN))]) (fun r3 hr3=>zK2 [(900000,900000),(900001,900001)] [900000,900001] (zFG fu l2 _ hr3) Z Z Z Z Z Z) (zCd ⟨Z,Z,trivial⟩ Z) Z Z Z Z ⟨⟨_,Z,.rfl⟩,trivial⟩ (fun _=>Z) zQw Z Z fun r3 hr3=>ns (sr (pq 6 Z (zIn (T:=tab) zAN l2 (fun _=>Z) Z Z Z Z Z Z Z Z Z Z Z Z Z Z Z Z (pq 2 Z (zAG (T:=tab) Z Z Z Z Z Z Z Z Z Z Z Z (ns (sr (pq 4 Z (ns (zSA 5 (q:=.err false) Z .err0 rN)))))))))))))))
def zAa (fu:Nat) (l1:(List Bs)) (l2:(List Int)):Option (List Int):=bnd (zMw fu l1 ([32]:Bs)) fun r3=>bnd (zAO fu r3 l2) fun r4=>bnd (zAO fu [10] r4.2.2) fun r5=>some r5.2.2
theorem zBW (fu:Nat) (l1:(List Bs)) (l2:(List Int)):∀r,zAa fu l1 l2=some r->FC zAf Tryz.prog 26 [.loc 900000 0,.own 900001] [(900000,.box 64 [.nloc 900000 0,.ownb 900002]),(900001,.arr 9 1 (l1.map cStr)),(900002,.arr 5 1 (l2.map zAN))] [900000,900001] fun p S'=>p=.tup []/\S'=[(900000,.box 64 [.nloc 900000 0,.ownb 900002]),(900001,.arr 9 1 (l1.map cStr)),(900002,.arr 5 1 (r.map zAN))]:=by
 refine fcI Tryz.func26 Z fun w0 X X0 σ0 _=>zAD (su [(0,.loc 900000 0),(1,.own 900001)] [(900000,.box 64 [.nloc 900000 0,.ownb 900002]),(900001,.arr 9 1 (l1.map cStr)),(900002,.arr 5 1 (l2.map zAN))] (zBB [0,1,3,0,8,31] mixed (by kernel_rfl) (by kernel_rfl) Z Z (ve [0] [8] [900000] [(4,.loc 900000 0)] ?_)))
 refine ve [8] [10] [900000] [(5,.loc 900000 0)] ?_
 refine ve [10] [12] [900000] [(6,.loc 900000 0)] ?_
 refine ve [2] [14] [900001] [(7,.own 900001)] ?_
 refine vt (zMw fu l1 ([32]:Bs)) [(16,[])] [14,1800003] [16] [] [900001] [900001] (fun r3=>[(8,D r3)]) (fun r3=>[(900001,.arr 9 1 (l1.map cStr))]) Z Z (fun _=>Z) (fun w0 X X0 σ0 _=>by refine zFO (enc:=fun (r3:Bs)=>D r3) (first:=[]) (cap:=[]) (qs:=[.own 900001,D ([32]:Bs)]) (Sc:=[(900001,.arr 9 1 (l1.map cStr))]) (zVX fu 900001 9 l1 ([32]:Bs)) (zCd ⟨Z,trivial⟩ Z) Z Z Z Z ⟨⟨_,Z,.rfl⟩,⟨_,Z,.rfl⟩,trivial⟩ (fun _=>Z) call66 Z Z fun r3 hr3=>?_;exact pz) fun r3 hr3=>?_
 refine vt (zAO fu r3 l2) [(18,[]),(1800005,[]),(1800001,[900000,900002])] [12,16,1800001,1800005] [18,1800005,1800001] [900002] [900000] [] (fun r4=>[(9,.tup [Y r4.1,.err r4.2.1])]) (fun r4=>[(900002,.arr 5 1 (r4.2.2.map zAN)),(900000,.box 64 [.nloc 900000 0,.ownb 900002])]) Z Z (fun _=>Z) (fun w0 X X0 σ0 _=>by refine tu [900002] (enc:=fun (r4:(Int×Bool×(List Int)))=>.tup [Y r4.1,.err r4.2.1]) (Sr:=fun (r4:(Int×Bool×(List Int)))=>[(900000,.box 64 [.nloc 900000 0,.ownb 900002]),(900002,.arr 5 1 (r4.2.2.map zAN))]) (qs:=[.loc 900000 0,D r3]) (Sc:=[(900000,.box 64 [.nloc 900000 0,.ownb 900002]),(900002,.arr 5 1 (l2.map zAN))]) (N1:=[900000]) (NR:=[900000,900002]) (fun r4 hr4=>fr [(900000,900000),(900001,900002)] [900000,900001] (zDY fu r3 l2 _ hr4)) zH1 Z Z Z Z Z Z Z Z fun r4 hr4=>?_;exact pz) fun r4 hr4=>?_
 exact zBf Z Z (zAA (zAC (pq 3 Z (tu [900002] (enc:=fun (r5:(Int×Bool×(List Int)))=>.tup [Y r5.1,.err r5.2.1]) (Sr:=fun (r5:(Int×Bool×(List Int)))=>[(900000,.box 64 [.nloc 900000 0,.ownb 900002]),(900002,.arr 5 1 (r5.2.2.map zAN))]) (qs:=[.loc 900000 0,D [10]]) (Sc:=[(900000,.box 64 [.nloc 900000 0,.ownb 900002]),(900002,.arr 5 1 (r4.2.2.map zAN))]) (N1:=[900000]) (NR:=[900000,900002]) (fun r5 hr5=>fr [(900000,900000),(900001,900002)] [900000,900001] (zDY fu [10] r4.2.2 _ hr5)) zH1 Z Z Z Z Z Z Z Z fun r5 hr5=>zAE (zFc (T:=tab) Z Z Z ⟨Z,Z⟩ ⟨Z,Z,Z,trivial⟩ Z)))))
def zA8 (fu:Nat) (l2:(List Op)):Nat->Int×(List Int)->Option (List Int)
 | 0,_=>none
 | k1+1,(t6,l7)=>cnd (decide (t6<((l2.length:Nat):Int))) (bnd (idx l2 t6) fun y8=>bnd (zHb fu y8) fun r9=>cnd (r9.2 != 0) (bnd (zAa fu [[63]] l7) fun r10=>bnd (rng .i64 (t6+1)) fun i12=>(zA8 fu l2 k1) (i12,r10)) (bnd (zAa fu [r9.1] l7) fun r11=>bnd (rng .i64 (t6+1)) fun i13=>(zA8 fu l2 k1) (i13,r11))) (some l7)
def zCZ (fu:Nat) (l2:(List Op)) (l5:(List Int)):Option (List Int):=(zA8 fu l2) fu (0,l5)
def zBp (fu:Nat) (head1:Bs) (l2:(List Op)) (l3:(List Int)):Option (List Int):=cnd (decide (((l2.length:Nat):Int)>0)) (cnd (!(head1==([]:Bs))) (bnd (zAa fu [head1] l3) fun r4=>(zCZ fu l2) r4) ((zCZ fu l2) l3)) ((zCZ fu l2) l3)
theorem zDX (fu:Nat) (head1:Bs) (l2:(List Op)) (l3:(List Int)):∀r,zBp fu head1 l2 l3=some r->FC zAf Tryz.prog 27 [.loc 900000 0,D head1,.sl 7 false (l2.map cOp)] [(900000,.box 64 [.nloc 900000 0,.ownb 900001]),(900001,.arr 5 1 (l3.map zAN))] [900000] fun p S'=>p=.tup []/\S'=[(900000,.box 64 [.nloc 900000 0,.ownb 900001]),(900001,.arr 5 1 (r.map zAN))]:=by
 refine fcI Tryz.func27 Z fun w0 X X0 σ0 _=>zAD (sr (zD2 (zCZ fu l2) (fun (l5:(List Int))=>[(0,.loc 900000 0),(2,.sl 7 false (l2.map cOp))]) (fun (l5:(List Int))=>[(900000,.box 64 [.nloc 900000 0,.ownb 900001]),(900001,.arr 5 1 (l5.map zAN))]) ?_ fun hj1=>?_))
 ·rintro l5
  refine zAA (sr (pq 1 Z (zAm (T:=tab) cOp l2 Z Z Z Z Z Z Z Z (pq 1 Z (ns (zAL (lq (zA8 fu l2) (fun ((t6,l7):Int×(List Int))=>[(0,.loc 900000 0),(21,.sl 7 false (l2.map cOp)),(22,Y ((l2.length:Nat):Int)),(23,Y t6)]) (fun ((t6,l7):Int×(List Int))=>[(900000,.box 64 [.nloc 900000 0,.ownb 900001]),(900001,.arr 5 1 (l7.map zAN))]) fu (0,l5) ?_)))))))
  rintro k1 ⟨t6,l7⟩
  refine sr (pq 1 Z (ns (zAD (zAH Z ?_ ?_))))
  ·refine zAB (zAA (zAD (zAL (sr (zCN (T:=tab) cOp l2 Z Z Z Z Z Z Z fun y8 hy8=>pq 1 Z (zAs (T:=tab) 7 Z Z Z Z Z Z Z Z Z (zAG (T:=tab) Z Z Z Z Z Z Z Z Z Z Z Z (ns (sr (pq 1 Z (pc (zMV fu y8) zUX Z Z Z Z fun r9 hr9=>pq 5 Z (ns (zAD (sr (pq 2 Z (ns (zAH Z ?_ ?_)))))))))))))))))
   ·exact zAC (pq 1 Z (ns (zAC (pq 2 Z (zBu (T:=tab) (rows:=[[63]].map cStr) 36 Z Z Z Z Z Z Z Z Z Z Z Z Z Z (tu [900001] (enc:=fun (r10:(List Int))=>.tup []) (Sr:=fun (r10:(List Int))=>[(900000,.box 64 [.nloc 900000 0,.ownb 900001]),(36,.arr 9 1 ([[63]].map cStr)),(900001,.arr 5 1 (r10.map zAN))]) (qs:=[.loc 900000 0,.own 36]) (Sc:=[(900000,.box 64 [.nloc 900000 0,.ownb 900001]),(36,.arr 9 1 ([[63]].map cStr)),(900001,.arr 5 1 (l7.map zAN))]) (N1:=[900000,36]) (NR:=[900000,36,900001]) (fun r10 hr10=>fr [(900000,900000),(900001,36),(900002,900001)] [900000,900001,900002] (zBW fu [[63]] l7 _ hr10)) zKG Z Z Z Z Z Z Z Z fun r10 hr10=>zAE (zAK (zAA (zAC (zAI (T:=tab) Z Z Z Z fun i12 hi12=>pq 1 Z (zAE (zAW (i12,r10) ⟨Z,Z,Z,Z,trivial⟩ ⟨Z,Z,trivial⟩ Z))))))))))))
   ·exact zAB (zAA (zAC (pq 2 Z (zBu (T:=tab) (rows:=[r9.1].map cStr) 36 Z Z Z Z Z Z Z Z Z Z Z Z Z Z (tu [900001] (enc:=fun (r11:(List Int))=>.tup []) (Sr:=fun (r11:(List Int))=>[(900000,.box 64 [.nloc 900000 0,.ownb 900001]),(36,.arr 9 1 ([r9.1].map cStr)),(900001,.arr 5 1 (r11.map zAN))]) (qs:=[.loc 900000 0,.own 36]) (Sc:=[(900000,.box 64 [.nloc 900000 0,.ownb 900001]),(36,.arr 9 1 ([r9.1].map cStr)),(900001,.arr 5 1 (l7.map zAN))]) (N1:=[900000,36]) (NR:=[900000,36,900001]) (fun r11 hr11=>fr [(900000,900000),(900001,36),(900002,900001)] [900000,900001,900002] (zBW fu [r9.1] l7 _ hr11)) zKG Z Z Z Z Z Z Z Z fun r11 hr11=>zAE (zAK (zAA (zAC (zAI (T:=tab) Z Z Z Z fun i13 hi13=>pq 1 Z (zAE (zAW (i13,r11) ⟨Z,Z,Z,Z,trivial⟩ ⟨Z,Z,trivial⟩ Z)))))))))))
  ·exact zAY Z (zFc (T:=tab) Z Z Z ⟨Z,Z⟩ ⟨Z,Z,trivial⟩ Z)
 ·refine pq 1 Z (zAm (T:=tab) cOp l2 Z Z Z Z Z Z Z Z (pq 2 Z (zAF (j:=13) Z ?_ ?_)))
  ·refine pq 3 Z (ns (zAH Z ?_ ?_))
   ·exact zAC (pq 2 Z (zBu (T:=tab) (rows:=[head1].map cStr) 19 Z Z Z Z Z Z Z Z Z Z Z Z Z Z (tu [900001] (enc:=fun (r4:(List Int))=>.tup []) (Sr:=fun (r4:(List Int))=>[(900000,.box 64 [.nloc 900000 0,.ownb 900001]),(19,.arr 9 1 ([head1].map cStr)),(900001,.arr 5 1 (r4.map zAN))]) (qs:=[.loc 900000 0,.own 19]) (Sc:=[(900000,.box 64 [.nloc 900000 0,.ownb 900001]),(19,.arr 9 1 ([head1].map cStr)),(900001,.arr 5 1 (l3.map zAN))]) (N1:=[900000,19]) (NR:=[900000,19,900001]) (fun r4 hr4=>fr [(900000,900000),(900001,19),(900002,900001)] [900000,900001,900002] (zBW fu [head1] l3 _ hr4)) zKG Z Z Z Z Z Z Z Z fun r4 hr4=>zAE (ps (hj1 r4)))))
   ·exact zAB (ps (hj1 l3))
  ·refine pq 3 Z (zAE (zAA (zAZ Z ?_)))
   exact zAB (ps (hj1 l3))
def zEA (_fu:Nat) (l1:(List Int)):Option Int:=some ((l1.length:Nat):Int)
theorem zHA (fu:Nat) (l1:(List Int)):∀r,zEA fu l1=some r->FC zAf Tryz.prog 29 [.loc 900000 0] [(900000,.box 64 [.nloc 900000 0,.ownb 900001]),(900001,.arr 5 1 (l1.map zAN))] [900000,900001] fun p S'=>p=Y r/\S'=[(900000,.box 64 [.nloc 900000 0,.ownb 900001]),(900001,.arr 5 1 (l1.map zAN))]:=by
 exact fcI Tryz.func29 Z fun w0 X X0 σ0 _=>sr (pq 1 Z (ns (sr (pq 4 Z (zJR 6 (q:=.own 900001) Z .ownb (zDK (T:=tab) zAN l1 Z Z Z Z Z Z Z Z Z (pq 1 Z (ns rN))))))))
theorem zFp (fu:Nat) (l1:(List Int)):∀r,zAp fu l1=some r->FC zAf Tryz.prog 30 [.loc 900000 0] [(900000,.box 64 [.nloc 900000 0,.ownb 900001]),(900001,.arr 5 1 (l1.map zAN))] [900000,900001] fun p S'=>p=D r/\S'=[(900000,.box 64 [.nloc 900000 0,.junk])]:=by
 refine fcI Tryz.func30 Z fun w0 X X0 σ0 _=>sr (pq 1 Z (ns (zAD (su [(0,.loc 900000 0)] [(900000,.box 64 [.nloc 900000 0,.ownb 900001]),(900001,.arr 5 1 (l1.map zAN))] (zBB [0,1,3,7,15,0,32,96,224,480,1023,2047] mixed (by kernel_rfl) (by kernel_rfl) Z Z (ve [0] [6] [900000] [(3,.loc 900000 0)] ?_))))))
 refine ve [6] [8] [900000] [(4,.loc 900000 0)] ?_
 refine ve [8] [10] [900000] [(5,.loc 900000 1)] ?_
 refine vf [10,1800001] [12] [] [900000,900001] [900000] [(6,.ownb 900001)] [(900000,.box 64 [.nloc 900000 0,.ownb 900001])] ?_
 refine vs [12,1800003] [14] [] [900001] [900001] [(7,.dat 900001)] [(900001,.arr 5 1 (l1.map zAN))] Z Z (fun w0 X X0 σ0 _=>by refine zHW Z Z Z Z Z Z ?_;exact py) ?_
 refine ve [0] [16] [900000] [(8,.loc 900000 0)] ?_
 refine ve [16] [18] [900000] [(9,.loc 900000 0)] ?_
 refine ve [18] [20] [900000] [(10,.loc 900000 1)] ?_
 refine vf [20,1800001] [22] [] [900000,900001] [900000] [(11,.ownb 900001)] [(900000,.box 64 [.nloc 900000 0,.ownb 900001])] ?_
 refine vs [22,1800003] [24,22] [] [900001] [900001] [(12,Y ((l1.length:Nat):Int)),(11,.own 900001)] [(900001,.arr 5 1 (l1.map zAN))] Z Z (fun w0 X X0 σ0 _=>by refine zJR 11 (q:=.own 900001) Z .ownb ?_;refine zDK (T:=tab) zAN l1 Z Z Z Z Z Z Z Z Z ?_;exact py) ?_
 refine vs [12,14,22,24,1800001,1800003] [26,12,14,22,1800001,1800003] [] [900000,900001] [] [(13,D (zEd l1)),(11,.sl 1 false (l1.map zAN))] [(900000,.box 64 [.nloc 900000 0,.junk])] Z Z (fun w0 X X0 σ0 _=>by refine zIJ zAN l1 (fun _=>Z) Z Z Z Z Z Z Z Tryz.underlying127 (by kernel_rfl) Z Z Z Z ?_;exact py) ?_
 refine ve [26] [4] [] [(2,D (zEd l1))] ?_
 exact zBf Z Z (zAA rN)
def zER (fu:Nat) (t3:Int) (y5:Class) (rc1:(Int×(List Int))->Option (Bs×Int)):Nat->Int×(List Int)->Option (Bs×Int)
 | 0,_=>none
 | k3+1,(t16,l17)=>cnd (decide (t16<((y5.Hooks.length:Nat):Int))) (bnd (idx y5.Hooks t16) fun y18=>bnd (zEY fu) fun r19=>bnd (idx r19 y18.Kind) fun y20=>bnd (zAa fu [[111,110],y20] l17) fun r21=>bnd (zBp fu [] y18.Do r21) fun r22=>bnd (rng .i64 (t16+1)) fun i23=>(zER fu t3 y5 rc1 k3) (i23,r22)) (bnd (rng .i64 (t3+1)) fun i24=>rc1 (i24,l17))
def zEQ (fu:Nat) (t3:Int) (y5:Class) (rc1:(Int×(List Int))->Option (Bs×Int)):Nat->Int×(List Int)->Option (Bs×Int)
 | 0,_=>none
 | k2+1,(t9,l10)=>cnd (decide (t9<((y5.Watch.length:Nat):Int))) (bnd (idx y5.Watch t9) fun y11=>bnd (zAa fu [[119,97,116,99,104],y11] l10) fun r12=>bnd (rng .i64 (t9+1)) fun i13=>(zEQ fu t3 y5 rc1 k2) (i13,r12)) (bnd (zBp fu [112,101,101,107] y5.Peek l10) fun r14=>bnd (zBp fu [109,97,107,101] y5.Make r14) fun r15=>(zER fu t3 y5 rc1) fu (0,r15))
def zEy (fu:Nat) (t3:Int) (y5:Class) (rc1:(Int×(List Int))->Option (Bs×Int)) (l8:(List Int)):Option (Bs×Int):=(zEQ fu t3 y5 rc1) fu (0,l8)
def zBh (fu:Nat) (s1:Script):Nat->Int×(List Int)->Option (Bs×Int)
 | 0,_=>none
 | k1+1,(t3,l4)=>cnd (decide (t3<((s1.Classes.length:Nat):Int))) (bnd (idx s1.Classes t3) fun y5=>cnd y5.Form (bnd (zAa fu [[99,108,97,115,115],[102,111,114,109]] l4) fun r6=>(zEy fu t3 y5 (zBh fu s1 k1)) r6) (bnd (zAa fu [[99,108,97,115,115]] l4) fun r7=>(zEy fu t3 y5 (zBh fu s1 k1)) r7)) (bnd (zBp fu [109,97,105,110] s1.Main l4) fun r25=>bnd (zEA fu r25) fun r26=>cnd (decide (r26>16384)) (some ([],3)) (bnd (zAp fu r25) fun r27=>some (r27,0)))
def zEq (fu:Nat) (s1:Script):Option (Bs×Int):=bnd (zDJ fu s1) fun r2=>cnd (!r2) (some ([],1)) ((zBh fu s1) fu (0,[]))
theorem zIV (fu:Nat) (s1:Script):∀r,zEq fu s1=some r->DC zAf Tryz.prog 12 [.agg (zE0 s1)] (.tup [D r.1,Y r.2]):=by
 refine fcI Tryz.func12 Z fun w0 X X0 σ0 _=>sr (zDl  1 Z Z Z Z Z Z Z Z Z Z (pq 2 Z (ns (zAD (sr (pq 1 Z (pc (zFD fu s1) zQk Z Z Z Z fun r2 hr2=>pq 1 Z (ns (zAH Z ?_ ?_)))))))))
 ·exact sr (pq 2 Z (ns rN))
 ·refine zAB (zAA (sr (zAs (T:=tab) 4 Z Z Z Z Z Z Z Z Z ?_)))
  refine zOA 4 [.nloc 4 0,.v (.slice none 0 0)] Z ⟨.nloc0,.rfl,trivial⟩ Z ?_
  refine zHV 5040 5 1 4 1 Z Z Z Z Z Z (ns (zAD (sr (pq 2 Z (zAm (T:=tab) zAM s1.Classes Z Z Z Z Z Z Z Z (pq 1 Z (ns (zAL (lq (zBh fu s1) (fun ((t3,l4):Int×(List Int))=>[(1,.loc 1 0),(4,.loc 4 0),(15,.sl 5 false (s1.Classes.map zAM)),(16,Y ((s1.Classes.length:Nat):Int)),(17,Y t3)]) (fun ((t3,l4):Int×(List Int))=>[(5040,.arr 5 1 (l4.map zAN)),(4,.box 64 [.nloc 4 0,.ownb 5040]),(1,.box 25 [.sl 5 false (s1.Classes.map zAM),.sl 7 false (s1.Main.map cOp)])]) fu (0,[]) ?_)))))))))
  rintro k1 ⟨t3,l4⟩
  refine sr (pq 1 Z (ns (zAD (zAH Z ?_ ?_))))
  ·refine zAB (zAA (zAD (zAL (sr (zCN (T:=tab) zAM s1.Classes Z Z Z Z Z Z Z fun y5 hy5=>pq 1 Z (zAs (T:=tab) 6 Z Z Z Z Z Z Z Z Z (zAG (T:=tab) Z Z Z Z Z Z Z Z Z Z Z Z (ns (zAD (sr (pq 2 Z (ns (zBi (zEy fu t3 y5 (zBh fu s1 k1)) (fun (l8:(List Int))=>[(1,.loc 1 0),(4,.loc 4 0),(6,.loc 6 0),(15,.sl 5 false (s1.Classes.map zAM)),(16,Y ((s1.Classes.length:Nat):Int)),(17,Y t3)]) (fun (l8:(List Int))=>[(4,.box 64 [.nloc 4 0,.ownb 5040]),(5040,.arr 5 1 (l8.map zAN)),(6,.box 51 [O y5.Form,.sl 1 false (y5.Watch.map cStr),.sl 7 false (y5.Peek.map cOp),.sl 7 false (y5.Make.map cOp),.sl 2 false (y5.Hooks.map zAP)]),(1,.box 25 [.sl 5 false (s1.Classes.map zAM),.sl 7 false (s1.Main.map cOp)])]) ?_ fun hj1=>?_)))))))))))))
   ·rintro l8
    refine zAA (zAD (sr (pq 2 Z (zAm (T:=tab) cStr y5.Watch Z Z Z Z Z Z Z Z (pq 1 Z (ns (zAL (lq (zEQ fu t3 y5 (zBh fu s1 k1)) (fun ((t9,l10):Int×(List Int))=>[(1,.loc 1 0),(4,.loc 4 0),(6,.loc 6 0),(15,.sl 5 false (s1.Classes.map zAM)),(16,Y ((s1.Classes.length:Nat):Int)),(17,Y t3),(28,.sl 1 false (y5.Watch.map cStr)),(29,Y ((y5.Watch.length:Nat):Int)),(30,Y t9)]) (fun ((t9,l10):Int×(List Int))=>[(4,.box 64 [.nloc 4 0,.ownb 5040]),(5040,.arr 5 1 (l10.map zAN)),(6,.box 51 [O y5.Form,.sl 1 false (y5.Watch.map cStr),.sl 7 false (y5.Peek.map cOp),.sl 7 false (y5.Make.map cOp),.sl 2 false (y5.Hooks.map zAP)]),(1,.box 25 [.sl 5 false (s1.Classes.map zAM),.sl 7 false (s1.Main.map cOp)])]) fu (0,l8) ?_))))))))
    rintro k2 ⟨t9,l10⟩
    refine sr (pq 1 Z (ns (zAD (zAH Z ?_ ?_))))
    ·refine zAB (zAA (zAD (zAL (sr (zCN (T:=tab) cStr y5.Watch Z Z Z Z Z Z Z fun y11 hy11=>pq 2 Z (ns (zAC (pq 1 Z ?_))))))))
     refine zBu (T:=tab) (rows:=[[119,97,116,99,104],y11].map cStr) 35 Z Z Z Z Z Z Z Z Z Z Z Z Z Z ?_
     exact tu [5040] (enc:=fun (r12:(List Int))=>.tup []) (Sr:=fun (r12:(List Int))=>[(4,.box 64 [.nloc 4 0,.ownb 5040]),(35,.arr 9 1 ([[119,97,116,99,104],y11].map cStr)),(5040,.arr 5 1 (r12.map zAN))]) (qs:=[.loc 4 0,.own 35]) (Sc:=[(4,.box 64 [.nloc 4 0,.ownb 5040]),(35,.arr 9 1 ([[119,97,116,99,104],y11].map cStr)),(5040,.arr 5 1 (l10.map zAN))]) (N1:=[4,35]) (NR:=[4,35,5040]) (fun r12 hr12=>fr [(900000,4),(900001,35),(900002,5040)] [900000,900001,900002] (zBW fu [[119,97,116,99,104],y11] l10 _ hr12)) zKG Z Z Z Z Z Z Z Z fun r12 hr12=>zAE (zAK (zAA (zAC (zAI (T:=tab) Z Z Z Z fun i13 hi13=>pq 1 Z (zAE (zAW (i13,r12) ⟨Z,Z,Z,Z,Z,Z,Z,Z,Z,trivial⟩ ⟨Z,Z,Z,Z,trivial⟩ Z))))))
    ·refine zAY Z (zAA (sr (pq 2 Z (tu [5040] (enc:=fun (r14:(List Int))=>.tup []) (Sr:=fun (r14:(List Int))=>[(4,.box 64 [.nloc 4 0,.ownb 5040]),(5040,.arr 5 1 (r14.map zAN))]) (qs:=[.loc 4 0,D [112,101,101,107],.sl 7 false (y5.Peek.map cOp)]) (Sc:=[(4,.box 64 [.nloc 4 0,.ownb 5040]),(5040,.arr 5 1 (l10.map zAN))]) (N1:=[4]) (NR:=[4,5040]) (fun r14 hr14=>fr [(900000,4),(900001,5040)] [900000,900001] (zDX fu [112,101,101,107] y5.Peek l10 _ hr14)) zOd Z Z Z Z Z Z Z Z fun r14 hr14=>ns (sr (pq 2 Z (tu [5040] (enc:=fun (r15:(List Int))=>.tup []) (Sr:=fun (r15:(List Int))=>[(4,.box 64 [.nloc 4 0,.ownb 5040]),(5040,.arr 5 1 (r15.map zAN))]) (qs:=[.loc 4 0,D [109,97,107,101],.sl 7 false (y5.Make.map cOp)]) (Sc:=[(4,.box 64 [.nloc 4 0,.ownb 5040]),(5040,.arr 5 1 (r14.map zAN))]) (N1:=[4]) (NR:=[4,5040]) (fun r15 hr15=>fr [(900000,4),(900001,5040)] [900000,900001] (zDX fu [109,97,107,101] y5.Make r14 _ hr15)) zOd Z Z Z Z Z Z Z Z fun r15 hr15=>ns (sr (pq 2 Z (zAm (T:=tab) zAP y5.Hooks Z Z Z Z Z Z Z Z (pq 1 Z (ns (zAL (lq (zER fu t3 y5 (zBh fu s1 k1)) (fun ((t16,l17):Int×(List Int))=>[(1,.loc 1 0),(4,.loc 4 0),(15,.sl 5 false (s1.Classes.map zAM)),(16,Y ((s1.Classes.length:Nat):Int)),(17,Y t3),(45,.sl 2 false (y5.Hooks.map zAP)),(46,Y ((y5.Hooks.length:Nat):Int)),(47,Y t16)]) (fun ((t16,l17):Int×(List Int))=>[(4,.box 64 [.nloc 4 0,.ownb 5040]),(5040,.arr 5 1 (l17.map zAN)),(1,.box 25 [.sl 5 false (s1.Classes.map zAM),.sl 7 false (s1.Main.map cOp)])]) fu (0,r15) ?_))))))))))))))
     rintro k3 ⟨t16,l17⟩
     refine sr (pq 1 Z (ns (zAD (zAH Z ?_ ?_))))
     ·refine zAB (zAA (zAD (zAL (sr (zCN (T:=tab) zAP y5.Hooks Z Z Z Z Z Z Z fun y18 hy18=>pq 1 Z (zAs (T:=tab) 10 Z Z Z Z Z Z Z Z Z (zAG (T:=tab) Z Z Z Z Z Z Z Z Z Z Z Z (ns (zAD (su [(1,.loc 1 0),(4,.loc 4 0),(15,.sl 5 false (s1.Classes.map zAM)),(16,Y ((s1.Classes.length:Nat):Int)),(17,Y t3),(45,.sl 2 false (y5.Hooks.map zAP)),(46,Y ((y5.Hooks.length:Nat):Int)),(47,Y t16),(10,.loc 10 0)] [(10,.box 54 [Y y18.Kind,.sl 7 false (y18.Do.map cOp)]),(4,.box 64 [.nloc 4 0,.ownb 5040]),(5040,.arr 5 1 (l17.map zAN)),(1,.box 25 [.sl 5 false (s1.Classes.map zAM),.sl 7 false (s1.Main.map cOp)])] (zBB [0,0,2,7,15,31,63] mixed (by kernel_rfl) (by kernel_rfl) Z Z (vt (zEY fu) [(102,[])] [] [102] [] [] [] (fun r19=>[(51,.sl 1 false (r19.map cStr))]) (fun r19=>[]) Z Z (fun _=>Z) (fun w0 X X0 σ0 _=>by refine zI8 (enc:=fun (r19:(List Bs))=>.sl 1 false (r19.map cStr)) (qs:=[]) (zHF fu) Z Z trivial (fun _=>Z) zUS Z Z fun r19 hr19=>?_;exact pz) fun r19 hr19=>?_))))))))))))
      refine ve [20] [104] [10] [(52,.loc 10 0)] ?_
      refine vf [21,104] [106] [] [10] [10] [(53,Y y18.Kind)] [(10,.box 54 [Y y18.Kind,.sl 7 false (y18.Do.map cOp)])] ?_
      refine vt (idx r19 y18.Kind) [(108,[])] [102,106] [108] [] [] [] (fun y20=>[(54,.el (cStr y20) 0)]) (fun y20=>[]) Z Z (fun _=>Z) (fun w0 X X0 σ0 _=>by refine zCN (T:=tab) cStr r19 Z Z Z Z Z Z Z fun y20 hy20=>?_;exact pz) fun y20 hy20=>?_
      refine ve [108] [110] [] [(55,D y20)] ?_
      refine vs [110] [112,113] [56] [] [] [(56,.own 56)] [(56,.arr 9 1 ([[111,110],y20].map cStr))] Z Z (fun w0 X X0 σ0 _=>by refine zBu (T:=tab) (rows:=[[111,110],y20].map cStr) 56 Z Z Z Z Z Z Z Z Z Z Z Z Z Z ?_;exact py) ?_
      refine vt (zAa fu [[111,110],y20] l17) [(114,[]),(10081,[]),(9,[4,5040])] [8,9,112,113,10081] [114,10081,9] [5040] [4,56] [56] (fun r21=>[(57,.tup [])]) (fun r21=>[(5040,.arr 5 1 (r21.map zAN)),(4,.box 64 [.nloc 4 0,.ownb 5040]),(56,.arr 9 1 ([[111,110],y20].map cStr))]) Z Z (fun _=>Z) (fun w0 X X0 σ0 _=>by refine tu [5040] (enc:=fun (r21:(List Int))=>.tup []) (Sr:=fun (r21:(List Int))=>[(4,.box 64 [.nloc 4 0,.ownb 5040]),(56,.arr 9 1 ([[111,110],y20].map cStr)),(5040,.arr 5 1 (r21.map zAN))]) (qs:=[.loc 4 0,.own 56]) (Sc:=[(4,.box 64 [.nloc 4 0,.ownb 5040]),(56,.arr 9 1 ([[111,110],y20].map cStr)),(5040,.arr 5 1 (l17.map zAN))]) (N1:=[4,56]) (NR:=[4,56,5040]) (fun r21 hr21=>fr [(900000,4),(900001,56),(900002,5040)] [900000,900001,900002] (zBW fu [[111,110],y20] l17 _ hr21)) zKG Z Z Z Z Z Z Z Z fun r21 hr21=>?_;exact pz) fun r21 hr21=>?_
      exact zBf Z Z (zAA (zAC (pq 2 Z (tu [5040] (enc:=fun (r22:(List Int))=>.tup []) (Sr:=fun (r22:(List Int))=>[(4,.box 64 [.nloc 4 0,.ownb 5040]),(5040,.arr 5 1 (r22.map zAN))]) (qs:=[.loc 4 0,D [],.sl 7 false (y18.Do.map cOp)]) (Sc:=[(4,.box 64 [.nloc 4 0,.ownb 5040]),(5040,.arr 5 1 (r21.map zAN))]) (N1:=[4]) (NR:=[4,5040]) (fun r22 hr22=>fr [(900000,4),(900001,5040)] [900000,900001] (zDX fu [] y18.Do r21 _ hr22)) zOd Z Z Z Z Z Z Z Z fun r22 hr22=>zAE (zAK (zAA (zAC (zAI (T:=tab) Z Z Z Z fun i23 hi23=>pq 1 Z (zAE (zAW (i23,r22) ⟨Z,Z,Z,Z,Z,Z,Z,Z,trivial⟩ ⟨Z,Z,Z,trivial⟩ Z))))))))))
     ·exact zAY Z (zAK (zAA (zAC (zAI (T:=tab) Z Z Z Z fun i24 hi24=>pq 1 Z (zAE (zAW (i24,l17) ⟨Z,Z,Z,Z,Z,trivial⟩ ⟨Z,Z,Z,trivial⟩ Z))))))
   ·refine zAH Z ?_ ?_
    ·refine zAC ?_
     refine zBu (T:=tab) (rows:=[[99,108,97,115,115],[102,111,114,109]].map cStr) 23 Z Z Z Z Z Z Z Z Z Z Z Z Z Z ?_
     exact tu [5040] (enc:=fun (r6:(List Int))=>.tup []) (Sr:=fun (r6:(List Int))=>[(4,.box 64 [.nloc 4 0,.ownb 5040]),(23,.arr 9 1 ([[99,108,97,115,115],[102,111,114,109]].map cStr)),(5040,.arr 5 1 (r6.map zAN))]) (qs:=[.loc 4 0,.own 23]) (Sc:=[(4,.box 64 [.nloc 4 0,.ownb 5040]),(23,.arr 9 1 ([[99,108,97,115,115],[102,111,114,109]].map cStr)),(5040,.arr 5 1 (l4.map zAN))]) (N1:=[4,23]) (NR:=[4,23,5040]) (fun r6 hr6=>fr [(900000,4),(900001,23),(900002,5040)] [900000,900001,900002] (zBW fu [[99,108,97,115,115],[102,111,114,109]] l4 _ hr6)) zKG Z Z Z Z Z Z Z Z fun r6 hr6=>zAE (ps (hj1 r6))
    ·refine zAC ?_
     refine zBu (T:=tab) (rows:=[[99,108,97,115,115]].map cStr) 25 Z Z Z Z Z Z Z Z Z Z Z Z Z Z ?_
     exact tu [5040] (enc:=fun (r7:(List Int))=>.tup []) (Sr:=fun (r7:(List Int))=>[(4,.box 64 [.nloc 4 0,.ownb 5040]),(25,.arr 9 1 ([[99,108,97,115,115]].map cStr)),(5040,.arr 5 1 (r7.map zAN))]) (qs:=[.loc 4 0,.own 25]) (Sc:=[(4,.box 64 [.nloc 4 0,.ownb 5040]),(25,.arr 9 1 ([[99,108,97,115,115]].map cStr)),(5040,.arr 5 1 (l4.map zAN))]) (N1:=[4,25]) (NR:=[4,25,5040]) (fun r7 hr7=>fr [(900000,4),(900001,25),(900002,5040)] [900000,900001,900002] (zBW fu [[99,108,97,115,115]] l4 _ hr7)) zKG Z Z Z Z Z Z Z Z fun r7 hr7=>zAE (ps (hj1 r7))
  ·refine zAY Z (zAA (sr (pq 2 Z (tu [5040] (enc:=fun (r25:(List Int))=>.tup []) (Sr:=fun (r25:(List Int))=>[(4,.box 64 [.nloc 4 0,.ownb 5040]),(5040,.arr 5 1 (r25.map zAN))]) (qs:=[.loc 4 0,D [109,97,105,110],.sl 7 false (s1.Main.map cOp)]) (Sc:=[(4,.box 64 [.nloc 4 0,.ownb 5040]),(5040,.arr 5 1 (l4.map zAN))]) (N1:=[4]) (NR:=[4,5040]) (fun r25 hr25=>fr [(900000,4),(900001,5040)] [900000,900001] (zDX fu [109,97,105,110] s1.Main l4 _ hr25)) zOd Z Z Z Z Z Z Z Z fun r25 hr25=>ns (zAD (sr (pq 1 Z (zFO (enc:=fun (r26:Int)=>Y r26) (first:=[]) (cap:=[]) (qs:=[.loc 4 0]) (Sc:=[(4,.box 64 [.nloc 4 0,.ownb 5040]),(5040,.arr 5 1 (r25.map zAN))]) (fun r26 hr26=>zK2 [(900000,4),(900001,5040)] [900000,900001] (zHA fu r25 _ hr26) Z Z Z Z Z Z) (zCd ⟨Z,Z,trivial⟩ Z) Z Z Z Z ⟨⟨_,Z,.rfl⟩,trivial⟩ (fun _=>Z) call29 Z Z fun r26 hr26=>pq 1 Z (ns (zAH Z ?_ ?_))))))))))
   ·exact sr (pq 2 Z (ns rN))
   ·exact zAB (zAA (sr (pq 1 Z (tu [] (enc:=fun (r27:Bs)=>D r27) (Sr:=fun (r27:Bs)=>[(4,.box 64 [.nloc 4 0,.junk])]) (qs:=[.loc 4 0]) (Sc:=[(4,.box 64 [.nloc 4 0,.ownb 5040]),(5040,.arr 5 1 (r25.map zAN))]) (N1:=[4,5040]) (NR:=[4]) (fun r27 hr27=>fr [(900000,4),(900001,5040)] [900000,900001] (zFp fu r25 _ hr27)) zOe Z Z Z Z Z Z Z Z fun r27 hr27=>pq 2 Z (ns rN)))))
def zDo (fu:Nat):Option Bool:=bnd (zES fu [99,108,97,115,115,32,102,111,114,109,10,119,97,116,99,104,32,97,10,109,97,107,101,10,115,117,112,101,114,10,111,110,32,99,97,109,101,10,33,116,104,114,111,119,10,109,97,105,110,10,100,101,102,105,110,101,32,48,32,34,120,45,97,34,32,34,34,10,63,10]) fun r1=>bnd (zEq fu r1.1) fun r2=>cnd (r1.2==0) (cnd (r2.2==0) (cnd (r2.1==([99,108,97,115,115,32,102,111,114,109,10,119,97,116,99,104,32,97,10,109,97,107,101,10,115,117,112,101,114,10,111,110,32,99,97,109,101,10,33,116,104,114,111,119,10,109,97,105,110,10,100,101,102,105,110,101,32,48,32,34,120,45,97,34,32,34,34,10,63,10]:Bs)) (cnd (((r1.1.Classes.length:Nat):Int)==1) (bnd (idx r1.1.Classes 0) fun y3=>cnd y3.Form (bnd (idx r1.1.Classes 0) fun y4=>cnd (((y4.Make.length:Nat):Int)==1) (bnd (idx r1.1.Classes 0) fun y5=>cnd (((y5.Hooks.length:Nat):Int)==1) (cnd (((r1.1.Main.length:Nat):Int)==2) (bnd (idx r1.1.Main 1) fun y6=>cnd (eqOp y6 (⟨0,0,0,0,[],[],false⟩:Op)) (bnd (zDJ fu r1.1) fun r7=>some r7) (some false)) (some false)) (some false)) (some false)) (some false)) (some false)) (some false)) (some false)) (some false)
theorem zHs (fu:Nat):∀r,zDo fu=some r->DC zAf Tryz.prog 9 [] (O r):=by
 refine fcI Tryz.func9 Z fun w0 X X0 σ0 _=>sr (pq 1 Z (ns (sr (pc (zH0 fu [99,108,97,115,115,32,102,111,114,109,10,119,97,116,99,104,32,97,10,109,97,107,101,10,115,117,112,101,114,10,111,110,32,99,97,109,101,10,33,116,104,114,111,119,10,109,97,105,110,10,100,101,102,105,110,101,32,48,32,34,120,45,97,34,32,34,34,10,63,10]) zUR Z Z Z Z fun r1 hr1=>pq 3 Z (zAs (T:=tab) 1 Z Z Z Z Z Z Z Z Z (zAG (T:=tab) Z Z Z Z Z Z Z Z Z Z Z Z (pq 1 Z (ns (sr (pq 1 Z (pc (zIV fu r1.1) zUQ Z Z Z Z fun r2 hr2=>pq 5 Z (ns (sr (pq 3 Z (zAF (j:=16) Z ?_ ?_)))))))))))))))
 ·refine pq 4 Z (zAF (j:=20) Z ?_ ?_)
  ·refine pq 4 Z (zAF (j:=24) Z ?_ ?_)
   ·refine pq 2 Z (zAm (T:=tab) zAM r1.1.Classes Z Z Z Z Z Z Z Z (pq 3 Z (zAF (j:=30) Z ?_ ?_)))
    ·refine pq 2 Z (zCN (T:=tab) zAM r1.1.Classes Z Z Z Z Z Z Z fun y3 hy3=>pq 4 Z (zAF (j:=37) Z ?_ ?_))
     ·refine pq 2 Z (zCN (T:=tab) zAM r1.1.Classes Z Z Z Z Z Z Z fun y4 hy4=>pq 2 Z (zAm (T:=tab) cOp y4.Make Z Z Z Z Z Z Z Z (pq 3 Z (zAF (j:=46) Z ?_ ?_))))
      ·refine pq 2 Z (zCN (T:=tab) zAM r1.1.Classes Z Z Z Z Z Z Z fun y5 hy5=>pq 2 Z (zAm (T:=tab) zAP y5.Hooks Z Z Z Z Z Z Z Z (pq 3 Z (zAF (j:=55) Z ?_ ?_))))
       ·refine pq 2 Z (zAm (T:=tab) cOp r1.1.Main Z Z Z Z Z Z Z Z (pq 3 Z (zAF (j:=61) Z ?_ ?_)))
        ·refine pq 2 Z (zCN (T:=tab) cOp r1.1.Main Z Z Z Z Z Z Z fun y6 hy6=>pq 1 Z (zA4 (T:=tab) Z Z Z Z Z Z Z (po_eq zMi Z Z Z Z Z Z Z (pq 2 Z (zAF (j:=69) Z ?_ ?_)))))
         ·exact pq 1 Z (pc (zFD fu r1.1) zQk Z Z Z Z fun r7 hr7=>pq 2 Z (ns rN))
         ·exact pq 4 Z (ns rN)
        ·exact pq 12 Z (ns rN)
       ·exact pq 18 Z (ns rN)
      ·exact pq 27 Z (ns rN)
     ·exact pq 36 Z (ns rN)
    ·exact pq 43 Z (ns rN)
   ·exact pq 49 Z (ns rN)
  ·exact pq 53 Z (ns rN)
 ·exact pq 57 Z (ns rN)
def zCG (i2:Int) (y3:Class) (rc1:Int->Option Bool):Nat->Int->Option Bool
 | 0,_=>none
 | k2+1,k4=>cnd (decide (k4<((y3.Hooks.length:Nat):Int))) (bnd (idx y3.Hooks k4) fun y5=>cnd (decide (((y5.Do.length:Nat):Int)>80)) (some false) (bnd (rng .i64 (k4+1)) fun i6=>(zCG i2 y3 rc1 k2) i6)) (bnd (rng .i64 (i2+1)) fun i7=>rc1 i7)
def zBH (fu:Nat) (classes1:(List Class)):Nat->Int->Option Bool
 | 0,_=>none
 | k1+1,i2=>cnd (decide (i2<((classes1.length:Nat):Int))) (bnd (idx classes1 i2) fun y3=>cnd (decide (((y3.Watch.length:Nat):Int)>20)) (some false) (cnd (decide (((y3.Hooks.length:Nat):Int)>20)) (some false) (cnd (decide (((y3.Peek.length:Nat):Int)>80)) (some false) (cnd (decide (((y3.Make.length:Nat):Int)>80)) (some false) ((zCG i2 y3 (zBH fu classes1 k1)) fu 0))))) (some true)
def zDq (fu:Nat) (classes1:(List Class)):Option Bool:=cnd (decide (((classes1.length:Nat):Int)>14)) (some false) ((zBH fu classes1) fu 0)
theorem zHu (fu:Nat) (classes1:(List Class)):∀r,zDq fu classes1=some r->DC zAf Tryz.prog 23 [.sl 5 false (classes1.map zAM)] (O r):=by
 refine fcI Tryz.func23 Z fun w0 X X0 σ0 _=>sr (pq 1 Z (ns (zAD (sr (pq 1 Z (zAm (T:=tab) zAM classes1 Z Z Z Z Z Z Z Z (pq 1 Z (ns (zAH Z ?_ ?_)))))))))
 ·exact sr (pq 1 Z (ns rN))
 ·refine zAB (zAA (zAD (sr (pq 1 Z (ns (zAL (lq (zBH fu classes1) (fun (i2:Int)=>[(0,.sl 5 false (classes1.map zAM)),(3,Y i2)]) (fun (i2:Int)=>[]) fu 0 ?_)))))))
  rintro k1 i2
  refine zAD (sr (pq 2 Z (zAm (T:=tab) zAM classes1 Z Z Z Z Z Z Z Z (pq 1 Z (ns (zAH Z ?_ ?_))))))
  ·refine zAB (zAA (zAD (zAL (sr (pq 2 Z (zCN (T:=tab) zAM classes1 Z Z Z Z Z Z Z fun y3 hy3=>pq 1 Z (zAs (T:=tab) 4 Z Z Z Z Z Z Z Z Z (zAG (T:=tab) Z Z Z Z Z Z Z Z Z Z Z Z (ns (zAD (sr (pq 2 Z (zAm (T:=tab) cStr y3.Watch Z Z Z Z Z Z Z Z (pq 2 Z (zAF (j:=23) Z ?_ ?_)))))))))))))))
   ·refine pq 17 Z (zAE (zAA (zAQ Z ?_)))
    exact sr (pq 1 Z (ns rN))
   ·refine pq 2 Z (zAm (T:=tab) zAP y3.Hooks Z Z Z Z Z Z Z Z (pq 3 Z (zAF (j:=29) Z ?_ ?_)))
    ·refine pq 11 Z (zAE (zAA (zAQ Z ?_)))
     exact sr (pq 1 Z (ns rN))
    ·refine pq 2 Z (zAm (T:=tab) cOp y3.Peek Z Z Z Z Z Z Z Z (pq 3 Z (zAF (j:=35) Z ?_ ?_)))
     ·refine pq 5 Z (zAE (zAA (zAQ Z ?_)))
      exact sr (pq 1 Z (ns rN))
     ·refine pq 2 Z (zAm (T:=tab) cOp y3.Make Z Z Z Z Z Z Z Z (pq 2 Z (ns (zAH Z ?_ ?_))))
      ·exact sr (pq 1 Z (ns rN))
      ·refine zAB (zAA (sr (pq 1 Z (ns (zAL (lq (zCG i2 y3 (zBH fu classes1 k1)) (fun (k4:Int)=>[(0,.sl 5 false (classes1.map zAM)),(3,Y i2),(4,.loc 4 0),(5,Y k4)]) (fun (k4:Int)=>[(4,.box 51 [O y3.Form,.sl 1 false (y3.Watch.map cStr),.sl 7 false (y3.Peek.map cOp),.sl 7 false (y3.Make.map cOp),.sl 2 false (y3.Hooks.map zAP)])]) fu 0 ?_))))))
       rintro k2 k4
       refine zAD (sr (pq 3 Z (zAm (T:=tab) zAP y3.Hooks Z Z Z Z Z Z Z Z (pq 1 Z (ns (zAH Z ?_ ?_))))))
       ·refine zAB (zAA (zAD (zAL (sr (pq 3 Z (zCN (T:=tab) zAP y3.Hooks Z Z Z Z Z Z Z fun y5 hy5=>pq 2 Z (zAm (T:=tab) cOp y5.Do Z Z Z Z Z Z Z Z (pq 1 Z (ns (zAH Z ?_ ?_))))))))))
        ·exact sr (pq 1 Z (ns rN))
        ·exact zAB (zAK (zAA (zAC (pq 1 Z (zAI (T:=tab) Z Z Z Z fun i6 hi6=>pq 1 Z (zAE (zAW i6 ⟨Z,Z,Z,Z,trivial⟩ ⟨Z,trivial⟩ Z)))))))
       ·exact zAY Z (zAK (zAA (zAC (pq 1 Z (zAI (T:=tab) Z Z Z Z fun i7 hi7=>pq 1 Z (zAE (zAW i7 ⟨Z,Z,trivial⟩ trivial Z)))))))
  ·exact zAY Z (zAA (sr (pq 1 Z (ns rN))))
def zCE (l1:(List Op)):Nat->Int->Option Bool
 | 0,_=>none
 | k1+1,i2=>cnd (decide (i2<((l1.length:Nat):Int))) (bnd (idx l1 i2) fun y3=>cnd (decide (((y3.S.length:Nat):Int)>300)) (some false) (bnd (idx l1 i2) fun y4=>cnd (decide (((y4.T.length:Nat):Int)>300)) (some false) (bnd (rng .i64 (i2+1)) fun i5=>(zCE l1 k1) i5))) (some true)
def zB3 (fu:Nat) (l1:(List Op)):Option Bool:=(zCE l1) fu 0
theorem zDc (fu:Nat) (l1:(List Op)):∀r,zB3 fu l1=some r->DC zAf Tryz.prog 22 [.sl 7 false (l1.map cOp)] (O r):=by
 refine fcI Tryz.func22 Z fun w0 X X0 σ0 _=>sr (pq 1 Z (ns (zAD (sr (pq 1 Z (ns (zAL (lq (zCE l1) (fun (i2:Int)=>[(0,.sl 7 false (l1.map cOp)),(3,Y i2)]) (fun (i2:Int)=>[]) fu 0 ?_))))))))
 rintro k1 i2
 refine zAD (sr (pq 2 Z (zAm (T:=tab) cOp l1 Z Z Z Z Z Z Z Z (pq 1 Z (ns (zAH Z ?_ ?_))))))
 ·refine zAB (zAA (zAD (zAL (sr (pq 2 Z (zCN (T:=tab) cOp l1 Z Z Z Z Z Z Z fun y3 hy3=>pq 5 Z (zAF (j:=17) Z ?_ ?_)))))))
  ·refine pq 8 Z (zAE (zAA (zAQ Z ?_)))
   exact sr (pq 1 Z (ns rN))
  ·refine pq 2 Z (zCN (T:=tab) cOp l1 Z Z Z Z Z Z Z fun y4 hy4=>pq 5 Z (ns (zAH Z ?_ ?_)))
   ·exact sr (pq 1 Z (ns rN))
   ·exact zAB (zAK (zAA (zAC (pq 1 Z (zAI (T:=tab) Z Z Z Z fun i5 hi5=>pq 1 Z (zAE (zAW i5 ⟨Z,Z,trivial⟩ trivial Z)))))))
 ·exact zAY Z (zAA (sr (pq 1 Z (ns rN))))
def zCf (fu:Nat) (i4:Int) (y5:Class) (rc1:Int->Option Bool):Nat->Int->Option Bool
 | 0,_=>none
 | k3+1,k9=>cnd (decide (k9<((y5.Hooks.length:Nat):Int))) (bnd (idx y5.Hooks k9) fun y10=>bnd (zB3 fu y10.Do) fun r11=>cnd (!r11) (some false) (bnd (rng .i64 (k9+1)) fun i12=>(zCf fu i4 y5 rc1 k3) i12)) (bnd (zB3 fu y5.Peek) fun r13=>cnd (!r13) (some false) (bnd (zB3 fu y5.Make) fun r14=>cnd (!r14) (some false) (bnd (rng .i64 (i4+1)) fun i15=>rc1 i15)))
def zCe (fu:Nat) (i4:Int) (y5:Class) (rc1:Int->Option Bool):Nat->Int->Option Bool
 | 0,_=>none
 | k2+1,k6=>cnd (decide (k6<((y5.Watch.length:Nat):Int))) (bnd (idx y5.Watch k6) fun y7=>cnd (decide (((y7.length:Nat):Int)>300)) (some false) (bnd (rng .i64 (k6+1)) fun i8=>(zCe fu i4 y5 rc1 k2) i8)) ((zCf fu i4 y5 rc1) fu 0)
def zBs (fu:Nat) (s1:Script):Nat->Int->Option Bool
 | 0,_=>none
 | k1+1,i4=>cnd (decide (i4<((s1.Classes.length:Nat):Int))) (bnd (idx s1.Classes i4) fun y5=>(zCe fu i4 y5 (zBs fu s1 k1)) fu 0) (some true)
def zEM (fu:Nat) (s1:Script):Option Bool:=bnd (zDq fu s1.Classes) fun r2=>cnd (!r2) (some false) (cnd (decide (((s1.Main.length:Nat):Int)>320)) (some false) (bnd (zB3 fu s1.Main) fun r3=>cnd (!r3) (some false) ((zBs fu s1) fu 0)))
theorem zIP (fu:Nat) (s1:Script):∀r,zEM fu s1=some r->DC zAf Tryz.prog 10 [.agg (zE0 s1)] (O r):=by
 refine fcI Tryz.func10 Z fun w0 X X0 σ0 _=>sr (zDl  1 Z Z Z Z Z Z Z Z Z Z (pq 1 Z (ns (zAD (sr (pq 2 Z (pc (zHu fu s1.Classes) call23 Z Z Z Z fun r2 hr2=>pq 2 Z (zAF (j:=11) Z ?_ ?_))))))))
 ·refine pq 11 Z (zAE (zAA (zAQ Z ?_)))
  exact sr (pq 1 Z (ns rN))
 ·refine pq 2 Z (zAm (T:=tab) cOp s1.Main Z Z Z Z Z Z Z Z (pq 3 Z (zAF (j:=17) Z ?_ ?_)))
  ·refine pq 5 Z (zAE (zAA (zAQ Z ?_)))
   exact sr (pq 1 Z (ns rN))
  ·refine pq 2 Z (pc (zDc fu s1.Main) zOb Z Z Z Z fun r3 hr3=>pq 2 Z (ns (zAH Z ?_ ?_)))
   ·exact sr (pq 1 Z (ns rN))
   ·refine zAB (zAA (zAD (sr (pq 1 Z (ns (zAL (lq (zBs fu s1) (fun (i4:Int)=>[(1,.loc 1 0),(3,Y i4)]) (fun (i4:Int)=>[(1,.box 25 [.sl 5 false (s1.Classes.map zAM),.sl 7 false (s1.Main.map cOp)])]) fu 0 ?_)))))))
    rintro k1 i4
    refine zAD (sr (pq 3 Z (zAm (T:=tab) zAM s1.Classes Z Z Z Z Z Z Z Z (pq 1 Z (ns (zAH Z ?_ ?_))))))
    ·refine zAB (zAA (zAD (zAL (sr (pq 3 Z (zCN (T:=tab) zAM s1.Classes Z Z Z Z Z Z Z fun y5 hy5=>pq 1 Z (zAs (T:=tab) 4 Z Z Z Z Z Z Z Z Z (zAG (T:=tab) Z Z Z Z Z Z Z Z Z Z Z Z (ns (zAD (sr (pq 1 Z (ns (zAL (lq (zCe fu i4 y5 (zBs fu s1 k1)) (fun (k6:Int)=>[(1,.loc 1 0),(3,Y i4),(4,.loc 4 0),(5,Y k6)]) (fun (k6:Int)=>[(4,.box 51 [O y5.Form,.sl 1 false (y5.Watch.map cStr),.sl 7 false (y5.Peek.map cOp),.sl 7 false (y5.Make.map cOp),.sl 2 false (y5.Hooks.map zAP)]),(1,.box 25 [.sl 5 false (s1.Classes.map zAM),.sl 7 false (s1.Main.map cOp)])]) fu 0 ?_)))))))))))))))
     rintro k2 k6
     refine zAD (sr (pq 3 Z (zAm (T:=tab) cStr y5.Watch Z Z Z Z Z Z Z Z (pq 1 Z (ns (zAH Z ?_ ?_))))))
     ·refine zAB (zAA (zAD (zAL (sr (pq 3 Z (zCN (T:=tab) cStr y5.Watch Z Z Z Z Z Z Z fun y7 hy7=>pq 3 Z (ns (zAH Z ?_ ?_))))))))
      ·exact sr (pq 1 Z (ns rN))
      ·exact zAB (zAK (zAA (zAC (pq 1 Z (zAI (T:=tab) Z Z Z Z fun i8 hi8=>pq 1 Z (zAE (zAW i8 ⟨Z,Z,Z,Z,trivial⟩ ⟨Z,Z,trivial⟩ Z)))))))
     ·refine zAY Z (zAA (zAD (sr (pq 1 Z (ns (zAL (lq (zCf fu i4 y5 (zBs fu s1 k1)) (fun (k9:Int)=>[(1,.loc 1 0),(3,Y i4),(4,.loc 4 0),(6,Y k9)]) (fun (k9:Int)=>[(4,.box 51 [O y5.Form,.sl 1 false (y5.Watch.map cStr),.sl 7 false (y5.Peek.map cOp),.sl 7 false (y5.Make.map cOp),.sl 2 false (y5.Hooks.map zAP)]),(1,.box 25 [.sl 5 false (s1.Classes.map zAM),.sl 7 false (s1.Main.map cOp)])]) fu 0 ?_)))))))
      rintro k3 k9
      refine zAD (sr (pq 3 Z (zAm (T:=tab) zAP y5.Hooks Z Z Z Z Z Z Z Z (pq 1 Z (ns (zAH Z ?_ ?_))))))
      ·refine zAB (zAA (zAD (zAL (sr (pq 3 Z (zCN (T:=tab) zAP y5.Hooks Z Z Z Z Z Z Z fun y10 hy10=>pq 2 Z (pc (zDc fu y10.Do) zOb Z Z Z Z fun r11 hr11=>pq 1 Z (ns (zAH Z ?_ ?_)))))))))
       ·exact sr (pq 1 Z (ns rN))
       ·exact zAB (zAK (zAA (zAC (pq 1 Z (zAI (T:=tab) Z Z Z Z fun i12 hi12=>pq 1 Z (zAE (zAW i12 ⟨Z,Z,Z,Z,trivial⟩ ⟨Z,Z,trivial⟩ Z)))))))
      ·refine zAY Z (zAA (sr (pq 2 Z (pc (zDc fu y5.Peek) zOb Z Z Z Z fun r13 hr13=>pq 2 Z (zAF (j:=68) Z ?_ ?_)))))
       ·refine pq 5 Z (zAE (zAA (zAQ Z ?_)))
        exact sr (pq 1 Z (ns rN))
       ·refine pq 2 Z (pc (zDc fu y5.Make) zOb Z Z Z Z fun r14 hr14=>pq 2 Z (ns (zAH Z ?_ ?_)))
        ·exact sr (pq 1 Z (ns rN))
        ·exact zAB (zAK (zAA (zAC (pq 1 Z (zAI (T:=tab) Z Z Z Z fun i15 hi15=>pq 1 Z (zAE (zAW i15 ⟨Z,Z,trivial⟩ ⟨Z,trivial⟩ Z)))))))
    ·exact zAY Z (zAA (sr (pq 1 Z (ns rN))))
def zCH (_fu:Nat) (kind1:Int):Option Bs:=cnd (kind1==1) (some [110,45,45,116,116]) (cnd (kind1==2) (some [110,45,45,116,116]) (cnd (kind1==9) (some [110,45,45,116,116]) (cnd (kind1==28) (some [110,45,45,116,116]) (cnd (kind1==3) (some [110,45,45,116,45]) (cnd (kind1==10) (some [110,45,45,116,45]) (cnd (kind1==24) (some [110,45,45,116,45]) (cnd (kind1==6) (some [110,110,111,45,45]) (cnd (kind1==8) (some [110,110,111,45,45]) (cnd (kind1==26) (some [110,110,111,45,45]) (cnd (kind1==4) (some [110,45,45,45,45]) (cnd (kind1==5) (some [110,45,45,45,45]) (cnd (kind1==7) (some [110,45,45,45,45]) (cnd (kind1==14) (some [110,45,45,45,45]) (cnd (kind1==15) (some [110,45,45,45,45]) (cnd (kind1==18) (some [110,45,45,45,45]) (cnd (kind1==21) (some [110,45,45,45,45]) (cnd (kind1==23) (some [110,45,45,45,45]) (cnd (kind1==27) (some [110,45,45,45,45]) (cnd (kind1==20) (some [45,45,45,45,45]) (cnd (kind1==22) (some [45,45,45,45,45]) (cnd (kind1==25) (some [45,45,45,45,45]) (cnd (kind1==11) (some [110,105,45,116,45]) (cnd (kind1==12) (some [110,105,110,45,45]) (cnd (kind1==13) (some [110,110,45,45,45]) (cnd (kind1==16) (some [105,45,45,116,116]) (cnd (kind1==17) (some [45,45,45,116,45]) (cnd (kind1==19) (some [105,45,45,45,45]) (some []))))))))))))))))))))))))))))
theorem zD3 (fu:Nat) (kind1:Int):∀r,zCH fu kind1=some r->DC zAf Tryz.prog 77 [Y kind1] (D r):=by
 refine fcI Tryz.func77 Z fun w0 X X0 σ0 _=>sr (pq 1 Z (ns (zAD (sr (pq 3 Z (zAF (j:=5) Z ?_ ?_))))))
 ·refine pq 11 Z (zAE (zAA (zAQ Z ?_)))
  exact sr (pq 1 Z (ns rN))
 ·refine pq 4 Z (zAF (j:=9) Z ?_ ?_)
  ·refine pq 7 Z (zAE (zAA (zAQ Z ?_)))
   exact sr (pq 1 Z (ns rN))
  ·refine pq 4 Z (zAF (j:=13) Z ?_ ?_)
   ·refine pq 3 Z (zAE (zAA (zAQ Z ?_)))
    exact sr (pq 1 Z (ns rN))
   ·refine pq 3 Z (ns (zAH Z ?_ ?_))
    ·exact sr (pq 1 Z (ns rN))
    ·refine zAB (zAA (zAD (sr (pq 3 Z (zAF (j:=19) Z ?_ ?_)))))
     ·refine pq 7 Z (zAE (zAA (zAQ Z ?_)))
      exact sr (pq 1 Z (ns rN))
     ·refine pq 4 Z (zAF (j:=23) Z ?_ ?_)
      ·refine pq 3 Z (zAE (zAA (zAQ Z ?_)))
       exact sr (pq 1 Z (ns rN))
      ·refine pq 3 Z (ns (zAH Z ?_ ?_))
       ·exact sr (pq 1 Z (ns rN))
       ·refine zAB (zAA (zAD (sr (pq 3 Z (zAF (j:=29) Z ?_ ?_)))))
        ·refine pq 7 Z (zAE (zAA (zAQ Z ?_)))
         exact sr (pq 1 Z (ns rN))
        ·refine pq 4 Z (zAF (j:=33) Z ?_ ?_)
         ·refine pq 3 Z (zAE (zAA (zAQ Z ?_)))
          exact sr (pq 1 Z (ns rN))
         ·refine pq 3 Z (ns (zAH Z ?_ ?_))
          ·exact sr (pq 1 Z (ns rN))
          ·refine zAB (zAA (zAD (sr (pq 3 Z (zAF (j:=39) Z ?_ ?_)))))
           ·refine pq 31 Z (zAE (zAA (zAQ Z ?_)))
            exact sr (pq 1 Z (ns rN))
           ·refine pq 4 Z (zAF (j:=43) Z ?_ ?_)
            ·refine pq 27 Z (zAE (zAA (zAQ Z ?_)))
             exact sr (pq 1 Z (ns rN))
            ·refine pq 4 Z (zAF (j:=47) Z ?_ ?_)
             ·refine pq 23 Z (zAE (zAA (zAQ Z ?_)))
              exact sr (pq 1 Z (ns rN))
             ·refine pq 4 Z (zAF (j:=51) Z ?_ ?_)
              ·refine pq 19 Z (zAE (zAA (zAQ Z ?_)))
               exact sr (pq 1 Z (ns rN))
              ·refine pq 4 Z (zAF (j:=55) Z ?_ ?_)
               ·refine pq 15 Z (zAE (zAA (zAQ Z ?_)))
                exact sr (pq 1 Z (ns rN))
               ·refine pq 4 Z (zAF (j:=59) Z ?_ ?_)
                ·refine pq 11 Z (zAE (zAA (zAQ Z ?_)))
                 exact sr (pq 1 Z (ns rN))
                ·refine pq 4 Z (zAF (j:=63) Z ?_ ?_)
                 ·refine pq 7 Z (zAE (zAA (zAQ Z ?_)))
                  exact sr (pq 1 Z (ns rN))
                 ·refine pq 4 Z (zAF (j:=67) Z ?_ ?_)
                  ·refine pq 3 Z (zAE (zAA (zAQ Z ?_)))
                   exact sr (pq 1 Z (ns rN))
                  ·refine pq 3 Z (ns (zAH Z ?_ ?_))
                   ·exact sr (pq 1 Z (ns rN))
                   ·refine zAB (zAA (zAD (sr (pq 3 Z (zAF (j:=73) Z ?_ ?_)))))
                    ·refine pq 7 Z (zAE (zAA (zAQ Z ?_)))
                     exact sr (pq 1 Z (ns rN))
                    ·refine pq 4 Z (zAF (j:=77) Z ?_ ?_)
                     ·refine pq 3 Z (zAE (zAA (zAQ Z ?_)))
                      exact sr (pq 1 Z (ns rN))
                     ·refine pq 3 Z (ns (zAH Z ?_ ?_))
                      ·exact sr (pq 1 Z (ns rN))
                      ·refine zAB (zAA (zAD (sr (pq 1 Z (ns (zAL (sr (pq 2 Z (ns (zAH Z ?_ ?_))))))))))
                       ·exact sr (pq 1 Z (ns rN))
                       ·refine sr (pq 2 Z (ns (zAH Z ?_ ?_)))
                        ·exact sr (pq 1 Z (ns rN))
                        ·refine sr (pq 2 Z (ns (zAH Z ?_ ?_)))
                         ·exact sr (pq 1 Z (ns rN))
                         ·refine sr (pq 2 Z (ns (zAH Z ?_ ?_)))
                          ·exact sr (pq 1 Z (ns rN))
                          ·refine sr (pq 2 Z (ns (zAH Z ?_ ?_)))
                           ·exact sr (pq 1 Z (ns rN))
                           ·refine sr (pq 2 Z (ns (zAH Z ?_ ?_)))
                            ·exact sr (pq 1 Z (ns rN))
                            ·exact zAB (zAK (zAA (sr (pq 1 Z (ns rN)))))
def zCI (_fu:Nat) (f1:Int) (n2:Int):Option Bool:=cnd (f1==105) (cnd (decide (n2>=(-1000))) (some (decide (n2<=1000))) (some false)) (cnd (f1==45) (some (n2==0)) (cnd (decide (n2>=0)) (cnd (decide (n2<400)) (some true) (cnd (n2==(-2)) (some true) (cnd (n2==(-3)) (some true) (cnd (f1==111) (some (n2==(-1))) (some false))))) (cnd (n2==(-2)) (some true) (cnd (n2==(-3)) (some true) (cnd (f1==111) (some (n2==(-1))) (some false))))))
theorem zD5 (fu:Nat) (f1:Int) (n2:Int):∀r,zCI fu f1 n2=some r->DC zAf Tryz.prog 96 [.v (.int .u8 f1),Y n2] (O r):=by
 refine fcI Tryz.func96 Z fun w0 X X0 σ0 _=>sr (pq 1 Z (ns (zAD (sr (pq 2 Z (ns (zAH Z ?_ ?_)))))))
 ·refine sr (pq 3 Z (zAF (j:=9) Z ?_ ?_))
  ·exact pq 4 Z (ns rN)
  ·exact pq 4 Z (ns rN)
 ·refine zAB (zAA (zAD (sr (pq 2 Z (ns (zAH Z ?_ ?_))))))
  ·exact sr (pq 3 Z (ns rN))
  ·refine zAB (zAA (sr (pq 3 Z (zAF (j:=19) Z ?_ ?_))))
   ·refine pq 4 Z (zAF (j:=23) Z ?_ ?_)
    ·exact pq 16 Z (ns rN)
    ·refine pq 4 Z (zAF (j:=27) Z ?_ ?_)
     ·exact pq 12 Z (ns rN)
     ·refine pq 4 Z (zAF (j:=31) Z ?_ ?_)
      ·exact pq 8 Z (ns rN)
      ·refine pq 3 Z (zAF (j:=34) Z ?_ ?_)
       ·exact pq 5 Z (ns rN)
       ·exact pq 5 Z (ns rN)
   ·refine pq 8 Z (zAF (j:=27) Z ?_ ?_)
    ·exact pq 12 Z (ns rN)
    ·refine pq 4 Z (zAF (j:=31) Z ?_ ?_)
     ·exact pq 8 Z (ns rN)
     ·refine pq 3 Z (zAF (j:=34) Z ?_ ?_)
      ·exact pq 5 Z (ns rN)
      ·exact pq 5 Z (ns rN)
def zCP (s2:Bs):Nat->Int->Option Bool
 | 0,_=>none
 | k1+1,i3=>cnd (decide (i3<((s2.length:Nat):Int))) (bnd (chr s2 i3) fun b4=>cnd (b4==10) (some false) (bnd (rng .i64 (i3+1)) fun i5=>(zCP s2 k1) i5)) (some (decide (((s2.length:Nat):Int)<=200)))
def zDO (fu:Nat) (f1:Int) (s2:Bs):Option Bool:=cnd (f1==45) (some (s2==([]:Bs))) ((zCP s2) fu 0)
theorem zF1 (fu:Nat) (f1:Int) (s2:Bs):∀r,zDO fu f1 s2=some r->DC zAf Tryz.prog 97 [.v (.int .u8 f1),D s2] (O r):=by
 refine fcI Tryz.func97 Z fun w0 X X0 σ0 _=>sr (pq 1 Z (ns (zAD (sr (pq 2 Z (ns (zAH Z ?_ ?_)))))))
 ·exact sr (pq 3 Z (ns rN))
 ·refine zAB (zAA (zAD (sr (pq 1 Z (ns (zAL (lq (zCP s2) (fun (i3:Int)=>[(1,D s2),(5,Y i3)]) (fun (i3:Int)=>[]) fu 0 ?_)))))))
  rintro k1 i3
  refine zAD (sr (pq 4 Z (ns (zAH Z ?_ ?_))))
  ·refine zAB (zAA (zAD (zAL (sr (pq 2 Z (zBZ (T:=tab) (s:=s2) Z Z Z Z Z Z Z fun b4 hb4=>pq 1 Z (ns (zAH Z ?_ ?_))))))))
   ·exact sr (pq 1 Z (ns rN))
   ·exact zAB (zAK (zAA (zAC (pq 1 Z (zAI (T:=tab) Z Z Z Z fun i5 hi5=>pq 1 Z (zAE (zAW i5 ⟨Z,Z,trivial⟩ trivial Z)))))))
  ·exact zAY Z (zAA (sr (pq 4 Z (ns rN))))
def zDB (fu:Nat) (o1:Op):Option Bool:=bnd (zCH fu o1.Kind) fun r2=>cnd (!(r2==([]:Bs))) (bnd (chr r2 0) fun b3=>bnd (zCI fu b3 o1.A) fun r4=>cnd r4 (bnd (chr r2 1) fun b5=>bnd (zCI fu b5 o1.B) fun r6=>cnd r6 (bnd (chr r2 2) fun b7=>bnd (zCI fu b7 o1.C) fun r8=>cnd r8 (bnd (chr r2 3) fun b9=>bnd (zDO fu b9 o1.S) fun r10=>cnd r10 (bnd (chr r2 4) fun b11=>bnd (zDO fu b11 o1.T) fun r12=>some r12) (some false)) (some false)) (some false)) (some false)) (some false)
theorem zFi (fu:Nat) (o1:Op):∀r,zDB fu o1=some r->DC zAf Tryz.prog 62 [.agg (cOp o1)] (O r):=by
 refine fcI Tryz.func62 Z fun w0 X X0 σ0 _=>sr (zDl  1 Z Z Z Z Z Z Z Z Z Z (pq 1 Z (ns (sr (pq 2 Z (pc (zD3 fu o1.Kind) zQr Z Z Z Z fun r2 hr2=>pq 1 Z (ns (zAD (zEK mixed (by kernel_rfl) (zAV (T:=tab) 3 Z Z (zDf (j:=9) Z ?_ ?_)))))))))))
 ·refine zAV (T:=tab) 1 Z Z (zGo (T:=tab) (s:=r2) Z Z Z Z Z Z Z fun b3 hb3=>zAV (T:=tab) 2 Z Z (pdc (zD5 fu b3 o1.A) zQv Z Z Z Z fun r4 hr4=>zAV (T:=tab) 2 Z Z (zDf (j:=16) Z ?_ ?_)))
  ·refine zAV (T:=tab) 1 Z Z (zGo (T:=tab) (s:=r2) Z Z Z Z Z Z Z fun b5 hb5=>zAV (T:=tab) 2 Z Z (pdc (zD5 fu b5 o1.B) zQv Z Z Z Z fun r6 hr6=>zAV (T:=tab) 2 Z Z (zDf (j:=23) Z ?_ ?_)))
   ·refine zAV (T:=tab) 1 Z Z (zGo (T:=tab) (s:=r2) Z Z Z Z Z Z Z fun b7 hb7=>zAV (T:=tab) 2 Z Z (pdc (zD5 fu b7 o1.C) zQv Z Z Z Z fun r8 hr8=>zAV (T:=tab) 2 Z Z (zDf (j:=30) Z ?_ ?_)))
    ·refine zAV (T:=tab) 1 Z Z (zGo (T:=tab) (s:=r2) Z Z Z Z Z Z Z fun b9 hb9=>zAV (T:=tab) 2 Z Z (pdc (zF1 fu b9 o1.S) zUi Z Z Z Z fun r10 hr10=>zAV (T:=tab) 2 Z Z (zDf (j:=37) Z ?_ ?_)))
     ·exact zAV (T:=tab) 1 Z Z (zGo (T:=tab) (s:=r2) Z Z Z Z Z Z Z fun b11 hb11=>zAV (T:=tab) 2 Z Z (pdc (zF1 fu b11 o1.T) zUi Z Z Z Z fun r12 hr12=>zAV (T:=tab) 2 Z Z (zCq (zAA rN))))
     ·exact zAV (T:=tab) 7 Z Z (zCq (zAA rN))
    ·exact zAV (T:=tab) 14 Z Z (zCq (zAA rN))
   ·exact zAV (T:=tab) 21 Z Z (zCq (zAA rN))
  ·exact zAV (T:=tab) 28 Z Z (zCq (zAA rN))
 ·exact zAV (T:=tab) 35 Z Z (zCq (zAA rN))
def zB8 (fu:Nat) (l1:(List Op)):Nat->Int->Option Bool
 | 0,_=>none
 | k1+1,i2=>cnd (decide (i2<((l1.length:Nat):Int))) (bnd (idx l1 i2) fun y3=>cnd (!(eqOp y3 (⟨0,0,0,0,[],[],false⟩:Op))) (bnd (idx l1 i2) fun y4=>bnd (zDB fu y4) fun r5=>cnd (!r5) (some false) (bnd (rng .i64 (i2+1)) fun i6=>(zB8 fu l1 k1) i6)) (bnd (rng .i64 (i2+1)) fun i7=>(zB8 fu l1 k1) i7)) (some true)
def zCR (fu:Nat) (l1:(List Op)):Option Bool:=(zB8 fu l1) fu 0
theorem zDy (fu:Nat) (l1:(List Op)):∀r,zCR fu l1=some r->DC zAf Tryz.prog 24 [.sl 7 false (l1.map cOp)] (O r):=by
 refine fcI Tryz.func24 Z fun w0 X X0 σ0 _=>sr (pq 1 Z (ns (zAD (sr (pq 1 Z (ns (zAL (lq (zB8 fu l1) (fun (i2:Int)=>[(0,.sl 7 false (l1.map cOp)),(3,Y i2)]) (fun (i2:Int)=>[]) fu 0 ?_))))))))
 rintro k1 i2
 refine zAD (sr (pq 2 Z (zAm (T:=tab) cOp l1 Z Z Z Z Z Z Z Z (pq 1 Z (ns (zAH Z ?_ ?_))))))
 ·refine zAB (zAA (zAD (zAL (sr (pq 2 Z (zCN (T:=tab) cOp l1 Z Z Z Z Z Z Z fun y3 hy3=>pq 1 Z (zA4 (T:=tab) Z Z Z Z Z Z Z (po_ne zMi Z Z Z Z Z Z Z (pq 1 Z (zAF (j:=16) Z ?_ ?_))))))))))
  ·refine pq 2 Z (zCN (T:=tab) cOp l1 Z Z Z Z Z Z Z fun y4 hy4=>pq 1 Z (pc (zFi fu y4) zUZ Z Z Z Z fun r5 hr5=>pq 2 Z (ns (zAH Z ?_ ?_))))
   ·exact sr (pq 1 Z (ns rN))
   ·exact zAB (zAK (zAA (zAC (pq 1 Z (zAI (T:=tab) Z Z Z Z fun i6 hi6=>pq 1 Z (zAE (zAW i6 ⟨Z,Z,trivial⟩ trivial Z)))))))
  ·refine pq 7 Z (zAE (zAA (zAZ Z ?_)))
   exact zAB (zAK (zAA (zAC (pq 1 Z (zAI (T:=tab) Z Z Z Z fun i7 hi7=>pq 1 Z (zAE (zAW i7 ⟨Z,Z,trivial⟩ trivial Z)))))))
 ·exact zAY Z (zAA (sr (pq 1 Z (ns rN))))
def zBl (i2:Int) (b3:Int) (letter4:Bool) (rc1:Int->Option Bool) (other5:Bool):Option Bool:=cnd (!letter4) (cnd (b3 != 95) (cnd (i2==0) (some false) (cnd (!other5) (some false) (bnd (rng .i64 (i2+1)) fun i6=>rc1 i6))) (bnd (rng .i64 (i2+1)) fun i7=>rc1 i7)) (bnd (rng .i64 (i2+1)) fun i8=>rc1 i8)
def zBk (i2:Int) (b3:Int) (rc1:Int->Option Bool) (letter4:Bool):Option Bool:=cnd (decide (b3>=48)) (cnd (decide (b3<=57)) ((zBl i2 b3 letter4 rc1) true) (cnd (b3==45) ((zBl i2 b3 letter4 rc1) true) ((zBl i2 b3 letter4 rc1) (b3==46)))) (cnd (b3==45) ((zBl i2 b3 letter4 rc1) true) ((zBl i2 b3 letter4 rc1) (b3==46)))
def zAj (s1:Bs):Nat->Int->Option Bool
 | 0,_=>none
 | k1+1,i2=>cnd (decide (i2<((s1.length:Nat):Int))) (bnd (chr s1 i2) fun b3=>cnd (decide (b3>=97)) (cnd (decide (b3<=122)) ((zBk i2 b3 (zAj s1 k1)) true) (cnd (decide (b3>=65)) ((zBk i2 b3 (zAj s1 k1)) (decide (b3<=90))) ((zBk i2 b3 (zAj s1 k1)) false))) (cnd (decide (b3>=65)) ((zBk i2 b3 (zAj s1 k1)) (decide (b3<=90))) ((zBk i2 b3 (zAj s1 k1)) false))) (some true)
def zC4 (fu:Nat) (s1:Bs):Option Bool:=cnd (((s1.length:Nat):Int)==0) (some false) (cnd (decide (((s1.length:Nat):Int)>40)) (some false) ((zAj s1) fu 0))
theorem zFf (fu:Nat) (s1:Bs):∀r,zC4 fu s1=some r->DC zAf Tryz.prog 63 [D s1] (O r):=by
 refine fcI Tryz.func63 Z fun w0 X X0 σ0 _=>sr (pq 1 Z (ns (zAD (sr (pq 4 Z (zAF (j:=10) Z ?_ ?_))))))
 ·refine pq 4 Z (zAE (zAA (zAQ Z ?_)))
  exact sr (pq 1 Z (ns rN))
 ·refine pq 4 Z (ns (zAH Z ?_ ?_))
  ·exact sr (pq 1 Z (ns rN))
  ·refine zAB (zAA (zAD (sr (pq 1 Z (ns (zAL (lq (zAj s1) (fun (i2:Int)=>[(0,D s1),(3,Y i2)]) (fun (i2:Int)=>[]) fu 0 ?_)))))))
   rintro k1 i2
   refine zAD (sr (pq 4 Z (ns (zAH Z ?_ ?_))))
   ·refine zAB (zAA (zAD (zAL (sr (pq 2 Z (zBZ (T:=tab) (s:=s1) Z Z Z Z Z Z Z fun b3 hb3=>pq 1 Z (ns (sr (zL5 (zBk i2 b3 (zAj s1 k1)) (fun (letter4:Bool)=>[(0,D s1),(3,Y i2),(4,.v (.int .u8 b3)),(5,O letter4)]) (fun (letter4:Bool)=>[]) ?_ fun hj1=>?_)))))))))
    ·rintro letter4
     refine zAA (sr (zL5 (zBl i2 b3 letter4 (zAj s1 k1)) (fun (other5:Bool)=>[(0,D s1),(3,Y i2),(4,.v (.int .u8 b3)),(5,O letter4),(6,O other5)]) (fun (other5:Bool)=>[]) ?_ fun hj2=>?_))
     ·rintro other5
      refine zAA (sr (pq 3 Z (zAF (j:=54) Z ?_ ?_)))
      ·refine pq 4 Z (zAF (j:=58) Z ?_ ?_)
       ·refine pq 3 Z (zAF (j:=61) Z ?_ ?_)
        ·refine pq 4 Z (zAE (zAA (zAQ Z ?_)))
         exact sr (pq 1 Z (ns rN))
        ·refine pq 4 Z (ns (zAH Z ?_ ?_))
         ·exact sr (pq 1 Z (ns rN))
         ·exact zAB (zAK (zAA (zAC (pq 1 Z (zAI (T:=tab) Z Z Z Z fun i6 hi6=>pq 1 Z (zAE (zAW i6 ⟨Z,Z,trivial⟩ trivial Z)))))))
       ·refine pq 7 Z (zAE (zAA (zAZ Z ?_)))
        exact zAB (zAK (zAA (zAC (pq 1 Z (zAI (T:=tab) Z Z Z Z fun i7 hi7=>pq 1 Z (zAE (zAW i7 ⟨Z,Z,trivial⟩ trivial Z)))))))
      ·refine pq 11 Z (zAE (zAA (zAZ Z ?_)))
       exact zAB (zAK (zAA (zAC (pq 1 Z (zAI (T:=tab) Z Z Z Z fun i8 hi8=>pq 1 Z (zAE (zAW i8 ⟨Z,Z,trivial⟩ trivial Z)))))))
     ·refine pq 3 Z (zAF (j:=40) Z ?_ ?_)
      ·refine pq 4 Z (zAF (j:=44) Z ?_ ?_)
       ·exact pq 8 Z (zAE (ps (hj2 true)))
       ·refine pq 4 Z (zAF (j:=48) Z ?_ ?_)
        ·exact pq 4 Z (zAE (ps (hj2 true)))
        ·exact pq 4 Z (zAE (ps (hj2 (b3==46))))
      ·refine pq 8 Z (zAF (j:=48) Z ?_ ?_)
       ·exact pq 4 Z (zAE (ps (hj2 true)))
       ·exact pq 4 Z (zAE (ps (hj2 (b3==46))))
    ·refine pq 3 Z (zAF (j:=26) Z ?_ ?_)
     ·refine pq 4 Z (zAF (j:=30) Z ?_ ?_)
      ·exact pq 8 Z (zAE (ps (hj1 true)))
      ·refine pq 3 Z (zAF (j:=33) Z ?_ ?_)
       ·exact pq 5 Z (zAE (ps (hj1 (decide (b3<=90)))))
       ·exact pq 5 Z (zAE (ps (hj1 false)))
     ·refine pq 7 Z (zAF (j:=33) Z ?_ ?_)
      ·exact pq 5 Z (zAE (ps (hj1 (decide (b3<=90)))))
      ·exact pq 5 Z (zAE (ps (hj1 false)))
   ·exact zAY Z (zAA (sr (pq 1 Z (ns rN))))
def zBS (s1:Bs):Nat->Bs×Int->Option Bs
 | 0,_=>none
 | k1+1,(out2,i3)=>cnd (decide (i3<((s1.length:Nat):Int))) (bnd (chr s1 i3) fun b4=>cnd (decide (b4>=65)) (bnd (chr s1 i3) fun b5=>cnd (decide (b5<=90)) (bnd (chr s1 i3) fun b6=>bnd (rng .u8 (b6+32)) fun i7=>bnd (cat out2 (zEd [i7])) fun s8=>bnd (rng .i64 (i3+1)) fun i15=>(zBS s1 k1) (s8,i15)) (bnd (rng .i64 (i3+1)) fun i9=>bnd (zC3 s1 i3 i9) fun s10=>bnd (cat out2 s10) fun s11=>bnd (rng .i64 (i3+1)) fun i16=>(zBS s1 k1) (s11,i16))) (bnd (rng .i64 (i3+1)) fun i12=>bnd (zC3 s1 i3 i12) fun s13=>bnd (cat out2 s13) fun s14=>bnd (rng .i64 (i3+1)) fun i17=>(zBS s1 k1) (s14,i17))) (some out2)
def zC5 (fu:Nat) (s1:Bs):Option Bs:=(zBS s1) fu ([],0)
theorem zFg (fu:Nat) (s1:Bs):∀r,zC5 fu s1=some r->DC zAf Tryz.prog 64 [D s1] (D r):=by
 refine fcI Tryz.func64 Z fun w0 X X0 σ0 _=>sr (pq 1 Z (ns (sr (pq 1 Z (ns (zAD (sr (pq 1 Z (ns (zAL (lq (zBS s1) (fun ((out2,i3):Bs×Int)=>[(0,D s1),(3,D out2),(4,Y i3)]) (fun ((out2,i3):Bs×Int)=>[]) fu ([],0) ?_)))))))))))
 rintro k1 ⟨out2,i3⟩
 refine zAD (sr (pq 4 Z (ns (zAH Z ?_ ?_))))
 ·refine zAB (zAA (zAD (zAL (sr (pq 2 Z (zBZ (T:=tab) (s:=s1) Z Z Z Z Z Z Z fun b4 hb4=>pq 2 Z (zAF (j:=15) Z ?_ ?_)))))))
  ·refine pq 2 Z (zBZ (T:=tab) (s:=s1) Z Z Z Z Z Z Z fun b5 hb5=>pq 2 Z (ns (zAH Z ?_ ?_)))
   ·exact zAC (pq 3 Z (zBZ (T:=tab) (s:=s1) Z Z Z Z Z Z Z fun b6 hb6=>zAI (T:=tab) Z Z Z Z fun i7 hi7=>zBu (T:=tab) (rows:=[i7].map zAN) 26 Z Z Z Z Z Z Z Z Z Z Z Z Z Z (zPG (T:=tab) zAN [i7] (fun _=>Z) Z Z Z Z Z Z Z Z Z (zCW Z Z Z Z Z Z fun s8 hs8=>pq 1 Z (zAE (zAK (zAA (zAC (pq 1 Z (zAI (T:=tab) Z Z Z Z fun i15 hi15=>pq 1 Z (zAE (zAW (s8,i15) ⟨Z,Z,Z,trivial⟩ trivial Z))))))))))))
   ·exact zAC (pq 4 Z (zAI (T:=tab) Z Z Z Z fun i9 hi9=>zGE (T:=tab) Z Z Z Z Z Z Z Z fun s10 hs10=>zCW Z Z Z Z Z Z fun s11 hs11=>pq 1 Z (zAE (zAK (zAA (zAC (pq 1 Z (zAI (T:=tab) Z Z Z Z fun i16 hi16=>pq 1 Z (zAE (zAW (s11,i16) ⟨Z,Z,Z,trivial⟩ trivial Z))))))))))
  ·refine pq 5 Z (zAE (zAA (zAZ Z ?_)))
   exact zAC (pq 4 Z (zAI (T:=tab) Z Z Z Z fun i12 hi12=>zGE (T:=tab) Z Z Z Z Z Z Z Z fun s13 hs13=>zCW Z Z Z Z Z Z fun s14 hs14=>pq 1 Z (zAE (zAK (zAA (zAC (pq 1 Z (zAI (T:=tab) Z Z Z Z fun i17 hi17=>pq 1 Z (zAE (zAW (s14,i17) ⟨Z,Z,Z,trivial⟩ trivial Z))))))))))
 ·exact zAY Z (zAA (sr (pq 2 Z (ns rN))))
def zBV (c1:Class):Nat->Int->Option Bool
 | 0,_=>none
 | k2+1,i9=>cnd (decide (i9<((c1.Hooks.length:Nat):Int))) (bnd (idx c1.Hooks i9) fun y10=>cnd (decide (y10.Kind<1)) (some false) (bnd (idx c1.Hooks i9) fun y11=>cnd (decide (y11.Kind>8)) (some false) (bnd (idx c1.Hooks i9) fun y12=>cnd (decide (((y12.Do.length:Nat):Int)>60)) (some false) (bnd (rng .i64 (i9+1)) fun i13=>(zBV c1 k2) i13)))) (some true)
def zBU (fu:Nat) (c1:Class):Nat->Int->Option Bool
 | 0,_=>none
 | k1+1,i2=>cnd (decide (i2<((c1.Watch.length:Nat):Int))) (bnd (idx c1.Watch i2) fun y3=>bnd (zC4 fu y3) fun r4=>cnd (!r4) (some false) (bnd (idx c1.Watch i2) fun y5=>bnd (zC5 fu y5) fun r6=>bnd (idx c1.Watch i2) fun y7=>cnd (!(r6==y7)) (some false) (bnd (rng .i64 (i2+1)) fun i8=>(zBU fu c1 k1) i8))) ((zBV c1) fu 0)
def zDP (fu:Nat) (c1:Class):Option Bool:=cnd (decide (((c1.Watch.length:Nat):Int)>12)) (some false) (cnd (decide (((c1.Hooks.length:Nat):Int)>12)) (some false) (cnd (decide (((c1.Peek.length:Nat):Int)>60)) (some false) (cnd (decide (((c1.Make.length:Nat):Int)>60)) (some false) ((zBU fu c1) fu 0))))
theorem zG7 (fu:Nat) (c1:Class):∀r,zDP fu c1=some r->DC zAf Tryz.prog 25 [.agg (zAM c1)] (O r):=by
 refine fcI Tryz.func25 Z fun w0 X X0 σ0 _=>sr (zDl  1 Z Z Z Z Z Z Z Z Z Z (pq 1 Z (ns (zAD (sr (pq 2 Z (zAm (T:=tab) cStr c1.Watch Z Z Z Z Z Z Z Z (pq 2 Z (zAF (j:=9) Z ?_ ?_)))))))))
 ·refine pq 17 Z (zAE (zAA (zAQ Z ?_)))
  exact sr (pq 1 Z (ns rN))
 ·refine pq 2 Z (zAm (T:=tab) zAP c1.Hooks Z Z Z Z Z Z Z Z (pq 3 Z (zAF (j:=15) Z ?_ ?_)))
  ·refine pq 11 Z (zAE (zAA (zAQ Z ?_)))
   exact sr (pq 1 Z (ns rN))
  ·refine pq 2 Z (zAm (T:=tab) cOp c1.Peek Z Z Z Z Z Z Z Z (pq 3 Z (zAF (j:=21) Z ?_ ?_)))
   ·refine pq 5 Z (zAE (zAA (zAQ Z ?_)))
    exact sr (pq 1 Z (ns rN))
   ·refine pq 2 Z (zAm (T:=tab) cOp c1.Make Z Z Z Z Z Z Z Z (pq 2 Z (ns (zAH Z ?_ ?_))))
    ·exact sr (pq 1 Z (ns rN))
    ·refine zAB (zAA (zAD (sr (pq 1 Z (ns (zAL (lq (zBU fu c1) (fun (i2:Int)=>[(1,.loc 1 0),(3,Y i2)]) (fun (i2:Int)=>[(1,.box 51 [O c1.Form,.sl 1 false (c1.Watch.map cStr),.sl 7 false (c1.Peek.map cOp),.sl 7 false (c1.Make.map cOp),.sl 2 false (c1.Hooks.map zAP)])]) fu 0 ?_)))))))
     rintro k1 i2
     refine zAD (sr (pq 3 Z (zAm (T:=tab) cStr c1.Watch Z Z Z Z Z Z Z Z (pq 1 Z (ns (zAH Z ?_ ?_))))))
     ·refine zAB (zAA (zAD (zAL (zAD (zEK mixed (by kernel_rfl) (zAV (T:=tab) 3 Z Z (zGC (T:=tab) cStr c1.Watch Z Z Z Z Z Z Z fun y3 hy3=>zAV (T:=tab) 1 Z Z (pdc (zFf fu y3) zUa Z Z Z Z fun r4 hr4=>zAV (T:=tab) 2 Z Z (zDf (j:=41) Z ?_ ?_)))))))))
      ·refine zAV (T:=tab) 13 Z Z (zCq (zAA (zAQ Z ?_)))
       exact sr (pq 1 Z (ns rN))
      ·refine zAV (T:=tab) 3 Z Z (zGC (T:=tab) cStr c1.Watch Z Z Z Z Z Z Z fun y5 hy5=>zAV (T:=tab) 1 Z Z (pdc (zFg fu y5) zUb Z Z Z Z fun r6 hr6=>zAV (T:=tab) 3 Z Z (zGC (T:=tab) cStr c1.Watch Z Z Z Z Z Z Z fun y7 hy7=>zAV (T:=tab) 3 Z Z (zCq (zAA (zAH Z ?_ ?_))))))
       ·exact sr (pq 1 Z (ns rN))
       ·exact zAB (zAK (zAA (zAC (pq 1 Z (zAI (T:=tab) Z Z Z Z fun i8 hi8=>pq 1 Z (zAE (zAW i8 ⟨Z,Z,trivial⟩ ⟨Z,trivial⟩ Z)))))))
     ·refine zAY Z (zAA (zAD (sr (pq 1 Z (ns (zAL (lq (zBV c1) (fun (i9:Int)=>[(1,.loc 1 0),(4,Y i9)]) (fun (i9:Int)=>[(1,.box 51 [O c1.Form,.sl 1 false (c1.Watch.map cStr),.sl 7 false (c1.Peek.map cOp),.sl 7 false (c1.Make.map cOp),.sl 2 false (c1.Hooks.map zAP)])]) fu 0 ?_)))))))
      rintro k2 i9
      refine zAD (sr (pq 3 Z (zAm (T:=tab) zAP c1.Hooks Z Z Z Z Z Z Z Z (pq 1 Z (ns (zAH Z ?_ ?_))))))
      ·refine zAB (zAA (zAD (zAL (sr (pq 3 Z (zCN (T:=tab) zAP c1.Hooks Z Z Z Z Z Z Z fun y10 hy10=>pq 4 Z (zAF (j:=69) Z ?_ ?_)))))))
       ·refine pq 18 Z (zAE (zAA (zAQ Z ?_)))
        exact sr (pq 1 Z (ns rN))
       ·refine pq 3 Z (zCN (T:=tab) zAP c1.Hooks Z Z Z Z Z Z Z fun y11 hy11=>pq 5 Z (zAF (j:=78) Z ?_ ?_))
        ·refine pq 9 Z (zAE (zAA (zAQ Z ?_)))
         exact sr (pq 1 Z (ns rN))
        ·refine pq 3 Z (zCN (T:=tab) zAP c1.Hooks Z Z Z Z Z Z Z fun y12 hy12=>pq 2 Z (zAm (T:=tab) cOp y12.Do Z Z Z Z Z Z Z Z (pq 2 Z (ns (zAH Z ?_ ?_)))))
         ·exact sr (pq 1 Z (ns rN))
         ·exact zAB (zAK (zAA (zAC (pq 1 Z (zAI (T:=tab) Z Z Z Z fun i13 hi13=>pq 1 Z (zAE (zAW i13 ⟨Z,Z,trivial⟩ ⟨Z,trivial⟩ Z)))))))
      ·exact zAY Z (zAA (sr (pq 1 Z (ns rN))))
def zBy (fu:Nat) (i3:Int) (y4:Class) (rc1:Int->Option Bool):Nat->Int->Option Bool
 | 0,_=>none
 | k2+1,k8=>cnd (decide (k8<((y4.Hooks.length:Nat):Int))) (bnd (idx y4.Hooks k8) fun y9=>bnd (zCR fu y9.Do) fun r10=>cnd (!r10) (some false) (bnd (rng .i64 (k8+1)) fun i11=>(zBy fu i3 y4 rc1 k2) i11)) (bnd (rng .i64 (i3+1)) fun i12=>rc1 i12)
def zAq (fu:Nat) (s1:Script):Nat->Int->Option Bool
 | 0,_=>none
 | k1+1,i3=>cnd (decide (i3<((s1.Classes.length:Nat):Int))) (bnd (idx s1.Classes i3) fun y4=>bnd (zDP fu y4) fun r5=>cnd (!r5) (some false) (bnd (zCR fu y4.Peek) fun r6=>cnd (!r6) (some false) (bnd (zCR fu y4.Make) fun r7=>cnd (!r7) (some false) ((zBy fu i3 y4 (zAq fu s1 k1)) fu 0)))) (some true)
def zDR (fu:Nat) (s1:Script):Option Bool:=cnd (decide (((s1.Classes.length:Nat):Int)>12)) (some false) (cnd (decide (((s1.Main.length:Nat):Int)>300)) (some false) (bnd (zCR fu s1.Main) fun r2=>cnd (!r2) (some false) ((zAq fu s1) fu 0)))
theorem zG9 (fu:Nat) (s1:Script):∀r,zDR fu s1=some r->DC zAf Tryz.prog 11 [.agg (zE0 s1)] (O r):=by
 refine fcI Tryz.func11 Z fun w0 X X0 σ0 _=>sr (zDl  1 Z Z Z Z Z Z Z Z Z Z (pq 1 Z (ns (zAD (sr (pq 2 Z (zAm (T:=tab) zAM s1.Classes Z Z Z Z Z Z Z Z (pq 2 Z (zAF (j:=10) Z ?_ ?_)))))))))
 ·refine pq 11 Z (zAE (zAA (zAQ Z ?_)))
  exact sr (pq 1 Z (ns rN))
 ·refine pq 2 Z (zAm (T:=tab) cOp s1.Main Z Z Z Z Z Z Z Z (pq 3 Z (zAF (j:=16) Z ?_ ?_)))
  ·refine pq 5 Z (zAE (zAA (zAQ Z ?_)))
   exact sr (pq 1 Z (ns rN))
  ·refine pq 2 Z (pc (zDy fu s1.Main) zOc Z Z Z Z fun r2 hr2=>pq 2 Z (ns (zAH Z ?_ ?_)))
   ·exact sr (pq 1 Z (ns rN))
   ·refine zAB (zAA (zAD (sr (pq 1 Z (ns (zAL (lq (zAq fu s1) (fun (i3:Int)=>[(1,.loc 1 0),(3,Y i3)]) (fun (i3:Int)=>[(1,.box 25 [.sl 5 false (s1.Classes.map zAM),.sl 7 false (s1.Main.map cOp)])]) fu 0 ?_)))))))
    rintro k1 i3
    refine zAD (sr (pq 3 Z (zAm (T:=tab) zAM s1.Classes Z Z Z Z Z Z Z Z (pq 1 Z (ns (zAH Z ?_ ?_))))))
    ·refine zAB (zAA (zAD (zAL (sr (pq 3 Z (zCN (T:=tab) zAM s1.Classes Z Z Z Z Z Z Z fun y4 hy4=>pq 1 Z (zAs (T:=tab) 4 Z Z Z Z Z Z Z Z Z (zAG (T:=tab) Z Z Z Z Z Z Z Z Z Z Z Z (ns (zAD (sr (pq 1 Z (pc (zG7 fu y4) call25 Z Z Z Z fun r5 hr5=>pq 2 Z (zAF (j:=37) Z ?_ ?_))))))))))))))
     ·refine pq 11 Z (zAE (zAA (zAQ Z ?_)))
      exact sr (pq 1 Z (ns rN))
     ·refine pq 2 Z (pc (zDy fu y4.Peek) zOc Z Z Z Z fun r6 hr6=>pq 3 Z (zAF (j:=43) Z ?_ ?_))
      ·refine pq 5 Z (zAE (zAA (zAQ Z ?_)))
       exact sr (pq 1 Z (ns rN))
      ·refine pq 2 Z (pc (zDy fu y4.Make) zOc Z Z Z Z fun r7 hr7=>pq 2 Z (ns (zAH Z ?_ ?_)))
       ·exact sr (pq 1 Z (ns rN))
       ·refine zAB (zAA (sr (pq 1 Z (ns (zAL (lq (zBy fu i3 y4 (zAq fu s1 k1)) (fun (k8:Int)=>[(1,.loc 1 0),(3,Y i3),(4,.loc 4 0),(5,Y k8)]) (fun (k8:Int)=>[(4,.box 51 [O y4.Form,.sl 1 false (y4.Watch.map cStr),.sl 7 false (y4.Peek.map cOp),.sl 7 false (y4.Make.map cOp),.sl 2 false (y4.Hooks.map zAP)]),(1,.box 25 [.sl 5 false (s1.Classes.map zAM),.sl 7 false (s1.Main.map cOp)])]) fu 0 ?_))))))
        rintro k2 k8
        refine zAD (sr (pq 3 Z (zAm (T:=tab) zAP y4.Hooks Z Z Z Z Z Z Z Z (pq 1 Z (ns (zAH Z ?_ ?_))))))
        ·refine zAB (zAA (zAD (zAL (sr (pq 3 Z (zCN (T:=tab) zAP y4.Hooks Z Z Z Z Z Z Z fun y9 hy9=>pq 2 Z (pc (zDy fu y9.Do) zOc Z Z Z Z fun r10 hr10=>pq 1 Z (ns (zAH Z ?_ ?_)))))))))
         ·exact sr (pq 1 Z (ns rN))
         ·exact zAB (zAK (zAA (zAC (pq 1 Z (zAI (T:=tab) Z Z Z Z fun i11 hi11=>pq 1 Z (zAE (zAW i11 ⟨Z,Z,Z,Z,trivial⟩ ⟨Z,Z,trivial⟩ Z)))))))
        ·exact zAY Z (zAK (zAA (zAC (pq 1 Z (zAI (T:=tab) Z Z Z Z fun i12 hi12=>pq 1 Z (zAE (zAW i12 ⟨Z,Z,trivial⟩ ⟨Z,trivial⟩ Z)))))))
    ·exact zAY Z (zAA (sr (pq 1 Z (ns rN))))
def zDr (kind1:Int):Nat->Int×Int×Int->Option Bs
 | 0,_=>none
 | k1+1,(at2,k3,i4)=>cnd (decide (i4<163)) (bnd (chr [110,101,119,32,100,114,97,102,116,32,116,101,120,116,32,102,114,97,103,32,115,104,97,100,101,32,112,117,116,32,111,117,116,32,115,119,97,112,32,115,101,116,32,117,110,115,101,116,32,116,111,103,103,108,101,32,99,111,112,121,32,116,97,107,101,32,101,109,112,116,121,32,106,111,105,110,32,100,101,102,105,110,101,32,119,97,105,116,32,117,112,103,114,97,100,101,32,98,117,105,108,100,32,115,117,112,101,114,32,103,105,118,101,32,116,104,114,111,119,32,114,101,115,101,116,32,114,101,115,116,111,114,101,32,114,101,115,116,32,104,97,110,100,112,117,116,32,104,97,110,100,111,117,116,32,104,97,110,100,115,101,116,32] i4) fun b5=>cnd (b5==32) (cnd (k3==kind1) (bnd (zC3 ([110,101,119,32,100,114,97,102,116,32,116,101,120,116,32,102,114,97,103,32,115,104,97,100,101,32,112,117,116,32,111,117,116,32,115,119,97,112,32,115,101,116,32,117,110,115,101,116,32,116,111,103,103,108,101,32,99,111,112,121,32,116,97,107,101,32,101,109,112,116,121,32,106,111,105,110,32,100,101,102,105,110,101,32,119,97,105,116,32,117,112,103,114,97,100,101,32,98,117,105,108,100,32,115,117,112,101,114,32,103,105,118,101,32,116,104,114,111,119,32,114,101,115,101,116,32,114,101,115,116,111,114,101,32,114,101,115,116,32,104,97,110,100,112,117,116,32,104,97,110,100,111,117,116,32,104,97,110,100,115,101,116,32]:Bs) at2 i4) fun s6=>some s6) (bnd (rng .i64 (i4+1)) fun i7=>bnd (rng .i64 (k3+1)) fun i8=>bnd (rng .i64 (i4+1)) fun i9=>(zDr kind1 k1) (i7,i8,i9))) (bnd (rng .i64 (i4+1)) fun i10=>(zDr kind1 k1) (at2,k3,i10))) (some [])
def zDN (fu:Nat) (kind1:Int):Option Bs:=(zDr kind1) fu (0,1,0)
theorem zF0 (fu:Nat) (kind1:Int):∀r,zDN fu kind1=some r->DC zAf Tryz.prog 79 [Y kind1] (D r):=by
 refine fcI Tryz.func79 Z fun w0 X X0 σ0 _=>sr (pq 1 Z (ns (sr (pq 1 Z (ns (sr (pq 1 Z (ns (zAD (sr (pq 1 Z (ns (zAL (lq (zDr kind1) (fun ((at2,k3,i4):Int×Int×Int)=>[(0,Y kind1),(3,Y at2),(4,Y k3),(5,Y i4)]) (fun ((at2,k3,i4):Int×Int×Int)=>[]) fu (0,1,0) ?_))))))))))))))
 rintro k1 ⟨at2,k3,i4⟩
 refine zAD (sr (pq 2 Z (ns (zAH Z ?_ ?_))))
 ·refine zAB (zAA (zAD (zAL (sr (pq 1 Z (zBZ (T:=tab) (s:=[110,101,119,32,100,114,97,102,116,32,116,101,120,116,32,102,114,97,103,32,115,104,97,100,101,32,112,117,116,32,111,117,116,32,115,119,97,112,32,115,101,116,32,117,110,115,101,116,32,116,111,103,103,108,101,32,99,111,112,121,32,116,97,107,101,32,101,109,112,116,121,32,106,111,105,110,32,100,101,102,105,110,101,32,119,97,105,116,32,117,112,103,114,97,100,101,32,98,117,105,108,100,32,115,117,112,101,114,32,103,105,118,101,32,116,104,114,111,119,32,114,101,115,101,116,32,114,101,115,116,111,114,101,32,114,101,115,116,32,104,97,110,100,112,117,116,32,104,97,110,100,111,117,116,32,104,97,110,100,115,101,116,32]) Z Z Z Z Z Z Z fun b5 hb5=>pq 1 Z (ns (zAH Z ?_ ?_))))))))
  ·refine zAD (sr (pq 3 Z (ns (zAH Z ?_ ?_))))
   ·exact sr (pq 2 Z (zGE (T:=tab) Z Z Z Z Z Z Z Z fun s6 hs6=>pq 1 Z (ns rN)))
   ·exact zAB (zAA (sr (pq 1 Z (zAI (T:=tab) Z Z Z Z fun i7 hi7=>pq 1 Z (ns (zAC (pq 1 Z (zAI (T:=tab) Z Z Z Z fun i8 hi8=>pq 1 Z (zAE (zAK (zAA (zAC (pq 1 Z (zAI (T:=tab) Z Z Z Z fun i9 hi9=>pq 1 Z (zAE (zAW (i7,i8,i9) ⟨Z,Z,Z,Z,trivial⟩ trivial Z))))))))))))))))
  ·exact zAB (zAK (zAA (zAC (pq 1 Z (zAI (T:=tab) Z Z Z Z fun i10 hi10=>pq 1 Z (zAE (zAW (at2,k3,i10) ⟨Z,Z,Z,Z,trivial⟩ trivial Z)))))))
 ·exact zAY Z (zAA (sr (pq 1 Z (ns rN))))
def zAu:Nat->Int->Option Bs
 | 0,_=>none
 | fu+1,n1=>cnd (decide (n1<0)) (bnd (rng .i64 (0 - n1)) fun i2=>bnd ((zAu fu) i2) fun r3=>bnd (cat ([45]:Bs) r3) fun s4=>some s4) (cnd (decide (n1<10)) (bnd (rng .u8 n1) fun i5=>bnd (rng .u8 (48+i5)) fun i6=>some (zEd [i6])) (bnd (quoW .i64 n1 10) fun q7=>bnd ((zAu fu) q7) fun r8=>bnd (remI n1 10) fun m9=>bnd (rng .u8 m9) fun i10=>bnd (rng .u8 (48+i10)) fun i11=>bnd (cat r8 (zEd [i11])) fun s12=>some s12))
theorem zD4:∀(fu:Nat) (n1:Int) r,zAu fu n1=some r->DC zAf Tryz.prog 124 [Y n1] (D r)
 | 0,_,_,h=>by cases h
 | fu+1,n1,r,hr=>by
  have ih:=zD4 fu
  refine zJi (r:=r)  (args:=[Y n1]) (S:=[]) (N0:=[]) (post:=fun r p S=>p=D r/\S=[]) Tryz.func124 Z Z hr fun w0 X X0 σ0 _=>sr (pq 1 Z (ns (zAD (sr (pq 2 Z (ns (zAH Z ?_ ?_)))))))
  ·exact sr (pq 1 Z (zAI (T:=tab) Z Z Z Z fun i2 hi2=>pc (ih i2) zLh Z Z Z Z fun r3 hr3=>zCW Z Z Z Z Z Z fun s4 hs4=>pq 1 Z (ns rN)))
  ·refine zAB (zAA (zAD (sr (pq 2 Z (ns (zAH Z ?_ ?_))))))
   ·exact sr (pq 1 Z (zAI (T:=tab) Z Z Z Z fun i5 hi5=>zAI (T:=tab) Z Z Z Z fun i6 hi6=>zBu (T:=tab) (rows:=[i6].map zAN) 14 Z Z Z Z Z Z Z Z Z Z Z Z Z Z (zPG (T:=tab) zAN [i6] (fun _=>Z) Z Z Z Z Z Z Z Z Z (pq 1 Z (ns rN)))))
   ·refine zAB (zAA (zAD (su [(0,Y n1)] [] (zBB [0,1,3,0,8,24,56,120,248,511,1023] mixed (by kernel_rfl) (by kernel_rfl) Z Z (ve [0] [32] [] [(16,Y n1)] ?_)))))
    refine vt (quoW .i64 n1 10) [(34,[])] [32] [34] [] [] [] (fun q7=>[(17,Y q7)]) (fun q7=>[]) Z Z (fun _=>Z) (fun w0 X X0 σ0 _=>by refine po_quo Z Z Z Z Z Z fun q7 hq7=>?_;exact pz) fun q7 hq7=>?_
    refine vt ((zAu fu) q7) [(36,[])] [34] [36] [] [] [] (fun r8=>[(18,D r8)]) (fun r8=>[]) Z Z (fun _=>Z) (fun w0 X X0 σ0 _=>by refine pc (ih q7) zLh Z Z Z Z fun r8 hr8=>?_;exact pz) fun r8 hr8=>?_
    refine ve [0] [38] [] [(19,Y n1)] ?_
    refine vt (remI n1 10) [(40,[])] [38] [40] [] [] [] (fun m9=>[(20,Y m9)]) (fun m9=>[]) Z Z (fun _=>Z) (fun w0 X X0 σ0 _=>by refine po_rem Z Z Z Z Z Z fun m9 hm9=>?_;exact pz) fun m9 hm9=>?_
    refine vt (rng .u8 m9) [(42,[])] [40] [42] [] [] [] (fun i10=>[(21,.v (.int .u8 i10))]) (fun i10=>[]) Z Z (fun _=>Z) (fun w0 X X0 σ0 _=>by refine zAI (T:=tab) Z Z Z Z fun i10 hi10=>?_;exact pz) fun i10 hi10=>?_
    refine vt (rng .u8 (48+i10)) [(44,[])] [42] [44] [] [] [] (fun i11=>[(22,.v (.int .u8 i11))]) (fun i11=>[]) Z Z (fun _=>Z) (fun w0 X X0 σ0 _=>by refine zAI (T:=tab) Z Z Z Z fun i11 hi11=>?_;exact pz) fun i11 hi11=>?_
    refine vs [44] [46,47] [23] [] [] [(23,.own 23)] [(23,.arr 5 1 ([i11].map zAN))] Z Z (fun w0 X X0 σ0 _=>by refine zBu (T:=tab) (rows:=[i11].map zAN) 23 Z Z Z Z Z Z Z Z Z Z Z Z Z Z ?_;exact py) ?_
    refine vs [46,47] [48] [] [23] [23] [(24,D (zEd [i11]))] [(23,.arr 5 1 ([i11].map zAN))] Z Z (fun w0 X X0 σ0 _=>by refine zPG (T:=tab) zAN [i11] (fun _=>Z) Z Z Z Z Z Z Z Z Z ?_;exact py) ?_
    refine vt (cat r8 (zEd [i11])) [(50,[])] [36,48] [50] [] [] [] (fun s12=>[(25,D s12)]) (fun s12=>[]) Z Z (fun _=>Z) (fun w0 X X0 σ0 _=>by refine zCW Z Z Z Z Z Z fun s12 hs12=>?_;exact pz) fun s12 hs12=>?_
    refine ve [50] [4] [] [(2,D s12)] ?_
    exact zBf Z Z (zAA rN)
def zCy (fu:Nat) (f1:Int) (n2:Int):Option Bs:=cnd (f1==45) (some []) (cnd (f1==105) (bnd (zAu fu n2) fun r3=>bnd (cat ([32]:Bs) r3) fun s4=>some s4) (cnd (decide (n2>=0)) (bnd (zAu fu n2) fun r5=>bnd (cat ([32]:Bs) r5) fun s6=>some s6) (cnd (n2==(-1)) (some [32,45]) (cnd (n2==(-2)) (some [32,115,101,108,102]) (some [32,108,97,115,116])))))
theorem zEu (fu:Nat) (f1:Int) (n2:Int):∀r,zCy fu f1 n2=some r->DC zAf Tryz.prog 104 [.v (.int .u8 f1),Y n2] (D r):=by
 refine fcI Tryz.func104 Z fun w0 X X0 σ0 _=>sr (pq 1 Z (ns (zAD (sr (pq 2 Z (ns (zAH Z ?_ ?_)))))))
 ·exact sr (pq 1 Z (ns rN))
 ·refine zAB (zAA (zAD (sr (pq 3 Z (zAF (j:=9) Z ?_ ?_)))))
  ·refine pq 3 Z (zAE (zAA (zAQ Z ?_)))
   exact sr (pq 1 Z (pc (zD4 fu n2) zLh Z Z Z Z fun r3 hr3=>zCW Z Z Z Z Z Z fun s4 hs4=>pq 1 Z (ns rN)))
  ·refine pq 3 Z (ns (zAH Z ?_ ?_))
   ·exact sr (pq 1 Z (pc (zD4 fu n2) zLh Z Z Z Z fun r5 hr5=>zCW Z Z Z Z Z Z fun s6 hs6=>pq 1 Z (ns rN)))
   ·refine zAB (zAA (zAD (sr (pq 2 Z (ns (zAH Z ?_ ?_))))))
    ·exact sr (pq 1 Z (ns rN))
    ·refine zAB (zAA (zAD (sr (pq 2 Z (ns (zAH Z ?_ ?_))))))
     ·exact sr (pq 1 Z (ns rN))
     ·exact zAB (zAA (sr (pq 1 Z (ns rN))))
def zCF (s1:Bs) (i3:Int) (rc1:(Bs×Int)->Option Bs) (out8:Bs):Option Bs:=bnd (rng .i64 (i3+1)) fun i9=>bnd (zC3 s1 i3 i9) fun s10=>bnd (cat out8 s10) fun s11=>bnd (rng .i64 (i3+1)) fun i12=>rc1 (s11,i12)
def zAt (s1:Bs):Nat->Bs×Int->Option Bs
 | 0,_=>none
 | k1+1,(out2,i3)=>cnd (decide (i3<((s1.length:Nat):Int))) (bnd (chr s1 i3) fun b4=>cnd (b4==34) (bnd (cat out2 ([92]:Bs)) fun s6=>(zCF s1 i3 (zAt s1 k1)) s6) (bnd (chr s1 i3) fun b5=>cnd (b5==92) (bnd (cat out2 ([92]:Bs)) fun s7=>(zCF s1 i3 (zAt s1 k1)) s7) ((zCF s1 i3 (zAt s1 k1)) out2))) (bnd (cat out2 ([34]:Bs)) fun s13=>some s13)
def zC6 (fu:Nat) (s1:Bs):Option Bs:=(zAt s1) fu ([34],0)
theorem zFh (fu:Nat) (s1:Bs):∀r,zC6 fu s1=some r->DC zAf Tryz.prog 105 [D s1] (D r):=by
 refine fcI Tryz.func105 Z fun w0 X X0 σ0 _=>sr (pq 1 Z (ns (sr (pq 1 Z (ns (zAD (sr (pq 1 Z (ns (zAL (lq (zAt s1) (fun ((out2,i3):Bs×Int)=>[(0,D s1),(3,D out2),(4,Y i3)]) (fun ((out2,i3):Bs×Int)=>[]) fu ([34],0) ?_)))))))))))
 rintro k1 ⟨out2,i3⟩
 refine zAD (sr (pq 4 Z (ns (zAH Z ?_ ?_))))
 ·refine zAB (zAA (zAD (zAL (zAD (sr (zD2 (zCF s1 i3 (zAt s1 k1)) (fun (out8:Bs)=>[(0,D s1),(3,D out8),(4,Y i3)]) (fun (out8:Bs)=>[]) ?_ fun hj1=>?_))))))
  ·rintro out8
   exact zAA (zAC (pq 4 Z (zAI (T:=tab) Z Z Z Z fun i9 hi9=>zGE (T:=tab) Z Z Z Z Z Z Z Z fun s10 hs10=>zCW Z Z Z Z Z Z fun s11 hs11=>pq 1 Z (zAE (zAK (zAA (zAC (pq 1 Z (zAI (T:=tab) Z Z Z Z fun i12 hi12=>pq 1 Z (zAE (zAW (s11,i12) ⟨Z,Z,Z,trivial⟩ trivial Z)))))))))))
  ·refine pq 2 Z (zBZ (T:=tab) (s:=s1) Z Z Z Z Z Z Z fun b4 hb4=>pq 2 Z (zAF (j:=15) Z ?_ ?_))
   ·refine pq 5 Z (zAE (zAA (zAQ Z ?_)))
    exact zAC (pq 1 Z (zCW Z Z Z Z Z Z fun s6 hs6=>pq 1 Z (zAE (ps (hj1 s6)))))
   ·refine pq 2 Z (zBZ (T:=tab) (s:=s1) Z Z Z Z Z Z Z fun b5 hb5=>pq 2 Z (ns (zAH Z ?_ ?_)))
    ·exact zAC (pq 1 Z (zCW Z Z Z Z Z Z fun s7 hs7=>pq 1 Z (zAE (ps (hj1 s7)))))
    ·exact zAB (ps (hj1 out2))
 ·exact zAY Z (zAA (sr (pq 1 Z (zCW Z Z Z Z Z Z fun s13 hs13=>pq 1 Z (ns rN)))))
def zDM (fu:Nat) (o1:Op) (r2:Bs) (s19:Bs):Option Bs:=bnd (chr r2 4) fun b20=>cnd (b20==116) (bnd (zC6 fu o1.T) fun r21=>bnd (cat ([32]:Bs) r21) fun s22=>bnd (cat s19 s22) fun s23=>some s23) (some s19)
def zDL (fu:Nat) (o1:Op) (r2:Bs) (s14:Bs):Option Bs:=bnd (chr r2 3) fun b15=>cnd (b15==116) (bnd (zC6 fu o1.S) fun r16=>bnd (cat ([32]:Bs) r16) fun s17=>bnd (cat s14 s17) fun s18=>(zDM fu o1 r2) s18) ((zDM fu o1 r2) s14)
def zEN (fu:Nat) (o1:Op):Option Bs:=bnd (zCH fu o1.Kind) fun r2=>bnd (zDN fu o1.Kind) fun r3=>bnd (chr r2 0) fun b4=>bnd (zCy fu b4 o1.A) fun r5=>bnd (cat r3 r5) fun s6=>bnd (chr r2 1) fun b7=>bnd (zCy fu b7 o1.B) fun r8=>bnd (cat s6 r8) fun s9=>bnd (chr r2 2) fun b10=>bnd (zCy fu b10 o1.C) fun r11=>bnd (cat s9 r11) fun s12=>cnd o1.Must (bnd (cat ([33]:Bs) s12) fun s13=>(zDL fu o1 r2) s13) ((zDL fu o1 r2) s12)
theorem zIQ (fu:Nat) (o1:Op):∀r,zEN fu o1=some r->DC zAf Tryz.prog 72 [.agg (cOp o1)] (D r):=by
 refine fcI Tryz.func72 Z fun w0 X X0 σ0 _=>sr (zDl  1 Z Z Z Z Z Z Z Z Z Z (pq 1 Z (ns (sr (pq 2 Z (pc (zD3 fu o1.Kind) zQr Z Z Z Z fun r2 hr2=>pq 1 Z (ns (zAD (zEK mixed (by kernel_rfl) (zAV (T:=tab) 2 Z Z (pdc (zF0 fu o1.Kind) zUe Z Z Z Z fun r3 hr3=>zAV (T:=tab) 1 Z Z (zGo (T:=tab) (s:=r2) Z Z Z Z Z Z Z fun b4 hb4=>zAV (T:=tab) 2 Z Z (pdc (zEu fu b4 o1.A) zNg Z Z Z Z fun r5 hr5=>zKZ Z Z Z Z Z Z fun s6 hs6=>zAV (T:=tab) 1 Z Z (zGo (T:=tab) (s:=r2) Z Z Z Z Z Z Z fun b7 hb7=>zAV (T:=tab) 2 Z Z (pdc (zEu fu b7 o1.B) zNg Z Z Z Z fun r8 hr8=>zKZ Z Z Z Z Z Z fun s9 hs9=>zAV (T:=tab) 1 Z Z (zGo (T:=tab) (s:=r2) Z Z Z Z Z Z Z fun b10 hb10=>zAV (T:=tab) 2 Z Z (pdc (zEu fu b10 o1.C) zNg Z Z Z Z fun r11 hr11=>zKZ Z Z Z Z Z Z fun s12 hs12=>zAV (T:=tab) 1 Z Z (zCq (zAA (zAD (sr (pq 2 Z (ns (zBi (zDL fu o1 r2) (fun (s14:Bs)=>[(1,.loc 1 0),(3,D r2),(4,D s14)]) (fun (s14:Bs)=>[(1,.box 43 [Y o1.Kind,Y o1.A,Y o1.B,Y o1.C,D o1.S,D o1.T,O o1.Must])]) ?_ fun hj1=>?_))))))))))))))))))))))))
 ·rintro s14
  refine zAA (zAD (sr (pq 1 Z (zBZ (T:=tab) (s:=r2) Z Z Z Z Z Z Z fun b15 hb15=>pq 1 Z (ns (zBi (zDM fu o1 r2) (fun (s19:Bs)=>[(1,.loc 1 0),(3,D r2),(4,D s19)]) (fun (s19:Bs)=>[(1,.box 43 [Y o1.Kind,Y o1.A,Y o1.B,Y o1.C,D o1.S,D o1.T,O o1.Must])]) ?_ fun hj2=>?_))))))
  ·rintro s19
   refine zAA (zAD (sr (pq 1 Z (zBZ (T:=tab) (s:=r2) Z Z Z Z Z Z Z fun b20 hb20=>pq 1 Z (ns (zAH Z ?_ ?_))))))
   ·exact zAC (pq 3 Z (pc (zFh fu o1.T) zQg Z Z Z Z fun r21 hr21=>zCW Z Z Z Z Z Z fun s22 hs22=>zCW Z Z Z Z Z Z fun s23 hs23=>pq 1 Z (ns (sr (pq 2 Z (ns rN))))))
   ·exact zAB (zAA (sr (pq 2 Z (ns rN))))
  ·refine zAH Z ?_ ?_
   ·exact zAC (pq 3 Z (pc (zFh fu o1.S) zQg Z Z Z Z fun r16 hr16=>zCW Z Z Z Z Z Z fun s17 hs17=>zCW Z Z Z Z Z Z fun s18 hs18=>pq 1 Z (zAE (ps (hj2 s18)))))
   ·exact zAB (ps (hj2 s14))
 ·refine zAH Z ?_ ?_
  ·exact zAC (pq 1 Z (zCW Z Z Z Z Z Z fun s13 hs13=>pq 1 Z (zAE (ps (hj1 s13)))))
  ·exact zAB (ps (hj1 s12))
def zBo (fu:Nat) (l1:(List Op)):Nat->Bs×Int->Option Bs
 | 0,_=>none
 | k1+1,(out2,i3)=>cnd (decide (i3<((l1.length:Nat):Int))) (bnd (idx l1 i3) fun y4=>cnd (eqOp y4 (⟨0,0,0,0,[],[],false⟩:Op)) (bnd (cat out2 ([63,10]:Bs)) fun s5=>bnd (rng .i64 (i3+1)) fun i10=>(zBo fu l1 k1) (s5,i10)) (bnd (idx l1 i3) fun y6=>bnd (zEN fu y6) fun r7=>bnd (cat r7 ([10]:Bs)) fun s8=>bnd (cat out2 s8) fun s9=>bnd (rng .i64 (i3+1)) fun i11=>(zBo fu l1 k1) (s9,i11))) (some out2)
def zB5 (fu:Nat) (l1:(List Op)):Option Bs:=(zBo fu l1) fu ([],0)
theorem zDd (fu:Nat) (l1:(List Op)):∀r,zB5 fu l1=some r->DC zAf Tryz.prog 36 [.sl 7 false (l1.map cOp)] (D r):=by
 refine fcI Tryz.func36 Z fun w0 X X0 σ0 _=>sr (pq 1 Z (ns (sr (pq 1 Z (ns (zAD (sr (pq 1 Z (ns (zAL (lq (zBo fu l1) (fun ((out2,i3):Bs×Int)=>[(0,.sl 7 false (l1.map cOp)),(3,D out2),(4,Y i3)]) (fun ((out2,i3):Bs×Int)=>[]) fu ([],0) ?_)))))))))))
 rintro k1 ⟨out2,i3⟩
 refine zAD (sr (pq 2 Z (zAm (T:=tab) cOp l1 Z Z Z Z Z Z Z Z (pq 1 Z (ns (zAH Z ?_ ?_))))))
 ·refine zAB (zAA (zAD (zAL (sr (pq 2 Z (zCN (T:=tab) cOp l1 Z Z Z Z Z Z Z fun y4 hy4=>pq 1 Z (zA4 (T:=tab) Z Z Z Z Z Z Z (po_eq zMi Z Z Z Z Z Z Z (ns (zAH Z ?_ ?_))))))))))
  ·exact zAC (pq 1 Z (zCW Z Z Z Z Z Z fun s5 hs5=>pq 1 Z (zAE (zAK (zAA (zAC (pq 1 Z (zAI (T:=tab) Z Z Z Z fun i10 hi10=>pq 1 Z (zAE (zAW (s5,i10) ⟨Z,Z,Z,trivial⟩ trivial Z))))))))))
  ·exact zAC (pq 3 Z (zCN (T:=tab) cOp l1 Z Z Z Z Z Z Z fun y6 hy6=>pq 1 Z (pc (zIQ fu y6) call72 Z Z Z Z fun r7 hr7=>zCW Z Z Z Z Z Z fun s8 hs8=>zCW Z Z Z Z Z Z fun s9 hs9=>pq 1 Z (zAE (zAK (zAA (zAC (pq 1 Z (zAI (T:=tab) Z Z Z Z fun i11 hi11=>pq 1 Z (zAE (zAW (s9,i11) ⟨Z,Z,Z,trivial⟩ trivial Z)))))))))))
 ·exact zAY Z (zAA (sr (pq 2 Z (ns rN))))
def zCk (_fu:Nat) (kind1:Int):Option Bs:=cnd (kind1==1) (some [99,97,109,101]) (cnd (kind1==2) (some [119,101,110,116]) (cnd (kind1==3) (some [109,111,118,101,100]) (cnd (kind1==4) (some [99,104,97,110,103,101,100]) (cnd (kind1==5) (some [111,119,110,101,100]) (cnd (kind1==6) (some [98,97,114,114,101,100]) (cnd (kind1==7) (some [99,108,101,97,114,101,100]) (some [114,101,115,116,111,114,101,100])))))))
theorem zF2 (fu:Nat) (kind1:Int):∀r,zCk fu kind1=some r->DC zAf Tryz.prog 37 [Y kind1] (D r):=by
 refine fcI Tryz.func37 Z fun w0 X X0 σ0 _=>sr (pq 1 Z (ns (zAD (sr (pq 1 Z (ns (zAL (sr (pq 2 Z (ns (zAH Z ?_ ?_)))))))))))
 ·exact sr (pq 1 Z (ns rN))
 ·refine sr (pq 2 Z (ns (zAH Z ?_ ?_)))
  ·exact sr (pq 1 Z (ns rN))
  ·refine sr (pq 2 Z (ns (zAH Z ?_ ?_)))
   ·exact sr (pq 1 Z (ns rN))
   ·refine sr (pq 2 Z (ns (zAH Z ?_ ?_)))
    ·exact sr (pq 1 Z (ns rN))
    ·refine sr (pq 2 Z (ns (zAH Z ?_ ?_)))
     ·exact sr (pq 1 Z (ns rN))
     ·refine sr (pq 2 Z (ns (zAH Z ?_ ?_)))
      ·exact sr (pq 1 Z (ns rN))
      ·refine sr (pq 2 Z (ns (zAH Z ?_ ?_)))
       ·exact sr (pq 1 Z (ns rN))
       ·exact zAB (zAK (zAA (sr (pq 1 Z (ns rN)))))
def zCj (fu:Nat) (i3:Int) (y4:Class) (rc1:(Bs×Int)->Option Bs):Nat->Bs×Int->Option Bs
 | 0,_=>none
 | k3+1,(out24,k25)=>cnd (decide (k25<((y4.Hooks.length:Nat):Int))) (bnd (idx y4.Hooks k25) fun y26=>bnd (zCk fu y26.Kind) fun r27=>bnd (cat ([111,110,32]:Bs) r27) fun s28=>bnd (cat s28 ([10]:Bs)) fun s29=>bnd (idx y4.Hooks k25) fun y30=>bnd (zB5 fu y30.Do) fun r31=>bnd (cat s29 r31) fun s32=>bnd (cat out24 s32) fun s33=>bnd (rng .i64 (k25+1)) fun i34=>(zCj fu i3 y4 rc1 k3) (s33,i34)) (bnd (rng .i64 (i3+1)) fun i35=>rc1 (out24,i35))
def zDU (fu:Nat) (i3:Int) (y4:Class) (rc1:(Bs×Int)->Option Bs) (out23:Bs):Option Bs:=(zCj fu i3 y4 rc1) fu (out23,0)
def zDT (fu:Nat) (i3:Int) (y4:Class) (rc1:(Bs×Int)->Option Bs) (out19:Bs):Option Bs:=cnd (decide (((y4.Make.length:Nat):Int)>0)) (bnd (zB5 fu y4.Make) fun r20=>bnd (cat ([109,97,107,101,10]:Bs) r20) fun s21=>bnd (cat out19 s21) fun s22=>(zDU fu i3 y4 rc1) s22) ((zDU fu i3 y4 rc1) out19)
def zCi (fu:Nat) (i3:Int) (y4:Class) (rc1:(Bs×Int)->Option Bs):Nat->Bs×Int->Option Bs
 | 0,_=>none
 | k2+1,(out9,k10)=>cnd (decide (k10<((y4.Watch.length:Nat):Int))) (bnd (idx y4.Watch k10) fun y11=>bnd (cat ([119,97,116,99,104,32]:Bs) y11) fun s12=>bnd (cat s12 ([10]:Bs)) fun s13=>bnd (cat out9 s13) fun s14=>bnd (rng .i64 (k10+1)) fun i15=>(zCi fu i3 y4 rc1 k2) (s14,i15)) (cnd (decide (((y4.Peek.length:Nat):Int)>0)) (bnd (zB5 fu y4.Peek) fun r16=>bnd (cat ([112,101,101,107,10]:Bs) r16) fun s17=>bnd (cat out9 s17) fun s18=>(zDT fu i3 y4 rc1) s18) ((zDT fu i3 y4 rc1) out9))
def zDS (fu:Nat) (i3:Int) (y4:Class) (rc1:(Bs×Int)->Option Bs) (out7:Bs):Option Bs:=bnd (cat out7 ([10]:Bs)) fun s8=>(zCi fu i3 y4 rc1) fu (s8,0)
def zAg (fu:Nat) (s1:Script):Nat->Bs×Int->Option Bs
 | 0,_=>none
 | k1+1,(out2,i3)=>cnd (decide (i3<((s1.Classes.length:Nat):Int))) (bnd (idx s1.Classes i3) fun y4=>bnd (cat out2 ([99,108,97,115,115]:Bs)) fun s5=>cnd y4.Form (bnd (cat s5 ([32,102,111,114,109]:Bs)) fun s6=>(zDS fu i3 y4 (zAg fu s1 k1)) s6) ((zDS fu i3 y4 (zAg fu s1 k1)) s5)) (cnd (decide (((s1.Main.length:Nat):Int)>0)) (bnd (zB5 fu s1.Main) fun r36=>bnd (cat ([109,97,105,110,10]:Bs) r36) fun s37=>bnd (cat out2 s37) fun s38=>some s38) (some out2))
def zE9 (fu:Nat) (s1:Script):Option Bs:=(zAg fu s1) fu ([],0)
theorem zIR (fu:Nat) (s1:Script):∀r,zE9 fu s1=some r->DC zAf Tryz.prog 14 [.agg (zE0 s1)] (D r):=by
 refine fcI Tryz.func14 Z fun w0 X X0 σ0 _=>sr (zDl  1 Z Z Z Z Z Z Z Z Z Z (pq 1 Z (ns (sr (pq 1 Z (ns (zAD (sr (pq 1 Z (ns (zAL (lq (zAg fu s1) (fun ((out2,i3):Bs×Int)=>[(1,.loc 1 0),(3,D out2),(4,Y i3)]) (fun ((out2,i3):Bs×Int)=>[(1,.box 25 [.sl 5 false (s1.Classes.map zAM),.sl 7 false (s1.Main.map cOp)])]) fu ([],0) ?_))))))))))))
 rintro k1 ⟨out2,i3⟩
 refine zAD (sr (pq 3 Z (zAm (T:=tab) zAM s1.Classes Z Z Z Z Z Z Z Z (pq 1 Z (ns (zAH Z ?_ ?_))))))
 ·refine zAB (zAA (zAD (zAL (sr (pq 3 Z (zCN (T:=tab) zAM s1.Classes Z Z Z Z Z Z Z fun y4 hy4=>pq 1 Z (zAs (T:=tab) 5 Z Z Z Z Z Z Z Z Z (zAG (T:=tab) Z Z Z Z Z Z Z Z Z Z Z Z (ns (sr (pq 1 Z (zCW Z Z Z Z Z Z fun s5 hs5=>pq 1 Z (ns (zAD (sr (pq 2 Z (ns (zBi (zDS fu i3 y4 (zAg fu s1 k1)) (fun (out7:Bs)=>[(1,.loc 1 0),(3,D out7),(4,Y i3),(5,.loc 5 0)]) (fun (out7:Bs)=>[(5,.box 51 [O y4.Form,.sl 1 false (y4.Watch.map cStr),.sl 7 false (y4.Peek.map cOp),.sl 7 false (y4.Make.map cOp),.sl 2 false (y4.Hooks.map zAP)]),(1,.box 25 [.sl 5 false (s1.Classes.map zAM),.sl 7 false (s1.Main.map cOp)])]) ?_ fun hj1=>?_))))))))))))))))))
  ·rintro out7
   refine zAA (sr (pq 1 Z (zCW Z Z Z Z Z Z fun s8 hs8=>pq 1 Z (ns (zAD (sr (pq 1 Z (ns (zAL (lq (zCi fu i3 y4 (zAg fu s1 k1)) (fun ((out9,k10):Bs×Int)=>[(1,.loc 1 0),(3,D out9),(4,Y i3),(5,.loc 5 0),(6,Y k10)]) (fun ((out9,k10):Bs×Int)=>[(5,.box 51 [O y4.Form,.sl 1 false (y4.Watch.map cStr),.sl 7 false (y4.Peek.map cOp),.sl 7 false (y4.Make.map cOp),.sl 2 false (y4.Hooks.map zAP)]),(1,.box 25 [.sl 5 false (s1.Classes.map zAM),.sl 7 false (s1.Main.map cOp)])]) fu (s8,0) ?_))))))))))
   rintro k2 ⟨out9,k10⟩
   refine zAD (sr (pq 3 Z (zAm (T:=tab) cStr y4.Watch Z Z Z Z Z Z Z Z (pq 1 Z (ns (zAH Z ?_ ?_))))))
   ·exact zAB (zAA (zAD (zAL (zAC (pq 4 Z (zCN (T:=tab) cStr y4.Watch Z Z Z Z Z Z Z fun y11 hy11=>pq 1 Z (zCW Z Z Z Z Z Z fun s12 hs12=>zCW Z Z Z Z Z Z fun s13 hs13=>zCW Z Z Z Z Z Z fun s14 hs14=>pq 1 Z (zAE (zAK (zAA (zAC (pq 1 Z (zAI (T:=tab) Z Z Z Z fun i15 hi15=>pq 1 Z (zAE (zAW (s14,i15) ⟨Z,Z,Z,Z,Z,trivial⟩ ⟨Z,Z,trivial⟩ Z)))))))))))))))
   ·refine zAY Z (zAA (zAD (sr (pq 2 Z (zAm (T:=tab) cOp y4.Peek Z Z Z Z Z Z Z Z (pq 1 Z (ns (zBi (zDT fu i3 y4 (zAg fu s1 k1)) (fun (out19:Bs)=>[(1,.loc 1 0),(3,D out19),(4,Y i3),(5,.loc 5 0)]) (fun (out19:Bs)=>[(5,.box 51 [O y4.Form,.sl 1 false (y4.Watch.map cStr),.sl 7 false (y4.Peek.map cOp),.sl 7 false (y4.Make.map cOp),.sl 2 false (y4.Hooks.map zAP)]),(1,.box 25 [.sl 5 false (s1.Classes.map zAM),.sl 7 false (s1.Main.map cOp)])]) ?_ fun hj2=>?_))))))))
    ·rintro out19
     refine zAA (zAD (sr (pq 2 Z (zAm (T:=tab) cOp y4.Make Z Z Z Z Z Z Z Z (pq 1 Z (ns (zBi (zDU fu i3 y4 (zAg fu s1 k1)) (fun (out23:Bs)=>[(1,.loc 1 0),(3,D out23),(4,Y i3),(5,.loc 5 0)]) (fun (out23:Bs)=>[(5,.box 51 [O y4.Form,.sl 1 false (y4.Watch.map cStr),.sl 7 false (y4.Peek.map cOp),.sl 7 false (y4.Make.map cOp),.sl 2 false (y4.Hooks.map zAP)]),(1,.box 25 [.sl 5 false (s1.Classes.map zAM),.sl 7 false (s1.Main.map cOp)])]) ?_ fun hj3=>?_)))))))
     ·rintro out23
      refine zAA (sr (pq 1 Z (ns (zAL (lq (zCj fu i3 y4 (zAg fu s1 k1)) (fun ((out24,k25):Bs×Int)=>[(1,.loc 1 0),(3,D out24),(4,Y i3),(5,.loc 5 0),(7,Y k25)]) (fun ((out24,k25):Bs×Int)=>[(5,.box 51 [O y4.Form,.sl 1 false (y4.Watch.map cStr),.sl 7 false (y4.Peek.map cOp),.sl 7 false (y4.Make.map cOp),.sl 2 false (y4.Hooks.map zAP)]),(1,.box 25 [.sl 5 false (s1.Classes.map zAM),.sl 7 false (s1.Main.map cOp)])]) fu (out23,0) ?_)))))
      rintro k3 ⟨out24,k25⟩
      refine zAD (sr (pq 3 Z (zAm (T:=tab) zAP y4.Hooks Z Z Z Z Z Z Z Z (pq 1 Z (ns (zAH Z ?_ ?_))))))
      ·exact zAB (zAA (zAD (zAL (zEK mixed (by kernel_rfl) (zAV (T:=tab) 4 Z Z (zGC (T:=tab) zAP y4.Hooks Z Z Z Z Z Z Z fun y26 hy26=>zAV (T:=tab) 2 Z Z (pdc (zF2 fu y26.Kind) zUT Z Z Z Z fun r27 hr27=>zKZ Z Z Z Z Z Z fun s28 hs28=>zKZ Z Z Z Z Z Z fun s29 hs29=>zAV (T:=tab) 3 Z Z (zGC (T:=tab) zAP y4.Hooks Z Z Z Z Z Z Z fun y30 hy30=>zAV (T:=tab) 2 Z Z (pdc (zDd fu y30.Do) zOf Z Z Z Z fun r31 hr31=>zKZ Z Z Z Z Z Z fun s32 hs32=>zKZ Z Z Z Z Z Z fun s33 hs33=>zAV (T:=tab) 1 Z Z (zCq (zAK (zAA (zAC (pq 1 Z (zAI (T:=tab) Z Z Z Z fun i34 hi34=>pq 1 Z (zAE (zAW (s33,i34) ⟨Z,Z,Z,Z,Z,trivial⟩ ⟨Z,Z,trivial⟩ Z)))))))))))))))))
      ·exact zAY Z (zAK (zAA (zAC (pq 1 Z (zAI (T:=tab) Z Z Z Z fun i35 hi35=>pq 1 Z (zAE (zAW (out24,i35) ⟨Z,Z,Z,trivial⟩ ⟨Z,trivial⟩ Z)))))))
     ·refine zAH Z ?_ ?_
      ·exact zAC (pq 3 Z (pc (zDd fu y4.Make) zOf Z Z Z Z fun r20 hr20=>zCW Z Z Z Z Z Z fun s21 hs21=>zCW Z Z Z Z Z Z fun s22 hs22=>pq 1 Z (zAE (ps (hj3 s22)))))
      ·exact zAB (ps (hj3 out19))
    ·refine zAH Z ?_ ?_
     ·exact zAC (pq 3 Z (pc (zDd fu y4.Peek) zOf Z Z Z Z fun r16 hr16=>zCW Z Z Z Z Z Z fun s17 hs17=>zCW Z Z Z Z Z Z fun s18 hs18=>pq 1 Z (zAE (ps (hj2 s18)))))
     ·exact zAB (ps (hj2 out9))
  ·refine zAH Z ?_ ?_
   ·exact zAC (pq 1 Z (zCW Z Z Z Z Z Z fun s6 hs6=>pq 1 Z (zAE (ps (hj1 s6)))))
   ·exact zAB (ps (hj1 s5))
 ·refine zAY Z (zAA (zAD (sr (pq 2 Z (zAm (T:=tab) cOp s1.Main Z Z Z Z Z Z Z Z (pq 1 Z (ns (zAH Z ?_ ?_))))))))
  ·exact zAC (pq 3 Z (pc (zDd fu s1.Main) zOf Z Z Z Z fun r36 hr36=>zCW Z Z Z Z Z Z fun s37 hs37=>zCW Z Z Z Z Z Z fun s38 hs38=>pq 1 Z (ns (sr (pq 2 Z (ns rN))))))
  ·exact zAB (zAA (sr (pq 2 Z (ns rN))))
def zA7 (_fu:Nat) (t1:Instarref22_Text) (c2:Class):Option Instarref22_Text:=bnd (zBr 104 (([]:List Class).length+t1.S.Classes.length)) fun _=>bnd (rng .i64 ((((([]:List Class)++t1.S.Classes).length:Nat):Int) - 1)) fun i3=>bnd (idx (([]:List Class)++t1.S.Classes) i3) fun y4=>some (⟨(⟨((([]:List Class)++t1.S.Classes).set (i3).toNat c2),t1.S.Main⟩:Script),t1.To,t1.Bad⟩:Instarref22_Text)
theorem zBe (fu:Nat) (t1:Instarref22_Text) (c2:Class):∀r,zA7 fu t1 c2=some r->DC zAf Tryz.prog 76 [.agg (zC1 t1),.agg (zAM c2)] (.agg (zC1 r)):=by
 refine fcI Tryz.func76 Z fun w0 X X0 σ0 _=>sr (zDl  2 Z Z Z Z Z Z Z Z Z Z (zDl  3 Z Z Z Z Z Z Z Z Z Z (zAs (T:=tab) 4 Z Z Z Z Z Z Z Z Z (ns (sr ?_)))))
 refine zBu (T:=tab) (rows:=([]:List Class).map zAM) 6 Z Z Z Z Z Z Z Z Z Z Z Z Z Z ?_
 refine pq 3 Z ?_
 refine zAv (T:=tab) zAM ([]:List Class) t1.S.Classes Z Z Z Z Z Z Z Z Z Z Z Z Z Z (zGk _) Z Z Z Z Z ?_
 exact pq 1 Z (ns (sr (pq 2 Z (zDK (T:=tab) zAM (([]:List Class)++t1.S.Classes) Z Z Z Z Z Z Z Z Z (zAI (T:=tab) Z Z Z Z fun i3 hi3=>pq 1 Z (zEr (T:=tab) zAM (([]:List Class)++t1.S.Classes) Z Z Z Z Z Z Z Z fun y4 hy4=>zGN (T:=tab) zAM (([]:List Class)++t1.S.Classes) y4 c2 (zJK hy4) Z Z Z Z Z Z Z Z Z Z Z Z Z (ns (sr (pq 3 Z (zAG (T:=tab) Z Z Z Z Z Z Z Z Z Z Z Z (ns (sr (pq 1 Z (zAG (T:=tab) Z Z Z Z Z Z Z Z Z Z Z Z (ns (zDt 6 Z Z Z rN))))))))))))))))
def zA0 (fu:Nat) (t1:Instarref22_Text) (s2:Bs) (y4:Class):Nat->Int->Option (Instarref22_Text×Bool)
 | 0,_=>none
 | k1+1,kind13=>cnd (decide (kind13<=8)) (bnd (zCk fu kind13) fun r14=>bnd (cat ([111,110,32]:Bs) r14) fun s15=>cnd (s2==s15) (cnd (decide (((y4.Hooks.length:Nat):Int)<12)) (bnd (zBr 32 (([]:List Hook).length+y4.Hooks.length)) fun _=>bnd (zBr 32 ((([]:List Hook)++y4.Hooks).length+([(⟨kind13,[]⟩:Hook)]:List Hook).length)) fun _=>bnd (zA7 fu (⟨(⟨t1.S.Classes,t1.S.Main⟩:Script),3,t1.Bad⟩:Instarref22_Text) (⟨y4.Form,y4.Watch,y4.Peek,y4.Make,((([]:List Hook)++y4.Hooks)++[(⟨kind13,[]⟩:Hook)])⟩:Class)) fun r16=>some (r16,true)) (bnd (rng .i64 (kind13+1)) fun i17=>(zA0 fu t1 s2 y4 k1) i17)) (bnd (rng .i64 (kind13+1)) fun i18=>(zA0 fu t1 s2 y4 k1) i18)) (some (t1,false))
def zBd (fu:Nat) (t1:Instarref22_Text) (s2:Bs) (y4:Class) (x_:Unit):Option (Instarref22_Text×Bool):=(zA0 fu t1 s2 y4) fu 1
def zB4 (fu:Nat) (t1:Instarref22_Text) (s2:Bs) (x_:Unit):Option (Instarref22_Text×Bool):=cnd (((t1.S.Classes.length:Nat):Int)==0) (some (t1,false)) (bnd (rng .i64 (((t1.S.Classes.length:Nat):Int) - 1)) fun i3=>bnd (idx t1.S.Classes i3) fun y4=>cnd (s2==([112,101,101,107]:Bs)) (cnd (s2==([112,101,101,107]:Bs)) (some ((⟨(⟨t1.S.Classes,t1.S.Main⟩:Script),1,t1.Bad⟩:Instarref22_Text),true)) (some ((⟨(⟨t1.S.Classes,t1.S.Main⟩:Script),2,t1.Bad⟩:Instarref22_Text),true))) (cnd (s2==([109,97,107,101]:Bs)) (cnd (s2==([112,101,101,107]:Bs)) (some ((⟨(⟨t1.S.Classes,t1.S.Main⟩:Script),1,t1.Bad⟩:Instarref22_Text),true)) (some ((⟨(⟨t1.S.Classes,t1.S.Main⟩:Script),2,t1.Bad⟩:Instarref22_Text),true))) (cnd (decide (((s2.length:Nat):Int)>6)) (bnd (zC3 s2 0 6) fun s5=>cnd (s5==([119,97,116,99,104,32]:Bs)) (cnd (decide (((y4.Watch.length:Nat):Int)<12)) (bnd (zC3 s2 6 ((s2.length:Nat):Int)) fun s6=>bnd (zC4 fu s6) fun r7=>cnd r7 (bnd (zC3 s2 6 ((s2.length:Nat):Int)) fun s8=>bnd (zC5 fu s8) fun r9=>bnd (zC3 s2 6 ((s2.length:Nat):Int)) fun s10=>cnd (r9==s10) (bnd (zBr 16 (([]:List Bs).length+y4.Watch.length)) fun _=>bnd (zC3 s2 6 ((s2.length:Nat):Int)) fun s11=>bnd (zBr 16 ((([]:List Bs)++y4.Watch).length+([s11]:List Bs).length)) fun _=>bnd (zA7 fu t1 (⟨y4.Form,((([]:List Bs)++y4.Watch)++[s11]),y4.Peek,y4.Make,y4.Hooks⟩:Class)) fun r12=>some (r12,true)) ((zBd fu t1 s2 y4) ())) ((zBd fu t1 s2 y4) ())) ((zBd fu t1 s2 y4) ())) ((zBd fu t1 s2 y4) ())) ((zBd fu t1 s2 y4) ()))))
def zDx (fu:Nat) (t1:Instarref22_Text) (s2:Bs):Option (Instarref22_Text×Bool):=cnd (s2==([109,97,105,110]:Bs)) (some ((⟨(⟨t1.S.Classes,t1.S.Main⟩:Script),0,t1.Bad⟩:Instarref22_Text),true)) (cnd (s2==([99,108,97,115,115]:Bs)) (cnd (decide (((t1.S.Classes.length:Nat):Int)<12)) (bnd (zBr 104 (([]:List Class).length+t1.S.Classes.length)) fun _=>bnd (zBr 104 ((([]:List Class)++t1.S.Classes).length+([(⟨(s2==([99,108,97,115,115,32,102,111,114,109]:Bs)),[],[],[],[]⟩:Class)]:List Class).length)) fun _=>some ((⟨(⟨((([]:List Class)++t1.S.Classes)++[(⟨(s2==([99,108,97,115,115,32,102,111,114,109]:Bs)),[],[],[],[]⟩:Class)]),t1.S.Main⟩:Script),2,t1.Bad⟩:Instarref22_Text),true)) ((zB4 fu t1 s2) ())) (cnd (s2==([99,108,97,115,115,32,102,111,114,109]:Bs)) (cnd (decide (((t1.S.Classes.length:Nat):Int)<12)) (bnd (zBr 104 (([]:List Class).length+t1.S.Classes.length)) fun _=>bnd (zBr 104 ((([]:List Class)++t1.S.Classes).length+([(⟨(s2==([99,108,97,115,115,32,102,111,114,109]:Bs)),[],[],[],[]⟩:Class)]:List Class).length)) fun _=>some ((⟨(⟨((([]:List Class)++t1.S.Classes)++[(⟨(s2==([99,108,97,115,115,32,102,111,114,109]:Bs)),[],[],[],[]⟩:Class)]),t1.S.Main⟩:Script),2,t1.Bad⟩:Instarref22_Text),true)) ((zB4 fu t1 s2) ())) ((zB4 fu t1 s2) ())))
end Go.Proofs.YtoboimmgglnjfaaGreatDoor
