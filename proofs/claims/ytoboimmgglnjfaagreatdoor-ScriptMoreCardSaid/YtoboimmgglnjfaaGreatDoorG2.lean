/- Models and proofs, printed by emit2.py. -/
import Derived.Test.YtoboimmgglnjfaaGreatDoorG1
namespace Go.Proofs.YtoboimmgglnjfaaGreatDoor
open Go Go.Pw
set_option maxRecDepth 100000
set_option maxHeartbeats 10000000
set_option linter.unusedVariables false
theorem zEU (fu:Nat) (s1:Bs):∀r,zCR fu s1=some r->DC zAa Tryz.prog 15 [D s1] (.tup [.agg (zCs r.1),Y r.2]):=by
 refine fcI Tryz.func15 Z fun w0 X X0 σ0 _=>sr ?_
 refine zA9 (T:=tab) 2 Z Z Z Z Z Z Z Z Z ?_
 refine zA9 (T:=tab) 3 Z Z Z Z Z Z Z Z Z ?_
 refine ns (zAC (sr (pq 3 Z (ns ?_))))
 refine zAN Z ?_ ?_
 ·refine sr ?_
  refine zAr (T:=tab) Z Z Z Z Z Z Z ?_
  refine zAM (T:=tab) Z Z Z Z Z Z Z Z Z Z Z Z ?_
  refine zAM (T:=tab) Z Z Z Z Z Z Z Z Z Z Z Z ?_
  refine ns ?_
  refine zEK 2 [.sl 5 false ([].map zAF),.sl 7 false ([].map cOp)] Z ⟨.nil,.nil,trivial⟩ Z ?_
  exact rN
 ·refine zAD (zAA (sr ?_))
  refine zAr (T:=tab) Z Z Z Z Z Z Z ?_
  refine zDV  13 Z Z Z Z Z Z Z Z Z Z ?_
  refine zC7 5130 51 5 13 0 Z Z Z Z Z Z ?_
  refine zC7 5131 43 7 13 1 Z Z Z Z Z Z ?_
  refine zEs 5132 9 1 Z Z Z ?_
  refine zEs 5133 43 7 Z Z Z ?_
  refine zEs 5134 43 7 Z Z Z ?_
  refine zEs 5135 54 2 Z Z Z ?_
  refine zEs 5136 43 7 Z Z Z ?_
  refine zOs 5135 [Y 0,.own 5136] Z Z Z Z ?_
  refine zOs 5130 [O false,.own 5132,.own 5133,.own 5134,.own 5135] Z Z Z Z ?_
  refine zA9 (T:=tab) 4 Z Z Z Z Z Z Z Z Z ?_
  refine zAM (T:=tab) Z Z Z Z Z Z Z Z Z Z Z Z ?_
  refine ns (zAC ?_)
  refine su [(0,D s1),(2,.loc 2 0),(3,.loc 3 0),(4,.loc 4 0)] [(4,.box 77 [.loc 13 0]),(5136,.arr 43 7 (([]:List Op).map cOp)),(5135,.box 54 [pfx 2 (([]:List Hook).map zAU) false,Y 0,.own 5136]),(5134,.arr 43 7 (([]:List Op).map cOp)),(5133,.arr 43 7 (([]:List Op).map cOp)),(5132,.arr 9 1 (([]:List Bs).map cStr)),(5131,.arr 43 7 (([]:List Op).map cOp)),(5130,.box 51 [pfx 5 (([]:List Class).map zAF) false,O false,.own 5132,.own 5133,.own 5134,.own 5135]),(13,.box 80 [.own 5130,.own 5131,.v (.pointer none),Y 0]),(3,.box 28 [Y 0]),(2,.box 25 [.v (.slice none 0 0),.v (.slice none 0 0)])] ?_
  refine zBA [0,0,2,6,14,31] mixed (by kernel_rfl) (by kernel_rfl) Z Z ?_
  refine vf [8,9] [28] [] [4,13] [4] [(14,.loc 13 0)] [(4,.box 77 [.loc 13 0])] ?_
  refine vf [8,9] [30] [] [4,13] [4] [(15,.loc 13 0)] [(4,.box 77 [.loc 13 0])] ?_
  refine ve [30] [32] [13] [(16,.loc 13 0)] ?_
  refine ve [32] [34] [13] [(17,.loc 13 0)] ?_
  refine ve [34] [36] [13] [(18,.loc 13 1)] ?_
  refine vt (zBW fu 300) [(38,[]),(27,[5130,5131,13])] [27,28,36,10261,10263,10265,10267,10269,10271,10273] [38,27] [] [13,5130,5131,5132,5133,5134,5135,5136] [5130,5131,5132,5133,5134,5135,5136] (fun r2=>[(19,O r2.1)]) (fun r2=>[(13,.box 80 [.own 5130,.own 5131,.loc 13 1,Y r2.2]),(5130,.box 51 [pfx 5 (([]:List Class).map zAF) false,O false,.own 5132,.own 5133,.own 5134,.own 5135]),(5131,.arr 43 7 (([]:List Op).map cOp)),(5132,.arr 9 1 (([]:List Bs).map cStr)),(5133,.arr 43 7 (([]:List Op).map cOp)),(5134,.arr 43 7 (([]:List Op).map cOp)),(5135,.box 54 [pfx 2 (([]:List Hook).map zAU) false,Y 0,.own 5136]),(5136,.arr 43 7 (([]:List Op).map cOp))]) Z Z (fun _=>Z) (fun w0 X X0 σ0 _=>by refine tu [] (enc:=fun (r2:(Bool×Int))=>O r2.1) (Sr:=fun (r2:(Bool×Int))=>[(13,.box 80 [.own 5130,.own 5131,.loc 13 1,Y r2.2]),(5130,.box 51 [pfx 5 (([]:List Class).map zAF) false,O false,.own 5132,.own 5133,.own 5134,.own 5135]),(5131,.arr 43 7 (([]:List Op).map cOp)),(5132,.arr 9 1 (([]:List Bs).map cStr)),(5133,.arr 43 7 (([]:List Op).map cOp)),(5134,.arr 43 7 (([]:List Op).map cOp)),(5135,.box 54 [pfx 2 (([]:List Hook).map zAU) false,Y 0,.own 5136]),(5136,.arr 43 7 (([]:List Op).map cOp))]) (qs:=[.loc 13 0,.loc 13 1,Y 300]) (Sc:=[(13,.box 80 [.own 5130,.own 5131,.v (.pointer none),Y 0]),(5130,.box 51 [pfx 5 (([]:List Class).map zAF) false,O false,.own 5132,.own 5133,.own 5134,.own 5135]),(5131,.arr 43 7 (([]:List Op).map cOp)),(5132,.arr 9 1 (([]:List Bs).map cStr)),(5133,.arr 43 7 (([]:List Op).map cOp)),(5134,.arr 43 7 (([]:List Op).map cOp)),(5135,.box 54 [pfx 2 (([]:List Hook).map zAU) false,Y 0,.own 5136]),(5136,.arr 43 7 (([]:List Op).map cOp))]) (N1:=[13,5130,5131,5132,5133,5134,5135,5136]) (NR:=[13,5130,5131,5132,5133,5134,5135,5136]) (fun r2 hr2=>fr [(900000,13),(900001,5130),(900002,5131),(900003,5132),(900004,5133),(900005,5134),(900006,5135),(900007,5136)] [900000,900001,900002,900003,900004,900005,900006,900007] (zFH fu 300 0 (([]:List Class),false) false ([]:List Op) ([]:List Bs) ([]:List Op) ([]:List Op) (([]:List Hook),false) 0 ([]:List Op) _ hr2)) zIU Z Z Z Z Z Z Z Z fun r2 hr2=>?_;exact pz) fun r2 hr2=>?_
  refine zBS Z Z ?_
  refine zAA (zAC (sr (pq 1 Z ?_)))
  refine zOp (n:=3021) tab Tryz.func39 Z Z Z Z Z Z Z Z Z Z Z Z ⟨⟨_,Z,.rfl⟩,trivial⟩ call39 Z Z ?_
  refine ns (zAL ?_)
  refine zEK 13 [.own 5130,.own 5131,.sel 0 [.loc 13 1,.ela 5130 5 (([]:List Class).length) 2,.ela 5130 5 (([]:List Class).length) 3,.ela 5135 2 (([]:List Hook).length) 1],Y r2.2] Z ⟨.rfl,.rfl,(.sel Z Z),.rfl,trivial⟩ Z ?_
  refine zSI fun hfits=>?_
  obtain ⟨lr1,lmid,lhb,lhcut⟩:=zK2 fu
  refine zQK (T:=tab) (s:=s1) (x0:=(0,r2.2,(([]:List Class),false),false,([]:List Bs),([]:List Op),([]:List Op),(([]:List Hook),false),0,([]:List Op),([]:List Op))) (n:=3021) (tI:=3) (tB:=4) (tF:=41) (M:=(zBL fu)) (Sf:=fun ((k3,c4,c5,c6,l7,l8,l9,c10,c11,l12,l13):Nat×Int×(List Class×Bool)×Bool×(List Bs)×(List Op)×(List Op)×(List Hook×Bool)×Int×(List Op)×(List Op))=>[(13,.box 80 [.own 5130,.own 5131,.sel k3 [.loc 13 1,.ela 5130 5 (c5.1.length) 2,.ela 5130 5 (c5.1.length) 3,.ela 5135 2 (c10.1.length) 1],Y c4]),(5130,.box 51 [pfx 5 (c5.1.map zAF) c5.2,O c6,.own 5132,.own 5133,.own 5134,.own 5135]),(5131,.arr 43 7 (l13.map cOp)),(5132,.arr 9 1 (l7.map cStr)),(5133,.arr 43 7 (l8.map cOp)),(5134,.arr 43 7 (l9.map cOp)),(5135,.box 54 [pfx 2 (c10.1.map zAU) c10.2,Y c11,.own 5136]),(5136,.arr 43 7 (l12.map cOp)),(4,.box 77 [.loc 13 0]),(3,.box 28 [Y 0]),(2,.box 25 [.v (.slice none 0 0),.v (.slice none 0 0)])]) (SR:=fun r:(Script×Int)=>[(2,.box 25 [.sl 5 false (r.1.Classes.map zAF),.sl 7 false (r.1.Main.map cOp)]),(3,.box 28 [Y r.2])]) (N1:=[2,3,4]) (E0:=[(2,.loc 2 0),(3,.loc 3 0),(4,.loc 4 0)]) (E1:=fun y14=>[(2,.loc 2 0),(3,.loc 3 0),(4,.loc 4 0),(22,D y14),(5,D y14)]) hfits Tryz.func73 lhb Z Z call73 Z Z lhcut Z Z ⟨Z,Z,Z,trivial⟩ Z Z ⟨Z,Z,Z,Z,Z,Z,Z,Z,Z,Z,Z,trivial⟩ Z Z Z Z ?_ ?_ ?_ ?_
  ·rintro y14 ⟨k3,c4,c5,c6,l7,l8,l9,c10,c11,l12,l13⟩ w0 X X0 σ0 _ _
   refine pq 1 Z (zAI ?_)
   exact zJa ⟨Z,Z,Z,Z,Z,trivial⟩ ⟨Z,Z,Z,Z,Z,Z,Z,Z,Z,Z,Z,trivial⟩ Z
  ·rintro y14 ys15 ⟨k3,c4,c5,c6,l7,l8,l9,c10,c11,l12,l13⟩ w0 X X0 σ0 _ _
   refine zAL (sr (pq 1 Z ?_))
   refine pc (zFJ fu y14 [10]) call40 Z Z Z Z fun r16 hr16=>?_
   refine pq 1 Z (ns (zAC (sr (pq 3 Z ?_))))
   refine zAJ (j:=27) Z ?_ ?_
   ·refine pq 4 Z (zAI ?_)
    refine zAA (zAW Z ?_)
    refine zAg Z ?_
    exact zE5 (k3,c4,c5,c6,l7,l8,l9,c10,c11,l12,l13) ⟨Z,Z,Z,Z,Z,Z,Z,Z,Z,Z,Z,trivial⟩ Z
   ·refine pq 2 Z ?_
    refine tu [5130,5135,5132,5133,5134,5136] (enc:=fun (r17:(Bool×Nat×Int×(List Class×Bool)×Bool×(List Hook×Bool)×Int×(List Bs)×(List Op)×(List Op)×(List Op)))=>O r17.1) (Sr:=fun (r17:(Bool×Nat×Int×(List Class×Bool)×Bool×(List Hook×Bool)×Int×(List Bs)×(List Op)×(List Op)×(List Op)))=>[(13,.box 80 [.own 5130,.own 5131,.sel r17.2.1 [.loc 13 1,.ela 5130 5 (r17.2.2.2.1.1.length) 2,.ela 5130 5 (r17.2.2.2.1.1.length) 3,.ela 5135 2 (r17.2.2.2.2.2.1.1.length) 1],Y r17.2.2.1]),(5130,.box 51 [pfx 5 (r17.2.2.2.1.1.map zAF) r17.2.2.2.1.2,O r17.2.2.2.2.1,.own 5132,.own 5133,.own 5134,.own 5135]),(5131,.arr 43 7 (l13.map cOp)),(5135,.box 54 [pfx 2 (r17.2.2.2.2.2.1.1.map zAU) r17.2.2.2.2.2.1.2,Y r17.2.2.2.2.2.2.1,.own 5136]),(5132,.arr 9 1 (r17.2.2.2.2.2.2.2.1.map cStr)),(5133,.arr 43 7 (r17.2.2.2.2.2.2.2.2.1.map cOp)),(5134,.arr 43 7 (r17.2.2.2.2.2.2.2.2.2.1.map cOp)),(5136,.arr 43 7 (r17.2.2.2.2.2.2.2.2.2.2.map cOp))]) (qs:=[.loc 13 0,D r16]) (Sc:=[(13,.box 80 [.own 5130,.own 5131,.sel k3 [.loc 13 1,.ela 5130 5 (c5.1.length) 2,.ela 5130 5 (c5.1.length) 3,.ela 5135 2 (c10.1.length) 1],Y c4]),(5130,.box 51 [pfx 5 (c5.1.map zAF) c5.2,O c6,.own 5132,.own 5133,.own 5134,.own 5135]),(5131,.arr 43 7 (l13.map cOp)),(5135,.box 54 [pfx 2 (c10.1.map zAU) c10.2,Y c11,.own 5136]),(5132,.arr 9 1 (l7.map cStr)),(5133,.arr 43 7 (l8.map cOp)),(5134,.arr 43 7 (l9.map cOp)),(5136,.arr 43 7 (l12.map cOp))]) (N1:=[13,5131]) (NR:=[13,5130,5131,5135,5132,5133,5134,5136]) (fun r17 hr17=>fr [(900000,13),(900001,5130),(900002,5131),(900003,5135),(900004,5132),(900005,5133),(900006,5134),(900007,5136)] [900000,900001,900002,900003,900004,900005,900006,900007] (zFI fu r16 k3 c4 c5 c6 l13 c10 c11 l7 l8 l9 l12 _ hr17)) call41 Z Z Z Z Z Z Z Z fun r17 hr17=>?_
    refine pq 1 Z (ns ?_)
    refine zAN Z ?_ ?_
    ·refine zAg Z ?_
     exact zE5 (r17.2.1,r17.2.2.1,r17.2.2.2.1,r17.2.2.2.2.1,r17.2.2.2.2.2.2.2.1,r17.2.2.2.2.2.2.2.2.1,r17.2.2.2.2.2.2.2.2.2.1,r17.2.2.2.2.2.1,r17.2.2.2.2.2.2.1,r17.2.2.2.2.2.2.2.2.2.2,l13) ⟨Z,Z,Z,Z,Z,Z,Z,Z,Z,Z,Z,trivial⟩ Z
    ·refine zAD (zAA (zAC (zAC ?_)))
     refine su [(2,.loc 2 0),(3,.loc 3 0),(4,.loc 4 0),(22,D y14),(5,D r16),(23,D y14),(24,D r16),(25,D r16),(26,O (r16==([]:Bs))),(27,O false),(28,.loc 13 0),(29,D r16),(30,O r17.1),(31,O r17.1)] [(13,.box 80 [.own 5130,.own 5131,.sel r17.2.1 [.loc 13 1,.ela 5130 5 (r17.2.2.2.1.1.length) 2,.ela 5130 5 (r17.2.2.2.1.1.length) 3,.ela 5135 2 (r17.2.2.2.2.2.1.1.length) 1],Y r17.2.2.1]),(5130,.box 51 [pfx 5 (r17.2.2.2.1.1.map zAF) r17.2.2.2.1.2,O r17.2.2.2.2.1,.own 5132,.own 5133,.own 5134,.own 5135]),(5131,.arr 43 7 (l13.map cOp)),(5135,.box 54 [pfx 2 (r17.2.2.2.2.2.1.1.map zAU) r17.2.2.2.2.2.1.2,Y r17.2.2.2.2.2.2.1,.own 5136]),(5132,.arr 9 1 (r17.2.2.2.2.2.2.2.1.map cStr)),(5133,.arr 43 7 (r17.2.2.2.2.2.2.2.2.1.map cOp)),(5134,.arr 43 7 (r17.2.2.2.2.2.2.2.2.2.1.map cOp)),(5136,.arr 43 7 (r17.2.2.2.2.2.2.2.2.2.2.map cOp)),(4,.box 77 [.loc 13 0]),(3,.box 28 [Y 0]),(2,.box 25 [.v (.slice none 0 0),.v (.slice none 0 0)])] ?_
     refine zSK (fun k_=>[(2,.loc 2 0),(3,.loc 3 0),(4,.loc 4 0),(22,D y14),(5,D r16),(23,D y14),(24,D r16),(25,D r16),(26,O (r16==([]:Bs))),(27,O false),(28,.loc 13 0),(29,D r16),(30,O r17.1),(31,O r17.1)]) (fun k_=>[(13,.box 80 [.own 5130,.own 5131,.sel k_ [.loc 13 1,.ela 5130 5 (r17.2.2.2.1.1.length) 2,.ela 5130 5 (r17.2.2.2.1.1.length) 3,.ela 5135 2 (r17.2.2.2.2.2.1.1.length) 1],Y r17.2.2.1]),(5130,.box 51 [pfx 5 (r17.2.2.2.1.1.map zAF) r17.2.2.2.1.2,O r17.2.2.2.2.1,.own 5132,.own 5133,.own 5134,.own 5135]),(5131,.arr 43 7 (l13.map cOp)),(5135,.box 54 [pfx 2 (r17.2.2.2.2.2.1.1.map zAU) r17.2.2.2.2.2.1.2,Y r17.2.2.2.2.2.2.1,.own 5136]),(5132,.arr 9 1 (r17.2.2.2.2.2.2.2.1.map cStr)),(5133,.arr 43 7 (r17.2.2.2.2.2.2.2.2.1.map cOp)),(5134,.arr 43 7 (r17.2.2.2.2.2.2.2.2.2.1.map cOp)),(5136,.arr 43 7 (r17.2.2.2.2.2.2.2.2.2.2.map cOp)),(4,.box 77 [.loc 13 0]),(3,.box 28 [Y 0]),(2,.box 25 [.v (.slice none 0 0),.v (.slice none 0 0)])]) r17.2.1 ?_ ?_ ?_ ?_
     ·refine zHf (E':=[(2,.loc 2 0),(3,.loc 3 0),(4,.loc 4 0),(22,D y14),(5,D r16),(23,D y14),(24,D r16),(25,D r16),(26,O (r16==([]:Bs))),(27,O false),(28,.loc 13 0),(29,D r16),(30,O r17.1),(31,O r17.1)]) (S':=[(13,.box 80 [.own 5130,.own 5131,.loc 13 1,Y r17.2.2.1]),(5130,.box 51 [pfx 5 (r17.2.2.2.1.1.map zAF) r17.2.2.2.1.2,O r17.2.2.2.2.1,.own 5132,.own 5133,.own 5134,.own 5135]),(5131,.arr 43 7 (l13.map cOp)),(5135,.box 54 [pfx 2 (r17.2.2.2.2.2.1.1.map zAU) r17.2.2.2.2.2.1.2,Y r17.2.2.2.2.2.2.1,.own 5136]),(5132,.arr 9 1 (r17.2.2.2.2.2.2.2.1.map cStr)),(5133,.arr 43 7 (r17.2.2.2.2.2.2.2.2.1.map cOp)),(5134,.arr 43 7 (r17.2.2.2.2.2.2.2.2.2.1.map cOp)),(5136,.arr 43 7 (r17.2.2.2.2.2.2.2.2.2.2.map cOp)),(4,.box 77 [.loc 13 0]),(3,.box 28 [Y 0]),(2,.box 25 [.v (.slice none 0 0),.v (.slice none 0 0)])]) Z Z ?_
      refine su [(2,.loc 2 0),(3,.loc 3 0),(4,.loc 4 0),(5,D r16)] [(13,.box 80 [.own 5130,.own 5131,.loc 13 1,Y r17.2.2.1]),(5130,.box 51 [pfx 5 (r17.2.2.2.1.1.map zAF) r17.2.2.2.1.2,O r17.2.2.2.2.1,.own 5132,.own 5133,.own 5134,.own 5135]),(5131,.arr 43 7 (l13.map cOp)),(5135,.box 54 [pfx 2 (r17.2.2.2.2.2.1.1.map zAU) r17.2.2.2.2.2.1.2,Y r17.2.2.2.2.2.2.1,.own 5136]),(5132,.arr 9 1 (r17.2.2.2.2.2.2.2.1.map cStr)),(5133,.arr 43 7 (r17.2.2.2.2.2.2.2.2.1.map cOp)),(5134,.arr 43 7 (r17.2.2.2.2.2.2.2.2.2.1.map cOp)),(5136,.arr 43 7 (r17.2.2.2.2.2.2.2.2.2.2.map cOp)),(4,.box 77 [.loc 13 0]),(3,.box 28 [Y 0]),(2,.box 25 [.v (.slice none 0 0),.v (.slice none 0 0)])] ?_
      refine zBA [0,1,3,7,15,31,63,0,128,384,896,2047] mixed (by kernel_rfl) (by kernel_rfl) Z Z ?_
      refine vf [8,9] [64] [] [4,13] [4] [(32,.loc 13 0)] [(4,.box 77 [.loc 13 0])] ?_
      refine ve [64] [66] [13] [(33,.loc 13 0)] ?_
      refine ve [66] [68] [13] [(34,.loc 13 2)] ?_
      refine vf [27,68] [70] [] [13,5130,5131] [13] [(35,.loc 13 1)] [(13,.box 80 [.own 5130,.own 5131,.loc 13 1,Y r17.2.2.1])] ?_
      refine ve [70] [72] [13] [(36,.loc 13 1)] ?_
      refine vf [27,72] [74] [] [13,5130,5131] [13] [(37,.own 5131)] [(13,.box 80 [.own 5130,.own 5131,.loc 13 1,Y r17.2.2.1])] ?_
      refine vs [74,10263] [76] [] [5131] [5131] [(38,Y ((l13.length:Nat):Int))] [(5131,.arr 43 7 (l13.map cOp))] Z Z (fun w0 X X0 σ0 _=>by refine zCT (T:=tab) cOp l13 Z Z Z Z Z Z Z Z Z ?_;exact py) ?_
      refine vf [8,9] [78] [] [4,13] [4] [(39,.loc 13 0)] [(4,.box 77 [.loc 13 0])] ?_
      refine ve [78] [80] [13] [(40,.loc 13 0)] ?_
      refine ve [80] [82] [13] [(41,.loc 13 3)] ?_
      refine vf [27,82] [84] [] [13,5130,5131] [13] [(42,Y r17.2.2.1)] [(13,.box 80 [.own 5130,.own 5131,.loc 13 1,Y r17.2.2.1])] ?_
      refine ve [76,84] [86] [] [(43,O (((l13.length:Nat):Int)==r17.2.2.1))] ?_
      refine zBS Z Z ?_
      refine zAA ?_
      refine zAN Z ?_ ?_
      ·refine sr ?_
       refine zAr (T:=tab) Z Z Z Z Z Z Z ?_
       refine zAM (T:=tab) Z Z Z Z Z Z Z Z Z Z Z Z ?_
       refine zAM (T:=tab) Z Z Z Z Z Z Z Z Z Z Z Z ?_
       refine ns ?_
       refine zEK 2 [.sl 5 false ([].map zAF),.sl 7 false ([].map cOp)] Z ⟨.nil,.nil,trivial⟩ Z ?_
       exact zG1 Z ⟨Z,Z,trivial⟩ Z
      ·refine zAD (zAA (sr (pq 1 Z ?_)))
       refine pc (zFZ fu r16) zL1 Z Z Z Z fun r18 hr18=>?_
       refine pq 3 Z ?_
       refine zA9 (T:=tab) 6 Z Z Z Z Z Z Z Z Z ?_
       refine zAM (T:=tab) Z Z Z Z Z Z Z Z Z Z Z Z ?_
       refine pq 1 Z (ns ?_)
       refine su [(2,.loc 2 0),(3,.loc 3 0),(4,.loc 4 0),(6,.loc 6 0)] [(6,.box 43 [Y r18.1.Kind,Y r18.1.A,Y r18.1.B,Y r18.1.C,D r18.1.S,D r18.1.T,O r18.1.Must]),(13,.box 80 [.own 5130,.own 5131,.loc 13 1,Y r17.2.2.1]),(5130,.box 51 [pfx 5 (r17.2.2.2.1.1.map zAF) r17.2.2.2.1.2,O r17.2.2.2.2.1,.own 5132,.own 5133,.own 5134,.own 5135]),(5131,.arr 43 7 (l13.map cOp)),(5135,.box 54 [pfx 2 (r17.2.2.2.2.2.1.1.map zAU) r17.2.2.2.2.2.1.2,Y r17.2.2.2.2.2.2.1,.own 5136]),(5132,.arr 9 1 (r17.2.2.2.2.2.2.2.1.map cStr)),(5133,.arr 43 7 (r17.2.2.2.2.2.2.2.2.1.map cOp)),(5134,.arr 43 7 (r17.2.2.2.2.2.2.2.2.2.1.map cOp)),(5136,.arr 43 7 (r17.2.2.2.2.2.2.2.2.2.2.map cOp)),(4,.box 77 [.loc 13 0]),(3,.box 28 [Y 0]),(2,.box 25 [.v (.slice none 0 0),.v (.slice none 0 0)])] ?_
       refine zBA [0,1,3,7,0,16,48,112,240,496,0,1024,4080,8191,16383] mixed (by kernel_rfl) (by kernel_rfl) Z Z ?_
       refine vf [8,9] [100] [] [4,13] [4] [(50,.loc 13 0)] [(4,.box 77 [.loc 13 0])] ?_
       refine ve [100] [102] [13] [(51,.loc 13 0)] ?_
       refine ve [102] [104] [13] [(52,.loc 13 2)] ?_
       refine vf [27,104] [106] [] [13,5130,5131] [13] [(53,.loc 13 1)] [(13,.box 80 [.own 5130,.own 5131,.loc 13 1,Y r17.2.2.1])] ?_
       refine vf [8,9] [108] [] [4,13] [4] [(54,.loc 13 0)] [(4,.box 77 [.loc 13 0])] ?_
       refine ve [108] [110] [13] [(55,.loc 13 0)] ?_
       refine ve [110] [112] [13] [(56,.loc 13 2)] ?_
       refine vf [27,112] [114] [] [13,5130,5131] [13] [(57,.loc 13 1)] [(13,.box 80 [.own 5130,.own 5131,.loc 13 1,Y r17.2.2.1])] ?_
       refine ve [114] [116] [13] [(58,.loc 13 1)] ?_
       refine vf [27,116] [118] [] [13,5130,5131] [13] [(59,.own 5131)] [(13,.box 80 [.own 5130,.own 5131,.loc 13 1,Y r17.2.2.1])] ?_
       refine vf [12,13] [120] [] [6] [6] [(60,.agg (cOp r18.1))] [(6,.box 43 [Y r18.1.Kind,Y r18.1.A,Y r18.1.B,Y r18.1.C,D r18.1.S,D r18.1.T,O r18.1.Must])] ?_
       refine vs [120] [122,123] [61] [] [] [(61,.own 61)] [(61,.arr 43 7 ([r18.1].map cOp))] Z Z (fun w0 X X0 σ0 _=>by refine zDD (T:=tab) (rows:=[r18.1].map cOp) 61 Z Z Z Z Z Z Z Z Z Z Z Z Z Z ?_;exact py) ?_
       refine vt (zDG 72 (l13.length+([r18.1]:List Op).length)) [(124,[700062]),(118,[]),(10263,[]),(1400125,[])] [118,122,123,10263] [124,118,10263,1400125] [700062] [61,5131] [61] (fun _=>[(62,.own 700062)]) (fun _=>[(700062,.arr 43 7 ((l13++[r18.1]).map cOp)),(61,.arr 43 7 ([r18.1].map cOp))]) Z Z (fun _=>Z) (fun w0 X X0 σ0 _=>by refine zQD 5131 700062 59 Z Z Z Z Z Z ?_;refine zCl (T:=tab) cOp l13 ([r18.1]:List Op) Z Z Z Z Z Z Z Z Z Z Z Z Z Z (zGn _) Z Z Z Z Z ?_;exact pz) fun _ h0=>?_
       refine ve [106] [126] [13] [(63,.loc 13 1)] ?_
       refine vs [27,124,126,1400125] [27] [] [13,5130,5131,700062] [700062] [] [(13,.box 80 [.own 5130,.own 700062,.loc 13 1,Y r17.2.2.1]),(700062,.arr 43 7 ((l13++[r18.1]).map cOp))] Z Z (fun w0 X X0 σ0 _=>by refine zAM (T:=tab) Z Z Z Z Z Z Z Z Z Z Z Z ?_;exact py) ?_
       refine zBS Z Z ?_
       refine zAK ?_
       refine zOn (E':=[]) (S':=[(700062,.arr 43 7 ((l13++[r18.1]).map cOp)),(61,.arr 43 7 ([r18.1].map cOp)),(6,.box 43 [Y r18.1.Kind,Y r18.1.A,Y r18.1.B,Y r18.1.C,D r18.1.S,D r18.1.T,O r18.1.Must]),(13,.box 80 [.own 5130,.own 700062,.loc 13 1,Y r17.2.2.1]),(5130,.box 51 [pfx 5 (r17.2.2.2.1.1.map zAF) r17.2.2.2.1.2,O r17.2.2.2.2.1,.own 5132,.own 5133,.own 5134,.own 5135]),(5135,.box 54 [pfx 2 (r17.2.2.2.2.2.1.1.map zAU) r17.2.2.2.2.2.1.2,Y r17.2.2.2.2.2.2.1,.own 5136]),(5132,.arr 9 1 (r17.2.2.2.2.2.2.2.1.map cStr)),(5133,.arr 43 7 (r17.2.2.2.2.2.2.2.2.1.map cOp)),(5134,.arr 43 7 (r17.2.2.2.2.2.2.2.2.2.1.map cOp)),(5136,.arr 43 7 (r17.2.2.2.2.2.2.2.2.2.2.map cOp)),(4,.box 77 [.loc 13 0]),(3,.box 28 [Y 0]),(2,.box 25 [.v (.slice none 0 0),.v (.slice none 0 0)])]) ?_ trivial ⟨Z,Z,Z,Z,Z,Z,Z,Z,Z,Z,Z,Z,Z,trivial⟩ Z
       refine zOm 700062 5131 (E':=[]) (S':=[(5131,.arr 43 7 ((l13++[r18.1]).map cOp)),(61,.arr 43 7 ([r18.1].map cOp)),(6,.box 43 [Y r18.1.Kind,Y r18.1.A,Y r18.1.B,Y r18.1.C,D r18.1.S,D r18.1.T,O r18.1.Must]),(13,.box 80 [.own 5130,.own 5131,.loc 13 1,Y r17.2.2.1]),(5130,.box 51 [pfx 5 (r17.2.2.2.1.1.map zAF) r17.2.2.2.1.2,O r17.2.2.2.2.1,.own 5132,.own 5133,.own 5134,.own 5135]),(5135,.box 54 [pfx 2 (r17.2.2.2.2.2.1.1.map zAU) r17.2.2.2.2.2.1.2,Y r17.2.2.2.2.2.2.1,.own 5136]),(5132,.arr 9 1 (r17.2.2.2.2.2.2.2.1.map cStr)),(5133,.arr 43 7 (r17.2.2.2.2.2.2.2.2.1.map cOp)),(5134,.arr 43 7 (r17.2.2.2.2.2.2.2.2.2.1.map cOp)),(5136,.arr 43 7 (r17.2.2.2.2.2.2.2.2.2.2.map cOp)),(4,.box 77 [.loc 13 0]),(3,.box 28 [Y 0]),(2,.box 25 [.v (.slice none 0 0),.v (.slice none 0 0)])]) Z Z Z Z Z Z ?_
       refine zEZ 13 [.own 5130,.own 5131,.sel 0 [.loc 13 1,.ela 5130 5 (r17.2.2.2.1.1.length) 2,.ela 5130 5 (r17.2.2.2.1.1.length) 3,.ela 5135 2 (r17.2.2.2.2.2.1.1.length) 1],Y r17.2.2.1] Z ⟨.rfl,.rfl,(.sel Z Z),.rfl,trivial⟩ Z ?_
       exact zE5 (0,r17.2.2.1,r17.2.2.2.1,r17.2.2.2.2.1,r17.2.2.2.2.2.2.2.1,r17.2.2.2.2.2.2.2.2.1,r17.2.2.2.2.2.2.2.2.2.1,r17.2.2.2.2.2.1,r17.2.2.2.2.2.2.1,r17.2.2.2.2.2.2.2.2.2.2,(l13++[r18.1])) ⟨Z,Z,Z,Z,Z,Z,Z,Z,Z,Z,Z,trivial⟩ Z
     ·refine zHf (E':=[(2,.loc 2 0),(3,.loc 3 0),(4,.loc 4 0),(22,D y14),(5,D r16),(23,D y14),(24,D r16),(25,D r16),(26,O (r16==([]:Bs))),(27,O false),(28,.loc 13 0),(29,D r16),(30,O r17.1),(31,O r17.1)]) (S':=[(13,.box 80 [.own 5130,.own 5131,.ela 5130 5 (r17.2.2.2.1.1.length) 2,Y r17.2.2.1]),(5130,.box 51 [pfx 5 (r17.2.2.2.1.1.map zAF) r17.2.2.2.1.2,O r17.2.2.2.2.1,.own 5132,.own 5133,.own 5134,.own 5135]),(5131,.arr 43 7 (l13.map cOp)),(5135,.box 54 [pfx 2 (r17.2.2.2.2.2.1.1.map zAU) r17.2.2.2.2.2.1.2,Y r17.2.2.2.2.2.2.1,.own 5136]),(5132,.arr 9 1 (r17.2.2.2.2.2.2.2.1.map cStr)),(5133,.arr 43 7 (r17.2.2.2.2.2.2.2.2.1.map cOp)),(5134,.arr 43 7 (r17.2.2.2.2.2.2.2.2.2.1.map cOp)),(5136,.arr 43 7 (r17.2.2.2.2.2.2.2.2.2.2.map cOp)),(4,.box 77 [.loc 13 0]),(3,.box 28 [Y 0]),(2,.box 25 [.v (.slice none 0 0),.v (.slice none 0 0)])]) Z Z ?_
      refine su [(2,.loc 2 0),(3,.loc 3 0),(4,.loc 4 0),(22,D y14),(5,D r16),(23,D y14),(24,D r16),(25,D r16),(26,O (r16==([]:Bs))),(27,O false),(28,.loc 13 0),(29,D r16),(30,O r17.1),(31,O r17.1)] [(13,.box 80 [.own 5130,.own 5131,.ela 5130 5 (r17.2.2.2.1.1.length) 2,Y r17.2.2.1]),(5130,.box 51 [pfx 5 (r17.2.2.2.1.1.map zAF) r17.2.2.2.1.2,O r17.2.2.2.2.1,.own 5132,.own 5133,.own 5134,.own 5135]),(5131,.arr 43 7 (l13.map cOp)),(5135,.box 54 [pfx 2 (r17.2.2.2.2.2.1.1.map zAU) r17.2.2.2.2.2.1.2,Y r17.2.2.2.2.2.2.1,.own 5136]),(5132,.arr 9 1 (r17.2.2.2.2.2.2.2.1.map cStr)),(5133,.arr 43 7 (r17.2.2.2.2.2.2.2.2.1.map cOp)),(5134,.arr 43 7 (r17.2.2.2.2.2.2.2.2.2.1.map cOp)),(5136,.arr 43 7 (r17.2.2.2.2.2.2.2.2.2.2.map cOp)),(4,.box 77 [.loc 13 0]),(3,.box 28 [Y 0]),(2,.box 25 [.v (.slice none 0 0),.v (.slice none 0 0)])] ?_
      refine zMb (fun b_=>[(2,.loc 2 0),(3,.loc 3 0),(4,.loc 4 0),(22,D y14),(5,D r16),(23,D y14),(24,D r16),(25,D r16),(26,O (r16==([]:Bs))),(27,O false),(28,.loc 13 0),(29,D r16),(30,O r17.1),(31,O r17.1)]) (fun b_=>[(13,.box 80 [.own 5130,.own 5131,.ela 5130 5 (r17.2.2.2.1.1.length) 2,Y r17.2.2.1]),(5130,.box 51 [pfx 5 (r17.2.2.2.1.1.map zAF) b_,O r17.2.2.2.2.1,.own 5132,.own 5133,.own 5134,.own 5135]),(5131,.arr 43 7 (l13.map cOp)),(5135,.box 54 [pfx 2 (r17.2.2.2.2.2.1.1.map zAU) r17.2.2.2.2.2.1.2,Y r17.2.2.2.2.2.2.1,.own 5136]),(5132,.arr 9 1 (r17.2.2.2.2.2.2.2.1.map cStr)),(5133,.arr 43 7 (r17.2.2.2.2.2.2.2.2.1.map cOp)),(5134,.arr 43 7 (r17.2.2.2.2.2.2.2.2.2.1.map cOp)),(5136,.arr 43 7 (r17.2.2.2.2.2.2.2.2.2.2.map cOp)),(4,.box 77 [.loc 13 0]),(3,.box 28 [Y 0]),(2,.box 25 [.v (.slice none 0 0),.v (.slice none 0 0)])]) r17.2.2.2.1.2 ?_
      refine su [(2,.loc 2 0),(3,.loc 3 0),(4,.loc 4 0),(5,D r16)] [(13,.box 80 [.own 5130,.own 5131,.ela 5130 5 (r17.2.2.2.1.1.length) 2,Y r17.2.2.1]),(5130,.box 51 [pfx 5 (r17.2.2.2.1.1.map zAF) true,O r17.2.2.2.2.1,.own 5132,.own 5133,.own 5134,.own 5135]),(5131,.arr 43 7 (l13.map cOp)),(5135,.box 54 [pfx 2 (r17.2.2.2.2.2.1.1.map zAU) r17.2.2.2.2.2.1.2,Y r17.2.2.2.2.2.2.1,.own 5136]),(5132,.arr 9 1 (r17.2.2.2.2.2.2.2.1.map cStr)),(5133,.arr 43 7 (r17.2.2.2.2.2.2.2.2.1.map cOp)),(5134,.arr 43 7 (r17.2.2.2.2.2.2.2.2.2.1.map cOp)),(5136,.arr 43 7 (r17.2.2.2.2.2.2.2.2.2.2.map cOp)),(4,.box 77 [.loc 13 0]),(3,.box 28 [Y 0]),(2,.box 25 [.v (.slice none 0 0),.v (.slice none 0 0)])] ?_
      refine zBA [0,1,3,7,15,31,63,0,128,384,896,2047] mixed (by kernel_rfl) (by kernel_rfl) Z Z ?_
      refine vf [8,9] [64] [] [4,13] [4] [(32,.loc 13 0)] [(4,.box 77 [.loc 13 0])] ?_
      refine ve [64] [66] [13] [(33,.loc 13 0)] ?_
      refine ve [66] [68] [13] [(34,.loc 13 2)] ?_
      refine vf [27,68] [70] [] [13,5130,5131] [13] [(35,.ela 5130 5 (r17.2.2.2.1.1.length) 2)] [(13,.box 80 [.own 5130,.own 5131,.ela 5130 5 (r17.2.2.2.1.1.length) 2,Y r17.2.2.1])] ?_
      refine ve [70] [72] [5130] [(36,.ela 5130 5 (r17.2.2.2.1.1.length) 2)] ?_
      refine vs [72,10261] [74] [] [5130,5132,5133,5134,5135] [5130] [(37,.own 5133)] [(5130,.box 51 [pfx 5 (r17.2.2.2.1.1.map zAF) true,O r17.2.2.2.2.1,.own 5132,.own 5133,.own 5134,.own 5135])] Z Z (fun w0 X X0 σ0 _=>by refine zBs (T:=tab) (by simp) Z Z Z Z Z Z Z Z ?_;exact py) ?_
      refine vs [74,10267] [76] [] [5133] [5133] [(38,Y ((r17.2.2.2.2.2.2.2.2.1.length:Nat):Int))] [(5133,.arr 43 7 (r17.2.2.2.2.2.2.2.2.1.map cOp))] Z Z (fun w0 X X0 σ0 _=>by refine zCT (T:=tab) cOp r17.2.2.2.2.2.2.2.2.1 Z Z Z Z Z Z Z Z Z ?_;exact py) ?_
      refine vf [8,9] [78] [] [4,13] [4] [(39,.loc 13 0)] [(4,.box 77 [.loc 13 0])] ?_
      refine ve [78] [80] [13] [(40,.loc 13 0)] ?_
      refine ve [80] [82] [13] [(41,.loc 13 3)] ?_
      refine vf [27,82] [84] [] [13,5130,5131] [13] [(42,Y r17.2.2.1)] [(13,.box 80 [.own 5130,.own 5131,.ela 5130 5 (r17.2.2.2.1.1.length) 2,Y r17.2.2.1])] ?_
      refine ve [76,84] [86] [] [(43,O (((r17.2.2.2.2.2.2.2.2.1.length:Nat):Int)==r17.2.2.1))] ?_
      refine zBS Z Z ?_
      refine zAA ?_
      refine zAN Z ?_ ?_
      ·refine sr ?_
       refine zAr (T:=tab) Z Z Z Z Z Z Z ?_
       refine zAM (T:=tab) Z Z Z Z Z Z Z Z Z Z Z Z ?_
       refine zAM (T:=tab) Z Z Z Z Z Z Z Z Z Z Z Z ?_
       refine ns ?_
       refine zEK 2 [.sl 5 false ([].map zAF),.sl 7 false ([].map cOp)] Z ⟨.nil,.nil,trivial⟩ Z ?_
       exact zG1 Z ⟨Z,Z,trivial⟩ Z
      ·refine zAD (zAA (sr (pq 1 Z ?_)))
       refine pc (zFZ fu r16) zL1 Z Z Z Z fun r19 hr19=>?_
       refine pq 3 Z ?_
       refine zA9 (T:=tab) 6 Z Z Z Z Z Z Z Z Z ?_
       refine zAM (T:=tab) Z Z Z Z Z Z Z Z Z Z Z Z ?_
       refine pq 1 Z (ns ?_)
       refine su [(2,.loc 2 0),(3,.loc 3 0),(4,.loc 4 0),(6,.loc 6 0)] [(6,.box 43 [Y r19.1.Kind,Y r19.1.A,Y r19.1.B,Y r19.1.C,D r19.1.S,D r19.1.T,O r19.1.Must]),(13,.box 80 [.own 5130,.own 5131,.ela 5130 5 (r17.2.2.2.1.1.length) 2,Y r17.2.2.1]),(5130,.box 51 [pfx 5 (r17.2.2.2.1.1.map zAF) true,O r17.2.2.2.2.1,.own 5132,.own 5133,.own 5134,.own 5135]),(5131,.arr 43 7 (l13.map cOp)),(5135,.box 54 [pfx 2 (r17.2.2.2.2.2.1.1.map zAU) r17.2.2.2.2.2.1.2,Y r17.2.2.2.2.2.2.1,.own 5136]),(5132,.arr 9 1 (r17.2.2.2.2.2.2.2.1.map cStr)),(5133,.arr 43 7 (r17.2.2.2.2.2.2.2.2.1.map cOp)),(5134,.arr 43 7 (r17.2.2.2.2.2.2.2.2.2.1.map cOp)),(5136,.arr 43 7 (r17.2.2.2.2.2.2.2.2.2.2.map cOp)),(4,.box 77 [.loc 13 0]),(3,.box 28 [Y 0]),(2,.box 25 [.v (.slice none 0 0),.v (.slice none 0 0)])] ?_
       refine zBA [0,1,3,7,0,16,48,112,240,496,0,1024,4080,8191,16383] mixed (by kernel_rfl) (by kernel_rfl) Z Z ?_
       refine vf [8,9] [100] [] [4,13] [4] [(50,.loc 13 0)] [(4,.box 77 [.loc 13 0])] ?_
       refine ve [100] [102] [13] [(51,.loc 13 0)] ?_
       refine ve [102] [104] [13] [(52,.loc 13 2)] ?_
       refine vf [27,104] [106] [] [13,5130,5131] [13] [(53,.ela 5130 5 (r17.2.2.2.1.1.length) 2)] [(13,.box 80 [.own 5130,.own 5131,.ela 5130 5 (r17.2.2.2.1.1.length) 2,Y r17.2.2.1])] ?_
       refine vf [8,9] [108] [] [4,13] [4] [(54,.loc 13 0)] [(4,.box 77 [.loc 13 0])] ?_
       refine ve [108] [110] [13] [(55,.loc 13 0)] ?_
       refine ve [110] [112] [13] [(56,.loc 13 2)] ?_
       refine vf [27,112] [114] [] [13,5130,5131] [13] [(57,.ela 5130 5 (r17.2.2.2.1.1.length) 2)] [(13,.box 80 [.own 5130,.own 5131,.ela 5130 5 (r17.2.2.2.1.1.length) 2,Y r17.2.2.1])] ?_
       refine ve [114] [116] [5130] [(58,.ela 5130 5 (r17.2.2.2.1.1.length) 2)] ?_
       refine vs [116,10261] [118] [] [5130,5132,5133,5134,5135] [5130] [(59,.own 5133)] [(5130,.box 51 [pfx 5 (r17.2.2.2.1.1.map zAF) true,O r17.2.2.2.2.1,.own 5132,.own 5133,.own 5134,.own 5135])] Z Z (fun w0 X X0 σ0 _=>by refine zBs (T:=tab) (by simp) Z Z Z Z Z Z Z Z ?_;exact py) ?_
       refine vf [12,13] [120] [] [6] [6] [(60,.agg (cOp r19.1))] [(6,.box 43 [Y r19.1.Kind,Y r19.1.A,Y r19.1.B,Y r19.1.C,D r19.1.S,D r19.1.T,O r19.1.Must])] ?_
       refine vs [120] [122,123] [61] [] [] [(61,.own 61)] [(61,.arr 43 7 ([r19.1].map cOp))] Z Z (fun w0 X X0 σ0 _=>by refine zDD (T:=tab) (rows:=[r19.1].map cOp) 61 Z Z Z Z Z Z Z Z Z Z Z Z Z Z ?_;exact py) ?_
       refine vt (zDG 72 (r17.2.2.2.2.2.2.2.2.1.length+([r19.1]:List Op).length)) [(124,[5133]),(118,[]),(10261,[5132,5134,5135]),(10267,[])] [118,122,123,10261,10267] [124,118,10261,10267] [5133] [61,5130,5132,5134,5135] [61] (fun _=>[(62,.own 5133)]) (fun _=>[(5130,.box 51 [pfx 5 (r17.2.2.2.1.1.map zAF) true,O r17.2.2.2.2.1,.own 5132,.junk,.own 5134,.own 5135]),(5133,.arr 43 7 ((r17.2.2.2.2.2.2.2.2.1++[r19.1]).map cOp)),(61,.arr 43 7 ([r19.1].map cOp))]) Z Z (fun _=>Z) (fun w0 X X0 σ0 _=>by refine zCl (T:=tab) cOp r17.2.2.2.2.2.2.2.2.1 ([r19.1]:List Op) Z Z Z Z Z Z Z Z Z Z Z Z Z Z (zGn _) Z Z Z Z Z ?_;exact pz) fun _ h0=>?_
       refine ve [106] [126] [5130] [(63,.ela 5130 5 (r17.2.2.2.1.1.length) 2)] ?_
       refine vs [124,126,10261,10267] [10261] [] [5130,5132,5133,5134,5135] [5133] [] [(5130,.box 51 [pfx 5 (r17.2.2.2.1.1.map zAF) true,O r17.2.2.2.2.1,.own 5132,.own 5133,.own 5134,.own 5135]),(5133,.arr 43 7 ((r17.2.2.2.2.2.2.2.2.1++[r19.1]).map cOp))] Z Z (fun w0 X X0 σ0 _=>by refine zDp (T:=tab) (by simp) Z Z Z Z Z Z Z Z Z Z Z Z ?_;exact py) ?_
       refine zBS Z Z ?_
       refine zAK ?_
       refine zEZ 13 [.own 5130,.own 5131,.sel 1 [.loc 13 1,.ela 5130 5 (r17.2.2.2.1.1.length) 2,.ela 5130 5 (r17.2.2.2.1.1.length) 3,.ela 5135 2 (r17.2.2.2.2.2.1.1.length) 1],Y r17.2.2.1] Z ⟨.rfl,.rfl,(.sel Z Z),.rfl,trivial⟩ Z ?_
       exact zE5 (1,r17.2.2.1,(r17.2.2.2.1.1,true),r17.2.2.2.2.1,r17.2.2.2.2.2.2.2.1,(r17.2.2.2.2.2.2.2.2.1++[r19.1]),r17.2.2.2.2.2.2.2.2.2.1,r17.2.2.2.2.2.1,r17.2.2.2.2.2.2.1,r17.2.2.2.2.2.2.2.2.2.2,l13) ⟨Z,Z,Z,Z,Z,Z,Z,Z,Z,Z,Z,trivial⟩ Z
     ·refine zHf (E':=[(2,.loc 2 0),(3,.loc 3 0),(4,.loc 4 0),(22,D y14),(5,D r16),(23,D y14),(24,D r16),(25,D r16),(26,O (r16==([]:Bs))),(27,O false),(28,.loc 13 0),(29,D r16),(30,O r17.1),(31,O r17.1)]) (S':=[(13,.box 80 [.own 5130,.own 5131,.ela 5130 5 (r17.2.2.2.1.1.length) 3,Y r17.2.2.1]),(5130,.box 51 [pfx 5 (r17.2.2.2.1.1.map zAF) r17.2.2.2.1.2,O r17.2.2.2.2.1,.own 5132,.own 5133,.own 5134,.own 5135]),(5131,.arr 43 7 (l13.map cOp)),(5135,.box 54 [pfx 2 (r17.2.2.2.2.2.1.1.map zAU) r17.2.2.2.2.2.1.2,Y r17.2.2.2.2.2.2.1,.own 5136]),(5132,.arr 9 1 (r17.2.2.2.2.2.2.2.1.map cStr)),(5133,.arr 43 7 (r17.2.2.2.2.2.2.2.2.1.map cOp)),(5134,.arr 43 7 (r17.2.2.2.2.2.2.2.2.2.1.map cOp)),(5136,.arr 43 7 (r17.2.2.2.2.2.2.2.2.2.2.map cOp)),(4,.box 77 [.loc 13 0]),(3,.box 28 [Y 0]),(2,.box 25 [.v (.slice none 0 0),.v (.slice none 0 0)])]) Z Z ?_
      refine su [(2,.loc 2 0),(3,.loc 3 0),(4,.loc 4 0),(22,D y14),(5,D r16),(23,D y14),(24,D r16),(25,D r16),(26,O (r16==([]:Bs))),(27,O false),(28,.loc 13 0),(29,D r16),(30,O r17.1),(31,O r17.1)] [(13,.box 80 [.own 5130,.own 5131,.ela 5130 5 (r17.2.2.2.1.1.length) 3,Y r17.2.2.1]),(5130,.box 51 [pfx 5 (r17.2.2.2.1.1.map zAF) r17.2.2.2.1.2,O r17.2.2.2.2.1,.own 5132,.own 5133,.own 5134,.own 5135]),(5131,.arr 43 7 (l13.map cOp)),(5135,.box 54 [pfx 2 (r17.2.2.2.2.2.1.1.map zAU) r17.2.2.2.2.2.1.2,Y r17.2.2.2.2.2.2.1,.own 5136]),(5132,.arr 9 1 (r17.2.2.2.2.2.2.2.1.map cStr)),(5133,.arr 43 7 (r17.2.2.2.2.2.2.2.2.1.map cOp)),(5134,.arr 43 7 (r17.2.2.2.2.2.2.2.2.2.1.map cOp)),(5136,.arr 43 7 (r17.2.2.2.2.2.2.2.2.2.2.map cOp)),(4,.box 77 [.loc 13 0]),(3,.box 28 [Y 0]),(2,.box 25 [.v (.slice none 0 0),.v (.slice none 0 0)])] ?_
      refine zMb (fun b_=>[(2,.loc 2 0),(3,.loc 3 0),(4,.loc 4 0),(22,D y14),(5,D r16),(23,D y14),(24,D r16),(25,D r16),(26,O (r16==([]:Bs))),(27,O false),(28,.loc 13 0),(29,D r16),(30,O r17.1),(31,O r17.1)]) (fun b_=>[(13,.box 80 [.own 5130,.own 5131,.ela 5130 5 (r17.2.2.2.1.1.length) 3,Y r17.2.2.1]),(5130,.box 51 [pfx 5 (r17.2.2.2.1.1.map zAF) b_,O r17.2.2.2.2.1,.own 5132,.own 5133,.own 5134,.own 5135]),(5131,.arr 43 7 (l13.map cOp)),(5135,.box 54 [pfx 2 (r17.2.2.2.2.2.1.1.map zAU) r17.2.2.2.2.2.1.2,Y r17.2.2.2.2.2.2.1,.own 5136]),(5132,.arr 9 1 (r17.2.2.2.2.2.2.2.1.map cStr)),(5133,.arr 43 7 (r17.2.2.2.2.2.2.2.2.1.map cOp)),(5134,.arr 43 7 (r17.2.2.2.2.2.2.2.2.2.1.map cOp)),(5136,.arr 43 7 (r17.2.2.2.2.2.2.2.2.2.2.map cOp)),(4,.box 77 [.loc 13 0]),(3,.box 28 [Y 0]),(2,.box 25 [.v (.slice none 0 0),.v (.slice none 0 0)])]) r17.2.2.2.1.2 ?_
      refine su [(2,.loc 2 0),(3,.loc 3 0),(4,.loc 4 0),(5,D r16)] [(13,.box 80 [.own 5130,.own 5131,.ela 5130 5 (r17.2.2.2.1.1.length) 3,Y r17.2.2.1]),(5130,.box 51 [pfx 5 (r17.2.2.2.1.1.map zAF) true,O r17.2.2.2.2.1,.own 5132,.own 5133,.own 5134,.own 5135]),(5131,.arr 43 7 (l13.map cOp)),(5135,.box 54 [pfx 2 (r17.2.2.2.2.2.1.1.map zAU) r17.2.2.2.2.2.1.2,Y r17.2.2.2.2.2.2.1,.own 5136]),(5132,.arr 9 1 (r17.2.2.2.2.2.2.2.1.map cStr)),(5133,.arr 43 7 (r17.2.2.2.2.2.2.2.2.1.map cOp)),(5134,.arr 43 7 (r17.2.2.2.2.2.2.2.2.2.1.map cOp)),(5136,.arr 43 7 (r17.2.2.2.2.2.2.2.2.2.2.map cOp)),(4,.box 77 [.loc 13 0]),(3,.box 28 [Y 0]),(2,.box 25 [.v (.slice none 0 0),.v (.slice none 0 0)])] ?_
      refine zBA [0,1,3,7,15,31,63,0,128,384,896,2047] mixed (by kernel_rfl) (by kernel_rfl) Z Z ?_
      refine vf [8,9] [64] [] [4,13] [4] [(32,.loc 13 0)] [(4,.box 77 [.loc 13 0])] ?_
      refine ve [64] [66] [13] [(33,.loc 13 0)] ?_
      refine ve [66] [68] [13] [(34,.loc 13 2)] ?_
      refine vf [27,68] [70] [] [13,5130,5131] [13] [(35,.ela 5130 5 (r17.2.2.2.1.1.length) 3)] [(13,.box 80 [.own 5130,.own 5131,.ela 5130 5 (r17.2.2.2.1.1.length) 3,Y r17.2.2.1])] ?_
      refine ve [70] [72] [5130] [(36,.ela 5130 5 (r17.2.2.2.1.1.length) 3)] ?_
      refine vs [72,10261] [74] [] [5130,5132,5133,5134,5135] [5130] [(37,.own 5134)] [(5130,.box 51 [pfx 5 (r17.2.2.2.1.1.map zAF) true,O r17.2.2.2.2.1,.own 5132,.own 5133,.own 5134,.own 5135])] Z Z (fun w0 X X0 σ0 _=>by refine zBs (T:=tab) (by simp) Z Z Z Z Z Z Z Z ?_;exact py) ?_
      refine vs [74,10269] [76] [] [5134] [5134] [(38,Y ((r17.2.2.2.2.2.2.2.2.2.1.length:Nat):Int))] [(5134,.arr 43 7 (r17.2.2.2.2.2.2.2.2.2.1.map cOp))] Z Z (fun w0 X X0 σ0 _=>by refine zCT (T:=tab) cOp r17.2.2.2.2.2.2.2.2.2.1 Z Z Z Z Z Z Z Z Z ?_;exact py) ?_
      refine vf [8,9] [78] [] [4,13] [4] [(39,.loc 13 0)] [(4,.box 77 [.loc 13 0])] ?_
      refine ve [78] [80] [13] [(40,.loc 13 0)] ?_
      refine ve [80] [82] [13] [(41,.loc 13 3)] ?_
      refine vf [27,82] [84] [] [13,5130,5131] [13] [(42,Y r17.2.2.1)] [(13,.box 80 [.own 5130,.own 5131,.ela 5130 5 (r17.2.2.2.1.1.length) 3,Y r17.2.2.1])] ?_
      refine ve [76,84] [86] [] [(43,O (((r17.2.2.2.2.2.2.2.2.2.1.length:Nat):Int)==r17.2.2.1))] ?_
      refine zBS Z Z ?_
      refine zAA ?_
      refine zAN Z ?_ ?_
      ·refine sr ?_
       refine zAr (T:=tab) Z Z Z Z Z Z Z ?_
       refine zAM (T:=tab) Z Z Z Z Z Z Z Z Z Z Z Z ?_
       refine zAM (T:=tab) Z Z Z Z Z Z Z Z Z Z Z Z ?_
       refine ns ?_
       refine zEK 2 [.sl 5 false ([].map zAF),.sl 7 false ([].map cOp)] Z ⟨.nil,.nil,trivial⟩ Z ?_
       exact zG1 Z ⟨Z,Z,trivial⟩ Z
      ·refine zAD (zAA (sr (pq 1 Z ?_)))
       refine pc (zFZ fu r16) zL1 Z Z Z Z fun r20 hr20=>?_
       refine pq 3 Z ?_
       refine zA9 (T:=tab) 6 Z Z Z Z Z Z Z Z Z ?_
       refine zAM (T:=tab) Z Z Z Z Z Z Z Z Z Z Z Z ?_
       refine pq 1 Z (ns ?_)
       refine su [(2,.loc 2 0),(3,.loc 3 0),(4,.loc 4 0),(6,.loc 6 0)] [(6,.box 43 [Y r20.1.Kind,Y r20.1.A,Y r20.1.B,Y r20.1.C,D r20.1.S,D r20.1.T,O r20.1.Must]),(13,.box 80 [.own 5130,.own 5131,.ela 5130 5 (r17.2.2.2.1.1.length) 3,Y r17.2.2.1]),(5130,.box 51 [pfx 5 (r17.2.2.2.1.1.map zAF) true,O r17.2.2.2.2.1,.own 5132,.own 5133,.own 5134,.own 5135]),(5131,.arr 43 7 (l13.map cOp)),(5135,.box 54 [pfx 2 (r17.2.2.2.2.2.1.1.map zAU) r17.2.2.2.2.2.1.2,Y r17.2.2.2.2.2.2.1,.own 5136]),(5132,.arr 9 1 (r17.2.2.2.2.2.2.2.1.map cStr)),(5133,.arr 43 7 (r17.2.2.2.2.2.2.2.2.1.map cOp)),(5134,.arr 43 7 (r17.2.2.2.2.2.2.2.2.2.1.map cOp)),(5136,.arr 43 7 (r17.2.2.2.2.2.2.2.2.2.2.map cOp)),(4,.box 77 [.loc 13 0]),(3,.box 28 [Y 0]),(2,.box 25 [.v (.slice none 0 0),.v (.slice none 0 0)])] ?_
       refine zBA [0,1,3,7,0,16,48,112,240,496,0,1024,4080,8191,16383] mixed (by kernel_rfl) (by kernel_rfl) Z Z ?_
       refine vf [8,9] [100] [] [4,13] [4] [(50,.loc 13 0)] [(4,.box 77 [.loc 13 0])] ?_
       refine ve [100] [102] [13] [(51,.loc 13 0)] ?_
       refine ve [102] [104] [13] [(52,.loc 13 2)] ?_
       refine vf [27,104] [106] [] [13,5130,5131] [13] [(53,.ela 5130 5 (r17.2.2.2.1.1.length) 3)] [(13,.box 80 [.own 5130,.own 5131,.ela 5130 5 (r17.2.2.2.1.1.length) 3,Y r17.2.2.1])] ?_
       refine vf [8,9] [108] [] [4,13] [4] [(54,.loc 13 0)] [(4,.box 77 [.loc 13 0])] ?_
       refine ve [108] [110] [13] [(55,.loc 13 0)] ?_
       refine ve [110] [112] [13] [(56,.loc 13 2)] ?_
       refine vf [27,112] [114] [] [13,5130,5131] [13] [(57,.ela 5130 5 (r17.2.2.2.1.1.length) 3)] [(13,.box 80 [.own 5130,.own 5131,.ela 5130 5 (r17.2.2.2.1.1.length) 3,Y r17.2.2.1])] ?_
       refine ve [114] [116] [5130] [(58,.ela 5130 5 (r17.2.2.2.1.1.length) 3)] ?_
       refine vs [116,10261] [118] [] [5130,5132,5133,5134,5135] [5130] [(59,.own 5134)] [(5130,.box 51 [pfx 5 (r17.2.2.2.1.1.map zAF) true,O r17.2.2.2.2.1,.own 5132,.own 5133,.own 5134,.own 5135])] Z Z (fun w0 X X0 σ0 _=>by refine zBs (T:=tab) (by simp) Z Z Z Z Z Z Z Z ?_;exact py) ?_
       refine vf [12,13] [120] [] [6] [6] [(60,.agg (cOp r20.1))] [(6,.box 43 [Y r20.1.Kind,Y r20.1.A,Y r20.1.B,Y r20.1.C,D r20.1.S,D r20.1.T,O r20.1.Must])] ?_
       refine vs [120] [122,123] [61] [] [] [(61,.own 61)] [(61,.arr 43 7 ([r20.1].map cOp))] Z Z (fun w0 X X0 σ0 _=>by refine zDD (T:=tab) (rows:=[r20.1].map cOp) 61 Z Z Z Z Z Z Z Z Z Z Z Z Z Z ?_;exact py) ?_
       refine vt (zDG 72 (r17.2.2.2.2.2.2.2.2.2.1.length+([r20.1]:List Op).length)) [(124,[5134]),(118,[]),(10261,[5132,5133,5135]),(10269,[])] [118,122,123,10261,10269] [124,118,10261,10269] [5134] [61,5130,5132,5133,5135] [61] (fun _=>[(62,.own 5134)]) (fun _=>[(5130,.box 51 [pfx 5 (r17.2.2.2.1.1.map zAF) true,O r17.2.2.2.2.1,.own 5132,.own 5133,.junk,.own 5135]),(5134,.arr 43 7 ((r17.2.2.2.2.2.2.2.2.2.1++[r20.1]).map cOp)),(61,.arr 43 7 ([r20.1].map cOp))]) Z Z (fun _=>Z) (fun w0 X X0 σ0 _=>by refine zCl (T:=tab) cOp r17.2.2.2.2.2.2.2.2.2.1 ([r20.1]:List Op) Z Z Z Z Z Z Z Z Z Z Z Z Z Z (zGn _) Z Z Z Z Z ?_;exact pz) fun _ h0=>?_
       refine ve [106] [126] [5130] [(63,.ela 5130 5 (r17.2.2.2.1.1.length) 3)] ?_
       refine vs [124,126,10261,10269] [10261] [] [5130,5132,5133,5134,5135] [5134] [] [(5130,.box 51 [pfx 5 (r17.2.2.2.1.1.map zAF) true,O r17.2.2.2.2.1,.own 5132,.own 5133,.own 5134,.own 5135]),(5134,.arr 43 7 ((r17.2.2.2.2.2.2.2.2.2.1++[r20.1]).map cOp))] Z Z (fun w0 X X0 σ0 _=>by refine zDp (T:=tab) (by simp) Z Z Z Z Z Z Z Z Z Z Z Z ?_;exact py) ?_
       refine zBS Z Z ?_
       refine zAK ?_
       refine zEZ 13 [.own 5130,.own 5131,.sel 2 [.loc 13 1,.ela 5130 5 (r17.2.2.2.1.1.length) 2,.ela 5130 5 (r17.2.2.2.1.1.length) 3,.ela 5135 2 (r17.2.2.2.2.2.1.1.length) 1],Y r17.2.2.1] Z ⟨.rfl,.rfl,(.sel Z Z),.rfl,trivial⟩ Z ?_
       exact zE5 (2,r17.2.2.1,(r17.2.2.2.1.1,true),r17.2.2.2.2.1,r17.2.2.2.2.2.2.2.1,r17.2.2.2.2.2.2.2.2.1,(r17.2.2.2.2.2.2.2.2.2.1++[r20.1]),r17.2.2.2.2.2.1,r17.2.2.2.2.2.2.1,r17.2.2.2.2.2.2.2.2.2.2,l13) ⟨Z,Z,Z,Z,Z,Z,Z,Z,Z,Z,Z,trivial⟩ Z
     ·refine zHf (E':=[(2,.loc 2 0),(3,.loc 3 0),(4,.loc 4 0),(22,D y14),(5,D r16),(23,D y14),(24,D r16),(25,D r16),(26,O (r16==([]:Bs))),(27,O false),(28,.loc 13 0),(29,D r16),(30,O r17.1),(31,O r17.1)]) (S':=[(13,.box 80 [.own 5130,.own 5131,.ela 5135 2 (r17.2.2.2.2.2.1.1.length) 1,Y r17.2.2.1]),(5130,.box 51 [pfx 5 (r17.2.2.2.1.1.map zAF) r17.2.2.2.1.2,O r17.2.2.2.2.1,.own 5132,.own 5133,.own 5134,.own 5135]),(5131,.arr 43 7 (l13.map cOp)),(5135,.box 54 [pfx 2 (r17.2.2.2.2.2.1.1.map zAU) r17.2.2.2.2.2.1.2,Y r17.2.2.2.2.2.2.1,.own 5136]),(5132,.arr 9 1 (r17.2.2.2.2.2.2.2.1.map cStr)),(5133,.arr 43 7 (r17.2.2.2.2.2.2.2.2.1.map cOp)),(5134,.arr 43 7 (r17.2.2.2.2.2.2.2.2.2.1.map cOp)),(5136,.arr 43 7 (r17.2.2.2.2.2.2.2.2.2.2.map cOp)),(4,.box 77 [.loc 13 0]),(3,.box 28 [Y 0]),(2,.box 25 [.v (.slice none 0 0),.v (.slice none 0 0)])]) Z Z ?_
      refine su [(2,.loc 2 0),(3,.loc 3 0),(4,.loc 4 0),(22,D y14),(5,D r16),(23,D y14),(24,D r16),(25,D r16),(26,O (r16==([]:Bs))),(27,O false),(28,.loc 13 0),(29,D r16),(30,O r17.1),(31,O r17.1)] [(13,.box 80 [.own 5130,.own 5131,.ela 5135 2 (r17.2.2.2.2.2.1.1.length) 1,Y r17.2.2.1]),(5130,.box 51 [pfx 5 (r17.2.2.2.1.1.map zAF) r17.2.2.2.1.2,O r17.2.2.2.2.1,.own 5132,.own 5133,.own 5134,.own 5135]),(5131,.arr 43 7 (l13.map cOp)),(5135,.box 54 [pfx 2 (r17.2.2.2.2.2.1.1.map zAU) r17.2.2.2.2.2.1.2,Y r17.2.2.2.2.2.2.1,.own 5136]),(5132,.arr 9 1 (r17.2.2.2.2.2.2.2.1.map cStr)),(5133,.arr 43 7 (r17.2.2.2.2.2.2.2.2.1.map cOp)),(5134,.arr 43 7 (r17.2.2.2.2.2.2.2.2.2.1.map cOp)),(5136,.arr 43 7 (r17.2.2.2.2.2.2.2.2.2.2.map cOp)),(4,.box 77 [.loc 13 0]),(3,.box 28 [Y 0]),(2,.box 25 [.v (.slice none 0 0),.v (.slice none 0 0)])] ?_
      refine zMb (fun b_=>[(2,.loc 2 0),(3,.loc 3 0),(4,.loc 4 0),(22,D y14),(5,D r16),(23,D y14),(24,D r16),(25,D r16),(26,O (r16==([]:Bs))),(27,O false),(28,.loc 13 0),(29,D r16),(30,O r17.1),(31,O r17.1)]) (fun b_=>[(13,.box 80 [.own 5130,.own 5131,.ela 5135 2 (r17.2.2.2.2.2.1.1.length) 1,Y r17.2.2.1]),(5130,.box 51 [pfx 5 (r17.2.2.2.1.1.map zAF) r17.2.2.2.1.2,O r17.2.2.2.2.1,.own 5132,.own 5133,.own 5134,.own 5135]),(5131,.arr 43 7 (l13.map cOp)),(5135,.box 54 [pfx 2 (r17.2.2.2.2.2.1.1.map zAU) b_,Y r17.2.2.2.2.2.2.1,.own 5136]),(5132,.arr 9 1 (r17.2.2.2.2.2.2.2.1.map cStr)),(5133,.arr 43 7 (r17.2.2.2.2.2.2.2.2.1.map cOp)),(5134,.arr 43 7 (r17.2.2.2.2.2.2.2.2.2.1.map cOp)),(5136,.arr 43 7 (r17.2.2.2.2.2.2.2.2.2.2.map cOp)),(4,.box 77 [.loc 13 0]),(3,.box 28 [Y 0]),(2,.box 25 [.v (.slice none 0 0),.v (.slice none 0 0)])]) r17.2.2.2.2.2.1.2 ?_
      refine su [(2,.loc 2 0),(3,.loc 3 0),(4,.loc 4 0),(5,D r16)] [(13,.box 80 [.own 5130,.own 5131,.ela 5135 2 (r17.2.2.2.2.2.1.1.length) 1,Y r17.2.2.1]),(5130,.box 51 [pfx 5 (r17.2.2.2.1.1.map zAF) r17.2.2.2.1.2,O r17.2.2.2.2.1,.own 5132,.own 5133,.own 5134,.own 5135]),(5131,.arr 43 7 (l13.map cOp)),(5135,.box 54 [pfx 2 (r17.2.2.2.2.2.1.1.map zAU) true,Y r17.2.2.2.2.2.2.1,.own 5136]),(5132,.arr 9 1 (r17.2.2.2.2.2.2.2.1.map cStr)),(5133,.arr 43 7 (r17.2.2.2.2.2.2.2.2.1.map cOp)),(5134,.arr 43 7 (r17.2.2.2.2.2.2.2.2.2.1.map cOp)),(5136,.arr 43 7 (r17.2.2.2.2.2.2.2.2.2.2.map cOp)),(4,.box 77 [.loc 13 0]),(3,.box 28 [Y 0]),(2,.box 25 [.v (.slice none 0 0),.v (.slice none 0 0)])] ?_
      refine zBA [0,1,3,7,15,31,63,0,128,384,896,2047] mixed (by kernel_rfl) (by kernel_rfl) Z Z ?_
      refine vf [8,9] [64] [] [4,13] [4] [(32,.loc 13 0)] [(4,.box 77 [.loc 13 0])] ?_
      refine ve [64] [66] [13] [(33,.loc 13 0)] ?_
      refine ve [66] [68] [13] [(34,.loc 13 2)] ?_
      refine vf [27,68] [70] [] [13,5130,5131,5135] [13] [(35,.ela 5135 2 (r17.2.2.2.2.2.1.1.length) 1)] [(13,.box 80 [.own 5130,.own 5131,.ela 5135 2 (r17.2.2.2.2.2.1.1.length) 1,Y r17.2.2.1])] ?_
      refine ve [70] [72] [5135] [(36,.ela 5135 2 (r17.2.2.2.2.2.1.1.length) 1)] ?_
      refine vs [72,10271] [74] [] [5135,5136] [5135] [(37,.own 5136)] [(5135,.box 54 [pfx 2 (r17.2.2.2.2.2.1.1.map zAU) true,Y r17.2.2.2.2.2.2.1,.own 5136])] Z Z (fun w0 X X0 σ0 _=>by refine zBs (T:=tab) (by simp) Z Z Z Z Z Z Z Z ?_;exact py) ?_
      refine vs [74,10273] [76] [] [5136] [5136] [(38,Y ((r17.2.2.2.2.2.2.2.2.2.2.length:Nat):Int))] [(5136,.arr 43 7 (r17.2.2.2.2.2.2.2.2.2.2.map cOp))] Z Z (fun w0 X X0 σ0 _=>by refine zCT (T:=tab) cOp r17.2.2.2.2.2.2.2.2.2.2 Z Z Z Z Z Z Z Z Z ?_;exact py) ?_
      refine vf [8,9] [78] [] [4,13] [4] [(39,.loc 13 0)] [(4,.box 77 [.loc 13 0])] ?_
      refine ve [78] [80] [13] [(40,.loc 13 0)] ?_
      refine ve [80] [82] [13] [(41,.loc 13 3)] ?_
      refine vf [27,82] [84] [] [13,5130,5131,5135] [13] [(42,Y r17.2.2.1)] [(13,.box 80 [.own 5130,.own 5131,.ela 5135 2 (r17.2.2.2.2.2.1.1.length) 1,Y r17.2.2.1])] ?_
      refine ve [76,84] [86] [] [(43,O (((r17.2.2.2.2.2.2.2.2.2.2.length:Nat):Int)==r17.2.2.1))] ?_
      refine zBS Z Z ?_
      refine zAA ?_
      refine zAN Z ?_ ?_
      ·refine sr ?_
       refine zAr (T:=tab) Z Z Z Z Z Z Z ?_
       refine zAM (T:=tab) Z Z Z Z Z Z Z Z Z Z Z Z ?_
       refine zAM (T:=tab) Z Z Z Z Z Z Z Z Z Z Z Z ?_
       refine ns ?_
       refine zEK 2 [.sl 5 false ([].map zAF),.sl 7 false ([].map cOp)] Z ⟨.nil,.nil,trivial⟩ Z ?_
       exact zG1 Z ⟨Z,Z,trivial⟩ Z
      ·refine zAD (zAA (sr (pq 1 Z ?_)))
       refine pc (zFZ fu r16) zL1 Z Z Z Z fun r21 hr21=>?_
       refine pq 3 Z ?_
       refine zA9 (T:=tab) 6 Z Z Z Z Z Z Z Z Z ?_
       refine zAM (T:=tab) Z Z Z Z Z Z Z Z Z Z Z Z ?_
       refine pq 1 Z (ns ?_)
       refine su [(2,.loc 2 0),(3,.loc 3 0),(4,.loc 4 0),(6,.loc 6 0)] [(6,.box 43 [Y r21.1.Kind,Y r21.1.A,Y r21.1.B,Y r21.1.C,D r21.1.S,D r21.1.T,O r21.1.Must]),(13,.box 80 [.own 5130,.own 5131,.ela 5135 2 (r17.2.2.2.2.2.1.1.length) 1,Y r17.2.2.1]),(5130,.box 51 [pfx 5 (r17.2.2.2.1.1.map zAF) r17.2.2.2.1.2,O r17.2.2.2.2.1,.own 5132,.own 5133,.own 5134,.own 5135]),(5131,.arr 43 7 (l13.map cOp)),(5135,.box 54 [pfx 2 (r17.2.2.2.2.2.1.1.map zAU) true,Y r17.2.2.2.2.2.2.1,.own 5136]),(5132,.arr 9 1 (r17.2.2.2.2.2.2.2.1.map cStr)),(5133,.arr 43 7 (r17.2.2.2.2.2.2.2.2.1.map cOp)),(5134,.arr 43 7 (r17.2.2.2.2.2.2.2.2.2.1.map cOp)),(5136,.arr 43 7 (r17.2.2.2.2.2.2.2.2.2.2.map cOp)),(4,.box 77 [.loc 13 0]),(3,.box 28 [Y 0]),(2,.box 25 [.v (.slice none 0 0),.v (.slice none 0 0)])] ?_
       refine zBA [0,1,3,7,0,16,48,112,240,496,0,1024,4080,8191,16383] mixed (by kernel_rfl) (by kernel_rfl) Z Z ?_
       refine vf [8,9] [100] [] [4,13] [4] [(50,.loc 13 0)] [(4,.box 77 [.loc 13 0])] ?_
       refine ve [100] [102] [13] [(51,.loc 13 0)] ?_
       refine ve [102] [104] [13] [(52,.loc 13 2)] ?_
       refine vf [27,104] [106] [] [13,5130,5131,5135] [13] [(53,.ela 5135 2 (r17.2.2.2.2.2.1.1.length) 1)] [(13,.box 80 [.own 5130,.own 5131,.ela 5135 2 (r17.2.2.2.2.2.1.1.length) 1,Y r17.2.2.1])] ?_
       refine vf [8,9] [108] [] [4,13] [4] [(54,.loc 13 0)] [(4,.box 77 [.loc 13 0])] ?_
       refine ve [108] [110] [13] [(55,.loc 13 0)] ?_
       refine ve [110] [112] [13] [(56,.loc 13 2)] ?_
       refine vf [27,112] [114] [] [13,5130,5131,5135] [13] [(57,.ela 5135 2 (r17.2.2.2.2.2.1.1.length) 1)] [(13,.box 80 [.own 5130,.own 5131,.ela 5135 2 (r17.2.2.2.2.2.1.1.length) 1,Y r17.2.2.1])] ?_
       refine ve [114] [116] [5135] [(58,.ela 5135 2 (r17.2.2.2.2.2.1.1.length) 1)] ?_
       refine vs [116,10271] [118] [] [5135,5136] [5135] [(59,.own 5136)] [(5135,.box 54 [pfx 2 (r17.2.2.2.2.2.1.1.map zAU) true,Y r17.2.2.2.2.2.2.1,.own 5136])] Z Z (fun w0 X X0 σ0 _=>by refine zBs (T:=tab) (by simp) Z Z Z Z Z Z Z Z ?_;exact py) ?_
       refine vf [12,13] [120] [] [6] [6] [(60,.agg (cOp r21.1))] [(6,.box 43 [Y r21.1.Kind,Y r21.1.A,Y r21.1.B,Y r21.1.C,D r21.1.S,D r21.1.T,O r21.1.Must])] ?_
       refine vs [120] [122,123] [61] [] [] [(61,.own 61)] [(61,.arr 43 7 ([r21.1].map cOp))] Z Z (fun w0 X X0 σ0 _=>by refine zDD (T:=tab) (rows:=[r21.1].map cOp) 61 Z Z Z Z Z Z Z Z Z Z Z Z Z Z ?_;exact py) ?_
       refine vt (zDG 72 (r17.2.2.2.2.2.2.2.2.2.2.length+([r21.1]:List Op).length)) [(124,[5136]),(118,[]),(10271,[]),(10273,[])] [118,122,123,10271,10273] [124,118,10271,10273] [5136] [61,5135] [61] (fun _=>[(62,.own 5136)]) (fun _=>[(5135,.box 54 [pfx 2 (r17.2.2.2.2.2.1.1.map zAU) true,Y r17.2.2.2.2.2.2.1,.junk]),(5136,.arr 43 7 ((r17.2.2.2.2.2.2.2.2.2.2++[r21.1]).map cOp)),(61,.arr 43 7 ([r21.1].map cOp))]) Z Z (fun _=>Z) (fun w0 X X0 σ0 _=>by refine zCl (T:=tab) cOp r17.2.2.2.2.2.2.2.2.2.2 ([r21.1]:List Op) Z Z Z Z Z Z Z Z Z Z Z Z Z Z (zGn _) Z Z Z Z Z ?_;exact pz) fun _ h0=>?_
       refine ve [106] [126] [5135] [(63,.ela 5135 2 (r17.2.2.2.2.2.1.1.length) 1)] ?_
       refine vs [124,126,10271,10273] [10271] [] [5135,5136] [5136] [] [(5135,.box 54 [pfx 2 (r17.2.2.2.2.2.1.1.map zAU) true,Y r17.2.2.2.2.2.2.1,.own 5136]),(5136,.arr 43 7 ((r17.2.2.2.2.2.2.2.2.2.2++[r21.1]).map cOp))] Z Z (fun w0 X X0 σ0 _=>by refine zDp (T:=tab) (by simp) Z Z Z Z Z Z Z Z Z Z Z Z ?_;exact py) ?_
       refine zBS Z Z ?_
       refine zAK ?_
       refine zEZ 13 [.own 5130,.own 5131,.sel 3 [.loc 13 1,.ela 5130 5 (r17.2.2.2.1.1.length) 2,.ela 5130 5 (r17.2.2.2.1.1.length) 3,.ela 5135 2 (r17.2.2.2.2.2.1.1.length) 1],Y r17.2.2.1] Z ⟨.rfl,.rfl,(.sel Z Z),.rfl,trivial⟩ Z ?_
       exact zE5 (3,r17.2.2.1,r17.2.2.2.1,r17.2.2.2.2.1,r17.2.2.2.2.2.2.2.1,r17.2.2.2.2.2.2.2.2.1,r17.2.2.2.2.2.2.2.2.2.1,(r17.2.2.2.2.2.1.1,true),r17.2.2.2.2.2.2.1,(r17.2.2.2.2.2.2.2.2.2.2++[r21.1]),l13) ⟨Z,Z,Z,Z,Z,Z,Z,Z,Z,Z,Z,trivial⟩ Z
  ·rintro ⟨k3,c4,c5,c6,l7,l8,l9,c10,c11,l12,l13⟩
   refine zAK (zAA (sr (pq 4 Z ?_)))
   refine zAM (T:=tab) Z Z Z Z Z Z Z Z Z Z Z Z ?_
   refine zAM (T:=tab) Z Z Z Z Z Z Z Z Z Z Z Z ?_
   refine ns ?_
   refine zEL 5132 Z Z Z ?_;refine zEL 5133 Z Z Z ?_;refine zEL 5134 Z Z Z ?_;refine zEL 5136 Z Z Z ?_;refine zRJ 5135 zAU c10.1 (⟨c11,l12⟩:Hook) Z Z Z Z ?_;refine zEL 5135 Z Z Z ?_;refine zRJ 5130 zAF c5.1 (⟨c6,l7,l8,l9,(c10.1++if c10.2 then [(⟨c11,l12⟩:Hook)] else [])⟩:Class) Z Z Z Z ?_;refine zEL 5130 Z Z Z ?_
   refine zEL 5131 Z Z Z ?_
   exact rN
  ·exact fun r=>zLg (T:=tab) Z Z Z ⟨Z,Z⟩ trivial Z
def zCe (fu:Nat) (o1:Op):Option Bool:=cnd (!(eqOp o1 (⟨0,0,0,0,[],[],false⟩:Op))) (bnd (zEA fu o1) fun r2=>some (!r2)) (some false)
theorem zI7 (fu:Nat) (o1:Op):∀r,zCe fu o1=some r->DC zAa Tryz.prog 33 [.agg (cOp o1)] (O r):=by
 refine fcI Tryz.func33 Z fun w0 X X0 σ0 _=>sr (zDV  1 Z Z Z Z Z Z Z Z Z Z (pq 1 Z (ns (sr (pq 1 Z (zAr (T:=tab) Z Z Z Z Z Z Z (po_ne zN5 Z Z Z Z Z Z Z (pq 1 Z (zAJ (j:=6) Z ?_ ?_)))))))))
 ·exact pq 1 Z (pc (zHn fu o1) zQv Z Z Z Z fun r2 hr2=>pq 3 Z (ns rN))
 ·exact pq 5 Z (ns rN)
def zAw (t1:Op->Option Bool) (s1:(List Op)):Nat->Int->Option Int
 | 0,_=>none
 | k1+1,t2=>cnd (decide (t2<((s1.length:Nat):Int))) (bnd (idx s1 t2) fun y3=>bnd (t1 y3) fun r4=>cnd r4 (some t2) (bnd (rng .i64 (t2+1)) fun i5=>(zAw t1 s1 k1) i5)) (some (-1))
def zCK (fu:Nat) (t1:Op->Option Bool) (s1:(List Op)):Option Int:=(zAw t1 s1) fu 0
theorem zEV (fu:Nat) (s1:(List Op)):∀r,zCK fu (fun (z1:Op)=>zCe fu z1) s1=some r->DC zAa Tryz.prog 69 [.sl 7 false (s1.map cOp),.fn (.func 33) [] []] (Y r):=by
 refine fcI Tryz.func69 Z fun w0 X X0 σ0 _=>sr (pq 1 Z (ns (zAC (sr (pq 1 Z (zAu (T:=tab) cOp s1 Z Z Z Z Z Z Z Z (pq 1 Z (ns (zAL (lq (zAw (fun (z1:Op)=>zCe fu z1) s1) (fun (t2:Int)=>[(0,.sl 7 false (s1.map cOp)),(1,.fn (.func 33) [] []),(7,Y ((s1.length:Nat):Int)),(8,Y t2)]) (fun (t2:Int)=>[]) fu 0 ?_))))))))))
 rintro k1 t2
 refine sr (pq 1 Z (ns (zAC (zAN Z ?_ ?_))))
 ·refine zAD (zAA (zAC (zAL (sr (pq 2 Z (ns (sr (pq 3 Z (zCY (T:=tab) cOp s1 Z Z Z Z Z Z Z fun y3 hy3=>pq 1 Z (zDh (enc:=fun (r4:Bool)=>O r4) (first:=[]) (cap:=[]) (qs:=[.agg (cOp y3)]) (Sc:=[]) (zI7 fu y3) (zBk trivial Z) Z Z Z Z ⟨⟨_,Z,.rfl⟩,trivial⟩ (fun _=>Z) call33 Z Z fun r4 hr4=>ns (zAN Z ?_ ?_)))))))))))
  ·exact sr (pq 2 Z (ns rN))
  ·exact zAD (zAK (zAA (zAB (zAQ (T:=tab) Z Z Z Z fun i5 hi5=>pq 1 Z (zAI (zBH i5 ⟨Z,Z,Z,Z,trivial⟩ trivial Z))))))
 ·exact zAg Z (zAA (sr (pq 1 Z (ns rN))))
def zBP (fu:Nat) (t1:Op->Option Bool) (s1:(List Op)):Option Bool:=bnd (zCK fu t1 s1) fun r2=>some (decide (r2>=0))
theorem zD3 (fu:Nat) (s1:(List Op)):∀r,zBP fu (fun (z1:Op)=>zCe fu z1) s1=some r->DC zAa Tryz.prog 32 [.sl 7 false (s1.map cOp),.fn (.func 33) [] []] (O r):=by
 exact fcI Tryz.func32 Z fun w0 X X0 σ0 _=>sr (pq 1 Z (ns (sr (pq 2 Z (pc (zEV fu s1) call69 Z Z Z Z fun r2 hr2=>pq 2 Z (ns rN))))))
def zBb (fu:Nat) (s1:Bs):Option Bool:=bnd (zEa fu s1) fun r2=>cnd (r2.2 != 0) (some true) (some (!(r2.1==s1)))
theorem zGJ (fu:Nat) (s1:Bs):∀r,zBb fu s1=some r->DC zAa Tryz.prog 56 [D s1] (O r):=by
 refine fcI Tryz.func56 Z fun w0 X X0 σ0 _=>sr (pq 1 Z (ns (sr (pq 1 Z (pc (zHl fu s1) zQt Z Z Z Z fun r2 hr2=>pq 5 Z (ns (sr (pq 3 Z (zAJ (j:=12) Z ?_ ?_)))))))))
 ·exact pq 5 Z (ns rN)
 ·exact pq 5 Z (ns rN)
def zAq (t1:Bs->Option Bool) (s1:(List Bs)):Nat->Int->Option Int
 | 0,_=>none
 | k1+1,t2=>cnd (decide (t2<((s1.length:Nat):Int))) (bnd (idx s1 t2) fun y3=>bnd (t1 y3) fun r4=>cnd r4 (some t2) (bnd (rng .i64 (t2+1)) fun i5=>(zAq t1 s1 k1) i5)) (some (-1))
def zCE (fu:Nat) (t1:Bs->Option Bool) (s1:(List Bs)):Option Int:=(zAq t1 s1) fu 0
theorem zEM (fu:Nat) (s1:(List Bs)):∀r,zCE fu (fun (z1:Bs)=>zBb fu z1) s1=some r->DC zAa Tryz.prog 94 [.sl 1 false (s1.map cStr),.fn (.func 56) [] []] (Y r):=by
 refine fcI Tryz.func94 Z fun w0 X X0 σ0 _=>sr (pq 1 Z (ns (zAC (sr (pq 1 Z (zAu (T:=tab) cStr s1 Z Z Z Z Z Z Z Z (pq 1 Z (ns (zAL (lq (zAq (fun (z1:Bs)=>zBb fu z1) s1) (fun (t2:Int)=>[(0,.sl 1 false (s1.map cStr)),(1,.fn (.func 56) [] []),(7,Y ((s1.length:Nat):Int)),(8,Y t2)]) (fun (t2:Int)=>[]) fu 0 ?_))))))))))
 rintro k1 t2
 refine sr (pq 1 Z (ns (zAC (zAN Z ?_ ?_))))
 ·refine zAD (zAA (zAC (zAL (sr (pq 2 Z (ns (sr (pq 3 Z (zCY (T:=tab) cStr s1 Z Z Z Z Z Z Z fun y3 hy3=>pq 1 Z (zDh (enc:=fun (r4:Bool)=>O r4) (first:=[]) (cap:=[]) (qs:=[D y3]) (Sc:=[]) (zGJ fu y3) (zBk trivial Z) Z Z Z Z ⟨⟨_,Z,.rfl⟩,trivial⟩ (fun _=>Z) call56 Z Z fun r4 hr4=>ns (zAN Z ?_ ?_)))))))))))
  ·exact sr (pq 2 Z (ns rN))
  ·exact zAD (zAK (zAA (zAB (zAQ (T:=tab) Z Z Z Z fun i5 hi5=>pq 1 Z (zAI (zBH i5 ⟨Z,Z,Z,Z,trivial⟩ trivial Z))))))
 ·exact zAg Z (zAA (sr (pq 1 Z (ns rN))))
def zBO (fu:Nat) (t1:Bs->Option Bool) (s1:(List Bs)):Option Bool:=bnd (zCE fu t1 s1) fun r2=>some (decide (r2>=0))
theorem zDs (fu:Nat) (s1:(List Bs)):∀r,zBO fu (fun (z1:Bs)=>zBb fu z1) s1=some r->DC zAa Tryz.prog 60 [.sl 1 false (s1.map cStr),.fn (.func 56) [] []] (O r):=by
 exact fcI Tryz.func60 Z fun w0 X X0 σ0 _=>sr (pq 1 Z (ns (sr (pq 2 Z (pc (zEM fu s1) call94 Z Z Z Z fun r2 hr2=>pq 2 Z (ns rN))))))
def zDl (_fu:Nat) (l1:(List Op)):Option Bool:=some (decide (((l1.length:Nat):Int)>60))
theorem zEx (fu:Nat) (l1:(List Op)):∀r,zDl fu l1=some r->DC zAa Tryz.prog 59 [.sl 7 false (l1.map cOp)] (O r):=by
 exact fcI Tryz.func59 Z fun w0 X X0 σ0 _=>sr (pq 1 Z (ns (sr (pq 1 Z (zAu (T:=tab) cOp l1 Z Z Z Z Z Z Z Z (pq 2 Z (ns rN)))))))
def zBc (fu:Nat) (h1:Hook):Option Bool:=cnd (decide (h1.Kind<1)) (some true) (cnd (decide (h1.Kind>8)) (some true) (bnd (zDl fu h1.Do) fun r2=>some r2))
theorem zGK (fu:Nat) (h1:Hook):∀r,zBc fu h1=some r->DC zAa Tryz.prog 58 [.agg (zAU h1)] (O r):=by
 refine fcI Tryz.func58 Z fun w0 X X0 σ0 _=>sr (zDV  1 Z Z Z Z Z Z Z Z Z Z (pq 1 Z (ns (sr (pq 4 Z (zAJ (j:=6) Z ?_ ?_))))))
 ·exact pq 10 Z (ns rN)
 ·refine pq 5 Z (zAJ (j:=11) Z ?_ ?_)
  ·exact pq 5 Z (ns rN)
  ·exact pq 2 Z (pc (zEx fu h1.Do) zNm Z Z Z Z fun r2 hr2=>pq 2 Z (ns rN))
def zAl (t1:Hook->Option Bool) (s1:(List Hook)):Nat->Int->Option Int
 | 0,_=>none
 | k1+1,t2=>cnd (decide (t2<((s1.length:Nat):Int))) (bnd (idx s1 t2) fun y3=>bnd (t1 y3) fun r4=>cnd r4 (some t2) (bnd (rng .i64 (t2+1)) fun i5=>(zAl t1 s1 k1) i5)) (some (-1))
def zB6 (fu:Nat) (t1:Hook->Option Bool) (s1:(List Hook)):Option Int:=(zAl t1 s1) fu 0
theorem zEG (fu:Nat) (s1:(List Hook)):∀r,zB6 fu (fun (z1:Hook)=>zBc fu z1) s1=some r->DC zAa Tryz.prog 95 [.sl 2 false (s1.map zAU),.fn (.func 58) [] []] (Y r):=by
 refine fcI Tryz.func95 Z fun w0 X X0 σ0 _=>sr (pq 1 Z (ns (zAC (sr (pq 1 Z (zAu (T:=tab) zAU s1 Z Z Z Z Z Z Z Z (pq 1 Z (ns (zAL (lq (zAl (fun (z1:Hook)=>zBc fu z1) s1) (fun (t2:Int)=>[(0,.sl 2 false (s1.map zAU)),(1,.fn (.func 58) [] []),(7,Y ((s1.length:Nat):Int)),(8,Y t2)]) (fun (t2:Int)=>[]) fu 0 ?_))))))))))
 rintro k1 t2
 refine sr (pq 1 Z (ns (zAC (zAN Z ?_ ?_))))
 ·refine zAD (zAA (zAC (zAL (sr (pq 2 Z (ns (sr (pq 3 Z (zCY (T:=tab) zAU s1 Z Z Z Z Z Z Z fun y3 hy3=>pq 1 Z (zDh (enc:=fun (r4:Bool)=>O r4) (first:=[]) (cap:=[]) (qs:=[.agg (zAU y3)]) (Sc:=[]) (zGK fu y3) (zBk trivial Z) Z Z Z Z ⟨⟨_,Z,.rfl⟩,trivial⟩ (fun _=>Z) call58 Z Z fun r4 hr4=>ns (zAN Z ?_ ?_)))))))))))
  ·exact sr (pq 2 Z (ns rN))
  ·exact zAD (zAK (zAA (zAB (zAQ (T:=tab) Z Z Z Z fun i5 hi5=>pq 1 Z (zAI (zBH i5 ⟨Z,Z,Z,Z,trivial⟩ trivial Z))))))
 ·exact zAg Z (zAA (sr (pq 1 Z (ns rN))))
def zBN (fu:Nat) (t1:Hook->Option Bool) (s1:(List Hook)):Option Bool:=bnd (zB6 fu t1 s1) fun r2=>some (decide (r2>=0))
theorem zDj (fu:Nat) (s1:(List Hook)):∀r,zBN fu (fun (z1:Hook)=>zBc fu z1) s1=some r->DC zAa Tryz.prog 61 [.sl 2 false (s1.map zAU),.fn (.func 58) [] []] (O r):=by
 exact fcI Tryz.func61 Z fun w0 X X0 σ0 _=>sr (pq 1 Z (ns (sr (pq 2 Z (pc (zEG fu s1) call95 Z Z Z Z fun r2 hr2=>pq 2 Z (ns rN))))))
def zDK (fu:Nat) (c1:Class):Option Bool:=cnd (decide (((c1.Watch.length:Nat):Int)<=12)) (bnd (zBO fu (fun (z1:Bs)=>zBb fu z1) c1.Watch) fun r2=>cnd (!r2) (cnd (decide (((c1.Hooks.length:Nat):Int)<=12)) (bnd (zBN fu (fun (z1:Hook)=>zBc fu z1) c1.Hooks) fun r3=>cnd (!r3) (bnd (zDl fu c1.Peek) fun r4=>cnd (!r4) (bnd (zDl fu c1.Make) fun r5=>some (!r5)) (some false)) (some false)) (some false)) (some false)) (some false)
theorem zHL (fu:Nat) (c1:Class):∀r,zDK fu c1=some r->DC zAa Tryz.prog 21 [.agg (zAF c1)] (O r):=by
 refine fcI Tryz.func21 Z fun w0 X X0 σ0 _=>sr (zDV  1 Z Z Z Z Z Z Z Z Z Z (pq 1 Z (ns (sr (pq 1 Z (ns (sr (pq 1 Z (ns (sr (pq 2 Z (zAu (T:=tab) cStr c1.Watch Z Z Z Z Z Z Z Z (pq 2 Z (zAJ (j:=9) Z ?_ ?_))))))))))))))
 ·refine pq 3 Z (pc (zDs fu c1.Watch) call60 Z Z Z Z fun r2 hr2=>pq 3 Z (zAJ (j:=16) Z ?_ ?_))
  ·refine pq 2 Z (zAu (T:=tab) zAU c1.Hooks Z Z Z Z Z Z Z Z (pq 3 Z (zAJ (j:=22) Z ?_ ?_)))
   ·refine pq 3 Z (pc (zDj fu c1.Hooks) call61 Z Z Z Z fun r3 hr3=>pq 3 Z (zAJ (j:=29) Z ?_ ?_))
    ·refine pq 2 Z (pc (zEx fu c1.Peek) zNm Z Z Z Z fun r4 hr4=>pq 3 Z (zAJ (j:=35) Z ?_ ?_))
     ·exact pq 2 Z (pc (zEx fu c1.Make) zNm Z Z Z Z fun r5 hr5=>pq 3 Z (ns rN))
     ·exact pq 6 Z (ns rN)
    ·exact pq 12 Z (ns rN)
   ·exact pq 19 Z (ns rN)
  ·exact pq 25 Z (ns rN)
 ·exact pq 32 Z (ns rN)
def zBp (fu:Nat) (c1:Class):Option Bool:=bnd (zDK fu c1) fun r2=>some (!r2)
theorem zF2 (fu:Nat) (c1:Class):∀r,zBp fu c1=some r->DC zAa Tryz.prog 35 [.agg (zAF c1)] (O r):=by
 exact fcI Tryz.func35 Z fun w0 X X0 σ0 _=>sr (zDV  1 Z Z Z Z Z Z Z Z Z Z (pq 1 Z (ns (sr (pq 1 Z (pc (zHL fu c1) call21 Z Z Z Z fun r2 hr2=>pq 2 Z (ns rN)))))))
def zAi (t1:Class->Option Bool) (s1:(List Class)):Nat->Int->Option Int
 | 0,_=>none
 | k1+1,t2=>cnd (decide (t2<((s1.length:Nat):Int))) (bnd (idx s1 t2) fun y3=>bnd (t1 y3) fun r4=>cnd r4 (some t2) (bnd (rng .i64 (t2+1)) fun i5=>(zAi t1 s1 k1) i5)) (some (-1))
def zB3 (fu:Nat) (t1:Class->Option Bool) (s1:(List Class)):Option Int:=(zAi t1 s1) fu 0
theorem zD4 (fu:Nat) (s1:(List Class)):∀r,zB3 fu (fun (z1:Class)=>zBp fu z1) s1=some r->DC zAa Tryz.prog 71 [.sl 5 false (s1.map zAF),.fn (.func 35) [] []] (Y r):=by
 refine fcI Tryz.func71 Z fun w0 X X0 σ0 _=>sr (pq 1 Z (ns (zAC (sr (pq 1 Z (zAu (T:=tab) zAF s1 Z Z Z Z Z Z Z Z (pq 1 Z (ns (zAL (lq (zAi (fun (z1:Class)=>zBp fu z1) s1) (fun (t2:Int)=>[(0,.sl 5 false (s1.map zAF)),(1,.fn (.func 35) [] []),(7,Y ((s1.length:Nat):Int)),(8,Y t2)]) (fun (t2:Int)=>[]) fu 0 ?_))))))))))
 rintro k1 t2
 refine sr (pq 1 Z (ns (zAC (zAN Z ?_ ?_))))
 ·refine zAD (zAA (zAC (zAL (sr (pq 2 Z (ns (sr (pq 3 Z (zCY (T:=tab) zAF s1 Z Z Z Z Z Z Z fun y3 hy3=>pq 1 Z (zDh (enc:=fun (r4:Bool)=>O r4) (first:=[]) (cap:=[]) (qs:=[.agg (zAF y3)]) (Sc:=[]) (zF2 fu y3) (zBk trivial Z) Z Z Z Z ⟨⟨_,Z,.rfl⟩,trivial⟩ (fun _=>Z) call35 Z Z fun r4 hr4=>ns (zAN Z ?_ ?_)))))))))))
  ·exact sr (pq 2 Z (ns rN))
  ·exact zAD (zAK (zAA (zAB (zAQ (T:=tab) Z Z Z Z fun i5 hi5=>pq 1 Z (zAI (zBH i5 ⟨Z,Z,Z,Z,trivial⟩ trivial Z))))))
 ·exact zAg Z (zAA (sr (pq 1 Z (ns rN))))
def zBG (fu:Nat) (t1:Class->Option Bool) (s1:(List Class)):Option Bool:=bnd (zB3 fu t1 s1) fun r2=>some (decide (r2>=0))
theorem zDZ (fu:Nat) (s1:(List Class)):∀r,zBG fu (fun (z1:Class)=>zBp fu z1) s1=some r->DC zAa Tryz.prog 34 [.sl 5 false (s1.map zAF),.fn (.func 35) [] []] (O r):=by
 exact fcI Tryz.func34 Z fun w0 X X0 σ0 _=>sr (pq 1 Z (ns (sr (pq 2 Z (pc (zD4 fu s1) call71 Z Z Z Z fun r2 hr2=>pq 2 Z (ns rN))))))
def zB0 (fu:Nat) (s1:Script):List (List Op×Int)->Unit->Option Bool
 | [],_=>cnd (decide (((s1.Classes.length:Nat):Int)<=12)) (bnd (zBG fu (fun (z1:Class)=>zBp fu z1) s1.Classes) fun r5=>some (!r5)) (some false)
 | y2::ys3,_=>cnd (decide (((y2.1.length:Nat):Int)>y2.2)) (some false) (bnd (zBP fu (fun (z1:Op)=>zCe fu z1) y2.1) fun r4=>cnd r4 (some false) ((zB0 fu s1 ys3) ()))
def zCS (fu:Nat) (s1:Script):Option Bool:=(zB0 fu s1) (zAs s1) ()
theorem zEf (fu:Nat) (s1:Script):∀r,zCS fu s1=some r->DC zAa Tryz.prog 13 [.agg (zCs s1)] (O r):=by
 refine fcI Tryz.func13 Z fun w0 X X0 σ0 _=>sr (zDV  1 Z Z Z Z Z Z Z Z Z Z (zA9 (T:=tab) 2 Z Z Z Z Z Z Z Z Z (ns (zAC (sr (pq 1 Z (po_mk (n:=3006) (zLc s1) Z Z Z Z Z Z Z Z Z Z Z ⟨⟨_,Z,.rfl⟩,trivial⟩ call31 Z Z (ns (zAL (zSH (ys0:=zAs s1) (p1:=fun y:(List Op×Int)=>.sl 7 false (y.1.map cOp)) (p2:=fun y:(List Op×Int)=>Y y.2) (x0:=()) (n:=3006) (M:=(zB0 fu s1)) (Sf:=fun (_:Unit)=>[(2,.box 4 [O false]),(1,.box 25 [.sl 5 false (s1.Classes.map zAF),.sl 7 false (s1.Main.map cOp)])]) (SR:=fun r:Bool=>[(2,.box 4 [O r])]) (N1:=[1,2]) (E0:=[(1,.loc 1 0),(2,.loc 2 0)]) (E1:=fun y2=>[(1,.loc 1 0),(2,.loc 2 0),(7,.sl 7 false (y2.1.map cOp)),(8,Y y2.2),(3,.sl 7 false (y2.1.map cOp)),(4,Y y2.2)]) (zLd s1) call68 (fun _=>Z) (fun _=>Z) Z Z Z ⟨Z,Z,trivial⟩ Z Z ⟨Z,Z,trivial⟩ Z Z Z Z ?_ ?_ ?_ ?_))))))))))
 ·rintro y2 _ w0 X X0 σ0 _ _
  exact sr (pq 1 Z (ns (zAB (pq 1 Z (zAI (zFC ⟨Z,Z,Z,Z,Z,Z,trivial⟩ ⟨Z,Z,trivial⟩ Z))))))
 ·rintro y2 ys3 _ w0 X X0 σ0 _ _
  refine zAL (sr (pq 1 Z (zAu (T:=tab) cOp y2.1 Z Z Z Z Z Z Z Z (pq 3 Z (zAJ (j:=13) Z ?_ ?_)))))
  ·refine pq 3 Z (zAI (zAA (zAW Z ?_)))
   exact sr (zAM (T:=tab) Z Z Z Z Z Z Z Z Z Z Z Z (ns (zG1 Z ⟨Z,trivial⟩ Z)))
  ·refine pq 1 Z (pc (zD3 fu y2.1) call32 Z Z Z Z fun r4 hr4=>pq 1 Z (ns (zAN Z ?_ ?_)))
   ·exact sr (zAM (T:=tab) Z Z Z Z Z Z Z Z Z Z Z Z (ns (zG1 Z ⟨Z,trivial⟩ Z)))
   ·exact zAD (zAK (zE5 () ⟨Z,Z,trivial⟩ Z))
 ·rintro _
  refine zAK (zAA (sr (pq 2 Z (zAu (T:=tab) zAF s1.Classes Z Z Z Z Z Z Z Z (pq 2 Z (zAJ (j:=21) Z ?_ ?_))))))
  ·exact pq 2 Z (pc (zDZ fu s1.Classes) call34 Z Z Z Z fun r5 hr5=>pq 2 Z (zAM (T:=tab) Z Z Z Z Z Z Z Z Z Z Z Z (ns rN)))
  ·exact pq 5 Z (zAM (T:=tab) Z Z Z Z Z Z Z Z Z Z Z Z (ns rN))
 ·exact fun r=>zLg (T:=tab) Z Z Z ⟨Z,Z⟩ trivial Z
theorem zDb (fu:Nat) (l1:(List Int)):∀r,zAY fu=some r->FC zAa Tryz.prog 98 [.loc 900000 0] [(900000,.box 64 [.nloc 900000 0,.ownb 900001]),(900001,.arr 5 1 (l1.map zAE))] [900000,900001] fun p S'=>p=.tup []/\S'=[(900000,.box 64 [.nloc 900000 0,.ownb 900001]),(900001,.arr 5 1 (l1.map zAE))]:=by
 refine fcI Tryz.func98 Z fun w0 X X0 σ0 _=>sr (pq 3 Z (zIE 900000 0 Z Z Z Z Z Z ?_ ?_))
 ·exact pq 1 Z (zGd (T:=tab) Tryz.underlying59 Z Z Z Z Z Z Z Z (ns (zAW Z (zAB (pq 2 Z (zGB (T:=tab) Tryz.underlying59 Tryz.underlying160 Z Z Tryz.func120 Z Z Z Z Z Z Z Z Z (by kernel_rfl) Z Z Z Z Z Z Z Z Z Z Z (pq 2 Z (zAM (T:=tab) Z Z Z Z Z Z Z Z Z Z Z Z (zAI (zEZ 900000 [.nloc 900000 0,.ownb 900001] Z ⟨.nloc1,.rfl,trivial⟩ Z (zDt (T:=tab) Z Z Z ⟨Z,Z⟩ ⟨Z,Z,trivial⟩ Z)))))))))))
 ·exact pq 1 Z (zGd (T:=tab) Tryz.underlying59 Z Z Z Z Z Z Z Z (ns (zAz Z (sr (pq 5 Z (zGd (T:=tab) Tryz.underlying59 Z Z Z Z Z Z Z Z (ns (zAz Z (zAD (zEZ 900000 [.nloc 900000 0,.ownb 900001] Z ⟨.nloc1,.rfl,trivial⟩ Z (zDt (T:=tab) Z Z Z ⟨Z,Z⟩ ⟨Z,Z,trivial⟩ Z)))))))))))
theorem zCC (fu:Nat) (s1:Bs) (l2:(List Int)):∀r,zAG fu s1 l2=some r->FC zAa Tryz.prog 65 [.loc 900000 0,D s1] [(900000,.box 64 [.nloc 900000 0,.ownb 900001]),(900001,.arr 5 1 (l2.map zAE))] [900000] fun p S'=>p=.tup [Y r.1,.err r.2.1]/\S'=[(900000,.box 64 [.nloc 900000 0,.ownb 900001]),(900001,.arr 5 1 (r.2.2.map zAE))]:=by
 exact fcI Tryz.func65 Z fun w0 X X0 σ0 _=>sr (pq 2 Z (ns (sr (pq 1 Z (zDh (enc:=fun (r3:Unit)=>.tup []) (first:=[]) (cap:=[]) (qs:=[.loc 900000 0]) (Sc:=[(900000,.box 64 [.nloc 900000 0,.ownb 900001]),(900001,.arr 5 1 (l2.map zAE))]) (fun r3 hr3=>zIY [(900000,900000),(900001,900001)] [900000,900001] (zDb fu l2 _ hr3) Z Z Z Z Z Z) (zBk ⟨Z,Z,trivial⟩ Z) Z Z Z Z ⟨⟨_,Z,.rfl⟩,trivial⟩ (fun _=>Z) zNp Z Z fun r3 hr3=>ns (sr (pq 6 Z (zGc (T:=tab) zAE l2 (fun _=>Z) Z Z Z Z Z Z Z Z Z Z Z Z Z Z Z Z (pq 2 Z (zAM (T:=tab) Z Z Z Z Z Z Z Z Z Z Z Z (ns (sr (pq 4 Z (ns (zO1 5 (q:=.err false) Z .err0 rN)))))))))))))))
def zAR (fu:Nat) (l1:(List Bs)) (l2:(List Int)):Option (List Int):=bnd (zKP fu l1 ([32]:Bs)) fun r3=>bnd (zAG fu r3 l2) fun r4=>bnd (zAG fu [10] r4.2.2) fun r5=>some r5.2.2
theorem zAy (fu:Nat) (l1:(List Bs)) (l2:(List Int)):∀r,zAR fu l1 l2=some r->FC zAa Tryz.prog 26 [.loc 900000 0,.own 900001] [(900000,.box 64 [.nloc 900000 0,.ownb 900002]),(900001,.arr 9 1 (l1.map cStr)),(900002,.arr 5 1 (l2.map zAE))] [900000,900001] fun p S'=>p=.tup []/\S'=[(900000,.box 64 [.nloc 900000 0,.ownb 900002]),(900001,.arr 9 1 (l1.map cStr)),(900002,.arr 5 1 (r.map zAE))]:=by
 refine fcI Tryz.func26 Z fun w0 X X0 σ0 _=>zAC (su [(0,.loc 900000 0),(1,.own 900001)] [(900000,.box 64 [.nloc 900000 0,.ownb 900002]),(900001,.arr 9 1 (l1.map cStr)),(900002,.arr 5 1 (l2.map zAE))] (zBA [0,1,3,0,8,31] mixed (by kernel_rfl) (by kernel_rfl) Z Z (ve [0] [8] [900000] [(4,.loc 900000 0)] ?_)))
 refine ve [8] [10] [900000] [(5,.loc 900000 0)] ?_
 refine ve [10] [12] [900000] [(6,.loc 900000 0)] ?_
 refine ve [2] [14] [900001] [(7,.own 900001)] ?_
 refine vt (zKP fu l1 ([32]:Bs)) [(16,[])] [14,1800003] [16] [] [900001] [900001] (fun r3=>[(8,D r3)]) (fun r3=>[(900001,.arr 9 1 (l1.map cStr))]) Z Z (fun _=>Z) (fun w0 X X0 σ0 _=>by refine zDh (enc:=fun (r3:Bs)=>D r3) (first:=[]) (cap:=[]) (qs:=[.own 900001,D ([32]:Bs)]) (Sc:=[(900001,.arr 9 1 (l1.map cStr))]) (zRs fu 900001 9 l1 ([32]:Bs)) (zBk ⟨Z,trivial⟩ Z) Z Z Z Z ⟨⟨_,Z,.rfl⟩,⟨_,Z,.rfl⟩,trivial⟩ (fun _=>Z) call66 Z Z fun r3 hr3=>?_;exact pz) fun r3 hr3=>?_
 refine vt (zAG fu r3 l2) [(18,[]),(1800005,[]),(1800001,[900000,900002])] [12,16,1800001,1800005] [18,1800005,1800001] [900002] [900000] [] (fun r4=>[(9,.tup [Y r4.1,.err r4.2.1])]) (fun r4=>[(900002,.arr 5 1 (r4.2.2.map zAE)),(900000,.box 64 [.nloc 900000 0,.ownb 900002])]) Z Z (fun _=>Z) (fun w0 X X0 σ0 _=>by refine tu [900002] (enc:=fun (r4:(Int×Bool×(List Int)))=>.tup [Y r4.1,.err r4.2.1]) (Sr:=fun (r4:(Int×Bool×(List Int)))=>[(900000,.box 64 [.nloc 900000 0,.ownb 900002]),(900002,.arr 5 1 (r4.2.2.map zAE))]) (qs:=[.loc 900000 0,D r3]) (Sc:=[(900000,.box 64 [.nloc 900000 0,.ownb 900002]),(900002,.arr 5 1 (l2.map zAE))]) (N1:=[900000]) (NR:=[900000,900002]) (fun r4 hr4=>fr [(900000,900000),(900001,900002)] [900000,900001] (zCC fu r3 l2 _ hr4)) zFw Z Z Z Z Z Z Z Z fun r4 hr4=>?_;exact pz) fun r4 hr4=>?_
 exact zBS Z Z (zAA (zAB (pq 3 Z (tu [900002] (enc:=fun (r5:(Int×Bool×(List Int)))=>.tup [Y r5.1,.err r5.2.1]) (Sr:=fun (r5:(Int×Bool×(List Int)))=>[(900000,.box 64 [.nloc 900000 0,.ownb 900002]),(900002,.arr 5 1 (r5.2.2.map zAE))]) (qs:=[.loc 900000 0,D [10]]) (Sc:=[(900000,.box 64 [.nloc 900000 0,.ownb 900002]),(900002,.arr 5 1 (r4.2.2.map zAE))]) (N1:=[900000]) (NR:=[900000,900002]) (fun r5 hr5=>fr [(900000,900000),(900001,900002)] [900000,900001] (zCC fu [10] r4.2.2 _ hr5)) zFw Z Z Z Z Z Z Z Z fun r5 hr5=>zAI (zDt (T:=tab) Z Z Z ⟨Z,Z⟩ ⟨Z,Z,Z,trivial⟩ Z)))))
def zAd (fu:Nat) (l2:(List Op)):Nat->Int×(List Int)->Option (List Int)
 | 0,_=>none
 | k1+1,(t6,l7)=>cnd (decide (t6<((l2.length:Nat):Int))) (bnd (idx l2 t6) fun y8=>bnd (zFY fu y8) fun r9=>cnd (r9.2 != 0) (bnd (zAR fu [[63]] l7) fun r10=>bnd (rng .i64 (t6+1)) fun i12=>(zAd fu l2 k1) (i12,r10)) (bnd (zAR fu [r9.1] l7) fun r11=>bnd (rng .i64 (t6+1)) fun i13=>(zAd fu l2 k1) (i13,r11))) (some l7)
def zBg (fu:Nat) (l2:(List Op)) (l5:(List Int)):Option (List Int):=(zAd fu l2) fu (0,l5)
def zBD (fu:Nat) (head1:Bs) (l2:(List Op)) (l3:(List Int)):Option (List Int):=cnd (decide (((l2.length:Nat):Int)>0)) (cnd (!(head1==([]:Bs))) (bnd (zAR fu [head1] l3) fun r4=>(zBg fu l2) r4) ((zBg fu l2) l3)) ((zBg fu l2) l3)
theorem zCB (fu:Nat) (head1:Bs) (l2:(List Op)) (l3:(List Int)):∀r,zBD fu head1 l2 l3=some r->FC zAa Tryz.prog 27 [.loc 900000 0,D head1,.sl 7 false (l2.map cOp)] [(900000,.box 64 [.nloc 900000 0,.ownb 900001]),(900001,.arr 5 1 (l3.map zAE))] [900000] fun p S'=>p=.tup []/\S'=[(900000,.box 64 [.nloc 900000 0,.ownb 900001]),(900001,.arr 5 1 (r.map zAE))]:=by
 refine fcI Tryz.func27 Z fun w0 X X0 σ0 _=>zAC (sr (zMV (zBg fu l2) (fun (l5:(List Int))=>[(0,.loc 900000 0),(2,.sl 7 false (l2.map cOp))]) (fun (l5:(List Int))=>[(900000,.box 64 [.nloc 900000 0,.ownb 900001]),(900001,.arr 5 1 (l5.map zAE))]) ?_ fun hj1=>?_))
 ·rintro l5
  refine zAA (sr (pq 1 Z (zAu (T:=tab) cOp l2 Z Z Z Z Z Z Z Z (pq 1 Z (ns (zAL (lq (zAd fu l2) (fun ((t6,l7):Int×(List Int))=>[(0,.loc 900000 0),(21,.sl 7 false (l2.map cOp)),(22,Y ((l2.length:Nat):Int)),(23,Y t6)]) (fun ((t6,l7):Int×(List Int))=>[(900000,.box 64 [.nloc 900000 0,.ownb 900001]),(900001,.arr 5 1 (l7.map zAE))]) fu (0,l5) ?_)))))))
  rintro k1 ⟨t6,l7⟩
  refine sr (pq 1 Z (ns (zAC (zAN Z ?_ ?_))))
  ·refine zAD (zAA (zAC (zAL (sr (zCY (T:=tab) cOp l2 Z Z Z Z Z Z Z fun y8 hy8=>pq 1 Z (zA9 (T:=tab) 7 Z Z Z Z Z Z Z Z Z (zAM (T:=tab) Z Z Z Z Z Z Z Z Z Z Z Z (ns (sr (pq 1 Z (pc (zJv fu y8) zQs Z Z Z Z fun r9 hr9=>pq 5 Z (ns (zAC (sr (pq 2 Z (ns (zAN Z ?_ ?_)))))))))))))))))
   ·exact zAB (pq 1 Z (ns (zAB (pq 2 Z (zDD (T:=tab) (rows:=[[63]].map cStr) 36 Z Z Z Z Z Z Z Z Z Z Z Z Z Z (tu [900001] (enc:=fun (r10:(List Int))=>.tup []) (Sr:=fun (r10:(List Int))=>[(900000,.box 64 [.nloc 900000 0,.ownb 900001]),(36,.arr 9 1 ([[63]].map cStr)),(900001,.arr 5 1 (r10.map zAE))]) (qs:=[.loc 900000 0,.own 36]) (Sc:=[(900000,.box 64 [.nloc 900000 0,.ownb 900001]),(36,.arr 9 1 ([[63]].map cStr)),(900001,.arr 5 1 (l7.map zAE))]) (N1:=[900000,36]) (NR:=[900000,36,900001]) (fun r10 hr10=>fr [(900000,900000),(900001,36),(900002,900001)] [900000,900001,900002] (zAy fu [[63]] l7 _ hr10)) zHt Z Z Z Z Z Z Z Z fun r10 hr10=>zAI (zAK (zAA (zAB (zAQ (T:=tab) Z Z Z Z fun i12 hi12=>pq 1 Z (zAI (zBH (i12,r10) ⟨Z,Z,Z,Z,trivial⟩ ⟨Z,Z,trivial⟩ Z))))))))))))
   ·exact zAD (zAA (zAB (pq 2 Z (zDD (T:=tab) (rows:=[r9.1].map cStr) 36 Z Z Z Z Z Z Z Z Z Z Z Z Z Z (tu [900001] (enc:=fun (r11:(List Int))=>.tup []) (Sr:=fun (r11:(List Int))=>[(900000,.box 64 [.nloc 900000 0,.ownb 900001]),(36,.arr 9 1 ([r9.1].map cStr)),(900001,.arr 5 1 (r11.map zAE))]) (qs:=[.loc 900000 0,.own 36]) (Sc:=[(900000,.box 64 [.nloc 900000 0,.ownb 900001]),(36,.arr 9 1 ([r9.1].map cStr)),(900001,.arr 5 1 (l7.map zAE))]) (N1:=[900000,36]) (NR:=[900000,36,900001]) (fun r11 hr11=>fr [(900000,900000),(900001,36),(900002,900001)] [900000,900001,900002] (zAy fu [r9.1] l7 _ hr11)) zHt Z Z Z Z Z Z Z Z fun r11 hr11=>zAI (zAK (zAA (zAB (zAQ (T:=tab) Z Z Z Z fun i13 hi13=>pq 1 Z (zAI (zBH (i13,r11) ⟨Z,Z,Z,Z,trivial⟩ ⟨Z,Z,trivial⟩ Z)))))))))))
  ·exact zAg Z (zDt (T:=tab) Z Z Z ⟨Z,Z⟩ ⟨Z,Z,trivial⟩ Z)
 ·refine pq 1 Z (zAu (T:=tab) cOp l2 Z Z Z Z Z Z Z Z (pq 2 Z (zAJ (j:=13) Z ?_ ?_)))
  ·refine pq 3 Z (ns (zAN Z ?_ ?_))
   ·exact zAB (pq 2 Z (zDD (T:=tab) (rows:=[head1].map cStr) 19 Z Z Z Z Z Z Z Z Z Z Z Z Z Z (tu [900001] (enc:=fun (r4:(List Int))=>.tup []) (Sr:=fun (r4:(List Int))=>[(900000,.box 64 [.nloc 900000 0,.ownb 900001]),(19,.arr 9 1 ([head1].map cStr)),(900001,.arr 5 1 (r4.map zAE))]) (qs:=[.loc 900000 0,.own 19]) (Sc:=[(900000,.box 64 [.nloc 900000 0,.ownb 900001]),(19,.arr 9 1 ([head1].map cStr)),(900001,.arr 5 1 (l3.map zAE))]) (N1:=[900000,19]) (NR:=[900000,19,900001]) (fun r4 hr4=>fr [(900000,900000),(900001,19),(900002,900001)] [900000,900001,900002] (zAy fu [head1] l3 _ hr4)) zHt Z Z Z Z Z Z Z Z fun r4 hr4=>zAI (ps (hj1 r4)))))
   ·exact zAD (ps (hj1 l3))
  ·refine pq 3 Z (zAI (zAA (zAz Z ?_)))
   exact zAD (ps (hj1 l3))
def zCf (_fu:Nat) (l1:(List Int)):Option Int:=some ((l1.length:Nat):Int)
theorem zFB (fu:Nat) (l1:(List Int)):∀r,zCf fu l1=some r->FC zAa Tryz.prog 29 [.loc 900000 0] [(900000,.box 64 [.nloc 900000 0,.ownb 900001]),(900001,.arr 5 1 (l1.map zAE))] [900000,900001] fun p S'=>p=Y r/\S'=[(900000,.box 64 [.nloc 900000 0,.ownb 900001]),(900001,.arr 5 1 (l1.map zAE))]:=by
 exact fcI Tryz.func29 Z fun w0 X X0 σ0 _=>sr (pq 1 Z (ns (sr (pq 4 Z (zKg 6 (q:=.own 900001) Z .ownb (zCT (T:=tab) zAE l1 Z Z Z Z Z Z Z Z Z (pq 1 Z (ns rN))))))))
theorem zD5 (fu:Nat) (l1:(List Int)):∀r,zAX fu l1=some r->FC zAa Tryz.prog 30 [.loc 900000 0] [(900000,.box 64 [.nloc 900000 0,.ownb 900001]),(900001,.arr 5 1 (l1.map zAE))] [900000,900001] fun p S'=>p=D r/\S'=[(900000,.box 64 [.nloc 900000 0,.junk])]:=by
 refine fcI Tryz.func30 Z fun w0 X X0 σ0 _=>sr (pq 1 Z (ns (zAC (su [(0,.loc 900000 0)] [(900000,.box 64 [.nloc 900000 0,.ownb 900001]),(900001,.arr 5 1 (l1.map zAE))] (zBA [0,1,3,7,15,0,32,96,224,480,1023,2047] mixed (by kernel_rfl) (by kernel_rfl) Z Z (ve [0] [6] [900000] [(3,.loc 900000 0)] ?_))))))
 refine ve [6] [8] [900000] [(4,.loc 900000 0)] ?_
 refine ve [8] [10] [900000] [(5,.loc 900000 1)] ?_
 refine vf [10,1800001] [12] [] [900000,900001] [900000] [(6,.ownb 900001)] [(900000,.box 64 [.nloc 900000 0,.ownb 900001])] ?_
 refine vs [12,1800003] [14] [] [900001] [900001] [(7,.dat 900001)] [(900001,.arr 5 1 (l1.map zAE))] Z Z (fun w0 X X0 σ0 _=>by refine zFR Z Z Z Z Z Z ?_;exact py) ?_
 refine ve [0] [16] [900000] [(8,.loc 900000 0)] ?_
 refine ve [16] [18] [900000] [(9,.loc 900000 0)] ?_
 refine ve [18] [20] [900000] [(10,.loc 900000 1)] ?_
 refine vf [20,1800001] [22] [] [900000,900001] [900000] [(11,.ownb 900001)] [(900000,.box 64 [.nloc 900000 0,.ownb 900001])] ?_
 refine vs [22,1800003] [24,22] [] [900001] [900001] [(12,Y ((l1.length:Nat):Int)),(11,.own 900001)] [(900001,.arr 5 1 (l1.map zAE))] Z Z (fun w0 X X0 σ0 _=>by refine zKg 11 (q:=.own 900001) Z .ownb ?_;refine zCT (T:=tab) zAE l1 Z Z Z Z Z Z Z Z Z ?_;exact py) ?_
 refine vs [12,14,22,24,1800001,1800003] [26,12,14,22,1800001,1800003] [] [900000,900001] [] [(13,D (zD8 l1)),(11,.sl 1 false (l1.map zAE))] [(900000,.box 64 [.nloc 900000 0,.junk])] Z Z (fun w0 X X0 σ0 _=>by refine zGC zAE l1 (fun _=>Z) Z Z Z Z Z Z Z Tryz.underlying127 (by kernel_rfl) Z Z Z Z ?_;exact py) ?_
 refine ve [26] [4] [] [(2,D (zD8 l1))] ?_
 exact zBS Z Z (zAA rN)
def zCq (fu:Nat) (t3:Int) (y5:Class) (rc1:(Int×(List Int))->Option (Bs×Int)):Nat->Int×(List Int)->Option (Bs×Int)
 | 0,_=>none
 | k3+1,(t16,l17)=>cnd (decide (t16<((y5.Hooks.length:Nat):Int))) (bnd (idx y5.Hooks t16) fun y18=>bnd (zCv fu) fun r19=>bnd (idx r19 y18.Kind) fun y20=>bnd (zAR fu [[111,110],y20] l17) fun r21=>bnd (zBD fu [] y18.Do r21) fun r22=>bnd (rng .i64 (t16+1)) fun i23=>(zCq fu t3 y5 rc1 k3) (i23,r22)) (bnd (rng .i64 (t3+1)) fun i24=>rc1 (i24,l17))
def zCp (fu:Nat) (t3:Int) (y5:Class) (rc1:(Int×(List Int))->Option (Bs×Int)):Nat->Int×(List Int)->Option (Bs×Int)
 | 0,_=>none
 | k2+1,(t9,l10)=>cnd (decide (t9<((y5.Watch.length:Nat):Int))) (bnd (idx y5.Watch t9) fun y11=>bnd (zAR fu [[119,97,116,99,104],y11] l10) fun r12=>bnd (rng .i64 (t9+1)) fun i13=>(zCp fu t3 y5 rc1 k2) (i13,r12)) (bnd (zBD fu [112,101,101,107] y5.Peek l10) fun r14=>bnd (zBD fu [109,97,107,101] y5.Make r14) fun r15=>(zCq fu t3 y5 rc1) fu (0,r15))
def zDJ (fu:Nat) (t3:Int) (y5:Class) (rc1:(Int×(List Int))->Option (Bs×Int)) (l8:(List Int)):Option (Bs×Int):=(zCp fu t3 y5 rc1) fu (0,l8)
def zA8 (fu:Nat) (s1:Script):Nat->Int×(List Int)->Option (Bs×Int)
 | 0,_=>none
 | k1+1,(t3,l4)=>cnd (decide (t3<((s1.Classes.length:Nat):Int))) (bnd (idx s1.Classes t3) fun y5=>cnd y5.Form (bnd (zAR fu [[99,108,97,115,115],[102,111,114,109]] l4) fun r6=>(zDJ fu t3 y5 (zA8 fu s1 k1)) r6) (bnd (zAR fu [[99,108,97,115,115]] l4) fun r7=>(zDJ fu t3 y5 (zA8 fu s1 k1)) r7)) (bnd (zBD fu [109,97,105,110] s1.Main l4) fun r25=>bnd (zCf fu r25) fun r26=>cnd (decide (r26>16384)) (some ([],3)) (bnd (zAX fu r25) fun r27=>some (r27,0)))
def zCM (fu:Nat) (s1:Script):Option (Bs×Int):=bnd (zCS fu s1) fun r2=>cnd (!r2) (some ([],1)) ((zA8 fu s1) fu (0,[]))
theorem zD2 (fu:Nat) (s1:Script):∀r,zCM fu s1=some r->DC zAa Tryz.prog 12 [.agg (zCs s1)] (.tup [D r.1,Y r.2]):=by
 refine fcI Tryz.func12 Z fun w0 X X0 σ0 _=>sr (zDV  1 Z Z Z Z Z Z Z Z Z Z (pq 2 Z (ns (zAC (sr (pq 1 Z (pc (zEf fu s1) zQm Z Z Z Z fun r2 hr2=>pq 1 Z (ns (zAN Z ?_ ?_)))))))))
 ·exact sr (pq 2 Z (ns rN))
 ·refine zAD (zAA (sr (zA9 (T:=tab) 4 Z Z Z Z Z Z Z Z Z ?_)))
  refine zLW 4 [.nloc 4 0,.v (.slice none 0 0)] Z ⟨.nloc0,.rfl,trivial⟩ Z ?_
  refine zFQ 5040 5 1 4 1 Z Z Z Z Z Z (ns (zAC (sr (pq 2 Z (zAu (T:=tab) zAF s1.Classes Z Z Z Z Z Z Z Z (pq 1 Z (ns (zAL (lq (zA8 fu s1) (fun ((t3,l4):Int×(List Int))=>[(1,.loc 1 0),(4,.loc 4 0),(15,.sl 5 false (s1.Classes.map zAF)),(16,Y ((s1.Classes.length:Nat):Int)),(17,Y t3)]) (fun ((t3,l4):Int×(List Int))=>[(5040,.arr 5 1 (l4.map zAE)),(4,.box 64 [.nloc 4 0,.ownb 5040]),(1,.box 25 [.sl 5 false (s1.Classes.map zAF),.sl 7 false (s1.Main.map cOp)])]) fu (0,[]) ?_)))))))))
  rintro k1 ⟨t3,l4⟩
  refine sr (pq 1 Z (ns (zAC (zAN Z ?_ ?_))))
  ·refine zAD (zAA (zAC (zAL (sr (zCY (T:=tab) zAF s1.Classes Z Z Z Z Z Z Z fun y5 hy5=>pq 1 Z (zA9 (T:=tab) 6 Z Z Z Z Z Z Z Z Z (zAM (T:=tab) Z Z Z Z Z Z Z Z Z Z Z Z (ns (zAC (sr (pq 2 Z (ns (zB5 (zDJ fu t3 y5 (zA8 fu s1 k1)) (fun (l8:(List Int))=>[(1,.loc 1 0),(4,.loc 4 0),(6,.loc 6 0),(15,.sl 5 false (s1.Classes.map zAF)),(16,Y ((s1.Classes.length:Nat):Int)),(17,Y t3)]) (fun (l8:(List Int))=>[(4,.box 64 [.nloc 4 0,.ownb 5040]),(5040,.arr 5 1 (l8.map zAE)),(6,.box 51 [O y5.Form,.sl 1 false (y5.Watch.map cStr),.sl 7 false (y5.Peek.map cOp),.sl 7 false (y5.Make.map cOp),.sl 2 false (y5.Hooks.map zAU)]),(1,.box 25 [.sl 5 false (s1.Classes.map zAF),.sl 7 false (s1.Main.map cOp)])]) ?_ fun hj1=>?_)))))))))))))
   ·rintro l8
    refine zAA (zAC (sr (pq 2 Z (zAu (T:=tab) cStr y5.Watch Z Z Z Z Z Z Z Z (pq 1 Z (ns (zAL (lq (zCp fu t3 y5 (zA8 fu s1 k1)) (fun ((t9,l10):Int×(List Int))=>[(1,.loc 1 0),(4,.loc 4 0),(6,.loc 6 0),(15,.sl 5 false (s1.Classes.map zAF)),(16,Y ((s1.Classes.length:Nat):Int)),(17,Y t3),(28,.sl 1 false (y5.Watch.map cStr)),(29,Y ((y5.Watch.length:Nat):Int)),(30,Y t9)]) (fun ((t9,l10):Int×(List Int))=>[(4,.box 64 [.nloc 4 0,.ownb 5040]),(5040,.arr 5 1 (l10.map zAE)),(6,.box 51 [O y5.Form,.sl 1 false (y5.Watch.map cStr),.sl 7 false (y5.Peek.map cOp),.sl 7 false (y5.Make.map cOp),.sl 2 false (y5.Hooks.map zAU)]),(1,.box 25 [.sl 5 false (s1.Classes.map zAF),.sl 7 false (s1.Main.map cOp)])]) fu (0,l8) ?_))))))))
    rintro k2 ⟨t9,l10⟩
    refine sr (pq 1 Z (ns (zAC (zAN Z ?_ ?_))))
    ·refine zAD (zAA (zAC (zAL (sr (zCY (T:=tab) cStr y5.Watch Z Z Z Z Z Z Z fun y11 hy11=>pq 2 Z (ns (zAB (pq 1 Z ?_))))))))
     refine zDD (T:=tab) (rows:=[[119,97,116,99,104],y11].map cStr) 35 Z Z Z Z Z Z Z Z Z Z Z Z Z Z ?_
     exact tu [5040] (enc:=fun (r12:(List Int))=>.tup []) (Sr:=fun (r12:(List Int))=>[(4,.box 64 [.nloc 4 0,.ownb 5040]),(35,.arr 9 1 ([[119,97,116,99,104],y11].map cStr)),(5040,.arr 5 1 (r12.map zAE))]) (qs:=[.loc 4 0,.own 35]) (Sc:=[(4,.box 64 [.nloc 4 0,.ownb 5040]),(35,.arr 9 1 ([[119,97,116,99,104],y11].map cStr)),(5040,.arr 5 1 (l10.map zAE))]) (N1:=[4,35]) (NR:=[4,35,5040]) (fun r12 hr12=>fr [(900000,4),(900001,35),(900002,5040)] [900000,900001,900002] (zAy fu [[119,97,116,99,104],y11] l10 _ hr12)) zHt Z Z Z Z Z Z Z Z fun r12 hr12=>zAI (zAK (zAA (zAB (zAQ (T:=tab) Z Z Z Z fun i13 hi13=>pq 1 Z (zAI (zBH (i13,r12) ⟨Z,Z,Z,Z,Z,Z,Z,Z,Z,trivial⟩ ⟨Z,Z,Z,Z,trivial⟩ Z))))))
    ·refine zAg Z (zAA (sr (pq 2 Z (tu [5040] (enc:=fun (r14:(List Int))=>.tup []) (Sr:=fun (r14:(List Int))=>[(4,.box 64 [.nloc 4 0,.ownb 5040]),(5040,.arr 5 1 (r14.map zAE))]) (qs:=[.loc 4 0,D [112,101,101,107],.sl 7 false (y5.Peek.map cOp)]) (Sc:=[(4,.box 64 [.nloc 4 0,.ownb 5040]),(5040,.arr 5 1 (l10.map zAE))]) (N1:=[4]) (NR:=[4,5040]) (fun r14 hr14=>fr [(900000,4),(900001,5040)] [900000,900001] (zCB fu [112,101,101,107] y5.Peek l10 _ hr14)) zL3 Z Z Z Z Z Z Z Z fun r14 hr14=>ns (sr (pq 2 Z (tu [5040] (enc:=fun (r15:(List Int))=>.tup []) (Sr:=fun (r15:(List Int))=>[(4,.box 64 [.nloc 4 0,.ownb 5040]),(5040,.arr 5 1 (r15.map zAE))]) (qs:=[.loc 4 0,D [109,97,107,101],.sl 7 false (y5.Make.map cOp)]) (Sc:=[(4,.box 64 [.nloc 4 0,.ownb 5040]),(5040,.arr 5 1 (r14.map zAE))]) (N1:=[4]) (NR:=[4,5040]) (fun r15 hr15=>fr [(900000,4),(900001,5040)] [900000,900001] (zCB fu [109,97,107,101] y5.Make r14 _ hr15)) zL3 Z Z Z Z Z Z Z Z fun r15 hr15=>ns (sr (pq 2 Z (zAu (T:=tab) zAU y5.Hooks Z Z Z Z Z Z Z Z (pq 1 Z (ns (zAL (lq (zCq fu t3 y5 (zA8 fu s1 k1)) (fun ((t16,l17):Int×(List Int))=>[(1,.loc 1 0),(4,.loc 4 0),(15,.sl 5 false (s1.Classes.map zAF)),(16,Y ((s1.Classes.length:Nat):Int)),(17,Y t3),(45,.sl 2 false (y5.Hooks.map zAU)),(46,Y ((y5.Hooks.length:Nat):Int)),(47,Y t16)]) (fun ((t16,l17):Int×(List Int))=>[(4,.box 64 [.nloc 4 0,.ownb 5040]),(5040,.arr 5 1 (l17.map zAE)),(1,.box 25 [.sl 5 false (s1.Classes.map zAF),.sl 7 false (s1.Main.map cOp)])]) fu (0,r15) ?_))))))))))))))
     rintro k3 ⟨t16,l17⟩
     refine sr (pq 1 Z (ns (zAC (zAN Z ?_ ?_))))
     ·refine zAD (zAA (zAC (zAL (sr (zCY (T:=tab) zAU y5.Hooks Z Z Z Z Z Z Z fun y18 hy18=>pq 1 Z (zA9 (T:=tab) 10 Z Z Z Z Z Z Z Z Z (zAM (T:=tab) Z Z Z Z Z Z Z Z Z Z Z Z (ns (zAC (su [(1,.loc 1 0),(4,.loc 4 0),(15,.sl 5 false (s1.Classes.map zAF)),(16,Y ((s1.Classes.length:Nat):Int)),(17,Y t3),(45,.sl 2 false (y5.Hooks.map zAU)),(46,Y ((y5.Hooks.length:Nat):Int)),(47,Y t16),(10,.loc 10 0)] [(10,.box 54 [Y y18.Kind,.sl 7 false (y18.Do.map cOp)]),(4,.box 64 [.nloc 4 0,.ownb 5040]),(5040,.arr 5 1 (l17.map zAE)),(1,.box 25 [.sl 5 false (s1.Classes.map zAF),.sl 7 false (s1.Main.map cOp)])] (zBA [0,0,2,7,15,31,63] mixed (by kernel_rfl) (by kernel_rfl) Z Z (vt (zCv fu) [(102,[])] [] [102] [] [] [] (fun r19=>[(51,.sl 1 false (r19.map cStr))]) (fun r19=>[]) Z Z (fun _=>Z) (fun w0 X X0 σ0 _=>by refine zE6 (enc:=fun (r19:(List Bs))=>.sl 1 false (r19.map cStr)) (qs:=[]) (zFG fu) Z Z trivial (fun _=>Z) zQo Z Z fun r19 hr19=>?_;exact pz) fun r19 hr19=>?_))))))))))))
      refine ve [20] [104] [10] [(52,.loc 10 0)] ?_
      refine vf [21,104] [106] [] [10] [10] [(53,Y y18.Kind)] [(10,.box 54 [Y y18.Kind,.sl 7 false (y18.Do.map cOp)])] ?_
      refine vt (idx r19 y18.Kind) [(108,[])] [102,106] [108] [] [] [] (fun y20=>[(54,.el (cStr y20) 0)]) (fun y20=>[]) Z Z (fun _=>Z) (fun w0 X X0 σ0 _=>by refine zCY (T:=tab) cStr r19 Z Z Z Z Z Z Z fun y20 hy20=>?_;exact pz) fun y20 hy20=>?_
      refine ve [108] [110] [] [(55,D y20)] ?_
      refine vs [110] [112,113] [56] [] [] [(56,.own 56)] [(56,.arr 9 1 ([[111,110],y20].map cStr))] Z Z (fun w0 X X0 σ0 _=>by refine zDD (T:=tab) (rows:=[[111,110],y20].map cStr) 56 Z Z Z Z Z Z Z Z Z Z Z Z Z Z ?_;exact py) ?_
      refine vt (zAR fu [[111,110],y20] l17) [(114,[]),(10081,[]),(9,[4,5040])] [8,9,112,113,10081] [114,10081,9] [5040] [4,56] [56] (fun r21=>[(57,.tup [])]) (fun r21=>[(5040,.arr 5 1 (r21.map zAE)),(4,.box 64 [.nloc 4 0,.ownb 5040]),(56,.arr 9 1 ([[111,110],y20].map cStr))]) Z Z (fun _=>Z) (fun w0 X X0 σ0 _=>by refine tu [5040] (enc:=fun (r21:(List Int))=>.tup []) (Sr:=fun (r21:(List Int))=>[(4,.box 64 [.nloc 4 0,.ownb 5040]),(56,.arr 9 1 ([[111,110],y20].map cStr)),(5040,.arr 5 1 (r21.map zAE))]) (qs:=[.loc 4 0,.own 56]) (Sc:=[(4,.box 64 [.nloc 4 0,.ownb 5040]),(56,.arr 9 1 ([[111,110],y20].map cStr)),(5040,.arr 5 1 (l17.map zAE))]) (N1:=[4,56]) (NR:=[4,56,5040]) (fun r21 hr21=>fr [(900000,4),(900001,56),(900002,5040)] [900000,900001,900002] (zAy fu [[111,110],y20] l17 _ hr21)) zHt Z Z Z Z Z Z Z Z fun r21 hr21=>?_;exact pz) fun r21 hr21=>?_
      exact zBS Z Z (zAA (zAB (pq 2 Z (tu [5040] (enc:=fun (r22:(List Int))=>.tup []) (Sr:=fun (r22:(List Int))=>[(4,.box 64 [.nloc 4 0,.ownb 5040]),(5040,.arr 5 1 (r22.map zAE))]) (qs:=[.loc 4 0,D [],.sl 7 false (y18.Do.map cOp)]) (Sc:=[(4,.box 64 [.nloc 4 0,.ownb 5040]),(5040,.arr 5 1 (r21.map zAE))]) (N1:=[4]) (NR:=[4,5040]) (fun r22 hr22=>fr [(900000,4),(900001,5040)] [900000,900001] (zCB fu [] y18.Do r21 _ hr22)) zL3 Z Z Z Z Z Z Z Z fun r22 hr22=>zAI (zAK (zAA (zAB (zAQ (T:=tab) Z Z Z Z fun i23 hi23=>pq 1 Z (zAI (zBH (i23,r22) ⟨Z,Z,Z,Z,Z,Z,Z,Z,trivial⟩ ⟨Z,Z,Z,trivial⟩ Z))))))))))
     ·exact zAg Z (zAK (zAA (zAB (zAQ (T:=tab) Z Z Z Z fun i24 hi24=>pq 1 Z (zAI (zBH (i24,l17) ⟨Z,Z,Z,Z,Z,trivial⟩ ⟨Z,Z,Z,trivial⟩ Z))))))
   ·refine zAN Z ?_ ?_
    ·refine zAB ?_
     refine zDD (T:=tab) (rows:=[[99,108,97,115,115],[102,111,114,109]].map cStr) 23 Z Z Z Z Z Z Z Z Z Z Z Z Z Z ?_
     exact tu [5040] (enc:=fun (r6:(List Int))=>.tup []) (Sr:=fun (r6:(List Int))=>[(4,.box 64 [.nloc 4 0,.ownb 5040]),(23,.arr 9 1 ([[99,108,97,115,115],[102,111,114,109]].map cStr)),(5040,.arr 5 1 (r6.map zAE))]) (qs:=[.loc 4 0,.own 23]) (Sc:=[(4,.box 64 [.nloc 4 0,.ownb 5040]),(23,.arr 9 1 ([[99,108,97,115,115],[102,111,114,109]].map cStr)),(5040,.arr 5 1 (l4.map zAE))]) (N1:=[4,23]) (NR:=[4,23,5040]) (fun r6 hr6=>fr [(900000,4),(900001,23),(900002,5040)] [900000,900001,900002] (zAy fu [[99,108,97,115,115],[102,111,114,109]] l4 _ hr6)) zHt Z Z Z Z Z Z Z Z fun r6 hr6=>zAI (ps (hj1 r6))
    ·refine zAB ?_
     refine zDD (T:=tab) (rows:=[[99,108,97,115,115]].map cStr) 25 Z Z Z Z Z Z Z Z Z Z Z Z Z Z ?_
     exact tu [5040] (enc:=fun (r7:(List Int))=>.tup []) (Sr:=fun (r7:(List Int))=>[(4,.box 64 [.nloc 4 0,.ownb 5040]),(25,.arr 9 1 ([[99,108,97,115,115]].map cStr)),(5040,.arr 5 1 (r7.map zAE))]) (qs:=[.loc 4 0,.own 25]) (Sc:=[(4,.box 64 [.nloc 4 0,.ownb 5040]),(25,.arr 9 1 ([[99,108,97,115,115]].map cStr)),(5040,.arr 5 1 (l4.map zAE))]) (N1:=[4,25]) (NR:=[4,25,5040]) (fun r7 hr7=>fr [(900000,4),(900001,25),(900002,5040)] [900000,900001,900002] (zAy fu [[99,108,97,115,115]] l4 _ hr7)) zHt Z Z Z Z Z Z Z Z fun r7 hr7=>zAI (ps (hj1 r7))
  ·refine zAg Z (zAA (sr (pq 2 Z (tu [5040] (enc:=fun (r25:(List Int))=>.tup []) (Sr:=fun (r25:(List Int))=>[(4,.box 64 [.nloc 4 0,.ownb 5040]),(5040,.arr 5 1 (r25.map zAE))]) (qs:=[.loc 4 0,D [109,97,105,110],.sl 7 false (s1.Main.map cOp)]) (Sc:=[(4,.box 64 [.nloc 4 0,.ownb 5040]),(5040,.arr 5 1 (l4.map zAE))]) (N1:=[4]) (NR:=[4,5040]) (fun r25 hr25=>fr [(900000,4),(900001,5040)] [900000,900001] (zCB fu [109,97,105,110] s1.Main l4 _ hr25)) zL3 Z Z Z Z Z Z Z Z fun r25 hr25=>ns (zAC (sr (pq 1 Z (zDh (enc:=fun (r26:Int)=>Y r26) (first:=[]) (cap:=[]) (qs:=[.loc 4 0]) (Sc:=[(4,.box 64 [.nloc 4 0,.ownb 5040]),(5040,.arr 5 1 (r25.map zAE))]) (fun r26 hr26=>zIY [(900000,4),(900001,5040)] [900000,900001] (zFB fu r25 _ hr26) Z Z Z Z Z Z) (zBk ⟨Z,Z,trivial⟩ Z) Z Z Z Z ⟨⟨_,Z,.rfl⟩,trivial⟩ (fun _=>Z) call29 Z Z fun r26 hr26=>pq 1 Z (ns (zAN Z ?_ ?_))))))))))
   ·exact sr (pq 2 Z (ns rN))
   ·exact zAD (zAA (sr (pq 1 Z (tu [] (enc:=fun (r27:Bs)=>D r27) (Sr:=fun (r27:Bs)=>[(4,.box 64 [.nloc 4 0,.junk])]) (qs:=[.loc 4 0]) (Sc:=[(4,.box 64 [.nloc 4 0,.ownb 5040]),(5040,.arr 5 1 (r25.map zAE))]) (N1:=[4,5040]) (NR:=[4]) (fun r27 hr27=>fr [(900000,4),(900001,5040)] [900000,900001] (zD5 fu r25 _ hr27)) zL4 Z Z Z Z Z Z Z Z fun r27 hr27=>pq 2 Z (ns rN)))))
def zCN (fu:Nat):Option Bool:=bnd (zCR fu [99,108,97,115,115,32,102,111,114,109,10,119,97,116,99,104,32,97,10,109,97,107,101,10,115,117,112,101,114,10,111,110,32,99,97,109,101,10,33,116,104,114,111,119,10,109,97,105,110,10,100,101,102,105,110,101,32,48,32,34,120,45,97,34,32,34,34,10,63,10]) fun r1=>bnd (zCM fu r1.1) fun r2=>cnd (r1.2==0) (cnd (r2.2==0) (cnd (r2.1==([99,108,97,115,115,32,102,111,114,109,10,119,97,116,99,104,32,97,10,109,97,107,101,10,115,117,112,101,114,10,111,110,32,99,97,109,101,10,33,116,104,114,111,119,10,109,97,105,110,10,100,101,102,105,110,101,32,48,32,34,120,45,97,34,32,34,34,10,63,10]:Bs)) (cnd (((r1.1.Classes.length:Nat):Int)==1) (bnd (idx r1.1.Classes 0) fun y3=>cnd y3.Form (bnd (idx r1.1.Classes 0) fun y4=>cnd (((y4.Make.length:Nat):Int)==1) (bnd (idx r1.1.Classes 0) fun y5=>cnd (((y5.Hooks.length:Nat):Int)==1) (cnd (((r1.1.Main.length:Nat):Int)==2) (bnd (idx r1.1.Main 1) fun y6=>cnd (eqOp y6 (⟨0,0,0,0,[],[],false⟩:Op)) (bnd (zCS fu r1.1) fun r7=>some r7) (some false)) (some false)) (some false)) (some false)) (some false)) (some false)) (some false)) (some false)) (some false)
theorem zFp (fu:Nat):∀r,zCN fu=some r->DC zAa Tryz.prog 9 [] (O r):=by
 refine fcI Tryz.func9 Z fun w0 X X0 σ0 _=>sr (pq 1 Z (ns (sr (pc (zEU fu [99,108,97,115,115,32,102,111,114,109,10,119,97,116,99,104,32,97,10,109,97,107,101,10,115,117,112,101,114,10,111,110,32,99,97,109,101,10,33,116,104,114,111,119,10,109,97,105,110,10,100,101,102,105,110,101,32,48,32,34,120,45,97,34,32,34,34,10,63,10]) zNg Z Z Z Z fun r1 hr1=>pq 3 Z (zA9 (T:=tab) 1 Z Z Z Z Z Z Z Z Z (zAM (T:=tab) Z Z Z Z Z Z Z Z Z Z Z Z (pq 1 Z (ns (sr (pq 1 Z (pc (zD2 fu r1.1) zL0 Z Z Z Z fun r2 hr2=>pq 5 Z (ns (sr (pq 3 Z (zAJ (j:=16) Z ?_ ?_)))))))))))))))
 ·refine pq 4 Z (zAJ (j:=20) Z ?_ ?_)
  ·refine pq 4 Z (zAJ (j:=24) Z ?_ ?_)
   ·refine pq 2 Z (zAu (T:=tab) zAF r1.1.Classes Z Z Z Z Z Z Z Z (pq 3 Z (zAJ (j:=30) Z ?_ ?_)))
    ·refine pq 2 Z (zCY (T:=tab) zAF r1.1.Classes Z Z Z Z Z Z Z fun y3 hy3=>pq 4 Z (zAJ (j:=37) Z ?_ ?_))
     ·refine pq 2 Z (zCY (T:=tab) zAF r1.1.Classes Z Z Z Z Z Z Z fun y4 hy4=>pq 2 Z (zAu (T:=tab) cOp y4.Make Z Z Z Z Z Z Z Z (pq 3 Z (zAJ (j:=46) Z ?_ ?_))))
      ·refine pq 2 Z (zCY (T:=tab) zAF r1.1.Classes Z Z Z Z Z Z Z fun y5 hy5=>pq 2 Z (zAu (T:=tab) zAU y5.Hooks Z Z Z Z Z Z Z Z (pq 3 Z (zAJ (j:=55) Z ?_ ?_))))
       ·refine pq 2 Z (zAu (T:=tab) cOp r1.1.Main Z Z Z Z Z Z Z Z (pq 3 Z (zAJ (j:=61) Z ?_ ?_)))
        ·refine pq 2 Z (zCY (T:=tab) cOp r1.1.Main Z Z Z Z Z Z Z fun y6 hy6=>pq 1 Z (zAr (T:=tab) Z Z Z Z Z Z Z (po_eq zN5 Z Z Z Z Z Z Z (pq 2 Z (zAJ (j:=69) Z ?_ ?_)))))
         ·exact pq 1 Z (pc (zEf fu r1.1) zQm Z Z Z Z fun r7 hr7=>pq 2 Z (ns rN))
         ·exact pq 4 Z (ns rN)
        ·exact pq 12 Z (ns rN)
       ·exact pq 18 Z (ns rN)
      ·exact pq 27 Z (ns rN)
     ·exact pq 36 Z (ns rN)
    ·exact pq 43 Z (ns rN)
   ·exact pq 49 Z (ns rN)
  ·exact pq 53 Z (ns rN)
 ·exact pq 57 Z (ns rN)
def zBV (i2:Int) (y3:Class) (rc1:Int->Option Bool):Nat->Int->Option Bool
 | 0,_=>none
 | k2+1,k4=>cnd (decide (k4<((y3.Hooks.length:Nat):Int))) (bnd (idx y3.Hooks k4) fun y5=>cnd (decide (((y5.Do.length:Nat):Int)>80)) (some false) (bnd (rng .i64 (k4+1)) fun i6=>(zBV i2 y3 rc1 k2) i6)) (bnd (rng .i64 (i2+1)) fun i7=>rc1 i7)
def zAk (fu:Nat) (classes1:(List Class)):Nat->Int->Option Bool
 | 0,_=>none
 | k1+1,i2=>cnd (decide (i2<((classes1.length:Nat):Int))) (bnd (idx classes1 i2) fun y3=>cnd (decide (((y3.Watch.length:Nat):Int)>20)) (some false) (cnd (decide (((y3.Hooks.length:Nat):Int)>20)) (some false) (cnd (decide (((y3.Peek.length:Nat):Int)>80)) (some false) (cnd (decide (((y3.Make.length:Nat):Int)>80)) (some false) ((zBV i2 y3 (zAk fu classes1 k1)) fu 0))))) (some true)
def zCP (fu:Nat) (classes1:(List Class)):Option Bool:=cnd (decide (((classes1.length:Nat):Int)>14)) (some false) ((zAk fu classes1) fu 0)
theorem zFr (fu:Nat) (classes1:(List Class)):∀r,zCP fu classes1=some r->DC zAa Tryz.prog 23 [.sl 5 false (classes1.map zAF)] (O r):=by
 refine fcI Tryz.func23 Z fun w0 X X0 σ0 _=>sr (pq 1 Z (ns (zAC (sr (pq 1 Z (zAu (T:=tab) zAF classes1 Z Z Z Z Z Z Z Z (pq 1 Z (ns (zAN Z ?_ ?_)))))))))
 ·exact sr (pq 1 Z (ns rN))
 ·refine zAD (zAA (zAC (sr (pq 1 Z (ns (zAL (lq (zAk fu classes1) (fun (i2:Int)=>[(0,.sl 5 false (classes1.map zAF)),(3,Y i2)]) (fun (i2:Int)=>[]) fu 0 ?_)))))))
  rintro k1 i2
  refine zAC (sr (pq 2 Z (zAu (T:=tab) zAF classes1 Z Z Z Z Z Z Z Z (pq 1 Z (ns (zAN Z ?_ ?_))))))
  ·refine zAD (zAA (zAC (zAL (sr (pq 2 Z (zCY (T:=tab) zAF classes1 Z Z Z Z Z Z Z fun y3 hy3=>pq 1 Z (zA9 (T:=tab) 4 Z Z Z Z Z Z Z Z Z (zAM (T:=tab) Z Z Z Z Z Z Z Z Z Z Z Z (ns (zAC (sr (pq 2 Z (zAu (T:=tab) cStr y3.Watch Z Z Z Z Z Z Z Z (pq 2 Z (zAJ (j:=23) Z ?_ ?_)))))))))))))))
   ·refine pq 17 Z (zAI (zAA (zAW Z ?_)))
    exact sr (pq 1 Z (ns rN))
   ·refine pq 2 Z (zAu (T:=tab) zAU y3.Hooks Z Z Z Z Z Z Z Z (pq 3 Z (zAJ (j:=29) Z ?_ ?_)))
    ·refine pq 11 Z (zAI (zAA (zAW Z ?_)))
     exact sr (pq 1 Z (ns rN))
    ·refine pq 2 Z (zAu (T:=tab) cOp y3.Peek Z Z Z Z Z Z Z Z (pq 3 Z (zAJ (j:=35) Z ?_ ?_)))
     ·refine pq 5 Z (zAI (zAA (zAW Z ?_)))
      exact sr (pq 1 Z (ns rN))
     ·refine pq 2 Z (zAu (T:=tab) cOp y3.Make Z Z Z Z Z Z Z Z (pq 2 Z (ns (zAN Z ?_ ?_))))
      ·exact sr (pq 1 Z (ns rN))
      ·refine zAD (zAA (sr (pq 1 Z (ns (zAL (lq (zBV i2 y3 (zAk fu classes1 k1)) (fun (k4:Int)=>[(0,.sl 5 false (classes1.map zAF)),(3,Y i2),(4,.loc 4 0),(5,Y k4)]) (fun (k4:Int)=>[(4,.box 51 [O y3.Form,.sl 1 false (y3.Watch.map cStr),.sl 7 false (y3.Peek.map cOp),.sl 7 false (y3.Make.map cOp),.sl 2 false (y3.Hooks.map zAU)])]) fu 0 ?_))))))
       rintro k2 k4
       refine zAC (sr (pq 3 Z (zAu (T:=tab) zAU y3.Hooks Z Z Z Z Z Z Z Z (pq 1 Z (ns (zAN Z ?_ ?_))))))
       ·refine zAD (zAA (zAC (zAL (sr (pq 3 Z (zCY (T:=tab) zAU y3.Hooks Z Z Z Z Z Z Z fun y5 hy5=>pq 2 Z (zAu (T:=tab) cOp y5.Do Z Z Z Z Z Z Z Z (pq 1 Z (ns (zAN Z ?_ ?_))))))))))
        ·exact sr (pq 1 Z (ns rN))
        ·exact zAD (zAK (zAA (zAB (pq 1 Z (zAQ (T:=tab) Z Z Z Z fun i6 hi6=>pq 1 Z (zAI (zBH i6 ⟨Z,Z,Z,Z,trivial⟩ ⟨Z,trivial⟩ Z)))))))
       ·exact zAg Z (zAK (zAA (zAB (pq 1 Z (zAQ (T:=tab) Z Z Z Z fun i7 hi7=>pq 1 Z (zAI (zBH i7 ⟨Z,Z,trivial⟩ trivial Z)))))))
  ·exact zAg Z (zAA (sr (pq 1 Z (ns rN))))
def zBU (l1:(List Op)):Nat->Int->Option Bool
 | 0,_=>none
 | k1+1,i2=>cnd (decide (i2<((l1.length:Nat):Int))) (bnd (idx l1 i2) fun y3=>cnd (decide (((y3.S.length:Nat):Int)>300)) (some false) (bnd (idx l1 i2) fun y4=>cnd (decide (((y4.T.length:Nat):Int)>300)) (some false) (bnd (rng .i64 (i2+1)) fun i5=>(zBU l1 k1) i5))) (some true)
def zA7 (fu:Nat) (l1:(List Op)):Option Bool:=(zBU l1) fu 0
theorem zBu (fu:Nat) (l1:(List Op)):∀r,zA7 fu l1=some r->DC zAa Tryz.prog 22 [.sl 7 false (l1.map cOp)] (O r):=by
 refine fcI Tryz.func22 Z fun w0 X X0 σ0 _=>sr (pq 1 Z (ns (zAC (sr (pq 1 Z (ns (zAL (lq (zBU l1) (fun (i2:Int)=>[(0,.sl 7 false (l1.map cOp)),(3,Y i2)]) (fun (i2:Int)=>[]) fu 0 ?_))))))))
 rintro k1 i2
 refine zAC (sr (pq 2 Z (zAu (T:=tab) cOp l1 Z Z Z Z Z Z Z Z (pq 1 Z (ns (zAN Z ?_ ?_))))))
 ·refine zAD (zAA (zAC (zAL (sr (pq 2 Z (zCY (T:=tab) cOp l1 Z Z Z Z Z Z Z fun y3 hy3=>pq 5 Z (zAJ (j:=17) Z ?_ ?_)))))))
  ·refine pq 8 Z (zAI (zAA (zAW Z ?_)))
   exact sr (pq 1 Z (ns rN))
  ·refine pq 2 Z (zCY (T:=tab) cOp l1 Z Z Z Z Z Z Z fun y4 hy4=>pq 5 Z (ns (zAN Z ?_ ?_)))
   ·exact sr (pq 1 Z (ns rN))
   ·exact zAD (zAK (zAA (zAB (pq 1 Z (zAQ (T:=tab) Z Z Z Z fun i5 hi5=>pq 1 Z (zAI (zBH i5 ⟨Z,Z,trivial⟩ trivial Z)))))))
 ·exact zAg Z (zAA (sr (pq 1 Z (ns rN))))
def zBm (fu:Nat) (i4:Int) (y5:Class) (rc1:Int->Option Bool):Nat->Int->Option Bool
 | 0,_=>none
 | k3+1,k9=>cnd (decide (k9<((y5.Hooks.length:Nat):Int))) (bnd (idx y5.Hooks k9) fun y10=>bnd (zA7 fu y10.Do) fun r11=>cnd (!r11) (some false) (bnd (rng .i64 (k9+1)) fun i12=>(zBm fu i4 y5 rc1 k3) i12)) (bnd (zA7 fu y5.Peek) fun r13=>cnd (!r13) (some false) (bnd (zA7 fu y5.Make) fun r14=>cnd (!r14) (some false) (bnd (rng .i64 (i4+1)) fun i15=>rc1 i15)))
def zBl (fu:Nat) (i4:Int) (y5:Class) (rc1:Int->Option Bool):Nat->Int->Option Bool
 | 0,_=>none
 | k2+1,k6=>cnd (decide (k6<((y5.Watch.length:Nat):Int))) (bnd (idx y5.Watch k6) fun y7=>cnd (decide (((y7.length:Nat):Int)>300)) (some false) (bnd (rng .i64 (k6+1)) fun i8=>(zBl fu i4 y5 rc1 k2) i8)) ((zBm fu i4 y5 rc1) fu 0)
def zBF (fu:Nat) (s1:Script):Nat->Int->Option Bool
 | 0,_=>none
 | k1+1,i4=>cnd (decide (i4<((s1.Classes.length:Nat):Int))) (bnd (idx s1.Classes i4) fun y5=>(zBl fu i4 y5 (zBF fu s1 k1)) fu 0) (some true)
def zCH (fu:Nat) (s1:Script):Option Bool:=bnd (zCP fu s1.Classes) fun r2=>cnd (!r2) (some false) (cnd (decide (((s1.Main.length:Nat):Int)>320)) (some false) (bnd (zA7 fu s1.Main) fun r3=>cnd (!r3) (some false) ((zBF fu s1) fu 0)))
theorem zEO (fu:Nat) (s1:Script):∀r,zCH fu s1=some r->DC zAa Tryz.prog 10 [.agg (zCs s1)] (O r):=by
 refine fcI Tryz.func10 Z fun w0 X X0 σ0 _=>sr (zDV  1 Z Z Z Z Z Z Z Z Z Z (pq 1 Z (ns (zAC (sr (pq 2 Z (pc (zFr fu s1.Classes) call23 Z Z Z Z fun r2 hr2=>pq 2 Z (zAJ (j:=11) Z ?_ ?_))))))))
 ·refine pq 11 Z (zAI (zAA (zAW Z ?_)))
  exact sr (pq 1 Z (ns rN))
 ·refine pq 2 Z (zAu (T:=tab) cOp s1.Main Z Z Z Z Z Z Z Z (pq 3 Z (zAJ (j:=17) Z ?_ ?_)))
  ·refine pq 5 Z (zAI (zAA (zAW Z ?_)))
   exact sr (pq 1 Z (ns rN))
  ·refine pq 2 Z (pc (zBu fu s1.Main) zJ5 Z Z Z Z fun r3 hr3=>pq 2 Z (ns (zAN Z ?_ ?_)))
   ·exact sr (pq 1 Z (ns rN))
   ·refine zAD (zAA (zAC (sr (pq 1 Z (ns (zAL (lq (zBF fu s1) (fun (i4:Int)=>[(1,.loc 1 0),(3,Y i4)]) (fun (i4:Int)=>[(1,.box 25 [.sl 5 false (s1.Classes.map zAF),.sl 7 false (s1.Main.map cOp)])]) fu 0 ?_)))))))
    rintro k1 i4
    refine zAC (sr (pq 3 Z (zAu (T:=tab) zAF s1.Classes Z Z Z Z Z Z Z Z (pq 1 Z (ns (zAN Z ?_ ?_))))))
    ·refine zAD (zAA (zAC (zAL (sr (pq 3 Z (zCY (T:=tab) zAF s1.Classes Z Z Z Z Z Z Z fun y5 hy5=>pq 1 Z (zA9 (T:=tab) 4 Z Z Z Z Z Z Z Z Z (zAM (T:=tab) Z Z Z Z Z Z Z Z Z Z Z Z (ns (zAC (sr (pq 1 Z (ns (zAL (lq (zBl fu i4 y5 (zBF fu s1 k1)) (fun (k6:Int)=>[(1,.loc 1 0),(3,Y i4),(4,.loc 4 0),(5,Y k6)]) (fun (k6:Int)=>[(4,.box 51 [O y5.Form,.sl 1 false (y5.Watch.map cStr),.sl 7 false (y5.Peek.map cOp),.sl 7 false (y5.Make.map cOp),.sl 2 false (y5.Hooks.map zAU)]),(1,.box 25 [.sl 5 false (s1.Classes.map zAF),.sl 7 false (s1.Main.map cOp)])]) fu 0 ?_)))))))))))))))
     rintro k2 k6
     refine zAC (sr (pq 3 Z (zAu (T:=tab) cStr y5.Watch Z Z Z Z Z Z Z Z (pq 1 Z (ns (zAN Z ?_ ?_))))))
     ·refine zAD (zAA (zAC (zAL (sr (pq 3 Z (zCY (T:=tab) cStr y5.Watch Z Z Z Z Z Z Z fun y7 hy7=>pq 3 Z (ns (zAN Z ?_ ?_))))))))
      ·exact sr (pq 1 Z (ns rN))
      ·exact zAD (zAK (zAA (zAB (pq 1 Z (zAQ (T:=tab) Z Z Z Z fun i8 hi8=>pq 1 Z (zAI (zBH i8 ⟨Z,Z,Z,Z,trivial⟩ ⟨Z,Z,trivial⟩ Z)))))))
     ·refine zAg Z (zAA (zAC (sr (pq 1 Z (ns (zAL (lq (zBm fu i4 y5 (zBF fu s1 k1)) (fun (k9:Int)=>[(1,.loc 1 0),(3,Y i4),(4,.loc 4 0),(6,Y k9)]) (fun (k9:Int)=>[(4,.box 51 [O y5.Form,.sl 1 false (y5.Watch.map cStr),.sl 7 false (y5.Peek.map cOp),.sl 7 false (y5.Make.map cOp),.sl 2 false (y5.Hooks.map zAU)]),(1,.box 25 [.sl 5 false (s1.Classes.map zAF),.sl 7 false (s1.Main.map cOp)])]) fu 0 ?_)))))))
      rintro k3 k9
      refine zAC (sr (pq 3 Z (zAu (T:=tab) zAU y5.Hooks Z Z Z Z Z Z Z Z (pq 1 Z (ns (zAN Z ?_ ?_))))))
      ·refine zAD (zAA (zAC (zAL (sr (pq 3 Z (zCY (T:=tab) zAU y5.Hooks Z Z Z Z Z Z Z fun y10 hy10=>pq 2 Z (pc (zBu fu y10.Do) zJ5 Z Z Z Z fun r11 hr11=>pq 1 Z (ns (zAN Z ?_ ?_)))))))))
       ·exact sr (pq 1 Z (ns rN))
       ·exact zAD (zAK (zAA (zAB (pq 1 Z (zAQ (T:=tab) Z Z Z Z fun i12 hi12=>pq 1 Z (zAI (zBH i12 ⟨Z,Z,Z,Z,trivial⟩ ⟨Z,Z,trivial⟩ Z)))))))
      ·refine zAg Z (zAA (sr (pq 2 Z (pc (zBu fu y5.Peek) zJ5 Z Z Z Z fun r13 hr13=>pq 2 Z (zAJ (j:=68) Z ?_ ?_)))))
       ·refine pq 5 Z (zAI (zAA (zAW Z ?_)))
        exact sr (pq 1 Z (ns rN))
       ·refine pq 2 Z (pc (zBu fu y5.Make) zJ5 Z Z Z Z fun r14 hr14=>pq 2 Z (ns (zAN Z ?_ ?_)))
        ·exact sr (pq 1 Z (ns rN))
        ·exact zAD (zAK (zAA (zAB (pq 1 Z (zAQ (T:=tab) Z Z Z Z fun i15 hi15=>pq 1 Z (zAI (zBH i15 ⟨Z,Z,trivial⟩ ⟨Z,trivial⟩ Z)))))))
    ·exact zAg Z (zAA (sr (pq 1 Z (ns rN))))
def zBn (a1:(List Op)) (b2:(List Op)):Nat->Int->Option Bool
 | 0,_=>none
 | k1+1,i3=>cnd (decide (i3<((a1.length:Nat):Int))) (bnd (idx a1 i3) fun y4=>bnd (idx b2 i3) fun y5=>cnd (!(eqOp y4 y5)) (some false) (bnd (rng .i64 (i3+1)) fun i6=>(zBn a1 b2 k1) i6)) (some true)
def zBZ (fu:Nat) (a1:(List Op)) (b2:(List Op)):Option Bool:=cnd (((a1.length:Nat):Int) != ((b2.length:Nat):Int)) (some false) ((zBn a1 b2) fu 0)
theorem zCU (fu:Nat) (a1:(List Op)) (b2:(List Op)):∀r,zBZ fu a1 b2=some r->DC zAa Tryz.prog 20 [.sl 7 false (a1.map cOp),.sl 7 false (b2.map cOp)] (O r):=by
 refine fcI Tryz.func20 Z fun w0 X X0 σ0 _=>sr (pq 1 Z (ns (zAC (sr (pq 1 Z (zAu (T:=tab) cOp a1 Z Z Z Z Z Z Z Z (pq 1 Z (zAu (T:=tab) cOp b2 Z Z Z Z Z Z Z Z (pq 1 Z (ns (zAN Z ?_ ?_)))))))))))
 ·exact sr (pq 1 Z (ns rN))
 ·refine zAD (zAA (zAC (sr (pq 1 Z (ns (zAL (lq (zBn a1 b2) (fun (i3:Int)=>[(0,.sl 7 false (a1.map cOp)),(1,.sl 7 false (b2.map cOp)),(5,Y i3)]) (fun (i3:Int)=>[]) fu 0 ?_)))))))
  rintro k1 i3
  refine zAC (sr (pq 2 Z (zAu (T:=tab) cOp a1 Z Z Z Z Z Z Z Z (pq 1 Z (ns (zAN Z ?_ ?_))))))
  ·refine zAD (zAA (zAC (zAL (zAC (zDu mixed (by kernel_rfl) (zA4 (T:=tab) 2 Z Z (zFy (T:=tab) cOp a1 Z Z Z Z Z Z Z fun y4 hy4=>zA4 (T:=tab) 3 Z Z (zFy (T:=tab) cOp b2 Z Z Z Z Z Z Z fun y5 hy5=>zA4 (T:=tab) 1 Z Z (pd_ne zN5 Z Z Z Z Z Z Z (zDU (zAA (zAN Z ?_ ?_))))))))))))
   ·exact sr (pq 1 Z (ns rN))
   ·exact zAD (zAK (zAA (zAB (pq 1 Z (zAQ (T:=tab) Z Z Z Z fun i6 hi6=>pq 1 Z (zAI (zBH i6 ⟨Z,Z,Z,trivial⟩ trivial Z)))))))
  ·exact zAg Z (zAA (sr (pq 1 Z (ns rN))))
def zBC (fu:Nat) (a1:Class) (b2:Class):Nat->Int->Option Bool
 | 0,_=>none
 | k2+1,i9=>cnd (decide (i9<((a1.Hooks.length:Nat):Int))) (bnd (idx a1.Hooks i9) fun y10=>bnd (idx b2.Hooks i9) fun y11=>cnd (y10.Kind != y11.Kind) (some false) (bnd (idx a1.Hooks i9) fun y12=>bnd (idx b2.Hooks i9) fun y13=>bnd (zBZ fu y12.Do y13.Do) fun r14=>cnd (!r14) (some false) (bnd (rng .i64 (i9+1)) fun i15=>(zBC fu a1 b2 k2) i15))) (some true)
def zBB (fu:Nat) (a1:Class) (b2:Class):Nat->Int->Option Bool
 | 0,_=>none
 | k1+1,i5=>cnd (decide (i5<((a1.Watch.length:Nat):Int))) (bnd (idx a1.Watch i5) fun y6=>bnd (idx b2.Watch i5) fun y7=>cnd (!(y6==y7)) (some false) (bnd (rng .i64 (i5+1)) fun i8=>(zBB fu a1 b2 k1) i8)) ((zBC fu a1 b2) fu 0)
def zCO (fu:Nat) (a1:Class) (b2:Class):Option Bool:=cnd (!(a1.Form==b2.Form)) (some false) (cnd (((a1.Watch.length:Nat):Int) != ((b2.Watch.length:Nat):Int)) (some false) (bnd (zBZ fu a1.Peek b2.Peek) fun r3=>cnd (!r3) (some false) (bnd (zBZ fu a1.Make b2.Make) fun r4=>cnd (!r4) (some false) (cnd (((a1.Hooks.length:Nat):Int) != ((b2.Hooks.length:Nat):Int)) (some false) ((zBB fu a1 b2) fu 0)))))
theorem zFq (fu:Nat) (a1:Class) (b2:Class):∀r,zCO fu a1 b2=some r->DC zAa Tryz.prog 82 [.agg (zAF a1),.agg (zAF b2)] (O r):=by
 refine fcI Tryz.func82 Z fun w0 X X0 σ0 _=>sr (zDV  2 Z Z Z Z Z Z Z Z Z Z (zDV  3 Z Z Z Z Z Z Z Z Z Z (pq 1 Z (ns (zAC (sr (pq 6 Z (zAJ (j:=12) Z ?_ ?_))))))))
 ·refine pq 33 Z (zAI (zAA (zAW Z ?_)))
  exact sr (pq 1 Z (ns rN))
 ·refine pq 2 Z (zAu (T:=tab) cStr a1.Watch Z Z Z Z Z Z Z Z (pq 2 Z (zAu (T:=tab) cStr b2.Watch Z Z Z Z Z Z Z Z (pq 3 Z (zAJ (j:=21) Z ?_ ?_)))))
  ·refine pq 24 Z (zAI (zAA (zAW Z ?_)))
   exact sr (pq 1 Z (ns rN))
  ·refine pq 4 Z (pc (zCU fu a1.Peek b2.Peek) zL2 Z Z Z Z fun r3 hr3=>pq 3 Z (zAJ (j:=29) Z ?_ ?_))
   ·refine pq 16 Z (zAI (zAA (zAW Z ?_)))
    exact sr (pq 1 Z (ns rN))
   ·refine pq 4 Z (pc (zCU fu a1.Make b2.Make) zL2 Z Z Z Z fun r4 hr4=>pq 3 Z (zAJ (j:=37) Z ?_ ?_))
    ·refine pq 8 Z (zAI (zAA (zAW Z ?_)))
     exact sr (pq 1 Z (ns rN))
    ·refine pq 2 Z (zAu (T:=tab) zAU a1.Hooks Z Z Z Z Z Z Z Z (pq 2 Z (zAu (T:=tab) zAU b2.Hooks Z Z Z Z Z Z Z Z (pq 2 Z (ns (zAN Z ?_ ?_))))))
     ·exact sr (pq 1 Z (ns rN))
     ·refine zAD (zAA (zAC (sr (pq 1 Z (ns (zAL (lq (zBB fu a1 b2) (fun (i5:Int)=>[(2,.loc 2 0),(3,.loc 3 0),(5,Y i5)]) (fun (i5:Int)=>[(3,.box 51 [O b2.Form,.sl 1 false (b2.Watch.map cStr),.sl 7 false (b2.Peek.map cOp),.sl 7 false (b2.Make.map cOp),.sl 2 false (b2.Hooks.map zAU)]),(2,.box 51 [O a1.Form,.sl 1 false (a1.Watch.map cStr),.sl 7 false (a1.Peek.map cOp),.sl 7 false (a1.Make.map cOp),.sl 2 false (a1.Hooks.map zAU)])]) fu 0 ?_)))))))
      rintro k1 i5
      refine zAC (sr (pq 3 Z (zAu (T:=tab) cStr a1.Watch Z Z Z Z Z Z Z Z (pq 1 Z (ns (zAN Z ?_ ?_))))))
      ·refine zAD (zAA (zAC (zAL (zAC (zDu mixed (by kernel_rfl) (zA4 (T:=tab) 3 Z Z (zFy (T:=tab) cStr a1.Watch Z Z Z Z Z Z Z fun y6 hy6=>zA4 (T:=tab) 4 Z Z (zFy (T:=tab) cStr b2.Watch Z Z Z Z Z Z Z fun y7 hy7=>zA4 (T:=tab) 2 Z Z (zDU (zAA (zAN Z ?_ ?_)))))))))))
       ·exact sr (pq 1 Z (ns rN))
       ·exact zAD (zAK (zAA (zAB (pq 1 Z (zAQ (T:=tab) Z Z Z Z fun i8 hi8=>pq 1 Z (zAI (zBH i8 ⟨Z,Z,Z,trivial⟩ ⟨Z,Z,trivial⟩ Z)))))))
      ·refine zAg Z (zAA (zAC (sr (pq 1 Z (ns (zAL (lq (zBC fu a1 b2) (fun (i9:Int)=>[(2,.loc 2 0),(3,.loc 3 0),(6,Y i9)]) (fun (i9:Int)=>[(3,.box 51 [O b2.Form,.sl 1 false (b2.Watch.map cStr),.sl 7 false (b2.Peek.map cOp),.sl 7 false (b2.Make.map cOp),.sl 2 false (b2.Hooks.map zAU)]),(2,.box 51 [O a1.Form,.sl 1 false (a1.Watch.map cStr),.sl 7 false (a1.Peek.map cOp),.sl 7 false (a1.Make.map cOp),.sl 2 false (a1.Hooks.map zAU)])]) fu 0 ?_)))))))
       rintro k2 i9
       refine zAC (sr (pq 3 Z (zAu (T:=tab) zAU a1.Hooks Z Z Z Z Z Z Z Z (pq 1 Z (ns (zAN Z ?_ ?_))))))
       ·refine zAD (zAA (zAC (zAL (zAC (zDu mixed (by kernel_rfl) (zA4 (T:=tab) 3 Z Z (zFy (T:=tab) zAU a1.Hooks Z Z Z Z Z Z Z fun y10 hy10=>zA4 (T:=tab) 5 Z Z (zFy (T:=tab) zAU b2.Hooks Z Z Z Z Z Z Z fun y11 hy11=>zA4 (T:=tab) 4 Z Z (zFl (j:=84) Z ?_ ?_)))))))))
        ·refine zA4 (T:=tab) 15 Z Z (zDU (zAA (zAW Z ?_)))
         exact sr (pq 1 Z (ns rN))
        ·refine zA4 (T:=tab) 3 Z Z (zFy (T:=tab) zAU a1.Hooks Z Z Z Z Z Z Z fun y12 hy12=>zA4 (T:=tab) 5 Z Z (zFy (T:=tab) zAU b2.Hooks Z Z Z Z Z Z Z fun y13 hy13=>zA4 (T:=tab) 2 Z Z (pdc (zCU fu y12.Do y13.Do) zL2 Z Z Z Z fun r14 hr14=>zA4 (T:=tab) 2 Z Z (zDU (zAA (zAN Z ?_ ?_))))))
         ·exact sr (pq 1 Z (ns rN))
         ·exact zAD (zAK (zAA (zAB (pq 1 Z (zAQ (T:=tab) Z Z Z Z fun i15 hi15=>pq 1 Z (zAI (zBH i15 ⟨Z,Z,Z,trivial⟩ ⟨Z,Z,trivial⟩ Z)))))))
       ·exact zAg Z (zAA (sr (pq 1 Z (ns rN))))
def zBJ (fu:Nat) (a1:(List Class)) (b2:(List Class)):Nat->Int->Option Bool
 | 0,_=>none
 | k1+1,i3=>cnd (decide (i3<((a1.length:Nat):Int))) (bnd (idx a1 i3) fun y4=>bnd (idx b2 i3) fun y5=>bnd (zCO fu y4 y5) fun r6=>cnd (!r6) (some false) (bnd (rng .i64 (i3+1)) fun i7=>(zBJ fu a1 b2 k1) i7)) (some true)
def zB8 (fu:Nat) (a1:(List Class)) (b2:(List Class)):Option Bool:=cnd (((a1.length:Nat):Int) != ((b2.length:Nat):Int)) (some false) ((zBJ fu a1 b2) fu 0)
theorem zFA (fu:Nat) (a1:(List Class)) (b2:(List Class)):∀r,zB8 fu a1 b2=some r->DC zAa Tryz.prog 45 [.sl 5 false (a1.map zAF),.sl 5 false (b2.map zAF)] (O r):=by
 refine fcI Tryz.func45 Z fun w0 X X0 σ0 _=>sr (pq 1 Z (ns (zAC (sr (pq 1 Z (zAu (T:=tab) zAF a1 Z Z Z Z Z Z Z Z (pq 1 Z (zAu (T:=tab) zAF b2 Z Z Z Z Z Z Z Z (pq 1 Z (ns (zAN Z ?_ ?_)))))))))))
 ·exact sr (pq 1 Z (ns rN))
 ·refine zAD (zAA (zAC (sr (pq 1 Z (ns (zAL (lq (zBJ fu a1 b2) (fun (i3:Int)=>[(0,.sl 5 false (a1.map zAF)),(1,.sl 5 false (b2.map zAF)),(5,Y i3)]) (fun (i3:Int)=>[]) fu 0 ?_)))))))
  rintro k1 i3
  refine zAC (sr (pq 2 Z (zAu (T:=tab) zAF a1 Z Z Z Z Z Z Z Z (pq 1 Z (ns (zAN Z ?_ ?_))))))
  ·refine zAD (zAA (zAC (zAL (zAC (zDu mixed (by kernel_rfl) (zA4 (T:=tab) 2 Z Z (zFy (T:=tab) zAF a1 Z Z Z Z Z Z Z fun y4 hy4=>zA4 (T:=tab) 3 Z Z (zFy (T:=tab) zAF b2 Z Z Z Z Z Z Z fun y5 hy5=>zA4 (T:=tab) 1 Z Z (pdc (zFq fu y4 y5) call82 Z Z Z Z fun r6 hr6=>zA4 (T:=tab) 1 Z Z (zDU (zAA (zAN Z ?_ ?_))))))))))))
   ·exact sr (pq 1 Z (ns rN))
   ·exact zAD (zAK (zAA (zAB (pq 1 Z (zAQ (T:=tab) Z Z Z Z fun i7 hi7=>pq 1 Z (zAI (zBH i7 ⟨Z,Z,Z,trivial⟩ trivial Z)))))))
  ·exact zAg Z (zAA (sr (pq 1 Z (ns rN))))
def zA0 (fu:Nat) (a1:Script) (b2:Script):Option Bool:=bnd (zB8 fu a1.Classes b2.Classes) fun r3=>cnd r3 (bnd (zBZ fu a1.Main b2.Main) fun r4=>some r4) (some false)
theorem zEC (fu:Nat) (a1:Script) (b2:Script):∀r,zA0 fu a1 b2=some r->DC zAa Tryz.prog 17 [.agg (zCs a1),.agg (zCs b2)] (O r):=by
 refine fcI Tryz.func17 Z fun w0 X X0 σ0 _=>sr (zDV  2 Z Z Z Z Z Z Z Z Z Z (zDV  3 Z Z Z Z Z Z Z Z Z Z (pq 1 Z (ns (sr (pq 4 Z (pc (zFA fu a1.Classes b2.Classes) call45 Z Z Z Z fun r3 hr3=>pq 1 Z (zAJ (j:=10) Z ?_ ?_))))))))
 ·exact pq 4 Z (pc (zCU fu a1.Main b2.Main) zL2 Z Z Z Z fun r4 hr4=>pq 2 Z (ns rN))
 ·exact pq 7 Z (ns rN)
def zAh (r8:(Bs×Int)) (r9:(Bs×Int)) (r10:(Bs×Int)) (x_:Unit):Option Bool:=cnd (r8.2==0) (cnd (r9.2==0) (cnd (r10.2==0) (some true) (some (r10.1==([]:Bs)))) (cnd (r9.1==([]:Bs)) (cnd (r10.2==0) (some true) (some (r10.1==([]:Bs)))) (some false))) (cnd (r8.1==([]:Bs)) (cnd (r9.2==0) (cnd (r10.2==0) (some true) (some (r10.1==([]:Bs)))) (cnd (r9.1==([]:Bs)) (cnd (r10.2==0) (some true) (some (r10.1==([]:Bs)))) (some false))) (some false))
def zAv (fu:Nat) (x1:Script) (c3:Class) (r8:(Bs×Int)) (r10:(Bs×Int)) (x_:Unit):Option Bool:=bnd (cat r8.1 r10.1) fun s18=>bnd (zCR fu s18) fun r19=>cnd (((x1.Classes.length:Nat):Int)==12) (some true) (bnd (rng .i64 (((r8.1.length:Nat):Int)+((r10.1.length:Nat):Int))) fun i20=>cnd (decide (i20>16384)) (some true) (cnd (r19.2==0) (bnd (zDG 104 (([]:List Class).length+x1.Classes.length)) fun _=>bnd (zDG 104 ((([]:List Class)++x1.Classes).length+([c3]:List Class).length)) fun _=>bnd (zA0 fu r19.1 (⟨((([]:List Class)++x1.Classes)++[c3]),x1.Main⟩:Script)) fun r21=>some r21) (some false)))
def zA3 (fu:Nat) (x1:Script) (l2:(List Op)) (c3:Class):Option Bool:=bnd (zCN fu) fun r4=>cnd (!r4) (some false) (bnd (zCH fu x1) fun r5=>cnd (!r5) (some true) (bnd (zCH fu (⟨[c3],[]⟩:Script)) fun r6=>cnd (!r6) (some true) (bnd (zA7 fu l2) fun r7=>cnd (!r7) (some true) (cnd (decide (((l2.length:Nat):Int)>40)) (some true) (bnd (zCM fu x1) fun r8=>bnd (zCM fu (⟨[],l2⟩:Script)) fun r9=>bnd (zCM fu (⟨[c3],[]⟩:Script)) fun r10=>cnd (r8.2 != 0) ((zAh r8 r9 r10) ()) (cnd (r9.2 != 0) ((zAh r8 r9 r10) ()) (cnd (r10.2 != 0) ((zAh r8 r9 r10) ()) (bnd (cat r8.1 ([109,97,105,110,10]:Bs)) fun s11=>bnd (cat s11 r9.1) fun s12=>bnd (zCR fu s12) fun r13=>bnd (rng .i64 (((r8.1.length:Nat):Int)+((r9.1.length:Nat):Int))) fun i14=>bnd (rng .i64 (i14+5)) fun i15=>cnd (decide (i15>16384)) (cnd (r13.2 != 3) (some false) ((zAv fu x1 c3 r8 r10) ())) (bnd (rng .i64 (((x1.Main.length:Nat):Int)+((l2.length:Nat):Int))) fun i16=>cnd (decide (i16>300)) (cnd (r13.2 != 3) (some false) ((zAv fu x1 c3 r8 r10) ())) (cnd (r13.2 != 0) (some false) (bnd (zDG 72 (([]:List Op).length+x1.Main.length)) fun _=>bnd (zDG 72 ((([]:List Op)++x1.Main).length+l2.length)) fun _=>bnd (zA0 fu r13.1 (⟨x1.Classes,((([]:List Op)++x1.Main)++l2)⟩:Script)) fun r17=>cnd (!r17) (some false) ((zAv fu x1 c3 r8 r10) ()))))))))))))
theorem zET (fu:Nat) (x1:Script) (l2:(List Op)) (c3:Class):∀r,zA3 fu x1 l2 c3=some r->DC zAa Tryz.prog 8 [.agg (zCs x1),.sl 7 false (l2.map cOp),.agg (zAF c3)] (O r):=by
 refine fcI Tryz.func8 Z fun w0 X X0 σ0 _=>sr ?_
 refine zDV  3 Z Z Z Z Z Z Z Z Z Z ?_
 refine zDV  5 Z Z Z Z Z Z Z Z Z Z ?_
 refine pq 1 Z (ns (zAC (sr ?_)))
 refine zE6 (enc:=fun (r4:Bool)=>O r4) (qs:=[]) (zFp fu) Z Z trivial (fun _=>Z) call9 Z Z fun r4 hr4=>?_
 refine pq 1 Z (ns ?_)
 refine zAN Z ?_ ?_
 ·refine sr (pq 1 Z (ns ?_))
  exact rN
 ·refine zAD (zAA (zAC (sr (pq 1 Z ?_))))
  refine pc (zEO fu x1) zQl Z Z Z Z fun r5 hr5=>?_
  refine pq 2 Z ?_
  refine zAJ (j:=22) Z ?_ ?_
  ·refine pq 16 Z (zAI ?_)
   refine zAA (zAW Z ?_)
   refine sr (pq 1 Z (ns ?_))
   exact rN
  ·refine pq 1 Z ?_
   refine zDD (T:=tab) (rows:=[c3].map zAF) 24 Z Z Z Z Z Z Z Z Z Z Z Z Z Z ?_
   refine zAr (T:=tab) Z Z Z Z Z Z Z ?_
   refine zC1 24 Z Z Z ?_
   refine zE6 (enc:=fun (r6:Bool)=>O r6) (qs:=[.agg (zCs (⟨[c3],[]⟩:Script))]) (zEO fu (⟨[c3],[]⟩:Script)) Z Z ⟨⟨_,Z,(.agg ⟨.rfl,.nil,trivial⟩)⟩,trivial⟩ (fun _=>Z) zQl Z Z fun r6 hr6=>?_
   refine pq 3 Z ?_
   refine zAJ (j:=29) Z ?_ ?_
   ·refine pq 9 Z (zAI ?_)
    refine zAA (zAW Z ?_)
    refine sr (pq 1 Z (ns ?_))
    exact rN
   ·refine pq 1 Z ?_
    refine pc (zBu fu l2) zJ5 Z Z Z Z fun r7 hr7=>?_
    refine pq 3 Z ?_
    refine zAJ (j:=34) Z ?_ ?_
    ·refine pq 4 Z (zAI ?_)
     refine zAA (zAW Z ?_)
     refine sr (pq 1 Z (ns ?_))
     exact rN
    ·refine pq 1 Z ?_
     refine zAu (T:=tab) cOp l2 Z Z Z Z Z Z Z Z ?_
     refine pq 2 Z (ns ?_)
     refine zAN Z ?_ ?_
     ·refine sr (pq 1 Z (ns ?_))
      exact rN
     ·refine zAD (zAA (sr (pq 1 Z ?_)))
      refine pc (zD2 fu x1) zL0 Z Z Z Z fun r8 hr8=>?_
      refine pq 5 Z (ns (sr (pq 1 Z ?_)))
      refine zAr (T:=tab) Z Z Z Z Z Z Z ?_
      refine zE6 (enc:=fun (r9:(Bs×Int))=>.tup [D r9.1,Y r9.2]) (qs:=[.agg (zCs (⟨[],l2⟩:Script))]) (zD2 fu (⟨[],l2⟩:Script)) Z Z ⟨⟨_,Z,(.agg ⟨.nil,.rfl,trivial⟩)⟩,trivial⟩ (fun _=>Z) zL0 Z Z fun r9 hr9=>?_
      refine pq 5 Z (ns (sr (pq 1 Z ?_)))
      refine zDD (T:=tab) (rows:=[c3].map zAF) 52 Z Z Z Z Z Z Z Z Z Z Z Z Z Z ?_
      refine zAr (T:=tab) Z Z Z Z Z Z Z ?_
      refine zC1 52 Z Z Z ?_
      refine zE6 (enc:=fun (r10:(Bs×Int))=>.tup [D r10.1,Y r10.2]) (qs:=[.agg (zCs (⟨[c3],[]⟩:Script))]) (zD2 fu (⟨[c3],[]⟩:Script)) Z Z ⟨⟨_,Z,(.agg ⟨.rfl,.nil,trivial⟩)⟩,trivial⟩ (fun _=>Z) zL0 Z Z fun r10 hr10=>?_
      refine pq 5 Z (ns (zAC (sr ?_)))
      refine zMW (zAh r8 r9 r10) (fun (_:Unit)=>[(7,D r8.1),(8,Y r8.2),(9,D r9.1),(10,Y r9.2),(11,D r10.1),(12,Y r10.2)]) (fun (_:Unit)=>[]) ?_ fun hj1=>?_
      ·rintro _
       refine sr (pq 3 Z ?_)
       refine zAJ (j:=69) Z ?_ ?_
       ·refine pq 7 Z ?_
        refine zAJ (j:=76) Z ?_ ?_
        ·refine pq 8 Z ?_
         refine zAJ (j:=84) Z ?_ ?_
         ·refine pq 5 Z (ns ?_)
          exact rN
         ·refine pq 5 Z (ns ?_)
          exact rN
        ·refine pq 5 Z ?_
         refine zAJ (j:=81) Z ?_ ?_
         ·refine pq 3 Z ?_
          refine zAJ (j:=84) Z ?_ ?_
          ·refine pq 5 Z (ns ?_)
           exact rN
          ·refine pq 5 Z (ns ?_)
           exact rN
         ·refine pq 8 Z (ns ?_)
          exact rN
       ·refine pq 4 Z ?_
        refine zAJ (j:=73) Z ?_ ?_
        ·refine pq 3 Z ?_
         refine zAJ (j:=76) Z ?_ ?_
         ·refine pq 8 Z ?_
          refine zAJ (j:=84) Z ?_ ?_
          ·refine pq 5 Z (ns ?_)
           exact rN
          ·refine pq 5 Z (ns ?_)
           exact rN
         ·refine pq 5 Z ?_
          refine zAJ (j:=81) Z ?_ ?_
          ·refine pq 3 Z ?_
           refine zAJ (j:=84) Z ?_ ?_
           ·refine pq 5 Z (ns ?_)
            exact rN
           ·refine pq 5 Z (ns ?_)
            exact rN
          ·refine pq 8 Z (ns ?_)
           exact rN
        ·refine pq 16 Z (ns ?_)
         exact rN
      ·refine pq 3 Z ?_
       refine zAJ (j:=59) Z ?_ ?_
       ·refine pq 7 Z (zAI ?_)
        refine zAA (zAW Z ?_)
        exact zFT (hj1 ()) ⟨Z,Z,Z,Z,Z,Z,trivial⟩ trivial Z
       ·refine pq 4 Z ?_
        refine zAJ (j:=63) Z ?_ ?_
        ·refine pq 3 Z (zAI ?_)
         refine zAA (zAW Z ?_)
         exact zFT (hj1 ()) ⟨Z,Z,Z,Z,Z,Z,trivial⟩ trivial Z
        ·refine pq 3 Z (ns ?_)
         refine zAN Z ?_ ?_
         ·exact zFT (hj1 ()) ⟨Z,Z,Z,Z,Z,Z,trivial⟩ trivial Z
         ·refine zAD (zAA (sr (pq 1 Z ?_)))
          refine zIp Z Z Z Z Z Z fun s11 hs11=>?_
          refine pq 1 Z ?_
          refine zIp Z Z Z Z Z Z fun s12 hs12=>?_
          refine pc (zEU fu s12) zNg Z Z Z Z fun r13 hr13=>?_
          refine pq 3 Z ?_
          refine zA9 (T:=tab) 13 Z Z Z Z Z Z Z Z Z ?_
          refine zAM (T:=tab) Z Z Z Z Z Z Z Z Z Z Z Z ?_
          refine pq 1 Z (ns (zAC (sr ?_)))
          refine zMV (zAv fu x1 c3 r8 r10) (fun (_:Unit)=>[(3,.loc 3 0),(5,.loc 5 0),(7,D r8.1),(11,D r10.1)]) (fun (_:Unit)=>[(5,.box 51 [O c3.Form,.sl 1 false (c3.Watch.map cStr),.sl 7 false (c3.Peek.map cOp),.sl 7 false (c3.Make.map cOp),.sl 2 false (c3.Hooks.map zAU)]),(3,.box 25 [.sl 5 false (x1.Classes.map zAF),.sl 7 false (x1.Main.map cOp)])]) ?_ fun hj2=>?_
          ·rintro _
           refine zAA (sr (pq 2 Z ?_))
           refine zIp Z Z Z Z Z Z fun s18 hs18=>?_
           refine pc (zEU fu s18) zNg Z Z Z Z fun r19 hr19=>?_
           refine pq 3 Z ?_
           refine zA9 (T:=tab) 15 Z Z Z Z Z Z Z Z Z ?_
           refine zAM (T:=tab) Z Z Z Z Z Z Z Z Z Z Z Z ?_
           refine pq 1 Z (ns (zAC (sr (pq 2 Z ?_))))
           refine zAu (T:=tab) zAF x1.Classes Z Z Z Z Z Z Z Z ?_
           refine pq 2 Z ?_
           refine zAJ (j:=142) Z ?_ ?_
           ·refine pq 7 Z (zAI ?_)
            refine zAA (zAW Z ?_)
            refine sr (pq 1 Z (ns ?_))
            exact rN
           ·refine pq 4 Z ?_
            refine zAQ (T:=tab) Z Z Z Z fun i20 hi20=>?_
            refine pq 2 Z (ns ?_)
            refine zAN Z ?_ ?_
            ·refine sr (pq 1 Z (ns ?_))
             exact rN
            ·refine zAD (zAA (zAC ?_))
             refine su [(3,.loc 3 0),(5,.loc 5 0),(15,.loc 15 0),(16,Y r19.2)] [(15,.box 25 [.sl 5 false (r19.1.Classes.map zAF),.sl 7 false (r19.1.Main.map cOp)]),(5,.box 51 [O c3.Form,.sl 1 false (c3.Watch.map cStr),.sl 7 false (c3.Peek.map cOp),.sl 7 false (c3.Make.map cOp),.sl 2 false (c3.Hooks.map zAU)]),(3,.box 25 [.sl 5 false (x1.Classes.map zAF),.sl 7 false (x1.Main.map cOp)])] ?_
             refine zBA [0,1,3,7,7,7,39,119,7,263,1015,7,2055,8183,16383,32767,65535] mixed (by kernel_rfl) (by kernel_rfl) Z Z ?_
             refine ve [32] [300] [] [(150,Y r19.2)] ?_
             refine ve [300] [302] [] [(151,O (r19.2==0))] ?_
             refine ve [302] [304] [] [(152,O (r19.2==0))] ?_
             refine zKe (t:=152) Z ?_ ?_
             ·refine vf [30,31,304] [306] [] [15] [15] [(153,.agg (zCs r19.1))] [(15,.box 25 [.sl 5 false (r19.1.Classes.map zAF),.sl 7 false (r19.1.Main.map cOp)])] ?_
              refine vs [304] [308,309] [154] [] [] [(154,.own 154)] [(154,.arr 51 5 (([]:List Class).map zAF))] Z Z (fun w0 X X0 σ0 _=>by refine zDD (T:=tab) (rows:=([]:List Class).map zAF) 154 Z Z Z Z Z Z Z Z Z Z Z Z Z Z ?_;exact py) ?_
              refine ve [6,304] [310] [3] [(155,.loc 3 0)] ?_
              refine vf [7,304,310] [312] [] [3] [3] [(156,.sl 5 false (x1.Classes.map zAF))] [(3,.box 25 [.sl 5 false (x1.Classes.map zAF),.sl 7 false (x1.Main.map cOp)])] ?_
              refine vt (zDG 104 (([]:List Class).length+x1.Classes.length)) [(314,[154]),(308,[]),(309,[])] [304,308,309,312] [314,308,309] [154] [] [] (fun _=>[(157,.own 154)]) (fun _=>[(154,.arr 51 5 ((([]:List Class)++x1.Classes).map zAF))]) Z Z (fun _=>Z) (fun w0 X X0 σ0 _=>by refine zCl (T:=tab) zAF ([]:List Class) x1.Classes Z Z Z Z Z Z Z Z Z Z Z Z Z Z (zIT _) Z Z Z Z Z ?_;exact pz) fun _ h0=>?_
              refine vf [10,11,304] [316] [] [5] [5] [(158,.agg (zAF c3))] [(5,.box 51 [O c3.Form,.sl 1 false (c3.Watch.map cStr),.sl 7 false (c3.Peek.map cOp),.sl 7 false (c3.Make.map cOp),.sl 2 false (c3.Hooks.map zAU)])] ?_
              refine vs [304,316] [318,319] [159] [] [] [(159,.own 159)] [(159,.arr 51 5 ([c3].map zAF))] Z Z (fun w0 X X0 σ0 _=>by refine zDD (T:=tab) (rows:=[c3].map zAF) 159 Z Z Z Z Z Z Z Z Z Z Z Z Z Z ?_;exact py) ?_
              refine vt (zDG 104 ((([]:List Class)++x1.Classes).length+([c3]:List Class).length)) [(320,[154]),(314,[]),(309,[]),(308,[])] [304,308,309,314,318,319] [320,314,309,308] [154] [159] [159] (fun _=>[(160,.own 154)]) (fun _=>[(154,.arr 51 5 (((([]:List Class)++x1.Classes)++[c3]).map zAF)),(159,.arr 51 5 ([c3].map zAF))]) Z Z (fun _=>Z) (fun w0 X X0 σ0 _=>by refine zCl (T:=tab) zAF (([]:List Class)++x1.Classes) ([c3]:List Class) Z Z Z Z Z Z Z Z Z Z Z Z Z Z (zIT _) Z Z Z Z Z ?_;exact pz) fun _ h0=>?_
              refine ve [6,304] [322] [3] [(161,.loc 3 1)] ?_
              refine vf [7,304,322] [324] [] [3] [3] [(162,.sl 7 false (x1.Main.map cOp))] [(3,.box 25 [.sl 5 false (x1.Classes.map zAF),.sl 7 false (x1.Main.map cOp)])] ?_
              refine vs [304,309,320,324] [326] [] [154] [154] [(163,.agg [.own 154,.sl 7 false (x1.Main.map cOp)])] [(154,.arr 51 5 (((([]:List Class)++x1.Classes)++[c3]).map zAF))] Z Z (fun w0 X X0 σ0 _=>by refine zAr (T:=tab) Z Z Z Z Z Z Z ?_;exact py) ?_
              refine vt (zA0 fu r19.1 (⟨((([]:List Class)++x1.Classes)++[c3]),x1.Main⟩:Script)) [(328,[]),(320,[]),(326,[]),(309,[])] [304,306,309,320,326] [328,320,326,309] [] [154] [] (fun r21=>[(164,O r21),(160,.sl 5 false (((([]:List Class)++x1.Classes)++[c3]).map zAF)),(163,.agg [.sl 5 false (((([]:List Class)++x1.Classes)++[c3]).map zAF),.sl 7 false (x1.Main.map cOp)])]) (fun r21=>[]) Z Z (fun _=>Z) (fun w0 X X0 σ0 _=>by refine zC1 154 Z Z Z ?_;refine pc (zEC fu r19.1 (⟨((([]:List Class)++x1.Classes)++[c3]),x1.Main⟩:Script)) zQn Z Z Z Z fun r21 hr21=>?_;exact pz) fun r21 hr21=>?_
              refine ve [304,328] [330] [] [(165,O r21)] ?_
              refine ve [330] [12] [] [(6,O r21)] ?_
              refine zBS Z Z ?_
              refine zAA ?_
              exact rN
             ·refine ve [304] [306] [] [(153,.tup [])] ?_
              refine ve [304] [308] [] [(154,.tup [])] ?_
              refine ve [304] [310] [] [(155,.tup [])] ?_
              refine ve [304] [312] [] [(156,.tup [])] ?_
              refine ve [304] [314] [] [(157,.tup [])] ?_
              refine ve [304] [316] [] [(158,.tup [])] ?_
              refine ve [304] [318] [] [(159,.tup [])] ?_
              refine ve [304] [320] [] [(160,.tup [])] ?_
              refine ve [304] [322] [] [(161,.tup [])] ?_
              refine ve [304] [324] [] [(162,.tup [])] ?_
              refine ve [304] [326] [] [(163,.tup [])] ?_
              refine ve [304] [328] [] [(164,.tup [])] ?_
              refine ve [304,328] [330] [] [(165,O false)] ?_
              refine ve [330] [12] [] [(6,O false)] ?_
              refine zBS Z Z ?_
              refine zAA ?_
              exact rN
          ·refine pq 4 Z ?_
           refine zAQ (T:=tab) Z Z Z Z fun i14 hi14=>?_
           refine zAQ (T:=tab) Z Z Z Z fun i15 hi15=>?_
           refine pq 2 Z ?_
           refine zAJ (j:=104) Z ?_ ?_
           ·refine pq 8 Z (zAI ?_)
            refine zAA (zAW Z ?_)
            refine sr (pq 2 Z (ns ?_))
            refine zAN Z ?_ ?_
            ·refine sr (pq 1 Z (ns ?_))
             exact rN
            ·refine zAD ?_
             exact ps (hj2 ())
           ·refine pq 2 Z ?_
            refine zAu (T:=tab) cOp x1.Main Z Z Z Z Z Z Z Z ?_
            refine pq 1 Z ?_
            refine zAu (T:=tab) cOp l2 Z Z Z Z Z Z Z Z ?_
            refine zAQ (T:=tab) Z Z Z Z fun i16 hi16=>?_
            refine pq 2 Z (ns ?_)
            refine zAN Z ?_ ?_
            ·refine sr (pq 2 Z (ns ?_))
             refine zAN Z ?_ ?_
             ·refine sr (pq 1 Z (ns ?_))
              exact rN
             ·refine zAD ?_
              exact ps (hj2 ())
            ·refine zAC ?_
             refine su [(1,.sl 7 false (l2.map cOp)),(3,.loc 3 0),(5,.loc 5 0),(7,D r8.1),(11,D r10.1),(13,.loc 13 0),(14,Y r13.2)] [(13,.box 25 [.sl 5 false (r13.1.Classes.map zAF),.sl 7 false (r13.1.Main.map cOp)]),(5,.box 51 [O c3.Form,.sl 1 false (c3.Watch.map cStr),.sl 7 false (c3.Peek.map cOp),.sl 7 false (c3.Make.map cOp),.sl 2 false (c3.Hooks.map zAU)]),(3,.box 25 [.sl 5 false (x1.Classes.map zAF),.sl 7 false (x1.Main.map cOp)])] ?_
             refine zBA [0,1,3,7,7,23,7,7,135,455,7,1991,4087,8191,16383,32767] mixed (by kernel_rfl) (by kernel_rfl) Z Z ?_
             refine ve [28] [230] [] [(115,Y r13.2)] ?_
             refine ve [230] [232] [] [(116,O (r13.2 != 0))] ?_
             refine ve [232] [234] [] [(117,O (r13.2 != 0))] ?_
             refine zKe (t:=117) Z ?_ ?_
             ·refine ve [234] [236] [] [(118,.tup [])] ?_
              refine ve [234] [238] [] [(119,.tup [])] ?_
              refine ve [234] [240] [] [(120,.tup [])] ?_
              refine ve [234] [242] [] [(121,.tup [])] ?_
              refine ve [234] [244] [] [(122,.tup [])] ?_
              refine ve [234] [246] [] [(123,.tup [])] ?_
              refine ve [234] [248] [] [(124,.tup [])] ?_
              refine ve [234] [250] [] [(125,.tup [])] ?_
              refine ve [234] [252] [] [(126,.tup [])] ?_
              refine ve [234] [254] [] [(127,.tup [])] ?_
              refine ve [234] [256] [] [(128,.tup [])] ?_
              refine ve [234] [258] [] [(129,.tup [])] ?_
              refine ve [234,258] [260] [] [(130,O true)] ?_
              refine zBS Z Z ?_
              refine zAA (zAW Z ?_)
              refine sr (pq 1 Z (ns ?_))
              exact rN
             ·refine vf [26,27,234] [236] [] [13] [13] [(118,.agg (zCs r13.1))] [(13,.box 25 [.sl 5 false (r13.1.Classes.map zAF),.sl 7 false (r13.1.Main.map cOp)])] ?_
              refine ve [6,234] [238] [3] [(119,.loc 3 0)] ?_
              refine vf [7,234,238] [240] [] [3] [3] [(120,.sl 5 false (x1.Classes.map zAF))] [(3,.box 25 [.sl 5 false (x1.Classes.map zAF),.sl 7 false (x1.Main.map cOp)])] ?_
              refine vs [234] [242,243] [121] [] [] [(121,.own 121)] [(121,.arr 43 7 (([]:List Op).map cOp))] Z Z (fun w0 X X0 σ0 _=>by refine zDD (T:=tab) (rows:=([]:List Op).map cOp) 121 Z Z Z Z Z Z Z Z Z Z Z Z Z Z ?_;exact py) ?_
              refine ve [6,234] [244] [3] [(122,.loc 3 1)] ?_
              refine vf [7,234,244] [246] [] [3] [3] [(123,.sl 7 false (x1.Main.map cOp))] [(3,.box 25 [.sl 5 false (x1.Classes.map zAF),.sl 7 false (x1.Main.map cOp)])] ?_
              refine vt (zDG 72 (([]:List Op).length+x1.Main.length)) [(248,[121]),(242,[]),(243,[])] [234,242,243,246] [248,242,243] [121] [] [] (fun _=>[(124,.own 121)]) (fun _=>[(121,.arr 43 7 ((([]:List Op)++x1.Main).map cOp))]) Z Z (fun _=>Z) (fun w0 X X0 σ0 _=>by refine zCl (T:=tab) cOp ([]:List Op) x1.Main Z Z Z Z Z Z Z Z Z Z Z Z Z Z (zGn _) Z Z Z Z Z ?_;exact pz) fun _ h0=>?_
              refine ve [2,234] [250] [] [(125,.sl 7 false (l2.map cOp))] ?_
              refine vt (zDG 72 ((([]:List Op)++x1.Main).length+l2.length)) [(252,[121]),(248,[]),(243,[]),(242,[])] [234,242,243,248,250] [252,248,243,242] [121] [] [] (fun _=>[(126,.own 121)]) (fun _=>[(121,.arr 43 7 (((([]:List Op)++x1.Main)++l2).map cOp))]) Z Z (fun _=>Z) (fun w0 X X0 σ0 _=>by refine zCl (T:=tab) cOp (([]:List Op)++x1.Main) l2 Z Z Z Z Z Z Z Z Z Z Z Z Z Z (zGn _) Z Z Z Z Z ?_;exact pz) fun _ h0=>?_
              refine vs [234,240,243,252] [254] [] [121] [121] [(127,.agg [.sl 5 false (x1.Classes.map zAF),.own 121])] [(121,.arr 43 7 (((([]:List Op)++x1.Main)++l2).map cOp))] Z Z (fun w0 X X0 σ0 _=>by refine zAr (T:=tab) Z Z Z Z Z Z Z ?_;exact py) ?_
              refine vt (zA0 fu r13.1 (⟨x1.Classes,((([]:List Op)++x1.Main)++l2)⟩:Script)) [(256,[]),(252,[]),(254,[]),(243,[])] [234,236,243,252,254] [256,252,254,243] [] [121] [] (fun r17=>[(128,O r17),(126,.sl 7 false (((([]:List Op)++x1.Main)++l2).map cOp)),(127,.agg [.sl 5 false (x1.Classes.map zAF),.sl 7 false (((([]:List Op)++x1.Main)++l2).map cOp)])]) (fun r17=>[]) Z Z (fun _=>Z) (fun w0 X X0 σ0 _=>by refine zC1 121 Z Z Z ?_;refine pc (zEC fu r13.1 (⟨x1.Classes,((([]:List Op)++x1.Main)++l2)⟩:Script)) zQn Z Z Z Z fun r17 hr17=>?_;exact pz) fun r17 hr17=>?_
              refine ve [234,256] [258] [] [(129,O (!r17))] ?_
              refine ve [234,258] [260] [] [(130,O (!r17))] ?_
              refine zBS Z Z ?_
              refine zAA ?_
              refine zAN Z ?_ ?_
              ·refine sr (pq 1 Z (ns ?_))
               exact rN
              ·refine zAD ?_
               exact ps (hj2 ())
end Go.Proofs.YtoboimmgglnjfaaGreatDoor
