/- Models and proofs, printed by emit2.py. -/
import Derived.Test.YtoboimmgglnjfaaGreatDoorPrg
namespace Go.Proofs.YtoboimmgglnjfaaGreatDoor
open Go Go.Pw
set_option maxRecDepth 100000
set_option maxHeartbeats 10000000
set_option linter.unusedVariables false
def zCJ (_fu:Nat) (most1:Int):Option (Bool×Int):=some (true,most1)
theorem zHG (fu:Nat) (most1:Int) (c2:Int) (c3:(List Class×Bool)) (c4:Bool) (l5:(List Op)) (l6:(List Bs)) (l7:(List Op)) (l8:(List Op)) (c9:(List Hook×Bool)) (c10:Int) (l11:(List Op)):∀r,zCJ fu most1=some r->FC zAf Tryz.prog 38 [.loc 900000 0,.loc 900000 1,Y most1] [(900000,.box 80 [.own 900001,.own 900002,.v (.pointer none),Y c2]),(900001,.box 51 [pfx 5 (c3.1.map zAM) c3.2,O c4,.own 900003,.own 900004,.own 900005,.own 900006]),(900002,.arr 43 7 (l5.map cOp)),(900003,.arr 9 1 (l6.map cStr)),(900004,.arr 43 7 (l7.map cOp)),(900005,.arr 43 7 (l8.map cOp)),(900006,.box 54 [pfx 2 (c9.1.map zAP) c9.2,Y c10,.own 900007]),(900007,.arr 43 7 (l11.map cOp))] [900000,900001,900002,900003,900004,900005,900006,900007] fun p S'=>p=O r.1/\S'=[(900000,.box 80 [.own 900001,.own 900002,.loc 900000 1,Y r.2]),(900001,.box 51 [pfx 5 (c3.1.map zAM) c3.2,O c4,.own 900003,.own 900004,.own 900005,.own 900006]),(900002,.arr 43 7 (l5.map cOp)),(900003,.arr 9 1 (l6.map cStr)),(900004,.arr 43 7 (l7.map cOp)),(900005,.arr 43 7 (l8.map cOp)),(900006,.box 54 [pfx 2 (c9.1.map zAP) c9.2,Y c10,.own 900007]),(900007,.arr 43 7 (l11.map cOp))]:=by
 exact fcI Tryz.func38 Z fun w0 X X0 σ0 _=>sr (pq 1 Z (ns (sr (pq 6 Z (zAG (T:=tab) Z Z Z Z Z Z Z Z Z Z Z Z (pq 2 Z (zAG (T:=tab) Z Z Z Z Z Z Z Z Z Z Z Z (ns (sr (pq 1 Z (ns rN)))))))))))
def zBb (_fu:Nat) (s1:Bs) (suffix2:Bs):Option Bool:=cnd (decide (((s1.length:Nat):Int)>=((suffix2.length:Nat):Int))) (bnd (rng .i64 (((s1.length:Nat):Int) - ((suffix2.length:Nat):Int))) fun i3=>bnd (zC3 s1 i3 ((s1.length:Nat):Int)) fun s4=>some (s4==suffix2)) (some false)
theorem zEx (fu:Nat) (s1:Bs) (suffix2:Bs):∀r,zBb fu s1 suffix2=some r->DC zAf Tryz.prog 107 [D s1,D suffix2] (O r):=by
 refine fcI Tryz.func107 Z fun w0 X X0 σ0 _=>sr (pq 1 Z (ns (sr (pq 6 Z (zAF (j:=10) Z ?_ ?_)))))
 ·exact pq 5 Z (zAI (T:=tab) Z Z Z Z fun i3 hi3=>zGE (T:=tab) Z Z Z Z Z Z Z Z fun s4 hs4=>pq 4 Z (ns rN))
 ·exact pq 11 Z (ns rN)
def zBX (fu:Nat) (s1:Bs) (suffix2:Bs):Option Bs:=bnd (zBb fu s1 suffix2) fun r3=>cnd r3 (bnd (rng .i64 (((s1.length:Nat):Int) - ((suffix2.length:Nat):Int))) fun i4=>bnd (zC3 s1 0 i4) fun s5=>some s5) (some s1)
theorem zEt (fu:Nat) (s1:Bs) (suffix2:Bs):∀r,zBX fu s1 suffix2=some r->DC zAf Tryz.prog 75 [D s1,D suffix2] (D r):=by
 refine fcI Tryz.func75 Z fun w0 X X0 σ0 _=>sr (pq 1 Z (ns (zAD (sr (pq 2 Z (pc (zEx fu s1 suffix2) zVC Z Z Z Z fun r3 hr3=>ns (zAH Z ?_ ?_)))))))
 ·exact sr (pq 5 Z (zAI (T:=tab) Z Z Z Z fun i4 hi4=>zGE (T:=tab) Z Z Z Z Z Z Z Z fun s5 hs5=>pq 1 Z (ns rN)))
 ·exact zAB (zAA (sr (pq 2 Z (ns rN))))
def zBq (fu:Nat) (s1:Bs) (suffix2:Bs):Option Bs:=bnd (zBX fu s1 suffix2) fun r3=>some r3
theorem zHI (fu:Nat) (s1:Bs) (suffix2:Bs):∀r,zBq fu s1 suffix2=some r->DC zAf Tryz.prog 40 [D s1,D suffix2] (D r):=by
 exact fcI Tryz.func40 Z fun w0 X X0 σ0 _=>sr (pq 1 Z (ns (sr (pq 2 Z (pc (zEt fu s1 suffix2) call75 Z Z Z Z fun r3 hr3=>pq 1 Z (ns rN))))))
def zCL (fu:Nat) (s1:Bs) (sep2:Bs):Option (Bs×Bs×Bool):=bnd (zHk fu s1 sep2) fun r3=>cnd (decide (r3>=0)) (bnd (zC3 s1 0 r3) fun s4=>bnd (rng .i64 (r3+((sep2.length:Nat):Int))) fun i5=>bnd (zC3 s1 i5 ((s1.length:Nat):Int)) fun s6=>some (s4,s6,true)) (some (s1,[],false))
theorem zF3 (fu:Nat) (s1:Bs) (sep2:Bs):∀r,zCL fu s1 sep2=some r->DC zAf Tryz.prog 84 [D s1,D sep2] (.tup [D r.1,D r.2.1,O r.2.2]):=by
 refine fcI Tryz.func84 Z fun w0 X X0 σ0 _=>sr (pq 3 Z (ns (zAD (sr (pq 2 Z (pc (zMs fu s1 sep2) zQi Z Z Z Z fun r3 hr3=>pq 1 Z (ns (sr (pq 2 Z (ns (zAH Z ?_ ?_)))))))))))
 ·exact zAD (zEK mixed (by kernel_rfl) (zAV (T:=tab) 2 Z Z (zLH (T:=tab) Z Z Z Z Z Z Z Z fun s4 hs4=>zAV (T:=tab) 4 Z Z (zL3 (T:=tab) Z Z Z Z fun i5 hi5=>zLH (T:=tab) Z Z Z Z Z Z Z Z fun s6 hs6=>zAV (T:=tab) 3 Z Z (zCq (zAA rN))))))
 ·exact zAB (zAA (sr (pq 4 Z (ns rN))))
def zBA (fu:Nat) (s1:Bs) (sep2:Bs):Option (Bs×Bs×Bool):=bnd (zCL fu s1 sep2) fun r3=>some (r3.1,r3.2.1,r3.2.2)
theorem zEZ (fu:Nat) (s1:Bs) (sep2:Bs):∀r,zBA fu s1 sep2=some r->DC zAf Tryz.prog 47 [D s1,D sep2] (.tup [D r.1,D r.2.1,O r.2.2]):=by
 exact fcI Tryz.func47 Z fun w0 X X0 σ0 _=>sr (pq 3 Z (ns (sr (pq 2 Z (pc (zF3 fu s1 sep2) call84 Z Z Z Z fun r3 hr3=>pq 6 Z (ns rN))))))
theorem zGd (fu:Nat) (most1:Int) (k2:Nat) (c3:Int) (c4:(List Class×Bool)) (c5:Bool) (l6:(List Op)) (c7:(List Hook×Bool)) (c8:Int) (l9:(List Bs)) (l10:(List Op)) (l11:(List Op)) (l12:(List Op)):∀r,zCJ fu most1=some r->FC zAf Tryz.prog 38 [.loc 900000 0,.loc 900000 1,Y most1] [(900000,.box 80 [.own 900001,.own 900002,.sel k2 [.loc 900000 1,.ela 900001 5 (c4.1.length) 2,.ela 900001 5 (c4.1.length) 3,.ela 900003 2 (c7.1.length) 1],Y c3]),(900001,.box 51 [pfx 5 (c4.1.map zAM) c4.2,O c5,.own 900004,.own 900005,.own 900006,.own 900003]),(900002,.arr 43 7 (l6.map cOp)),(900003,.box 54 [pfx 2 (c7.1.map zAP) c7.2,Y c8,.own 900007]),(900004,.arr 9 1 (l9.map cStr)),(900005,.arr 43 7 (l10.map cOp)),(900006,.arr 43 7 (l11.map cOp)),(900007,.arr 43 7 (l12.map cOp))] [900000,900001,900002,900003,900004,900005,900006,900007] fun p S'=>p=O r.1/\S'=[(900000,.box 80 [.own 900001,.own 900002,.loc 900000 1,Y r.2]),(900001,.box 51 [pfx 5 (c4.1.map zAM) c4.2,O c5,.own 900004,.own 900005,.own 900006,.own 900003]),(900002,.arr 43 7 (l6.map cOp)),(900003,.box 54 [pfx 2 (c7.1.map zAP) c7.2,Y c8,.own 900007]),(900004,.arr 9 1 (l9.map cStr)),(900005,.arr 43 7 (l10.map cOp)),(900006,.arr 43 7 (l11.map cOp)),(900007,.arr 43 7 (l12.map cOp))]:=by
 exact fcI Tryz.func38 Z fun w0 X X0 σ0 _=>sr (pq 1 Z (ns (sr (pq 6 Z (zAG (T:=tab) Z Z Z Z Z Z Z Z Z Z Z Z (pq 2 Z (zAG (T:=tab) Z Z Z Z Z Z Z Z Z Z Z Z (ns (sr (pq 1 Z (ns rN)))))))))))
def zAh (_fu:Nat) (most2:Int):Option (Bool×Int):=some (true,most2)
theorem zGe (fu:Nat) (i1:Nat) (most2:Int) (c3:Int) (c4:(List Class×Bool)) (c5:Bool) (l6:(List Op)) (l7:(List Bs)) (l8:(List Op)) (l9:(List Op)) (c10:(List Hook×Bool)) (c11:Int) (l12:(List Op)):∀r,zAh fu most2=some r->FC zAf Tryz.prog 38 [.loc 900000 0,.ela 900001 5 i1 3,Y most2] [(900000,.box 80 [.own 900001,.own 900002,.junk,Y c3]),(900001,.box 51 [pfx 5 (c4.1.map zAM) c4.2,O c5,.own 900003,.own 900004,.own 900005,.own 900006]),(900002,.arr 43 7 (l6.map cOp)),(900003,.arr 9 1 (l7.map cStr)),(900004,.arr 43 7 (l8.map cOp)),(900005,.arr 43 7 (l9.map cOp)),(900006,.box 54 [pfx 2 (c10.1.map zAP) c10.2,Y c11,.own 900007]),(900007,.arr 43 7 (l12.map cOp))] [900000,900001,900002,900003,900004,900005,900006,900007] fun p S'=>p=O r.1/\S'=[(900000,.box 80 [.own 900001,.own 900002,.ela 900001 5 i1 3,Y r.2]),(900001,.box 51 [pfx 5 (c4.1.map zAM) c4.2,O c5,.own 900003,.own 900004,.own 900005,.own 900006]),(900002,.arr 43 7 (l6.map cOp)),(900003,.arr 9 1 (l7.map cStr)),(900004,.arr 43 7 (l8.map cOp)),(900005,.arr 43 7 (l9.map cOp)),(900006,.box 54 [pfx 2 (c10.1.map zAP) c10.2,Y c11,.own 900007]),(900007,.arr 43 7 (l12.map cOp))]:=by
 exact fcI Tryz.func38 Z fun w0 X X0 σ0 _=>sr (pq 1 Z (ns (sr (pq 6 Z (zAG (T:=tab) Z Z Z Z Z Z Z Z Z Z Z Z (pq 2 Z (zAG (T:=tab) Z Z Z Z Z Z Z Z Z Z Z Z (ns (sr (pq 1 Z (ns rN)))))))))))
theorem zGf (fu:Nat) (i1:Nat) (most2:Int) (k3:Nat) (c4:Int) (c5:(List Class×Bool)) (c6:Bool) (l7:(List Op)) (c8:(List Hook×Bool)) (c9:Int) (l10:(List Bs)) (l11:(List Op)) (l12:(List Op)) (l13:(List Op)):∀r,zAh fu most2=some r->FC zAf Tryz.prog 38 [.loc 900000 0,.ela 900001 5 i1 2,Y most2] [(900000,.box 80 [.own 900001,.own 900002,.sel k3 [.loc 900000 1,.ela 900001 5 (c5.1.length) 2,.ela 900001 5 (c5.1.length) 3,.ela 900003 2 (c8.1.length) 1],Y c4]),(900001,.box 51 [pfx 5 (c5.1.map zAM) c5.2,O c6,.own 900004,.own 900005,.own 900006,.own 900003]),(900002,.arr 43 7 (l7.map cOp)),(900003,.box 54 [pfx 2 (c8.1.map zAP) c8.2,Y c9,.own 900007]),(900004,.arr 9 1 (l10.map cStr)),(900005,.arr 43 7 (l11.map cOp)),(900006,.arr 43 7 (l12.map cOp)),(900007,.arr 43 7 (l13.map cOp))] [900000,900001,900002,900003,900004,900005,900006,900007] fun p S'=>p=O r.1/\S'=[(900000,.box 80 [.own 900001,.own 900002,.ela 900001 5 i1 2,Y r.2]),(900001,.box 51 [pfx 5 (c5.1.map zAM) c5.2,O c6,.own 900004,.own 900005,.own 900006,.own 900003]),(900002,.arr 43 7 (l7.map cOp)),(900003,.box 54 [pfx 2 (c8.1.map zAP) c8.2,Y c9,.own 900007]),(900004,.arr 9 1 (l10.map cStr)),(900005,.arr 43 7 (l11.map cOp)),(900006,.arr 43 7 (l12.map cOp)),(900007,.arr 43 7 (l13.map cOp))]:=by
 exact fcI Tryz.func38 Z fun w0 X X0 σ0 _=>sr (pq 1 Z (ns (sr (pq 6 Z (zAG (T:=tab) Z Z Z Z Z Z Z Z Z Z Z Z (pq 2 Z (zAG (T:=tab) Z Z Z Z Z Z Z Z Z Z Z Z (ns (sr (pq 1 Z (ns rN)))))))))))
theorem zGg (fu:Nat) (i1:Nat) (most2:Int) (k3:Nat) (c4:Int) (c5:(List Class×Bool)) (c6:Bool) (l7:(List Op)) (c8:(List Hook×Bool)) (c9:Int) (l10:(List Bs)) (l11:(List Op)) (l12:(List Op)) (l13:(List Op)):∀r,zAh fu most2=some r->FC zAf Tryz.prog 38 [.loc 900000 0,.ela 900001 5 i1 3,Y most2] [(900000,.box 80 [.own 900001,.own 900002,.sel k3 [.loc 900000 1,.ela 900001 5 (c5.1.length) 2,.ela 900001 5 (c5.1.length) 3,.ela 900003 2 (c8.1.length) 1],Y c4]),(900001,.box 51 [pfx 5 (c5.1.map zAM) c5.2,O c6,.own 900004,.own 900005,.own 900006,.own 900003]),(900002,.arr 43 7 (l7.map cOp)),(900003,.box 54 [pfx 2 (c8.1.map zAP) c8.2,Y c9,.own 900007]),(900004,.arr 9 1 (l10.map cStr)),(900005,.arr 43 7 (l11.map cOp)),(900006,.arr 43 7 (l12.map cOp)),(900007,.arr 43 7 (l13.map cOp))] [900000,900001,900002,900003,900004,900005,900006,900007] fun p S'=>p=O r.1/\S'=[(900000,.box 80 [.own 900001,.own 900002,.ela 900001 5 i1 3,Y r.2]),(900001,.box 51 [pfx 5 (c5.1.map zAM) c5.2,O c6,.own 900004,.own 900005,.own 900006,.own 900003]),(900002,.arr 43 7 (l7.map cOp)),(900003,.box 54 [pfx 2 (c8.1.map zAP) c8.2,Y c9,.own 900007]),(900004,.arr 9 1 (l10.map cStr)),(900005,.arr 43 7 (l11.map cOp)),(900006,.arr 43 7 (l12.map cOp)),(900007,.arr 43 7 (l13.map cOp))]:=by
 exact fcI Tryz.func38 Z fun w0 X X0 σ0 _=>sr (pq 1 Z (ns (sr (pq 6 Z (zAG (T:=tab) Z Z Z Z Z Z Z Z Z Z Z Z (pq 2 Z (zAG (T:=tab) Z Z Z Z Z Z Z Z Z Z Z Z (ns (sr (pq 1 Z (ns rN)))))))))))
def zEm (_fu:Nat) (c1:Int):Option Bool:=cnd (decide (c1>=97)) (some (decide (c1<=122))) (some false)
theorem zIT (fu:Nat) (c1:Int):∀r,zEm fu c1=some r->DC zAf Tryz.prog 118 [.v (.int .i32 c1)] (O r):=by
 refine fcI Tryz.func118 Z fun w0 X X0 σ0 _=>sr (pq 1 Z (ns (sr (pq 3 Z (zAF (j:=5) Z ?_ ?_)))))
 ·exact pq 4 Z (ns rN)
 ·exact pq 4 Z (ns rN)
def zDa (_fu:Nat) (c1:Int):Option Bool:=cnd (decide (c1>=65)) (some (decide (c1<=90))) (some false)
theorem zF4 (fu:Nat) (c1:Int):∀r,zDa fu c1=some r->DC zAf Tryz.prog 119 [.v (.int .i32 c1)] (O r):=by
 refine fcI Tryz.func119 Z fun w0 X X0 σ0 _=>sr (pq 1 Z (ns (sr (pq 3 Z (zAF (j:=5) Z ?_ ?_)))))
 ·exact pq 4 Z (ns rN)
 ·exact pq 4 Z (ns rN)
def zEl (c1:Int) (x_:Unit):Option Bool:=cnd (c1==45) (some true) (cnd (c1==95) (some true) (some (c1==46)))
def zFA (fu:Nat) (c1:Int):Option Bool:=bnd (zEm fu c1) fun r2=>cnd r2 (cnd r2 (some true) ((zEl c1) ())) (bnd (zDa fu c1) fun r3=>cnd r3 (cnd r3 (some true) ((zEl c1) ())) (cnd (decide (c1>=48)) (cnd (decide (c1<=57)) (some true) ((zEl c1) ())) ((zEl c1) ())))
theorem zMU (fu:Nat) (c1:Int):∀r,zFA fu c1=some r->DC zAf Tryz.prog 117 [.v (.int .i32 c1)] (O r):=by
 refine fcI Tryz.func117 Z fun w0 X X0 σ0 _=>sr (pq 1 Z (ns (zAD (zBi (zEl c1) (fun (_:Unit)=>[(0,.v (.int .i32 c1))]) (fun (_:Unit)=>[]) ?_ fun hj1=>?_))))
 ·rintro _
  refine zAA (sr (pq 3 Z (zAF (j:=16) Z ?_ ?_)))
  ·exact pq 8 Z (ns rN)
  ·refine pq 4 Z (zAF (j:=20) Z ?_ ?_)
   ·exact pq 4 Z (ns rN)
   ·exact pq 4 Z (ns rN)
 ·refine zAL (zAD (sr (pq 1 Z (pc (zIT fu c1) zQj Z Z Z Z fun r2 hr2=>pq 1 Z (ns (zAH Z ?_ ?_))))))
  ·refine zAB (zAA (zAH Z ?_ ?_))
   ·exact sr (pq 1 Z (ns rN))
   ·exact zAB (zAK (ps (hj1 ())))
  ·refine sr (pq 1 Z (pc (zF4 fu c1) zNh Z Z Z Z fun r3 hr3=>pq 1 Z (ns (zAH Z ?_ ?_))))
   ·refine zAB (zAA (zAH Z ?_ ?_))
    ·exact sr (pq 1 Z (ns rN))
    ·exact zAB (zAK (ps (hj1 ())))
   ·refine zAC (pq 3 Z (zAF (j:=10) Z ?_ ?_))
    ·refine pq 4 Z (ns (zAH Z ?_ ?_))
     ·exact sr (pq 1 Z (ns rN))
     ·exact zAB (zAK (ps (hj1 ())))
    ·exact pq 4 Z (ns (zAZ Z (zAB (zAK (ps (hj1 ()))))))
def zCv (fu:Nat) (c1:Int):Option Bool:=bnd (zFA fu c1) fun r2=>some (!r2)
theorem zJ4 (fu:Nat) (c1:Int):∀r,zCv fu c1=some r->DC zAf Tryz.prog 116 [.v (.int .i32 c1)] (O r):=by
 exact fcI Tryz.func116 Z fun w0 X X0 σ0 _=>sr (pq 1 Z (ns (sr (pq 1 Z (pc (zMU fu c1) zVF Z Z Z Z fun r2 hr2=>pq 2 Z (ns rN))))))
def zBT (t1:Int->Option Bool) (s1:Bs) (truth2:Bool):Nat->Nat->Option Int
 | 0,_=>none
 | k1+1,p3=>cnd (decide (p3<s1.length)) (bnd (t1 (zGw s1 p3)) fun r4=>cnd (r4==truth2) (some ((p3:Nat):Int)) ((zBT t1 s1 truth2 k1) (p3+zIC s1 p3))) (some (-1))
def zEg (fu:Nat) (t1:Int->Option Bool) (s1:Bs) (truth2:Bool):Option Int:=(zBT t1 s1 truth2) fu 0
theorem zHx (fu:Nat) (s1:Bs) (truth2:Bool):∀r,zEg fu (fun (z1:Int)=>zCv fu z1) s1 truth2=some r->DC zAf Tryz.prog 153 [D s1,.fn (.func 116) [] [],O truth2] (Y r):=by
 refine fcI Tryz.func153 Z fun w0 X X0 σ0 _=>sr (pq 1 Z (ns (zAD (sr (pq 1 Z (zTn (T:=tab) 10 Z Z Z Z Z Z Z Z Z (ns (zAL (lq (zBT (fun (z1:Int)=>zCv fu z1) s1 truth2) (fun (p3:Nat)=>[(1,.fn (.func 116) [] []),(2,O truth2),(10,.loc 10 0)]) (fun (p3:Nat)=>[(10,.siter ⟨⟨s1⟩⟩ p3)]) fu 0 ?_)))))))))
 rintro k1 p3
 refine sr (zVm 10 Z Z Z Z Z Z Z ?_ ?_)
 ·refine pq 1 Z (ns (zAD (zAQ Z (zAB (zAA (zAL (sr (pq 4 Z (ns (sr (pq 2 Z (zFO (enc:=fun (r4:Bool)=>O r4) (first:=[]) (cap:=[]) (qs:=[.v (.int .i32 (zGw s1 p3))]) (Sc:=[]) (zJ4 fu (zGw s1 p3)) (zCd trivial Z) Z Z Z Z ⟨⟨_,Z,.rfl⟩,trivial⟩ (fun _=>Z) zVE Z Z fun r4 hr4=>pq 2 Z (ns (zAH Z ?_ ?_))))))))))))))
  ·exact sr (pq 2 Z (ns rN))
  ·exact zAB (zAK (zAW (p3+zIC s1 p3) ⟨Z,Z,Z,trivial⟩ ⟨Z,trivial⟩ Z))
 ·exact pq 1 Z (ns (zAD (zAZ Z (zAY Z (zAA (sr (pq 1 Z (ns rN))))))))
def zEf (fu:Nat) (t1:Int->Option Bool) (s1:Bs):Option Int:=bnd (zEg fu t1 s1 true) fun r2=>some r2
theorem zHw (fu:Nat) (s1:Bs):∀r,zEf fu (fun (z1:Int)=>zCv fu z1) s1=some r->DC zAf Tryz.prog 137 [D s1,.fn (.func 116) [] []] (Y r):=by
 exact fcI Tryz.func137 Z fun w0 X X0 σ0 _=>sr (pq 1 Z (ns (sr (pq 2 Z (pc (zHx fu s1 true) zVJ Z Z Z Z fun r2 hr2=>pq 1 Z (ns rN))))))
def zDG (fu:Nat) (t1:Int->Option Bool) (s1:Bs):Option Bool:=bnd (zEf fu t1 s1) fun r2=>some (decide (r2>=0))
theorem zGt (fu:Nat) (s1:Bs):∀r,zDG fu (fun (z1:Int)=>zCv fu z1) s1=some r->DC zAf Tryz.prog 115 [D s1,.fn (.func 116) [] []] (O r):=by
 exact fcI Tryz.func115 Z fun w0 X X0 σ0 _=>sr (pq 1 Z (ns (sr (pq 2 Z (pc (zHw fu s1) zVH Z Z Z Z fun r2 hr2=>pq 2 Z (ns rN))))))
def zGJ (fu:Nat) (s1:Bs):Option Bool:=cnd (decide (((s1.length:Nat):Int)<1)) (some false) (cnd (decide (((s1.length:Nat):Int)>40)) (some false) (bnd (zDG fu (fun (z1:Int)=>zCv fu z1) s1) fun r2=>cnd r2 (some false) (bnd (chr s1 0) fun b3=>bnd (rng .i32 b3) fun i4=>bnd (zEm fu i4) fun r5=>cnd r5 (some true) (bnd (zDa fu i4) fun r6=>cnd r6 (some true) (some (i4==95))))))
theorem zLY (fu:Nat) (s1:Bs):∀r,zGJ fu s1=some r->DC zAf Tryz.prog 92 [D s1] (O r):=by
 refine fcI Tryz.func92 Z fun w0 X X0 σ0 _=>sr (pq 1 Z (ns (zAD (sr (pq 4 Z (zAF (j:=7) Z ?_ ?_))))))
 ·refine pq 8 Z (zAE (zAA (zAQ Z ?_)))
  exact sr (pq 1 Z (ns rN))
 ·refine pq 5 Z (zAF (j:=12) Z ?_ ?_)
  ·refine pq 3 Z (zAE (zAA (zAQ Z ?_)))
   exact sr (pq 1 Z (ns rN))
  ·refine pq 1 Z (pc (zGt fu s1) zVD Z Z Z Z fun r2 hr2=>pq 1 Z (ns (zAH Z ?_ ?_)))
   ·exact sr (pq 1 Z (ns rN))
   ·refine zAB (zAA (sr (pq 1 Z (zBZ (T:=tab) (s:=s1) Z Z Z Z Z Z Z fun b3 hb3=>zAI (T:=tab) Z Z Z Z fun i4 hi4=>pq 1 Z (ns (sr (pq 1 Z (pc (zIT fu i4) zQj Z Z Z Z fun r5 hr5=>pq 1 Z (zAF (j:=21) Z ?_ ?_)))))))))
    ·exact pq 8 Z (ns rN)
    ·refine pq 1 Z (pc (zF4 fu i4) zNh Z Z Z Z fun r6 hr6=>pq 2 Z (zAF (j:=25) Z ?_ ?_))
     ·exact pq 4 Z (ns rN)
     ·exact pq 4 Z (ns rN)
def zDs (fu:Nat) (s1:Bs):Nat->Int×(List Int)->Option Bs
 | 0,_=>none
 | k1+1,(t2,l3)=>cnd (decide (t2<(((zAS s1).length:Nat):Int))) (bnd (idx l3 t2) fun y4=>bnd (rng .i32 y4) fun i5=>bnd (zDa fu i5) fun r6=>cnd r6 (bnd (rng .u8 (y4 - 65)) fun i7=>bnd (rng .u8 (i7+97)) fun i8=>bnd (idx l3 t2) fun y9=>bnd (rng .i64 (t2+1)) fun i10=>(zDs fu s1 k1) (i10,(l3.set (t2).toNat i8))) (bnd (rng .i64 (t2+1)) fun i11=>(zDs fu s1 k1) (i11,l3))) (some (zEd l3))
def zGK (fu:Nat) (s1:Bs):Option Bs:=bnd (zBr 1 s1.length) fun _=>(zDs fu s1) fu (0,(zAS s1))
theorem zLZ (fu:Nat) (s1:Bs):∀r,zGK fu s1=some r->DC zAf Tryz.prog 93 [D s1] (D r):=by
 refine fcI Tryz.func93 Z fun w0 X X0 σ0 _=>sr (pq 1 Z (ns (sr (pq 1 Z (zTk (T:=tab) zAN 7 (fun _=>Z) Z Z Z Z Z Z Z Z Z Z Z Z (pq 1 Z (ns (zAD (sr (pq 1 Z (zDK (T:=tab) zAN (zAS s1) Z Z Z Z Z Z Z Z Z (pq 1 Z (ns (zAL (lq (zDs fu s1) (fun ((t2,l3):Int×(List Int))=>[(3,.own 7),(8,.own 7),(9,Y (((zAS s1).length:Nat):Int)),(10,Y t2)]) (fun ((t2,l3):Int×(List Int))=>[(7,.arr 1000005 1 (l3.map zAN))]) fu (0,(zAS s1)) ?_)))))))))))))))
 rintro k1 ⟨t2,l3⟩
 refine sr (pq 1 Z (ns (zAD (zAH Z ?_ ?_))))
 ·refine zAB (zAA (zAD (zAL (sr (pq 1 Z (zEr (T:=tab) zAN l3 Z Z Z Z Z Z Z Z fun y4 hy4=>zG3 (T:=tab) zAN l3 y4 (zJK hy4) Z Z Z Z Z Z Z Z (pq 2 Z (ns (sr (pq 1 Z (zAI (T:=tab) Z Z Z Z fun i5 hi5=>pc (zF4 fu i5) zNh Z Z Z Z fun r6 hr6=>ns (zAH Z ?_ ?_))))))))))))
  ·exact zAC (pq 3 Z (zAI (T:=tab) Z Z Z Z fun i7 hi7=>zAI (T:=tab) Z Z Z Z fun i8 hi8=>zEr (T:=tab) zAN l3 Z Z Z Z Z Z Z Z fun y9 hy9=>zGN (T:=tab) zAN l3 y9 i8 (zJK hy9) Z Z Z Z Z Z Z Z Z Z Z Z Z (zAE (zAK (zAA (zAC (zAI (T:=tab) Z Z Z Z fun i10 hi10=>pq 1 Z (zAE (zAW (i10,(l3.set (t2).toNat i8)) ⟨Z,Z,Z,Z,trivial⟩ ⟨Z,trivial⟩ Z)))))))))
  ·exact zAB (zAK (zAA (zAC (zAI (T:=tab) Z Z Z Z fun i11 hi11=>pq 1 Z (zAE (zAW (i11,l3) ⟨Z,Z,Z,Z,trivial⟩ ⟨Z,trivial⟩ Z))))))
 ·exact zAY Z (zAA (sr (pq 1 Z (zPG (T:=tab) zAN l3 (fun _=>Z) Z Z Z Z Z Z Z Z Z (pq 1 Z (ns rN))))))
def zGY (fu:Nat) (s1:Bs):Option (Bs×Int):=bnd (zGJ fu s1) fun r2=>cnd (!r2) (some ([],4)) (bnd (zGK fu s1) fun r3=>some (r3,0))
theorem zJ3 (fu:Nat) (s1:Bs):∀r,zGY fu s1=some r->DC zAf Tryz.prog 57 [D s1] (.tup [D r.1,Y r.2]):=by
 refine fcI Tryz.func57 Z fun w0 X X0 σ0 _=>sr (pq 2 Z (ns (zAD (sr (pq 1 Z (pc (zLY fu s1) call92 Z Z Z Z fun r2 hr2=>pq 1 Z (ns (zAH Z ?_ ?_))))))))
 ·exact sr (pq 2 Z (ns rN))
 ·exact zAB (zAA (sr (pq 1 Z (pc (zLZ fu s1) call93 Z Z Z Z fun r3 hr3=>pq 2 Z (ns rN)))))
def zEY (fu:Nat):Option (List Bs):=bnd (zJj fu ([45,32,99,97,109,101,32,119,101,110,116,32,109,111,118,101,100,32,99,104,97,110,103,101,100,32,111,119,110,101,100,32,98,97,114,114,101,100,32,99,108,101,97,114,101,100,32,114,101,115,116,111,114,101,100]:Bs)) fun r1=>some r1
theorem zHF (fu:Nat):∀r,zEY fu=some r->DC zAf Tryz.prog 28 [] (.sl 1 false (r.map cStr)):=by
 exact fcI Tryz.func28 Z fun w0 X X0 σ0 _=>sr (pq 1 Z (ns (sr (pc (zMj fu ([45,32,99,97,109,101,32,119,101,110,116,32,109,111,118,101,100,32,99,104,97,110,103,101,100,32,111,119,110,101,100,32,98,97,114,114,101,100,32,99,108,101,97,114,101,100,32,114,101,115,116,111,114,101,100]:Bs)) zUc Z Z Z Z fun r1 hr1=>pq 1 Z (ns rN)))))
def zBG (s1:(List Bs)) (v2:Bs):Nat->Int->Option Int
 | 0,_=>none
 | k1+1,t3=>cnd (decide (t3<((s1.length:Nat):Int))) (bnd (idx s1 t3) fun y4=>cnd (v2==y4) (some t3) (bnd (rng .i64 (t3+1)) fun i5=>(zBG s1 v2 k1) i5)) (some (-1))
def zA9 (fu:Nat) (s1:(List Bs)) (v2:Bs):Option Int:=(zBG s1 v2) fu 0
theorem zE6 (fu:Nat) (s1:(List Bs)) (v2:Bs):∀r,zA9 fu s1 v2=some r->DC zAf Tryz.prog 48 [.sl 1 false (s1.map cStr),D v2] (Y r):=by
 refine fcI Tryz.func48 Z fun w0 X X0 σ0 _=>sr (pq 1 Z (ns (zAD (sr (pq 1 Z (zAm (T:=tab) cStr s1 Z Z Z Z Z Z Z Z (pq 1 Z (ns (zAL (lq (zBG s1 v2) (fun (t3:Int)=>[(0,.sl 1 false (s1.map cStr)),(1,D v2),(7,Y ((s1.length:Nat):Int)),(8,Y t3)]) (fun (t3:Int)=>[]) fu 0 ?_))))))))))
 rintro k1 t3
 refine sr (pq 1 Z (ns (zAD (zAH Z ?_ ?_))))
 ·refine zAB (zAA (zAD (zAL (sr (pq 2 Z (ns (sr (pq 3 Z (zCN (T:=tab) cStr s1 Z Z Z Z Z Z Z fun y4 hy4=>pq 2 Z (ns (zAH Z ?_ ?_)))))))))))
  ·exact sr (pq 2 Z (ns rN))
  ·exact zAB (zAK (zAA (zAC (zAI (T:=tab) Z Z Z Z fun i5 hi5=>pq 1 Z (zAE (zAW i5 ⟨Z,Z,Z,Z,trivial⟩ trivial Z))))))
 ·exact zAY Z (zAA (sr (pq 1 Z (ns rN))))
theorem zGh (fu:Nat) (i1:Nat) (most2:Int) (c3:Int) (c4:(List Hook×Bool)) (c5:Int) (c6:(List Class×Bool)) (c7:Bool) (l8:(List Op)) (l9:(List Op)) (l10:(List Bs)) (l11:(List Op)) (l12:(List Op)):∀r,zAh fu most2=some r->FC zAf Tryz.prog 38 [.loc 900000 0,.ela 900001 2 i1 1,Y most2] [(900000,.box 80 [.own 900002,.own 900003,.junk,Y c3]),(900001,.box 54 [pfx 2 (c4.1.map zAP) c4.2,Y c5,.own 900004]),(900002,.box 51 [pfx 5 (c6.1.map zAM) c6.2,O c7,.own 900005,.own 900006,.own 900007,.own 900001]),(900003,.arr 43 7 (l8.map cOp)),(900004,.arr 43 7 (l9.map cOp)),(900005,.arr 9 1 (l10.map cStr)),(900006,.arr 43 7 (l11.map cOp)),(900007,.arr 43 7 (l12.map cOp))] [900000,900001,900002,900003,900004,900005,900006,900007] fun p S'=>p=O r.1/\S'=[(900000,.box 80 [.own 900002,.own 900003,.ela 900001 2 i1 1,Y r.2]),(900001,.box 54 [pfx 2 (c4.1.map zAP) c4.2,Y c5,.own 900004]),(900002,.box 51 [pfx 5 (c6.1.map zAM) c6.2,O c7,.own 900005,.own 900006,.own 900007,.own 900001]),(900003,.arr 43 7 (l8.map cOp)),(900004,.arr 43 7 (l9.map cOp)),(900005,.arr 9 1 (l10.map cStr)),(900006,.arr 43 7 (l11.map cOp)),(900007,.arr 43 7 (l12.map cOp))]:=by
 exact fcI Tryz.func38 Z fun w0 X X0 σ0 _=>sr (pq 1 Z (ns (sr (pq 6 Z (zAG (T:=tab) Z Z Z Z Z Z Z Z Z Z Z Z (pq 2 Z (zAG (T:=tab) Z Z Z Z Z Z Z Z Z Z Z Z (ns (sr (pq 1 Z (ns rN)))))))))))
def zCa (fu:Nat) (k2:Nat) (c3:Int) (c4:(List Class×Bool)) (c5:Bool) (c7:(List Hook×Bool)) (c8:Int) (l9:(List Bs)) (l10:(List Op)) (l11:(List Op)) (l12:(List Op)) (r13:(Bs×Bs×Bool)) (x_:Unit):Option (Bool×Nat×Int×(List Class×Bool)×Bool×(List Hook×Bool)×Int×(List Bs)×(List Op)×(List Op)×(List Op)):=cnd (((c4.1.length+(if c4.2 then 1 else 0):Nat):Int)==12) (some (false,k2,c3,c4,c5,c7,c8,l9,l10,l11,l12)) (bnd (zBr 104 ((c4.1++if c4.2 then [(⟨c5,l9,l10,l11,(c7.1++if c7.2 then [(⟨c8,l12⟩:Hook)] else [])⟩:Class)] else []).length+1)) fun _=>bnd (rng .i64 ((((c4.1++if c4.2 then [(⟨c5,l9,l10,l11,(c7.1++if c7.2 then [(⟨c8,l12⟩:Hook)] else [])⟩:Class)] else []).length+(if true then 1 else 0):Nat):Int) - 1)) fun i15=>bnd (zKm ((c4.1++if c4.2 then [(⟨c5,l9,l10,l11,(c7.1++if c7.2 then [(⟨c8,l12⟩:Hook)] else [])⟩:Class)] else []).length) i15) fun _=>bnd (zAh fu 60) fun r16=>some (r16.1,2,r16.2,((c4.1++if c4.2 then [(⟨c5,l9,l10,l11,(c7.1++if c7.2 then [(⟨c8,l12⟩:Hook)] else [])⟩:Class)] else []),true),r13.2.2,(([]:List Hook),false),0,([]:List Bs),([]:List Op),([]:List Op),([]:List Op)))
def zCb (fu:Nat) (k2:Nat) (c3:Int) (c4:(List Class×Bool)) (c5:Bool) (c7:(List Hook×Bool)) (c8:Int) (l9:(List Bs)) (l10:(List Op)) (l11:(List Op)) (l12:(List Op)) (r13:(Bs×Bs×Bool)) (x_:Unit):Option (Bool×Nat×Int×(List Class×Bool)×Bool×(List Hook×Bool)×Int×(List Bs)×(List Op)×(List Op)×(List Op)):=cnd (r13.1==([111,110]:Bs)) (cnd r13.2.2 (bnd (zEY fu) fun r21=>bnd (zA9 fu r21 r13.2.1) fun r22=>cnd (decide (r22<1)) (some (false,k2,c3,(c4.1,true),c5,c7,c8,l9,l10,l11,l12)) (cnd (((c7.1.length+(if c7.2 then 1 else 0):Nat):Int)==12) (some (false,k2,c3,(c4.1,true),c5,c7,c8,l9,l10,l11,l12)) (bnd (zBr 32 ((c7.1++if c7.2 then [(⟨c8,l12⟩:Hook)] else []).length+1)) fun _=>bnd (rng .i64 ((((c7.1++if c7.2 then [(⟨c8,l12⟩:Hook)] else []).length+(if true then 1 else 0):Nat):Int) - 1)) fun i23=>bnd (zKm ((c7.1++if c7.2 then [(⟨c8,l12⟩:Hook)] else []).length) i23) fun _=>bnd (zAh fu 60) fun r24=>some (r24.1,3,r24.2,(c4.1,true),c5,((c7.1++if c7.2 then [(⟨c8,l12⟩:Hook)] else []),true),r22,l9,l10,l11,([]:List Op))))) (some (false,k2,c3,(c4.1,true),c5,c7,c8,l9,l10,l11,l12))) (some (false,k2,c3,(c4.1,true),c5,c7,c8,l9,l10,l11,l12))
def zDe (fu:Nat) (s1:Bs) (k2:Nat) (c3:Int) (c4:(List Class×Bool)) (c5:Bool) (c7:(List Hook×Bool)) (c8:Int) (l9:(List Bs)) (l10:(List Op)) (l11:(List Op)) (l12:(List Op)):Option (Bool×Nat×Int×(List Class×Bool)×Bool×(List Hook×Bool)×Int×(List Bs)×(List Op)×(List Op)×(List Op)):=bnd (zBA fu s1 [32]) fun r13=>cnd (s1==([109,97,105,110]:Bs)) (bnd (zCJ fu 300) fun r14=>some (r14.1,0,r14.2,c4,c5,c7,c8,l9,l10,l11,l12)) (cnd (s1==([99,108,97,115,115]:Bs)) ((zCa fu k2 c3 c4 c5 c7 c8 l9 l10 l11 l12 r13) ()) (cnd (s1==([99,108,97,115,115,32,102,111,114,109]:Bs)) ((zCa fu k2 c3 c4 c5 c7 c8 l9 l10 l11 l12 r13) ()) (cnd (((c4.1.length+(if c4.2 then 1 else 0):Nat):Int)==0) (some (false,k2,c3,c4,c5,c7,c8,l9,l10,l11,l12)) (bnd (zJc c4.2) fun _=>bnd (rng .i64 (((c4.1.length+(if true then 1 else 0):Nat):Int) - 1)) fun i17=>bnd (zKm (c4.1.length) i17) fun _=>cnd (s1==([112,101,101,107]:Bs)) (bnd (zAh fu 60) fun r18=>some (r18.1,1,r18.2,(c4.1,true),c5,c7,c8,l9,l10,l11,l12)) (cnd (s1==([109,97,107,101]:Bs)) (bnd (zAh fu 60) fun r19=>some (r19.1,2,r19.2,(c4.1,true),c5,c7,c8,l9,l10,l11,l12)) (cnd (r13.1==([119,97,116,99,104]:Bs)) (cnd r13.2.2 (bnd (zGY fu r13.2.1) fun r20=>cnd (r20.2 != 0) (some (false,k2,c3,(c4.1,true),c5,c7,c8,l9,l10,l11,l12)) (cnd (!(r20.1==r13.2.1)) (some (false,k2,c3,(c4.1,true),c5,c7,c8,l9,l10,l11,l12)) (cnd (((l9.length:Nat):Int)==12) (some (false,k2,c3,(c4.1,true),c5,c7,c8,l9,l10,l11,l12)) (bnd (zBr 16 (l9.length+([r13.2.1]:List Bs).length)) fun _=>some (true,k2,c3,(c4.1,true),c5,c7,c8,(l9++[r13.2.1]),l10,l11,l12))))) ((zCb fu k2 c3 c4 c5 c7 c8 l9 l10 l11 l12 r13) ())) ((zCb fu k2 c3 c4 c5 c7 c8 l9 l10 l11 l12 r13) ())))))))
theorem zHH (fu:Nat) (s1:Bs) (k2:Nat) (c3:Int) (c4:(List Class×Bool)) (c5:Bool) (l6:(List Op)) (c7:(List Hook×Bool)) (c8:Int) (l9:(List Bs)) (l10:(List Op)) (l11:(List Op)) (l12:(List Op)):∀r,zDe fu s1 k2 c3 c4 c5 c7 c8 l9 l10 l11 l12=some r->FC zAf Tryz.prog 41 [.loc 900000 0,D s1] [(900000,.box 80 [.own 900001,.own 900002,.sel k2 [.loc 900000 1,.ela 900001 5 (c4.1.length) 2,.ela 900001 5 (c4.1.length) 3,.ela 900003 2 (c7.1.length) 1],Y c3]),(900001,.box 51 [pfx 5 (c4.1.map zAM) c4.2,O c5,.own 900004,.own 900005,.own 900006,.own 900003]),(900002,.arr 43 7 (l6.map cOp)),(900003,.box 54 [pfx 2 (c7.1.map zAP) c7.2,Y c8,.own 900007]),(900004,.arr 9 1 (l9.map cStr)),(900005,.arr 43 7 (l10.map cOp)),(900006,.arr 43 7 (l11.map cOp)),(900007,.arr 43 7 (l12.map cOp))] [900000,900002] fun p S'=>p=O r.1/\S'=[(900000,.box 80 [.own 900001,.own 900002,.sel r.2.1 [.loc 900000 1,.ela 900001 5 (r.2.2.2.1.1.length) 2,.ela 900001 5 (r.2.2.2.1.1.length) 3,.ela 900003 2 (r.2.2.2.2.2.1.1.length) 1],Y r.2.2.1]),(900001,.box 51 [pfx 5 (r.2.2.2.1.1.map zAM) r.2.2.2.1.2,O r.2.2.2.2.1,.own 900004,.own 900005,.own 900006,.own 900003]),(900002,.arr 43 7 (l6.map cOp)),(900003,.box 54 [pfx 2 (r.2.2.2.2.2.1.1.map zAP) r.2.2.2.2.2.1.2,Y r.2.2.2.2.2.2.1,.own 900007]),(900004,.arr 9 1 (r.2.2.2.2.2.2.2.1.map cStr)),(900005,.arr 43 7 (r.2.2.2.2.2.2.2.2.1.map cOp)),(900006,.arr 43 7 (r.2.2.2.2.2.2.2.2.2.1.map cOp)),(900007,.arr 43 7 (r.2.2.2.2.2.2.2.2.2.2.map cOp))]:=by
 refine fcI Tryz.func41 Z fun w0 X X0 σ0 _=>sr (pq 1 Z (ns (sr (pq 1 Z (pc (zEZ fu s1 [32]) zMd Z Z Z Z fun r13 hr13=>pq 7 Z (ns (zAD (sr (pq 2 Z (ns (zAH Z ?_ ?_)))))))))))
 ·refine sr (pq 5 Z (tu [] (enc:=fun (r14:(Bool×Int))=>O r14.1) (Sr:=fun (r14:(Bool×Int))=>[(900000,.box 80 [.own 900001,.own 900002,.loc 900000 1,Y r14.2]),(900001,.box 51 [pfx 5 (c4.1.map zAM) c4.2,O c5,.own 900004,.own 900005,.own 900006,.own 900003]),(900002,.arr 43 7 (l6.map cOp)),(900003,.box 54 [pfx 2 (c7.1.map zAP) c7.2,Y c8,.own 900007]),(900004,.arr 9 1 (l9.map cStr)),(900005,.arr 43 7 (l10.map cOp)),(900006,.arr 43 7 (l11.map cOp)),(900007,.arr 43 7 (l12.map cOp))]) (qs:=[.loc 900000 0,.loc 900000 1,Y 300]) (Sc:=[(900000,.box 80 [.own 900001,.own 900002,.sel k2 [.loc 900000 1,.ela 900001 5 (c4.1.length) 2,.ela 900001 5 (c4.1.length) 3,.ela 900003 2 (c7.1.length) 1],Y c3]),(900001,.box 51 [pfx 5 (c4.1.map zAM) c4.2,O c5,.own 900004,.own 900005,.own 900006,.own 900003]),(900002,.arr 43 7 (l6.map cOp)),(900003,.box 54 [pfx 2 (c7.1.map zAP) c7.2,Y c8,.own 900007]),(900004,.arr 9 1 (l9.map cStr)),(900005,.arr 43 7 (l10.map cOp)),(900006,.arr 43 7 (l11.map cOp)),(900007,.arr 43 7 (l12.map cOp))]) (N1:=[900000,900001,900002,900003,900004,900005,900006,900007]) (NR:=[900000,900001,900002,900003,900004,900005,900006,900007]) (fun r14 hr14=>fr [(900000,900000),(900001,900001),(900002,900002),(900003,900003),(900004,900004),(900005,900005),(900006,900006),(900007,900007)] [900000,900001,900002,900003,900004,900005,900006,900007] (zGd fu 300 k2 c3 c4 c5 l6 c7 c8 l9 l10 l11 l12 _ hr14)) zKv Z Z Z Z Z Z Z Z fun r14 hr14=>pq 1 Z (ns ?_)))
  refine zEk 900000 [.own 900001,.own 900002,.sel 0 [.loc 900000 1,.ela 900001 5 (c4.1.length) 2,.ela 900001 5 (c4.1.length) 3,.ela 900003 2 (c7.1.length) 1],Y r14.2] Z ⟨.rfl,.rfl,(.sel Z Z),.rfl,trivial⟩ Z ?_
  exact rN
 ·refine zAB (zAA (zAD (sr (zTl (zCa fu k2 c3 c4 c5 c7 c8 l9 l10 l11 l12 r13) (fun (_:Unit)=>[(0,.loc 900000 0),(7,O r13.2.2)]) (fun (_:Unit)=>[(900000,.box 80 [.own 900001,.own 900002,.sel k2 [.loc 900000 1,.ela 900001 5 (c4.1.length) 2,.ela 900001 5 (c4.1.length) 3,.ela 900003 2 (c7.1.length) 1],Y c3]),(900001,.box 51 [pfx 5 (c4.1.map zAM) c4.2,O c5,.own 900004,.own 900005,.own 900006,.own 900003]),(900002,.arr 43 7 (l6.map cOp)),(900003,.box 54 [pfx 2 (c7.1.map zAP) c7.2,Y c8,.own 900007]),(900004,.arr 9 1 (l9.map cStr)),(900005,.arr 43 7 (l10.map cOp)),(900006,.arr 43 7 (l11.map cOp)),(900007,.arr 43 7 (l12.map cOp))]) ?_ fun hj1=>?_))))
  ·rintro _
   refine zAD (sr (pq 5 Z (zFz (T:=tab) (l:=c4.1.length) Z Z Z Z Z Z Z (by simp) Z Z (pq 1 Z (ns (zAH Z ?_ ?_))))))
   ·exact sr (pq 1 Z (ns rN))
   ·refine zAB (zAA (sr (pq 7 Z (zA4 (T:=tab) Z Z Z Z Z Z Z ?_))))
    refine zBu (T:=tab) (rows:=[[O r13.2.2,.v (.slice none 0 0),.v (.slice none 0 0),.v (.slice none 0 0),.v (.slice none 0 0)]]) 47 Z Z Z Z Z Z Z Z Z Z Z Z Z Z ?_
    refine zCr 900004 Z Z Z (zCr 900005 Z Z Z (zCr 900006 Z Z Z (zCr 900007 Z Z Z (zRz 900003 zAP c7.1 (⟨c8,l12⟩:Hook) Z Z Z Z (zCr 900003 Z Z Z (zRz 900001 zAM c4.1 (⟨c5,l9,l10,l11,(c7.1++if c7.2 then [(⟨c8,l12⟩:Hook)] else [])⟩:Class) Z Z Z Z (zIm (T:=tab) ((c4.1++if c4.2 then [(⟨c5,l9,l10,l11,(c7.1++if c7.2 then [(⟨c8,l12⟩:Hook)] else [])⟩:Class)] else []).map zAM) [[O r13.2.2,.v (.slice none 0 0),.v (.slice none 0 0),.v (.slice none 0 0),.v (.slice none 0 0)]] (c4.1++if c4.2 then [(⟨c5,l9,l10,l11,(c7.1++if c7.2 then [(⟨c8,l12⟩:Hook)] else [])⟩:Class)] else []).length (by simp) Z Z Z Z Z Z Z Z Z Z Z Z Z Z Z Z Z Z Z Z (zPF 900001 Z Z Z (zEj 900004 9 1 900001 2 Z Z Z Z Z Z (zEj 900005 43 7 900001 3 Z Z Z Z Z Z (zEj 900006 43 7 900001 4 Z Z Z Z Z Z (zEj 900003 54 2 900001 5 Z Z Z Z Z Z (zGp 900007 43 7 Z Z Z (zR0 900003 [Y 0,.own 900007] Z Z Z Z (pq 3 Z (zAG (T:=tab) Z Z Z Z Z Z Z Z Z Z Z Z (ns (zAD (su [(0,.loc 900000 0)] [(900007,.arr 43 7 (([]:List Op).map cOp)),(900003,.box 54 [pfx 2 (([]:List Hook).map zAP) false,Y 0,.own 900007]),(900006,.arr 43 7 (([]:List Op).map cOp)),(900005,.arr 43 7 (([]:List Op).map cOp)),(900004,.arr 9 1 (([]:List Bs).map cStr)),(900001,.box 51 [pfx 5 ((c4.1++if c4.2 then [(⟨c5,l9,l10,l11,(c7.1++if c7.2 then [(⟨c8,l12⟩:Hook)] else [])⟩:Class)] else []).map zAM) true,O r13.2.2,.own 900004,.own 900005,.own 900006,.own 900003]),(900000,.box 80 [.own 900001,.own 900002,.junk,Y c3]),(900002,.arr 43 7 (l6.map cOp))] (zBB [0,0,2,6,14,30,0,64,192,448,960,1984,4032,8190,16382,32767,65535] mixed (by kernel_rfl) (by kernel_rfl) Z Z (ve [0] [104] [900000] [(52,.loc 900000 0)] ?_)))))))))))))))))))))
    refine ve [0] [106] [900000] [(53,.loc 900000 0)] ?_
    refine ve [106] [108] [900000] [(54,.loc 900000 0)] ?_
    refine ve [108] [110] [900000] [(55,.loc 900000 0)] ?_
    refine ve [110] [112] [900000] [(56,.loc 900000 0)] ?_
    refine vf [112,1800001] [114] [] [900000,900001,900002] [900000] [(57,.own 900001)] [(900000,.box 80 [.own 900001,.own 900002,.junk,Y c3])] ?_
    refine ve [0] [116] [900000] [(58,.loc 900000 0)] ?_
    refine ve [116] [118] [900000] [(59,.loc 900000 0)] ?_
    refine ve [118] [120] [900000] [(60,.loc 900000 0)] ?_
    refine ve [120] [122] [900000] [(61,.loc 900000 0)] ?_
    refine vf [122,1800001] [124] [] [900000,900001,900002] [900000] [(62,.own 900001)] [(900000,.box 80 [.own 900001,.own 900002,.junk,Y c3])] ?_
    refine vs [124,1800003] [126] [] [900001,900003,900004,900005,900006] [900001] [(63,Y (((c4.1++if c4.2 then [(⟨c5,l9,l10,l11,(c7.1++if c7.2 then [(⟨c8,l12⟩:Hook)] else [])⟩:Class)] else []).length+(if true then 1 else 0):Nat):Int))] [(900001,.box 51 [pfx 5 ((c4.1++if c4.2 then [(⟨c5,l9,l10,l11,(c7.1++if c7.2 then [(⟨c8,l12⟩:Hook)] else [])⟩:Class)] else []).map zAM) true,O r13.2.2,.own 900004,.own 900005,.own 900006,.own 900003])] Z Z (fun w0 X X0 σ0 _=>by refine zFz (T:=tab) (l:=(c4.1++if c4.2 then [(⟨c5,l9,l10,l11,(c7.1++if c7.2 then [(⟨c8,l12⟩:Hook)] else [])⟩:Class)] else []).length) Z Z Z Z Z Z Z (by simp) Z Z ?_;exact py) ?_
    refine vt (rng .i64 ((((c4.1++if c4.2 then [(⟨c5,l9,l10,l11,(c7.1++if c7.2 then [(⟨c8,l12⟩:Hook)] else [])⟩:Class)] else []).length+(if true then 1 else 0):Nat):Int) - 1)) [(128,[])] [126] [128] [] [] [] (fun i15=>[(64,Y i15)]) (fun i15=>[]) Z Z (fun _=>Z) (fun w0 X X0 σ0 _=>by refine zAI (T:=tab) Z Z Z Z fun i15 hi15=>?_;exact pz) fun i15 hi15=>?_
    refine vt (zKm ((c4.1++if c4.2 then [(⟨c5,l9,l10,l11,(c7.1++if c7.2 then [(⟨c8,l12⟩:Hook)] else [])⟩:Class)] else []).length) i15) [(130,[900001])] [114,128,1800003] [130] [] [900001,900003,900004,900005,900006] [900001] (fun _=>[(65,.ela 900001 5 ((c4.1++if c4.2 then [(⟨c5,l9,l10,l11,(c7.1++if c7.2 then [(⟨c8,l12⟩:Hook)] else [])⟩:Class)] else []).length) 0)]) (fun _=>[(900001,.box 51 [pfx 5 ((c4.1++if c4.2 then [(⟨c5,l9,l10,l11,(c7.1++if c7.2 then [(⟨c8,l12⟩:Hook)] else [])⟩:Class)] else []).map zAM) true,O r13.2.2,.own 900004,.own 900005,.own 900006,.own 900003])]) Z Z (fun _=>Z) (fun w0 X X0 σ0 _=>by refine zI9 (T:=tab) (l:=((c4.1++if c4.2 then [(⟨c5,l9,l10,l11,(c7.1++if c7.2 then [(⟨c8,l12⟩:Hook)] else [])⟩:Class)] else []).length)) (by simp) Z Z Z Z Z Z Z Z ?_;exact pz) fun _ h0=>?_
    refine ve [130] [132] [900001] [(66,.ela 900001 5 ((c4.1++if c4.2 then [(⟨c5,l9,l10,l11,(c7.1++if c7.2 then [(⟨c8,l12⟩:Hook)] else [])⟩:Class)] else []).length) 3)] ?_
    refine vt (zAh fu 60) [(134,[]),(1800001,[900001,900002,900001])] [104,132,1800001,1800003,1800005,1800007,1800009,1800011,1800013,1800015] [134,1800001] [] [900000,900001,900002,900003,900004,900005,900006,900007] [900001,900002,900003,900004,900005,900006,900007] (fun r16=>[(67,O r16.1)]) (fun r16=>[(900000,.box 80 [.own 900001,.own 900002,.ela 900001 5 ((c4.1++if c4.2 then [(⟨c5,l9,l10,l11,(c7.1++if c7.2 then [(⟨c8,l12⟩:Hook)] else [])⟩:Class)] else []).length) 3,Y r16.2]),(900001,.box 51 [pfx 5 ((c4.1++if c4.2 then [(⟨c5,l9,l10,l11,(c7.1++if c7.2 then [(⟨c8,l12⟩:Hook)] else [])⟩:Class)] else []).map zAM) true,O r13.2.2,.own 900004,.own 900005,.own 900006,.own 900003]),(900002,.arr 43 7 (l6.map cOp)),(900003,.box 54 [pfx 2 (([]:List Hook).map zAP) false,Y 0,.own 900007]),(900004,.arr 9 1 (([]:List Bs).map cStr)),(900005,.arr 43 7 (([]:List Op).map cOp)),(900006,.arr 43 7 (([]:List Op).map cOp)),(900007,.arr 43 7 (([]:List Op).map cOp))]) Z Z (fun _=>Z) (fun w0 X X0 σ0 _=>by refine tu [] (enc:=fun (r16:(Bool×Int))=>O r16.1) (Sr:=fun (r16:(Bool×Int))=>[(900000,.box 80 [.own 900001,.own 900002,.ela 900001 5 ((c4.1++if c4.2 then [(⟨c5,l9,l10,l11,(c7.1++if c7.2 then [(⟨c8,l12⟩:Hook)] else [])⟩:Class)] else []).length) 3,Y r16.2]),(900001,.box 51 [pfx 5 ((c4.1++if c4.2 then [(⟨c5,l9,l10,l11,(c7.1++if c7.2 then [(⟨c8,l12⟩:Hook)] else [])⟩:Class)] else []).map zAM) true,O r13.2.2,.own 900004,.own 900005,.own 900006,.own 900003]),(900002,.arr 43 7 (l6.map cOp)),(900004,.arr 9 1 (([]:List Bs).map cStr)),(900005,.arr 43 7 (([]:List Op).map cOp)),(900006,.arr 43 7 (([]:List Op).map cOp)),(900003,.box 54 [pfx 2 (([]:List Hook).map zAP) false,Y 0,.own 900007]),(900007,.arr 43 7 (([]:List Op).map cOp))]) (qs:=[.loc 900000 0,.ela 900001 5 ((c4.1++if c4.2 then [(⟨c5,l9,l10,l11,(c7.1++if c7.2 then [(⟨c8,l12⟩:Hook)] else [])⟩:Class)] else []).length) 3,Y 60]) (Sc:=[(900000,.box 80 [.own 900001,.own 900002,.junk,Y c3]),(900001,.box 51 [pfx 5 ((c4.1++if c4.2 then [(⟨c5,l9,l10,l11,(c7.1++if c7.2 then [(⟨c8,l12⟩:Hook)] else [])⟩:Class)] else []).map zAM) true,O r13.2.2,.own 900004,.own 900005,.own 900006,.own 900003]),(900002,.arr 43 7 (l6.map cOp)),(900004,.arr 9 1 (([]:List Bs).map cStr)),(900005,.arr 43 7 (([]:List Op).map cOp)),(900006,.arr 43 7 (([]:List Op).map cOp)),(900003,.box 54 [pfx 2 (([]:List Hook).map zAP) false,Y 0,.own 900007]),(900007,.arr 43 7 (([]:List Op).map cOp))]) (N1:=[900000,900001,900002,900004,900005,900006,900003,900007]) (NR:=[900000,900001,900002,900004,900005,900006,900003,900007]) (fun r16 hr16=>fr [(900000,900000),(900001,900001),(900002,900002),(900003,900004),(900004,900005),(900005,900006),(900006,900003),(900007,900007)] [900000,900001,900002,900003,900004,900005,900006,900007] (zGe fu ((c4.1++if c4.2 then [(⟨c5,l9,l10,l11,(c7.1++if c7.2 then [(⟨c8,l12⟩:Hook)] else [])⟩:Class)] else []).length) 60 c3 ((c4.1++if c4.2 then [(⟨c5,l9,l10,l11,(c7.1++if c7.2 then [(⟨c8,l12⟩:Hook)] else [])⟩:Class)] else []),true) r13.2.2 l6 ([]:List Bs) ([]:List Op) ([]:List Op) (([]:List Hook),false) 0 ([]:List Op) _ hr16)) zKv Z Z Z Z Z Z Z Z fun r16 hr16=>?_;exact pz) fun r16 hr16=>?_
    refine ve [134] [8] [] [(4,O r16.1)] ?_
    refine zBf Z Z (zAA ?_)
    refine zEk 900000 [.own 900001,.own 900002,.sel 2 [.loc 900000 1,.ela 900001 5 ((c4.1++if c4.2 then [(⟨c5,l9,l10,l11,(c7.1++if c7.2 then [(⟨c8,l12⟩:Hook)] else [])⟩:Class)] else []).length) 2,.ela 900001 5 ((c4.1++if c4.2 then [(⟨c5,l9,l10,l11,(c7.1++if c7.2 then [(⟨c8,l12⟩:Hook)] else [])⟩:Class)] else []).length) 3,.ela 900003 2 (([]:List Hook).length) 1],Y r16.2] Z ⟨.rfl,.rfl,(.sel Z Z),.rfl,trivial⟩ Z ?_
    exact rN
  ·refine pq 3 Z (zAF (j:=28) Z ?_ ?_)
   ·refine pq 3 Z (zAE (zAA (zAQ Z ?_)))
    exact zKd (hj1 ()) ⟨Z,Z,trivial⟩ ⟨Z,Z,Z,Z,Z,Z,Z,Z,trivial⟩ Z
   ·refine pq 3 Z (ns (zAH Z ?_ ?_))
    ·exact zKd (hj1 ()) ⟨Z,Z,trivial⟩ ⟨Z,Z,Z,Z,Z,Z,Z,Z,trivial⟩ Z
    ·refine zAB (zAA (zAD (sr (pq 5 Z (zFz (T:=tab) (l:=c4.1.length) Z Z Z Z Z Z Z (by simp) Z Z (pq 1 Z (ns (zAH Z ?_ ?_))))))))
     ·exact sr (pq 1 Z (ns rN))
     ·refine zAB (zAA (zAD (su [(0,.loc 900000 0),(1,D s1),(4,O false),(13,D s1),(14,.tup [D r13.1,D r13.2.1,O r13.2.2]),(12,.tup [D r13.1,D r13.2.1,O r13.2.2]),(15,D r13.1),(16,D r13.2.1),(17,O r13.2.2),(5,D r13.1),(6,D r13.2.1),(7,O r13.2.2),(18,D s1),(19,O (s1==([109,97,105,110]:Bs))),(26,D s1),(27,O (s1==([99,108,97,115,115]:Bs))),(28,O false),(29,D s1),(30,O (s1==([99,108,97,115,115,32,102,111,114,109]:Bs))),(31,O (s1==([99,108,97,115,115,32,102,111,114,109]:Bs))),(68,.loc 900000 0),(69,.loc 900000 0),(70,.loc 900000 0),(71,.loc 900000 0),(72,.own 900001),(73,Y ((c4.1.length+(if c4.2 then 1 else 0):Nat):Int)),(74,O (((c4.1.length+(if c4.2 then 1 else 0):Nat):Int)==0))] [(900000,.box 80 [.own 900001,.own 900002,.sel k2 [.loc 900000 1,.ela 900001 5 (c4.1.length) 2,.ela 900001 5 (c4.1.length) 3,.ela 900003 2 (c7.1.length) 1],Y c3]),(900001,.box 51 [pfx 5 (c4.1.map zAM) c4.2,O c5,.own 900004,.own 900005,.own 900006,.own 900003]),(900002,.arr 43 7 (l6.map cOp)),(900003,.box 54 [pfx 2 (c7.1.map zAP) c7.2,Y c8,.own 900007]),(900004,.arr 9 1 (l9.map cStr)),(900005,.arr 43 7 (l10.map cOp)),(900006,.arr 43 7 (l11.map cOp)),(900007,.arr 43 7 (l12.map cOp))] (zPL (fun b_=>[(0,.loc 900000 0),(1,D s1),(4,O false),(13,D s1),(14,.tup [D r13.1,D r13.2.1,O r13.2.2]),(12,.tup [D r13.1,D r13.2.1,O r13.2.2]),(15,D r13.1),(16,D r13.2.1),(17,O r13.2.2),(5,D r13.1),(6,D r13.2.1),(7,O r13.2.2),(18,D s1),(19,O (s1==([109,97,105,110]:Bs))),(26,D s1),(27,O (s1==([99,108,97,115,115]:Bs))),(28,O false),(29,D s1),(30,O (s1==([99,108,97,115,115,32,102,111,114,109]:Bs))),(31,O (s1==([99,108,97,115,115,32,102,111,114,109]:Bs))),(68,.loc 900000 0),(69,.loc 900000 0),(70,.loc 900000 0),(71,.loc 900000 0),(72,.own 900001),(73,Y ((c4.1.length+(if b_ then 1 else 0):Nat):Int)),(74,O (((c4.1.length+(if b_ then 1 else 0):Nat):Int)==0))]) (fun b_=>[(900000,.box 80 [.own 900001,.own 900002,.sel k2 [.loc 900000 1,.ela 900001 5 (c4.1.length) 2,.ela 900001 5 (c4.1.length) 3,.ela 900003 2 (c7.1.length) 1],Y c3]),(900001,.box 51 [pfx 5 (c4.1.map zAM) b_,O c5,.own 900004,.own 900005,.own 900006,.own 900003]),(900002,.arr 43 7 (l6.map cOp)),(900003,.box 54 [pfx 2 (c7.1.map zAP) c7.2,Y c8,.own 900007]),(900004,.arr 9 1 (l9.map cStr)),(900005,.arr 43 7 (l10.map cOp)),(900006,.arr 43 7 (l11.map cOp)),(900007,.arr 43 7 (l12.map cOp))]) c4.2 (su [(0,.loc 900000 0),(1,D s1),(5,D r13.1),(6,D r13.2.1),(7,O r13.2.2)] [(900000,.box 80 [.own 900001,.own 900002,.sel k2 [.loc 900000 1,.ela 900001 5 (c4.1.length) 2,.ela 900001 5 (c4.1.length) 3,.ela 900003 2 (c7.1.length) 1],Y c3]),(900001,.box 51 [pfx 5 (c4.1.map zAM) true,O c5,.own 900004,.own 900005,.own 900006,.own 900003]),(900002,.arr 43 7 (l6.map cOp)),(900003,.box 54 [pfx 2 (c7.1.map zAP) c7.2,Y c8,.own 900007]),(900004,.arr 9 1 (l9.map cStr)),(900005,.arr 43 7 (l10.map cOp)),(900006,.arr 43 7 (l11.map cOp)),(900007,.arr 43 7 (l12.map cOp))] (zBB [0,1,3,7,15,0,32,96,224,480,992,2016,4095,8191] mixed (by kernel_rfl) (by kernel_rfl) Z Z (ve [0] [150] [900000] [(75,.loc 900000 0)] ?_)))))))
      refine ve [150] [152] [900000] [(76,.loc 900000 0)] ?_
      refine ve [152] [154] [900000] [(77,.loc 900000 0)] ?_
      refine ve [154] [156] [900000] [(78,.loc 900000 0)] ?_
      refine vf [156,1800001] [158] [] [900000,900001,900002,900003] [900000] [(79,.own 900001)] [(900000,.box 80 [.own 900001,.own 900002,.sel k2 [.loc 900000 1,.ela 900001 5 (c4.1.length) 2,.ela 900001 5 (c4.1.length) 3,.ela 900003 2 (c7.1.length) 1],Y c3])] ?_
      refine ve [0] [160] [900000] [(80,.loc 900000 0)] ?_
      refine ve [160] [162] [900000] [(81,.loc 900000 0)] ?_
      refine ve [162] [164] [900000] [(82,.loc 900000 0)] ?_
      refine ve [164] [166] [900000] [(83,.loc 900000 0)] ?_
      refine vf [166,1800001] [168] [] [900000,900001,900002,900003] [900000] [(84,.own 900001)] [(900000,.box 80 [.own 900001,.own 900002,.sel k2 [.loc 900000 1,.ela 900001 5 (c4.1.length) 2,.ela 900001 5 (c4.1.length) 3,.ela 900003 2 (c7.1.length) 1],Y c3])] ?_
      refine vs [168,1800003] [170] [] [900001,900003,900004,900005,900006] [900001] [(85,Y ((c4.1.length+(if true then 1 else 0):Nat):Int))] [(900001,.box 51 [pfx 5 (c4.1.map zAM) true,O c5,.own 900004,.own 900005,.own 900006,.own 900003])] Z Z (fun w0 X X0 σ0 _=>by refine zFz (T:=tab) (l:=c4.1.length) Z Z Z Z Z Z Z (by simp) Z Z ?_;exact py) ?_
      refine vt (rng .i64 (((c4.1.length+(if true then 1 else 0):Nat):Int) - 1)) [(172,[])] [170] [172] [] [] [] (fun i17=>[(86,Y i17)]) (fun i17=>[]) Z Z (fun _=>Z) (fun w0 X X0 σ0 _=>by refine zAI (T:=tab) Z Z Z Z fun i17 hi17=>?_;exact pz) fun i17 hi17=>?_
      refine vt (zKm (c4.1.length) i17) [(174,[900001])] [158,172,1800003] [174] [] [900001,900003,900004,900005,900006] [900001] (fun _=>[(87,.ela 900001 5 (c4.1.length) 0)]) (fun _=>[(900001,.box 51 [pfx 5 (c4.1.map zAM) true,O c5,.own 900004,.own 900005,.own 900006,.own 900003])]) Z Z (fun _=>Z) (fun w0 X X0 σ0 _=>by refine zI9 (T:=tab) (l:=(c4.1.length)) (by simp) Z Z Z Z Z Z Z Z ?_;exact pz) fun _ h0=>?_
      refine ve [174] [16] [900001] [(8,.ela 900001 5 (c4.1.length) 0)] ?_
      refine zBf Z Z (zAA (zAD (zAL (sr (pq 3 Z (ns (zAH Z ?_ ?_)))))))
      ·refine sr (pq 4 Z (tu [] (enc:=fun (r18:(Bool×Int))=>O r18.1) (Sr:=fun (r18:(Bool×Int))=>[(900000,.box 80 [.own 900001,.own 900002,.ela 900001 5 (c4.1.length) 2,Y r18.2]),(900001,.box 51 [pfx 5 (c4.1.map zAM) true,O c5,.own 900004,.own 900005,.own 900006,.own 900003]),(900002,.arr 43 7 (l6.map cOp)),(900003,.box 54 [pfx 2 (c7.1.map zAP) c7.2,Y c8,.own 900007]),(900004,.arr 9 1 (l9.map cStr)),(900005,.arr 43 7 (l10.map cOp)),(900006,.arr 43 7 (l11.map cOp)),(900007,.arr 43 7 (l12.map cOp))]) (qs:=[.loc 900000 0,.ela 900001 5 (c4.1.length) 2,Y 60]) (Sc:=[(900000,.box 80 [.own 900001,.own 900002,.sel k2 [.loc 900000 1,.ela 900001 5 (c4.1.length) 2,.ela 900001 5 (c4.1.length) 3,.ela 900003 2 (c7.1.length) 1],Y c3]),(900001,.box 51 [pfx 5 (c4.1.map zAM) true,O c5,.own 900004,.own 900005,.own 900006,.own 900003]),(900002,.arr 43 7 (l6.map cOp)),(900003,.box 54 [pfx 2 (c7.1.map zAP) c7.2,Y c8,.own 900007]),(900004,.arr 9 1 (l9.map cStr)),(900005,.arr 43 7 (l10.map cOp)),(900006,.arr 43 7 (l11.map cOp)),(900007,.arr 43 7 (l12.map cOp))]) (N1:=[900000,900001,900002,900003,900004,900005,900006,900007]) (NR:=[900000,900001,900002,900003,900004,900005,900006,900007]) (fun r18 hr18=>fr [(900000,900000),(900001,900001),(900002,900002),(900003,900003),(900004,900004),(900005,900005),(900006,900006),(900007,900007)] [900000,900001,900002,900003,900004,900005,900006,900007] (zGf fu (c4.1.length) 60 k2 c3 (c4.1,true) c5 l6 c7 c8 l9 l10 l11 l12 _ hr18)) zKv Z Z Z Z Z Z Z Z fun r18 hr18=>pq 1 Z (ns ?_)))
       refine zEk 900000 [.own 900001,.own 900002,.sel 1 [.loc 900000 1,.ela 900001 5 (c4.1.length) 2,.ela 900001 5 (c4.1.length) 3,.ela 900003 2 (c7.1.length) 1],Y r18.2] Z ⟨.rfl,.rfl,(.sel Z Z),.rfl,trivial⟩ Z ?_
       exact rN
      ·refine sr (pq 3 Z (ns (zAH Z ?_ ?_)))
       ·refine sr (pq 4 Z (tu [] (enc:=fun (r19:(Bool×Int))=>O r19.1) (Sr:=fun (r19:(Bool×Int))=>[(900000,.box 80 [.own 900001,.own 900002,.ela 900001 5 (c4.1.length) 3,Y r19.2]),(900001,.box 51 [pfx 5 (c4.1.map zAM) true,O c5,.own 900004,.own 900005,.own 900006,.own 900003]),(900002,.arr 43 7 (l6.map cOp)),(900003,.box 54 [pfx 2 (c7.1.map zAP) c7.2,Y c8,.own 900007]),(900004,.arr 9 1 (l9.map cStr)),(900005,.arr 43 7 (l10.map cOp)),(900006,.arr 43 7 (l11.map cOp)),(900007,.arr 43 7 (l12.map cOp))]) (qs:=[.loc 900000 0,.ela 900001 5 (c4.1.length) 3,Y 60]) (Sc:=[(900000,.box 80 [.own 900001,.own 900002,.sel k2 [.loc 900000 1,.ela 900001 5 (c4.1.length) 2,.ela 900001 5 (c4.1.length) 3,.ela 900003 2 (c7.1.length) 1],Y c3]),(900001,.box 51 [pfx 5 (c4.1.map zAM) true,O c5,.own 900004,.own 900005,.own 900006,.own 900003]),(900002,.arr 43 7 (l6.map cOp)),(900003,.box 54 [pfx 2 (c7.1.map zAP) c7.2,Y c8,.own 900007]),(900004,.arr 9 1 (l9.map cStr)),(900005,.arr 43 7 (l10.map cOp)),(900006,.arr 43 7 (l11.map cOp)),(900007,.arr 43 7 (l12.map cOp))]) (N1:=[900000,900001,900002,900003,900004,900005,900006,900007]) (NR:=[900000,900001,900002,900003,900004,900005,900006,900007]) (fun r19 hr19=>fr [(900000,900000),(900001,900001),(900002,900002),(900003,900003),(900004,900004),(900005,900005),(900006,900006),(900007,900007)] [900000,900001,900002,900003,900004,900005,900006,900007] (zGg fu (c4.1.length) 60 k2 c3 (c4.1,true) c5 l6 c7 c8 l9 l10 l11 l12 _ hr19)) zKv Z Z Z Z Z Z Z Z fun r19 hr19=>pq 1 Z (ns ?_)))
        refine zEk 900000 [.own 900001,.own 900002,.sel 2 [.loc 900000 1,.ela 900001 5 (c4.1.length) 2,.ela 900001 5 (c4.1.length) 3,.ela 900003 2 (c7.1.length) 1],Y r19.2] Z ⟨.rfl,.rfl,(.sel Z Z),.rfl,trivial⟩ Z ?_
        exact rN
       ·refine sr (zTm (zCb fu k2 c3 c4 c5 c7 c8 l9 l10 l11 l12 r13) (fun (_:Unit)=>[(0,.loc 900000 0),(5,D r13.1),(6,D r13.2.1),(7,O r13.2.2),(8,.ela 900001 5 (c4.1.length) 0)]) (fun (_:Unit)=>[(900000,.box 80 [.own 900001,.own 900002,.sel k2 [.loc 900000 1,.ela 900001 5 (c4.1.length) 2,.ela 900001 5 (c4.1.length) 3,.ela 900003 2 (c7.1.length) 1],Y c3]),(900001,.box 51 [pfx 5 (c4.1.map zAM) true,O c5,.own 900004,.own 900005,.own 900006,.own 900003]),(900002,.arr 43 7 (l6.map cOp)),(900003,.box 54 [pfx 2 (c7.1.map zAP) c7.2,Y c8,.own 900007]),(900004,.arr 9 1 (l9.map cStr)),(900005,.arr 43 7 (l10.map cOp)),(900006,.arr 43 7 (l11.map cOp)),(900007,.arr 43 7 (l12.map cOp))]) ?_ fun hj2=>?_)
        ·rintro _
         refine sr (pq 3 Z (zAF (j:=143) Z ?_ ?_))
         ·refine pq 3 Z (ns (zAH Z ?_ ?_))
          ·refine sr (zI8 (enc:=fun (r21:(List Bs))=>.sl 1 false (r21.map cStr)) (qs:=[]) (zHF fu) Z Z trivial (fun _=>Z) zUS Z Z fun r21 hr21=>pq 1 Z (pc (zE6 fu r21 r13.2.1) zUU Z Z Z Z fun r22 hr22=>pq 1 Z (ns (zAD (sr (pq 3 Z (zAF (j:=151) Z ?_ ?_)))))))
           ·refine pq 7 Z (zAE (zAA (zAQ Z ?_)))
            exact sr (pq 1 Z (ns rN))
           ·refine pq 3 Z ?_
            refine zCo (T:=tab) (by simp) Z Z Z Z Z Z Z Z ?_
            refine zFz (T:=tab) (l:=c7.1.length) Z Z Z Z Z Z Z (by simp) Z Z (pq 2 Z (ns (zAH Z ?_ ?_)))
            ·exact sr (pq 1 Z (ns rN))
            ·refine zAB (zAA (sr (pq 4 Z ?_)))
             refine zCo (T:=tab) (by simp) Z Z Z Z Z Z Z Z ?_
             refine pq 1 Z (zA4 (T:=tab) Z Z Z Z Z Z Z ?_)
             refine zBu (T:=tab) (rows:=[[Y r22,.v (.slice none 0 0)]]) 166 Z Z Z Z Z Z Z Z Z Z Z Z Z Z ?_
             refine zCr 900007 Z Z Z (zRz 900003 zAP c7.1 (⟨c8,l12⟩:Hook) Z Z Z Z (zIm (T:=tab) ((c7.1++if c7.2 then [(⟨c8,l12⟩:Hook)] else []).map zAP) [[Y r22,.v (.slice none 0 0)]] (c7.1++if c7.2 then [(⟨c8,l12⟩:Hook)] else []).length (by simp) Z Z Z Z Z Z Z Z Z Z Z Z Z Z Z Z Z Z Z Z (zPF 900003 Z Z Z (zEj 900007 43 7 900003 2 Z Z Z Z Z Z (pq 2 Z ?_)))))
             refine zFW (T:=tab) (by simp) Z Z Z Z Z Z Z Z Z Z Z Z ?_
             refine ns (zAD (su [(0,.loc 900000 0),(8,.ela 900001 5 (c4.1.length) 0)] [(900007,.arr 43 7 (([]:List Op).map cOp)),(900003,.box 54 [pfx 2 ((c7.1++if c7.2 then [(⟨c8,l12⟩:Hook)] else []).map zAP) true,Y r22,.own 900007]),(900000,.box 80 [.own 900001,.own 900002,.junk,Y c3]),(900001,.box 51 [pfx 5 (c4.1.map zAM) true,O c5,.own 900004,.own 900005,.own 900006,.own 900003]),(900002,.arr 43 7 (l6.map cOp)),(900004,.arr 9 1 (l9.map cStr)),(900005,.arr 43 7 (l10.map cOp)),(900006,.arr 43 7 (l11.map cOp))] (zBB [0,0,2,6,14,0,32,96,224,480,992,2046,4094,8191,16383] mixed (by kernel_rfl) (by kernel_rfl) Z Z (ve [0] [340] [900000] [(170,.loc 900000 0)] ?_))))
             refine ve [16] [342] [900001] [(171,.ela 900001 5 (c4.1.length) 0)] ?_
             refine ve [342] [344] [900001] [(172,.ela 900001 5 (c4.1.length) 0)] ?_
             refine ve [344] [346] [900001] [(173,.ela 900001 5 (c4.1.length) 4)] ?_
             refine vs [346,1800003] [348] [] [900001,900003,900004,900005,900006] [900001] [(174,.own 900003)] [(900001,.box 51 [pfx 5 (c4.1.map zAM) true,O c5,.own 900004,.own 900005,.own 900006,.own 900003])] Z Z (fun w0 X X0 σ0 _=>by refine zCo (T:=tab) (by simp) Z Z Z Z Z Z Z Z ?_;exact py) ?_
             refine ve [16] [350] [900001] [(175,.ela 900001 5 (c4.1.length) 0)] ?_
             refine ve [350] [352] [900001] [(176,.ela 900001 5 (c4.1.length) 0)] ?_
             refine ve [352] [354] [900001] [(177,.ela 900001 5 (c4.1.length) 4)] ?_
             refine vs [354,1800003] [356] [] [900001,900003,900004,900005,900006] [900001] [(178,.own 900003)] [(900001,.box 51 [pfx 5 (c4.1.map zAM) true,O c5,.own 900004,.own 900005,.own 900006,.own 900003])] Z Z (fun w0 X X0 σ0 _=>by refine zCo (T:=tab) (by simp) Z Z Z Z Z Z Z Z ?_;exact py) ?_
             refine vs [356,1800007] [358] [] [900003,900007] [900003] [(179,Y (((c7.1++if c7.2 then [(⟨c8,l12⟩:Hook)] else []).length+(if true then 1 else 0):Nat):Int))] [(900003,.box 54 [pfx 2 ((c7.1++if c7.2 then [(⟨c8,l12⟩:Hook)] else []).map zAP) true,Y r22,.own 900007])] Z Z (fun w0 X X0 σ0 _=>by refine zFz (T:=tab) (l:=(c7.1++if c7.2 then [(⟨c8,l12⟩:Hook)] else []).length) Z Z Z Z Z Z Z (by simp) Z Z ?_;exact py) ?_
             refine vt (rng .i64 ((((c7.1++if c7.2 then [(⟨c8,l12⟩:Hook)] else []).length+(if true then 1 else 0):Nat):Int) - 1)) [(360,[])] [358] [360] [] [] [] (fun i23=>[(180,Y i23)]) (fun i23=>[]) Z Z (fun _=>Z) (fun w0 X X0 σ0 _=>by refine zAI (T:=tab) Z Z Z Z fun i23 hi23=>?_;exact pz) fun i23 hi23=>?_
             refine vt (zKm ((c7.1++if c7.2 then [(⟨c8,l12⟩:Hook)] else []).length) i23) [(362,[900003])] [348,360,1800007] [362] [] [900003,900007] [900003] (fun _=>[(181,.ela 900003 2 ((c7.1++if c7.2 then [(⟨c8,l12⟩:Hook)] else []).length) 0)]) (fun _=>[(900003,.box 54 [pfx 2 ((c7.1++if c7.2 then [(⟨c8,l12⟩:Hook)] else []).map zAP) true,Y r22,.own 900007])]) Z Z (fun _=>Z) (fun w0 X X0 σ0 _=>by refine zI9 (T:=tab) (l:=((c7.1++if c7.2 then [(⟨c8,l12⟩:Hook)] else []).length)) (by simp) Z Z Z Z Z Z Z Z ?_;exact pz) fun _ h0=>?_
             refine ve [362] [364] [900003] [(182,.ela 900003 2 ((c7.1++if c7.2 then [(⟨c8,l12⟩:Hook)] else []).length) 1)] ?_
             refine vt (zAh fu 60) [(366,[]),(1800001,[900001,900002,900003])] [340,364,1800001,1800003,1800005,1800007,1800009,1800011,1800013,1800015] [366,1800001] [] [900000,900001,900002,900003,900004,900005,900006,900007] [900001,900002,900003,900004,900005,900006,900007] (fun r24=>[(183,O r24.1)]) (fun r24=>[(900000,.box 80 [.own 900001,.own 900002,.ela 900003 2 ((c7.1++if c7.2 then [(⟨c8,l12⟩:Hook)] else []).length) 1,Y r24.2]),(900001,.box 51 [pfx 5 (c4.1.map zAM) true,O c5,.own 900004,.own 900005,.own 900006,.own 900003]),(900002,.arr 43 7 (l6.map cOp)),(900003,.box 54 [pfx 2 ((c7.1++if c7.2 then [(⟨c8,l12⟩:Hook)] else []).map zAP) true,Y r22,.own 900007]),(900004,.arr 9 1 (l9.map cStr)),(900005,.arr 43 7 (l10.map cOp)),(900006,.arr 43 7 (l11.map cOp)),(900007,.arr 43 7 (([]:List Op).map cOp))]) Z Z (fun _=>Z) (fun w0 X X0 σ0 _=>by refine tu [] (enc:=fun (r24:(Bool×Int))=>O r24.1) (Sr:=fun (r24:(Bool×Int))=>[(900000,.box 80 [.own 900001,.own 900002,.ela 900003 2 ((c7.1++if c7.2 then [(⟨c8,l12⟩:Hook)] else []).length) 1,Y r24.2]),(900003,.box 54 [pfx 2 ((c7.1++if c7.2 then [(⟨c8,l12⟩:Hook)] else []).map zAP) true,Y r22,.own 900007]),(900001,.box 51 [pfx 5 (c4.1.map zAM) true,O c5,.own 900004,.own 900005,.own 900006,.own 900003]),(900002,.arr 43 7 (l6.map cOp)),(900007,.arr 43 7 (([]:List Op).map cOp)),(900004,.arr 9 1 (l9.map cStr)),(900005,.arr 43 7 (l10.map cOp)),(900006,.arr 43 7 (l11.map cOp))]) (qs:=[.loc 900000 0,.ela 900003 2 ((c7.1++if c7.2 then [(⟨c8,l12⟩:Hook)] else []).length) 1,Y 60]) (Sc:=[(900000,.box 80 [.own 900001,.own 900002,.junk,Y c3]),(900003,.box 54 [pfx 2 ((c7.1++if c7.2 then [(⟨c8,l12⟩:Hook)] else []).map zAP) true,Y r22,.own 900007]),(900001,.box 51 [pfx 5 (c4.1.map zAM) true,O c5,.own 900004,.own 900005,.own 900006,.own 900003]),(900002,.arr 43 7 (l6.map cOp)),(900007,.arr 43 7 (([]:List Op).map cOp)),(900004,.arr 9 1 (l9.map cStr)),(900005,.arr 43 7 (l10.map cOp)),(900006,.arr 43 7 (l11.map cOp))]) (N1:=[900000,900003,900001,900002,900007,900004,900005,900006]) (NR:=[900000,900003,900001,900002,900007,900004,900005,900006]) (fun r24 hr24=>fr [(900000,900000),(900001,900003),(900002,900001),(900003,900002),(900004,900007),(900005,900004),(900006,900005),(900007,900006)] [900000,900001,900002,900003,900004,900005,900006,900007] (zGh fu ((c7.1++if c7.2 then [(⟨c8,l12⟩:Hook)] else []).length) 60 c3 ((c7.1++if c7.2 then [(⟨c8,l12⟩:Hook)] else []),true) r22 (c4.1,true) c5 l6 ([]:List Op) l9 l10 l11 _ hr24)) zKv Z Z Z Z Z Z Z Z fun r24 hr24=>?_;exact pz) fun r24 hr24=>?_
             refine ve [366] [8] [] [(4,O r24.1)] ?_
             refine zBf Z Z (zAA ?_)
             refine zEk 900000 [.own 900001,.own 900002,.sel 3 [.loc 900000 1,.ela 900001 5 (c4.1.length) 2,.ela 900001 5 (c4.1.length) 3,.ela 900003 2 ((c7.1++if c7.2 then [(⟨c8,l12⟩:Hook)] else []).length) 1],Y r24.2] Z ⟨.rfl,.rfl,(.sel Z Z),.rfl,trivial⟩ Z ?_
             exact rN
          ·exact zAB (zAK (zAA (sr (pq 1 Z (ns rN)))))
         ·refine pq 3 Z (zAE (zAA (zAZ Z ?_)))
          exact zAB (zAK (zAA (sr (pq 1 Z (ns rN)))))
        ·refine pq 3 Z (zAF (j:=107) Z ?_ ?_)
         ·refine pq 3 Z (ns (zAH Z ?_ ?_))
          ·refine sr (pq 1 Z (pc (zJ3 fu r13.2.1) zUY Z Z Z Z fun r20 hr20=>pq 5 Z (ns (zAD (sr (pq 3 Z (zAF (j:=117) Z ?_ ?_)))))))
           ·refine pq 12 Z (zAE (zAA (zAQ Z ?_)))
            exact sr (pq 1 Z (ns rN))
           ·refine pq 5 Z (zAF (j:=122) Z ?_ ?_)
            ·refine pq 7 Z (zAE (zAA (zAQ Z ?_)))
             exact sr (pq 1 Z (ns rN))
            ·refine pq 3 Z ?_
             refine zCo (T:=tab) (by simp) Z Z Z Z Z Z Z Z ?_
             refine zDK (T:=tab) cStr l9 Z Z Z Z Z Z Z Z Z (pq 2 Z (ns (zAH Z ?_ ?_)))
             ·exact sr (pq 1 Z (ns rN))
             ·refine zAB (zAA (sr (pq 4 Z ?_)))
              refine zCo (T:=tab) (by simp) Z Z Z Z Z Z Z Z ?_
              refine pq 1 Z ?_
              refine zBu (T:=tab) (rows:=[r13.2.1].map cStr) 136 Z Z Z Z Z Z Z Z Z Z Z Z Z Z ?_
              refine zAv (T:=tab) cStr l9 ([r13.2.1]:List Bs) Z Z Z Z Z Z Z Z Z Z Z Z Z Z (zLg _) Z Z Z Z Z ?_
              refine pq 2 Z ?_
              refine zFW (T:=tab) (by simp) Z Z Z Z Z Z Z Z Z Z Z Z ?_
              exact ns (sr (pq 1 Z (ns rN)))
          ·exact zKd (hj2 ()) ⟨Z,Z,Z,Z,Z,trivial⟩ ⟨Z,Z,Z,Z,Z,Z,Z,Z,trivial⟩ Z
         ·refine pq 3 Z (zAE (zAA (zAZ Z ?_)))
          exact zKd (hj2 ()) ⟨Z,Z,Z,Z,Z,trivial⟩ ⟨Z,Z,Z,Z,Z,Z,Z,Z,trivial⟩ Z
def zAk (_fu:Nat) (s1:Bs) (prefix2:Bs):Option Bool:=cnd (decide (((s1.length:Nat):Int)>=((prefix2.length:Nat):Int))) (bnd (zC3 s1 0 ((prefix2.length:Nat):Int)) fun s3=>some (s3==prefix2)) (some false)
theorem zDV (fu:Nat) (s1:Bs) (prefix2:Bs):∀r,zAk fu s1 prefix2=some r->DC zAf Tryz.prog 108 [D s1,D prefix2] (O r):=by
 refine fcI Tryz.func108 Z fun w0 X X0 σ0 _=>sr (pq 1 Z (ns (sr (pq 6 Z (zAF (j:=10) Z ?_ ?_)))))
 ·exact pq 3 Z (zGE (T:=tab) Z Z Z Z Z Z Z Z fun s3 hs3=>pq 4 Z (ns rN))
 ·exact pq 8 Z (ns rN)
def zBa (fu:Nat) (s1:Bs) (prefix2:Bs):Option (Bs×Bool):=bnd (zAk fu s1 prefix2) fun r3=>cnd (!r3) (some (s1,false)) (bnd (zC3 s1 ((prefix2.length:Nat):Int) ((s1.length:Nat):Int)) fun s4=>some (s4,true))
theorem zEw (fu:Nat) (s1:Bs) (prefix2:Bs):∀r,zBa fu s1 prefix2=some r->DC zAf Tryz.prog 83 [D s1,D prefix2] (.tup [D r.1,O r.2]):=by
 refine fcI Tryz.func83 Z fun w0 X X0 σ0 _=>sr (pq 2 Z (ns (zAD (sr (pq 2 Z (pc (zDV fu s1 prefix2) zQh Z Z Z Z fun r3 hr3=>pq 1 Z (ns (zAH Z ?_ ?_))))))))
 ·exact sr (pq 3 Z (ns rN))
 ·exact zAB (zAA (sr (pq 3 Z (zGE (T:=tab) Z Z Z Z Z Z Z Z fun s4 hs4=>pq 2 Z (ns rN)))))
def zAR (fu:Nat) (s1:Bs) (prefix2:Bs):Option (Bs×Bool):=bnd (zBa fu s1 prefix2) fun r3=>some (r3.1,r3.2)
theorem zEV (fu:Nat) (s1:Bs) (prefix2:Bs):∀r,zAR fu s1 prefix2=some r->DC zAf Tryz.prog 46 [D s1,D prefix2] (.tup [D r.1,O r.2]):=by
 exact fcI Tryz.func46 Z fun w0 X X0 σ0 _=>sr (pq 2 Z (ns (sr (pq 2 Z (pc (zEw fu s1 prefix2) call83 Z Z Z Z fun r3 hr3=>pq 4 Z (ns rN))))))
def zHe (fu:Nat):Option (List Bs):=bnd (zJj fu ([45,32,110,101,119,32,100,114,97,102,116,32,116,101,120,116,32,102,114,97,103,32,115,104,97,100,101,32,112,117,116,32,111,117,116,32,115,119,97,112,32,115,101,116,32,117,110,115,101,116,32,116,111,103,103,108,101,32,99,111,112,121,32,116,97,107,101,32,101,109,112,116,121,32,106,111,105,110,32,100,101,102,105,110,101,32,119,97,105,116,32,117,112,103,114,97,100,101,32,98,117,105,108,100,32,115,117,112,101,114,32,103,105,118,101,32,116,104,114,111,119,32,114,101,115,101,116,32,114,101,115,116,111,114,101,32,114,101,115,116,32,104,97,110,100,112,117,116,32,104,97,110,100,111,117,116,32,104,97,110,100,115,101,116]:Bs)) fun r1=>some r1
theorem zJ7 (fu:Nat):∀r,zHe fu=some r->DC zAf Tryz.prog 49 [] (.sl 1 false (r.map cStr)):=by
 exact fcI Tryz.func49 Z fun w0 X X0 σ0 _=>sr (pq 1 Z (ns (sr (pc (zMj fu ([45,32,110,101,119,32,100,114,97,102,116,32,116,101,120,116,32,102,114,97,103,32,115,104,97,100,101,32,112,117,116,32,111,117,116,32,115,119,97,112,32,115,101,116,32,117,110,115,101,116,32,116,111,103,103,108,101,32,99,111,112,121,32,116,97,107,101,32,101,109,112,116,121,32,106,111,105,110,32,100,101,102,105,110,101,32,119,97,105,116,32,117,112,103,114,97,100,101,32,98,117,105,108,100,32,115,117,112,101,114,32,103,105,118,101,32,116,104,114,111,119,32,114,101,115,101,116,32,114,101,115,116,111,114,101,32,114,101,115,116,32,104,97,110,100,112,117,116,32,104,97,110,100,111,117,116,32,104,97,110,100,115,101,116]:Bs)) zUc Z Z Z Z fun r1 hr1=>pq 1 Z (ns rN)))))
def zDW (fu:Nat) (kind1:Int):Option Bs:=bnd (zHe fu) fun r2=>cnd (decide (kind1>0)) (cnd (decide (kind1<((r2.length:Nat):Int))) (bnd (idx r2 kind1) fun y3=>some y3) (some [])) (some [])
theorem zDi (fu:Nat) (kind1:Int):∀r,zDW fu kind1=some r->DC zAf Tryz.prog 85 [Y kind1] (D r):=by
 refine fcI Tryz.func85 Z fun w0 X X0 σ0 _=>sr (pq 1 Z (ns (zAD (sr (zI8 (enc:=fun (r2:(List Bs))=>.sl 1 false (r2.map cStr)) (qs:=[]) (zJ7 fu) Z Z trivial (fun _=>Z) zUV Z Z fun r2 hr2=>pq 1 Z (ns (sr (pq 3 Z (zAF (j:=7) Z ?_ ?_)))))))))
 ·refine pq 2 Z (zAm (T:=tab) cStr r2 Z Z Z Z Z Z Z Z (pq 2 Z (ns (zAH Z ?_ ?_))))
  ·exact sr (pq 2 Z (zCN (T:=tab) cStr r2 Z Z Z Z Z Z Z fun y3 hy3=>pq 2 Z (ns rN)))
  ·exact zAB (zAA (sr (pq 1 Z (ns rN))))
 ·refine pq 5 Z (zAE (zAA (zAZ Z ?_)))
  exact zAB (zAA (sr (pq 1 Z (ns rN))))
def zEp (fu:Nat) (kind1:Int) (t14:Bool):Option (Op_form×Bool):=cnd t14 (bnd (zDW fu kind1) fun r15=>some ((⟨r15,[46,46,46,46,46]⟩:Op_form),true)) (bnd (zDW fu kind1) fun r16=>cnd (decide (kind1>0)) (some ((⟨r16,[110,46,46,46,46]⟩:Op_form),(decide (kind1<=28)))) (some ((⟨r16,[110,46,46,46,46]⟩:Op_form),false)))
def zEo (fu:Nat) (kind1:Int) (t6:Bool):Option (Op_form×Bool):=cnd t6 (bnd (zDW fu kind1) fun r7=>some ((⟨r7,[110,110,111,46,46]⟩:Op_form),true)) (cnd (kind1==11) (bnd (zDW fu kind1) fun r8=>some ((⟨r8,[110,105,46,115,46]⟩:Op_form),true)) (cnd (kind1==12) (bnd (zDW fu kind1) fun r9=>some ((⟨r9,[110,105,110,46,46]⟩:Op_form),true)) (cnd (kind1==13) (bnd (zDW fu kind1) fun r10=>some ((⟨r10,[110,110,46,46,46]⟩:Op_form),true)) (cnd (kind1==16) (bnd (zDW fu kind1) fun r11=>some ((⟨r11,[105,46,46,115,115]⟩:Op_form),true)) (cnd (kind1==17) (bnd (zDW fu kind1) fun r12=>some ((⟨r12,[46,46,46,115,46]⟩:Op_form),true)) (cnd (kind1==19) (bnd (zDW fu kind1) fun r13=>some ((⟨r13,[105,46,46,46,46]⟩:Op_form),true)) (cnd (kind1==20) ((zEp fu kind1) (kind1==20)) (cnd (kind1==22) ((zEp fu kind1) (kind1==22)) ((zEp fu kind1) (kind1==25))))))))))
def zEn (fu:Nat) (kind1:Int) (t4:Bool):Option (Op_form×Bool):=cnd t4 (bnd (zDW fu kind1) fun r5=>some ((⟨r5,[110,46,46,115,46]⟩:Op_form),true)) (cnd (kind1==6) ((zEo fu kind1) (kind1==6)) (cnd (kind1==8) ((zEo fu kind1) (kind1==8)) ((zEo fu kind1) (kind1==26))))
def zD7 (fu:Nat) (kind1:Int) (t2:Bool):Option (Op_form×Bool):=cnd t2 (bnd (zDW fu kind1) fun r3=>some ((⟨r3,[110,46,46,115,115]⟩:Op_form),true)) (cnd (kind1==3) ((zEn fu kind1) (kind1==3)) (cnd (kind1==10) ((zEn fu kind1) (kind1==10)) ((zEn fu kind1) (kind1==24))))
def zEe (fu:Nat) (kind1:Int):Option (Op_form×Bool):=cnd (kind1==1) ((zD7 fu kind1) (kind1==1)) (cnd (kind1==2) ((zD7 fu kind1) (kind1==2)) (cnd (kind1==9) ((zD7 fu kind1) (kind1==9)) ((zD7 fu kind1) (kind1==28))))
theorem zHE (fu:Nat) (kind1:Int):∀r,zEe fu kind1=some r->DC zAf Tryz.prog 50 [Y kind1] (.tup [.agg (zS6 r.1),O r.2]):=by
 refine fcI Tryz.func50 Z fun w0 X X0 σ0 _=>sr (zAs (T:=tab) 2 Z Z Z Z Z Z Z Z Z (pq 1 Z (ns (zAD (sr (pq 1 Z (ns (zAL (zAD (sr (pq 2 Z (ns (zBi (zD7 fu kind1) (fun (t2:Bool)=>[(0,Y kind1),(2,.loc 2 0),(4,Y kind1),(5,O t2)]) (fun (t2:Bool)=>[(2,.box 101 [D [],D []])]) ?_ fun hj1=>?_)))))))))))))
 ·rintro t2
  refine zAA (zAH Z ?_ ?_)
  ·exact sr (pq 1 Z (pc (zDi fu kind1) zHJ Z Z Z Z fun r3 hr3=>zA4 (T:=tab) Z Z Z Z Z Z Z (zAG (T:=tab) Z Z Z Z Z Z Z Z Z Z Z Z (pq 1 Z (ns rN)))))
  ·refine zAD (sr (pq 2 Z (ns (zBi (zEn fu kind1) (fun (t4:Bool)=>[(0,Y kind1),(2,.loc 2 0),(4,Y kind1),(13,O t4)]) (fun (t4:Bool)=>[(2,.box 101 [D [],D []])]) ?_ fun hj2=>?_))))
   ·rintro t4
    refine zAA (zAH Z ?_ ?_)
    ·exact sr (pq 1 Z (pc (zDi fu kind1) zHJ Z Z Z Z fun r5 hr5=>zA4 (T:=tab) Z Z Z Z Z Z Z (zAG (T:=tab) Z Z Z Z Z Z Z Z Z Z Z Z (pq 1 Z (ns rN)))))
    ·refine zAD (sr (pq 2 Z (ns (zBi (zEo fu kind1) (fun (t6:Bool)=>[(0,Y kind1),(2,.loc 2 0),(4,Y kind1),(20,O t6)]) (fun (t6:Bool)=>[(2,.box 101 [D [],D []])]) ?_ fun hj3=>?_))))
     ·rintro t6
      refine zAA (zAH Z ?_ ?_)
      ·exact sr (pq 1 Z (pc (zDi fu kind1) zHJ Z Z Z Z fun r7 hr7=>zA4 (T:=tab) Z Z Z Z Z Z Z (zAG (T:=tab) Z Z Z Z Z Z Z Z Z Z Z Z (pq 1 Z (ns rN)))))
      ·refine sr (pq 2 Z (ns (zAH Z ?_ ?_)))
       ·exact sr (pq 1 Z (pc (zDi fu kind1) zHJ Z Z Z Z fun r8 hr8=>zA4 (T:=tab) Z Z Z Z Z Z Z (zAG (T:=tab) Z Z Z Z Z Z Z Z Z Z Z Z (pq 1 Z (ns rN)))))
       ·refine sr (pq 2 Z (ns (zAH Z ?_ ?_)))
        ·exact sr (pq 1 Z (pc (zDi fu kind1) zHJ Z Z Z Z fun r9 hr9=>zA4 (T:=tab) Z Z Z Z Z Z Z (zAG (T:=tab) Z Z Z Z Z Z Z Z Z Z Z Z (pq 1 Z (ns rN)))))
        ·refine sr (pq 2 Z (ns (zAH Z ?_ ?_)))
         ·exact sr (pq 1 Z (pc (zDi fu kind1) zHJ Z Z Z Z fun r10 hr10=>zA4 (T:=tab) Z Z Z Z Z Z Z (zAG (T:=tab) Z Z Z Z Z Z Z Z Z Z Z Z (pq 1 Z (ns rN)))))
         ·refine sr (pq 2 Z (ns (zAH Z ?_ ?_)))
          ·exact sr (pq 1 Z (pc (zDi fu kind1) zHJ Z Z Z Z fun r11 hr11=>zA4 (T:=tab) Z Z Z Z Z Z Z (zAG (T:=tab) Z Z Z Z Z Z Z Z Z Z Z Z (pq 1 Z (ns rN)))))
          ·refine sr (pq 2 Z (ns (zAH Z ?_ ?_)))
           ·exact sr (pq 1 Z (pc (zDi fu kind1) zHJ Z Z Z Z fun r12 hr12=>zA4 (T:=tab) Z Z Z Z Z Z Z (zAG (T:=tab) Z Z Z Z Z Z Z Z Z Z Z Z (pq 1 Z (ns rN)))))
           ·refine sr (pq 2 Z (ns (zAH Z ?_ ?_)))
            ·exact sr (pq 1 Z (pc (zDi fu kind1) zHJ Z Z Z Z fun r13 hr13=>zA4 (T:=tab) Z Z Z Z Z Z Z (zAG (T:=tab) Z Z Z Z Z Z Z Z Z Z Z Z (pq 1 Z (ns rN)))))
            ·refine zAD (sr (pq 2 Z (ns (zBi (zEp fu kind1) (fun (t14:Bool)=>[(0,Y kind1),(2,.loc 2 0),(57,O t14)]) (fun (t14:Bool)=>[(2,.box 101 [D [],D []])]) ?_ fun hj4=>?_))))
             ·rintro t14
              refine zAA (zAH Z ?_ ?_)
              ·exact sr (pq 1 Z (pc (zDi fu kind1) zHJ Z Z Z Z fun r15 hr15=>zA4 (T:=tab) Z Z Z Z Z Z Z (zAG (T:=tab) Z Z Z Z Z Z Z Z Z Z Z Z (pq 1 Z (ns rN)))))
              ·refine zAB (zAK (zAA (sr (pq 1 Z (pc (zDi fu kind1) zHJ Z Z Z Z fun r16 hr16=>zA4 (T:=tab) Z Z Z Z Z Z Z (pq 3 Z (zAF (j:=69) Z ?_ ?_)))))))
               ·exact pq 3 Z (zAG (T:=tab) Z Z Z Z Z Z Z Z Z Z Z Z (pq 1 Z (ns rN)))
               ·exact pq 3 Z (zAG (T:=tab) Z Z Z Z Z Z Z Z Z Z Z Z (pq 1 Z (ns rN)))
             ·refine zAH Z ?_ ?_
              ·exact zAB (ps (hj4 (kind1==20)))
              ·refine sr (pq 2 Z (ns (zAH Z ?_ ?_)))
               ·exact zAB (ps (hj4 (kind1==22)))
               ·exact zAC (pq 2 Z (zAE (ps (hj4 (kind1==25)))))
     ·refine zAH Z ?_ ?_
      ·exact zAB (ps (hj3 (kind1==6)))
      ·refine sr (pq 2 Z (ns (zAH Z ?_ ?_)))
       ·exact zAB (ps (hj3 (kind1==8)))
       ·exact zAC (pq 2 Z (zAE (ps (hj3 (kind1==26)))))
   ·refine zAH Z ?_ ?_
    ·exact zAB (ps (hj2 (kind1==3)))
    ·refine sr (pq 2 Z (ns (zAH Z ?_ ?_)))
     ·exact zAB (ps (hj2 (kind1==10)))
     ·exact zAC (pq 2 Z (zAE (ps (hj2 (kind1==24)))))
 ·refine zAH Z ?_ ?_
  ·exact zAB (ps (hj1 (kind1==1)))
  ·refine sr (pq 2 Z (ns (zAH Z ?_ ?_)))
   ·exact zAB (ps (hj1 (kind1==2)))
   ·refine sr (pq 2 Z (ns (zAH Z ?_ ?_)))
    ·exact zAB (ps (hj1 (kind1==9)))
    ·exact zAC (pq 2 Z (zAE (ps (hj1 (kind1==28)))))
def zD8 (_fu:Nat):Option Unit:=some ()
theorem zGs (fu:Nat) (c1:Op):∀r,zD8 fu=some r->FC zAf Tryz.prog 51 [.loc 900000 0] [(900000,.box 43 [Y c1.Kind,Y c1.A,Y c1.B,Y c1.C,D c1.S,D c1.T,O c1.Must])] [900000] fun p S'=>p=.bsl 12 3/\S'=[(900000,.box 43 [Y c1.Kind,Y c1.A,Y c1.B,Y c1.C,D c1.S,D c1.T,O c1.Must]),(12,.box 107 [.loc 900000 1,.loc 900000 2,.loc 900000 3])]:=by
 refine fcI Tryz.func51 Z fun w0 X X0 σ0 _=>sr (pq 1 Z (ns (zAD (su [(0,.loc 900000 0)] [(900000,.box 43 [Y c1.Kind,Y c1.A,Y c1.B,Y c1.C,D c1.S,D c1.T,O c1.Must])] (zBB [0,1,3,0,8,24,0,64,192,511,1023] mixed (by kernel_rfl) (by kernel_rfl) Z Z (ve [0] [6] [900000] [(3,.loc 900000 0)] ?_))))))
 refine ve [6] [8] [900000] [(4,.loc 900000 0)] ?_
 refine ve [8] [10] [900000] [(5,.loc 900000 1)] ?_
 refine ve [0] [12] [900000] [(6,.loc 900000 0)] ?_
 refine ve [12] [14] [900000] [(7,.loc 900000 0)] ?_
 refine ve [14] [16] [900000] [(8,.loc 900000 2)] ?_
 refine ve [0] [18] [900000] [(9,.loc 900000 0)] ?_
 refine ve [18] [20] [900000] [(10,.loc 900000 0)] ?_
 refine ve [20] [22] [900000] [(11,.loc 900000 3)] ?_
 refine vs [10,16,22,1800001] [24,25] [12] [900000] [900000] [(12,.bsl 12 3)] [(12,.box 107 [.loc 900000 1,.loc 900000 2,.loc 900000 3]),(900000,.box 43 [Y c1.Kind,Y c1.A,Y c1.B,Y c1.C,D c1.S,D c1.T,O c1.Must])] Z Z (fun w0 X X0 σ0 _=>by refine zRy (T:=tab) 12 Z Z Z Z Z Z Z Z Z Z Z Z Z Z ?_;exact py) ?_
 refine ve [24] [4] [12] [(2,.bsl 12 3)] ?_
 exact zBf Z Z (zAA rN)
def zCn (fu:Nat) (field1:Int) (w2:Bs) (x_:Unit):Option (Int×Bool):=bnd (zKB fu w2) fun r3=>cnd (!r3.2) (bnd (zK6 fu r3.1) fun r4=>cnd (r4==w2) (cnd (field1==105) (some (r3.1,true)) (some (r3.1,(decide (r3.1>=0))))) (some (r3.1,false))) (some (r3.1,false))
def zBz (fu:Nat) (field1:Int) (w2:Bs):Option (Int×Bool):=cnd (field1 != 105) (cnd (w2==([45]:Bs)) (some ((-1),(field1==111))) (cnd (w2==([115,101,108,102]:Bs)) (some ((-2),true)) (cnd (w2==([108,97,115,116]:Bs)) (some ((-3),true)) ((zCn fu field1 w2) ())))) ((zCn fu field1 w2) ())
theorem zFY (fu:Nat) (field1:Int) (w2:Bs):∀r,zBz fu field1 w2=some r->DC zAf Tryz.prog 52 [.v (.int .u8 field1),D w2] (.tup [Y r.1,O r.2]):=by
 refine fcI Tryz.func52 Z fun w0 X X0 σ0 _=>sr (pq 2 Z (ns (zAD (sr (pq 2 Z (ns (zBi (zCn fu field1 w2) (fun (_:Unit)=>[(0,.v (.int .u8 field1)),(1,D w2)]) (fun (_:Unit)=>[]) ?_ fun hj1=>?_)))))))
 ·rintro _
  refine zAA (sr (pq 1 Z (pc (zVA fu w2) call86 Z Z Z Z fun r3 hr3=>pq 5 Z (ns (sr (pq 2 Z (po_err Tryz.underlying122 Z Z Z Z Z Z (pq 1 Z (zAF (j:=27) Z ?_ ?_)))))))))
  ·refine pq 1 Z (pc (zRX fu r3.1) zUg Z Z Z Z fun r4 hr4=>pq 4 Z (zAF (j:=33) Z ?_ ?_))
   ·refine pq 3 Z (zAF (j:=36) Z ?_ ?_)
    ·exact pq 6 Z (ns rN)
    ·exact pq 6 Z (ns rN)
   ·exact pq 9 Z (ns rN)
  ·exact pq 15 Z (ns rN)
 ·refine zAH Z ?_ ?_
  ·refine sr (pq 1 Z (ns (zAL (sr (pq 2 Z (ns (zAH Z ?_ ?_)))))))
   ·exact sr (pq 4 Z (ns rN))
   ·refine sr (pq 2 Z (ns (zAH Z ?_ ?_)))
    ·exact sr (pq 2 Z (ns rN))
    ·refine sr (pq 2 Z (ns (zAH Z ?_ ?_)))
     ·exact sr (pq 2 Z (ns rN))
     ·exact zAB (zAK (ps (hj1 ())))
  ·exact zAB (ps (hj1 ()))
def zEP (_fu:Nat):Option Unit:=some ()
theorem zH9 (fu:Nat) (c1:Op):∀r,zEP fu=some r->FC zAf Tryz.prog 53 [.loc 900000 0] [(900000,.box 43 [Y c1.Kind,Y c1.A,Y c1.B,Y c1.C,D c1.S,D c1.T,O c1.Must])] [900000] fun p S'=>p=.bsl 9 2/\S'=[(900000,.box 43 [Y c1.Kind,Y c1.A,Y c1.B,Y c1.C,D c1.S,D c1.T,O c1.Must]),(9,.box 112 [.loc 900000 4,.loc 900000 5])]:=by
 refine fcI Tryz.func53 Z fun w0 X X0 σ0 _=>sr (pq 1 Z (ns (zAD (su [(0,.loc 900000 0)] [(900000,.box 43 [Y c1.Kind,Y c1.A,Y c1.B,Y c1.C,D c1.S,D c1.T,O c1.Must])] (zBB [0,1,3,0,8,24,63,127] mixed (by kernel_rfl) (by kernel_rfl) Z Z (ve [0] [6] [900000] [(3,.loc 900000 0)] ?_))))))
 refine ve [6] [8] [900000] [(4,.loc 900000 0)] ?_
 refine ve [8] [10] [900000] [(5,.loc 900000 4)] ?_
 refine ve [0] [12] [900000] [(6,.loc 900000 0)] ?_
 refine ve [12] [14] [900000] [(7,.loc 900000 0)] ?_
 refine ve [14] [16] [900000] [(8,.loc 900000 5)] ?_
 refine vs [10,16,1800001] [18,19] [9] [900000] [900000] [(9,.bsl 9 2)] [(9,.box 112 [.loc 900000 4,.loc 900000 5]),(900000,.box 43 [Y c1.Kind,Y c1.A,Y c1.B,Y c1.C,D c1.S,D c1.T,O c1.Must])] Z Z (fun w0 X X0 σ0 _=>by refine zRy (T:=tab) 9 Z Z Z Z Z Z Z Z Z Z Z Z Z Z ?_;exact py) ?_
 refine ve [18] [4] [9] [(2,.bsl 9 2)] ?_
 exact zBf Z Z (zAA rN)
def zCS (fu:Nat) (s1:Bs) (prefix2:Bs):Option Bool:=bnd (zAk fu s1 prefix2) fun r3=>some r3
theorem zHv (fu:Nat) (s1:Bs) (prefix2:Bs):∀r,zCS fu s1 prefix2=some r->DC zAf Tryz.prog 88 [D s1,D prefix2] (O r):=by
 exact fcI Tryz.func88 Z fun w0 X X0 σ0 _=>sr (pq 1 Z (ns (sr (pq 2 Z (pc (zDV fu s1 prefix2) zQh Z Z Z Z fun r3 hr3=>pq 1 Z (ns rN))))))
def zAp (_fu:Nat) (l1:(List Int)):Option Bs:=some (zEd l1)
theorem zGR (fu:Nat) (l1:(List Int)):∀r,zAp fu l1=some r->FC zAf Tryz.prog 30 [.loc 900000 0] [(900000,.box 62 [.nloc 900000 0,.ownb 900001]),(900001,.arr 5 1 (l1.map zAN))] [900000,900001] fun p S'=>p=D r/\S'=[(900000,.box 62 [.nloc 900000 0,.junk])]:=by
 refine fcI Tryz.func30 Z fun w0 X X0 σ0 _=>sr (pq 1 Z (ns (zAD (su [(0,.loc 900000 0)] [(900000,.box 62 [.nloc 900000 0,.ownb 900001]),(900001,.arr 5 1 (l1.map zAN))] (zBB [0,1,3,7,15,0,32,96,224,480,1023,2047] mixed (by kernel_rfl) (by kernel_rfl) Z Z (ve [0] [6] [900000] [(3,.loc 900000 0)] ?_))))))
 refine ve [6] [8] [900000] [(4,.loc 900000 0)] ?_
 refine ve [8] [10] [900000] [(5,.loc 900000 1)] ?_
 refine vf [10,1800001] [12] [] [900000,900001] [900000] [(6,.ownb 900001)] [(900000,.box 62 [.nloc 900000 0,.ownb 900001])] ?_
 refine vs [12,1800003] [14] [] [900001] [900001] [(7,.dat 900001)] [(900001,.arr 5 1 (l1.map zAN))] Z Z (fun w0 X X0 σ0 _=>by refine zHW Z Z Z Z Z Z ?_;exact py) ?_
 refine ve [0] [16] [900000] [(8,.loc 900000 0)] ?_
 refine ve [16] [18] [900000] [(9,.loc 900000 0)] ?_
 refine ve [18] [20] [900000] [(10,.loc 900000 1)] ?_
 refine vf [20,1800001] [22] [] [900000,900001] [900000] [(11,.ownb 900001)] [(900000,.box 62 [.nloc 900000 0,.ownb 900001])] ?_
 refine vs [22,1800003] [24,22] [] [900001] [900001] [(12,Y ((l1.length:Nat):Int)),(11,.own 900001)] [(900001,.arr 5 1 (l1.map zAN))] Z Z (fun w0 X X0 σ0 _=>by refine zJR 11 (q:=.own 900001) Z .ownb ?_;refine zDK (T:=tab) zAN l1 Z Z Z Z Z Z Z Z Z ?_;exact py) ?_
 refine vs [12,14,22,24,1800001,1800003] [26,12,14,22,1800001,1800003] [] [900000,900001] [] [(13,D (zEd l1)),(11,.sl 1 false (l1.map zAN))] [(900000,.box 62 [.nloc 900000 0,.junk])] Z Z (fun w0 X X0 σ0 _=>by refine zIJ zAN l1 (fun _=>Z) Z Z Z Z Z Z Z Tryz.underlying127 (by kernel_rfl) Z Z Z Z ?_;exact py) ?_
 refine ve [26] [4] [] [(2,D (zEd l1))] ?_
 exact zBf Z Z (zAA rN)
def zA1 (_fu:Nat):Option Unit:=some ()
theorem zFq (fu:Nat) (l1:(List Int)):∀r,zA1 fu=some r->FC zAf Tryz.prog 98 [.loc 900000 0] [(900000,.box 62 [.nloc 900000 0,.ownb 900001]),(900001,.arr 5 1 (l1.map zAN))] [900000,900001] fun p S'=>p=.tup []/\S'=[(900000,.box 62 [.nloc 900000 0,.ownb 900001]),(900001,.arr 5 1 (l1.map zAN))]:=by
 refine fcI Tryz.func98 Z fun w0 X X0 σ0 _=>sr (pq 3 Z (zKb 900000 0 Z Z Z Z Z Z ?_ ?_))
 ·exact pq 1 Z (zIo (T:=tab) Tryz.underlying59 Z Z Z Z Z Z Z Z (ns (zAQ Z (zAC (pq 2 Z (zII (T:=tab) Tryz.underlying59 Tryz.underlying160 Z Z Tryz.func120 Z Z Z Z Z Z Z Z Z (by kernel_rfl) Z Z Z Z Z Z Z Z Z Z Z (pq 2 Z (zAG (T:=tab) Z Z Z Z Z Z Z Z Z Z Z Z (zAE (zGW 900000 [.nloc 900000 0,.ownb 900001] Z ⟨.nloc1,.rfl,trivial⟩ Z (zFc (T:=tab) Z Z Z ⟨Z,Z⟩ ⟨Z,Z,trivial⟩ Z)))))))))))
 ·exact pq 1 Z (zIo (T:=tab) Tryz.underlying59 Z Z Z Z Z Z Z Z (ns (zAZ Z (sr (pq 5 Z (zIo (T:=tab) Tryz.underlying59 Z Z Z Z Z Z Z Z (ns (zAZ Z (zAB (zGW 900000 [.nloc 900000 0,.ownb 900001] Z ⟨.nloc1,.rfl,trivial⟩ Z (zFc (T:=tab) Z Z Z ⟨Z,Z⟩ ⟨Z,Z,trivial⟩ Z)))))))))))
def zBL (fu:Nat) (c1:Int) (l2:(List Int)):Option (Bool×(List Int)):=bnd (zA1 fu) fun r3=>bnd (zBr 1 (l2.length+([c1]:List Int).length)) fun _=>some (false,(l2++[c1]))
theorem zCt (fu:Nat) (c1:Int) (l2:(List Int)):∀r,zBL fu c1 l2=some r->FC zAf Tryz.prog 89 [.loc 900000 0,.v (.int .u8 c1)] [(900000,.box 62 [.nloc 900000 0,.ownb 900001]),(900001,.arr 5 1 (l2.map zAN))] [900000] fun p S'=>p=.err r.1/\S'=[(900000,.box 62 [.nloc 900000 0,.ownb 900001]),(900001,.arr 5 1 (r.2.map zAN))]:=by
 exact fcI Tryz.func89 Z fun w0 X X0 σ0 _=>sr (pq 1 Z (ns (sr (pq 1 Z (zFO (enc:=fun (r3:Unit)=>.tup []) (first:=[]) (cap:=[]) (qs:=[.loc 900000 0]) (Sc:=[(900000,.box 62 [.nloc 900000 0,.ownb 900001]),(900001,.arr 5 1 (l2.map zAN))]) (fun r3 hr3=>zK2 [(900000,900000),(900001,900001)] [900000,900001] (zFq fu l2 _ hr3) Z Z Z Z Z Z) (zCd ⟨Z,Z,trivial⟩ Z) Z Z Z Z ⟨⟨_,Z,.rfl⟩,trivial⟩ (fun _=>Z) zQw Z Z fun r3 hr3=>ns (sr (pq 6 Z (zBu (T:=tab) (rows:=[c1].map zAN) 13 Z Z Z Z Z Z Z Z Z Z Z Z Z Z (zJR 11 (q:=.own 900001) Z .ownb (zAv (T:=tab) zAN l2 ([c1]:List Int) Z Z Z Z Z Z Z Z Z Z Z Z Z Z (zNe _) Z Z Z Z Z (po_toB 900001 14 Z Z (by simp) (pq 2 Z (zAG (T:=tab) Z Z Z Z Z Z Z Z Z Z Z Z (ns (sr (pq 1 Z (ns (zSA 4 (q:=.err false) Z .err0 rN))))))))))))))))))
def zCX (fu:Nat) (s1:Bs):Nat->Int×(List Int)->Option (Bs×Bs×Bool)
 | 0,_=>none
 | k1+1,(i3,l4)=>cnd (decide (i3<((s1.length:Nat):Int))) (bnd (chr s1 i3) fun b5=>cnd (b5==34) (bnd (zAp fu l4) fun r6=>bnd (rng .i64 (i3+1)) fun i7=>bnd (zC3 s1 i7 ((s1.length:Nat):Int)) fun s8=>some (r6,s8,true)) (bnd (chr s1 i3) fun b9=>cnd (b9 != 92) (bnd (chr s1 i3) fun b17=>bnd (zBL fu b17 l4) fun r18=>bnd (rng .i64 (i3+1)) fun i23=>(zCX fu s1 k1) (i23,r18.2)) (bnd (rng .i64 (i3+1)) fun i10=>cnd (decide (i10<((s1.length:Nat):Int))) (bnd (rng .i64 (i3+1)) fun i11=>bnd (chr s1 i11) fun b12=>cnd (b12==34) (bnd (rng .i64 (i3+1)) fun i15=>bnd (chr s1 i15) fun b19=>bnd (zBL fu b19 l4) fun r20=>bnd (rng .i64 (i15+1)) fun i24=>(zCX fu s1 k1) (i24,r20.2)) (bnd (rng .i64 (i3+1)) fun i13=>bnd (chr s1 i13) fun b14=>cnd (b14==92) (bnd (rng .i64 (i3+1)) fun i16=>bnd (chr s1 i16) fun b21=>bnd (zBL fu b21 l4) fun r22=>bnd (rng .i64 (i16+1)) fun i25=>(zCX fu s1 k1) (i25,r22.2)) (some ([],[],false)))) (some ([],[],false))))) (some ([],[],false))
def zBY (fu:Nat) (s1:Bs):Option (Bs×Bs×Bool):=bnd (zCS fu s1 [34]) fun r2=>cnd (!r2) (some ([],[],false)) ((zCX fu s1) fu (1,[]))
theorem zHz (fu:Nat) (s1:Bs):∀r,zBY fu s1=some r->DC zAf Tryz.prog 54 [D s1] (.tup [D r.1,D r.2.1,O r.2.2]):=by
 refine fcI Tryz.func54 Z fun w0 X X0 σ0 _=>sr (pq 3 Z (ns (sr (zAs (T:=tab) 5 Z Z Z Z Z Z Z Z Z ?_))))
 refine zOA 5 [.nloc 5 0,.v (.slice none 0 0)] Z ⟨.nloc0,.rfl,trivial⟩ Z ?_
 refine zHV 5050 5 1 5 1 Z Z Z Z Z Z (ns (zAD (sr (pq 1 Z (pc (zHv fu s1 [34]) call88 Z Z Z Z fun r2 hr2=>pq 1 Z (ns (zAH Z ?_ ?_)))))))
 ·exact sr (pq 3 Z (ns rN))
 ·refine zAB (zAA (zAD (sr (pq 1 Z (ns (zAL (lq (zCX fu s1) (fun ((i3,l4):Int×(List Int))=>[(0,D s1),(5,.loc 5 0),(6,Y i3)]) (fun ((i3,l4):Int×(List Int))=>[(5050,.arr 5 1 (l4.map zAN)),(5,.box 62 [.nloc 5 0,.ownb 5050])]) fu (1,[]) ?_)))))))
  rintro k1 ⟨i3,l4⟩
  refine zAD (sr (pq 4 Z (ns (zAH Z ?_ ?_))))
  ·refine zAB (zAA (zAD (zAL (zAD (zAL (sr (pq 2 Z (zBZ (T:=tab) (s:=s1) Z Z Z Z Z Z Z fun b5 hb5=>pq 2 Z (ns (zAH Z ?_ ?_))))))))))
   ·refine zAD (su [(0,D s1),(5,.loc 5 0),(6,Y i3)] [(5050,.arr 5 1 (l4.map zAN)),(5,.box 62 [.nloc 5 0,.ownb 5050])] (zBB [0,0,0,4,14,1,63,127] mixed (by kernel_rfl) (by kernel_rfl) Z Z (vt (zAp fu l4) [(42,[]),(10101,[]),(11,[5])] [10,11,10101] [42,10101,11] [] [5,5050] [] (fun r6=>[(21,D r6)]) (fun r6=>[(5,.box 62 [.nloc 5 0,.junk])]) Z Z (fun _=>Z) (fun w0 X X0 σ0 _=>by refine tu [] (enc:=fun (r6:Bs)=>D r6) (Sr:=fun (r6:Bs)=>[(5,.box 62 [.nloc 5 0,.junk])]) (qs:=[.loc 5 0]) (Sc:=[(5,.box 62 [.nloc 5 0,.ownb 5050]),(5050,.arr 5 1 (l4.map zAN))]) (N1:=[5,5050]) (NR:=[5]) (fun r6 hr6=>fr [(900000,5),(900001,5050)] [900000,900001] (zGR fu l4 _ hr6)) zOe Z Z Z Z Z Z Z Z fun r6 hr6=>?_;exact pz) fun r6 hr6=>?_)))
    refine ve [0] [44] [] [(22,D s1)] ?_
    refine ve [12] [46] [] [(23,Y i3)] ?_
    refine vt (rng .i64 (i3+1)) [(48,[])] [46] [48] [] [] [] (fun i7=>[(24,Y i7)]) (fun i7=>[]) Z Z (fun _=>Z) (fun w0 X X0 σ0 _=>by refine zAI (T:=tab) Z Z Z Z fun i7 hi7=>?_;exact pz) fun i7 hi7=>?_
    refine vt (zC3 s1 i7 ((s1.length:Nat):Int)) [(50,[])] [44,48] [50] [] [] [] (fun s8=>[(25,D s8)]) (fun s8=>[]) Z Z (fun _=>Z) (fun w0 X X0 σ0 _=>by refine zGE (T:=tab) Z Z Z Z Z Z Z Z fun s8 hs8=>?_;exact pz) fun s8 hs8=>?_
    refine ve [42] [4] [] [(2,D r6)] ?_
    refine ve [50] [6] [] [(3,D s8)] ?_
    refine ve [] [8] [] [(4,O true)] ?_
    exact zBf Z Z (zAA rN)
   ·refine sr (pq 2 Z (zBZ (T:=tab) (s:=s1) Z Z Z Z Z Z Z fun b9 hb9=>pq 2 Z (ns (zAH Z ?_ ?_))))
    ·exact zAB (zAK (zAA (zAC (pq 2 Z (zBZ (T:=tab) (s:=s1) Z Z Z Z Z Z Z fun b17 hb17=>tu [5050] (enc:=fun (r18:(Bool×(List Int)))=>.err r18.1) (Sr:=fun (r18:(Bool×(List Int)))=>[(5,.box 62 [.nloc 5 0,.ownb 5050]),(5050,.arr 5 1 (r18.2.map zAN))]) (qs:=[.loc 5 0,.v (.int .u8 b17)]) (Sc:=[(5,.box 62 [.nloc 5 0,.ownb 5050]),(5050,.arr 5 1 (l4.map zAN))]) (N1:=[5]) (NR:=[5,5050]) (fun r18 hr18=>fr [(900000,5),(900001,5050)] [900000,900001] (zCt fu b17 l4 _ hr18)) zQt Z Z Z Z Z Z Z Z fun r18 hr18=>zAE (zAK (zAA (zAC (pq 1 Z (zAI (T:=tab) Z Z Z Z fun i23 hi23=>pq 1 Z (zAE (zAW (i23,r18.2) ⟨Z,Z,Z,trivial⟩ ⟨Z,Z,trivial⟩ Z))))))))))))
    ·refine sr (pq 1 Z (zAI (T:=tab) Z Z Z Z fun i10 hi10=>pq 4 Z (zAF (j:=37) Z ?_ ?_)))
     ·refine pq 2 Z (zAI (T:=tab) Z Z Z Z fun i11 hi11=>zBZ (T:=tab) (s:=s1) Z Z Z Z Z Z Z fun b12 hb12=>pq 2 Z (zAF (j:=43) Z ?_ ?_))
      ·refine pq 8 Z (zAE (zAA (zAQ Z ?_)))
       exact zAC (pq 1 Z (zAI (T:=tab) Z Z Z Z fun i15 hi15=>pq 1 Z (zAE (zAK (zAA (zAC (pq 2 Z (zBZ (T:=tab) (s:=s1) Z Z Z Z Z Z Z fun b19 hb19=>tu [5050] (enc:=fun (r20:(Bool×(List Int)))=>.err r20.1) (Sr:=fun (r20:(Bool×(List Int)))=>[(5,.box 62 [.nloc 5 0,.ownb 5050]),(5050,.arr 5 1 (r20.2.map zAN))]) (qs:=[.loc 5 0,.v (.int .u8 b19)]) (Sc:=[(5,.box 62 [.nloc 5 0,.ownb 5050]),(5050,.arr 5 1 (l4.map zAN))]) (N1:=[5]) (NR:=[5,5050]) (fun r20 hr20=>fr [(900000,5),(900001,5050)] [900000,900001] (zCt fu b19 l4 _ hr20)) zQt Z Z Z Z Z Z Z Z fun r20 hr20=>zAE (zAK (zAA (zAC (pq 1 Z (zAI (T:=tab) Z Z Z Z fun i24 hi24=>pq 1 Z (zAE (zAW (i24,r20.2) ⟨Z,Z,Z,trivial⟩ ⟨Z,Z,trivial⟩ Z)))))))))))))))
      ·refine pq 2 Z (zAI (T:=tab) Z Z Z Z fun i13 hi13=>zBZ (T:=tab) (s:=s1) Z Z Z Z Z Z Z fun b14 hb14=>pq 4 Z (ns (zAH Z ?_ ?_)))
       ·exact zAC (pq 1 Z (zAI (T:=tab) Z Z Z Z fun i16 hi16=>pq 1 Z (zAE (zAK (zAA (zAC (pq 2 Z (zBZ (T:=tab) (s:=s1) Z Z Z Z Z Z Z fun b21 hb21=>tu [5050] (enc:=fun (r22:(Bool×(List Int)))=>.err r22.1) (Sr:=fun (r22:(Bool×(List Int)))=>[(5,.box 62 [.nloc 5 0,.ownb 5050]),(5050,.arr 5 1 (r22.2.map zAN))]) (qs:=[.loc 5 0,.v (.int .u8 b21)]) (Sc:=[(5,.box 62 [.nloc 5 0,.ownb 5050]),(5050,.arr 5 1 (l4.map zAN))]) (N1:=[5]) (NR:=[5,5050]) (fun r22 hr22=>fr [(900000,5),(900001,5050)] [900000,900001] (zCt fu b21 l4 _ hr22)) zQt Z Z Z Z Z Z Z Z fun r22 hr22=>zAE (zAK (zAA (zAC (pq 1 Z (zAI (T:=tab) Z Z Z Z fun i25 hi25=>pq 1 Z (zAE (zAW (i25,r22.2) ⟨Z,Z,Z,trivial⟩ ⟨Z,Z,trivial⟩ Z)))))))))))))))
       ·exact sr (pq 3 Z (ns rN))
     ·refine pq 14 Z (zAE (zAA (zAZ Z ?_)))
      exact sr (pq 3 Z (ns rN))
  ·exact zAY Z (zAA (sr (pq 3 Z (ns rN))))
def zGc (n2:Int) (x_:Unit):Option Bool:=cnd (n2==(-2)) (some true) (cnd (n2==(-3)) (some true) (cnd (decide (n2>=0)) (some (decide (n2<400))) (some false)))
def zHd (_fu:Nat) (field1:Int) (n2:Int):Option Bool:=cnd (field1==111) (cnd (n2==(-1)) (some true) ((zGc n2) ())) (cnd (field1==110) ((zGc n2) ()) (cnd (field1==105) (cnd (decide (n2>=(-1000))) (some (decide (n2<=1000))) (some false)) (some (n2==0))))
theorem zJ6 (fu:Nat) (field1:Int) (n2:Int):∀r,zHd fu field1 n2=some r->DC zAf Tryz.prog 102 [.v (.int .u8 field1),Y n2] (O r):=by
 refine fcI Tryz.func102 Z fun w0 X X0 σ0 _=>sr (pq 1 Z (ns (zAD (sr (pq 1 Z (ns (zAL (zAD (zAL (zAD (zBi (zGc n2) (fun (_:Unit)=>[(1,Y n2)]) (fun (_:Unit)=>[]) ?_ fun hj1=>?_)))))))))))
 ·rintro _
  refine zAA (zAD (sr (pq 3 Z (zAF (j:=16) Z ?_ ?_))))
  ·exact pq 12 Z (ns rN)
  ·refine pq 4 Z (zAF (j:=20) Z ?_ ?_)
   ·exact pq 8 Z (ns rN)
   ·refine pq 3 Z (zAF (j:=23) Z ?_ ?_)
    ·exact pq 5 Z (ns rN)
    ·exact pq 5 Z (ns rN)
 ·refine zAL (zAD (zAL (zAD (zAD (sr (pq 2 Z (ns (zAH Z ?_ ?_))))))))
  ·refine zAY Z (zAA (sr (pq 2 Z (ns (zAH Z ?_ ?_)))))
   ·exact sr (pq 1 Z (ns rN))
   ·exact zAB (zAK (ps (hj1 ())))
  ·refine zAB (zAA (zAD (sr (pq 2 Z (ns (zAH Z ?_ ?_))))))
   ·exact zAY Z (ps (hj1 ()))
   ·refine zAB (zAA (sr (pq 2 Z (ns (zAH Z ?_ ?_)))))
    ·refine zAY Z (zAA (zAD (sr (pq 3 Z (zAF (j:=30) Z ?_ ?_)))))
     ·exact pq 4 Z (ns rN)
     ·exact pq 4 Z (ns rN)
    ·exact zAB (zAA (zAY Z (zAA (sr (pq 3 Z (ns rN))))))
def zF7 (fu:Nat) (s1:Bs) (substr2:Bs):Option Int:=bnd (zHk fu s1 substr2) fun r3=>some r3
theorem zJX (fu:Nat) (s1:Bs) (substr2:Bs):∀r,zF7 fu s1 substr2=some r->DC zAf Tryz.prog 141 [D s1,D substr2] (Y r):=by
 exact fcI Tryz.func141 Z fun w0 X X0 σ0 _=>sr (pq 1 Z (ns (sr (pq 2 Z (pc (zMs fu s1 substr2) zQi Z Z Z Z fun r3 hr3=>pq 1 Z (ns rN))))))
def zD0 (fu:Nat) (s1:Bs) (substr2:Bs):Option Bool:=bnd (zF7 fu s1 substr2) fun r3=>some (decide (r3>=0))
theorem zIB (fu:Nat) (s1:Bs) (substr2:Bs):∀r,zD0 fu s1 substr2=some r->DC zAf Tryz.prog 123 [D s1,D substr2] (O r):=by
 exact fcI Tryz.func123 Z fun w0 X X0 σ0 _=>sr (pq 1 Z (ns (sr (pq 2 Z (pc (zJX fu s1 substr2) zVI Z Z Z Z fun r3 hr3=>pq 2 Z (ns rN))))))
def zD6 (fu:Nat) (field1:Int) (s2:Bs):Option Bool:=cnd (field1==115) (cnd (decide (((s2.length:Nat):Int)<=200)) (bnd (zD0 fu s2 [10]) fun r3=>some (!r3)) (some false)) (some (s2==([]:Bs)))
theorem zIU (fu:Nat) (field1:Int) (s2:Bs):∀r,zD6 fu field1 s2=some r->DC zAf Tryz.prog 103 [.v (.int .u8 field1),D s2] (O r):=by
 refine fcI Tryz.func103 Z fun w0 X X0 σ0 _=>sr (pq 1 Z (ns (zAD (sr (pq 2 Z (ns (zAH Z ?_ ?_)))))))
 ·refine sr (pq 4 Z (zAF (j:=10) Z ?_ ?_))
  ·exact pq 1 Z (pc (zIB fu s2 [10]) zVG Z Z Z Z fun r3 hr3=>pq 3 Z (ns rN))
  ·exact pq 5 Z (ns rN)
 ·exact zAB (zAA (sr (pq 3 Z (ns rN))))
def zFB (fu:Nat) (o1:Op) (r2:(Op_form×Bool)) (ok11:Bool):Option Bool:=bnd (zEP fu) fun r12=>cnd ok11 (bnd (rng .i64 (3+0)) fun i13=>bnd (chr r2.1.fields i13) fun b14=>bnd (zD6 fu b14 o1.S) fun r15=>cnd r15 (bnd (rng .i64 (3+1)) fun i16=>bnd (chr r2.1.fields i16) fun b17=>bnd (zD6 fu b17 o1.T) fun r18=>some r18) (some false)) (some false)
def zF5 (fu:Nat) (o1:Op) (r2:(Op_form×Bool)) (ok6:Bool):Option Bool:=cnd ok6 (bnd (chr r2.1.fields 1) fun b7=>bnd (zHd fu b7 o1.B) fun r8=>cnd r8 (bnd (chr r2.1.fields 2) fun b9=>bnd (zHd fu b9 o1.C) fun r10=>(zFB fu o1 r2) r10) ((zFB fu o1 r2) false)) ((zFB fu o1 r2) false)
def zFx (fu:Nat) (o1:Op):Option Bool:=bnd (zEe fu o1.Kind) fun r2=>bnd (zD8 fu) fun r3=>cnd r2.2 (bnd (chr r2.1.fields 0) fun b4=>bnd (zHd fu b4 o1.A) fun r5=>(zF5 fu o1 r2) r5) ((zF5 fu o1 r2) false)
theorem zJ5 (fu:Nat) (o1:Op):∀r,zFx fu o1=some r->DC zAf Tryz.prog 70 [.agg (cOp o1)] (O r):=by
 refine fcI Tryz.func70 Z fun w0 X X0 σ0 _=>sr (zDl  1 Z Z Z Z Z Z Z Z Z Z (pq 1 Z (ns (sr (pq 2 Z (pc (zHE fu o1.Kind) zQm Z Z Z Z fun r2 hr2=>pq 3 Z (zAs (T:=tab) 3 Z Z Z Z Z Z Z Z Z (zAG (T:=tab) Z Z Z Z Z Z Z Z Z Z Z Z (pq 1 Z (ns (zAD (sr (tu [400150] (enc:=fun (r3:Unit)=>.bsl 400150 3) (Sr:=fun (r3:Unit)=>[(1,.box 43 [Y o1.Kind,Y o1.A,Y o1.B,Y o1.C,D o1.S,D o1.T,O o1.Must]),(400150,.box 107 [.loc 1 1,.loc 1 2,.loc 1 3])]) (qs:=[.loc 1 0]) (Sc:=[(1,.box 43 [Y o1.Kind,Y o1.A,Y o1.B,Y o1.C,D o1.S,D o1.T,O o1.Must])]) (N1:=[1]) (NR:=[1,400150]) (fun r3 hr3=>fr [(12,400150),(900000,1)] [12,900000] (zGs fu o1 _ hr3)) zQn Z Z Z Z Z Z Z Z fun r3 hr3=>pq 2 Z (ns (zBi (zFB fu o1 r2) (fun (ok11:Bool)=>[(1,.loc 1 0),(3,.loc 3 0),(4,O ok11)]) (fun (ok11:Bool)=>[(1,.box 43 [Y o1.Kind,Y o1.A,Y o1.B,Y o1.C,D o1.S,D o1.T,O o1.Must]),(3,.box 101 [D r2.1.word,D r2.1.fields])]) ?_ fun hj2=>?_)))))))))))))))
 ·rintro ok11
  refine zRs (m':=bnd (zEP fu) fun r12=>cnd ok11 (bnd (rng .i64 (3+0)) fun i13=>bnd (chr r2.1.fields i13) fun b14=>bnd (zD6 fu b14 o1.S) fun r15=>cnd r15 (bnd (rng .i64 (3+1)) fun i16=>bnd (chr r2.1.fields i16) fun b17=>bnd (zD6 fu b17 o1.T) fun r18=>some r18) (some false)) (some false)) Z (zAA (zAD (sr (tu [400340] (enc:=fun (r12:Unit)=>.bsl 400340 2) (Sr:=fun (r12:Unit)=>[(1,.box 43 [Y o1.Kind,Y o1.A,Y o1.B,Y o1.C,D o1.S,D o1.T,O o1.Must]),(400340,.box 112 [.loc 1 4,.loc 1 5])]) (qs:=[.loc 1 0]) (Sc:=[(1,.box 43 [Y o1.Kind,Y o1.A,Y o1.B,Y o1.C,D o1.S,D o1.T,O o1.Must])]) (N1:=[1]) (NR:=[1,400340]) (fun r12 hr12=>fr [(9,400340),(900000,1)] [9,900000] (zH9 fu o1 _ hr12)) zQp Z Z Z Z Z Z Z Z fun r12 hr12=>pq 2 Z (ns (zAL (zGq 3 (sr (pq 1 Z (ns (zAD (zAQ Z (zAB (zAA (zAD (zAL (sr (pq 1 Z (zEJ (T:=tab) (i:=0) Z Z Z Z Z Z Z Z (pq 3 Z (ns (zEK mixed (by kernel_rfl) (zAV (T:=tab) 2 Z Z (zDf (j:=42) Z ?_ ?_))))))))))))))))))))))))
  ·refine zAV (T:=tab) 3 Z Z (zL3 (T:=tab) Z Z Z Z fun i13 hi13=>zGo (T:=tab) (s:=r2.1.fields) Z Z Z Z Z Z Z fun b14 hb14=>zAV (T:=tab) 3 Z Z (pdc (zIU fu b14 o1.S) zQf Z Z Z Z fun r15 hr15=>zAV (T:=tab) 2 Z Z (zCq (zAK (zAA (zAC (zA2 (T:=tab) 1 Z Z Z Z Z (pq 1 Z (zAE (zBM 2 (sr (pq 1 Z (ns (zAD (zAQ Z (zAB (zAA (zAD (zAL (sr (pq 1 Z (zEJ (T:=tab) (i:=1) Z Z Z Z Z Z Z Z (pq 3 Z (ns (zEK mixed (by kernel_rfl) (zAV (T:=tab) 2 Z Z (zDf (j:=42) Z ?_ ?_)))))))))))))))))))))))))))
   ·exact zAV (T:=tab) 3 Z Z (zL3 (T:=tab) Z Z Z Z fun i16 hi16=>zGo (T:=tab) (s:=r2.1.fields) Z Z Z Z Z Z Z fun b17 hb17=>zAV (T:=tab) 3 Z Z (pdc (zIU fu b17 o1.T) zQf Z Z Z Z fun r18 hr18=>zAV (T:=tab) 2 Z Z (zCq (zAK (zAA (zAC (zA2 (T:=tab) 2 Z Z Z Z Z (pq 1 Z (zAE (zBM 1 (sr (pq 1 Z (ns (zAD (zAZ Z (zAY Z (zAA (sr (pq 2 Z (ns rN))))))))))))))))))))
   ·exact zAV (T:=tab) 11 Z Z (zCq (zAK (zAA (zAC (zA2 (T:=tab) 2 Z Z Z Z Z (pq 1 Z (zAE (zBM 1 (sr (pq 1 Z (ns (zAD (zAZ Z (zAY Z (zAA (sr (pq 2 Z (ns rN))))))))))))))))))
  ·exact zAV (T:=tab) 11 Z Z (zCq (zAK (zAA (zAC (zA2 (T:=tab) 1 Z Z Z Z Z (pq 1 Z (zAE (zBM 2 (sr (pq 1 Z (ns (zAD (zAQ Z (zAB (zAA (zAD (zAL (sr (pq 1 Z (zEJ (T:=tab) (i:=1) Z Z Z Z Z Z Z Z (pq 3 Z (ns (zEK mixed (by kernel_rfl) (zAV (T:=tab) 13 Z Z (zCq (zAK (zAA (zAC (zA2 (T:=tab) 2 Z Z Z Z Z (pq 1 Z (zAE (zBM 1 (sr (pq 1 Z (ns (zAD (zAZ Z (zAY Z (zAA (sr (pq 2 Z (ns rN))))))))))))))))))))))))))))))))))))))))))
 ·refine zAL (zGq 4 (sr (pq 1 Z (ns (zAD (zAQ Z (zAB (zAA (zAD (zBi (zF5 fu o1 r2) (fun (ok6:Bool)=>[(1,.loc 1 0),(3,.loc 3 0),(4,O ok6),(15,.bsl 400150 3),(16,Y 3),(17,Y 0)]) (fun (ok6:Bool)=>[(1,.box 43 [Y o1.Kind,Y o1.A,Y o1.B,Y o1.C,D o1.S,D o1.T,O o1.Must]),(400150,.box 107 [.loc 1 1,.loc 1 2,.loc 1 3]),(3,.box 101 [D r2.1.word,D r2.1.fields])]) ?_ fun hj1=>?_))))))))))
  ·rintro ok6
   refine zAA (zAC (zA2 (T:=tab) 1 Z Z Z Z Z (pq 1 Z (zAE (zBM 3 (sr (pq 1 Z (ns (zAD (zAQ Z (zAB (zAA (zAD (zAL (sr (pq 1 Z (zEJ (T:=tab) (i:=1) Z Z Z Z Z Z Z Z (pq 3 Z (ns (zEK mixed (by kernel_rfl) (zAV (T:=tab) 2 Z Z (zDf (j:=23) Z ?_ ?_))))))))))))))))))))))
   ·refine zAV (T:=tab) 3 Z Z (zGo (T:=tab) (s:=r2.1.fields) Z Z Z Z Z Z Z fun b7 hb7=>zAV (T:=tab) 3 Z Z (pdc (zJ6 fu b7 o1.B) zNf Z Z Z Z fun r8 hr8=>zAV (T:=tab) 2 Z Z (zCq (zAK (zAA (zAC (zA2 (T:=tab) 2 Z Z Z Z Z (pq 1 Z (zAE (zBM 2 (sr (pq 1 Z (ns (zAD (zAQ Z (zAB (zAA (zAD (zAL (sr (pq 1 Z (zEJ (T:=tab) (i:=2) Z Z Z Z Z Z Z Z (pq 3 Z (ns (zEK mixed (by kernel_rfl) (zAV (T:=tab) 2 Z Z (zDf (j:=23) Z ?_ ?_)))))))))))))))))))))))))))
    ·exact zAV (T:=tab) 3 Z Z (zGo (T:=tab) (s:=r2.1.fields) Z Z Z Z Z Z Z fun b9 hb9=>zAV (T:=tab) 3 Z Z (pdc (zJ6 fu b9 o1.C) zNf Z Z Z Z fun r10 hr10=>zAV (T:=tab) 2 Z Z (zCq (zAK (zAA (zAC (zA2 (T:=tab) 3 Z Z Z Z Z (pq 1 Z (zAE (zBM 1 (sr (pq 1 Z (ns (zAD (zAZ Z (zAY Z (ps (hj2 r10))))))))))))))))))
    ·exact zAV (T:=tab) 10 Z Z (zCq (zAK (zAA (zAC (zA2 (T:=tab) 3 Z Z Z Z Z (pq 1 Z (zAE (zBM 1 (sr (pq 1 Z (ns (zAD (zAZ Z (zAY Z (ps (hj2 false))))))))))))))))
   ·exact zAV (T:=tab) 10 Z Z (zCq (zAK (zAA (zAC (zA2 (T:=tab) 2 Z Z Z Z Z (pq 1 Z (zAE (zBM 2 (sr (pq 1 Z (ns (zAD (zAQ Z (zAB (zAA (zAD (zAL (sr (pq 1 Z (zEJ (T:=tab) (i:=2) Z Z Z Z Z Z Z Z (pq 3 Z (ns (zEK mixed (by kernel_rfl) (zAV (T:=tab) 12 Z Z (zCq (zAK (zAA (zAC (zA2 (T:=tab) 3 Z Z Z Z Z (pq 1 Z (zAE (zBM 1 (sr (pq 1 Z (ns (zAD (zAZ Z (zAY Z (ps (hj2 false))))))))))))))))))))))))))))))))))))))))
  ·refine zAL (sr (pq 1 Z (zEJ (T:=tab) (i:=0) Z Z Z Z Z Z Z Z (pq 3 Z (ns (zEK mixed (by kernel_rfl) (zAV (T:=tab) 2 Z Z (zDf (j:=23) Z ?_ ?_))))))))
   ·exact zAV (T:=tab) 3 Z Z (zGo (T:=tab) (s:=r2.1.fields) Z Z Z Z Z Z Z fun b4 hb4=>zAV (T:=tab) 3 Z Z (pdc (zJ6 fu b4 o1.A) zNf Z Z Z Z fun r5 hr5=>zAV (T:=tab) 2 Z Z (zCq (zAK (ps (hj1 r5))))))
   ·exact zAV (T:=tab) 10 Z Z (zCq (zAK (ps (hj1 false))))
theorem zFF (fu:Nat) (l1:(List Int)):∀r,zA1 fu=some r->FC zAf Tryz.prog 98 [.loc 900000 0] [(900000,.box 143 [.nloc 900000 0,.ownb 900001]),(900001,.arr 5 1 (l1.map zAN))] [900000,900001] fun p S'=>p=.tup []/\S'=[(900000,.box 143 [.nloc 900000 0,.ownb 900001]),(900001,.arr 5 1 (l1.map zAN))]:=by
 refine fcI Tryz.func98 Z fun w0 X X0 σ0 _=>sr (pq 3 Z (zKb 900000 0 Z Z Z Z Z Z ?_ ?_))
 ·exact pq 1 Z (zIo (T:=tab) Tryz.underlying59 Z Z Z Z Z Z Z Z (ns (zAQ Z (zAC (pq 2 Z (zII (T:=tab) Tryz.underlying59 Tryz.underlying160 Z Z Tryz.func120 Z Z Z Z Z Z Z Z Z (by kernel_rfl) Z Z Z Z Z Z Z Z Z Z Z (pq 2 Z (zAG (T:=tab) Z Z Z Z Z Z Z Z Z Z Z Z (zAE (zGW 900000 [.nloc 900000 0,.ownb 900001] Z ⟨.nloc1,.rfl,trivial⟩ Z (zFc (T:=tab) Z Z Z ⟨Z,Z⟩ ⟨Z,Z,trivial⟩ Z)))))))))))
 ·exact pq 1 Z (zIo (T:=tab) Tryz.underlying59 Z Z Z Z Z Z Z Z (ns (zAZ Z (sr (pq 5 Z (zIo (T:=tab) Tryz.underlying59 Z Z Z Z Z Z Z Z (ns (zAZ Z (zAB (zGW 900000 [.nloc 900000 0,.ownb 900001] Z ⟨.nloc1,.rfl,trivial⟩ Z (zFc (T:=tab) Z Z Z ⟨Z,Z⟩ ⟨Z,Z,trivial⟩ Z)))))))))))
def zAO (fu:Nat) (s1:Bs) (l2:(List Int)):Option (Int×Bool×(List Int)):=bnd (zA1 fu) fun r3=>bnd (zBr 1 (l2.length+s1.length)) fun _=>some (((s1.length:Nat):Int),false,(l2++zAS s1))
theorem zAd (fu:Nat) (s1:Bs) (l2:(List Int)):∀r,zAO fu s1 l2=some r->FC zAf Tryz.prog 65 [.loc 900000 0,D s1] [(900000,.box 143 [.nloc 900000 0,.ownb 900001]),(900001,.arr 5 1 (l2.map zAN))] [900000] fun p S'=>p=.tup [Y r.1,.err r.2.1]/\S'=[(900000,.box 143 [.nloc 900000 0,.ownb 900001]),(900001,.arr 5 1 (r.2.2.map zAN))]:=by
 exact fcI Tryz.func65 Z fun w0 X X0 σ0 _=>sr (pq 2 Z (ns (sr (pq 1 Z (zFO (enc:=fun (r3:Unit)=>.tup []) (first:=[]) (cap:=[]) (qs:=[.loc 900000 0]) (Sc:=[(900000,.box 143 [.nloc 900000 0,.ownb 900001]),(900001,.arr 5 1 (l2.map zAN))]) (fun r3 hr3=>zK2 [(900000,900000),(900001,900001)] [900000,900001] (zFF fu l2 _ hr3) Z Z Z Z Z Z) (zCd ⟨Z,Z,trivial⟩ Z) Z Z Z Z ⟨⟨_,Z,.rfl⟩,trivial⟩ (fun _=>Z) zQw Z Z fun r3 hr3=>ns (sr (pq 6 Z (zIn (T:=tab) zAN l2 (fun _=>Z) Z Z Z Z Z Z Z Z Z Z Z Z Z Z Z Z (pq 2 Z (zAG (T:=tab) Z Z Z Z Z Z Z Z Z Z Z Z (ns (sr (pq 4 Z (ns (zSA 5 (q:=.err false) Z .err0 rN)))))))))))))))
def zCz (fu:Nat) (n2:Int) (l3:(List Int)) (t4:Bool):Option (List Int):=cnd t4 (bnd (zK6 fu n2) fun r5=>bnd (cat ([32]:Bs) r5) fun s6=>bnd (zAO fu s6 l3) fun r7=>some r7.2.2) (cnd (n2==(-1)) (bnd (zAO fu [32,45] l3) fun r8=>some r8.2.2) (cnd (n2==(-2)) (bnd (zAO fu [32,115,101,108,102] l3) fun r9=>some r9.2.2) (bnd (zAO fu [32,108,97,115,116] l3) fun r10=>some r10.2.2)))
def zB1 (fu:Nat) (field1:Int) (n2:Int) (l3:(List Int)):Option (List Int):=cnd (field1==46) (some l3) (cnd (field1==105) ((zCz fu n2 l3) (field1==105)) ((zCz fu n2 l3) (decide (n2>=0))))
theorem zFC (fu:Nat) (field1:Int) (n2:Int) (l3:(List Int)):∀r,zB1 fu field1 n2 l3=some r->FC zAf Tryz.prog 90 [.loc 900000 0,.v (.int .u8 field1),Y n2] [(900000,.box 143 [.nloc 900000 0,.ownb 900001]),(900001,.arr 5 1 (l3.map zAN))] [900000] fun p S'=>p=.tup []/\S'=[(900000,.box 143 [.nloc 900000 0,.ownb 900001]),(900001,.arr 5 1 (r.map zAN))]:=by
 refine fcI Tryz.func90 Z fun w0 X X0 σ0 _=>zAL (sr (pq 3 Z (ns (zAH Z ?_ ?_))))
 ·exact rN
 ·refine zAD (sr (pq 3 Z (ns (zBi (zCz fu n2 l3) (fun (t4:Bool)=>[(0,.loc 900000 0),(2,Y n2),(13,O t4)]) (fun (t4:Bool)=>[(900000,.box 143 [.nloc 900000 0,.ownb 900001]),(900001,.arr 5 1 (l3.map zAN))]) ?_ fun hj1=>?_))))
  ·rintro t4
   refine zAA (zAH Z ?_ ?_)
   ·refine su [(0,.loc 900000 0),(2,Y n2)] [(900000,.box 143 [.nloc 900000 0,.ownb 900001]),(900001,.arr 5 1 (l3.map zAN))] (zBB [0,1,3,0,8,24,63] mixed (by kernel_rfl) (by kernel_rfl) Z Z (ve [0] [36] [900000] [(18,.loc 900000 0)] ?_))
    refine ve [36] [38] [900000] [(19,.loc 900000 0)] ?_
    refine ve [38] [40] [900000] [(20,.loc 900000 0)] ?_
    refine ve [4] [42] [] [(21,Y n2)] ?_
    refine vt (zK6 fu n2) [(44,[])] [42] [44] [] [] [] (fun r5=>[(22,D r5)]) (fun r5=>[]) Z Z (fun _=>Z) (fun w0 X X0 σ0 _=>by refine pc (zRX fu n2) zUg Z Z Z Z fun r5 hr5=>?_;exact pz) fun r5 hr5=>?_
    refine vt (cat ([32]:Bs) r5) [(46,[])] [44] [46] [] [] [] (fun s6=>[(23,D s6)]) (fun s6=>[]) Z Z (fun _=>Z) (fun w0 X X0 σ0 _=>by refine zCW Z Z Z Z Z Z fun s6 hs6=>?_;exact pz) fun s6 hs6=>?_
    refine vt (zAO fu s6 l3) [(48,[]),(1800003,[]),(1800001,[900000,900001])] [40,46,1800001,1800003] [48,1800003,1800001] [900001] [900000] [] (fun r7=>[(24,.tup [Y r7.1,.err r7.2.1])]) (fun r7=>[(900001,.arr 5 1 (r7.2.2.map zAN)),(900000,.box 143 [.nloc 900000 0,.ownb 900001])]) Z Z (fun _=>Z) (fun w0 X X0 σ0 _=>by refine tu [900001] (enc:=fun (r7:(Int×Bool×(List Int)))=>.tup [Y r7.1,.err r7.2.1]) (Sr:=fun (r7:(Int×Bool×(List Int)))=>[(900000,.box 143 [.nloc 900000 0,.ownb 900001]),(900001,.arr 5 1 (r7.2.2.map zAN))]) (qs:=[.loc 900000 0,D s6]) (Sc:=[(900000,.box 143 [.nloc 900000 0,.ownb 900001]),(900001,.arr 5 1 (l3.map zAN))]) (N1:=[900000]) (NR:=[900000,900001]) (fun r7 hr7=>fr [(900000,900000),(900001,900001)] [900000,900001] (zAd fu s6 l3 _ hr7)) zH1 Z Z Z Z Z Z Z Z fun r7 hr7=>?_;exact pz) fun r7 hr7=>?_
    exact zBf Z Z (zAK (zFc (T:=tab) Z Z Z ⟨Z,Z⟩ ⟨Z,Z,trivial⟩ Z))
   ·refine sr (pq 3 Z (ns (zAH Z ?_ ?_)))
    ·exact zAC (pq 3 Z (tu [900001] (enc:=fun (r8:(Int×Bool×(List Int)))=>.tup [Y r8.1,.err r8.2.1]) (Sr:=fun (r8:(Int×Bool×(List Int)))=>[(900000,.box 143 [.nloc 900000 0,.ownb 900001]),(900001,.arr 5 1 (r8.2.2.map zAN))]) (qs:=[.loc 900000 0,D [32,45]]) (Sc:=[(900000,.box 143 [.nloc 900000 0,.ownb 900001]),(900001,.arr 5 1 (l3.map zAN))]) (N1:=[900000]) (NR:=[900000,900001]) (fun r8 hr8=>fr [(900000,900000),(900001,900001)] [900000,900001] (zAd fu [32,45] l3 _ hr8)) zH1 Z Z Z Z Z Z Z Z fun r8 hr8=>zAE (zAK (zFc (T:=tab) Z Z Z ⟨Z,Z⟩ ⟨Z,Z,trivial⟩ Z))))
    ·refine sr (pq 3 Z (ns (zAH Z ?_ ?_)))
     ·exact zAC (pq 3 Z (tu [900001] (enc:=fun (r9:(Int×Bool×(List Int)))=>.tup [Y r9.1,.err r9.2.1]) (Sr:=fun (r9:(Int×Bool×(List Int)))=>[(900000,.box 143 [.nloc 900000 0,.ownb 900001]),(900001,.arr 5 1 (r9.2.2.map zAN))]) (qs:=[.loc 900000 0,D [32,115,101,108,102]]) (Sc:=[(900000,.box 143 [.nloc 900000 0,.ownb 900001]),(900001,.arr 5 1 (l3.map zAN))]) (N1:=[900000]) (NR:=[900000,900001]) (fun r9 hr9=>fr [(900000,900000),(900001,900001)] [900000,900001] (zAd fu [32,115,101,108,102] l3 _ hr9)) zH1 Z Z Z Z Z Z Z Z fun r9 hr9=>zAE (zAK (zFc (T:=tab) Z Z Z ⟨Z,Z⟩ ⟨Z,Z,trivial⟩ Z))))
     ·exact zAC (pq 3 Z (tu [900001] (enc:=fun (r10:(Int×Bool×(List Int)))=>.tup [Y r10.1,.err r10.2.1]) (Sr:=fun (r10:(Int×Bool×(List Int)))=>[(900000,.box 143 [.nloc 900000 0,.ownb 900001]),(900001,.arr 5 1 (r10.2.2.map zAN))]) (qs:=[.loc 900000 0,D [32,108,97,115,116]]) (Sc:=[(900000,.box 143 [.nloc 900000 0,.ownb 900001]),(900001,.arr 5 1 (l3.map zAN))]) (N1:=[900000]) (NR:=[900000,900001]) (fun r10 hr10=>fr [(900000,900000),(900001,900001)] [900000,900001] (zAd fu [32,108,97,115,116] l3 _ hr10)) zH1 Z Z Z Z Z Z Z Z fun r10 hr10=>zAE (zAK (zFc (T:=tab) Z Z Z ⟨Z,Z⟩ ⟨Z,Z,trivial⟩ Z))))
  ·refine zAH Z ?_ ?_
   ·exact zAB (ps (hj1 (field1==105)))
   ·exact zAC (pq 3 Z (zAE (ps (hj1 (decide (n2>=0))))))
theorem zDz (fu:Nat) (l1:(List Int)):∀r,zAp fu l1=some r->FC zAf Tryz.prog 30 [.loc 900000 0] [(900000,.box 143 [.nloc 900000 0,.ownb 900001]),(900001,.arr 5 1 (l1.map zAN))] [900000,900001] fun p S'=>p=D r/\S'=[(900000,.box 143 [.nloc 900000 0,.junk])]:=by
 refine fcI Tryz.func30 Z fun w0 X X0 σ0 _=>sr (pq 1 Z (ns (zAD (su [(0,.loc 900000 0)] [(900000,.box 143 [.nloc 900000 0,.ownb 900001]),(900001,.arr 5 1 (l1.map zAN))] (zBB [0,1,3,7,15,0,32,96,224,480,1023,2047] mixed (by kernel_rfl) (by kernel_rfl) Z Z (ve [0] [6] [900000] [(3,.loc 900000 0)] ?_))))))
 refine ve [6] [8] [900000] [(4,.loc 900000 0)] ?_
 refine ve [8] [10] [900000] [(5,.loc 900000 1)] ?_
 refine vf [10,1800001] [12] [] [900000,900001] [900000] [(6,.ownb 900001)] [(900000,.box 143 [.nloc 900000 0,.ownb 900001])] ?_
 refine vs [12,1800003] [14] [] [900001] [900001] [(7,.dat 900001)] [(900001,.arr 5 1 (l1.map zAN))] Z Z (fun w0 X X0 σ0 _=>by refine zHW Z Z Z Z Z Z ?_;exact py) ?_
 refine ve [0] [16] [900000] [(8,.loc 900000 0)] ?_
 refine ve [16] [18] [900000] [(9,.loc 900000 0)] ?_
 refine ve [18] [20] [900000] [(10,.loc 900000 1)] ?_
 refine vf [20,1800001] [22] [] [900000,900001] [900000] [(11,.ownb 900001)] [(900000,.box 143 [.nloc 900000 0,.ownb 900001])] ?_
 refine vs [22,1800003] [24,22] [] [900001] [900001] [(12,Y ((l1.length:Nat):Int)),(11,.own 900001)] [(900001,.arr 5 1 (l1.map zAN))] Z Z (fun w0 X X0 σ0 _=>by refine zJR 11 (q:=.own 900001) Z .ownb ?_;refine zDK (T:=tab) zAN l1 Z Z Z Z Z Z Z Z Z ?_;exact py) ?_
 refine vs [12,14,22,24,1800001,1800003] [26,12,14,22,1800001,1800003] [] [900000,900001] [] [(13,D (zEd l1)),(11,.sl 1 false (l1.map zAN))] [(900000,.box 143 [.nloc 900000 0,.junk])] Z Z (fun w0 X X0 σ0 _=>by refine zIJ zAN l1 (fun _=>Z) Z Z Z Z Z Z Z Tryz.underlying127 (by kernel_rfl) Z Z Z Z ?_;exact py) ?_
 refine ve [26] [4] [] [(2,D (zEd l1))] ?_
 exact zBf Z Z (zAA rN)
def zHD (fu:Nat) (o1:Op) (r3:(Op_form×Bool)) (l19:(List Int)):Option (Bs×Int):=bnd (chr r3.1.fields 4) fun b20=>cnd (b20==115) (bnd (zJC fu o1.T) fun r21=>bnd (cat ([32]:Bs) r21) fun s22=>bnd (zAO fu s22 l19) fun r23=>bnd (zAp fu r23.2.2) fun r24=>some (r24,0)) (bnd (zAp fu l19) fun r25=>some (r25,0))
def zGZ (fu:Nat) (o1:Op) (r3:(Op_form×Bool)) (l5:(List Int)):Option (Bs×Int):=bnd (zAO fu r3.1.word l5) fun r6=>bnd (zD8 fu) fun r7=>bnd (chr r3.1.fields 0) fun b8=>bnd (zB1 fu b8 o1.A r6.2.2) fun r9=>bnd (chr r3.1.fields 1) fun b10=>bnd (zB1 fu b10 o1.B r9) fun r11=>bnd (chr r3.1.fields 2) fun b12=>bnd (zB1 fu b12 o1.C r11) fun r13=>bnd (zEP fu) fun r14=>bnd (chr r3.1.fields 3) fun b15=>cnd (b15==115) (bnd (zJC fu o1.S) fun r16=>bnd (cat ([32]:Bs) r16) fun s17=>bnd (zAO fu s17 r13) fun r18=>(zHD fu o1 r3) r18.2.2) ((zHD fu o1 r3) r13)
def zHb (fu:Nat) (o1:Op):Option (Bs×Int):=bnd (zFx fu o1) fun r2=>cnd (!r2) (some ([],1)) (bnd (zEe fu o1.Kind) fun r3=>cnd o1.Must (bnd (zAO fu [33] []) fun r4=>(zGZ fu o1 r3) r4.2.2) ((zGZ fu o1 r3) []))
theorem zMV (fu:Nat) (o1:Op):∀r,zHb fu o1=some r->DC zAf Tryz.prog 55 [.agg (cOp o1)] (.tup [D r.1,Y r.2]):=by
 refine fcI Tryz.func55 Z fun w0 X X0 σ0 _=>sr (zDl  1 Z Z Z Z Z Z Z Z Z Z (pq 2 Z (ns (zAD (sr (pq 1 Z (pc (zJ5 fu o1) zUd Z Z Z Z fun r2 hr2=>pq 1 Z (ns (zAH Z ?_ ?_)))))))))
 ·exact sr (pq 2 Z (ns rN))
 ·refine zAB (zAA (sr (pq 2 Z (pc (zHE fu o1.Kind) zQm Z Z Z Z fun r3 hr3=>pq 3 Z (zAs (T:=tab) 4 Z Z Z Z Z Z Z Z Z (zAG (T:=tab) Z Z Z Z Z Z Z Z Z Z Z Z (pq 1 Z (ns (sr (zAs (T:=tab) 6 Z Z Z Z Z Z Z Z Z ?_))))))))))
  refine zOA 6 [.nloc 6 0,.v (.slice none 0 0)] Z ⟨.nloc0,.rfl,trivial⟩ Z ?_
  refine zHV 5060 5 1 6 1 Z Z Z Z Z Z (ns (zAD (sr (pq 2 Z (ns (zBi (zGZ fu o1 r3) (fun (l5:(List Int))=>[(1,.loc 1 0),(4,.loc 4 0),(6,.loc 6 0)]) (fun (l5:(List Int))=>[(6,.box 143 [.nloc 6 0,.ownb 5060]),(5060,.arr 5 1 (l5.map zAN)),(4,.box 101 [D r3.1.word,D r3.1.fields]),(1,.box 43 [Y o1.Kind,Y o1.A,Y o1.B,Y o1.C,D o1.S,D o1.T,O o1.Must])]) ?_ fun hj1=>?_))))))
  ·rintro l5
   refine zAA (sr (pq 3 Z (tu [5060] (enc:=fun (r6:(Int×Bool×(List Int)))=>.tup [Y r6.1,.err r6.2.1]) (Sr:=fun (r6:(Int×Bool×(List Int)))=>[(6,.box 143 [.nloc 6 0,.ownb 5060]),(5060,.arr 5 1 (r6.2.2.map zAN))]) (qs:=[.loc 6 0,D r3.1.word]) (Sc:=[(6,.box 143 [.nloc 6 0,.ownb 5060]),(5060,.arr 5 1 (l5.map zAN))]) (N1:=[6]) (NR:=[6,5060]) (fun r6 hr6=>fr [(900000,6),(900001,5060)] [900000,900001] (zAd fu r3.1.word l5 _ hr6)) zH1 Z Z Z Z Z Z Z Z fun r6 hr6=>ns (zAD (sr (tu [400280] (enc:=fun (r7:Unit)=>.bsl 400280 3) (Sr:=fun (r7:Unit)=>[(1,.box 43 [Y o1.Kind,Y o1.A,Y o1.B,Y o1.C,D o1.S,D o1.T,O o1.Must]),(400280,.box 107 [.loc 1 1,.loc 1 2,.loc 1 3])]) (qs:=[.loc 1 0]) (Sc:=[(1,.box 43 [Y o1.Kind,Y o1.A,Y o1.B,Y o1.C,D o1.S,D o1.T,O o1.Must])]) (N1:=[1]) (NR:=[1,400280]) (fun r7 hr7=>fr [(12,400280),(900000,1)] [12,900000] (zGs fu o1 _ hr7)) zQn Z Z Z Z Z Z Z Z fun r7 hr7=>pq 2 Z (ns (zAL (zGq 4 (sr (pq 1 Z (ns (zAD (zAQ Z (zAB (zAA (zAD (zAL (sr (pq 1 Z (zEJ (T:=tab) (i:=0) Z Z Z Z Z Z Z Z (pq 3 Z (ns (su [(1,.loc 1 0),(4,.loc 4 0),(6,.loc 6 0),(28,.bsl 400280 3),(29,Y 3),(30,Y 0),(7,Y 0),(8,.loc 1 1)] [(1,.box 43 [Y o1.Kind,Y o1.A,Y o1.B,Y o1.C,D o1.S,D o1.T,O o1.Must]),(400280,.box 107 [.loc 1 1,.loc 1 2,.loc 1 3]),(6,.box 143 [.nloc 6 0,.ownb 5060]),(5060,.arr 5 1 (r6.2.2.map zAN)),(4,.box 101 [D r3.1.word,D r3.1.fields])] (zBB [0,1,0,7,0,16,48,127] mixed (by kernel_rfl) (by kernel_rfl) Z Z (ve [8] [70] [4] [(35,.loc 4 1)] ?_))))))))))))))))))))))))))
   refine vf [9,70] [72] [] [4] [4] [(36,D r3.1.fields)] [(4,.box 101 [D r3.1.word,D r3.1.fields])] ?_
   refine ve [14] [74] [] [(37,Y 0)] ?_
   refine vt (chr r3.1.fields 0) [(76,[])] [72,74] [76] [] [] [] (fun b8=>[(38,.v (.int .u8 b8))]) (fun b8=>[]) Z Z (fun _=>Z) (fun w0 X X0 σ0 _=>by refine zBZ (T:=tab) (s:=r3.1.fields) Z Z Z Z Z Z Z fun b8 hb8=>?_;exact pz) fun b8 hb8=>?_
   refine ve [16] [78] [1] [(39,.loc 1 1)] ?_
   refine ve [78] [80] [1] [(40,.loc 1 1)] ?_
   refine vf [3,80] [82] [] [1] [1] [(41,Y o1.A)] [(1,.box 43 [Y o1.Kind,Y o1.A,Y o1.B,Y o1.C,D o1.S,D o1.T,O o1.Must])] ?_
   refine vt (zB1 fu b8 o1.A r6.2.2) [(84,[]),(10121,[]),(13,[6,5060])] [12,13,76,82,10121] [84,10121,13] [5060] [6] [] (fun r9=>[(42,.tup [])]) (fun r9=>[(5060,.arr 5 1 (r9.map zAN)),(6,.box 143 [.nloc 6 0,.ownb 5060])]) Z Z (fun _=>Z) (fun w0 X X0 σ0 _=>by refine tu [5060] (enc:=fun (r9:(List Int))=>.tup []) (Sr:=fun (r9:(List Int))=>[(6,.box 143 [.nloc 6 0,.ownb 5060]),(5060,.arr 5 1 (r9.map zAN))]) (qs:=[.loc 6 0,.v (.int .u8 b8),Y o1.A]) (Sc:=[(6,.box 143 [.nloc 6 0,.ownb 5060]),(5060,.arr 5 1 (r6.2.2.map zAN))]) (N1:=[6]) (NR:=[6,5060]) (fun r9 hr9=>fr [(900000,6),(900001,5060)] [900000,900001] (zFC fu b8 o1.A r6.2.2 _ hr9)) zQu Z Z Z Z Z Z Z Z fun r9 hr9=>?_;exact pz) fun r9 hr9=>?_
   refine zBf Z Z (zAK (zAA (zAC (zA2 (T:=tab) 1 Z Z Z Z Z (pq 1 Z (zAE (zBM 3 (sr (pq 1 Z (ns (zAD (zAQ Z (zAB (zAA (zAD (zAL (sr (pq 1 Z (zEJ (T:=tab) (i:=1) Z Z Z Z Z Z Z Z (pq 3 Z (ns (su [(1,.loc 1 0),(4,.loc 4 0),(6,.loc 6 0),(28,.bsl 400280 3),(29,Y 3),(30,Y 1),(7,Y 1),(8,.loc 1 2)] [(6,.box 143 [.nloc 6 0,.ownb 5060]),(5060,.arr 5 1 (r9.map zAN)),(1,.box 43 [Y o1.Kind,Y o1.A,Y o1.B,Y o1.C,D o1.S,D o1.T,O o1.Must]),(400280,.box 107 [.loc 1 1,.loc 1 2,.loc 1 3]),(4,.box 101 [D r3.1.word,D r3.1.fields])] (zBB [0,1,0,7,0,16,48,127] mixed (by kernel_rfl) (by kernel_rfl) Z Z (ve [8] [70] [4] [(35,.loc 4 1)] ?_))))))))))))))))))))))))
   refine vf [9,70] [72] [] [4] [4] [(36,D r3.1.fields)] [(4,.box 101 [D r3.1.word,D r3.1.fields])] ?_
   refine ve [14] [74] [] [(37,Y 1)] ?_
   refine vt (chr r3.1.fields 1) [(76,[])] [72,74] [76] [] [] [] (fun b10=>[(38,.v (.int .u8 b10))]) (fun b10=>[]) Z Z (fun _=>Z) (fun w0 X X0 σ0 _=>by refine zBZ (T:=tab) (s:=r3.1.fields) Z Z Z Z Z Z Z fun b10 hb10=>?_;exact pz) fun b10 hb10=>?_
   refine ve [16] [78] [1] [(39,.loc 1 2)] ?_
   refine ve [78] [80] [1] [(40,.loc 1 2)] ?_
   refine vf [3,80] [82] [] [1] [1] [(41,Y o1.B)] [(1,.box 43 [Y o1.Kind,Y o1.A,Y o1.B,Y o1.C,D o1.S,D o1.T,O o1.Must])] ?_
   refine vt (zB1 fu b10 o1.B r9) [(84,[]),(10121,[]),(13,[6,5060])] [12,13,76,82,10121] [84,10121,13] [5060] [6] [] (fun r11=>[(42,.tup [])]) (fun r11=>[(5060,.arr 5 1 (r11.map zAN)),(6,.box 143 [.nloc 6 0,.ownb 5060])]) Z Z (fun _=>Z) (fun w0 X X0 σ0 _=>by refine tu [5060] (enc:=fun (r11:(List Int))=>.tup []) (Sr:=fun (r11:(List Int))=>[(6,.box 143 [.nloc 6 0,.ownb 5060]),(5060,.arr 5 1 (r11.map zAN))]) (qs:=[.loc 6 0,.v (.int .u8 b10),Y o1.B]) (Sc:=[(6,.box 143 [.nloc 6 0,.ownb 5060]),(5060,.arr 5 1 (r9.map zAN))]) (N1:=[6]) (NR:=[6,5060]) (fun r11 hr11=>fr [(900000,6),(900001,5060)] [900000,900001] (zFC fu b10 o1.B r9 _ hr11)) zQu Z Z Z Z Z Z Z Z fun r11 hr11=>?_;exact pz) fun r11 hr11=>?_
   refine zBf Z Z (zAK (zAA (zAC (zA2 (T:=tab) 2 Z Z Z Z Z (pq 1 Z (zAE (zBM 2 (sr (pq 1 Z (ns (zAD (zAQ Z (zAB (zAA (zAD (zAL (sr (pq 1 Z (zEJ (T:=tab) (i:=2) Z Z Z Z Z Z Z Z (pq 3 Z (ns (su [(1,.loc 1 0),(4,.loc 4 0),(6,.loc 6 0),(28,.bsl 400280 3),(29,Y 3),(30,Y 2),(7,Y 2),(8,.loc 1 3)] [(6,.box 143 [.nloc 6 0,.ownb 5060]),(5060,.arr 5 1 (r11.map zAN)),(1,.box 43 [Y o1.Kind,Y o1.A,Y o1.B,Y o1.C,D o1.S,D o1.T,O o1.Must]),(400280,.box 107 [.loc 1 1,.loc 1 2,.loc 1 3]),(4,.box 101 [D r3.1.word,D r3.1.fields])] (zBB [0,1,0,7,0,16,48,127] mixed (by kernel_rfl) (by kernel_rfl) Z Z (ve [8] [70] [4] [(35,.loc 4 1)] ?_))))))))))))))))))))))))
   refine vf [9,70] [72] [] [4] [4] [(36,D r3.1.fields)] [(4,.box 101 [D r3.1.word,D r3.1.fields])] ?_
   refine ve [14] [74] [] [(37,Y 2)] ?_
   refine vt (chr r3.1.fields 2) [(76,[])] [72,74] [76] [] [] [] (fun b12=>[(38,.v (.int .u8 b12))]) (fun b12=>[]) Z Z (fun _=>Z) (fun w0 X X0 σ0 _=>by refine zBZ (T:=tab) (s:=r3.1.fields) Z Z Z Z Z Z Z fun b12 hb12=>?_;exact pz) fun b12 hb12=>?_
   refine ve [16] [78] [1] [(39,.loc 1 3)] ?_
   refine ve [78] [80] [1] [(40,.loc 1 3)] ?_
   refine vf [3,80] [82] [] [1] [1] [(41,Y o1.C)] [(1,.box 43 [Y o1.Kind,Y o1.A,Y o1.B,Y o1.C,D o1.S,D o1.T,O o1.Must])] ?_
   refine vt (zB1 fu b12 o1.C r11) [(84,[]),(10121,[]),(13,[6,5060])] [12,13,76,82,10121] [84,10121,13] [5060] [6] [] (fun r13=>[(42,.tup [])]) (fun r13=>[(5060,.arr 5 1 (r13.map zAN)),(6,.box 143 [.nloc 6 0,.ownb 5060])]) Z Z (fun _=>Z) (fun w0 X X0 σ0 _=>by refine tu [5060] (enc:=fun (r13:(List Int))=>.tup []) (Sr:=fun (r13:(List Int))=>[(6,.box 143 [.nloc 6 0,.ownb 5060]),(5060,.arr 5 1 (r13.map zAN))]) (qs:=[.loc 6 0,.v (.int .u8 b12),Y o1.C]) (Sc:=[(6,.box 143 [.nloc 6 0,.ownb 5060]),(5060,.arr 5 1 (r11.map zAN))]) (N1:=[6]) (NR:=[6,5060]) (fun r13 hr13=>fr [(900000,6),(900001,5060)] [900000,900001] (zFC fu b12 o1.C r11 _ hr13)) zQu Z Z Z Z Z Z Z Z fun r13 hr13=>?_;exact pz) fun r13 hr13=>?_
   refine zBf Z Z (zAK (zAA (zAC (zA2 (T:=tab) 3 Z Z Z Z Z (pq 1 Z (zAE (zBM 1 (sr (pq 1 Z (ns (zAD (zAZ Z (zAY Z (zAA (zAD (sr (tu [400440] (enc:=fun (r14:Unit)=>.bsl 400440 2) (Sr:=fun (r14:Unit)=>[(1,.box 43 [Y o1.Kind,Y o1.A,Y o1.B,Y o1.C,D o1.S,D o1.T,O o1.Must]),(400440,.box 112 [.loc 1 4,.loc 1 5])]) (qs:=[.loc 1 0]) (Sc:=[(1,.box 43 [Y o1.Kind,Y o1.A,Y o1.B,Y o1.C,D o1.S,D o1.T,O o1.Must])]) (N1:=[1]) (NR:=[1,400440]) (fun r14 hr14=>fr [(9,400440),(900000,1)] [9,900000] (zH9 fu o1 _ hr14)) zQp Z Z Z Z Z Z Z Z fun r14 hr14=>pq 2 Z (ns (zAL (zGq 3 (sr (pq 1 Z (ns (zAD (zAQ Z (zAB (zAA (zAD (zBi (zHD fu o1 r3) (fun (l19:(List Int))=>[(4,.loc 4 0),(6,.loc 6 0),(44,.bsl 400440 2),(45,Y 2),(46,Y 0)]) (fun (l19:(List Int))=>[(6,.box 143 [.nloc 6 0,.ownb 5060]),(5060,.arr 5 1 (l19.map zAN)),(1,.box 43 [Y o1.Kind,Y o1.A,Y o1.B,Y o1.C,D o1.S,D o1.T,O o1.Must]),(400440,.box 112 [.loc 1 4,.loc 1 5]),(4,.box 101 [D r3.1.word,D r3.1.fields])]) ?_ fun hj2=>?_)))))))))))))))))))))))))))))
   ·rintro l19
    refine zAA (zAC (zA2 (T:=tab) 1 Z Z Z Z Z (pq 1 Z (zAE (zBM 2 (sr (pq 1 Z (ns (zAD (zAQ Z (zAB (zAA (zAD (zAL (sr (pq 1 Z (zEJ (T:=tab) (i:=1) Z Z Z Z Z Z Z Z (pq 3 Z (ns (sr (pq 3 Z (zA2 (T:=tab) 4 Z Z Z Z Z (zBZ (T:=tab) (s:=r3.1.fields) Z Z Z Z Z Z Z fun b20 hb20=>pq 1 Z (ns (zAH Z ?_ ?_)))))))))))))))))))))))))
    ·exact zAC (pq 4 Z (pc (zPQ fu o1.T) zUh Z Z Z Z fun r21 hr21=>zCW Z Z Z Z Z Z fun s22 hs22=>tu [5060] (enc:=fun (r23:(Int×Bool×(List Int)))=>.tup [Y r23.1,.err r23.2.1]) (Sr:=fun (r23:(Int×Bool×(List Int)))=>[(6,.box 143 [.nloc 6 0,.ownb 5060]),(5060,.arr 5 1 (r23.2.2.map zAN))]) (qs:=[.loc 6 0,D s22]) (Sc:=[(6,.box 143 [.nloc 6 0,.ownb 5060]),(5060,.arr 5 1 (l19.map zAN))]) (N1:=[6]) (NR:=[6,5060]) (fun r23 hr23=>fr [(900000,6),(900001,5060)] [900000,900001] (zAd fu s22 l19 _ hr23)) zH1 Z Z Z Z Z Z Z Z fun r23 hr23=>zAE (zAK (zAA (zAC (zA2 (T:=tab) 2 Z Z Z Z Z (pq 1 Z (zAE (zBM 1 (sr (pq 1 Z (ns (zAD (zAZ Z (zAY Z (zAA (sr (pq 1 Z (tu [] (enc:=fun (r24:Bs)=>D r24) (Sr:=fun (r24:Bs)=>[(6,.box 143 [.nloc 6 0,.junk])]) (qs:=[.loc 6 0]) (Sc:=[(6,.box 143 [.nloc 6 0,.ownb 5060]),(5060,.arr 5 1 (r23.2.2.map zAN))]) (N1:=[6,5060]) (NR:=[6]) (fun r24 hr24=>fr [(900000,6),(900001,5060)] [900000,900001] (zDz fu r23.2.2 _ hr24)) zOe Z Z Z Z Z Z Z Z fun r24 hr24=>pq 2 Z (ns rN))))))))))))))))))))
    ·exact zAB (zAK (zAA (zAC (zA2 (T:=tab) 2 Z Z Z Z Z (pq 1 Z (zAE (zBM 1 (sr (pq 1 Z (ns (zAD (zAZ Z (zAY Z (zAA (sr (pq 1 Z (tu [] (enc:=fun (r25:Bs)=>D r25) (Sr:=fun (r25:Bs)=>[(6,.box 143 [.nloc 6 0,.junk])]) (qs:=[.loc 6 0]) (Sc:=[(6,.box 143 [.nloc 6 0,.ownb 5060]),(5060,.arr 5 1 (l19.map zAN))]) (N1:=[6,5060]) (NR:=[6]) (fun r25 hr25=>fr [(900000,6),(900001,5060)] [900000,900001] (zDz fu l19 _ hr25)) zOe Z Z Z Z Z Z Z Z fun r25 hr25=>pq 2 Z (ns rN))))))))))))))))))
   ·refine zAL (sr (pq 1 Z (zEJ (T:=tab) (i:=0) Z Z Z Z Z Z Z Z (pq 3 Z (ns (sr (pq 3 Z (zA2 (T:=tab) 3 Z Z Z Z Z (zBZ (T:=tab) (s:=r3.1.fields) Z Z Z Z Z Z Z fun b15 hb15=>pq 1 Z (ns (zAH Z ?_ ?_)))))))))))
    ·exact zAC (pq 4 Z (pc (zPQ fu o1.S) zUh Z Z Z Z fun r16 hr16=>zCW Z Z Z Z Z Z fun s17 hs17=>tu [5060] (enc:=fun (r18:(Int×Bool×(List Int)))=>.tup [Y r18.1,.err r18.2.1]) (Sr:=fun (r18:(Int×Bool×(List Int)))=>[(6,.box 143 [.nloc 6 0,.ownb 5060]),(5060,.arr 5 1 (r18.2.2.map zAN))]) (qs:=[.loc 6 0,D s17]) (Sc:=[(6,.box 143 [.nloc 6 0,.ownb 5060]),(5060,.arr 5 1 (r13.map zAN))]) (N1:=[6]) (NR:=[6,5060]) (fun r18 hr18=>fr [(900000,6),(900001,5060)] [900000,900001] (zAd fu s17 r13 _ hr18)) zH1 Z Z Z Z Z Z Z Z fun r18 hr18=>zAE (zAK (ps (hj2 r18.2.2)))))
    ·exact zAB (zAK (ps (hj2 r13)))
  ·refine zAH Z ?_ ?_
   ·exact zAC (pq 1 Z (tu [5060] (enc:=fun (r4:(Int×Bool×(List Int)))=>.tup [Y r4.1,.err r4.2.1]) (Sr:=fun (r4:(Int×Bool×(List Int)))=>[(6,.box 143 [.nloc 6 0,.ownb 5060]),(5060,.arr 5 1 (r4.2.2.map zAN))]) (qs:=[.loc 6 0,D [33]]) (Sc:=[(6,.box 143 [.nloc 6 0,.ownb 5060]),(5060,.arr 5 1 ([].map zAN))]) (N1:=[6]) (NR:=[6,5060]) (fun r4 hr4=>fr [(900000,6),(900001,5060)] [900000,900001] (zAd fu [33] [] _ hr4)) zH1 Z Z Z Z Z Z Z Z fun r4 hr4=>zAE (ps (hj1 r4.2.2))))
   ·exact zAB (ps (hj1 []))
def zEO (fu:Nat) (s1:Bs) (r2:(Bs×Bool)) (r5:Int) (c28:Int) (c29:Int) (c30:Int) (x_:Bs×Bool×Bs×Bs):Option (Op×Int):=match x_ with
 | (rest41,ok42,c43,c44)=>bnd (zHb fu (⟨r5,c28,c29,c30,c43,c44,r2.2⟩:Op)) fun r45=>cnd (!ok42) (some ((⟨0,0,0,0,[],[],false⟩:Op),2)) (cnd (!(rest41==([]:Bs))) (some ((⟨0,0,0,0,[],[],false⟩:Op),2)) (cnd (r45.2 != 0) (some ((⟨0,0,0,0,[],[],false⟩:Op),2)) (cnd (!(r45.1==s1)) (some ((⟨0,0,0,0,[],[],false⟩:Op),2)) (some ((⟨r5,c28,c29,c30,c43,c44,r2.2⟩:Op),0)))))
def zDh (fu:Nat) (s1:Bs) (r2:(Bs×Bool)) (r5:Int) (r6:(Op_form×Bool)) (c28:Int) (c29:Int) (c30:Int) (x_:Bs×Bool×Bs):Option (Op×Int):=match x_ with
 | (rest35,ok36,c37)=>cnd ok36 (bnd (chr r6.1.fields 4) fun b38=>cnd (b38==115) (bnd (zBY fu rest35) fun r39=>bnd (zAR fu r39.2.1 [32]) fun r40=>cnd r40.2 ((zEO fu s1 r2 r5 c28 c29 c30) (r39.2.1,r39.2.2,c37,r39.1)) ((zEO fu s1 r2 r5 c28 c29 c30) (r39.2.1,r39.2.2,c37,r39.1))) ((zEO fu s1 r2 r5 c28 c29 c30) (rest35,ok36,c37,[]))) ((zEO fu s1 r2 r5 c28 c29 c30) (rest35,ok36,c37,[]))
def zFw (fu:Nat) (s1:Bs) (r2:(Bs×Bool)) (r5:Int) (r6:(Op_form×Bool)) (x_:Bs×Bool×Int×Int×Int):Option (Op×Int):=match x_ with
 | (rest26,ok27,c28,c29,c30)=>bnd (zEP fu) fun r31=>cnd ok27 (bnd (chr r6.1.fields 3) fun b32=>cnd (b32==115) (bnd (zBY fu rest26) fun r33=>bnd (zAR fu r33.2.1 [32]) fun r34=>cnd r34.2 ((zDh fu s1 r2 r5 r6 c28 c29 c30) (r34.1,r33.2.2,r33.1)) ((zDh fu s1 r2 r5 r6 c28 c29 c30) (r33.2.1,r33.2.2,r33.1))) ((zDh fu s1 r2 r5 r6 c28 c29 c30) (rest26,ok27,[]))) ((zDh fu s1 r2 r5 r6 c28 c29 c30) (rest26,ok27,[]))
def zGb (fu:Nat) (s1:Bs) (r2:(Bs×Bool)) (r5:Int) (r6:(Op_form×Bool)) (c14:Int) (x_:Bs×Bool×Int):Option (Op×Int):=match x_ with
 | (rest19,ok20,c21)=>cnd ok20 (bnd (chr r6.1.fields 2) fun b22=>cnd (b22 != 46) (bnd (zBA fu rest19 [32]) fun r23=>bnd (chr r6.1.fields 2) fun b24=>bnd (zBz fu b24 r23.1) fun r25=>(zFw fu s1 r2 r5 r6) (r23.2.1,r25.2,c14,c21,r25.1)) ((zFw fu s1 r2 r5 r6) (rest19,ok20,c14,c21,0))) ((zFw fu s1 r2 r5 r6) (rest19,ok20,c14,c21,0))
def zGa (fu:Nat) (s1:Bs) (r2:(Bs×Bool)) (r5:Int) (r6:(Op_form×Bool)) (x_:Bs×Bool×Int):Option (Op×Int):=match x_ with
 | (rest12,ok13,c14)=>cnd ok13 (bnd (chr r6.1.fields 1) fun b15=>cnd (b15 != 46) (bnd (zBA fu rest12 [32]) fun r16=>bnd (chr r6.1.fields 1) fun b17=>bnd (zBz fu b17 r16.1) fun r18=>(zGb fu s1 r2 r5 r6 c14) (r16.2.1,r18.2,r18.1)) ((zGb fu s1 r2 r5 r6 c14) (rest12,ok13,0))) ((zGb fu s1 r2 r5 r6 c14) (rest12,ok13,0))
def zDC (fu:Nat) (s1:Bs):Option (Op×Int):=bnd (zAR fu s1 [33]) fun r2=>bnd (zBA fu r2.1 [32]) fun r3=>bnd (zHe fu) fun r4=>bnd (zA9 fu r4 r3.1) fun r5=>bnd (zEe fu r5) fun r6=>bnd (zD8 fu) fun r7=>cnd r6.2 (bnd (chr r6.1.fields 0) fun b8=>cnd (b8 != 46) (bnd (zBA fu r3.2.1 [32]) fun r9=>bnd (chr r6.1.fields 0) fun b10=>bnd (zBz fu b10 r9.1) fun r11=>(zGa fu s1 r2 r5 r6) (r9.2.1,r11.2,r11.1)) ((zGa fu s1 r2 r5 r6) (r3.2.1,r6.2,0))) ((zGa fu s1 r2 r5 r6) (r3.2.1,r6.2,0))
theorem zHc (fu:Nat) (s1:Bs):∀r,zDC fu s1=some r->DC zAf Tryz.prog 19 [D s1] (.tup [.agg (cOp r.1),Y r.2]):=by
 refine fcI Tryz.func19 Z fun w0 X X0 σ0 _=>sr (zAs (T:=tab) 2 Z Z Z Z Z Z Z Z Z (pq 1 Z (ns (sr (pq 1 Z (pc (zEV fu s1 [33]) zQl Z Z Z Z fun r2 hr2=>pq 5 Z (ns (sr (pq 1 Z (pc (zEZ fu r2.1 [32]) zMd Z Z Z Z fun r3 hr3=>pq 7 Z (ns (sr (zI8 (enc:=fun (r4:(List Bs))=>.sl 1 false (r4.map cStr)) (qs:=[]) (zJ7 fu) Z Z trivial (fun _=>Z) zUV Z Z fun r4 hr4=>pq 1 Z (pc (zE6 fu r4 r3.1) zUU Z Z Z Z fun r5 hr5=>pq 1 Z (zA4 (T:=tab) Z Z Z Z Z Z Z (zAs (T:=tab) 8 Z Z Z Z Z Z Z Z Z (zAG (T:=tab) Z Z Z Z Z Z Z Z Z Z Z Z (ns (sr (pq 2 Z (pc (zHE fu r5) zQm Z Z Z Z fun r6 hr6=>pq 3 Z (zAs (T:=tab) 9 Z Z Z Z Z Z Z Z Z (zAG (T:=tab) Z Z Z Z Z Z Z Z Z Z Z Z (pq 1 Z (ns (zAD (sr (tu [400410] (enc:=fun (r7:Unit)=>.bsl 400410 3) (Sr:=fun (r7:Unit)=>[(8,.box 43 [Y r5,Y 0,Y 0,Y 0,D [],D [],O r2.2]),(400410,.box 107 [.loc 8 1,.loc 8 2,.loc 8 3])]) (qs:=[.loc 8 0]) (Sc:=[(8,.box 43 [Y r5,Y 0,Y 0,Y 0,D [],D [],O r2.2])]) (N1:=[8]) (NR:=[8,400410]) (fun r7 hr7=>fr [(12,400410),(900000,8)] [12,900000] (zGs fu (⟨r5,0,0,0,[],[],r2.2⟩:Op) _ hr7)) zQn Z Z Z Z Z Z Z Z fun r7 hr7=>pq 2 Z (ns (zBi (zFw fu s1 r2 r5 r6) (fun ((rest26,ok27,c28,c29,c30):Bs×Bool×Int×Int×Int)=>[(0,D s1),(2,.loc 2 0),(4,D rest26),(8,.loc 8 0),(9,.loc 9 0),(10,O ok27)]) (fun ((rest26,ok27,c28,c29,c30):Bs×Bool×Int×Int×Int)=>[(8,.box 43 [Y r5,Y c28,Y c29,Y c30,D [],D [],O r2.2]),(9,.box 101 [D r6.1.word,D r6.1.fields]),(2,.box 43 [Y 0,Y 0,Y 0,Y 0,D [],D [],O false])]) ?_ fun hj3=>?_))))))))))))))))))))))))))))))
 ·rintro ⟨rest26,ok27,c28,c29,c30⟩
  refine zRs (m':=bnd (zEP fu) fun r31=>cnd ok27 (bnd (chr r6.1.fields 3) fun b32=>cnd (b32==115) (bnd (zBY fu rest26) fun r33=>bnd (zAR fu r33.2.1 [32]) fun r34=>cnd r34.2 ((zDh fu s1 r2 r5 r6 c28 c29 c30) (r34.1,r33.2.2,r33.1)) ((zDh fu s1 r2 r5 r6 c28 c29 c30) (r33.2.1,r33.2.2,r33.1))) ((zDh fu s1 r2 r5 r6 c28 c29 c30) (rest26,ok27,[]))) ((zDh fu s1 r2 r5 r6 c28 c29 c30) (rest26,ok27,[]))) Z (zAA (zAD (sr (tu [400740] (enc:=fun (r31:Unit)=>.bsl 400740 2) (Sr:=fun (r31:Unit)=>[(8,.box 43 [Y r5,Y c28,Y c29,Y c30,D [],D [],O r2.2]),(400740,.box 112 [.loc 8 4,.loc 8 5])]) (qs:=[.loc 8 0]) (Sc:=[(8,.box 43 [Y r5,Y c28,Y c29,Y c30,D [],D [],O r2.2])]) (N1:=[8]) (NR:=[8,400740]) (fun r31 hr31=>fr [(9,400740),(900000,8)] [9,900000] (zH9 fu (⟨r5,c28,c29,c30,[],[],r2.2⟩:Op) _ hr31)) zQp Z Z Z Z Z Z Z Z fun r31 hr31=>pq 2 Z (ns (zBi (zEO fu s1 r2 r5 c28 c29 c30) (fun ((rest41,ok42,c43,c44):Bs×Bool×Bs×Bs)=>[(0,D s1),(2,.loc 2 0),(4,D rest41),(8,.loc 8 0),(10,O ok42)]) (fun ((rest41,ok42,c43,c44):Bs×Bool×Bs×Bs)=>[(8,.box 43 [Y r5,Y c28,Y c29,Y c30,D c43,D c44,O r2.2]),(2,.box 43 [Y 0,Y 0,Y 0,Y 0,D [],D [],O false])]) ?_ fun hj5=>?_))))))
  ·rintro ⟨rest41,ok42,c43,c44⟩
   refine zAA (zAD (sr (pq 1 Z (pc (zMV fu (⟨r5,c28,c29,c30,c43,c44,r2.2⟩:Op)) zUX Z Z Z Z fun r45 hr45=>pq 5 Z (ns (sr (pq 3 Z (zAF (j:=117) Z ?_ ?_))))))))
   ·refine pq 12 Z (zAE (zAA (zAQ Z ?_)))
    exact sr (zA4 (T:=tab) Z Z Z Z Z Z Z (zAG (T:=tab) Z Z Z Z Z Z Z Z Z Z Z Z (pq 1 Z (ns rN))))
   ·refine pq 4 Z (zAF (j:=121) Z ?_ ?_)
    ·refine pq 8 Z (zAE (zAA (zAQ Z ?_)))
     exact sr (zA4 (T:=tab) Z Z Z Z Z Z Z (zAG (T:=tab) Z Z Z Z Z Z Z Z Z Z Z Z (pq 1 Z (ns rN))))
    ·refine pq 4 Z (zAF (j:=125) Z ?_ ?_)
     ·refine pq 4 Z (zAE (zAA (zAQ Z ?_)))
      exact sr (zA4 (T:=tab) Z Z Z Z Z Z Z (zAG (T:=tab) Z Z Z Z Z Z Z Z Z Z Z Z (pq 1 Z (ns rN))))
     ·refine pq 4 Z (ns (zAH Z ?_ ?_))
      ·exact sr (zA4 (T:=tab) Z Z Z Z Z Z Z (zAG (T:=tab) Z Z Z Z Z Z Z Z Z Z Z Z (pq 1 Z (ns rN))))
      ·exact zAB (zAA (sr (pq 1 Z (zAG (T:=tab) Z Z Z Z Z Z Z Z Z Z Z Z (pq 1 Z (ns rN))))))
  ·refine zAL (zGq 3 (sr (pq 1 Z (ns (zAD (zAQ Z (zAB (zAA (zAD (zBi (zDh fu s1 r2 r5 r6 c28 c29 c30) (fun ((rest35,ok36,c37):Bs×Bool×Bs)=>[(0,D s1),(2,.loc 2 0),(4,D rest35),(8,.loc 8 0),(9,.loc 9 0),(10,O ok36),(74,.bsl 400740 2),(75,Y 2),(76,Y 0)]) (fun ((rest35,ok36,c37):Bs×Bool×Bs)=>[(8,.box 43 [Y r5,Y c28,Y c29,Y c30,D c37,D [],O r2.2]),(400740,.box 112 [.loc 8 4,.loc 8 5]),(9,.box 101 [D r6.1.word,D r6.1.fields]),(2,.box 43 [Y 0,Y 0,Y 0,Y 0,D [],D [],O false])]) ?_ fun hj4=>?_))))))))))
   ·rintro ⟨rest35,ok36,c37⟩
    refine zAA (zAC (zA2 (T:=tab) 1 Z Z Z Z Z (pq 1 Z (zAE (zBM 2 (sr (pq 1 Z (ns (zAD (zAQ Z (zAB (zAA (zAD (zAL (sr (pq 1 Z (zEJ (T:=tab) (i:=1) Z Z Z Z Z Z Z Z (pq 3 Z (ns (sr (pq 2 Z (zAF (j:=82) Z ?_ ?_))))))))))))))))))))))
    ·refine pq 3 Z (zA2 (T:=tab) 4 Z Z Z Z Z (zBZ (T:=tab) (s:=r6.1.fields) Z Z Z Z Z Z Z fun b38 hb38=>pq 2 Z (ns (zAH Z ?_ ?_))))
     ·refine sr (pq 2 Z (pc (zHz fu rest35) zUW Z Z Z Z fun r39 hr39=>pq 5 Z (zAG (T:=tab) Z Z Z Z Z Z Z Z Z Z Z Z (pq 2 Z (ns (sr (pq 1 Z (pc (zEV fu r39.2.1 [32]) zQl Z Z Z Z fun r40 hr40=>pq 5 Z (ns (sr (pq 2 Z (zAF (j:=104) Z ?_ ?_))))))))))))
      ·refine pq 3 Z (zAE (zAA (zAZ Z ?_)))
       exact zAB (zAK (zAA (zAC (zA2 (T:=tab) 2 Z Z Z Z Z (pq 1 Z (zAE (zBM 1 (sr (pq 1 Z (ns (zAD (zAZ Z (zAY Z (ps (hj5 (r39.2.1,r39.2.2,c37,r39.1))))))))))))))))
      ·refine pq 3 Z (zAE (zAA (zAZ Z ?_)))
       exact zAB (zAK (zAA (zAC (zA2 (T:=tab) 2 Z Z Z Z Z (pq 1 Z (zAE (zBM 1 (sr (pq 1 Z (ns (zAD (zAZ Z (zAY Z (ps (hj5 (r39.2.1,r39.2.2,c37,r39.1))))))))))))))))
     ·exact zAB (zAK (zAA (zAC (zA2 (T:=tab) 2 Z Z Z Z Z (pq 1 Z (zAE (zBM 1 (sr (pq 1 Z (ns (zAD (zAZ Z (zAY Z (ps (hj5 (rest35,ok36,c37,[]))))))))))))))))
    ·refine pq 7 Z (zAE (zAA (zAZ Z ?_)))
     exact zAB (zAK (zAA (zAC (zA2 (T:=tab) 2 Z Z Z Z Z (pq 1 Z (zAE (zBM 1 (sr (pq 1 Z (ns (zAD (zAZ Z (zAY Z (ps (hj5 (rest35,ok36,c37,[]))))))))))))))))
   ·refine zAL (sr (pq 1 Z (zEJ (T:=tab) (i:=0) Z Z Z Z Z Z Z Z (pq 3 Z (ns (sr (pq 2 Z (zAF (j:=82) Z ?_ ?_))))))))
    ·refine pq 3 Z (zA2 (T:=tab) 3 Z Z Z Z Z (zBZ (T:=tab) (s:=r6.1.fields) Z Z Z Z Z Z Z fun b32 hb32=>pq 2 Z (ns (zAH Z ?_ ?_))))
     ·refine sr (pq 2 Z (pc (zHz fu rest26) zUW Z Z Z Z fun r33 hr33=>pq 5 Z (zAG (T:=tab) Z Z Z Z Z Z Z Z Z Z Z Z (pq 2 Z (ns (sr (pq 1 Z (pc (zEV fu r33.2.1 [32]) zQl Z Z Z Z fun r34 hr34=>pq 5 Z (ns (sr (pq 2 Z (zAF (j:=104) Z ?_ ?_))))))))))))
      ·refine pq 3 Z (zAE (zAA (zAQ Z ?_)))
       exact zAC (pq 2 Z (zAE (zAK (ps (hj4 (r34.1,r33.2.2,r33.1))))))
      ·refine pq 3 Z (zAE (zAA (zAZ Z ?_)))
       exact zAB (zAK (ps (hj4 (r33.2.1,r33.2.2,r33.1))))
     ·exact zAB (zAK (ps (hj4 (rest26,ok27,[]))))
    ·refine pq 7 Z (zAE (zAA (zAZ Z ?_)))
     exact zAB (zAK (ps (hj4 (rest26,ok27,[]))))
 ·refine zAL (zGq 4 (sr (pq 1 Z (ns (zAD (zAQ Z (zAB (zAA (zAD (zBi (zGa fu s1 r2 r5 r6) (fun ((rest12,ok13,c14):Bs×Bool×Int)=>[(0,D s1),(2,.loc 2 0),(4,D rest12),(8,.loc 8 0),(9,.loc 9 0),(10,O ok13),(41,.bsl 400410 3),(42,Y 3),(43,Y 0)]) (fun ((rest12,ok13,c14):Bs×Bool×Int)=>[(8,.box 43 [Y r5,Y c14,Y 0,Y 0,D [],D [],O r2.2]),(400410,.box 107 [.loc 8 1,.loc 8 2,.loc 8 3]),(9,.box 101 [D r6.1.word,D r6.1.fields]),(2,.box 43 [Y 0,Y 0,Y 0,Y 0,D [],D [],O false])]) ?_ fun hj1=>?_))))))))))
  ·rintro ⟨rest12,ok13,c14⟩
   refine zAA (zAC (zA2 (T:=tab) 1 Z Z Z Z Z (pq 1 Z (zAE (zBM 3 (sr (pq 1 Z (ns (zAD (zAQ Z (zAB (zAA (zAD (zBi (zGb fu s1 r2 r5 r6 c14) (fun ((rest19,ok20,c21):Bs×Bool×Int)=>[(0,D s1),(2,.loc 2 0),(4,D rest19),(8,.loc 8 0),(9,.loc 9 0),(10,O ok20),(41,.bsl 400410 3),(42,Y 3),(43,Y 1)]) (fun ((rest19,ok20,c21):Bs×Bool×Int)=>[(8,.box 43 [Y r5,Y c14,Y c21,Y 0,D [],D [],O r2.2]),(400410,.box 107 [.loc 8 1,.loc 8 2,.loc 8 3]),(9,.box 101 [D r6.1.word,D r6.1.fields]),(2,.box 43 [Y 0,Y 0,Y 0,Y 0,D [],D [],O false])]) ?_ fun hj2=>?_))))))))))))))
   ·rintro ⟨rest19,ok20,c21⟩
    refine zAA (zAC (zA2 (T:=tab) 2 Z Z Z Z Z (pq 1 Z (zAE (zBM 2 (sr (pq 1 Z (ns (zAD (zAQ Z (zAB (zAA (zAD (zAL (sr (pq 1 Z (zEJ (T:=tab) (i:=2) Z Z Z Z Z Z Z Z (pq 3 Z (ns (sr (pq 2 Z (zAF (j:=49) Z ?_ ?_))))))))))))))))))))))
    ·refine pq 3 Z (zBZ (T:=tab) (s:=r6.1.fields) Z Z Z Z Z Z Z fun b22 hb22=>pq 2 Z (ns (zAH Z ?_ ?_)))
     ·exact sr (pq 1 Z (pc (zEZ fu rest19 [32]) zMd Z Z Z Z fun r23 hr23=>pq 6 Z (ns (zAC (pq 4 Z (zBZ (T:=tab) (s:=r6.1.fields) Z Z Z Z Z Z Z fun b24 hb24=>pq 1 Z (pc (zFY fu b24 r23.1) zQo Z Z Z Z fun r25 hr25=>pq 4 Z (zAG (T:=tab) Z Z Z Z Z Z Z Z Z Z Z Z (pq 1 Z (zAE (zAK (zAA (zAC (zA2 (T:=tab) 3 Z Z Z Z Z (pq 1 Z (zAE (zBM 1 (sr (pq 1 Z (ns (zAD (zAZ Z (zAY Z (ps (hj3 (r23.2.1,r25.2,c14,c21,r25.1))))))))))))))))))))))))))
     ·exact zAB (zAK (zAA (zAC (zA2 (T:=tab) 3 Z Z Z Z Z (pq 1 Z (zAE (zBM 1 (sr (pq 1 Z (ns (zAD (zAZ Z (zAY Z (ps (hj3 (rest19,ok20,c14,c21,0))))))))))))))))
    ·refine pq 6 Z (zAE (zAA (zAZ Z ?_)))
     exact zAB (zAK (zAA (zAC (zA2 (T:=tab) 3 Z Z Z Z Z (pq 1 Z (zAE (zBM 1 (sr (pq 1 Z (ns (zAD (zAZ Z (zAY Z (ps (hj3 (rest19,ok20,c14,c21,0))))))))))))))))
   ·refine zAL (sr (pq 1 Z (zEJ (T:=tab) (i:=1) Z Z Z Z Z Z Z Z (pq 3 Z (ns (sr (pq 2 Z (zAF (j:=49) Z ?_ ?_))))))))
    ·refine pq 3 Z (zBZ (T:=tab) (s:=r6.1.fields) Z Z Z Z Z Z Z fun b15 hb15=>pq 2 Z (ns (zAH Z ?_ ?_)))
     ·exact sr (pq 1 Z (pc (zEZ fu rest12 [32]) zMd Z Z Z Z fun r16 hr16=>pq 6 Z (ns (zAC (pq 4 Z (zBZ (T:=tab) (s:=r6.1.fields) Z Z Z Z Z Z Z fun b17 hb17=>pq 1 Z (pc (zFY fu b17 r16.1) zQo Z Z Z Z fun r18 hr18=>pq 4 Z (zAG (T:=tab) Z Z Z Z Z Z Z Z Z Z Z Z (pq 1 Z (zAE (zAK (ps (hj2 (r16.2.1,r18.2,r18.1))))))))))))))
     ·exact zAB (zAK (ps (hj2 (rest12,ok13,0))))
    ·refine pq 6 Z (zAE (zAA (zAZ Z ?_)))
     exact zAB (zAK (ps (hj2 (rest12,ok13,0))))
  ·refine zAL (sr (pq 1 Z (zEJ (T:=tab) (i:=0) Z Z Z Z Z Z Z Z (pq 3 Z (ns (sr (pq 2 Z (zAF (j:=49) Z ?_ ?_))))))))
   ·refine pq 3 Z (zBZ (T:=tab) (s:=r6.1.fields) Z Z Z Z Z Z Z fun b8 hb8=>pq 2 Z (ns (zAH Z ?_ ?_)))
    ·exact sr (pq 1 Z (pc (zEZ fu r3.2.1 [32]) zMd Z Z Z Z fun r9 hr9=>pq 6 Z (ns (zAC (pq 4 Z (zBZ (T:=tab) (s:=r6.1.fields) Z Z Z Z Z Z Z fun b10 hb10=>pq 1 Z (pc (zFY fu b10 r9.1) zQo Z Z Z Z fun r11 hr11=>pq 4 Z (zAG (T:=tab) Z Z Z Z Z Z Z Z Z Z Z Z (pq 1 Z (zAE (zAK (ps (hj1 (r9.2.1,r11.2,r11.1))))))))))))))
    ·exact zAB (zAK (ps (hj1 (r3.2.1,r6.2,0))))
   ·refine pq 6 Z (zAE (zAA (zAZ Z ?_)))
    exact zAB (zAK (ps (hj1 (r3.2.1,r6.2,0))))
def zPn (fu:Nat) (c1:Bs):Option (Bs×Bs):=bnd (zKM fu c1 10) fun r2=>cnd (decide (r2>=0)) (bnd (rng .i64 (r2+1)) fun i3=>bnd (zC3 c1 0 i3) fun s4=>bnd (rng .i64 (r2+1)) fun i5=>bnd (zC3 c1 i5 ((c1.length:Nat):Int)) fun s6=>some (s4,s6)) (some (c1,[]))
theorem zNa (fu:Nat):∃r1 mid,Tryz.f73.body=some (zKR r1 mid 9 3 4 41)/\∀(c1:Bs) (l:Nat) w0 X X0 σ0 hl z,PW (⟨Tryz.prog,Tryz.f73,w0,X,X0,σ0,[0],fun _ _ _=>True,z,zAf,hl,none⟩:Ctx (Bs×Bs)) (cutM c1) r1 [.seq mid,.loopK (fun y a w=>Pre (⟨Tryz.prog,Tryz.f73,w0,X,X0,σ0,[0],fun _ _ _=>True,z,zAf,hl,none⟩:Ctx (Bs×Bs)) (zP6 l y.1) (zJa 9 y.2) a w) (fun _ _ _=>False)] (zMy l) (zJa 9 c1):=by
 refine ⟨_,_,Z,fun c1 l w0 X X0 σ0 hl z=>?_⟩
 refine zVu (m':=zPn fu c1) Z (zAC (pq 1 Z (ns (sr (pq 1 Z (pc (zMt fu c1 10) call74 Z Z Z Z fun r2 hr2=>pq 1 Z (ns (sr (pq 2 Z (ns (zAH Z ?_ ?_)))))))))))
 ·refine su [(0,.fn (.yield l) [] []),(1,.loc 0 0),(4,Y r2)] [(0,.box 9 [D c1])] (zBB [0,0,2,7,0,0,32,112,15,511] mixed (by kernel_rfl) (by kernel_rfl) Z Z (vf [1,2] [24] [] [0] [0] [(12,D c1)] [(0,.box 9 [D c1])] ?_))
  refine ve [8] [26] [] [(13,Y r2)] ?_
  refine vt (rng .i64 (r2+1)) [(28,[])] [26] [28] [] [] [] (fun i3=>[(14,Y i3)]) (fun i3=>[]) Z Z (fun _=>Z) (fun w0 X X0 σ0 _=>by refine zAI (T:=tab) Z Z Z Z fun i3 hi3=>?_;exact pz) fun i3 hi3=>?_
  refine vt (zC3 c1 0 i3) [(30,[])] [24,28] [30] [] [] [] (fun s4=>[(15,D s4)]) (fun s4=>[]) Z Z (fun _=>Z) (fun w0 X X0 σ0 _=>by refine zGE (T:=tab) Z Z Z Z Z Z Z Z fun s4 hs4=>?_;exact pz) fun s4 hs4=>?_
  refine vf [1,2] [32] [] [0] [0] [(16,D c1)] [(0,.box 9 [D c1])] ?_
  refine ve [8] [34] [] [(17,Y r2)] ?_
  refine vt (rng .i64 (r2+1)) [(36,[])] [34] [36] [] [] [] (fun i5=>[(18,Y i5)]) (fun i5=>[]) Z Z (fun _=>Z) (fun w0 X X0 σ0 _=>by refine zAI (T:=tab) Z Z Z Z fun i5 hi5=>?_;exact pz) fun i5 hi5=>?_
  refine vt (zC3 c1 i5 ((c1.length:Nat):Int)) [(38,[])] [32,36] [38] [] [] [] (fun s6=>[(19,D s6)]) (fun s6=>[]) Z Z (fun _=>Z) (fun w0 X X0 σ0 _=>by refine zGE (T:=tab) Z Z Z Z Z Z Z Z fun s6 hs6=>?_;exact pz) fun s6 hs6=>?_
  refine ve [30] [6] [] [(3,D s4)] ?_
  refine vs [1,2,38] [1] [] [0] [] [] [(0,.box 9 [D s6])] Z Z (fun w0 X X0 σ0 _=>by refine zAG (T:=tab) Z Z Z Z Z Z Z Z Z Z Z Z ?_;exact py) ?_
  exact zBf Z Z (zRt ⟨Z,Z,Z,trivial⟩ ⟨Z,trivial⟩ Z)
 ·exact zAC (pq 2 Z (zAG (T:=tab) Z Z Z Z Z Z Z Z Z Z Z Z (zAE (zRt ⟨Z,Z,Z,trivial⟩ ⟨Z,trivial⟩ Z))))
def zB0 (fu:Nat):List Bs->Nat×Int×(List Class×Bool)×Bool×(List Bs)×(List Op)×(List Op)×(List Hook×Bool)×Int×(List Op)×(List Op)->Option (Script×Int)
 | [],(k3,c4,c5,c6,l7,l8,l9,c10,c11,l12,l13)=>some ((⟨(c5.1++if c5.2 then [(⟨c6,l7,l8,l9,(c10.1++if c10.2 then [(⟨c11,l12⟩:Hook)] else [])⟩:Class)] else []),l13⟩:Script),0)
 | y14::ys15,(k3,c4,c5,c6,l7,l8,l9,c10,c11,l12,l13)=>bnd (zBq fu y14 [10]) fun r16=>cnd (r16==([]:Bs)) ((zB0 fu ys15) (k3,c4,c5,c6,l7,l8,l9,c10,c11,l12,l13)) (bnd (zDe fu r16 k3 c4 c5 c6 c10 c11 l7 l8 l9 l12) fun r17=>cnd r17.1 ((zB0 fu ys15) (r17.2.1,r17.2.2.1,r17.2.2.2.1,r17.2.2.2.2.1,r17.2.2.2.2.2.2.2.1,r17.2.2.2.2.2.2.2.2.1,r17.2.2.2.2.2.2.2.2.2.1,r17.2.2.2.2.2.1,r17.2.2.2.2.2.2.1,r17.2.2.2.2.2.2.2.2.2.2,l13)) (sel4 r17.2.1 (cnd (((l13.length:Nat):Int)==r17.2.2.1) (some ((⟨[],[]⟩:Script),3)) (bnd (zDC fu r16) fun r18=>bnd (zBr 72 (l13.length+([r18.1]:List Op).length)) fun _=>(zB0 fu ys15) (0,r17.2.2.1,r17.2.2.2.1,r17.2.2.2.2.1,r17.2.2.2.2.2.2.2.1,r17.2.2.2.2.2.2.2.2.1,r17.2.2.2.2.2.2.2.2.2.1,r17.2.2.2.2.2.1,r17.2.2.2.2.2.2.1,r17.2.2.2.2.2.2.2.2.2.2,(l13++[r18.1])))) (bnd (zJc r17.2.2.2.1.2) fun _=>cnd (((r17.2.2.2.2.2.2.2.2.1.length:Nat):Int)==r17.2.2.1) (some ((⟨[],[]⟩:Script),3)) (bnd (zDC fu r16) fun r19=>bnd (zBr 72 (r17.2.2.2.2.2.2.2.2.1.length+([r19.1]:List Op).length)) fun _=>(zB0 fu ys15) (1,r17.2.2.1,(r17.2.2.2.1.1,true),r17.2.2.2.2.1,r17.2.2.2.2.2.2.2.1,(r17.2.2.2.2.2.2.2.2.1++[r19.1]),r17.2.2.2.2.2.2.2.2.2.1,r17.2.2.2.2.2.1,r17.2.2.2.2.2.2.1,r17.2.2.2.2.2.2.2.2.2.2,l13))) (bnd (zJc r17.2.2.2.1.2) fun _=>cnd (((r17.2.2.2.2.2.2.2.2.2.1.length:Nat):Int)==r17.2.2.1) (some ((⟨[],[]⟩:Script),3)) (bnd (zDC fu r16) fun r20=>bnd (zBr 72 (r17.2.2.2.2.2.2.2.2.2.1.length+([r20.1]:List Op).length)) fun _=>(zB0 fu ys15) (2,r17.2.2.1,(r17.2.2.2.1.1,true),r17.2.2.2.2.1,r17.2.2.2.2.2.2.2.1,r17.2.2.2.2.2.2.2.2.1,(r17.2.2.2.2.2.2.2.2.2.1++[r20.1]),r17.2.2.2.2.2.1,r17.2.2.2.2.2.2.1,r17.2.2.2.2.2.2.2.2.2.2,l13))) (bnd (zJc r17.2.2.2.2.2.1.2) fun _=>cnd (((r17.2.2.2.2.2.2.2.2.2.2.length:Nat):Int)==r17.2.2.1) (some ((⟨[],[]⟩:Script),3)) (bnd (zDC fu r16) fun r21=>bnd (zBr 72 (r17.2.2.2.2.2.2.2.2.2.2.length+([r21.1]:List Op).length)) fun _=>(zB0 fu ys15) (3,r17.2.2.1,r17.2.2.2.1,r17.2.2.2.2.1,r17.2.2.2.2.2.2.2.1,r17.2.2.2.2.2.2.2.2.1,r17.2.2.2.2.2.2.2.2.2.1,(r17.2.2.2.2.2.1.1,true),r17.2.2.2.2.2.2.1,(r17.2.2.2.2.2.2.2.2.2.2++[r21.1]),l13)))))
def zES (fu:Nat) (s1:Bs):Option (Script×Int):=cnd (decide (((s1.length:Nat):Int)>16384)) (some ((⟨[],[]⟩:Script),3)) (bnd (zCJ fu 300) fun r2=>bnd (fits s1) fun _=>(zB0 fu) (zCK s1) (0,r2.2,(([]:List Class),false),false,([]:List Bs),([]:List Op),([]:List Op),(([]:List Hook),false),0,([]:List Op),([]:List Op)))
end Go.Proofs.YtoboimmgglnjfaaGreatDoor
