/- Models and proofs, printed by emit2.py. -/
import Derived.Test.YtoboimmgglnjfaaGreatDoorPrg
namespace Go.Proofs.YtoboimmgglnjfaaGreatDoor
open Go Go.Pw
set_option maxRecDepth 100000
set_option maxHeartbeats 10000000
set_option linter.unusedVariables false
def zBL (_fu:Nat) (most1:Int):Option (Bool×Int):=some (true,most1)
theorem zEy (fu:Nat) (most1:Int) (c2:Int) (c3:(List Class×Bool)) (c4:Bool) (l5:(List Op)) (l6:(List Bs)) (l7:(List Op)) (l8:(List Op)) (c9:(List Hook×Bool)) (c10:Int) (l11:(List Op)):∀r,zBL fu most1=some r->FC zAh Tryz.prog 38 [.loc 900000 0,.loc 900000 1,Y most1] [(900000,.box 80 [.own 900001,.own 900002,.v (.pointer none),Y c2]),(900001,.box 51 [pfx 5 (c3.1.map zAL) c3.2,O c4,.own 900003,.own 900004,.own 900005,.own 900006]),(900002,.arr 43 7 (l5.map cOp)),(900003,.arr 9 1 (l6.map cStr)),(900004,.arr 43 7 (l7.map cOp)),(900005,.arr 43 7 (l8.map cOp)),(900006,.box 54 [pfx 2 (c9.1.map zAX) c9.2,Y c10,.own 900007]),(900007,.arr 43 7 (l11.map cOp))] [900000,900001,900002,900003,900004,900005,900006,900007] fun p S'=>p=O r.1/\S'=[(900000,.box 80 [.own 900001,.own 900002,.loc 900000 1,Y r.2]),(900001,.box 51 [pfx 5 (c3.1.map zAL) c3.2,O c4,.own 900003,.own 900004,.own 900005,.own 900006]),(900002,.arr 43 7 (l5.map cOp)),(900003,.arr 9 1 (l6.map cStr)),(900004,.arr 43 7 (l7.map cOp)),(900005,.arr 43 7 (l8.map cOp)),(900006,.box 54 [pfx 2 (c9.1.map zAX) c9.2,Y c10,.own 900007]),(900007,.arr 43 7 (l11.map cOp))]:=by
 exact fcI Tryz.func38 Z fun w0 X X0 σ0 _=>sr (pq 1 Z (ns (sr (pq 6 Z (zAI (T:=tab) Z Z Z Z Z Z Z Z Z Z Z Z (pq 2 Z (zAI (T:=tab) Z Z Z Z Z Z Z Z Z Z Z Z (ns (sr (pq 1 Z (ns rN)))))))))))
def zA2 (_fu:Nat) (s1:Bs) (suffix2:Bs):Option Bool:=cnd (decide (((s1.length:Nat):Int)>=((suffix2.length:Nat):Int))) (bnd (rng .i64 (((s1.length:Nat):Int) - ((suffix2.length:Nat):Int))) fun i3=>bnd (zC4 s1 i3 ((s1.length:Nat):Int)) fun s4=>some (s4==suffix2)) (some false)
theorem zCx (fu:Nat) (s1:Bs) (suffix2:Bs):∀r,zA2 fu s1 suffix2=some r->DC zAh Tryz.prog 107 [D s1,D suffix2] (O r):=by
 refine fcI Tryz.func107 Z fun w0 X X0 σ0 _=>sr (pq 1 Z (ns (sr (pq 6 Z (zAK (j:=10) Z ?_ ?_)))))
 ·exact pq 5 Z (zAT (T:=tab) Z Z Z Z fun i3 hi3=>zHo (T:=tab) Z Z Z Z Z Z Z Z fun s4 hs4=>pq 4 Z (ns rN))
 ·exact pq 11 Z (ns rN)
def zAy (fu:Nat) (s1:Bs) (suffix2:Bs):Option Bs:=bnd (zA2 fu s1 suffix2) fun r3=>cnd r3 (bnd (rng .i64 (((s1.length:Nat):Int) - ((suffix2.length:Nat):Int))) fun i4=>bnd (zC4 s1 0 i4) fun s5=>some s5) (some s1)
theorem zCv (fu:Nat) (s1:Bs) (suffix2:Bs):∀r,zAy fu s1 suffix2=some r->DC zAh Tryz.prog 75 [D s1,D suffix2] (D r):=by
 refine fcI Tryz.func75 Z fun w0 X X0 σ0 _=>sr (pq 1 Z (ns (zAD (sr (pq 2 Z (pc (zCx fu s1 suffix2) zQ1 Z Z Z Z fun r3 hr3=>ns (zAN Z ?_ ?_)))))))
 ·exact sr (pq 5 Z (zAT (T:=tab) Z Z Z Z fun i4 hi4=>zHo (T:=tab) Z Z Z Z Z Z Z Z fun s5 hs5=>pq 1 Z (ns rN)))
 ·exact zAE (zAA (sr (pq 2 Z (ns rN))))
def zA7 (fu:Nat) (s1:Bs) (suffix2:Bs):Option Bs:=bnd (zAy fu s1 suffix2) fun r3=>some r3
theorem zE0 (fu:Nat) (s1:Bs) (suffix2:Bs):∀r,zA7 fu s1 suffix2=some r->DC zAh Tryz.prog 40 [D s1,D suffix2] (D r):=by
 exact fcI Tryz.func40 Z fun w0 X X0 σ0 _=>sr (pq 1 Z (ns (sr (pq 2 Z (pc (zCv fu s1 suffix2) call75 Z Z Z Z fun r3 hr3=>pq 1 Z (ns rN))))))
def zBM (fu:Nat) (s1:Bs) (sep2:Bs):Option (Bs×Bs×Bool):=bnd (zFT fu s1 sep2) fun r3=>cnd (decide (r3>=0)) (bnd (zC4 s1 0 r3) fun s4=>bnd (rng .i64 (r3+((sep2.length:Nat):Int))) fun i5=>bnd (zC4 s1 i5 ((s1.length:Nat):Int)) fun s6=>some (s4,s6,true)) (some (s1,[],false))
theorem zDo (fu:Nat) (s1:Bs) (sep2:Bs):∀r,zBM fu s1 sep2=some r->DC zAh Tryz.prog 84 [D s1,D sep2] (.tup [D r.1,D r.2.1,O r.2.2]):=by
 refine fcI Tryz.func84 Z fun w0 X X0 σ0 _=>sr (pq 3 Z (ns (zAD (sr (pq 2 Z (pc (zJq fu s1 sep2) zM6 Z Z Z Z fun r3 hr3=>pq 1 Z (ns (sr (pq 2 Z (ns (zAN Z ?_ ?_)))))))))))
 ·exact zAD (zEl mixed (by kernel_rfl) (zBg (T:=tab) 2 Z Z (zQd (T:=tab) Z Z Z Z Z Z Z Z fun s4 hs4=>zBg (T:=tab) 4 Z Z (zI8 (T:=tab) Z Z Z Z fun i5 hi5=>zQd (T:=tab) Z Z Z Z Z Z Z Z fun s6 hs6=>zBg (T:=tab) 3 Z Z (zD7 (zAA rN))))))
 ·exact zAE (zAA (sr (pq 4 Z (ns rN))))
def zAg (fu:Nat) (s1:Bs) (sep2:Bs):Option (Bs×Bs×Bool):=bnd (zBM fu s1 sep2) fun r3=>some (r3.1,r3.2.1,r3.2.2)
theorem zCf (fu:Nat) (s1:Bs) (sep2:Bs):∀r,zAg fu s1 sep2=some r->DC zAh Tryz.prog 47 [D s1,D sep2] (.tup [D r.1,D r.2.1,O r.2.2]):=by
 exact fcI Tryz.func47 Z fun w0 X X0 σ0 _=>sr (pq 3 Z (ns (sr (pq 2 Z (pc (zDo fu s1 sep2) call84 Z Z Z Z fun r3 hr3=>pq 6 Z (ns rN))))))
theorem zEM (fu:Nat) (most1:Int) (k2:Nat) (c3:Int) (c4:(List Class×Bool)) (c5:Bool) (l6:(List Op)) (c7:(List Hook×Bool)) (c8:Int) (l9:(List Bs)) (l10:(List Op)) (l11:(List Op)) (l12:(List Op)):∀r,zBL fu most1=some r->FC zAh Tryz.prog 38 [.loc 900000 0,.loc 900000 1,Y most1] [(900000,.box 80 [.own 900001,.own 900002,.sel k2 [.loc 900000 1,.ela 900001 5 (c4.1.length) 2,.ela 900001 5 (c4.1.length) 3,.ela 900003 2 (c7.1.length) 1],Y c3]),(900001,.box 51 [pfx 5 (c4.1.map zAL) c4.2,O c5,.own 900004,.own 900005,.own 900006,.own 900003]),(900002,.arr 43 7 (l6.map cOp)),(900003,.box 54 [pfx 2 (c7.1.map zAX) c7.2,Y c8,.own 900007]),(900004,.arr 9 1 (l9.map cStr)),(900005,.arr 43 7 (l10.map cOp)),(900006,.arr 43 7 (l11.map cOp)),(900007,.arr 43 7 (l12.map cOp))] [900000,900001,900002,900003,900004,900005,900006,900007] fun p S'=>p=O r.1/\S'=[(900000,.box 80 [.own 900001,.own 900002,.loc 900000 1,Y r.2]),(900001,.box 51 [pfx 5 (c4.1.map zAL) c4.2,O c5,.own 900004,.own 900005,.own 900006,.own 900003]),(900002,.arr 43 7 (l6.map cOp)),(900003,.box 54 [pfx 2 (c7.1.map zAX) c7.2,Y c8,.own 900007]),(900004,.arr 9 1 (l9.map cStr)),(900005,.arr 43 7 (l10.map cOp)),(900006,.arr 43 7 (l11.map cOp)),(900007,.arr 43 7 (l12.map cOp))]:=by
 exact fcI Tryz.func38 Z fun w0 X X0 σ0 _=>sr (pq 1 Z (ns (sr (pq 6 Z (zAI (T:=tab) Z Z Z Z Z Z Z Z Z Z Z Z (pq 2 Z (zAI (T:=tab) Z Z Z Z Z Z Z Z Z Z Z Z (ns (sr (pq 1 Z (ns rN)))))))))))
def zAS (_fu:Nat) (most2:Int):Option (Bool×Int):=some (true,most2)
theorem zEN (fu:Nat) (i1:Nat) (most2:Int) (c3:Int) (c4:(List Class×Bool)) (c5:Bool) (l6:(List Op)) (l7:(List Bs)) (l8:(List Op)) (l9:(List Op)) (c10:(List Hook×Bool)) (c11:Int) (l12:(List Op)):∀r,zAS fu most2=some r->FC zAh Tryz.prog 38 [.loc 900000 0,.ela 900001 5 i1 3,Y most2] [(900000,.box 80 [.own 900001,.own 900002,.junk,Y c3]),(900001,.box 51 [pfx 5 (c4.1.map zAL) c4.2,O c5,.own 900003,.own 900004,.own 900005,.own 900006]),(900002,.arr 43 7 (l6.map cOp)),(900003,.arr 9 1 (l7.map cStr)),(900004,.arr 43 7 (l8.map cOp)),(900005,.arr 43 7 (l9.map cOp)),(900006,.box 54 [pfx 2 (c10.1.map zAX) c10.2,Y c11,.own 900007]),(900007,.arr 43 7 (l12.map cOp))] [900000,900001,900002,900003,900004,900005,900006,900007] fun p S'=>p=O r.1/\S'=[(900000,.box 80 [.own 900001,.own 900002,.ela 900001 5 i1 3,Y r.2]),(900001,.box 51 [pfx 5 (c4.1.map zAL) c4.2,O c5,.own 900003,.own 900004,.own 900005,.own 900006]),(900002,.arr 43 7 (l6.map cOp)),(900003,.arr 9 1 (l7.map cStr)),(900004,.arr 43 7 (l8.map cOp)),(900005,.arr 43 7 (l9.map cOp)),(900006,.box 54 [pfx 2 (c10.1.map zAX) c10.2,Y c11,.own 900007]),(900007,.arr 43 7 (l12.map cOp))]:=by
 exact fcI Tryz.func38 Z fun w0 X X0 σ0 _=>sr (pq 1 Z (ns (sr (pq 6 Z (zAI (T:=tab) Z Z Z Z Z Z Z Z Z Z Z Z (pq 2 Z (zAI (T:=tab) Z Z Z Z Z Z Z Z Z Z Z Z (ns (sr (pq 1 Z (ns rN)))))))))))
theorem zEO (fu:Nat) (i1:Nat) (most2:Int) (k3:Nat) (c4:Int) (c5:(List Class×Bool)) (c6:Bool) (l7:(List Op)) (c8:(List Hook×Bool)) (c9:Int) (l10:(List Bs)) (l11:(List Op)) (l12:(List Op)) (l13:(List Op)):∀r,zAS fu most2=some r->FC zAh Tryz.prog 38 [.loc 900000 0,.ela 900001 5 i1 2,Y most2] [(900000,.box 80 [.own 900001,.own 900002,.sel k3 [.loc 900000 1,.ela 900001 5 (c5.1.length) 2,.ela 900001 5 (c5.1.length) 3,.ela 900003 2 (c8.1.length) 1],Y c4]),(900001,.box 51 [pfx 5 (c5.1.map zAL) c5.2,O c6,.own 900004,.own 900005,.own 900006,.own 900003]),(900002,.arr 43 7 (l7.map cOp)),(900003,.box 54 [pfx 2 (c8.1.map zAX) c8.2,Y c9,.own 900007]),(900004,.arr 9 1 (l10.map cStr)),(900005,.arr 43 7 (l11.map cOp)),(900006,.arr 43 7 (l12.map cOp)),(900007,.arr 43 7 (l13.map cOp))] [900000,900001,900002,900003,900004,900005,900006,900007] fun p S'=>p=O r.1/\S'=[(900000,.box 80 [.own 900001,.own 900002,.ela 900001 5 i1 2,Y r.2]),(900001,.box 51 [pfx 5 (c5.1.map zAL) c5.2,O c6,.own 900004,.own 900005,.own 900006,.own 900003]),(900002,.arr 43 7 (l7.map cOp)),(900003,.box 54 [pfx 2 (c8.1.map zAX) c8.2,Y c9,.own 900007]),(900004,.arr 9 1 (l10.map cStr)),(900005,.arr 43 7 (l11.map cOp)),(900006,.arr 43 7 (l12.map cOp)),(900007,.arr 43 7 (l13.map cOp))]:=by
 exact fcI Tryz.func38 Z fun w0 X X0 σ0 _=>sr (pq 1 Z (ns (sr (pq 6 Z (zAI (T:=tab) Z Z Z Z Z Z Z Z Z Z Z Z (pq 2 Z (zAI (T:=tab) Z Z Z Z Z Z Z Z Z Z Z Z (ns (sr (pq 1 Z (ns rN)))))))))))
theorem zEP (fu:Nat) (i1:Nat) (most2:Int) (k3:Nat) (c4:Int) (c5:(List Class×Bool)) (c6:Bool) (l7:(List Op)) (c8:(List Hook×Bool)) (c9:Int) (l10:(List Bs)) (l11:(List Op)) (l12:(List Op)) (l13:(List Op)):∀r,zAS fu most2=some r->FC zAh Tryz.prog 38 [.loc 900000 0,.ela 900001 5 i1 3,Y most2] [(900000,.box 80 [.own 900001,.own 900002,.sel k3 [.loc 900000 1,.ela 900001 5 (c5.1.length) 2,.ela 900001 5 (c5.1.length) 3,.ela 900003 2 (c8.1.length) 1],Y c4]),(900001,.box 51 [pfx 5 (c5.1.map zAL) c5.2,O c6,.own 900004,.own 900005,.own 900006,.own 900003]),(900002,.arr 43 7 (l7.map cOp)),(900003,.box 54 [pfx 2 (c8.1.map zAX) c8.2,Y c9,.own 900007]),(900004,.arr 9 1 (l10.map cStr)),(900005,.arr 43 7 (l11.map cOp)),(900006,.arr 43 7 (l12.map cOp)),(900007,.arr 43 7 (l13.map cOp))] [900000,900001,900002,900003,900004,900005,900006,900007] fun p S'=>p=O r.1/\S'=[(900000,.box 80 [.own 900001,.own 900002,.ela 900001 5 i1 3,Y r.2]),(900001,.box 51 [pfx 5 (c5.1.map zAL) c5.2,O c6,.own 900004,.own 900005,.own 900006,.own 900003]),(900002,.arr 43 7 (l7.map cOp)),(900003,.box 54 [pfx 2 (c8.1.map zAX) c8.2,Y c9,.own 900007]),(900004,.arr 9 1 (l10.map cStr)),(900005,.arr 43 7 (l11.map cOp)),(900006,.arr 43 7 (l12.map cOp)),(900007,.arr 43 7 (l13.map cOp))]:=by
 exact fcI Tryz.func38 Z fun w0 X X0 σ0 _=>sr (pq 1 Z (ns (sr (pq 6 Z (zAI (T:=tab) Z Z Z Z Z Z Z Z Z Z Z Z (pq 2 Z (zAI (T:=tab) Z Z Z Z Z Z Z Z Z Z Z Z (ns (sr (pq 1 Z (ns rN)))))))))))
def zCp (_fu:Nat) (c1:Int):Option Bool:=cnd (decide (c1>=97)) (some (decide (c1<=122))) (some false)
theorem zFz (fu:Nat) (c1:Int):∀r,zCp fu c1=some r->DC zAh Tryz.prog 118 [.v (.int .i32 c1)] (O r):=by
 refine fcI Tryz.func118 Z fun w0 X X0 σ0 _=>sr (pq 1 Z (ns (sr (pq 3 Z (zAK (j:=5) Z ?_ ?_)))))
 ·exact pq 4 Z (ns rN)
 ·exact pq 4 Z (ns rN)
def zB1 (_fu:Nat) (c1:Int):Option Bool:=cnd (decide (c1>=65)) (some (decide (c1<=90))) (some false)
theorem zDp (fu:Nat) (c1:Int):∀r,zB1 fu c1=some r->DC zAh Tryz.prog 119 [.v (.int .i32 c1)] (O r):=by
 refine fcI Tryz.func119 Z fun w0 X X0 σ0 _=>sr (pq 1 Z (ns (sr (pq 3 Z (zAK (j:=5) Z ?_ ?_)))))
 ·exact pq 4 Z (ns rN)
 ·exact pq 4 Z (ns rN)
def zCo (c1:Int) (x_:Unit):Option Bool:=cnd (c1==45) (some true) (cnd (c1==95) (some true) (some (c1==46)))
def zDA (fu:Nat) (c1:Int):Option Bool:=bnd (zCp fu c1) fun r2=>cnd r2 (cnd r2 (some true) ((zCo c1) ())) (bnd (zB1 fu c1) fun r3=>cnd r3 (cnd r3 (some true) ((zCo c1) ())) (cnd (decide (c1>=48)) (cnd (decide (c1<=57)) (some true) ((zCo c1) ())) ((zCo c1) ())))
theorem zJT (fu:Nat) (c1:Int):∀r,zDA fu c1=some r->DC zAh Tryz.prog 117 [.v (.int .i32 c1)] (O r):=by
 refine fcI Tryz.func117 Z fun w0 X X0 σ0 _=>sr (pq 1 Z (ns (zAD (zBj (zCo c1) (fun (_:Unit)=>[(0,.v (.int .i32 c1))]) (fun (_:Unit)=>[]) ?_ fun hj1=>?_))))
 ·rintro _
  refine zAA (sr (pq 3 Z (zAK (j:=16) Z ?_ ?_)))
  ·exact pq 8 Z (ns rN)
  ·refine pq 4 Z (zAK (j:=20) Z ?_ ?_)
   ·exact pq 4 Z (ns rN)
   ·exact pq 4 Z (ns rN)
 ·refine zAP (zAD (sr (pq 1 Z (pc (zFz fu c1) zM7 Z Z Z Z fun r2 hr2=>pq 1 Z (ns (zAN Z ?_ ?_))))))
  ·refine zAE (zAA (zAN Z ?_ ?_))
   ·exact sr (pq 1 Z (ns rN))
   ·exact zAE (zAJ (ps (hj1 ())))
  ·refine sr (pq 1 Z (pc (zDp fu c1) zKb Z Z Z Z fun r3 hr3=>pq 1 Z (ns (zAN Z ?_ ?_))))
   ·refine zAE (zAA (zAN Z ?_ ?_))
    ·exact sr (pq 1 Z (ns rN))
    ·exact zAE (zAJ (ps (hj1 ())))
   ·refine zAB (pq 3 Z (zAK (j:=10) Z ?_ ?_))
    ·refine pq 4 Z (ns (zAN Z ?_ ?_))
     ·exact sr (pq 1 Z (ns rN))
     ·exact zAE (zAJ (ps (hj1 ())))
    ·exact pq 4 Z (ns (zAs Z (zAE (zAJ (ps (hj1 ()))))))
def zBk (fu:Nat) (c1:Int):Option Bool:=bnd (zDA fu c1) fun r2=>some (!r2)
theorem zHI (fu:Nat) (c1:Int):∀r,zBk fu c1=some r->DC zAh Tryz.prog 116 [.v (.int .i32 c1)] (O r):=by
 exact fcI Tryz.func116 Z fun w0 X X0 σ0 _=>sr (pq 1 Z (ns (sr (pq 1 Z (pc (zJT fu c1) zQ4 Z Z Z Z fun r2 hr2=>pq 2 Z (ns rN))))))
def zAw (t1:Int->Option Bool) (s1:Bs) (truth2:Bool):Nat->Nat->Option Int
 | 0,_=>none
 | k1+1,p3=>cnd (decide (p3<s1.length)) (bnd (t1 (zEe s1 p3)) fun r4=>cnd (r4==truth2) (some ((p3:Nat):Int)) ((zAw t1 s1 truth2 k1) (p3+zFn s1 p3))) (some (-1))
def zCm (fu:Nat) (t1:Int->Option Bool) (s1:Bs) (truth2:Bool):Option Int:=(zAw t1 s1 truth2) fu 0
theorem zFb (fu:Nat) (s1:Bs) (truth2:Bool):∀r,zCm fu (fun (z1:Int)=>zBk fu z1) s1 truth2=some r->DC zAh Tryz.prog 153 [D s1,.fn (.func 116) [] [],O truth2] (Y r):=by
 refine fcI Tryz.func153 Z fun w0 X X0 σ0 _=>sr (pq 1 Z (ns (zAD (sr (pq 1 Z (zPm (T:=tab) 10 Z Z Z Z Z Z Z Z Z (ns (zAP (lq (zAw (fun (z1:Int)=>zBk fu z1) s1 truth2) (fun (p3:Nat)=>[(1,.fn (.func 116) [] []),(2,O truth2),(10,.loc 10 0)]) (fun (p3:Nat)=>[(10,.siter ⟨⟨s1⟩⟩ p3)]) fu 0 ?_)))))))))
 rintro k1 p3
 refine sr (zRY 10 Z Z Z Z Z Z Z ?_ ?_)
 ·refine pq 1 Z (ns (zAD (zAc Z (zAE (zAA (zAP (sr (pq 4 Z (ns (sr (pq 2 Z (zDK (enc:=fun (r4:Bool)=>O r4) (first:=[]) (cap:=[]) (qs:=[.v (.int .i32 (zEe s1 p3))]) (Sc:=[]) (zHI fu (zEe s1 p3)) (zBY trivial Z) Z Z Z Z ⟨⟨_,Z,.rfl⟩,trivial⟩ (fun _=>Z) zQ3 Z Z fun r4 hr4=>pq 2 Z (ns (zAN Z ?_ ?_))))))))))))))
  ·exact sr (pq 2 Z (ns rN))
  ·exact zAE (zAJ (zBt (p3+zFn s1 p3) ⟨Z,Z,Z,trivial⟩ ⟨Z,trivial⟩ Z))
 ·exact pq 1 Z (ns (zAD (zAs Z (zA0 Z (zAA (sr (pq 1 Z (ns rN))))))))
def zCl (fu:Nat) (t1:Int->Option Bool) (s1:Bs):Option Int:=bnd (zCm fu t1 s1 true) fun r2=>some r2
theorem zFa (fu:Nat) (s1:Bs):∀r,zCl fu (fun (z1:Int)=>zBk fu z1) s1=some r->DC zAh Tryz.prog 137 [D s1,.fn (.func 116) [] []] (Y r):=by
 exact fcI Tryz.func137 Z fun w0 X X0 σ0 _=>sr (pq 1 Z (ns (sr (pq 2 Z (pc (zFb fu s1 true) zQ8 Z Z Z Z fun r2 hr2=>pq 1 Z (ns rN))))))
def zBs (fu:Nat) (t1:Int->Option Bool) (s1:Bs):Option Bool:=bnd (zCl fu t1 s1) fun r2=>some (decide (r2>=0))
theorem zEZ (fu:Nat) (s1:Bs):∀r,zBs fu (fun (z1:Int)=>zBk fu z1) s1=some r->DC zAh Tryz.prog 115 [D s1,.fn (.func 116) [] []] (O r):=by
 exact fcI Tryz.func115 Z fun w0 X X0 σ0 _=>sr (pq 1 Z (ns (sr (pq 2 Z (pc (zFa fu s1) zQ6 Z Z Z Z fun r2 hr2=>pq 2 Z (ns rN))))))
def zD2 (fu:Nat) (s1:Bs):Option Bool:=cnd (decide (((s1.length:Nat):Int)<1)) (some false) (cnd (decide (((s1.length:Nat):Int)>40)) (some false) (bnd (zBs fu (fun (z1:Int)=>zBk fu z1) s1) fun r2=>cnd r2 (some false) (bnd (chr s1 0) fun b3=>bnd (rng .i32 b3) fun i4=>bnd (zCp fu i4) fun r5=>cnd r5 (some true) (bnd (zB1 fu i4) fun r6=>cnd r6 (some true) (some (i4==95))))))
theorem zId (fu:Nat) (s1:Bs):∀r,zD2 fu s1=some r->DC zAh Tryz.prog 92 [D s1] (O r):=by
 refine fcI Tryz.func92 Z fun w0 X X0 σ0 _=>sr (pq 1 Z (ns (zAD (sr (pq 4 Z (zAK (j:=7) Z ?_ ?_))))))
 ·refine pq 8 Z (zAH (zAA (zAc Z ?_)))
  exact sr (pq 1 Z (ns rN))
 ·refine pq 5 Z (zAK (j:=12) Z ?_ ?_)
  ·refine pq 3 Z (zAH (zAA (zAc Z ?_)))
   exact sr (pq 1 Z (ns rN))
  ·refine pq 1 Z (pc (zEZ fu s1) zQ2 Z Z Z Z fun r2 hr2=>pq 1 Z (ns (zAN Z ?_ ?_)))
   ·exact sr (pq 1 Z (ns rN))
   ·refine zAE (zAA (sr (pq 1 Z (zCa (T:=tab) (s:=s1) Z Z Z Z Z Z Z fun b3 hb3=>zAT (T:=tab) Z Z Z Z fun i4 hi4=>pq 1 Z (ns (sr (pq 1 Z (pc (zFz fu i4) zM7 Z Z Z Z fun r5 hr5=>pq 1 Z (zAK (j:=21) Z ?_ ?_)))))))))
    ·exact pq 8 Z (ns rN)
    ·refine pq 1 Z (pc (zDp fu i4) zKb Z Z Z Z fun r6 hr6=>pq 2 Z (zAK (j:=25) Z ?_ ?_))
     ·exact pq 4 Z (ns rN)
     ·exact pq 4 Z (ns rN)
def zCA (fu:Nat) (s1:Bs):Nat->Int×(List Int)->Option Bs
 | 0,_=>none
 | k1+1,(t2,l3)=>cnd (decide (t2<(((zAO s1).length:Nat):Int))) (bnd (idx l3 t2) fun y4=>bnd (rng .i32 y4) fun i5=>bnd (zB1 fu i5) fun r6=>cnd r6 (bnd (rng .u8 (y4 - 65)) fun i7=>bnd (rng .u8 (i7+97)) fun i8=>bnd (idx l3 t2) fun y9=>bnd (rng .i64 (t2+1)) fun i10=>(zCA fu s1 k1) (i10,(l3.set (t2).toNat i8))) (bnd (rng .i64 (t2+1)) fun i11=>(zCA fu s1 k1) (i11,l3))) (some (zDk l3))
def zD3 (fu:Nat) (s1:Bs):Option Bs:=bnd (zEF 1 s1.length) fun _=>(zCA fu s1) fu (0,(zAO s1))
theorem zIe (fu:Nat) (s1:Bs):∀r,zD3 fu s1=some r->DC zAh Tryz.prog 93 [D s1] (D r):=by
 refine fcI Tryz.func93 Z fun w0 X X0 σ0 _=>sr (pq 1 Z (ns (sr (pq 1 Z (zPj (T:=tab) zAC 7 (fun _=>Z) Z Z Z Z Z Z Z Z Z Z Z Z (pq 1 Z (ns (zAD (sr (pq 1 Z (zCE (T:=tab) zAC (zAO s1) Z Z Z Z Z Z Z Z Z (pq 1 Z (ns (zAP (lq (zCA fu s1) (fun ((t2,l3):Int×(List Int))=>[(3,.own 7),(8,.own 7),(9,Y (((zAO s1).length:Nat):Int)),(10,Y t2)]) (fun ((t2,l3):Int×(List Int))=>[(7,.arr 1000005 1 (l3.map zAC))]) fu (0,(zAO s1)) ?_)))))))))))))))
 rintro k1 ⟨t2,l3⟩
 refine sr (pq 1 Z (ns (zAD (zAN Z ?_ ?_))))
 ·refine zAE (zAA (zAD (zAP (sr (pq 1 Z (zIN (T:=tab) zAC l3 Z Z Z Z Z Z Z Z fun y4 hy4=>zK0 (T:=tab) zAC l3 y4 (zLj hy4) Z Z Z Z Z Z Z Z (pq 2 Z (ns (sr (pq 1 Z (zAT (T:=tab) Z Z Z Z fun i5 hi5=>pc (zDp fu i5) zKb Z Z Z Z fun r6 hr6=>ns (zAN Z ?_ ?_))))))))))))
  ·exact zAB (pq 3 Z (zAT (T:=tab) Z Z Z Z fun i7 hi7=>zAT (T:=tab) Z Z Z Z fun i8 hi8=>zIN (T:=tab) zAC l3 Z Z Z Z Z Z Z Z fun y9 hy9=>zKA (T:=tab) zAC l3 y9 i8 (zLj hy9) Z Z Z Z Z Z Z Z Z Z Z Z Z (zAH (zAJ (zAA (zAB (zAT (T:=tab) Z Z Z Z fun i10 hi10=>pq 1 Z (zAH (zBt (i10,(l3.set (t2).toNat i8)) ⟨Z,Z,Z,Z,trivial⟩ ⟨Z,trivial⟩ Z)))))))))
  ·exact zAE (zAJ (zAA (zAB (zAT (T:=tab) Z Z Z Z fun i11 hi11=>pq 1 Z (zAH (zBt (i11,l3) ⟨Z,Z,Z,Z,trivial⟩ ⟨Z,trivial⟩ Z))))))
 ·exact zA0 Z (zAA (sr (pq 1 Z (po_str (T:=tab) zAC l3 (fun _=>Z) Z Z Z Z Z Z Z Z Z (pq 1 Z (ns rN))))))
def zEG (fu:Nat) (s1:Bs):Option (Bs×Int):=bnd (zD2 fu s1) fun r2=>cnd (!r2) (some ([],4)) (bnd (zD3 fu s1) fun r3=>some (r3,0))
theorem zHH (fu:Nat) (s1:Bs):∀r,zEG fu s1=some r->DC zAh Tryz.prog 57 [D s1] (.tup [D r.1,Y r.2]):=by
 refine fcI Tryz.func57 Z fun w0 X X0 σ0 _=>sr (pq 2 Z (ns (zAD (sr (pq 1 Z (pc (zId fu s1) call92 Z Z Z Z fun r2 hr2=>pq 1 Z (ns (zAN Z ?_ ?_))))))))
 ·exact sr (pq 2 Z (ns rN))
 ·exact zAE (zAA (sr (pq 1 Z (pc (zIe fu s1) call93 Z Z Z Z fun r3 hr3=>pq 2 Z (ns rN)))))
def zCe (fu:Nat):Option (List Bs):=bnd (zG4 fu ([45,32,99,97,109,101,32,119,101,110,116,32,109,111,118,101,100,32,99,104,97,110,103,101,100,32,111,119,110,101,100,32,98,97,114,114,101,100,32,99,108,101,97,114,101,100,32,114,101,115,116,111,114,101,100]:Bs)) fun r1=>some r1
theorem zEx (fu:Nat):∀r,zCe fu=some r->DC zAh Tryz.prog 28 [] (.sl 1 false (r.map cStr)):=by
 exact fcI Tryz.func28 Z fun w0 X X0 σ0 _=>sr (pq 1 Z (ns (sr (pc (zJi fu ([45,32,99,97,109,101,32,119,101,110,116,32,109,111,118,101,100,32,99,104,97,110,103,101,100,32,111,119,110,101,100,32,98,97,114,114,101,100,32,99,108,101,97,114,101,100,32,114,101,115,116,111,114,101,100]:Bs)) zQO Z Z Z Z fun r1 hr1=>pq 1 Z (ns rN)))))
def zAl (s1:(List Bs)) (v2:Bs):Nat->Int->Option Int
 | 0,_=>none
 | k1+1,t3=>cnd (decide (t3<((s1.length:Nat):Int))) (bnd (idx s1 t3) fun y4=>cnd (v2==y4) (some t3) (bnd (rng .i64 (t3+1)) fun i5=>(zAl s1 v2 k1) i5)) (some (-1))
def zAf (fu:Nat) (s1:(List Bs)) (v2:Bs):Option Int:=(zAl s1 v2) fu 0
theorem zC9 (fu:Nat) (s1:(List Bs)) (v2:Bs):∀r,zAf fu s1 v2=some r->DC zAh Tryz.prog 48 [.sl 1 false (s1.map cStr),D v2] (Y r):=by
 refine fcI Tryz.func48 Z fun w0 X X0 σ0 _=>sr (pq 1 Z (ns (zAD (sr (pq 1 Z (zBh (T:=tab) cStr s1 Z Z Z Z Z Z Z Z (pq 1 Z (ns (zAP (lq (zAl s1 v2) (fun (t3:Int)=>[(0,.sl 1 false (s1.map cStr)),(1,D v2),(7,Y ((s1.length:Nat):Int)),(8,Y t3)]) (fun (t3:Int)=>[]) fu 0 ?_))))))))))
 rintro k1 t3
 refine sr (pq 1 Z (ns (zAD (zAN Z ?_ ?_))))
 ·refine zAE (zAA (zAD (zAP (sr (pq 2 Z (ns (sr (pq 3 Z (zCi (T:=tab) cStr s1 Z Z Z Z Z Z Z fun y4 hy4=>pq 2 Z (ns (zAN Z ?_ ?_)))))))))))
  ·exact sr (pq 2 Z (ns rN))
  ·exact zAE (zAJ (zAA (zAB (zAT (T:=tab) Z Z Z Z fun i5 hi5=>pq 1 Z (zAH (zBt i5 ⟨Z,Z,Z,Z,trivial⟩ trivial Z))))))
 ·exact zA0 Z (zAA (sr (pq 1 Z (ns rN))))
theorem zEQ (fu:Nat) (i1:Nat) (most2:Int) (c3:Int) (c4:(List Hook×Bool)) (c5:Int) (c6:(List Class×Bool)) (c7:Bool) (l8:(List Op)) (l9:(List Op)) (l10:(List Bs)) (l11:(List Op)) (l12:(List Op)):∀r,zAS fu most2=some r->FC zAh Tryz.prog 38 [.loc 900000 0,.ela 900001 2 i1 1,Y most2] [(900000,.box 80 [.own 900002,.own 900003,.junk,Y c3]),(900001,.box 54 [pfx 2 (c4.1.map zAX) c4.2,Y c5,.own 900004]),(900002,.box 51 [pfx 5 (c6.1.map zAL) c6.2,O c7,.own 900005,.own 900006,.own 900007,.own 900001]),(900003,.arr 43 7 (l8.map cOp)),(900004,.arr 43 7 (l9.map cOp)),(900005,.arr 9 1 (l10.map cStr)),(900006,.arr 43 7 (l11.map cOp)),(900007,.arr 43 7 (l12.map cOp))] [900000,900001,900002,900003,900004,900005,900006,900007] fun p S'=>p=O r.1/\S'=[(900000,.box 80 [.own 900002,.own 900003,.ela 900001 2 i1 1,Y r.2]),(900001,.box 54 [pfx 2 (c4.1.map zAX) c4.2,Y c5,.own 900004]),(900002,.box 51 [pfx 5 (c6.1.map zAL) c6.2,O c7,.own 900005,.own 900006,.own 900007,.own 900001]),(900003,.arr 43 7 (l8.map cOp)),(900004,.arr 43 7 (l9.map cOp)),(900005,.arr 9 1 (l10.map cStr)),(900006,.arr 43 7 (l11.map cOp)),(900007,.arr 43 7 (l12.map cOp))]:=by
 exact fcI Tryz.func38 Z fun w0 X X0 σ0 _=>sr (pq 1 Z (ns (sr (pq 6 Z (zAI (T:=tab) Z Z Z Z Z Z Z Z Z Z Z Z (pq 2 Z (zAI (T:=tab) Z Z Z Z Z Z Z Z Z Z Z Z (ns (sr (pq 1 Z (ns rN)))))))))))
def zBV (fu:Nat) (k2:Nat) (c3:Int) (c4:(List Class×Bool)) (c5:Bool) (c7:(List Hook×Bool)) (c8:Int) (l9:(List Bs)) (l10:(List Op)) (l11:(List Op)) (l12:(List Op)) (r13:(Bs×Bs×Bool)) (x_:Unit):Option (Bool×Nat×Int×(List Class×Bool)×Bool×(List Hook×Bool)×Int×(List Bs)×(List Op)×(List Op)×(List Op)):=cnd (((c4.1.length+(if c4.2 then 1 else 0):Nat):Int)==12) (some (false,k2,c3,c4,c5,c7,c8,l9,l10,l11,l12)) (bnd (zEF 104 ((c4.1++if c4.2 then [(⟨c5,l9,l10,l11,(c7.1++if c7.2 then [(⟨c8,l12⟩:Hook)] else [])⟩:Class)] else []).length+1)) fun _=>bnd (rng .i64 ((((c4.1++if c4.2 then [(⟨c5,l9,l10,l11,(c7.1++if c7.2 then [(⟨c8,l12⟩:Hook)] else [])⟩:Class)] else []).length+(if true then 1 else 0):Nat):Int) - 1)) fun i15=>bnd (zHv ((c4.1++if c4.2 then [(⟨c5,l9,l10,l11,(c7.1++if c7.2 then [(⟨c8,l12⟩:Hook)] else [])⟩:Class)] else []).length) i15) fun _=>bnd (zAS fu 60) fun r16=>some (r16.1,2,r16.2,((c4.1++if c4.2 then [(⟨c5,l9,l10,l11,(c7.1++if c7.2 then [(⟨c8,l12⟩:Hook)] else [])⟩:Class)] else []),true),r13.2.2,(([]:List Hook),false),0,([]:List Bs),([]:List Op),([]:List Op),([]:List Op)))
def zBW (fu:Nat) (k2:Nat) (c3:Int) (c4:(List Class×Bool)) (c5:Bool) (c7:(List Hook×Bool)) (c8:Int) (l9:(List Bs)) (l10:(List Op)) (l11:(List Op)) (l12:(List Op)) (r13:(Bs×Bs×Bool)) (x_:Unit):Option (Bool×Nat×Int×(List Class×Bool)×Bool×(List Hook×Bool)×Int×(List Bs)×(List Op)×(List Op)×(List Op)):=cnd (r13.1==([111,110]:Bs)) (cnd r13.2.2 (bnd (zCe fu) fun r21=>bnd (zAf fu r21 r13.2.1) fun r22=>cnd (decide (r22<1)) (some (false,k2,c3,(c4.1,true),c5,c7,c8,l9,l10,l11,l12)) (cnd (((c7.1.length+(if c7.2 then 1 else 0):Nat):Int)==12) (some (false,k2,c3,(c4.1,true),c5,c7,c8,l9,l10,l11,l12)) (bnd (zEF 32 ((c7.1++if c7.2 then [(⟨c8,l12⟩:Hook)] else []).length+1)) fun _=>bnd (rng .i64 ((((c7.1++if c7.2 then [(⟨c8,l12⟩:Hook)] else []).length+(if true then 1 else 0):Nat):Int) - 1)) fun i23=>bnd (zHv ((c7.1++if c7.2 then [(⟨c8,l12⟩:Hook)] else []).length) i23) fun _=>bnd (zAS fu 60) fun r24=>some (r24.1,3,r24.2,(c4.1,true),c5,((c7.1++if c7.2 then [(⟨c8,l12⟩:Hook)] else []),true),r22,l9,l10,l11,([]:List Op))))) (some (false,k2,c3,(c4.1,true),c5,c7,c8,l9,l10,l11,l12))) (some (false,k2,c3,(c4.1,true),c5,c7,c8,l9,l10,l11,l12))
def zB3 (fu:Nat) (s1:Bs) (k2:Nat) (c3:Int) (c4:(List Class×Bool)) (c5:Bool) (c7:(List Hook×Bool)) (c8:Int) (l9:(List Bs)) (l10:(List Op)) (l11:(List Op)) (l12:(List Op)):Option (Bool×Nat×Int×(List Class×Bool)×Bool×(List Hook×Bool)×Int×(List Bs)×(List Op)×(List Op)×(List Op)):=bnd (zAg fu s1 [32]) fun r13=>cnd (s1==([109,97,105,110]:Bs)) (bnd (zBL fu 300) fun r14=>some (r14.1,0,r14.2,c4,c5,c7,c8,l9,l10,l11,l12)) (cnd (s1==([99,108,97,115,115]:Bs)) ((zBV fu k2 c3 c4 c5 c7 c8 l9 l10 l11 l12 r13) ()) (cnd (s1==([99,108,97,115,115,32,102,111,114,109]:Bs)) ((zBV fu k2 c3 c4 c5 c7 c8 l9 l10 l11 l12 r13) ()) (cnd (((c4.1.length+(if c4.2 then 1 else 0):Nat):Int)==0) (some (false,k2,c3,c4,c5,c7,c8,l9,l10,l11,l12)) (bnd (zGy c4.2) fun _=>bnd (rng .i64 (((c4.1.length+(if true then 1 else 0):Nat):Int) - 1)) fun i17=>bnd (zHv (c4.1.length) i17) fun _=>cnd (s1==([112,101,101,107]:Bs)) (bnd (zAS fu 60) fun r18=>some (r18.1,1,r18.2,(c4.1,true),c5,c7,c8,l9,l10,l11,l12)) (cnd (s1==([109,97,107,101]:Bs)) (bnd (zAS fu 60) fun r19=>some (r19.1,2,r19.2,(c4.1,true),c5,c7,c8,l9,l10,l11,l12)) (cnd (r13.1==([119,97,116,99,104]:Bs)) (cnd r13.2.2 (bnd (zEG fu r13.2.1) fun r20=>cnd (r20.2 != 0) (some (false,k2,c3,(c4.1,true),c5,c7,c8,l9,l10,l11,l12)) (cnd (!(r20.1==r13.2.1)) (some (false,k2,c3,(c4.1,true),c5,c7,c8,l9,l10,l11,l12)) (cnd (((l9.length:Nat):Int)==12) (some (false,k2,c3,(c4.1,true),c5,c7,c8,l9,l10,l11,l12)) (bnd (zEF 16 (l9.length+([r13.2.1]:List Bs).length)) fun _=>some (true,k2,c3,(c4.1,true),c5,c7,c8,(l9++[r13.2.1]),l10,l11,l12))))) ((zBW fu k2 c3 c4 c5 c7 c8 l9 l10 l11 l12 r13) ())) ((zBW fu k2 c3 c4 c5 c7 c8 l9 l10 l11 l12 r13) ())))))))
theorem zEz (fu:Nat) (s1:Bs) (k2:Nat) (c3:Int) (c4:(List Class×Bool)) (c5:Bool) (l6:(List Op)) (c7:(List Hook×Bool)) (c8:Int) (l9:(List Bs)) (l10:(List Op)) (l11:(List Op)) (l12:(List Op)):∀r,zB3 fu s1 k2 c3 c4 c5 c7 c8 l9 l10 l11 l12=some r->FC zAh Tryz.prog 41 [.loc 900000 0,D s1] [(900000,.box 80 [.own 900001,.own 900002,.sel k2 [.loc 900000 1,.ela 900001 5 (c4.1.length) 2,.ela 900001 5 (c4.1.length) 3,.ela 900003 2 (c7.1.length) 1],Y c3]),(900001,.box 51 [pfx 5 (c4.1.map zAL) c4.2,O c5,.own 900004,.own 900005,.own 900006,.own 900003]),(900002,.arr 43 7 (l6.map cOp)),(900003,.box 54 [pfx 2 (c7.1.map zAX) c7.2,Y c8,.own 900007]),(900004,.arr 9 1 (l9.map cStr)),(900005,.arr 43 7 (l10.map cOp)),(900006,.arr 43 7 (l11.map cOp)),(900007,.arr 43 7 (l12.map cOp))] [900000,900002] fun p S'=>p=O r.1/\S'=[(900000,.box 80 [.own 900001,.own 900002,.sel r.2.1 [.loc 900000 1,.ela 900001 5 (r.2.2.2.1.1.length) 2,.ela 900001 5 (r.2.2.2.1.1.length) 3,.ela 900003 2 (r.2.2.2.2.2.1.1.length) 1],Y r.2.2.1]),(900001,.box 51 [pfx 5 (r.2.2.2.1.1.map zAL) r.2.2.2.1.2,O r.2.2.2.2.1,.own 900004,.own 900005,.own 900006,.own 900003]),(900002,.arr 43 7 (l6.map cOp)),(900003,.box 54 [pfx 2 (r.2.2.2.2.2.1.1.map zAX) r.2.2.2.2.2.1.2,Y r.2.2.2.2.2.2.1,.own 900007]),(900004,.arr 9 1 (r.2.2.2.2.2.2.2.1.map cStr)),(900005,.arr 43 7 (r.2.2.2.2.2.2.2.2.1.map cOp)),(900006,.arr 43 7 (r.2.2.2.2.2.2.2.2.2.1.map cOp)),(900007,.arr 43 7 (r.2.2.2.2.2.2.2.2.2.2.map cOp))]:=by
 refine fcI Tryz.func41 Z fun w0 X X0 σ0 _=>sr (pq 1 Z (ns (sr (pq 1 Z (pc (zCf fu s1 [32]) zJc Z Z Z Z fun r13 hr13=>pq 7 Z (ns (zAD (sr (pq 2 Z (ns (zAN Z ?_ ?_)))))))))))
 ·refine sr (pq 5 Z (tu [] (enc:=fun (r14:(Bool×Int))=>O r14.1) (Sr:=fun (r14:(Bool×Int))=>[(900000,.box 80 [.own 900001,.own 900002,.loc 900000 1,Y r14.2]),(900001,.box 51 [pfx 5 (c4.1.map zAL) c4.2,O c5,.own 900004,.own 900005,.own 900006,.own 900003]),(900002,.arr 43 7 (l6.map cOp)),(900003,.box 54 [pfx 2 (c7.1.map zAX) c7.2,Y c8,.own 900007]),(900004,.arr 9 1 (l9.map cStr)),(900005,.arr 43 7 (l10.map cOp)),(900006,.arr 43 7 (l11.map cOp)),(900007,.arr 43 7 (l12.map cOp))]) (qs:=[.loc 900000 0,.loc 900000 1,Y 300]) (Sc:=[(900000,.box 80 [.own 900001,.own 900002,.sel k2 [.loc 900000 1,.ela 900001 5 (c4.1.length) 2,.ela 900001 5 (c4.1.length) 3,.ela 900003 2 (c7.1.length) 1],Y c3]),(900001,.box 51 [pfx 5 (c4.1.map zAL) c4.2,O c5,.own 900004,.own 900005,.own 900006,.own 900003]),(900002,.arr 43 7 (l6.map cOp)),(900003,.box 54 [pfx 2 (c7.1.map zAX) c7.2,Y c8,.own 900007]),(900004,.arr 9 1 (l9.map cStr)),(900005,.arr 43 7 (l10.map cOp)),(900006,.arr 43 7 (l11.map cOp)),(900007,.arr 43 7 (l12.map cOp))]) (N1:=[900000,900001,900002,900003,900004,900005,900006,900007]) (NR:=[900000,900001,900002,900003,900004,900005,900006,900007]) (fun r14 hr14=>fr [(900000,900000),(900001,900001),(900002,900002),(900003,900003),(900004,900004),(900005,900005),(900006,900006),(900007,900007)] [900000,900001,900002,900003,900004,900005,900006,900007] (zEM fu 300 k2 c3 c4 c5 l6 c7 c8 l9 l10 l11 l12 _ hr14)) zH3 Z Z Z Z Z Z Z Z fun r14 hr14=>pq 1 Z (ns ?_)))
  refine zDy 900000 [.own 900001,.own 900002,.sel 0 [.loc 900000 1,.ela 900001 5 (c4.1.length) 2,.ela 900001 5 (c4.1.length) 3,.ela 900003 2 (c7.1.length) 1],Y r14.2] Z ⟨.rfl,.rfl,(.sel Z Z),.rfl,trivial⟩ Z ?_
  exact rN
 ·refine zAE (zAA (zAD (sr (zPk (zBV fu k2 c3 c4 c5 c7 c8 l9 l10 l11 l12 r13) (fun (_:Unit)=>[(0,.loc 900000 0),(7,O r13.2.2)]) (fun (_:Unit)=>[(900000,.box 80 [.own 900001,.own 900002,.sel k2 [.loc 900000 1,.ela 900001 5 (c4.1.length) 2,.ela 900001 5 (c4.1.length) 3,.ela 900003 2 (c7.1.length) 1],Y c3]),(900001,.box 51 [pfx 5 (c4.1.map zAL) c4.2,O c5,.own 900004,.own 900005,.own 900006,.own 900003]),(900002,.arr 43 7 (l6.map cOp)),(900003,.box 54 [pfx 2 (c7.1.map zAX) c7.2,Y c8,.own 900007]),(900004,.arr 9 1 (l9.map cStr)),(900005,.arr 43 7 (l10.map cOp)),(900006,.arr 43 7 (l11.map cOp)),(900007,.arr 43 7 (l12.map cOp))]) ?_ fun hj1=>?_))))
  ·rintro _
   refine zAD (sr (pq 5 Z (zDn (T:=tab) (l:=c4.1.length) Z Z Z Z Z Z Z (by simp) Z Z (pq 1 Z (ns (zAN Z ?_ ?_))))))
   ·exact sr (pq 1 Z (ns rN))
   ·refine zAE (zAA (sr (pq 7 Z (zAi (T:=tab) Z Z Z Z Z Z Z ?_))))
    refine zCj (T:=tab) (rows:=[[O r13.2.2,.v (.slice none 0 0),.v (.slice none 0 0),.v (.slice none 0 0),.v (.slice none 0 0)]]) 47 Z Z Z Z Z Z Z Z Z Z Z Z Z Z ?_
    refine zCD 900004 Z Z Z (zCD 900005 Z Z Z (zCD 900006 Z Z Z (zCD 900007 Z Z Z (zOL 900003 zAX c7.1 (⟨c8,l12⟩:Hook) Z Z Z Z (zCD 900003 Z Z Z (zOL 900001 zAL c4.1 (⟨c5,l9,l10,l11,(c7.1++if c7.2 then [(⟨c8,l12⟩:Hook)] else [])⟩:Class) Z Z Z Z (zGG (T:=tab) ((c4.1++if c4.2 then [(⟨c5,l9,l10,l11,(c7.1++if c7.2 then [(⟨c8,l12⟩:Hook)] else [])⟩:Class)] else []).map zAL) [[O r13.2.2,.v (.slice none 0 0),.v (.slice none 0 0),.v (.slice none 0 0),.v (.slice none 0 0)]] (c4.1++if c4.2 then [(⟨c5,l9,l10,l11,(c7.1++if c7.2 then [(⟨c8,l12⟩:Hook)] else [])⟩:Class)] else []).length (by simp) Z Z Z Z Z Z Z Z Z Z Z Z Z Z Z Z Z Z Z Z (zL2 900001 Z Z Z (zCn 900004 9 1 900001 2 Z Z Z Z Z Z (zCn 900005 43 7 900001 3 Z Z Z Z Z Z (zCn 900006 43 7 900001 4 Z Z Z Z Z Z (zCn 900003 54 2 900001 5 Z Z Z Z Z Z (zEW 900007 43 7 Z Z Z (zOM 900003 [Y 0,.own 900007] Z Z Z Z (pq 3 Z (zAI (T:=tab) Z Z Z Z Z Z Z Z Z Z Z Z (ns (zAD (su [(0,.loc 900000 0)] [(900007,.arr 43 7 (([]:List Op).map cOp)),(900003,.box 54 [pfx 2 (([]:List Hook).map zAX) false,Y 0,.own 900007]),(900006,.arr 43 7 (([]:List Op).map cOp)),(900005,.arr 43 7 (([]:List Op).map cOp)),(900004,.arr 9 1 (([]:List Bs).map cStr)),(900001,.box 51 [pfx 5 ((c4.1++if c4.2 then [(⟨c5,l9,l10,l11,(c7.1++if c7.2 then [(⟨c8,l12⟩:Hook)] else [])⟩:Class)] else []).map zAL) true,O r13.2.2,.own 900004,.own 900005,.own 900006,.own 900003]),(900000,.box 80 [.own 900001,.own 900002,.junk,Y c3]),(900002,.arr 43 7 (l6.map cOp))] (zBE [0,0,2,6,14,30,0,64,192,448,960,1984,4032,8190,16382,32767,65535] mixed (by kernel_rfl) (by kernel_rfl) Z Z (ve [0] [104] [900000] [(52,.loc 900000 0)] ?_)))))))))))))))))))))
    refine ve [0] [106] [900000] [(53,.loc 900000 0)] ?_
    refine ve [106] [108] [900000] [(54,.loc 900000 0)] ?_
    refine ve [108] [110] [900000] [(55,.loc 900000 0)] ?_
    refine ve [110] [112] [900000] [(56,.loc 900000 0)] ?_
    refine vf [112,1800001] [114] [] [900000,900001,900002] [900000] [(57,.own 900001)] [(900000,.box 80 [.own 900001,.own 900002,.junk,Y c3])] ?_
    refine ve [0] [116] [900000] [(58,.loc 900000 0)] ?_
    refine ve [116] [118] [900000] [(59,.loc 900000 0)] ?_
    refine ve [118] [120] [900000] [(60,.loc 900000 0)] ?_
    refine ve [120] [122] [900000] [(61,.loc 900000 0)] ?_
    refine vf [122,1800001] [124] [] [900000,900001,900002] [900000] [(62,.own 900001)] [(900000,.box 80 [.own 900001,.own 900002,.junk,Y c3])] ?_
    refine vs [124,1800003] [126] [] [900001,900003,900004,900005,900006] [900001] [(63,Y (((c4.1++if c4.2 then [(⟨c5,l9,l10,l11,(c7.1++if c7.2 then [(⟨c8,l12⟩:Hook)] else [])⟩:Class)] else []).length+(if true then 1 else 0):Nat):Int))] [(900001,.box 51 [pfx 5 ((c4.1++if c4.2 then [(⟨c5,l9,l10,l11,(c7.1++if c7.2 then [(⟨c8,l12⟩:Hook)] else [])⟩:Class)] else []).map zAL) true,O r13.2.2,.own 900004,.own 900005,.own 900006,.own 900003])] Z Z (fun w0 X X0 σ0 _=>by refine zDn (T:=tab) (l:=(c4.1++if c4.2 then [(⟨c5,l9,l10,l11,(c7.1++if c7.2 then [(⟨c8,l12⟩:Hook)] else [])⟩:Class)] else []).length) Z Z Z Z Z Z Z (by simp) Z Z ?_;exact py) ?_
    refine vt (rng .i64 ((((c4.1++if c4.2 then [(⟨c5,l9,l10,l11,(c7.1++if c7.2 then [(⟨c8,l12⟩:Hook)] else [])⟩:Class)] else []).length+(if true then 1 else 0):Nat):Int) - 1)) [(128,[])] [126] [128] [] [] [] (fun i15=>[(64,Y i15)]) (fun i15=>[]) Z Z (fun _=>Z) (fun w0 X X0 σ0 _=>by refine zAT (T:=tab) Z Z Z Z fun i15 hi15=>?_;exact pz) fun i15 hi15=>?_
    refine vt (zHv ((c4.1++if c4.2 then [(⟨c5,l9,l10,l11,(c7.1++if c7.2 then [(⟨c8,l12⟩:Hook)] else [])⟩:Class)] else []).length) i15) [(130,[900001])] [114,128,1800003] [130] [] [900001,900003,900004,900005,900006] [900001] (fun _=>[(65,.ela 900001 5 ((c4.1++if c4.2 then [(⟨c5,l9,l10,l11,(c7.1++if c7.2 then [(⟨c8,l12⟩:Hook)] else [])⟩:Class)] else []).length) 0)]) (fun _=>[(900001,.box 51 [pfx 5 ((c4.1++if c4.2 then [(⟨c5,l9,l10,l11,(c7.1++if c7.2 then [(⟨c8,l12⟩:Hook)] else [])⟩:Class)] else []).map zAL) true,O r13.2.2,.own 900004,.own 900005,.own 900006,.own 900003])]) Z Z (fun _=>Z) (fun w0 X X0 σ0 _=>by refine zGZ (T:=tab) (l:=((c4.1++if c4.2 then [(⟨c5,l9,l10,l11,(c7.1++if c7.2 then [(⟨c8,l12⟩:Hook)] else [])⟩:Class)] else []).length)) (by simp) Z Z Z Z Z Z Z Z ?_;exact pz) fun _ h0=>?_
    refine ve [130] [132] [900001] [(66,.ela 900001 5 ((c4.1++if c4.2 then [(⟨c5,l9,l10,l11,(c7.1++if c7.2 then [(⟨c8,l12⟩:Hook)] else [])⟩:Class)] else []).length) 3)] ?_
    refine vt (zAS fu 60) [(134,[]),(1800001,[900001,900002,900001])] [104,132,1800001,1800003,1800005,1800007,1800009,1800011,1800013,1800015] [134,1800001] [] [900000,900001,900002,900003,900004,900005,900006,900007] [900001,900002,900003,900004,900005,900006,900007] (fun r16=>[(67,O r16.1)]) (fun r16=>[(900000,.box 80 [.own 900001,.own 900002,.ela 900001 5 ((c4.1++if c4.2 then [(⟨c5,l9,l10,l11,(c7.1++if c7.2 then [(⟨c8,l12⟩:Hook)] else [])⟩:Class)] else []).length) 3,Y r16.2]),(900001,.box 51 [pfx 5 ((c4.1++if c4.2 then [(⟨c5,l9,l10,l11,(c7.1++if c7.2 then [(⟨c8,l12⟩:Hook)] else [])⟩:Class)] else []).map zAL) true,O r13.2.2,.own 900004,.own 900005,.own 900006,.own 900003]),(900002,.arr 43 7 (l6.map cOp)),(900003,.box 54 [pfx 2 (([]:List Hook).map zAX) false,Y 0,.own 900007]),(900004,.arr 9 1 (([]:List Bs).map cStr)),(900005,.arr 43 7 (([]:List Op).map cOp)),(900006,.arr 43 7 (([]:List Op).map cOp)),(900007,.arr 43 7 (([]:List Op).map cOp))]) Z Z (fun _=>Z) (fun w0 X X0 σ0 _=>by refine tu [] (enc:=fun (r16:(Bool×Int))=>O r16.1) (Sr:=fun (r16:(Bool×Int))=>[(900000,.box 80 [.own 900001,.own 900002,.ela 900001 5 ((c4.1++if c4.2 then [(⟨c5,l9,l10,l11,(c7.1++if c7.2 then [(⟨c8,l12⟩:Hook)] else [])⟩:Class)] else []).length) 3,Y r16.2]),(900001,.box 51 [pfx 5 ((c4.1++if c4.2 then [(⟨c5,l9,l10,l11,(c7.1++if c7.2 then [(⟨c8,l12⟩:Hook)] else [])⟩:Class)] else []).map zAL) true,O r13.2.2,.own 900004,.own 900005,.own 900006,.own 900003]),(900002,.arr 43 7 (l6.map cOp)),(900004,.arr 9 1 (([]:List Bs).map cStr)),(900005,.arr 43 7 (([]:List Op).map cOp)),(900006,.arr 43 7 (([]:List Op).map cOp)),(900003,.box 54 [pfx 2 (([]:List Hook).map zAX) false,Y 0,.own 900007]),(900007,.arr 43 7 (([]:List Op).map cOp))]) (qs:=[.loc 900000 0,.ela 900001 5 ((c4.1++if c4.2 then [(⟨c5,l9,l10,l11,(c7.1++if c7.2 then [(⟨c8,l12⟩:Hook)] else [])⟩:Class)] else []).length) 3,Y 60]) (Sc:=[(900000,.box 80 [.own 900001,.own 900002,.junk,Y c3]),(900001,.box 51 [pfx 5 ((c4.1++if c4.2 then [(⟨c5,l9,l10,l11,(c7.1++if c7.2 then [(⟨c8,l12⟩:Hook)] else [])⟩:Class)] else []).map zAL) true,O r13.2.2,.own 900004,.own 900005,.own 900006,.own 900003]),(900002,.arr 43 7 (l6.map cOp)),(900004,.arr 9 1 (([]:List Bs).map cStr)),(900005,.arr 43 7 (([]:List Op).map cOp)),(900006,.arr 43 7 (([]:List Op).map cOp)),(900003,.box 54 [pfx 2 (([]:List Hook).map zAX) false,Y 0,.own 900007]),(900007,.arr 43 7 (([]:List Op).map cOp))]) (N1:=[900000,900001,900002,900004,900005,900006,900003,900007]) (NR:=[900000,900001,900002,900004,900005,900006,900003,900007]) (fun r16 hr16=>fr [(900000,900000),(900001,900001),(900002,900002),(900003,900004),(900004,900005),(900005,900006),(900006,900003),(900007,900007)] [900000,900001,900002,900003,900004,900005,900006,900007] (zEN fu ((c4.1++if c4.2 then [(⟨c5,l9,l10,l11,(c7.1++if c7.2 then [(⟨c8,l12⟩:Hook)] else [])⟩:Class)] else []).length) 60 c3 ((c4.1++if c4.2 then [(⟨c5,l9,l10,l11,(c7.1++if c7.2 then [(⟨c8,l12⟩:Hook)] else [])⟩:Class)] else []),true) r13.2.2 l6 ([]:List Bs) ([]:List Op) ([]:List Op) (([]:List Hook),false) 0 ([]:List Op) _ hr16)) zH3 Z Z Z Z Z Z Z Z fun r16 hr16=>?_;exact pz) fun r16 hr16=>?_
    refine ve [134] [8] [] [(4,O r16.1)] ?_
    refine zBd Z Z (zAA ?_)
    refine zDy 900000 [.own 900001,.own 900002,.sel 2 [.loc 900000 1,.ela 900001 5 ((c4.1++if c4.2 then [(⟨c5,l9,l10,l11,(c7.1++if c7.2 then [(⟨c8,l12⟩:Hook)] else [])⟩:Class)] else []).length) 2,.ela 900001 5 ((c4.1++if c4.2 then [(⟨c5,l9,l10,l11,(c7.1++if c7.2 then [(⟨c8,l12⟩:Hook)] else [])⟩:Class)] else []).length) 3,.ela 900003 2 (([]:List Hook).length) 1],Y r16.2] Z ⟨.rfl,.rfl,(.sel Z Z),.rfl,trivial⟩ Z ?_
    exact rN
  ·refine pq 3 Z (zAK (j:=28) Z ?_ ?_)
   ·refine pq 3 Z (zAH (zAA (zAc Z ?_)))
    exact zHr (hj1 ()) ⟨Z,Z,trivial⟩ ⟨Z,Z,Z,Z,Z,Z,Z,Z,trivial⟩ Z
   ·refine pq 3 Z (ns (zAN Z ?_ ?_))
    ·exact zHr (hj1 ()) ⟨Z,Z,trivial⟩ ⟨Z,Z,Z,Z,Z,Z,Z,Z,trivial⟩ Z
    ·refine zAE (zAA (zAD (sr (pq 5 Z (zDn (T:=tab) (l:=c4.1.length) Z Z Z Z Z Z Z (by simp) Z Z (pq 1 Z (ns (zAN Z ?_ ?_))))))))
     ·exact sr (pq 1 Z (ns rN))
     ·refine zAE (zAA (zAD (su [(0,.loc 900000 0),(1,D s1),(4,O false),(13,D s1),(14,.tup [D r13.1,D r13.2.1,O r13.2.2]),(12,.tup [D r13.1,D r13.2.1,O r13.2.2]),(15,D r13.1),(16,D r13.2.1),(17,O r13.2.2),(5,D r13.1),(6,D r13.2.1),(7,O r13.2.2),(18,D s1),(19,O (s1==([109,97,105,110]:Bs))),(26,D s1),(27,O (s1==([99,108,97,115,115]:Bs))),(28,O false),(29,D s1),(30,O (s1==([99,108,97,115,115,32,102,111,114,109]:Bs))),(31,O (s1==([99,108,97,115,115,32,102,111,114,109]:Bs))),(68,.loc 900000 0),(69,.loc 900000 0),(70,.loc 900000 0),(71,.loc 900000 0),(72,.own 900001),(73,Y ((c4.1.length+(if c4.2 then 1 else 0):Nat):Int)),(74,O (((c4.1.length+(if c4.2 then 1 else 0):Nat):Int)==0))] [(900000,.box 80 [.own 900001,.own 900002,.sel k2 [.loc 900000 1,.ela 900001 5 (c4.1.length) 2,.ela 900001 5 (c4.1.length) 3,.ela 900003 2 (c7.1.length) 1],Y c3]),(900001,.box 51 [pfx 5 (c4.1.map zAL) c4.2,O c5,.own 900004,.own 900005,.own 900006,.own 900003]),(900002,.arr 43 7 (l6.map cOp)),(900003,.box 54 [pfx 2 (c7.1.map zAX) c7.2,Y c8,.own 900007]),(900004,.arr 9 1 (l9.map cStr)),(900005,.arr 43 7 (l10.map cOp)),(900006,.arr 43 7 (l11.map cOp)),(900007,.arr 43 7 (l12.map cOp))] (zL6 (fun b_=>[(0,.loc 900000 0),(1,D s1),(4,O false),(13,D s1),(14,.tup [D r13.1,D r13.2.1,O r13.2.2]),(12,.tup [D r13.1,D r13.2.1,O r13.2.2]),(15,D r13.1),(16,D r13.2.1),(17,O r13.2.2),(5,D r13.1),(6,D r13.2.1),(7,O r13.2.2),(18,D s1),(19,O (s1==([109,97,105,110]:Bs))),(26,D s1),(27,O (s1==([99,108,97,115,115]:Bs))),(28,O false),(29,D s1),(30,O (s1==([99,108,97,115,115,32,102,111,114,109]:Bs))),(31,O (s1==([99,108,97,115,115,32,102,111,114,109]:Bs))),(68,.loc 900000 0),(69,.loc 900000 0),(70,.loc 900000 0),(71,.loc 900000 0),(72,.own 900001),(73,Y ((c4.1.length+(if b_ then 1 else 0):Nat):Int)),(74,O (((c4.1.length+(if b_ then 1 else 0):Nat):Int)==0))]) (fun b_=>[(900000,.box 80 [.own 900001,.own 900002,.sel k2 [.loc 900000 1,.ela 900001 5 (c4.1.length) 2,.ela 900001 5 (c4.1.length) 3,.ela 900003 2 (c7.1.length) 1],Y c3]),(900001,.box 51 [pfx 5 (c4.1.map zAL) b_,O c5,.own 900004,.own 900005,.own 900006,.own 900003]),(900002,.arr 43 7 (l6.map cOp)),(900003,.box 54 [pfx 2 (c7.1.map zAX) c7.2,Y c8,.own 900007]),(900004,.arr 9 1 (l9.map cStr)),(900005,.arr 43 7 (l10.map cOp)),(900006,.arr 43 7 (l11.map cOp)),(900007,.arr 43 7 (l12.map cOp))]) c4.2 (su [(0,.loc 900000 0),(1,D s1),(5,D r13.1),(6,D r13.2.1),(7,O r13.2.2)] [(900000,.box 80 [.own 900001,.own 900002,.sel k2 [.loc 900000 1,.ela 900001 5 (c4.1.length) 2,.ela 900001 5 (c4.1.length) 3,.ela 900003 2 (c7.1.length) 1],Y c3]),(900001,.box 51 [pfx 5 (c4.1.map zAL) true,O c5,.own 900004,.own 900005,.own 900006,.own 900003]),(900002,.arr 43 7 (l6.map cOp)),(900003,.box 54 [pfx 2 (c7.1.map zAX) c7.2,Y c8,.own 900007]),(900004,.arr 9 1 (l9.map cStr)),(900005,.arr 43 7 (l10.map cOp)),(900006,.arr 43 7 (l11.map cOp)),(900007,.arr 43 7 (l12.map cOp))] (zBE [0,1,3,7,15,0,32,96,224,480,992,2016,4095,8191] mixed (by kernel_rfl) (by kernel_rfl) Z Z (ve [0] [150] [900000] [(75,.loc 900000 0)] ?_)))))))
      refine ve [150] [152] [900000] [(76,.loc 900000 0)] ?_
      refine ve [152] [154] [900000] [(77,.loc 900000 0)] ?_
      refine ve [154] [156] [900000] [(78,.loc 900000 0)] ?_
      refine vf [156,1800001] [158] [] [900000,900001,900002,900003] [900000] [(79,.own 900001)] [(900000,.box 80 [.own 900001,.own 900002,.sel k2 [.loc 900000 1,.ela 900001 5 (c4.1.length) 2,.ela 900001 5 (c4.1.length) 3,.ela 900003 2 (c7.1.length) 1],Y c3])] ?_
      refine ve [0] [160] [900000] [(80,.loc 900000 0)] ?_
      refine ve [160] [162] [900000] [(81,.loc 900000 0)] ?_
      refine ve [162] [164] [900000] [(82,.loc 900000 0)] ?_
      refine ve [164] [166] [900000] [(83,.loc 900000 0)] ?_
      refine vf [166,1800001] [168] [] [900000,900001,900002,900003] [900000] [(84,.own 900001)] [(900000,.box 80 [.own 900001,.own 900002,.sel k2 [.loc 900000 1,.ela 900001 5 (c4.1.length) 2,.ela 900001 5 (c4.1.length) 3,.ela 900003 2 (c7.1.length) 1],Y c3])] ?_
      refine vs [168,1800003] [170] [] [900001,900003,900004,900005,900006] [900001] [(85,Y ((c4.1.length+(if true then 1 else 0):Nat):Int))] [(900001,.box 51 [pfx 5 (c4.1.map zAL) true,O c5,.own 900004,.own 900005,.own 900006,.own 900003])] Z Z (fun w0 X X0 σ0 _=>by refine zDn (T:=tab) (l:=c4.1.length) Z Z Z Z Z Z Z (by simp) Z Z ?_;exact py) ?_
      refine vt (rng .i64 (((c4.1.length+(if true then 1 else 0):Nat):Int) - 1)) [(172,[])] [170] [172] [] [] [] (fun i17=>[(86,Y i17)]) (fun i17=>[]) Z Z (fun _=>Z) (fun w0 X X0 σ0 _=>by refine zAT (T:=tab) Z Z Z Z fun i17 hi17=>?_;exact pz) fun i17 hi17=>?_
      refine vt (zHv (c4.1.length) i17) [(174,[900001])] [158,172,1800003] [174] [] [900001,900003,900004,900005,900006] [900001] (fun _=>[(87,.ela 900001 5 (c4.1.length) 0)]) (fun _=>[(900001,.box 51 [pfx 5 (c4.1.map zAL) true,O c5,.own 900004,.own 900005,.own 900006,.own 900003])]) Z Z (fun _=>Z) (fun w0 X X0 σ0 _=>by refine zGZ (T:=tab) (l:=(c4.1.length)) (by simp) Z Z Z Z Z Z Z Z ?_;exact pz) fun _ h0=>?_
      refine ve [174] [16] [900001] [(8,.ela 900001 5 (c4.1.length) 0)] ?_
      refine zBd Z Z (zAA (zAD (zAP (sr (pq 3 Z (ns (zAN Z ?_ ?_)))))))
      ·refine sr (pq 4 Z (tu [] (enc:=fun (r18:(Bool×Int))=>O r18.1) (Sr:=fun (r18:(Bool×Int))=>[(900000,.box 80 [.own 900001,.own 900002,.ela 900001 5 (c4.1.length) 2,Y r18.2]),(900001,.box 51 [pfx 5 (c4.1.map zAL) true,O c5,.own 900004,.own 900005,.own 900006,.own 900003]),(900002,.arr 43 7 (l6.map cOp)),(900003,.box 54 [pfx 2 (c7.1.map zAX) c7.2,Y c8,.own 900007]),(900004,.arr 9 1 (l9.map cStr)),(900005,.arr 43 7 (l10.map cOp)),(900006,.arr 43 7 (l11.map cOp)),(900007,.arr 43 7 (l12.map cOp))]) (qs:=[.loc 900000 0,.ela 900001 5 (c4.1.length) 2,Y 60]) (Sc:=[(900000,.box 80 [.own 900001,.own 900002,.sel k2 [.loc 900000 1,.ela 900001 5 (c4.1.length) 2,.ela 900001 5 (c4.1.length) 3,.ela 900003 2 (c7.1.length) 1],Y c3]),(900001,.box 51 [pfx 5 (c4.1.map zAL) true,O c5,.own 900004,.own 900005,.own 900006,.own 900003]),(900002,.arr 43 7 (l6.map cOp)),(900003,.box 54 [pfx 2 (c7.1.map zAX) c7.2,Y c8,.own 900007]),(900004,.arr 9 1 (l9.map cStr)),(900005,.arr 43 7 (l10.map cOp)),(900006,.arr 43 7 (l11.map cOp)),(900007,.arr 43 7 (l12.map cOp))]) (N1:=[900000,900001,900002,900003,900004,900005,900006,900007]) (NR:=[900000,900001,900002,900003,900004,900005,900006,900007]) (fun r18 hr18=>fr [(900000,900000),(900001,900001),(900002,900002),(900003,900003),(900004,900004),(900005,900005),(900006,900006),(900007,900007)] [900000,900001,900002,900003,900004,900005,900006,900007] (zEO fu (c4.1.length) 60 k2 c3 (c4.1,true) c5 l6 c7 c8 l9 l10 l11 l12 _ hr18)) zH3 Z Z Z Z Z Z Z Z fun r18 hr18=>pq 1 Z (ns ?_)))
       refine zDy 900000 [.own 900001,.own 900002,.sel 1 [.loc 900000 1,.ela 900001 5 (c4.1.length) 2,.ela 900001 5 (c4.1.length) 3,.ela 900003 2 (c7.1.length) 1],Y r18.2] Z ⟨.rfl,.rfl,(.sel Z Z),.rfl,trivial⟩ Z ?_
       exact rN
      ·refine sr (pq 3 Z (ns (zAN Z ?_ ?_)))
       ·refine sr (pq 4 Z (tu [] (enc:=fun (r19:(Bool×Int))=>O r19.1) (Sr:=fun (r19:(Bool×Int))=>[(900000,.box 80 [.own 900001,.own 900002,.ela 900001 5 (c4.1.length) 3,Y r19.2]),(900001,.box 51 [pfx 5 (c4.1.map zAL) true,O c5,.own 900004,.own 900005,.own 900006,.own 900003]),(900002,.arr 43 7 (l6.map cOp)),(900003,.box 54 [pfx 2 (c7.1.map zAX) c7.2,Y c8,.own 900007]),(900004,.arr 9 1 (l9.map cStr)),(900005,.arr 43 7 (l10.map cOp)),(900006,.arr 43 7 (l11.map cOp)),(900007,.arr 43 7 (l12.map cOp))]) (qs:=[.loc 900000 0,.ela 900001 5 (c4.1.length) 3,Y 60]) (Sc:=[(900000,.box 80 [.own 900001,.own 900002,.sel k2 [.loc 900000 1,.ela 900001 5 (c4.1.length) 2,.ela 900001 5 (c4.1.length) 3,.ela 900003 2 (c7.1.length) 1],Y c3]),(900001,.box 51 [pfx 5 (c4.1.map zAL) true,O c5,.own 900004,.own 900005,.own 900006,.own 900003]),(900002,.arr 43 7 (l6.map cOp)),(900003,.box 54 [pfx 2 (c7.1.map zAX) c7.2,Y c8,.own 900007]),(900004,.arr 9 1 (l9.map cStr)),(900005,.arr 43 7 (l10.map cOp)),(900006,.arr 43 7 (l11.map cOp)),(900007,.arr 43 7 (l12.map cOp))]) (N1:=[900000,900001,900002,900003,900004,900005,900006,900007]) (NR:=[900000,900001,900002,900003,900004,900005,900006,900007]) (fun r19 hr19=>fr [(900000,900000),(900001,900001),(900002,900002),(900003,900003),(900004,900004),(900005,900005),(900006,900006),(900007,900007)] [900000,900001,900002,900003,900004,900005,900006,900007] (zEP fu (c4.1.length) 60 k2 c3 (c4.1,true) c5 l6 c7 c8 l9 l10 l11 l12 _ hr19)) zH3 Z Z Z Z Z Z Z Z fun r19 hr19=>pq 1 Z (ns ?_)))
        refine zDy 900000 [.own 900001,.own 900002,.sel 2 [.loc 900000 1,.ela 900001 5 (c4.1.length) 2,.ela 900001 5 (c4.1.length) 3,.ela 900003 2 (c7.1.length) 1],Y r19.2] Z ⟨.rfl,.rfl,(.sel Z Z),.rfl,trivial⟩ Z ?_
        exact rN
       ·refine sr (zPl (zBW fu k2 c3 c4 c5 c7 c8 l9 l10 l11 l12 r13) (fun (_:Unit)=>[(0,.loc 900000 0),(5,D r13.1),(6,D r13.2.1),(7,O r13.2.2),(8,.ela 900001 5 (c4.1.length) 0)]) (fun (_:Unit)=>[(900000,.box 80 [.own 900001,.own 900002,.sel k2 [.loc 900000 1,.ela 900001 5 (c4.1.length) 2,.ela 900001 5 (c4.1.length) 3,.ela 900003 2 (c7.1.length) 1],Y c3]),(900001,.box 51 [pfx 5 (c4.1.map zAL) true,O c5,.own 900004,.own 900005,.own 900006,.own 900003]),(900002,.arr 43 7 (l6.map cOp)),(900003,.box 54 [pfx 2 (c7.1.map zAX) c7.2,Y c8,.own 900007]),(900004,.arr 9 1 (l9.map cStr)),(900005,.arr 43 7 (l10.map cOp)),(900006,.arr 43 7 (l11.map cOp)),(900007,.arr 43 7 (l12.map cOp))]) ?_ fun hj2=>?_)
        ·rintro _
         refine sr (pq 3 Z (zAK (j:=143) Z ?_ ?_))
         ·refine pq 3 Z (ns (zAN Z ?_ ?_))
          ·refine sr (zFt (enc:=fun (r21:(List Bs))=>.sl 1 false (r21.map cStr)) (qs:=[]) (zEx fu) Z Z trivial (fun _=>Z) zQI Z Z fun r21 hr21=>pq 1 Z (pc (zC9 fu r21 r13.2.1) zQJ Z Z Z Z fun r22 hr22=>pq 1 Z (ns (zAD (sr (pq 3 Z (zAK (j:=151) Z ?_ ?_)))))))
           ·refine pq 7 Z (zAH (zAA (zAc Z ?_)))
            exact sr (pq 1 Z (ns rN))
           ·refine pq 3 Z ?_
            refine zBe (T:=tab) (by simp) Z Z Z Z Z Z Z Z ?_
            refine zDn (T:=tab) (l:=c7.1.length) Z Z Z Z Z Z Z (by simp) Z Z (pq 2 Z (ns (zAN Z ?_ ?_)))
            ·exact sr (pq 1 Z (ns rN))
            ·refine zAE (zAA (sr (pq 4 Z ?_)))
             refine zBe (T:=tab) (by simp) Z Z Z Z Z Z Z Z ?_
             refine pq 1 Z (zAi (T:=tab) Z Z Z Z Z Z Z ?_)
             refine zCj (T:=tab) (rows:=[[Y r22,.v (.slice none 0 0)]]) 166 Z Z Z Z Z Z Z Z Z Z Z Z Z Z ?_
             refine zCD 900007 Z Z Z (zOL 900003 zAX c7.1 (⟨c8,l12⟩:Hook) Z Z Z Z (zGG (T:=tab) ((c7.1++if c7.2 then [(⟨c8,l12⟩:Hook)] else []).map zAX) [[Y r22,.v (.slice none 0 0)]] (c7.1++if c7.2 then [(⟨c8,l12⟩:Hook)] else []).length (by simp) Z Z Z Z Z Z Z Z Z Z Z Z Z Z Z Z Z Z Z Z (zL2 900003 Z Z Z (zCn 900007 43 7 900003 2 Z Z Z Z Z Z (pq 2 Z ?_)))))
             refine zDS (T:=tab) (by simp) Z Z Z Z Z Z Z Z Z Z Z Z ?_
             refine ns (zAD (su [(0,.loc 900000 0),(8,.ela 900001 5 (c4.1.length) 0)] [(900007,.arr 43 7 (([]:List Op).map cOp)),(900003,.box 54 [pfx 2 ((c7.1++if c7.2 then [(⟨c8,l12⟩:Hook)] else []).map zAX) true,Y r22,.own 900007]),(900000,.box 80 [.own 900001,.own 900002,.junk,Y c3]),(900001,.box 51 [pfx 5 (c4.1.map zAL) true,O c5,.own 900004,.own 900005,.own 900006,.own 900003]),(900002,.arr 43 7 (l6.map cOp)),(900004,.arr 9 1 (l9.map cStr)),(900005,.arr 43 7 (l10.map cOp)),(900006,.arr 43 7 (l11.map cOp))] (zBE [0,0,2,6,14,0,32,96,224,480,992,2046,4094,8191,16383] mixed (by kernel_rfl) (by kernel_rfl) Z Z (ve [0] [340] [900000] [(170,.loc 900000 0)] ?_))))
             refine ve [16] [342] [900001] [(171,.ela 900001 5 (c4.1.length) 0)] ?_
             refine ve [342] [344] [900001] [(172,.ela 900001 5 (c4.1.length) 0)] ?_
             refine ve [344] [346] [900001] [(173,.ela 900001 5 (c4.1.length) 4)] ?_
             refine vs [346,1800003] [348] [] [900001,900003,900004,900005,900006] [900001] [(174,.own 900003)] [(900001,.box 51 [pfx 5 (c4.1.map zAL) true,O c5,.own 900004,.own 900005,.own 900006,.own 900003])] Z Z (fun w0 X X0 σ0 _=>by refine zBe (T:=tab) (by simp) Z Z Z Z Z Z Z Z ?_;exact py) ?_
             refine ve [16] [350] [900001] [(175,.ela 900001 5 (c4.1.length) 0)] ?_
             refine ve [350] [352] [900001] [(176,.ela 900001 5 (c4.1.length) 0)] ?_
             refine ve [352] [354] [900001] [(177,.ela 900001 5 (c4.1.length) 4)] ?_
             refine vs [354,1800003] [356] [] [900001,900003,900004,900005,900006] [900001] [(178,.own 900003)] [(900001,.box 51 [pfx 5 (c4.1.map zAL) true,O c5,.own 900004,.own 900005,.own 900006,.own 900003])] Z Z (fun w0 X X0 σ0 _=>by refine zBe (T:=tab) (by simp) Z Z Z Z Z Z Z Z ?_;exact py) ?_
             refine vs [356,1800007] [358] [] [900003,900007] [900003] [(179,Y (((c7.1++if c7.2 then [(⟨c8,l12⟩:Hook)] else []).length+(if true then 1 else 0):Nat):Int))] [(900003,.box 54 [pfx 2 ((c7.1++if c7.2 then [(⟨c8,l12⟩:Hook)] else []).map zAX) true,Y r22,.own 900007])] Z Z (fun w0 X X0 σ0 _=>by refine zDn (T:=tab) (l:=(c7.1++if c7.2 then [(⟨c8,l12⟩:Hook)] else []).length) Z Z Z Z Z Z Z (by simp) Z Z ?_;exact py) ?_
             refine vt (rng .i64 ((((c7.1++if c7.2 then [(⟨c8,l12⟩:Hook)] else []).length+(if true then 1 else 0):Nat):Int) - 1)) [(360,[])] [358] [360] [] [] [] (fun i23=>[(180,Y i23)]) (fun i23=>[]) Z Z (fun _=>Z) (fun w0 X X0 σ0 _=>by refine zAT (T:=tab) Z Z Z Z fun i23 hi23=>?_;exact pz) fun i23 hi23=>?_
             refine vt (zHv ((c7.1++if c7.2 then [(⟨c8,l12⟩:Hook)] else []).length) i23) [(362,[900003])] [348,360,1800007] [362] [] [900003,900007] [900003] (fun _=>[(181,.ela 900003 2 ((c7.1++if c7.2 then [(⟨c8,l12⟩:Hook)] else []).length) 0)]) (fun _=>[(900003,.box 54 [pfx 2 ((c7.1++if c7.2 then [(⟨c8,l12⟩:Hook)] else []).map zAX) true,Y r22,.own 900007])]) Z Z (fun _=>Z) (fun w0 X X0 σ0 _=>by refine zGZ (T:=tab) (l:=((c7.1++if c7.2 then [(⟨c8,l12⟩:Hook)] else []).length)) (by simp) Z Z Z Z Z Z Z Z ?_;exact pz) fun _ h0=>?_
             refine ve [362] [364] [900003] [(182,.ela 900003 2 ((c7.1++if c7.2 then [(⟨c8,l12⟩:Hook)] else []).length) 1)] ?_
             refine vt (zAS fu 60) [(366,[]),(1800001,[900001,900002,900003])] [340,364,1800001,1800003,1800005,1800007,1800009,1800011,1800013,1800015] [366,1800001] [] [900000,900001,900002,900003,900004,900005,900006,900007] [900001,900002,900003,900004,900005,900006,900007] (fun r24=>[(183,O r24.1)]) (fun r24=>[(900000,.box 80 [.own 900001,.own 900002,.ela 900003 2 ((c7.1++if c7.2 then [(⟨c8,l12⟩:Hook)] else []).length) 1,Y r24.2]),(900001,.box 51 [pfx 5 (c4.1.map zAL) true,O c5,.own 900004,.own 900005,.own 900006,.own 900003]),(900002,.arr 43 7 (l6.map cOp)),(900003,.box 54 [pfx 2 ((c7.1++if c7.2 then [(⟨c8,l12⟩:Hook)] else []).map zAX) true,Y r22,.own 900007]),(900004,.arr 9 1 (l9.map cStr)),(900005,.arr 43 7 (l10.map cOp)),(900006,.arr 43 7 (l11.map cOp)),(900007,.arr 43 7 (([]:List Op).map cOp))]) Z Z (fun _=>Z) (fun w0 X X0 σ0 _=>by refine tu [] (enc:=fun (r24:(Bool×Int))=>O r24.1) (Sr:=fun (r24:(Bool×Int))=>[(900000,.box 80 [.own 900001,.own 900002,.ela 900003 2 ((c7.1++if c7.2 then [(⟨c8,l12⟩:Hook)] else []).length) 1,Y r24.2]),(900003,.box 54 [pfx 2 ((c7.1++if c7.2 then [(⟨c8,l12⟩:Hook)] else []).map zAX) true,Y r22,.own 900007]),(900001,.box 51 [pfx 5 (c4.1.map zAL) true,O c5,.own 900004,.own 900005,.own 900006,.own 900003]),(900002,.arr 43 7 (l6.map cOp)),(900007,.arr 43 7 (([]:List Op).map cOp)),(900004,.arr 9 1 (l9.map cStr)),(900005,.arr 43 7 (l10.map cOp)),(900006,.arr 43 7 (l11.map cOp))]) (qs:=[.loc 900000 0,.ela 900003 2 ((c7.1++if c7.2 then [(⟨c8,l12⟩:Hook)] else []).length) 1,Y 60]) (Sc:=[(900000,.box 80 [.own 900001,.own 900002,.junk,Y c3]),(900003,.box 54 [pfx 2 ((c7.1++if c7.2 then [(⟨c8,l12⟩:Hook)] else []).map zAX) true,Y r22,.own 900007]),(900001,.box 51 [pfx 5 (c4.1.map zAL) true,O c5,.own 900004,.own 900005,.own 900006,.own 900003]),(900002,.arr 43 7 (l6.map cOp)),(900007,.arr 43 7 (([]:List Op).map cOp)),(900004,.arr 9 1 (l9.map cStr)),(900005,.arr 43 7 (l10.map cOp)),(900006,.arr 43 7 (l11.map cOp))]) (N1:=[900000,900003,900001,900002,900007,900004,900005,900006]) (NR:=[900000,900003,900001,900002,900007,900004,900005,900006]) (fun r24 hr24=>fr [(900000,900000),(900001,900003),(900002,900001),(900003,900002),(900004,900007),(900005,900004),(900006,900005),(900007,900006)] [900000,900001,900002,900003,900004,900005,900006,900007] (zEQ fu ((c7.1++if c7.2 then [(⟨c8,l12⟩:Hook)] else []).length) 60 c3 ((c7.1++if c7.2 then [(⟨c8,l12⟩:Hook)] else []),true) r22 (c4.1,true) c5 l6 ([]:List Op) l9 l10 l11 _ hr24)) zH3 Z Z Z Z Z Z Z Z fun r24 hr24=>?_;exact pz) fun r24 hr24=>?_
             refine ve [366] [8] [] [(4,O r24.1)] ?_
             refine zBd Z Z (zAA ?_)
             refine zDy 900000 [.own 900001,.own 900002,.sel 3 [.loc 900000 1,.ela 900001 5 (c4.1.length) 2,.ela 900001 5 (c4.1.length) 3,.ela 900003 2 ((c7.1++if c7.2 then [(⟨c8,l12⟩:Hook)] else []).length) 1],Y r24.2] Z ⟨.rfl,.rfl,(.sel Z Z),.rfl,trivial⟩ Z ?_
             exact rN
          ·exact zAE (zAJ (zAA (sr (pq 1 Z (ns rN)))))
         ·refine pq 3 Z (zAH (zAA (zAs Z ?_)))
          exact zAE (zAJ (zAA (sr (pq 1 Z (ns rN)))))
        ·refine pq 3 Z (zAK (j:=107) Z ?_ ?_)
         ·refine pq 3 Z (ns (zAN Z ?_ ?_))
          ·refine sr (pq 1 Z (pc (zHH fu r13.2.1) zQN Z Z Z Z fun r20 hr20=>pq 5 Z (ns (zAD (sr (pq 3 Z (zAK (j:=117) Z ?_ ?_)))))))
           ·refine pq 12 Z (zAH (zAA (zAc Z ?_)))
            exact sr (pq 1 Z (ns rN))
           ·refine pq 5 Z (zAK (j:=122) Z ?_ ?_)
            ·refine pq 7 Z (zAH (zAA (zAc Z ?_)))
             exact sr (pq 1 Z (ns rN))
            ·refine pq 3 Z ?_
             refine zBe (T:=tab) (by simp) Z Z Z Z Z Z Z Z ?_
             refine zCE (T:=tab) cStr l9 Z Z Z Z Z Z Z Z Z (pq 2 Z (ns (zAN Z ?_ ?_)))
             ·exact sr (pq 1 Z (ns rN))
             ·refine zAE (zAA (sr (pq 4 Z ?_)))
              refine zBe (T:=tab) (by simp) Z Z Z Z Z Z Z Z ?_
              refine pq 1 Z ?_
              refine zCj (T:=tab) (rows:=[r13.2.1].map cStr) 136 Z Z Z Z Z Z Z Z Z Z Z Z Z Z ?_
              refine zDw (T:=tab) cStr l9 ([r13.2.1]:List Bs) Z Z Z Z Z Z Z Z Z Z Z Z Z Z (zPB _) Z Z Z Z Z ?_
              refine pq 2 Z ?_
              refine zDS (T:=tab) (by simp) Z Z Z Z Z Z Z Z Z Z Z Z ?_
              exact ns (sr (pq 1 Z (ns rN)))
          ·exact zHr (hj2 ()) ⟨Z,Z,Z,Z,Z,trivial⟩ ⟨Z,Z,Z,Z,Z,Z,Z,Z,trivial⟩ Z
         ·refine pq 3 Z (zAH (zAA (zAs Z ?_)))
          exact zHr (hj2 ()) ⟨Z,Z,Z,Z,Z,trivial⟩ ⟨Z,Z,Z,Z,Z,Z,Z,Z,trivial⟩ Z
def zAU (_fu:Nat) (s1:Bs) (prefix2:Bs):Option Bool:=cnd (decide (((s1.length:Nat):Int)>=((prefix2.length:Nat):Int))) (bnd (zC4 s1 0 ((prefix2.length:Nat):Int)) fun s3=>some (s3==prefix2)) (some false)
theorem zBx (fu:Nat) (s1:Bs) (prefix2:Bs):∀r,zAU fu s1 prefix2=some r->DC zAh Tryz.prog 108 [D s1,D prefix2] (O r):=by
 refine fcI Tryz.func108 Z fun w0 X X0 σ0 _=>sr (pq 1 Z (ns (sr (pq 6 Z (zAK (j:=10) Z ?_ ?_)))))
 ·exact pq 3 Z (zHo (T:=tab) Z Z Z Z Z Z Z Z fun s3 hs3=>pq 4 Z (ns rN))
 ·exact pq 8 Z (ns rN)
def zA1 (fu:Nat) (s1:Bs) (prefix2:Bs):Option (Bs×Bool):=bnd (zAU fu s1 prefix2) fun r3=>cnd (!r3) (some (s1,false)) (bnd (zC4 s1 ((prefix2.length:Nat):Int) ((s1.length:Nat):Int)) fun s4=>some (s4,true))
theorem zCw (fu:Nat) (s1:Bs) (prefix2:Bs):∀r,zA1 fu s1 prefix2=some r->DC zAh Tryz.prog 83 [D s1,D prefix2] (.tup [D r.1,O r.2]):=by
 refine fcI Tryz.func83 Z fun w0 X X0 σ0 _=>sr (pq 2 Z (ns (zAD (sr (pq 2 Z (pc (zBx fu s1 prefix2) zM5 Z Z Z Z fun r3 hr3=>pq 1 Z (ns (zAN Z ?_ ?_))))))))
 ·exact sr (pq 3 Z (ns rN))
 ·exact zAE (zAA (sr (pq 3 Z (zHo (T:=tab) Z Z Z Z Z Z Z Z fun s4 hs4=>pq 2 Z (ns rN)))))
def zAM (fu:Nat) (s1:Bs) (prefix2:Bs):Option (Bs×Bool):=bnd (zA1 fu s1 prefix2) fun r3=>some (r3.1,r3.2)
theorem zCb (fu:Nat) (s1:Bs) (prefix2:Bs):∀r,zAM fu s1 prefix2=some r->DC zAh Tryz.prog 46 [D s1,D prefix2] (.tup [D r.1,O r.2]):=by
 exact fcI Tryz.func46 Z fun w0 X X0 σ0 _=>sr (pq 2 Z (ns (sr (pq 2 Z (pc (zCw fu s1 prefix2) call83 Z Z Z Z fun r3 hr3=>pq 4 Z (ns rN))))))
def zFK (fu:Nat):Option (List Bs):=bnd (zG4 fu ([45,32,110,101,119,32,100,114,97,102,116,32,116,101,120,116,32,102,114,97,103,32,115,104,97,100,101,32,112,117,116,32,111,117,116,32,115,119,97,112,32,115,101,116,32,117,110,115,101,116,32,116,111,103,103,108,101,32,99,111,112,121,32,116,97,107,101,32,101,109,112,116,121,32,106,111,105,110,32,100,101,102,105,110,101,32,119,97,105,116,32,117,112,103,114,97,100,101,32,98,117,105,108,100,32,115,117,112,101,114,32,103,105,118,101,32,116,104,114,111,119,32,114,101,115,101,116,32,114,101,115,116,111,114,101,32,114,101,115,116,32,104,97,110,100,112,117,116,32,104,97,110,100,111,117,116,32,104,97,110,100,115,101,116]:Bs)) fun r1=>some r1
theorem zHL (fu:Nat):∀r,zFK fu=some r->DC zAh Tryz.prog 49 [] (.sl 1 false (r.map cStr)):=by
 exact fcI Tryz.func49 Z fun w0 X X0 σ0 _=>sr (pq 1 Z (ns (sr (pc (zJi fu ([45,32,110,101,119,32,100,114,97,102,116,32,116,101,120,116,32,102,114,97,103,32,115,104,97,100,101,32,112,117,116,32,111,117,116,32,115,119,97,112,32,115,101,116,32,117,110,115,101,116,32,116,111,103,103,108,101,32,99,111,112,121,32,116,97,107,101,32,101,109,112,116,121,32,106,111,105,110,32,100,101,102,105,110,101,32,119,97,105,116,32,117,112,103,114,97,100,101,32,98,117,105,108,100,32,115,117,112,101,114,32,103,105,118,101,32,116,104,114,111,119,32,114,101,115,101,116,32,114,101,115,116,111,114,101,32,114,101,115,116,32,104,97,110,100,112,117,116,32,104,97,110,100,111,117,116,32,104,97,110,100,115,101,116]:Bs)) zQO Z Z Z Z fun r1 hr1=>pq 1 Z (ns rN)))))
def zBy (fu:Nat) (kind1:Int):Option Bs:=bnd (zFK fu) fun r2=>cnd (decide (kind1>0)) (cnd (decide (kind1<((r2.length:Nat):Int))) (bnd (idx r2 kind1) fun y3=>some y3) (some [])) (some [])
theorem zB5 (fu:Nat) (kind1:Int):∀r,zBy fu kind1=some r->DC zAh Tryz.prog 85 [Y kind1] (D r):=by
 refine fcI Tryz.func85 Z fun w0 X X0 σ0 _=>sr (pq 1 Z (ns (zAD (sr (zFt (enc:=fun (r2:(List Bs))=>.sl 1 false (r2.map cStr)) (qs:=[]) (zHL fu) Z Z trivial (fun _=>Z) zQK Z Z fun r2 hr2=>pq 1 Z (ns (sr (pq 3 Z (zAK (j:=7) Z ?_ ?_)))))))))
 ·refine pq 2 Z (zBh (T:=tab) cStr r2 Z Z Z Z Z Z Z Z (pq 2 Z (ns (zAN Z ?_ ?_))))
  ·exact sr (pq 2 Z (zCi (T:=tab) cStr r2 Z Z Z Z Z Z Z fun y3 hy3=>pq 2 Z (ns rN)))
  ·exact zAE (zAA (sr (pq 1 Z (ns rN))))
 ·refine pq 5 Z (zAH (zAA (zAs Z ?_)))
  exact zAE (zAA (sr (pq 1 Z (ns rN))))
def zCs (fu:Nat) (kind1:Int) (t14:Bool):Option (Op_form×Bool):=cnd t14 (bnd (zBy fu kind1) fun r15=>some ((⟨r15,[46,46,46,46,46]⟩:Op_form),true)) (bnd (zBy fu kind1) fun r16=>cnd (decide (kind1>0)) (some ((⟨r16,[110,46,46,46,46]⟩:Op_form),(decide (kind1<=28)))) (some ((⟨r16,[110,46,46,46,46]⟩:Op_form),false)))
def zCr (fu:Nat) (kind1:Int) (t6:Bool):Option (Op_form×Bool):=cnd t6 (bnd (zBy fu kind1) fun r7=>some ((⟨r7,[110,110,111,46,46]⟩:Op_form),true)) (cnd (kind1==11) (bnd (zBy fu kind1) fun r8=>some ((⟨r8,[110,105,46,115,46]⟩:Op_form),true)) (cnd (kind1==12) (bnd (zBy fu kind1) fun r9=>some ((⟨r9,[110,105,110,46,46]⟩:Op_form),true)) (cnd (kind1==13) (bnd (zBy fu kind1) fun r10=>some ((⟨r10,[110,110,46,46,46]⟩:Op_form),true)) (cnd (kind1==16) (bnd (zBy fu kind1) fun r11=>some ((⟨r11,[105,46,46,115,115]⟩:Op_form),true)) (cnd (kind1==17) (bnd (zBy fu kind1) fun r12=>some ((⟨r12,[46,46,46,115,46]⟩:Op_form),true)) (cnd (kind1==19) (bnd (zBy fu kind1) fun r13=>some ((⟨r13,[105,46,46,46,46]⟩:Op_form),true)) (cnd (kind1==20) ((zCs fu kind1) (kind1==20)) (cnd (kind1==22) ((zCs fu kind1) (kind1==22)) ((zCs fu kind1) (kind1==25))))))))))
def zCq (fu:Nat) (kind1:Int) (t4:Bool):Option (Op_form×Bool):=cnd t4 (bnd (zBy fu kind1) fun r5=>some ((⟨r5,[110,46,46,115,46]⟩:Op_form),true)) (cnd (kind1==6) ((zCr fu kind1) (kind1==6)) (cnd (kind1==8) ((zCr fu kind1) (kind1==8)) ((zCr fu kind1) (kind1==26))))
def zCK (fu:Nat) (kind1:Int) (t2:Bool):Option (Op_form×Bool):=cnd t2 (bnd (zBy fu kind1) fun r3=>some ((⟨r3,[110,46,46,115,115]⟩:Op_form),true)) (cnd (kind1==3) ((zCq fu kind1) (kind1==3)) (cnd (kind1==10) ((zCq fu kind1) (kind1==10)) ((zCq fu kind1) (kind1==24))))
def zCk (fu:Nat) (kind1:Int):Option (Op_form×Bool):=cnd (kind1==1) ((zCK fu kind1) (kind1==1)) (cnd (kind1==2) ((zCK fu kind1) (kind1==2)) (cnd (kind1==9) ((zCK fu kind1) (kind1==9)) ((zCK fu kind1) (kind1==28))))
theorem zEw (fu:Nat) (kind1:Int):∀r,zCk fu kind1=some r->DC zAh Tryz.prog 50 [Y kind1] (.tup [.agg (zPA r.1),O r.2]):=by
 refine fcI Tryz.func50 Z fun w0 X X0 σ0 _=>sr (zA4 (T:=tab) 2 Z Z Z Z Z Z Z Z Z (pq 1 Z (ns (zAD (sr (pq 1 Z (ns (zAP (zAD (sr (pq 2 Z (ns (zBj (zCK fu kind1) (fun (t2:Bool)=>[(0,Y kind1),(2,.loc 2 0),(4,Y kind1),(5,O t2)]) (fun (t2:Bool)=>[(2,.box 101 [D [],D []])]) ?_ fun hj1=>?_)))))))))))))
 ·rintro t2
  refine zAA (zAN Z ?_ ?_)
  ·exact sr (pq 1 Z (pc (zB5 fu kind1) zE1 Z Z Z Z fun r3 hr3=>zAi (T:=tab) Z Z Z Z Z Z Z (zAI (T:=tab) Z Z Z Z Z Z Z Z Z Z Z Z (pq 1 Z (ns rN)))))
  ·refine zAD (sr (pq 2 Z (ns (zBj (zCq fu kind1) (fun (t4:Bool)=>[(0,Y kind1),(2,.loc 2 0),(4,Y kind1),(13,O t4)]) (fun (t4:Bool)=>[(2,.box 101 [D [],D []])]) ?_ fun hj2=>?_))))
   ·rintro t4
    refine zAA (zAN Z ?_ ?_)
    ·exact sr (pq 1 Z (pc (zB5 fu kind1) zE1 Z Z Z Z fun r5 hr5=>zAi (T:=tab) Z Z Z Z Z Z Z (zAI (T:=tab) Z Z Z Z Z Z Z Z Z Z Z Z (pq 1 Z (ns rN)))))
    ·refine zAD (sr (pq 2 Z (ns (zBj (zCr fu kind1) (fun (t6:Bool)=>[(0,Y kind1),(2,.loc 2 0),(4,Y kind1),(20,O t6)]) (fun (t6:Bool)=>[(2,.box 101 [D [],D []])]) ?_ fun hj3=>?_))))
     ·rintro t6
      refine zAA (zAN Z ?_ ?_)
      ·exact sr (pq 1 Z (pc (zB5 fu kind1) zE1 Z Z Z Z fun r7 hr7=>zAi (T:=tab) Z Z Z Z Z Z Z (zAI (T:=tab) Z Z Z Z Z Z Z Z Z Z Z Z (pq 1 Z (ns rN)))))
      ·refine sr (pq 2 Z (ns (zAN Z ?_ ?_)))
       ·exact sr (pq 1 Z (pc (zB5 fu kind1) zE1 Z Z Z Z fun r8 hr8=>zAi (T:=tab) Z Z Z Z Z Z Z (zAI (T:=tab) Z Z Z Z Z Z Z Z Z Z Z Z (pq 1 Z (ns rN)))))
       ·refine sr (pq 2 Z (ns (zAN Z ?_ ?_)))
        ·exact sr (pq 1 Z (pc (zB5 fu kind1) zE1 Z Z Z Z fun r9 hr9=>zAi (T:=tab) Z Z Z Z Z Z Z (zAI (T:=tab) Z Z Z Z Z Z Z Z Z Z Z Z (pq 1 Z (ns rN)))))
        ·refine sr (pq 2 Z (ns (zAN Z ?_ ?_)))
         ·exact sr (pq 1 Z (pc (zB5 fu kind1) zE1 Z Z Z Z fun r10 hr10=>zAi (T:=tab) Z Z Z Z Z Z Z (zAI (T:=tab) Z Z Z Z Z Z Z Z Z Z Z Z (pq 1 Z (ns rN)))))
         ·refine sr (pq 2 Z (ns (zAN Z ?_ ?_)))
          ·exact sr (pq 1 Z (pc (zB5 fu kind1) zE1 Z Z Z Z fun r11 hr11=>zAi (T:=tab) Z Z Z Z Z Z Z (zAI (T:=tab) Z Z Z Z Z Z Z Z Z Z Z Z (pq 1 Z (ns rN)))))
          ·refine sr (pq 2 Z (ns (zAN Z ?_ ?_)))
           ·exact sr (pq 1 Z (pc (zB5 fu kind1) zE1 Z Z Z Z fun r12 hr12=>zAi (T:=tab) Z Z Z Z Z Z Z (zAI (T:=tab) Z Z Z Z Z Z Z Z Z Z Z Z (pq 1 Z (ns rN)))))
           ·refine sr (pq 2 Z (ns (zAN Z ?_ ?_)))
            ·exact sr (pq 1 Z (pc (zB5 fu kind1) zE1 Z Z Z Z fun r13 hr13=>zAi (T:=tab) Z Z Z Z Z Z Z (zAI (T:=tab) Z Z Z Z Z Z Z Z Z Z Z Z (pq 1 Z (ns rN)))))
            ·refine zAD (sr (pq 2 Z (ns (zBj (zCs fu kind1) (fun (t14:Bool)=>[(0,Y kind1),(2,.loc 2 0),(57,O t14)]) (fun (t14:Bool)=>[(2,.box 101 [D [],D []])]) ?_ fun hj4=>?_))))
             ·rintro t14
              refine zAA (zAN Z ?_ ?_)
              ·exact sr (pq 1 Z (pc (zB5 fu kind1) zE1 Z Z Z Z fun r15 hr15=>zAi (T:=tab) Z Z Z Z Z Z Z (zAI (T:=tab) Z Z Z Z Z Z Z Z Z Z Z Z (pq 1 Z (ns rN)))))
              ·refine zAE (zAJ (zAA (sr (pq 1 Z (pc (zB5 fu kind1) zE1 Z Z Z Z fun r16 hr16=>zAi (T:=tab) Z Z Z Z Z Z Z (pq 3 Z (zAK (j:=69) Z ?_ ?_)))))))
               ·exact pq 3 Z (zAI (T:=tab) Z Z Z Z Z Z Z Z Z Z Z Z (pq 1 Z (ns rN)))
               ·exact pq 3 Z (zAI (T:=tab) Z Z Z Z Z Z Z Z Z Z Z Z (pq 1 Z (ns rN)))
             ·refine zAN Z ?_ ?_
              ·exact zAE (ps (hj4 (kind1==20)))
              ·refine sr (pq 2 Z (ns (zAN Z ?_ ?_)))
               ·exact zAE (ps (hj4 (kind1==22)))
               ·exact zAB (pq 2 Z (zAH (ps (hj4 (kind1==25)))))
     ·refine zAN Z ?_ ?_
      ·exact zAE (ps (hj3 (kind1==6)))
      ·refine sr (pq 2 Z (ns (zAN Z ?_ ?_)))
       ·exact zAE (ps (hj3 (kind1==8)))
       ·exact zAB (pq 2 Z (zAH (ps (hj3 (kind1==26)))))
   ·refine zAN Z ?_ ?_
    ·exact zAE (ps (hj2 (kind1==3)))
    ·refine sr (pq 2 Z (ns (zAN Z ?_ ?_)))
     ·exact zAE (ps (hj2 (kind1==10)))
     ·exact zAB (pq 2 Z (zAH (ps (hj2 (kind1==24)))))
 ·refine zAN Z ?_ ?_
  ·exact zAE (ps (hj1 (kind1==1)))
  ·refine sr (pq 2 Z (ns (zAN Z ?_ ?_)))
   ·exact zAE (ps (hj1 (kind1==2)))
   ·refine sr (pq 2 Z (ns (zAN Z ?_ ?_)))
    ·exact zAE (ps (hj1 (kind1==9)))
    ·exact zAB (pq 2 Z (zAH (ps (hj1 (kind1==28)))))
def zCL (_fu:Nat):Option Unit:=some ()
theorem zEY (fu:Nat) (c1:Op):∀r,zCL fu=some r->FC zAh Tryz.prog 51 [.loc 900000 0] [(900000,.box 43 [Y c1.Kind,Y c1.A,Y c1.B,Y c1.C,D c1.S,D c1.T,O c1.Must])] [900000] fun p S'=>p=.bsl 12 3/\S'=[(900000,.box 43 [Y c1.Kind,Y c1.A,Y c1.B,Y c1.C,D c1.S,D c1.T,O c1.Must]),(12,.box 107 [.loc 900000 1,.loc 900000 2,.loc 900000 3])]:=by
 refine fcI Tryz.func51 Z fun w0 X X0 σ0 _=>sr (pq 1 Z (ns (zAD (su [(0,.loc 900000 0)] [(900000,.box 43 [Y c1.Kind,Y c1.A,Y c1.B,Y c1.C,D c1.S,D c1.T,O c1.Must])] (zBE [0,1,3,0,8,24,0,64,192,511,1023] mixed (by kernel_rfl) (by kernel_rfl) Z Z (ve [0] [6] [900000] [(3,.loc 900000 0)] ?_))))))
 refine ve [6] [8] [900000] [(4,.loc 900000 0)] ?_
 refine ve [8] [10] [900000] [(5,.loc 900000 1)] ?_
 refine ve [0] [12] [900000] [(6,.loc 900000 0)] ?_
 refine ve [12] [14] [900000] [(7,.loc 900000 0)] ?_
 refine ve [14] [16] [900000] [(8,.loc 900000 2)] ?_
 refine ve [0] [18] [900000] [(9,.loc 900000 0)] ?_
 refine ve [18] [20] [900000] [(10,.loc 900000 0)] ?_
 refine ve [20] [22] [900000] [(11,.loc 900000 3)] ?_
 refine vs [10,16,22,1800001] [24,25] [12] [900000] [900000] [(12,.bsl 12 3)] [(12,.box 107 [.loc 900000 1,.loc 900000 2,.loc 900000 3]),(900000,.box 43 [Y c1.Kind,Y c1.A,Y c1.B,Y c1.C,D c1.S,D c1.T,O c1.Must])] Z Z (fun w0 X X0 σ0 _=>by refine zOK (T:=tab) 12 Z Z Z Z Z Z Z Z Z Z Z Z Z Z ?_;exact py) ?_
 refine ve [24] [4] [12] [(2,.bsl 12 3)] ?_
 exact zBd Z Z (zAA rN)
def zBb (fu:Nat) (field1:Int) (w2:Bs) (x_:Unit):Option (Int×Bool):=bnd (zHN fu w2) fun r3=>cnd (!r3.2) (bnd (zIB fu r3.1) fun r4=>cnd (r4==w2) (cnd (field1==105) (some (r3.1,true)) (some (r3.1,(decide (r3.1>=0))))) (some (r3.1,false))) (some (r3.1,false))
def zBA (fu:Nat) (field1:Int) (w2:Bs):Option (Int×Bool):=cnd (field1 != 105) (cnd (w2==([45]:Bs)) (some ((-1),(field1==111))) (cnd (w2==([115,101,108,102]:Bs)) (some ((-2),true)) (cnd (w2==([108,97,115,116]:Bs)) (some ((-3),true)) ((zBb fu field1 w2) ())))) ((zBb fu field1 w2) ())
theorem zDV (fu:Nat) (field1:Int) (w2:Bs):∀r,zBA fu field1 w2=some r->DC zAh Tryz.prog 52 [.v (.int .u8 field1),D w2] (.tup [Y r.1,O r.2]):=by
 refine fcI Tryz.func52 Z fun w0 X X0 σ0 _=>sr (pq 2 Z (ns (zAD (sr (pq 2 Z (ns (zBj (zBb fu field1 w2) (fun (_:Unit)=>[(0,.v (.int .u8 field1)),(1,D w2)]) (fun (_:Unit)=>[]) ?_ fun hj1=>?_)))))))
 ·rintro _
  refine zAA (sr (pq 1 Z (pc (zQx fu w2) call86 Z Z Z Z fun r3 hr3=>pq 5 Z (ns (sr (pq 2 Z (po_err Tryz.underlying122 Z Z Z Z Z Z (pq 1 Z (zAK (j:=27) Z ?_ ?_)))))))))
  ·refine pq 1 Z (pc (zNq fu r3.1) zQQ Z Z Z Z fun r4 hr4=>pq 4 Z (zAK (j:=33) Z ?_ ?_))
   ·refine pq 3 Z (zAK (j:=36) Z ?_ ?_)
    ·exact pq 6 Z (ns rN)
    ·exact pq 6 Z (ns rN)
   ·exact pq 9 Z (ns rN)
  ·exact pq 15 Z (ns rN)
 ·refine zAN Z ?_ ?_
  ·refine sr (pq 1 Z (ns (zAP (sr (pq 2 Z (ns (zAN Z ?_ ?_)))))))
   ·exact sr (pq 4 Z (ns rN))
   ·refine sr (pq 2 Z (ns (zAN Z ?_ ?_)))
    ·exact sr (pq 2 Z (ns rN))
    ·refine sr (pq 2 Z (ns (zAN Z ?_ ?_)))
     ·exact sr (pq 2 Z (ns rN))
     ·exact zAE (zAJ (ps (hj1 ())))
  ·exact zAE (ps (hj1 ()))
def zCX (_fu:Nat):Option Unit:=some ()
theorem zFj (fu:Nat) (c1:Op):∀r,zCX fu=some r->FC zAh Tryz.prog 53 [.loc 900000 0] [(900000,.box 43 [Y c1.Kind,Y c1.A,Y c1.B,Y c1.C,D c1.S,D c1.T,O c1.Must])] [900000] fun p S'=>p=.bsl 9 2/\S'=[(900000,.box 43 [Y c1.Kind,Y c1.A,Y c1.B,Y c1.C,D c1.S,D c1.T,O c1.Must]),(9,.box 112 [.loc 900000 4,.loc 900000 5])]:=by
 refine fcI Tryz.func53 Z fun w0 X X0 σ0 _=>sr (pq 1 Z (ns (zAD (su [(0,.loc 900000 0)] [(900000,.box 43 [Y c1.Kind,Y c1.A,Y c1.B,Y c1.C,D c1.S,D c1.T,O c1.Must])] (zBE [0,1,3,0,8,24,63,127] mixed (by kernel_rfl) (by kernel_rfl) Z Z (ve [0] [6] [900000] [(3,.loc 900000 0)] ?_))))))
 refine ve [6] [8] [900000] [(4,.loc 900000 0)] ?_
 refine ve [8] [10] [900000] [(5,.loc 900000 4)] ?_
 refine ve [0] [12] [900000] [(6,.loc 900000 0)] ?_
 refine ve [12] [14] [900000] [(7,.loc 900000 0)] ?_
 refine ve [14] [16] [900000] [(8,.loc 900000 5)] ?_
 refine vs [10,16,1800001] [18,19] [9] [900000] [900000] [(9,.bsl 9 2)] [(9,.box 112 [.loc 900000 4,.loc 900000 5]),(900000,.box 43 [Y c1.Kind,Y c1.A,Y c1.B,Y c1.C,D c1.S,D c1.T,O c1.Must])] Z Z (fun w0 X X0 σ0 _=>by refine zOK (T:=tab) 9 Z Z Z Z Z Z Z Z Z Z Z Z Z Z ?_;exact py) ?_
 refine ve [18] [4] [9] [(2,.bsl 9 2)] ?_
 exact zBd Z Z (zAA rN)
def zBN (fu:Nat) (s1:Bs) (prefix2:Bs):Option Bool:=bnd (zAU fu s1 prefix2) fun r3=>some r3
theorem zFZ (fu:Nat) (s1:Bs) (prefix2:Bs):∀r,zBN fu s1 prefix2=some r->DC zAh Tryz.prog 88 [D s1,D prefix2] (O r):=by
 exact fcI Tryz.func88 Z fun w0 X X0 σ0 _=>sr (pq 1 Z (ns (sr (pq 2 Z (pc (zBx fu s1 prefix2) zM5 Z Z Z Z fun r3 hr3=>pq 1 Z (ns rN))))))
def zAV (_fu:Nat) (l1:(List Int)):Option Bs:=some (zDk l1)
theorem zEA (fu:Nat) (l1:(List Int)):∀r,zAV fu l1=some r->FC zAh Tryz.prog 30 [.loc 900000 0] [(900000,.box 62 [.nloc 900000 0,.ownb 900001]),(900001,.arr 5 1 (l1.map zAC))] [900000,900001] fun p S'=>p=D r/\S'=[(900000,.box 62 [.nloc 900000 0,.junk])]:=by
 refine fcI Tryz.func30 Z fun w0 X X0 σ0 _=>sr (pq 1 Z (ns (zAD (su [(0,.loc 900000 0)] [(900000,.box 62 [.nloc 900000 0,.ownb 900001]),(900001,.arr 5 1 (l1.map zAC))] (zBE [0,1,3,7,15,0,32,96,224,480,1023,2047] mixed (by kernel_rfl) (by kernel_rfl) Z Z (ve [0] [6] [900000] [(3,.loc 900000 0)] ?_))))))
 refine ve [6] [8] [900000] [(4,.loc 900000 0)] ?_
 refine ve [8] [10] [900000] [(5,.loc 900000 1)] ?_
 refine vf [10,1800001] [12] [] [900000,900001] [900000] [(6,.ownb 900001)] [(900000,.box 62 [.nloc 900000 0,.ownb 900001])] ?_
 refine vs [12,1800003] [14] [] [900001] [900001] [(7,.dat 900001)] [(900001,.arr 5 1 (l1.map zAC))] Z Z (fun w0 X X0 σ0 _=>by refine zFA Z Z Z Z Z Z ?_;exact py) ?_
 refine ve [0] [16] [900000] [(8,.loc 900000 0)] ?_
 refine ve [16] [18] [900000] [(9,.loc 900000 0)] ?_
 refine ve [18] [20] [900000] [(10,.loc 900000 1)] ?_
 refine vf [20,1800001] [22] [] [900000,900001] [900000] [(11,.ownb 900001)] [(900000,.box 62 [.nloc 900000 0,.ownb 900001])] ?_
 refine vs [22,1800003] [24,22] [] [900001] [900001] [(12,Y ((l1.length:Nat):Int)),(11,.own 900001)] [(900001,.arr 5 1 (l1.map zAC))] Z Z (fun w0 X X0 σ0 _=>by refine zJ9 11 (q:=.own 900001) Z .ownb ?_;refine zCE (T:=tab) zAC l1 Z Z Z Z Z Z Z Z Z ?_;exact py) ?_
 refine vs [12,14,22,24,1800001,1800003] [26,12,14,22,1800001,1800003] [] [900000,900001] [] [(13,D (zDk l1)),(11,.sl 1 false (l1.map zAC))] [(900000,.box 62 [.nloc 900000 0,.junk])] Z Z (fun w0 X X0 σ0 _=>by refine zFv zAC l1 (fun _=>Z) Z Z Z Z Z Z Z Tryz.underlying127 (by kernel_rfl) Z Z Z Z ?_;exact py) ?_
 refine ve [26] [4] [] [(2,D (zDk l1))] ?_
 exact zBd Z Z (zAA rN)
def zAY (_fu:Nat):Option Unit:=some ()
theorem zDi (fu:Nat) (l1:(List Int)):∀r,zAY fu=some r->FC zAh Tryz.prog 98 [.loc 900000 0] [(900000,.box 62 [.nloc 900000 0,.ownb 900001]),(900001,.arr 5 1 (l1.map zAC))] [900000,900001] fun p S'=>p=.tup []/\S'=[(900000,.box 62 [.nloc 900000 0,.ownb 900001]),(900001,.arr 5 1 (l1.map zAC))]:=by
 refine fcI Tryz.func98 Z fun w0 X X0 σ0 _=>sr (pq 3 Z (zHn 900000 0 Z Z Z Z Z Z ?_ ?_))
 ·exact pq 1 Z (zGI (T:=tab) Tryz.underlying59 Z Z Z Z Z Z Z Z (ns (zAc Z (zAB (pq 2 Z (zFu (T:=tab) Tryz.underlying59 Tryz.underlying160 Z Z Tryz.func120 Z Z Z Z Z Z Z Z Z (by kernel_rfl) Z Z Z Z Z Z Z Z Z Z Z (pq 2 Z (zAI (T:=tab) Z Z Z Z Z Z Z Z Z Z Z Z (zAH (zED 900000 [.nloc 900000 0,.ownb 900001] Z ⟨.nloc1,.rfl,trivial⟩ Z (zDY (T:=tab) Z Z Z ⟨Z,Z⟩ ⟨Z,Z,trivial⟩ Z)))))))))))
 ·exact pq 1 Z (zGI (T:=tab) Tryz.underlying59 Z Z Z Z Z Z Z Z (ns (zAs Z (sr (pq 5 Z (zGI (T:=tab) Tryz.underlying59 Z Z Z Z Z Z Z Z (ns (zAs Z (zAE (zED 900000 [.nloc 900000 0,.ownb 900001] Z ⟨.nloc1,.rfl,trivial⟩ Z (zDY (T:=tab) Z Z Z ⟨Z,Z⟩ ⟨Z,Z,trivial⟩ Z)))))))))))
def zAn (fu:Nat) (c1:Int) (l2:(List Int)):Option (Bool×(List Int)):=bnd (zAY fu) fun r3=>bnd (zEF 1 (l2.length+([c1]:List Int).length)) fun _=>some (false,(l2++[c1]))
theorem zBi (fu:Nat) (c1:Int) (l2:(List Int)):∀r,zAn fu c1 l2=some r->FC zAh Tryz.prog 89 [.loc 900000 0,.v (.int .u8 c1)] [(900000,.box 62 [.nloc 900000 0,.ownb 900001]),(900001,.arr 5 1 (l2.map zAC))] [900000] fun p S'=>p=.err r.1/\S'=[(900000,.box 62 [.nloc 900000 0,.ownb 900001]),(900001,.arr 5 1 (r.2.map zAC))]:=by
 exact fcI Tryz.func89 Z fun w0 X X0 σ0 _=>sr (pq 1 Z (ns (sr (pq 1 Z (zDK (enc:=fun (r3:Unit)=>.tup []) (first:=[]) (cap:=[]) (qs:=[.loc 900000 0]) (Sc:=[(900000,.box 62 [.nloc 900000 0,.ownb 900001]),(900001,.arr 5 1 (l2.map zAC))]) (fun r3 hr3=>zH6 [(900000,900000),(900001,900001)] [900000,900001] (zDi fu l2 _ hr3) Z Z Z Z Z Z) (zBY ⟨Z,Z,trivial⟩ Z) Z Z Z Z ⟨⟨_,Z,.rfl⟩,trivial⟩ (fun _=>Z) zNH Z Z fun r3 hr3=>ns (sr (pq 6 Z (zCj (T:=tab) (rows:=[c1].map zAC) 13 Z Z Z Z Z Z Z Z Z Z Z Z Z Z (zJ9 11 (q:=.own 900001) Z .ownb (zDw (T:=tab) zAC l2 ([c1]:List Int) Z Z Z Z Z Z Z Z Z Z Z Z Z Z (zKZ _) Z Z Z Z Z (po_toB 900001 14 Z Z (by simp) (pq 2 Z (zAI (T:=tab) Z Z Z Z Z Z Z Z Z Z Z Z (ns (sr (pq 1 Z (ns (zOV 4 (q:=.err false) Z .err0 rN))))))))))))))))))
def zBS (fu:Nat) (s1:Bs):Nat->Int×(List Int)->Option (Bs×Bs×Bool)
 | 0,_=>none
 | k1+1,(i3,l4)=>cnd (decide (i3<((s1.length:Nat):Int))) (bnd (chr s1 i3) fun b5=>cnd (b5==34) (bnd (zAV fu l4) fun r6=>bnd (rng .i64 (i3+1)) fun i7=>bnd (zC4 s1 i7 ((s1.length:Nat):Int)) fun s8=>some (r6,s8,true)) (bnd (chr s1 i3) fun b9=>cnd (b9 != 92) (bnd (chr s1 i3) fun b17=>bnd (zAn fu b17 l4) fun r18=>bnd (rng .i64 (i3+1)) fun i23=>(zBS fu s1 k1) (i23,r18.2)) (bnd (rng .i64 (i3+1)) fun i10=>cnd (decide (i10<((s1.length:Nat):Int))) (bnd (rng .i64 (i3+1)) fun i11=>bnd (chr s1 i11) fun b12=>cnd (b12==34) (bnd (rng .i64 (i3+1)) fun i15=>bnd (chr s1 i15) fun b19=>bnd (zAn fu b19 l4) fun r20=>bnd (rng .i64 (i15+1)) fun i24=>(zBS fu s1 k1) (i24,r20.2)) (bnd (rng .i64 (i3+1)) fun i13=>bnd (chr s1 i13) fun b14=>cnd (b14==92) (bnd (rng .i64 (i3+1)) fun i16=>bnd (chr s1 i16) fun b21=>bnd (zAn fu b21 l4) fun r22=>bnd (rng .i64 (i16+1)) fun i25=>(zBS fu s1 k1) (i25,r22.2)) (some ([],[],false)))) (some ([],[],false))))) (some ([],[],false))
def zAz (fu:Nat) (s1:Bs):Option (Bs×Bs×Bool):=bnd (zBN fu s1 [34]) fun r2=>cnd (!r2) (some ([],[],false)) ((zBS fu s1) fu (1,[]))
theorem zFc (fu:Nat) (s1:Bs):∀r,zAz fu s1=some r->DC zAh Tryz.prog 54 [D s1] (.tup [D r.1,D r.2.1,O r.2.2]):=by
 refine fcI Tryz.func54 Z fun w0 X X0 σ0 _=>sr (pq 3 Z (ns (sr (zA4 (T:=tab) 5 Z Z Z Z Z Z Z Z Z ?_))))
 refine zKz 5 [.nloc 5 0,.v (.slice none 0 0)] Z ⟨.nloc0,.rfl,trivial⟩ Z ?_
 refine zE9 5050 5 1 5 1 Z Z Z Z Z Z (ns (zAD (sr (pq 1 Z (pc (zFZ fu s1 [34]) call88 Z Z Z Z fun r2 hr2=>pq 1 Z (ns (zAN Z ?_ ?_)))))))
 ·exact sr (pq 3 Z (ns rN))
 ·refine zAE (zAA (zAD (sr (pq 1 Z (ns (zAP (lq (zBS fu s1) (fun ((i3,l4):Int×(List Int))=>[(0,D s1),(5,.loc 5 0),(6,Y i3)]) (fun ((i3,l4):Int×(List Int))=>[(5050,.arr 5 1 (l4.map zAC)),(5,.box 62 [.nloc 5 0,.ownb 5050])]) fu (1,[]) ?_)))))))
  rintro k1 ⟨i3,l4⟩
  refine zAD (sr (pq 4 Z (ns (zAN Z ?_ ?_))))
  ·refine zAE (zAA (zAD (zAP (zAD (zAP (sr (pq 2 Z (zCa (T:=tab) (s:=s1) Z Z Z Z Z Z Z fun b5 hb5=>pq 2 Z (ns (zAN Z ?_ ?_))))))))))
   ·refine zAD (su [(0,D s1),(5,.loc 5 0),(6,Y i3)] [(5050,.arr 5 1 (l4.map zAC)),(5,.box 62 [.nloc 5 0,.ownb 5050])] (zBE [0,0,0,4,14,1,63,127] mixed (by kernel_rfl) (by kernel_rfl) Z Z (vt (zAV fu l4) [(42,[]),(10101,[]),(11,[5])] [10,11,10101] [42,10101,11] [] [5,5050] [] (fun r6=>[(21,D r6)]) (fun r6=>[(5,.box 62 [.nloc 5 0,.junk])]) Z Z (fun _=>Z) (fun w0 X X0 σ0 _=>by refine tu [] (enc:=fun (r6:Bs)=>D r6) (Sr:=fun (r6:Bs)=>[(5,.box 62 [.nloc 5 0,.junk])]) (qs:=[.loc 5 0]) (Sc:=[(5,.box 62 [.nloc 5 0,.ownb 5050]),(5050,.arr 5 1 (l4.map zAC))]) (N1:=[5,5050]) (NR:=[5]) (fun r6 hr6=>fr [(900000,5),(900001,5050)] [900000,900001] (zEA fu l4 _ hr6)) zLV Z Z Z Z Z Z Z Z fun r6 hr6=>?_;exact pz) fun r6 hr6=>?_)))
    refine ve [0] [44] [] [(22,D s1)] ?_
    refine ve [12] [46] [] [(23,Y i3)] ?_
    refine vt (rng .i64 (i3+1)) [(48,[])] [46] [48] [] [] [] (fun i7=>[(24,Y i7)]) (fun i7=>[]) Z Z (fun _=>Z) (fun w0 X X0 σ0 _=>by refine zAT (T:=tab) Z Z Z Z fun i7 hi7=>?_;exact pz) fun i7 hi7=>?_
    refine vt (zC4 s1 i7 ((s1.length:Nat):Int)) [(50,[])] [44,48] [50] [] [] [] (fun s8=>[(25,D s8)]) (fun s8=>[]) Z Z (fun _=>Z) (fun w0 X X0 σ0 _=>by refine zHo (T:=tab) Z Z Z Z Z Z Z Z fun s8 hs8=>?_;exact pz) fun s8 hs8=>?_
    refine ve [42] [4] [] [(2,D r6)] ?_
    refine ve [50] [6] [] [(3,D s8)] ?_
    refine ve [] [8] [] [(4,O true)] ?_
    exact zBd Z Z (zAA rN)
   ·refine sr (pq 2 Z (zCa (T:=tab) (s:=s1) Z Z Z Z Z Z Z fun b9 hb9=>pq 2 Z (ns (zAN Z ?_ ?_))))
    ·exact zAE (zAJ (zAA (zAB (pq 2 Z (zCa (T:=tab) (s:=s1) Z Z Z Z Z Z Z fun b17 hb17=>tu [5050] (enc:=fun (r18:(Bool×(List Int)))=>.err r18.1) (Sr:=fun (r18:(Bool×(List Int)))=>[(5,.box 62 [.nloc 5 0,.ownb 5050]),(5050,.arr 5 1 (r18.2.map zAC))]) (qs:=[.loc 5 0,.v (.int .u8 b17)]) (Sc:=[(5,.box 62 [.nloc 5 0,.ownb 5050]),(5050,.arr 5 1 (l4.map zAC))]) (N1:=[5]) (NR:=[5,5050]) (fun r18 hr18=>fr [(900000,5),(900001,5050)] [900000,900001] (zBi fu b17 l4 _ hr18)) zNF Z Z Z Z Z Z Z Z fun r18 hr18=>zAH (zAJ (zAA (zAB (pq 1 Z (zAT (T:=tab) Z Z Z Z fun i23 hi23=>pq 1 Z (zAH (zBt (i23,r18.2) ⟨Z,Z,Z,trivial⟩ ⟨Z,Z,trivial⟩ Z))))))))))))
    ·refine sr (pq 1 Z (zAT (T:=tab) Z Z Z Z fun i10 hi10=>pq 4 Z (zAK (j:=37) Z ?_ ?_)))
     ·refine pq 2 Z (zAT (T:=tab) Z Z Z Z fun i11 hi11=>zCa (T:=tab) (s:=s1) Z Z Z Z Z Z Z fun b12 hb12=>pq 2 Z (zAK (j:=43) Z ?_ ?_))
      ·refine pq 8 Z (zAH (zAA (zAc Z ?_)))
       exact zAB (pq 1 Z (zAT (T:=tab) Z Z Z Z fun i15 hi15=>pq 1 Z (zAH (zAJ (zAA (zAB (pq 2 Z (zCa (T:=tab) (s:=s1) Z Z Z Z Z Z Z fun b19 hb19=>tu [5050] (enc:=fun (r20:(Bool×(List Int)))=>.err r20.1) (Sr:=fun (r20:(Bool×(List Int)))=>[(5,.box 62 [.nloc 5 0,.ownb 5050]),(5050,.arr 5 1 (r20.2.map zAC))]) (qs:=[.loc 5 0,.v (.int .u8 b19)]) (Sc:=[(5,.box 62 [.nloc 5 0,.ownb 5050]),(5050,.arr 5 1 (l4.map zAC))]) (N1:=[5]) (NR:=[5,5050]) (fun r20 hr20=>fr [(900000,5),(900001,5050)] [900000,900001] (zBi fu b19 l4 _ hr20)) zNF Z Z Z Z Z Z Z Z fun r20 hr20=>zAH (zAJ (zAA (zAB (pq 1 Z (zAT (T:=tab) Z Z Z Z fun i24 hi24=>pq 1 Z (zAH (zBt (i24,r20.2) ⟨Z,Z,Z,trivial⟩ ⟨Z,Z,trivial⟩ Z)))))))))))))))
      ·refine pq 2 Z (zAT (T:=tab) Z Z Z Z fun i13 hi13=>zCa (T:=tab) (s:=s1) Z Z Z Z Z Z Z fun b14 hb14=>pq 4 Z (ns (zAN Z ?_ ?_)))
       ·exact zAB (pq 1 Z (zAT (T:=tab) Z Z Z Z fun i16 hi16=>pq 1 Z (zAH (zAJ (zAA (zAB (pq 2 Z (zCa (T:=tab) (s:=s1) Z Z Z Z Z Z Z fun b21 hb21=>tu [5050] (enc:=fun (r22:(Bool×(List Int)))=>.err r22.1) (Sr:=fun (r22:(Bool×(List Int)))=>[(5,.box 62 [.nloc 5 0,.ownb 5050]),(5050,.arr 5 1 (r22.2.map zAC))]) (qs:=[.loc 5 0,.v (.int .u8 b21)]) (Sc:=[(5,.box 62 [.nloc 5 0,.ownb 5050]),(5050,.arr 5 1 (l4.map zAC))]) (N1:=[5]) (NR:=[5,5050]) (fun r22 hr22=>fr [(900000,5),(900001,5050)] [900000,900001] (zBi fu b21 l4 _ hr22)) zNF Z Z Z Z Z Z Z Z fun r22 hr22=>zAH (zAJ (zAA (zAB (pq 1 Z (zAT (T:=tab) Z Z Z Z fun i25 hi25=>pq 1 Z (zAH (zBt (i25,r22.2) ⟨Z,Z,Z,trivial⟩ ⟨Z,Z,trivial⟩ Z)))))))))))))))
       ·exact sr (pq 3 Z (ns rN))
     ·refine pq 14 Z (zAH (zAA (zAs Z ?_)))
      exact sr (pq 3 Z (ns rN))
  ·exact zA0 Z (zAA (sr (pq 3 Z (ns rN))))
def zEK (n2:Int) (x_:Unit):Option Bool:=cnd (n2==(-2)) (some true) (cnd (n2==(-3)) (some true) (cnd (decide (n2>=0)) (some (decide (n2<400))) (some false)))
def zFJ (_fu:Nat) (field1:Int) (n2:Int):Option Bool:=cnd (field1==111) (cnd (n2==(-1)) (some true) ((zEK n2) ())) (cnd (field1==110) ((zEK n2) ()) (cnd (field1==105) (cnd (decide (n2>=(-1000))) (some (decide (n2<=1000))) (some false)) (some (n2==0))))
theorem zHK (fu:Nat) (field1:Int) (n2:Int):∀r,zFJ fu field1 n2=some r->DC zAh Tryz.prog 102 [.v (.int .u8 field1),Y n2] (O r):=by
 refine fcI Tryz.func102 Z fun w0 X X0 σ0 _=>sr (pq 1 Z (ns (zAD (sr (pq 1 Z (ns (zAP (zAD (zAP (zAD (zBj (zEK n2) (fun (_:Unit)=>[(1,Y n2)]) (fun (_:Unit)=>[]) ?_ fun hj1=>?_)))))))))))
 ·rintro _
  refine zAA (zAD (sr (pq 3 Z (zAK (j:=16) Z ?_ ?_))))
  ·exact pq 12 Z (ns rN)
  ·refine pq 4 Z (zAK (j:=20) Z ?_ ?_)
   ·exact pq 8 Z (ns rN)
   ·refine pq 3 Z (zAK (j:=23) Z ?_ ?_)
    ·exact pq 5 Z (ns rN)
    ·exact pq 5 Z (ns rN)
 ·refine zAP (zAD (zAP (zAD (zAD (sr (pq 2 Z (ns (zAN Z ?_ ?_))))))))
  ·refine zA0 Z (zAA (sr (pq 2 Z (ns (zAN Z ?_ ?_)))))
   ·exact sr (pq 1 Z (ns rN))
   ·exact zAE (zAJ (ps (hj1 ())))
  ·refine zAE (zAA (zAD (sr (pq 2 Z (ns (zAN Z ?_ ?_))))))
   ·exact zA0 Z (ps (hj1 ()))
   ·refine zAE (zAA (sr (pq 2 Z (ns (zAN Z ?_ ?_)))))
    ·refine zA0 Z (zAA (zAD (sr (pq 3 Z (zAK (j:=30) Z ?_ ?_)))))
     ·exact pq 4 Z (ns rN)
     ·exact pq 4 Z (ns rN)
    ·exact zAE (zAA (zA0 Z (zAA (sr (pq 3 Z (ns rN))))))
def zDs (fu:Nat) (s1:Bs) (substr2:Bs):Option Int:=bnd (zFT fu s1 substr2) fun r3=>some r3
theorem zGt (fu:Nat) (s1:Bs) (substr2:Bs):∀r,zDs fu s1 substr2=some r->DC zAh Tryz.prog 141 [D s1,D substr2] (Y r):=by
 exact fcI Tryz.func141 Z fun w0 X X0 σ0 _=>sr (pq 1 Z (ns (sr (pq 2 Z (pc (zJq fu s1 substr2) zM6 Z Z Z Z fun r3 hr3=>pq 1 Z (ns rN))))))
def zCG (fu:Nat) (s1:Bs) (substr2:Bs):Option Bool:=bnd (zDs fu s1 substr2) fun r3=>some (decide (r3>=0))
theorem zFl (fu:Nat) (s1:Bs) (substr2:Bs):∀r,zCG fu s1 substr2=some r->DC zAh Tryz.prog 123 [D s1,D substr2] (O r):=by
 exact fcI Tryz.func123 Z fun w0 X X0 σ0 _=>sr (pq 1 Z (ns (sr (pq 2 Z (pc (zGt fu s1 substr2) zQ7 Z Z Z Z fun r3 hr3=>pq 2 Z (ns rN))))))
def zCJ (fu:Nat) (field1:Int) (s2:Bs):Option Bool:=cnd (field1==115) (cnd (decide (((s2.length:Nat):Int)<=200)) (bnd (zCG fu s2 [10]) fun r3=>some (!r3)) (some false)) (some (s2==([]:Bs)))
theorem zF0 (fu:Nat) (field1:Int) (s2:Bs):∀r,zCJ fu field1 s2=some r->DC zAh Tryz.prog 103 [.v (.int .u8 field1),D s2] (O r):=by
 refine fcI Tryz.func103 Z fun w0 X X0 σ0 _=>sr (pq 1 Z (ns (zAD (sr (pq 2 Z (ns (zAN Z ?_ ?_)))))))
 ·refine sr (pq 4 Z (zAK (j:=10) Z ?_ ?_))
  ·exact pq 1 Z (pc (zFl fu s2 [10]) zQ5 Z Z Z Z fun r3 hr3=>pq 3 Z (ns rN))
  ·exact pq 5 Z (ns rN)
 ·exact zAE (zAA (sr (pq 3 Z (ns rN))))
def zDB (fu:Nat) (o1:Op) (r2:(Op_form×Bool)) (ok11:Bool):Option Bool:=bnd (zCX fu) fun r12=>cnd ok11 (bnd (rng .i64 (3+0)) fun i13=>bnd (chr r2.1.fields i13) fun b14=>bnd (zCJ fu b14 o1.S) fun r15=>cnd r15 (bnd (rng .i64 (3+1)) fun i16=>bnd (chr r2.1.fields i16) fun b17=>bnd (zCJ fu b17 o1.T) fun r18=>some r18) (some false)) (some false)
def zDq (fu:Nat) (o1:Op) (r2:(Op_form×Bool)) (ok6:Bool):Option Bool:=cnd ok6 (bnd (chr r2.1.fields 1) fun b7=>bnd (zFJ fu b7 o1.B) fun r8=>cnd r8 (bnd (chr r2.1.fields 2) fun b9=>bnd (zFJ fu b9 o1.C) fun r10=>(zDB fu o1 r2) r10) ((zDB fu o1 r2) false)) ((zDB fu o1 r2) false)
def zDm (fu:Nat) (o1:Op):Option Bool:=bnd (zCk fu o1.Kind) fun r2=>bnd (zCL fu) fun r3=>cnd r2.2 (bnd (chr r2.1.fields 0) fun b4=>bnd (zFJ fu b4 o1.A) fun r5=>(zDq fu o1 r2) r5) ((zDq fu o1 r2) false)
theorem zHJ (fu:Nat) (o1:Op):∀r,zDm fu o1=some r->DC zAh Tryz.prog 70 [.agg (cOp o1)] (O r):=by
 refine fcI Tryz.func70 Z fun w0 X X0 σ0 _=>sr (zE8  1 Z Z Z Z Z Z Z Z Z Z (pq 1 Z (ns (sr (pq 2 Z (pc (zEw fu o1.Kind) zNA Z Z Z Z fun r2 hr2=>pq 3 Z (zA4 (T:=tab) 3 Z Z Z Z Z Z Z Z Z (zAI (T:=tab) Z Z Z Z Z Z Z Z Z Z Z Z (pq 1 Z (ns (zAD (sr (tu [400150] (enc:=fun (r3:Unit)=>.bsl 400150 3) (Sr:=fun (r3:Unit)=>[(1,.box 43 [Y o1.Kind,Y o1.A,Y o1.B,Y o1.C,D o1.S,D o1.T,O o1.Must]),(400150,.box 107 [.loc 1 1,.loc 1 2,.loc 1 3])]) (qs:=[.loc 1 0]) (Sc:=[(1,.box 43 [Y o1.Kind,Y o1.A,Y o1.B,Y o1.C,D o1.S,D o1.T,O o1.Must])]) (N1:=[1]) (NR:=[1,400150]) (fun r3 hr3=>fr [(12,400150),(900000,1)] [12,900000] (zEY fu o1 _ hr3)) zNB Z Z Z Z Z Z Z Z fun r3 hr3=>pq 2 Z (ns (zBj (zDB fu o1 r2) (fun (ok11:Bool)=>[(1,.loc 1 0),(3,.loc 3 0),(4,O ok11)]) (fun (ok11:Bool)=>[(1,.box 43 [Y o1.Kind,Y o1.A,Y o1.B,Y o1.C,D o1.S,D o1.T,O o1.Must]),(3,.box 101 [D r2.1.word,D r2.1.fields])]) ?_ fun hj2=>?_)))))))))))))))
 ·rintro ok11
  refine zOC (m':=bnd (zCX fu) fun r12=>cnd ok11 (bnd (rng .i64 (3+0)) fun i13=>bnd (chr r2.1.fields i13) fun b14=>bnd (zCJ fu b14 o1.S) fun r15=>cnd r15 (bnd (rng .i64 (3+1)) fun i16=>bnd (chr r2.1.fields i16) fun b17=>bnd (zCJ fu b17 o1.T) fun r18=>some r18) (some false)) (some false)) Z (zAA (zAD (sr (tu [400340] (enc:=fun (r12:Unit)=>.bsl 400340 2) (Sr:=fun (r12:Unit)=>[(1,.box 43 [Y o1.Kind,Y o1.A,Y o1.B,Y o1.C,D o1.S,D o1.T,O o1.Must]),(400340,.box 112 [.loc 1 4,.loc 1 5])]) (qs:=[.loc 1 0]) (Sc:=[(1,.box 43 [Y o1.Kind,Y o1.A,Y o1.B,Y o1.C,D o1.S,D o1.T,O o1.Must])]) (N1:=[1]) (NR:=[1,400340]) (fun r12 hr12=>fr [(9,400340),(900000,1)] [9,900000] (zFj fu o1 _ hr12)) zND Z Z Z Z Z Z Z Z fun r12 hr12=>pq 2 Z (ns (zAP (zEX 3 (sr (pq 1 Z (ns (zAD (zAc Z (zAE (zAA (zAD (zAP (sr (pq 1 Z (zCU (T:=tab) (i:=0) Z Z Z Z Z Z Z Z (pq 3 Z (ns (zEl mixed (by kernel_rfl) (zBg (T:=tab) 2 Z Z (zGE (j:=42) Z ?_ ?_))))))))))))))))))))))))
  ·refine zBg (T:=tab) 3 Z Z (zI8 (T:=tab) Z Z Z Z fun i13 hi13=>zJ7 (T:=tab) (s:=r2.1.fields) Z Z Z Z Z Z Z fun b14 hb14=>zBg (T:=tab) 3 Z Z (pdc (zF0 fu b14 o1.S) zM4 Z Z Z Z fun r15 hr15=>zBg (T:=tab) 2 Z Z (zD7 (zAJ (zAA (zAB (zAZ (T:=tab) 1 Z Z Z Z Z (pq 1 Z (zAH (zAp 2 (sr (pq 1 Z (ns (zAD (zAc Z (zAE (zAA (zAD (zAP (sr (pq 1 Z (zCU (T:=tab) (i:=1) Z Z Z Z Z Z Z Z (pq 3 Z (ns (zEl mixed (by kernel_rfl) (zBg (T:=tab) 2 Z Z (zGE (j:=42) Z ?_ ?_)))))))))))))))))))))))))))
   ·exact zBg (T:=tab) 3 Z Z (zI8 (T:=tab) Z Z Z Z fun i16 hi16=>zJ7 (T:=tab) (s:=r2.1.fields) Z Z Z Z Z Z Z fun b17 hb17=>zBg (T:=tab) 3 Z Z (pdc (zF0 fu b17 o1.T) zM4 Z Z Z Z fun r18 hr18=>zBg (T:=tab) 2 Z Z (zD7 (zAJ (zAA (zAB (zAZ (T:=tab) 2 Z Z Z Z Z (pq 1 Z (zAH (zAp 1 (sr (pq 1 Z (ns (zAD (zAs Z (zA0 Z (zAA (sr (pq 2 Z (ns rN))))))))))))))))))))
   ·exact zBg (T:=tab) 11 Z Z (zD7 (zAJ (zAA (zAB (zAZ (T:=tab) 2 Z Z Z Z Z (pq 1 Z (zAH (zAp 1 (sr (pq 1 Z (ns (zAD (zAs Z (zA0 Z (zAA (sr (pq 2 Z (ns rN))))))))))))))))))
  ·exact zBg (T:=tab) 11 Z Z (zD7 (zAJ (zAA (zAB (zAZ (T:=tab) 1 Z Z Z Z Z (pq 1 Z (zAH (zAp 2 (sr (pq 1 Z (ns (zAD (zAc Z (zAE (zAA (zAD (zAP (sr (pq 1 Z (zCU (T:=tab) (i:=1) Z Z Z Z Z Z Z Z (pq 3 Z (ns (zEl mixed (by kernel_rfl) (zBg (T:=tab) 13 Z Z (zD7 (zAJ (zAA (zAB (zAZ (T:=tab) 2 Z Z Z Z Z (pq 1 Z (zAH (zAp 1 (sr (pq 1 Z (ns (zAD (zAs Z (zA0 Z (zAA (sr (pq 2 Z (ns rN))))))))))))))))))))))))))))))))))))))))))
 ·refine zAP (zEX 4 (sr (pq 1 Z (ns (zAD (zAc Z (zAE (zAA (zAD (zBj (zDq fu o1 r2) (fun (ok6:Bool)=>[(1,.loc 1 0),(3,.loc 3 0),(4,O ok6),(15,.bsl 400150 3),(16,Y 3),(17,Y 0)]) (fun (ok6:Bool)=>[(1,.box 43 [Y o1.Kind,Y o1.A,Y o1.B,Y o1.C,D o1.S,D o1.T,O o1.Must]),(400150,.box 107 [.loc 1 1,.loc 1 2,.loc 1 3]),(3,.box 101 [D r2.1.word,D r2.1.fields])]) ?_ fun hj1=>?_))))))))))
  ·rintro ok6
   refine zAA (zAB (zAZ (T:=tab) 1 Z Z Z Z Z (pq 1 Z (zAH (zAp 3 (sr (pq 1 Z (ns (zAD (zAc Z (zAE (zAA (zAD (zAP (sr (pq 1 Z (zCU (T:=tab) (i:=1) Z Z Z Z Z Z Z Z (pq 3 Z (ns (zEl mixed (by kernel_rfl) (zBg (T:=tab) 2 Z Z (zGE (j:=23) Z ?_ ?_))))))))))))))))))))))
   ·refine zBg (T:=tab) 3 Z Z (zJ7 (T:=tab) (s:=r2.1.fields) Z Z Z Z Z Z Z fun b7 hb7=>zBg (T:=tab) 3 Z Z (pdc (zHK fu b7 o1.B) zKa Z Z Z Z fun r8 hr8=>zBg (T:=tab) 2 Z Z (zD7 (zAJ (zAA (zAB (zAZ (T:=tab) 2 Z Z Z Z Z (pq 1 Z (zAH (zAp 2 (sr (pq 1 Z (ns (zAD (zAc Z (zAE (zAA (zAD (zAP (sr (pq 1 Z (zCU (T:=tab) (i:=2) Z Z Z Z Z Z Z Z (pq 3 Z (ns (zEl mixed (by kernel_rfl) (zBg (T:=tab) 2 Z Z (zGE (j:=23) Z ?_ ?_)))))))))))))))))))))))))))
    ·exact zBg (T:=tab) 3 Z Z (zJ7 (T:=tab) (s:=r2.1.fields) Z Z Z Z Z Z Z fun b9 hb9=>zBg (T:=tab) 3 Z Z (pdc (zHK fu b9 o1.C) zKa Z Z Z Z fun r10 hr10=>zBg (T:=tab) 2 Z Z (zD7 (zAJ (zAA (zAB (zAZ (T:=tab) 3 Z Z Z Z Z (pq 1 Z (zAH (zAp 1 (sr (pq 1 Z (ns (zAD (zAs Z (zA0 Z (ps (hj2 r10))))))))))))))))))
    ·exact zBg (T:=tab) 10 Z Z (zD7 (zAJ (zAA (zAB (zAZ (T:=tab) 3 Z Z Z Z Z (pq 1 Z (zAH (zAp 1 (sr (pq 1 Z (ns (zAD (zAs Z (zA0 Z (ps (hj2 false))))))))))))))))
   ·exact zBg (T:=tab) 10 Z Z (zD7 (zAJ (zAA (zAB (zAZ (T:=tab) 2 Z Z Z Z Z (pq 1 Z (zAH (zAp 2 (sr (pq 1 Z (ns (zAD (zAc Z (zAE (zAA (zAD (zAP (sr (pq 1 Z (zCU (T:=tab) (i:=2) Z Z Z Z Z Z Z Z (pq 3 Z (ns (zEl mixed (by kernel_rfl) (zBg (T:=tab) 12 Z Z (zD7 (zAJ (zAA (zAB (zAZ (T:=tab) 3 Z Z Z Z Z (pq 1 Z (zAH (zAp 1 (sr (pq 1 Z (ns (zAD (zAs Z (zA0 Z (ps (hj2 false))))))))))))))))))))))))))))))))))))))))
  ·refine zAP (sr (pq 1 Z (zCU (T:=tab) (i:=0) Z Z Z Z Z Z Z Z (pq 3 Z (ns (zEl mixed (by kernel_rfl) (zBg (T:=tab) 2 Z Z (zGE (j:=23) Z ?_ ?_))))))))
   ·exact zBg (T:=tab) 3 Z Z (zJ7 (T:=tab) (s:=r2.1.fields) Z Z Z Z Z Z Z fun b4 hb4=>zBg (T:=tab) 3 Z Z (pdc (zHK fu b4 o1.A) zKa Z Z Z Z fun r5 hr5=>zBg (T:=tab) 2 Z Z (zD7 (zAJ (ps (hj1 r5))))))
   ·exact zBg (T:=tab) 10 Z Z (zD7 (zAJ (ps (hj1 false))))
theorem zDE (fu:Nat) (l1:(List Int)):∀r,zAY fu=some r->FC zAh Tryz.prog 98 [.loc 900000 0] [(900000,.box 143 [.nloc 900000 0,.ownb 900001]),(900001,.arr 5 1 (l1.map zAC))] [900000,900001] fun p S'=>p=.tup []/\S'=[(900000,.box 143 [.nloc 900000 0,.ownb 900001]),(900001,.arr 5 1 (l1.map zAC))]:=by
 refine fcI Tryz.func98 Z fun w0 X X0 σ0 _=>sr (pq 3 Z (zHn 900000 0 Z Z Z Z Z Z ?_ ?_))
 ·exact pq 1 Z (zGI (T:=tab) Tryz.underlying59 Z Z Z Z Z Z Z Z (ns (zAc Z (zAB (pq 2 Z (zFu (T:=tab) Tryz.underlying59 Tryz.underlying160 Z Z Tryz.func120 Z Z Z Z Z Z Z Z Z (by kernel_rfl) Z Z Z Z Z Z Z Z Z Z Z (pq 2 Z (zAI (T:=tab) Z Z Z Z Z Z Z Z Z Z Z Z (zAH (zED 900000 [.nloc 900000 0,.ownb 900001] Z ⟨.nloc1,.rfl,trivial⟩ Z (zDY (T:=tab) Z Z Z ⟨Z,Z⟩ ⟨Z,Z,trivial⟩ Z)))))))))))
 ·exact pq 1 Z (zGI (T:=tab) Tryz.underlying59 Z Z Z Z Z Z Z Z (ns (zAs Z (sr (pq 5 Z (zGI (T:=tab) Tryz.underlying59 Z Z Z Z Z Z Z Z (ns (zAs Z (zAE (zED 900000 [.nloc 900000 0,.ownb 900001] Z ⟨.nloc1,.rfl,trivial⟩ Z (zDY (T:=tab) Z Z Z ⟨Z,Z⟩ ⟨Z,Z,trivial⟩ Z)))))))))))
def zAF (fu:Nat) (s1:Bs) (l2:(List Int)):Option (Int×Bool×(List Int)):=bnd (zAY fu) fun r3=>bnd (zEF 1 (l2.length+s1.length)) fun _=>some (((s1.length:Nat):Int),false,(l2++zAO s1))
theorem zAR (fu:Nat) (s1:Bs) (l2:(List Int)):∀r,zAF fu s1 l2=some r->FC zAh Tryz.prog 65 [.loc 900000 0,D s1] [(900000,.box 143 [.nloc 900000 0,.ownb 900001]),(900001,.arr 5 1 (l2.map zAC))] [900000] fun p S'=>p=.tup [Y r.1,.err r.2.1]/\S'=[(900000,.box 143 [.nloc 900000 0,.ownb 900001]),(900001,.arr 5 1 (r.2.2.map zAC))]:=by
 exact fcI Tryz.func65 Z fun w0 X X0 σ0 _=>sr (pq 2 Z (ns (sr (pq 1 Z (zDK (enc:=fun (r3:Unit)=>.tup []) (first:=[]) (cap:=[]) (qs:=[.loc 900000 0]) (Sc:=[(900000,.box 143 [.nloc 900000 0,.ownb 900001]),(900001,.arr 5 1 (l2.map zAC))]) (fun r3 hr3=>zH6 [(900000,900000),(900001,900001)] [900000,900001] (zDE fu l2 _ hr3) Z Z Z Z Z Z) (zBY ⟨Z,Z,trivial⟩ Z) Z Z Z Z ⟨⟨_,Z,.rfl⟩,trivial⟩ (fun _=>Z) zNH Z Z fun r3 hr3=>ns (sr (pq 6 Z (zGH (T:=tab) zAC l2 (fun _=>Z) Z Z Z Z Z Z Z Z Z Z Z Z Z Z Z Z (pq 2 Z (zAI (T:=tab) Z Z Z Z Z Z Z Z Z Z Z Z (ns (sr (pq 4 Z (ns (zOV 5 (q:=.err false) Z .err0 rN)))))))))))))))
def zBm (fu:Nat) (n2:Int) (l3:(List Int)) (t4:Bool):Option (List Int):=cnd t4 (bnd (zIB fu n2) fun r5=>bnd (cat ([32]:Bs) r5) fun s6=>bnd (zAF fu s6 l3) fun r7=>some r7.2.2) (cnd (n2==(-1)) (bnd (zAF fu [32,45] l3) fun r8=>some r8.2.2) (cnd (n2==(-2)) (bnd (zAF fu [32,115,101,108,102] l3) fun r9=>some r9.2.2) (bnd (zAF fu [32,108,97,115,116] l3) fun r10=>some r10.2.2)))
def zBC (fu:Nat) (field1:Int) (n2:Int) (l3:(List Int)):Option (List Int):=cnd (field1==46) (some l3) (cnd (field1==105) ((zBm fu n2 l3) (field1==105)) ((zBm fu n2 l3) (decide (n2>=0))))
theorem zDC (fu:Nat) (field1:Int) (n2:Int) (l3:(List Int)):∀r,zBC fu field1 n2 l3=some r->FC zAh Tryz.prog 90 [.loc 900000 0,.v (.int .u8 field1),Y n2] [(900000,.box 143 [.nloc 900000 0,.ownb 900001]),(900001,.arr 5 1 (l3.map zAC))] [900000] fun p S'=>p=.tup []/\S'=[(900000,.box 143 [.nloc 900000 0,.ownb 900001]),(900001,.arr 5 1 (r.map zAC))]:=by
 refine fcI Tryz.func90 Z fun w0 X X0 σ0 _=>zAP (sr (pq 3 Z (ns (zAN Z ?_ ?_))))
 ·exact rN
 ·refine zAD (sr (pq 3 Z (ns (zBj (zBm fu n2 l3) (fun (t4:Bool)=>[(0,.loc 900000 0),(2,Y n2),(13,O t4)]) (fun (t4:Bool)=>[(900000,.box 143 [.nloc 900000 0,.ownb 900001]),(900001,.arr 5 1 (l3.map zAC))]) ?_ fun hj1=>?_))))
  ·rintro t4
   refine zAA (zAN Z ?_ ?_)
   ·refine su [(0,.loc 900000 0),(2,Y n2)] [(900000,.box 143 [.nloc 900000 0,.ownb 900001]),(900001,.arr 5 1 (l3.map zAC))] (zBE [0,1,3,0,8,24,63] mixed (by kernel_rfl) (by kernel_rfl) Z Z (ve [0] [36] [900000] [(18,.loc 900000 0)] ?_))
    refine ve [36] [38] [900000] [(19,.loc 900000 0)] ?_
    refine ve [38] [40] [900000] [(20,.loc 900000 0)] ?_
    refine ve [4] [42] [] [(21,Y n2)] ?_
    refine vt (zIB fu n2) [(44,[])] [42] [44] [] [] [] (fun r5=>[(22,D r5)]) (fun r5=>[]) Z Z (fun _=>Z) (fun w0 X X0 σ0 _=>by refine pc (zNq fu n2) zQQ Z Z Z Z fun r5 hr5=>?_;exact pz) fun r5 hr5=>?_
    refine vt (cat ([32]:Bs) r5) [(46,[])] [44] [46] [] [] [] (fun s6=>[(23,D s6)]) (fun s6=>[]) Z Z (fun _=>Z) (fun w0 X X0 σ0 _=>by refine zFg Z Z Z Z Z Z fun s6 hs6=>?_;exact pz) fun s6 hs6=>?_
    refine vt (zAF fu s6 l3) [(48,[]),(1800003,[]),(1800001,[900000,900001])] [40,46,1800001,1800003] [48,1800003,1800001] [900001] [900000] [] (fun r7=>[(24,.tup [Y r7.1,.err r7.2.1])]) (fun r7=>[(900001,.arr 5 1 (r7.2.2.map zAC)),(900000,.box 143 [.nloc 900000 0,.ownb 900001])]) Z Z (fun _=>Z) (fun w0 X X0 σ0 _=>by refine tu [900001] (enc:=fun (r7:(Int×Bool×(List Int)))=>.tup [Y r7.1,.err r7.2.1]) (Sr:=fun (r7:(Int×Bool×(List Int)))=>[(900000,.box 143 [.nloc 900000 0,.ownb 900001]),(900001,.arr 5 1 (r7.2.2.map zAC))]) (qs:=[.loc 900000 0,D s6]) (Sc:=[(900000,.box 143 [.nloc 900000 0,.ownb 900001]),(900001,.arr 5 1 (l3.map zAC))]) (N1:=[900000]) (NR:=[900000,900001]) (fun r7 hr7=>fr [(900000,900000),(900001,900001)] [900000,900001] (zAR fu s6 l3 _ hr7)) zFd Z Z Z Z Z Z Z Z fun r7 hr7=>?_;exact pz) fun r7 hr7=>?_
    exact zBd Z Z (zAJ (zDY (T:=tab) Z Z Z ⟨Z,Z⟩ ⟨Z,Z,trivial⟩ Z))
   ·refine sr (pq 3 Z (ns (zAN Z ?_ ?_)))
    ·exact zAB (pq 3 Z (tu [900001] (enc:=fun (r8:(Int×Bool×(List Int)))=>.tup [Y r8.1,.err r8.2.1]) (Sr:=fun (r8:(Int×Bool×(List Int)))=>[(900000,.box 143 [.nloc 900000 0,.ownb 900001]),(900001,.arr 5 1 (r8.2.2.map zAC))]) (qs:=[.loc 900000 0,D [32,45]]) (Sc:=[(900000,.box 143 [.nloc 900000 0,.ownb 900001]),(900001,.arr 5 1 (l3.map zAC))]) (N1:=[900000]) (NR:=[900000,900001]) (fun r8 hr8=>fr [(900000,900000),(900001,900001)] [900000,900001] (zAR fu [32,45] l3 _ hr8)) zFd Z Z Z Z Z Z Z Z fun r8 hr8=>zAH (zAJ (zDY (T:=tab) Z Z Z ⟨Z,Z⟩ ⟨Z,Z,trivial⟩ Z))))
    ·refine sr (pq 3 Z (ns (zAN Z ?_ ?_)))
     ·exact zAB (pq 3 Z (tu [900001] (enc:=fun (r9:(Int×Bool×(List Int)))=>.tup [Y r9.1,.err r9.2.1]) (Sr:=fun (r9:(Int×Bool×(List Int)))=>[(900000,.box 143 [.nloc 900000 0,.ownb 900001]),(900001,.arr 5 1 (r9.2.2.map zAC))]) (qs:=[.loc 900000 0,D [32,115,101,108,102]]) (Sc:=[(900000,.box 143 [.nloc 900000 0,.ownb 900001]),(900001,.arr 5 1 (l3.map zAC))]) (N1:=[900000]) (NR:=[900000,900001]) (fun r9 hr9=>fr [(900000,900000),(900001,900001)] [900000,900001] (zAR fu [32,115,101,108,102] l3 _ hr9)) zFd Z Z Z Z Z Z Z Z fun r9 hr9=>zAH (zAJ (zDY (T:=tab) Z Z Z ⟨Z,Z⟩ ⟨Z,Z,trivial⟩ Z))))
     ·exact zAB (pq 3 Z (tu [900001] (enc:=fun (r10:(Int×Bool×(List Int)))=>.tup [Y r10.1,.err r10.2.1]) (Sr:=fun (r10:(Int×Bool×(List Int)))=>[(900000,.box 143 [.nloc 900000 0,.ownb 900001]),(900001,.arr 5 1 (r10.2.2.map zAC))]) (qs:=[.loc 900000 0,D [32,108,97,115,116]]) (Sc:=[(900000,.box 143 [.nloc 900000 0,.ownb 900001]),(900001,.arr 5 1 (l3.map zAC))]) (N1:=[900000]) (NR:=[900000,900001]) (fun r10 hr10=>fr [(900000,900000),(900001,900001)] [900000,900001] (zAR fu [32,108,97,115,116] l3 _ hr10)) zFd Z Z Z Z Z Z Z Z fun r10 hr10=>zAH (zAJ (zDY (T:=tab) Z Z Z ⟨Z,Z⟩ ⟨Z,Z,trivial⟩ Z))))
  ·refine zAN Z ?_ ?_
   ·exact zAE (ps (hj1 (field1==105)))
   ·exact zAB (pq 3 Z (zAH (ps (hj1 (decide (n2>=0))))))
theorem zCF (fu:Nat) (l1:(List Int)):∀r,zAV fu l1=some r->FC zAh Tryz.prog 30 [.loc 900000 0] [(900000,.box 143 [.nloc 900000 0,.ownb 900001]),(900001,.arr 5 1 (l1.map zAC))] [900000,900001] fun p S'=>p=D r/\S'=[(900000,.box 143 [.nloc 900000 0,.junk])]:=by
 refine fcI Tryz.func30 Z fun w0 X X0 σ0 _=>sr (pq 1 Z (ns (zAD (su [(0,.loc 900000 0)] [(900000,.box 143 [.nloc 900000 0,.ownb 900001]),(900001,.arr 5 1 (l1.map zAC))] (zBE [0,1,3,7,15,0,32,96,224,480,1023,2047] mixed (by kernel_rfl) (by kernel_rfl) Z Z (ve [0] [6] [900000] [(3,.loc 900000 0)] ?_))))))
 refine ve [6] [8] [900000] [(4,.loc 900000 0)] ?_
 refine ve [8] [10] [900000] [(5,.loc 900000 1)] ?_
 refine vf [10,1800001] [12] [] [900000,900001] [900000] [(6,.ownb 900001)] [(900000,.box 143 [.nloc 900000 0,.ownb 900001])] ?_
 refine vs [12,1800003] [14] [] [900001] [900001] [(7,.dat 900001)] [(900001,.arr 5 1 (l1.map zAC))] Z Z (fun w0 X X0 σ0 _=>by refine zFA Z Z Z Z Z Z ?_;exact py) ?_
 refine ve [0] [16] [900000] [(8,.loc 900000 0)] ?_
 refine ve [16] [18] [900000] [(9,.loc 900000 0)] ?_
 refine ve [18] [20] [900000] [(10,.loc 900000 1)] ?_
 refine vf [20,1800001] [22] [] [900000,900001] [900000] [(11,.ownb 900001)] [(900000,.box 143 [.nloc 900000 0,.ownb 900001])] ?_
 refine vs [22,1800003] [24,22] [] [900001] [900001] [(12,Y ((l1.length:Nat):Int)),(11,.own 900001)] [(900001,.arr 5 1 (l1.map zAC))] Z Z (fun w0 X X0 σ0 _=>by refine zJ9 11 (q:=.own 900001) Z .ownb ?_;refine zCE (T:=tab) zAC l1 Z Z Z Z Z Z Z Z Z ?_;exact py) ?_
 refine vs [12,14,22,24,1800001,1800003] [26,12,14,22,1800001,1800003] [] [900000,900001] [] [(13,D (zDk l1)),(11,.sl 1 false (l1.map zAC))] [(900000,.box 143 [.nloc 900000 0,.junk])] Z Z (fun w0 X X0 σ0 _=>by refine zFv zAC l1 (fun _=>Z) Z Z Z Z Z Z Z Tryz.underlying127 (by kernel_rfl) Z Z Z Z ?_;exact py) ?_
 refine ve [26] [4] [] [(2,D (zDk l1))] ?_
 exact zBd Z Z (zAA rN)
def zEv (fu:Nat) (o1:Op) (r3:(Op_form×Bool)) (l19:(List Int)):Option (Bs×Int):=bnd (chr r3.1.fields 4) fun b20=>cnd (b20==115) (bnd (zGc fu o1.T) fun r21=>bnd (cat ([32]:Bs) r21) fun s22=>bnd (zAF fu s22 l19) fun r23=>bnd (zAV fu r23.2.2) fun r24=>some (r24,0)) (bnd (zAV fu l19) fun r25=>some (r25,0))
def zEH (fu:Nat) (o1:Op) (r3:(Op_form×Bool)) (l5:(List Int)):Option (Bs×Int):=bnd (zAF fu r3.1.word l5) fun r6=>bnd (zCL fu) fun r7=>bnd (chr r3.1.fields 0) fun b8=>bnd (zBC fu b8 o1.A r6.2.2) fun r9=>bnd (chr r3.1.fields 1) fun b10=>bnd (zBC fu b10 o1.B r9) fun r11=>bnd (chr r3.1.fields 2) fun b12=>bnd (zBC fu b12 o1.C r11) fun r13=>bnd (zCX fu) fun r14=>bnd (chr r3.1.fields 3) fun b15=>cnd (b15==115) (bnd (zGc fu o1.S) fun r16=>bnd (cat ([32]:Bs) r16) fun s17=>bnd (zAF fu s17 r13) fun r18=>(zEv fu o1 r3) r18.2.2) ((zEv fu o1 r3) r13)
def zFH (fu:Nat) (o1:Op):Option (Bs×Int):=bnd (zDm fu o1) fun r2=>cnd (!r2) (some ([],1)) (bnd (zCk fu o1.Kind) fun r3=>cnd o1.Must (bnd (zAF fu [33] []) fun r4=>(zEH fu o1 r3) r4.2.2) ((zEH fu o1 r3) []))
theorem zJU (fu:Nat) (o1:Op):∀r,zFH fu o1=some r->DC zAh Tryz.prog 55 [.agg (cOp o1)] (.tup [D r.1,Y r.2]):=by
 refine fcI Tryz.func55 Z fun w0 X X0 σ0 _=>sr (zE8  1 Z Z Z Z Z Z Z Z Z Z (pq 2 Z (ns (zAD (sr (pq 1 Z (pc (zHJ fu o1) zQP Z Z Z Z fun r2 hr2=>pq 1 Z (ns (zAN Z ?_ ?_)))))))))
 ·exact sr (pq 2 Z (ns rN))
 ·refine zAE (zAA (sr (pq 2 Z (pc (zEw fu o1.Kind) zNA Z Z Z Z fun r3 hr3=>pq 3 Z (zA4 (T:=tab) 4 Z Z Z Z Z Z Z Z Z (zAI (T:=tab) Z Z Z Z Z Z Z Z Z Z Z Z (pq 1 Z (ns (sr (zA4 (T:=tab) 6 Z Z Z Z Z Z Z Z Z ?_))))))))))
  refine zKz 6 [.nloc 6 0,.v (.slice none 0 0)] Z ⟨.nloc0,.rfl,trivial⟩ Z ?_
  refine zE9 5060 5 1 6 1 Z Z Z Z Z Z (ns (zAD (sr (pq 2 Z (ns (zBj (zEH fu o1 r3) (fun (l5:(List Int))=>[(1,.loc 1 0),(4,.loc 4 0),(6,.loc 6 0)]) (fun (l5:(List Int))=>[(6,.box 143 [.nloc 6 0,.ownb 5060]),(5060,.arr 5 1 (l5.map zAC)),(4,.box 101 [D r3.1.word,D r3.1.fields]),(1,.box 43 [Y o1.Kind,Y o1.A,Y o1.B,Y o1.C,D o1.S,D o1.T,O o1.Must])]) ?_ fun hj1=>?_))))))
  ·rintro l5
   refine zAA (sr (pq 3 Z (tu [5060] (enc:=fun (r6:(Int×Bool×(List Int)))=>.tup [Y r6.1,.err r6.2.1]) (Sr:=fun (r6:(Int×Bool×(List Int)))=>[(6,.box 143 [.nloc 6 0,.ownb 5060]),(5060,.arr 5 1 (r6.2.2.map zAC))]) (qs:=[.loc 6 0,D r3.1.word]) (Sc:=[(6,.box 143 [.nloc 6 0,.ownb 5060]),(5060,.arr 5 1 (l5.map zAC))]) (N1:=[6]) (NR:=[6,5060]) (fun r6 hr6=>fr [(900000,6),(900001,5060)] [900000,900001] (zAR fu r3.1.word l5 _ hr6)) zFd Z Z Z Z Z Z Z Z fun r6 hr6=>ns (zAD (sr (tu [400280] (enc:=fun (r7:Unit)=>.bsl 400280 3) (Sr:=fun (r7:Unit)=>[(1,.box 43 [Y o1.Kind,Y o1.A,Y o1.B,Y o1.C,D o1.S,D o1.T,O o1.Must]),(400280,.box 107 [.loc 1 1,.loc 1 2,.loc 1 3])]) (qs:=[.loc 1 0]) (Sc:=[(1,.box 43 [Y o1.Kind,Y o1.A,Y o1.B,Y o1.C,D o1.S,D o1.T,O o1.Must])]) (N1:=[1]) (NR:=[1,400280]) (fun r7 hr7=>fr [(12,400280),(900000,1)] [12,900000] (zEY fu o1 _ hr7)) zNB Z Z Z Z Z Z Z Z fun r7 hr7=>pq 2 Z (ns (zAP (zEX 4 (sr (pq 1 Z (ns (zAD (zAc Z (zAE (zAA (zAD (zAP (sr (pq 1 Z (zCU (T:=tab) (i:=0) Z Z Z Z Z Z Z Z (pq 3 Z (ns (su [(1,.loc 1 0),(4,.loc 4 0),(6,.loc 6 0),(28,.bsl 400280 3),(29,Y 3),(30,Y 0),(7,Y 0),(8,.loc 1 1)] [(1,.box 43 [Y o1.Kind,Y o1.A,Y o1.B,Y o1.C,D o1.S,D o1.T,O o1.Must]),(400280,.box 107 [.loc 1 1,.loc 1 2,.loc 1 3]),(6,.box 143 [.nloc 6 0,.ownb 5060]),(5060,.arr 5 1 (r6.2.2.map zAC)),(4,.box 101 [D r3.1.word,D r3.1.fields])] (zBE [0,1,0,7,0,16,48,127] mixed (by kernel_rfl) (by kernel_rfl) Z Z (ve [8] [70] [4] [(35,.loc 4 1)] ?_))))))))))))))))))))))))))
   refine vf [9,70] [72] [] [4] [4] [(36,D r3.1.fields)] [(4,.box 101 [D r3.1.word,D r3.1.fields])] ?_
   refine ve [14] [74] [] [(37,Y 0)] ?_
   refine vt (chr r3.1.fields 0) [(76,[])] [72,74] [76] [] [] [] (fun b8=>[(38,.v (.int .u8 b8))]) (fun b8=>[]) Z Z (fun _=>Z) (fun w0 X X0 σ0 _=>by refine zCa (T:=tab) (s:=r3.1.fields) Z Z Z Z Z Z Z fun b8 hb8=>?_;exact pz) fun b8 hb8=>?_
   refine ve [16] [78] [1] [(39,.loc 1 1)] ?_
   refine ve [78] [80] [1] [(40,.loc 1 1)] ?_
   refine vf [3,80] [82] [] [1] [1] [(41,Y o1.A)] [(1,.box 43 [Y o1.Kind,Y o1.A,Y o1.B,Y o1.C,D o1.S,D o1.T,O o1.Must])] ?_
   refine vt (zBC fu b8 o1.A r6.2.2) [(84,[]),(10121,[]),(13,[6,5060])] [12,13,76,82,10121] [84,10121,13] [5060] [6] [] (fun r9=>[(42,.tup [])]) (fun r9=>[(5060,.arr 5 1 (r9.map zAC)),(6,.box 143 [.nloc 6 0,.ownb 5060])]) Z Z (fun _=>Z) (fun w0 X X0 σ0 _=>by refine tu [5060] (enc:=fun (r9:(List Int))=>.tup []) (Sr:=fun (r9:(List Int))=>[(6,.box 143 [.nloc 6 0,.ownb 5060]),(5060,.arr 5 1 (r9.map zAC))]) (qs:=[.loc 6 0,.v (.int .u8 b8),Y o1.A]) (Sc:=[(6,.box 143 [.nloc 6 0,.ownb 5060]),(5060,.arr 5 1 (r6.2.2.map zAC))]) (N1:=[6]) (NR:=[6,5060]) (fun r9 hr9=>fr [(900000,6),(900001,5060)] [900000,900001] (zDC fu b8 o1.A r6.2.2 _ hr9)) zNG Z Z Z Z Z Z Z Z fun r9 hr9=>?_;exact pz) fun r9 hr9=>?_
   refine zBd Z Z (zAJ (zAA (zAB (zAZ (T:=tab) 1 Z Z Z Z Z (pq 1 Z (zAH (zAp 3 (sr (pq 1 Z (ns (zAD (zAc Z (zAE (zAA (zAD (zAP (sr (pq 1 Z (zCU (T:=tab) (i:=1) Z Z Z Z Z Z Z Z (pq 3 Z (ns (su [(1,.loc 1 0),(4,.loc 4 0),(6,.loc 6 0),(28,.bsl 400280 3),(29,Y 3),(30,Y 1),(7,Y 1),(8,.loc 1 2)] [(6,.box 143 [.nloc 6 0,.ownb 5060]),(5060,.arr 5 1 (r9.map zAC)),(1,.box 43 [Y o1.Kind,Y o1.A,Y o1.B,Y o1.C,D o1.S,D o1.T,O o1.Must]),(400280,.box 107 [.loc 1 1,.loc 1 2,.loc 1 3]),(4,.box 101 [D r3.1.word,D r3.1.fields])] (zBE [0,1,0,7,0,16,48,127] mixed (by kernel_rfl) (by kernel_rfl) Z Z (ve [8] [70] [4] [(35,.loc 4 1)] ?_))))))))))))))))))))))))
   refine vf [9,70] [72] [] [4] [4] [(36,D r3.1.fields)] [(4,.box 101 [D r3.1.word,D r3.1.fields])] ?_
   refine ve [14] [74] [] [(37,Y 1)] ?_
   refine vt (chr r3.1.fields 1) [(76,[])] [72,74] [76] [] [] [] (fun b10=>[(38,.v (.int .u8 b10))]) (fun b10=>[]) Z Z (fun _=>Z) (fun w0 X X0 σ0 _=>by refine zCa (T:=tab) (s:=r3.1.fields) Z Z Z Z Z Z Z fun b10 hb10=>?_;exact pz) fun b10 hb10=>?_
   refine ve [16] [78] [1] [(39,.loc 1 2)] ?_
   refine ve [78] [80] [1] [(40,.loc 1 2)] ?_
   refine vf [3,80] [82] [] [1] [1] [(41,Y o1.B)] [(1,.box 43 [Y o1.Kind,Y o1.A,Y o1.B,Y o1.C,D o1.S,D o1.T,O o1.Must])] ?_
   refine vt (zBC fu b10 o1.B r9) [(84,[]),(10121,[]),(13,[6,5060])] [12,13,76,82,10121] [84,10121,13] [5060] [6] [] (fun r11=>[(42,.tup [])]) (fun r11=>[(5060,.arr 5 1 (r11.map zAC)),(6,.box 143 [.nloc 6 0,.ownb 5060])]) Z Z (fun _=>Z) (fun w0 X X0 σ0 _=>by refine tu [5060] (enc:=fun (r11:(List Int))=>.tup []) (Sr:=fun (r11:(List Int))=>[(6,.box 143 [.nloc 6 0,.ownb 5060]),(5060,.arr 5 1 (r11.map zAC))]) (qs:=[.loc 6 0,.v (.int .u8 b10),Y o1.B]) (Sc:=[(6,.box 143 [.nloc 6 0,.ownb 5060]),(5060,.arr 5 1 (r9.map zAC))]) (N1:=[6]) (NR:=[6,5060]) (fun r11 hr11=>fr [(900000,6),(900001,5060)] [900000,900001] (zDC fu b10 o1.B r9 _ hr11)) zNG Z Z Z Z Z Z Z Z fun r11 hr11=>?_;exact pz) fun r11 hr11=>?_
   refine zBd Z Z (zAJ (zAA (zAB (zAZ (T:=tab) 2 Z Z Z Z Z (pq 1 Z (zAH (zAp 2 (sr (pq 1 Z (ns (zAD (zAc Z (zAE (zAA (zAD (zAP (sr (pq 1 Z (zCU (T:=tab) (i:=2) Z Z Z Z Z Z Z Z (pq 3 Z (ns (su [(1,.loc 1 0),(4,.loc 4 0),(6,.loc 6 0),(28,.bsl 400280 3),(29,Y 3),(30,Y 2),(7,Y 2),(8,.loc 1 3)] [(6,.box 143 [.nloc 6 0,.ownb 5060]),(5060,.arr 5 1 (r11.map zAC)),(1,.box 43 [Y o1.Kind,Y o1.A,Y o1.B,Y o1.C,D o1.S,D o1.T,O o1.Must]),(400280,.box 107 [.loc 1 1,.loc 1 2,.loc 1 3]),(4,.box 101 [D r3.1.word,D r3.1.fields])] (zBE [0,1,0,7,0,16,48,127] mixed (by kernel_rfl) (by kernel_rfl) Z Z (ve [8] [70] [4] [(35,.loc 4 1)] ?_))))))))))))))))))))))))
   refine vf [9,70] [72] [] [4] [4] [(36,D r3.1.fields)] [(4,.box 101 [D r3.1.word,D r3.1.fields])] ?_
   refine ve [14] [74] [] [(37,Y 2)] ?_
   refine vt (chr r3.1.fields 2) [(76,[])] [72,74] [76] [] [] [] (fun b12=>[(38,.v (.int .u8 b12))]) (fun b12=>[]) Z Z (fun _=>Z) (fun w0 X X0 σ0 _=>by refine zCa (T:=tab) (s:=r3.1.fields) Z Z Z Z Z Z Z fun b12 hb12=>?_;exact pz) fun b12 hb12=>?_
   refine ve [16] [78] [1] [(39,.loc 1 3)] ?_
   refine ve [78] [80] [1] [(40,.loc 1 3)] ?_
   refine vf [3,80] [82] [] [1] [1] [(41,Y o1.C)] [(1,.box 43 [Y o1.Kind,Y o1.A,Y o1.B,Y o1.C,D o1.S,D o1.T,O o1.Must])] ?_
   refine vt (zBC fu b12 o1.C r11) [(84,[]),(10121,[]),(13,[6,5060])] [12,13,76,82,10121] [84,10121,13] [5060] [6] [] (fun r13=>[(42,.tup [])]) (fun r13=>[(5060,.arr 5 1 (r13.map zAC)),(6,.box 143 [.nloc 6 0,.ownb 5060])]) Z Z (fun _=>Z) (fun w0 X X0 σ0 _=>by refine tu [5060] (enc:=fun (r13:(List Int))=>.tup []) (Sr:=fun (r13:(List Int))=>[(6,.box 143 [.nloc 6 0,.ownb 5060]),(5060,.arr 5 1 (r13.map zAC))]) (qs:=[.loc 6 0,.v (.int .u8 b12),Y o1.C]) (Sc:=[(6,.box 143 [.nloc 6 0,.ownb 5060]),(5060,.arr 5 1 (r11.map zAC))]) (N1:=[6]) (NR:=[6,5060]) (fun r13 hr13=>fr [(900000,6),(900001,5060)] [900000,900001] (zDC fu b12 o1.C r11 _ hr13)) zNG Z Z Z Z Z Z Z Z fun r13 hr13=>?_;exact pz) fun r13 hr13=>?_
   refine zBd Z Z (zAJ (zAA (zAB (zAZ (T:=tab) 3 Z Z Z Z Z (pq 1 Z (zAH (zAp 1 (sr (pq 1 Z (ns (zAD (zAs Z (zA0 Z (zAA (zAD (sr (tu [400440] (enc:=fun (r14:Unit)=>.bsl 400440 2) (Sr:=fun (r14:Unit)=>[(1,.box 43 [Y o1.Kind,Y o1.A,Y o1.B,Y o1.C,D o1.S,D o1.T,O o1.Must]),(400440,.box 112 [.loc 1 4,.loc 1 5])]) (qs:=[.loc 1 0]) (Sc:=[(1,.box 43 [Y o1.Kind,Y o1.A,Y o1.B,Y o1.C,D o1.S,D o1.T,O o1.Must])]) (N1:=[1]) (NR:=[1,400440]) (fun r14 hr14=>fr [(9,400440),(900000,1)] [9,900000] (zFj fu o1 _ hr14)) zND Z Z Z Z Z Z Z Z fun r14 hr14=>pq 2 Z (ns (zAP (zEX 3 (sr (pq 1 Z (ns (zAD (zAc Z (zAE (zAA (zAD (zBj (zEv fu o1 r3) (fun (l19:(List Int))=>[(4,.loc 4 0),(6,.loc 6 0),(44,.bsl 400440 2),(45,Y 2),(46,Y 0)]) (fun (l19:(List Int))=>[(6,.box 143 [.nloc 6 0,.ownb 5060]),(5060,.arr 5 1 (l19.map zAC)),(1,.box 43 [Y o1.Kind,Y o1.A,Y o1.B,Y o1.C,D o1.S,D o1.T,O o1.Must]),(400440,.box 112 [.loc 1 4,.loc 1 5]),(4,.box 101 [D r3.1.word,D r3.1.fields])]) ?_ fun hj2=>?_)))))))))))))))))))))))))))))
   ·rintro l19
    refine zAA (zAB (zAZ (T:=tab) 1 Z Z Z Z Z (pq 1 Z (zAH (zAp 2 (sr (pq 1 Z (ns (zAD (zAc Z (zAE (zAA (zAD (zAP (sr (pq 1 Z (zCU (T:=tab) (i:=1) Z Z Z Z Z Z Z Z (pq 3 Z (ns (sr (pq 3 Z (zAZ (T:=tab) 4 Z Z Z Z Z (zCa (T:=tab) (s:=r3.1.fields) Z Z Z Z Z Z Z fun b20 hb20=>pq 1 Z (ns (zAN Z ?_ ?_)))))))))))))))))))))))))
    ·exact zAB (pq 4 Z (pc (zMB fu o1.T) zQR Z Z Z Z fun r21 hr21=>zFg Z Z Z Z Z Z fun s22 hs22=>tu [5060] (enc:=fun (r23:(Int×Bool×(List Int)))=>.tup [Y r23.1,.err r23.2.1]) (Sr:=fun (r23:(Int×Bool×(List Int)))=>[(6,.box 143 [.nloc 6 0,.ownb 5060]),(5060,.arr 5 1 (r23.2.2.map zAC))]) (qs:=[.loc 6 0,D s22]) (Sc:=[(6,.box 143 [.nloc 6 0,.ownb 5060]),(5060,.arr 5 1 (l19.map zAC))]) (N1:=[6]) (NR:=[6,5060]) (fun r23 hr23=>fr [(900000,6),(900001,5060)] [900000,900001] (zAR fu s22 l19 _ hr23)) zFd Z Z Z Z Z Z Z Z fun r23 hr23=>zAH (zAJ (zAA (zAB (zAZ (T:=tab) 2 Z Z Z Z Z (pq 1 Z (zAH (zAp 1 (sr (pq 1 Z (ns (zAD (zAs Z (zA0 Z (zAA (sr (pq 1 Z (tu [] (enc:=fun (r24:Bs)=>D r24) (Sr:=fun (r24:Bs)=>[(6,.box 143 [.nloc 6 0,.junk])]) (qs:=[.loc 6 0]) (Sc:=[(6,.box 143 [.nloc 6 0,.ownb 5060]),(5060,.arr 5 1 (r23.2.2.map zAC))]) (N1:=[6,5060]) (NR:=[6]) (fun r24 hr24=>fr [(900000,6),(900001,5060)] [900000,900001] (zCF fu r23.2.2 _ hr24)) zLV Z Z Z Z Z Z Z Z fun r24 hr24=>pq 2 Z (ns rN))))))))))))))))))))
    ·exact zAE (zAJ (zAA (zAB (zAZ (T:=tab) 2 Z Z Z Z Z (pq 1 Z (zAH (zAp 1 (sr (pq 1 Z (ns (zAD (zAs Z (zA0 Z (zAA (sr (pq 1 Z (tu [] (enc:=fun (r25:Bs)=>D r25) (Sr:=fun (r25:Bs)=>[(6,.box 143 [.nloc 6 0,.junk])]) (qs:=[.loc 6 0]) (Sc:=[(6,.box 143 [.nloc 6 0,.ownb 5060]),(5060,.arr 5 1 (l19.map zAC))]) (N1:=[6,5060]) (NR:=[6]) (fun r25 hr25=>fr [(900000,6),(900001,5060)] [900000,900001] (zCF fu l19 _ hr25)) zLV Z Z Z Z Z Z Z Z fun r25 hr25=>pq 2 Z (ns rN))))))))))))))))))
   ·refine zAP (sr (pq 1 Z (zCU (T:=tab) (i:=0) Z Z Z Z Z Z Z Z (pq 3 Z (ns (sr (pq 3 Z (zAZ (T:=tab) 3 Z Z Z Z Z (zCa (T:=tab) (s:=r3.1.fields) Z Z Z Z Z Z Z fun b15 hb15=>pq 1 Z (ns (zAN Z ?_ ?_)))))))))))
    ·exact zAB (pq 4 Z (pc (zMB fu o1.S) zQR Z Z Z Z fun r16 hr16=>zFg Z Z Z Z Z Z fun s17 hs17=>tu [5060] (enc:=fun (r18:(Int×Bool×(List Int)))=>.tup [Y r18.1,.err r18.2.1]) (Sr:=fun (r18:(Int×Bool×(List Int)))=>[(6,.box 143 [.nloc 6 0,.ownb 5060]),(5060,.arr 5 1 (r18.2.2.map zAC))]) (qs:=[.loc 6 0,D s17]) (Sc:=[(6,.box 143 [.nloc 6 0,.ownb 5060]),(5060,.arr 5 1 (r13.map zAC))]) (N1:=[6]) (NR:=[6,5060]) (fun r18 hr18=>fr [(900000,6),(900001,5060)] [900000,900001] (zAR fu s17 r13 _ hr18)) zFd Z Z Z Z Z Z Z Z fun r18 hr18=>zAH (zAJ (ps (hj2 r18.2.2)))))
    ·exact zAE (zAJ (ps (hj2 r13)))
  ·refine zAN Z ?_ ?_
   ·exact zAB (pq 1 Z (tu [5060] (enc:=fun (r4:(Int×Bool×(List Int)))=>.tup [Y r4.1,.err r4.2.1]) (Sr:=fun (r4:(Int×Bool×(List Int)))=>[(6,.box 143 [.nloc 6 0,.ownb 5060]),(5060,.arr 5 1 (r4.2.2.map zAC))]) (qs:=[.loc 6 0,D [33]]) (Sc:=[(6,.box 143 [.nloc 6 0,.ownb 5060]),(5060,.arr 5 1 ([].map zAC))]) (N1:=[6]) (NR:=[6,5060]) (fun r4 hr4=>fr [(900000,6),(900001,5060)] [900000,900001] (zAR fu [33] [] _ hr4)) zFd Z Z Z Z Z Z Z Z fun r4 hr4=>zAH (ps (hj1 r4.2.2))))
   ·exact zAE (ps (hj1 []))
def zCW (fu:Nat) (s1:Bs) (r2:(Bs×Bool)) (r5:Int) (c28:Int) (c29:Int) (c30:Int) (x_:Bs×Bool×Bs×Bs):Option (Op×Int):=match x_ with
 | (rest41,ok42,c43,c44)=>bnd (zFH fu (⟨r5,c28,c29,c30,c43,c44,r2.2⟩:Op)) fun r45=>cnd (!ok42) (some ((⟨0,0,0,0,[],[],false⟩:Op),2)) (cnd (!(rest41==([]:Bs))) (some ((⟨0,0,0,0,[],[],false⟩:Op),2)) (cnd (r45.2 != 0) (some ((⟨0,0,0,0,[],[],false⟩:Op),2)) (cnd (!(r45.1==s1)) (some ((⟨0,0,0,0,[],[],false⟩:Op),2)) (some ((⟨r5,c28,c29,c30,c43,c44,r2.2⟩:Op),0)))))
def zB4 (fu:Nat) (s1:Bs) (r2:(Bs×Bool)) (r5:Int) (r6:(Op_form×Bool)) (c28:Int) (c29:Int) (c30:Int) (x_:Bs×Bool×Bs):Option (Op×Int):=match x_ with
 | (rest35,ok36,c37)=>cnd ok36 (bnd (chr r6.1.fields 4) fun b38=>cnd (b38==115) (bnd (zAz fu rest35) fun r39=>bnd (zAM fu r39.2.1 [32]) fun r40=>cnd r40.2 ((zCW fu s1 r2 r5 c28 c29 c30) (r39.2.1,r39.2.2,c37,r39.1)) ((zCW fu s1 r2 r5 c28 c29 c30) (r39.2.1,r39.2.2,c37,r39.1))) ((zCW fu s1 r2 r5 c28 c29 c30) (rest35,ok36,c37,[]))) ((zCW fu s1 r2 r5 c28 c29 c30) (rest35,ok36,c37,[]))
def zDl (fu:Nat) (s1:Bs) (r2:(Bs×Bool)) (r5:Int) (r6:(Op_form×Bool)) (x_:Bs×Bool×Int×Int×Int):Option (Op×Int):=match x_ with
 | (rest26,ok27,c28,c29,c30)=>bnd (zCX fu) fun r31=>cnd ok27 (bnd (chr r6.1.fields 3) fun b32=>cnd (b32==115) (bnd (zAz fu rest26) fun r33=>bnd (zAM fu r33.2.1 [32]) fun r34=>cnd r34.2 ((zB4 fu s1 r2 r5 r6 c28 c29 c30) (r34.1,r33.2.2,r33.1)) ((zB4 fu s1 r2 r5 r6 c28 c29 c30) (r33.2.1,r33.2.2,r33.1))) ((zB4 fu s1 r2 r5 r6 c28 c29 c30) (rest26,ok27,[]))) ((zB4 fu s1 r2 r5 r6 c28 c29 c30) (rest26,ok27,[]))
def zEJ (fu:Nat) (s1:Bs) (r2:(Bs×Bool)) (r5:Int) (r6:(Op_form×Bool)) (c14:Int) (x_:Bs×Bool×Int):Option (Op×Int):=match x_ with
 | (rest19,ok20,c21)=>cnd ok20 (bnd (chr r6.1.fields 2) fun b22=>cnd (b22 != 46) (bnd (zAg fu rest19 [32]) fun r23=>bnd (chr r6.1.fields 2) fun b24=>bnd (zBA fu b24 r23.1) fun r25=>(zDl fu s1 r2 r5 r6) (r23.2.1,r25.2,c14,c21,r25.1)) ((zDl fu s1 r2 r5 r6) (rest19,ok20,c14,c21,0))) ((zDl fu s1 r2 r5 r6) (rest19,ok20,c14,c21,0))
def zEI (fu:Nat) (s1:Bs) (r2:(Bs×Bool)) (r5:Int) (r6:(Op_form×Bool)) (x_:Bs×Bool×Int):Option (Op×Int):=match x_ with
 | (rest12,ok13,c14)=>cnd ok13 (bnd (chr r6.1.fields 1) fun b15=>cnd (b15 != 46) (bnd (zAg fu rest12 [32]) fun r16=>bnd (chr r6.1.fields 1) fun b17=>bnd (zBA fu b17 r16.1) fun r18=>(zEJ fu s1 r2 r5 r6 c14) (r16.2.1,r18.2,r18.1)) ((zEJ fu s1 r2 r5 r6 c14) (rest12,ok13,0))) ((zEJ fu s1 r2 r5 r6 c14) (rest12,ok13,0))
def zBp (fu:Nat) (s1:Bs):Option (Op×Int):=bnd (zAM fu s1 [33]) fun r2=>bnd (zAg fu r2.1 [32]) fun r3=>bnd (zFK fu) fun r4=>bnd (zAf fu r4 r3.1) fun r5=>bnd (zCk fu r5) fun r6=>bnd (zCL fu) fun r7=>cnd r6.2 (bnd (chr r6.1.fields 0) fun b8=>cnd (b8 != 46) (bnd (zAg fu r3.2.1 [32]) fun r9=>bnd (chr r6.1.fields 0) fun b10=>bnd (zBA fu b10 r9.1) fun r11=>(zEI fu s1 r2 r5 r6) (r9.2.1,r11.2,r11.1)) ((zEI fu s1 r2 r5 r6) (r3.2.1,r6.2,0))) ((zEI fu s1 r2 r5 r6) (r3.2.1,r6.2,0))
theorem zFI (fu:Nat) (s1:Bs):∀r,zBp fu s1=some r->DC zAh Tryz.prog 19 [D s1] (.tup [.agg (cOp r.1),Y r.2]):=by
 refine fcI Tryz.func19 Z fun w0 X X0 σ0 _=>sr (zA4 (T:=tab) 2 Z Z Z Z Z Z Z Z Z (pq 1 Z (ns (sr (pq 1 Z (pc (zCb fu s1 [33]) zM9 Z Z Z Z fun r2 hr2=>pq 5 Z (ns (sr (pq 1 Z (pc (zCf fu r2.1 [32]) zJc Z Z Z Z fun r3 hr3=>pq 7 Z (ns (sr (zFt (enc:=fun (r4:(List Bs))=>.sl 1 false (r4.map cStr)) (qs:=[]) (zHL fu) Z Z trivial (fun _=>Z) zQK Z Z fun r4 hr4=>pq 1 Z (pc (zC9 fu r4 r3.1) zQJ Z Z Z Z fun r5 hr5=>pq 1 Z (zAi (T:=tab) Z Z Z Z Z Z Z (zA4 (T:=tab) 8 Z Z Z Z Z Z Z Z Z (zAI (T:=tab) Z Z Z Z Z Z Z Z Z Z Z Z (ns (sr (pq 2 Z (pc (zEw fu r5) zNA Z Z Z Z fun r6 hr6=>pq 3 Z (zA4 (T:=tab) 9 Z Z Z Z Z Z Z Z Z (zAI (T:=tab) Z Z Z Z Z Z Z Z Z Z Z Z (pq 1 Z (ns (zAD (sr (tu [400410] (enc:=fun (r7:Unit)=>.bsl 400410 3) (Sr:=fun (r7:Unit)=>[(8,.box 43 [Y r5,Y 0,Y 0,Y 0,D [],D [],O r2.2]),(400410,.box 107 [.loc 8 1,.loc 8 2,.loc 8 3])]) (qs:=[.loc 8 0]) (Sc:=[(8,.box 43 [Y r5,Y 0,Y 0,Y 0,D [],D [],O r2.2])]) (N1:=[8]) (NR:=[8,400410]) (fun r7 hr7=>fr [(12,400410),(900000,8)] [12,900000] (zEY fu (⟨r5,0,0,0,[],[],r2.2⟩:Op) _ hr7)) zNB Z Z Z Z Z Z Z Z fun r7 hr7=>pq 2 Z (ns (zBj (zDl fu s1 r2 r5 r6) (fun ((rest26,ok27,c28,c29,c30):Bs×Bool×Int×Int×Int)=>[(0,D s1),(2,.loc 2 0),(4,D rest26),(8,.loc 8 0),(9,.loc 9 0),(10,O ok27)]) (fun ((rest26,ok27,c28,c29,c30):Bs×Bool×Int×Int×Int)=>[(8,.box 43 [Y r5,Y c28,Y c29,Y c30,D [],D [],O r2.2]),(9,.box 101 [D r6.1.word,D r6.1.fields]),(2,.box 43 [Y 0,Y 0,Y 0,Y 0,D [],D [],O false])]) ?_ fun hj3=>?_))))))))))))))))))))))))))))))
 ·rintro ⟨rest26,ok27,c28,c29,c30⟩
  refine zOC (m':=bnd (zCX fu) fun r31=>cnd ok27 (bnd (chr r6.1.fields 3) fun b32=>cnd (b32==115) (bnd (zAz fu rest26) fun r33=>bnd (zAM fu r33.2.1 [32]) fun r34=>cnd r34.2 ((zB4 fu s1 r2 r5 r6 c28 c29 c30) (r34.1,r33.2.2,r33.1)) ((zB4 fu s1 r2 r5 r6 c28 c29 c30) (r33.2.1,r33.2.2,r33.1))) ((zB4 fu s1 r2 r5 r6 c28 c29 c30) (rest26,ok27,[]))) ((zB4 fu s1 r2 r5 r6 c28 c29 c30) (rest26,ok27,[]))) Z (zAA (zAD (sr (tu [400740] (enc:=fun (r31:Unit)=>.bsl 400740 2) (Sr:=fun (r31:Unit)=>[(8,.box 43 [Y r5,Y c28,Y c29,Y c30,D [],D [],O r2.2]),(400740,.box 112 [.loc 8 4,.loc 8 5])]) (qs:=[.loc 8 0]) (Sc:=[(8,.box 43 [Y r5,Y c28,Y c29,Y c30,D [],D [],O r2.2])]) (N1:=[8]) (NR:=[8,400740]) (fun r31 hr31=>fr [(9,400740),(900000,8)] [9,900000] (zFj fu (⟨r5,c28,c29,c30,[],[],r2.2⟩:Op) _ hr31)) zND Z Z Z Z Z Z Z Z fun r31 hr31=>pq 2 Z (ns (zBj (zCW fu s1 r2 r5 c28 c29 c30) (fun ((rest41,ok42,c43,c44):Bs×Bool×Bs×Bs)=>[(0,D s1),(2,.loc 2 0),(4,D rest41),(8,.loc 8 0),(10,O ok42)]) (fun ((rest41,ok42,c43,c44):Bs×Bool×Bs×Bs)=>[(8,.box 43 [Y r5,Y c28,Y c29,Y c30,D c43,D c44,O r2.2]),(2,.box 43 [Y 0,Y 0,Y 0,Y 0,D [],D [],O false])]) ?_ fun hj5=>?_))))))
  ·rintro ⟨rest41,ok42,c43,c44⟩
   refine zAA (zAD (sr (pq 1 Z (pc (zJU fu (⟨r5,c28,c29,c30,c43,c44,r2.2⟩:Op)) zQM Z Z Z Z fun r45 hr45=>pq 5 Z (ns (sr (pq 3 Z (zAK (j:=117) Z ?_ ?_))))))))
   ·refine pq 12 Z (zAH (zAA (zAc Z ?_)))
    exact sr (zAi (T:=tab) Z Z Z Z Z Z Z (zAI (T:=tab) Z Z Z Z Z Z Z Z Z Z Z Z (pq 1 Z (ns rN))))
   ·refine pq 4 Z (zAK (j:=121) Z ?_ ?_)
    ·refine pq 8 Z (zAH (zAA (zAc Z ?_)))
     exact sr (zAi (T:=tab) Z Z Z Z Z Z Z (zAI (T:=tab) Z Z Z Z Z Z Z Z Z Z Z Z (pq 1 Z (ns rN))))
    ·refine pq 4 Z (zAK (j:=125) Z ?_ ?_)
     ·refine pq 4 Z (zAH (zAA (zAc Z ?_)))
      exact sr (zAi (T:=tab) Z Z Z Z Z Z Z (zAI (T:=tab) Z Z Z Z Z Z Z Z Z Z Z Z (pq 1 Z (ns rN))))
     ·refine pq 4 Z (ns (zAN Z ?_ ?_))
      ·exact sr (zAi (T:=tab) Z Z Z Z Z Z Z (zAI (T:=tab) Z Z Z Z Z Z Z Z Z Z Z Z (pq 1 Z (ns rN))))
      ·exact zAE (zAA (sr (pq 1 Z (zAI (T:=tab) Z Z Z Z Z Z Z Z Z Z Z Z (pq 1 Z (ns rN))))))
  ·refine zAP (zEX 3 (sr (pq 1 Z (ns (zAD (zAc Z (zAE (zAA (zAD (zBj (zB4 fu s1 r2 r5 r6 c28 c29 c30) (fun ((rest35,ok36,c37):Bs×Bool×Bs)=>[(0,D s1),(2,.loc 2 0),(4,D rest35),(8,.loc 8 0),(9,.loc 9 0),(10,O ok36),(74,.bsl 400740 2),(75,Y 2),(76,Y 0)]) (fun ((rest35,ok36,c37):Bs×Bool×Bs)=>[(8,.box 43 [Y r5,Y c28,Y c29,Y c30,D c37,D [],O r2.2]),(400740,.box 112 [.loc 8 4,.loc 8 5]),(9,.box 101 [D r6.1.word,D r6.1.fields]),(2,.box 43 [Y 0,Y 0,Y 0,Y 0,D [],D [],O false])]) ?_ fun hj4=>?_))))))))))
   ·rintro ⟨rest35,ok36,c37⟩
    refine zAA (zAB (zAZ (T:=tab) 1 Z Z Z Z Z (pq 1 Z (zAH (zAp 2 (sr (pq 1 Z (ns (zAD (zAc Z (zAE (zAA (zAD (zAP (sr (pq 1 Z (zCU (T:=tab) (i:=1) Z Z Z Z Z Z Z Z (pq 3 Z (ns (sr (pq 2 Z (zAK (j:=82) Z ?_ ?_))))))))))))))))))))))
    ·refine pq 3 Z (zAZ (T:=tab) 4 Z Z Z Z Z (zCa (T:=tab) (s:=r6.1.fields) Z Z Z Z Z Z Z fun b38 hb38=>pq 2 Z (ns (zAN Z ?_ ?_))))
     ·refine sr (pq 2 Z (pc (zFc fu rest35) zQL Z Z Z Z fun r39 hr39=>pq 5 Z (zAI (T:=tab) Z Z Z Z Z Z Z Z Z Z Z Z (pq 2 Z (ns (sr (pq 1 Z (pc (zCb fu r39.2.1 [32]) zM9 Z Z Z Z fun r40 hr40=>pq 5 Z (ns (sr (pq 2 Z (zAK (j:=104) Z ?_ ?_))))))))))))
      ·refine pq 3 Z (zAH (zAA (zAs Z ?_)))
       exact zAE (zAJ (zAA (zAB (zAZ (T:=tab) 2 Z Z Z Z Z (pq 1 Z (zAH (zAp 1 (sr (pq 1 Z (ns (zAD (zAs Z (zA0 Z (ps (hj5 (r39.2.1,r39.2.2,c37,r39.1))))))))))))))))
      ·refine pq 3 Z (zAH (zAA (zAs Z ?_)))
       exact zAE (zAJ (zAA (zAB (zAZ (T:=tab) 2 Z Z Z Z Z (pq 1 Z (zAH (zAp 1 (sr (pq 1 Z (ns (zAD (zAs Z (zA0 Z (ps (hj5 (r39.2.1,r39.2.2,c37,r39.1))))))))))))))))
     ·exact zAE (zAJ (zAA (zAB (zAZ (T:=tab) 2 Z Z Z Z Z (pq 1 Z (zAH (zAp 1 (sr (pq 1 Z (ns (zAD (zAs Z (zA0 Z (ps (hj5 (rest35,ok36,c37,[]))))))))))))))))
    ·refine pq 7 Z (zAH (zAA (zAs Z ?_)))
     exact zAE (zAJ (zAA (zAB (zAZ (T:=tab) 2 Z Z Z Z Z (pq 1 Z (zAH (zAp 1 (sr (pq 1 Z (ns (zAD (zAs Z (zA0 Z (ps (hj5 (rest35,ok36,c37,[]))))))))))))))))
   ·refine zAP (sr (pq 1 Z (zCU (T:=tab) (i:=0) Z Z Z Z Z Z Z Z (pq 3 Z (ns (sr (pq 2 Z (zAK (j:=82) Z ?_ ?_))))))))
    ·refine pq 3 Z (zAZ (T:=tab) 3 Z Z Z Z Z (zCa (T:=tab) (s:=r6.1.fields) Z Z Z Z Z Z Z fun b32 hb32=>pq 2 Z (ns (zAN Z ?_ ?_))))
     ·refine sr (pq 2 Z (pc (zFc fu rest26) zQL Z Z Z Z fun r33 hr33=>pq 5 Z (zAI (T:=tab) Z Z Z Z Z Z Z Z Z Z Z Z (pq 2 Z (ns (sr (pq 1 Z (pc (zCb fu r33.2.1 [32]) zM9 Z Z Z Z fun r34 hr34=>pq 5 Z (ns (sr (pq 2 Z (zAK (j:=104) Z ?_ ?_))))))))))))
      ·refine pq 3 Z (zAH (zAA (zAc Z ?_)))
       exact zAB (pq 2 Z (zAH (zAJ (ps (hj4 (r34.1,r33.2.2,r33.1))))))
      ·refine pq 3 Z (zAH (zAA (zAs Z ?_)))
       exact zAE (zAJ (ps (hj4 (r33.2.1,r33.2.2,r33.1))))
     ·exact zAE (zAJ (ps (hj4 (rest26,ok27,[]))))
    ·refine pq 7 Z (zAH (zAA (zAs Z ?_)))
     exact zAE (zAJ (ps (hj4 (rest26,ok27,[]))))
 ·refine zAP (zEX 4 (sr (pq 1 Z (ns (zAD (zAc Z (zAE (zAA (zAD (zBj (zEI fu s1 r2 r5 r6) (fun ((rest12,ok13,c14):Bs×Bool×Int)=>[(0,D s1),(2,.loc 2 0),(4,D rest12),(8,.loc 8 0),(9,.loc 9 0),(10,O ok13),(41,.bsl 400410 3),(42,Y 3),(43,Y 0)]) (fun ((rest12,ok13,c14):Bs×Bool×Int)=>[(8,.box 43 [Y r5,Y c14,Y 0,Y 0,D [],D [],O r2.2]),(400410,.box 107 [.loc 8 1,.loc 8 2,.loc 8 3]),(9,.box 101 [D r6.1.word,D r6.1.fields]),(2,.box 43 [Y 0,Y 0,Y 0,Y 0,D [],D [],O false])]) ?_ fun hj1=>?_))))))))))
  ·rintro ⟨rest12,ok13,c14⟩
   refine zAA (zAB (zAZ (T:=tab) 1 Z Z Z Z Z (pq 1 Z (zAH (zAp 3 (sr (pq 1 Z (ns (zAD (zAc Z (zAE (zAA (zAD (zBj (zEJ fu s1 r2 r5 r6 c14) (fun ((rest19,ok20,c21):Bs×Bool×Int)=>[(0,D s1),(2,.loc 2 0),(4,D rest19),(8,.loc 8 0),(9,.loc 9 0),(10,O ok20),(41,.bsl 400410 3),(42,Y 3),(43,Y 1)]) (fun ((rest19,ok20,c21):Bs×Bool×Int)=>[(8,.box 43 [Y r5,Y c14,Y c21,Y 0,D [],D [],O r2.2]),(400410,.box 107 [.loc 8 1,.loc 8 2,.loc 8 3]),(9,.box 101 [D r6.1.word,D r6.1.fields]),(2,.box 43 [Y 0,Y 0,Y 0,Y 0,D [],D [],O false])]) ?_ fun hj2=>?_))))))))))))))
   ·rintro ⟨rest19,ok20,c21⟩
    refine zAA (zAB (zAZ (T:=tab) 2 Z Z Z Z Z (pq 1 Z (zAH (zAp 2 (sr (pq 1 Z (ns (zAD (zAc Z (zAE (zAA (zAD (zAP (sr (pq 1 Z (zCU (T:=tab) (i:=2) Z Z Z Z Z Z Z Z (pq 3 Z (ns (sr (pq 2 Z (zAK (j:=49) Z ?_ ?_))))))))))))))))))))))
    ·refine pq 3 Z (zCa (T:=tab) (s:=r6.1.fields) Z Z Z Z Z Z Z fun b22 hb22=>pq 2 Z (ns (zAN Z ?_ ?_)))
     ·exact sr (pq 1 Z (pc (zCf fu rest19 [32]) zJc Z Z Z Z fun r23 hr23=>pq 6 Z (ns (zAB (pq 4 Z (zCa (T:=tab) (s:=r6.1.fields) Z Z Z Z Z Z Z fun b24 hb24=>pq 1 Z (pc (zDV fu b24 r23.1) zNC Z Z Z Z fun r25 hr25=>pq 4 Z (zAI (T:=tab) Z Z Z Z Z Z Z Z Z Z Z Z (pq 1 Z (zAH (zAJ (zAA (zAB (zAZ (T:=tab) 3 Z Z Z Z Z (pq 1 Z (zAH (zAp 1 (sr (pq 1 Z (ns (zAD (zAs Z (zA0 Z (ps (hj3 (r23.2.1,r25.2,c14,c21,r25.1))))))))))))))))))))))))))
     ·exact zAE (zAJ (zAA (zAB (zAZ (T:=tab) 3 Z Z Z Z Z (pq 1 Z (zAH (zAp 1 (sr (pq 1 Z (ns (zAD (zAs Z (zA0 Z (ps (hj3 (rest19,ok20,c14,c21,0))))))))))))))))
    ·refine pq 6 Z (zAH (zAA (zAs Z ?_)))
     exact zAE (zAJ (zAA (zAB (zAZ (T:=tab) 3 Z Z Z Z Z (pq 1 Z (zAH (zAp 1 (sr (pq 1 Z (ns (zAD (zAs Z (zA0 Z (ps (hj3 (rest19,ok20,c14,c21,0))))))))))))))))
   ·refine zAP (sr (pq 1 Z (zCU (T:=tab) (i:=1) Z Z Z Z Z Z Z Z (pq 3 Z (ns (sr (pq 2 Z (zAK (j:=49) Z ?_ ?_))))))))
    ·refine pq 3 Z (zCa (T:=tab) (s:=r6.1.fields) Z Z Z Z Z Z Z fun b15 hb15=>pq 2 Z (ns (zAN Z ?_ ?_)))
     ·exact sr (pq 1 Z (pc (zCf fu rest12 [32]) zJc Z Z Z Z fun r16 hr16=>pq 6 Z (ns (zAB (pq 4 Z (zCa (T:=tab) (s:=r6.1.fields) Z Z Z Z Z Z Z fun b17 hb17=>pq 1 Z (pc (zDV fu b17 r16.1) zNC Z Z Z Z fun r18 hr18=>pq 4 Z (zAI (T:=tab) Z Z Z Z Z Z Z Z Z Z Z Z (pq 1 Z (zAH (zAJ (ps (hj2 (r16.2.1,r18.2,r18.1))))))))))))))
     ·exact zAE (zAJ (ps (hj2 (rest12,ok13,0))))
    ·refine pq 6 Z (zAH (zAA (zAs Z ?_)))
     exact zAE (zAJ (ps (hj2 (rest12,ok13,0))))
  ·refine zAP (sr (pq 1 Z (zCU (T:=tab) (i:=0) Z Z Z Z Z Z Z Z (pq 3 Z (ns (sr (pq 2 Z (zAK (j:=49) Z ?_ ?_))))))))
   ·refine pq 3 Z (zCa (T:=tab) (s:=r6.1.fields) Z Z Z Z Z Z Z fun b8 hb8=>pq 2 Z (ns (zAN Z ?_ ?_)))
    ·exact sr (pq 1 Z (pc (zCf fu r3.2.1 [32]) zJc Z Z Z Z fun r9 hr9=>pq 6 Z (ns (zAB (pq 4 Z (zCa (T:=tab) (s:=r6.1.fields) Z Z Z Z Z Z Z fun b10 hb10=>pq 1 Z (pc (zDV fu b10 r9.1) zNC Z Z Z Z fun r11 hr11=>pq 4 Z (zAI (T:=tab) Z Z Z Z Z Z Z Z Z Z Z Z (pq 1 Z (zAH (zAJ (ps (hj1 (r9.2.1,r11.2,r11.1))))))))))))))
    ·exact zAE (zAJ (ps (hj1 (r3.2.1,r6.2,0))))
   ·refine pq 6 Z (zAH (zAA (zAs Z ?_)))
    exact zAE (zAJ (ps (hj1 (r3.2.1,r6.2,0))))
def zML (fu:Nat) (c1:Bs):Option (Bs×Bs):=bnd (zHZ fu c1 10) fun r2=>cnd (decide (r2>=0)) (bnd (rng .i64 (r2+1)) fun i3=>bnd (zC4 c1 0 i3) fun s4=>bnd (rng .i64 (r2+1)) fun i5=>bnd (zC4 c1 i5 ((c1.length:Nat):Int)) fun s6=>some (s4,s6)) (some (c1,[]))
theorem zKV (fu:Nat):∃r1 mid,Tryz.f73.body=some (zHf r1 mid 9 3 4 41)/\∀(c1:Bs) (l:Nat) w0 X X0 σ0 hl z,PW (⟨Tryz.prog,Tryz.f73,w0,X,X0,σ0,[0],fun _ _ _=>True,z,zAh,hl,none⟩:Ctx (Bs×Bs)) (cutM c1) r1 [.seq mid,.loopK (fun y a w=>Pre (⟨Tryz.prog,Tryz.f73,w0,X,X0,σ0,[0],fun _ _ _=>True,z,zAh,hl,none⟩:Ctx (Bs×Bs)) (zMc l y.1) (zGw 9 y.2) a w) (fun _ _ _=>False)] (zJw l) (zGw 9 c1):=by
 refine ⟨_,_,Z,fun c1 l w0 X X0 σ0 hl z=>?_⟩
 refine zRg (m':=zML fu c1) Z (zAB (pq 1 Z (ns (sr (pq 1 Z (pc (zJr fu c1 10) call74 Z Z Z Z fun r2 hr2=>pq 1 Z (ns (sr (pq 2 Z (ns (zAN Z ?_ ?_)))))))))))
 ·refine su [(0,.fn (.yield l) [] []),(1,.loc 0 0),(4,Y r2)] [(0,.box 9 [D c1])] (zBE [0,0,2,7,0,0,32,112,15,511] mixed (by kernel_rfl) (by kernel_rfl) Z Z (vf [1,2] [24] [] [0] [0] [(12,D c1)] [(0,.box 9 [D c1])] ?_))
  refine ve [8] [26] [] [(13,Y r2)] ?_
  refine vt (rng .i64 (r2+1)) [(28,[])] [26] [28] [] [] [] (fun i3=>[(14,Y i3)]) (fun i3=>[]) Z Z (fun _=>Z) (fun w0 X X0 σ0 _=>by refine zAT (T:=tab) Z Z Z Z fun i3 hi3=>?_;exact pz) fun i3 hi3=>?_
  refine vt (zC4 c1 0 i3) [(30,[])] [24,28] [30] [] [] [] (fun s4=>[(15,D s4)]) (fun s4=>[]) Z Z (fun _=>Z) (fun w0 X X0 σ0 _=>by refine zHo (T:=tab) Z Z Z Z Z Z Z Z fun s4 hs4=>?_;exact pz) fun s4 hs4=>?_
  refine vf [1,2] [32] [] [0] [0] [(16,D c1)] [(0,.box 9 [D c1])] ?_
  refine ve [8] [34] [] [(17,Y r2)] ?_
  refine vt (rng .i64 (r2+1)) [(36,[])] [34] [36] [] [] [] (fun i5=>[(18,Y i5)]) (fun i5=>[]) Z Z (fun _=>Z) (fun w0 X X0 σ0 _=>by refine zAT (T:=tab) Z Z Z Z fun i5 hi5=>?_;exact pz) fun i5 hi5=>?_
  refine vt (zC4 c1 i5 ((c1.length:Nat):Int)) [(38,[])] [32,36] [38] [] [] [] (fun s6=>[(19,D s6)]) (fun s6=>[]) Z Z (fun _=>Z) (fun w0 X X0 σ0 _=>by refine zHo (T:=tab) Z Z Z Z Z Z Z Z fun s6 hs6=>?_;exact pz) fun s6 hs6=>?_
  refine ve [30] [6] [] [(3,D s4)] ?_
  refine vs [1,2,38] [1] [] [0] [] [] [(0,.box 9 [D s6])] Z Z (fun w0 X X0 σ0 _=>by refine zAI (T:=tab) Z Z Z Z Z Z Z Z Z Z Z Z ?_;exact py) ?_
  exact zBd Z Z (zOD ⟨Z,Z,Z,trivial⟩ ⟨Z,trivial⟩ Z)
 ·exact zAB (pq 2 Z (zAI (T:=tab) Z Z Z Z Z Z Z Z Z Z Z Z (zAH (zOD ⟨Z,Z,Z,trivial⟩ ⟨Z,trivial⟩ Z))))
def zBB (fu:Nat):List Bs->Nat×Int×(List Class×Bool)×Bool×(List Bs)×(List Op)×(List Op)×(List Hook×Bool)×Int×(List Op)×(List Op)->Option (Script×Int)
 | [],(k3,c4,c5,c6,l7,l8,l9,c10,c11,l12,l13)=>some ((⟨(c5.1++if c5.2 then [(⟨c6,l7,l8,l9,(c10.1++if c10.2 then [(⟨c11,l12⟩:Hook)] else [])⟩:Class)] else []),l13⟩:Script),0)
 | y14::ys15,(k3,c4,c5,c6,l7,l8,l9,c10,c11,l12,l13)=>bnd (zA7 fu y14 [10]) fun r16=>cnd (r16==([]:Bs)) ((zBB fu ys15) (k3,c4,c5,c6,l7,l8,l9,c10,c11,l12,l13)) (bnd (zB3 fu r16 k3 c4 c5 c6 c10 c11 l7 l8 l9 l12) fun r17=>cnd r17.1 ((zBB fu ys15) (r17.2.1,r17.2.2.1,r17.2.2.2.1,r17.2.2.2.2.1,r17.2.2.2.2.2.2.2.1,r17.2.2.2.2.2.2.2.2.1,r17.2.2.2.2.2.2.2.2.2.1,r17.2.2.2.2.2.1,r17.2.2.2.2.2.2.1,r17.2.2.2.2.2.2.2.2.2.2,l13)) (sel4 r17.2.1 (cnd (((l13.length:Nat):Int)==r17.2.2.1) (some ((⟨[],[]⟩:Script),3)) (bnd (zBp fu r16) fun r18=>bnd (zEF 72 (l13.length+([r18.1]:List Op).length)) fun _=>(zBB fu ys15) (0,r17.2.2.1,r17.2.2.2.1,r17.2.2.2.2.1,r17.2.2.2.2.2.2.2.1,r17.2.2.2.2.2.2.2.2.1,r17.2.2.2.2.2.2.2.2.2.1,r17.2.2.2.2.2.1,r17.2.2.2.2.2.2.1,r17.2.2.2.2.2.2.2.2.2.2,(l13++[r18.1])))) (bnd (zGy r17.2.2.2.1.2) fun _=>cnd (((r17.2.2.2.2.2.2.2.2.1.length:Nat):Int)==r17.2.2.1) (some ((⟨[],[]⟩:Script),3)) (bnd (zBp fu r16) fun r19=>bnd (zEF 72 (r17.2.2.2.2.2.2.2.2.1.length+([r19.1]:List Op).length)) fun _=>(zBB fu ys15) (1,r17.2.2.1,(r17.2.2.2.1.1,true),r17.2.2.2.2.1,r17.2.2.2.2.2.2.2.1,(r17.2.2.2.2.2.2.2.2.1++[r19.1]),r17.2.2.2.2.2.2.2.2.2.1,r17.2.2.2.2.2.1,r17.2.2.2.2.2.2.1,r17.2.2.2.2.2.2.2.2.2.2,l13))) (bnd (zGy r17.2.2.2.1.2) fun _=>cnd (((r17.2.2.2.2.2.2.2.2.2.1.length:Nat):Int)==r17.2.2.1) (some ((⟨[],[]⟩:Script),3)) (bnd (zBp fu r16) fun r20=>bnd (zEF 72 (r17.2.2.2.2.2.2.2.2.2.1.length+([r20.1]:List Op).length)) fun _=>(zBB fu ys15) (2,r17.2.2.1,(r17.2.2.2.1.1,true),r17.2.2.2.2.1,r17.2.2.2.2.2.2.2.1,r17.2.2.2.2.2.2.2.2.1,(r17.2.2.2.2.2.2.2.2.2.1++[r20.1]),r17.2.2.2.2.2.1,r17.2.2.2.2.2.2.1,r17.2.2.2.2.2.2.2.2.2.2,l13))) (bnd (zGy r17.2.2.2.2.2.1.2) fun _=>cnd (((r17.2.2.2.2.2.2.2.2.2.2.length:Nat):Int)==r17.2.2.1) (some ((⟨[],[]⟩:Script),3)) (bnd (zBp fu r16) fun r21=>bnd (zEF 72 (r17.2.2.2.2.2.2.2.2.2.2.length+([r21.1]:List Op).length)) fun _=>(zBB fu ys15) (3,r17.2.2.1,r17.2.2.2.1,r17.2.2.2.2.1,r17.2.2.2.2.2.2.2.1,r17.2.2.2.2.2.2.2.2.1,r17.2.2.2.2.2.2.2.2.2.1,(r17.2.2.2.2.2.1.1,true),r17.2.2.2.2.2.2.1,(r17.2.2.2.2.2.2.2.2.2.2++[r21.1]),l13)))))
def zCB (fu:Nat) (s1:Bs):Option (Script×Int):=cnd (decide (((s1.length:Nat):Int)>16384)) (some ((⟨[],[]⟩:Script),3)) (bnd (zBL fu 300) fun r2=>bnd (fits s1) fun _=>(zBB fu) (zBX s1) (0,r2.2,(([]:List Class),false),false,([]:List Bs),([]:List Op),([]:List Op),(([]:List Hook),false),0,([]:List Op),([]:List Op)))
end Go.Proofs.YtoboimmgglnjfaaGreatDoor
