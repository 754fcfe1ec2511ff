/- Models and proofs, printed by emit2.py. -/
import Derived.Test.YtoboimmgglnjfaaGreatDoorG2
namespace Go.Proofs.YtoboimmgglnjfaaGreatDoor
open Go Go.Pw
set_option maxRecDepth 100000
set_option maxHeartbeats 10000000
set_option linter.unusedVariables false
theorem zH8 (fu:Nat) (t1:Instarref22_Text) (s2:Bs):∀r,zDx fu t1 s2=some r->DC zAf Tryz.prog 42 [.agg (zC1 t1),D s2] (.tup [.agg (zC1 r.1),O r.2]):=by
 refine fcI Tryz.func42 Z fun w0 X X0 σ0 _=>sr (zDl  2 Z Z Z Z Z Z Z Z Z Z (zAs (T:=tab) 4 Z Z Z Z Z Z Z Z Z (pq 1 Z (ns (zAD (sr (pq 2 Z (ns (zAH Z ?_ ?_)))))))))
 ·exact sr (pq 1 Z (zAG (T:=tab) Z Z Z Z Z Z Z Z Z Z Z Z (ns (sr (pq 1 Z (zAG (T:=tab) Z Z Z Z Z Z Z Z Z Z Z Z (pq 1 Z (ns rN))))))))
 ·refine zAB (zAA (sr (pq 3 Z (zAm (T:=tab) zAM t1.S.Classes Z Z Z Z Z Z Z Z (pq 1 Z (ns (zAD (sr (zD2 (zB4 fu t1 s2) (fun (_:Unit)=>[(1,D s2),(2,.loc 2 0),(4,.loc 4 0),(6,Y ((t1.S.Classes.length:Nat):Int))]) (fun (_:Unit)=>[(4,.box 87 [.v (.slice none 0 0),.v (.slice none 0 0),Y 0,O false]),(2,.box 87 [.sl 5 false (t1.S.Classes.map zAM),.sl 7 false (t1.S.Main.map cOp),Y t1.To,O t1.Bad])]) ?_ fun hj1=>?_)))))))))
  ·rintro _
   refine zAA (zAD (sr (pq 2 Z (ns (zAH Z ?_ ?_)))))
   ·exact sr (pq 1 Z (zAG (T:=tab) Z Z Z Z Z Z Z Z Z Z Z Z (pq 1 Z (ns rN))))
   ·refine zAB (zAA (sr (pq 4 Z (zAI (T:=tab) Z Z Z Z fun i3 hi3=>zCN (T:=tab) zAM t1.S.Classes Z Z Z Z Z Z Z fun y4 hy4=>pq 1 Z (zAs (T:=tab) 7 Z Z Z Z Z Z Z Z Z (zAG (T:=tab) Z Z Z Z Z Z Z Z Z Z Z Z (ns (zAD (sr (pq 3 Z (zAF (j:=53) Z ?_ ?_)))))))))))
    ·refine pq 3 Z (zAE (zAA (zAQ Z ?_)))
     refine sr (pq 1 Z (zAG (T:=tab) Z Z Z Z Z Z Z Z Z Z Z Z (ns (zAD (sr (pq 2 Z (ns (zAH Z ?_ ?_))))))))
     ·exact zAC (pq 1 Z (zAG (T:=tab) Z Z Z Z Z Z Z Z Z Z Z Z (ns (sr (pq 1 Z (zAG (T:=tab) Z Z Z Z Z Z Z Z Z Z Z Z (pq 1 Z (ns rN))))))))
     ·exact zAB (zAA (sr (pq 1 Z (zAG (T:=tab) Z Z Z Z Z Z Z Z Z Z Z Z (pq 1 Z (ns rN))))))
    ·refine pq 3 Z (ns (zAH Z ?_ ?_))
     ·refine sr (pq 1 Z (zAG (T:=tab) Z Z Z Z Z Z Z Z Z Z Z Z (ns (zAD (sr (pq 2 Z (ns (zAH Z ?_ ?_))))))))
      ·exact zAC (pq 1 Z (zAG (T:=tab) Z Z Z Z Z Z Z Z Z Z Z Z (ns (sr (pq 1 Z (zAG (T:=tab) Z Z Z Z Z Z Z Z Z Z Z Z (pq 1 Z (ns rN))))))))
      ·exact zAB (zAA (sr (pq 1 Z (zAG (T:=tab) Z Z Z Z Z Z Z Z Z Z Z Z (pq 1 Z (ns rN))))))
     ·refine zAB (zAA (zAD (zAD (zEK mixed (by kernel_rfl) (zTh (zBd fu t1 s2 y4) (fun (_:Unit)=>[(1,D s2),(2,.loc 2 0),(4,.loc 4 0),(7,.loc 7 0)]) (fun (_:Unit)=>[(7,.box 51 [O y4.Form,.sl 1 false (y4.Watch.map cStr),.sl 7 false (y4.Peek.map cOp),.sl 7 false (y4.Make.map cOp),.sl 2 false (y4.Hooks.map zAP)]),(4,.box 87 [.v (.slice none 0 0),.v (.slice none 0 0),Y 0,O false]),(2,.box 87 [.sl 5 false (t1.S.Classes.map zAM),.sl 7 false (t1.S.Main.map cOp),Y t1.To,O t1.Bad])]) ?_ fun hj2=>?_)))))
      ·rintro _
       refine zAA (zAD (sr (pq 1 Z (ns (zAL (lq (zA0 fu t1 s2 y4) (fun (kind13:Int)=>[(1,D s2),(2,.loc 2 0),(4,.loc 4 0),(7,.loc 7 0),(8,Y kind13)]) (fun (kind13:Int)=>[(7,.box 51 [O y4.Form,.sl 1 false (y4.Watch.map cStr),.sl 7 false (y4.Peek.map cOp),.sl 7 false (y4.Make.map cOp),.sl 2 false (y4.Hooks.map zAP)]),(4,.box 87 [.v (.slice none 0 0),.v (.slice none 0 0),Y 0,O false]),(2,.box 87 [.sl 5 false (t1.S.Classes.map zAM),.sl 7 false (t1.S.Main.map cOp),Y t1.To,O t1.Bad])]) fu 1 ?_))))))
       rintro k1 kind13
       refine zAD (sr (pq 2 Z (ns (zAH Z ?_ ?_))))
       ·refine zAB (zAA (zAD (zAL (sr (pq 2 Z (pc (zF2 fu kind13) zUT Z Z Z Z fun r14 hr14=>zCW Z Z Z Z Z Z fun s15 hs15=>pq 2 Z (zAF (j:=110) Z ?_ ?_)))))))
        ·refine pq 2 Z (zAm (T:=tab) zAP y4.Hooks Z Z Z Z Z Z Z Z (pq 2 Z (ns (zAH Z ?_ ?_))))
         ·refine sr ?_
          refine zBu (T:=tab) (rows:=([]:List Hook).map zAP) 116 Z Z Z Z Z Z Z Z Z Z Z Z Z Z ?_
          refine pq 2 Z ?_
          refine zAv (T:=tab) zAP ([]:List Hook) y4.Hooks Z Z Z Z Z Z Z Z Z Z Z Z Z Z (zKF _) Z Z Z Z Z ?_
          refine pq 1 Z (zA4 (T:=tab) Z Z Z Z Z Z Z ?_)
          refine zJR 121 Z (.agg (ds:=[Y kind13,.sl 7 false ([].map cOp)]) ⟨.rfl,.nil,trivial⟩) ?_
          refine zBu (T:=tab) (rows:=[(⟨kind13,[]⟩:Hook)].map zAP) 122 Z Z Z Z Z Z Z Z Z Z Z Z Z Z ?_
          refine zAv (T:=tab) zAP (([]:List Hook)++y4.Hooks) ([(⟨kind13,[]⟩:Hook)]:List Hook) Z Z Z Z Z Z Z Z Z Z Z Z Z Z (zKF _) Z Z Z Z Z ?_
          exact pq 1 Z (zAG (T:=tab) Z Z Z Z Z Z Z Z Z Z Z Z (ns (sr (pq 1 Z (zAG (T:=tab) Z Z Z Z Z Z Z Z Z Z Z Z (ns (sr (pq 2 Z (zCr 116 Z Z Z (pc (zBe fu (⟨(⟨t1.S.Classes,t1.S.Main⟩:Script),3,t1.Bad⟩:Instarref22_Text) (⟨y4.Form,y4.Watch,y4.Peek,y4.Make,((([]:List Hook)++y4.Hooks)++[(⟨kind13,[]⟩:Hook)])⟩:Class)) zJH Z Z Z Z fun r16 hr16=>zAG (T:=tab) Z Z Z Z Z Z Z Z Z Z Z Z (pq 1 Z (ns rN))))))))))))
         ·exact zAB (zAK (zAA (zAC (pq 1 Z (zAI (T:=tab) Z Z Z Z fun i17 hi17=>pq 1 Z (zAE (zAW i17 ⟨Z,Z,Z,Z,Z,trivial⟩ ⟨Z,Z,Z,trivial⟩ Z)))))))
        ·refine pq 5 Z (zAE (zAA (zAZ Z ?_)))
         exact zAB (zAK (zAA (zAC (pq 1 Z (zAI (T:=tab) Z Z Z Z fun i18 hi18=>pq 1 Z (zAE (zAW i18 ⟨Z,Z,Z,Z,Z,trivial⟩ ⟨Z,Z,Z,trivial⟩ Z)))))))
       ·exact zAY Z (zAA (sr (pq 1 Z (zAG (T:=tab) Z Z Z Z Z Z Z Z Z Z Z Z (pq 1 Z (ns rN))))))
      ·refine zAV (T:=tab) 4 Z Z (zDf (j:=65) Z ?_ ?_)
       ·refine zAV (T:=tab) 1 Z Z (zLH (T:=tab) Z Z Z Z Z Z Z Z fun s5 hs5=>zAV (T:=tab) 3 Z Z (zDf (j:=70) Z ?_ ?_))
        ·refine zAV (T:=tab) 2 Z Z (pd_len (T:=tab) cStr y4.Watch Z Z Z Z Z Z Z Z (zAV (T:=tab) 3 Z Z (zDf (j:=76) Z ?_ ?_)))
         ·refine zAV (T:=tab) 1 Z Z (zLH (T:=tab) Z Z Z Z Z Z Z Z fun s6 hs6=>pdc (zFf fu s6) zUa Z Z Z Z fun r7 hr7=>zAV (T:=tab) 2 Z Z (zDf (j:=81) Z ?_ ?_))
          ·refine zAV (T:=tab) 1 Z Z (zLH (T:=tab) Z Z Z Z Z Z Z Z fun s8 hs8=>pdc (zFg fu s8) zUb Z Z Z Z fun r9 hr9=>zAV (T:=tab) 1 Z Z (zLH (T:=tab) Z Z Z Z Z Z Z Z fun s10 hs10=>zAV (T:=tab) 2 Z Z (zCq (zAA (zAH Z ?_ ?_)))))
           ·refine zAD (su [(1,D s2),(2,.loc 2 0),(4,.loc 4 0),(7,.loc 7 0)] [(7,.box 51 [O y4.Form,.sl 1 false (y4.Watch.map cStr),.sl 7 false (y4.Peek.map cOp),.sl 7 false (y4.Make.map cOp),.sl 2 false (y4.Hooks.map zAP)]),(4,.box 87 [.v (.slice none 0 0),.v (.slice none 0 0),Y 0,O false]),(2,.box 87 [.sl 5 false (t1.S.Classes.map zAM),.sl 7 false (t1.S.Main.map cOp),Y t1.To,O t1.Bad])] (zBB [0,0,2,7,0,16,48,127,255,511] mixed (by kernel_rfl) (by kernel_rfl) Z Z (vs [] [178,179] [89] [] [] [(89,.own 89)] [(89,.arr 9 1 (([]:List Bs).map cStr))] Z Z (fun w0 X X0 σ0 _=>by refine zBu (T:=tab) (rows:=([]:List Bs).map cStr) 89 Z Z Z Z Z Z Z Z Z Z Z Z Z Z ?_;exact py) ?_)))
            refine ve [14] [180] [7] [(90,.loc 7 1)] ?_
            refine vf [15,180] [182] [] [7] [7] [(91,.sl 1 false (y4.Watch.map cStr))] [(7,.box 51 [O y4.Form,.sl 1 false (y4.Watch.map cStr),.sl 7 false (y4.Peek.map cOp),.sl 7 false (y4.Make.map cOp),.sl 2 false (y4.Hooks.map zAP)])] ?_
            refine vt (zBr 16 (([]:List Bs).length+y4.Watch.length)) [(184,[89]),(178,[]),(179,[])] [178,179,182] [184,178,179] [89] [] [] (fun _=>[(92,.own 89)]) (fun _=>[(89,.arr 9 1 ((([]:List Bs)++y4.Watch).map cStr))]) Z Z (fun _=>Z) (fun w0 X X0 σ0 _=>by refine zAv (T:=tab) cStr ([]:List Bs) y4.Watch Z Z Z Z Z Z Z Z Z Z Z Z Z Z (zLg _) Z Z Z Z Z ?_;exact pz) fun _ h0=>?_
            refine ve [2] [186] [] [(93,D s2)] ?_
            refine vt (zC3 s2 6 ((s2.length:Nat):Int)) [(188,[])] [186] [188] [] [] [] (fun s11=>[(94,D s11)]) (fun s11=>[]) Z Z (fun _=>Z) (fun w0 X X0 σ0 _=>by refine zGE (T:=tab) Z Z Z Z Z Z Z Z fun s11 hs11=>?_;exact pz) fun s11 hs11=>?_
            refine vs [188] [190,191] [95] [] [] [(95,.own 95)] [(95,.arr 9 1 ([s11].map cStr))] Z Z (fun w0 X X0 σ0 _=>by refine zBu (T:=tab) (rows:=[s11].map cStr) 95 Z Z Z Z Z Z Z Z Z Z Z Z Z Z ?_;exact py) ?_
            refine vt (zBr 16 ((([]:List Bs)++y4.Watch).length+([s11]:List Bs).length)) [(192,[89]),(184,[]),(179,[]),(178,[])] [178,179,184,190,191] [192,184,179,178] [89] [95] [95] (fun _=>[(96,.own 89)]) (fun _=>[(89,.arr 9 1 (((([]:List Bs)++y4.Watch)++[s11]).map cStr)),(95,.arr 9 1 ([s11].map cStr))]) Z Z (fun _=>Z) (fun w0 X X0 σ0 _=>by refine zAv (T:=tab) cStr (([]:List Bs)++y4.Watch) ([s11]:List Bs) Z Z Z Z Z Z Z Z Z Z Z Z Z Z (zLg _) Z Z Z Z Z ?_;exact pz) fun _ h0=>?_
            refine ve [14] [194] [7] [(97,.loc 7 1)] ?_
            refine vs [15,179,192,194] [15] [] [7,89] [89] [] [(7,.box 51 [O y4.Form,.own 89,.sl 7 false (y4.Peek.map cOp),.sl 7 false (y4.Make.map cOp),.sl 2 false (y4.Hooks.map zAP)]),(89,.arr 9 1 (((([]:List Bs)++y4.Watch)++[s11]).map cStr))] Z Z (fun w0 X X0 σ0 _=>by refine zAG (T:=tab) Z Z Z Z Z Z Z Z Z Z Z Z ?_;exact py) ?_
            exact zBf Z Z (zAA (sr (pq 2 Z (zCr 89 Z Z Z (pc (zBe fu t1 (⟨y4.Form,((([]:List Bs)++y4.Watch)++[s11]),y4.Peek,y4.Make,y4.Hooks⟩:Class)) zJH Z Z Z Z fun r12 hr12=>zAG (T:=tab) Z Z Z Z Z Z Z Z Z Z Z Z (pq 1 Z (ns rN)))))))
           ·exact zAB (ps (hj2 ()))
          ·refine zAV (T:=tab) 7 Z Z (zCq (zAA (zAZ Z ?_)))
           exact zAB (ps (hj2 ()))
         ·refine zAV (T:=tab) 12 Z Z (zCq (zAA (zAZ Z ?_)))
          exact zAB (ps (hj2 ()))
        ·refine zAV (T:=tab) 18 Z Z (zCq (zAA (zAZ Z ?_)))
         exact zAB (ps (hj2 ()))
       ·refine zAV (T:=tab) 23 Z Z (zCq (zAA (zAZ Z ?_)))
        exact zAB (ps (hj2 ()))
  ·refine pq 3 Z (zAF (j:=19) Z ?_ ?_)
   ·refine pq 7 Z (ns (zAH Z ?_ ?_))
    ·refine sr ?_
     refine zBu (T:=tab) (rows:=([]:List Class).map zAM) 27 Z Z Z Z Z Z Z Z Z Z Z Z Z Z ?_
     refine pq 3 Z ?_
     refine zAv (T:=tab) zAM ([]:List Class) t1.S.Classes Z Z Z Z Z Z Z Z Z Z Z Z Z Z (zGk _) Z Z Z Z Z ?_
     refine pq 2 Z (zA4 (T:=tab) Z Z Z Z Z Z Z ?_)
     refine zJR 34 Z (.agg (ds:=[O (s2==([99,108,97,115,115,32,102,111,114,109]:Bs)),.sl 1 false ([].map cStr),.sl 7 false ([].map cOp),.sl 7 false ([].map cOp),.sl 2 false ([].map zAP)]) ⟨.rfl,.nil,.nil,.nil,.nil,trivial⟩) ?_
     refine zBu (T:=tab) (rows:=[(⟨(s2==([99,108,97,115,115,32,102,111,114,109]:Bs)),[],[],[],[]⟩:Class)].map zAM) 35 Z Z Z Z Z Z Z Z Z Z Z Z Z Z ?_
     refine zAv (T:=tab) zAM (([]:List Class)++t1.S.Classes) ([(⟨(s2==([99,108,97,115,115,32,102,111,114,109]:Bs)),[],[],[],[]⟩:Class)]:List Class) Z Z Z Z Z Z Z Z Z Z Z Z Z Z (zGk _) Z Z Z Z Z ?_
     exact pq 2 Z (zAG (T:=tab) Z Z Z Z Z Z Z Z Z Z Z Z (ns (sr (pq 1 Z (zAG (T:=tab) Z Z Z Z Z Z Z Z Z Z Z Z (ns (sr (pq 1 Z (zAG (T:=tab) Z Z Z Z Z Z Z Z Z Z Z Z (pq 1 Z (ns (zDt 27 Z Z Z rN))))))))))))
    ·exact zAB (ps (hj1 ()))
   ·refine pq 4 Z (zAF (j:=23) Z ?_ ?_)
    ·refine pq 3 Z (ns (zAH Z ?_ ?_))
     ·refine sr ?_
      refine zBu (T:=tab) (rows:=([]:List Class).map zAM) 27 Z Z Z Z Z Z Z Z Z Z Z Z Z Z ?_
      refine pq 3 Z ?_
      refine zAv (T:=tab) zAM ([]:List Class) t1.S.Classes Z Z Z Z Z Z Z Z Z Z Z Z Z Z (zGk _) Z Z Z Z Z ?_
      refine pq 2 Z (zA4 (T:=tab) Z Z Z Z Z Z Z ?_)
      refine zJR 34 Z (.agg (ds:=[O (s2==([99,108,97,115,115,32,102,111,114,109]:Bs)),.sl 1 false ([].map cStr),.sl 7 false ([].map cOp),.sl 7 false ([].map cOp),.sl 2 false ([].map zAP)]) ⟨.rfl,.nil,.nil,.nil,.nil,trivial⟩) ?_
      refine zBu (T:=tab) (rows:=[(⟨(s2==([99,108,97,115,115,32,102,111,114,109]:Bs)),[],[],[],[]⟩:Class)].map zAM) 35 Z Z Z Z Z Z Z Z Z Z Z Z Z Z ?_
      refine zAv (T:=tab) zAM (([]:List Class)++t1.S.Classes) ([(⟨(s2==([99,108,97,115,115,32,102,111,114,109]:Bs)),[],[],[],[]⟩:Class)]:List Class) Z Z Z Z Z Z Z Z Z Z Z Z Z Z (zGk _) Z Z Z Z Z ?_
      exact pq 2 Z (zAG (T:=tab) Z Z Z Z Z Z Z Z Z Z Z Z (ns (sr (pq 1 Z (zAG (T:=tab) Z Z Z Z Z Z Z Z Z Z Z Z (ns (sr (pq 1 Z (zAG (T:=tab) Z Z Z Z Z Z Z Z Z Z Z Z (pq 1 Z (ns (zDt 27 Z Z Z rN))))))))))))
     ·exact zAB (ps (hj1 ()))
    ·refine pq 3 Z (zAE (zAA (zAZ Z ?_)))
     exact zAB (ps (hj1 ()))
def zAT (_fu:Nat) (s1:Bs) (at2:Int) (piece3:Bs):Option Int:=cnd (decide (at2<0)) (some (-1)) (bnd (rng .i64 (((s1.length:Nat):Int) - at2)) fun i4=>cnd (decide (i4<((piece3.length:Nat):Int))) (some (-1)) (bnd (rng .i64 (at2+((piece3.length:Nat):Int))) fun i5=>bnd (zC3 s1 at2 i5) fun s6=>cnd (!(s6==piece3)) (some (-1)) (bnd (rng .i64 (at2+((piece3.length:Nat):Int))) fun i7=>some i7)))
theorem zBc (fu:Nat) (s1:Bs) (at2:Int) (piece3:Bs):∀r,zAT fu s1 at2 piece3=some r->DC zAf Tryz.prog 78 [D s1,Y at2,D piece3] (Y r):=by
 refine fcI Tryz.func78 Z fun w0 X X0 σ0 _=>sr (pq 1 Z (ns (zAD (sr (pq 3 Z (zAF (j:=9) Z ?_ ?_))))))
 ·refine pq 19 Z (zAE (zAA (zAQ Z ?_)))
  exact sr (pq 1 Z (ns rN))
 ·refine pq 3 Z (zAI (T:=tab) Z Z Z Z fun i4 hi4=>pq 5 Z (zAF (j:=18) Z ?_ ?_))
  ·refine pq 10 Z (zAE (zAA (zAQ Z ?_)))
   exact sr (pq 1 Z (ns rN))
  ·refine pq 5 Z (zAI (T:=tab) Z Z Z Z fun i5 hi5=>zGE (T:=tab) Z Z Z Z Z Z Z Z fun s6 hs6=>pq 3 Z (ns (zAH Z ?_ ?_)))
   ·exact sr (pq 1 Z (ns rN))
   ·exact zAB (zAA (sr (pq 3 Z (zAI (T:=tab) Z Z Z Z fun i7 hi7=>pq 1 Z (ns rN)))))
def zAc (s1:Bs) (minus12:Bool) (at14:Int) (x_:Int×Int):Option (Int×Int):=match x_ with
 | (at26,n27)=>cnd (at26==at14) (some (0,(-1))) (bnd (chr s1 at14) fun b28=>cnd (b28==48) (bnd (rng .i64 (at14+1)) fun i29=>cnd (decide (at26>i29)) (some (0,(-1))) (cnd minus12 (some (0,(-1))) (cnd minus12 (bnd (rng .i64 (0 - n27)) fun i30=>some (i30,at26)) (some (n27,at26))))) (cnd minus12 (bnd (rng .i64 (0 - n27)) fun i31=>some (i31,at26)) (some (n27,at26))))
def zAe (s1:Bs) (minus12:Bool) (at14:Int):Nat->Int×Int->Option (Int×Int)
 | 0,_=>none
 | k1+1,(at15,n16)=>cnd (decide (at15<((s1.length:Nat):Int))) (bnd (chr s1 at15) fun b17=>cnd (decide (b17>=48)) (bnd (chr s1 at15) fun b18=>cnd (decide (b18<=57)) (bnd (rng .i64 (at15 - at14)) fun i19=>cnd (decide (i19<5)) (bnd (rng .i64 (n16*10)) fun i20=>bnd (chr s1 at15) fun b21=>bnd (rng .u8 (b21 - 48)) fun i22=>bnd (rng .i64 i22) fun i23=>bnd (rng .i64 (i20+i23)) fun i24=>bnd (rng .i64 (at15+1)) fun i25=>(zAe s1 minus12 at14 k1) (i25,i24)) ((zAc s1 minus12 at14) (at15,n16))) ((zAc s1 minus12 at14) (at15,n16))) ((zAc s1 minus12 at14) (at15,n16))) ((zAc s1 minus12 at14) (at15,n16))
def zAz (fu:Nat) (s1:Bs) (minus12:Bool) (at14:Int):Option (Int×Int):=(zAe s1 minus12 at14) fu (at14,0)
def zAy (fu:Nat) (s1:Bs) (r4:Int) (minus12:Bool):Option (Int×Int):=cnd minus12 (bnd (rng .i64 (r4+1)) fun i13=>(zAz fu s1 minus12) i13) ((zAz fu s1 minus12) r4)
def zBE (fu:Nat) (s1:Bs) (f3:Int) (r4:Int) (x_:Unit):Option (Int×Int):=cnd (f3==105) (bnd (zAT fu s1 r4 [45]) fun r11=>(zAy fu s1 r4) (decide (r11>=0))) ((zAy fu s1 r4) false)
def zAx (fu:Nat) (s1:Bs) (f3:Int) (r4:Int) (x_:Unit):Option (Int×Int):=cnd (f3==111) (bnd (zAT fu s1 r4 [45]) fun r9=>cnd (decide (r9>=0)) (bnd (rng .i64 (r4+1)) fun i10=>some ((-1),i10)) ((zBE fu s1 f3 r4) ())) ((zBE fu s1 f3 r4) ())
def zAb (fu:Nat) (s1:Bs) (f3:Int) (r4:Int) (x_:Unit):Option (Int×Int):=cnd (f3 != 105) (bnd (zAT fu s1 r4 [108,97,115,116]) fun r7=>cnd (decide (r7>=0)) (bnd (rng .i64 (r4+4)) fun i8=>some ((-3),i8)) ((zAx fu s1 f3 r4) ())) ((zAx fu s1 f3 r4) ())
def zAl (fu:Nat) (s1:Bs) (at2:Int) (f3:Int):Option (Int×Int):=bnd (zAT fu s1 at2 [32]) fun r4=>cnd (decide (r4<0)) (some (0,(-1))) (cnd (f3 != 105) (bnd (zAT fu s1 r4 [115,101,108,102]) fun r5=>cnd (decide (r5>=0)) (bnd (rng .i64 (r4+4)) fun i6=>some ((-2),i6)) ((zAb fu s1 f3 r4) ())) ((zAb fu s1 f3 r4) ()))
theorem zDZ (fu:Nat) (s1:Bs) (at2:Int) (f3:Int):∀r,zAl fu s1 at2 f3=some r->DC zAf Tryz.prog 80 [D s1,Y at2,.v (.int .u8 f3)] (.tup [Y r.1,Y r.2]):=by
 refine fcI Tryz.func80 Z fun w0 X X0 σ0 _=>sr (pq 2 Z (ns (sr (pq 2 Z (pc (zBc fu s1 at2 [32]) zKH Z Z Z Z fun r4 hr4=>pq 1 Z (ns (zAD (sr (pq 2 Z (ns (zAH Z ?_ ?_)))))))))))
 ·exact sr (pq 2 Z (ns rN))
 ·refine zAB (zAA (zAD (sr (zD2 (zAb fu s1 f3 r4) (fun (_:Unit)=>[(0,D s1),(1,Y r4),(2,.v (.int .u8 f3))]) (fun (_:Unit)=>[]) ?_ fun hj1=>?_))))
  ·rintro _
   refine zAA (zAD (sr (zD2 (zAx fu s1 f3 r4) (fun (_:Unit)=>[(0,D s1),(1,Y r4),(2,.v (.int .u8 f3))]) (fun (_:Unit)=>[]) ?_ fun hj2=>?_)))
   ·rintro _
    refine zAA (zAD (sr (zD2 (zBE fu s1 f3 r4) (fun (_:Unit)=>[(0,D s1),(1,Y r4),(2,.v (.int .u8 f3))]) (fun (_:Unit)=>[]) ?_ fun hj3=>?_)))
    ·rintro _
     refine zAA (sr (zL5 (zAy fu s1 r4) (fun (minus12:Bool)=>[(0,D s1),(1,Y r4),(8,O minus12)]) (fun (minus12:Bool)=>[]) ?_ fun hj4=>?_))
     ·rintro minus12
      refine zAA (zAD (sr (pq 1 Z (ns (zBi (zAz fu s1 minus12) (fun (at14:Int)=>[(0,D s1),(1,Y at14),(8,O minus12)]) (fun (at14:Int)=>[]) ?_ fun hj5=>?_)))))
      ·rintro at14
       refine zAA (sr (pq 3 Z (ns (zAD (zBi (zAc s1 minus12 at14) (fun ((at26,n27):Int×Int)=>[(0,D s1),(1,Y at26),(8,O minus12),(9,Y n27),(10,Y at14)]) (fun ((at26,n27):Int×Int)=>[]) ?_ fun hj6=>?_)))))
       ·rintro ⟨at26,n27⟩
        refine zAA (zAD (sr (pq 4 Z (zAF (j:=93) Z ?_ ?_))))
        ·refine pq 14 Z (zAE (zAA (zAQ Z ?_)))
         exact sr (pq 2 Z (ns rN))
        ·refine pq 2 Z (zBZ (T:=tab) (s:=s1) Z Z Z Z Z Z Z fun b28 hb28=>pq 2 Z (zAF (j:=98) Z ?_ ?_))
         ·refine pq 2 Z (zAI (T:=tab) Z Z Z Z fun i29 hi29=>pq 2 Z (zAF (j:=103) Z ?_ ?_))
          ·refine pq 4 Z (zAE (zAA (zAQ Z ?_)))
           exact sr (pq 2 Z (ns rN))
          ·refine pq 4 Z (ns (zAH Z ?_ ?_))
           ·exact sr (pq 2 Z (ns rN))
           ·refine zAB (zAA (zAD (sr (pq 1 Z (ns (zAH Z ?_ ?_))))))
            ·exact zAC (pq 1 Z (zAI (T:=tab) Z Z Z Z fun i30 hi30=>pq 1 Z (ns (sr (pq 4 Z (ns rN))))))
            ·exact zAB (zAA (sr (pq 4 Z (ns rN))))
         ·refine pq 9 Z (zAE (zAA (zAZ Z ?_)))
          refine zAB (zAA (zAD (sr (pq 1 Z (ns (zAH Z ?_ ?_))))))
          ·exact zAC (pq 1 Z (zAI (T:=tab) Z Z Z Z fun i31 hi31=>pq 1 Z (ns (sr (pq 4 Z (ns rN))))))
          ·exact zAB (zAA (sr (pq 4 Z (ns rN))))
       ·refine zAL (lq (zAe s1 minus12 at14) (fun ((at15,n16):Int×Int)=>[(0,D s1),(1,Y at15),(8,O minus12),(9,Y n16),(10,Y at14)]) (fun ((at15,n16):Int×Int)=>[]) fu (at14,0) ?_)
        rintro k1 ⟨at15,n16⟩
        refine zAD (sr (pq 5 Z (zAF (j:=62) Z ?_ ?_)))
        ·refine pq 2 Z (zBZ (T:=tab) (s:=s1) Z Z Z Z Z Z Z fun b17 hb17=>pq 3 Z (zAF (j:=68) Z ?_ ?_))
         ·refine pq 2 Z (zBZ (T:=tab) (s:=s1) Z Z Z Z Z Z Z fun b18 hb18=>pq 3 Z (zAF (j:=74) Z ?_ ?_))
          ·refine pq 2 Z (zAI (T:=tab) Z Z Z Z fun i19 hi19=>pq 2 Z (ns (zAH Z ?_ ?_)))
           ·exact zAB (zAA (zAL (sr (pq 1 Z (zAI (T:=tab) Z Z Z Z fun i20 hi20=>pq 2 Z (zBZ (T:=tab) (s:=s1) Z Z Z Z Z Z Z fun b21 hb21=>zAI (T:=tab) Z Z Z Z fun i22 hi22=>zAI (T:=tab) Z Z Z Z fun i23 hi23=>zAI (T:=tab) Z Z Z Z fun i24 hi24=>pq 1 Z (ns (zAC (pq 1 Z (zAI (T:=tab) Z Z Z Z fun i25 hi25=>pq 1 Z (zAE (zAK (zAW (i25,i24) ⟨Z,Z,Z,Z,Z,trivial⟩ trivial Z)))))))))))))
           ·exact zAY Z (ps (hj6 (at15,n16)))
          ·refine pq 5 Z (zAE (zAA (zAZ Z ?_)))
           exact zAY Z (ps (hj6 (at15,n16)))
         ·refine pq 11 Z (zAE (zAA (zAZ Z ?_)))
          exact zAY Z (ps (hj6 (at15,n16)))
        ·refine pq 17 Z (zAE (zAA (zAZ Z ?_)))
         exact zAY Z (ps (hj6 (at15,n16)))
      ·refine zAH Z ?_ ?_
       ·exact zAC (pq 1 Z (zAI (T:=tab) Z Z Z Z fun i13 hi13=>pq 1 Z (zAE (ps (hj5 i13)))))
       ·exact zAB (ps (hj5 r4))
     ·refine pq 3 Z (zAF (j:=48) Z ?_ ?_)
      ·exact pq 2 Z (pc (zBc fu s1 r4 [45]) zKH Z Z Z Z fun r11 hr11=>pq 3 Z (zAE (ps (hj4 (decide (r11>=0))))))
      ·exact pq 6 Z (zAE (ps (hj4 false)))
    ·refine pq 3 Z (zAF (j:=38) Z ?_ ?_)
     ·refine pq 2 Z (pc (zBc fu s1 r4 [45]) zKH Z Z Z Z fun r9 hr9=>pq 2 Z (ns (zAH Z ?_ ?_)))
      ·exact sr (pq 1 Z (zAI (T:=tab) Z Z Z Z fun i10 hi10=>pq 2 Z (ns rN)))
      ·exact zAB (ps (hj3 ()))
     ·refine pq 5 Z (zAE (zAA (zAZ Z ?_)))
      exact zAB (ps (hj3 ()))
   ·refine pq 3 Z (zAF (j:=28) Z ?_ ?_)
    ·refine pq 2 Z (pc (zBc fu s1 r4 [108,97,115,116]) zKH Z Z Z Z fun r7 hr7=>pq 2 Z (ns (zAH Z ?_ ?_)))
     ·exact sr (pq 1 Z (zAI (T:=tab) Z Z Z Z fun i8 hi8=>pq 2 Z (ns rN)))
     ·exact zAB (ps (hj2 ()))
    ·refine pq 5 Z (zAE (zAA (zAZ Z ?_)))
     exact zAB (ps (hj2 ()))
  ·refine pq 3 Z (zAF (j:=18) Z ?_ ?_)
   ·refine pq 2 Z (pc (zBc fu s1 r4 [115,101,108,102]) zKH Z Z Z Z fun r5 hr5=>pq 2 Z (ns (zAH Z ?_ ?_)))
    ·exact sr (pq 1 Z (zAI (T:=tab) Z Z Z Z fun i6 hi6=>pq 2 Z (ns rN)))
    ·exact zAB (ps (hj1 ()))
   ·refine pq 5 Z (zAE (zAA (zAZ Z ?_)))
    exact zAB (ps (hj1 ()))
def zBg (s1:Bs) (out5:Bs) (rc1:(Int×Bs)->Option (Bs×Int)) (at12:Int):Option (Bs×Int):=bnd (rng .i64 (at12+1)) fun i13=>bnd (zC3 s1 at12 i13) fun s14=>bnd (cat out5 s14) fun s15=>bnd (rng .i64 (at12+1)) fun i16=>rc1 (i16,s15)
def zAn (s1:Bs):Nat->Int×Bs->Option (Bs×Int)
 | 0,_=>none
 | k1+1,(at4,out5)=>cnd (decide (at4<((s1.length:Nat):Int))) (bnd (chr s1 at4) fun b6=>cnd (b6==34) (bnd (rng .i64 (at4+1)) fun i7=>some (out5,i7)) (bnd (chr s1 at4) fun b8=>cnd (b8==92) (bnd (rng .i64 (at4+1)) fun i9=>cnd (decide (i9>=((s1.length:Nat):Int))) (some ([],(-1))) (bnd (chr s1 i9) fun b10=>cnd (b10 != 34) (bnd (chr s1 i9) fun b11=>cnd (b11 != 92) (some ([],(-1))) ((zBg s1 out5 (zAn s1 k1)) i9)) ((zBg s1 out5 (zAn s1 k1)) i9))) ((zBg s1 out5 (zAn s1 k1)) at4))) (some ([],(-1)))
def zA3 (fu:Nat) (s1:Bs) (at2:Int):Option (Bs×Int):=bnd (zAT fu s1 at2 [32,34]) fun r3=>cnd (decide (r3<0)) (some ([],(-1))) ((zAn s1) fu (r3,[]))
theorem zEv (fu:Nat) (s1:Bs) (at2:Int):∀r,zA3 fu s1 at2=some r->DC zAf Tryz.prog 81 [D s1,Y at2] (.tup [D r.1,Y r.2]):=by
 refine fcI Tryz.func81 Z fun w0 X X0 σ0 _=>sr (pq 2 Z (ns (sr (pq 2 Z (pc (zBc fu s1 at2 [32,34]) zKH Z Z Z Z fun r3 hr3=>pq 1 Z (ns (zAD (sr (pq 2 Z (ns (zAH Z ?_ ?_)))))))))))
 ·exact sr (pq 2 Z (ns rN))
 ·refine zAB (zAA (sr (pq 1 Z (ns (zAD (zAL (lq (zAn s1) (fun ((at4,out5):Int×Bs)=>[(0,D s1),(1,Y at4),(6,D out5)]) (fun ((at4,out5):Int×Bs)=>[]) fu (r3,[]) ?_)))))))
  rintro k1 ⟨at4,out5⟩
  refine zAD (sr (pq 4 Z (ns (zAH Z ?_ ?_))))
  ·refine zAB (zAA (zAL (zAD (sr (pq 2 Z (zBZ (T:=tab) (s:=s1) Z Z Z Z Z Z Z fun b6 hb6=>pq 1 Z (ns (zAH Z ?_ ?_))))))))
   ·exact sr (pq 2 Z (zAI (T:=tab) Z Z Z Z fun i7 hi7=>pq 2 Z (ns rN)))
   ·refine zAB (zAA (zAD (sr (pq 2 Z (zBZ (T:=tab) (s:=s1) Z Z Z Z Z Z Z fun b8 hb8=>pq 1 Z (ns (zBi (zBg s1 out5 (zAn s1 k1)) (fun (at12:Int)=>[(0,D s1),(1,Y at12),(6,D out5)]) (fun (at12:Int)=>[]) ?_ fun hj1=>?_)))))))
    ·rintro at12
     exact zAA (sr (pq 4 Z (zAI (T:=tab) Z Z Z Z fun i13 hi13=>zGE (T:=tab) Z Z Z Z Z Z Z Z fun s14 hs14=>zCW Z Z Z Z Z Z fun s15 hs15=>pq 1 Z (ns (zAC (pq 1 Z (zAI (T:=tab) Z Z Z Z fun i16 hi16=>pq 1 Z (zAE (zAK (zAW (i16,s15) ⟨Z,Z,Z,trivial⟩ trivial Z))))))))))
    ·refine zAH Z ?_ ?_
     ·refine sr (pq 1 Z (zAI (T:=tab) Z Z Z Z fun i9 hi9=>pq 1 Z (ns (sr (pq 5 Z (zAF (j:=33) Z ?_ ?_))))))
      ·refine pq 11 Z (zAE (zAA (zAQ Z ?_)))
       exact sr (pq 2 Z (ns rN))
      ·refine pq 2 Z (zBZ (T:=tab) (s:=s1) Z Z Z Z Z Z Z fun b10 hb10=>pq 2 Z (zAF (j:=38) Z ?_ ?_))
       ·refine pq 2 Z (zBZ (T:=tab) (s:=s1) Z Z Z Z Z Z Z fun b11 hb11=>pq 3 Z (ns (zAH Z ?_ ?_)))
        ·exact sr (pq 2 Z (ns rN))
        ·exact zAB (ps (hj1 i9))
       ·refine pq 6 Z (zAE (zAA (zAZ Z ?_)))
        exact zAB (ps (hj1 i9))
     ·exact zAB (ps (hj1 at4))
  ·exact zAY Z (zAA (sr (pq 2 Z (ns rN))))
def zBP (fu:Nat) (s1:Bs) (kind2:Int) (c5:Bool) (c13:Int) (c18:Int) (c23:Int) (c27:Bs) (rc1:Int->Option (Op×Bool)) (x_:Int×Bs):Option (Op×Bool):=match x_ with
 | (at30,c31)=>cnd (at30==((s1.length:Nat):Int)) (bnd (zDB fu (⟨kind2,c13,c18,c23,c27,c31,c5⟩:Op)) fun r32=>cnd r32 (some ((⟨kind2,c13,c18,c23,c27,c31,c5⟩:Op),true)) (bnd (rng .i64 (kind2+1)) fun i33=>rc1 i33)) (bnd (rng .i64 (kind2+1)) fun i34=>rc1 i34)
def zDA (fu:Nat) (s1:Bs) (kind2:Int) (c5:Bool) (r6:Bs) (c13:Int) (c18:Int) (c23:Int) (rc1:Int->Option (Op×Bool)) (x_:Int×Bs):Option (Op×Bool):=match x_ with
 | (at26,c27)=>cnd (decide (at26>=0)) (bnd (chr r6 4) fun b28=>cnd (b28 != 45) (bnd (zA3 fu s1 at26) fun r29=>(zBP fu s1 kind2 c5 c13 c18 c23 c27 rc1) (r29.2,r29.1)) ((zBP fu s1 kind2 c5 c13 c18 c23 c27 rc1) (at26,[]))) ((zBP fu s1 kind2 c5 c13 c18 c23 c27 rc1) (at26,[]))
def zC9 (fu:Nat) (s1:Bs) (kind2:Int) (c5:Bool) (r6:Bs) (c13:Int) (c18:Int) (rc1:Int->Option (Op×Bool)) (x_:Int×Int):Option (Op×Bool):=match x_ with
 | (at22,c23)=>cnd (decide (at22>=0)) (bnd (chr r6 3) fun b24=>cnd (b24 != 45) (bnd (zA3 fu s1 at22) fun r25=>(zDA fu s1 kind2 c5 r6 c13 c18 c23 rc1) (r25.2,r25.1)) ((zDA fu s1 kind2 c5 r6 c13 c18 c23 rc1) (at22,[]))) ((zDA fu s1 kind2 c5 r6 c13 c18 c23 rc1) (at22,[]))
def zC8 (fu:Nat) (s1:Bs) (kind2:Int) (c5:Bool) (r6:Bs) (c13:Int) (rc1:Int->Option (Op×Bool)) (x_:Int×Int):Option (Op×Bool):=match x_ with
 | (at17,c18)=>cnd (decide (at17>=0)) (bnd (chr r6 2) fun b19=>cnd (b19 != 45) (bnd (chr r6 2) fun b20=>bnd (zAl fu s1 at17 b20) fun r21=>(zC9 fu s1 kind2 c5 r6 c13 c18 rc1) (r21.2,r21.1)) ((zC9 fu s1 kind2 c5 r6 c13 c18 rc1) (at17,0))) ((zC9 fu s1 kind2 c5 r6 c13 c18 rc1) (at17,0))
def zC7 (fu:Nat) (s1:Bs) (kind2:Int) (c5:Bool) (r6:Bs) (rc1:Int->Option (Op×Bool)) (x_:Int×Int):Option (Op×Bool):=match x_ with
 | (at12,c13)=>cnd (decide (at12>=0)) (bnd (chr r6 1) fun b14=>cnd (b14 != 45) (bnd (chr r6 1) fun b15=>bnd (zAl fu s1 at12 b15) fun r16=>(zC8 fu s1 kind2 c5 r6 c13 rc1) (r16.2,r16.1)) ((zC8 fu s1 kind2 c5 r6 c13 rc1) (at12,0))) ((zC8 fu s1 kind2 c5 r6 c13 rc1) (at12,0))
def zBD (fu:Nat) (s1:Bs) (kind2:Int) (rc1:Int->Option (Op×Bool)) (x_:Int×Bool):Option (Op×Bool):=match x_ with
 | (at4,c5)=>bnd (zCH fu kind2) fun r6=>bnd (zDN fu kind2) fun r7=>bnd (zAT fu s1 at4 r7) fun r8=>cnd (decide (r8>=0)) (bnd (chr r6 0) fun b9=>cnd (b9 != 45) (bnd (chr r6 0) fun b10=>bnd (zAl fu s1 r8 b10) fun r11=>(zC7 fu s1 kind2 c5 r6 rc1) (r11.2,r11.1)) ((zC7 fu s1 kind2 c5 r6 rc1) (r8,0))) ((zC7 fu s1 kind2 c5 r6 rc1) (r8,0))
def zAU (fu:Nat) (s1:Bs):Nat->Int->Option (Op×Bool)
 | 0,_=>none
 | k1+1,kind2=>cnd (decide (kind2<=28)) (cnd (decide (((s1.length:Nat):Int)>0)) (bnd (chr s1 0) fun b3=>cnd (b3==33) ((zBD fu s1 kind2 (zAU fu s1 k1)) (1,true)) ((zBD fu s1 kind2 (zAU fu s1 k1)) (0,false))) ((zBD fu s1 kind2 (zAU fu s1 k1)) (0,false))) (some ((⟨0,0,0,0,[],[],false⟩:Op),false))
def zCh (fu:Nat) (s1:Bs):Option (Op×Bool):=(zAU fu s1) fu 1
theorem zH5 (fu:Nat) (s1:Bs):∀r,zCh fu s1=some r->DC zAf Tryz.prog 43 [D s1] (.tup [.agg (cOp r.1),O r.2]):=by
 refine fcI Tryz.func43 Z fun w0 X X0 σ0 _=>sr (zAs (T:=tab) 2 Z Z Z Z Z Z Z Z Z (pq 1 Z (ns (zAD (sr (pq 1 Z (ns (zAL (lq (zAU fu s1) (fun (kind2:Int)=>[(0,D s1),(2,.loc 2 0),(4,Y kind2)]) (fun (kind2:Int)=>[(2,.box 43 [Y 0,Y 0,Y 0,Y 0,D [],D [],O false])]) fu 1 ?_)))))))))
 rintro k1 kind2
 refine zAD (sr (pq 2 Z (ns (zAH Z ?_ ?_))))
 ·refine zAB (zAA (zAD (zAL (sr (pq 1 Z (zA4 (T:=tab) Z Z Z Z Z Z Z (zAs (T:=tab) 5 Z Z Z Z Z Z Z Z Z (zAG (T:=tab) Z Z Z Z Z Z Z Z Z Z Z Z (ns (sr (pq 1 Z (ns (zAD (sr (zD2 (zBD fu s1 kind2 (zAU fu s1 k1)) (fun ((at4,c5):Int×Bool)=>[(0,D s1),(2,.loc 2 0),(4,Y kind2),(5,.loc 5 0),(6,Y at4)]) (fun ((at4,c5):Int×Bool)=>[(5,.box 43 [Y kind2,Y 0,Y 0,Y 0,D [],D [],O c5]),(2,.box 43 [Y 0,Y 0,Y 0,Y 0,D [],D [],O false])]) ?_ fun hj1=>?_)))))))))))))))
  ·rintro ⟨at4,c5⟩
   refine zAA (sr (pq 1 Z (pc (zD3 fu kind2) zQr Z Z Z Z fun r6 hr6=>pq 1 Z (ns (sr (pq 3 Z (pc (zF0 fu kind2) zUe Z Z Z Z fun r7 hr7=>pc (zBc fu s1 at4 r7) zKH Z Z Z Z fun r8 hr8=>pq 1 Z (ns (zAD (sr (zD2 (zC7 fu s1 kind2 c5 r6 (zAU fu s1 k1)) (fun ((at12,c13):Int×Int)=>[(0,D s1),(2,.loc 2 0),(4,Y kind2),(5,.loc 5 0),(6,Y at12),(7,D r6)]) (fun ((at12,c13):Int×Int)=>[(5,.box 43 [Y kind2,Y c13,Y 0,Y 0,D [],D [],O c5]),(2,.box 43 [Y 0,Y 0,Y 0,Y 0,D [],D [],O false])]) ?_ fun hj2=>?_)))))))))))
   ·rintro ⟨at12,c13⟩
    refine zAA (zAD (sr (zD2 (zC8 fu s1 kind2 c5 r6 c13 (zAU fu s1 k1)) (fun ((at17,c18):Int×Int)=>[(0,D s1),(2,.loc 2 0),(4,Y kind2),(5,.loc 5 0),(6,Y at17),(7,D r6)]) (fun ((at17,c18):Int×Int)=>[(5,.box 43 [Y kind2,Y c13,Y c18,Y 0,D [],D [],O c5]),(2,.box 43 [Y 0,Y 0,Y 0,Y 0,D [],D [],O false])]) ?_ fun hj3=>?_)))
    ·rintro ⟨at17,c18⟩
     refine zAA (zAD (sr (zD2 (zC9 fu s1 kind2 c5 r6 c13 c18 (zAU fu s1 k1)) (fun ((at22,c23):Int×Int)=>[(0,D s1),(2,.loc 2 0),(4,Y kind2),(5,.loc 5 0),(6,Y at22),(7,D r6)]) (fun ((at22,c23):Int×Int)=>[(5,.box 43 [Y kind2,Y c13,Y c18,Y c23,D [],D [],O c5]),(2,.box 43 [Y 0,Y 0,Y 0,Y 0,D [],D [],O false])]) ?_ fun hj4=>?_)))
     ·rintro ⟨at22,c23⟩
      refine zAA (zAD (sr (zD2 (zDA fu s1 kind2 c5 r6 c13 c18 c23 (zAU fu s1 k1)) (fun ((at26,c27):Int×Bs)=>[(0,D s1),(2,.loc 2 0),(4,Y kind2),(5,.loc 5 0),(6,Y at26),(7,D r6)]) (fun ((at26,c27):Int×Bs)=>[(5,.box 43 [Y kind2,Y c13,Y c18,Y c23,D c27,D [],O c5]),(2,.box 43 [Y 0,Y 0,Y 0,Y 0,D [],D [],O false])]) ?_ fun hj5=>?_)))
      ·rintro ⟨at26,c27⟩
       refine zAA (zAD (sr (zD2 (zBP fu s1 kind2 c5 c13 c18 c23 c27 (zAU fu s1 k1)) (fun ((at30,c31):Int×Bs)=>[(0,D s1),(2,.loc 2 0),(4,Y kind2),(5,.loc 5 0),(6,Y at30)]) (fun ((at30,c31):Int×Bs)=>[(5,.box 43 [Y kind2,Y c13,Y c18,Y c23,D c27,D c31,O c5]),(2,.box 43 [Y 0,Y 0,Y 0,Y 0,D [],D [],O false])]) ?_ fun hj6=>?_)))
       ·rintro ⟨at30,c31⟩
        refine zAA (sr (pq 5 Z (zAF (j:=110) Z ?_ ?_)))
        ·refine pq 1 Z (pc (zFi fu (⟨kind2,c13,c18,c23,c27,c31,c5⟩:Op)) zUZ Z Z Z Z fun r32 hr32=>pq 1 Z (ns (zAH Z ?_ ?_)))
         ·exact sr (pq 1 Z (zAG (T:=tab) Z Z Z Z Z Z Z Z Z Z Z Z (pq 1 Z (ns rN))))
         ·exact zAB (zAK (zAA (zAC (pq 1 Z (zAI (T:=tab) Z Z Z Z fun i33 hi33=>pq 1 Z (zAE (zAW i33 ⟨Z,Z,Z,trivial⟩ ⟨Z,trivial⟩ Z)))))))
        ·refine pq 3 Z (zAE (zAA (zAZ Z ?_)))
         exact zAB (zAK (zAA (zAC (pq 1 Z (zAI (T:=tab) Z Z Z Z fun i34 hi34=>pq 1 Z (zAE (zAW i34 ⟨Z,Z,Z,trivial⟩ ⟨Z,trivial⟩ Z)))))))
       ·refine pq 3 Z (zAF (j:=94) Z ?_ ?_)
        ·refine pq 1 Z (zBZ (T:=tab) (s:=r6) Z Z Z Z Z Z Z fun b28 hb28=>pq 2 Z (ns (zAH Z ?_ ?_)))
         ·exact zAC (pq 2 Z (pc (zEv fu s1 at26) zUf Z Z Z Z fun r29 hr29=>pq 4 Z (zAG (T:=tab) Z Z Z Z Z Z Z Z Z Z Z Z (pq 1 Z (zAE (ps (hj6 (r29.2,r29.1))))))))
         ·exact zAB (ps (hj6 (at26,[])))
        ·refine pq 4 Z (zAE (zAA (zAZ Z ?_)))
         exact zAB (ps (hj6 (at26,[])))
      ·refine pq 3 Z (zAF (j:=80) Z ?_ ?_)
       ·refine pq 1 Z (zBZ (T:=tab) (s:=r6) Z Z Z Z Z Z Z fun b24 hb24=>pq 2 Z (ns (zAH Z ?_ ?_)))
        ·exact zAC (pq 2 Z (pc (zEv fu s1 at22) zUf Z Z Z Z fun r25 hr25=>pq 4 Z (zAG (T:=tab) Z Z Z Z Z Z Z Z Z Z Z Z (pq 1 Z (zAE (ps (hj5 (r25.2,r25.1))))))))
        ·exact zAB (ps (hj5 (at22,[])))
       ·refine pq 4 Z (zAE (zAA (zAZ Z ?_)))
        exact zAB (ps (hj5 (at22,[])))
     ·refine pq 3 Z (zAF (j:=64) Z ?_ ?_)
      ·refine pq 1 Z (zBZ (T:=tab) (s:=r6) Z Z Z Z Z Z Z fun b19 hb19=>pq 2 Z (ns (zAH Z ?_ ?_)))
       ·exact zAC (pq 3 Z (zBZ (T:=tab) (s:=r6) Z Z Z Z Z Z Z fun b20 hb20=>pc (zDZ fu s1 at17 b20) zQs Z Z Z Z fun r21 hr21=>pq 4 Z (zAG (T:=tab) Z Z Z Z Z Z Z Z Z Z Z Z (pq 1 Z (zAE (ps (hj4 (r21.2,r21.1))))))))
       ·exact zAB (ps (hj4 (at17,0)))
      ·refine pq 4 Z (zAE (zAA (zAZ Z ?_)))
       exact zAB (ps (hj4 (at17,0)))
    ·refine pq 3 Z (zAF (j:=48) Z ?_ ?_)
     ·refine pq 1 Z (zBZ (T:=tab) (s:=r6) Z Z Z Z Z Z Z fun b14 hb14=>pq 2 Z (ns (zAH Z ?_ ?_)))
      ·exact zAC (pq 3 Z (zBZ (T:=tab) (s:=r6) Z Z Z Z Z Z Z fun b15 hb15=>pc (zDZ fu s1 at12 b15) zQs Z Z Z Z fun r16 hr16=>pq 4 Z (zAG (T:=tab) Z Z Z Z Z Z Z Z Z Z Z Z (pq 1 Z (zAE (ps (hj3 (r16.2,r16.1))))))))
      ·exact zAB (ps (hj3 (at12,0)))
     ·refine pq 4 Z (zAE (zAA (zAZ Z ?_)))
      exact zAB (ps (hj3 (at12,0)))
   ·refine pq 3 Z (zAF (j:=32) Z ?_ ?_)
    ·refine pq 1 Z (zBZ (T:=tab) (s:=r6) Z Z Z Z Z Z Z fun b9 hb9=>pq 2 Z (ns (zAH Z ?_ ?_)))
     ·exact zAC (pq 3 Z (zBZ (T:=tab) (s:=r6) Z Z Z Z Z Z Z fun b10 hb10=>pc (zDZ fu s1 r8 b10) zQs Z Z Z Z fun r11 hr11=>pq 4 Z (zAG (T:=tab) Z Z Z Z Z Z Z Z Z Z Z Z (pq 1 Z (zAE (ps (hj2 (r11.2,r11.1))))))))
     ·exact zAB (ps (hj2 (r8,0)))
    ·refine pq 4 Z (zAE (zAA (zAZ Z ?_)))
     exact zAB (ps (hj2 (r8,0)))
  ·refine pq 4 Z (zAF (j:=17) Z ?_ ?_)
   ·refine pq 1 Z (zBZ (T:=tab) (s:=s1) Z Z Z Z Z Z Z fun b3 hb3=>pq 2 Z (ns (zAH Z ?_ ?_)))
    ·exact sr (pq 1 Z (zAG (T:=tab) Z Z Z Z Z Z Z Z Z Z Z Z (ns (zAC (pq 1 Z (zAE (ps (hj1 (1,true)))))))))
    ·exact zAB (ps (hj1 (0,false)))
   ·refine pq 4 Z (zAE (zAA (zAZ Z ?_)))
    exact zAB (ps (hj1 (0,false)))
 ·exact zAY Z (zAA (sr (zA4 (T:=tab) Z Z Z Z Z Z Z (zAG (T:=tab) Z Z Z Z Z Z Z Z Z Z Z Z (pq 1 Z (ns rN))))))
def zDg (fu:Nat) (t1:Instarref22_Text) (o2:Op):Option Instarref22_Text:=cnd (t1.To==0) (cnd t1.Bad (bnd (zBr 72 (([]:List Op).length+t1.S.Main.length)) fun _=>bnd (zBr 72 ((([]:List Op)++t1.S.Main).length+([o2]:List Op).length)) fun _=>some (⟨(⟨t1.S.Classes,((([]:List Op)++t1.S.Main)++[o2])⟩:Script),t1.To,true⟩:Instarref22_Text)) (bnd (zBr 72 (([]:List Op).length+t1.S.Main.length)) fun _=>bnd (zBr 72 ((([]:List Op)++t1.S.Main).length+([o2]:List Op).length)) fun _=>some (⟨(⟨t1.S.Classes,((([]:List Op)++t1.S.Main)++[o2])⟩:Script),t1.To,(decide (((t1.S.Main.length:Nat):Int)>=300))⟩:Instarref22_Text))) (bnd (rng .i64 (((t1.S.Classes.length:Nat):Int) - 1)) fun i3=>bnd (idx t1.S.Classes i3) fun y4=>cnd (t1.To==1) (cnd t1.Bad (bnd (zBr 72 (([]:List Op).length+y4.Peek.length)) fun _=>bnd (zBr 72 ((([]:List Op)++y4.Peek).length+([o2]:List Op).length)) fun _=>bnd (zA7 fu (⟨(⟨t1.S.Classes,t1.S.Main⟩:Script),t1.To,true⟩:Instarref22_Text) (⟨y4.Form,y4.Watch,((([]:List Op)++y4.Peek)++[o2]),y4.Make,y4.Hooks⟩:Class)) fun r11=>some r11) (bnd (zBr 72 (([]:List Op).length+y4.Peek.length)) fun _=>bnd (zBr 72 ((([]:List Op)++y4.Peek).length+([o2]:List Op).length)) fun _=>bnd (zA7 fu (⟨(⟨t1.S.Classes,t1.S.Main⟩:Script),t1.To,(decide (((y4.Peek.length:Nat):Int)>=60))⟩:Instarref22_Text) (⟨y4.Form,y4.Watch,((([]:List Op)++y4.Peek)++[o2]),y4.Make,y4.Hooks⟩:Class)) fun r12=>some r12)) (cnd (t1.To==2) (cnd t1.Bad (bnd (zBr 72 (([]:List Op).length+y4.Make.length)) fun _=>bnd (zBr 72 ((([]:List Op)++y4.Make).length+([o2]:List Op).length)) fun _=>bnd (zA7 fu (⟨(⟨t1.S.Classes,t1.S.Main⟩:Script),t1.To,true⟩:Instarref22_Text) (⟨y4.Form,y4.Watch,y4.Peek,((([]:List Op)++y4.Make)++[o2]),y4.Hooks⟩:Class)) fun r13=>some r13) (bnd (zBr 72 (([]:List Op).length+y4.Make.length)) fun _=>bnd (zBr 72 ((([]:List Op)++y4.Make).length+([o2]:List Op).length)) fun _=>bnd (zA7 fu (⟨(⟨t1.S.Classes,t1.S.Main⟩:Script),t1.To,(decide (((y4.Make.length:Nat):Int)>=60))⟩:Instarref22_Text) (⟨y4.Form,y4.Watch,y4.Peek,((([]:List Op)++y4.Make)++[o2]),y4.Hooks⟩:Class)) fun r14=>some r14)) (bnd (zBr 32 (([]:List Hook).length+y4.Hooks.length)) fun _=>bnd (rng .i64 ((((([]:List Hook)++y4.Hooks).length:Nat):Int) - 1)) fun i5=>cnd t1.Bad (bnd (idx (([]:List Hook)++y4.Hooks) i5) fun y7=>bnd (zBr 72 (([]:List Op).length+y7.Do.length)) fun _=>bnd (zBr 72 ((([]:List Op)++y7.Do).length+([o2]:List Op).length)) fun _=>bnd (idx (([]:List Hook)++y4.Hooks) i5) fun y8=>bnd (zA7 fu (⟨(⟨t1.S.Classes,t1.S.Main⟩:Script),t1.To,true⟩:Instarref22_Text) (⟨y4.Form,y4.Watch,y4.Peek,y4.Make,((([]:List Hook)++y4.Hooks).set (i5).toNat (⟨y8.Kind,((([]:List Op)++y7.Do)++[o2])⟩:Hook))⟩:Class)) fun r15=>some r15) (bnd (idx (([]:List Hook)++y4.Hooks) i5) fun y6=>bnd (idx (([]:List Hook)++y4.Hooks) i5) fun y9=>bnd (zBr 72 (([]:List Op).length+y9.Do.length)) fun _=>bnd (zBr 72 ((([]:List Op)++y9.Do).length+([o2]:List Op).length)) fun _=>bnd (idx (([]:List Hook)++y4.Hooks) i5) fun y10=>bnd (zA7 fu (⟨(⟨t1.S.Classes,t1.S.Main⟩:Script),t1.To,(decide (((y6.Do.length:Nat):Int)>=60))⟩:Instarref22_Text) (⟨y4.Form,y4.Watch,y4.Peek,y4.Make,((([]:List Hook)++y4.Hooks).set (i5).toNat (⟨y10.Kind,((([]:List Op)++y9.Do)++[o2])⟩:Hook))⟩:Class)) fun r16=>some r16))))
theorem zIS (fu:Nat) (t1:Instarref22_Text) (o2:Op):∀r,zDg fu t1 o2=some r->DC zAf Tryz.prog 44 [.agg (zC1 t1),.agg (cOp o2)] (.agg (zC1 r)):=by
 refine fcI Tryz.func44 Z fun w0 X X0 σ0 _=>sr (zDl  2 Z Z Z Z Z Z Z Z Z Z (zDl  3 Z Z Z Z Z Z Z Z Z Z (zAs (T:=tab) 4 Z Z Z Z Z Z Z Z Z (ns (zAD (sr (pq 3 Z (ns (zAH Z ?_ ?_)))))))))
 ·refine sr (pq 3 Z (zAF (j:=13) Z ?_ ?_))
  ·refine pq 7 Z (zAG (T:=tab) Z Z Z Z Z Z Z Z Z Z Z Z (ns (zAD (su [(2,.loc 2 0),(3,.loc 3 0),(4,.loc 4 0)] [(4,.box 87 [.v (.slice none 0 0),.v (.slice none 0 0),Y 0,O false]),(3,.box 43 [Y o2.Kind,Y o2.A,Y o2.B,Y o2.C,D o2.S,D o2.T,O o2.Must]),(2,.box 87 [.sl 5 false (t1.S.Classes.map zAM),.sl 7 false (t1.S.Main.map cOp),Y t1.To,O true])] (zBB [0,0,2,6,15,0,32,127,255,511,1023] mixed (by kernel_rfl) (by kernel_rfl) Z Z (vs [] [42,43] [21] [] [] [(21,.own 21)] [(21,.arr 43 7 (([]:List Op).map cOp))] Z Z (fun w0 X X0 σ0 _=>by refine zBu (T:=tab) (rows:=([]:List Op).map cOp) 21 Z Z Z Z Z Z Z Z Z Z Z Z Z Z ?_;exact py) ?_))))))
   refine ve [4] [44] [2] [(22,.loc 2 0)] ?_
   refine ve [44] [46] [2] [(23,.loc 2 1)] ?_
   refine vf [5,46] [48] [] [2] [2] [(24,.sl 7 false (t1.S.Main.map cOp))] [(2,.box 87 [.sl 5 false (t1.S.Classes.map zAM),.sl 7 false (t1.S.Main.map cOp),Y t1.To,O true])] ?_
   refine vt (zBr 72 (([]:List Op).length+t1.S.Main.length)) [(50,[21]),(42,[]),(43,[])] [42,43,48] [50,42,43] [21] [] [] (fun _=>[(25,.own 21)]) (fun _=>[(21,.arr 43 7 ((([]:List Op)++t1.S.Main).map cOp))]) Z Z (fun _=>Z) (fun w0 X X0 σ0 _=>by refine zAv (T:=tab) cOp ([]:List Op) t1.S.Main Z Z Z Z Z Z Z Z Z Z Z Z Z Z (zDk _) Z Z Z Z Z ?_;exact pz) fun _ h0=>?_
   refine vf [6,7] [52] [] [3] [3] [(26,.agg (cOp o2))] [(3,.box 43 [Y o2.Kind,Y o2.A,Y o2.B,Y o2.C,D o2.S,D o2.T,O o2.Must])] ?_
   refine vs [52] [54,55] [27] [] [] [(27,.own 27)] [(27,.arr 43 7 ([o2].map cOp))] Z Z (fun w0 X X0 σ0 _=>by refine zBu (T:=tab) (rows:=[o2].map cOp) 27 Z Z Z Z Z Z Z Z Z Z Z Z Z Z ?_;exact py) ?_
   refine vt (zBr 72 ((([]:List Op)++t1.S.Main).length+([o2]:List Op).length)) [(56,[21]),(50,[]),(43,[]),(42,[])] [42,43,50,54,55] [56,50,43,42] [21] [27] [27] (fun _=>[(28,.own 21)]) (fun _=>[(21,.arr 43 7 (((([]:List Op)++t1.S.Main)++[o2]).map cOp)),(27,.arr 43 7 ([o2].map cOp))]) Z Z (fun _=>Z) (fun w0 X X0 σ0 _=>by refine zAv (T:=tab) cOp (([]:List Op)++t1.S.Main) ([o2]:List Op) Z Z Z Z Z Z Z Z Z Z Z Z Z Z (zDk _) Z Z Z Z Z ?_;exact pz) fun _ h0=>?_
   refine ve [4] [58] [2] [(29,.loc 2 0)] ?_
   refine ve [58] [60] [2] [(30,.loc 2 1)] ?_
   refine vs [5,43,56,60] [5] [] [2,21] [21] [] [(2,.box 87 [.sl 5 false (t1.S.Classes.map zAM),.own 21,Y t1.To,O true]),(21,.arr 43 7 (((([]:List Op)++t1.S.Main)++[o2]).map cOp))] Z Z (fun w0 X X0 σ0 _=>by refine zAG (T:=tab) Z Z Z Z Z Z Z Z Z Z Z Z ?_;exact py) ?_
   exact zBf Z Z (zAA (sr (pq 1 Z (zAG (T:=tab) Z Z Z Z Z Z Z Z Z Z Z Z (ns (zDt 21 Z Z Z rN))))))
  ·refine pq 3 Z (zAm (T:=tab) cOp t1.S.Main Z Z Z Z Z Z Z Z (pq 3 Z (zAG (T:=tab) Z Z Z Z Z Z Z Z Z Z Z Z (ns (zAD (su [(2,.loc 2 0),(3,.loc 3 0),(4,.loc 4 0)] [(4,.box 87 [.v (.slice none 0 0),.v (.slice none 0 0),Y 0,O false]),(3,.box 43 [Y o2.Kind,Y o2.A,Y o2.B,Y o2.C,D o2.S,D o2.T,O o2.Must]),(2,.box 87 [.sl 5 false (t1.S.Classes.map zAM),.sl 7 false (t1.S.Main.map cOp),Y t1.To,O (decide (((t1.S.Main.length:Nat):Int)>=300))])] (zBB [0,0,2,6,15,0,32,127,255,511,1023] mixed (by kernel_rfl) (by kernel_rfl) Z Z (vs [] [42,43] [21] [] [] [(21,.own 21)] [(21,.arr 43 7 (([]:List Op).map cOp))] Z Z (fun w0 X X0 σ0 _=>by refine zBu (T:=tab) (rows:=([]:List Op).map cOp) 21 Z Z Z Z Z Z Z Z Z Z Z Z Z Z ?_;exact py) ?_))))))))
   refine ve [4] [44] [2] [(22,.loc 2 0)] ?_
   refine ve [44] [46] [2] [(23,.loc 2 1)] ?_
   refine vf [5,46] [48] [] [2] [2] [(24,.sl 7 false (t1.S.Main.map cOp))] [(2,.box 87 [.sl 5 false (t1.S.Classes.map zAM),.sl 7 false (t1.S.Main.map cOp),Y t1.To,O (decide (((t1.S.Main.length:Nat):Int)>=300))])] ?_
   refine vt (zBr 72 (([]:List Op).length+t1.S.Main.length)) [(50,[21]),(42,[]),(43,[])] [42,43,48] [50,42,43] [21] [] [] (fun _=>[(25,.own 21)]) (fun _=>[(21,.arr 43 7 ((([]:List Op)++t1.S.Main).map cOp))]) Z Z (fun _=>Z) (fun w0 X X0 σ0 _=>by refine zAv (T:=tab) cOp ([]:List Op) t1.S.Main Z Z Z Z Z Z Z Z Z Z Z Z Z Z (zDk _) Z Z Z Z Z ?_;exact pz) fun _ h0=>?_
   refine vf [6,7] [52] [] [3] [3] [(26,.agg (cOp o2))] [(3,.box 43 [Y o2.Kind,Y o2.A,Y o2.B,Y o2.C,D o2.S,D o2.T,O o2.Must])] ?_
   refine vs [52] [54,55] [27] [] [] [(27,.own 27)] [(27,.arr 43 7 ([o2].map cOp))] Z Z (fun w0 X X0 σ0 _=>by refine zBu (T:=tab) (rows:=[o2].map cOp) 27 Z Z Z Z Z Z Z Z Z Z Z Z Z Z ?_;exact py) ?_
   refine vt (zBr 72 ((([]:List Op)++t1.S.Main).length+([o2]:List Op).length)) [(56,[21]),(50,[]),(43,[]),(42,[])] [42,43,50,54,55] [56,50,43,42] [21] [27] [27] (fun _=>[(28,.own 21)]) (fun _=>[(21,.arr 43 7 (((([]:List Op)++t1.S.Main)++[o2]).map cOp)),(27,.arr 43 7 ([o2].map cOp))]) Z Z (fun _=>Z) (fun w0 X X0 σ0 _=>by refine zAv (T:=tab) cOp (([]:List Op)++t1.S.Main) ([o2]:List Op) Z Z Z Z Z Z Z Z Z Z Z Z Z Z (zDk _) Z Z Z Z Z ?_;exact pz) fun _ h0=>?_
   refine ve [4] [58] [2] [(29,.loc 2 0)] ?_
   refine ve [58] [60] [2] [(30,.loc 2 1)] ?_
   refine vs [5,43,56,60] [5] [] [2,21] [21] [] [(2,.box 87 [.sl 5 false (t1.S.Classes.map zAM),.own 21,Y t1.To,O (decide (((t1.S.Main.length:Nat):Int)>=300))]),(21,.arr 43 7 (((([]:List Op)++t1.S.Main)++[o2]).map cOp))] Z Z (fun w0 X X0 σ0 _=>by refine zAG (T:=tab) Z Z Z Z Z Z Z Z Z Z Z Z ?_;exact py) ?_
   exact zBf Z Z (zAA (sr (pq 1 Z (zAG (T:=tab) Z Z Z Z Z Z Z Z Z Z Z Z (ns (zDt 21 Z Z Z rN))))))
 ·refine zAB (zAA (sr (pq 6 Z (zAm (T:=tab) zAM t1.S.Classes Z Z Z Z Z Z Z Z (zAI (T:=tab) Z Z Z Z fun i3 hi3=>zCN (T:=tab) zAM t1.S.Classes Z Z Z Z Z Z Z fun y4 hy4=>pq 1 Z (zAs (T:=tab) 5 Z Z Z Z Z Z Z Z Z (zAG (T:=tab) Z Z Z Z Z Z Z Z Z Z Z Z (ns (zAD (sr (pq 2 Z (ns (zAL (sr (pq 2 Z (ns (zAH Z ?_ ?_)))))))))))))))))
  ·refine sr (pq 3 Z (zAF (j:=83) Z ?_ ?_))
   ·refine pq 6 Z (zAG (T:=tab) Z Z Z Z Z Z Z Z Z Z Z Z (ns (su [(2,.loc 2 0),(3,.loc 3 0),(4,.loc 4 0),(5,.loc 5 0)] [(5,.box 51 [O y4.Form,.sl 1 false (y4.Watch.map cStr),.sl 7 false (y4.Peek.map cOp),.sl 7 false (y4.Make.map cOp),.sl 2 false (y4.Hooks.map zAP)]),(4,.box 87 [.v (.slice none 0 0),.v (.slice none 0 0),Y 0,O false]),(3,.box 43 [Y o2.Kind,Y o2.A,Y o2.B,Y o2.C,D o2.S,D o2.T,O o2.Must]),(2,.box 87 [.sl 5 false (t1.S.Classes.map zAM),.sl 7 false (t1.S.Main.map cOp),Y t1.To,O true])] (zBB [0,0,2,7,0,16,63,127,255] mixed (by kernel_rfl) (by kernel_rfl) Z Z (vs [] [180,181] [90] [] [] [(90,.own 90)] [(90,.arr 43 7 (([]:List Op).map cOp))] Z Z (fun w0 X X0 σ0 _=>by refine zBu (T:=tab) (rows:=([]:List Op).map cOp) 90 Z Z Z Z Z Z Z Z Z Z Z Z Z Z ?_;exact py) ?_)))))
    refine ve [10] [182] [5] [(91,.loc 5 2)] ?_
    refine vf [11,182] [184] [] [5] [5] [(92,.sl 7 false (y4.Peek.map cOp))] [(5,.box 51 [O y4.Form,.sl 1 false (y4.Watch.map cStr),.sl 7 false (y4.Peek.map cOp),.sl 7 false (y4.Make.map cOp),.sl 2 false (y4.Hooks.map zAP)])] ?_
    refine vt (zBr 72 (([]:List Op).length+y4.Peek.length)) [(186,[90]),(180,[]),(181,[])] [180,181,184] [186,180,181] [90] [] [] (fun _=>[(93,.own 90)]) (fun _=>[(90,.arr 43 7 ((([]:List Op)++y4.Peek).map cOp))]) Z Z (fun _=>Z) (fun w0 X X0 σ0 _=>by refine zAv (T:=tab) cOp ([]:List Op) y4.Peek Z Z Z Z Z Z Z Z Z Z Z Z Z Z (zDk _) Z Z Z Z Z ?_;exact pz) fun _ h0=>?_
    refine vf [6,7] [188] [] [3] [3] [(94,.agg (cOp o2))] [(3,.box 43 [Y o2.Kind,Y o2.A,Y o2.B,Y o2.C,D o2.S,D o2.T,O o2.Must])] ?_
    refine vs [188] [190,191] [95] [] [] [(95,.own 95)] [(95,.arr 43 7 ([o2].map cOp))] Z Z (fun w0 X X0 σ0 _=>by refine zBu (T:=tab) (rows:=[o2].map cOp) 95 Z Z Z Z Z Z Z Z Z Z Z Z Z Z ?_;exact py) ?_
    refine vt (zBr 72 ((([]:List Op)++y4.Peek).length+([o2]:List Op).length)) [(192,[90]),(186,[]),(181,[]),(180,[])] [180,181,186,190,191] [192,186,181,180] [90] [95] [95] (fun _=>[(96,.own 90)]) (fun _=>[(90,.arr 43 7 (((([]:List Op)++y4.Peek)++[o2]).map cOp)),(95,.arr 43 7 ([o2].map cOp))]) Z Z (fun _=>Z) (fun w0 X X0 σ0 _=>by refine zAv (T:=tab) cOp (([]:List Op)++y4.Peek) ([o2]:List Op) Z Z Z Z Z Z Z Z Z Z Z Z Z Z (zDk _) Z Z Z Z Z ?_;exact pz) fun _ h0=>?_
    refine ve [10] [194] [5] [(97,.loc 5 2)] ?_
    refine vs [11,181,192,194] [11] [] [5,90] [90] [] [(5,.box 51 [O y4.Form,.sl 1 false (y4.Watch.map cStr),.own 90,.sl 7 false (y4.Make.map cOp),.sl 2 false (y4.Hooks.map zAP)]),(90,.arr 43 7 (((([]:List Op)++y4.Peek)++[o2]).map cOp))] Z Z (fun w0 X X0 σ0 _=>by refine zAG (T:=tab) Z Z Z Z Z Z Z Z Z Z Z Z ?_;exact py) ?_
    exact zBf Z Z (zAK (zAA (sr (pq 2 Z (zCr 90 Z Z Z (pc (zBe fu (⟨(⟨t1.S.Classes,t1.S.Main⟩:Script),t1.To,true⟩:Instarref22_Text) (⟨y4.Form,y4.Watch,((([]:List Op)++y4.Peek)++[o2]),y4.Make,y4.Hooks⟩:Class)) zJH Z Z Z Z fun r11 hr11=>zAG (T:=tab) Z Z Z Z Z Z Z Z Z Z Z Z (ns rN)))))))
   ·refine pq 2 Z (zAm (T:=tab) cOp y4.Peek Z Z Z Z Z Z Z Z (pq 3 Z (zAG (T:=tab) Z Z Z Z Z Z Z Z Z Z Z Z (ns (su [(2,.loc 2 0),(3,.loc 3 0),(4,.loc 4 0),(5,.loc 5 0)] [(5,.box 51 [O y4.Form,.sl 1 false (y4.Watch.map cStr),.sl 7 false (y4.Peek.map cOp),.sl 7 false (y4.Make.map cOp),.sl 2 false (y4.Hooks.map zAP)]),(4,.box 87 [.v (.slice none 0 0),.v (.slice none 0 0),Y 0,O false]),(3,.box 43 [Y o2.Kind,Y o2.A,Y o2.B,Y o2.C,D o2.S,D o2.T,O o2.Must]),(2,.box 87 [.sl 5 false (t1.S.Classes.map zAM),.sl 7 false (t1.S.Main.map cOp),Y t1.To,O (decide (((y4.Peek.length:Nat):Int)>=60))])] (zBB [0,0,2,7,0,16,63,127,255] mixed (by kernel_rfl) (by kernel_rfl) Z Z (vs [] [180,181] [90] [] [] [(90,.own 90)] [(90,.arr 43 7 (([]:List Op).map cOp))] Z Z (fun w0 X X0 σ0 _=>by refine zBu (T:=tab) (rows:=([]:List Op).map cOp) 90 Z Z Z Z Z Z Z Z Z Z Z Z Z Z ?_;exact py) ?_)))))))
    refine ve [10] [182] [5] [(91,.loc 5 2)] ?_
    refine vf [11,182] [184] [] [5] [5] [(92,.sl 7 false (y4.Peek.map cOp))] [(5,.box 51 [O y4.Form,.sl 1 false (y4.Watch.map cStr),.sl 7 false (y4.Peek.map cOp),.sl 7 false (y4.Make.map cOp),.sl 2 false (y4.Hooks.map zAP)])] ?_
    refine vt (zBr 72 (([]:List Op).length+y4.Peek.length)) [(186,[90]),(180,[]),(181,[])] [180,181,184] [186,180,181] [90] [] [] (fun _=>[(93,.own 90)]) (fun _=>[(90,.arr 43 7 ((([]:List Op)++y4.Peek).map cOp))]) Z Z (fun _=>Z) (fun w0 X X0 σ0 _=>by refine zAv (T:=tab) cOp ([]:List Op) y4.Peek Z Z Z Z Z Z Z Z Z Z Z Z Z Z (zDk _) Z Z Z Z Z ?_;exact pz) fun _ h0=>?_
    refine vf [6,7] [188] [] [3] [3] [(94,.agg (cOp o2))] [(3,.box 43 [Y o2.Kind,Y o2.A,Y o2.B,Y o2.C,D o2.S,D o2.T,O o2.Must])] ?_
    refine vs [188] [190,191] [95] [] [] [(95,.own 95)] [(95,.arr 43 7 ([o2].map cOp))] Z Z (fun w0 X X0 σ0 _=>by refine zBu (T:=tab) (rows:=[o2].map cOp) 95 Z Z Z Z Z Z Z Z Z Z Z Z Z Z ?_;exact py) ?_
    refine vt (zBr 72 ((([]:List Op)++y4.Peek).length+([o2]:List Op).length)) [(192,[90]),(186,[]),(181,[]),(180,[])] [180,181,186,190,191] [192,186,181,180] [90] [95] [95] (fun _=>[(96,.own 90)]) (fun _=>[(90,.arr 43 7 (((([]:List Op)++y4.Peek)++[o2]).map cOp)),(95,.arr 43 7 ([o2].map cOp))]) Z Z (fun _=>Z) (fun w0 X X0 σ0 _=>by refine zAv (T:=tab) cOp (([]:List Op)++y4.Peek) ([o2]:List Op) Z Z Z Z Z Z Z Z Z Z Z Z Z Z (zDk _) Z Z Z Z Z ?_;exact pz) fun _ h0=>?_
    refine ve [10] [194] [5] [(97,.loc 5 2)] ?_
    refine vs [11,181,192,194] [11] [] [5,90] [90] [] [(5,.box 51 [O y4.Form,.sl 1 false (y4.Watch.map cStr),.own 90,.sl 7 false (y4.Make.map cOp),.sl 2 false (y4.Hooks.map zAP)]),(90,.arr 43 7 (((([]:List Op)++y4.Peek)++[o2]).map cOp))] Z Z (fun w0 X X0 σ0 _=>by refine zAG (T:=tab) Z Z Z Z Z Z Z Z Z Z Z Z ?_;exact py) ?_
    exact zBf Z Z (zAK (zAA (sr (pq 2 Z (zCr 90 Z Z Z (pc (zBe fu (⟨(⟨t1.S.Classes,t1.S.Main⟩:Script),t1.To,(decide (((y4.Peek.length:Nat):Int)>=60))⟩:Instarref22_Text) (⟨y4.Form,y4.Watch,((([]:List Op)++y4.Peek)++[o2]),y4.Make,y4.Hooks⟩:Class)) zJH Z Z Z Z fun r12 hr12=>zAG (T:=tab) Z Z Z Z Z Z Z Z Z Z Z Z (ns rN)))))))
  ·refine sr (pq 2 Z (ns (zAH Z ?_ ?_)))
   ·refine sr (pq 3 Z (zAF (j:=102) Z ?_ ?_))
    ·refine pq 6 Z (zAG (T:=tab) Z Z Z Z Z Z Z Z Z Z Z Z (ns (su [(2,.loc 2 0),(3,.loc 3 0),(4,.loc 4 0),(5,.loc 5 0)] [(5,.box 51 [O y4.Form,.sl 1 false (y4.Watch.map cStr),.sl 7 false (y4.Peek.map cOp),.sl 7 false (y4.Make.map cOp),.sl 2 false (y4.Hooks.map zAP)]),(4,.box 87 [.v (.slice none 0 0),.v (.slice none 0 0),Y 0,O false]),(3,.box 43 [Y o2.Kind,Y o2.A,Y o2.B,Y o2.C,D o2.S,D o2.T,O o2.Must]),(2,.box 87 [.sl 5 false (t1.S.Classes.map zAM),.sl 7 false (t1.S.Main.map cOp),Y t1.To,O true])] (zBB [0,0,2,7,0,16,63,127,255] mixed (by kernel_rfl) (by kernel_rfl) Z Z (vs [] [218,219] [109] [] [] [(109,.own 109)] [(109,.arr 43 7 (([]:List Op).map cOp))] Z Z (fun w0 X X0 σ0 _=>by refine zBu (T:=tab) (rows:=([]:List Op).map cOp) 109 Z Z Z Z Z Z Z Z Z Z Z Z Z Z ?_;exact py) ?_)))))
     refine ve [10] [220] [5] [(110,.loc 5 3)] ?_
     refine vf [11,220] [222] [] [5] [5] [(111,.sl 7 false (y4.Make.map cOp))] [(5,.box 51 [O y4.Form,.sl 1 false (y4.Watch.map cStr),.sl 7 false (y4.Peek.map cOp),.sl 7 false (y4.Make.map cOp),.sl 2 false (y4.Hooks.map zAP)])] ?_
     refine vt (zBr 72 (([]:List Op).length+y4.Make.length)) [(224,[109]),(218,[]),(219,[])] [218,219,222] [224,218,219] [109] [] [] (fun _=>[(112,.own 109)]) (fun _=>[(109,.arr 43 7 ((([]:List Op)++y4.Make).map cOp))]) Z Z (fun _=>Z) (fun w0 X X0 σ0 _=>by refine zAv (T:=tab) cOp ([]:List Op) y4.Make Z Z Z Z Z Z Z Z Z Z Z Z Z Z (zDk _) Z Z Z Z Z ?_;exact pz) fun _ h0=>?_
     refine vf [6,7] [226] [] [3] [3] [(113,.agg (cOp o2))] [(3,.box 43 [Y o2.Kind,Y o2.A,Y o2.B,Y o2.C,D o2.S,D o2.T,O o2.Must])] ?_
     refine vs [226] [228,229] [114] [] [] [(114,.own 114)] [(114,.arr 43 7 ([o2].map cOp))] Z Z (fun w0 X X0 σ0 _=>by refine zBu (T:=tab) (rows:=[o2].map cOp) 114 Z Z Z Z Z Z Z Z Z Z Z Z Z Z ?_;exact py) ?_
     refine vt (zBr 72 ((([]:List Op)++y4.Make).length+([o2]:List Op).length)) [(230,[109]),(224,[]),(219,[]),(218,[])] [218,219,224,228,229] [230,224,219,218] [109] [114] [114] (fun _=>[(115,.own 109)]) (fun _=>[(109,.arr 43 7 (((([]:List Op)++y4.Make)++[o2]).map cOp)),(114,.arr 43 7 ([o2].map cOp))]) Z Z (fun _=>Z) (fun w0 X X0 σ0 _=>by refine zAv (T:=tab) cOp (([]:List Op)++y4.Make) ([o2]:List Op) Z Z Z Z Z Z Z Z Z Z Z Z Z Z (zDk _) Z Z Z Z Z ?_;exact pz) fun _ h0=>?_
     refine ve [10] [232] [5] [(116,.loc 5 3)] ?_
     refine vs [11,219,230,232] [11] [] [5,109] [109] [] [(5,.box 51 [O y4.Form,.sl 1 false (y4.Watch.map cStr),.sl 7 false (y4.Peek.map cOp),.own 109,.sl 2 false (y4.Hooks.map zAP)]),(109,.arr 43 7 (((([]:List Op)++y4.Make)++[o2]).map cOp))] Z Z (fun w0 X X0 σ0 _=>by refine zAG (T:=tab) Z Z Z Z Z Z Z Z Z Z Z Z ?_;exact py) ?_
     exact zBf Z Z (zAK (zAA (sr (pq 2 Z (zCr 109 Z Z Z (pc (zBe fu (⟨(⟨t1.S.Classes,t1.S.Main⟩:Script),t1.To,true⟩:Instarref22_Text) (⟨y4.Form,y4.Watch,y4.Peek,((([]:List Op)++y4.Make)++[o2]),y4.Hooks⟩:Class)) zJH Z Z Z Z fun r13 hr13=>zAG (T:=tab) Z Z Z Z Z Z Z Z Z Z Z Z (ns rN)))))))
    ·refine pq 2 Z (zAm (T:=tab) cOp y4.Make Z Z Z Z Z Z Z Z (pq 3 Z (zAG (T:=tab) Z Z Z Z Z Z Z Z Z Z Z Z (ns (su [(2,.loc 2 0),(3,.loc 3 0),(4,.loc 4 0),(5,.loc 5 0)] [(5,.box 51 [O y4.Form,.sl 1 false (y4.Watch.map cStr),.sl 7 false (y4.Peek.map cOp),.sl 7 false (y4.Make.map cOp),.sl 2 false (y4.Hooks.map zAP)]),(4,.box 87 [.v (.slice none 0 0),.v (.slice none 0 0),Y 0,O false]),(3,.box 43 [Y o2.Kind,Y o2.A,Y o2.B,Y o2.C,D o2.S,D o2.T,O o2.Must]),(2,.box 87 [.sl 5 false (t1.S.Classes.map zAM),.sl 7 false (t1.S.Main.map cOp),Y t1.To,O (decide (((y4.Make.length:Nat):Int)>=60))])] (zBB [0,0,2,7,0,16,63,127,255] mixed (by kernel_rfl) (by kernel_rfl) Z Z (vs [] [218,219] [109] [] [] [(109,.own 109)] [(109,.arr 43 7 (([]:List Op).map cOp))] Z Z (fun w0 X X0 σ0 _=>by refine zBu (T:=tab) (rows:=([]:List Op).map cOp) 109 Z Z Z Z Z Z Z Z Z Z Z Z Z Z ?_;exact py) ?_)))))))
     refine ve [10] [220] [5] [(110,.loc 5 3)] ?_
     refine vf [11,220] [222] [] [5] [5] [(111,.sl 7 false (y4.Make.map cOp))] [(5,.box 51 [O y4.Form,.sl 1 false (y4.Watch.map cStr),.sl 7 false (y4.Peek.map cOp),.sl 7 false (y4.Make.map cOp),.sl 2 false (y4.Hooks.map zAP)])] ?_
     refine vt (zBr 72 (([]:List Op).length+y4.Make.length)) [(224,[109]),(218,[]),(219,[])] [218,219,222] [224,218,219] [109] [] [] (fun _=>[(112,.own 109)]) (fun _=>[(109,.arr 43 7 ((([]:List Op)++y4.Make).map cOp))]) Z Z (fun _=>Z) (fun w0 X X0 σ0 _=>by refine zAv (T:=tab) cOp ([]:List Op) y4.Make Z Z Z Z Z Z Z Z Z Z Z Z Z Z (zDk _) Z Z Z Z Z ?_;exact pz) fun _ h0=>?_
     refine vf [6,7] [226] [] [3] [3] [(113,.agg (cOp o2))] [(3,.box 43 [Y o2.Kind,Y o2.A,Y o2.B,Y o2.C,D o2.S,D o2.T,O o2.Must])] ?_
     refine vs [226] [228,229] [114] [] [] [(114,.own 114)] [(114,.arr 43 7 ([o2].map cOp))] Z Z (fun w0 X X0 σ0 _=>by refine zBu (T:=tab) (rows:=[o2].map cOp) 114 Z Z Z Z Z Z Z Z Z Z Z Z Z Z ?_;exact py) ?_
     refine vt (zBr 72 ((([]:List Op)++y4.Make).length+([o2]:List Op).length)) [(230,[109]),(224,[]),(219,[]),(218,[])] [218,219,224,228,229] [230,224,219,218] [109] [114] [114] (fun _=>[(115,.own 109)]) (fun _=>[(109,.arr 43 7 (((([]:List Op)++y4.Make)++[o2]).map cOp)),(114,.arr 43 7 ([o2].map cOp))]) Z Z (fun _=>Z) (fun w0 X X0 σ0 _=>by refine zAv (T:=tab) cOp (([]:List Op)++y4.Make) ([o2]:List Op) Z Z Z Z Z Z Z Z Z Z Z Z Z Z (zDk _) Z Z Z Z Z ?_;exact pz) fun _ h0=>?_
     refine ve [10] [232] [5] [(116,.loc 5 3)] ?_
     refine vs [11,219,230,232] [11] [] [5,109] [109] [] [(5,.box 51 [O y4.Form,.sl 1 false (y4.Watch.map cStr),.sl 7 false (y4.Peek.map cOp),.own 109,.sl 2 false (y4.Hooks.map zAP)]),(109,.arr 43 7 (((([]:List Op)++y4.Make)++[o2]).map cOp))] Z Z (fun w0 X X0 σ0 _=>by refine zAG (T:=tab) Z Z Z Z Z Z Z Z Z Z Z Z ?_;exact py) ?_
     exact zBf Z Z (zAK (zAA (sr (pq 2 Z (zCr 109 Z Z Z (pc (zBe fu (⟨(⟨t1.S.Classes,t1.S.Main⟩:Script),t1.To,(decide (((y4.Make.length:Nat):Int)>=60))⟩:Instarref22_Text) (⟨y4.Form,y4.Watch,y4.Peek,((([]:List Op)++y4.Make)++[o2]),y4.Hooks⟩:Class)) zJH Z Z Z Z fun r14 hr14=>zAG (T:=tab) Z Z Z Z Z Z Z Z Z Z Z Z (ns rN)))))))
   ·refine sr (zBu (T:=tab) (rows:=([]:List Hook).map zAP) 44 Z Z Z Z Z Z Z Z Z Z Z Z Z Z (pq 2 Z (zAv (T:=tab) zAP ([]:List Hook) y4.Hooks Z Z Z Z Z Z Z Z Z Z Z Z Z Z (zKF _) Z Z Z Z Z (pq 1 Z (ns (sr (pq 1 Z (zDK (T:=tab) zAP (([]:List Hook)++y4.Hooks) Z Z Z Z Z Z Z Z Z (zAI (T:=tab) Z Z Z Z fun i5 hi5=>pq 1 Z (ns (sr (pq 3 Z (zAF (j:=53) Z ?_ ?_)))))))))))))
    ·refine pq 9 Z (zAG (T:=tab) Z Z Z Z Z Z Z Z Z Z Z Z (ns (zAD (su [(2,.loc 2 0),(3,.loc 3 0),(4,.loc 4 0),(5,.loc 5 0),(6,.own 44),(7,Y i5)] [(44,.arr 54 2 ((([]:List Hook)++y4.Hooks).map zAP)),(5,.box 51 [O y4.Form,.sl 1 false (y4.Watch.map cStr),.sl 7 false (y4.Peek.map cOp),.sl 7 false (y4.Make.map cOp),.sl 2 false (y4.Hooks.map zAP)]),(4,.box 87 [.v (.slice none 0 0),.v (.slice none 0 0),Y 0,O false]),(3,.box 43 [Y o2.Kind,Y o2.A,Y o2.B,Y o2.C,D o2.S,D o2.T,O o2.Must]),(2,.box 87 [.sl 5 false (t1.S.Classes.map zAM),.sl 7 false (t1.S.Main.map cOp),Y t1.To,O true])] (zBB [0,0,0,0,0,24,56,120,252,0,512,2044,4095,8191,16383] mixed (by kernel_rfl) (by kernel_rfl) Z Z (ve [12] [126] [44] [(63,.own 44)] ?_))))))
     refine ve [14] [128] [] [(64,Y i5)] ?_
     refine vs [] [130,131] [65] [] [] [(65,.own 65)] [(65,.arr 43 7 (([]:List Op).map cOp))] Z Z (fun w0 X X0 σ0 _=>by refine zBu (T:=tab) (rows:=([]:List Op).map cOp) 65 Z Z Z Z Z Z Z Z Z Z Z Z Z Z ?_;exact py) ?_
     refine ve [12] [132] [44] [(66,.own 44)] ?_
     refine ve [14] [134] [] [(67,Y i5)] ?_
     refine vt (idx (([]:List Hook)++y4.Hooks) i5) [(136,[44])] [89,132,134] [136] [] [44] [44] (fun y7=>[(68,.ela 44 2 (i5).toNat 0)]) (fun y7=>[(44,.arr 54 2 ((([]:List Hook)++y4.Hooks).map zAP))]) Z Z (fun _=>Z) (fun w0 X X0 σ0 _=>by refine zEr (T:=tab) zAP (([]:List Hook)++y4.Hooks) Z Z Z Z Z Z Z Z fun y7 hy7=>?_;exact pz) fun y7 hy7=>?_
     refine ve [136] [138] [44] [(69,.ela 44 2 (i5).toNat 1)] ?_
     refine vs [89,138] [140] [] [44] [44] [(70,.sl 7 false (y7.Do.map cOp))] [(44,.arr 54 2 ((([]:List Hook)++y4.Hooks).map zAP))] Z Z (fun w0 X X0 σ0 _=>by refine zG3 (T:=tab) zAP (([]:List Hook)++y4.Hooks) y7 (zJK hy7) Z Z Z Z Z Z Z Z ?_;exact py) ?_
     refine vt (zBr 72 (([]:List Op).length+y7.Do.length)) [(142,[65]),(130,[]),(131,[])] [130,131,140] [142,130,131] [65] [] [] (fun _=>[(71,.own 65)]) (fun _=>[(65,.arr 43 7 ((([]:List Op)++y7.Do).map cOp))]) Z Z (fun _=>Z) (fun w0 X X0 σ0 _=>by refine zAv (T:=tab) cOp ([]:List Op) y7.Do Z Z Z Z Z Z Z Z Z Z Z Z Z Z (zDk _) Z Z Z Z Z ?_;exact pz) fun _ h0=>?_
     refine vf [6,7] [144] [] [3] [3] [(72,.agg (cOp o2))] [(3,.box 43 [Y o2.Kind,Y o2.A,Y o2.B,Y o2.C,D o2.S,D o2.T,O o2.Must])] ?_
     refine vs [144] [146,147] [73] [] [] [(73,.own 73)] [(73,.arr 43 7 ([o2].map cOp))] Z Z (fun w0 X X0 σ0 _=>by refine zBu (T:=tab) (rows:=[o2].map cOp) 73 Z Z Z Z Z Z Z Z Z Z Z Z Z Z ?_;exact py) ?_
     refine vt (zBr 72 ((([]:List Op)++y7.Do).length+([o2]:List Op).length)) [(148,[65]),(142,[]),(131,[]),(130,[])] [130,131,142,146,147] [148,142,131,130] [65] [73] [73] (fun _=>[(74,.own 65)]) (fun _=>[(65,.arr 43 7 (((([]:List Op)++y7.Do)++[o2]).map cOp)),(73,.arr 43 7 ([o2].map cOp))]) Z Z (fun _=>Z) (fun w0 X X0 σ0 _=>by refine zAv (T:=tab) cOp (([]:List Op)++y7.Do) ([o2]:List Op) Z Z Z Z Z Z Z Z Z Z Z Z Z Z (zDk _) Z Z Z Z Z ?_;exact pz) fun _ h0=>?_
     refine vt (idx (([]:List Hook)++y4.Hooks) i5) [(150,[44])] [89,126,128] [150] [] [44] [44] (fun y8=>[(75,.ela 44 2 (i5).toNat 0)]) (fun y8=>[(44,.arr 54 2 ((([]:List Hook)++y4.Hooks).map zAP))]) Z Z (fun _=>Z) (fun w0 X X0 σ0 _=>by refine zEr (T:=tab) zAP (([]:List Hook)++y4.Hooks) Z Z Z Z Z Z Z Z fun y8 hy8=>?_;exact pz) fun y8 hy8=>?_
     refine ve [150] [152] [44] [(76,.ela 44 2 (i5).toNat 1)] ?_
     refine vs [89,131,148,152] [148,131,89] [] [44,65] [] [(74,.sl 7 false (((([]:List Op)++y7.Do)++[o2]).map cOp))] [(44,.arr 54 2 (((([]:List Hook)++y4.Hooks).set (i5).toNat (⟨y8.Kind,((([]:List Op)++y7.Do)++[o2])⟩:Hook)).map zAP))] Z Z (fun w0 X X0 σ0 _=>by refine zCr 65 Z Z Z ?_;refine zGN (T:=tab) zAP (([]:List Hook)++y4.Hooks) y8 (⟨y8.Kind,((([]:List Op)++y7.Do)++[o2])⟩:Hook) (zJK hy8) Z Z Z Z Z Z Z Z Z Z Z Z Z ?_;exact py) ?_
     exact zBf Z Z (zAA (zAC (pq 2 Z (zAG (T:=tab) Z Z Z Z Z Z Z Z Z Z Z Z (zAE (zAK (zAA (sr (pq 2 Z (zCr 44 Z Z Z (pc (zBe fu (⟨(⟨t1.S.Classes,t1.S.Main⟩:Script),t1.To,true⟩:Instarref22_Text) (⟨y4.Form,y4.Watch,y4.Peek,y4.Make,((([]:List Hook)++y4.Hooks).set (i5).toNat (⟨y8.Kind,((([]:List Op)++y7.Do)++[o2])⟩:Hook))⟩:Class)) zJH Z Z Z Z fun r15 hr15=>zAG (T:=tab) Z Z Z Z Z Z Z Z Z Z Z Z (ns rN))))))))))))
    ·refine pq 2 Z (zEr (T:=tab) zAP (([]:List Hook)++y4.Hooks) Z Z Z Z Z Z Z Z fun y6 hy6=>pq 1 Z (zG3 (T:=tab) zAP (([]:List Hook)++y4.Hooks) y6 (zJK hy6) Z Z Z Z Z Z Z Z (zAm (T:=tab) cOp y6.Do Z Z Z Z Z Z Z Z (pq 3 Z (zAG (T:=tab) Z Z Z Z Z Z Z Z Z Z Z Z (ns (zAD (su [(2,.loc 2 0),(3,.loc 3 0),(4,.loc 4 0),(5,.loc 5 0),(6,.own 44),(7,Y i5)] [(44,.arr 54 2 ((([]:List Hook)++y4.Hooks).map zAP)),(5,.box 51 [O y4.Form,.sl 1 false (y4.Watch.map cStr),.sl 7 false (y4.Peek.map cOp),.sl 7 false (y4.Make.map cOp),.sl 2 false (y4.Hooks.map zAP)]),(4,.box 87 [.v (.slice none 0 0),.v (.slice none 0 0),Y 0,O false]),(3,.box 43 [Y o2.Kind,Y o2.A,Y o2.B,Y o2.C,D o2.S,D o2.T,O o2.Must]),(2,.box 87 [.sl 5 false (t1.S.Classes.map zAM),.sl 7 false (t1.S.Main.map cOp),Y t1.To,O (decide (((y6.Do.length:Nat):Int)>=60))])] (zBB [0,0,0,0,0,24,56,120,252,0,512,2044,4095,8191,16383] mixed (by kernel_rfl) (by kernel_rfl) Z Z (ve [12] [126] [44] [(63,.own 44)] ?_))))))))))
     refine ve [14] [128] [] [(64,Y i5)] ?_
     refine vs [] [130,131] [65] [] [] [(65,.own 65)] [(65,.arr 43 7 (([]:List Op).map cOp))] Z Z (fun w0 X X0 σ0 _=>by refine zBu (T:=tab) (rows:=([]:List Op).map cOp) 65 Z Z Z Z Z Z Z Z Z Z Z Z Z Z ?_;exact py) ?_
     refine ve [12] [132] [44] [(66,.own 44)] ?_
     refine ve [14] [134] [] [(67,Y i5)] ?_
     refine vt (idx (([]:List Hook)++y4.Hooks) i5) [(136,[44])] [89,132,134] [136] [] [44] [44] (fun y9=>[(68,.ela 44 2 (i5).toNat 0)]) (fun y9=>[(44,.arr 54 2 ((([]:List Hook)++y4.Hooks).map zAP))]) Z Z (fun _=>Z) (fun w0 X X0 σ0 _=>by refine zEr (T:=tab) zAP (([]:List Hook)++y4.Hooks) Z Z Z Z Z Z Z Z fun y9 hy9=>?_;exact pz) fun y9 hy9=>?_
     refine ve [136] [138] [44] [(69,.ela 44 2 (i5).toNat 1)] ?_
     refine vs [89,138] [140] [] [44] [44] [(70,.sl 7 false (y9.Do.map cOp))] [(44,.arr 54 2 ((([]:List Hook)++y4.Hooks).map zAP))] Z Z (fun w0 X X0 σ0 _=>by refine zG3 (T:=tab) zAP (([]:List Hook)++y4.Hooks) y9 (zJK hy9) Z Z Z Z Z Z Z Z ?_;exact py) ?_
     refine vt (zBr 72 (([]:List Op).length+y9.Do.length)) [(142,[65]),(130,[]),(131,[])] [130,131,140] [142,130,131] [65] [] [] (fun _=>[(71,.own 65)]) (fun _=>[(65,.arr 43 7 ((([]:List Op)++y9.Do).map cOp))]) Z Z (fun _=>Z) (fun w0 X X0 σ0 _=>by refine zAv (T:=tab) cOp ([]:List Op) y9.Do Z Z Z Z Z Z Z Z Z Z Z Z Z Z (zDk _) Z Z Z Z Z ?_;exact pz) fun _ h0=>?_
     refine vf [6,7] [144] [] [3] [3] [(72,.agg (cOp o2))] [(3,.box 43 [Y o2.Kind,Y o2.A,Y o2.B,Y o2.C,D o2.S,D o2.T,O o2.Must])] ?_
     refine vs [144] [146,147] [73] [] [] [(73,.own 73)] [(73,.arr 43 7 ([o2].map cOp))] Z Z (fun w0 X X0 σ0 _=>by refine zBu (T:=tab) (rows:=[o2].map cOp) 73 Z Z Z Z Z Z Z Z Z Z Z Z Z Z ?_;exact py) ?_
     refine vt (zBr 72 ((([]:List Op)++y9.Do).length+([o2]:List Op).length)) [(148,[65]),(142,[]),(131,[]),(130,[])] [130,131,142,146,147] [148,142,131,130] [65] [73] [73] (fun _=>[(74,.own 65)]) (fun _=>[(65,.arr 43 7 (((([]:List Op)++y9.Do)++[o2]).map cOp)),(73,.arr 43 7 ([o2].map cOp))]) Z Z (fun _=>Z) (fun w0 X X0 σ0 _=>by refine zAv (T:=tab) cOp (([]:List Op)++y9.Do) ([o2]:List Op) Z Z Z Z Z Z Z Z Z Z Z Z Z Z (zDk _) Z Z Z Z Z ?_;exact pz) fun _ h0=>?_
     refine vt (idx (([]:List Hook)++y4.Hooks) i5) [(150,[44])] [89,126,128] [150] [] [44] [44] (fun y10=>[(75,.ela 44 2 (i5).toNat 0)]) (fun y10=>[(44,.arr 54 2 ((([]:List Hook)++y4.Hooks).map zAP))]) Z Z (fun _=>Z) (fun w0 X X0 σ0 _=>by refine zEr (T:=tab) zAP (([]:List Hook)++y4.Hooks) Z Z Z Z Z Z Z Z fun y10 hy10=>?_;exact pz) fun y10 hy10=>?_
     refine ve [150] [152] [44] [(76,.ela 44 2 (i5).toNat 1)] ?_
     refine vs [89,131,148,152] [148,131,89] [] [44,65] [] [(74,.sl 7 false (((([]:List Op)++y9.Do)++[o2]).map cOp))] [(44,.arr 54 2 (((([]:List Hook)++y4.Hooks).set (i5).toNat (⟨y10.Kind,((([]:List Op)++y9.Do)++[o2])⟩:Hook)).map zAP))] Z Z (fun w0 X X0 σ0 _=>by refine zCr 65 Z Z Z ?_;refine zGN (T:=tab) zAP (([]:List Hook)++y4.Hooks) y10 (⟨y10.Kind,((([]:List Op)++y9.Do)++[o2])⟩:Hook) (zJK hy10) Z Z Z Z Z Z Z Z Z Z Z Z Z ?_;exact py) ?_
     exact zBf Z Z (zAA (zAC (pq 2 Z (zAG (T:=tab) Z Z Z Z Z Z Z Z Z Z Z Z (zAE (zAK (zAA (sr (pq 2 Z (zCr 44 Z Z Z (pc (zBe fu (⟨(⟨t1.S.Classes,t1.S.Main⟩:Script),t1.To,(decide (((y6.Do.length:Nat):Int)>=60))⟩:Instarref22_Text) (⟨y4.Form,y4.Watch,y4.Peek,y4.Make,((([]:List Hook)++y4.Hooks).set (i5).toNat (⟨y10.Kind,((([]:List Op)++y9.Do)++[o2])⟩:Hook))⟩:Class)) zJH Z Z Z Z fun r16 hr16=>zAG (T:=tab) Z Z Z Z Z Z Z Z Z Z Z Z (ns rN))))))))))))
def zCQ (fu:Nat) (s1:Bs) (i2:Int) (at3:Int) (c4:(List Class)) (c5:(List Op)) (c6:Int) (c7:Bool) (rc1:(Int×Int×(List Class)×(List Op)×Int×Bool)->Option (Script×Bool)) (x_:Unit):Option (Script×Bool):=bnd (zC3 s1 at3 i2) fun s9=>bnd (rng .i64 (i2+1)) fun i10=>cnd (s9==([]:Bs)) (bnd (rng .i64 (i2+1)) fun i15=>rc1 (i15,i10,c4,c5,c6,c7)) (bnd (zDx fu (⟨(⟨c4,c5⟩:Script),c6,c7⟩:Instarref22_Text) s9) fun r11=>cnd (!r11.2) (bnd (zCh fu s9) fun r12=>bnd (zDg fu r11.1 r12.1) fun r13=>bnd (rng .i64 (i2+1)) fun i16=>rc1 (i16,i10,r13.S.Classes,r13.S.Main,r13.To,r13.Bad)) (bnd (rng .i64 (i2+1)) fun i17=>rc1 (i17,i10,r11.1.S.Classes,r11.1.S.Main,r11.1.To,r11.1.Bad)))
def zAX (fu:Nat) (s1:Bs):Nat->Int×Int×(List Class)×(List Op)×Int×Bool->Option (Script×Bool)
 | 0,_=>none
 | k1+1,(i2,at3,c4,c5,c6,c7)=>cnd (decide (i2<=((s1.length:Nat):Int))) (cnd (!c7) (cnd (decide (i2<((s1.length:Nat):Int))) (bnd (chr s1 i2) fun b8=>cnd (b8 != 10) (bnd (rng .i64 (i2+1)) fun i14=>(zAX fu s1 k1) (i14,at3,c4,c5,c6,c7)) ((zCQ fu s1 i2 at3 c4 c5 c6 c7 (zAX fu s1 k1)) ())) ((zCQ fu s1 i2 at3 c4 c5 c6 c7 (zAX fu s1 k1)) ())) (cnd c7 (some ((⟨[],[]⟩:Script),false)) (some ((⟨c4,c5⟩:Script),true)))) (cnd c7 (some ((⟨[],[]⟩:Script),false)) (some ((⟨c4,c5⟩:Script),true)))
def zDw (fu:Nat) (s1:Bs):Option (Script×Bool):=cnd (decide (((s1.length:Nat):Int)>16384)) (some ((⟨[],[]⟩:Script),false)) ((zAX fu s1) fu (0,0,[],[],0,false))
theorem zH6 (fu:Nat) (s1:Bs):∀r,zDw fu s1=some r->DC zAf Tryz.prog 16 [D s1] (.tup [.agg (zE0 r.1),O r.2]):=by
 refine fcI Tryz.func16 Z fun w0 X X0 σ0 _=>sr (zAs (T:=tab) 2 Z Z Z Z Z Z Z Z Z (pq 1 Z (ns (zAD (sr (pq 3 Z (ns (zAH Z ?_ ?_))))))))
 ·refine sr (zA4 (T:=tab) Z Z Z Z Z Z Z (zAG (T:=tab) Z Z Z Z Z Z Z Z Z Z Z Z (pq 1 Z (ns ?_))))
  refine zEk 2 [.sl 5 false ([].map zAM),.sl 7 false ([].map cOp)] Z ⟨.nil,.nil,trivial⟩ Z ?_
  exact rN
 ·refine zAB (zAA (sr (zA4 (T:=tab) Z Z Z Z Z Z Z (zAs (T:=tab) 4 Z Z Z Z Z Z Z Z Z (zAG (T:=tab) Z Z Z Z Z Z Z Z Z Z Z Z (ns (sr (pq 1 Z (ns (zAD (sr (pq 1 Z (ns (zAL ?_))))))))))))))
  refine zEk 4 [.sl 5 false ([].map zAM),.sl 7 false ([].map cOp),Y 0,O false] Z ⟨.nil,.nil,.rfl,.rfl,trivial⟩ Z ?_
  refine lq (zAX fu s1) (fun ((i2,at3,c4,c5,c6,c7):Int×Int×(List Class)×(List Op)×Int×Bool)=>[(0,D s1),(2,.loc 2 0),(4,.loc 4 0),(5,Y at3),(6,Y i2)]) (fun ((i2,at3,c4,c5,c6,c7):Int×Int×(List Class)×(List Op)×Int×Bool)=>[(4,.box 87 [.sl 5 false (c4.map zAM),.sl 7 false (c5.map cOp),Y c6,O c7]),(2,.box 25 [.v (.slice none 0 0),.v (.slice none 0 0)])]) fu (0,0,[],[],0,false) ?_
  rintro k1 ⟨i2,at3,c4,c5,c6,c7⟩
  refine zAD (sr (pq 5 Z (zAF (j:=21) Z ?_ ?_)))
  ·refine pq 4 Z (ns (zAH Z ?_ ?_))
   ·refine zAB (zAA (zAD (zAL (zAD (sr (zD2 (zCQ fu s1 i2 at3 c4 c5 c6 c7 (zAX fu s1 k1)) (fun (_:Unit)=>[(0,D s1),(2,.loc 2 0),(4,.loc 4 0),(5,Y at3),(6,Y i2)]) (fun (_:Unit)=>[(4,.box 87 [.sl 5 false (c4.map zAM),.sl 7 false (c5.map cOp),Y c6,O c7]),(2,.box 25 [.v (.slice none 0 0),.v (.slice none 0 0)])]) ?_ fun hj1=>?_))))))
    ·rintro _
     refine zAA (sr (pq 3 Z (zGE (T:=tab) Z Z Z Z Z Z Z Z fun s9 hs9=>pq 1 Z (ns (sr (pq 1 Z (zAI (T:=tab) Z Z Z Z fun i10 hi10=>pq 1 Z (ns (zAD (sr (pq 2 Z (ns (zAH Z ?_ ?_)))))))))))))
     ·exact zAY Z (zAA (zAC (pq 1 Z (zAI (T:=tab) Z Z Z Z fun i15 hi15=>pq 1 Z (zAE (zAW (i15,i10,c4,c5,c6,c7) ⟨Z,Z,Z,Z,Z,trivial⟩ ⟨Z,Z,trivial⟩ Z))))))
     ·refine zAB (zAA (sr (pq 2 Z (pc (zH8 fu (⟨(⟨c4,c5⟩:Script),c6,c7⟩:Instarref22_Text) s9) call42 Z Z Z Z fun r11 hr11=>pq 3 Z (zAs (T:=tab) 8 Z Z Z Z Z Z Z Z Z (zAG (T:=tab) Z Z Z Z Z Z Z Z Z Z Z Z (pq 1 Z (ns (sr (pq 1 Z (zAG (T:=tab) Z Z Z Z Z Z Z Z Z Z Z Z (ns (sr (pq 2 Z (ns (zAH Z ?_ ?_))))))))))))))))
      ·exact sr (pq 1 Z (pc (zH5 fu s9) call43 Z Z Z Z fun r12 hr12=>pq 3 Z (zAs (T:=tab) 10 Z Z Z Z Z Z Z Z Z (zAG (T:=tab) Z Z Z Z Z Z Z Z Z Z Z Z (pq 1 Z (ns (zAC (pq 2 Z (pc (zIS fu r11.1 r12.1) call44 Z Z Z Z fun r13 hr13=>zAG (T:=tab) Z Z Z Z Z Z Z Z Z Z Z Z (zAE (zAK (zAA (zAC (pq 1 Z (zAI (T:=tab) Z Z Z Z fun i16 hi16=>pq 1 Z (zAE (zAW (i16,i10,r13.S.Classes,r13.S.Main,r13.To,r13.Bad) ⟨Z,Z,Z,Z,Z,trivial⟩ ⟨Z,Z,trivial⟩ Z)))))))))))))))))
      ·exact zAB (zAK (zAA (zAC (pq 1 Z (zAI (T:=tab) Z Z Z Z fun i17 hi17=>pq 1 Z (zAE (zAW (i17,i10,r11.1.S.Classes,r11.1.S.Main,r11.1.To,r11.1.Bad) ⟨Z,Z,Z,Z,Z,trivial⟩ ⟨Z,Z,trivial⟩ Z)))))))
    ·refine pq 5 Z (zAF (j:=32) Z ?_ ?_)
     ·refine pq 2 Z (zBZ (T:=tab) (s:=s1) Z Z Z Z Z Z Z fun b8 hb8=>pq 2 Z (ns (zAH Z ?_ ?_)))
      ·exact zAY Z (zAA (zAC (pq 1 Z (zAI (T:=tab) Z Z Z Z fun i14 hi14=>pq 1 Z (zAE (zAW (i14,at3,c4,c5,c6,c7) ⟨Z,Z,Z,Z,Z,trivial⟩ ⟨Z,Z,trivial⟩ Z))))))
      ·exact zAB (ps (hj1 ()))
     ·refine pq 5 Z (zAE (zAA (zAZ Z ?_)))
      exact zAB (ps (hj1 ()))
   ·refine zAY Z (zAA (zAD (sr (pq 2 Z (ns (zAH Z ?_ ?_))))))
    ·refine sr (zA4 (T:=tab) Z Z Z Z Z Z Z (zAG (T:=tab) Z Z Z Z Z Z Z Z Z Z Z Z (pq 1 Z (ns ?_))))
     refine zEk 2 [.sl 5 false ([].map zAM),.sl 7 false ([].map cOp)] Z ⟨.nil,.nil,trivial⟩ Z ?_
     exact rN
    ·exact zAB (zAA (sr (pq 2 Z (zAG (T:=tab) Z Z Z Z Z Z Z Z Z Z Z Z (pq 1 Z (ns rN))))))
  ·refine pq 4 Z (zAE (zAA (zAZ Z ?_)))
   refine zAY Z (zAA (zAD (sr (pq 2 Z (ns (zAH Z ?_ ?_))))))
   ·refine sr (zA4 (T:=tab) Z Z Z Z Z Z Z (zAG (T:=tab) Z Z Z Z Z Z Z Z Z Z Z Z (pq 1 Z (ns ?_))))
    refine zEk 2 [.sl 5 false ([].map zAM),.sl 7 false ([].map cOp)] Z ⟨.nil,.nil,trivial⟩ Z ?_
    exact rN
   ·exact zAB (zAA (sr (pq 2 Z (zAG (T:=tab) Z Z Z Z Z Z Z Z Z Z Z Z (pq 1 Z (ns rN))))))
def zCg (a1:(List Op)) (b2:(List Op)):Nat->Int->Option Bool
 | 0,_=>none
 | k1+1,i3=>cnd (decide (i3<((a1.length:Nat):Int))) (bnd (idx a1 i3) fun y4=>bnd (idx b2 i3) fun y5=>cnd (!(eqOp y4 y5)) (some false) (bnd (rng .i64 (i3+1)) fun i6=>(zCg a1 b2 k1) i6)) (some true)
def zCO (fu:Nat) (a1:(List Op)) (b2:(List Op)):Option Bool:=cnd (((a1.length:Nat):Int) != ((b2.length:Nat):Int)) (some false) ((zCg a1 b2) fu 0)
theorem zDv (fu:Nat) (a1:(List Op)) (b2:(List Op)):∀r,zCO fu a1 b2=some r->DC zAf Tryz.prog 20 [.sl 7 false (a1.map cOp),.sl 7 false (b2.map cOp)] (O r):=by
 refine fcI Tryz.func20 Z fun w0 X X0 σ0 _=>sr (pq 1 Z (ns (zAD (sr (pq 1 Z (zAm (T:=tab) cOp a1 Z Z Z Z Z Z Z Z (pq 1 Z (zAm (T:=tab) cOp b2 Z Z Z Z Z Z Z Z (pq 1 Z (ns (zAH Z ?_ ?_)))))))))))
 ·exact sr (pq 1 Z (ns rN))
 ·refine zAB (zAA (zAD (sr (pq 1 Z (ns (zAL (lq (zCg a1 b2) (fun (i3:Int)=>[(0,.sl 7 false (a1.map cOp)),(1,.sl 7 false (b2.map cOp)),(5,Y i3)]) (fun (i3:Int)=>[]) fu 0 ?_)))))))
  rintro k1 i3
  refine zAD (sr (pq 2 Z (zAm (T:=tab) cOp a1 Z Z Z Z Z Z Z Z (pq 1 Z (ns (zAH Z ?_ ?_))))))
  ·refine zAB (zAA (zAD (zAL (zAD (zEK mixed (by kernel_rfl) (zAV (T:=tab) 2 Z Z (zGC (T:=tab) cOp a1 Z Z Z Z Z Z Z fun y4 hy4=>zAV (T:=tab) 3 Z Z (zGC (T:=tab) cOp b2 Z Z Z Z Z Z Z fun y5 hy5=>zAV (T:=tab) 1 Z Z (pd_ne zMi Z Z Z Z Z Z Z (zCq (zAA (zAH Z ?_ ?_))))))))))))
   ·exact sr (pq 1 Z (ns rN))
   ·exact zAB (zAK (zAA (zAC (pq 1 Z (zAI (T:=tab) Z Z Z Z fun i6 hi6=>pq 1 Z (zAE (zAW i6 ⟨Z,Z,Z,trivial⟩ trivial Z)))))))
  ·exact zAY Z (zAA (sr (pq 1 Z (ns rN))))
def zBn (fu:Nat) (a1:Class) (b2:Class):Nat->Int->Option Bool
 | 0,_=>none
 | k2+1,i9=>cnd (decide (i9<((a1.Hooks.length:Nat):Int))) (bnd (idx a1.Hooks i9) fun y10=>bnd (idx b2.Hooks i9) fun y11=>cnd (y10.Kind != y11.Kind) (some false) (bnd (idx a1.Hooks i9) fun y12=>bnd (idx b2.Hooks i9) fun y13=>bnd (zCO fu y12.Do y13.Do) fun r14=>cnd (!r14) (some false) (bnd (rng .i64 (i9+1)) fun i15=>(zBn fu a1 b2 k2) i15))) (some true)
def zBm (fu:Nat) (a1:Class) (b2:Class):Nat->Int->Option Bool
 | 0,_=>none
 | k1+1,i5=>cnd (decide (i5<((a1.Watch.length:Nat):Int))) (bnd (idx a1.Watch i5) fun y6=>bnd (idx b2.Watch i5) fun y7=>cnd (!(y6==y7)) (some false) (bnd (rng .i64 (i5+1)) fun i8=>(zBm fu a1 b2 k1) i8)) ((zBn fu a1 b2) fu 0)
def zDp (fu:Nat) (a1:Class) (b2:Class):Option Bool:=cnd (!(a1.Form==b2.Form)) (some false) (cnd (((a1.Watch.length:Nat):Int) != ((b2.Watch.length:Nat):Int)) (some false) (bnd (zCO fu a1.Peek b2.Peek) fun r3=>cnd (!r3) (some false) (bnd (zCO fu a1.Make b2.Make) fun r4=>cnd (!r4) (some false) (cnd (((a1.Hooks.length:Nat):Int) != ((b2.Hooks.length:Nat):Int)) (some false) ((zBm fu a1 b2) fu 0)))))
theorem zHt (fu:Nat) (a1:Class) (b2:Class):∀r,zDp fu a1 b2=some r->DC zAf Tryz.prog 82 [.agg (zAM a1),.agg (zAM b2)] (O r):=by
 refine fcI Tryz.func82 Z fun w0 X X0 σ0 _=>sr (zDl  2 Z Z Z Z Z Z Z Z Z Z (zDl  3 Z Z Z Z Z Z Z Z Z Z (pq 1 Z (ns (zAD (sr (pq 6 Z (zAF (j:=12) Z ?_ ?_))))))))
 ·refine pq 33 Z (zAE (zAA (zAQ Z ?_)))
  exact sr (pq 1 Z (ns rN))
 ·refine pq 2 Z (zAm (T:=tab) cStr a1.Watch Z Z Z Z Z Z Z Z (pq 2 Z (zAm (T:=tab) cStr b2.Watch Z Z Z Z Z Z Z Z (pq 3 Z (zAF (j:=21) Z ?_ ?_)))))
  ·refine pq 24 Z (zAE (zAA (zAQ Z ?_)))
   exact sr (pq 1 Z (ns rN))
  ·refine pq 4 Z (pc (zDv fu a1.Peek b2.Peek) zOa Z Z Z Z fun r3 hr3=>pq 3 Z (zAF (j:=29) Z ?_ ?_))
   ·refine pq 16 Z (zAE (zAA (zAQ Z ?_)))
    exact sr (pq 1 Z (ns rN))
   ·refine pq 4 Z (pc (zDv fu a1.Make b2.Make) zOa Z Z Z Z fun r4 hr4=>pq 3 Z (zAF (j:=37) Z ?_ ?_))
    ·refine pq 8 Z (zAE (zAA (zAQ Z ?_)))
     exact sr (pq 1 Z (ns rN))
    ·refine pq 2 Z (zAm (T:=tab) zAP a1.Hooks Z Z Z Z Z Z Z Z (pq 2 Z (zAm (T:=tab) zAP b2.Hooks Z Z Z Z Z Z Z Z (pq 2 Z (ns (zAH Z ?_ ?_))))))
     ·exact sr (pq 1 Z (ns rN))
     ·refine zAB (zAA (zAD (sr (pq 1 Z (ns (zAL (lq (zBm fu a1 b2) (fun (i5:Int)=>[(2,.loc 2 0),(3,.loc 3 0),(5,Y i5)]) (fun (i5:Int)=>[(3,.box 51 [O b2.Form,.sl 1 false (b2.Watch.map cStr),.sl 7 false (b2.Peek.map cOp),.sl 7 false (b2.Make.map cOp),.sl 2 false (b2.Hooks.map zAP)]),(2,.box 51 [O a1.Form,.sl 1 false (a1.Watch.map cStr),.sl 7 false (a1.Peek.map cOp),.sl 7 false (a1.Make.map cOp),.sl 2 false (a1.Hooks.map zAP)])]) fu 0 ?_)))))))
      rintro k1 i5
      refine zAD (sr (pq 3 Z (zAm (T:=tab) cStr a1.Watch Z Z Z Z Z Z Z Z (pq 1 Z (ns (zAH Z ?_ ?_))))))
      ·refine zAB (zAA (zAD (zAL (zAD (zEK mixed (by kernel_rfl) (zAV (T:=tab) 3 Z Z (zGC (T:=tab) cStr a1.Watch Z Z Z Z Z Z Z fun y6 hy6=>zAV (T:=tab) 4 Z Z (zGC (T:=tab) cStr b2.Watch Z Z Z Z Z Z Z fun y7 hy7=>zAV (T:=tab) 2 Z Z (zCq (zAA (zAH Z ?_ ?_)))))))))))
       ·exact sr (pq 1 Z (ns rN))
       ·exact zAB (zAK (zAA (zAC (pq 1 Z (zAI (T:=tab) Z Z Z Z fun i8 hi8=>pq 1 Z (zAE (zAW i8 ⟨Z,Z,Z,trivial⟩ ⟨Z,Z,trivial⟩ Z)))))))
      ·refine zAY Z (zAA (zAD (sr (pq 1 Z (ns (zAL (lq (zBn fu a1 b2) (fun (i9:Int)=>[(2,.loc 2 0),(3,.loc 3 0),(6,Y i9)]) (fun (i9:Int)=>[(3,.box 51 [O b2.Form,.sl 1 false (b2.Watch.map cStr),.sl 7 false (b2.Peek.map cOp),.sl 7 false (b2.Make.map cOp),.sl 2 false (b2.Hooks.map zAP)]),(2,.box 51 [O a1.Form,.sl 1 false (a1.Watch.map cStr),.sl 7 false (a1.Peek.map cOp),.sl 7 false (a1.Make.map cOp),.sl 2 false (a1.Hooks.map zAP)])]) fu 0 ?_)))))))
       rintro k2 i9
       refine zAD (sr (pq 3 Z (zAm (T:=tab) zAP a1.Hooks Z Z Z Z Z Z Z Z (pq 1 Z (ns (zAH Z ?_ ?_))))))
       ·refine zAB (zAA (zAD (zAL (zAD (zEK mixed (by kernel_rfl) (zAV (T:=tab) 3 Z Z (zGC (T:=tab) zAP a1.Hooks Z Z Z Z Z Z Z fun y10 hy10=>zAV (T:=tab) 5 Z Z (zGC (T:=tab) zAP b2.Hooks Z Z Z Z Z Z Z fun y11 hy11=>zAV (T:=tab) 4 Z Z (zDf (j:=84) Z ?_ ?_)))))))))
        ·refine zAV (T:=tab) 15 Z Z (zCq (zAA (zAQ Z ?_)))
         exact sr (pq 1 Z (ns rN))
        ·refine zAV (T:=tab) 3 Z Z (zGC (T:=tab) zAP a1.Hooks Z Z Z Z Z Z Z fun y12 hy12=>zAV (T:=tab) 5 Z Z (zGC (T:=tab) zAP b2.Hooks Z Z Z Z Z Z Z fun y13 hy13=>zAV (T:=tab) 2 Z Z (pdc (zDv fu y12.Do y13.Do) zOa Z Z Z Z fun r14 hr14=>zAV (T:=tab) 2 Z Z (zCq (zAA (zAH Z ?_ ?_))))))
         ·exact sr (pq 1 Z (ns rN))
         ·exact zAB (zAK (zAA (zAC (pq 1 Z (zAI (T:=tab) Z Z Z Z fun i15 hi15=>pq 1 Z (zAE (zAW i15 ⟨Z,Z,Z,trivial⟩ ⟨Z,Z,trivial⟩ Z)))))))
       ·exact zAY Z (zAA (sr (pq 1 Z (ns rN))))
def zBx (fu:Nat) (a1:(List Class)) (b2:(List Class)):Nat->Int->Option Bool
 | 0,_=>none
 | k1+1,i3=>cnd (decide (i3<((a1.length:Nat):Int))) (bnd (idx a1 i3) fun y4=>bnd (idx b2 i3) fun y5=>bnd (zDp fu y4 y5) fun r6=>cnd (!r6) (some false) (bnd (rng .i64 (i3+1)) fun i7=>(zBx fu a1 b2 k1) i7)) (some true)
def zDQ (fu:Nat) (a1:(List Class)) (b2:(List Class)):Option Bool:=cnd (((a1.length:Nat):Int) != ((b2.length:Nat):Int)) (some false) ((zBx fu a1 b2) fu 0)
theorem zG8 (fu:Nat) (a1:(List Class)) (b2:(List Class)):∀r,zDQ fu a1 b2=some r->DC zAf Tryz.prog 45 [.sl 5 false (a1.map zAM),.sl 5 false (b2.map zAM)] (O r):=by
 refine fcI Tryz.func45 Z fun w0 X X0 σ0 _=>sr (pq 1 Z (ns (zAD (sr (pq 1 Z (zAm (T:=tab) zAM a1 Z Z Z Z Z Z Z Z (pq 1 Z (zAm (T:=tab) zAM b2 Z Z Z Z Z Z Z Z (pq 1 Z (ns (zAH Z ?_ ?_)))))))))))
 ·exact sr (pq 1 Z (ns rN))
 ·refine zAB (zAA (zAD (sr (pq 1 Z (ns (zAL (lq (zBx fu a1 b2) (fun (i3:Int)=>[(0,.sl 5 false (a1.map zAM)),(1,.sl 5 false (b2.map zAM)),(5,Y i3)]) (fun (i3:Int)=>[]) fu 0 ?_)))))))
  rintro k1 i3
  refine zAD (sr (pq 2 Z (zAm (T:=tab) zAM a1 Z Z Z Z Z Z Z Z (pq 1 Z (ns (zAH Z ?_ ?_))))))
  ·refine zAB (zAA (zAD (zAL (zAD (zEK mixed (by kernel_rfl) (zAV (T:=tab) 2 Z Z (zGC (T:=tab) zAM a1 Z Z Z Z Z Z Z fun y4 hy4=>zAV (T:=tab) 3 Z Z (zGC (T:=tab) zAM b2 Z Z Z Z Z Z Z fun y5 hy5=>zAV (T:=tab) 1 Z Z (pdc (zHt fu y4 y5) call82 Z Z Z Z fun r6 hr6=>zAV (T:=tab) 1 Z Z (zCq (zAA (zAH Z ?_ ?_))))))))))))
   ·exact sr (pq 1 Z (ns rN))
   ·exact zAB (zAK (zAA (zAC (pq 1 Z (zAI (T:=tab) Z Z Z Z fun i7 hi7=>pq 1 Z (zAE (zAW i7 ⟨Z,Z,Z,trivial⟩ trivial Z)))))))
  ·exact zAY Z (zAA (sr (pq 1 Z (ns rN))))
def zB7 (fu:Nat) (a1:Script) (b2:Script):Option Bool:=bnd (zDQ fu a1.Classes b2.Classes) fun r3=>cnd r3 (bnd (zCO fu a1.Main b2.Main) fun r4=>some r4) (some false)
theorem zH7 (fu:Nat) (a1:Script) (b2:Script):∀r,zB7 fu a1 b2=some r->DC zAf Tryz.prog 17 [.agg (zE0 a1),.agg (zE0 b2)] (O r):=by
 refine fcI Tryz.func17 Z fun w0 X X0 σ0 _=>sr (zDl  2 Z Z Z Z Z Z Z Z Z Z (zDl  3 Z Z Z Z Z Z Z Z Z Z (pq 1 Z (ns (sr (pq 4 Z (pc (zG8 fu a1.Classes b2.Classes) call45 Z Z Z Z fun r3 hr3=>pq 1 Z (zAF (j:=10) Z ?_ ?_))))))))
 ·exact pq 4 Z (pc (zDv fu a1.Main b2.Main) zOa Z Z Z Z fun r4 hr4=>pq 2 Z (ns rN))
 ·exact pq 7 Z (ns rN)
def zAr (fu:Nat) (s2:Bs) (x_:Unit):Option Bool:=bnd (zES fu s2) fun r9=>bnd (zDw fu s2) fun r10=>bnd (zB7 fu r9.1 r10.1) fun r11=>cnd r11 (cnd ((r9.2==0)==r10.2) (cnd r10.2 (some true) (some (r9.2==3))) (some false)) (some false)
def zBj (fu:Nat) (x1:Script) (s2:Bs) (r5:Bool) (r6:(Bs×Int)) (x_:Unit):Option Bool:=cnd r5 (bnd (zE9 fu x1) fun r8=>cnd (decide (((r8.length:Nat):Int)>16384)) (cnd (r6.2 != 3) (some false) (cnd (!(r6.1==([]:Bs))) (some false) (cnd (decide (((r8.length:Nat):Int)<=16384)) (cnd (r6.2 != 0) (some false) (cnd (!(r6.1==r8)) (some false) ((zAr fu s2) ()))) ((zAr fu s2) ())))) (cnd (decide (((r8.length:Nat):Int)<=16384)) (cnd (r6.2 != 0) (some false) (cnd (!(r6.1==r8)) (some false) ((zAr fu s2) ()))) ((zAr fu s2) ()))) ((zAr fu s2) ())
def zBQ (fu:Nat) (x1:Script) (s2:Bs):Option Bool:=bnd (zDo fu) fun r3=>cnd (!r3) (some false) (bnd (zEM fu x1) fun r4=>cnd (!r4) (some true) (cnd (decide (((s2.length:Nat):Int)>20000)) (some true) (bnd (zDR fu x1) fun r5=>bnd (zEq fu x1) fun r6=>bnd (zDJ fu x1) fun r7=>cnd (!(r7==r5)) (some false) (cnd (!r5) (cnd (r6.2 != 1) (some false) (cnd (!(r6.1==([]:Bs))) (some false) ((zBj fu x1 s2 r5 r6) ()))) ((zBj fu x1 s2 r5 r6) ())))))
theorem zGH (fu:Nat) (x1:Script) (s2:Bs):∀r,zBQ fu x1 s2=some r->DC zAf Tryz.prog 3 [.agg (zE0 x1),D s2] (O r):=by
 refine fcI Tryz.func3 Z fun w0 X X0 σ0 _=>sr (zDl  2 Z Z Z Z Z Z Z Z Z Z (pq 1 Z (ns (zAD (sr (zI8 (enc:=fun (r3:Bool)=>O r3) (qs:=[]) (zHs fu) Z Z trivial (fun _=>Z) call9 Z Z fun r3 hr3=>pq 1 Z (ns (zAH Z ?_ ?_))))))))
 ·exact sr (pq 1 Z (ns rN))
 ·refine zAB (zAA (zAD (sr (pq 1 Z (pc (zIP fu x1) call10 Z Z Z Z fun r4 hr4=>pq 2 Z (zAF (j:=18) Z ?_ ?_))))))
  ·refine pq 4 Z (zAE (zAA (zAQ Z ?_)))
   exact sr (pq 1 Z (ns rN))
  ·refine pq 4 Z (ns (zAH Z ?_ ?_))
   ·exact sr (pq 1 Z (ns rN))
   ·refine zAB (zAA (sr (pq 1 Z (pc (zG9 fu x1) call11 Z Z Z Z fun r5 hr5=>pq 1 Z (ns (sr (pq 1 Z (pc (zIV fu x1) zUQ Z Z Z Z fun r6 hr6=>pq 5 Z (ns (zAD (sr (zD2 (zBj fu x1 s2 r5 r6) (fun (_:Unit)=>[(1,D s2),(2,.loc 2 0),(5,O r5),(6,D r6.1),(7,Y r6.2)]) (fun (_:Unit)=>[(2,.box 25 [.sl 5 false (x1.Classes.map zAM),.sl 7 false (x1.Main.map cOp)])]) ?_ fun hj1=>?_))))))))))))
    ·rintro _
     refine zAA (zAD (sr (pq 1 Z (ns (zBi (zAr fu s2) (fun (_:Unit)=>[(1,D s2)]) (fun (_:Unit)=>[]) ?_ fun hj2=>?_)))))
     ·rintro _
      refine zAA (sr (pq 1 Z (pc (zH0 fu s2) zUR Z Z Z Z fun r9 hr9=>pq 3 Z (zAs (T:=tab) 9 Z Z Z Z Z Z Z Z Z (zAG (T:=tab) Z Z Z Z Z Z Z Z Z Z Z Z (pq 1 Z (ns (sr (pq 1 Z (pc (zH6 fu s2) call16 Z Z Z Z fun r10 hr10=>pq 3 Z (zAs (T:=tab) 11 Z Z Z Z Z Z Z Z Z (zAG (T:=tab) Z Z Z Z Z Z Z Z Z Z Z Z (pq 1 Z (ns (sr (pq 2 Z (pc (zH7 fu r9.1 r10.1) call17 Z Z Z Z fun r11 hr11=>pq 1 Z (zAF (j:=87) Z ?_ ?_))))))))))))))))))
      ·refine pq 6 Z (zAF (j:=93) Z ?_ ?_)
       ·refine pq 2 Z (zAF (j:=95) Z ?_ ?_)
        ·exact pq 5 Z (ns rN)
        ·exact pq 5 Z (ns rN)
       ·exact pq 7 Z (ns rN)
      ·exact pq 13 Z (ns rN)
     ·refine zAH Z ?_ ?_
      ·refine sr (pq 1 Z (pc (zIR fu x1) call14 Z Z Z Z fun r8 hr8=>pq 1 Z (ns (sr (pq 4 Z (zAF (j:=52) Z ?_ ?_))))))
       ·refine pq 3 Z (zAF (j:=55) Z ?_ ?_)
        ·refine pq 18 Z (zAE (zAA (zAQ Z ?_)))
         exact sr (pq 1 Z (ns rN))
        ·refine pq 5 Z (zAF (j:=60) Z ?_ ?_)
         ·refine pq 13 Z (zAE (zAA (zAQ Z ?_)))
          exact sr (pq 1 Z (ns rN))
         ·refine pq 4 Z (zAF (j:=64) Z ?_ ?_)
          ·refine pq 3 Z (zAF (j:=67) Z ?_ ?_)
           ·refine pq 6 Z (zAE (zAA (zAQ Z ?_)))
            exact sr (pq 1 Z (ns rN))
           ·refine pq 6 Z (ns (zAH Z ?_ ?_))
            ·exact sr (pq 1 Z (ns rN))
            ·exact zAB (ps (hj2 ()))
          ·refine pq 9 Z (zAE (zAA (zAZ Z ?_)))
           exact zAB (ps (hj2 ()))
       ·refine pq 12 Z (zAF (j:=64) Z ?_ ?_)
        ·refine pq 3 Z (zAF (j:=67) Z ?_ ?_)
         ·refine pq 6 Z (zAE (zAA (zAQ Z ?_)))
          exact sr (pq 1 Z (ns rN))
         ·refine pq 6 Z (ns (zAH Z ?_ ?_))
          ·exact sr (pq 1 Z (ns rN))
          ·exact zAB (ps (hj2 ()))
        ·refine pq 9 Z (zAE (zAA (zAZ Z ?_)))
         exact zAB (ps (hj2 ()))
      ·exact zAB (ps (hj2 ()))
    ·refine pq 1 Z (pc (zFD fu x1) zQk Z Z Z Z fun r7 hr7=>pq 3 Z (zAF (j:=34) Z ?_ ?_))
     ·refine pq 11 Z (zAE (zAA (zAQ Z ?_)))
      exact sr (pq 1 Z (ns rN))
     ·refine pq 3 Z (zAF (j:=37) Z ?_ ?_)
      ·refine pq 3 Z (zAF (j:=40) Z ?_ ?_)
       ·refine pq 5 Z (zAE (zAA (zAQ Z ?_)))
        exact sr (pq 1 Z (ns rN))
       ·refine pq 5 Z (ns (zAH Z ?_ ?_))
        ·exact sr (pq 1 Z (ns rN))
        ·exact zAB (ps (hj1 ()))
      ·refine pq 8 Z (zAE (zAA (zAZ Z ?_)))
       exact zAB (ps (hj1 ()))
end Go.Proofs.YtoboimmgglnjfaaGreatDoor
