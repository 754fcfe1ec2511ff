/- Models and proofs, printed by emit2.py. -/
import Derived.Test.YtmfbghpealgaiaaGreatDoorG1
namespace Go.Proofs.YtmfbghpealgaiaaGreatDoor
open Go Go.Pw
open List renaming map_eq_nil_iff->eZ,getElem?_eq_getElem->lC
set_option maxRecDepth 100000
set_option maxHeartbeats 10000000
set_option linter.unusedVariables false
theorem zPo {fu:Nat} {a:Int}:DD (zJT fu a) 41 [Z a] fun r=>.tup [.agg (zQd r.1),Y r.2]:=by
 refine fcI Tryz.func41 U (A [9,31,2,57,6,58,13,6,62] ?_)
 refine jw (zGz fu a) [0,2,4] [2] (fun g=>[(5,Y g)]) (fun _=>[]) U U ?_ fun b=>?_
 ·rintro g
  refine zIz (zAD U ?_ ?_)
  ·refine A [80,41] (fun p _=>?_) zEr
   exact A [20,92,8]
  ·refine A [6,62] ?_
   refine jw (zIR fu a) [0,2,4] [2] (fun h=>[(13,Y h)]) (fun _=>[]) U U ?_ fun c=>?_
   ·rintro h
    refine zIz (zAD U ?_ ?_)
    ·refine A [80,41] (fun q _=>?_) zEr
     exact A [20,92,8]
    ·refine A [6,62] ?_
     refine jw (zIS fu a) [0,2,4] [2] (fun i=>[(20,Y i)]) (fun _=>[]) U U ?_ fun d=>?_
     ·rintro i
      refine zIz (zAD U ?_ ?_)
      ·refine A [80,41] (fun s _=>?_) zEr
       exact A [20,92,8]
      ·refine A [62] ?_
       refine zAD U ?_ ?_
       ·refine A [80,41] (fun t _=>?_) zEr
        exact A [20,92,8]
       ·refine A [62] ?_
        refine zAD U ?_ ?_
        ·refine A [80,41] (fun u _=>?_) zEr
         exact A [20,92,8]
        ·refine A [62] ?_
         refine zAD U ?_ ?_
         ·refine A [80,41] (fun j _=>?_) zEr
          exact A [20,92,8]
         ·refine A [62] ?_
          refine zAD U ?_ ?_
          ·refine A [80,41] (fun k _=>?_) zEr
           exact A [20,92,8]
          ·refine A [62] ?_
           refine zAD U ?_ ?_
           ·refine A [80,41] (fun l _=>?_) zEr
            exact A [20,92,8]
           ·refine A [62] ?_
            refine zAD U ?_ ?_
            ·refine A [80,41] (fun m _=>?_) zEr
             exact A [20,92,8]
            ·refine A [6,62] ?_
             refine jw (zIT fu a) [0,2] [2] (fun f=>[(57,Y f)]) (fun _=>[]) U U ?_ fun e=>?_
             ·rintro f
              refine zIz (zAD U ?_ ?_)
              ·refine A [80,41] (fun n _=>?_) zEr
               exact A [20,92,8]
              ·refine A [4,69,80,41] (fun o _=>?_) zEr
               exact A [20,3,26,69,3,3,92,8,3,92,8]
             ·refine zAD U ?_ ?_
              ·exact A [4,45] (e (a==20))
              ·refine A [62] ?_
               refine zAD U ?_ ?_
               ·exact A [4,45] (e (a==22))
               ·exact A [14,2,11,45] (e (a==25))
     ·refine zAD U ?_ ?_
      ·exact A [4,45] (d (a==6))
      ·refine A [62] ?_
       refine zAD U ?_ ?_
       ·exact A [4,45] (d (a==8))
       ·exact A [14,2,11,45] (d (a==26))
   ·refine zAD U ?_ ?_
    ·exact A [4,45] (c (a==3))
    ·refine A [62] ?_
     refine zAD U ?_ ?_
     ·exact A [4,45] (c (a==10))
     ·exact A [14,2,11,45] (c (a==24))
 ·refine zAD U ?_ ?_
  ·exact A [4,45] (b (a==1))
  ·refine A [62] ?_
   refine zAD U ?_ ?_
   ·exact A [4,45] (b (a==2))
   ·refine A [62] ?_
    refine zAD U ?_ ?_
    ·exact A [4,45] (b (a==9))
    ·exact A [14,2,11,45] (b (a==28))
def zIU (_fu:Nat):Option Unit:=some ()
theorem zOL {fu:Nat} {a:Op}:FF (zIU fu) 42 [.loc 900000 0] [(900000,.box 41 (cOp a))] [900000] (fun _=>.bsl 12 3) fun _=>[(900000,.box 41 (cOp a)),(12,.box 114 [.loc 900000 1,.loc 900000 2,.loc 900000 3])]:=by
 refine fcI Tryz.func42 U (A [75,52,1,1,0,900000,53,11,0,1,3,0,8,24,0,64,192,511,1023,209] ?_)
 exact vS [10,16,22,1800001] [24,25] [12] U U (zbx (T:=tab) 12 U U U U U U U U U U U U U U (pyq U)) U U (A [201,79,8])
def zMU (a:Int) (b:Unit):Option Bool:=cnd (a==(-2)) (some true) (cnd (a==(-3)) (some true) (cnd (decide (a>=0)) (some (decide (a<400))) (some false)))
def zMr (_fu:Nat) (a b:Int):Option Bool:=cnd (a==111) (cnd (b==(-1)) (some true) ((zMU b) ())) (cnd (a==110) ((zMU b) ()) (cnd (a==105) (cnd (decide (b>=(-1000))) (some (decide (b<=1000))) (some false)) (some (b==0))))
theorem zQ9 {fu:Nat} {a c:Int}:DD (zMr fu a c) 43 [.v (.int .u8 a),Z c] fun r=>Y r:=by
 refine fcI Tryz.func43 U (A [75,58,13,6,13,6] ?_)
 refine jw (zMU c) [1] [] (fun _=>[]) (fun _=>[]) U U ?_ fun b=>?_
 ·rintro _
  exact A [7,6,93,26,16,2,112,74,104,26,20,2,108,74,3,26,23,2,105,74,105,74]
 ·refine A [13,6,13,6,6,62] ?_
  refine zAD U ?_ ?_
  ·exact A [86,62,5,1,59,4,15,45] (b ())
  ·exact A [68,62,10,18,67,62,5,10,86,6,93,26,30,2,104,74,104,74,67,86,93,74,17,45] (b ())
def zMs (_fu:Nat):Option Unit:=some ()
theorem zWR {fu:Nat} {a:Op}:FF (zMs fu) 44 [.loc 900000 0] [(900000,.box 41 (cOp a))] [900000] (fun _=>.bsl 9 2) fun _=>[(900000,.box 41 (cOp a)),(9,.box 118 [.loc 900000 4,.loc 900000 5])]:=by
 refine fcI Tryz.func44 U (A [75,52,1,1,0,900000,53,8,0,1,3,0,8,24,63,127,206] ?_)
 exact vS [10,16,1800001] [18,19] [9] U U (zbx (T:=tab) 9 U U U U U U U U U U U U U U (pyq U)) U U (A [201,79,8])
def zFm (fu:Nat) (a:Int) (b:Bs):Option Bool:=cnd (a==115) (cnd (decide ((b.length:Int)<=200)) (bnd (zEN fu b [10]) fun c=>some (!c)) (some false)) (some (b==([]:Bs)))
theorem zOK {fu:Nat} {a:Int} {b:Bs}:DD (zFm fu a b) 45 [.v (.int .u8 a),O b] fun r=>Y r:=by
 refine fcI Tryz.func45 U (A [75,62,10,3,67,93,74,76,27,10,2,105,74,1,41] (fun c _=>?_) zJZ)
 exact A [3,74]
def zHu (fu:Nat) (f:Op) (g:zCz×Bool) (a:Bool):Option Bool:=bnd (zMs fu) fun h=>cnd a (bnd (chr g.1.fields 3) fun b=>bnd (zFm fu b f.S) fun d=>cnd d (bnd (chr g.1.fields 4) fun c=>bnd (zFm fu c f.T) fun e=>some e) (some false)) (some false)
def zJS (fu:Nat) (a:Op) (b:zCz×Bool) (c:Bool):Option Bool:=cnd c (bnd (chr b.1.fields 1) fun e=>bnd (zMr fu e a.B) fun g=>cnd g (bnd (chr b.1.fields 2) fun f=>bnd (zMr fu f a.C) fun d=>(zHu fu a b) d) ((zHu fu a b) false)) ((zHu fu a b) false)
def zMq (fu:Nat) (a:Op):Option Bool:=bnd (zJT fu a.Kind) fun b=>bnd (zIU fu) fun e=>cnd b.2 (bnd (chr b.1.fields 0) fun c=>bnd (zMr fu c a.A) fun d=>(zJS fu a b) d) ((zJS fu a b) false)
theorem zWQ {fu:Nat} {f:Op}:DD (zMq fu f) 15 [.agg (cOp f)] fun r=>Y r:=by
 refine fcI Tryz.func15 U (A [9,30,1,57,99] (fun b _=>?_) zPo)
 refine A [3,31,3,92,6,9,43] (fun u _=>?_) zOL [(12,400150),(900000,1)] [400150]
 refine A [2,0] ?_
 refine jw (zHu fu f b) [1,3] [1,3] (fun a=>[(4,Y a)]) (fun _=>[]) U U ?_ fun e=>?_
 ·rintro a
  refine zge (m':=bnd (zMs fu) fun m=>cnd a (bnd (chr b.1.fields 3) fun c=>bnd (zFm fu c f.S) fun j=>cnd j (bnd (chr b.1.fields 4) fun d=>bnd (zFm fu d f.T) fun k=>some k) (some false)) (some false)) U (A [7,6,9,43] (fun m _=>?_) zWR [(9,400340),(900000,1)] [400340])
  refine A [2,0,13] ?_
  refine zSC 3 (A [75,25,72,80] ?_)
  refine zKc (T:=tab) (i:=0) U U U U U U U U (A [3,0,85,202] ?_)
  refine zBd (t:=42) U ?_ ?_
  ·refine vq 3 U (by kernel_rfl) (vS [84,90] [92] [] U U (zCb (T:=tab) 3 U U U U U (pyq U)) U U (vT [84,88,92] [94] [] U U (zNj (T:=tab) (s:=b.1.fields) U U U U U U U fun c _=>pzq U) (fun _=>U) (fun _=>U) fun c _=>A [203,54,3,1,84,94,100,102] (fun j _=>?_) zOK))
   refine A [202,19,70] ?_
   refine zCb (T:=tab) 1 U U U U U (A [1,11] ?_)
   refine zC2 2 (A [75,25,72,80] ?_)
   refine zKc (T:=tab) (i:=1) U U U U U U U U (A [3,0,85,202] ?_)
   refine zBd (t:=42) U ?_ ?_
   ·refine vq 3 U (by kernel_rfl) (vS [84,90] [92] [] U U (zCb (T:=tab) 4 U U U U U (pyq U)) U U (vT [84,88,92] [94] [] U U (zNj (T:=tab) (s:=b.1.fields) U U U U U U U fun d _=>pzq U) (fun _=>U) (fun _=>U) fun d _=>A [203,54,3,1,84,94,100,102] (fun k _=>?_) zOK))
    refine A [202,19,70] ?_
    refine zCb (T:=tab) 2 U U U U U (A [1,11] ?_)
    exact zC2 1 (A [75,23,86,62,8])
   ·refine A [211,19,70] ?_
    refine zCb (T:=tab) 2 U U U U U (A [1,11] ?_)
    exact zC2 1 (A [75,23,86,62,8])
  ·refine A [211,19,70] ?_
   refine zCb (T:=tab) 1 U U U U U (A [1,11] ?_)
   refine zC2 2 (A [75,25,72,80] ?_)
   refine zKc (T:=tab) (i:=1) U U U U U U U U (A [3,0,85,213,19,70] ?_)
   refine zCb (T:=tab) 2 U U U U U (A [1,11] ?_)
   exact zC2 1 (A [75,23,86,62,8])
 ·refine zYZ (zSC 4 (A [75,25,68] ?_))
  refine jw (zJS fu f b) [1,3,15,16,17] [1,400150,3] (fun h=>[(4,Y h)]) (fun _=>[]) U U ?_ fun g=>?_
  ·rintro h
   refine A [7,14] ?_
   refine zCb (T:=tab) 1 U U U U U (A [1,11] ?_)
   refine zC2 3 (A [75,25,72,80] ?_)
   refine zKc (T:=tab) (i:=1) U U U U U U U U (A [3,0,71,202] ?_)
   refine zBd (t:=23) U ?_ ?_
   ·refine vq 3 U (by kernel_rfl) (vT [46,50,52] [54] [] U U (zNj (T:=tab) (s:=b.1.fields) U U U U U U U fun o _=>pzq U) (fun _=>U) (fun _=>U) fun o _=>A [203,54,3,1,46,54,60,62] (fun v _=>?_) zQ9)
    refine A [202,19,70] ?_
    refine zCb (T:=tab) 2 U U U U U (A [1,11] ?_)
    refine zC2 2 (A [75,25,72,80] ?_)
    refine zKc (T:=tab) (i:=2) U U U U U U U U (A [3,0,71,202] ?_)
    refine zBd (t:=23) U ?_ ?_
    ·refine vq 3 U (by kernel_rfl) (vT [46,50,52] [54] [] U U (zNj (T:=tab) (s:=b.1.fields) U U U U U U U fun p _=>pzq U) (fun _=>U) (fun _=>U) fun p _=>A [203,54,3,1,46,54,60,62] (fun l _=>?_) zQ9)
     refine A [202,19,70] ?_
     refine zCb (T:=tab) 3 U U U U U (A [1,11] ?_)
     exact zC2 1 (A [75,23,17,45] (e l))
    ·refine A [210,19,70] ?_
     refine zCb (T:=tab) 3 U U U U U (A [1,11] ?_)
     exact zC2 1 (A [75,23,17,45] (e false))
   ·refine A [210,19,70] ?_
    refine zCb (T:=tab) 2 U U U U U (A [1,11] ?_)
    refine zC2 2 (A [75,25,72,80] ?_)
    refine zKc (T:=tab) (i:=2) U U U U U U U U (A [3,0,71,212,19,70] ?_)
    refine zCb (T:=tab) 3 U U U U U (A [1,11] ?_)
    exact zC2 1 (A [75,23,17,45] (e false))
  ·refine A [13,80] ?_
   refine zKc (T:=tab) (i:=0) U U U U U U U U (A [3,0,71,202] ?_)
   refine zBd (t:=23) U ?_ ?_
   ·refine vq 3 U (by kernel_rfl) (vT [46,50,52] [54] [] U U (zNj (T:=tab) (s:=b.1.fields) U U U U U U U fun n _=>pzq U) (fun _=>U) (fun _=>U) fun n _=>A [203,54,3,1,46,54,60,62] (fun q _=>?_) zQ9)
    exact A [202,19,15,45] (g q)
   ·exact A [210,19,15,45] (g false)
def zMT (e:Op) (b d c a:Int):Option (Op×Int):=cnd (decide (a<0)) (some ((⟨0,0,0,0,[],[],false⟩:Op),6)) (cnd (decide (a>=b)) (some ((⟨0,0,0,0,[],[],false⟩:Op),6)) (some (({e with A:=d,B:=c,C:=a}:Op),0)))
def zMS (d:Op) (c a e b:Int) (f:Unit):Option (Op×Int):=cnd (d.C==(-2)) ((zMT d a e b) c) (cnd (d.C==(-3)) ((zMT d a e b) (IntKind.i64.wrap (a - 1))) ((zMT d a e b) d.C))
def zIQ (e:Op) (c b:Int) (g:zCz×Bool) (f a:Int):Option (Op×Int):=bnd (chr g.1.fields 2) fun d=>cnd (d==46) (some (({e with A:=f,B:=a}:Op),0)) (cnd (d==105) (some (({e with A:=f,B:=a}:Op),0)) (cnd (d==111) (cnd (e.C==(-1)) (some (({e with A:=f,B:=a}:Op),0)) ((zMS e c b f a) ())) ((zMS e c b f a) ())))
def zMR (d:Op) (b a:Int) (e:zCz×Bool) (c c11:Int):Option (Op×Int):=cnd (decide (c11<0)) (some ((⟨0,0,0,0,[],[],false⟩:Op),6)) (cnd (decide (c11>=a)) (some ((⟨0,0,0,0,[],[],false⟩:Op),6)) ((zIQ d b a e c) c11))
def zMQ (c:Op) (b a:Int) (e:zCz×Bool) (d:Int) (f:Unit):Option (Op×Int):=cnd (c.B==(-2)) ((zMR c b a e d) b) (cnd (c.B==(-3)) ((zMR c b a e d) (IntKind.i64.wrap (a - 1))) ((zMR c b a e d) c.B))
def zIP (c:Op) (b a:Int) (e:zCz×Bool) (f:Int):Option (Op×Int):=bnd (chr e.1.fields 1) fun d=>cnd (d==46) ((zIQ c b a e f) c.B) (cnd (d==105) ((zIQ c b a e f) c.B) (cnd (d==111) (cnd (c.B==(-1)) ((zIQ c b a e f) c.B) ((zMQ c b a e f) ())) ((zMQ c b a e f) ())))
def zMP (d:Op) (b a:Int) (e:zCz×Bool) (c:Int):Option (Op×Int):=cnd (decide (c<0)) (some ((⟨0,0,0,0,[],[],false⟩:Op),6)) (cnd (decide (c>=a)) (some ((⟨0,0,0,0,[],[],false⟩:Op),6)) ((zIP d b a e) c))
def zMO (c:Op) (b a:Int) (d:zCz×Bool) (e:Unit):Option (Op×Int):=cnd (c.A==(-2)) ((zMP c b a d) b) (cnd (c.A==(-3)) ((zMP c b a d) (IntKind.i64.wrap (a - 1))) ((zMP c b a d) c.A))
def zQW (fu:Nat) (c:Op) (b a:Int):Option (Op×Int):=bnd (zMq fu c) fun f=>cnd (!f) (some ((⟨0,0,0,0,[],[],false⟩:Op),2)) (bnd (zJT fu c.Kind) fun d=>bnd (zIU fu) fun g=>bnd (chr d.1.fields 0) fun e=>cnd (e==46) ((zIP c b a d) c.A) (cnd (e==105) ((zIP c b a d) c.A) (cnd (e==111) (cnd (c.A==(-1)) ((zIP c b a d) c.A) ((zMO c b a d) ())) ((zMO c b a d) ()))))
theorem zZ5 {fu:Nat} {c:Op} {b a:Int}:DD (zQW fu c b a) 37 [.agg (cOp c),Z b,Z a] fun r=>.tup [.agg (cOp r.1),Z r.2]:=by
 refine fcI Tryz.func37 U (A [9,30,3,31,6,57,6,80,41] (fun y _=>?_) zWQ)
 refine A [57,5,4,9,20,92,8,67,99] (fun f _=>?_) zPo
 refine A [3,31,8,92,6,9,43] (fun z _=>?_) zOL [(12,400230),(900000,3)] [400230]
 refine A [2,0,13] ?_
 refine zSC 4 (A [75,25,68] ?_)
 refine jw (zIP c b a f) [1,2,3,6,8,23,24,25] [400230,8,6] (fun _=>[]) (fun e=>[(3,.box 41 [Z c.Kind,Z e,Z c.B,Z c.C,O c.S,O c.T,Y c.Must])]) U U ?_ fun g=>?_
 ·rintro e
  refine A [7,14] ?_
  refine zCb (T:=tab) 1 U U U U U (A [1,11] ?_)
  refine zC2 3 (A [75,25,68] ?_)
  refine jw (zIQ c b a f e) [1,2,3,6,8,23,24,25] [400230,8,6] (fun _=>[]) (fun d=>[(3,.box 41 [Z c.Kind,Z e,Z d,Z c.C,O c.S,O c.T,Y c.Must])]) U U ?_ fun h=>?_
  ·rintro d
   refine A [7,14] ?_
   refine zCb (T:=tab) 2 U U U U U (A [1,11] ?_)
   refine zC2 2 (A [75,25,72,80] ?_)
   refine zKc (T:=tab) (i:=2) U U U U U U U U (A [3,0,6,93] ?_)
   refine zNj (T:=tab) (s:=f.1.fields) U U U U U U U fun w _=>A [57,9] ?_
   refine zM7 (zMS c b a e d) (fun (_:Unit)=>[(1,Z b),(2,Z a),(3,.loc 3 0),(6,.loc 6 0),(8,.loc 8 0),(11,.loc 3 3),(23,.bsl 400230 3),(24,Z 3),(25,Z 2)]) (fun (_:Unit)=>[(3,.box 41 [Z c.Kind,Z e,Z d,Z c.C,O c.S,O c.T,Y c.Must]),(400230,.box 114 [.loc 3 1,.loc 3 2,.loc 3 3]),(8,.box 108 (zQd f.1)),(6,.box 41 [Z 0,Z 0,Z 0,Z 0,O [],O [],Y false])]) ?_ fun t=>?_
   ·rintro _
    refine A [7,6,93,0] ?_
    refine jw (zMT c a e d) [1,2,3,6,8,11,23,24,25] [400230,8,6] (fun _=>[]) (fun o=>[(3,.box 41 [Z c.Kind,Z e,Z d,Z o,O c.S,O c.T,Y c.Must])]) U U ?_ fun n=>?_
    ·rintro o
     refine A [7,9,105,26,68,6,106,65,9,20,92,8,106,0,5,4,9,20,92,8,4,70] ?_
     refine zCb (T:=tab) 3 U U U U U (A [1,11] ?_)
     exact zC2 1 (A [75,23,86,80,92,8])
    ·refine A [13,62] ?_
     refine zAD U ?_ ?_
     ·exact A [14,3,12,11,15,45] (n b)
     ·refine A [62] ?_
      refine zAD U ?_ ?_
      ·refine A [14,2] ?_
       exact zXH (T:=tab) U U U U (A [1,12,11,15,45] (n (IntKind.i64.wrap (a - 1))))
      ·exact A [4,15,45] (n c.C)
   ·refine pq 3 U (zAV (j:=36) U ?_ ?_)
    ·refine A [113,65,86,14] ?_
     refine zCb (T:=tab) 3 U U U U U (A [1,11] ?_)
     exact zC2 1 (A [75,23,86,80,92,8])
    ·refine pq 4 U (zAV (j:=40) U ?_ ?_)
     ·refine A [109,65,86,14] ?_
      refine zCb (T:=tab) 3 U U U U U (A [1,11] ?_)
      exact zC2 1 (A [75,23,86,80,92,8])
     ·refine pq 3 U (zAV (j:=43) U ?_ ?_)
      ·refine A [106,0] ?_
       refine zAD U ?_ ?_
       ·refine A [86,14] ?_
        refine zCb (T:=tab) 3 U U U U U (A [1,11] ?_)
        exact zC2 1 (A [75,23,86,80,92,8])
       ·exact A [4,45] (t ())
      ·exact A [106,11,24,4,45] (t ())
  ·refine A [13,80] ?_
   refine zKc (T:=tab) (i:=1) U U U U U U U U (A [3,0,6,93] ?_)
   refine zNj (T:=tab) (s:=f.1.fields) U U U U U U U fun v _=>A [57,9] ?_
   refine zM7 (zMQ c b a f e) (fun (_:Unit)=>[(1,Z b),(2,Z a),(3,.loc 3 0),(6,.loc 6 0),(8,.loc 8 0),(11,.loc 3 2),(23,.bsl 400230 3),(24,Z 3),(25,Z 1)]) (fun (_:Unit)=>[(3,.box 41 [Z c.Kind,Z e,Z c.B,Z c.C,O c.S,O c.T,Y c.Must]),(400230,.box 114 [.loc 3 1,.loc 3 2,.loc 3 3]),(8,.box 108 (zQd f.1)),(6,.box 41 [Z 0,Z 0,Z 0,Z 0,O [],O [],Y false])]) ?_ fun q=>?_
   ·rintro _
    refine A [7,6,93,0] ?_
    refine jw (zMR c b a f e) [1,2,3,6,8,11,23,24,25] [400230,8,6] (fun _=>[]) (fun k=>[(3,.box 41 [Z c.Kind,Z e,Z k,Z c.C,O c.S,O c.T,Y c.Must])]) U U ?_ fun m=>?_
    ·rintro k
     exact A [7,9,105,26,68,6,106,65,9,20,92,8,106,0,5,4,9,20,92,8,4,15,45] (h k)
    ·refine A [13,62] ?_
     refine zAD U ?_ ?_
     ·exact A [14,3,12,11,15,45] (m b)
     ·refine A [62] ?_
      refine zAD U ?_ ?_
      ·refine A [14,2] ?_
       exact zXH (T:=tab) U U U U (A [1,12,11,15,45] (m (IntKind.i64.wrap (a - 1))))
      ·exact A [4,15,45] (m c.B)
   ·refine pq 3 U (zAV (j:=36) U ?_ ?_)
    ·exact A [113,65,17,45] (h c.B)
    ·refine pq 4 U (zAV (j:=40) U ?_ ?_)
     ·exact A [109,65,17,45] (h c.B)
     ·refine pq 3 U (zAV (j:=43) U ?_ ?_)
      ·refine A [106,0] ?_
       refine zAD U ?_ ?_
       ·exact A [17,45] (h c.B)
       ·exact A [4,45] (q ())
      ·exact A [106,11,24,4,45] (q ())
 ·refine A [13,80] ?_
  refine zKc (T:=tab) (i:=0) U U U U U U U U (A [3,0,6,93] ?_)
  refine zNj (T:=tab) (s:=f.1.fields) U U U U U U U fun x _=>A [57,9] ?_
  refine zM7 (zMO c b a f) (fun (_:Unit)=>[(1,Z b),(2,Z a),(3,.loc 3 0),(6,.loc 6 0),(8,.loc 8 0),(11,.loc 3 1),(23,.bsl 400230 3),(24,Z 3),(25,Z 0)]) (fun (_:Unit)=>[(3,.box 41 (cOp c)),(400230,.box 114 [.loc 3 1,.loc 3 2,.loc 3 3]),(8,.box 108 (zQd f.1)),(6,.box 41 [Z 0,Z 0,Z 0,Z 0,O [],O [],Y false])]) ?_ fun p=>?_
  ·rintro _
   refine A [7,6,93,0] ?_
   refine jw (zMP c b a f) [1,2,3,6,8,11,23,24,25] [400230,8,6] (fun _=>[]) (fun u=>[(3,.box 41 [Z c.Kind,Z u,Z c.B,Z c.C,O c.S,O c.T,Y c.Must])]) U U ?_ fun l=>?_
   ·rintro u
    exact A [7,9,105,26,68,6,106,65,9,20,92,8,106,0,5,4,9,20,92,8,4,15,45] (g u)
   ·refine A [13,62] ?_
    refine zAD U ?_ ?_
    ·exact A [14,3,12,11,15,45] (l b)
    ·refine A [62] ?_
     refine zAD U ?_ ?_
     ·refine A [14,2] ?_
      exact zXH (T:=tab) U U U U (A [1,12,11,15,45] (l (IntKind.i64.wrap (a - 1))))
     ·exact A [4,15,45] (l c.A)
  ·refine pq 3 U (zAV (j:=36) U ?_ ?_)
   ·exact A [113,65,17,45] (g c.A)
   ·refine pq 4 U (zAV (j:=40) U ?_ ?_)
    ·exact A [109,65,17,45] (g c.A)
    ·refine pq 3 U (zAV (j:=43) U ?_ ?_)
     ·refine A [106,0] ?_
      refine zAD U ?_ ?_
      ·exact A [17,45] (g c.A)
      ·exact A [4,45] (p ())
     ·exact A [106,11,24,4,45] (p ())
def zBl (a:Int) (t2:Bool):Option Bool:=cnd t2 (some false) (cnd (decide (a>0)) (some (decide (a<=28))) (some false))
def zEn (_fu:Nat) (a:Int):Option Bool:=cnd (a==1) ((zBl a) (a==1)) (cnd (a==16) ((zBl a) (a==16)) (cnd (a==19) ((zBl a) (a==19)) (cnd (a==20) ((zBl a) (a==20)) (cnd (a==21) ((zBl a) (a==21)) (cnd (a==22) ((zBl a) (a==22)) ((zBl a) (a==25)))))))
theorem zIl {fu:Nat} {a:Int}:DD (zEn fu a) 14 [Z a] fun r=>Y r:=by
 refine fcI Tryz.func14 U (A [75,58,13,6,62] ?_)
 refine jw (zBl a) [0] [] (fun c=>[(4,Y c)]) (fun _=>[]) U U ?_ fun b=>?_
 ·rintro c
  exact A [7,5,1,59,4,69,93,26,14,2,104,74,104,74]
 ·refine zAD U ?_ ?_
  ·exact A [4,45] (b (a==1))
  ·refine A [62] ?_
   refine zAD U ?_ ?_
   ·exact A [4,45] (b (a==16))
   ·refine A [62] ?_
    refine zAD U ?_ ?_
    ·exact A [4,45] (b (a==19))
    ·refine A [62] ?_
     refine zAD U ?_ ?_
     ·exact A [4,45] (b (a==20))
     ·refine A [62] ?_
      refine zAD U ?_ ?_
      ·exact A [4,45] (b (a==21))
      ·refine A [62] ?_
       refine zAD U ?_ ?_
       ·exact A [4,45] (b (a==22))
       ·exact A [14,2,11,45] (b (a==25))
def zFa (_fu:Nat) (a:List Wait):Option (List Wait):=bnd (zDI 24 (([]:List Wait).length+a.length)) fun _=>some (([]:List Wait)++a)
theorem zLW {fu:Nat} {a:List Wait}:FF (zFa fu a) 250 [.sl 2 false (a.map zJ1)] [] [] (fun _=>.own 5) fun r=>[(5,.arr 150 2 (r.map zJ1))]:=by
 refine fcI Tryz.func250 U (A [75,80] ?_)
 refine zII (T:=tab) U U U U U U fun b d=>?_
 cases b
 ·refine A [0,23,67,9] ?_
  exact pl (([]:List Wait).map zJ1) 5 U U U U U U (pq 1 U (pa zJ1 ([]:List Wait) a U U U U U U U U (zVD _) U U U (A [57,8])))
 ·have c:a=[]:=eZ.1 (d rfl)
  exact zKb (m':=some ([]:List Wait)) (by subst c;rfl) (A [0,25,58,56,5,150,2,2,8])
def zJ6 (fu:Nat) (a:Desk) (b:Bs):Option (Desk×Int×Int×Int):=bnd (zHn fu a) fun c=>cnd (!c.2) (some (a,(-1),(-1),1)) (bnd (zCv fu b) fun f=>cnd (!f) (some (a,(-1),(-1),4)) (cnd (a.Next==100000) (some (a,(-1),(-1),3)) (bnd (rng .i64 (a.Next+1)) fun d=>cnd (zK5 c.1.names b) (some (({a with Next:=d}:Desk),a.Next,(zLJ c.1.names b 0),0)) (bnd (zFa fu a.Waits) fun e=>bnd (zDI 24 (e.length+([(⟨b,a.Next⟩:Wait)]:List Wait).length)) fun _=>some (({a with Waits:=(e++[(⟨b,a.Next⟩:Wait)]),Next:=d}:Desk),a.Next,(-1),0)))))
theorem zTa {fu:Nat} {b:Desk} {a:Bs}:DD (zJ6 fu b a) 192 [.agg (zI8 b),O a] fun r=>.tup [.agg (zI8 r.1),Z r.2.1,Z r.2.2.1,Z r.2.2.2]:=by
 refine fcI Tryz.func192 U (A [73,31,4,3,0,80,43] (fun c _=>?_) zMH [(2130,2150),(2131,2151)] [2150,2151])
 refine A [3,31,8,92,93] ?_
 refine zH5 (T:=tab) zJA (fun v=>Z v) c.1.names a 0 Tryz.underlying142 Tryz.underlying9 U U U U U U U U U (A [105,0,6,13,93,0,5,4,80,12,3,74,80,41] (fun f _=>?_) zEe)
 refine A [2,0,5,4,80,12,3,74,76,0,5,4,80,12,3,74,4,69,93,0,61,16] fun e _=>?_
 refine A [1,12,0,6,58,5,4,93,12,3,74,67,61,43] (fun d _=>?_) zLW [(5,2510)] [2510]
 refine A [2,20] ?_
 exact pl ([(⟨a,b.Next⟩:Wait)].map zJ1) 55 U U U U U U (pa zJ1 d ([(⟨a,b.Next⟩:Wait)]:List Wait) U U U U U U U U (zVD _) U U U (A [1,12,0,61,12,3,0,34,2510,8]))
def zCn (_fu:Nat) (a:List Task):Option (List Task):=bnd (zDI 24 (([]:List Task).length+a.length)) fun _=>some (([]:List Task)++a)
theorem zHP {fu:Nat} {a:List Task}:FF (zCn fu a) 193 [.sl 3 false (a.map zJe)] [] [] (fun _=>.own 5) fun r=>[(5,.arr 102 3 (r.map zJe))]:=by
 refine fcI Tryz.func193 U (A [75,80] ?_)
 refine zII (T:=tab) U U U U U U fun b d=>?_
 cases b
 ·refine A [0,23,67,9] ?_
  exact pl (([]:List Task).map zJe) 5 U U U U U U (pq 1 U (pa zJe ([]:List Task) a U U U U U U U U (zRQ _) U U U (A [57,8])))
 ·have c:a=[]:=eZ.1 (d rfl)
  exact zKb (m':=some ([]:List Task)) (by subst c;rfl) (A [0,25,58,56,5,102,3,2,8])
def zIm (fu:Nat) (d:Bs) (b:zAN):Option (Int×zAN):=bnd (zJ6 fu b.World.Desk d) fun a=>cnd (a.2.2.2 != 0) (some (a.2.2.2,b)) (cnd (a.2.2.1 != (-1)) (bnd (zCn fu b.World.Tasks) fun c=>bnd (zDI 24 (c.length+([(⟨2,a.2.1,a.2.2.1⟩:Task)]:List Task).length)) fun _=>some (0,(⟨({b.World with Desk:=a.1,Tasks:=(c++[(⟨2,a.2.1,a.2.2.1⟩:Task)])}:World),a.2.1⟩:zAN))) (some (0,(⟨({b.World with Desk:=a.1}:World),a.2.1⟩:zAN))))
theorem zO8 {fu:Nat} {c:Bs} {b:zAN}:FF (zIm fu c b) 128 [.loc 900000 0,O c] [(900000,.box 99 (zB3 b))] [900000] (fun r=>Z r.1) fun r=>[(900000,.box 99 (zB3 r.2))]:=by
 refine fcI Tryz.func128 U (A [58,9,106,41] (fun a _=>?_) zTa)
 refine A [105,31,5,12,3,0,6,62,5,2,62,8,67,9,107,12,2,12,0,6,62,10,2,67,59,14,106,43] (fun d _=>?_) zHP [(5,2410)] [2410]
 refine A [2,20] ?_
 exact pl ([(⟨2,a.2.1,a.2.2.1⟩:Task)].map zJe) 45 U U U U U U (pa zJe d ([(⟨2,a.2.1,a.2.2.1⟩:Task)]:List Task) U U U U U U U U (zRQ _) U U U (A [3,12,0,58,34,2410,8]))
def zDn (_fu:Nat) (a:Int) (b:Forest):Option Bool:=cnd (decide (a<0)) (some true) (some (decide (a>=(b.Nodes.length:Int))))
theorem zQH {fu:Nat} {b:Int} {a:Forest}:FF (zDn fu b a) 169 [Z b,.loc 900000 0] [(900000,.box 24 (zAE a))] [900000] (fun r=>Y r) fun _=>[(900000,.box 24 (zAE a))]:=by
 exact fcI Tryz.func169 U (A [58,93,26,6,2,107,74,3,35,3,74])
def zAM (b:Int->Option Bool) (a:List Int):Nat->Int->Option Int
 | 0,_=>none
 | k1+1,t3=>cnd (decide (t3<(a.length:Int))) (bnd (idx a t3) fun e=>bnd (b e) fun d=>cnd d (some t3) (bnd (rng .i64 (t3+1)) fun c=>(zAM b a k1) c)) (some (-1))
def zAX (fu:Nat) (b:Int->Option Bool) (a:List Int):Option Int:=(zAM b a) fu 0
theorem zLX {fu:Nat} {b:List Int} {a:Forest}:FF (zAX fu (fun c=>zDn fu c a) b) 227 [.sl 1 false (b.map zAB),.fn (.func 169) [] [.loc 900000 0]] [(900000,.box 24 (zAE a))] [900000] (fun r=>Z r) fun _=>[(900000,.box 24 (zAE a))]:=by
 refine fcI Tryz.func227 U (A [75,80,77,13] ?_)
 refine lw (zAM (fun c=>zDn fu c a) b) [0,1,7] [900000] (fun d=>[(8,Z d)]) (fun _=>[]) fu 0 U U ?_
 rintro f d
 refine A [75,10,2,86,59,72,62,93,36] fun h _=>?_
 refine A [1,44] (fun g _=>?_) zQH [(900000,900000)]
 refine A [0,5,2,62,8,4,94] fun e _=>?_
 exact A [89] (tx e)
def zAd (fu:Nat) (c:Int->Option Bool) (b:List Int):Option Bool:=bnd (zAX fu c b) fun a=>some (decide (a>=0))
theorem zJq {fu:Nat} {b:List Int} {a:Forest}:FF (zAd fu (fun c=>zDn fu c a) b) 156 [.sl 1 false (b.map zAB),.fn (.func 169) [] [.loc 900000 0]] [(900000,.box 24 (zAE a))] [900000] (fun r=>Y r) fun _=>[(900000,.box 24 (zAE a))]:=by
 refine fcI Tryz.func156 U (A [58,61,44] (fun d _=>?_) zLX [(900000,900000)])
 exact A [2,74]
def zB5 (fu:Nat) (a:Forest) (l2:List Int):Option Bool:=bnd (zAs fu a) fun b=>cnd b (bnd (zAd fu (fun d=>zDn fu d a) l2) fun c=>some (!c)) (some false)
theorem zID {fu:Nat} {a:Forest} {l2:List Int}:DD (zB5 fu a l2) 105 [.agg (zAE a),.sl 1 false (l2.map zAB)] fun r=>Y r:=by
 refine fcI Tryz.func105 U (A [73,57,62,80,41] (fun b _=>?_) zA7)
 refine A [1,27,9,2,106,74,2,44] (fun c _=>?_) zJq [(900000,2)]
 exact A [3,74]
def zG3 (l4:List Int) (d:Int) (c:Node) (a:((List Int)×(List Int))->Option (List Int)):Nat->(List Int)->Option (List Int)
 | 0,l10=>cnd (c.Under != (-1)) (bnd (zDI 8 (l10.length+([c.Under]:List Int).length)) fun _=>a ((l4++[d]),(l10++[c.Under]))) (a ((l4++[d]),l10))
 | k2+1,l10=>bnd (c.Kids[k2]?) fun b=>bnd (zDI 8 (l10.length+([b]:List Int).length)) fun _=>(zG3 l4 d c a k2) (l10++[b])
def zEJ (b:Forest):Nat->(List Int)×(List Int)->Option (List Int)
 | 0,_=>none
 | k1+1,(l4,l5)=>cnd (decide ((l5.length:Int)>0)) (bnd (rng .i64 ((l5.length:Int) - 1)) fun c=>bnd (idx l5 c) fun a=>bnd (zGF l5 0 c) fun e=>bnd (zDI 8 (l4.length+([a]:List Int).length)) fun _=>bnd (idx b.Nodes a) fun d=>(zG3 l4 a d (zEJ b k1)) d.Kids.length e) (some l4)
def zDl (fu:Nat) (a:Forest) (b:Int):Option (List Int):=bnd (zB5 fu a [b]) fun c=>cnd (!c) (some ([]:List Int)) ((zEJ a) fu ([],[b]))
theorem zKE {fu:Nat} {f:Forest} {h:Int}:FF (zDl fu f h) 161 [.agg (zAE f),Z h] [] [] (fun _=>.own 1035) fun r=>[(1035,.arr 3 1 (r.map zAB))]:=by
 refine fcI Tryz.func161 U (fun {w0 X X0 σ0 _}=>A [73,57,6,61] ?_)
 refine pl ([h].map zAB) 14 U U U U U U (A [33,14,41] (fun p _=>?_) zID)
 refine A [57,5,7,58,56,1035,3,1,4,8,67,75,80] ?_
 refine pl ([h].map zAB) 18 U U U U U U (A [31,6,12,0,13,56,1035,3,1,5] ?_)
 refine lw (zEJ f) [2,5,6] [6,2] (fun _=>[]) (fun (c,i)=>[(1035,.arr 3 1 (c.map zAB)),(18,.arr 3 1 (i.map zAB))]) fu ([],[h]) U U ?_
 rintro l ⟨c,i⟩
 refine A [6,80,39,57,10,3,86,62,8,72,80,39,16] fun o _=>?_
 refine A [57,61,38] fun d j=>?_
 refine zAv (T:=tab) zAB i d (zAx j) U U U U U U U U (A [57,61] ?_)
 refine zJI (T:=tab) zAB i U U U U U U U U U U U fun m _=>A [12,0,61] ?_
 refine pl ([d].map zAB) 34 U U U U U U (pa zAB c ([d]:List Int) U U U U U U U U (zC1 _) U U U (A [57,93,36] fun e _=>?_))
 refine A [1,31,9,12,0,6,61] ?_
 refine zLq (n:=3043) tab Tryz.func229 U U U U U U U U U U U U ⟨⟨_,U,.rfl⟩,trivial⟩ zWk U U (A [0,13] ?_)
 refine zXJ (T:=tab) (enc:=zAB) (enc':=fun (b:Int)=>Z b) (xs:=e.Kids) (x0:=m) (n:=3043) (tS:=32) (tE:=3) (tI:=3) (tB:=4) (tF:=336) (g:=274) (M:=(zG3 c d e (zEJ f l))) (Sf:=fun (a:(List Int))=>[(9,.box 77 (zAZ e)),(1035,.arr 3 1 ((c++[d]).map zAB)),(18,.arr 3 1 (a.map zAB)),(6,.box 32 [.own 18]),(2,.box 24 (zAE f))]) (N1:=[2,6,9,1035]) (E0:=[(2,.loc 2 0),(5,.own 1035),(6,.loc 6 0),(9,.loc 9 0)]) (E1:=fun k b=>[(2,.loc 2 0),(5,.own 1035),(6,.loc 6 0),(9,.loc 9 0),(44,Z ((k:Nat):Int)),(45,Z b),(11,Z b)]) Tryz.func274 U U U zWl U U (fun _=>U) (fun _=>U) U U ⟨U,U,U,U,trivial⟩ U U ⟨U,U,U,U,U,trivial⟩ U U U U U U ?_ ?_ ?_
 ·rintro k b a hy w0 X X0 σ0 _ _
  refine A [1,11] ?_
  exact zPY ⟨U,U,U,U,U,U,U,trivial⟩ ⟨U,U,U,U,U,trivial⟩ U
 ·rintro k b a hy w0 X X0 σ0 _ _
  exact zQp hy (pq 2 U (pl ([b].map zAB) 48 U U U U U U (pa zAB a ([b]:List Int) U U U U U U U U (zC1 _) U U U (A [12,63] (tx (a++[b]))))))
 ·rintro a
  refine A [69,93,0] ?_
  refine zAD U ?_ ?_
  ·refine A [14,3] ?_
   exact pl ([e.Under].map zAB) 56 U U U U U U (pa zAB a ([e.Under]:List Int) U U U U U U U U (zC1 _) U U U (A [12,11,69,58,14,31,6,12,63] (tx ((c++[d]),(a++[e.Under])))))
  ·exact A [4,69,58,14,31,6,12,63] (tx ((c++[d]),a))
def zT1 (ns:List Node):List Int->Option (List (Int×Node))
 | []=>some []
 | k::l=>bnd (idx ns k) fun x=>bnd (zT1 ns l) fun r=>some (if x.Kind==1 then (k,x)::r else r)
def zMx (fu:Nat) (f:Forest) (n:Int):Option (List (Int×Node)):=bnd (zDl fu f n) fun l=>zT1 f.Nodes l
abbrev heS (f:Forest) (n:Int):zAC:=[(3000001,.box 24 (zAE f)),(3000002,.box 3 [Z n])]
theorem zW0 (f:Forest) (n:Int):FC zRm Tryz.prog 194 [.agg (zAE f),Z n] [] [] fun p a=>p=.fn (.func 251) [] [.loc 3000001 0,.loc 3000002 0]/\a=heS f n:=by
 exact zT3 (m:=some ()) (r:=()) (args:=[.agg (zAE f),Z n]) (S:=[]) (N0:=[]) (post:=fun _ p a=>p=.fn (.func 251) [] [.loc 3000001 0,.loc 3000002 0]/\a=heS f n) Tryz.func194 U U U fun w0 X X0 σ0 _=>zTF (zFU (zR5 3000001 U U U U U U U U U U (zR5 3000002 U U U U U U U U U U (zHb (T:=tab) 1 U U (zGK (zIz (zTF (zFU (zHb (T:=tab) 2 U U (zGK (zIz (zb6 (S':=heS f n) (zF0 ⟨U,U,trivial⟩ U) U U ⟨U,U⟩))))))))))))
abbrev heE (l:Nat) (L:List Int) (i:Nat):Env:=[(0,.fn (.yield l) [] []),(1,.loc 3000001 0),(2,.loc 3000002 0),(9,.sl 1 false (L.map zAB)),(10,Z (L.length:Nat)),(11,Z (i:Nat))]
abbrev heB (x:Node):Nat×Blk:=(6,.box 77 (zAZ x))
theorem he_at {L:List Int} {i:Nat} {y:Int} (h:L[i]? = some y):(bnd (idx L (i:Int)) fun y=>some y)=some y:=by
 unfold idx
 rw [iP (by omega),Int.toNat_natCast,h];rfl
theorem zW1 (fu:Nat) (f:Forest) (n:Int) {ys:List (Int×Node)} (e:zMx fu f n=some ys):zZ4 zRm Tryz.prog 251 (heS f n) [.loc 3000001 0,.loc 3000002 0] (fun y:Int×Node=>[Z y.1,.agg (zAZ y.2)]) ys:=by
 obtain ⟨L,H,G⟩:∃L,zDl fu f n=some L/\zT1 f.Nodes L=some ys:=by
  unfold zMx at e
  cases h:zDl fu f n with
  | none=>rw [h] at e;simp [bnd] at e
  | some L=>rw [h] at e;exact ⟨L,rfl,e⟩
 refine zZO Tryz.func251 U U U fun l J d a w b=>?_
 have C:∀y:Int×Node,∀p∈([Z y.1,.agg (zAZ y.2)]:List PV),names p=[]:=fun y p h=>by
  simp only [List.mem_cons,List.not_mem_nil,or_false] at h
  rcases h with rfl | rfl<;>rfl
 refine wpIn_seq (zTW (ρ := List Int) (m:=bnd (zDl fu f n) fun L=>some L) (r:=L) (E1:=fun L=>heE l L 0) (S1:=fun _=>heS f n) d (fun w0 X X0 σ0 g=>?_) (by rw [H];rfl) b fun a w b=>?_)
 ·refine zFU ?_
  refine zHb (T:=tab) 2 U U ?_
  refine zUW [2090] (enc:=fun (_:(List Int))=>.own 2090) (Sr:=fun (z:(List Int))=>[(2090,.arr 3 1 (z.map zAB))]) (first:=[]) (cap:=[]) (qs:=[.agg (zAE f),Z n]) (Sc:=[]) (N0:=[]) (NR:=[2090]) (fun z v=>zP0 [(1035,2090)] [1035] (zKE _ v) U U U U U U) trivial (fun _=>U) U U U U U U U (fun _=>U) (fun _=>U) U U U ⟨⟨_,U,.rfl⟩,⟨_,U,.rfl⟩,trivial⟩ zWj U U fun z v=>?_
  refine zGf 2090 U U U ?_
  refine zR6 (T:=tab) zAB z U U U U U U U U ?_
  refine zHb (T:=tab) 1 U U ?_
  refine zGK ?_
  exact zQR ⟨U,U,U,U,U,U,trivial⟩ ⟨U,U,trivial⟩ U
 refine wpIn_block (y_loop (n:=L.length) (fun k a w=>∃i zs,i+k=L.length/\zT1 f.Nodes (L.drop i)=some zs/\zRA Tryz.f251 J (some zs) (heE l L i) (heS f n) a w) ?_ ⟨0,ys,by omega,G,b⟩)
 rintro k a w ⟨i,zs,hi,hz,b⟩
 have u:=b.len (t:=9) rfl
 rw [List.length_map] at u
 refine wpIn_seq (zTW (ρ := Unit) (m:=some ()) (r:=()) (E1:=fun _=>(12,Y (decide ((i:Int)<(L.length:Nat))))::heE l L i) (S1:=fun _=>heS f n) d (fun w0 X X0 σ0 g=>?_) U b fun a w b=>?_)
 ·refine zFU ?_
  refine zHb (T:=tab) 1 U U ?_
  refine zGK ?_
  exact zQR ⟨U,U,U,U,U,U,U,trivial⟩ ⟨U,U,trivial⟩ U
 cases k with
 | zero =>
  have B:decide ((i:Int)<(L.length:Nat))=false:=by simp;omega
  rw [B] at b
  have j:L.drop i=[]:=by rw [List.drop_eq_nil_iff];omega
  rw [j] at hz
  cases hz
  refine wpIn_seq (wpIn_cond_false (b.eval U) (wpIn_exit ?_))
  exact .inl ⟨_,_,b⟩
 | succ k =>
  have B:decide ((i:Int)<(L.length:Nat))=true:=by simp;omega
  rw [B] at b
  refine wpIn_seq (wpIn_cond_true (b.eval U) (wpIn_skip ?_))
  have o:i<L.length:=by omega
  obtain ⟨k0,q⟩:∃k0,L[i]? = some k0:=⟨_,lC o⟩
  have j:L.drop i=k0::L.drop (i+1):=by
   rw [List.drop_eq_getElem_cons o]
   rw [lC o] at q
   rw [Option.some.inj q]
  rw [j] at hz
  obtain ⟨x,r,hx,hr,c⟩:∃x r,idx f.Nodes k0=some x/\zT1 f.Nodes (L.drop (i+1))=some r/\zs=(if x.Kind==1 then (k0,x)::r else r):=by
   unfold zT1 at hz
   cases hx:idx f.Nodes k0 with
   | none=>rw [hx] at hz;simp [bnd] at hz
   | some x =>
    cases hr:zT1 f.Nodes (L.drop (i+1)) with
    | none=>rw [hx,hr] at hz;simp [bnd] at hz
    | some r=>rw [hx,hr] at hz;simp only [bnd,Option.some.injEq] at hz;exact ⟨x,r,rfl,rfl,hz.symm⟩
  refine wpIn_seq (wpIn_block (wpIn_seq (zTW (ρ := Int) (m:=bnd (idx L (i:Int)) fun y=>some y) (r:=k0) (E1:=fun k0=>(5,Z k0)::heE l L i) (S1:=fun _=>heS f n) d (fun w0 X X0 σ0 g=>?_) (he_at q) b fun a w b=>?_)))
  ·refine zFU ?_
   refine zE1 (T:=tab) zAB L U U U U U U U fun I D=>?_
   refine zHb (T:=tab) 2 U U ?_
   refine zGK ?_
   exact zQR ⟨U,U,U,U,U,U,U,trivial⟩ ⟨U,U,trivial⟩ U
  refine wpIn_seq (zTW (ρ := Node) (m:=bnd (idx f.Nodes k0) fun x=>some x) (r:=x) (E1:=fun x=>(6,.loc 6 0)::(5,Z k0)::heE l L i) (S1:=fun x=>heB x::heS f n) d (fun w0 X X0 σ0 g=>?_) (by rw [hx];rfl) b fun a w b=>?_)
  ·refine zFU ?_
   refine zHb (T:=tab) 3 U U ?_
   refine zE1 (T:=tab) zAZ f.Nodes U U U U U U U fun I D=>?_
   refine zHb (T:=tab) 1 U U ?_
   refine zFf (T:=tab) 6 U U U U U U U U U ?_
   refine zUU (T:=tab) U U U U U U U U U U U U ?_
   refine zGK ?_
   exact zQR ⟨U,U,U,U,U,U,U,U,trivial⟩ ⟨U,U,U,trivial⟩ U
  refine wpIn_seq (wpIn_region_lit (zct (ρ := Unit) (m:=some ()) (r:=()) (E1:=fun _=>(23,Y (x.Kind==1))::(6,.loc 6 0)::(5,Z k0)::heE l L i) (S1:=fun _=>heB x::heS f n) (l1:=[_,_,_,_]) d (fun w0 X X0 σ0 g=>?_) U U b fun a w b=>?_))
  ·refine zHb (T:=tab) 4 U U ?_
   refine zGK ?_
   exact zQR ⟨U,U,U,U,U,U,U,U,U,trivial⟩ ⟨U,U,U,trivial⟩ U
  cases F:(x.Kind==1) with
  | false =>
   rw [F] at b c
   simp only [Bool.false_eq_true,if_false] at c
   subst c
   refine zct (ρ := Unit) (m:=some ()) (r:=()) (E1:=fun _=>(29,Y false)::heE l L i) (S1:=fun _=>heS f n) (l1:=[_,_,_,_,_,_]) (l2:=[]) d (fun w0 X X0 σ0 g=>?_) U U b fun a w b=>?_
   ·refine zHb (T:=tab) 6 U U ?_
    refine zGK ?_
    exact zQR ⟨U,U,U,U,U,U,U,trivial⟩ ⟨U,U,trivial⟩ U
   refine wpListIn_nil (wpIn_cond_false (b.eval U) (wpIn_skip ?_))
   show (Code.region 5 _ false).wpIn (FR none) 0 Tryz.prog _ a w
   refine zTW (ρ := Int) (m:=bnd (rng .i64 ((i:Int)+1)) fun m=>some m) (r:=((i+1:Nat):Int)) (E1:=fun m=>[(0,.fn (.yield l) [] []),(1,.loc 3000001 0),(2,.loc 3000002 0),(9,.sl 1 false (L.map zAB)),(10,Z (L.length:Nat)),(11,Z m)]) (S1:=fun _=>heS f n) d (fun w0 X X0 σ0 g=>?_) ?_ b fun a w b=>?_
   ·refine zFU ?_
    refine zMj (T:=tab) U U U U fun E s=>?_
    refine zHb (T:=tab) 1 U U ?_
    refine zGK ?_
    exact zQR ⟨U,U,U,U,U,U,trivial⟩ ⟨U,U,trivial⟩ U
   ·unfold rng
    rw [iP (by simp only [Pw.lo,Pw.hi];omega)];rfl
   ·exact ⟨k,U,i+1,zs,by omega,hr,b⟩
  | true =>
   rw [F] at b c
   simp only [if_true] at c
   subst c
   refine zct (ρ := Unit) (m:=some ()) (r:=()) (E1:=fun _=>(24,.fn (.yield l) [] [])::(25,Z k0)::(26,.agg (zAZ x))::(23,Y true)::heE l L i) (S1:=fun _=>heS f n) (l1:=[_,_,_]) d (fun w0 X X0 σ0 g=>?_) U U b fun a w b=>?_
   ·refine zHb (T:=tab) 3 U U ?_
    refine zGK ?_
    exact zQR ⟨U,U,U,U,U,U,U,U,U,U,trivial⟩ ⟨U,U,trivial⟩ U
   refine zhV (y:=(k0,x)) (ys:=r) (E0:=[(23,Y true)]) d b U U ⟨⟨_,U,.rfl⟩,⟨_,U,.rfl⟩,trivial⟩ (C _) U U U ⟨U,trivial⟩ U (fun a w b=>?_) (fun a w b=>?_)
   ·refine zct (ρ := Unit) (m:=some ()) (r:=()) (E1:=fun _=>(29,Y false)::heE l L i) (S1:=fun _=>heS f n) (l1:=[_,_]) (l2:=[]) d (fun w0 X X0 σ0 g=>?_) U U b fun a w b=>?_
    ·refine zHb (T:=tab) 2 U U ?_
     refine zGK ?_
     exact zQR ⟨U,U,U,U,U,U,U,trivial⟩ ⟨U,U,trivial⟩ U
    refine wpListIn_nil (wpIn_cond_false (b.eval U) (wpIn_skip ?_))
    show (Code.region 5 _ false).wpIn (FR none) 0 Tryz.prog _ a w
    refine zTW (ρ := Int) (m:=bnd (rng .i64 ((i:Int)+1)) fun m=>some m) (r:=((i+1:Nat):Int)) (E1:=fun m=>[(0,.fn (.yield l) [] []),(1,.loc 3000001 0),(2,.loc 3000002 0),(9,.sl 1 false (L.map zAB)),(10,Z (L.length:Nat)),(11,Z m)]) (S1:=fun _=>heS f n) d (fun w0 X X0 σ0 g=>?_) ?_ b fun a w b=>?_
    ·refine zFU ?_
     refine zMj (T:=tab) U U U U fun E s=>?_
     refine zHb (T:=tab) 1 U U ?_
     refine zGK ?_
     exact zQR ⟨U,U,U,U,U,U,trivial⟩ ⟨U,U,trivial⟩ U
    ·unfold rng
     rw [iP (by simp only [Pw.lo,Pw.hi];omega)];rfl
    ·exact ⟨k,U,i+1,r,by omega,hr,b⟩
   ·refine zct (ρ := Unit) (m:=some ()) (r:=()) (E1:=fun _=>[(29,Y true)]) (S1:=fun _=>[]) (l1:=[_,_]) (l2:=[]) d (fun w0 X X0 σ0 g=>?_) U U b fun a w b=>?_
    ·refine zHb (T:=tab) 2 U U ?_
     refine zGK ?_
     exact zQR ⟨U,trivial⟩ trivial U
    exact wpListIn_nil (wpIn_cond_true (b.eval U) (wpIn_ret (show YEnd _ J .ret _ _ from .inr ⟨_,_,b⟩)))
def zIJ (c:Desk) (a b:Bs) (r4:zCm×Bool) (e:Unit):Option Int:=cnd (zK5 r4.1.names b) (bnd (idx c.Defs (zLJ r4.1.names b 0)) fun d=>cnd (d.Local==a) (some (zLJ r4.1.names b 0)) (some (-1))) (some (-1))
def zLM (fu:Nat) (d:Desk) (a c:Bs):Option Int:=bnd (zHn fu d) fun b=>cnd (!b.2) (some (-1)) (cnd (zK5 b.1.names a) (bnd (idx d.Defs (zLJ b.1.names a 0)) fun e=>cnd (e.Local==a) (some (zLJ b.1.names a 0)) ((zIJ d a c b) ())) ((zIJ d a c b) ()))
theorem zUs {fu:Nat} {e:Desk} {a b:Bs}:DD (zLM fu e a b) 27 [.agg (zI8 e),O a,O b] fun r=>Z r:=by
 refine fcI Tryz.func27 U (A [9,30,3,57,80,43] (fun d _=>?_) zMH [(2130,2150),(2131,2151)] [2150,2151])
 refine A [3,31,7,92,6,62,5,1,59,68,93] ?_
 refine zH5 (T:=tab) zJA (fun v=>Z v) d.1.names a 0 Tryz.underlying142 Tryz.underlying9 U U U U U U U U U (A [105,0,9] ?_)
 refine zM7 (zIJ e a b d) (fun (_:Unit)=>[(1,O a),(2,O b),(3,.loc 3 0),(7,.loc 7 0)]) (fun (_:Unit)=>[(7,.box 145 [.own 2150,.own 2151]),(2150,.mp (d.1.names.map fun p:Bs×Int=>(zNV p.1,Z p.2))),(2151,.mp (d.1.classes.map fun p:Int×Int=>(zOF .i64 p.1,Z p.2))),(3,.box 29 (zI8 e))]) ?_ fun c=>?_
 ·rintro _
  refine A [7,6,93] ?_
  refine zH5 (T:=tab) zJA (fun v=>Z v) d.1.names b 0 Tryz.underlying142 Tryz.underlying9 U U U U U U U U U (A [105,0,61,27,47,5,109,11,24,67,59,3,36] fun g _=>?_)
  exact A [105,0,5,2,62,8,67,59]
 ·refine pq 2 U (zAV (j:=28) U ?_ ?_)
  ·refine A [3,36] fun f _=>?_
   exact A [105,0,5,2,62,8,4,45] (c ())
  ·exact A [109,11,24,4,45] (c ())
def zJO (fu:Nat) (a:Node) (b:Desk):Option Int:=cnd (a.Kind != 1) (some (-1)) (cnd (a.Doc != 0) (some (-1)) (bnd (zLM fu b a.Name a.Is) fun c=>some c))
theorem zPl {fu:Nat} {b:Node} {a:Desk}:DD (zJO fu b a) 149 [.agg (zAZ b),.agg (zI8 a)] fun r=>Z r:=by
 refine fcI Tryz.func149 U (A [73,30,3,57,6,76,26,8,2,104,83,104,0,5,1,59,67,9,105,41] (fun c _=>?_) zUs)
 exact A [57,8]
def zE6 (fu:Nat) (a:Desk):List (Int×Node)->(List Due)->Option (List Due)
 | [],l4=>some l4
 | y5::ys6,l4=>bnd (zJO fu y5.2 a) fun b=>cnd (b != (-1)) (bnd (zDI 104 (l4.length+([(⟨y5.1,(⟨9,b,[],false,false,[],[],0,0,false⟩:Todo)⟩:Due)]:List Due).length)) fun _=>(zE6 fu a ys6) (l4++[(⟨y5.1,(⟨9,b,[],false,false,[],[],0,0,false⟩:Todo)⟩:Due)])) ((zE6 fu a ys6) l4)
def zJ8 (fu:Nat) (c:Forest) (d:Int) (b:Desk):Option (List Due):=bnd (some ()) fun _=>bnd (zMx fu c d) fun a=>(zE6 fu b) a []
theorem zTd {fu:Nat} {c:Forest} {d:Int} {e:Desk}:FF (zJ8 fu c d e) 129 [.agg (zAE c),Z d,.agg (zI8 e)] [] [] (fun _=>.own 1027) fun r=>[(1027,.arr 171 11 (r.map zJF))]:=by
 refine fcI Tryz.func129 U (fun {w0 X X0 σ0 _}=>A [9,30,3,30,5,57,9,31,7,0,6,61] ?_)
 refine tu [3000001,3000002] (enc:=fun _:Unit=>.fn (.func 251) [] [.loc 3000001 0,.loc 3000002 0]) (Sr:=fun _:Unit=>[(3000001,.box 24 (zAE c)),(3000002,.box 3 [Z d])]) (qs:=[.agg (zAE c),Z d]) (Sc:=[]) (N1:=[]) (NR:=[3000001,3000002]) (fun _ _=>zW0 c d) zft U U U U U U U U fun _ _=>A [0,13] ?_
 refine zJm 1027 171 11 7 0 U U U U U U (pw_bnd fun f g=>zgo (ys0:=f) (p1:=fun y:(Int×Node)=>Z y.1) (p2:=fun y:(Int×Node)=>.agg (zAZ y.2)) (x0:=[]) (Sc:=[(3000001,.box 24 (zAE c)),(3000002,.box 3 [Z d])]) (cp:=[.loc 3000001 0,.loc 3000002 0]) (M:=(zE6 fu e)) (Sf:=fun (b:(List Due))=>[(1027,.arr 171 11 (b.map zJF)),(7,.box 168 [.own 1027]),(5,.box 29 (zI8 e))]) (S1:=fun a (b:(List Due))=>[(9,.box 77 (zAZ a.2)),(1027,.arr 171 11 (b.map zJF)),(7,.box 168 [.own 1027]),(5,.box 29 (zI8 e))]) (SR:=fun r:(List Due)=>[(0,.arr 0 0 [[.junk]])]) (N1:=[5,7]) (E0:=[(5,.loc 5 0),(6,.v (.slice none 0 0)),(7,.loc 7 0)]) (E1:=fun a=>[(5,.loc 5 0),(6,.v (.slice none 0 0)),(7,.loc 7 0),(14,Z a.1),(15,.agg (zAZ a.2)),(8,Z a.1),(9,.loc 9 0)]) (zW1 fu c d g) zfy (fun _=>U) (fun _=>U) U ⟨U,U,trivial⟩ U ⟨U,U,U,trivial⟩ U U ⟨U,U,U,trivial⟩ U U U U ?_ ?_ ?_ ?_)
 ·rintro a b w0 X X0 σ0 _ _
  refine A [58,14,31,9,12,11] ?_
  exact zQR ⟨U,U,U,U,U,U,U,trivial⟩ ⟨U,U,U,U,trivial⟩ U
 ·rintro a i b w0 X X0 σ0 _ _
  refine A [13,99] (fun h _=>?_) zPl
  refine A [57,62] ?_
  refine zAD U ?_ ?_
  ·refine A [14,3,20,20] ?_
   refine pl ([(⟨a.1,(⟨9,h,[],false,false,[],[],0,0,false⟩:Todo)⟩:Due)].map zJF) 26 U U U U U U (pa zJF b ([(⟨a.1,(⟨9,h,[],false,false,[],[],0,0,false⟩:Todo)⟩:Due)]:List Due) U U U U U U U U (zQc _) U U U (A [12,11,15] ?_))
   exact zYS (b++[(⟨a.1,(⟨9,h,[],false,false,[],[],0,0,false⟩:Todo)⟩:Due)]) ⟨U,U,U,trivial⟩ U
  ·refine A [4,15] ?_
   exact zYS b ⟨U,U,U,trivial⟩ U
 ·rintro b
  exact A [69,62,8]
 ·exact fun r=>zeN
def zCo (_fu:Nat) (b:Due) (a:zAN):Option Bool:=bnd (idx a.World.States b.Node) fun c=>some (c.Phase != 1)
theorem zJ5 {fu:Nat} {b:Due} {a:zAN}:FF (zCo fu b a) 131 [.agg (zJF b),.loc 900000 0] [(900000,.box 97 [.loc 900001 0]),(900001,.box 99 (zB3 a))] [900000,900001] (fun r=>Y r) fun _=>[(900000,.box 97 [.loc 900001 0]),(900001,.box 99 (zB3 a))]:=by
 refine fcI Tryz.func131 U (A [73,57,6,52,2,3,1,2,2,900000,900001,53,12,0,1,3,7,15,0,32,127,255,511,1023,2047,207] ?_)
 exact vT [16,20] [22] [] U U (zE1 (T:=tab) zBn a.World.States U U U U U U U fun c _=>pzq U) (fun _=>U) (fun _=>U) fun c _=>A [204,79,8]
def zAb (a:Due->Option Bool) (l1:List Due):Nat->Int->Option Int
 | 0,_=>none
 | k1+1,t3=>cnd (decide (t3<(l1.length:Int))) (bnd (idx l1 t3) fun d=>bnd (a d) fun c=>cnd c (some t3) (bnd (rng .i64 (t3+1)) fun b=>(zAb a l1 k1) b)) (some (-1))
def zAy (fu:Nat) (a:Due->Option Bool) (l1:List Due):Option Int:=(zAb a l1) fu 0
theorem zJt {fu:Nat} {l1:List Due} {a:zAN}:FF (zAy fu (fun c=>zCo fu c a) l1) 195 [.own 900000,.fn (.func 131) [] [.loc 900001 0]] [(900000,.arr 171 11 (l1.map zJF)),(900001,.box 97 [.loc 900002 0]),(900002,.box 99 (zB3 a))] [900000,900001,900002] (fun r=>Z r) fun _=>[(900000,.arr 171 11 (l1.map zJF)),(900001,.box 97 [.loc 900002 0]),(900002,.box 99 (zB3 a))]:=by
 refine fcI Tryz.func195 U (A [75,80,39,57,13] ?_)
 refine lw (zAb (fun c=>zCo fu c a) l1) [0,1,7] [900000,900001,900002] (fun d=>[(8,Z d)]) (fun _=>[]) fu 0 U U ?_
 rintro g d
 refine A [75,10,2,86,59,72,62,93,38] fun f b=>?_
 refine zAv (T:=tab) zJF l1 f (zAx b) U U U U U U U U (A [44] (fun h _=>?_) zJ5 [(900000,900001),(900001,900002)])
 refine A [0,5,2,62,8,4,94] fun e _=>?_
 exact A [89] (tx e)
def zAp (e:Due->Option Bool):Nat->Int×Int×(List Due)->Option (List Due)
 | 0,_=>none
 | k1+1,(i5,j6,l7)=>cnd (decide (j6<(l7.length:Int))) (bnd (idx l7 j6) fun f=>bnd (e f) fun g=>cnd (!g) (bnd (idx l7 i5) fun h=>bnd (rng .i64 (i5+1)) fun a=>bnd (rng .i64 (j6+1)) fun b=>(zAp e k1) (a,b,(l7.set (i5).toNat f))) (bnd (rng .i64 (j6+1)) fun c=>(zAp e k1) (i5,c,l7))) (bnd (zNZ l7.length i5 (l7.length:Int)) fun _=>bnd (ze8 l7.length (i5).toNat ((l7.length:Int)).toNat) fun _=>bnd (zGF (zPw l7 (i5).toNat ((⟨0,(⟨0,0,[],false,false,[],[],0,0,false⟩:Todo)⟩:Due):Due)) 0 i5) fun d=>some d)
def zCl (fu:Nat) (b:Due->Option Bool) (l1:List Due):Option (List Due):=bnd (zAy fu b l1) fun a=>cnd (a==(-1)) (some l1) (bnd (rng .i64 (a+1)) fun c=>(zAp b) fu (a,c,l1))
theorem zJU {fu:Nat} {l1:List Due} {d:zAN}:FF (zCl fu (fun k=>zCo fu k d) l1) 130 [.own 900000,.fn (.func 131) [] [.loc 900001 0]] [(900000,.arr 171 11 (l1.map zJF)),(900001,.box 97 [.loc 900002 0]),(900002,.box 99 (zB3 d))] [900001,900002] (fun _=>.own 900000) fun r=>[(900000,.arr 171 11 (r.map zJF)),(900001,.box 97 [.loc 900002 0]),(900002,.box 99 (zB3 d))]:=by
 refine fcI Tryz.func130 U (A [58,61,44] (fun n _=>?_) zJt [(900000,900000),(900001,900001),(900002,900002)])
 refine A [57,6,62,5,2,62,8,68,80,16] fun l _=>?_
 refine A [57,13] ?_
 refine lw (zAp (fun k=>zCo fu k d)) [0,1] [900001,900002] (fun (b,j6,a)=>[(5,Z b),(6,Z j6)]) (fun (b,j6,a)=>[(900000,.arr 171 11 (a.map zJF))]) fu (n,l,l1) U U ?_
 rintro o ⟨b,j6,a⟩
 refine A [6,61,39,57] ?_
 refine zAD U ?_ ?_
 ·refine A [72,61,38] fun j e=>?_
  refine zAv (T:=tab) zJF a j (zAx e) U U U U U U U U (A [31,7,12,0,61,44] (fun p _=>?_) zJ5 [(900000,900001),(900001,900002)])
  refine A [57] ?_
  refine zAD U ?_ ?_
  ·refine A [93,38] fun i c=>?_
   refine zCk (T:=tab) zJF a i j (zAx c) U U U U U U U U U U U U U (A [0,14,1,16] fun f _=>?_)
   refine A [1,11,70,1,16] fun g _=>?_
   exact A [89] (tx (f,g,(a.set (b).toNat j)))
  ·refine A [4,70,1,16] fun h _=>?_
   exact A [89] (tx (b,h,a))
 ·refine A [86,61] ?_
  refine zOB (T:=tab) (L:=a.length) (.inl U) U U U U (by simp) U U U U U (zN7 (T:=tab) zJF a ((⟨0,(⟨0,0,[],false,false,[],[],0,0,false⟩:Todo)⟩:Due):Due) U U U U U U U U U U U U U U (A [0,61] ?_))
  exact zJI (T:=tab) zJF (zPw a (b).toNat ((⟨0,(⟨0,0,[],false,false,[],[],0,0,false⟩:Todo)⟩:Due):Due)) U U U U U U U U U U U fun m _=>A [57,8]
def zEB (fu:Nat) (b:Due) (a:zAI):Option Bool:=bnd (zET fu a b.Node) fun c=>cnd (!c) (some true) (bnd (zEU fu a b.Todo) fun d=>some (!d))
theorem zPE {fu:Nat} {b:Due} {a:zAI}:FF (zEB fu b a) 219 [.agg (zJF b),.loc 900000 0] [(900000,.box 94 (zBe a.World))] [900000] (fun r=>Y r) fun _=>[(900000,.box 94 (zBe a.World))]:=by
 refine fcI Tryz.func219 U (A [73,57,93,41] (fun c _=>?_) zGt)
 refine A [2,26,9,2,107,74,3,41] (fun d _=>?_) zJc
 exact A [3,74]
theorem zIt {fu:Nat} {b:List Due} {a:zAI}:FF (zAy fu (fun c=>zEB fu c a) b) 195 [.sl 11 false (b.map zJF),.fn (.func 219) [] [.loc 900000 0]] [(900000,.box 94 (zBe a.World))] [900000] (fun r=>Z r) fun _=>[(900000,.box 94 (zBe a.World))]:=by
 refine fcI Tryz.func195 U (A [75,80,77,13] ?_)
 refine lw (zAb (fun c=>zEB fu c a) b) [0,1,7] [900000] (fun d=>[(8,Z d)]) (fun _=>[]) fu 0 U U ?_
 rintro f d
 refine A [75,10,2,86,59,72,62,93,36] fun h _=>?_
 refine A [1,44] (fun g _=>?_) zPE [(900000,900000)]
 refine A [0,5,2,62,8,4,94] fun e _=>?_
 exact A [89] (tx e)
def zCO (fu:Nat) (c:Due->Option Bool) (b:List Due):Option Bool:=bnd (zAy fu c b) fun a=>some (decide (a>=0))
theorem zIo {fu:Nat} {b:List Due} {a:zAI}:FF (zCO fu (fun c=>zEB fu c a) b) 220 [.sl 11 false (b.map zJF),.fn (.func 219) [] [.loc 900000 0]] [(900000,.box 94 (zBe a.World))] [900000] (fun r=>Y r) fun _=>[(900000,.box 94 (zBe a.World))]:=by
 refine fcI Tryz.func220 U (A [58,61,44] (fun d _=>?_) zIt [(900000,900000)])
 exact A [2,74]
def zDw (_fu:Nat) (a:List Todo):Option (List Todo):=bnd (zDI 96 (([]:List Todo).length+a.length)) fun _=>some (([]:List Todo)++a)
theorem zLV {fu:Nat} {a:List Todo}:FF (zDw fu a) 262 [.sl 10 false (a.map zLg)] [] [] (fun _=>.own 5) fun r=>[(5,.arr 80 10 (r.map zLg))]:=by
 refine fcI Tryz.func262 U (A [75,80] ?_)
 refine zII (T:=tab) U U U U U U fun b d=>?_
 cases b
 ·refine A [0,23,67,9] ?_
  exact pl (([]:List Todo).map zLg) 5 U U U U U U (pq 1 U (pa zLg ([]:List Todo) a U U U U U U U U (zVC _) U U U (A [57,8])))
 ·have c:a=[]:=eZ.1 (d rfl)
  exact zKb (m':=some ([]:List Todo)) (by subst c;rfl) (A [0,25,58,56,5,80,10,2,8])
def zMp (fu:Nat) (l1:Line) (c:Int) (f:Todo):Option (Line×Bool×Int):=bnd (zIL fu l1) fun h=>cnd (!h) (some (l1,false,1)) (bnd (zMM fu l1 c) fun i=>cnd (!i) (some (l1,false,1)) (bnd (zKh fu l1) fun a=>bnd (idx a.Todos c) fun k=>bnd (zDw fu k) fun e=>bnd (zDI 96 (e.length+([f]:List Todo).length)) fun _=>bnd (idx a.Todos c) fun l=>bnd (rng .i64 ((a.Stack.length:Int) - 1)) fun b=>cnd (decide (b>=0)) (bnd (idx a.Stack b) fun g=>bnd (zBZ fu g) fun d=>bnd (zDI 8 (d.length+([c]:List Int).length)) fun _=>bnd (idx a.Stack b) fun j=>some (({a with Todos:=(a.Todos.set (c).toNat (e++[f])),Stack:=(a.Stack.set (b).toNat (d++[c]))}:Line),false,0)) (bnd (zDI 8 (a.Back.length+([c]:List Int).length)) fun _=>some ((⟨(a.Todos.set (c).toNat (e++[f])),a.Stack,(a.Back++[c]),true⟩:Line),(!a.Busy),0))))
theorem zWO {fu:Nat} {l1:Line} {d:Int} {h:Todo}:DD (zMp fu l1 d h) 213 [.agg (zRP l1),Z d,.agg (zLg h)] fun r=>.tup [.agg (zRP r.1),Y r.2.1,Z r.2.2]:=by
 refine fcI Tryz.func213 U (A [9,30,3,30,5,31,6,2,0,6,80,41] (fun o _=>?_) zOH)
 refine A [2,26,14,6,105,65,80,12,2,74,2,41] (fun p _=>?_) zSf
 refine A [2,0,5,4,80,12,2,74,67,80,43] (fun a _=>?_) zQ0 [(2050,2220),(2080,2221),(2110,2222)] [2220,2221,2222]
 refine A [12,0,6,52,4,6,1,3,5,6,2220,2221,2222,6,5,3,53,14,0,1,0,0,8,0,56,120,248,0,512,2040,4095,8191,206] ?_
 refine vT [54,56,4441] [58] [] U U (zLD (T:=tab) zDD a.Todos U U U U U U U U fun l e=>pzq U) (fun _=>U) (fun _=>U) fun l e=>vS [58,4441] [60] [] U U (zAv (T:=tab) zDD a.Todos l (zAx e) U U U U U U U U (pyq U)) U U (A [55,1,2,60,62,4621] (fun k _=>?_) zLV [(5,2310)] [2310])
 refine vq 1 U (by kernel_rfl) (vS [64] [66,67] [33] U U (pl ([h].map zLg) 33 U U U U U U (pyq U)) U U (vU [62,66,67,4621] [68,62,4621] [2310] U U (pa zLg k ([h]:List Todo) U U U U U U U U (zVC _) U U U (pyq U)) U U fun _ _=>vT [48,50,4441] [70] [] U U (zLD (T:=tab) zDD a.Todos U U U U U U U U fun m f=>pzq U) (fun _=>U) (fun _=>U) fun m f=>vS [68,70,4441,4621] [68,4621,4441] [] U U (zGf 2310 U U U (zCk (T:=tab) zDD a.Todos m (k++[h]) (zAx f) U U U U U U U U U U U U U (pyq U))) U U (A [79,61,39,16] fun n _=>?_)))
 refine A [57,6,62] ?_
 refine zAD U ?_ ?_
 ·refine A [6,52,4,5,1,3,6,9,2220,2221,2222,6,3,53,14,0,1,0,0,8,0,56,120,248,0,512,2040,4095,8191,206] ?_
  refine vT [92,94,4443] [96] [] U U (zLD (T:=tab) zA1 a.Stack U U U U U U U U fun i b=>pzq U) (fun _=>U) (fun _=>U) fun i b=>vS [96,4443] [98] [] U U (zAv (T:=tab) zA1 a.Stack i (zAx b) U U U U U U U U (pyq U)) U U (A [55,1,2,98,100,5001] (fun g _=>?_) zFG [(5,2500)] [2500])
  exact vq 1 U (by kernel_rfl) (vS [102] [104,105] [52] U U (pl ([d].map zAB) 52 U U U U U U (pyq U)) U U (vU [100,104,105,5001] [106,100,5001] [2500] U U (pa zAB g ([d]:List Int) U U U U U U U U (zC1 _) U U U (pyq U)) U U fun _ _=>vT [86,88,4443] [108] [] U U (zLD (T:=tab) zA1 a.Stack U U U U U U U U fun j c=>pzq U) (fun _=>U) (fun _=>U) fun j c=>vS [106,108,4443,5001] [106,5001,4443] [] U U (zGf 2500 U U U (zCk (T:=tab) zA1 a.Stack j (g++[d]) (zAx c) U U U U U U U U U U U U U (pyq U))) U U (A [79,80,12,2,0,34,2220,34,2221,34,2222,8])))
 ·refine A [67,93] ?_
  exact pl ([d].map zAB) 59 U U U U U U (pa zAB a.Back ([d]:List Int) U U U U U U U U (zC1 _) U U U (A [1,12,0,76,0,80,12,0,61,12,2,0,34,2220,34,2221,34,2222,8]))
def zBj (fu:Nat) (b:List Due) (e:zAI):Nat->Int×(List Task)×(List (List Todo))×(List (List Int))×(List Int)×Bool->Option zAI
 | 0,_=>none
 | k1+1,(t4,d,h,c7,c8,i)=>cnd (decide (t4<(b.length:Int))) (bnd (idx b t4) fun c=>bnd (zMp fu (⟨h,c7,c8,i⟩:Line) c.Node c.Todo) fun a=>cnd a.2.1 (bnd (zDI 24 (d.length+([(⟨1,0,0⟩:Task)]:List Task).length)) fun _=>bnd (rng .i64 (t4+1)) fun f=>(zBj fu b e k1) (f,(d++[(⟨1,0,0⟩:Task)]),a.1.Todos,a.1.Stack,a.1.Back,a.1.Busy)) (bnd (rng .i64 (t4+1)) fun g=>(zBj fu b e k1) (g,d,a.1.Todos,a.1.Stack,a.1.Back,a.1.Busy))) (some (⟨({e.World with Line:=(⟨h,c7,c8,i⟩:Line),Tasks:=d}:World)⟩:zAI))
def zBW (fu:Nat) (b:List Due) (a:zAI):Option zAI:=bnd (zCn fu a.World.Tasks) fun c=>(zBj fu b a) fu (0,c,a.World.Line.Todos,a.World.Line.Stack,a.World.Line.Back,a.World.Line.Busy)
theorem zFr {fu:Nat} {c:List Due} {b:zAI}:FF (zBW fu c b) 146 [.loc 900000 0,.sl 11 false (c.map zJF)] [(900000,.box 94 (zBe b.World))] [900000] (fun _=>.tup []) fun r=>[(900000,.box 94 (zBe r.World))]:=by
 refine fcI Tryz.func146 U (A [9,106,43] (fun l _=>?_) zHP [(5,2150)] [2150])
 refine A [3,12,0,80,77,13] ?_
 refine lw (zBj fu c b) [0,19,20] [] (fun (k,d,e,f,g,h)=>[(21,Z k)]) (fun (k,d,e,f,g,h)=>[(2150,.arr 102 3 (d.map zJe)),(900000,.box 94 ([.sl 10 false (b.World.Forest.Nodes.map zAZ),Z b.World.Forest.Most,.sl 4 false (b.World.States.map zBn)]++zI8 b.World.Desk++[.sl 1 false (e.map zDD),.sl 1 false (f.map zA1),.sl 1 false (g.map zAB),Y h,.own 2150,.sl 2 false (b.World.Builds.map zJd),.sl 5 false (b.World.Classes.map zCA)]))]) fu (0,l,b.World.Line.Todos,b.World.Line.Stack,b.World.Line.Back,b.World.Line.Busy) U U ?_
 rintro n ⟨k,d,e,f,g,h⟩
 refine A [75] ?_
 refine zAD U ?_ ?_
 ·refine A [72,9,36] fun m _=>?_
  refine A [1,31,5,12,0,6,52,5,3,0,19,20,21,5,5,2150,900000,53,18,0,1,3,7,15,0,32,0,128,511,1023,2047,2047,2047,0,20479,57343,131071,209,54,3,1,60,64,68,70] (fun a _=>?_) zWO
  refine vq 4 U (by kernel_rfl) (vS [] [12,13] [6] U U (zFf (T:=tab) 6 U U U U U U U U U (pyq U)) U U (A [50,3,1,12,13,72,13,202,79,9,105,12,0,58] ?_))
  refine zAD U ?_ ?_
  ·refine A [14,106,20] ?_
   refine pl ([(⟨1,0,0⟩:Task)].map zJe) 52 U U U U U U (pa zJe d ([(⟨1,0,0⟩:Task)]:List Task) U U U U U U U U (zRQ _) U U U (A [3,12,11,94] fun i _=>?_))
   exact A [89] (tx (i,(d++[(⟨1,0,0⟩:Task)]),a.1.Todos,a.1.Stack,a.1.Back,a.1.Busy))
  ·refine A [4,94] fun j _=>?_
   exact A [89] (tx (j,d,a.1.Todos,a.1.Stack,a.1.Back,a.1.Busy))
 ·exact zUY U (zbs 2150 U U U (zKZ (T:=tab) U U U ⟨U,U⟩ ⟨U,trivial⟩ U))
def zIF (fu:Nat) (b:World) (a:List Due):Option (World×Int):=bnd (zCt fu (⟨b⟩:zAI)) fun c=>cnd (!c) (some (b,1)) (bnd (zCO fu (fun f=>zEB fu f (⟨b⟩:zAI)) a) fun d=>cnd d (some (b,1)) (bnd (zBW fu a (⟨b⟩:zAI)) fun e=>some (e.World,0)))
theorem zRF {fu:Nat} {b:World} {a:List Due}:DD (zIF fu b a) 150 [.agg (zBe b),.sl 11 false (a.map zJF)] fun r=>.tup [.agg (zBe r.1),Z r.2]:=by
 refine fcI Tryz.func150 U (A [73,31,4,57,80,20,31,6,12,0,62,6,80,41] (fun c _=>?_) zGO)
 refine A [2,26,14,5,104,65,80,92,8,2,44] (fun d _=>?_) zIo [(900000,6)]
 refine A [57,5,3,80,92,8,67,80,43] (fun e _=>?_) zFr [(900000,6)]
 exact A [0,61,92,8]
def zBX (fu:Nat) (a:List Due) (b:zAN):Option (Int×zAN):=bnd (zIF fu b.World a) fun c=>some (c.2,(⟨c.1,b.node⟩:zAN))
theorem zE2 {fu:Nat} {a:List Due} {b:zAN}:FF (zBX fu a b) 87 [.loc 900000 0,.sl 11 false (a.map zJF)] [(900000,.box 99 (zB3 b))] [900000] (fun r=>Z r.1) fun r=>[(900000,.box 99 (zB3 r.2))]:=by
 refine fcI Tryz.func87 U (A [58,9,105,41] (fun c _=>?_) zRF)
 exact A [3,31,5,92,76,12,0,62,8]
def zCW (_fu:Nat) (a:List State):Option (List State):=bnd (zDI 32 (([]:List State).length+a.length)) fun _=>some (([]:List State)++a)
theorem zG5 {fu:Nat} {a:List State}:FF (zCW fu a) 145 [.sl 4 false (a.map zBn)] [] [] (fun _=>.own 5) fun r=>[(5,.arr 53 4 (r.map zBn))]:=by
 refine fcI Tryz.func145 U (A [75,80] ?_)
 refine zII (T:=tab) U U U U U U fun b d=>?_
 cases b
 ·refine A [0,23,67,9] ?_
  exact pl (([]:List State).map zBn) 5 U U U U U U (pq 1 U (pa zBn ([]:List State) a U U U U U U U U (zSl _) U U U (A [57,8])))
 ·have c:a=[]:=eZ.1 (d rfl)
  exact zKb (m':=some ([]:List State)) (by subst c;rfl) (A [0,25,58,56,5,53,4,2,8])
def zHo (fu:Nat) (d:Forest) (b:List State) (c:Desk) (a:List Class):Option (Unit×Bool×(List Node)×Int×(List Def)×(List Wait)×Int×Bool×(List Class)×(List State)×(List Due)):=bnd (zCW fu b) fun e=>cnd ((b.length:Int)==(d.Nodes.length:Int)) (bnd (zAs fu d) fun f=>cnd f (bnd (zGx fu c) fun g=>some ((),g,d.Nodes,d.Most,c.Defs,c.Waits,c.Next,c.Busy,a,e,([]:List Due))) (some ((),false,d.Nodes,d.Most,c.Defs,c.Waits,c.Next,c.Busy,a,e,([]:List Due)))) (some ((),false,d.Nodes,d.Most,c.Defs,c.Waits,c.Next,c.Busy,a,e,([]:List Due)))
theorem zMI {fu:Nat} {d:Forest} {b:List State} {c:Desk} {a:List Class}:FF (zHo fu d b c a) 196 [.agg (zAE d),.sl 4 false (b.map zBn),.agg (zI8 c),.sl 5 false (a.map zCA)] [] [] (fun r=>.tup [.loc 17 0,Y r.2.1]) fun r=>[(17,.box 284 [.sl 10 false (r.2.2.1.map zAZ),Z r.2.2.2.1,.own 2130,.sl 3 false (r.2.2.2.2.1.map zRM),.sl 2 false (r.2.2.2.2.2.1.map zJ1),Z r.2.2.2.2.2.2.1,Y r.2.2.2.2.2.2.2.1,.sl 5 false (r.2.2.2.2.2.2.2.2.1.map zCA),.own 31708]),(2130,.arr 53 4 (r.2.2.2.2.2.2.2.2.2.1.map zBn)),(31708,.arr 171 11 (r.2.2.2.2.2.2.2.2.2.2.map zJF))]:=by
 refine fcI Tryz.func196 U (A [9,30,4,30,6,2,0,6,52,4,2,1,3,4,6,6,4,53,8,0,0,2,0,0,31,63,127,202,55,1,2,24,26,4261] (fun e _=>?_) zG5 [(5,2130)] [2130])
 refine A [202,51,5,1,22,26,28,30,4261,32] ?_
 refine vS [32,4261] [34,35] [17] U U (zR5  17 U U U U U U U U U U (pyq U)) U U (A [201,79,61,35,2,35,2] ?_)
 refine zAV (j:=25) U ?_ ?_
 ·refine A [1,41] (fun f _=>?_) zA7
  refine pq 2 U (zAV (j:=29) U ?_ ?_)
  ·refine A [1,41] (fun g _=>?_) zLN
   refine A [3,0] ?_
   exact zJm 31708 171 11 17 8 U U U U U U rN
  ·refine A [105,0] ?_
   exact zJm 31708 171 11 17 8 U U U U U U rN
 ·refine A [109,0] ?_
  exact zJm 31708 171 11 17 8 U U U U U U rN
def zG2 (_fu:Nat) (a:Node):Option Bool:=cnd (a.Kind==1) (some (a.Name==([102,111,114,109]:Bs))) (some false)
theorem zLS {fu:Nat} {a:Node}:DD (zG2 fu a) 252 [.agg (zAZ a)] fun r=>Y r:=by
 exact fcI Tryz.func252 U (A [9,30,1,57,76,26,6,2,105,74,105,74])
def zIV (_fu:Nat) (a:Forest):Option zMV:=some (⟨a,([]:(List (Int×(List (Bs×Int)))))⟩:zMV)
theorem zOM {fu:Nat} {a:Forest}:FF (zIV fu a) 253 [.agg (zAE a)] [] [] (fun r=>.agg [.sl 10 false (r.Forest.Nodes.map zAZ),Z r.Forest.Most,.own 4]) fun r=>[(4,.mp (r.ids.map fun p:Int×(List (Bs×Int))=>(zOF .i64 p.1,.mpd (p.2.map fun p:Bs×Int=>(zNV p.1,Z p.2)))))]:=by
 refine fcI Tryz.func253 U (A [9,30,1,31,2,0,80] ?_)
 exact zH6 4 U U U U U U U (A [20,12,74])
def zD7 (fu:Nat) (b:Int) (a:zAP):Option Bool:=bnd (zCB fu a b) fun c=>some (!c)
theorem zO9 {fu:Nat} {b:Int} {a:zAP}:FF (zD7 fu b a) 280 [Z b,.loc 900000 0] [(900000,.box 215 (zAE a.Forest))] [900000] (fun r=>Y r) fun _=>[(900000,.box 215 (zAE a.Forest))]:=by
 refine fcI Tryz.func280 U (A [58,99] (fun c _=>?_) zEl)
 exact A [2,74]
theorem zJu {fu:Nat} {b:List Int} {a:zAP}:FF (zAX fu (fun c=>zD7 fu c a) b) 227 [.sl 1 false (b.map zAB),.fn (.func 280) [] [.loc 900000 0]] [(900000,.box 215 (zAE a.Forest))] [900000] (fun r=>Z r) fun _=>[(900000,.box 215 (zAE a.Forest))]:=by
 refine fcI Tryz.func227 U (A [75,80,77,13] ?_)
 refine lw (zAM (fun c=>zD7 fu c a) b) [0,1,7] [900000] (fun d=>[(8,Z d)]) (fun _=>[]) fu 0 U U ?_
 rintro f d
 refine A [75,10,2,86,59,72,62,93,36] fun h _=>?_
 refine A [1,44] (fun g _=>?_) zO9 [(900000,900000)]
 refine A [0,5,2,62,8,4,94] fun e _=>?_
 exact A [89] (tx e)
theorem zIp {fu:Nat} {b:List Int} {a:zAP}:FF (zAd fu (fun c=>zD7 fu c a) b) 156 [.sl 1 false (b.map zAB),.fn (.func 280) [] [.loc 900000 0]] [(900000,.box 215 (zAE a.Forest))] [900000] (fun r=>Y r) fun _=>[(900000,.box 215 (zAE a.Forest))]:=by
 refine fcI Tryz.func156 U (A [58,61,44] (fun d _=>?_) zJu [(900000,900000)])
 exact A [2,74]
def zFX (fu:Nat) (a:Forest) (l2:List Int):Option Bool:=bnd (zCq fu (⟨a⟩:zAP)) fun b=>cnd b (bnd (zAd fu (fun d=>zD7 fu d (⟨a⟩:zAP)) l2) fun c=>some (!c)) (some false)
theorem zMJ {fu:Nat} {a:Forest} {l2:List Int}:DD (zFX fu a l2) 258 [.agg (zAE a),.sl 1 false (l2.map zAB)] fun r=>Y r:=by
 refine fcI Tryz.func258 U (A [73,57,80,20,31,5,12,0,80,41] (fun b _=>?_) zGM)
 refine A [1,27,10,2,106,74,2,44] (fun c _=>?_) zIp [(900000,5)]
 exact A [3,74]
def zGY (a:Forest):Nat->Int->Option Int
 | 0,_=>none
 | k1+1,n3=>bnd (idx a.Nodes n3) fun b=>cnd (b.Parent != (-1)) (bnd (idx a.Nodes n3) fun c=>(zGY a k1) c.Parent) (some n3)
def zLP (fu:Nat) (a:Forest) (b:Int):Option Int:=(zGY a) fu b
theorem zSQ {fu:Nat} {a:Forest} {b:Int}:DD (zLP fu a b) 277 [.agg (zAE a),Z b] fun r=>Z r:=by
 refine fcI Tryz.func277 U (A [73,57,6,13] ?_)
 refine lw (zGY a) [2] [2] (fun c=>[(1,Z c)]) (fun _=>[]) fu b U U ?_
 rintro e c
 refine A [6,93,36] fun f _=>?_
 refine A [3,0,10,3,86,62,8,67,13,14,3,36] fun d _=>?_
 exact A [3,11,15,46] (tx d.Parent)
def zHG (fu:Nat) (a:Forest) (b:Int):Option Int:=bnd (zFX fu a [b]) fun c=>cnd (!c) (some (-1)) (bnd (zLP fu a b) fun d=>some d)
theorem zNc {fu:Nat} {b:Forest} {a:Int}:DD (zHG fu b a) 254 [.agg (zAE b),Z a] fun r=>Z r:=by
 refine fcI Tryz.func254 U (A [73,57,6,61] ?_)
 refine pl ([a].map zAB) 7 U U U U U U (A [33,7,41] (fun c _=>?_) zMJ)
 refine A [57,5,1,59,67,99] (fun d _=>?_) zSQ
 exact A [57,8]
def zEq (l4:List Int) (c:Int) (d:Node) (a:((List Int)×(List Int))->Option (List Int)):Nat->(List Int)->Option (List Int)
 | 0,l10=>a ((l4++[c]),l10)
 | k2+1,l10=>bnd (d.Kids[k2]?) fun b=>bnd (zDI 8 (l10.length+([b]:List Int).length)) fun _=>(zEq l4 c d a k2) (l10++[b])
def zCV (b:Forest):Nat->(List Int)×(List Int)->Option (List Int)
 | 0,_=>none
 | k1+1,(l4,l5)=>cnd (decide ((l5.length:Int)>0)) (bnd (rng .i64 ((l5.length:Int) - 1)) fun c=>bnd (idx l5 c) fun a=>bnd (zGF l5 0 c) fun e=>bnd (zDI 8 (l4.length+([a]:List Int).length)) fun _=>bnd (idx b.Nodes a) fun d=>(zEq l4 a d (zCV b k1)) d.Kids.length e) (some l4)
def zEa (fu:Nat) (a:Forest) (b:Int):Option (List Int):=bnd (zFX fu a [b]) fun c=>cnd (!c) (some ([]:List Int)) ((zCV a) fu ([],[b]))
theorem zJM {fu:Nat} {e:Forest} {f:Int}:FF (zEa fu e f) 204 [.agg (zAE e),Z f] [] [] (fun _=>.own 1034) fun r=>[(1034,.arr 3 1 (r.map zAB))]:=by
 refine fcI Tryz.func204 U (fun {w0 X X0 σ0 _}=>A [73,57,6,61] ?_)
 refine pl ([f].map zAB) 13 U U U U U U (A [33,13,41] (fun p _=>?_) zMJ)
 refine A [57,5,7,58,56,1034,3,1,4,8,67,75,80] ?_
 refine pl ([f].map zAB) 17 U U U U U U (A [31,6,12,0,13,56,1034,3,1,5] ?_)
 refine lw (zCV e) [2,5,6] [6,2] (fun _=>[]) (fun (c,h)=>[(1034,.arr 3 1 (c.map zAB)),(17,.arr 3 1 (h.map zAB))]) fu ([],[f]) U U ?_
 rintro l ⟨c,h⟩
 refine A [6,80,39,57,10,3,86,62,8,72,80,39,16] fun o _=>?_
 refine A [57,61,38] fun d i=>?_
 refine zAv (T:=tab) zAB h d (zAx i) U U U U U U U U (A [57,61] ?_)
 refine zJI (T:=tab) zAB h U U U U U U U U U U U fun m _=>A [12,0,61] ?_
 refine pl ([d].map zAB) 33 U U U U U U (pa zAB c ([d]:List Int) U U U U U U U U (zC1 _) U U U (A [57,93,36] fun k _=>?_))
 refine pq 2 U (zLq (n:=3041) tab Tryz.func229 U U U U U U U U U U U U ⟨⟨_,U,.rfl⟩,trivial⟩ zWk U U (A [0,13] ?_))
 refine zXJ (T:=tab) (enc:=zAB) (enc':=fun (a:Int)=>Z a) (xs:=k.Kids) (x0:=m) (n:=3041) (tS:=32) (tE:=3) (tI:=3) (tB:=4) (tF:=336) (g:=274) (M:=(zEq c d k (zCV e l))) (Sf:=fun (b:(List Int))=>[(1034,.arr 3 1 ((c++[d]).map zAB)),(17,.arr 3 1 (b.map zAB)),(6,.box 32 [.own 17]),(2,.box 24 (zAE e))]) (N1:=[2,6,1034]) (E0:=[(2,.loc 2 0),(5,.own 1034),(6,.loc 6 0)]) (E1:=fun j a=>[(2,.loc 2 0),(5,.own 1034),(6,.loc 6 0),(42,Z ((j:Nat):Int)),(43,Z a),(10,Z a)]) Tryz.func274 U U U zWl U U (fun _=>U) (fun _=>U) U U ⟨U,U,U,trivial⟩ U U ⟨U,U,U,U,trivial⟩ U U U U U U ?_ ?_ ?_
 ·rintro j a b hy w0 X X0 σ0 _ _
  refine A [1,11] ?_
  exact zPY ⟨U,U,U,U,U,U,trivial⟩ ⟨U,U,U,U,trivial⟩ U
 ·rintro j a b hy w0 X X0 σ0 _ _
  exact zQp hy (pq 2 U (pl ([a].map zAB) 46 U U U U U U (pa zAB b ([a]:List Int) U U U U U U U U (zC1 _) U U U (A [12,63] (tx (b++[a]))))))
 ·rintro b
  exact A [15,69,58,14,31,6,12,63] (tx ((c++[d]),b))
def zGU (_fu:Nat) (a:Attr) (b:Bs):Option Bool:=some (a.Name==b)
theorem zQv {fu:Nat} {b:Attr} {a:Bs}:FF (zGU fu b a) 237 [.agg (zD4 b),.loc 900000 0] [(900000,.box 9 [O a])] [900000] (fun r=>Y r) fun _=>[(900000,.box 9 [O a])]:=by
 exact fcI Tryz.func237 U (A [73,57,9,105,74])
theorem zIb {fu:Nat} {b:List Attr} {a:Bs}:FF (zBJ fu (fun c=>zGU fu c a) b) 236 [.sl 2 false (b.map zD4),.fn (.func 237) [] [.loc 900000 0]] [(900000,.box 9 [O a])] [900000] (fun r=>Z r) fun _=>[(900000,.box 9 [O a])]:=by
 refine fcI Tryz.func236 U (A [75,80,77,13] ?_)
 refine lw (zAY (fun c=>zGU fu c a) b) [0,1,7] [900000] (fun d=>[(8,Z d)]) (fun _=>[]) fu 0 U U ?_
 rintro f d
 refine A [75,10,2,86,59,72,62,93,36] fun h _=>?_
 refine A [1,44] (fun g _=>?_) zQv [(900000,900000)]
 refine A [0,5,2,62,8,4,94] fun e _=>?_
 exact A [89] (tx e)
def zJ3 (fu:Nat) (l1:List Attr) (a:Bs):Option Int:=bnd (zBJ fu (fun c=>zGU fu c a) l1) fun b=>some b
theorem zTX {fu:Nat} {l1:List Attr} {a:Bs}:DD (zJ3 fu l1 a) 167 [.sl 2 false (l1.map zD4),O a] fun r=>Z r:=by
 refine fcI Tryz.func167 U (A [9,30,3,57,61,44] (fun b _=>?_) zIb [(900000,3)])
 exact A [57,8]
def zGm (fu:Nat) (l1:List Attr) (b:Bs):Option (Bs×Int×Int):=bnd (zGw fu l1) fun c=>cnd (!c) (some ([],(-1),1)) (bnd (zF5 fu b) fun a=>cnd (a.2 != 0) (some ([],(-1),a.2)) (bnd (zJ3 fu l1 a.1) fun d=>some (a.1,d,0)))
theorem zJ2 {fu:Nat} {l1:List Attr} {a:Bs}:DD (zGm fu l1 a) 101 [.sl 2 false (l1.map zD4),O a] fun r=>.tup [O r.1,Z r.2.1,Z r.2.2]:=by
 refine fcI Tryz.func101 U (A [93,0,6,80,41] (fun b _=>?_) zLL)
 refine A [57,5,2,93,74,67,80,41] (fun c _=>?_) zHs
 refine A [105,0,6,62,5,2,76,74,67,93,41] (fun d _=>?_) zTX
 exact A [3,74]
def zF2 (fu:Nat) (l1:List Attr) (b:Bs):Option (Bs×Bool):=bnd (zGm fu l1 b) fun a=>cnd (decide (a.2.1<0)) (some ([],false)) (bnd (idx l1 a.2.1) fun c=>some (c.Value,true))
theorem zHl {fu:Nat} {l1:List Attr} {a:Bs}:DD (zF2 fu l1 a) 104 [.sl 2 false (l1.map zD4),O a] fun r=>.tup [O r.1,Y r.2]:=by
 refine fcI Tryz.func104 U (A [62,99] (fun b _=>?_) zJ2)
 refine A [107,0,6,62,5,2,62,8,67,61,36] fun c _=>?_
 exact A [104,74]
def zG4 (_fu:Nat) (a:Forest) (b:Int):Option Int:=bnd (idx a.Nodes b) fun c=>cnd (c.Parent != (-1)) (some c.Parent) (bnd (idx a.Nodes b) fun d=>some d.Host)
theorem zNr {fu:Nat} {a:Forest} {b:Int}:DD (zG4 fu a b) 106 [.agg (zAE a),Z b] fun r=>Z r:=by
 refine fcI Tryz.func106 U (A [73,57,6,93,36] fun c _=>?_)
 refine A [3,0,62,5,2,62,8,67,93,36] fun d _=>?_
 exact A [3,74]
def zIW (fu:Nat) (a:Forest):Nat->Int->Option Int
 | 0,_=>none
 | k1+1,n4=>bnd (zG4 fu a n4) fun b=>cnd (b != (-1)) (bnd (zG4 fu a n4) fun c=>(zIW fu a k1) c) (some n4)
def zLT (fu:Nat) (a:Forest) (b:Int):Option Int:=bnd (zB5 fu a [b]) fun c=>cnd (!c) (some (-1)) ((zIW fu a) fu b)
theorem zU0 {fu:Nat} {b:Forest} {a:Int}:DD (zLT fu b a) 59 [.agg (zAE b),Z a] fun r=>Z r:=by
 refine fcI Tryz.func59 U (A [73,57,6,61] ?_)
 refine pl ([a].map zAB) 7 U U U U U U (A [33,7,41] (fun f _=>?_) zID)
 refine A [57,5,1,59,72] ?_
 refine lw (zIW fu b) [2] [2] (fun c=>[(1,Z c)]) (fun _=>[]) fu a U U ?_
 rintro e c
 refine A [6,99] (fun g _=>?_) zNr
 refine A [57,10,3,86,62,8,67,13,14,2,41] (fun d _=>?_) zNr
 exact A [1,11,15,46] (tx d)
def zCH (fu:Nat) (a:Forest) (c:Int):Option Bool:=bnd (zLT fu a c) fun b=>cnd (b != (-1)) (bnd (idx a.Nodes b) fun d=>some (d.Kind==0)) (some false)
theorem zEK {fu:Nat} {a:Forest} {b:Int}:DD (zCH fu a b) 22 [.agg (zAE a),Z b] fun r=>Y r:=by
 refine fcI Tryz.func22 U (A [73,57,99] (fun c _=>?_) zU0)
 refine A [57,93,27,11,2,109,74,3,36] fun d _=>?_
 exact A [105,74]
def zBv (fu:Nat) (a:List Node):Nat->Int->Option Int
 | 0,_=>none
 | k1+1,n6=>cnd (n6 != (-1)) (bnd (idx a n6) fun c=>bnd (zG2 fu c) fun b=>cnd b (some n6) (bnd (idx a n6) fun d=>(zBv fu a k1) d.Parent)) (some (-1))
def zDk (fu:Nat) (a:List Node) (b:Int):Option Int:=bnd (idx a b) fun c=>(zBv fu a) fu c.Parent
theorem zIv {fu:Nat} {a:List Node} {d b:Int} {l4:List (Int×(List (Bs×Int)))}:FF (zDk fu a b) 278 [.agg [.sl 10 false (a.map zAZ),Z d,.own 900000],Z b] [(900000,.mp (l4.map fun p:Int×(List (Bs×Int))=>(zOF .i64 p.1,.mpd (p.2.map fun p:Bs×Int=>(zNV p.1,Z p.2)))))] [900000] (fun r=>Z r) fun _=>[(900000,.mp (l4.map fun p:Int×(List (Bs×Int))=>(zOF .i64 p.1,.mpd (p.2.map fun p:Bs×Int=>(zNV p.1,Z p.2)))))]:=by
 refine fcI Tryz.func278 U (A [73,57,6,76,36] fun e _=>?_)
 refine A [3,0,13] ?_
 refine lw (zBv fu a) [2] [2,900000] (fun c=>[(1,Z c)]) (fun _=>[]) fu e.Parent U U ?_
 rintro g c
 refine A [6,62,10,2,86,59,72,76,36] fun i _=>?_
 refine A [1,41] (fun h _=>?_) zLS
 refine A [0,5,2,62,8,4,70,104,36] fun f _=>?_
 exact A [3,63] (tx f.Parent)
def zBU (fu:Nat) (d:List Node) (a:Int) (l4:List (Int×(List (Bs×Int)))) (c:List Int):Nat->Int×(List (Bs×Int))->Option ((List (Bs×Int))×(List (Int×(List (Bs×Int)))))
 | 0,_=>none
 | k1+1,(t6,l7)=>cnd (decide (t6<(c.length:Int))) (bnd (idx c t6) fun h=>bnd (idx d h) fun i=>bnd (zF2 fu i.Attrs [105,100]) fun b=>cnd b.2 (cnd (!(zK5 l7 b.1)) (bnd (rng .i64 (t6+1)) fun e=>(zBU fu d a l4 c k1) (e,(zG9 l7 b.1 h))) (bnd (rng .i64 (t6+1)) fun f=>(zBU fu d a l4 c k1) (f,l7))) (bnd (rng .i64 (t6+1)) fun g=>(zBU fu d a l4 c k1) (g,l7))) (some (l7,(zG9 l4 a l7)))
def zFF (fu:Nat) (b:List Node) (c a:Int) (l4:List (Int×(List (Bs×Int)))):Option ((List (Bs×Int))×(List (Int×(List (Bs×Int))))):=cnd (zK5 l4 a) (some ((zLJ l4 a ([]:(List (Bs×Int)))),l4)) (bnd (zEa fu (⟨b,c⟩:Forest) a) fun d=>(zBU fu b a l4 d) fu (0,([]:(List (Bs×Int)))))
theorem zNM {fu:Nat} {d:List Node} {i a:Int} {l4:List (Int×(List (Bs×Int)))}:FF (zFF fu d i a l4) 279 [.agg [.sl 10 false (d.map zAZ),Z i,.own 900000],Z a] [(900000,.mp (l4.map fun p:Int×(List (Bs×Int))=>(zOF .i64 p.1,.mpd (p.2.map fun p:Bs×Int=>(zNV p.1,Z p.2)))))] [900000] (fun r=>.mpd (r.1.map fun p:Bs×Int=>(zNV p.1,Z p.2))) fun r=>[(900000,.mp (r.2.map fun p:Int×(List (Bs×Int))=>(zOF .i64 p.1,.mpd (p.2.map fun p:Bs×Int=>(zNV p.1,Z p.2)))))]:=by
 refine fcI Tryz.func279 U (A [73,57,6,93] ?_)
 refine zH5 (T:=tab) (zKJ .i64) (fun v=>.mpd (v.map fun p:Bs×Int=>(zNV p.1,Z p.2))) l4 a ([]:(List (Bs×Int))) Tryz.underlying340 Tryz.underlying3 U U U U U U U U U (A [105,0,58,5,2,62,8,67,9] ?_)
 refine zH6 23 U U U U U U U (A [57,6,93,43] (fun l _=>?_) zJM [(1034,2270)] [2270])
 refine A [33,2270,77,13] ?_
 refine lw (zBU fu d a l4 l) [1,2,7,27,28] [2,900000] (fun (h,b)=>[(29,Z h)]) (fun (h,b)=>[(23,.mp (b.map fun p:Bs×Int=>(zNV p.1,Z p.2)))]) fu (0,([]:(List (Bs×Int)))) U U ?_
 rintro m ⟨h,b⟩
 refine A [75] ?_
 refine zAD U ?_ ?_
 ·refine A [72,9,36] fun k _=>?_
  refine A [2,0,76,36] fun n _=>?_
  refine A [2,41] (fun c _=>?_) zHl
  refine A [105,0,61] ?_
  refine zH5 (T:=tab) zJA (fun v=>Z v) b c.1 0 Tryz.underlying142 Tryz.underlying9 U U U U U U U U U (A [105,0,61] ?_)
  refine zAV (j:=51) U ?_ ?_
  ·refine A [3,0] ?_
   refine zAD U ?_ ?_
   ·refine A [14,3] ?_
    refine zFy zJA (fun v=>Z v) b c.1 k Tryz.underlying142 Tryz.underlying9 U U U U U U U U U (A [11,94] fun e _=>?_)
    exact A [89] (tx (e,(zG9 b c.1 k)))
   ·refine A [4,94] fun f _=>?_
    exact A [89] (tx (f,b))
  ·refine A [3,11,24,4,94] fun g _=>?_
   exact A [89] (tx (g,b))
 ·refine A [86,76] ?_
  exact zZd 23 U U U (zFy (zKJ .i64) (fun v=>.mpd (v.map fun p:Bs×Int=>(zNV p.1,Z p.2))) l4 a b Tryz.underlying340 Tryz.underlying3 U U U U U U U U U (A [0,62,8]))
def zEs (fu:Nat) (b:List Node) (e c:Int) (l4:List (Int×(List (Bs×Int)))):Option (Int×(List (Int×(List (Bs×Int))))):=bnd (idx b c) fun i=>cnd (i.Kind != 1) (some ((-1),l4)) (bnd (zF2 fu i.Attrs [102,111,114,109]) fun d=>cnd (!d.2) (bnd (zDk fu b c) fun k=>some (k,l4)) (bnd (zCH fu (⟨b,e⟩:Forest) c) fun j=>cnd (!j) (bnd (zDk fu b c) fun l=>some (l,l4)) (bnd (zHG fu (⟨b,e⟩:Forest) c) fun f=>bnd (zFF fu b e f l4) fun a=>cnd (!(zK5 a.1 d.1)) (some ((-1),a.2)) (cnd (d.1==([]:Bs)) (some ((-1),a.2)) (bnd (idx b (zLJ a.1 d.1 0)) fun h=>bnd (zG2 fu h) fun g=>cnd (!g) (some ((-1),a.2)) (some ((zLJ a.1 d.1 0),a.2)))))))
theorem zKD {fu:Nat} {b:List Node} {c d:Int} {l4:List (Int×(List (Bs×Int)))}:FF (zEs fu b c d l4) 256 [.agg [.sl 10 false (b.map zAZ),Z c,.own 900000],Z d] [(900000,.mp (l4.map fun p:Int×(List (Bs×Int))=>(zOF .i64 p.1,.mpd (p.2.map fun p:Bs×Int=>(zNV p.1,Z p.2)))))] [900000] (fun r=>Z r.1) fun r=>[(900000,.mp (r.2.map fun p:Int×(List (Bs×Int))=>(zOF .i64 p.1,.mpd (p.2.map fun p:Bs×Int=>(zNV p.1,Z p.2)))))]:=by
 refine fcI Tryz.func256 U (A [73,57,76,36] fun m _=>?_)
 refine A [1,31,5,12,0,6,93,0,5,1,59,67,99] (fun g _=>?_) zHl
 refine A [105,0,6,93] ?_
 refine zAV (j:=26) U ?_ ?_
 ·refine A [106,65,61,44] (fun k _=>?_) zIv [(900000,900000)]
  exact A [57,8]
 ·refine A [3,41] (fun i _=>?_) zEK
  refine A [2,0] ?_
  refine zAD U ?_ ?_
  ·refine A [61,44] (fun l _=>?_) zIv [(900000,900000)]
   exact A [57,8]
  ·refine A [68,52,3,2,1,2,6,2,900000,53,13,0,0,2,0,14,31,0,127,255,511,511,1023,4095,204,54,2,1,78,80,82] (fun e _=>?_) zNc
   refine A [55,3,2,74,82,1800001,84,1800001] (fun a _=>?_) zNM [(900000,900000)]
   refine vq 1 U (by kernel_rfl) (vS [84,86] [88] [] U U (zXG (T:=tab) zJA (fun v=>Z v) a.1 g.1 0 Tryz.underlying142 Tryz.underlying9 U U U U U U U U (pyq U)) U U (A [205,79,6,93,26,49,2,113,83,104,26,53,2,109,83,104,36] fun h _=>?_))
   refine A [1,41] (fun f _=>?_) zLS
   exact A [2,0,5,1,59,67,62,8]
def zA8 (fu:Nat) (f:Int) (b:List Node) (c d:Int) (e:List (Int×(List (Bs×Int)))):Option (Bool×(List (Int×(List (Bs×Int))))):=bnd (zEs fu b c f e) fun a=>some ((a.1 != d),a.2)
theorem zKC {fu:Nat} {e:Int} {a:List Node} {b c:Int} {d:List (Int×(List (Bs×Int)))}:FF (zA8 fu e a b c d) 255 [Z e,.loc 900000 0,.loc 900001 0] [(900000,.box 342 [.sl 10 false (a.map zAZ),Z b,.own 900002]),(900001,.box 3 [Z c]),(900002,.mp (d.map fun p:Int×(List (Bs×Int))=>(zOF .i64 p.1,.mpd (p.2.map fun p:Bs×Int=>(zNV p.1,Z p.2)))))] [900000,900001,900002] (fun r=>Y r.1) fun r=>[(900000,.box 342 [.sl 10 false (a.map zAZ),Z b,.own 900002]),(900001,.box 3 [Z c]),(900002,.mp (r.2.map fun p:Int×(List (Bs×Int))=>(zOF .i64 p.1,.mpd (p.2.map fun p:Bs×Int=>(zNV p.1,Z p.2)))))]:=by
 refine fcI Tryz.func255 U (A [75,52,3,3,0,1,2,900000,900001,900002,53,6,0,0,3,0,15,31,202,55,3,2,10,12,1800005,14,1800005] (fun f _=>?_) zKD [(900000,900002)])
 exact A [203,79,8]
def zBR (c:Int->(List (Int×(List (Bs×Int))))->Option (Bool×(List (Int×(List (Bs×Int)))))) (l1:List Int):Nat->Int×(List (Int×(List (Bs×Int))))->Option (Int×(List (Int×(List (Bs×Int)))))
 | 0,_=>none
 | k1+1,(t6,l7)=>cnd (decide (t6<(l1.length:Int))) (bnd (idx l1 t6) fun d=>bnd (c d l7) fun b=>cnd b.1 (some (t6,b.2)) (bnd (rng .i64 (t6+1)) fun a=>(zBR c l1 k1) (a,b.2))) (some ((-1),l7))
def zEt (fu:Nat) (b:Int->(List (Int×(List (Bs×Int))))->Option (Bool×(List (Int×(List (Bs×Int)))))) (l1:List Int) (a:List (Int×(List (Bs×Int)))):Option (Int×(List (Int×(List (Bs×Int))))):=(zBR b l1) fu (0,a)
end Go.Proofs.YtmfbghpealgaiaaGreatDoor
