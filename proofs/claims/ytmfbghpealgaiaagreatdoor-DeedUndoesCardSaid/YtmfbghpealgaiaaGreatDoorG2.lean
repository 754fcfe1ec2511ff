/- Models and proofs, printed by emit2.py. -/
import Derived.Test.YtmfbghpealgaiaaGreatDoorG1
namespace Go.Proofs.YtmfbghpealgaiaaGreatDoor
open Go Go.Pw
open List renaming map_eq_nil_iff->eZ,getElem?_eq_getElem->lC
set_option maxRecDepth 100000
set_option maxHeartbeats 10000000
set_option linter.unusedVariables false
theorem zQS {fu:Nat} {a:Int}:DD (zJx fu a) 41 [Z a] fun r=>.tup [.agg (zRL r.1),Y r.2]:=by
 refine fcI Tryz.func41 U (A [9,31,2,57,6,58,13,6,62] ?_)
 refine jw (zHM fu a) [0,2,4] [2] (fun g=>[(5,Y g)]) (fun _=>[]) U U ?_ fun b=>?_
 ·rintro g
  refine zJW (zAF U ?_ ?_)
  ·refine A [80,41] (fun p _=>?_) zE7
   exact A [20,92,8]
  ·refine A [6,62] ?_
   refine jw (zIs fu a) [0,2,4] [2] (fun h=>[(13,Y h)]) (fun _=>[]) U U ?_ fun c=>?_
   ·rintro h
    refine zJW (zAF U ?_ ?_)
    ·refine A [80,41] (fun q _=>?_) zE7
     exact A [20,92,8]
    ·refine A [6,62] ?_
     refine jw (zIt fu a) [0,2,4] [2] (fun i=>[(20,Y i)]) (fun _=>[]) U U ?_ fun d=>?_
     ·rintro i
      refine zJW (zAF U ?_ ?_)
      ·refine A [80,41] (fun s _=>?_) zE7
       exact A [20,92,8]
      ·refine A [62] ?_
       refine zAF U ?_ ?_
       ·refine A [80,41] (fun t _=>?_) zE7
        exact A [20,92,8]
       ·refine A [62] ?_
        refine zAF U ?_ ?_
        ·refine A [80,41] (fun u _=>?_) zE7
         exact A [20,92,8]
        ·refine A [62] ?_
         refine zAF U ?_ ?_
         ·refine A [80,41] (fun j _=>?_) zE7
          exact A [20,92,8]
         ·refine A [62] ?_
          refine zAF U ?_ ?_
          ·refine A [80,41] (fun k _=>?_) zE7
           exact A [20,92,8]
          ·refine A [62] ?_
           refine zAF U ?_ ?_
           ·refine A [80,41] (fun l _=>?_) zE7
            exact A [20,92,8]
           ·refine A [62] ?_
            refine zAF U ?_ ?_
            ·refine A [80,41] (fun m _=>?_) zE7
             exact A [20,92,8]
            ·refine A [6,62] ?_
             refine jw (zIu fu a) [0,2] [2] (fun f=>[(57,Y f)]) (fun _=>[]) U U ?_ fun e=>?_
             ·rintro f
              refine zJW (zAF U ?_ ?_)
              ·refine A [80,41] (fun n _=>?_) zE7
               exact A [20,92,8]
              ·refine A [4,69,80,41] (fun o _=>?_) zE7
               exact A [20,3,26,69,3,3,92,8,3,92,8]
             ·refine zAF U ?_ ?_
              ·exact A [4,45] (e (a==20))
              ·refine A [62] ?_
               refine zAF U ?_ ?_
               ·exact A [4,45] (e (a==22))
               ·exact A [14,2,11,45] (e (a==25))
     ·refine zAF U ?_ ?_
      ·exact A [4,45] (d (a==6))
      ·refine A [62] ?_
       refine zAF U ?_ ?_
       ·exact A [4,45] (d (a==8))
       ·exact A [14,2,11,45] (d (a==26))
   ·refine zAF U ?_ ?_
    ·exact A [4,45] (c (a==3))
    ·refine A [62] ?_
     refine zAF U ?_ ?_
     ·exact A [4,45] (c (a==10))
     ·exact A [14,2,11,45] (c (a==24))
 ·refine zAF U ?_ ?_
  ·exact A [4,45] (b (a==1))
  ·refine A [62] ?_
   refine zAF U ?_ ?_
   ·exact A [4,45] (b (a==2))
   ·refine A [62] ?_
    refine zAF U ?_ ?_
    ·exact A [4,45] (b (a==9))
    ·exact A [14,2,11,45] (b (a==28))
def zIv (_fu:Nat):Option Unit:=some ()
theorem zOs {fu:Nat} {a:Op}:FF (zIv fu) 42 [.loc 900000 0] [(900000,.box 41 (cOp a))] [900000] (fun _=>.bsl 12 3) fun _=>[(900000,.box 41 (cOp a)),(12,.box 114 [.loc 900000 1,.loc 900000 2,.loc 900000 3])]:=by
 refine fcI Tryz.func42 U (A [75,52,1,1,0,900000,53,11,0,1,3,0,8,24,0,64,192,511,1023,209] ?_)
 exact vS [10,16,22,1800001] [24,25] [12] U U (zcv (T:=tab) 12 U U U U U U U U U U U U U U (pyq U)) U U (A [201,79,8])
def zMv (a:Int) (b:Unit):Option Bool:=cnd (a==(-2)) (some true) (cnd (a==(-3)) (some true) (cnd (decide (a>=0)) (some (decide (a<400))) (some false)))
def zNG (_fu:Nat) (a b:Int):Option Bool:=cnd (a==111) (cnd (b==(-1)) (some true) ((zMv b) ())) (cnd (a==110) ((zMv b) ()) (cnd (a==105) (cnd (decide (b>=(-1000))) (some (decide (b<=1000))) (some false)) (some (b==0))))
theorem zRu {fu:Nat} {a c:Int}:DD (zNG fu a c) 43 [.v (.int .u8 a),Z c] fun r=>Y r:=by
 refine fcI Tryz.func43 U (A [75,58,13,6,13,6] ?_)
 refine jw (zMv c) [1] [] (fun _=>[]) (fun _=>[]) U U ?_ fun b=>?_
 ·rintro _
  exact A [7,6,93,26,16,2,112,74,104,26,20,2,108,74,3,26,23,2,105,74,105,74]
 ·refine A [13,6,13,6,6,62] ?_
  refine zAF U ?_ ?_
  ·exact A [86,62,5,1,59,4,15,45] (b ())
  ·exact A [68,62,10,18,67,62,5,10,86,6,93,26,30,2,104,74,104,74,67,86,93,74,17,45] (b ())
def zNH (_fu:Nat):Option Unit:=some ()
theorem zXI {fu:Nat} {a:Op}:FF (zNH fu) 44 [.loc 900000 0] [(900000,.box 41 (cOp a))] [900000] (fun _=>.bsl 9 2) fun _=>[(900000,.box 41 (cOp a)),(9,.box 118 [.loc 900000 4,.loc 900000 5])]:=by
 refine fcI Tryz.func44 U (A [75,52,1,1,0,900000,53,8,0,1,3,0,8,24,63,127,206] ?_)
 exact vS [10,16,1800001] [18,19] [9] U U (zcv (T:=tab) 9 U U U U U U U U U U U U U U (pyq U)) U U (A [201,79,8])
def zF8 (fu:Nat) (a:Int) (b:Bs):Option Bool:=cnd (a==115) (cnd (decide ((b.length:Int)<=200)) (bnd (zEd fu b [10]) fun c=>some (!c)) (some false)) (some (b==([]:Bs)))
theorem zOr {fu:Nat} {a:Int} {b:Bs}:DD (zF8 fu a b) 45 [.v (.int .u8 a),O b] fun r=>Y r:=by
 refine fcI Tryz.func45 U (A [75,62,10,3,67,93,74,76,27,10,2,105,74,1,41] (fun c _=>?_) zJ3)
 exact A [3,74]
def zIJ (fu:Nat) (f:Op) (g:zDI×Bool) (a:Bool):Option Bool:=bnd (zNH fu) fun h=>cnd a (bnd (chr g.1.fields 3) fun b=>bnd (zF8 fu b f.S) fun d=>cnd d (bnd (chr g.1.fields 4) fun c=>bnd (zF8 fu c f.T) fun e=>some e) (some false)) (some false)
def zJw (fu:Nat) (a:Op) (b:zDI×Bool) (c:Bool):Option Bool:=cnd c (bnd (chr b.1.fields 1) fun e=>bnd (zNG fu e a.B) fun g=>cnd g (bnd (chr b.1.fields 2) fun f=>bnd (zNG fu f a.C) fun d=>(zIJ fu a b) d) ((zIJ fu a b) false)) ((zIJ fu a b) false)
def zNF (fu:Nat) (a:Op):Option Bool:=bnd (zJx fu a.Kind) fun b=>bnd (zIv fu) fun e=>cnd b.2 (bnd (chr b.1.fields 0) fun c=>bnd (zNG fu c a.A) fun d=>(zJw fu a b) d) ((zJw fu a b) false)
theorem zXH {fu:Nat} {f:Op}:DD (zNF fu f) 15 [.agg (cOp f)] fun r=>Y r:=by
 refine fcI Tryz.func15 U (A [9,30,1,57,99] (fun b _=>?_) zQS)
 refine A [3,31,3,92,6,9,43] (fun u _=>?_) zOs [(12,400150),(900000,1)] [400150]
 refine A [2,0] ?_
 refine jw (zIJ fu f b) [1,3] [1,3] (fun a=>[(4,Y a)]) (fun _=>[]) U U ?_ fun e=>?_
 ·rintro a
  refine zho (m':=bnd (zNH fu) fun m=>cnd a (bnd (chr b.1.fields 3) fun c=>bnd (zF8 fu c f.S) fun j=>cnd j (bnd (chr b.1.fields 4) fun d=>bnd (zF8 fu d f.T) fun k=>some k) (some false)) (some false)) U (A [7,6,9,43] (fun m _=>?_) zXI [(9,400340),(900000,1)] [400340])
  refine A [2,0,13] ?_
  refine zSt 3 (A [75,25,72,80] ?_)
  refine zK5 (T:=tab) (i:=0) U U U U U U U U (A [3,0,85,202] ?_)
  refine zBU (t:=42) U ?_ ?_
  ·refine vq 3 U (by kernel_rfl) (vS [84,90] [92] [] U U (zCl (T:=tab) 3 U U U U U (pyq U)) U U (vT [84,88,92] [94] [] U U (zOB (T:=tab) (s:=b.1.fields) U U U U U U U fun c _=>pzq U) (fun _=>U) (fun _=>U) fun c _=>A [203,54,3,1,84,94,100,102] (fun j _=>?_) zOr))
   refine A [202,19,70] ?_
   refine zCl (T:=tab) 1 U U U U U (A [1,11] ?_)
   refine zDL 2 (A [75,25,72,80] ?_)
   refine zK5 (T:=tab) (i:=1) U U U U U U U U (A [3,0,85,202] ?_)
   refine zBU (t:=42) U ?_ ?_
   ·refine vq 3 U (by kernel_rfl) (vS [84,90] [92] [] U U (zCl (T:=tab) 4 U U U U U (pyq U)) U U (vT [84,88,92] [94] [] U U (zOB (T:=tab) (s:=b.1.fields) U U U U U U U fun d _=>pzq U) (fun _=>U) (fun _=>U) fun d _=>A [203,54,3,1,84,94,100,102] (fun k _=>?_) zOr))
    refine A [202,19,70] ?_
    refine zCl (T:=tab) 2 U U U U U (A [1,11] ?_)
    exact zDL 1 (A [75,23,86,62,8])
   ·refine A [211,19,70] ?_
    refine zCl (T:=tab) 2 U U U U U (A [1,11] ?_)
    exact zDL 1 (A [75,23,86,62,8])
  ·refine A [211,19,70] ?_
   refine zCl (T:=tab) 1 U U U U U (A [1,11] ?_)
   refine zDL 2 (A [75,25,72,80] ?_)
   refine zK5 (T:=tab) (i:=1) U U U U U U U U (A [3,0,85,213,19,70] ?_)
   refine zCl (T:=tab) 2 U U U U U (A [1,11] ?_)
   exact zDL 1 (A [75,23,86,62,8])
 ·refine zZR (zSt 4 (A [75,25,68] ?_))
  refine jw (zJw fu f b) [1,3,15,16,17] [1,400150,3] (fun h=>[(4,Y h)]) (fun _=>[]) U U ?_ fun g=>?_
  ·rintro h
   refine A [7,14] ?_
   refine zCl (T:=tab) 1 U U U U U (A [1,11] ?_)
   refine zDL 3 (A [75,25,72,80] ?_)
   refine zK5 (T:=tab) (i:=1) U U U U U U U U (A [3,0,71,202] ?_)
   refine zBU (t:=23) U ?_ ?_
   ·refine vq 3 U (by kernel_rfl) (vT [46,50,52] [54] [] U U (zOB (T:=tab) (s:=b.1.fields) U U U U U U U fun o _=>pzq U) (fun _=>U) (fun _=>U) fun o _=>A [203,54,3,1,46,54,60,62] (fun v _=>?_) zRu)
    refine A [202,19,70] ?_
    refine zCl (T:=tab) 2 U U U U U (A [1,11] ?_)
    refine zDL 2 (A [75,25,72,80] ?_)
    refine zK5 (T:=tab) (i:=2) U U U U U U U U (A [3,0,71,202] ?_)
    refine zBU (t:=23) U ?_ ?_
    ·refine vq 3 U (by kernel_rfl) (vT [46,50,52] [54] [] U U (zOB (T:=tab) (s:=b.1.fields) U U U U U U U fun p _=>pzq U) (fun _=>U) (fun _=>U) fun p _=>A [203,54,3,1,46,54,60,62] (fun l _=>?_) zRu)
     refine A [202,19,70] ?_
     refine zCl (T:=tab) 3 U U U U U (A [1,11] ?_)
     exact zDL 1 (A [75,23,17,45] (e l))
    ·refine A [210,19,70] ?_
     refine zCl (T:=tab) 3 U U U U U (A [1,11] ?_)
     exact zDL 1 (A [75,23,17,45] (e false))
   ·refine A [210,19,70] ?_
    refine zCl (T:=tab) 2 U U U U U (A [1,11] ?_)
    refine zDL 2 (A [75,25,72,80] ?_)
    refine zK5 (T:=tab) (i:=2) U U U U U U U U (A [3,0,71,212,19,70] ?_)
    refine zCl (T:=tab) 3 U U U U U (A [1,11] ?_)
    exact zDL 1 (A [75,23,17,45] (e false))
  ·refine A [13,80] ?_
   refine zK5 (T:=tab) (i:=0) U U U U U U U U (A [3,0,71,202] ?_)
   refine zBU (t:=23) U ?_ ?_
   ·refine vq 3 U (by kernel_rfl) (vT [46,50,52] [54] [] U U (zOB (T:=tab) (s:=b.1.fields) U U U U U U U fun n _=>pzq U) (fun _=>U) (fun _=>U) fun n _=>A [203,54,3,1,46,54,60,62] (fun q _=>?_) zRu)
    exact A [202,19,15,45] (g q)
   ·exact A [210,19,15,45] (g false)
def zMu (e:Op) (b d c a:Int):Option (Op×Int):=cnd (decide (a<0)) (some ((⟨0,0,0,0,[],[],false⟩:Op),6)) (cnd (decide (a>=b)) (some ((⟨0,0,0,0,[],[],false⟩:Op),6)) (some (({e with A:=d,B:=c,C:=a}:Op),0)))
def zMt (d:Op) (c a e b:Int) (f:Unit):Option (Op×Int):=cnd (d.C==(-2)) ((zMu d a e b) c) (cnd (d.C==(-3)) ((zMu d a e b) (IntKind.i64.wrap (a - 1))) ((zMu d a e b) d.C))
def zIr (e:Op) (c b:Int) (g:zDI×Bool) (f a:Int):Option (Op×Int):=bnd (chr g.1.fields 2) fun d=>cnd (d==46) (some (({e with A:=f,B:=a}:Op),0)) (cnd (d==105) (some (({e with A:=f,B:=a}:Op),0)) (cnd (d==111) (cnd (e.C==(-1)) (some (({e with A:=f,B:=a}:Op),0)) ((zMt e c b f a) ())) ((zMt e c b f a) ())))
def zMs (d:Op) (b a:Int) (e:zDI×Bool) (c c11:Int):Option (Op×Int):=cnd (decide (c11<0)) (some ((⟨0,0,0,0,[],[],false⟩:Op),6)) (cnd (decide (c11>=a)) (some ((⟨0,0,0,0,[],[],false⟩:Op),6)) ((zIr d b a e c) c11))
def zMr (c:Op) (b a:Int) (e:zDI×Bool) (d:Int) (f:Unit):Option (Op×Int):=cnd (c.B==(-2)) ((zMs c b a e d) b) (cnd (c.B==(-3)) ((zMs c b a e d) (IntKind.i64.wrap (a - 1))) ((zMs c b a e d) c.B))
def zIq (c:Op) (b a:Int) (e:zDI×Bool) (f:Int):Option (Op×Int):=bnd (chr e.1.fields 1) fun d=>cnd (d==46) ((zIr c b a e f) c.B) (cnd (d==105) ((zIr c b a e f) c.B) (cnd (d==111) (cnd (c.B==(-1)) ((zIr c b a e f) c.B) ((zMr c b a e f) ())) ((zMr c b a e f) ())))
def zMq (d:Op) (b a:Int) (e:zDI×Bool) (c:Int):Option (Op×Int):=cnd (decide (c<0)) (some ((⟨0,0,0,0,[],[],false⟩:Op),6)) (cnd (decide (c>=a)) (some ((⟨0,0,0,0,[],[],false⟩:Op),6)) ((zIq d b a e) c))
def zMp (c:Op) (b a:Int) (d:zDI×Bool) (e:Unit):Option (Op×Int):=cnd (c.A==(-2)) ((zMq c b a d) b) (cnd (c.A==(-3)) ((zMq c b a d) (IntKind.i64.wrap (a - 1))) ((zMq c b a d) c.A))
def zRE (fu:Nat) (c:Op) (b a:Int):Option (Op×Int):=bnd (zNF fu c) fun f=>cnd (!f) (some ((⟨0,0,0,0,[],[],false⟩:Op),2)) (bnd (zJx fu c.Kind) fun d=>bnd (zIv fu) fun g=>bnd (chr d.1.fields 0) fun e=>cnd (e==46) ((zIq c b a d) c.A) (cnd (e==105) ((zIq c b a d) c.A) (cnd (e==111) (cnd (c.A==(-1)) ((zIq c b a d) c.A) ((zMp c b a d) ())) ((zMp c b a d) ()))))
theorem za1 {fu:Nat} {c:Op} {b a:Int}:DD (zRE fu c b a) 37 [.agg (cOp c),Z b,Z a] fun r=>.tup [.agg (cOp r.1),Z r.2]:=by
 refine fcI Tryz.func37 U (A [9,30,3,31,6,57,6,80,41] (fun y _=>?_) zXH)
 refine A [57,5,4,9,20,92,8,67,99] (fun f _=>?_) zQS
 refine A [3,31,8,92,6,9,43] (fun z _=>?_) zOs [(12,400230),(900000,3)] [400230]
 refine A [2,0,13] ?_
 refine zSt 4 (A [75,25,68] ?_)
 refine jw (zIq c b a f) [1,2,3,6,8,23,24,25] [400230,8,6] (fun _=>[]) (fun e=>[(3,.box 41 [Z c.Kind,Z e,Z c.B,Z c.C,O c.S,O c.T,Y c.Must])]) U U ?_ fun g=>?_
 ·rintro e
  refine A [7,14] ?_
  refine zCl (T:=tab) 1 U U U U U (A [1,11] ?_)
  refine zDL 3 (A [75,25,68] ?_)
  refine jw (zIr c b a f e) [1,2,3,6,8,23,24,25] [400230,8,6] (fun _=>[]) (fun d=>[(3,.box 41 [Z c.Kind,Z e,Z d,Z c.C,O c.S,O c.T,Y c.Must])]) U U ?_ fun h=>?_
  ·rintro d
   refine A [7,14] ?_
   refine zCl (T:=tab) 2 U U U U U (A [1,11] ?_)
   refine zDL 2 (A [75,25,72,80] ?_)
   refine zK5 (T:=tab) (i:=2) U U U U U U U U (A [3,0,6,93] ?_)
   refine zOB (T:=tab) (s:=f.1.fields) U U U U U U U fun w _=>A [57,9] ?_
   refine zNT (zMt c b a e d) (fun (_:Unit)=>[(1,Z b),(2,Z a),(3,.loc 3 0),(6,.loc 6 0),(8,.loc 8 0),(11,.loc 3 3),(23,.bsl 400230 3),(24,Z 3),(25,Z 2)]) (fun (_:Unit)=>[(3,.box 41 [Z c.Kind,Z e,Z d,Z c.C,O c.S,O c.T,Y c.Must]),(400230,.box 114 [.loc 3 1,.loc 3 2,.loc 3 3]),(8,.box 108 (zRL f.1)),(6,.box 41 [Z 0,Z 0,Z 0,Z 0,O [],O [],Y false])]) ?_ fun t=>?_
   ·rintro _
    refine A [7,6,93,0] ?_
    refine jw (zMu c a e d) [1,2,3,6,8,11,23,24,25] [400230,8,6] (fun _=>[]) (fun o=>[(3,.box 41 [Z c.Kind,Z e,Z d,Z o,O c.S,O c.T,Y c.Must])]) U U ?_ fun n=>?_
    ·rintro o
     refine A [7,9,105,26,68,6,106,65,9,20,92,8,106,0,5,4,9,20,92,8,4,70] ?_
     refine zCl (T:=tab) 3 U U U U U (A [1,11] ?_)
     exact zDL 1 (A [75,23,86,80,92,8])
    ·refine A [13,62] ?_
     refine zAF U ?_ ?_
     ·exact A [14,3,12,11,15,45] (n b)
     ·refine A [62] ?_
      refine zAF U ?_ ?_
      ·refine A [14,2] ?_
       exact zYB (T:=tab) U U U U (A [1,12,11,15,45] (n (IntKind.i64.wrap (a - 1))))
      ·exact A [4,15,45] (n c.C)
   ·refine pq 3 U (zAY (j:=36) U ?_ ?_)
    ·refine A [113,65,86,14] ?_
     refine zCl (T:=tab) 3 U U U U U (A [1,11] ?_)
     exact zDL 1 (A [75,23,86,80,92,8])
    ·refine pq 4 U (zAY (j:=40) U ?_ ?_)
     ·refine A [109,65,86,14] ?_
      refine zCl (T:=tab) 3 U U U U U (A [1,11] ?_)
      exact zDL 1 (A [75,23,86,80,92,8])
     ·refine pq 3 U (zAY (j:=43) U ?_ ?_)
      ·refine A [106,0] ?_
       refine zAF U ?_ ?_
       ·refine A [86,14] ?_
        refine zCl (T:=tab) 3 U U U U U (A [1,11] ?_)
        exact zDL 1 (A [75,23,86,80,92,8])
       ·exact A [4,45] (t ())
      ·exact A [106,11,24,4,45] (t ())
  ·refine A [13,80] ?_
   refine zK5 (T:=tab) (i:=1) U U U U U U U U (A [3,0,6,93] ?_)
   refine zOB (T:=tab) (s:=f.1.fields) U U U U U U U fun v _=>A [57,9] ?_
   refine zNT (zMr c b a f e) (fun (_:Unit)=>[(1,Z b),(2,Z a),(3,.loc 3 0),(6,.loc 6 0),(8,.loc 8 0),(11,.loc 3 2),(23,.bsl 400230 3),(24,Z 3),(25,Z 1)]) (fun (_:Unit)=>[(3,.box 41 [Z c.Kind,Z e,Z c.B,Z c.C,O c.S,O c.T,Y c.Must]),(400230,.box 114 [.loc 3 1,.loc 3 2,.loc 3 3]),(8,.box 108 (zRL f.1)),(6,.box 41 [Z 0,Z 0,Z 0,Z 0,O [],O [],Y false])]) ?_ fun q=>?_
   ·rintro _
    refine A [7,6,93,0] ?_
    refine jw (zMs c b a f e) [1,2,3,6,8,11,23,24,25] [400230,8,6] (fun _=>[]) (fun k=>[(3,.box 41 [Z c.Kind,Z e,Z k,Z c.C,O c.S,O c.T,Y c.Must])]) U U ?_ fun m=>?_
    ·rintro k
     exact A [7,9,105,26,68,6,106,65,9,20,92,8,106,0,5,4,9,20,92,8,4,15,45] (h k)
    ·refine A [13,62] ?_
     refine zAF U ?_ ?_
     ·exact A [14,3,12,11,15,45] (m b)
     ·refine A [62] ?_
      refine zAF U ?_ ?_
      ·refine A [14,2] ?_
       exact zYB (T:=tab) U U U U (A [1,12,11,15,45] (m (IntKind.i64.wrap (a - 1))))
      ·exact A [4,15,45] (m c.B)
   ·refine pq 3 U (zAY (j:=36) U ?_ ?_)
    ·exact A [113,65,17,45] (h c.B)
    ·refine pq 4 U (zAY (j:=40) U ?_ ?_)
     ·exact A [109,65,17,45] (h c.B)
     ·refine pq 3 U (zAY (j:=43) U ?_ ?_)
      ·refine A [106,0] ?_
       refine zAF U ?_ ?_
       ·exact A [17,45] (h c.B)
       ·exact A [4,45] (q ())
      ·exact A [106,11,24,4,45] (q ())
 ·refine A [13,80] ?_
  refine zK5 (T:=tab) (i:=0) U U U U U U U U (A [3,0,6,93] ?_)
  refine zOB (T:=tab) (s:=f.1.fields) U U U U U U U fun x _=>A [57,9] ?_
  refine zNT (zMp c b a f) (fun (_:Unit)=>[(1,Z b),(2,Z a),(3,.loc 3 0),(6,.loc 6 0),(8,.loc 8 0),(11,.loc 3 1),(23,.bsl 400230 3),(24,Z 3),(25,Z 0)]) (fun (_:Unit)=>[(3,.box 41 (cOp c)),(400230,.box 114 [.loc 3 1,.loc 3 2,.loc 3 3]),(8,.box 108 (zRL f.1)),(6,.box 41 [Z 0,Z 0,Z 0,Z 0,O [],O [],Y false])]) ?_ fun p=>?_
  ·rintro _
   refine A [7,6,93,0] ?_
   refine jw (zMq c b a f) [1,2,3,6,8,11,23,24,25] [400230,8,6] (fun _=>[]) (fun u=>[(3,.box 41 [Z c.Kind,Z u,Z c.B,Z c.C,O c.S,O c.T,Y c.Must])]) U U ?_ fun l=>?_
   ·rintro u
    exact A [7,9,105,26,68,6,106,65,9,20,92,8,106,0,5,4,9,20,92,8,4,15,45] (g u)
   ·refine A [13,62] ?_
    refine zAF U ?_ ?_
    ·exact A [14,3,12,11,15,45] (l b)
    ·refine A [62] ?_
     refine zAF U ?_ ?_
     ·refine A [14,2] ?_
      exact zYB (T:=tab) U U U U (A [1,12,11,15,45] (l (IntKind.i64.wrap (a - 1))))
     ·exact A [4,15,45] (l c.A)
  ·refine pq 3 U (zAY (j:=36) U ?_ ?_)
   ·exact A [113,65,17,45] (g c.A)
   ·refine pq 4 U (zAY (j:=40) U ?_ ?_)
    ·exact A [109,65,17,45] (g c.A)
    ·refine pq 3 U (zAY (j:=43) U ?_ ?_)
     ·refine A [106,0] ?_
      refine zAF U ?_ ?_
      ·exact A [17,45] (g c.A)
      ·exact A [4,45] (p ())
     ·exact A [106,11,24,4,45] (p ())
def zBs (a:Int) (t2:Bool):Option Bool:=cnd t2 (some false) (cnd (decide (a>0)) (some (decide (a<=28))) (some false))
def zE2 (_fu:Nat) (a:Int):Option Bool:=cnd (a==1) ((zBs a) (a==1)) (cnd (a==16) ((zBs a) (a==16)) (cnd (a==19) ((zBs a) (a==19)) (cnd (a==20) ((zBs a) (a==20)) (cnd (a==21) ((zBs a) (a==21)) (cnd (a==22) ((zBs a) (a==22)) ((zBs a) (a==25)))))))
theorem zJG {fu:Nat} {a:Int}:DD (zE2 fu a) 14 [Z a] fun r=>Y r:=by
 refine fcI Tryz.func14 U (A [75,58,13,6,62] ?_)
 refine jw (zBs a) [0] [] (fun c=>[(4,Y c)]) (fun _=>[]) U U ?_ fun b=>?_
 ·rintro c
  exact A [7,5,1,59,4,69,93,26,14,2,104,74,104,74]
 ·refine zAF U ?_ ?_
  ·exact A [4,45] (b (a==1))
  ·refine A [62] ?_
   refine zAF U ?_ ?_
   ·exact A [4,45] (b (a==16))
   ·refine A [62] ?_
    refine zAF U ?_ ?_
    ·exact A [4,45] (b (a==19))
    ·refine A [62] ?_
     refine zAF U ?_ ?_
     ·exact A [4,45] (b (a==20))
     ·refine A [62] ?_
      refine zAF U ?_ ?_
      ·exact A [4,45] (b (a==21))
      ·refine A [62] ?_
       refine zAF U ?_ ?_
       ·exact A [4,45] (b (a==22))
       ·exact A [14,2,11,45] (b (a==25))
def zFs (_fu:Nat) (a:List Wait):Option (List Wait):=bnd (zDb 24 (([]:List Wait).length+a.length)) fun _=>some (([]:List Wait)++a)
theorem zLv {fu:Nat} {a:List Wait}:FF (zFs fu a) 250 [.sl 2 false (a.map zJg)] [] [] (fun _=>.own 5) fun r=>[(5,.arr 150 2 (r.map zJg))]:=by
 refine fcI Tryz.func250 U (A [75,80] ?_)
 refine zIj (T:=tab) U U U U U U fun b d=>?_
 cases b
 ·refine A [0,23,67,9] ?_
  exact pl (([]:List Wait).map zJg) 5 U U U U U U (pq 1 U (pa zJg ([]:List Wait) a U U U U U U U U (zVv _) U U U (A [57,8])))
 ·have c:a=[]:=eZ.1 (d rfl)
  exact zK4 (m':=some ([]:List Wait)) (by subst c;rfl) (A [0,25,58,56,5,150,2,2,8])
def zKY (fu:Nat) (a:Desk) (b:Bs):Option (Desk×Int×Int×Int):=bnd (zIC fu a) fun c=>cnd (!c.2) (some (a,(-1),(-1),1)) (bnd (zDE fu b) fun f=>cnd (!f) (some (a,(-1),(-1),4)) (cnd (a.Next==100000) (some (a,(-1),(-1),3)) (bnd (rng .i64 (a.Next+1)) fun d=>cnd (zK7 c.1.names b) (some (({a with Next:=d}:Desk),a.Next,(zLi c.1.names b 0),0)) (bnd (zFs fu a.Waits) fun e=>bnd (zDb 24 (e.length+([(⟨b,a.Next⟩:Wait)]:List Wait).length)) fun _=>some (({a with Waits:=(e++[(⟨b,a.Next⟩:Wait)]),Next:=d}:Desk),a.Next,(-1),0)))))
theorem zUG {fu:Nat} {b:Desk} {a:Bs}:DD (zKY fu b a) 192 [.agg (zI8 b),O a] fun r=>.tup [.agg (zI8 r.1),Z r.2.1,Z r.2.2.1,Z r.2.2.2]:=by
 refine fcI Tryz.func192 U (A [73,31,4,3,0,80,43] (fun c _=>?_) zMh [(2130,2150),(2131,2151)] [2150,2151])
 refine A [3,31,8,92,93] ?_
 refine zIU (T:=tab) zJi (fun v=>Z v) c.1.names a 0 Tryz.underlying142 Tryz.underlying9 U U U U U U U U U (A [105,0,6,13,93,0,5,4,80,12,3,74,80,41] (fun f _=>?_) zEt)
 refine A [2,0,5,4,80,12,3,74,76,0,5,4,80,12,3,74,4,69,93,0,61,16] fun e _=>?_
 refine A [1,12,0,6,58,5,4,93,12,3,74,67,61,43] (fun d _=>?_) zLv [(5,2510)] [2510]
 refine A [2,20] ?_
 exact pl ([(⟨a,b.Next⟩:Wait)].map zJg) 55 U U U U U U (pa zJg d ([(⟨a,b.Next⟩:Wait)]:List Wait) U U U U U U U U (zVv _) U U U (A [1,12,0,61,12,3,0,34,2510,8]))
def zCz (_fu:Nat) (a:List Task):Option (List Task):=bnd (zDb 24 (([]:List Task).length+a.length)) fun _=>some (([]:List Task)++a)
theorem zHo {fu:Nat} {a:List Task}:FF (zCz fu a) 193 [.sl 3 false (a.map zJQ)] [] [] (fun _=>.own 5) fun r=>[(5,.arr 102 3 (r.map zJQ))]:=by
 refine fcI Tryz.func193 U (A [75,80] ?_)
 refine zIj (T:=tab) U U U U U U fun b d=>?_
 cases b
 ·refine A [0,23,67,9] ?_
  exact pl (([]:List Task).map zJQ) 5 U U U U U U (pq 1 U (pa zJQ ([]:List Task) a U U U U U U U U (zR8 _) U U U (A [57,8])))
 ·have c:a=[]:=eZ.1 (d rfl)
  exact zK4 (m':=some ([]:List Task)) (by subst c;rfl) (A [0,25,58,56,5,102,3,2,8])
def zJH (fu:Nat) (d:Bs) (b:zAL):Option (Int×zAL):=bnd (zKY fu b.World.Desk d) fun a=>cnd (a.2.2.2 != 0) (some (a.2.2.2,b)) (cnd (a.2.2.1 != (-1)) (bnd (zCz fu b.World.Tasks) fun c=>bnd (zDb 24 (c.length+([(⟨2,a.2.1,a.2.2.1⟩:Task)]:List Task).length)) fun _=>some (0,(⟨({b.World with Desk:=a.1,Tasks:=(c++[(⟨2,a.2.1,a.2.2.1⟩:Task)])}:World),a.2.1⟩:zAL))) (some (0,(⟨({b.World with Desk:=a.1}:World),a.2.1⟩:zAL))))
theorem zPh {fu:Nat} {c:Bs} {b:zAL}:FF (zJH fu c b) 128 [.loc 900000 0,O c] [(900000,.box 99 (zCC b))] [900000] (fun r=>Z r.1) fun r=>[(900000,.box 99 (zCC r.2))]:=by
 refine fcI Tryz.func128 U (A [58,9,106,41] (fun a _=>?_) zUG)
 refine A [105,31,5,12,3,0,6,62,5,2,62,8,67,9,107,12,2,12,0,6,62,10,2,67,59,14,106,43] (fun d _=>?_) zHo [(5,2410)] [2410]
 refine A [2,20] ?_
 exact pl ([(⟨2,a.2.1,a.2.2.1⟩:Task)].map zJQ) 45 U U U U U U (pa zJQ d ([(⟨2,a.2.1,a.2.2.1⟩:Task)]:List Task) U U U U U U U U (zR8 _) U U U (A [3,12,0,58,34,2410,8]))
def zD8 (_fu:Nat) (a:Int) (b:Forest):Option Bool:=cnd (decide (a<0)) (some true) (some (decide (a>=(b.Nodes.length:Int))))
theorem zQy {fu:Nat} {b:Int} {a:Forest}:FF (zD8 fu b a) 169 [Z b,.loc 900000 0] [(900000,.box 24 (zAE a))] [900000] (fun r=>Y r) fun _=>[(900000,.box 24 (zAE a))]:=by
 exact fcI Tryz.func169 U (A [58,93,26,6,2,107,74,3,35,3,74])
def zAM (b:Int->Option Bool) (a:List Int):Nat->Int->Option Int
 | 0,_=>none
 | k1+1,t3=>cnd (decide (t3<(a.length:Int))) (bnd (idx a t3) fun e=>bnd (b e) fun d=>cnd d (some t3) (bnd (rng .i64 (t3+1)) fun c=>(zAM b a k1) c)) (some (-1))
def zAV (fu:Nat) (b:Int->Option Bool) (a:List Int):Option Int:=(zAM b a) fu 0
theorem zLw {fu:Nat} {b:List Int} {a:Forest}:FF (zAV fu (fun c=>zD8 fu c a) b) 227 [.sl 1 false (b.map zAB),.fn (.func 169) [] [.loc 900000 0]] [(900000,.box 24 (zAE a))] [900000] (fun r=>Z r) fun _=>[(900000,.box 24 (zAE a))]:=by
 refine fcI Tryz.func227 U (A [75,80,77,13] ?_)
 refine lw (zAM (fun c=>zD8 fu c a) b) [0,1,7] [900000] (fun d=>[(8,Z d)]) (fun _=>[]) fu 0 U U ?_
 rintro f d
 refine A [75,10,2,86,59,72,62,93,36] fun h _=>?_
 refine A [1,44] (fun g _=>?_) zQy [(900000,900000)]
 refine A [0,5,2,62,8,4,94] fun e _=>?_
 exact A [89] (tx e)
def zAe (fu:Nat) (c:Int->Option Bool) (b:List Int):Option Bool:=bnd (zAV fu c b) fun a=>some (decide (a>=0))
theorem zKJ {fu:Nat} {b:List Int} {a:Forest}:FF (zAe fu (fun c=>zD8 fu c a) b) 156 [.sl 1 false (b.map zAB),.fn (.func 169) [] [.loc 900000 0]] [(900000,.box 24 (zAE a))] [900000] (fun r=>Y r) fun _=>[(900000,.box 24 (zAE a))]:=by
 refine fcI Tryz.func156 U (A [58,61,44] (fun d _=>?_) zLw [(900000,900000)])
 exact A [2,74]
def zCF (fu:Nat) (a:Forest) (l2:List Int):Option Bool:=bnd (zAu fu a) fun b=>cnd b (bnd (zAe fu (fun d=>zD8 fu d a) l2) fun c=>some (!c)) (some false)
theorem zId {fu:Nat} {a:Forest} {l2:List Int}:DD (zCF fu a l2) 105 [.agg (zAE a),.sl 1 false (l2.map zAB)] fun r=>Y r:=by
 refine fcI Tryz.func105 U (A [73,57,62,80,41] (fun b _=>?_) zBB)
 refine A [1,27,9,2,106,74,2,44] (fun c _=>?_) zKJ [(900000,2)]
 exact A [3,74]
def zHQ (l4:List Int) (d:Int) (c:Node) (a:((List Int)×(List Int))->Option (List Int)):Nat->(List Int)->Option (List Int)
 | 0,l10=>cnd (c.Under != (-1)) (bnd (zDb 8 (l10.length+([c.Under]:List Int).length)) fun _=>a ((l4++[d]),(l10++[c.Under]))) (a ((l4++[d]),l10))
 | k2+1,l10=>bnd (c.Kids[k2]?) fun b=>bnd (zDb 8 (l10.length+([b]:List Int).length)) fun _=>(zHQ l4 d c a k2) (l10++[b])
def zEa (b:Forest):Nat->(List Int)×(List Int)->Option (List Int)
 | 0,_=>none
 | k1+1,(l4,l5)=>cnd (decide ((l5.length:Int)>0)) (bnd (rng .i64 ((l5.length:Int) - 1)) fun c=>bnd (idx l5 c) fun a=>bnd (piece l5 0 c) fun e=>bnd (zDb 8 (l4.length+([a]:List Int).length)) fun _=>bnd (idx b.Nodes a) fun d=>(zHQ l4 a d (zEa b k1)) d.Kids.length e) (some l4)
def zD6 (fu:Nat) (a:Forest) (b:Int):Option (List Int):=bnd (zCF fu a [b]) fun c=>cnd (!c) (some ([]:List Int)) ((zEa a) fu ([],[b]))
theorem zKh {fu:Nat} {f:Forest} {h:Int}:FF (zD6 fu f h) 161 [.agg (zAE f),Z h] [] [] (fun _=>.own 1035) fun r=>[(1035,.arr 3 1 (r.map zAB))]:=by
 refine fcI Tryz.func161 U (fun {w0 X X0 σ0 _}=>A [73,57,6,61] ?_)
 refine pl ([h].map zAB) 14 U U U U U U (A [33,14,41] (fun p _=>?_) zId)
 refine A [57,5,7,58,56,1035,3,1,4,8,67,75,80] ?_
 refine pl ([h].map zAB) 18 U U U U U U (A [31,6,12,0,13,56,1035,3,1,5] ?_)
 refine lw (zEa f) [2,5,6] [6,2] (fun _=>[]) (fun (c,i)=>[(1035,.arr 3 1 (c.map zAB)),(18,.arr 3 1 (i.map zAB))]) fu ([],[h]) U U ?_
 rintro l ⟨c,i⟩
 refine A [6,80,39,57,10,3,86,62,8,72,80,39,16] fun o _=>?_
 refine A [57,61,38] fun d j=>?_
 refine zAx (T:=tab) zAB i d (zA0 j) U U U U U U U U (A [57,61] ?_)
 refine zJo (T:=tab) zAB i U U U U U U U U U U U fun m _=>A [12,0,61] ?_
 refine pl ([d].map zAB) 34 U U U U U U (pa zAB c ([d]:List Int) U U U U U U U U (zDK _) U U U (A [57,93,36] fun e _=>?_))
 refine A [1,31,9,12,0,6,61] ?_
 refine zME (n:=3043) tab Tryz.func229 U U U U U U U U U U U U ⟨⟨_,U,.rfl⟩,trivial⟩ zXZ U U (A [0,13] ?_)
 refine zYD (T:=tab) (enc:=zAB) (enc':=fun (b:Int)=>Z b) (xs:=e.Kids) (x0:=m) (n:=3043) (tS:=32) (tE:=3) (tI:=3) (tB:=4) (tF:=336) (g:=274) (M:=(zHQ c d e (zEa f l))) (Sf:=fun (a:(List Int))=>[(9,.box 77 (zAZ e)),(1035,.arr 3 1 ((c++[d]).map zAB)),(18,.arr 3 1 (a.map zAB)),(6,.box 32 [.own 18]),(2,.box 24 (zAE f))]) (N1:=[2,6,9,1035]) (E0:=[(2,.loc 2 0),(5,.own 1035),(6,.loc 6 0),(9,.loc 9 0)]) (E1:=fun k b=>[(2,.loc 2 0),(5,.own 1035),(6,.loc 6 0),(9,.loc 9 0),(44,Z ((k:Nat):Int)),(45,Z b),(11,Z b)]) Tryz.func274 U U U zXa U U (fun _=>U) (fun _=>U) U U ⟨U,U,U,U,trivial⟩ U U ⟨U,U,U,U,U,trivial⟩ U U U U U U ?_ ?_ ?_
 ·rintro k b a hy w0 X X0 σ0 _ _
  refine A [1,11] ?_
  exact zP9 ⟨U,U,U,U,U,U,U,trivial⟩ ⟨U,U,U,U,U,trivial⟩ U
 ·rintro k b a hy w0 X X0 σ0 _ _
  exact zRZ hy (pq 2 U (pl ([b].map zAB) 48 U U U U U U (pa zAB a ([b]:List Int) U U U U U U U U (zDK _) U U U (A [12,63] (tx (a++[b]))))))
 ·rintro a
  refine A [69,93,0] ?_
  refine zAF U ?_ ?_
  ·refine A [14,3] ?_
   exact pl ([e.Under].map zAB) 56 U U U U U U (pa zAB a ([e.Under]:List Int) U U U U U U U U (zDK _) U U U (A [12,11,69,58,14,31,6,12,63] (tx ((c++[d]),(a++[e.Under])))))
  ·exact A [4,69,58,14,31,6,12,63] (tx ((c++[d]),a))
def zUg (ns:List Node):List Int->Option (List (Int×Node))
 | []=>some []
 | k::l=>bnd (idx ns k) fun x=>bnd (zUg ns l) fun r=>some (if x.Kind==1 then (k,x)::r else r)
def zNL (fu:Nat) (f:Forest) (n:Int):Option (List (Int×Node)):=bnd (zD6 fu f n) fun l=>zUg f.Nodes l
abbrev heS (f:Forest) (n:Int):zAC:=[(3000001,.box 24 (zAE f)),(3000002,.box 3 [Z n])]
theorem zXs (f:Forest) (n:Int):FC zSX Tryz.prog 194 [.agg (zAE f),Z n] [] [] fun p a=>p=.fn (.func 251) [] [.loc 3000001 0,.loc 3000002 0]/\a=heS f n:=by
 exact zUi (m:=some ()) (r:=()) (args:=[.agg (zAE f),Z n]) (S:=[]) (N0:=[]) (post:=fun _ p a=>p=.fn (.func 251) [] [.loc 3000001 0,.loc 3000002 0]/\a=heS f n) Tryz.func194 U U U fun w0 X X0 σ0 _=>zTv (zFm (zSp 3000001 U U U U U U U U U U (zSp 3000002 U U U U U U U U U U (zHz (T:=tab) 1 U U (zGh (zJW (zTv (zFm (zHz (T:=tab) 2 U U (zGh (zJW (zc3 (S':=heS f n) (zGN ⟨U,U,trivial⟩ U) U U ⟨U,U⟩))))))))))))
abbrev heE (l:Nat) (L:List Int) (i:Nat):Env:=[(0,.fn (.yield l) [] []),(1,.loc 3000001 0),(2,.loc 3000002 0),(9,.sl 1 false (L.map zAB)),(10,Z (L.length:Nat)),(11,Z (i:Nat))]
abbrev heB (x:Node):Nat×Blk:=(6,.box 77 (zAZ x))
theorem he_at {L:List Int} {i:Nat} {y:Int} (h:L[i]? = some y):(bnd (idx L (i:Int)) fun y=>some y)=some y:=by
 unfold idx
 rw [iP (by omega),Int.toNat_natCast,h];rfl
theorem zXt (fu:Nat) (f:Forest) (n:Int) {ys:List (Int×Node)} (e:zNL fu f n=some ys):za0 zSX Tryz.prog 251 (heS f n) [.loc 3000001 0,.loc 3000002 0] (fun y:Int×Node=>[Z y.1,.agg (zAZ y.2)]) ys:=by
 obtain ⟨L,H,G⟩:∃L,zD6 fu f n=some L/\zUg f.Nodes L=some ys:=by
  unfold zNL at e
  cases h:zD6 fu f n with
  | none=>rw [h] at e;simp [bnd] at e
  | some L=>rw [h] at e;exact ⟨L,rfl,e⟩
 refine zaJ Tryz.func251 U U U fun l J d a w b=>?_
 have C:∀y:Int×Node,∀p∈([Z y.1,.agg (zAZ y.2)]:List PV),names p=[]:=fun y p h=>by
  simp only [List.mem_cons,List.not_mem_nil,or_false] at h
  rcases h with rfl | rfl<;>rfl
 refine wpIn_seq (zUB (ρ := List Int) (m:=bnd (zD6 fu f n) fun L=>some L) (r:=L) (E1:=fun L=>heE l L 0) (S1:=fun _=>heS f n) d (fun w0 X X0 σ0 g=>?_) (by rw [H];rfl) b fun a w b=>?_)
 ·refine zFm ?_
  refine zHz (T:=tab) 2 U U ?_
  refine zVF [2090] (enc:=fun (_:(List Int))=>.own 2090) (Sr:=fun (z:(List Int))=>[(2090,.arr 3 1 (z.map zAB))]) (first:=[]) (cap:=[]) (qs:=[.agg (zAE f),Z n]) (Sc:=[]) (N0:=[]) (NR:=[2090]) (fun z v=>zQg [(1035,2090)] [1035] (zKh _ v) U U U U U U) trivial (fun _=>U) U U U U U U U (fun _=>U) (fun _=>U) U U U ⟨⟨_,U,.rfl⟩,⟨_,U,.rfl⟩,trivial⟩ zXY U U fun z v=>?_
  refine zG0 2090 U U U ?_
  refine zTt (T:=tab) zAB z U U U U U U U U ?_
  refine zHz (T:=tab) 1 U U ?_
  refine zGh ?_
  exact zRA ⟨U,U,U,U,U,U,trivial⟩ ⟨U,U,trivial⟩ U
 refine wpIn_block (y_loop (n:=L.length) (fun k a w=>∃i zs,i+k=L.length/\zUg f.Nodes (L.drop i)=some zs/\zRv Tryz.f251 J (some zs) (heE l L i) (heS f n) a w) ?_ ⟨0,ys,by omega,G,b⟩)
 rintro k a w ⟨i,zs,hi,hz,b⟩
 have u:=b.len (t:=9) rfl
 rw [List.length_map] at u
 refine wpIn_seq (zUB (ρ := Unit) (m:=some ()) (r:=()) (E1:=fun _=>(12,Y (decide ((i:Int)<(L.length:Nat))))::heE l L i) (S1:=fun _=>heS f n) d (fun w0 X X0 σ0 g=>?_) U b fun a w b=>?_)
 ·refine zFm ?_
  refine zHz (T:=tab) 1 U U ?_
  refine zGh ?_
  exact zRA ⟨U,U,U,U,U,U,U,trivial⟩ ⟨U,U,trivial⟩ U
 cases k with
 | zero =>
  have B:decide ((i:Int)<(L.length:Nat))=false:=by simp;omega
  rw [B] at b
  have j:L.drop i=[]:=by rw [List.drop_eq_nil_iff];omega
  rw [j] at hz
  cases hz
  refine wpIn_seq (wpIn_cond_false (b.eval U) (wpIn_exit ?_))
  exact .inl ⟨_,_,b⟩
 | succ k =>
  have B:decide ((i:Int)<(L.length:Nat))=true:=by simp;omega
  rw [B] at b
  refine wpIn_seq (wpIn_cond_true (b.eval U) (wpIn_skip ?_))
  have o:i<L.length:=by omega
  obtain ⟨k0,q⟩:∃k0,L[i]? = some k0:=⟨_,lC o⟩
  have j:L.drop i=k0::L.drop (i+1):=by
   rw [List.drop_eq_getElem_cons o]
   rw [lC o] at q
   rw [Option.some.inj q]
  rw [j] at hz
  obtain ⟨x,r,hx,hr,c⟩:∃x r,idx f.Nodes k0=some x/\zUg f.Nodes (L.drop (i+1))=some r/\zs=(if x.Kind==1 then (k0,x)::r else r):=by
   unfold zUg at hz
   cases hx:idx f.Nodes k0 with
   | none=>rw [hx] at hz;simp [bnd] at hz
   | some x =>
    cases hr:zUg f.Nodes (L.drop (i+1)) with
    | none=>rw [hx,hr] at hz;simp [bnd] at hz
    | some r=>rw [hx,hr] at hz;simp only [bnd,Option.some.injEq] at hz;exact ⟨x,r,rfl,rfl,hz.symm⟩
  refine wpIn_seq (wpIn_block (wpIn_seq (zUB (ρ := Int) (m:=bnd (idx L (i:Int)) fun y=>some y) (r:=k0) (E1:=fun k0=>(5,Z k0)::heE l L i) (S1:=fun _=>heS f n) d (fun w0 X X0 σ0 g=>?_) (he_at q) b fun a w b=>?_)))
  ·refine zFm ?_
   refine zA7 (T:=tab) zAB L U U U U U U U fun I D=>?_
   refine zHz (T:=tab) 2 U U ?_
   refine zGh ?_
   exact zRA ⟨U,U,U,U,U,U,U,trivial⟩ ⟨U,U,trivial⟩ U
  refine wpIn_seq (zUB (ρ := Node) (m:=bnd (idx f.Nodes k0) fun x=>some x) (r:=x) (E1:=fun x=>(6,.loc 6 0)::(5,Z k0)::heE l L i) (S1:=fun x=>heB x::heS f n) d (fun w0 X X0 σ0 g=>?_) (by rw [hx];rfl) b fun a w b=>?_)
  ·refine zFm ?_
   refine zHz (T:=tab) 3 U U ?_
   refine zA7 (T:=tab) zAZ f.Nodes U U U U U U U fun I D=>?_
   refine zHz (T:=tab) 1 U U ?_
   refine zGd (T:=tab) 6 U U U U U U U U U ?_
   refine zVD (T:=tab) U U U U U U U U U U U U ?_
   refine zGh ?_
   exact zRA ⟨U,U,U,U,U,U,U,U,trivial⟩ ⟨U,U,U,trivial⟩ U
  refine wpIn_seq (wpIn_region_lit (zdw (ρ := Unit) (m:=some ()) (r:=()) (E1:=fun _=>(23,Y (x.Kind==1))::(6,.loc 6 0)::(5,Z k0)::heE l L i) (S1:=fun _=>heB x::heS f n) (l1:=[_,_,_,_]) d (fun w0 X X0 σ0 g=>?_) U U b fun a w b=>?_))
  ·refine zHz (T:=tab) 4 U U ?_
   refine zGh ?_
   exact zRA ⟨U,U,U,U,U,U,U,U,U,trivial⟩ ⟨U,U,U,trivial⟩ U
  cases F:(x.Kind==1) with
  | false =>
   rw [F] at b c
   simp only [Bool.false_eq_true,if_false] at c
   subst c
   refine zdw (ρ := Unit) (m:=some ()) (r:=()) (E1:=fun _=>(29,Y false)::heE l L i) (S1:=fun _=>heS f n) (l1:=[_,_,_,_,_,_]) (l2:=[]) d (fun w0 X X0 σ0 g=>?_) U U b fun a w b=>?_
   ·refine zHz (T:=tab) 6 U U ?_
    refine zGh ?_
    exact zRA ⟨U,U,U,U,U,U,U,trivial⟩ ⟨U,U,trivial⟩ U
   refine wpListIn_nil (wpIn_cond_false (b.eval U) (wpIn_skip ?_))
   show (Code.region 5 _ false).wpIn (FR none) 0 Tryz.prog _ a w
   refine zUB (ρ := Int) (m:=bnd (rng .i64 ((i:Int)+1)) fun m=>some m) (r:=((i+1:Nat):Int)) (E1:=fun m=>[(0,.fn (.yield l) [] []),(1,.loc 3000001 0),(2,.loc 3000002 0),(9,.sl 1 false (L.map zAB)),(10,Z (L.length:Nat)),(11,Z m)]) (S1:=fun _=>heS f n) d (fun w0 X X0 σ0 g=>?_) ?_ b fun a w b=>?_
   ·refine zFm ?_
    refine zM8 (T:=tab) U U U U fun E s=>?_
    refine zHz (T:=tab) 1 U U ?_
    refine zGh ?_
    exact zRA ⟨U,U,U,U,U,U,trivial⟩ ⟨U,U,trivial⟩ U
   ·unfold rng
    rw [iP (by simp only [Pw.lo,Pw.hi];omega)];rfl
   ·exact ⟨k,U,i+1,zs,by omega,hr,b⟩
  | true =>
   rw [F] at b c
   simp only [if_true] at c
   subst c
   refine zdw (ρ := Unit) (m:=some ()) (r:=()) (E1:=fun _=>(24,.fn (.yield l) [] [])::(25,Z k0)::(26,.agg (zAZ x))::(23,Y true)::heE l L i) (S1:=fun _=>heS f n) (l1:=[_,_,_]) d (fun w0 X X0 σ0 g=>?_) U U b fun a w b=>?_
   ·refine zHz (T:=tab) 3 U U ?_
    refine zGh ?_
    exact zRA ⟨U,U,U,U,U,U,U,U,U,U,trivial⟩ ⟨U,U,trivial⟩ U
   refine zih (y:=(k0,x)) (ys:=r) (E0:=[(23,Y true)]) d b U U ⟨⟨_,U,.rfl⟩,⟨_,U,.rfl⟩,trivial⟩ (C _) U U U ⟨U,trivial⟩ U (fun a w b=>?_) (fun a w b=>?_)
   ·refine zdw (ρ := Unit) (m:=some ()) (r:=()) (E1:=fun _=>(29,Y false)::heE l L i) (S1:=fun _=>heS f n) (l1:=[_,_]) (l2:=[]) d (fun w0 X X0 σ0 g=>?_) U U b fun a w b=>?_
    ·refine zHz (T:=tab) 2 U U ?_
     refine zGh ?_
     exact zRA ⟨U,U,U,U,U,U,U,trivial⟩ ⟨U,U,trivial⟩ U
    refine wpListIn_nil (wpIn_cond_false (b.eval U) (wpIn_skip ?_))
    show (Code.region 5 _ false).wpIn (FR none) 0 Tryz.prog _ a w
    refine zUB (ρ := Int) (m:=bnd (rng .i64 ((i:Int)+1)) fun m=>some m) (r:=((i+1:Nat):Int)) (E1:=fun m=>[(0,.fn (.yield l) [] []),(1,.loc 3000001 0),(2,.loc 3000002 0),(9,.sl 1 false (L.map zAB)),(10,Z (L.length:Nat)),(11,Z m)]) (S1:=fun _=>heS f n) d (fun w0 X X0 σ0 g=>?_) ?_ b fun a w b=>?_
    ·refine zFm ?_
     refine zM8 (T:=tab) U U U U fun E s=>?_
     refine zHz (T:=tab) 1 U U ?_
     refine zGh ?_
     exact zRA ⟨U,U,U,U,U,U,trivial⟩ ⟨U,U,trivial⟩ U
    ·unfold rng
     rw [iP (by simp only [Pw.lo,Pw.hi];omega)];rfl
    ·exact ⟨k,U,i+1,r,by omega,hr,b⟩
   ·refine zdw (ρ := Unit) (m:=some ()) (r:=()) (E1:=fun _=>[(29,Y true)]) (S1:=fun _=>[]) (l1:=[_,_]) (l2:=[]) d (fun w0 X X0 σ0 g=>?_) U U b fun a w b=>?_
    ·refine zHz (T:=tab) 2 U U ?_
     refine zGh ?_
     exact zRA ⟨U,trivial⟩ trivial U
    exact wpListIn_nil (wpIn_cond_true (b.eval U) (wpIn_ret (show YEnd _ J .ret _ _ from .inr ⟨_,_,b⟩)))
def zIk (c:Desk) (a b:Bs) (r4:zCy×Bool) (e:Unit):Option Int:=cnd (zK7 r4.1.names b) (bnd (idx c.Defs (zLi r4.1.names b 0)) fun d=>cnd (d.Local==a) (some (zLi r4.1.names b 0)) (some (-1))) (some (-1))
def zIB (fu:Nat) (d:Desk) (a c:Bs):Option Int:=bnd (zIC fu d) fun b=>cnd (!b.2) (some (-1)) (cnd (zK7 b.1.names a) (bnd (idx d.Defs (zLi b.1.names a 0)) fun e=>cnd (e.Local==a) (some (zLi b.1.names a 0)) ((zIk d a c b) ())) ((zIk d a c b) ()))
theorem zQM {fu:Nat} {e:Desk} {a b:Bs}:DD (zIB fu e a b) 27 [.agg (zI8 e),O a,O b] fun r=>Z r:=by
 refine fcI Tryz.func27 U (A [9,30,3,57,80,43] (fun d _=>?_) zMh [(2130,2150),(2131,2151)] [2150,2151])
 refine A [3,31,7,92,6,62,5,1,59,68,93] ?_
 refine zIU (T:=tab) zJi (fun v=>Z v) d.1.names a 0 Tryz.underlying142 Tryz.underlying9 U U U U U U U U U (A [105,0,9] ?_)
 refine zNT (zIk e a b d) (fun (_:Unit)=>[(1,O a),(2,O b),(3,.loc 3 0),(7,.loc 7 0)]) (fun (_:Unit)=>[(7,.box 145 [.own 2150,.own 2151]),(2150,.mp (d.1.names.map fun p:Bs×Int=>(zNu p.1,Z p.2))),(2151,.mp (d.1.classes.map fun p:Int×Int=>(zOm .i64 p.1,Z p.2))),(3,.box 29 (zI8 e))]) ?_ fun c=>?_
 ·rintro _
  refine A [7,6,93] ?_
  refine zIU (T:=tab) zJi (fun v=>Z v) d.1.names b 0 Tryz.underlying142 Tryz.underlying9 U U U U U U U U U (A [105,0,61,27,47,5,109,11,24,67,59,3,36] fun g _=>?_)
  exact A [105,0,5,2,62,8,67,59]
 ·refine pq 2 U (zAY (j:=28) U ?_ ?_)
  ·refine A [3,36] fun f _=>?_
   exact A [105,0,5,2,62,8,4,45] (c ())
  ·exact A [109,11,24,4,45] (c ())
def zJt (fu:Nat) (a:Node) (b:Desk):Option Int:=cnd (a.Kind != 1) (some (-1)) (cnd (a.Doc != 0) (some (-1)) (bnd (zIB fu b a.Name a.Is) fun c=>some c))
theorem zQP {fu:Nat} {b:Node} {a:Desk}:DD (zJt fu b a) 149 [.agg (zAZ b),.agg (zI8 a)] fun r=>Z r:=by
 refine fcI Tryz.func149 U (A [73,30,3,57,6,76,26,8,2,104,83,104,0,5,1,59,67,9,105,41] (fun c _=>?_) zQM)
 exact A [57,8]
def zFL (fu:Nat) (a:Desk):List (Int×Node)->(List Due)->Option (List Due)
 | [],l4=>some l4
 | y5::ys6,l4=>bnd (zJt fu y5.2 a) fun b=>cnd (b != (-1)) (bnd (zDb 104 (l4.length+([(⟨y5.1,(⟨9,b,[],false,false,[],[],0,0,false⟩:Todo)⟩:Due)]:List Due).length)) fun _=>(zFL fu a ys6) (l4++[(⟨y5.1,(⟨9,b,[],false,false,[],[],0,0,false⟩:Todo)⟩:Due)])) ((zFL fu a ys6) l4)
def zKa (fu:Nat) (c:Forest) (d:Int) (b:Desk):Option (List Due):=bnd (some ()) fun _=>bnd (zNL fu c d) fun a=>(zFL fu b) a []
theorem zUJ {fu:Nat} {c:Forest} {d:Int} {e:Desk}:FF (zKa fu c d e) 129 [.agg (zAE c),Z d,.agg (zI8 e)] [] [] (fun _=>.own 1027) fun r=>[(1027,.arr 171 11 (r.map zJm))]:=by
 refine fcI Tryz.func129 U (fun {w0 X X0 σ0 _}=>A [9,30,3,30,5,57,9,31,7,0,6,61] ?_)
 refine tu [3000001,3000002] (enc:=fun _:Unit=>.fn (.func 251) [] [.loc 3000001 0,.loc 3000002 0]) (Sr:=fun _:Unit=>[(3000001,.box 24 (zAE c)),(3000002,.box 3 [Z d])]) (qs:=[.agg (zAE c),Z d]) (Sc:=[]) (N1:=[]) (NR:=[3000001,3000002]) (fun _ _=>zXs c d) zgv U U U U U U U U fun _ _=>A [0,13] ?_
 refine zKF 1027 171 11 7 0 U U U U U U (pw_bnd fun f g=>zhz (ys0:=f) (p1:=fun y:(Int×Node)=>Z y.1) (p2:=fun y:(Int×Node)=>.agg (zAZ y.2)) (x0:=[]) (Sc:=[(3000001,.box 24 (zAE c)),(3000002,.box 3 [Z d])]) (cp:=[.loc 3000001 0,.loc 3000002 0]) (M:=(zFL fu e)) (Sf:=fun (b:(List Due))=>[(1027,.arr 171 11 (b.map zJm)),(7,.box 168 [.own 1027]),(5,.box 29 (zI8 e))]) (S1:=fun a (b:(List Due))=>[(9,.box 77 (zAZ a.2)),(1027,.arr 171 11 (b.map zJm)),(7,.box 168 [.own 1027]),(5,.box 29 (zI8 e))]) (SR:=fun r:(List Due)=>[(0,.arr 0 0 [[.junk]])]) (N1:=[5,7]) (E0:=[(5,.loc 5 0),(6,.v (.slice none 0 0)),(7,.loc 7 0)]) (E1:=fun a=>[(5,.loc 5 0),(6,.v (.slice none 0 0)),(7,.loc 7 0),(14,Z a.1),(15,.agg (zAZ a.2)),(8,Z a.1),(9,.loc 9 0)]) (zXt fu c d g) zg0 (fun _=>U) (fun _=>U) U ⟨U,U,trivial⟩ U ⟨U,U,U,trivial⟩ U U ⟨U,U,U,trivial⟩ U U U U ?_ ?_ ?_ ?_)
 ·rintro a b w0 X X0 σ0 _ _
  refine A [58,14,31,9,12,11] ?_
  exact zRA ⟨U,U,U,U,U,U,U,trivial⟩ ⟨U,U,U,U,trivial⟩ U
 ·rintro a i b w0 X X0 σ0 _ _
  refine A [13,99] (fun h _=>?_) zQP
  refine A [57,62] ?_
  refine zAF U ?_ ?_
  ·refine A [14,3,20,20] ?_
   refine pl ([(⟨a.1,(⟨9,h,[],false,false,[],[],0,0,false⟩:Todo)⟩:Due)].map zJm) 26 U U U U U U (pa zJm b ([(⟨a.1,(⟨9,h,[],false,false,[],[],0,0,false⟩:Todo)⟩:Due)]:List Due) U U U U U U U U (zRK _) U U U (A [12,11,15] ?_))
   exact zZL (b++[(⟨a.1,(⟨9,h,[],false,false,[],[],0,0,false⟩:Todo)⟩:Due)]) ⟨U,U,U,trivial⟩ U
  ·refine A [4,15] ?_
   exact zZL b ⟨U,U,U,trivial⟩ U
 ·rintro b
  exact A [69,62,8]
 ·exact fun r=>zfL
def zC0 (_fu:Nat) (b:Due) (a:zAL):Option Bool:=bnd (idx a.World.States b.Node) fun c=>some (c.Phase != 1)
theorem zKX {fu:Nat} {b:Due} {a:zAL}:FF (zC0 fu b a) 131 [.agg (zJm b),.loc 900000 0] [(900000,.box 97 [.loc 900001 0]),(900001,.box 99 (zCC a))] [900000,900001] (fun r=>Y r) fun _=>[(900000,.box 97 [.loc 900001 0]),(900001,.box 99 (zCC a))]:=by
 refine fcI Tryz.func131 U (A [73,57,6,52,2,3,1,2,2,900000,900001,53,12,0,1,3,7,15,0,32,127,255,511,1023,2047,207] ?_)
 exact vT [16,20] [22] [] U U (zA7 (T:=tab) zBh a.World.States U U U U U U U fun c _=>pzq U) (fun _=>U) (fun _=>U) fun c _=>A [204,79,8]
def zAc (a:Due->Option Bool) (l1:List Due):Nat->Int->Option Int
 | 0,_=>none
 | k1+1,t3=>cnd (decide (t3<(l1.length:Int))) (bnd (idx l1 t3) fun d=>bnd (a d) fun c=>cnd c (some t3) (bnd (rng .i64 (t3+1)) fun b=>(zAc a l1 k1) b)) (some (-1))
def zA2 (fu:Nat) (a:Due->Option Bool) (l1:List Due):Option Int:=(zAc a l1) fu 0
theorem zKM {fu:Nat} {l1:List Due} {a:zAL}:FF (zA2 fu (fun c=>zC0 fu c a) l1) 195 [.own 900000,.fn (.func 131) [] [.loc 900001 0]] [(900000,.arr 171 11 (l1.map zJm)),(900001,.box 97 [.loc 900002 0]),(900002,.box 99 (zCC a))] [900000,900001,900002] (fun r=>Z r) fun _=>[(900000,.arr 171 11 (l1.map zJm)),(900001,.box 97 [.loc 900002 0]),(900002,.box 99 (zCC a))]:=by
 refine fcI Tryz.func195 U (A [75,80,39,57,13] ?_)
 refine lw (zAc (fun c=>zC0 fu c a) l1) [0,1,7] [900000,900001,900002] (fun d=>[(8,Z d)]) (fun _=>[]) fu 0 U U ?_
 rintro g d
 refine A [75,10,2,86,59,72,62,93,38] fun f b=>?_
 refine zAx (T:=tab) zJm l1 f (zA0 b) U U U U U U U U (A [44] (fun h _=>?_) zKX [(900000,900001),(900001,900002)])
 refine A [0,5,2,62,8,4,94] fun e _=>?_
 exact A [89] (tx e)
def zAq (e:Due->Option Bool):Nat->Int×Int×(List Due)->Option (List Due)
 | 0,_=>none
 | k1+1,(i5,j6,l7)=>cnd (decide (j6<(l7.length:Int))) (bnd (idx l7 j6) fun f=>bnd (e f) fun g=>cnd (!g) (bnd (idx l7 i5) fun h=>bnd (rng .i64 (i5+1)) fun a=>bnd (rng .i64 (j6+1)) fun b=>(zAq e k1) (a,b,(l7.set (i5).toNat f))) (bnd (rng .i64 (j6+1)) fun c=>(zAq e k1) (i5,c,l7))) (bnd (zNy l7.length i5 (l7.length:Int)) fun _=>bnd (zf5 l7.length (i5).toNat ((l7.length:Int)).toNat) fun _=>bnd (piece (zQa l7 (i5).toNat ((⟨0,(⟨0,0,[],false,false,[],[],0,0,false⟩:Todo)⟩:Due):Due)) 0 i5) fun d=>some d)
def zCx (fu:Nat) (b:Due->Option Bool) (l1:List Due):Option (List Due):=bnd (zA2 fu b l1) fun a=>cnd (a==(-1)) (some l1) (bnd (rng .i64 (a+1)) fun c=>(zAq b) fu (a,c,l1))
theorem zJy {fu:Nat} {l1:List Due} {d:zAL}:FF (zCx fu (fun k=>zC0 fu k d) l1) 130 [.own 900000,.fn (.func 131) [] [.loc 900001 0]] [(900000,.arr 171 11 (l1.map zJm)),(900001,.box 97 [.loc 900002 0]),(900002,.box 99 (zCC d))] [900001,900002] (fun _=>.own 900000) fun r=>[(900000,.arr 171 11 (r.map zJm)),(900001,.box 97 [.loc 900002 0]),(900002,.box 99 (zCC d))]:=by
 refine fcI Tryz.func130 U (A [58,61,44] (fun n _=>?_) zKM [(900000,900000),(900001,900001),(900002,900002)])
 refine A [57,6,62,5,2,62,8,68,80,16] fun l _=>?_
 refine A [57,13] ?_
 refine lw (zAq (fun k=>zC0 fu k d)) [0,1] [900001,900002] (fun (b,j6,a)=>[(5,Z b),(6,Z j6)]) (fun (b,j6,a)=>[(900000,.arr 171 11 (a.map zJm))]) fu (n,l,l1) U U ?_
 rintro o ⟨b,j6,a⟩
 refine A [6,61,39,57] ?_
 refine zAF U ?_ ?_
 ·refine A [72,61,38] fun j e=>?_
  refine zAx (T:=tab) zJm a j (zA0 e) U U U U U U U U (A [31,7,12,0,61,44] (fun p _=>?_) zKX [(900000,900001),(900001,900002)])
  refine A [57] ?_
  refine zAF U ?_ ?_
  ·refine A [93,38] fun i c=>?_
   refine zCw (T:=tab) zJm a i j (zA0 c) U U U U U U U U U U U U U (A [0,14,1,16] fun f _=>?_)
   refine A [1,11,70,1,16] fun g _=>?_
   exact A [89] (tx (f,g,(a.set (b).toNat j)))
  ·refine A [4,70,1,16] fun h _=>?_
   exact A [89] (tx (b,h,a))
 ·refine A [86,61] ?_
  refine zOh (T:=tab) (L:=a.length) (.inl U) U U U U (by simp) U U U U U (zOd (T:=tab) zJm a ((⟨0,(⟨0,0,[],false,false,[],[],0,0,false⟩:Todo)⟩:Due):Due) U U U U U U U U U U U U U U (A [0,61] ?_))
  exact zJo (T:=tab) zJm (zQa a (b).toNat ((⟨0,(⟨0,0,[],false,false,[],[],0,0,false⟩:Todo)⟩:Due):Due)) U U U U U U U U U U U fun m _=>A [57,8]
def zEU (fu:Nat) (b:Due) (a:zAJ):Option Bool:=bnd (zEi fu a b.Node) fun c=>cnd (!c) (some true) (bnd (zEj fu a b.Todo) fun d=>some (!d))
theorem zPn {fu:Nat} {b:Due} {a:zAJ}:FF (zEU fu b a) 219 [.agg (zJm b),.loc 900000 0] [(900000,.box 94 (zBd a.World))] [900000] (fun r=>Y r) fun _=>[(900000,.box 94 (zBd a.World))]:=by
 refine fcI Tryz.func219 U (A [73,57,93,41] (fun c _=>?_) zHF)
 refine A [2,26,9,2,107,74,3,41] (fun d _=>?_) zJ6
 exact A [3,74]
theorem zJO {fu:Nat} {b:List Due} {a:zAJ}:FF (zA2 fu (fun c=>zEU fu c a) b) 195 [.sl 11 false (b.map zJm),.fn (.func 219) [] [.loc 900000 0]] [(900000,.box 94 (zBd a.World))] [900000] (fun r=>Z r) fun _=>[(900000,.box 94 (zBd a.World))]:=by
 refine fcI Tryz.func195 U (A [75,80,77,13] ?_)
 refine lw (zAc (fun c=>zEU fu c a) b) [0,1,7] [900000] (fun d=>[(8,Z d)]) (fun _=>[]) fu 0 U U ?_
 rintro f d
 refine A [75,10,2,86,59,72,62,93,36] fun h _=>?_
 refine A [1,44] (fun g _=>?_) zPn [(900000,900000)]
 refine A [0,5,2,62,8,4,94] fun e _=>?_
 exact A [89] (tx e)
def zCY (fu:Nat) (c:Due->Option Bool) (b:List Due):Option Bool:=bnd (zA2 fu c b) fun a=>some (decide (a>=0))
theorem zJJ {fu:Nat} {b:List Due} {a:zAJ}:FF (zCY fu (fun c=>zEU fu c a) b) 220 [.sl 11 false (b.map zJm),.fn (.func 219) [] [.loc 900000 0]] [(900000,.box 94 (zBd a.World))] [900000] (fun r=>Y r) fun _=>[(900000,.box 94 (zBd a.World))]:=by
 refine fcI Tryz.func220 U (A [58,61,44] (fun d _=>?_) zJO [(900000,900000)])
 exact A [2,74]
def zEG (_fu:Nat) (a:List Todo):Option (List Todo):=bnd (zDb 96 (([]:List Todo).length+a.length)) fun _=>some (([]:List Todo)++a)
theorem zLu {fu:Nat} {a:List Todo}:FF (zEG fu a) 262 [.sl 10 false (a.map zKx)] [] [] (fun _=>.own 5) fun r=>[(5,.arr 80 10 (r.map zKx))]:=by
 refine fcI Tryz.func262 U (A [75,80] ?_)
 refine zIj (T:=tab) U U U U U U fun b d=>?_
 cases b
 ·refine A [0,23,67,9] ?_
  exact pl (([]:List Todo).map zKx) 5 U U U U U U (pq 1 U (pa zKx ([]:List Todo) a U U U U U U U U (zVu _) U U U (A [57,8])))
 ·have c:a=[]:=eZ.1 (d rfl)
  exact zK4 (m':=some ([]:List Todo)) (by subst c;rfl) (A [0,25,58,56,5,80,10,2,8])
def zNE (fu:Nat) (l1:Line) (c:Int) (f:Todo):Option (Line×Bool×Int):=bnd (zIm fu l1) fun h=>cnd (!h) (some (l1,false,1)) (bnd (zMn fu l1 c) fun i=>cnd (!i) (some (l1,false,1)) (bnd (zLA fu l1) fun a=>bnd (idx a.Todos c) fun k=>bnd (zEG fu k) fun e=>bnd (zDb 96 (e.length+([f]:List Todo).length)) fun _=>bnd (idx a.Todos c) fun l=>bnd (rng .i64 ((a.Stack.length:Int) - 1)) fun b=>cnd (decide (b>=0)) (bnd (idx a.Stack b) fun g=>bnd (zBf fu g) fun d=>bnd (zDb 8 (d.length+([c]:List Int).length)) fun _=>bnd (idx a.Stack b) fun j=>some (({a with Todos:=(a.Todos.set (c).toNat (e++[f])),Stack:=(a.Stack.set (b).toNat (d++[c]))}:Line),false,0)) (bnd (zDb 8 (a.Back.length+([c]:List Int).length)) fun _=>some ((⟨(a.Todos.set (c).toNat (e++[f])),a.Stack,(a.Back++[c]),true⟩:Line),(!a.Busy),0))))
theorem zXF {fu:Nat} {l1:Line} {d:Int} {h:Todo}:DD (zNE fu l1 d h) 213 [.agg (zPs l1),Z d,.agg (zKx h)] fun r=>.tup [.agg (zPs r.1),Y r.2.1,Z r.2.2]:=by
 refine fcI Tryz.func213 U (A [9,30,3,30,5,31,6,2,0,6,80,41] (fun o _=>?_) zOo)
 refine A [2,26,14,6,105,65,80,12,2,74,2,41] (fun p _=>?_) zTL
 refine A [2,0,5,4,80,12,2,74,67,80,43] (fun a _=>?_) zRl [(2050,2220),(2080,2221),(2110,2222)] [2220,2221,2222]
 refine A [12,0,6,52,4,6,1,3,5,6,2220,2221,2222,6,5,3,53,14,0,1,0,0,8,0,56,120,248,0,512,2040,4095,8191,206] ?_
 refine vT [54,56,4441] [58] [] U U (zLd (T:=tab) zDi a.Todos U U U U U U U U fun l e=>pzq U) (fun _=>U) (fun _=>U) fun l e=>vS [58,4441] [60] [] U U (zAx (T:=tab) zDi a.Todos l (zA0 e) U U U U U U U U (pyq U)) U U (A [55,1,2,60,62,4621] (fun k _=>?_) zLu [(5,2310)] [2310])
 refine vq 1 U (by kernel_rfl) (vS [64] [66,67] [33] U U (pl ([h].map zKx) 33 U U U U U U (pyq U)) U U (vU [62,66,67,4621] [68,62,4621] [2310] U U (pa zKx k ([h]:List Todo) U U U U U U U U (zVu _) U U U (pyq U)) U U fun _ _=>vT [48,50,4441] [70] [] U U (zLd (T:=tab) zDi a.Todos U U U U U U U U fun m f=>pzq U) (fun _=>U) (fun _=>U) fun m f=>vS [68,70,4441,4621] [68,4621,4441] [] U U (zG0 2310 U U U (zCw (T:=tab) zDi a.Todos m (k++[h]) (zA0 f) U U U U U U U U U U U U U (pyq U))) U U (A [79,61,39,16] fun n _=>?_)))
 refine A [57,6,62] ?_
 refine zAF U ?_ ?_
 ·refine A [6,52,4,5,1,3,6,9,2220,2221,2222,6,3,53,14,0,1,0,0,8,0,56,120,248,0,512,2040,4095,8191,206] ?_
  refine vT [92,94,4443] [96] [] U U (zLd (T:=tab) zAt a.Stack U U U U U U U U fun i b=>pzq U) (fun _=>U) (fun _=>U) fun i b=>vS [96,4443] [98] [] U U (zAx (T:=tab) zAt a.Stack i (zA0 b) U U U U U U U U (pyq U)) U U (A [55,1,2,98,100,5001] (fun g _=>?_) zFX [(5,2500)] [2500])
  exact vq 1 U (by kernel_rfl) (vS [102] [104,105] [52] U U (pl ([d].map zAB) 52 U U U U U U (pyq U)) U U (vU [100,104,105,5001] [106,100,5001] [2500] U U (pa zAB g ([d]:List Int) U U U U U U U U (zDK _) U U U (pyq U)) U U fun _ _=>vT [86,88,4443] [108] [] U U (zLd (T:=tab) zAt a.Stack U U U U U U U U fun j c=>pzq U) (fun _=>U) (fun _=>U) fun j c=>vS [106,108,4443,5001] [106,5001,4443] [] U U (zG0 2500 U U U (zCw (T:=tab) zAt a.Stack j (g++[d]) (zA0 c) U U U U U U U U U U U U U (pyq U))) U U (A [79,80,12,2,0,34,2220,34,2221,34,2222,8])))
 ·refine A [67,93] ?_
  exact pl ([d].map zAB) 59 U U U U U U (pa zAB a.Back ([d]:List Int) U U U U U U U U (zDK _) U U U (A [1,12,0,76,0,80,12,0,61,12,2,0,34,2220,34,2221,34,2222,8]))
def zBq (fu:Nat) (b:List Due) (e:zAJ):Nat->Int×(List Task)×(List (List Todo))×(List (List Int))×(List Int)×Bool->Option zAJ
 | 0,_=>none
 | k1+1,(t4,d,h,c7,c8,i)=>cnd (decide (t4<(b.length:Int))) (bnd (idx b t4) fun c=>bnd (zNE fu (⟨h,c7,c8,i⟩:Line) c.Node c.Todo) fun a=>cnd a.2.1 (bnd (zDb 24 (d.length+([(⟨1,0,0⟩:Task)]:List Task).length)) fun _=>bnd (rng .i64 (t4+1)) fun f=>(zBq fu b e k1) (f,(d++[(⟨1,0,0⟩:Task)]),a.1.Todos,a.1.Stack,a.1.Back,a.1.Busy)) (bnd (rng .i64 (t4+1)) fun g=>(zBq fu b e k1) (g,d,a.1.Todos,a.1.Stack,a.1.Back,a.1.Busy))) (some (⟨({e.World with Line:=(⟨h,c7,c8,i⟩:Line),Tasks:=d}:World)⟩:zAJ))
def zBc (fu:Nat) (b:List Due) (a:zAJ):Option zAJ:=bnd (zCz fu a.World.Tasks) fun c=>(zBq fu b a) fu (0,c,a.World.Line.Todos,a.World.Line.Stack,a.World.Line.Back,a.World.Line.Busy)
theorem zGD {fu:Nat} {c:List Due} {b:zAJ}:FF (zBc fu c b) 146 [.loc 900000 0,.sl 11 false (c.map zJm)] [(900000,.box 94 (zBd b.World))] [900000] (fun _=>.tup []) fun r=>[(900000,.box 94 (zBd r.World))]:=by
 refine fcI Tryz.func146 U (A [9,106,43] (fun l _=>?_) zHo [(5,2150)] [2150])
 refine A [3,12,0,80,77,13] ?_
 refine lw (zBq fu c b) [0,19,20] [] (fun (k,d,e,f,g,h)=>[(21,Z k)]) (fun (k,d,e,f,g,h)=>[(2150,.arr 102 3 (d.map zJQ)),(900000,.box 94 ([.sl 10 false (b.World.Forest.Nodes.map zAZ),Z b.World.Forest.Most,.sl 4 false (b.World.States.map zBh)]++zI8 b.World.Desk++[.sl 1 false (e.map zDi),.sl 1 false (f.map zAt),.sl 1 false (g.map zAB),Y h,.own 2150,.sl 2 false (b.World.Builds.map zI7),.sl 5 false (b.World.Classes.map zBk)]))]) fu (0,l,b.World.Line.Todos,b.World.Line.Stack,b.World.Line.Back,b.World.Line.Busy) U U ?_
 rintro n ⟨k,d,e,f,g,h⟩
 refine A [75] ?_
 refine zAF U ?_ ?_
 ·refine A [72,9,36] fun m _=>?_
  refine A [1,31,5,12,0,6,52,5,3,0,19,20,21,5,5,2150,900000,53,18,0,1,3,7,15,0,32,0,128,511,1023,2047,2047,2047,0,20479,57343,131071,209,54,3,1,60,64,68,70] (fun a _=>?_) zXF
  refine vq 4 U (by kernel_rfl) (vS [] [12,13] [6] U U (zGd (T:=tab) 6 U U U U U U U U U (pyq U)) U U (A [50,3,1,12,13,72,13,202,79,9,105,12,0,58] ?_))
  refine zAF U ?_ ?_
  ·refine A [14,106,20] ?_
   refine pl ([(⟨1,0,0⟩:Task)].map zJQ) 52 U U U U U U (pa zJQ d ([(⟨1,0,0⟩:Task)]:List Task) U U U U U U U U (zR8 _) U U U (A [3,12,11,94] fun i _=>?_))
   exact A [89] (tx (i,(d++[(⟨1,0,0⟩:Task)]),a.1.Todos,a.1.Stack,a.1.Back,a.1.Busy))
  ·refine A [4,94] fun j _=>?_
   exact A [89] (tx (j,d,a.1.Todos,a.1.Stack,a.1.Back,a.1.Busy))
 ·exact zVI U (zcq 2150 U U U (zK2 (T:=tab) U U U ⟨U,U⟩ ⟨U,trivial⟩ U))
def zIf (fu:Nat) (b:World) (a:List Due):Option (World×Int):=bnd (zDA fu (⟨b⟩:zAJ)) fun c=>cnd (!c) (some (b,1)) (bnd (zCY fu (fun f=>zEU fu f (⟨b⟩:zAJ)) a) fun d=>cnd d (some (b,1)) (bnd (zBc fu a (⟨b⟩:zAJ)) fun e=>some (e.World,0)))
theorem zR0 {fu:Nat} {b:World} {a:List Due}:DD (zIf fu b a) 150 [.agg (zBd b),.sl 11 false (a.map zJm)] fun r=>.tup [.agg (zBd r.1),Z r.2]:=by
 refine fcI Tryz.func150 U (A [73,31,4,57,80,20,31,6,12,0,62,6,80,41] (fun c _=>?_) zGk)
 refine A [2,26,14,5,104,65,80,92,8,2,44] (fun d _=>?_) zJJ [(900000,6)]
 refine A [57,5,3,80,92,8,67,80,43] (fun e _=>?_) zGD [(900000,6)]
 exact A [0,61,92,8]
def zBe (fu:Nat) (a:List Due) (b:zAL):Option (Int×zAL):=bnd (zIf fu b.World a) fun c=>some (c.2,(⟨c.1,b.node⟩:zAL))
theorem zFH {fu:Nat} {a:List Due} {b:zAL}:FF (zBe fu a b) 87 [.loc 900000 0,.sl 11 false (a.map zJm)] [(900000,.box 99 (zCC b))] [900000] (fun r=>Z r.1) fun r=>[(900000,.box 99 (zCC r.2))]:=by
 refine fcI Tryz.func87 U (A [58,9,105,41] (fun c _=>?_) zR0)
 exact A [3,31,5,92,76,12,0,62,8]
def zCg (_fu:Nat) (a:List State):Option (List State):=bnd (zDb 32 (([]:List State).length+a.length)) fun _=>some (([]:List State)++a)
theorem zHS {fu:Nat} {a:List State}:FF (zCg fu a) 145 [.sl 4 false (a.map zBh)] [] [] (fun _=>.own 5) fun r=>[(5,.arr 53 4 (r.map zBh))]:=by
 refine fcI Tryz.func145 U (A [75,80] ?_)
 refine zIj (T:=tab) U U U U U U fun b d=>?_
 cases b
 ·refine A [0,23,67,9] ?_
  exact pl (([]:List State).map zBh) 5 U U U U U U (pq 1 U (pa zBh ([]:List State) a U U U U U U U U (zTR _) U U U (A [57,8])))
 ·have c:a=[]:=eZ.1 (d rfl)
  exact zK4 (m':=some ([]:List State)) (by subst c;rfl) (A [0,25,58,56,5,53,4,2,8])
def zID (fu:Nat) (d:Forest) (b:List State) (c:Desk) (a:List Class):Option (Unit×Bool×(List Node)×Int×(List Def)×(List Wait)×Int×Bool×(List Class)×(List State)×(List Due)):=bnd (zCg fu b) fun e=>cnd ((b.length:Int)==(d.Nodes.length:Int)) (bnd (zAu fu d) fun f=>cnd f (bnd (zHK fu c) fun g=>some ((),g,d.Nodes,d.Most,c.Defs,c.Waits,c.Next,c.Busy,a,e,([]:List Due))) (some ((),false,d.Nodes,d.Most,c.Defs,c.Waits,c.Next,c.Busy,a,e,([]:List Due)))) (some ((),false,d.Nodes,d.Most,c.Defs,c.Waits,c.Next,c.Busy,a,e,([]:List Due)))
theorem zMi {fu:Nat} {d:Forest} {b:List State} {c:Desk} {a:List Class}:FF (zID fu d b c a) 196 [.agg (zAE d),.sl 4 false (b.map zBh),.agg (zI8 c),.sl 5 false (a.map zBk)] [] [] (fun r=>.tup [.loc 17 0,Y r.2.1]) fun r=>[(17,.box 284 [.sl 10 false (r.2.2.1.map zAZ),Z r.2.2.2.1,.own 2130,.sl 3 false (r.2.2.2.2.1.map zQ3),.sl 2 false (r.2.2.2.2.2.1.map zJg),Z r.2.2.2.2.2.2.1,Y r.2.2.2.2.2.2.2.1,.sl 5 false (r.2.2.2.2.2.2.2.2.1.map zBk),.own 31708]),(2130,.arr 53 4 (r.2.2.2.2.2.2.2.2.2.1.map zBh)),(31708,.arr 171 11 (r.2.2.2.2.2.2.2.2.2.2.map zJm))]:=by
 refine fcI Tryz.func196 U (A [9,30,4,30,6,2,0,6,52,4,2,1,3,4,6,6,4,53,8,0,0,2,0,0,31,63,127,202,55,1,2,24,26,4261] (fun e _=>?_) zHS [(5,2130)] [2130])
 refine A [202,51,5,1,22,26,28,30,4261,32] ?_
 refine vS [32,4261] [34,35] [17] U U (zSp  17 U U U U U U U U U U (pyq U)) U U (A [201,79,61,35,2,35,2] ?_)
 refine zAY (j:=25) U ?_ ?_
 ·refine A [1,41] (fun f _=>?_) zBB
  refine pq 2 U (zAY (j:=29) U ?_ ?_)
  ·refine A [1,41] (fun g _=>?_) zLm
   refine A [3,0] ?_
   exact zKF 31708 171 11 17 8 U U U U U U rN
  ·refine A [105,0] ?_
   exact zKF 31708 171 11 17 8 U U U U U U rN
 ·refine A [109,0] ?_
  exact zKF 31708 171 11 17 8 U U U U U U rN
def zHP (_fu:Nat) (a:Node):Option Bool:=cnd (a.Kind==1) (some (a.Name==([102,111,114,109]:Bs))) (some false)
theorem zLr {fu:Nat} {a:Node}:DD (zHP fu a) 252 [.agg (zAZ a)] fun r=>Y r:=by
 exact fcI Tryz.func252 U (A [9,30,1,57,76,26,6,2,105,74,105,74])
def zIw (_fu:Nat) (a:Forest):Option zMw:=some (⟨a,([]:(List (Int×(List (Bs×Int)))))⟩:zMw)
theorem zOt {fu:Nat} {a:Forest}:FF (zIw fu a) 253 [.agg (zAE a)] [] [] (fun r=>.agg [.sl 10 false (r.Forest.Nodes.map zAZ),Z r.Forest.Most,.own 4]) fun r=>[(4,.mp (r.ids.map fun p:Int×(List (Bs×Int))=>(zOm .i64 p.1,.mpd (p.2.map fun p:Bs×Int=>(zNu p.1,Z p.2)))))]:=by
 refine fcI Tryz.func253 U (A [9,30,1,31,2,0,80] ?_)
 exact zIV 4 U U U U U U U (A [20,12,74])
def zER (fu:Nat) (b:Int) (a:zAR):Option Bool:=bnd (zCK fu a b) fun c=>some (!c)
theorem zPi {fu:Nat} {b:Int} {a:zAR}:FF (zER fu b a) 280 [Z b,.loc 900000 0] [(900000,.box 215 (zAE a.Forest))] [900000] (fun r=>Y r) fun _=>[(900000,.box 215 (zAE a.Forest))]:=by
 refine fcI Tryz.func280 U (A [58,99] (fun c _=>?_) zEz)
 exact A [2,74]
theorem zKN {fu:Nat} {b:List Int} {a:zAR}:FF (zAV fu (fun c=>zER fu c a) b) 227 [.sl 1 false (b.map zAB),.fn (.func 280) [] [.loc 900000 0]] [(900000,.box 215 (zAE a.Forest))] [900000] (fun r=>Z r) fun _=>[(900000,.box 215 (zAE a.Forest))]:=by
 refine fcI Tryz.func227 U (A [75,80,77,13] ?_)
 refine lw (zAM (fun c=>zER fu c a) b) [0,1,7] [900000] (fun d=>[(8,Z d)]) (fun _=>[]) fu 0 U U ?_
 rintro f d
 refine A [75,10,2,86,59,72,62,93,36] fun h _=>?_
 refine A [1,44] (fun g _=>?_) zPi [(900000,900000)]
 refine A [0,5,2,62,8,4,94] fun e _=>?_
 exact A [89] (tx e)
theorem zJK {fu:Nat} {b:List Int} {a:zAR}:FF (zAe fu (fun c=>zER fu c a) b) 156 [.sl 1 false (b.map zAB),.fn (.func 280) [] [.loc 900000 0]] [(900000,.box 215 (zAE a.Forest))] [900000] (fun r=>Y r) fun _=>[(900000,.box 215 (zAE a.Forest))]:=by
 refine fcI Tryz.func156 U (A [58,61,44] (fun d _=>?_) zKN [(900000,900000)])
 exact A [2,74]
def zFp (fu:Nat) (a:Forest) (l2:List Int):Option Bool:=bnd (zC2 fu (⟨a⟩:zAR)) fun b=>cnd b (bnd (zAe fu (fun d=>zER fu d (⟨a⟩:zAR)) l2) fun c=>some (!c)) (some false)
theorem zMj {fu:Nat} {a:Forest} {l2:List Int}:DD (zFp fu a l2) 258 [.agg (zAE a),.sl 1 false (l2.map zAB)] fun r=>Y r:=by
 refine fcI Tryz.func258 U (A [73,57,80,20,31,5,12,0,80,41] (fun b _=>?_) zGi)
 refine A [1,27,10,2,106,74,2,44] (fun c _=>?_) zJK [(900000,5)]
 exact A [3,74]
def zGu (a:Forest):Nat->Int->Option Int
 | 0,_=>none
 | k1+1,n3=>bnd (idx a.Nodes n3) fun b=>cnd (b.Parent != (-1)) (bnd (idx a.Nodes n3) fun c=>(zGu a k1) c.Parent) (some n3)
def zLo (fu:Nat) (a:Forest) (b:Int):Option Int:=(zGu a) fu b
theorem zS5 {fu:Nat} {a:Forest} {b:Int}:DD (zLo fu a b) 277 [.agg (zAE a),Z b] fun r=>Z r:=by
 refine fcI Tryz.func277 U (A [73,57,6,13] ?_)
 refine lw (zGu a) [2] [2] (fun c=>[(1,Z c)]) (fun _=>[]) fu b U U ?_
 rintro e c
 refine A [6,93,36] fun f _=>?_
 refine A [3,0,10,3,86,62,8,67,13,14,3,36] fun d _=>?_
 exact A [3,11,15,46] (tx d.Parent)
def zHe (fu:Nat) (a:Forest) (b:Int):Option Int:=bnd (zFp fu a [b]) fun c=>cnd (!c) (some (-1)) (bnd (zLo fu a b) fun d=>some d)
theorem zN1 {fu:Nat} {b:Forest} {a:Int}:DD (zHe fu b a) 254 [.agg (zAE b),Z a] fun r=>Z r:=by
 refine fcI Tryz.func254 U (A [73,57,6,61] ?_)
 refine pl ([a].map zAB) 7 U U U U U U (A [33,7,41] (fun c _=>?_) zMj)
 refine A [57,5,1,59,67,99] (fun d _=>?_) zS5
 exact A [57,8]
def zE5 (l4:List Int) (c:Int) (d:Node) (a:((List Int)×(List Int))->Option (List Int)):Nat->(List Int)->Option (List Int)
 | 0,l10=>a ((l4++[c]),l10)
 | k2+1,l10=>bnd (d.Kids[k2]?) fun b=>bnd (zDb 8 (l10.length+([b]:List Int).length)) fun _=>(zE5 l4 c d a k2) (l10++[b])
def zCe (b:Forest):Nat->(List Int)×(List Int)->Option (List Int)
 | 0,_=>none
 | k1+1,(l4,l5)=>cnd (decide ((l5.length:Int)>0)) (bnd (rng .i64 ((l5.length:Int) - 1)) fun c=>bnd (idx l5 c) fun a=>bnd (piece l5 0 c) fun e=>bnd (zDb 8 (l4.length+([a]:List Int).length)) fun _=>bnd (idx b.Nodes a) fun d=>(zE5 l4 a d (zCe b k1)) d.Kids.length e) (some l4)
def zEp (fu:Nat) (a:Forest) (b:Int):Option (List Int):=bnd (zFp fu a [b]) fun c=>cnd (!c) (some ([]:List Int)) ((zCe a) fu ([],[b]))
theorem zJr {fu:Nat} {e:Forest} {f:Int}:FF (zEp fu e f) 204 [.agg (zAE e),Z f] [] [] (fun _=>.own 1034) fun r=>[(1034,.arr 3 1 (r.map zAB))]:=by
 refine fcI Tryz.func204 U (fun {w0 X X0 σ0 _}=>A [73,57,6,61] ?_)
 refine pl ([f].map zAB) 13 U U U U U U (A [33,13,41] (fun p _=>?_) zMj)
 refine A [57,5,7,58,56,1034,3,1,4,8,67,75,80] ?_
 refine pl ([f].map zAB) 17 U U U U U U (A [31,6,12,0,13,56,1034,3,1,5] ?_)
 refine lw (zCe e) [2,5,6] [6,2] (fun _=>[]) (fun (c,h)=>[(1034,.arr 3 1 (c.map zAB)),(17,.arr 3 1 (h.map zAB))]) fu ([],[f]) U U ?_
 rintro l ⟨c,h⟩
 refine A [6,80,39,57,10,3,86,62,8,72,80,39,16] fun o _=>?_
 refine A [57,61,38] fun d i=>?_
 refine zAx (T:=tab) zAB h d (zA0 i) U U U U U U U U (A [57,61] ?_)
 refine zJo (T:=tab) zAB h U U U U U U U U U U U fun m _=>A [12,0,61] ?_
 refine pl ([d].map zAB) 33 U U U U U U (pa zAB c ([d]:List Int) U U U U U U U U (zDK _) U U U (A [57,93,36] fun k _=>?_))
 refine pq 2 U (zME (n:=3041) tab Tryz.func229 U U U U U U U U U U U U ⟨⟨_,U,.rfl⟩,trivial⟩ zXZ U U (A [0,13] ?_))
 refine zYD (T:=tab) (enc:=zAB) (enc':=fun (a:Int)=>Z a) (xs:=k.Kids) (x0:=m) (n:=3041) (tS:=32) (tE:=3) (tI:=3) (tB:=4) (tF:=336) (g:=274) (M:=(zE5 c d k (zCe e l))) (Sf:=fun (b:(List Int))=>[(1034,.arr 3 1 ((c++[d]).map zAB)),(17,.arr 3 1 (b.map zAB)),(6,.box 32 [.own 17]),(2,.box 24 (zAE e))]) (N1:=[2,6,1034]) (E0:=[(2,.loc 2 0),(5,.own 1034),(6,.loc 6 0)]) (E1:=fun j a=>[(2,.loc 2 0),(5,.own 1034),(6,.loc 6 0),(42,Z ((j:Nat):Int)),(43,Z a),(10,Z a)]) Tryz.func274 U U U zXa U U (fun _=>U) (fun _=>U) U U ⟨U,U,U,trivial⟩ U U ⟨U,U,U,U,trivial⟩ U U U U U U ?_ ?_ ?_
 ·rintro j a b hy w0 X X0 σ0 _ _
  refine A [1,11] ?_
  exact zP9 ⟨U,U,U,U,U,U,trivial⟩ ⟨U,U,U,U,trivial⟩ U
 ·rintro j a b hy w0 X X0 σ0 _ _
  exact zRZ hy (pq 2 U (pl ([a].map zAB) 46 U U U U U U (pa zAB b ([a]:List Int) U U U U U U U U (zDK _) U U U (A [12,63] (tx (b++[a]))))))
 ·rintro b
  exact A [15,69,58,14,31,6,12,63] (tx ((c++[d]),b))
def zGq (_fu:Nat) (a:Attr) (b:Bs):Option Bool:=some (a.Name==b)
theorem zRh {fu:Nat} {b:Attr} {a:Bs}:FF (zGq fu b a) 237 [.agg (zDh b),.loc 900000 0] [(900000,.box 9 [O a])] [900000] (fun r=>Y r) fun _=>[(900000,.box 9 [O a])]:=by
 exact fcI Tryz.func237 U (A [73,57,9,105,74])
theorem zI2 {fu:Nat} {b:List Attr} {a:Bs}:FF (zBO fu (fun c=>zGq fu c a) b) 236 [.sl 2 false (b.map zDh),.fn (.func 237) [] [.loc 900000 0]] [(900000,.box 9 [O a])] [900000] (fun r=>Z r) fun _=>[(900000,.box 9 [O a])]:=by
 refine fcI Tryz.func236 U (A [75,80,77,13] ?_)
 refine lw (zAa (fun c=>zGq fu c a) b) [0,1,7] [900000] (fun d=>[(8,Z d)]) (fun _=>[]) fu 0 U U ?_
 rintro f d
 refine A [75,10,2,86,59,72,62,93,36] fun h _=>?_
 refine A [1,44] (fun g _=>?_) zRh [(900000,900000)]
 refine A [0,5,2,62,8,4,94] fun e _=>?_
 exact A [89] (tx e)
def zKV (fu:Nat) (l1:List Attr) (a:Bs):Option Int:=bnd (zBO fu (fun c=>zGq fu c a) l1) fun b=>some b
theorem zUC {fu:Nat} {l1:List Attr} {a:Bs}:DD (zKV fu l1 a) 167 [.sl 2 false (l1.map zDh),O a] fun r=>Z r:=by
 refine fcI Tryz.func167 U (A [9,30,3,57,61,44] (fun b _=>?_) zI2 [(900000,3)])
 exact A [57,8]
def zG6 (fu:Nat) (l1:List Attr) (b:Bs):Option (Bs×Int×Int):=bnd (zHI fu l1) fun c=>cnd (!c) (some ([],(-1),1)) (bnd (zGS fu b) fun a=>cnd (a.2 != 0) (some ([],(-1),a.2)) (bnd (zKV fu l1 a.1) fun d=>some (a.1,d,0)))
theorem zKU {fu:Nat} {l1:List Attr} {a:Bs}:DD (zG6 fu l1 a) 101 [.sl 2 false (l1.map zDh),O a] fun r=>.tup [O r.1,Z r.2.1,Z r.2.2]:=by
 refine fcI Tryz.func101 U (A [93,0,6,80,41] (fun b _=>?_) zLl)
 refine A [57,5,2,93,74,67,80,41] (fun c _=>?_) zIH
 refine A [105,0,6,62,5,2,76,74,67,93,41] (fun d _=>?_) zUC
 exact A [3,74]
def zGP (fu:Nat) (l1:List Attr) (b:Bs):Option (Bs×Bool):=bnd (zG6 fu l1 b) fun a=>cnd (decide (a.2.1<0)) (some ([],false)) (bnd (idx l1 a.2.1) fun c=>some (c.Value,true))
theorem zH9 {fu:Nat} {l1:List Attr} {a:Bs}:DD (zGP fu l1 a) 104 [.sl 2 false (l1.map zDh),O a] fun r=>.tup [O r.1,Y r.2]:=by
 refine fcI Tryz.func104 U (A [62,99] (fun b _=>?_) zKU)
 refine A [107,0,6,62,5,2,62,8,67,61,36] fun c _=>?_
 exact A [104,74]
def zHR (_fu:Nat) (a:Forest) (b:Int):Option Int:=bnd (idx a.Nodes b) fun c=>cnd (c.Parent != (-1)) (some c.Parent) (bnd (idx a.Nodes b) fun d=>some d.Host)
theorem zOO {fu:Nat} {a:Forest} {b:Int}:DD (zHR fu a b) 106 [.agg (zAE a),Z b] fun r=>Z r:=by
 refine fcI Tryz.func106 U (A [73,57,6,93,36] fun c _=>?_)
 refine A [3,0,62,5,2,62,8,67,93,36] fun d _=>?_
 exact A [3,74]
def zIx (fu:Nat) (a:Forest):Nat->Int->Option Int
 | 0,_=>none
 | k1+1,n4=>bnd (zHR fu a n4) fun b=>cnd (b != (-1)) (bnd (zHR fu a n4) fun c=>(zIx fu a k1) c) (some n4)
def zLs (fu:Nat) (a:Forest) (b:Int):Option Int:=bnd (zCF fu a [b]) fun c=>cnd (!c) (some (-1)) ((zIx fu a) fu b)
theorem zVh {fu:Nat} {b:Forest} {a:Int}:DD (zLs fu b a) 59 [.agg (zAE b),Z a] fun r=>Z r:=by
 refine fcI Tryz.func59 U (A [73,57,6,61] ?_)
 refine pl ([a].map zAB) 7 U U U U U U (A [33,7,41] (fun f _=>?_) zId)
 refine A [57,5,1,59,72] ?_
 refine lw (zIx fu b) [2] [2] (fun c=>[(1,Z c)]) (fun _=>[]) fu a U U ?_
 rintro e c
 refine A [6,99] (fun g _=>?_) zOO
 refine A [57,10,3,86,62,8,67,13,14,2,41] (fun d _=>?_) zOO
 exact A [1,11,15,46] (tx d)
def zCQ (fu:Nat) (a:Forest) (c:Int):Option Bool:=bnd (zLs fu a c) fun b=>cnd (b != (-1)) (bnd (idx a.Nodes b) fun d=>some (d.Kind==0)) (some false)
theorem zFy {fu:Nat} {a:Forest} {b:Int}:DD (zCQ fu a b) 22 [.agg (zAE a),Z b] fun r=>Y r:=by
 refine fcI Tryz.func22 U (A [73,57,99] (fun c _=>?_) zVh)
 refine A [57,93,27,11,2,109,74,3,36] fun d _=>?_
 exact A [105,74]
def zB2 (fu:Nat) (a:List Node):Nat->Int->Option Int
 | 0,_=>none
 | k1+1,n6=>cnd (n6 != (-1)) (bnd (idx a n6) fun c=>bnd (zHP fu c) fun b=>cnd b (some n6) (bnd (idx a n6) fun d=>(zB2 fu a k1) d.Parent)) (some (-1))
def zD5 (fu:Nat) (a:List Node) (b:Int):Option Int:=bnd (idx a b) fun c=>(zB2 fu a) fu c.Parent
theorem zJS {fu:Nat} {a:List Node} {d b:Int} {l4:List (Int×(List (Bs×Int)))}:FF (zD5 fu a b) 278 [.agg [.sl 10 false (a.map zAZ),Z d,.own 900000],Z b] [(900000,.mp (l4.map fun p:Int×(List (Bs×Int))=>(zOm .i64 p.1,.mpd (p.2.map fun p:Bs×Int=>(zNu p.1,Z p.2)))))] [900000] (fun r=>Z r) fun _=>[(900000,.mp (l4.map fun p:Int×(List (Bs×Int))=>(zOm .i64 p.1,.mpd (p.2.map fun p:Bs×Int=>(zNu p.1,Z p.2)))))]:=by
 refine fcI Tryz.func278 U (A [73,57,6,76,36] fun e _=>?_)
 refine A [3,0,13] ?_
 refine lw (zB2 fu a) [2] [2,900000] (fun c=>[(1,Z c)]) (fun _=>[]) fu e.Parent U U ?_
 rintro g c
 refine A [6,62,10,2,86,59,72,76,36] fun i _=>?_
 refine A [1,41] (fun h _=>?_) zLr
 refine A [0,5,2,62,8,4,70,104,36] fun f _=>?_
 exact A [3,63] (tx f.Parent)
def zBa (fu:Nat) (d:List Node) (a:Int) (l4:List (Int×(List (Bs×Int)))) (c:List Int):Nat->Int×(List (Bs×Int))->Option ((List (Bs×Int))×(List (Int×(List (Bs×Int)))))
 | 0,_=>none
 | k1+1,(t6,l7)=>cnd (decide (t6<(c.length:Int))) (bnd (idx c t6) fun h=>bnd (idx d h) fun i=>bnd (zGP fu i.Attrs [105,100]) fun b=>cnd b.2 (cnd (!(zK7 l7 b.1)) (bnd (rng .i64 (t6+1)) fun e=>(zBa fu d a l4 c k1) (e,(zHV l7 b.1 h))) (bnd (rng .i64 (t6+1)) fun f=>(zBa fu d a l4 c k1) (f,l7))) (bnd (rng .i64 (t6+1)) fun g=>(zBa fu d a l4 c k1) (g,l7))) (some (l7,(zHV l4 a l7)))
def zFW (fu:Nat) (b:List Node) (c a:Int) (l4:List (Int×(List (Bs×Int)))):Option ((List (Bs×Int))×(List (Int×(List (Bs×Int))))):=cnd (zK7 l4 a) (some ((zLi l4 a ([]:(List (Bs×Int)))),l4)) (bnd (zEp fu (⟨b,c⟩:Forest) a) fun d=>(zBa fu b a l4 d) fu (0,([]:(List (Bs×Int)))))
theorem zNl {fu:Nat} {d:List Node} {i a:Int} {l4:List (Int×(List (Bs×Int)))}:FF (zFW fu d i a l4) 279 [.agg [.sl 10 false (d.map zAZ),Z i,.own 900000],Z a] [(900000,.mp (l4.map fun p:Int×(List (Bs×Int))=>(zOm .i64 p.1,.mpd (p.2.map fun p:Bs×Int=>(zNu p.1,Z p.2)))))] [900000] (fun r=>.mpd (r.1.map fun p:Bs×Int=>(zNu p.1,Z p.2))) fun r=>[(900000,.mp (r.2.map fun p:Int×(List (Bs×Int))=>(zOm .i64 p.1,.mpd (p.2.map fun p:Bs×Int=>(zNu p.1,Z p.2)))))]:=by
 refine fcI Tryz.func279 U (A [73,57,6,93] ?_)
 refine zIU (T:=tab) (zKm .i64) (fun v=>.mpd (v.map fun p:Bs×Int=>(zNu p.1,Z p.2))) l4 a ([]:(List (Bs×Int))) Tryz.underlying340 Tryz.underlying3 U U U U U U U U U (A [105,0,58,5,2,62,8,67,9] ?_)
 refine zIV 23 U U U U U U U (A [57,6,93,43] (fun l _=>?_) zJr [(1034,2270)] [2270])
 refine A [33,2270,77,13] ?_
 refine lw (zBa fu d a l4 l) [1,2,7,27,28] [2,900000] (fun (h,b)=>[(29,Z h)]) (fun (h,b)=>[(23,.mp (b.map fun p:Bs×Int=>(zNu p.1,Z p.2)))]) fu (0,([]:(List (Bs×Int)))) U U ?_
 rintro m ⟨h,b⟩
 refine A [75] ?_
 refine zAF U ?_ ?_
 ·refine A [72,9,36] fun k _=>?_
  refine A [2,0,76,36] fun n _=>?_
  refine A [2,41] (fun c _=>?_) zH9
  refine A [105,0,61] ?_
  refine zIU (T:=tab) zJi (fun v=>Z v) b c.1 0 Tryz.underlying142 Tryz.underlying9 U U U U U U U U U (A [105,0,61] ?_)
  refine zAY (j:=51) U ?_ ?_
  ·refine A [3,0] ?_
   refine zAF U ?_ ?_
   ·refine A [14,3] ?_
    refine zGL zJi (fun v=>Z v) b c.1 k Tryz.underlying142 Tryz.underlying9 U U U U U U U U U (A [11,94] fun e _=>?_)
    exact A [89] (tx (e,(zHV b c.1 k)))
   ·refine A [4,94] fun f _=>?_
    exact A [89] (tx (f,b))
  ·refine A [3,11,24,4,94] fun g _=>?_
   exact A [89] (tx (g,b))
 ·refine A [86,76] ?_
  exact zaX 23 U U U (zGL (zKm .i64) (fun v=>.mpd (v.map fun p:Bs×Int=>(zNu p.1,Z p.2))) l4 a b Tryz.underlying340 Tryz.underlying3 U U U U U U U U U (A [0,62,8]))
def zE8 (fu:Nat) (b:List Node) (e c:Int) (l4:List (Int×(List (Bs×Int)))):Option (Int×(List (Int×(List (Bs×Int))))):=bnd (idx b c) fun i=>cnd (i.Kind != 1) (some ((-1),l4)) (bnd (zGP fu i.Attrs [102,111,114,109]) fun d=>cnd (!d.2) (bnd (zD5 fu b c) fun k=>some (k,l4)) (bnd (zCQ fu (⟨b,e⟩:Forest) c) fun j=>cnd (!j) (bnd (zD5 fu b c) fun l=>some (l,l4)) (bnd (zHe fu (⟨b,e⟩:Forest) c) fun f=>bnd (zFW fu b e f l4) fun a=>cnd (!(zK7 a.1 d.1)) (some ((-1),a.2)) (cnd (d.1==([]:Bs)) (some ((-1),a.2)) (bnd (idx b (zLi a.1 d.1 0)) fun h=>bnd (zHP fu h) fun g=>cnd (!g) (some ((-1),a.2)) (some ((zLi a.1 d.1 0),a.2)))))))
theorem zKg {fu:Nat} {b:List Node} {c d:Int} {l4:List (Int×(List (Bs×Int)))}:FF (zE8 fu b c d l4) 256 [.agg [.sl 10 false (b.map zAZ),Z c,.own 900000],Z d] [(900000,.mp (l4.map fun p:Int×(List (Bs×Int))=>(zOm .i64 p.1,.mpd (p.2.map fun p:Bs×Int=>(zNu p.1,Z p.2)))))] [900000] (fun r=>Z r.1) fun r=>[(900000,.mp (r.2.map fun p:Int×(List (Bs×Int))=>(zOm .i64 p.1,.mpd (p.2.map fun p:Bs×Int=>(zNu p.1,Z p.2)))))]:=by
 refine fcI Tryz.func256 U (A [73,57,76,36] fun m _=>?_)
 refine A [1,31,5,12,0,6,93,0,5,1,59,67,99] (fun g _=>?_) zH9
 refine A [105,0,6,93] ?_
 refine zAY (j:=26) U ?_ ?_
 ·refine A [106,65,61,44] (fun k _=>?_) zJS [(900000,900000)]
  exact A [57,8]
 ·refine A [3,41] (fun i _=>?_) zFy
  refine A [2,0] ?_
  refine zAF U ?_ ?_
  ·refine A [61,44] (fun l _=>?_) zJS [(900000,900000)]
   exact A [57,8]
  ·refine A [68,52,3,2,1,2,6,2,900000,53,13,0,0,2,0,14,31,0,127,255,511,511,1023,4095,204,54,2,1,78,80,82] (fun e _=>?_) zN1
   refine A [55,3,2,74,82,1800001,84,1800001] (fun a _=>?_) zNl [(900000,900000)]
   refine vq 1 U (by kernel_rfl) (vS [84,86] [88] [] U U (zYA (T:=tab) zJi (fun v=>Z v) a.1 g.1 0 Tryz.underlying142 Tryz.underlying9 U U U U U U U U (pyq U)) U U (A [205,79,6,93,26,49,2,113,83,104,26,53,2,109,83,104,36] fun h _=>?_))
   refine A [1,41] (fun f _=>?_) zLr
   exact A [2,0,5,1,59,67,62,8]
def zBC (fu:Nat) (f:Int) (b:List Node) (c d:Int) (e:List (Int×(List (Bs×Int)))):Option (Bool×(List (Int×(List (Bs×Int))))):=bnd (zE8 fu b c f e) fun a=>some ((a.1 != d),a.2)
theorem zKf {fu:Nat} {e:Int} {a:List Node} {b c:Int} {d:List (Int×(List (Bs×Int)))}:FF (zBC fu e a b c d) 255 [Z e,.loc 900000 0,.loc 900001 0] [(900000,.box 342 [.sl 10 false (a.map zAZ),Z b,.own 900002]),(900001,.box 3 [Z c]),(900002,.mp (d.map fun p:Int×(List (Bs×Int))=>(zOm .i64 p.1,.mpd (p.2.map fun p:Bs×Int=>(zNu p.1,Z p.2)))))] [900000,900001,900002] (fun r=>Y r.1) fun r=>[(900000,.box 342 [.sl 10 false (a.map zAZ),Z b,.own 900002]),(900001,.box 3 [Z c]),(900002,.mp (r.2.map fun p:Int×(List (Bs×Int))=>(zOm .i64 p.1,.mpd (p.2.map fun p:Bs×Int=>(zNu p.1,Z p.2)))))]:=by
 refine fcI Tryz.func255 U (A [75,52,3,3,0,1,2,900000,900001,900002,53,6,0,0,3,0,15,31,202,55,3,2,10,12,1800005,14,1800005] (fun f _=>?_) zKg [(900000,900002)])
 exact A [203,79,8]
def zBX (c:Int->(List (Int×(List (Bs×Int))))->Option (Bool×(List (Int×(List (Bs×Int)))))) (l1:List Int):Nat->Int×(List (Int×(List (Bs×Int))))->Option (Int×(List (Int×(List (Bs×Int)))))
 | 0,_=>none
 | k1+1,(t6,l7)=>cnd (decide (t6<(l1.length:Int))) (bnd (idx l1 t6) fun d=>bnd (c d l7) fun b=>cnd b.1 (some (t6,b.2)) (bnd (rng .i64 (t6+1)) fun a=>(zBX c l1 k1) (a,b.2))) (some ((-1),l7))
def zE9 (fu:Nat) (b:Int->(List (Int×(List (Bs×Int))))->Option (Bool×(List (Int×(List (Bs×Int)))))) (l1:List Int) (a:List (Int×(List (Bs×Int)))):Option (Int×(List (Int×(List (Bs×Int))))):=(zBX b l1) fu (0,a)
end Go.Proofs.YtmfbghpealgaiaaGreatDoor
