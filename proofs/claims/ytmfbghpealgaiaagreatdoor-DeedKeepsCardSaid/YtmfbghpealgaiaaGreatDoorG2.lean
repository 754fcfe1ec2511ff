/- Models and proofs, printed by emit2.py. -/
import Derived.Test.YtmfbghpealgaiaaGreatDoorG1
namespace Go.Proofs.YtmfbghpealgaiaaGreatDoor
open Go Go.Pw
open List renaming map_eq_nil_iff->eZ,getElem?_eq_getElem->lC
set_option maxRecDepth 100000
set_option maxHeartbeats 10000000
set_option linter.unusedVariables false
theorem zQE {fu:Nat} {a:Int}:DD (zJv fu a) 41 [Z a] fun r=>.tup [.agg (zQ5 r.1),Y r.2]:=by
 refine fcI Tryz.func41 U (A [9,31,2,57,6,58,13,6,62] ?_)
 refine jw (zHF fu a) [0,2,4] [2] (fun g=>[(5,Y g)]) (fun _=>[]) U U ?_ fun b=>?_
 ·rintro g
  refine zJR (zAF U ?_ ?_)
  ·refine A [80,41] (fun p _=>?_) zE6
   exact A [20,92,8]
  ·refine A [6,62] ?_
   refine jw (zIo fu a) [0,2,4] [2] (fun h=>[(13,Y h)]) (fun _=>[]) U U ?_ fun c=>?_
   ·rintro h
    refine zJR (zAF U ?_ ?_)
    ·refine A [80,41] (fun q _=>?_) zE6
     exact A [20,92,8]
    ·refine A [6,62] ?_
     refine jw (zIp fu a) [0,2,4] [2] (fun i=>[(20,Y i)]) (fun _=>[]) U U ?_ fun d=>?_
     ·rintro i
      refine zJR (zAF U ?_ ?_)
      ·refine A [80,41] (fun s _=>?_) zE6
       exact A [20,92,8]
      ·refine A [62] ?_
       refine zAF U ?_ ?_
       ·refine A [80,41] (fun t _=>?_) zE6
        exact A [20,92,8]
       ·refine A [62] ?_
        refine zAF U ?_ ?_
        ·refine A [80,41] (fun u _=>?_) zE6
         exact A [20,92,8]
        ·refine A [62] ?_
         refine zAF U ?_ ?_
         ·refine A [80,41] (fun j _=>?_) zE6
          exact A [20,92,8]
         ·refine A [62] ?_
          refine zAF U ?_ ?_
          ·refine A [80,41] (fun k _=>?_) zE6
           exact A [20,92,8]
          ·refine A [62] ?_
           refine zAF U ?_ ?_
           ·refine A [80,41] (fun l _=>?_) zE6
            exact A [20,92,8]
           ·refine A [62] ?_
            refine zAF U ?_ ?_
            ·refine A [80,41] (fun m _=>?_) zE6
             exact A [20,92,8]
            ·refine A [6,62] ?_
             refine jw (zIq fu a) [0,2] [2] (fun f=>[(57,Y f)]) (fun _=>[]) U U ?_ fun e=>?_
             ·rintro f
              refine zJR (zAF U ?_ ?_)
              ·refine A [80,41] (fun n _=>?_) zE6
               exact A [20,92,8]
              ·refine A [4,69,80,41] (fun o _=>?_) zE6
               exact A [20,3,26,69,3,3,92,8,3,92,8]
             ·refine zAF U ?_ ?_
              ·exact A [4,45] (e (a==20))
              ·refine A [62] ?_
               refine zAF U ?_ ?_
               ·exact A [4,45] (e (a==22))
               ·exact A [14,2,11,45] (e (a==25))
     ·refine zAF U ?_ ?_
      ·exact A [4,45] (d (a==6))
      ·refine A [62] ?_
       refine zAF U ?_ ?_
       ·exact A [4,45] (d (a==8))
       ·exact A [14,2,11,45] (d (a==26))
   ·refine zAF U ?_ ?_
    ·exact A [4,45] (c (a==3))
    ·refine A [62] ?_
     refine zAF U ?_ ?_
     ·exact A [4,45] (c (a==10))
     ·exact A [14,2,11,45] (c (a==24))
 ·refine zAF U ?_ ?_
  ·exact A [4,45] (b (a==1))
  ·refine A [62] ?_
   refine zAF U ?_ ?_
   ·exact A [4,45] (b (a==2))
   ·refine A [62] ?_
    refine zAF U ?_ ?_
    ·exact A [4,45] (b (a==9))
    ·exact A [14,2,11,45] (b (a==28))
def zIr (_fu:Nat):Option Unit:=some ()
theorem zOh {fu:Nat} {a:Op}:FF (zIr fu) 42 [.loc 900000 0] [(900000,.box 41 (cOp a))] [900000] (fun _=>.bsl 12 3) fun _=>[(900000,.box 41 (cOp a)),(12,.box 114 [.loc 900000 1,.loc 900000 2,.loc 900000 3])]:=by
 refine fcI Tryz.func42 U (A [75,52,1,1,0,900000,53,11,0,1,3,0,8,24,0,64,192,511,1023,209] ?_)
 exact vS [10,16,22,1800001] [24,25] [12] U U (zcS (T:=tab) 12 U U U U U U U U U U U U U U (pyq U)) U U (A [201,79,8])
def zMl (a:Int) (b:Unit):Option Bool:=cnd (a==(-2)) (some true) (cnd (a==(-3)) (some true) (cnd (decide (a>=0)) (some (decide (a<400))) (some false)))
def zM9 (_fu:Nat) (a b:Int):Option Bool:=cnd (a==111) (cnd (b==(-1)) (some true) ((zMl b) ())) (cnd (a==110) ((zMl b) ()) (cnd (a==105) (cnd (decide (b>=(-1000))) (some (decide (b<=1000))) (some false)) (some (b==0))))
theorem zRc {fu:Nat} {a c:Int}:DD (zM9 fu a c) 43 [.v (.int .u8 a),Z c] fun r=>Y r:=by
 refine fcI Tryz.func43 U (A [75,58,13,6,13,6] ?_)
 refine jw (zMl c) [1] [] (fun _=>[]) (fun _=>[]) U U ?_ fun b=>?_
 ·rintro _
  exact A [7,6,93,26,16,2,112,74,104,26,20,2,108,74,3,26,23,2,105,74,105,74]
 ·refine A [13,6,13,6,6,62] ?_
  refine zAF U ?_ ?_
  ·exact A [86,62,5,1,59,4,15,45] (b ())
  ·exact A [68,62,10,18,67,62,5,10,86,6,93,26,30,2,104,74,104,74,67,86,93,74,17,45] (b ())
def zNA (_fu:Nat):Option Unit:=some ()
theorem zWt {fu:Nat} {a:Op}:FF (zNA fu) 44 [.loc 900000 0] [(900000,.box 41 (cOp a))] [900000] (fun _=>.bsl 9 2) fun _=>[(900000,.box 41 (cOp a)),(9,.box 118 [.loc 900000 4,.loc 900000 5])]:=by
 refine fcI Tryz.func44 U (A [75,52,1,1,0,900000,53,8,0,1,3,0,8,24,63,127,206] ?_)
 exact vS [10,16,1800001] [18,19] [9] U U (zcS (T:=tab) 9 U U U U U U U U U U U U U U (pyq U)) U U (A [201,79,8])
def zF5 (fu:Nat) (a:Int) (b:Bs):Option Bool:=cnd (a==115) (cnd (decide ((b.length:Int)<=200)) (bnd (zEf fu b [10]) fun c=>some (!c)) (some false)) (some (b==([]:Bs)))
theorem zOg {fu:Nat} {a:Int} {b:Bs}:DD (zF5 fu a b) 45 [.v (.int .u8 a),O b] fun r=>Y r:=by
 refine fcI Tryz.func45 U (A [75,62,10,3,67,93,74,76,27,10,2,105,74,1,41] (fun c _=>?_) zJ1)
 exact A [3,74]
def zIE (fu:Nat) (f:Op) (g:zDC×Bool) (a:Bool):Option Bool:=bnd (zNA fu) fun h=>cnd a (bnd (chr g.1.fields 3) fun b=>bnd (zF5 fu b f.S) fun d=>cnd d (bnd (chr g.1.fields 4) fun c=>bnd (zF5 fu c f.T) fun e=>some e) (some false)) (some false)
def zJu (fu:Nat) (a:Op) (b:zDC×Bool) (c:Bool):Option Bool:=cnd c (bnd (chr b.1.fields 1) fun e=>bnd (zM9 fu e a.B) fun g=>cnd g (bnd (chr b.1.fields 2) fun f=>bnd (zM9 fu f a.C) fun d=>(zIE fu a b) d) ((zIE fu a b) false)) ((zIE fu a b) false)
def zK7 (fu:Nat) (a:Op):Option Bool:=bnd (zJv fu a.Kind) fun b=>bnd (zIr fu) fun e=>cnd b.2 (bnd (chr b.1.fields 0) fun c=>bnd (zM9 fu c a.A) fun d=>(zJu fu a b) d) ((zJu fu a b) false)
theorem zRb {fu:Nat} {f:Op}:DD (zK7 fu f) 15 [.agg (cOp f)] fun r=>Y r:=by
 refine fcI Tryz.func15 U (A [9,30,1,57,99] (fun b _=>?_) zQE)
 refine A [3,31,3,92,6,9,43] (fun u _=>?_) zOh [(12,400150),(900000,1)] [400150]
 refine A [2,0] ?_
 refine jw (zIE fu f b) [1,3] [1,3] (fun a=>[(4,Y a)]) (fun _=>[]) U U ?_ fun e=>?_
 ·rintro a
  refine zg9 (m':=bnd (zNA fu) fun m=>cnd a (bnd (chr b.1.fields 3) fun c=>bnd (zF5 fu c f.S) fun j=>cnd j (bnd (chr b.1.fields 4) fun d=>bnd (zF5 fu d f.T) fun k=>some k) (some false)) (some false)) U (A [7,6,9,43] (fun m _=>?_) zWt [(9,400340),(900000,1)] [400340])
  refine A [2,0,13] ?_
  refine zSW 3 (A [75,25,72,80] ?_)
  refine zKz (T:=tab) (i:=0) U U U U U U U U (A [3,0,85,202] ?_)
  refine zA3 (t:=42) U ?_ ?_
  ·refine vq 3 U (by kernel_rfl) (vS [84,90] [92] [] U U (zCg (T:=tab) 3 U U U U U (pyq U)) U U (vT [84,88,92] [94] [] U U (zN1 (T:=tab) (s:=b.1.fields) U U U U U U U fun c _=>pzq U) (fun _=>U) (fun _=>U) fun c _=>A [203,54,3,1,84,94,100,102] (fun j _=>?_) zOg))
   refine A [202,19,70] ?_
   refine zCg (T:=tab) 1 U U U U U (A [1,11] ?_)
   refine zDG 2 (A [75,25,72,80] ?_)
   refine zKz (T:=tab) (i:=1) U U U U U U U U (A [3,0,85,202] ?_)
   refine zA3 (t:=42) U ?_ ?_
   ·refine vq 3 U (by kernel_rfl) (vS [84,90] [92] [] U U (zCg (T:=tab) 4 U U U U U (pyq U)) U U (vT [84,88,92] [94] [] U U (zN1 (T:=tab) (s:=b.1.fields) U U U U U U U fun d _=>pzq U) (fun _=>U) (fun _=>U) fun d _=>A [203,54,3,1,84,94,100,102] (fun k _=>?_) zOg))
    refine A [202,19,70] ?_
    refine zCg (T:=tab) 2 U U U U U (A [1,11] ?_)
    exact zDG 1 (A [75,23,86,62,8])
   ·refine A [211,19,70] ?_
    refine zCg (T:=tab) 2 U U U U U (A [1,11] ?_)
    exact zDG 1 (A [75,23,86,62,8])
  ·refine A [211,19,70] ?_
   refine zCg (T:=tab) 1 U U U U U (A [1,11] ?_)
   refine zDG 2 (A [75,25,72,80] ?_)
   refine zKz (T:=tab) (i:=1) U U U U U U U U (A [3,0,85,213,19,70] ?_)
   refine zCg (T:=tab) 2 U U U U U (A [1,11] ?_)
   exact zDG 1 (A [75,23,86,62,8])
 ·refine zY1 (zSW 4 (A [75,25,68] ?_))
  refine jw (zJu fu f b) [1,3,15,16,17] [1,400150,3] (fun h=>[(4,Y h)]) (fun _=>[]) U U ?_ fun g=>?_
  ·rintro h
   refine A [7,14] ?_
   refine zCg (T:=tab) 1 U U U U U (A [1,11] ?_)
   refine zDG 3 (A [75,25,72,80] ?_)
   refine zKz (T:=tab) (i:=1) U U U U U U U U (A [3,0,71,202] ?_)
   refine zA3 (t:=23) U ?_ ?_
   ·refine vq 3 U (by kernel_rfl) (vT [46,50,52] [54] [] U U (zN1 (T:=tab) (s:=b.1.fields) U U U U U U U fun o _=>pzq U) (fun _=>U) (fun _=>U) fun o _=>A [203,54,3,1,46,54,60,62] (fun v _=>?_) zRc)
    refine A [202,19,70] ?_
    refine zCg (T:=tab) 2 U U U U U (A [1,11] ?_)
    refine zDG 2 (A [75,25,72,80] ?_)
    refine zKz (T:=tab) (i:=2) U U U U U U U U (A [3,0,71,202] ?_)
    refine zA3 (t:=23) U ?_ ?_
    ·refine vq 3 U (by kernel_rfl) (vT [46,50,52] [54] [] U U (zN1 (T:=tab) (s:=b.1.fields) U U U U U U U fun p _=>pzq U) (fun _=>U) (fun _=>U) fun p _=>A [203,54,3,1,46,54,60,62] (fun l _=>?_) zRc)
     refine A [202,19,70] ?_
     refine zCg (T:=tab) 3 U U U U U (A [1,11] ?_)
     exact zDG 1 (A [75,23,17,45] (e l))
    ·refine A [210,19,70] ?_
     refine zCg (T:=tab) 3 U U U U U (A [1,11] ?_)
     exact zDG 1 (A [75,23,17,45] (e false))
   ·refine A [210,19,70] ?_
    refine zCg (T:=tab) 2 U U U U U (A [1,11] ?_)
    refine zDG 2 (A [75,25,72,80] ?_)
    refine zKz (T:=tab) (i:=2) U U U U U U U U (A [3,0,71,212,19,70] ?_)
    refine zCg (T:=tab) 3 U U U U U (A [1,11] ?_)
    exact zDG 1 (A [75,23,17,45] (e false))
  ·refine A [13,80] ?_
   refine zKz (T:=tab) (i:=0) U U U U U U U U (A [3,0,71,202] ?_)
   refine zA3 (t:=23) U ?_ ?_
   ·refine vq 3 U (by kernel_rfl) (vT [46,50,52] [54] [] U U (zN1 (T:=tab) (s:=b.1.fields) U U U U U U U fun n _=>pzq U) (fun _=>U) (fun _=>U) fun n _=>A [203,54,3,1,46,54,60,62] (fun q _=>?_) zRc)
    exact A [202,19,15,45] (g q)
   ·exact A [210,19,15,45] (g false)
def zMk (e:Op) (b d c a:Int):Option (Op×Int):=cnd (decide (a<0)) (some ((⟨0,0,0,0,[],[],false⟩:Op),6)) (cnd (decide (a>=b)) (some ((⟨0,0,0,0,[],[],false⟩:Op),6)) (some (({e with A:=d,B:=c,C:=a}:Op),0)))
def zMj (d:Op) (c a e b:Int) (f:Unit):Option (Op×Int):=cnd (d.C==(-2)) ((zMk d a e b) c) (cnd (d.C==(-3)) ((zMk d a e b) (IntKind.i64.wrap (a - 1))) ((zMk d a e b) d.C))
def zIn (e:Op) (c b:Int) (g:zDC×Bool) (f a:Int):Option (Op×Int):=bnd (chr g.1.fields 2) fun d=>cnd (d==46) (some (({e with A:=f,B:=a}:Op),0)) (cnd (d==105) (some (({e with A:=f,B:=a}:Op),0)) (cnd (d==111) (cnd (e.C==(-1)) (some (({e with A:=f,B:=a}:Op),0)) ((zMj e c b f a) ())) ((zMj e c b f a) ())))
def zMi (d:Op) (b a:Int) (e:zDC×Bool) (c c11:Int):Option (Op×Int):=cnd (decide (c11<0)) (some ((⟨0,0,0,0,[],[],false⟩:Op),6)) (cnd (decide (c11>=a)) (some ((⟨0,0,0,0,[],[],false⟩:Op),6)) ((zIn d b a e c) c11))
def zMh (c:Op) (b a:Int) (e:zDC×Bool) (d:Int) (f:Unit):Option (Op×Int):=cnd (c.B==(-2)) ((zMi c b a e d) b) (cnd (c.B==(-3)) ((zMi c b a e d) (IntKind.i64.wrap (a - 1))) ((zMi c b a e d) c.B))
def zIm (c:Op) (b a:Int) (e:zDC×Bool) (f:Int):Option (Op×Int):=bnd (chr e.1.fields 1) fun d=>cnd (d==46) ((zIn c b a e f) c.B) (cnd (d==105) ((zIn c b a e f) c.B) (cnd (d==111) (cnd (c.B==(-1)) ((zIn c b a e f) c.B) ((zMh c b a e f) ())) ((zMh c b a e f) ())))
def zMg (d:Op) (b a:Int) (e:zDC×Bool) (c:Int):Option (Op×Int):=cnd (decide (c<0)) (some ((⟨0,0,0,0,[],[],false⟩:Op),6)) (cnd (decide (c>=a)) (some ((⟨0,0,0,0,[],[],false⟩:Op),6)) ((zIm d b a e) c))
def zMf (c:Op) (b a:Int) (d:zDC×Bool) (e:Unit):Option (Op×Int):=cnd (c.A==(-2)) ((zMg c b a d) b) (cnd (c.A==(-3)) ((zMg c b a d) (IntKind.i64.wrap (a - 1))) ((zMg c b a d) c.A))
def zQy (fu:Nat) (c:Op) (b a:Int):Option (Op×Int):=bnd (zK7 fu c) fun f=>cnd (!f) (some ((⟨0,0,0,0,[],[],false⟩:Op),2)) (bnd (zJv fu c.Kind) fun d=>bnd (zIr fu) fun g=>bnd (chr d.1.fields 0) fun e=>cnd (e==46) ((zIm c b a d) c.A) (cnd (e==105) ((zIm c b a d) c.A) (cnd (e==111) (cnd (c.A==(-1)) ((zIm c b a d) c.A) ((zMf c b a d) ())) ((zMf c b a d) ()))))
theorem zaX {fu:Nat} {c:Op} {b a:Int}:DD (zQy fu c b a) 37 [.agg (cOp c),Z b,Z a] fun r=>.tup [.agg (cOp r.1),Z r.2]:=by
 refine fcI Tryz.func37 U (A [9,30,3,31,6,57,6,80,41] (fun y _=>?_) zRb)
 refine A [57,5,4,9,20,92,8,67,99] (fun f _=>?_) zQE
 refine A [3,31,8,92,6,9,43] (fun z _=>?_) zOh [(12,400230),(900000,3)] [400230]
 refine A [2,0,13] ?_
 refine zSW 4 (A [75,25,68] ?_)
 refine jw (zIm c b a f) [1,2,3,6,8,23,24,25] [400230,8,6] (fun _=>[]) (fun e=>[(3,.box 41 [Z c.Kind,Z e,Z c.B,Z c.C,O c.S,O c.T,Y c.Must])]) U U ?_ fun g=>?_
 ·rintro e
  refine A [7,14] ?_
  refine zCg (T:=tab) 1 U U U U U (A [1,11] ?_)
  refine zDG 3 (A [75,25,68] ?_)
  refine jw (zIn c b a f e) [1,2,3,6,8,23,24,25] [400230,8,6] (fun _=>[]) (fun d=>[(3,.box 41 [Z c.Kind,Z e,Z d,Z c.C,O c.S,O c.T,Y c.Must])]) U U ?_ fun h=>?_
  ·rintro d
   refine A [7,14] ?_
   refine zCg (T:=tab) 2 U U U U U (A [1,11] ?_)
   refine zDG 2 (A [75,25,72,80] ?_)
   refine zKz (T:=tab) (i:=2) U U U U U U U U (A [3,0,6,93] ?_)
   refine zN1 (T:=tab) (s:=f.1.fields) U U U U U U U fun w _=>A [57,9] ?_
   refine zNN (zMj c b a e d) (fun (_:Unit)=>[(1,Z b),(2,Z a),(3,.loc 3 0),(6,.loc 6 0),(8,.loc 8 0),(11,.loc 3 3),(23,.bsl 400230 3),(24,Z 3),(25,Z 2)]) (fun (_:Unit)=>[(3,.box 41 [Z c.Kind,Z e,Z d,Z c.C,O c.S,O c.T,Y c.Must]),(400230,.box 114 [.loc 3 1,.loc 3 2,.loc 3 3]),(8,.box 108 (zQ5 f.1)),(6,.box 41 [Z 0,Z 0,Z 0,Z 0,O [],O [],Y false])]) ?_ fun t=>?_
   ·rintro _
    refine A [7,6,93,0] ?_
    refine jw (zMk c a e d) [1,2,3,6,8,11,23,24,25] [400230,8,6] (fun _=>[]) (fun o=>[(3,.box 41 [Z c.Kind,Z e,Z d,Z o,O c.S,O c.T,Y c.Must])]) U U ?_ fun n=>?_
    ·rintro o
     refine A [7,9,105,26,68,6,106,65,9,20,92,8,106,0,5,4,9,20,92,8,4,70] ?_
     refine zCg (T:=tab) 3 U U U U U (A [1,11] ?_)
     exact zDG 1 (A [75,23,86,80,92,8])
    ·refine A [13,62] ?_
     refine zAF U ?_ ?_
     ·exact A [14,3,12,11,15,45] (n b)
     ·refine A [62] ?_
      refine zAF U ?_ ?_
      ·refine A [14,2] ?_
       exact zXn (T:=tab) U U U U (A [1,12,11,15,45] (n (IntKind.i64.wrap (a - 1))))
      ·exact A [4,15,45] (n c.C)
   ·refine pq 3 U (zAW (j:=36) U ?_ ?_)
    ·refine A [113,65,86,14] ?_
     refine zCg (T:=tab) 3 U U U U U (A [1,11] ?_)
     exact zDG 1 (A [75,23,86,80,92,8])
    ·refine pq 4 U (zAW (j:=40) U ?_ ?_)
     ·refine A [109,65,86,14] ?_
      refine zCg (T:=tab) 3 U U U U U (A [1,11] ?_)
      exact zDG 1 (A [75,23,86,80,92,8])
     ·refine pq 3 U (zAW (j:=43) U ?_ ?_)
      ·refine A [106,0] ?_
       refine zAF U ?_ ?_
       ·refine A [86,14] ?_
        refine zCg (T:=tab) 3 U U U U U (A [1,11] ?_)
        exact zDG 1 (A [75,23,86,80,92,8])
       ·exact A [4,45] (t ())
      ·exact A [106,11,24,4,45] (t ())
  ·refine A [13,80] ?_
   refine zKz (T:=tab) (i:=1) U U U U U U U U (A [3,0,6,93] ?_)
   refine zN1 (T:=tab) (s:=f.1.fields) U U U U U U U fun v _=>A [57,9] ?_
   refine zNN (zMh c b a f e) (fun (_:Unit)=>[(1,Z b),(2,Z a),(3,.loc 3 0),(6,.loc 6 0),(8,.loc 8 0),(11,.loc 3 2),(23,.bsl 400230 3),(24,Z 3),(25,Z 1)]) (fun (_:Unit)=>[(3,.box 41 [Z c.Kind,Z e,Z c.B,Z c.C,O c.S,O c.T,Y c.Must]),(400230,.box 114 [.loc 3 1,.loc 3 2,.loc 3 3]),(8,.box 108 (zQ5 f.1)),(6,.box 41 [Z 0,Z 0,Z 0,Z 0,O [],O [],Y false])]) ?_ fun q=>?_
   ·rintro _
    refine A [7,6,93,0] ?_
    refine jw (zMi c b a f e) [1,2,3,6,8,11,23,24,25] [400230,8,6] (fun _=>[]) (fun k=>[(3,.box 41 [Z c.Kind,Z e,Z k,Z c.C,O c.S,O c.T,Y c.Must])]) U U ?_ fun m=>?_
    ·rintro k
     exact A [7,9,105,26,68,6,106,65,9,20,92,8,106,0,5,4,9,20,92,8,4,15,45] (h k)
    ·refine A [13,62] ?_
     refine zAF U ?_ ?_
     ·exact A [14,3,12,11,15,45] (m b)
     ·refine A [62] ?_
      refine zAF U ?_ ?_
      ·refine A [14,2] ?_
       exact zXn (T:=tab) U U U U (A [1,12,11,15,45] (m (IntKind.i64.wrap (a - 1))))
      ·exact A [4,15,45] (m c.B)
   ·refine pq 3 U (zAW (j:=36) U ?_ ?_)
    ·exact A [113,65,17,45] (h c.B)
    ·refine pq 4 U (zAW (j:=40) U ?_ ?_)
     ·exact A [109,65,17,45] (h c.B)
     ·refine pq 3 U (zAW (j:=43) U ?_ ?_)
      ·refine A [106,0] ?_
       refine zAF U ?_ ?_
       ·exact A [17,45] (h c.B)
       ·exact A [4,45] (q ())
      ·exact A [106,11,24,4,45] (q ())
 ·refine A [13,80] ?_
  refine zKz (T:=tab) (i:=0) U U U U U U U U (A [3,0,6,93] ?_)
  refine zN1 (T:=tab) (s:=f.1.fields) U U U U U U U fun x _=>A [57,9] ?_
  refine zNN (zMf c b a f) (fun (_:Unit)=>[(1,Z b),(2,Z a),(3,.loc 3 0),(6,.loc 6 0),(8,.loc 8 0),(11,.loc 3 1),(23,.bsl 400230 3),(24,Z 3),(25,Z 0)]) (fun (_:Unit)=>[(3,.box 41 (cOp c)),(400230,.box 114 [.loc 3 1,.loc 3 2,.loc 3 3]),(8,.box 108 (zQ5 f.1)),(6,.box 41 [Z 0,Z 0,Z 0,Z 0,O [],O [],Y false])]) ?_ fun p=>?_
  ·rintro _
   refine A [7,6,93,0] ?_
   refine jw (zMg c b a f) [1,2,3,6,8,11,23,24,25] [400230,8,6] (fun _=>[]) (fun u=>[(3,.box 41 [Z c.Kind,Z u,Z c.B,Z c.C,O c.S,O c.T,Y c.Must])]) U U ?_ fun l=>?_
   ·rintro u
    exact A [7,9,105,26,68,6,106,65,9,20,92,8,106,0,5,4,9,20,92,8,4,15,45] (g u)
   ·refine A [13,62] ?_
    refine zAF U ?_ ?_
    ·exact A [14,3,12,11,15,45] (l b)
    ·refine A [62] ?_
     refine zAF U ?_ ?_
     ·refine A [14,2] ?_
      exact zXn (T:=tab) U U U U (A [1,12,11,15,45] (l (IntKind.i64.wrap (a - 1))))
     ·exact A [4,15,45] (l c.A)
  ·refine pq 3 U (zAW (j:=36) U ?_ ?_)
   ·exact A [113,65,17,45] (g c.A)
   ·refine pq 4 U (zAW (j:=40) U ?_ ?_)
    ·exact A [109,65,17,45] (g c.A)
    ·refine pq 3 U (zAW (j:=43) U ?_ ?_)
     ·refine A [106,0] ?_
      refine zAF U ?_ ?_
      ·exact A [17,45] (g c.A)
      ·exact A [4,45] (p ())
     ·exact A [106,11,24,4,45] (p ())
def zBp (a:Int) (t2:Bool):Option Bool:=cnd t2 (some false) (cnd (decide (a>0)) (some (decide (a<=28))) (some false))
def zDu (_fu:Nat) (a:Int):Option Bool:=cnd (a==1) ((zBp a) (a==1)) (cnd (a==16) ((zBp a) (a==16)) (cnd (a==19) ((zBp a) (a==19)) (cnd (a==20) ((zBp a) (a==20)) (cnd (a==21) ((zBp a) (a==21)) (cnd (a==22) ((zBp a) (a==22)) ((zBp a) (a==25)))))))
theorem zGv {fu:Nat} {a:Int}:DD (zDu fu a) 14 [Z a] fun r=>Y r:=by
 refine fcI Tryz.func14 U (A [75,58,13,6,62] ?_)
 refine jw (zBp a) [0] [] (fun c=>[(4,Y c)]) (fun _=>[]) U U ?_ fun b=>?_
 ·rintro c
  exact A [7,5,1,59,4,69,93,26,14,2,104,74,104,74]
 ·refine zAF U ?_ ?_
  ·exact A [4,45] (b (a==1))
  ·refine A [62] ?_
   refine zAF U ?_ ?_
   ·exact A [4,45] (b (a==16))
   ·refine A [62] ?_
    refine zAF U ?_ ?_
    ·exact A [4,45] (b (a==19))
    ·refine A [62] ?_
     refine zAF U ?_ ?_
     ·exact A [4,45] (b (a==20))
     ·refine A [62] ?_
      refine zAF U ?_ ?_
      ·exact A [4,45] (b (a==21))
      ·refine A [62] ?_
       refine zAF U ?_ ?_
       ·exact A [4,45] (b (a==22))
       ·exact A [14,2,11,45] (b (a==25))
def zFq (_fu:Nat) (a:List Wait):Option (List Wait):=bnd (zDY 24 (([]:List Wait).length+a.length)) fun _=>some (([]:List Wait)++a)
theorem zLq {fu:Nat} {a:List Wait}:FF (zFq fu a) 250 [.sl 2 false (a.map zJa)] [] [] (fun _=>.own 5) fun r=>[(5,.arr 150 2 (r.map zJa))]:=by
 refine fcI Tryz.func250 U (A [75,80] ?_)
 refine zId (T:=tab) U U U U U U fun b d=>?_
 cases b
 ·refine A [0,23,67,9] ?_
  exact pl (([]:List Wait).map zJa) 5 U U U U U U (pq 1 U (pa zJa ([]:List Wait) a U U U U U U U U (zVa _) U U U (A [57,8])))
 ·have c:a=[]:=eZ.1 (d rfl)
  exact zKy (m':=some ([]:List Wait)) (by subst c;rfl) (A [0,25,58,56,5,150,2,2,8])
def zKU (fu:Nat) (a:Desk) (b:Bs):Option (Desk×Int×Int×Int):=bnd (zH6 fu a) fun c=>cnd (!c.2) (some (a,(-1),(-1),1)) (bnd (zC7 fu b) fun f=>cnd (!f) (some (a,(-1),(-1),4)) (cnd (a.Next==100000) (some (a,(-1),(-1),3)) (bnd (rng .i64 (a.Next+1)) fun d=>cnd (zLS c.1.names b) (some (({a with Next:=d}:Desk),a.Next,(zLd c.1.names b 0),0)) (bnd (zFq fu a.Waits) fun e=>bnd (zDY 24 (e.length+([(⟨b,a.Next⟩:Wait)]:List Wait).length)) fun _=>some (({a with Waits:=(e++[(⟨b,a.Next⟩:Wait)]),Next:=d}:Desk),a.Next,(-1),0)))))
theorem zTu {fu:Nat} {b:Desk} {a:Bs}:DD (zKU fu b a) 192 [.agg (zI4 b),O a] fun r=>.tup [.agg (zI4 r.1),Z r.2.1,Z r.2.2.1,Z r.2.2.2]:=by
 refine fcI Tryz.func192 U (A [73,31,4,3,0,80,43] (fun c _=>?_) zMY [(2130,2150),(2131,2151)] [2150,2151])
 refine A [3,31,8,92,93] ?_
 refine zIP (T:=tab) zJc (fun v=>Z v) c.1.names a 0 Tryz.underlying142 Tryz.underlying9 U U U U U U U U U (A [105,0,6,13,93,0,5,4,80,12,3,74,80,41] (fun f _=>?_) zEv)
 refine A [2,0,5,4,80,12,3,74,76,0,5,4,80,12,3,74,4,69,93,0,61,16] fun e _=>?_
 refine A [1,12,0,6,58,5,4,93,12,3,74,67,61,43] (fun d _=>?_) zLq [(5,2510)] [2510]
 refine A [2,20] ?_
 exact pl ([(⟨a,b.Next⟩:Wait)].map zJa) 55 U U U U U U (pa zJa d ([(⟨a,b.Next⟩:Wait)]:List Wait) U U U U U U U U (zVa _) U U U (A [1,12,0,61,12,3,0,34,2510,8]))
def zCu (_fu:Nat) (a:List Task):Option (List Task):=bnd (zDY 24 (([]:List Task).length+a.length)) fun _=>some (([]:List Task)++a)
theorem zHh {fu:Nat} {a:List Task}:FF (zCu fu a) 193 [.sl 3 false (a.map zJJ)] [] [] (fun _=>.own 5) fun r=>[(5,.arr 102 3 (r.map zJJ))]:=by
 refine fcI Tryz.func193 U (A [75,80] ?_)
 refine zId (T:=tab) U U U U U U fun b d=>?_
 cases b
 ·refine A [0,23,67,9] ?_
  exact pl (([]:List Task).map zJJ) 5 U U U U U U (pq 1 U (pa zJJ ([]:List Task) a U U U U U U U U (zRq _) U U U (A [57,8])))
 ·have c:a=[]:=eZ.1 (d rfl)
  exact zKy (m':=some ([]:List Task)) (by subst c;rfl) (A [0,25,58,56,5,102,3,2,8])
def zJA (fu:Nat) (d:Bs) (b:zAM):Option (Int×zAM):=bnd (zKU fu b.World.Desk d) fun a=>cnd (a.2.2.2 != 0) (some (a.2.2.2,b)) (cnd (a.2.2.1 != (-1)) (bnd (zCu fu b.World.Tasks) fun c=>bnd (zDY 24 (c.length+([(⟨2,a.2.1,a.2.2.1⟩:Task)]:List Task).length)) fun _=>some (0,(⟨({b.World with Desk:=a.1,Tasks:=(c++[(⟨2,a.2.1,a.2.2.1⟩:Task)])}:World),a.2.1⟩:zAM))) (some (0,(⟨({b.World with Desk:=a.1}:World),a.2.1⟩:zAM))))
theorem zPU {fu:Nat} {c:Bs} {b:zAM}:FF (zJA fu c b) 128 [.loc 900000 0,O c] [(900000,.box 99 (zB9 b))] [900000] (fun r=>Z r.1) fun r=>[(900000,.box 99 (zB9 r.2))]:=by
 refine fcI Tryz.func128 U (A [58,9,106,41] (fun a _=>?_) zTu)
 refine A [105,31,5,12,3,0,6,62,5,2,62,8,67,9,107,12,2,12,0,6,62,10,2,67,59,14,106,43] (fun d _=>?_) zHh [(5,2410)] [2410]
 refine A [2,20] ?_
 exact pl ([(⟨2,a.2.1,a.2.2.1⟩:Task)].map zJJ) 45 U U U U U U (pa zJJ d ([(⟨2,a.2.1,a.2.2.1⟩:Task)]:List Task) U U U U U U U U (zRq _) U U U (A [3,12,0,58,34,2410,8]))
def zD8 (_fu:Nat) (a:Int) (b:Forest):Option Bool:=cnd (decide (a<0)) (some true) (some (decide (a>=(b.Nodes.length:Int))))
theorem zQi {fu:Nat} {b:Int} {a:Forest}:FF (zD8 fu b a) 169 [Z b,.loc 900000 0] [(900000,.box 24 (zAE a))] [900000] (fun r=>Y r) fun _=>[(900000,.box 24 (zAE a))]:=by
 exact fcI Tryz.func169 U (A [58,93,26,6,2,107,74,3,35,3,74])
def zAL (b:Int->Option Bool) (a:List Int):Nat->Int->Option Int
 | 0,_=>none
 | k1+1,t3=>cnd (decide (t3<(a.length:Int))) (bnd (idx a t3) fun e=>bnd (b e) fun d=>cnd d (some t3) (bnd (rng .i64 (t3+1)) fun c=>(zAL b a k1) c)) (some (-1))
def zAV (fu:Nat) (b:Int->Option Bool) (a:List Int):Option Int:=(zAL b a) fu 0
theorem zLr {fu:Nat} {b:List Int} {a:Forest}:FF (zAV fu (fun c=>zD8 fu c a) b) 227 [.sl 1 false (b.map zAB),.fn (.func 169) [] [.loc 900000 0]] [(900000,.box 24 (zAE a))] [900000] (fun r=>Z r) fun _=>[(900000,.box 24 (zAE a))]:=by
 refine fcI Tryz.func227 U (A [75,80,77,13] ?_)
 refine lw (zAL (fun c=>zD8 fu c a) b) [0,1,7] [900000] (fun d=>[(8,Z d)]) (fun _=>[]) fu 0 U U ?_
 rintro f d
 refine A [75,10,2,86,59,72,62,93,36] fun h _=>?_
 refine A [1,44] (fun g _=>?_) zQi [(900000,900000)]
 refine A [0,5,2,62,8,4,94] fun e _=>?_
 exact A [89] (tx e)
def zAd (fu:Nat) (c:Int->Option Bool) (b:List Int):Option Bool:=bnd (zAV fu c b) fun a=>some (decide (a>=0))
theorem zKF {fu:Nat} {b:List Int} {a:Forest}:FF (zAd fu (fun c=>zD8 fu c a) b) 156 [.sl 1 false (b.map zAB),.fn (.func 169) [] [.loc 900000 0]] [(900000,.box 24 (zAE a))] [900000] (fun r=>Y r) fun _=>[(900000,.box 24 (zAE a))]:=by
 refine fcI Tryz.func156 U (A [58,61,44] (fun d _=>?_) zLr [(900000,900000)])
 exact A [2,74]
def zCB (fu:Nat) (a:Forest) (l2:List Int):Option Bool:=bnd (zAs fu a) fun b=>cnd b (bnd (zAd fu (fun d=>zD8 fu d a) l2) fun c=>some (!c)) (some false)
theorem zIX {fu:Nat} {a:Forest} {l2:List Int}:DD (zCB fu a l2) 105 [.agg (zAE a),.sl 1 false (l2.map zAB)] fun r=>Y r:=by
 refine fcI Tryz.func105 U (A [73,57,62,80,41] (fun b _=>?_) zA8)
 refine A [1,27,9,2,106,74,2,44] (fun c _=>?_) zKF [(900000,2)]
 exact A [3,74]
def zHJ (l4:List Int) (d:Int) (c:Node) (a:((List Int)×(List Int))->Option (List Int)):Nat->(List Int)->Option (List Int)
 | 0,l10=>cnd (c.Under != (-1)) (bnd (zDY 8 (l10.length+([c.Under]:List Int).length)) fun _=>a ((l4++[d]),(l10++[c.Under]))) (a ((l4++[d]),l10))
 | k2+1,l10=>bnd (c.Kids[k2]?) fun b=>bnd (zDY 8 (l10.length+([b]:List Int).length)) fun _=>(zHJ l4 d c a k2) (l10++[b])
def zEc (b:Forest):Nat->(List Int)×(List Int)->Option (List Int)
 | 0,_=>none
 | k1+1,(l4,l5)=>cnd (decide ((l5.length:Int)>0)) (bnd (rng .i64 ((l5.length:Int) - 1)) fun c=>bnd (idx l5 c) fun a=>bnd (piece l5 0 c) fun e=>bnd (zDY 8 (l4.length+([a]:List Int).length)) fun _=>bnd (idx b.Nodes a) fun d=>(zHJ l4 a d (zEc b k1)) d.Kids.length e) (some l4)
def zD6 (fu:Nat) (a:Forest) (b:Int):Option (List Int):=bnd (zCB fu a [b]) fun c=>cnd (!c) (some ([]:List Int)) ((zEc a) fu ([],[b]))
theorem zKc {fu:Nat} {f:Forest} {h:Int}:FF (zD6 fu f h) 161 [.agg (zAE f),Z h] [] [] (fun _=>.own 1035) fun r=>[(1035,.arr 3 1 (r.map zAB))]:=by
 refine fcI Tryz.func161 U (fun {w0 X X0 σ0 _}=>A [73,57,6,61] ?_)
 refine pl ([h].map zAB) 14 U U U U U U (A [33,14,41] (fun p _=>?_) zIX)
 refine A [57,5,7,58,56,1035,3,1,4,8,67,75,80] ?_
 refine pl ([h].map zAB) 18 U U U U U U (A [31,6,12,0,13,56,1035,3,1,5] ?_)
 refine lw (zEc f) [2,5,6] [6,2] (fun _=>[]) (fun (c,i)=>[(1035,.arr 3 1 (c.map zAB)),(18,.arr 3 1 (i.map zAB))]) fu ([],[h]) U U ?_
 rintro l ⟨c,i⟩
 refine A [6,80,39,57,10,3,86,62,8,72,80,39,16] fun o _=>?_
 refine A [57,61,38] fun d j=>?_
 refine zAv (T:=tab) zAB i d (zAy j) U U U U U U U U (A [57,61] ?_)
 refine zJl (T:=tab) zAB i U U U U U U U U U U U fun m _=>A [12,0,61] ?_
 refine pl ([d].map zAB) 34 U U U U U U (pa zAB c ([d]:List Int) U U U U U U U U (zDE _) U U U (A [57,93,36] fun e _=>?_))
 refine A [1,31,9,12,0,6,61] ?_
 refine zL9 (n:=3043) tab Tryz.func229 U U U U U U U U U U U U ⟨⟨_,U,.rfl⟩,trivial⟩ zXB U U (A [0,13] ?_)
 refine zXp (T:=tab) (enc:=zAB) (enc':=fun (b:Int)=>Z b) (xs:=e.Kids) (x0:=m) (n:=3043) (tS:=32) (tE:=3) (tI:=3) (tB:=4) (tF:=336) (g:=274) (M:=(zHJ c d e (zEc f l))) (Sf:=fun (a:(List Int))=>[(9,.box 77 (zAZ e)),(1035,.arr 3 1 ((c++[d]).map zAB)),(18,.arr 3 1 (a.map zAB)),(6,.box 32 [.own 18]),(2,.box 24 (zAE f))]) (N1:=[2,6,9,1035]) (E0:=[(2,.loc 2 0),(5,.own 1035),(6,.loc 6 0),(9,.loc 9 0)]) (E1:=fun k b=>[(2,.loc 2 0),(5,.own 1035),(6,.loc 6 0),(9,.loc 9 0),(44,Z ((k:Nat):Int)),(45,Z b),(11,Z b)]) Tryz.func274 U U U zXC U U (fun _=>U) (fun _=>U) U U ⟨U,U,U,U,trivial⟩ U U ⟨U,U,U,U,U,trivial⟩ U U U U U U ?_ ?_ ?_
 ·rintro k b a hy w0 X X0 σ0 _ _
  refine A [1,11] ?_
  exact zPw ⟨U,U,U,U,U,U,U,trivial⟩ ⟨U,U,U,U,U,trivial⟩ U
 ·rintro k b a hy w0 X X0 σ0 _ _
  exact zRH hy (pq 2 U (pl ([b].map zAB) 48 U U U U U U (pa zAB a ([b]:List Int) U U U U U U U U (zDE _) U U U (A [12,63] (tx (a++[b]))))))
 ·rintro a
  refine A [69,93,0] ?_
  refine zAF U ?_ ?_
  ·refine A [14,3] ?_
   exact pl ([e.Under].map zAB) 56 U U U U U U (pa zAB a ([e.Under]:List Int) U U U U U U U U (zDE _) U U U (A [12,11,69,58,14,31,6,12,63] (tx ((c++[d]),(a++[e.Under])))))
  ·exact A [4,69,58,14,31,6,12,63] (tx ((c++[d]),a))
def zUJ (ns:List Node):List Int->Option (List (Int×Node))
 | []=>some []
 | k::l=>bnd (idx ns k) fun x=>bnd (zUJ ns l) fun r=>some (if x.Kind==1 then (k,x)::r else r)
def zNE (fu:Nat) (f:Forest) (n:Int):Option (List (Int×Node)):=bnd (zD6 fu f n) fun l=>zUJ f.Nodes l
abbrev heS (f:Forest) (n:Int):zAC:=[(3000001,.box 24 (zAE f)),(3000002,.box 3 [Z n])]
theorem zXV (f:Forest) (n:Int):FC zSA Tryz.prog 194 [.agg (zAE f),Z n] [] [] fun p a=>p=.fn (.func 251) [] [.loc 3000001 0,.loc 3000002 0]/\a=heS f n:=by
 exact zUM (m:=some ()) (r:=()) (args:=[.agg (zAE f),Z n]) (S:=[]) (N0:=[]) (post:=fun _ p a=>p=.fn (.func 251) [] [.loc 3000001 0,.loc 3000002 0]/\a=heS f n) Tryz.func194 U U U fun w0 X X0 σ0 _=>zTZ (zFk (zSS 3000001 U U U U U U U U U U (zSS 3000002 U U U U U U U U U U (zHs (T:=tab) 1 U U (zGa (zJR (zTZ (zFk (zHs (T:=tab) 2 U U (zGa (zJR (zcb (S':=heS f n) (zGH ⟨U,U,trivial⟩ U) U U ⟨U,U⟩))))))))))))
abbrev heE (l:Nat) (L:List Int) (i:Nat):Env:=[(0,.fn (.yield l) [] []),(1,.loc 3000001 0),(2,.loc 3000002 0),(9,.sl 1 false (L.map zAB)),(10,Z (L.length:Nat)),(11,Z (i:Nat))]
abbrev heB (x:Node):Nat×Blk:=(6,.box 77 (zAZ x))
theorem he_at {L:List Int} {i:Nat} {y:Int} (h:L[i]? = some y):(bnd (idx L (i:Int)) fun y=>some y)=some y:=by
 unfold idx
 rw [iP (by omega),Int.toNat_natCast,h];rfl
theorem zXW (fu:Nat) (f:Forest) (n:Int) {ys:List (Int×Node)} (e:zNE fu f n=some ys):zaW zSA Tryz.prog 251 (heS f n) [.loc 3000001 0,.loc 3000002 0] (fun y:Int×Node=>[Z y.1,.agg (zAZ y.2)]) ys:=by
 obtain ⟨L,H,G⟩:∃L,zD6 fu f n=some L/\zUJ f.Nodes L=some ys:=by
  unfold zNE at e
  cases h:zD6 fu f n with
  | none=>rw [h] at e;simp [bnd] at e
  | some L=>rw [h] at e;exact ⟨L,rfl,e⟩
 refine zZq Tryz.func251 U U U fun l J d a w b=>?_
 have C:∀y:Int×Node,∀p∈([Z y.1,.agg (zAZ y.2)]:List PV),names p=[]:=fun y p h=>by
  simp only [List.mem_cons,List.not_mem_nil,or_false] at h
  rcases h with rfl | rfl<;>rfl
 refine wpIn_seq (zTq (ρ := List Int) (m:=bnd (zD6 fu f n) fun L=>some L) (r:=L) (E1:=fun L=>heE l L 0) (S1:=fun _=>heS f n) d (fun w0 X X0 σ0 g=>?_) (by rw [H];rfl) b fun a w b=>?_)
 ·refine zFk ?_
  refine zHs (T:=tab) 2 U U ?_
  refine zUu [2090] (enc:=fun (_:(List Int))=>.own 2090) (Sr:=fun (z:(List Int))=>[(2090,.arr 3 1 (z.map zAB))]) (first:=[]) (cap:=[]) (qs:=[.agg (zAE f),Z n]) (Sc:=[]) (N0:=[]) (NR:=[2090]) (fun z v=>zQS [(1035,2090)] [1035] (zKc _ v) U U U U U U) trivial (fun _=>U) U U U U U U U (fun _=>U) (fun _=>U) U U U ⟨⟨_,U,.rfl⟩,⟨_,U,.rfl⟩,trivial⟩ zXA U U fun z v=>?_
  refine zGu 2090 U U U ?_
  refine zPL (T:=tab) zAB z U U U U U U U U ?_
  refine zHs (T:=tab) 1 U U ?_
  refine zGa ?_
  exact zQu ⟨U,U,U,U,U,U,trivial⟩ ⟨U,U,trivial⟩ U
 refine wpIn_block (y_loop (n:=L.length) (fun k a w=>∃i zs,i+k=L.length/\zUJ f.Nodes (L.drop i)=some zs/\zRd Tryz.f251 J (some zs) (heE l L i) (heS f n) a w) ?_ ⟨0,ys,by omega,G,b⟩)
 rintro k a w ⟨i,zs,hi,hz,b⟩
 have u:=b.len (t:=9) rfl
 rw [List.length_map] at u
 refine wpIn_seq (zTq (ρ := Unit) (m:=some ()) (r:=()) (E1:=fun _=>(12,Y (decide ((i:Int)<(L.length:Nat))))::heE l L i) (S1:=fun _=>heS f n) d (fun w0 X X0 σ0 g=>?_) U b fun a w b=>?_)
 ·refine zFk ?_
  refine zHs (T:=tab) 1 U U ?_
  refine zGa ?_
  exact zQu ⟨U,U,U,U,U,U,U,trivial⟩ ⟨U,U,trivial⟩ U
 cases k with
 | zero =>
  have B:decide ((i:Int)<(L.length:Nat))=false:=by simp;omega
  rw [B] at b
  have j:L.drop i=[]:=by rw [List.drop_eq_nil_iff];omega
  rw [j] at hz
  cases hz
  refine wpIn_seq (wpIn_cond_false (b.eval U) (wpIn_exit ?_))
  exact .inl ⟨_,_,b⟩
 | succ k =>
  have B:decide ((i:Int)<(L.length:Nat))=true:=by simp;omega
  rw [B] at b
  refine wpIn_seq (wpIn_cond_true (b.eval U) (wpIn_skip ?_))
  have o:i<L.length:=by omega
  obtain ⟨k0,q⟩:∃k0,L[i]? = some k0:=⟨_,lC o⟩
  have j:L.drop i=k0::L.drop (i+1):=by
   rw [List.drop_eq_getElem_cons o]
   rw [lC o] at q
   rw [Option.some.inj q]
  rw [j] at hz
  obtain ⟨x,r,hx,hr,c⟩:∃x r,idx f.Nodes k0=some x/\zUJ f.Nodes (L.drop (i+1))=some r/\zs=(if x.Kind==1 then (k0,x)::r else r):=by
   unfold zUJ at hz
   cases hx:idx f.Nodes k0 with
   | none=>rw [hx] at hz;simp [bnd] at hz
   | some x =>
    cases hr:zUJ f.Nodes (L.drop (i+1)) with
    | none=>rw [hx,hr] at hz;simp [bnd] at hz
    | some r=>rw [hx,hr] at hz;simp only [bnd,Option.some.injEq] at hz;exact ⟨x,r,rfl,rfl,hz.symm⟩
  refine wpIn_seq (wpIn_block (wpIn_seq (zTq (ρ := Int) (m:=bnd (idx L (i:Int)) fun y=>some y) (r:=k0) (E1:=fun k0=>(5,Z k0)::heE l L i) (S1:=fun _=>heS f n) d (fun w0 X X0 σ0 g=>?_) (he_at q) b fun a w b=>?_)))
  ·refine zFk ?_
   refine zAw (T:=tab) zAB L U U U U U U U fun I D=>?_
   refine zHs (T:=tab) 2 U U ?_
   refine zGa ?_
   exact zQu ⟨U,U,U,U,U,U,U,trivial⟩ ⟨U,U,trivial⟩ U
  refine wpIn_seq (zTq (ρ := Node) (m:=bnd (idx f.Nodes k0) fun x=>some x) (r:=x) (E1:=fun x=>(6,.loc 6 0)::(5,Z k0)::heE l L i) (S1:=fun x=>heB x::heS f n) d (fun w0 X X0 σ0 g=>?_) (by rw [hx];rfl) b fun a w b=>?_)
  ·refine zFk ?_
   refine zHs (T:=tab) 3 U U ?_
   refine zAw (T:=tab) zAZ f.Nodes U U U U U U U fun I D=>?_
   refine zHs (T:=tab) 1 U U ?_
   refine zGV (T:=tab) 6 U U U U U U U U U ?_
   refine zUs (T:=tab) U U U U U U U U U U U U ?_
   refine zGa ?_
   exact zQu ⟨U,U,U,U,U,U,U,U,trivial⟩ ⟨U,U,U,trivial⟩ U
  refine wpIn_seq (wpIn_region_lit (zdO (ρ := Unit) (m:=some ()) (r:=()) (E1:=fun _=>(23,Y (x.Kind==1))::(6,.loc 6 0)::(5,Z k0)::heE l L i) (S1:=fun _=>heB x::heS f n) (l1:=[_,_,_,_]) d (fun w0 X X0 σ0 g=>?_) U U b fun a w b=>?_))
  ·refine zHs (T:=tab) 4 U U ?_
   refine zGa ?_
   exact zQu ⟨U,U,U,U,U,U,U,U,U,trivial⟩ ⟨U,U,U,trivial⟩ U
  cases F:(x.Kind==1) with
  | false =>
   rw [F] at b c
   simp only [Bool.false_eq_true,if_false] at c
   subst c
   refine zdO (ρ := Unit) (m:=some ()) (r:=()) (E1:=fun _=>(29,Y false)::heE l L i) (S1:=fun _=>heS f n) (l1:=[_,_,_,_,_,_]) (l2:=[]) d (fun w0 X X0 σ0 g=>?_) U U b fun a w b=>?_
   ·refine zHs (T:=tab) 6 U U ?_
    refine zGa ?_
    exact zQu ⟨U,U,U,U,U,U,U,trivial⟩ ⟨U,U,trivial⟩ U
   refine wpListIn_nil (wpIn_cond_false (b.eval U) (wpIn_skip ?_))
   show (Code.region 5 _ false).wpIn (FR none) 0 Tryz.prog _ a w
   refine zTq (ρ := Int) (m:=bnd (rng .i64 ((i:Int)+1)) fun m=>some m) (r:=((i+1:Nat):Int)) (E1:=fun m=>[(0,.fn (.yield l) [] []),(1,.loc 3000001 0),(2,.loc 3000002 0),(9,.sl 1 false (L.map zAB)),(10,Z (L.length:Nat)),(11,Z m)]) (S1:=fun _=>heS f n) d (fun w0 X X0 σ0 g=>?_) ?_ b fun a w b=>?_
   ·refine zFk ?_
    refine zM2 (T:=tab) U U U U fun E s=>?_
    refine zHs (T:=tab) 1 U U ?_
    refine zGa ?_
    exact zQu ⟨U,U,U,U,U,U,trivial⟩ ⟨U,U,trivial⟩ U
   ·unfold rng
    rw [iP (by simp only [Pw.lo,Pw.hi];omega)];rfl
   ·exact ⟨k,U,i+1,zs,by omega,hr,b⟩
  | true =>
   rw [F] at b c
   simp only [if_true] at c
   subst c
   refine zdO (ρ := Unit) (m:=some ()) (r:=()) (E1:=fun _=>(24,.fn (.yield l) [] [])::(25,Z k0)::(26,.agg (zAZ x))::(23,Y true)::heE l L i) (S1:=fun _=>heS f n) (l1:=[_,_,_]) d (fun w0 X X0 σ0 g=>?_) U U b fun a w b=>?_
   ·refine zHs (T:=tab) 3 U U ?_
    refine zGa ?_
    exact zQu ⟨U,U,U,U,U,U,U,U,U,U,trivial⟩ ⟨U,U,trivial⟩ U
   refine zhz (y:=(k0,x)) (ys:=r) (E0:=[(23,Y true)]) d b U U ⟨⟨_,U,.rfl⟩,⟨_,U,.rfl⟩,trivial⟩ (C _) U U U ⟨U,trivial⟩ U (fun a w b=>?_) (fun a w b=>?_)
   ·refine zdO (ρ := Unit) (m:=some ()) (r:=()) (E1:=fun _=>(29,Y false)::heE l L i) (S1:=fun _=>heS f n) (l1:=[_,_]) (l2:=[]) d (fun w0 X X0 σ0 g=>?_) U U b fun a w b=>?_
    ·refine zHs (T:=tab) 2 U U ?_
     refine zGa ?_
     exact zQu ⟨U,U,U,U,U,U,U,trivial⟩ ⟨U,U,trivial⟩ U
    refine wpListIn_nil (wpIn_cond_false (b.eval U) (wpIn_skip ?_))
    show (Code.region 5 _ false).wpIn (FR none) 0 Tryz.prog _ a w
    refine zTq (ρ := Int) (m:=bnd (rng .i64 ((i:Int)+1)) fun m=>some m) (r:=((i+1:Nat):Int)) (E1:=fun m=>[(0,.fn (.yield l) [] []),(1,.loc 3000001 0),(2,.loc 3000002 0),(9,.sl 1 false (L.map zAB)),(10,Z (L.length:Nat)),(11,Z m)]) (S1:=fun _=>heS f n) d (fun w0 X X0 σ0 g=>?_) ?_ b fun a w b=>?_
    ·refine zFk ?_
     refine zM2 (T:=tab) U U U U fun E s=>?_
     refine zHs (T:=tab) 1 U U ?_
     refine zGa ?_
     exact zQu ⟨U,U,U,U,U,U,trivial⟩ ⟨U,U,trivial⟩ U
    ·unfold rng
     rw [iP (by simp only [Pw.lo,Pw.hi];omega)];rfl
    ·exact ⟨k,U,i+1,r,by omega,hr,b⟩
   ·refine zdO (ρ := Unit) (m:=some ()) (r:=()) (E1:=fun _=>[(29,Y true)]) (S1:=fun _=>[]) (l1:=[_,_]) (l2:=[]) d (fun w0 X X0 σ0 g=>?_) U U b fun a w b=>?_
    ·refine zHs (T:=tab) 2 U U ?_
     refine zGa ?_
     exact zQu ⟨U,trivial⟩ trivial U
    exact wpListIn_nil (wpIn_cond_true (b.eval U) (wpIn_ret (show YEnd _ J .ret _ _ from .inr ⟨_,_,b⟩)))
def zIf (c:Desk) (a b:Bs) (r4:zCt×Bool) (e:Unit):Option Int:=cnd (zLS r4.1.names b) (bnd (idx c.Defs (zLd r4.1.names b 0)) fun d=>cnd (d.Local==a) (some (zLd r4.1.names b 0)) (some (-1))) (some (-1))
def zLg (fu:Nat) (d:Desk) (a c:Bs):Option Int:=bnd (zH6 fu d) fun b=>cnd (!b.2) (some (-1)) (cnd (zLS b.1.names a) (bnd (idx d.Defs (zLd b.1.names a 0)) fun e=>cnd (e.Local==a) (some (zLd b.1.names a 0)) ((zIf d a c b) ())) ((zIf d a c b) ()))
theorem zVG {fu:Nat} {e:Desk} {a b:Bs}:DD (zLg fu e a b) 27 [.agg (zI4 e),O a,O b] fun r=>Z r:=by
 refine fcI Tryz.func27 U (A [9,30,3,57,80,43] (fun d _=>?_) zMY [(2130,2150),(2131,2151)] [2150,2151])
 refine A [3,31,7,92,6,62,5,1,59,68,93] ?_
 refine zIP (T:=tab) zJc (fun v=>Z v) d.1.names a 0 Tryz.underlying142 Tryz.underlying9 U U U U U U U U U (A [105,0,9] ?_)
 refine zNN (zIf e a b d) (fun (_:Unit)=>[(1,O a),(2,O b),(3,.loc 3 0),(7,.loc 7 0)]) (fun (_:Unit)=>[(7,.box 145 [.own 2150,.own 2151]),(2150,.mp (d.1.names.map fun p:Bs×Int=>(zNm p.1,Z p.2))),(2151,.mp (d.1.classes.map fun p:Int×Int=>(zOa .i64 p.1,Z p.2))),(3,.box 29 (zI4 e))]) ?_ fun c=>?_
 ·rintro _
  refine A [7,6,93] ?_
  refine zIP (T:=tab) zJc (fun v=>Z v) d.1.names b 0 Tryz.underlying142 Tryz.underlying9 U U U U U U U U U (A [105,0,61,27,47,5,109,11,24,67,59,3,36] fun g _=>?_)
  exact A [105,0,5,2,62,8,67,59]
 ·refine pq 2 U (zAW (j:=28) U ?_ ?_)
  ·refine A [3,36] fun f _=>?_
   exact A [105,0,5,2,62,8,4,45] (c ())
  ·exact A [109,11,24,4,45] (c ())
def zJq (fu:Nat) (a:Node) (b:Desk):Option Int:=cnd (a.Kind != 1) (some (-1)) (cnd (a.Doc != 0) (some (-1)) (bnd (zLg fu b a.Name a.Is) fun c=>some c))
theorem zQB {fu:Nat} {b:Node} {a:Desk}:DD (zJq fu b a) 149 [.agg (zAZ b),.agg (zI4 a)] fun r=>Z r:=by
 refine fcI Tryz.func149 U (A [73,30,3,57,6,76,26,8,2,104,83,104,0,5,1,59,67,9,105,41] (fun c _=>?_) zVG)
 exact A [57,8]
def zFK (fu:Nat) (a:Desk):List (Int×Node)->(List Due)->Option (List Due)
 | [],l4=>some l4
 | y5::ys6,l4=>bnd (zJq fu y5.2 a) fun b=>cnd (b != (-1)) (bnd (zDY 104 (l4.length+([(⟨y5.1,(⟨9,b,[],false,false,[],[],0,0,false⟩:Todo)⟩:Due)]:List Due).length)) fun _=>(zFK fu a ys6) (l4++[(⟨y5.1,(⟨9,b,[],false,false,[],[],0,0,false⟩:Todo)⟩:Due)])) ((zFK fu a ys6) l4)
def zKW (fu:Nat) (c:Forest) (d:Int) (b:Desk):Option (List Due):=bnd (some ()) fun _=>bnd (zNE fu c d) fun a=>(zFK fu b) a []
theorem zTx {fu:Nat} {c:Forest} {d:Int} {e:Desk}:FF (zKW fu c d e) 129 [.agg (zAE c),Z d,.agg (zI4 e)] [] [] (fun _=>.own 1027) fun r=>[(1027,.arr 171 11 (r.map zJi))]:=by
 refine fcI Tryz.func129 U (fun {w0 X X0 σ0 _}=>A [9,30,3,30,5,57,9,31,7,0,6,61] ?_)
 refine tu [3000001,3000002] (enc:=fun _:Unit=>.fn (.func 251) [] [.loc 3000001 0,.loc 3000002 0]) (Sr:=fun _:Unit=>[(3000001,.box 24 (zAE c)),(3000002,.box 3 [Z d])]) (qs:=[.agg (zAE c),Z d]) (Sc:=[]) (N1:=[]) (NR:=[3000001,3000002]) (fun _ _=>zXV c d) zgK U U U U U U U U fun _ _=>A [0,13] ?_
 refine zKB 1027 171 11 7 0 U U U U U U (pw_bnd fun f g=>zhJ (ys0:=f) (p1:=fun y:(Int×Node)=>Z y.1) (p2:=fun y:(Int×Node)=>.agg (zAZ y.2)) (x0:=[]) (Sc:=[(3000001,.box 24 (zAE c)),(3000002,.box 3 [Z d])]) (cp:=[.loc 3000001 0,.loc 3000002 0]) (M:=(zFK fu e)) (Sf:=fun (b:(List Due))=>[(1027,.arr 171 11 (b.map zJi)),(7,.box 168 [.own 1027]),(5,.box 29 (zI4 e))]) (S1:=fun a (b:(List Due))=>[(9,.box 77 (zAZ a.2)),(1027,.arr 171 11 (b.map zJi)),(7,.box 168 [.own 1027]),(5,.box 29 (zI4 e))]) (SR:=fun r:(List Due)=>[(0,.arr 0 0 [[.junk]])]) (N1:=[5,7]) (E0:=[(5,.loc 5 0),(6,.v (.slice none 0 0)),(7,.loc 7 0)]) (E1:=fun a=>[(5,.loc 5 0),(6,.v (.slice none 0 0)),(7,.loc 7 0),(14,Z a.1),(15,.agg (zAZ a.2)),(8,Z a.1),(9,.loc 9 0)]) (zXW fu c d g) zgP (fun _=>U) (fun _=>U) U ⟨U,U,trivial⟩ U ⟨U,U,U,trivial⟩ U U ⟨U,U,U,trivial⟩ U U U U ?_ ?_ ?_ ?_)
 ·rintro a b w0 X X0 σ0 _ _
  refine A [58,14,31,9,12,11] ?_
  exact zQu ⟨U,U,U,U,U,U,U,trivial⟩ ⟨U,U,U,U,trivial⟩ U
 ·rintro a i b w0 X X0 σ0 _ _
  refine A [13,99] (fun h _=>?_) zQB
  refine A [57,62] ?_
  refine zAF U ?_ ?_
  ·refine A [14,3,20,20] ?_
   refine pl ([(⟨a.1,(⟨9,h,[],false,false,[],[],0,0,false⟩:Todo)⟩:Due)].map zJi) 26 U U U U U U (pa zJi b ([(⟨a.1,(⟨9,h,[],false,false,[],[],0,0,false⟩:Todo)⟩:Due)]:List Due) U U U U U U U U (zQ4 _) U U U (A [12,11,15] ?_))
   exact zYv (b++[(⟨a.1,(⟨9,h,[],false,false,[],[],0,0,false⟩:Todo)⟩:Due)]) ⟨U,U,U,trivial⟩ U
  ·refine A [4,15] ?_
   exact zYv b ⟨U,U,U,trivial⟩ U
 ·rintro b
  exact A [69,62,8]
 ·exact fun r=>zep
def zCv (_fu:Nat) (b:Due) (a:zAM):Option Bool:=bnd (idx a.World.States b.Node) fun c=>some (c.Phase != 1)
theorem zKT {fu:Nat} {b:Due} {a:zAM}:FF (zCv fu b a) 131 [.agg (zJi b),.loc 900000 0] [(900000,.box 97 [.loc 900001 0]),(900001,.box 99 (zB9 a))] [900000,900001] (fun r=>Y r) fun _=>[(900000,.box 97 [.loc 900001 0]),(900001,.box 99 (zB9 a))]:=by
 refine fcI Tryz.func131 U (A [73,57,6,52,2,3,1,2,2,900000,900001,53,12,0,1,3,7,15,0,32,127,255,511,1023,2047,207] ?_)
 exact vT [16,20] [22] [] U U (zAw (T:=tab) zBM a.World.States U U U U U U U fun c _=>pzq U) (fun _=>U) (fun _=>U) fun c _=>A [204,79,8]
def zAb (a:Due->Option Bool) (l1:List Due):Nat->Int->Option Int
 | 0,_=>none
 | k1+1,t3=>cnd (decide (t3<(l1.length:Int))) (bnd (idx l1 t3) fun d=>bnd (a d) fun c=>cnd c (some t3) (bnd (rng .i64 (t3+1)) fun b=>(zAb a l1 k1) b)) (some (-1))
def zAz (fu:Nat) (a:Due->Option Bool) (l1:List Due):Option Int:=(zAb a l1) fu 0
theorem zKI {fu:Nat} {l1:List Due} {a:zAM}:FF (zAz fu (fun c=>zCv fu c a) l1) 195 [.own 900000,.fn (.func 131) [] [.loc 900001 0]] [(900000,.arr 171 11 (l1.map zJi)),(900001,.box 97 [.loc 900002 0]),(900002,.box 99 (zB9 a))] [900000,900001,900002] (fun r=>Z r) fun _=>[(900000,.arr 171 11 (l1.map zJi)),(900001,.box 97 [.loc 900002 0]),(900002,.box 99 (zB9 a))]:=by
 refine fcI Tryz.func195 U (A [75,80,39,57,13] ?_)
 refine lw (zAb (fun c=>zCv fu c a) l1) [0,1,7] [900000,900001,900002] (fun d=>[(8,Z d)]) (fun _=>[]) fu 0 U U ?_
 rintro g d
 refine A [75,10,2,86,59,72,62,93,38] fun f b=>?_
 refine zAv (T:=tab) zJi l1 f (zAy b) U U U U U U U U (A [44] (fun h _=>?_) zKT [(900000,900001),(900001,900002)])
 refine A [0,5,2,62,8,4,94] fun e _=>?_
 exact A [89] (tx e)
def zAo (e:Due->Option Bool):Nat->Int×Int×(List Due)->Option (List Due)
 | 0,_=>none
 | k1+1,(i5,j6,l7)=>cnd (decide (j6<(l7.length:Int))) (bnd (idx l7 j6) fun f=>bnd (e f) fun g=>cnd (!g) (bnd (idx l7 i5) fun h=>bnd (rng .i64 (i5+1)) fun a=>bnd (rng .i64 (j6+1)) fun b=>(zAo e k1) (a,b,(l7.set (i5).toNat f))) (bnd (rng .i64 (j6+1)) fun c=>(zAo e k1) (i5,c,l7))) (bnd (zNq l7.length i5 (l7.length:Int)) fun _=>bnd (zfZ l7.length (i5).toNat ((l7.length:Int)).toNat) fun _=>bnd (piece (zQN l7 (i5).toNat ((⟨0,(⟨0,0,[],false,false,[],[],0,0,false⟩:Todo)⟩:Due):Due)) 0 i5) fun d=>some d)
def zCs (fu:Nat) (b:Due->Option Bool) (l1:List Due):Option (List Due):=bnd (zAz fu b l1) fun a=>cnd (a==(-1)) (some l1) (bnd (rng .i64 (a+1)) fun c=>(zAo b) fu (a,c,l1))
theorem zJw {fu:Nat} {l1:List Due} {d:zAM}:FF (zCs fu (fun k=>zCv fu k d) l1) 130 [.own 900000,.fn (.func 131) [] [.loc 900001 0]] [(900000,.arr 171 11 (l1.map zJi)),(900001,.box 97 [.loc 900002 0]),(900002,.box 99 (zB9 d))] [900001,900002] (fun _=>.own 900000) fun r=>[(900000,.arr 171 11 (r.map zJi)),(900001,.box 97 [.loc 900002 0]),(900002,.box 99 (zB9 d))]:=by
 refine fcI Tryz.func130 U (A [58,61,44] (fun n _=>?_) zKI [(900000,900000),(900001,900001),(900002,900002)])
 refine A [57,6,62,5,2,62,8,68,80,16] fun l _=>?_
 refine A [57,13] ?_
 refine lw (zAo (fun k=>zCv fu k d)) [0,1] [900001,900002] (fun (b,j6,a)=>[(5,Z b),(6,Z j6)]) (fun (b,j6,a)=>[(900000,.arr 171 11 (a.map zJi))]) fu (n,l,l1) U U ?_
 rintro o ⟨b,j6,a⟩
 refine A [6,61,39,57] ?_
 refine zAF U ?_ ?_
 ·refine A [72,61,38] fun j e=>?_
  refine zAv (T:=tab) zJi a j (zAy e) U U U U U U U U (A [31,7,12,0,61,44] (fun p _=>?_) zKT [(900000,900001),(900001,900002)])
  refine A [57] ?_
  refine zAF U ?_ ?_
  ·refine A [93,38] fun i c=>?_
   refine zCr (T:=tab) zJi a i j (zAy c) U U U U U U U U U U U U U (A [0,14,1,16] fun f _=>?_)
   refine A [1,11,70,1,16] fun g _=>?_
   exact A [89] (tx (f,g,(a.set (b).toNat j)))
  ·refine A [4,70,1,16] fun h _=>?_
   exact A [89] (tx (b,h,a))
 ·refine A [86,61] ?_
  refine zOW (T:=tab) (L:=a.length) (.inl U) U U U U (by simp) U U U U U (zOS (T:=tab) zJi a ((⟨0,(⟨0,0,[],false,false,[],[],0,0,false⟩:Todo)⟩:Due):Due) U U U U U U U U U U U U U U (A [0,61] ?_))
  exact zJl (T:=tab) zJi (zQN a (b).toNat ((⟨0,(⟨0,0,[],false,false,[],[],0,0,false⟩:Todo)⟩:Due):Due)) U U U U U U U U U U U fun m _=>A [57,8]
def zEV (fu:Nat) (b:Due) (a:zAI):Option Bool:=bnd (zEk fu a b.Node) fun c=>cnd (!c) (some true) (bnd (zEl fu a b.Todo) fun d=>some (!d))
theorem zPa {fu:Nat} {b:Due} {a:zAI}:FF (zEV fu b a) 219 [.agg (zJi b),.loc 900000 0] [(900000,.box 94 (zBb a.World))] [900000] (fun r=>Y r) fun _=>[(900000,.box 94 (zBb a.World))]:=by
 refine fcI Tryz.func219 U (A [73,57,93,41] (fun c _=>?_) zG9)
 refine A [2,26,9,2,107,74,3,41] (fun d _=>?_) zJ4
 exact A [3,74]
theorem zJH {fu:Nat} {b:List Due} {a:zAI}:FF (zAz fu (fun c=>zEV fu c a) b) 195 [.sl 11 false (b.map zJi),.fn (.func 219) [] [.loc 900000 0]] [(900000,.box 94 (zBb a.World))] [900000] (fun r=>Z r) fun _=>[(900000,.box 94 (zBb a.World))]:=by
 refine fcI Tryz.func195 U (A [75,80,77,13] ?_)
 refine lw (zAb (fun c=>zEV fu c a) b) [0,1,7] [900000] (fun d=>[(8,Z d)]) (fun _=>[]) fu 0 U U ?_
 rintro f d
 refine A [75,10,2,86,59,72,62,93,36] fun h _=>?_
 refine A [1,44] (fun g _=>?_) zPa [(900000,900000)]
 refine A [0,5,2,62,8,4,94] fun e _=>?_
 exact A [89] (tx e)
def zCU (fu:Nat) (c:Due->Option Bool) (b:List Due):Option Bool:=bnd (zAz fu c b) fun a=>some (decide (a>=0))
theorem zJC {fu:Nat} {b:List Due} {a:zAI}:FF (zCU fu (fun c=>zEV fu c a) b) 220 [.sl 11 false (b.map zJi),.fn (.func 219) [] [.loc 900000 0]] [(900000,.box 94 (zBb a.World))] [900000] (fun r=>Y r) fun _=>[(900000,.box 94 (zBb a.World))]:=by
 refine fcI Tryz.func220 U (A [58,61,44] (fun d _=>?_) zJH [(900000,900000)])
 exact A [2,74]
def zEH (_fu:Nat) (a:List Todo):Option (List Todo):=bnd (zDY 96 (([]:List Todo).length+a.length)) fun _=>some (([]:List Todo)++a)
theorem zLp {fu:Nat} {a:List Todo}:FF (zEH fu a) 262 [.sl 10 false (a.map zJK)] [] [] (fun _=>.own 5) fun r=>[(5,.arr 80 10 (r.map zJK))]:=by
 refine fcI Tryz.func262 U (A [75,80] ?_)
 refine zId (T:=tab) U U U U U U fun b d=>?_
 cases b
 ·refine A [0,23,67,9] ?_
  exact pl (([]:List Todo).map zJK) 5 U U U U U U (pq 1 U (pa zJK ([]:List Todo) a U U U U U U U U (zVZ _) U U U (A [57,8])))
 ·have c:a=[]:=eZ.1 (d rfl)
  exact zKy (m':=some ([]:List Todo)) (by subst c;rfl) (A [0,25,58,56,5,80,10,2,8])
def zM8 (fu:Nat) (l1:Line) (c:Int) (f:Todo):Option (Line×Bool×Int):=bnd (zIi fu l1) fun h=>cnd (!h) (some (l1,false,1)) (bnd (zMd fu l1 c) fun i=>cnd (!i) (some (l1,false,1)) (bnd (zK4 fu l1) fun a=>bnd (idx a.Todos c) fun k=>bnd (zEH fu k) fun e=>bnd (zDY 96 (e.length+([f]:List Todo).length)) fun _=>bnd (idx a.Todos c) fun l=>bnd (rng .i64 ((a.Stack.length:Int) - 1)) fun b=>cnd (decide (b>=0)) (bnd (idx a.Stack b) fun g=>bnd (zBe fu g) fun d=>bnd (zDY 8 (d.length+([c]:List Int).length)) fun _=>bnd (idx a.Stack b) fun j=>some (({a with Todos:=(a.Todos.set (c).toNat (e++[f])),Stack:=(a.Stack.set (b).toNat (d++[c]))}:Line),false,0)) (bnd (zDY 8 (a.Back.length+([c]:List Int).length)) fun _=>some ((⟨(a.Todos.set (c).toNat (e++[f])),a.Stack,(a.Back++[c]),true⟩:Line),(!a.Busy),0))))
theorem zWr {fu:Nat} {l1:Line} {d:Int} {h:Todo}:DD (zM8 fu l1 d h) 213 [.agg (zPf l1),Z d,.agg (zJK h)] fun r=>.tup [.agg (zPf r.1),Y r.2.1,Z r.2.2]:=by
 refine fcI Tryz.func213 U (A [9,30,3,30,5,31,6,2,0,6,80,41] (fun o _=>?_) zOd)
 refine A [2,26,14,6,105,65,80,12,2,74,2,41] (fun p _=>?_) zSz
 refine A [2,0,5,4,80,12,2,74,67,80,43] (fun a _=>?_) zRS [(2050,2220),(2080,2221),(2110,2222)] [2220,2221,2222]
 refine A [12,0,6,52,4,6,1,3,5,6,2220,2221,2222,6,5,3,53,14,0,1,0,0,8,0,56,120,248,0,512,2040,4095,8191,206] ?_
 refine vT [54,56,4441] [58] [] U U (zLX (T:=tab) zDF a.Todos U U U U U U U U fun l e=>pzq U) (fun _=>U) (fun _=>U) fun l e=>vS [58,4441] [60] [] U U (zAv (T:=tab) zDF a.Todos l (zAy e) U U U U U U U U (pyq U)) U U (A [55,1,2,60,62,4621] (fun k _=>?_) zLp [(5,2310)] [2310])
 refine vq 1 U (by kernel_rfl) (vS [64] [66,67] [33] U U (pl ([h].map zJK) 33 U U U U U U (pyq U)) U U (vU [62,66,67,4621] [68,62,4621] [2310] U U (pa zJK k ([h]:List Todo) U U U U U U U U (zVZ _) U U U (pyq U)) U U fun _ _=>vT [48,50,4441] [70] [] U U (zLX (T:=tab) zDF a.Todos U U U U U U U U fun m f=>pzq U) (fun _=>U) (fun _=>U) fun m f=>vS [68,70,4441,4621] [68,4621,4441] [] U U (zGu 2310 U U U (zCr (T:=tab) zDF a.Todos m (k++[h]) (zAy f) U U U U U U U U U U U U U (pyq U))) U U (A [79,61,39,16] fun n _=>?_)))
 refine A [57,6,62] ?_
 refine zAF U ?_ ?_
 ·refine A [6,52,4,5,1,3,6,9,2220,2221,2222,6,3,53,14,0,1,0,0,8,0,56,120,248,0,512,2040,4095,8191,206] ?_
  refine vT [92,94,4443] [96] [] U U (zLX (T:=tab) zAr a.Stack U U U U U U U U fun i b=>pzq U) (fun _=>U) (fun _=>U) fun i b=>vS [96,4443] [98] [] U U (zAv (T:=tab) zAr a.Stack i (zAy b) U U U U U U U U (pyq U)) U U (A [55,1,2,98,100,5001] (fun g _=>?_) zFV [(5,2500)] [2500])
  exact vq 1 U (by kernel_rfl) (vS [102] [104,105] [52] U U (pl ([d].map zAB) 52 U U U U U U (pyq U)) U U (vU [100,104,105,5001] [106,100,5001] [2500] U U (pa zAB g ([d]:List Int) U U U U U U U U (zDE _) U U U (pyq U)) U U fun _ _=>vT [86,88,4443] [108] [] U U (zLX (T:=tab) zAr a.Stack U U U U U U U U fun j c=>pzq U) (fun _=>U) (fun _=>U) fun j c=>vS [106,108,4443,5001] [106,5001,4443] [] U U (zGu 2500 U U U (zCr (T:=tab) zAr a.Stack j (g++[d]) (zAy c) U U U U U U U U U U U U U (pyq U))) U U (A [79,80,12,2,0,34,2220,34,2221,34,2222,8])))
 ·refine A [67,93] ?_
  exact pl ([d].map zAB) 59 U U U U U U (pa zAB a.Back ([d]:List Int) U U U U U U U U (zDE _) U U U (A [1,12,0,76,0,80,12,0,61,12,2,0,34,2220,34,2221,34,2222,8]))
def zBn (fu:Nat) (b:List Due) (e:zAI):Nat->Int×(List Task)×(List (List Todo))×(List (List Int))×(List Int)×Bool->Option zAI
 | 0,_=>none
 | k1+1,(t4,d,h,c7,c8,i)=>cnd (decide (t4<(b.length:Int))) (bnd (idx b t4) fun c=>bnd (zM8 fu (⟨h,c7,c8,i⟩:Line) c.Node c.Todo) fun a=>cnd a.2.1 (bnd (zDY 24 (d.length+([(⟨1,0,0⟩:Task)]:List Task).length)) fun _=>bnd (rng .i64 (t4+1)) fun f=>(zBn fu b e k1) (f,(d++[(⟨1,0,0⟩:Task)]),a.1.Todos,a.1.Stack,a.1.Back,a.1.Busy)) (bnd (rng .i64 (t4+1)) fun g=>(zBn fu b e k1) (g,d,a.1.Todos,a.1.Stack,a.1.Back,a.1.Busy))) (some (⟨({e.World with Line:=(⟨h,c7,c8,i⟩:Line),Tasks:=d}:World)⟩:zAI))
def zBa (fu:Nat) (b:List Due) (a:zAI):Option zAI:=bnd (zCu fu a.World.Tasks) fun c=>(zBn fu b a) fu (0,c,a.World.Line.Todos,a.World.Line.Stack,a.World.Line.Back,a.World.Line.Busy)
theorem zGA {fu:Nat} {c:List Due} {b:zAI}:FF (zBa fu c b) 146 [.loc 900000 0,.sl 11 false (c.map zJi)] [(900000,.box 94 (zBb b.World))] [900000] (fun _=>.tup []) fun r=>[(900000,.box 94 (zBb r.World))]:=by
 refine fcI Tryz.func146 U (A [9,106,43] (fun l _=>?_) zHh [(5,2150)] [2150])
 refine A [3,12,0,80,77,13] ?_
 refine lw (zBn fu c b) [0,19,20] [] (fun (k,d,e,f,g,h)=>[(21,Z k)]) (fun (k,d,e,f,g,h)=>[(2150,.arr 102 3 (d.map zJJ)),(900000,.box 94 ([.sl 10 false (b.World.Forest.Nodes.map zAZ),Z b.World.Forest.Most,.sl 4 false (b.World.States.map zBM)]++zI4 b.World.Desk++[.sl 1 false (e.map zDF),.sl 1 false (f.map zAr),.sl 1 false (g.map zAB),Y h,.own 2150,.sl 2 false (b.World.Builds.map zI3),.sl 5 false (b.World.Classes.map zBh)]))]) fu (0,l,b.World.Line.Todos,b.World.Line.Stack,b.World.Line.Back,b.World.Line.Busy) U U ?_
 rintro n ⟨k,d,e,f,g,h⟩
 refine A [75] ?_
 refine zAF U ?_ ?_
 ·refine A [72,9,36] fun m _=>?_
  refine A [1,31,5,12,0,6,52,5,3,0,19,20,21,5,5,2150,900000,53,18,0,1,3,7,15,0,32,0,128,511,1023,2047,2047,2047,0,20479,57343,131071,209,54,3,1,60,64,68,70] (fun a _=>?_) zWr
  refine vq 4 U (by kernel_rfl) (vS [] [12,13] [6] U U (zGV (T:=tab) 6 U U U U U U U U U (pyq U)) U U (A [50,3,1,12,13,72,13,202,79,9,105,12,0,58] ?_))
  refine zAF U ?_ ?_
  ·refine A [14,106,20] ?_
   refine pl ([(⟨1,0,0⟩:Task)].map zJJ) 52 U U U U U U (pa zJJ d ([(⟨1,0,0⟩:Task)]:List Task) U U U U U U U U (zRq _) U U U (A [3,12,11,94] fun i _=>?_))
   exact A [89] (tx (i,(d++[(⟨1,0,0⟩:Task)]),a.1.Todos,a.1.Stack,a.1.Back,a.1.Busy))
  ·refine A [4,94] fun j _=>?_
   exact A [89] (tx (j,d,a.1.Todos,a.1.Stack,a.1.Back,a.1.Busy))
 ·exact zUx U (zcM 2150 U U U (zKw (T:=tab) U U U ⟨U,U⟩ ⟨U,trivial⟩ U))
def zIZ (fu:Nat) (b:World) (a:List Due):Option (World×Int):=bnd (zC5 fu (⟨b⟩:zAI)) fun c=>cnd (!c) (some (b,1)) (bnd (zCU fu (fun f=>zEV fu f (⟨b⟩:zAI)) a) fun d=>cnd d (some (b,1)) (bnd (zBa fu a (⟨b⟩:zAI)) fun e=>some (e.World,0)))
theorem zRi {fu:Nat} {b:World} {a:List Due}:DD (zIZ fu b a) 150 [.agg (zBb b),.sl 11 false (a.map zJi)] fun r=>.tup [.agg (zBb r.1),Z r.2]:=by
 refine fcI Tryz.func150 U (A [73,31,4,57,80,20,31,6,12,0,62,6,80,41] (fun c _=>?_) zGd)
 refine A [2,26,14,5,104,65,80,92,8,2,44] (fun d _=>?_) zJC [(900000,6)]
 refine A [57,5,3,80,92,8,67,80,43] (fun e _=>?_) zGA [(900000,6)]
 exact A [0,61,92,8]
def zBc (fu:Nat) (a:List Due) (b:zAM):Option (Int×zAM):=bnd (zIZ fu b.World a) fun c=>some (c.2,(⟨c.1,b.node⟩:zAM))
theorem zFG {fu:Nat} {a:List Due} {b:zAM}:FF (zBc fu a b) 87 [.loc 900000 0,.sl 11 false (a.map zJi)] [(900000,.box 99 (zB9 b))] [900000] (fun r=>Z r.1) fun r=>[(900000,.box 99 (zB9 r.2))]:=by
 refine fcI Tryz.func87 U (A [58,9,105,41] (fun c _=>?_) zRi)
 exact A [3,31,5,92,76,12,0,62,8]
def zCb (_fu:Nat) (a:List State):Option (List State):=bnd (zDY 32 (([]:List State).length+a.length)) fun _=>some (([]:List State)++a)
theorem zHL {fu:Nat} {a:List State}:FF (zCb fu a) 145 [.sl 4 false (a.map zBM)] [] [] (fun _=>.own 5) fun r=>[(5,.arr 53 4 (r.map zBM))]:=by
 refine fcI Tryz.func145 U (A [75,80] ?_)
 refine zId (T:=tab) U U U U U U fun b d=>?_
 cases b
 ·refine A [0,23,67,9] ?_
  exact pl (([]:List State).map zBM) 5 U U U U U U (pq 1 U (pa zBM ([]:List State) a U U U U U U U U (zS5 _) U U U (A [57,8])))
 ·have c:a=[]:=eZ.1 (d rfl)
  exact zKy (m':=some ([]:List State)) (by subst c;rfl) (A [0,25,58,56,5,53,4,2,8])
def zH7 (fu:Nat) (d:Forest) (b:List State) (c:Desk) (a:List Class):Option (Unit×Bool×(List Node)×Int×(List Def)×(List Wait)×Int×Bool×(List Class)×(List State)×(List Due)):=bnd (zCb fu b) fun e=>cnd ((b.length:Int)==(d.Nodes.length:Int)) (bnd (zAs fu d) fun f=>cnd f (bnd (zHD fu c) fun g=>some ((),g,d.Nodes,d.Most,c.Defs,c.Waits,c.Next,c.Busy,a,e,([]:List Due))) (some ((),false,d.Nodes,d.Most,c.Defs,c.Waits,c.Next,c.Busy,a,e,([]:List Due)))) (some ((),false,d.Nodes,d.Most,c.Defs,c.Waits,c.Next,c.Busy,a,e,([]:List Due)))
theorem zMZ {fu:Nat} {d:Forest} {b:List State} {c:Desk} {a:List Class}:FF (zH7 fu d b c a) 196 [.agg (zAE d),.sl 4 false (b.map zBM),.agg (zI4 c),.sl 5 false (a.map zBh)] [] [] (fun r=>.tup [.loc 17 0,Y r.2.1]) fun r=>[(17,.box 284 [.sl 10 false (r.2.2.1.map zAZ),Z r.2.2.2.1,.own 2130,.sl 3 false (r.2.2.2.2.1.map zQn),.sl 2 false (r.2.2.2.2.2.1.map zJa),Z r.2.2.2.2.2.2.1,Y r.2.2.2.2.2.2.2.1,.sl 5 false (r.2.2.2.2.2.2.2.2.1.map zBh),.own 31708]),(2130,.arr 53 4 (r.2.2.2.2.2.2.2.2.2.1.map zBM)),(31708,.arr 171 11 (r.2.2.2.2.2.2.2.2.2.2.map zJi))]:=by
 refine fcI Tryz.func196 U (A [9,30,4,30,6,2,0,6,52,4,2,1,3,4,6,6,4,53,8,0,0,2,0,0,31,63,127,202,55,1,2,24,26,4261] (fun e _=>?_) zHL [(5,2130)] [2130])
 refine A [202,51,5,1,22,26,28,30,4261,32] ?_
 refine vS [32,4261] [34,35] [17] U U (zSS  17 U U U U U U U U U U (pyq U)) U U (A [201,79,61,35,2,35,2] ?_)
 refine zAW (j:=25) U ?_ ?_
 ·refine A [1,41] (fun f _=>?_) zA8
  refine pq 2 U (zAW (j:=29) U ?_ ?_)
  ·refine A [1,41] (fun g _=>?_) zLh
   refine A [3,0] ?_
   exact zKB 31708 171 11 17 8 U U U U U U rN
  ·refine A [105,0] ?_
   exact zKB 31708 171 11 17 8 U U U U U U rN
 ·refine A [109,0] ?_
  exact zKB 31708 171 11 17 8 U U U U U U rN
def zHI (_fu:Nat) (a:Node):Option Bool:=cnd (a.Kind==1) (some (a.Name==([102,111,114,109]:Bs))) (some false)
theorem zLm {fu:Nat} {a:Node}:DD (zHI fu a) 252 [.agg (zAZ a)] fun r=>Y r:=by
 exact fcI Tryz.func252 U (A [9,30,1,57,76,26,6,2,105,74,105,74])
def zIs (_fu:Nat) (a:Forest):Option zMm:=some (⟨a,([]:(List (Int×(List (Bs×Int)))))⟩:zMm)
theorem zOi {fu:Nat} {a:Forest}:FF (zIs fu a) 253 [.agg (zAE a)] [] [] (fun r=>.agg [.sl 10 false (r.Forest.Nodes.map zAZ),Z r.Forest.Most,.own 4]) fun r=>[(4,.mp (r.ids.map fun p:Int×(List (Bs×Int))=>(zOa .i64 p.1,.mpd (p.2.map fun p:Bs×Int=>(zNm p.1,Z p.2)))))]:=by
 refine fcI Tryz.func253 U (A [9,30,1,31,2,0,80] ?_)
 exact zIQ 4 U U U U U U U (A [20,12,74])
def zER (fu:Nat) (b:Int) (a:zAQ):Option Bool:=bnd (zCG fu a b) fun c=>some (!c)
theorem zPV {fu:Nat} {b:Int} {a:zAQ}:FF (zER fu b a) 280 [Z b,.loc 900000 0] [(900000,.box 215 (zAE a.Forest))] [900000] (fun r=>Y r) fun _=>[(900000,.box 215 (zAE a.Forest))]:=by
 refine fcI Tryz.func280 U (A [58,99] (fun c _=>?_) zE1)
 exact A [2,74]
theorem zKJ {fu:Nat} {b:List Int} {a:zAQ}:FF (zAV fu (fun c=>zER fu c a) b) 227 [.sl 1 false (b.map zAB),.fn (.func 280) [] [.loc 900000 0]] [(900000,.box 215 (zAE a.Forest))] [900000] (fun r=>Z r) fun _=>[(900000,.box 215 (zAE a.Forest))]:=by
 refine fcI Tryz.func227 U (A [75,80,77,13] ?_)
 refine lw (zAL (fun c=>zER fu c a) b) [0,1,7] [900000] (fun d=>[(8,Z d)]) (fun _=>[]) fu 0 U U ?_
 rintro f d
 refine A [75,10,2,86,59,72,62,93,36] fun h _=>?_
 refine A [1,44] (fun g _=>?_) zPV [(900000,900000)]
 refine A [0,5,2,62,8,4,94] fun e _=>?_
 exact A [89] (tx e)
theorem zJD {fu:Nat} {b:List Int} {a:zAQ}:FF (zAd fu (fun c=>zER fu c a) b) 156 [.sl 1 false (b.map zAB),.fn (.func 280) [] [.loc 900000 0]] [(900000,.box 215 (zAE a.Forest))] [900000] (fun r=>Y r) fun _=>[(900000,.box 215 (zAE a.Forest))]:=by
 refine fcI Tryz.func156 U (A [58,61,44] (fun d _=>?_) zKJ [(900000,900000)])
 exact A [2,74]
def zFn (fu:Nat) (a:Forest) (l2:List Int):Option Bool:=bnd (zCx fu (⟨a⟩:zAQ)) fun b=>cnd b (bnd (zAd fu (fun d=>zER fu d (⟨a⟩:zAQ)) l2) fun c=>some (!c)) (some false)
theorem zMa {fu:Nat} {a:Forest} {l2:List Int}:DD (zFn fu a l2) 258 [.agg (zAE a),.sl 1 false (l2.map zAB)] fun r=>Y r:=by
 refine fcI Tryz.func258 U (A [73,57,80,20,31,5,12,0,80,41] (fun b _=>?_) zGb)
 refine A [1,27,10,2,106,74,2,44] (fun c _=>?_) zJD [(900000,5)]
 exact A [3,74]
def zGo (a:Forest):Nat->Int->Option Int
 | 0,_=>none
 | k1+1,n3=>bnd (idx a.Nodes n3) fun b=>cnd (b.Parent != (-1)) (bnd (idx a.Nodes n3) fun c=>(zGo a k1) c.Parent) (some n3)
def zLj (fu:Nat) (a:Forest) (b:Int):Option Int:=(zGo a) fu b
theorem zSj {fu:Nat} {a:Forest} {b:Int}:DD (zLj fu a b) 277 [.agg (zAE a),Z b] fun r=>Z r:=by
 refine fcI Tryz.func277 U (A [73,57,6,13] ?_)
 refine lw (zGo a) [2] [2] (fun c=>[(1,Z c)]) (fun _=>[]) fu b U U ?_
 rintro e c
 refine A [6,93,36] fun f _=>?_
 refine A [3,0,10,3,86,62,8,67,13,14,3,36] fun d _=>?_
 exact A [3,11,15,46] (tx d.Parent)
def zHW (fu:Nat) (a:Forest) (b:Int):Option Int:=bnd (zFn fu a [b]) fun c=>cnd (!c) (some (-1)) (bnd (zLj fu a b) fun d=>some d)
theorem zNt {fu:Nat} {b:Forest} {a:Int}:DD (zHW fu b a) 254 [.agg (zAE b),Z a] fun r=>Z r:=by
 refine fcI Tryz.func254 U (A [73,57,6,61] ?_)
 refine pl ([a].map zAB) 7 U U U U U U (A [33,7,41] (fun c _=>?_) zMa)
 refine A [57,5,1,59,67,99] (fun d _=>?_) zSj
 exact A [57,8]
def zE5 (l4:List Int) (c:Int) (d:Node) (a:((List Int)×(List Int))->Option (List Int)):Nat->(List Int)->Option (List Int)
 | 0,l10=>a ((l4++[c]),l10)
 | k2+1,l10=>bnd (d.Kids[k2]?) fun b=>bnd (zDY 8 (l10.length+([b]:List Int).length)) fun _=>(zE5 l4 c d a k2) (l10++[b])
def zCa (b:Forest):Nat->(List Int)×(List Int)->Option (List Int)
 | 0,_=>none
 | k1+1,(l4,l5)=>cnd (decide ((l5.length:Int)>0)) (bnd (rng .i64 ((l5.length:Int) - 1)) fun c=>bnd (idx l5 c) fun a=>bnd (piece l5 0 c) fun e=>bnd (zDY 8 (l4.length+([a]:List Int).length)) fun _=>bnd (idx b.Nodes a) fun d=>(zE5 l4 a d (zCa b k1)) d.Kids.length e) (some l4)
def zEr (fu:Nat) (a:Forest) (b:Int):Option (List Int):=bnd (zFn fu a [b]) fun c=>cnd (!c) (some ([]:List Int)) ((zCa a) fu ([],[b]))
theorem zJo {fu:Nat} {e:Forest} {f:Int}:FF (zEr fu e f) 204 [.agg (zAE e),Z f] [] [] (fun _=>.own 1034) fun r=>[(1034,.arr 3 1 (r.map zAB))]:=by
 refine fcI Tryz.func204 U (fun {w0 X X0 σ0 _}=>A [73,57,6,61] ?_)
 refine pl ([f].map zAB) 13 U U U U U U (A [33,13,41] (fun p _=>?_) zMa)
 refine A [57,5,7,58,56,1034,3,1,4,8,67,75,80] ?_
 refine pl ([f].map zAB) 17 U U U U U U (A [31,6,12,0,13,56,1034,3,1,5] ?_)
 refine lw (zCa e) [2,5,6] [6,2] (fun _=>[]) (fun (c,h)=>[(1034,.arr 3 1 (c.map zAB)),(17,.arr 3 1 (h.map zAB))]) fu ([],[f]) U U ?_
 rintro l ⟨c,h⟩
 refine A [6,80,39,57,10,3,86,62,8,72,80,39,16] fun o _=>?_
 refine A [57,61,38] fun d i=>?_
 refine zAv (T:=tab) zAB h d (zAy i) U U U U U U U U (A [57,61] ?_)
 refine zJl (T:=tab) zAB h U U U U U U U U U U U fun m _=>A [12,0,61] ?_
 refine pl ([d].map zAB) 33 U U U U U U (pa zAB c ([d]:List Int) U U U U U U U U (zDE _) U U U (A [57,93,36] fun k _=>?_))
 refine pq 2 U (zL9 (n:=3041) tab Tryz.func229 U U U U U U U U U U U U ⟨⟨_,U,.rfl⟩,trivial⟩ zXB U U (A [0,13] ?_))
 refine zXp (T:=tab) (enc:=zAB) (enc':=fun (a:Int)=>Z a) (xs:=k.Kids) (x0:=m) (n:=3041) (tS:=32) (tE:=3) (tI:=3) (tB:=4) (tF:=336) (g:=274) (M:=(zE5 c d k (zCa e l))) (Sf:=fun (b:(List Int))=>[(1034,.arr 3 1 ((c++[d]).map zAB)),(17,.arr 3 1 (b.map zAB)),(6,.box 32 [.own 17]),(2,.box 24 (zAE e))]) (N1:=[2,6,1034]) (E0:=[(2,.loc 2 0),(5,.own 1034),(6,.loc 6 0)]) (E1:=fun j a=>[(2,.loc 2 0),(5,.own 1034),(6,.loc 6 0),(42,Z ((j:Nat):Int)),(43,Z a),(10,Z a)]) Tryz.func274 U U U zXC U U (fun _=>U) (fun _=>U) U U ⟨U,U,U,trivial⟩ U U ⟨U,U,U,U,trivial⟩ U U U U U U ?_ ?_ ?_
 ·rintro j a b hy w0 X X0 σ0 _ _
  refine A [1,11] ?_
  exact zPw ⟨U,U,U,U,U,U,trivial⟩ ⟨U,U,U,U,trivial⟩ U
 ·rintro j a b hy w0 X X0 σ0 _ _
  exact zRH hy (pq 2 U (pl ([a].map zAB) 46 U U U U U U (pa zAB b ([a]:List Int) U U U U U U U U (zDE _) U U U (A [12,63] (tx (b++[a]))))))
 ·rintro b
  exact A [15,69,58,14,31,6,12,63] (tx ((c++[d]),b))
def zGk (_fu:Nat) (a:Attr) (b:Bs):Option Bool:=some (a.Name==b)
theorem zRO {fu:Nat} {b:Attr} {a:Bs}:FF (zGk fu b a) 237 [.agg (zDf b),.loc 900000 0] [(900000,.box 9 [O a])] [900000] (fun r=>Y r) fun _=>[(900000,.box 9 [O a])]:=by
 exact fcI Tryz.func237 U (A [73,57,9,105,74])
theorem zIy {fu:Nat} {b:List Attr} {a:Bs}:FF (zBN fu (fun c=>zGk fu c a) b) 236 [.sl 2 false (b.map zDf),.fn (.func 237) [] [.loc 900000 0]] [(900000,.box 9 [O a])] [900000] (fun r=>Z r) fun _=>[(900000,.box 9 [O a])]:=by
 refine fcI Tryz.func236 U (A [75,80,77,13] ?_)
 refine lw (zAa (fun c=>zGk fu c a) b) [0,1,7] [900000] (fun d=>[(8,Z d)]) (fun _=>[]) fu 0 U U ?_
 rintro f d
 refine A [75,10,2,86,59,72,62,93,36] fun h _=>?_
 refine A [1,44] (fun g _=>?_) zRO [(900000,900000)]
 refine A [0,5,2,62,8,4,94] fun e _=>?_
 exact A [89] (tx e)
def zKR (fu:Nat) (l1:List Attr) (a:Bs):Option Int:=bnd (zBN fu (fun c=>zGk fu c a) l1) fun b=>some b
theorem zTr {fu:Nat} {l1:List Attr} {a:Bs}:DD (zKR fu l1 a) 167 [.sl 2 false (l1.map zDf),O a] fun r=>Z r:=by
 refine fcI Tryz.func167 U (A [9,30,3,57,61,44] (fun b _=>?_) zIy [(900000,3)])
 exact A [57,8]
def zG1 (fu:Nat) (l1:List Attr) (b:Bs):Option (Bs×Int×Int):=bnd (zHC fu l1) fun c=>cnd (!c) (some ([],(-1),1)) (bnd (zGM fu b) fun a=>cnd (a.2 != 0) (some ([],(-1),a.2)) (bnd (zKR fu l1 a.1) fun d=>some (a.1,d,0)))
theorem zKQ {fu:Nat} {l1:List Attr} {a:Bs}:DD (zG1 fu l1 a) 101 [.sl 2 false (l1.map zDf),O a] fun r=>.tup [O r.1,Z r.2.1,Z r.2.2]:=by
 refine fcI Tryz.func101 U (A [93,0,6,80,41] (fun b _=>?_) zLf)
 refine A [57,5,2,93,74,67,80,41] (fun c _=>?_) zIC
 refine A [105,0,6,62,5,2,76,74,67,93,41] (fun d _=>?_) zTr
 exact A [3,74]
def zGI (fu:Nat) (l1:List Attr) (b:Bs):Option (Bs×Bool):=bnd (zG1 fu l1 b) fun a=>cnd (decide (a.2.1<0)) (some ([],false)) (bnd (idx l1 a.2.1) fun c=>some (c.Value,true))
theorem zH4 {fu:Nat} {l1:List Attr} {a:Bs}:DD (zGI fu l1 a) 104 [.sl 2 false (l1.map zDf),O a] fun r=>.tup [O r.1,Y r.2]:=by
 refine fcI Tryz.func104 U (A [62,99] (fun b _=>?_) zKQ)
 refine A [107,0,6,62,5,2,62,8,67,61,36] fun c _=>?_
 exact A [104,74]
def zHK (_fu:Nat) (a:Forest) (b:Int):Option Int:=bnd (idx a.Nodes b) fun c=>cnd (c.Parent != (-1)) (some c.Parent) (bnd (idx a.Nodes b) fun d=>some d.Host)
theorem zOD {fu:Nat} {a:Forest} {b:Int}:DD (zHK fu a b) 106 [.agg (zAE a),Z b] fun r=>Z r:=by
 refine fcI Tryz.func106 U (A [73,57,6,93,36] fun c _=>?_)
 refine A [3,0,62,5,2,62,8,67,93,36] fun d _=>?_
 exact A [3,74]
def zIt (fu:Nat) (a:Forest):Nat->Int->Option Int
 | 0,_=>none
 | k1+1,n4=>bnd (zHK fu a n4) fun b=>cnd (b != (-1)) (bnd (zHK fu a n4) fun c=>(zIt fu a k1) c) (some n4)
def zLn (fu:Nat) (a:Forest) (b:Int):Option Int:=bnd (zCB fu a [b]) fun c=>cnd (!c) (some (-1)) ((zIt fu a) fu b)
theorem zVO {fu:Nat} {b:Forest} {a:Int}:DD (zLn fu b a) 59 [.agg (zAE b),Z a] fun r=>Z r:=by
 refine fcI Tryz.func59 U (A [73,57,6,61] ?_)
 refine pl ([a].map zAB) 7 U U U U U U (A [33,7,41] (fun f _=>?_) zIX)
 refine A [57,5,1,59,72] ?_
 refine lw (zIt fu b) [2] [2] (fun c=>[(1,Z c)]) (fun _=>[]) fu a U U ?_
 rintro e c
 refine A [6,99] (fun g _=>?_) zOD
 refine A [57,10,3,86,62,8,67,13,14,2,41] (fun d _=>?_) zOD
 exact A [1,11,15,46] (tx d)
def zDq (fu:Nat) (a:Forest) (c:Int):Option Bool:=bnd (zLn fu a c) fun b=>cnd (b != (-1)) (bnd (idx a.Nodes b) fun d=>some (d.Kind==0)) (some false)
theorem zHf {fu:Nat} {a:Forest} {b:Int}:DD (zDq fu a b) 22 [.agg (zAE a),Z b] fun r=>Y r:=by
 refine fcI Tryz.func22 U (A [73,57,99] (fun c _=>?_) zVO)
 refine A [57,93,27,11,2,109,74,3,36] fun d _=>?_
 exact A [105,74]
def zBz (fu:Nat) (a:List Node):Nat->Int->Option Int
 | 0,_=>none
 | k1+1,n6=>cnd (n6 != (-1)) (bnd (idx a n6) fun c=>bnd (zHI fu c) fun b=>cnd b (some n6) (bnd (idx a n6) fun d=>(zBz fu a k1) d.Parent)) (some (-1))
def zD5 (fu:Nat) (a:List Node) (b:Int):Option Int:=bnd (idx a b) fun c=>(zBz fu a) fu c.Parent
theorem zJN {fu:Nat} {a:List Node} {d b:Int} {l4:List (Int×(List (Bs×Int)))}:FF (zD5 fu a b) 278 [.agg [.sl 10 false (a.map zAZ),Z d,.own 900000],Z b] [(900000,.mp (l4.map fun p:Int×(List (Bs×Int))=>(zOa .i64 p.1,.mpd (p.2.map fun p:Bs×Int=>(zNm p.1,Z p.2)))))] [900000] (fun r=>Z r) fun _=>[(900000,.mp (l4.map fun p:Int×(List (Bs×Int))=>(zOa .i64 p.1,.mpd (p.2.map fun p:Bs×Int=>(zNm p.1,Z p.2)))))]:=by
 refine fcI Tryz.func278 U (A [73,57,6,76,36] fun e _=>?_)
 refine A [3,0,13] ?_
 refine lw (zBz fu a) [2] [2,900000] (fun c=>[(1,Z c)]) (fun _=>[]) fu e.Parent U U ?_
 rintro g c
 refine A [6,62,10,2,86,59,72,76,36] fun i _=>?_
 refine A [1,41] (fun h _=>?_) zLm
 refine A [0,5,2,62,8,4,70,104,36] fun f _=>?_
 exact A [3,63] (tx f.Parent)
def zBY (fu:Nat) (d:List Node) (a:Int) (l4:List (Int×(List (Bs×Int)))) (c:List Int):Nat->Int×(List (Bs×Int))->Option ((List (Bs×Int))×(List (Int×(List (Bs×Int)))))
 | 0,_=>none
 | k1+1,(t6,l7)=>cnd (decide (t6<(c.length:Int))) (bnd (idx c t6) fun h=>bnd (idx d h) fun i=>bnd (zGI fu i.Attrs [105,100]) fun b=>cnd b.2 (cnd (!(zLS l7 b.1)) (bnd (rng .i64 (t6+1)) fun e=>(zBY fu d a l4 c k1) (e,(zHP l7 b.1 h))) (bnd (rng .i64 (t6+1)) fun f=>(zBY fu d a l4 c k1) (f,l7))) (bnd (rng .i64 (t6+1)) fun g=>(zBY fu d a l4 c k1) (g,l7))) (some (l7,(zHP l4 a l7)))
def zFU (fu:Nat) (b:List Node) (c a:Int) (l4:List (Int×(List (Bs×Int)))):Option ((List (Bs×Int))×(List (Int×(List (Bs×Int))))):=cnd (zLS l4 a) (some ((zLd l4 a ([]:(List (Bs×Int)))),l4)) (bnd (zEr fu (⟨b,c⟩:Forest) a) fun d=>(zBY fu b a l4 d) fu (0,([]:(List (Bs×Int)))))
theorem zNd {fu:Nat} {d:List Node} {i a:Int} {l4:List (Int×(List (Bs×Int)))}:FF (zFU fu d i a l4) 279 [.agg [.sl 10 false (d.map zAZ),Z i,.own 900000],Z a] [(900000,.mp (l4.map fun p:Int×(List (Bs×Int))=>(zOa .i64 p.1,.mpd (p.2.map fun p:Bs×Int=>(zNm p.1,Z p.2)))))] [900000] (fun r=>.mpd (r.1.map fun p:Bs×Int=>(zNm p.1,Z p.2))) fun r=>[(900000,.mp (r.2.map fun p:Int×(List (Bs×Int))=>(zOa .i64 p.1,.mpd (p.2.map fun p:Bs×Int=>(zNm p.1,Z p.2)))))]:=by
 refine fcI Tryz.func279 U (A [73,57,6,93] ?_)
 refine zIP (T:=tab) (zKi .i64) (fun v=>.mpd (v.map fun p:Bs×Int=>(zNm p.1,Z p.2))) l4 a ([]:(List (Bs×Int))) Tryz.underlying340 Tryz.underlying3 U U U U U U U U U (A [105,0,58,5,2,62,8,67,9] ?_)
 refine zIQ 23 U U U U U U U (A [57,6,93,43] (fun l _=>?_) zJo [(1034,2270)] [2270])
 refine A [33,2270,77,13] ?_
 refine lw (zBY fu d a l4 l) [1,2,7,27,28] [2,900000] (fun (h,b)=>[(29,Z h)]) (fun (h,b)=>[(23,.mp (b.map fun p:Bs×Int=>(zNm p.1,Z p.2)))]) fu (0,([]:(List (Bs×Int)))) U U ?_
 rintro m ⟨h,b⟩
 refine A [75] ?_
 refine zAF U ?_ ?_
 ·refine A [72,9,36] fun k _=>?_
  refine A [2,0,76,36] fun n _=>?_
  refine A [2,41] (fun c _=>?_) zH4
  refine A [105,0,61] ?_
  refine zIP (T:=tab) zJc (fun v=>Z v) b c.1 0 Tryz.underlying142 Tryz.underlying9 U U U U U U U U U (A [105,0,61] ?_)
  refine zAW (j:=51) U ?_ ?_
  ·refine A [3,0] ?_
   refine zAF U ?_ ?_
   ·refine A [14,3] ?_
    refine zGF zJc (fun v=>Z v) b c.1 k Tryz.underlying142 Tryz.underlying9 U U U U U U U U U (A [11,94] fun e _=>?_)
    exact A [89] (tx (e,(zHP b c.1 k)))
   ·refine A [4,94] fun f _=>?_
    exact A [89] (tx (f,b))
  ·refine A [3,11,24,4,94] fun g _=>?_
   exact A [89] (tx (g,b))
 ·refine A [86,76] ?_
  exact zZ4 23 U U U (zGF (zKi .i64) (fun v=>.mpd (v.map fun p:Bs×Int=>(zNm p.1,Z p.2))) l4 a b Tryz.underlying340 Tryz.underlying3 U U U U U U U U U (A [0,62,8]))
def zE7 (fu:Nat) (b:List Node) (e c:Int) (l4:List (Int×(List (Bs×Int)))):Option (Int×(List (Int×(List (Bs×Int))))):=bnd (idx b c) fun i=>cnd (i.Kind != 1) (some ((-1),l4)) (bnd (zGI fu i.Attrs [102,111,114,109]) fun d=>cnd (!d.2) (bnd (zD5 fu b c) fun k=>some (k,l4)) (bnd (zDq fu (⟨b,e⟩:Forest) c) fun j=>cnd (!j) (bnd (zD5 fu b c) fun l=>some (l,l4)) (bnd (zHW fu (⟨b,e⟩:Forest) c) fun f=>bnd (zFU fu b e f l4) fun a=>cnd (!(zLS a.1 d.1)) (some ((-1),a.2)) (cnd (d.1==([]:Bs)) (some ((-1),a.2)) (bnd (idx b (zLd a.1 d.1 0)) fun h=>bnd (zHI fu h) fun g=>cnd (!g) (some ((-1),a.2)) (some ((zLd a.1 d.1 0),a.2)))))))
theorem zKb {fu:Nat} {b:List Node} {c d:Int} {l4:List (Int×(List (Bs×Int)))}:FF (zE7 fu b c d l4) 256 [.agg [.sl 10 false (b.map zAZ),Z c,.own 900000],Z d] [(900000,.mp (l4.map fun p:Int×(List (Bs×Int))=>(zOa .i64 p.1,.mpd (p.2.map fun p:Bs×Int=>(zNm p.1,Z p.2)))))] [900000] (fun r=>Z r.1) fun r=>[(900000,.mp (r.2.map fun p:Int×(List (Bs×Int))=>(zOa .i64 p.1,.mpd (p.2.map fun p:Bs×Int=>(zNm p.1,Z p.2)))))]:=by
 refine fcI Tryz.func256 U (A [73,57,76,36] fun m _=>?_)
 refine A [1,31,5,12,0,6,93,0,5,1,59,67,99] (fun g _=>?_) zH4
 refine A [105,0,6,93] ?_
 refine zAW (j:=26) U ?_ ?_
 ·refine A [106,65,61,44] (fun k _=>?_) zJN [(900000,900000)]
  exact A [57,8]
 ·refine A [3,41] (fun i _=>?_) zHf
  refine A [2,0] ?_
  refine zAF U ?_ ?_
  ·refine A [61,44] (fun l _=>?_) zJN [(900000,900000)]
   exact A [57,8]
  ·refine A [68,52,3,2,1,2,6,2,900000,53,13,0,0,2,0,14,31,0,127,255,511,511,1023,4095,204,54,2,1,78,80,82] (fun e _=>?_) zNt
   refine A [55,3,2,74,82,1800001,84,1800001] (fun a _=>?_) zNd [(900000,900000)]
   refine vq 1 U (by kernel_rfl) (vS [84,86] [88] [] U U (zXm (T:=tab) zJc (fun v=>Z v) a.1 g.1 0 Tryz.underlying142 Tryz.underlying9 U U U U U U U U (pyq U)) U U (A [205,79,6,93,26,49,2,113,83,104,26,53,2,109,83,104,36] fun h _=>?_))
   refine A [1,41] (fun f _=>?_) zLm
   exact A [2,0,5,1,59,67,62,8]
def zBA (fu:Nat) (f:Int) (b:List Node) (c d:Int) (e:List (Int×(List (Bs×Int)))):Option (Bool×(List (Int×(List (Bs×Int))))):=bnd (zE7 fu b c f e) fun a=>some ((a.1 != d),a.2)
theorem zKa {fu:Nat} {e:Int} {a:List Node} {b c:Int} {d:List (Int×(List (Bs×Int)))}:FF (zBA fu e a b c d) 255 [Z e,.loc 900000 0,.loc 900001 0] [(900000,.box 342 [.sl 10 false (a.map zAZ),Z b,.own 900002]),(900001,.box 3 [Z c]),(900002,.mp (d.map fun p:Int×(List (Bs×Int))=>(zOa .i64 p.1,.mpd (p.2.map fun p:Bs×Int=>(zNm p.1,Z p.2)))))] [900000,900001,900002] (fun r=>Y r.1) fun r=>[(900000,.box 342 [.sl 10 false (a.map zAZ),Z b,.own 900002]),(900001,.box 3 [Z c]),(900002,.mp (r.2.map fun p:Int×(List (Bs×Int))=>(zOa .i64 p.1,.mpd (p.2.map fun p:Bs×Int=>(zNm p.1,Z p.2)))))]:=by
 refine fcI Tryz.func255 U (A [75,52,3,3,0,1,2,900000,900001,900002,53,6,0,0,3,0,15,31,202,55,3,2,10,12,1800005,14,1800005] (fun f _=>?_) zKb [(900000,900002)])
 exact A [203,79,8]
def zBV (c:Int->(List (Int×(List (Bs×Int))))->Option (Bool×(List (Int×(List (Bs×Int)))))) (l1:List Int):Nat->Int×(List (Int×(List (Bs×Int))))->Option (Int×(List (Int×(List (Bs×Int)))))
 | 0,_=>none
 | k1+1,(t6,l7)=>cnd (decide (t6<(l1.length:Int))) (bnd (idx l1 t6) fun d=>bnd (c d l7) fun b=>cnd b.1 (some (t6,b.2)) (bnd (rng .i64 (t6+1)) fun a=>(zBV c l1 k1) (a,b.2))) (some ((-1),l7))
def zE8 (fu:Nat) (b:Int->(List (Int×(List (Bs×Int))))->Option (Bool×(List (Int×(List (Bs×Int)))))) (l1:List Int) (a:List (Int×(List (Bs×Int)))):Option (Int×(List (Int×(List (Bs×Int))))):=(zBV b l1) fu (0,a)
end Go.Proofs.YtmfbghpealgaiaaGreatDoor
