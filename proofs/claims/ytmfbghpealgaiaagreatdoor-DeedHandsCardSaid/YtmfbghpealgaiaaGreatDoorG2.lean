/- Models and proofs, printed by emit2.py. -/
import Derived.Test.YtmfbghpealgaiaaGreatDoorG1
namespace Go.Proofs.YtmfbghpealgaiaaGreatDoor
open Go Go.Pw
open List renaming map_eq_nil_iff->eZ,getElem?_eq_getElem->lC
set_option maxRecDepth 100000
set_option maxHeartbeats 10000000
set_option linter.unusedVariables false
theorem zPe {fu:Nat} {a:Int}:DD (zJG fu a) 41 [Z a] fun r=>.tup [.agg (zQS r.1),Y r.2]:=by
 refine fcI Tryz.func41 U (A [9,31,2,57,6,58,13,6,62] ?_)
 refine jw (zGk fu a) [0,2,4] [2] (fun g=>[(5,Y g)]) (fun _=>[]) U U ?_ fun b=>?_
 ·rintro g
  refine zIp (zAE U ?_ ?_)
  ·refine A [80,41] (fun p _=>?_) zEm
   exact A [20,92,8]
  ·refine A [6,62] ?_
   refine jw (zIB fu a) [0,2,4] [2] (fun h=>[(13,Y h)]) (fun _=>[]) U U ?_ fun c=>?_
   ·rintro h
    refine zIp (zAE U ?_ ?_)
    ·refine A [80,41] (fun q _=>?_) zEm
     exact A [20,92,8]
    ·refine A [6,62] ?_
     refine jw (zIC fu a) [0,2,4] [2] (fun i=>[(20,Y i)]) (fun _=>[]) U U ?_ fun d=>?_
     ·rintro i
      refine zIp (zAE U ?_ ?_)
      ·refine A [80,41] (fun s _=>?_) zEm
       exact A [20,92,8]
      ·refine A [62] ?_
       refine zAE U ?_ ?_
       ·refine A [80,41] (fun t _=>?_) zEm
        exact A [20,92,8]
       ·refine A [62] ?_
        refine zAE U ?_ ?_
        ·refine A [80,41] (fun u _=>?_) zEm
         exact A [20,92,8]
        ·refine A [62] ?_
         refine zAE U ?_ ?_
         ·refine A [80,41] (fun j _=>?_) zEm
          exact A [20,92,8]
         ·refine A [62] ?_
          refine zAE U ?_ ?_
          ·refine A [80,41] (fun k _=>?_) zEm
           exact A [20,92,8]
          ·refine A [62] ?_
           refine zAE U ?_ ?_
           ·refine A [80,41] (fun l _=>?_) zEm
            exact A [20,92,8]
           ·refine A [62] ?_
            refine zAE U ?_ ?_
            ·refine A [80,41] (fun m _=>?_) zEm
             exact A [20,92,8]
            ·refine A [6,62] ?_
             refine jw (zID fu a) [0,2] [2] (fun f=>[(57,Y f)]) (fun _=>[]) U U ?_ fun e=>?_
             ·rintro f
              refine zIp (zAE U ?_ ?_)
              ·refine A [80,41] (fun n _=>?_) zEm
               exact A [20,92,8]
              ·refine A [4,69,80,41] (fun o _=>?_) zEm
               exact A [20,3,26,69,3,3,92,8,3,92,8]
             ·refine zAE U ?_ ?_
              ·exact A [4,45] (e (a==20))
              ·refine A [62] ?_
               refine zAE U ?_ ?_
               ·exact A [4,45] (e (a==22))
               ·exact A [14,2,11,45] (e (a==25))
     ·refine zAE U ?_ ?_
      ·exact A [4,45] (d (a==6))
      ·refine A [62] ?_
       refine zAE U ?_ ?_
       ·exact A [4,45] (d (a==8))
       ·exact A [14,2,11,45] (d (a==26))
   ·refine zAE U ?_ ?_
    ·exact A [4,45] (c (a==3))
    ·refine A [62] ?_
     refine zAE U ?_ ?_
     ·exact A [4,45] (c (a==10))
     ·exact A [14,2,11,45] (c (a==24))
 ·refine zAE U ?_ ?_
  ·exact A [4,45] (b (a==1))
  ·refine A [62] ?_
   refine zAE U ?_ ?_
   ·exact A [4,45] (b (a==2))
   ·refine A [62] ?_
    refine zAE U ?_ ?_
    ·exact A [4,45] (b (a==9))
    ·exact A [14,2,11,45] (b (a==28))
def zIE (_fu:Nat):Option Unit:=some ()
theorem zN9 {fu:Nat} {a:Op}:FF (zIE fu) 42 [.loc 900000 0] [(900000,.box 41 (cOp a))] [900000] (fun _=>.bsl 12 3) fun _=>[(900000,.box 41 (cOp a)),(12,.box 114 [.loc 900000 1,.loc 900000 2,.loc 900000 3])]:=by
 refine fcI Tryz.func42 U (A [75,52,1,1,0,900000,53,11,0,1,3,0,8,24,0,64,192,511,1023,209] ?_)
 exact vS [10,16,22,1800001] [24,25] [12] U U (zbf (T:=tab) 12 U U U U U U U U U U U U U U (pyq U)) U U (A [201,79,8])
def zMC (a:Int) (b:Unit):Option Bool:=cnd (a==(-2)) (some true) (cnd (a==(-3)) (some true) (cnd (decide (a>=0)) (some (decide (a<400))) (some false)))
def zMa (_fu:Nat) (a b:Int):Option Bool:=cnd (a==111) (cnd (b==(-1)) (some true) ((zMC b) ())) (cnd (a==110) ((zMC b) ()) (cnd (a==105) (cnd (decide (b>=(-1000))) (some (decide (b<=1000))) (some false)) (some (b==0))))
theorem zQ0 {fu:Nat} {a c:Int}:DD (zMa fu a c) 43 [.v (.int .u8 a),Z c] fun r=>Y r:=by
 refine fcI Tryz.func43 U (A [75,58,13,6,13,6] ?_)
 refine jw (zMC c) [1] [] (fun _=>[]) (fun _=>[]) U U ?_ fun b=>?_
 ·rintro _
  exact A [7,6,93,26,16,2,112,74,104,26,20,2,108,74,3,26,23,2,105,74,105,74]
 ·refine A [13,6,13,6,6,62] ?_
  refine zAE U ?_ ?_
  ·exact A [86,62,5,1,59,4,15,45] (b ())
  ·exact A [68,62,10,18,67,62,5,10,86,6,93,26,30,2,104,74,104,74,67,86,93,74,17,45] (b ())
def zMb (_fu:Nat):Option Unit:=some ()
theorem zWD {fu:Nat} {a:Op}:FF (zMb fu) 44 [.loc 900000 0] [(900000,.box 41 (cOp a))] [900000] (fun _=>.bsl 9 2) fun _=>[(900000,.box 41 (cOp a)),(9,.box 118 [.loc 900000 4,.loc 900000 5])]:=by
 refine fcI Tryz.func44 U (A [75,52,1,1,0,900000,53,8,0,1,3,0,8,24,63,127,206] ?_)
 exact vS [10,16,1800001] [18,19] [9] U U (zbf (T:=tab) 9 U U U U U U U U U U U U U U (pyq U)) U U (A [201,79,8])
def zFh (fu:Nat) (a:Int) (b:Bs):Option Bool:=cnd (a==115) (cnd (decide ((b.length:Int)<=200)) (bnd (zEP fu b [10]) fun c=>some (!c)) (some false)) (some (b==([]:Bs)))
theorem zN8 {fu:Nat} {a:Int} {b:Bs}:DD (zFh fu a b) 45 [.v (.int .u8 a),O b] fun r=>Y r:=by
 refine fcI Tryz.func45 U (A [75,62,10,3,67,93,74,76,27,10,2,105,74,1,41] (fun c _=>?_) zJN)
 exact A [3,74]
def zHf (fu:Nat) (f:Op) (g:zDD×Bool) (a:Bool):Option Bool:=bnd (zMb fu) fun h=>cnd a (bnd (chr g.1.fields 3) fun b=>bnd (zFh fu b f.S) fun d=>cnd d (bnd (chr g.1.fields 4) fun c=>bnd (zFh fu c f.T) fun e=>some e) (some false)) (some false)
def zJF (fu:Nat) (a:Op) (b:zDD×Bool) (c:Bool):Option Bool:=cnd c (bnd (chr b.1.fields 1) fun e=>bnd (zMa fu e a.B) fun g=>cnd g (bnd (chr b.1.fields 2) fun f=>bnd (zMa fu f a.C) fun d=>(zHf fu a b) d) ((zHf fu a b) false)) ((zHf fu a b) false)
def zKV (fu:Nat) (a:Op):Option Bool:=bnd (zJG fu a.Kind) fun b=>bnd (zIE fu) fun e=>cnd b.2 (bnd (chr b.1.fields 0) fun c=>bnd (zMa fu c a.A) fun d=>(zJF fu a b) d) ((zJF fu a b) false)
theorem zQz {fu:Nat} {f:Op}:DD (zKV fu f) 15 [.agg (cOp f)] fun r=>Y r:=by
 refine fcI Tryz.func15 U (A [9,30,1,57,99] (fun b _=>?_) zPe)
 refine A [3,31,3,92,6,9,43] (fun u _=>?_) zN9 [(12,400150),(900000,1)] [400150]
 refine A [2,0] ?_
 refine jw (zHf fu f b) [1,3] [1,3] (fun a=>[(4,Y a)]) (fun _=>[]) U U ?_ fun e=>?_
 ·rintro a
  refine zgH (m':=bnd (zMb fu) fun m=>cnd a (bnd (chr b.1.fields 3) fun c=>bnd (zFh fu c f.S) fun j=>cnd j (bnd (chr b.1.fields 4) fun d=>bnd (zFh fu d f.T) fun k=>some k) (some false)) (some false)) U (A [7,6,9,43] (fun m _=>?_) zWD [(9,400340),(900000,1)] [400340])
  refine A [2,0,13] ?_
  refine zRx 3 (A [75,25,72,80] ?_)
  refine zKP (T:=tab) (i:=0) U U U U U U U U (A [3,0,85,202] ?_)
  refine zBP (t:=42) U ?_ ?_
  ·refine vq 3 U (by kernel_rfl) (vS [84,90] [92] [] U U (zCg (T:=tab) 3 U U U U U (pyq U)) U U (vT [84,88,92] [94] [] U U (zNY (T:=tab) (s:=b.1.fields) U U U U U U U fun c _=>pzq U) (fun _=>U) (fun _=>U) fun c _=>A [203,54,3,1,84,94,100,102] (fun j _=>?_) zN8))
   refine A [202,19,70] ?_
   refine zCg (T:=tab) 1 U U U U U (A [1,11] ?_)
   refine zDG 2 (A [75,25,72,80] ?_)
   refine zKP (T:=tab) (i:=1) U U U U U U U U (A [3,0,85,202] ?_)
   refine zBP (t:=42) U ?_ ?_
   ·refine vq 3 U (by kernel_rfl) (vS [84,90] [92] [] U U (zCg (T:=tab) 4 U U U U U (pyq U)) U U (vT [84,88,92] [94] [] U U (zNY (T:=tab) (s:=b.1.fields) U U U U U U U fun d _=>pzq U) (fun _=>U) (fun _=>U) fun d _=>A [203,54,3,1,84,94,100,102] (fun k _=>?_) zN8))
    refine A [202,19,70] ?_
    refine zCg (T:=tab) 2 U U U U U (A [1,11] ?_)
    exact zDG 1 (A [75,23,86,62,8])
   ·refine A [211,19,70] ?_
    refine zCg (T:=tab) 2 U U U U U (A [1,11] ?_)
    exact zDG 1 (A [75,23,86,62,8])
  ·refine A [211,19,70] ?_
   refine zCg (T:=tab) 1 U U U U U (A [1,11] ?_)
   refine zDG 2 (A [75,25,72,80] ?_)
   refine zKP (T:=tab) (i:=1) U U U U U U U U (A [3,0,85,213,19,70] ?_)
   refine zCg (T:=tab) 2 U U U U U (A [1,11] ?_)
   exact zDG 1 (A [75,23,86,62,8])
 ·refine zYO (zRx 4 (A [75,25,68] ?_))
  refine jw (zJF fu f b) [1,3,15,16,17] [1,400150,3] (fun h=>[(4,Y h)]) (fun _=>[]) U U ?_ fun g=>?_
  ·rintro h
   refine A [7,14] ?_
   refine zCg (T:=tab) 1 U U U U U (A [1,11] ?_)
   refine zDG 3 (A [75,25,72,80] ?_)
   refine zKP (T:=tab) (i:=1) U U U U U U U U (A [3,0,71,202] ?_)
   refine zBP (t:=23) U ?_ ?_
   ·refine vq 3 U (by kernel_rfl) (vT [46,50,52] [54] [] U U (zNY (T:=tab) (s:=b.1.fields) U U U U U U U fun o _=>pzq U) (fun _=>U) (fun _=>U) fun o _=>A [203,54,3,1,46,54,60,62] (fun v _=>?_) zQ0)
    refine A [202,19,70] ?_
    refine zCg (T:=tab) 2 U U U U U (A [1,11] ?_)
    refine zDG 2 (A [75,25,72,80] ?_)
    refine zKP (T:=tab) (i:=2) U U U U U U U U (A [3,0,71,202] ?_)
    refine zBP (t:=23) U ?_ ?_
    ·refine vq 3 U (by kernel_rfl) (vT [46,50,52] [54] [] U U (zNY (T:=tab) (s:=b.1.fields) U U U U U U U fun p _=>pzq U) (fun _=>U) (fun _=>U) fun p _=>A [203,54,3,1,46,54,60,62] (fun l _=>?_) zQ0)
     refine A [202,19,70] ?_
     refine zCg (T:=tab) 3 U U U U U (A [1,11] ?_)
     exact zDG 1 (A [75,23,17,45] (e l))
    ·refine A [210,19,70] ?_
     refine zCg (T:=tab) 3 U U U U U (A [1,11] ?_)
     exact zDG 1 (A [75,23,17,45] (e false))
   ·refine A [210,19,70] ?_
    refine zCg (T:=tab) 2 U U U U U (A [1,11] ?_)
    refine zDG 2 (A [75,25,72,80] ?_)
    refine zKP (T:=tab) (i:=2) U U U U U U U U (A [3,0,71,212,19,70] ?_)
    refine zCg (T:=tab) 3 U U U U U (A [1,11] ?_)
    exact zDG 1 (A [75,23,17,45] (e false))
  ·refine A [13,80] ?_
   refine zKP (T:=tab) (i:=0) U U U U U U U U (A [3,0,71,202] ?_)
   refine zBP (t:=23) U ?_ ?_
   ·refine vq 3 U (by kernel_rfl) (vT [46,50,52] [54] [] U U (zNY (T:=tab) (s:=b.1.fields) U U U U U U U fun n _=>pzq U) (fun _=>U) (fun _=>U) fun n _=>A [203,54,3,1,46,54,60,62] (fun q _=>?_) zQ0)
    exact A [202,19,15,45] (g q)
   ·exact A [210,19,15,45] (g false)
def zMB (e:Op) (b d c a:Int):Option (Op×Int):=cnd (decide (a<0)) (some ((⟨0,0,0,0,[],[],false⟩:Op),6)) (cnd (decide (a>=b)) (some ((⟨0,0,0,0,[],[],false⟩:Op),6)) (some (({e with A:=d,B:=c,C:=a}:Op),0)))
def zMA (d:Op) (c a e b:Int) (f:Unit):Option (Op×Int):=cnd (d.C==(-2)) ((zMB d a e b) c) (cnd (d.C==(-3)) ((zMB d a e b) (IntKind.i64.wrap (a - 1))) ((zMB d a e b) d.C))
def zIA (e:Op) (c b:Int) (g:zDD×Bool) (f a:Int):Option (Op×Int):=bnd (chr g.1.fields 2) fun d=>cnd (d==46) (some (({e with A:=f,B:=a}:Op),0)) (cnd (d==105) (some (({e with A:=f,B:=a}:Op),0)) (cnd (d==111) (cnd (e.C==(-1)) (some (({e with A:=f,B:=a}:Op),0)) ((zMA e c b f a) ())) ((zMA e c b f a) ())))
def zL9 (e:Op) (c a:Int) (f:zDD×Bool) (d b:Int):Option (Op×Int):=cnd (decide (b<0)) (some ((⟨0,0,0,0,[],[],false⟩:Op),6)) (cnd (decide (b>=a)) (some ((⟨0,0,0,0,[],[],false⟩:Op),6)) ((zIA e c a f d) b))
def zL8 (c:Op) (b a:Int) (e:zDD×Bool) (d:Int) (f:Unit):Option (Op×Int):=cnd (c.B==(-2)) ((zL9 c b a e d) b) (cnd (c.B==(-3)) ((zL9 c b a e d) (IntKind.i64.wrap (a - 1))) ((zL9 c b a e d) c.B))
def zH9 (c:Op) (b a:Int) (e:zDD×Bool) (f:Int):Option (Op×Int):=bnd (chr e.1.fields 1) fun d=>cnd (d==46) ((zIA c b a e f) c.B) (cnd (d==105) ((zIA c b a e f) c.B) (cnd (d==111) (cnd (c.B==(-1)) ((zIA c b a e f) c.B) ((zL8 c b a e f) ())) ((zL8 c b a e f) ())))
def zL7 (d:Op) (b a:Int) (e:zDD×Bool) (c:Int):Option (Op×Int):=cnd (decide (c<0)) (some ((⟨0,0,0,0,[],[],false⟩:Op),6)) (cnd (decide (c>=a)) (some ((⟨0,0,0,0,[],[],false⟩:Op),6)) ((zH9 d b a e) c))
def zL6 (c:Op) (b a:Int) (d:zDD×Bool) (e:Unit):Option (Op×Int):=cnd (c.A==(-2)) ((zL7 c b a d) b) (cnd (c.A==(-3)) ((zL7 c b a d) (IntKind.i64.wrap (a - 1))) ((zL7 c b a d) c.A))
def zQO (fu:Nat) (c:Op) (b a:Int):Option (Op×Int):=bnd (zKV fu c) fun f=>cnd (!f) (some ((⟨0,0,0,0,[],[],false⟩:Op),2)) (bnd (zJG fu c.Kind) fun d=>bnd (zIE fu) fun g=>bnd (chr d.1.fields 0) fun e=>cnd (e==46) ((zH9 c b a d) c.A) (cnd (e==105) ((zH9 c b a d) c.A) (cnd (e==111) (cnd (c.A==(-1)) ((zH9 c b a d) c.A) ((zL6 c b a d) ())) ((zL6 c b a d) ()))))
theorem zZt {fu:Nat} {c:Op} {b a:Int}:DD (zQO fu c b a) 37 [.agg (cOp c),Z b,Z a] fun r=>.tup [.agg (cOp r.1),Z r.2]:=by
 refine fcI Tryz.func37 U (A [9,30,3,31,6,57,6,80,41] (fun y _=>?_) zQz)
 refine A [57,5,4,9,20,92,8,67,99] (fun f _=>?_) zPe
 refine A [3,31,8,92,6,9,43] (fun z _=>?_) zN9 [(12,400230),(900000,3)] [400230]
 refine A [2,0,13] ?_
 refine zRx 4 (A [75,25,68] ?_)
 refine jw (zH9 c b a f) [1,2,3,6,8,23,24,25] [400230,8,6] (fun _=>[]) (fun e=>[(3,.box 41 [Z c.Kind,Z e,Z c.B,Z c.C,O c.S,O c.T,Y c.Must])]) U U ?_ fun g=>?_
 ·rintro e
  refine A [7,14] ?_
  refine zCg (T:=tab) 1 U U U U U (A [1,11] ?_)
  refine zDG 3 (A [75,25,68] ?_)
  refine jw (zIA c b a f e) [1,2,3,6,8,23,24,25] [400230,8,6] (fun _=>[]) (fun d=>[(3,.box 41 [Z c.Kind,Z e,Z d,Z c.C,O c.S,O c.T,Y c.Must])]) U U ?_ fun h=>?_
  ·rintro d
   refine A [7,14] ?_
   refine zCg (T:=tab) 2 U U U U U (A [1,11] ?_)
   refine zDG 2 (A [75,25,72,80] ?_)
   refine zKP (T:=tab) (i:=2) U U U U U U U U (A [3,0,6,93] ?_)
   refine zNY (T:=tab) (s:=f.1.fields) U U U U U U U fun w _=>A [57,9] ?_
   refine zLY (zMA c b a e d) (fun (_:Unit)=>[(1,Z b),(2,Z a),(3,.loc 3 0),(6,.loc 6 0),(8,.loc 8 0),(11,.loc 3 3),(23,.bsl 400230 3),(24,Z 3),(25,Z 2)]) (fun (_:Unit)=>[(3,.box 41 [Z c.Kind,Z e,Z d,Z c.C,O c.S,O c.T,Y c.Must]),(400230,.box 114 [.loc 3 1,.loc 3 2,.loc 3 3]),(8,.box 108 (zQS f.1)),(6,.box 41 [Z 0,Z 0,Z 0,Z 0,O [],O [],Y false])]) ?_ fun t=>?_
   ·rintro _
    refine A [7,6,93,0] ?_
    refine jw (zMB c a e d) [1,2,3,6,8,11,23,24,25] [400230,8,6] (fun _=>[]) (fun o=>[(3,.box 41 [Z c.Kind,Z e,Z d,Z o,O c.S,O c.T,Y c.Must])]) U U ?_ fun n=>?_
    ·rintro o
     refine A [7,9,105,26,68,6,106,65,9,20,92,8,106,0,5,4,9,20,92,8,4,70] ?_
     refine zCg (T:=tab) 3 U U U U U (A [1,11] ?_)
     exact zDG 1 (A [75,23,86,80,92,8])
    ·refine A [13,62] ?_
     refine zAE U ?_ ?_
     ·exact A [14,3,12,11,15,45] (n b)
     ·refine A [62] ?_
      refine zAE U ?_ ?_
      ·refine A [14,2] ?_
       exact zW5 (T:=tab) U U U U (A [1,12,11,15,45] (n (IntKind.i64.wrap (a - 1))))
      ·exact A [4,15,45] (n c.C)
   ·refine pq 3 U (zAT (j:=36) U ?_ ?_)
    ·refine A [113,65,86,14] ?_
     refine zCg (T:=tab) 3 U U U U U (A [1,11] ?_)
     exact zDG 1 (A [75,23,86,80,92,8])
    ·refine pq 4 U (zAT (j:=40) U ?_ ?_)
     ·refine A [109,65,86,14] ?_
      refine zCg (T:=tab) 3 U U U U U (A [1,11] ?_)
      exact zDG 1 (A [75,23,86,80,92,8])
     ·refine pq 3 U (zAT (j:=43) U ?_ ?_)
      ·refine A [106,0] ?_
       refine zAE U ?_ ?_
       ·refine A [86,14] ?_
        refine zCg (T:=tab) 3 U U U U U (A [1,11] ?_)
        exact zDG 1 (A [75,23,86,80,92,8])
       ·exact A [4,45] (t ())
      ·exact A [106,11,24,4,45] (t ())
  ·refine A [13,80] ?_
   refine zKP (T:=tab) (i:=1) U U U U U U U U (A [3,0,6,93] ?_)
   refine zNY (T:=tab) (s:=f.1.fields) U U U U U U U fun v _=>A [57,9] ?_
   refine zLY (zL8 c b a f e) (fun (_:Unit)=>[(1,Z b),(2,Z a),(3,.loc 3 0),(6,.loc 6 0),(8,.loc 8 0),(11,.loc 3 2),(23,.bsl 400230 3),(24,Z 3),(25,Z 1)]) (fun (_:Unit)=>[(3,.box 41 [Z c.Kind,Z e,Z c.B,Z c.C,O c.S,O c.T,Y c.Must]),(400230,.box 114 [.loc 3 1,.loc 3 2,.loc 3 3]),(8,.box 108 (zQS f.1)),(6,.box 41 [Z 0,Z 0,Z 0,Z 0,O [],O [],Y false])]) ?_ fun q=>?_
   ·rintro _
    refine A [7,6,93,0] ?_
    refine jw (zL9 c b a f e) [1,2,3,6,8,11,23,24,25] [400230,8,6] (fun _=>[]) (fun k=>[(3,.box 41 [Z c.Kind,Z e,Z k,Z c.C,O c.S,O c.T,Y c.Must])]) U U ?_ fun m=>?_
    ·rintro k
     exact A [7,9,105,26,68,6,106,65,9,20,92,8,106,0,5,4,9,20,92,8,4,15,45] (h k)
    ·refine A [13,62] ?_
     refine zAE U ?_ ?_
     ·exact A [14,3,12,11,15,45] (m b)
     ·refine A [62] ?_
      refine zAE U ?_ ?_
      ·refine A [14,2] ?_
       exact zW5 (T:=tab) U U U U (A [1,12,11,15,45] (m (IntKind.i64.wrap (a - 1))))
      ·exact A [4,15,45] (m c.B)
   ·refine pq 3 U (zAT (j:=36) U ?_ ?_)
    ·exact A [113,65,17,45] (h c.B)
    ·refine pq 4 U (zAT (j:=40) U ?_ ?_)
     ·exact A [109,65,17,45] (h c.B)
     ·refine pq 3 U (zAT (j:=43) U ?_ ?_)
      ·refine A [106,0] ?_
       refine zAE U ?_ ?_
       ·exact A [17,45] (h c.B)
       ·exact A [4,45] (q ())
      ·exact A [106,11,24,4,45] (q ())
 ·refine A [13,80] ?_
  refine zKP (T:=tab) (i:=0) U U U U U U U U (A [3,0,6,93] ?_)
  refine zNY (T:=tab) (s:=f.1.fields) U U U U U U U fun x _=>A [57,9] ?_
  refine zLY (zL6 c b a f) (fun (_:Unit)=>[(1,Z b),(2,Z a),(3,.loc 3 0),(6,.loc 6 0),(8,.loc 8 0),(11,.loc 3 1),(23,.bsl 400230 3),(24,Z 3),(25,Z 0)]) (fun (_:Unit)=>[(3,.box 41 (cOp c)),(400230,.box 114 [.loc 3 1,.loc 3 2,.loc 3 3]),(8,.box 108 (zQS f.1)),(6,.box 41 [Z 0,Z 0,Z 0,Z 0,O [],O [],Y false])]) ?_ fun p=>?_
  ·rintro _
   refine A [7,6,93,0] ?_
   refine jw (zL7 c b a f) [1,2,3,6,8,11,23,24,25] [400230,8,6] (fun _=>[]) (fun u=>[(3,.box 41 [Z c.Kind,Z u,Z c.B,Z c.C,O c.S,O c.T,Y c.Must])]) U U ?_ fun l=>?_
   ·rintro u
    exact A [7,9,105,26,68,6,106,65,9,20,92,8,106,0,5,4,9,20,92,8,4,15,45] (g u)
   ·refine A [13,62] ?_
    refine zAE U ?_ ?_
    ·exact A [14,3,12,11,15,45] (l b)
    ·refine A [62] ?_
     refine zAE U ?_ ?_
     ·refine A [14,2] ?_
      exact zW5 (T:=tab) U U U U (A [1,12,11,15,45] (l (IntKind.i64.wrap (a - 1))))
     ·exact A [4,15,45] (l c.A)
  ·refine pq 3 U (zAT (j:=36) U ?_ ?_)
   ·exact A [113,65,17,45] (g c.A)
   ·refine pq 4 U (zAT (j:=40) U ?_ ?_)
    ·exact A [109,65,17,45] (g c.A)
    ·refine pq 3 U (zAT (j:=43) U ?_ ?_)
     ·refine A [106,0] ?_
      refine zAE U ?_ ?_
      ·exact A [17,45] (g c.A)
      ·exact A [4,45] (p ())
     ·exact A [106,11,24,4,45] (p ())
def zBh (a:Int) (t2:Bool):Option Bool:=cnd t2 (some false) (cnd (decide (a>0)) (some (decide (a<=28))) (some false))
def zEi (_fu:Nat) (a:Int):Option Bool:=cnd (a==1) ((zBh a) (a==1)) (cnd (a==16) ((zBh a) (a==16)) (cnd (a==19) ((zBh a) (a==19)) (cnd (a==20) ((zBh a) (a==20)) (cnd (a==21) ((zBh a) (a==21)) (cnd (a==22) ((zBh a) (a==22)) ((zBh a) (a==25)))))))
theorem zIU {fu:Nat} {a:Int}:DD (zEi fu a) 14 [Z a] fun r=>Y r:=by
 refine fcI Tryz.func14 U (A [75,58,13,6,62] ?_)
 refine jw (zBh a) [0] [] (fun c=>[(4,Y c)]) (fun _=>[]) U U ?_ fun b=>?_
 ·rintro c
  exact A [7,5,1,59,4,69,93,26,14,2,104,74,104,74]
 ·refine zAE U ?_ ?_
  ·exact A [4,45] (b (a==1))
  ·refine A [62] ?_
   refine zAE U ?_ ?_
   ·exact A [4,45] (b (a==16))
   ·refine A [62] ?_
    refine zAE U ?_ ?_
    ·exact A [4,45] (b (a==19))
    ·refine A [62] ?_
     refine zAE U ?_ ?_
     ·exact A [4,45] (b (a==20))
     ·refine A [62] ?_
      refine zAE U ?_ ?_
      ·exact A [4,45] (b (a==21))
      ·refine A [62] ?_
       refine zAE U ?_ ?_
       ·exact A [4,45] (b (a==22))
       ·exact A [14,2,11,45] (b (a==25))
def zFU (_fu:Nat) (a:List Wait):Option (List Wait):=bnd (zDT 24 (([]:List Wait).length+a.length)) fun _=>some (([]:List Wait)++a)
theorem zLE {fu:Nat} {a:List Wait}:FF (zFU fu a) 250 [.sl 2 false (a.map zIw)] [] [] (fun _=>.own 5) fun r=>[(5,.arr 150 2 (r.map zIw))]:=by
 refine fcI Tryz.func250 U (A [75,80] ?_)
 refine zH3 (T:=tab) U U U U U U fun b d=>?_
 cases b
 ·refine A [0,23,67,9] ?_
  exact pl (([]:List Wait).map zIw) 5 U U U U U U (pq 1 U (pa zIw ([]:List Wait) a U U U U U U U U (zUt _) U U U (A [57,8])))
 ·have c:a=[]:=eZ.1 (d rfl)
  exact zKO (m':=some ([]:List Wait)) (by subst c;rfl) (A [0,25,58,56,5,150,2,2,8])
def zJp (fu:Nat) (a:Desk) (b:Bs):Option (Desk×Int×Int×Int):=bnd (zHY fu a) fun c=>cnd (!c.2) (some (a,(-1),(-1),1)) (bnd (zC9 fu b) fun f=>cnd (!f) (some (a,(-1),(-1),4)) (cnd (a.Next==100000) (some (a,(-1),(-1),3)) (bnd (rng .i64 (a.Next+1)) fun d=>cnd (zLT c.1.names b) (some (({a with Next:=d}:Desk),a.Next,(zK0 c.1.names b 0),0)) (bnd (zFU fu a.Waits) fun e=>bnd (zDT 24 (e.length+([(⟨b,a.Next⟩:Wait)]:List Wait).length)) fun _=>some (({a with Waits:=(e++[(⟨b,a.Next⟩:Wait)]),Next:=d}:Desk),a.Next,(-1),0)))))
theorem zTE {fu:Nat} {b:Desk} {a:Bs}:DD (zJp fu b a) 192 [.agg (zIP b),O a] fun r=>.tup [.agg (zIP r.1),Z r.2.1,Z r.2.2.1,Z r.2.2.2]:=by
 refine fcI Tryz.func192 U (A [73,31,4,3,0,80,43] (fun c _=>?_) zLy [(2130,2150),(2131,2151)] [2150,2151])
 refine A [3,31,8,92,93] ?_
 refine zHq (T:=tab) zIy (fun v=>Z v) c.1.names a 0 Tryz.underlying142 Tryz.underlying9 U U U U U U U U U (A [105,0,6,13,93,0,5,4,80,12,3,74,80,41] (fun f _=>?_) zEa)
 refine A [2,0,5,4,80,12,3,74,76,0,5,4,80,12,3,74,4,69,93,0,61,16] fun e _=>?_
 refine A [1,12,0,6,58,5,4,93,12,3,74,67,61,43] (fun d _=>?_) zLE [(5,2510)] [2510]
 refine A [2,20] ?_
 exact pl ([(⟨a,b.Next⟩:Wait)].map zIw) 55 U U U U U U (pa zIw d ([(⟨a,b.Next⟩:Wait)]:List Wait) U U U U U U U U (zUt _) U U U (A [1,12,0,61,12,3,0,34,2510,8]))
def zCw (_fu:Nat) (a:List Task):Option (List Task):=bnd (zDT 24 (([]:List Task).length+a.length)) fun _=>some (([]:List Task)++a)
theorem zG7 {fu:Nat} {a:List Task}:FF (zCw fu a) 193 [.sl 3 false (a.map zIg)] [] [] (fun _=>.own 5) fun r=>[(5,.arr 102 3 (r.map zIg))]:=by
 refine fcI Tryz.func193 U (A [75,80] ?_)
 refine zH3 (T:=tab) U U U U U U fun b d=>?_
 cases b
 ·refine A [0,23,67,9] ?_
  exact pl (([]:List Task).map zIg) 5 U U U U U U (pq 1 U (pa zIg ([]:List Task) a U U U U U U U U (zRH _) U U U (A [57,8])))
 ·have c:a=[]:=eZ.1 (d rfl)
  exact zKO (m':=some ([]:List Task)) (by subst c;rfl) (A [0,25,58,56,5,102,3,2,8])
def zIV (fu:Nat) (d:Bs) (b:zAR):Option (Int×zAR):=bnd (zJp fu b.World.Desk d) fun a=>cnd (a.2.2.2 != 0) (some (a.2.2.2,b)) (cnd (a.2.2.1 != (-1)) (bnd (zCw fu b.World.Tasks) fun c=>bnd (zDT 24 (c.length+([(⟨2,a.2.1,a.2.2.1⟩:Task)]:List Task).length)) fun _=>some (0,(⟨({b.World with Desk:=a.1,Tasks:=(c++[(⟨2,a.2.1,a.2.2.1⟩:Task)])}:World),a.2.1⟩:zAR))) (some (0,(⟨({b.World with Desk:=a.1}:World),a.2.1⟩:zAR))))
theorem zOv {fu:Nat} {c:Bs} {b:zAR}:FF (zIV fu c b) 128 [.loc 900000 0,O c] [(900000,.box 99 (zB6 b))] [900000] (fun r=>Z r.1) fun r=>[(900000,.box 99 (zB6 r.2))]:=by
 refine fcI Tryz.func128 U (A [58,9,106,41] (fun a _=>?_) zTE)
 refine A [105,31,5,12,3,0,6,62,5,2,62,8,67,9,107,12,2,12,0,6,62,10,2,67,59,14,106,43] (fun d _=>?_) zG7 [(5,2410)] [2410]
 refine A [2,20] ?_
 exact pl ([(⟨2,a.2.1,a.2.2.1⟩:Task)].map zIg) 45 U U U U U U (pa zIg d ([(⟨2,a.2.1,a.2.2.1⟩:Task)]:List Task) U U U U U U U U (zRH _) U U U (A [3,12,0,58,34,2410,8]))
def zDw (_fu:Nat) (a:Int) (b:Forest):Option Bool:=cnd (decide (a<0)) (some true) (some (decide (a>=(b.Nodes.length:Int))))
theorem zP7 {fu:Nat} {b:Int} {a:Forest}:FF (zDw fu b a) 169 [Z b,.loc 900000 0] [(900000,.box 24 (zAD a))] [900000] (fun r=>Y r) fun _=>[(900000,.box 24 (zAD a))]:=by
 exact fcI Tryz.func169 U (A [58,93,26,6,2,107,74,3,35,3,74])
def zAH (b:Int->Option Bool) (a:List Int):Nat->Int->Option Int
 | 0,_=>none
 | k1+1,t3=>cnd (decide (t3<(a.length:Int))) (bnd (idx a t3) fun e=>bnd (b e) fun d=>cnd d (some t3) (bnd (rng .i64 (t3+1)) fun c=>(zAH b a k1) c)) (some (-1))
def zAS (fu:Nat) (b:Int->Option Bool) (a:List Int):Option Int:=(zAH b a) fu 0
theorem zLF {fu:Nat} {b:List Int} {a:Forest}:FF (zAS fu (fun c=>zDw fu c a) b) 227 [.sl 1 false (b.map zAB),.fn (.func 169) [] [.loc 900000 0]] [(900000,.box 24 (zAD a))] [900000] (fun r=>Z r) fun _=>[(900000,.box 24 (zAD a))]:=by
 refine fcI Tryz.func227 U (A [75,80,77,13] ?_)
 refine lw (zAH (fun c=>zDw fu c a) b) [0,1,7] [900000] (fun d=>[(8,Z d)]) (fun _=>[]) fu 0 U U ?_
 rintro f d
 refine A [75,10,2,86,59,72,62,93,36] fun h _=>?_
 refine A [1,44] (fun g _=>?_) zP7 [(900000,900000)]
 refine A [0,5,2,62,8,4,94] fun e _=>?_
 exact A [89] (tx e)
def zAc (fu:Nat) (c:Int->Option Bool) (b:List Int):Option Bool:=bnd (zAS fu c b) fun a=>some (decide (a>=0))
theorem zJa {fu:Nat} {b:List Int} {a:Forest}:FF (zAc fu (fun c=>zDw fu c a) b) 156 [.sl 1 false (b.map zAB),.fn (.func 169) [] [.loc 900000 0]] [(900000,.box 24 (zAD a))] [900000] (fun r=>Y r) fun _=>[(900000,.box 24 (zAD a))]:=by
 refine fcI Tryz.func156 U (A [58,61,44] (fun d _=>?_) zLF [(900000,900000)])
 exact A [2,74]
def zB9 (fu:Nat) (a:Forest) (l2:List Int):Option Bool:=bnd (zAo fu a) fun b=>cnd b (bnd (zAc fu (fun d=>zDw fu d a) l2) fun c=>some (!c)) (some false)
theorem zHy {fu:Nat} {a:Forest} {l2:List Int}:DD (zB9 fu a l2) 105 [.agg (zAD a),.sl 1 false (l2.map zAB)] fun r=>Y r:=by
 refine fcI Tryz.func105 U (A [73,57,62,80,41] (fun b _=>?_) zA3)
 refine A [1,27,9,2,106,74,2,44] (fun c _=>?_) zJa [(900000,2)]
 exact A [3,74]
def zGo (d:List Int) (e:Int) (c:Node) (a:((List Int)×(List Int))->Option (List Int)):Nat->(List Int)->Option (List Int)
 | 0,l10=>cnd (c.Under != (-1)) (bnd (zDT 8 (l10.length+([c.Under]:List Int).length)) fun _=>a ((d++[e]),(l10++[c.Under]))) (a ((d++[e]),l10))
 | k2+1,l10=>bnd (c.Kids[k2]?) fun b=>bnd (zDT 8 (l10.length+([b]:List Int).length)) fun _=>(zGo d e c a k2) (l10++[b])
def zEM (b:Forest):Nat->(List Int)×(List Int)->Option (List Int)
 | 0,_=>none
 | k1+1,(l4,l5)=>cnd (decide ((l5.length:Int)>0)) (bnd (rng .i64 ((l5.length:Int) - 1)) fun c=>bnd (idx l5 c) fun a=>bnd (piece l5 0 c) fun e=>bnd (zDT 8 (l4.length+([a]:List Int).length)) fun _=>bnd (idx b.Nodes a) fun d=>(zGo l4 a d (zEM b k1)) d.Kids.length e) (some l4)
def zDu (fu:Nat) (a:Forest) (b:Int):Option (List Int):=bnd (zB9 fu a [b]) fun c=>cnd (!c) (some ([]:List Int)) ((zEM a) fu ([],[b]))
theorem zJx {fu:Nat} {f:Forest} {h:Int}:FF (zDu fu f h) 161 [.agg (zAD f),Z h] [] [] (fun _=>.own 1035) fun r=>[(1035,.arr 3 1 (r.map zAB))]:=by
 refine fcI Tryz.func161 U (fun {w0 X X0 σ0 _}=>A [73,57,6,61] ?_)
 refine pl ([h].map zAB) 14 U U U U U U (A [33,14,41] (fun p _=>?_) zHy)
 refine A [57,5,7,58,56,1035,3,1,4,8,67,75,80] ?_
 refine pl ([h].map zAB) 18 U U U U U U (A [31,6,12,0,13,56,1035,3,1,5] ?_)
 refine lw (zEM f) [2,5,6] [6,2] (fun _=>[]) (fun (c,i)=>[(1035,.arr 3 1 (c.map zAB)),(18,.arr 3 1 (i.map zAB))]) fu ([],[h]) U U ?_
 rintro l ⟨c,i⟩
 refine A [6,80,39,57,10,3,86,62,8,72,80,39,16] fun o _=>?_
 refine A [57,61,38] fun d j=>?_
 refine zAr (T:=tab) zAB i d (zAu j) U U U U U U U U (A [57,61] ?_)
 refine zI4 (T:=tab) zAB i U U U U U U U U U U U fun m _=>A [12,0,61] ?_
 refine pl ([d].map zAB) 34 U U U U U U (pa zAB c ([d]:List Int) U U U U U U U U (zDF _) U U U (A [57,93,36] fun e _=>?_))
 refine A [1,31,9,12,0,6,61] ?_
 refine zLX (n:=3043) tab Tryz.func229 U U U U U U U U U U U U ⟨⟨_,U,.rfl⟩,trivial⟩ zWS U U (A [0,13] ?_)
 refine zW7 (T:=tab) (enc:=zAB) (enc':=fun (b:Int)=>Z b) (xs:=e.Kids) (x0:=m) (n:=3043) (tS:=32) (tE:=3) (tI:=3) (tB:=4) (tF:=336) (g:=274) (M:=(zGo c d e (zEM f l))) (Sf:=fun (a:(List Int))=>[(9,.box 77 (zAX e)),(1035,.arr 3 1 ((c++[d]).map zAB)),(18,.arr 3 1 (a.map zAB)),(6,.box 32 [.own 18]),(2,.box 24 (zAD f))]) (N1:=[2,6,9,1035]) (E0:=[(2,.loc 2 0),(5,.own 1035),(6,.loc 6 0),(9,.loc 9 0)]) (E1:=fun k b=>[(2,.loc 2 0),(5,.own 1035),(6,.loc 6 0),(9,.loc 9 0),(44,Z ((k:Nat):Int)),(45,Z b),(11,Z b)]) Tryz.func274 U U U zWT U U (fun _=>U) (fun _=>U) U U ⟨U,U,U,U,trivial⟩ U U ⟨U,U,U,U,U,trivial⟩ U U U U U U ?_ ?_ ?_
 ·rintro k b a hy w0 X X0 σ0 _ _
  refine A [1,11] ?_
  exact zPM ⟨U,U,U,U,U,U,U,trivial⟩ ⟨U,U,U,U,U,trivial⟩ U
 ·rintro k b a hy w0 X X0 σ0 _ _
  exact zQe hy (pq 2 U (pl ([b].map zAB) 48 U U U U U U (pa zAB a ([b]:List Int) U U U U U U U U (zDF _) U U U (A [12,63] (tx (a++[b]))))))
 ·rintro a
  refine A [69,93,0] ?_
  refine zAE U ?_ ?_
  ·refine A [14,3] ?_
   exact pl ([e.Under].map zAB) 56 U U U U U U (pa zAB a ([e.Under]:List Int) U U U U U U U U (zDF _) U U U (A [12,11,69,58,14,31,6,12,63] (tx ((c++[d]),(a++[e.Under])))))
  ·exact A [4,69,58,14,31,6,12,63] (tx ((c++[d]),a))
def zTc (ns:List Node):List Int->Option (List (Int×Node))
 | []=>some []
 | k::l=>bnd (idx ns k) fun x=>bnd (zTc ns l) fun r=>some (if x.Kind==1 then (k,x)::r else r)
def zMf (fu:Nat) (f:Forest) (n:Int):Option (List (Int×Node)):=bnd (zDu fu f n) fun l=>zTc f.Nodes l
abbrev heS (f:Forest) (n:Int):zAC:=[(3000001,.box 24 (zAD f)),(3000002,.box 3 [Z n])]
theorem zWm (f:Forest) (n:Int):FC zRc Tryz.prog 194 [.agg (zAD f),Z n] [] [] fun p a=>p=.fn (.func 251) [] [.loc 3000001 0,.loc 3000002 0]/\a=heS f n:=by
 exact zTe (m:=some ()) (r:=()) (args:=[.agg (zAD f),Z n]) (S:=[]) (N0:=[]) (post:=fun _ p a=>p=.fn (.func 251) [] [.loc 3000001 0,.loc 3000002 0]/\a=heS f n) Tryz.func194 U U U fun w0 X X0 σ0 _=>zSv (zFQ (zRt 3000001 U U U U U U U U U U (zRt 3000002 U U U U U U U U U U (zHK (T:=tab) 1 U U (zF6 (zIp (zSv (zFQ (zHK (T:=tab) 2 U U (zF6 (zIp (zbn (S':=heS f n) (zFr ⟨U,U,trivial⟩ U) U U ⟨U,U⟩))))))))))))
abbrev heE (l:Nat) (L:List Int) (i:Nat):Env:=[(0,.fn (.yield l) [] []),(1,.loc 3000001 0),(2,.loc 3000002 0),(9,.sl 1 false (L.map zAB)),(10,Z (L.length:Nat)),(11,Z (i:Nat))]
abbrev heB (x:Node):Nat×Blk:=(6,.box 77 (zAX x))
theorem he_at {L:List Int} {i:Nat} {y:Int} (h:L[i]? = some y):(bnd (idx L (i:Int)) fun y=>some y)=some y:=by
 unfold idx
 rw [iP (by omega),Int.toNat_natCast,h];rfl
theorem zWn (fu:Nat) (f:Forest) (n:Int) {ys:List (Int×Node)} (e:zMf fu f n=some ys):zZs zRc Tryz.prog 251 (heS f n) [.loc 3000001 0,.loc 3000002 0] (fun y:Int×Node=>[Z y.1,.agg (zAX y.2)]) ys:=by
 obtain ⟨L,H,G⟩:∃L,zDu fu f n=some L/\zTc f.Nodes L=some ys:=by
  unfold zMf at e
  cases h:zDu fu f n with
  | none=>rw [h] at e;simp [bnd] at e
  | some L=>rw [h] at e;exact ⟨L,rfl,e⟩
 refine zZC Tryz.func251 U U U fun l J d a w b=>?_
 have C:∀y:Int×Node,∀p∈([Z y.1,.agg (zAX y.2)]:List PV),names p=[]:=fun y p h=>by
  simp only [List.mem_cons,List.not_mem_nil,or_false] at h
  rcases h with rfl | rfl<;>rfl
 refine wpIn_seq (zTA (ρ := List Int) (m:=bnd (zDu fu f n) fun L=>some L) (r:=L) (E1:=fun L=>heE l L 0) (S1:=fun _=>heS f n) d (fun w0 X X0 σ0 g=>?_) (by rw [H];rfl) b fun a w b=>?_)
 ·refine zFQ ?_
  refine zHK (T:=tab) 2 U U ?_
  refine zUA [2090] (enc:=fun (_:(List Int))=>.own 2090) (Sr:=fun (z:(List Int))=>[(2090,.arr 3 1 (z.map zAB))]) (first:=[]) (cap:=[]) (qs:=[.agg (zAD f),Z n]) (Sc:=[]) (N0:=[]) (NR:=[2090]) (fun z v=>zPr [(1035,2090)] [1035] (zJx _ v) U U U U U U) trivial (fun _=>U) U U U U U U U (fun _=>U) (fun _=>U) U U U ⟨⟨_,U,.rfl⟩,⟨_,U,.rfl⟩,trivial⟩ zWR U U fun z v=>?_
  refine zGN 2090 U U U ?_
  refine zPy (T:=tab) zAB z U U U U U U U U ?_
  refine zHK (T:=tab) 1 U U ?_
  refine zF6 ?_
  exact zQK ⟨U,U,U,U,U,U,trivial⟩ ⟨U,U,trivial⟩ U
 refine wpIn_block (y_loop (n:=L.length) (fun k a w=>∃i zs,i+k=L.length/\zTc f.Nodes (L.drop i)=some zs/\zQ1 Tryz.f251 J (some zs) (heE l L i) (heS f n) a w) ?_ ⟨0,ys,by omega,G,b⟩)
 rintro k a w ⟨i,zs,hi,hz,b⟩
 have u:=b.len (t:=9) rfl
 rw [List.length_map] at u
 refine wpIn_seq (zTA (ρ := Unit) (m:=some ()) (r:=()) (E1:=fun _=>(12,Y (decide ((i:Int)<(L.length:Nat))))::heE l L i) (S1:=fun _=>heS f n) d (fun w0 X X0 σ0 g=>?_) U b fun a w b=>?_)
 ·refine zFQ ?_
  refine zHK (T:=tab) 1 U U ?_
  refine zF6 ?_
  exact zQK ⟨U,U,U,U,U,U,U,trivial⟩ ⟨U,U,trivial⟩ U
 cases k with
 | zero =>
  have B:decide ((i:Int)<(L.length:Nat))=false:=by simp;omega
  rw [B] at b
  have j:L.drop i=[]:=by rw [List.drop_eq_nil_iff];omega
  rw [j] at hz
  cases hz
  refine wpIn_seq (wpIn_cond_false (b.eval U) (wpIn_exit ?_))
  exact .inl ⟨_,_,b⟩
 | succ k =>
  have B:decide ((i:Int)<(L.length:Nat))=true:=by simp;omega
  rw [B] at b
  refine wpIn_seq (wpIn_cond_true (b.eval U) (wpIn_skip ?_))
  have o:i<L.length:=by omega
  obtain ⟨k0,q⟩:∃k0,L[i]? = some k0:=⟨_,lC o⟩
  have j:L.drop i=k0::L.drop (i+1):=by
   rw [List.drop_eq_getElem_cons o]
   rw [lC o] at q
   rw [Option.some.inj q]
  rw [j] at hz
  obtain ⟨x,r,hx,hr,c⟩:∃x r,idx f.Nodes k0=some x/\zTc f.Nodes (L.drop (i+1))=some r/\zs=(if x.Kind==1 then (k0,x)::r else r):=by
   unfold zTc at hz
   cases hx:idx f.Nodes k0 with
   | none=>rw [hx] at hz;simp [bnd] at hz
   | some x =>
    cases hr:zTc f.Nodes (L.drop (i+1)) with
    | none=>rw [hx,hr] at hz;simp [bnd] at hz
    | some r=>rw [hx,hr] at hz;simp only [bnd,Option.some.injEq] at hz;exact ⟨x,r,rfl,rfl,hz.symm⟩
  refine wpIn_seq (wpIn_block (wpIn_seq (zTA (ρ := Int) (m:=bnd (idx L (i:Int)) fun y=>some y) (r:=k0) (E1:=fun k0=>(5,Z k0)::heE l L i) (S1:=fun _=>heS f n) d (fun w0 X X0 σ0 g=>?_) (he_at q) b fun a w b=>?_)))
  ·refine zFQ ?_
   refine zBE (T:=tab) zAB L U U U U U U U fun I D=>?_
   refine zHK (T:=tab) 2 U U ?_
   refine zF6 ?_
   exact zQK ⟨U,U,U,U,U,U,U,trivial⟩ ⟨U,U,trivial⟩ U
  refine wpIn_seq (zTA (ρ := Node) (m:=bnd (idx f.Nodes k0) fun x=>some x) (r:=x) (E1:=fun x=>(6,.loc 6 0)::(5,Z k0)::heE l L i) (S1:=fun x=>heB x::heS f n) d (fun w0 X X0 σ0 g=>?_) (by rw [hx];rfl) b fun a w b=>?_)
  ·refine zFQ ?_
   refine zHK (T:=tab) 3 U U ?_
   refine zBE (T:=tab) zAX f.Nodes U U U U U U U fun I D=>?_
   refine zHK (T:=tab) 1 U U ?_
   refine zF4 (T:=tab) 6 U U U U U U U U U ?_
   refine zT8 (T:=tab) U U U U U U U U U U U U ?_
   refine zF6 ?_
   exact zQK ⟨U,U,U,U,U,U,U,U,trivial⟩ ⟨U,U,U,trivial⟩ U
  refine wpIn_seq (wpIn_region_lit (zcb (ρ := Unit) (m:=some ()) (r:=()) (E1:=fun _=>(23,Y (x.Kind==1))::(6,.loc 6 0)::(5,Z k0)::heE l L i) (S1:=fun _=>heB x::heS f n) (l1:=[_,_,_,_]) d (fun w0 X X0 σ0 g=>?_) U U b fun a w b=>?_))
  ·refine zHK (T:=tab) 4 U U ?_
   refine zF6 ?_
   exact zQK ⟨U,U,U,U,U,U,U,U,U,trivial⟩ ⟨U,U,U,trivial⟩ U
  cases F:(x.Kind==1) with
  | false =>
   rw [F] at b c
   simp only [Bool.false_eq_true,if_false] at c
   subst c
   refine zcb (ρ := Unit) (m:=some ()) (r:=()) (E1:=fun _=>(29,Y false)::heE l L i) (S1:=fun _=>heS f n) (l1:=[_,_,_,_,_,_]) (l2:=[]) d (fun w0 X X0 σ0 g=>?_) U U b fun a w b=>?_
   ·refine zHK (T:=tab) 6 U U ?_
    refine zF6 ?_
    exact zQK ⟨U,U,U,U,U,U,U,trivial⟩ ⟨U,U,trivial⟩ U
   refine wpListIn_nil (wpIn_cond_false (b.eval U) (wpIn_skip ?_))
   show (Code.region 5 _ false).wpIn (FR none) 0 Tryz.prog _ a w
   refine zTA (ρ := Int) (m:=bnd (rng .i64 ((i:Int)+1)) fun m=>some m) (r:=((i+1:Nat):Int)) (E1:=fun m=>[(0,.fn (.yield l) [] []),(1,.loc 3000001 0),(2,.loc 3000002 0),(9,.sl 1 false (L.map zAB)),(10,Z (L.length:Nat)),(11,Z m)]) (S1:=fun _=>heS f n) d (fun w0 X X0 σ0 g=>?_) ?_ b fun a w b=>?_
   ·refine zFQ ?_
    refine zJV (T:=tab) U U U U fun E s=>?_
    refine zHK (T:=tab) 1 U U ?_
    refine zF6 ?_
    exact zQK ⟨U,U,U,U,U,U,trivial⟩ ⟨U,U,trivial⟩ U
   ·unfold rng
    rw [iP (by simp only [Pw.lo,Pw.hi];omega)];rfl
   ·exact ⟨k,U,i+1,zs,by omega,hr,b⟩
  | true =>
   rw [F] at b c
   simp only [if_true] at c
   subst c
   refine zcb (ρ := Unit) (m:=some ()) (r:=()) (E1:=fun _=>(24,.fn (.yield l) [] [])::(25,Z k0)::(26,.agg (zAX x))::(23,Y true)::heE l L i) (S1:=fun _=>heS f n) (l1:=[_,_,_]) d (fun w0 X X0 σ0 g=>?_) U U b fun a w b=>?_
   ·refine zHK (T:=tab) 3 U U ?_
    refine zF6 ?_
    exact zQK ⟨U,U,U,U,U,U,U,U,U,U,trivial⟩ ⟨U,U,trivial⟩ U
   refine zg7 (y:=(k0,x)) (ys:=r) (E0:=[(23,Y true)]) d b U U ⟨⟨_,U,.rfl⟩,⟨_,U,.rfl⟩,trivial⟩ (C _) U U U ⟨U,trivial⟩ U (fun a w b=>?_) (fun a w b=>?_)
   ·refine zcb (ρ := Unit) (m:=some ()) (r:=()) (E1:=fun _=>(29,Y false)::heE l L i) (S1:=fun _=>heS f n) (l1:=[_,_]) (l2:=[]) d (fun w0 X X0 σ0 g=>?_) U U b fun a w b=>?_
    ·refine zHK (T:=tab) 2 U U ?_
     refine zF6 ?_
     exact zQK ⟨U,U,U,U,U,U,U,trivial⟩ ⟨U,U,trivial⟩ U
    refine wpListIn_nil (wpIn_cond_false (b.eval U) (wpIn_skip ?_))
    show (Code.region 5 _ false).wpIn (FR none) 0 Tryz.prog _ a w
    refine zTA (ρ := Int) (m:=bnd (rng .i64 ((i:Int)+1)) fun m=>some m) (r:=((i+1:Nat):Int)) (E1:=fun m=>[(0,.fn (.yield l) [] []),(1,.loc 3000001 0),(2,.loc 3000002 0),(9,.sl 1 false (L.map zAB)),(10,Z (L.length:Nat)),(11,Z m)]) (S1:=fun _=>heS f n) d (fun w0 X X0 σ0 g=>?_) ?_ b fun a w b=>?_
    ·refine zFQ ?_
     refine zJV (T:=tab) U U U U fun E s=>?_
     refine zHK (T:=tab) 1 U U ?_
     refine zF6 ?_
     exact zQK ⟨U,U,U,U,U,U,trivial⟩ ⟨U,U,trivial⟩ U
    ·unfold rng
     rw [iP (by simp only [Pw.lo,Pw.hi];omega)];rfl
    ·exact ⟨k,U,i+1,r,by omega,hr,b⟩
   ·refine zcb (ρ := Unit) (m:=some ()) (r:=()) (E1:=fun _=>[(29,Y true)]) (S1:=fun _=>[]) (l1:=[_,_]) (l2:=[]) d (fun w0 X X0 σ0 g=>?_) U U b fun a w b=>?_
    ·refine zHK (T:=tab) 2 U U ?_
     refine zF6 ?_
     exact zQK ⟨U,trivial⟩ trivial U
    exact wpListIn_nil (wpIn_cond_true (b.eval U) (wpIn_ret (show YEnd _ J .ret _ _ from .inr ⟨_,_,b⟩)))
def zH4 (d:Desk) (a b:Bs) (c:zCv×Bool) (f:Unit):Option Int:=cnd (zLT c.1.names b) (bnd (idx d.Defs (zK0 c.1.names b 0)) fun e=>cnd (e.Local==a) (some (zK0 c.1.names b 0)) (some (-1))) (some (-1))
def zK4 (fu:Nat) (d:Desk) (a c:Bs):Option Int:=bnd (zHY fu d) fun b=>cnd (!b.2) (some (-1)) (cnd (zLT b.1.names a) (bnd (idx d.Defs (zK0 b.1.names a 0)) fun e=>cnd (e.Local==a) (some (zK0 b.1.names a 0)) ((zH4 d a c b) ())) ((zH4 d a c b) ()))
theorem zUX {fu:Nat} {e:Desk} {a b:Bs}:DD (zK4 fu e a b) 27 [.agg (zIP e),O a,O b] fun r=>Z r:=by
 refine fcI Tryz.func27 U (A [9,30,3,57,80,43] (fun d _=>?_) zLy [(2130,2150),(2131,2151)] [2150,2151])
 refine A [3,31,7,92,6,62,5,1,59,68,93] ?_
 refine zHq (T:=tab) zIy (fun v=>Z v) d.1.names a 0 Tryz.underlying142 Tryz.underlying9 U U U U U U U U U (A [105,0,9] ?_)
 refine zLY (zH4 e a b d) (fun (_:Unit)=>[(1,O a),(2,O b),(3,.loc 3 0),(7,.loc 7 0)]) (fun (_:Unit)=>[(7,.box 145 [.own 2150,.own 2151]),(2150,.mp (d.1.names.map fun p:Bs×Int=>(zNG p.1,Z p.2))),(2151,.mp (d.1.classes.map fun p:Int×Int=>(zNz .i64 p.1,Z p.2))),(3,.box 29 (zIP e))]) ?_ fun c=>?_
 ·rintro _
  refine A [7,6,93] ?_
  refine zHq (T:=tab) zIy (fun v=>Z v) d.1.names b 0 Tryz.underlying142 Tryz.underlying9 U U U U U U U U U (A [105,0,61,27,47,5,109,11,24,67,59,3,36] fun g _=>?_)
  exact A [105,0,5,2,62,8,67,59]
 ·refine pq 2 U (zAT (j:=28) U ?_ ?_)
  ·refine A [3,36] fun f _=>?_
   exact A [105,0,5,2,62,8,4,45] (c ())
  ·exact A [109,11,24,4,45] (c ())
def zJB (fu:Nat) (a:Node) (b:Desk):Option Int:=cnd (a.Kind != 1) (some (-1)) (cnd (a.Doc != 0) (some (-1)) (bnd (zK4 fu b a.Name a.Is) fun c=>some c))
theorem zPa {fu:Nat} {b:Node} {a:Desk}:DD (zJB fu b a) 149 [.agg (zAX b),.agg (zIP a)] fun r=>Z r:=by
 refine fcI Tryz.func149 U (A [73,30,3,57,6,76,26,8,2,104,83,104,0,5,1,59,67,9,105,41] (fun c _=>?_) zUX)
 exact A [57,8]
def zEy (fu:Nat) (a:Desk):List (Int×Node)->(List Due)->Option (List Due)
 | [],l4=>some l4
 | y5::ys6,l4=>bnd (zJB fu y5.2 a) fun b=>cnd (b != (-1)) (bnd (zDT 104 (l4.length+([(⟨y5.1,(⟨9,b,[],false,false,[],[],0,0,false⟩:Todo)⟩:Due)]:List Due).length)) fun _=>(zEy fu a ys6) (l4++[(⟨y5.1,(⟨9,b,[],false,false,[],[],0,0,false⟩:Todo)⟩:Due)])) ((zEy fu a ys6) l4)
def zJr (fu:Nat) (c:Forest) (d:Int) (b:Desk):Option (List Due):=bnd (some ()) fun _=>bnd (zMf fu c d) fun a=>(zEy fu b) a []
theorem zTH {fu:Nat} {c:Forest} {d:Int} {e:Desk}:FF (zJr fu c d e) 129 [.agg (zAD c),Z d,.agg (zIP e)] [] [] (fun _=>.own 1027) fun r=>[(1027,.arr 171 11 (r.map zI3))]:=by
 refine fcI Tryz.func129 U (fun {w0 X X0 σ0 _}=>A [9,30,3,30,5,57,9,31,7,0,6,61] ?_)
 refine tu [3000001,3000002] (enc:=fun _:Unit=>.fn (.func 251) [] [.loc 3000001 0,.loc 3000002 0]) (Sr:=fun _:Unit=>[(3000001,.box 24 (zAD c)),(3000002,.box 3 [Z d])]) (qs:=[.agg (zAD c),Z d]) (Sc:=[]) (N1:=[]) (NR:=[3000001,3000002]) (fun _ _=>zWm c d) zfQ U U U U U U U U fun _ _=>A [0,13] ?_
 refine zJW 1027 171 11 7 0 U U U U U U (pw_bnd fun f g=>zgS (ys0:=f) (p1:=fun y:(Int×Node)=>Z y.1) (p2:=fun y:(Int×Node)=>.agg (zAX y.2)) (x0:=[]) (Sc:=[(3000001,.box 24 (zAD c)),(3000002,.box 3 [Z d])]) (cp:=[.loc 3000001 0,.loc 3000002 0]) (M:=(zEy fu e)) (Sf:=fun (b:(List Due))=>[(1027,.arr 171 11 (b.map zI3)),(7,.box 168 [.own 1027]),(5,.box 29 (zIP e))]) (S1:=fun a (b:(List Due))=>[(9,.box 77 (zAX a.2)),(1027,.arr 171 11 (b.map zI3)),(7,.box 168 [.own 1027]),(5,.box 29 (zIP e))]) (SR:=fun r:(List Due)=>[(0,.arr 0 0 [[.junk]])]) (N1:=[5,7]) (E0:=[(5,.loc 5 0),(6,.v (.slice none 0 0)),(7,.loc 7 0)]) (E1:=fun a=>[(5,.loc 5 0),(6,.v (.slice none 0 0)),(7,.loc 7 0),(14,Z a.1),(15,.agg (zAX a.2)),(8,Z a.1),(9,.loc 9 0)]) (zWn fu c d g) zfV (fun _=>U) (fun _=>U) U ⟨U,U,trivial⟩ U ⟨U,U,U,trivial⟩ U U ⟨U,U,U,trivial⟩ U U U U ?_ ?_ ?_ ?_)
 ·rintro a b w0 X X0 σ0 _ _
  refine A [58,14,31,9,12,11] ?_
  exact zQK ⟨U,U,U,U,U,U,U,trivial⟩ ⟨U,U,U,U,trivial⟩ U
 ·rintro a i b w0 X X0 σ0 _ _
  refine A [13,99] (fun h _=>?_) zPa
  refine A [57,62] ?_
  refine zAE U ?_ ?_
  ·refine A [14,3,20,20] ?_
   refine pl ([(⟨a.1,(⟨9,h,[],false,false,[],[],0,0,false⟩:Todo)⟩:Due)].map zI3) 26 U U U U U U (pa zI3 b ([(⟨a.1,(⟨9,h,[],false,false,[],[],0,0,false⟩:Todo)⟩:Due)]:List Due) U U U U U U U U (zQR _) U U U (A [12,11,15] ?_))
   exact zYI (b++[(⟨a.1,(⟨9,h,[],false,false,[],[],0,0,false⟩:Todo)⟩:Due)]) ⟨U,U,U,trivial⟩ U
  ·refine A [4,15] ?_
   exact zYI b ⟨U,U,U,trivial⟩ U
 ·rintro b
  exact A [69,62,8]
 ·exact fun r=>zdv
def zCx (_fu:Nat) (b:Due) (a:zAR):Option Bool:=bnd (idx a.World.States b.Node) fun c=>some (c.Phase != 1)
theorem zJo {fu:Nat} {b:Due} {a:zAR}:FF (zCx fu b a) 131 [.agg (zI3 b),.loc 900000 0] [(900000,.box 97 [.loc 900001 0]),(900001,.box 99 (zB6 a))] [900000,900001] (fun r=>Y r) fun _=>[(900000,.box 97 [.loc 900001 0]),(900001,.box 99 (zB6 a))]:=by
 refine fcI Tryz.func131 U (A [73,57,6,52,2,3,1,2,2,900000,900001,53,12,0,1,3,7,15,0,32,127,255,511,1023,2047,207] ?_)
 exact vT [16,20] [22] [] U U (zBE (T:=tab) zBN a.World.States U U U U U U U fun c _=>pzq U) (fun _=>U) (fun _=>U) fun c _=>A [204,79,8]
def zAa (a:Due->Option Bool) (l1:List Due):Nat->Int->Option Int
 | 0,_=>none
 | k1+1,t3=>cnd (decide (t3<(l1.length:Int))) (bnd (idx l1 t3) fun d=>bnd (a d) fun c=>cnd c (some t3) (bnd (rng .i64 (t3+1)) fun b=>(zAa a l1 k1) b)) (some (-1))
def zAv (fu:Nat) (a:Due->Option Bool) (l1:List Due):Option Int:=(zAa a l1) fu 0
theorem zJd {fu:Nat} {l1:List Due} {a:zAR}:FF (zAv fu (fun c=>zCx fu c a) l1) 195 [.own 900000,.fn (.func 131) [] [.loc 900001 0]] [(900000,.arr 171 11 (l1.map zI3)),(900001,.box 97 [.loc 900002 0]),(900002,.box 99 (zB6 a))] [900000,900001,900002] (fun r=>Z r) fun _=>[(900000,.arr 171 11 (l1.map zI3)),(900001,.box 97 [.loc 900002 0]),(900002,.box 99 (zB6 a))]:=by
 refine fcI Tryz.func195 U (A [75,80,39,57,13] ?_)
 refine lw (zAa (fun c=>zCx fu c a) l1) [0,1,7] [900000,900001,900002] (fun d=>[(8,Z d)]) (fun _=>[]) fu 0 U U ?_
 rintro g d
 refine A [75,10,2,86,59,72,62,93,38] fun f b=>?_
 refine zAr (T:=tab) zI3 l1 f (zAu b) U U U U U U U U (A [44] (fun h _=>?_) zJo [(900000,900001),(900001,900002)])
 refine A [0,5,2,62,8,4,94] fun e _=>?_
 exact A [89] (tx e)
def zAj (e:Due->Option Bool):Nat->Int×Int×(List Due)->Option (List Due)
 | 0,_=>none
 | k1+1,(i5,j6,l7)=>cnd (decide (j6<(l7.length:Int))) (bnd (idx l7 j6) fun f=>bnd (e f) fun g=>cnd (!g) (bnd (idx l7 i5) fun h=>bnd (rng .i64 (i5+1)) fun a=>bnd (rng .i64 (j6+1)) fun b=>(zAj e k1) (a,b,(l7.set (i5).toNat f))) (bnd (rng .i64 (j6+1)) fun c=>(zAj e k1) (i5,c,l7))) (bnd (zPX l7.length i5 (l7.length:Int)) fun _=>bnd (zfa l7.length (i5).toNat ((l7.length:Int)).toNat) fun _=>bnd (piece (zRI l7 (i5).toNat ((⟨0,(⟨0,0,[],false,false,[],[],0,0,false⟩:Todo)⟩:Due):Due)) 0 i5) fun d=>some d)
def zCs (fu:Nat) (b:Due->Option Bool) (l1:List Due):Option (List Due):=bnd (zAv fu b l1) fun a=>cnd (a==(-1)) (some l1) (bnd (rng .i64 (a+1)) fun c=>(zAj b) fu (a,c,l1))
theorem zJI {fu:Nat} {l1:List Due} {d:zAR}:FF (zCs fu (fun k=>zCx fu k d) l1) 130 [.own 900000,.fn (.func 131) [] [.loc 900001 0]] [(900000,.arr 171 11 (l1.map zI3)),(900001,.box 97 [.loc 900002 0]),(900002,.box 99 (zB6 d))] [900001,900002] (fun _=>.own 900000) fun r=>[(900000,.arr 171 11 (r.map zI3)),(900001,.box 97 [.loc 900002 0]),(900002,.box 99 (zB6 d))]:=by
 refine fcI Tryz.func130 U (A [58,61,44] (fun n _=>?_) zJd [(900000,900000),(900001,900001),(900002,900002)])
 refine A [57,6,62,5,2,62,8,68,80,16] fun l _=>?_
 refine A [57,13] ?_
 refine lw (zAj (fun k=>zCx fu k d)) [0,1] [900001,900002] (fun (b,j6,a)=>[(5,Z b),(6,Z j6)]) (fun (b,j6,a)=>[(900000,.arr 171 11 (a.map zI3))]) fu (n,l,l1) U U ?_
 rintro o ⟨b,j6,a⟩
 refine A [6,61,39,57] ?_
 refine zAE U ?_ ?_
 ·refine A [72,61,38] fun j e=>?_
  refine zAr (T:=tab) zI3 a j (zAu e) U U U U U U U U (A [31,7,12,0,61,44] (fun p _=>?_) zJo [(900000,900001),(900001,900002)])
  refine A [57] ?_
  refine zAE U ?_ ?_
  ·refine A [93,38] fun i c=>?_
   refine zCr (T:=tab) zI3 a i j (zAu c) U U U U U U U U U U U U U (A [0,14,1,16] fun f _=>?_)
   refine A [1,11,70,1,16] fun g _=>?_
   exact A [89] (tx (f,g,(a.set (b).toNat j)))
  ·refine A [4,70,1,16] fun h _=>?_
   exact A [89] (tx (b,h,a))
 ·refine A [86,61] ?_
  refine zNw (T:=tab) (L:=a.length) (.inl U) U U U U (by simp) U U U U U (zNs (T:=tab) zI3 a ((⟨0,(⟨0,0,[],false,false,[],[],0,0,false⟩:Todo)⟩:Due):Due) U U U U U U U U U U U U U U (A [0,61] ?_))
  exact zI4 (T:=tab) zI3 (zRI a (b).toNat ((⟨0,(⟨0,0,[],false,false,[],[],0,0,false⟩:Todo)⟩:Due):Due)) U U U U U U U U U U U fun m _=>A [57,8]
def zEG (fu:Nat) (b:Due) (a:zAG):Option Bool:=bnd (zEU fu a b.Node) fun c=>cnd (!c) (some true) (bnd (zEV fu a b.Todo) fun d=>some (!d))
theorem zO2 {fu:Nat} {b:Due} {a:zAG}:FF (zEG fu b a) 219 [.agg (zI3 b),.loc 900000 0] [(900000,.box 94 (zBO a.World))] [900000] (fun r=>Y r) fun _=>[(900000,.box 94 (zBO a.World))]:=by
 refine fcI Tryz.func219 U (A [73,57,93,41] (fun c _=>?_) zGg)
 refine A [2,26,9,2,107,74,3,41] (fun d _=>?_) zJP
 exact A [3,74]
theorem zIe {fu:Nat} {b:List Due} {a:zAG}:FF (zAv fu (fun c=>zEG fu c a) b) 195 [.sl 11 false (b.map zI3),.fn (.func 219) [] [.loc 900000 0]] [(900000,.box 94 (zBO a.World))] [900000] (fun r=>Z r) fun _=>[(900000,.box 94 (zBO a.World))]:=by
 refine fcI Tryz.func195 U (A [75,80,77,13] ?_)
 refine lw (zAa (fun c=>zEG fu c a) b) [0,1,7] [900000] (fun d=>[(8,Z d)]) (fun _=>[]) fu 0 U U ?_
 rintro f d
 refine A [75,10,2,86,59,72,62,93,36] fun h _=>?_
 refine A [1,44] (fun g _=>?_) zO2 [(900000,900000)]
 refine A [0,5,2,62,8,4,94] fun e _=>?_
 exact A [89] (tx e)
def zCS (fu:Nat) (c:Due->Option Bool) (b:List Due):Option Bool:=bnd (zAv fu c b) fun a=>some (decide (a>=0))
theorem zIZ {fu:Nat} {b:List Due} {a:zAG}:FF (zCS fu (fun c=>zEG fu c a) b) 220 [.sl 11 false (b.map zI3),.fn (.func 219) [] [.loc 900000 0]] [(900000,.box 94 (zBO a.World))] [900000] (fun r=>Y r) fun _=>[(900000,.box 94 (zBO a.World))]:=by
 refine fcI Tryz.func220 U (A [58,61,44] (fun d _=>?_) zIe [(900000,900000)])
 exact A [2,74]
def zD4 (_fu:Nat) (a:List Todo):Option (List Todo):=bnd (zDT 96 (([]:List Todo).length+a.length)) fun _=>some (([]:List Todo)++a)
theorem zLD {fu:Nat} {a:List Todo}:FF (zD4 fu a) 262 [.sl 10 false (a.map zKG)] [] [] (fun _=>.own 5) fun r=>[(5,.arr 80 10 (r.map zKG))]:=by
 refine fcI Tryz.func262 U (A [75,80] ?_)
 refine zH3 (T:=tab) U U U U U U fun b d=>?_
 cases b
 ·refine A [0,23,67,9] ?_
  exact pl (([]:List Todo).map zKG) 5 U U U U U U (pq 1 U (pa zKG ([]:List Todo) a U U U U U U U U (zUs _) U U U (A [57,8])))
 ·have c:a=[]:=eZ.1 (d rfl)
  exact zKO (m':=some ([]:List Todo)) (by subst c;rfl) (A [0,25,58,56,5,80,10,2,8])
def zMZ (fu:Nat) (l1:Line) (c:Int) (f:Todo):Option (Line×Bool×Int):=bnd (zH6 fu l1) fun h=>cnd (!h) (some (l1,false,1)) (bnd (zL4 fu l1 c) fun i=>cnd (!i) (some (l1,false,1)) (bnd (zKS fu l1) fun a=>bnd (idx a.Todos c) fun k=>bnd (zD4 fu k) fun e=>bnd (zDT 96 (e.length+([f]:List Todo).length)) fun _=>bnd (idx a.Todos c) fun l=>bnd (rng .i64 ((a.Stack.length:Int) - 1)) fun b=>cnd (decide (b>=0)) (bnd (idx a.Stack b) fun g=>bnd (zBY fu g) fun d=>bnd (zDT 8 (d.length+([c]:List Int).length)) fun _=>bnd (idx a.Stack b) fun j=>some (({a with Todos:=(a.Todos.set (c).toNat (e++[f])),Stack:=(a.Stack.set (b).toNat (d++[c]))}:Line),false,0)) (bnd (zDT 8 (a.Back.length+([c]:List Int).length)) fun _=>some ((⟨(a.Todos.set (c).toNat (e++[f])),a.Stack,(a.Back++[c]),true⟩:Line),(!a.Busy),0))))
theorem zWC {fu:Nat} {l1:Line} {d:Int} {h:Todo}:DD (zMZ fu l1 d h) 213 [.agg (zO7 l1),Z d,.agg (zKG h)] fun r=>.tup [.agg (zO7 r.1),Y r.2.1,Z r.2.2]:=by
 refine fcI Tryz.func213 U (A [9,30,3,30,5,31,6,2,0,6,80,41] (fun o _=>?_) zN3)
 refine A [2,26,14,6,105,65,80,12,2,74,2,41] (fun p _=>?_) zSM
 refine A [2,0,5,4,80,12,2,74,67,80,43] (fun a _=>?_) zQp [(2050,2220),(2080,2221),(2110,2222)] [2220,2221,2222]
 refine A [12,0,6,52,4,6,1,3,5,6,2220,2221,2222,6,5,3,53,14,0,1,0,0,8,0,56,120,248,0,512,2040,4095,8191,206] ?_
 refine vT [54,56,4441] [58] [] U U (zKt (T:=tab) zDZ a.Todos U U U U U U U U fun l e=>pzq U) (fun _=>U) (fun _=>U) fun l e=>vS [58,4441] [60] [] U U (zAr (T:=tab) zDZ a.Todos l (zAu e) U U U U U U U U (pyq U)) U U (A [55,1,2,60,62,4621] (fun k _=>?_) zLD [(5,2310)] [2310])
 refine vq 1 U (by kernel_rfl) (vS [64] [66,67] [33] U U (pl ([h].map zKG) 33 U U U U U U (pyq U)) U U (vU [62,66,67,4621] [68,62,4621] [2310] U U (pa zKG k ([h]:List Todo) U U U U U U U U (zUs _) U U U (pyq U)) U U fun _ _=>vT [48,50,4441] [70] [] U U (zKt (T:=tab) zDZ a.Todos U U U U U U U U fun m f=>pzq U) (fun _=>U) (fun _=>U) fun m f=>vS [68,70,4441,4621] [68,4621,4441] [] U U (zGN 2310 U U U (zCr (T:=tab) zDZ a.Todos m (k++[h]) (zAu f) U U U U U U U U U U U U U (pyq U))) U U (A [79,61,39,16] fun n _=>?_)))
 refine A [57,6,62] ?_
 refine zAE U ?_ ?_
 ·refine A [6,52,4,5,1,3,6,9,2220,2221,2222,6,3,53,14,0,1,0,0,8,0,56,120,248,0,512,2040,4095,8191,206] ?_
  refine vT [92,94,4443] [96] [] U U (zKt (T:=tab) zAn a.Stack U U U U U U U U fun i b=>pzq U) (fun _=>U) (fun _=>U) fun i b=>vS [96,4443] [98] [] U U (zAr (T:=tab) zAn a.Stack i (zAu b) U U U U U U U U (pyq U)) U U (A [55,1,2,98,100,5001] (fun g _=>?_) zFB [(5,2500)] [2500])
  exact vq 1 U (by kernel_rfl) (vS [102] [104,105] [52] U U (pl ([d].map zAB) 52 U U U U U U (pyq U)) U U (vU [100,104,105,5001] [106,100,5001] [2500] U U (pa zAB g ([d]:List Int) U U U U U U U U (zDF _) U U U (pyq U)) U U fun _ _=>vT [86,88,4443] [108] [] U U (zKt (T:=tab) zAn a.Stack U U U U U U U U fun j c=>pzq U) (fun _=>U) (fun _=>U) fun j c=>vS [106,108,4443,5001] [106,5001,4443] [] U U (zGN 2500 U U U (zCr (T:=tab) zAn a.Stack j (g++[d]) (zAu c) U U U U U U U U U U U U U (pyq U))) U U (A [79,80,12,2,0,34,2220,34,2221,34,2222,8])))
 ·refine A [67,93] ?_
  exact pl ([d].map zAB) 59 U U U U U U (pa zAB a.Back ([d]:List Int) U U U U U U U U (zDF _) U U U (A [1,12,0,76,0,80,12,0,61,12,2,0,34,2220,34,2221,34,2222,8]))
def zBf (fu:Nat) (b:List Due) (e:zAG):Nat->Int×(List Task)×(List (List Todo))×(List (List Int))×(List Int)×Bool->Option zAG
 | 0,_=>none
 | k1+1,(t4,d,h,c7,c8,i)=>cnd (decide (t4<(b.length:Int))) (bnd (idx b t4) fun c=>bnd (zMZ fu (⟨h,c7,c8,i⟩:Line) c.Node c.Todo) fun a=>cnd a.2.1 (bnd (zDT 24 (d.length+([(⟨1,0,0⟩:Task)]:List Task).length)) fun _=>bnd (rng .i64 (t4+1)) fun f=>(zBf fu b e k1) (f,(d++[(⟨1,0,0⟩:Task)]),a.1.Todos,a.1.Stack,a.1.Back,a.1.Busy)) (bnd (rng .i64 (t4+1)) fun g=>(zBf fu b e k1) (g,d,a.1.Todos,a.1.Stack,a.1.Back,a.1.Busy))) (some (⟨({e.World with Line:=(⟨h,c7,c8,i⟩:Line),Tasks:=d}:World)⟩:zAG))
def zBX (fu:Nat) (b:List Due) (a:zAG):Option zAG:=bnd (zCw fu a.World.Tasks) fun c=>(zBf fu b a) fu (0,c,a.World.Line.Todos,a.World.Line.Stack,a.World.Line.Back,a.World.Line.Busy)
theorem zFj {fu:Nat} {c:List Due} {b:zAG}:FF (zBX fu c b) 146 [.loc 900000 0,.sl 11 false (c.map zI3)] [(900000,.box 94 (zBO b.World))] [900000] (fun _=>.tup []) fun r=>[(900000,.box 94 (zBO r.World))]:=by
 refine fcI Tryz.func146 U (A [9,106,43] (fun l _=>?_) zG7 [(5,2150)] [2150])
 refine A [3,12,0,80,77,13] ?_
 refine lw (zBf fu c b) [0,19,20] [] (fun (k,d,e,f,g,h)=>[(21,Z k)]) (fun (k,d,e,f,g,h)=>[(2150,.arr 102 3 (d.map zIg)),(900000,.box 94 ([.sl 10 false (b.World.Forest.Nodes.map zAX),Z b.World.Forest.Most,.sl 4 false (b.World.States.map zBN)]++zIP b.World.Desk++[.sl 1 false (e.map zDZ),.sl 1 false (f.map zAn),.sl 1 false (g.map zAB),Y h,.own 2150,.sl 2 false (b.World.Builds.map zIO),.sl 5 false (b.World.Classes.map zBb)]))]) fu (0,l,b.World.Line.Todos,b.World.Line.Stack,b.World.Line.Back,b.World.Line.Busy) U U ?_
 rintro n ⟨k,d,e,f,g,h⟩
 refine A [75] ?_
 refine zAE U ?_ ?_
 ·refine A [72,9,36] fun m _=>?_
  refine A [1,31,5,12,0,6,52,5,3,0,19,20,21,5,5,2150,900000,53,18,0,1,3,7,15,0,32,0,128,511,1023,2047,2047,2047,0,20479,57343,131071,209,54,3,1,60,64,68,70] (fun a _=>?_) zWC
  refine vq 4 U (by kernel_rfl) (vS [] [12,13] [6] U U (zF4 (T:=tab) 6 U U U U U U U U U (pyq U)) U U (A [50,3,1,12,13,72,13,202,79,9,105,12,0,58] ?_))
  refine zAE U ?_ ?_
  ·refine A [14,106,20] ?_
   refine pl ([(⟨1,0,0⟩:Task)].map zIg) 52 U U U U U U (pa zIg d ([(⟨1,0,0⟩:Task)]:List Task) U U U U U U U U (zRH _) U U U (A [3,12,11,94] fun i _=>?_))
   exact A [89] (tx (i,(d++[(⟨1,0,0⟩:Task)]),a.1.Todos,a.1.Stack,a.1.Back,a.1.Busy))
  ·refine A [4,94] fun j _=>?_
   exact A [89] (tx (j,d,a.1.Todos,a.1.Stack,a.1.Back,a.1.Busy))
 ·exact zUD U (zba 2150 U U U (zKM (T:=tab) U U U ⟨U,U⟩ ⟨U,trivial⟩ U))
def zH0 (fu:Nat) (b:World) (a:List Due):Option (World×Int):=bnd (zC7 fu (⟨b⟩:zAG)) fun c=>cnd (!c) (some (b,1)) (bnd (zCS fu (fun f=>zEG fu f (⟨b⟩:zAG)) a) fun d=>cnd d (some (b,1)) (bnd (zBX fu a (⟨b⟩:zAG)) fun e=>some (e.World,0)))
theorem zQ9 {fu:Nat} {b:World} {a:List Due}:DD (zH0 fu b a) 150 [.agg (zBO b),.sl 11 false (a.map zI3)] fun r=>.tup [.agg (zBO r.1),Z r.2]:=by
 refine fcI Tryz.func150 U (A [73,31,4,57,80,20,31,6,12,0,62,6,80,41] (fun c _=>?_) zF9)
 refine A [2,26,14,5,104,65,80,92,8,2,44] (fun d _=>?_) zIZ [(900000,6)]
 refine A [57,5,3,80,92,8,67,80,43] (fun e _=>?_) zFj [(900000,6)]
 exact A [0,61,92,8]
def zBw (fu:Nat) (a:List Due) (b:zAR):Option (Int×zAR):=bnd (zH0 fu b.World a) fun c=>some (c.2,(⟨c.1,b.node⟩:zAR))
theorem zEu {fu:Nat} {a:List Due} {b:zAR}:FF (zBw fu a b) 87 [.loc 900000 0,.sl 11 false (a.map zI3)] [(900000,.box 99 (zB6 b))] [900000] (fun r=>Z r.1) fun r=>[(900000,.box 99 (zB6 r.2))]:=by
 refine fcI Tryz.func87 U (A [58,9,105,41] (fun c _=>?_) zQ9)
 exact A [3,31,5,92,76,12,0,62,8]
def zCc (_fu:Nat) (a:List State):Option (List State):=bnd (zDT 32 (([]:List State).length+a.length)) fun _=>some (([]:List State)++a)
theorem zGq {fu:Nat} {a:List State}:FF (zCc fu a) 145 [.sl 4 false (a.map zBN)] [] [] (fun _=>.own 5) fun r=>[(5,.arr 53 4 (r.map zBN))]:=by
 refine fcI Tryz.func145 U (A [75,80] ?_)
 refine zH3 (T:=tab) U U U U U U fun b d=>?_
 cases b
 ·refine A [0,23,67,9] ?_
  exact pl (([]:List State).map zBN) 5 U U U U U U (pq 1 U (pa zBN ([]:List State) a U U U U U U U U (zSQ _) U U U (A [57,8])))
 ·have c:a=[]:=eZ.1 (d rfl)
  exact zKO (m':=some ([]:List State)) (by subst c;rfl) (A [0,25,58,56,5,53,4,2,8])
def zHZ (fu:Nat) (d:Forest) (b:List State) (c:Desk) (a:List Class):Option (Unit×Bool×(List Node)×Int×(List Def)×(List Wait)×Int×Bool×(List Class)×(List State)×(List Due)):=bnd (zCc fu b) fun e=>cnd ((b.length:Int)==(d.Nodes.length:Int)) (bnd (zAo fu d) fun f=>cnd f (bnd (zGi fu c) fun g=>some ((),g,d.Nodes,d.Most,c.Defs,c.Waits,c.Next,c.Busy,a,e,([]:List Due))) (some ((),false,d.Nodes,d.Most,c.Defs,c.Waits,c.Next,c.Busy,a,e,([]:List Due)))) (some ((),false,d.Nodes,d.Most,c.Defs,c.Waits,c.Next,c.Busy,a,e,([]:List Due)))
theorem zLz {fu:Nat} {d:Forest} {b:List State} {c:Desk} {a:List Class}:FF (zHZ fu d b c a) 196 [.agg (zAD d),.sl 4 false (b.map zBN),.agg (zIP c),.sl 5 false (a.map zBb)] [] [] (fun r=>.tup [.loc 17 0,Y r.2.1]) fun r=>[(17,.box 284 [.sl 10 false (r.2.2.1.map zAX),Z r.2.2.2.1,.own 2130,.sl 3 false (r.2.2.2.2.1.map zQC),.sl 2 false (r.2.2.2.2.2.1.map zIw),Z r.2.2.2.2.2.2.1,Y r.2.2.2.2.2.2.2.1,.sl 5 false (r.2.2.2.2.2.2.2.2.1.map zBb),.own 31708]),(2130,.arr 53 4 (r.2.2.2.2.2.2.2.2.2.1.map zBN)),(31708,.arr 171 11 (r.2.2.2.2.2.2.2.2.2.2.map zI3))]:=by
 refine fcI Tryz.func196 U (A [9,30,4,30,6,2,0,6,52,4,2,1,3,4,6,6,4,53,8,0,0,2,0,0,31,63,127,202,55,1,2,24,26,4261] (fun e _=>?_) zGq [(5,2130)] [2130])
 refine A [202,51,5,1,22,26,28,30,4261,32] ?_
 refine vS [32,4261] [34,35] [17] U U (zRt  17 U U U U U U U U U U (pyq U)) U U (A [201,79,61,35,2,35,2] ?_)
 refine zAT (j:=25) U ?_ ?_
 ·refine A [1,41] (fun f _=>?_) zA3
  refine pq 2 U (zAT (j:=29) U ?_ ?_)
  ·refine A [1,41] (fun g _=>?_) zK5
   refine A [3,0] ?_
   exact zJW 31708 171 11 17 8 U U U U U U rN
  ·refine A [105,0] ?_
   exact zJW 31708 171 11 17 8 U U U U U U rN
 ·refine A [109,0] ?_
  exact zJW 31708 171 11 17 8 U U U U U U rN
def zGn (_fu:Nat) (a:Node):Option Bool:=cnd (a.Kind==1) (some (a.Name==([102,111,114,109]:Bs))) (some false)
theorem zLB {fu:Nat} {a:Node}:DD (zGn fu a) 252 [.agg (zAX a)] fun r=>Y r:=by
 exact fcI Tryz.func252 U (A [9,30,1,57,76,26,6,2,105,74,105,74])
def zIF (_fu:Nat) (a:Forest):Option zMD:=some (⟨a,([]:(List (Int×(List (Bs×Int)))))⟩:zMD)
theorem zOA {fu:Nat} {a:Forest}:FF (zIF fu a) 253 [.agg (zAD a)] [] [] (fun r=>.agg [.sl 10 false (r.Forest.Nodes.map zAX),Z r.Forest.Most,.own 4]) fun r=>[(4,.mp (r.ids.map fun p:Int×(List (Bs×Int))=>(zNz .i64 p.1,.mpd (p.2.map fun p:Bs×Int=>(zNG p.1,Z p.2)))))]:=by
 refine fcI Tryz.func253 U (A [9,30,1,31,2,0,80] ?_)
 exact zHr 4 U U U U U U U (A [20,12,74])
def zEC (fu:Nat) (b:Int) (a:zAL):Option Bool:=bnd (zCE fu a b) fun c=>some (!c)
theorem zOw {fu:Nat} {b:Int} {a:zAL}:FF (zEC fu b a) 280 [Z b,.loc 900000 0] [(900000,.box 215 (zAD a.Forest))] [900000] (fun r=>Y r) fun _=>[(900000,.box 215 (zAD a.Forest))]:=by
 refine fcI Tryz.func280 U (A [58,99] (fun c _=>?_) zEf)
 exact A [2,74]
theorem zJe {fu:Nat} {b:List Int} {a:zAL}:FF (zAS fu (fun c=>zEC fu c a) b) 227 [.sl 1 false (b.map zAB),.fn (.func 280) [] [.loc 900000 0]] [(900000,.box 215 (zAD a.Forest))] [900000] (fun r=>Z r) fun _=>[(900000,.box 215 (zAD a.Forest))]:=by
 refine fcI Tryz.func227 U (A [75,80,77,13] ?_)
 refine lw (zAH (fun c=>zEC fu c a) b) [0,1,7] [900000] (fun d=>[(8,Z d)]) (fun _=>[]) fu 0 U U ?_
 rintro f d
 refine A [75,10,2,86,59,72,62,93,36] fun h _=>?_
 refine A [1,44] (fun g _=>?_) zOw [(900000,900000)]
 refine A [0,5,2,62,8,4,94] fun e _=>?_
 exact A [89] (tx e)
theorem zIa {fu:Nat} {b:List Int} {a:zAL}:FF (zAc fu (fun c=>zEC fu c a) b) 156 [.sl 1 false (b.map zAB),.fn (.func 280) [] [.loc 900000 0]] [(900000,.box 215 (zAD a.Forest))] [900000] (fun r=>Y r) fun _=>[(900000,.box 215 (zAD a.Forest))]:=by
 refine fcI Tryz.func156 U (A [58,61,44] (fun d _=>?_) zJe [(900000,900000)])
 exact A [2,74]
def zFS (fu:Nat) (a:Forest) (l2:List Int):Option Bool:=bnd (zCz fu (⟨a⟩:zAL)) fun b=>cnd b (bnd (zAc fu (fun d=>zEC fu d (⟨a⟩:zAL)) l2) fun c=>some (!c)) (some false)
theorem zL0 {fu:Nat} {a:Forest} {l2:List Int}:DD (zFS fu a l2) 258 [.agg (zAD a),.sl 1 false (l2.map zAB)] fun r=>Y r:=by
 refine fcI Tryz.func258 U (A [73,57,80,20,31,5,12,0,80,41] (fun b _=>?_) zF7)
 refine A [1,27,10,2,106,74,2,44] (fun c _=>?_) zIa [(900000,5)]
 exact A [3,74]
def zGF (a:Forest):Nat->Int->Option Int
 | 0,_=>none
 | k1+1,n3=>bnd (idx a.Nodes n3) fun b=>cnd (b.Parent != (-1)) (bnd (idx a.Nodes n3) fun c=>(zGF a k1) c.Parent) (some n3)
def zK8 (fu:Nat) (a:Forest) (b:Int):Option Int:=(zGF a) fu b
theorem zR8 {fu:Nat} {a:Forest} {b:Int}:DD (zK8 fu a b) 277 [.agg (zAD a),Z b] fun r=>Z r:=by
 refine fcI Tryz.func277 U (A [73,57,6,13] ?_)
 refine lw (zGF a) [2] [2] (fun c=>[(1,Z c)]) (fun _=>[]) fu b U U ?_
 rintro e c
 refine A [6,93,36] fun f _=>?_
 refine A [3,0,10,3,86,62,8,67,13,14,3,36] fun d _=>?_
 exact A [3,11,15,46] (tx d.Parent)
def zGy (fu:Nat) (a:Forest) (b:Int):Option Int:=bnd (zFS fu a [b]) fun c=>cnd (!c) (some (-1)) (bnd (zK8 fu a b) fun d=>some d)
theorem zNM {fu:Nat} {b:Forest} {a:Int}:DD (zGy fu b a) 254 [.agg (zAD b),Z a] fun r=>Z r:=by
 refine fcI Tryz.func254 U (A [73,57,6,61] ?_)
 refine pl ([a].map zAB) 7 U U U U U U (A [33,7,41] (fun c _=>?_) zL0)
 refine A [57,5,1,59,67,99] (fun d _=>?_) zR8
 exact A [57,8]
def zEk (c:List Int) (d:Int) (e:Node) (a:((List Int)×(List Int))->Option (List Int)):Nat->(List Int)->Option (List Int)
 | 0,l10=>a ((c++[d]),l10)
 | k2+1,l10=>bnd (e.Kids[k2]?) fun b=>bnd (zDT 8 (l10.length+([b]:List Int).length)) fun _=>(zEk c d e a k2) (l10++[b])
def zCb (b:Forest):Nat->(List Int)×(List Int)->Option (List Int)
 | 0,_=>none
 | k1+1,(l4,l5)=>cnd (decide ((l5.length:Int)>0)) (bnd (rng .i64 ((l5.length:Int) - 1)) fun c=>bnd (idx l5 c) fun a=>bnd (piece l5 0 c) fun e=>bnd (zDT 8 (l4.length+([a]:List Int).length)) fun _=>bnd (idx b.Nodes a) fun d=>(zEk l4 a d (zCb b k1)) d.Kids.length e) (some l4)
def zFR (fu:Nat) (a:Forest) (b:Int):Option (List Int):=bnd (zFS fu a [b]) fun c=>cnd (!c) (some ([]:List Int)) ((zCb a) fu ([],[b]))
theorem zI9 {fu:Nat} {e:Forest} {f:Int}:FF (zFR fu e f) 204 [.agg (zAD e),Z f] [] [] (fun _=>.own 1034) fun r=>[(1034,.arr 3 1 (r.map zAB))]:=by
 refine fcI Tryz.func204 U (fun {w0 X X0 σ0 _}=>A [73,57,6,61] ?_)
 refine pl ([f].map zAB) 13 U U U U U U (A [33,13,41] (fun p _=>?_) zL0)
 refine A [57,5,7,58,56,1034,3,1,4,8,67,75,80] ?_
 refine pl ([f].map zAB) 17 U U U U U U (A [31,6,12,0,13,56,1034,3,1,5] ?_)
 refine lw (zCb e) [2,5,6] [6,2] (fun _=>[]) (fun (c,h)=>[(1034,.arr 3 1 (c.map zAB)),(17,.arr 3 1 (h.map zAB))]) fu ([],[f]) U U ?_
 rintro l ⟨c,h⟩
 refine A [6,80,39,57,10,3,86,62,8,72,80,39,16] fun o _=>?_
 refine A [57,61,38] fun d i=>?_
 refine zAr (T:=tab) zAB h d (zAu i) U U U U U U U U (A [57,61] ?_)
 refine zI4 (T:=tab) zAB h U U U U U U U U U U U fun m _=>A [12,0,61] ?_
 refine pl ([d].map zAB) 33 U U U U U U (pa zAB c ([d]:List Int) U U U U U U U U (zDF _) U U U (A [57,93,36] fun k _=>?_))
 refine pq 2 U (zLX (n:=3041) tab Tryz.func229 U U U U U U U U U U U U ⟨⟨_,U,.rfl⟩,trivial⟩ zWS U U (A [0,13] ?_))
 refine zW7 (T:=tab) (enc:=zAB) (enc':=fun (a:Int)=>Z a) (xs:=k.Kids) (x0:=m) (n:=3041) (tS:=32) (tE:=3) (tI:=3) (tB:=4) (tF:=336) (g:=274) (M:=(zEk c d k (zCb e l))) (Sf:=fun (b:(List Int))=>[(1034,.arr 3 1 ((c++[d]).map zAB)),(17,.arr 3 1 (b.map zAB)),(6,.box 32 [.own 17]),(2,.box 24 (zAD e))]) (N1:=[2,6,1034]) (E0:=[(2,.loc 2 0),(5,.own 1034),(6,.loc 6 0)]) (E1:=fun j a=>[(2,.loc 2 0),(5,.own 1034),(6,.loc 6 0),(42,Z ((j:Nat):Int)),(43,Z a),(10,Z a)]) Tryz.func274 U U U zWT U U (fun _=>U) (fun _=>U) U U ⟨U,U,U,trivial⟩ U U ⟨U,U,U,U,trivial⟩ U U U U U U ?_ ?_ ?_
 ·rintro j a b hy w0 X X0 σ0 _ _
  refine A [1,11] ?_
  exact zPM ⟨U,U,U,U,U,U,trivial⟩ ⟨U,U,U,U,trivial⟩ U
 ·rintro j a b hy w0 X X0 σ0 _ _
  exact zQe hy (pq 2 U (pl ([a].map zAB) 46 U U U U U U (pa zAB b ([a]:List Int) U U U U U U U U (zDF _) U U U (A [12,63] (tx (b++[a]))))))
 ·rintro b
  exact A [15,69,58,14,31,6,12,63] (tx ((c++[d]),b))
def zGD (_fu:Nat) (a:Attr) (b:Bs):Option Bool:=some (a.Name==b)
theorem zQl {fu:Nat} {b:Attr} {a:Bs}:FF (zGD fu b a) 237 [.agg (zDY b),.loc 900000 0] [(900000,.box 9 [O a])] [900000] (fun r=>Y r) fun _=>[(900000,.box 9 [O a])]:=by
 exact fcI Tryz.func237 U (A [73,57,9,105,74])
theorem zIL {fu:Nat} {b:List Attr} {a:Bs}:FF (zBH fu (fun c=>zGD fu c a) b) 236 [.sl 2 false (b.map zDY),.fn (.func 237) [] [.loc 900000 0]] [(900000,.box 9 [O a])] [900000] (fun r=>Z r) fun _=>[(900000,.box 9 [O a])]:=by
 refine fcI Tryz.func236 U (A [75,80,77,13] ?_)
 refine lw (zAY (fun c=>zGD fu c a) b) [0,1,7] [900000] (fun d=>[(8,Z d)]) (fun _=>[]) fu 0 U U ?_
 rintro f d
 refine A [75,10,2,86,59,72,62,93,36] fun h _=>?_
 refine A [1,44] (fun g _=>?_) zQl [(900000,900000)]
 refine A [0,5,2,62,8,4,94] fun e _=>?_
 exact A [89] (tx e)
def zJm (fu:Nat) (l1:List Attr) (a:Bs):Option Int:=bnd (zBH fu (fun c=>zGD fu c a) l1) fun b=>some b
theorem zTB {fu:Nat} {l1:List Attr} {a:Bs}:DD (zJm fu l1 a) 167 [.sl 2 false (l1.map zDY),O a] fun r=>Z r:=by
 refine fcI Tryz.func167 U (A [9,30,3,57,61,44] (fun b _=>?_) zIL [(900000,3)])
 exact A [57,8]
def zGU (fu:Nat) (l1:List Attr) (b:Bs):Option (Bs×Int×Int):=bnd (zGh fu l1) fun c=>cnd (!c) (some ([],(-1),1)) (bnd (zFw fu b) fun a=>cnd (a.2 != 0) (some ([],(-1),a.2)) (bnd (zJm fu l1 a.1) fun d=>some (a.1,d,0)))
theorem zJl {fu:Nat} {l1:List Attr} {a:Bs}:DD (zGU fu l1 a) 101 [.sl 2 false (l1.map zDY),O a] fun r=>.tup [O r.1,Z r.2.1,Z r.2.2]:=by
 refine fcI Tryz.func101 U (A [93,0,6,80,41] (fun b _=>?_) zK3)
 refine A [57,5,2,93,74,67,80,41] (fun c _=>?_) zHd
 refine A [105,0,6,62,5,2,76,74,67,93,41] (fun d _=>?_) zTB
 exact A [3,74]
def zFs (fu:Nat) (l1:List Attr) (b:Bs):Option (Bs×Bool):=bnd (zGU fu l1 b) fun a=>cnd (decide (a.2.1<0)) (some ([],false)) (bnd (idx l1 a.2.1) fun c=>some (c.Value,true))
theorem zHW {fu:Nat} {l1:List Attr} {a:Bs}:DD (zFs fu l1 a) 104 [.sl 2 false (l1.map zDY),O a] fun r=>.tup [O r.1,Y r.2]:=by
 refine fcI Tryz.func104 U (A [62,99] (fun b _=>?_) zJl)
 refine A [107,0,6,62,5,2,62,8,67,61,36] fun c _=>?_
 exact A [104,74]
def zGp (_fu:Nat) (a:Forest) (b:Int):Option Int:=bnd (idx a.Nodes b) fun c=>cnd (c.Parent != (-1)) (some c.Parent) (bnd (idx a.Nodes b) fun d=>some d.Host)
theorem zNi {fu:Nat} {a:Forest} {b:Int}:DD (zGp fu a b) 106 [.agg (zAD a),Z b] fun r=>Z r:=by
 refine fcI Tryz.func106 U (A [73,57,6,93,36] fun c _=>?_)
 refine A [3,0,62,5,2,62,8,67,93,36] fun d _=>?_
 exact A [3,74]
def zIG (fu:Nat) (a:Forest):Nat->Int->Option Int
 | 0,_=>none
 | k1+1,n4=>bnd (zGp fu a n4) fun b=>cnd (b != (-1)) (bnd (zGp fu a n4) fun c=>(zIG fu a k1) c) (some n4)
def zLC (fu:Nat) (a:Forest) (b:Int):Option Int:=bnd (zB9 fu a [b]) fun c=>cnd (!c) (some (-1)) ((zIG fu a) fu b)
theorem zUe {fu:Nat} {b:Forest} {a:Int}:DD (zLC fu b a) 59 [.agg (zAD b),Z a] fun r=>Z r:=by
 refine fcI Tryz.func59 U (A [73,57,6,61] ?_)
 refine pl ([a].map zAB) 7 U U U U U U (A [33,7,41] (fun f _=>?_) zHy)
 refine A [57,5,1,59,72] ?_
 refine lw (zIG fu b) [2] [2] (fun c=>[(1,Z c)]) (fun _=>[]) fu a U U ?_
 rintro e c
 refine A [6,99] (fun g _=>?_) zNi
 refine A [57,10,3,86,62,8,67,13,14,2,41] (fun d _=>?_) zNi
 exact A [1,11,15,46] (tx d)
def zDk (fu:Nat) (a:Forest) (c:Int):Option Bool:=bnd (zLC fu a c) fun b=>cnd (b != (-1)) (bnd (idx a.Nodes b) fun d=>some (d.Kind==0)) (some false)
theorem zG5 {fu:Nat} {a:Forest} {b:Int}:DD (zDk fu a b) 22 [.agg (zAD a),Z b] fun r=>Y r:=by
 refine fcI Tryz.func22 U (A [73,57,99] (fun c _=>?_) zUe)
 refine A [57,93,27,11,2,109,74,3,36] fun d _=>?_
 exact A [105,74]
def zBt (fu:Nat) (a:List Node):Nat->Int->Option Int
 | 0,_=>none
 | k1+1,n6=>cnd (n6 != (-1)) (bnd (idx a n6) fun c=>bnd (zGn fu c) fun b=>cnd b (some n6) (bnd (idx a n6) fun d=>(zBt fu a k1) d.Parent)) (some (-1))
def zDt (fu:Nat) (a:List Node) (b:Int):Option Int:=bnd (idx a b) fun c=>(zBt fu a) fu c.Parent
theorem zIk {fu:Nat} {a:List Node} {e c:Int} {b:List (Int×(List (Bs×Int)))}:FF (zDt fu a c) 278 [.agg [.sl 10 false (a.map zAX),Z e,.own 900000],Z c] [(900000,.mp (b.map fun p:Int×(List (Bs×Int))=>(zNz .i64 p.1,.mpd (p.2.map fun p:Bs×Int=>(zNG p.1,Z p.2)))))] [900000] (fun r=>Z r) fun _=>[(900000,.mp (b.map fun p:Int×(List (Bs×Int))=>(zNz .i64 p.1,.mpd (p.2.map fun p:Bs×Int=>(zNG p.1,Z p.2)))))]:=by
 refine fcI Tryz.func278 U (A [73,57,6,76,36] fun f _=>?_)
 refine A [3,0,13] ?_
 refine lw (zBt fu a) [2] [2,900000] (fun d=>[(1,Z d)]) (fun _=>[]) fu f.Parent U U ?_
 rintro h d
 refine A [6,62,10,2,86,59,72,76,36] fun j _=>?_
 refine A [1,41] (fun i _=>?_) zLB
 refine A [0,5,2,62,8,4,70,104,36] fun g _=>?_
 exact A [3,63] (tx g.Parent)
def zBV (fu:Nat) (d:List Node) (a:Int) (e:List (Int×(List (Bs×Int)))) (c:List Int):Nat->Int×(List (Bs×Int))->Option ((List (Bs×Int))×(List (Int×(List (Bs×Int)))))
 | 0,_=>none
 | k1+1,(t6,l7)=>cnd (decide (t6<(c.length:Int))) (bnd (idx c t6) fun i=>bnd (idx d i) fun j=>bnd (zFs fu j.Attrs [105,100]) fun b=>cnd b.2 (cnd (!(zLT l7 b.1)) (bnd (rng .i64 (t6+1)) fun f=>(zBV fu d a e c k1) (f,(zGt l7 b.1 i))) (bnd (rng .i64 (t6+1)) fun g=>(zBV fu d a e c k1) (g,l7))) (bnd (rng .i64 (t6+1)) fun h=>(zBV fu d a e c k1) (h,l7))) (some (l7,(zGt e a l7)))
def zFA (fu:Nat) (c:List Node) (d a:Int) (b:List (Int×(List (Bs×Int)))):Option ((List (Bs×Int))×(List (Int×(List (Bs×Int))))):=cnd (zLT b a) (some ((zK0 b a ([]:(List (Bs×Int)))),b)) (bnd (zFR fu (⟨c,d⟩:Forest) a) fun e=>(zBV fu c a b e) fu (0,([]:(List (Bs×Int)))))
theorem zM6 {fu:Nat} {e:List Node} {k a:Int} {d:List (Int×(List (Bs×Int)))}:FF (zFA fu e k a d) 279 [.agg [.sl 10 false (e.map zAX),Z k,.own 900000],Z a] [(900000,.mp (d.map fun p:Int×(List (Bs×Int))=>(zNz .i64 p.1,.mpd (p.2.map fun p:Bs×Int=>(zNG p.1,Z p.2)))))] [900000] (fun r=>.mpd (r.1.map fun p:Bs×Int=>(zNG p.1,Z p.2))) fun r=>[(900000,.mp (r.2.map fun p:Int×(List (Bs×Int))=>(zNz .i64 p.1,.mpd (p.2.map fun p:Bs×Int=>(zNG p.1,Z p.2)))))]:=by
 refine fcI Tryz.func279 U (A [73,57,6,93] ?_)
 refine zHq (T:=tab) (zJ1 .i64) (fun v=>.mpd (v.map fun p:Bs×Int=>(zNG p.1,Z p.2))) d a ([]:(List (Bs×Int))) Tryz.underlying340 Tryz.underlying3 U U U U U U U U U (A [105,0,58,5,2,62,8,67,9] ?_)
 refine zHr 23 U U U U U U U (A [57,6,93,43] (fun m _=>?_) zI9 [(1034,2270)] [2270])
 refine A [33,2270,77,13] ?_
 refine lw (zBV fu e a d m) [1,2,7,27,28] [2,900000] (fun (i,b)=>[(29,Z i)]) (fun (i,b)=>[(23,.mp (b.map fun p:Bs×Int=>(zNG p.1,Z p.2)))]) fu (0,([]:(List (Bs×Int)))) U U ?_
 rintro n ⟨i,b⟩
 refine A [75] ?_
 refine zAE U ?_ ?_
 ·refine A [72,9,36] fun l _=>?_
  refine A [2,0,76,36] fun o _=>?_
  refine A [2,41] (fun c _=>?_) zHW
  refine A [105,0,61] ?_
  refine zHq (T:=tab) zIy (fun v=>Z v) b c.1 0 Tryz.underlying142 Tryz.underlying9 U U U U U U U U U (A [105,0,61] ?_)
  refine zAT (j:=51) U ?_ ?_
  ·refine A [3,0] ?_
   refine zAE U ?_ ?_
   ·refine A [14,3] ?_
    refine zFo zIy (fun v=>Z v) b c.1 l Tryz.underlying142 Tryz.underlying9 U U U U U U U U U (A [11,94] fun f _=>?_)
    exact A [89] (tx (f,(zGt b c.1 l)))
   ·refine A [4,94] fun g _=>?_
    exact A [89] (tx (g,b))
  ·refine A [3,11,24,4,94] fun h _=>?_
   exact A [89] (tx (h,b))
 ·refine A [86,76] ?_
  exact zZR 23 U U U (zFo (zJ1 .i64) (fun v=>.mpd (v.map fun p:Bs×Int=>(zNG p.1,Z p.2))) d a b Tryz.underlying340 Tryz.underlying3 U U U U U U U U U (A [0,62,8]))
def zEn (fu:Nat) (b:List Node) (f c:Int) (e:List (Int×(List (Bs×Int)))):Option (Int×(List (Int×(List (Bs×Int))))):=bnd (idx b c) fun j=>cnd (j.Kind != 1) (some ((-1),e)) (bnd (zFs fu j.Attrs [102,111,114,109]) fun d=>cnd (!d.2) (bnd (zDt fu b c) fun l=>some (l,e)) (bnd (zDk fu (⟨b,f⟩:Forest) c) fun k=>cnd (!k) (bnd (zDt fu b c) fun m=>some (m,e)) (bnd (zGy fu (⟨b,f⟩:Forest) c) fun g=>bnd (zFA fu b f g e) fun a=>cnd (!(zLT a.1 d.1)) (some ((-1),a.2)) (cnd (d.1==([]:Bs)) (some ((-1),a.2)) (bnd (idx b (zK0 a.1 d.1 0)) fun i=>bnd (zGn fu i) fun h=>cnd (!h) (some ((-1),a.2)) (some ((zK0 a.1 d.1 0),a.2)))))))
theorem zJw {fu:Nat} {b:List Node} {c e:Int} {d:List (Int×(List (Bs×Int)))}:FF (zEn fu b c e d) 256 [.agg [.sl 10 false (b.map zAX),Z c,.own 900000],Z e] [(900000,.mp (d.map fun p:Int×(List (Bs×Int))=>(zNz .i64 p.1,.mpd (p.2.map fun p:Bs×Int=>(zNG p.1,Z p.2)))))] [900000] (fun r=>Z r.1) fun r=>[(900000,.mp (r.2.map fun p:Int×(List (Bs×Int))=>(zNz .i64 p.1,.mpd (p.2.map fun p:Bs×Int=>(zNG p.1,Z p.2)))))]:=by
 refine fcI Tryz.func256 U (A [73,57,76,36] fun n _=>?_)
 refine A [1,31,5,12,0,6,93,0,5,1,59,67,99] (fun h _=>?_) zHW
 refine A [105,0,6,93] ?_
 refine zAT (j:=26) U ?_ ?_
 ·refine A [106,65,61,44] (fun l _=>?_) zIk [(900000,900000)]
  exact A [57,8]
 ·refine A [3,41] (fun k _=>?_) zG5
  refine A [2,0] ?_
  refine zAE U ?_ ?_
  ·refine A [61,44] (fun m _=>?_) zIk [(900000,900000)]
   exact A [57,8]
  ·refine A [68,52,3,2,1,2,6,2,900000,53,13,0,0,2,0,14,31,0,127,255,511,511,1023,4095,204,54,2,1,78,80,82] (fun f _=>?_) zNM
   refine A [55,3,2,74,82,1800001,84,1800001] (fun a _=>?_) zM6 [(900000,900000)]
   refine vq 1 U (by kernel_rfl) (vS [84,86] [88] [] U U (zW4 (T:=tab) zIy (fun v=>Z v) a.1 h.1 0 Tryz.underlying142 Tryz.underlying9 U U U U U U U U (pyq U)) U U (A [205,79,6,93,26,49,2,113,83,104,26,53,2,109,83,104,36] fun i _=>?_))
   refine A [1,41] (fun g _=>?_) zLB
   exact A [2,0,5,1,59,67,62,8]
def zA4 (fu:Nat) (f:Int) (b:List Node) (c d:Int) (e:List (Int×(List (Bs×Int)))):Option (Bool×(List (Int×(List (Bs×Int))))):=bnd (zEn fu b c f e) fun a=>some ((a.1 != d),a.2)
theorem zJv {fu:Nat} {e:Int} {a:List Node} {b c:Int} {d:List (Int×(List (Bs×Int)))}:FF (zA4 fu e a b c d) 255 [Z e,.loc 900000 0,.loc 900001 0] [(900000,.box 342 [.sl 10 false (a.map zAX),Z b,.own 900002]),(900001,.box 3 [Z c]),(900002,.mp (d.map fun p:Int×(List (Bs×Int))=>(zNz .i64 p.1,.mpd (p.2.map fun p:Bs×Int=>(zNG p.1,Z p.2)))))] [900000,900001,900002] (fun r=>Y r.1) fun r=>[(900000,.box 342 [.sl 10 false (a.map zAX),Z b,.own 900002]),(900001,.box 3 [Z c]),(900002,.mp (r.2.map fun p:Int×(List (Bs×Int))=>(zNz .i64 p.1,.mpd (p.2.map fun p:Bs×Int=>(zNG p.1,Z p.2)))))]:=by
 refine fcI Tryz.func255 U (A [75,52,3,3,0,1,2,900000,900001,900002,53,6,0,0,3,0,15,31,202,55,3,2,10,12,1800005,14,1800005] (fun f _=>?_) zJw [(900000,900002)])
 exact A [203,79,8]
def zBS (c:Int->(List (Int×(List (Bs×Int))))->Option (Bool×(List (Int×(List (Bs×Int)))))) (l1:List Int):Nat->Int×(List (Int×(List (Bs×Int))))->Option (Int×(List (Int×(List (Bs×Int)))))
 | 0,_=>none
 | k1+1,(t6,l7)=>cnd (decide (t6<(l1.length:Int))) (bnd (idx l1 t6) fun d=>bnd (c d l7) fun b=>cnd b.1 (some (t6,b.2)) (bnd (rng .i64 (t6+1)) fun a=>(zBS c l1 k1) (a,b.2))) (some ((-1),l7))
def zEo (fu:Nat) (b:Int->(List (Int×(List (Bs×Int))))->Option (Bool×(List (Int×(List (Bs×Int)))))) (l1:List Int) (a:List (Int×(List (Bs×Int)))):Option (Int×(List (Int×(List (Bs×Int))))):=(zBS b l1) fu (0,a)
end Go.Proofs.YtmfbghpealgaiaaGreatDoor
