/- Models and proofs, printed by emit2.py. -/
import Derived.Test.YtmfbghpealgaiaaGreatDoorData
namespace Go.Proofs.YtmfbghpealgaiaaGreatDoor
open Go Go.Pw
open List renaming map_eq_nil_iff->eZ
set_option maxRecDepth 100000
set_option maxHeartbeats 10000000
set_option linter.unusedVariables false
def zJV (_fu:Nat) (a b:Int):Option Node:=some (⟨a,[],[],[],[],(-1),[],(-1),(-1),b⟩:Node)
theorem zNu {fu:Nat} {a b:Int}:DD (zJV fu a b) 112 [Z a,Z b] fun r=>.agg (zAZ r):=by
 refine fcI Tryz.func112 U (A [9,31,4,0,61,20,12,0] ?_)
 exact zGG 4 [Z a,O [],O [],O [],.sl 2 false ([].map zDf),Z (-1),.sl 1 false ([].map zAB),Z (-1),Z (-1),Z b] U ⟨.rfl,.rfl,.rfl,.rfl,.nil,.rfl,.nil,.rfl,.rfl,.rfl,trivial⟩ U rN
def zF4 (_fu:Nat) (a:Int):Option Bool:=cnd (decide (a>=97)) (some (decide (a<=122))) (some false)
theorem zLk {fu:Nat} {a:Int}:DD (zF4 fu a) 173 [.v (.int .i32 a)] fun r=>Y r:=by
 exact fcI Tryz.func173 U (A [58,93,26,5,2,104,74,104,74])
def zBq (_fu:Nat) (a:Int):Option Bool:=cnd (decide (a>=65)) (some (decide (a<=90))) (some false)
theorem zHd {fu:Nat} {a:Int}:DD (zBq fu a) 168 [.v (.int .i32 a)] fun r=>Y r:=by
 exact fcI Tryz.func168 U (A [58,93,26,5,2,104,74,104,74])
def zHE (a:Int) (b:Unit):Option Bool:=cnd (a==45) (some true) (cnd (a==95) (some true) (some (a==46)))
def zID (fu:Nat) (a:Int):Option Bool:=bnd (zF4 fu a) fun b=>cnd b (cnd b (some true) ((zHE a) ())) (bnd (zBq fu a) fun c=>cnd c (cnd c (some true) ((zHE a) ())) (cnd (decide (a>=48)) (cnd (decide (a<=57)) (some true) ((zHE a) ())) ((zHE a) ())))
theorem zVM {fu:Nat} {b:Int}:DD (zID fu b) 240 [.v (.int .i32 b)] fun r=>Y r:=by
 refine fcI Tryz.func240 U (A [75] ?_)
 refine jw (zHE b) [0] [] (fun _=>[]) (fun _=>[]) U U ?_ fun a=>?_
 ·rintro _
  exact A [7,93,26,16,2,108,74,104,26,20,2,104,74,104,74]
 ·refine A [13,6,80,41] (fun c _=>?_) zLk
  refine A [57] ?_
  refine zAF U ?_ ?_
  ·exact A [67,5,1,59,4,15,45] (a ())
  ·refine A [80,41] (fun d _=>?_) zHd
   refine A [57] ?_
   refine zAF U ?_ ?_
   ·exact A [67,5,1,59,4,15,45] (a ())
   ·refine A [14,3] ?_
    refine zAW (j:=10) U ?_ ?_
    ·exact A [104,0,5,1,59,4,15,45] (a ())
    ·exact A [104,0,23,4,15,45] (a ())
def zDl (fu:Nat) (a:Int):Option Bool:=bnd (zID fu a) fun b=>some (!b)
theorem zRa {fu:Nat} {a:Int}:DD (zDl fu a) 239 [.v (.int .i32 a)] fun r=>Y r:=by
 refine fcI Tryz.func239 U (A [58,80,41] (fun b _=>?_) zVM)
 exact A [2,74]
def zA6 (c:Int->Option Bool) (b:Bs) (a:Bool):Nat->Nat->Option Int
 | 0,_=>none
 | k1+1,p3=>cnd (decide (p3<b.length)) (bnd (c (zOK b p3)) fun d=>cnd (d==a) (some ((p3:Nat):Int)) ((zA6 c b a k1) (p3+zMr b p3))) (some (-1))
def zFY (fu:Nat) (c:Int->Option Bool) (b:Bs) (a:Bool):Option Int:=(zA6 c b a) fu 0
theorem zNg {fu:Nat} {b:Bs} {a:Bool}:DD (zFY fu (fun d=>zDl fu d) b a) 276 [O b,.fn (.func 239) [] [],Y a] fun r=>Z r:=by
 refine fcI Tryz.func276 U (A [75,80] ?_)
 refine zYx (T:=tab) 10 U U U U U U U U U (A [0,13] ?_)
 refine lw (zA6 (fun d=>zDl fu d) b a) [1,2,10] [] (fun _=>[]) (fun c=>[(10,.siter ⟨⟨b⟩⟩ c)]) fu 0 U U ?_
 rintro e c
 refine sr (zcU 10 U U U U U U U ?_ ?_)
 ·refine A [57,6,25,67,13,76,0,61,44] (fun f _=>?_) zRa []
  exact A [2,0,5,2,62,8,4,15,46] (tx (c+zMr b c))
 ·exact A [57,6,23,86,59]
def zFX (fu:Nat) (c:Int->Option Bool) (b:Bs):Option Int:=bnd (zFY fu c b true) fun a=>some a
theorem zNf {fu:Nat} {a:Bs}:DD (zFX fu (fun b=>zDl fu b) a) 241 [O a,.fn (.func 239) [] []] fun r=>Z r:=by
 refine fcI Tryz.func241 U (A [58,99] (fun c _=>?_) zNg)
 exact A [57,8]
def zB7 (fu:Nat) (c:Int->Option Bool) (b:Bs):Option Bool:=bnd (zFX fu c b) fun a=>some (decide (a>=0))
theorem zLs {fu:Nat} {a:Bs}:DD (zB7 fu (fun b=>zDl fu b) a) 174 [O a,.fn (.func 239) [] []] fun r=>Y r:=by
 refine fcI Tryz.func174 U (A [58,99] (fun c _=>?_) zNf)
 exact A [2,74]
def zIl (fu:Nat) (a:Bs):Option Bool:=cnd (decide ((a.length:Int)<1)) (some false) (cnd (decide ((a.length:Int)>40)) (some false) (bnd (zB7 fu (fun g=>zDl fu g) a) fun d=>cnd d (some false) (bnd (chr a 0) fun c=>bnd (rng .i32 c) fun b=>bnd (zF4 fu b) fun e=>cnd e (some true) (bnd (zBq fu b) fun f=>cnd f (some true) (some (b==95))))))
theorem zOf {fu:Nat} {a:Bs}:DD (zIl fu a) 172 [O a] fun r=>Y r:=by
 refine fcI Tryz.func172 U (A [75,76,26,7,2,108,83,105,26,12,2,3,83,1,41] (fun d _=>?_) zLs)
 refine A [57,5,1,59,67,80] ?_
 refine zN1 (T:=tab) (s:=a) U U U U U U U fun b _=>A [16] fun c _=>?_
 refine A [57,80,41] (fun e _=>?_) zLk
 refine A [1,26,21,2,108,74,1,41] (fun f _=>?_) zHd
 exact A [2,26,25,2,104,74,104,74]
def zFT (fu:Nat) (c:Bs):Nat->Int×(List Int)->Option Bs
 | 0,_=>none
 | k1+1,(t2,l3)=>cnd (decide (t2<((zEO c).length:Int))) (bnd (idx l3 t2) fun d=>bnd (rng .i32 d) fun e=>bnd (zBq fu e) fun h=>cnd h (bnd (rng .u8 (d - 65)) fun f=>bnd (rng .u8 (f+97)) fun g=>bnd (idx l3 t2) fun i=>bnd (rng .i64 (t2+1)) fun a=>(zFT fu c k1) (a,(l3.set (t2).toNat g))) (bnd (rng .i64 (t2+1)) fun b=>(zFT fu c k1) (b,l3))) (some (zWY l3))
def zEa (fu:Nat) (a:Bs):Option Bs:=bnd (zDY 1 a.length) fun _=>(zFT fu a) fu (0,(zEO a))
theorem zHc {fu:Nat} {b:Bs}:DD (zEa fu b) 103 [O b] fun r=>O r:=by
 refine fcI Tryz.func103 U (A [58,80] ?_)
 refine zeb (T:=tab) zRo 7 (fun _=>U) U U U U U U U U U U U U (A [57,6,80,39,57,13] ?_)
 refine lw (zFT fu b) [3,8,9] [] (fun (c,a)=>[(10,Z c)]) (fun (c,a)=>[(7,.arr 1000005 1 (a.map zRo))]) fu (0,(zEO b)) U U ?_
 rintro m ⟨c,a⟩
 refine A [75] ?_
 refine zAF U ?_ ?_
 ·refine A [72,80,38] fun i d=>?_
  refine zAv (T:=tab) zRo a i (zAy d) U U U U U U U U (A [2,0,80,16] fun k _=>?_)
  refine pk zHd U U fun n _=>ns (zAF U ?_ ?_)
  ·refine A [14,3,16] fun l _=>?_
   refine A [16] fun h _=>?_
   refine A [38] fun j e=>?_
   refine zCr (T:=tab) zRo a j h (zAy e) U U U U U U U U U U U U U (A [11,94] fun f _=>?_)
   exact A [89] (tx (f,(a.set (c).toNat h)))
  ·refine A [4,94] fun g _=>?_
   exact A [89] (tx (g,a))
 ·refine A [86,80] ?_
  exact po_str (T:=tab) zRo a (fun _=>U) U U U U U U U U U (A [57,8])
def zGM (fu:Nat) (a:Bs):Option (Bs×Int):=bnd (zIl fu a) fun b=>cnd (!b) (some ([],4)) (bnd (zEa fu a) fun c=>some (c,0))
theorem zIC {fu:Nat} {a:Bs}:DD (zGM fu a) 166 [O a] fun r=>.tup [O r.1,Z r.2]:=by
 refine fcI Tryz.func166 U (A [62,6,80,41] (fun b _=>?_) zOf)
 refine A [57,5,2,62,8,67,80,41] (fun c _=>?_) zHc
 exact A [2,74]
def zEq (fu:Nat) (a:Attr):Option Bool:=bnd (zGM fu a.Name) fun b=>cnd (b.2 != 0) (some true) (cnd (!(b.1==a.Name)) (some true) (some (decide ((a.Value.length:Int)>200))))
theorem zRM {fu:Nat} {a:Attr}:DD (zEq fu a) 233 [.agg (zDf a)] fun r=>Y r:=by
 refine fcI Tryz.func233 U (A [9,30,1,57,99] (fun b _=>?_) zIC)
 exact A [105,0,93,26,13,2,112,74,106,26,19,2,106,74,106,74]
def zAa (b:Attr->Option Bool) (a:List Attr):Nat->Int->Option Int
 | 0,_=>none
 | k1+1,t2=>cnd (decide (t2<(a.length:Int))) (bnd (idx a t2) fun e=>bnd (b e) fun d=>cnd d (some t2) (bnd (rng .i64 (t2+1)) fun c=>(zAa b a k1) c)) (some (-1))
def zBN (fu:Nat) (b:Attr->Option Bool) (a:List Attr):Option Int:=(zAa b a) fu 0
theorem zJx {fu:Nat} {a:List Attr}:DD (zBN fu (fun b=>zEq fu b) a) 236 [.sl 2 false (a.map zDf),.fn (.func 233) [] []] fun r=>Z r:=by
 refine fcI Tryz.func236 U (A [75,80,77,13] ?_)
 refine lw (zAa (fun b=>zEq fu b) a) [0,1,7] [] (fun c=>[(8,Z c)]) (fun _=>[]) fu 0 U U ?_
 rintro e c
 refine A [75,10,2,86,59,72,62,93,36] fun g _=>?_
 refine A [1,44] (fun f _=>?_) zRM []
 refine A [0,5,2,62,8,4,94] fun d _=>?_
 exact A [89] (tx d)
def zCC (fu:Nat) (c:Attr->Option Bool) (b:List Attr):Option Bool:=bnd (zBN fu c b) fun a=>some (decide (a>=0))
theorem zIu {fu:Nat} {a:List Attr}:DD (zCC fu (fun b=>zEq fu b) a) 234 [.sl 2 false (a.map zDf),.fn (.func 233) [] []] fun r=>Y r:=by
 refine fcI Tryz.func234 U (A [58,99] (fun c _=>?_) zJx)
 exact A [2,74]
def zGJ (l1:List Attr):Nat->Int×(List (Bs×Attr))->Option (List (Bs×Attr))
 | 0,_=>none
 | k1+1,(t2,l3)=>cnd (decide (t2<(l1.length:Int))) (bnd (idx l1 t2) fun a=>bnd (rng .i64 (t2+1)) fun b=>(zGJ l1 k1) (b,(zHP l3 a.Name a))) (some l3)
def zKS (fu:Nat) (l1:List Attr):Option (List (Bs×Attr)):=(zGJ l1) fu (0,([]:(List (Bs×Attr))))
theorem zTs {fu:Nat} {l1:List Attr}:FF (zKS fu l1) 235 [.sl 2 false (l1.map zDf)] [] [] (fun _=>.own 6) fun r=>[(6,.mp (r.map fun p:Bs×Attr=>(zNm p.1,.agg (zDf p.2))))]:=by
 refine fcI Tryz.func235 U (A [58,9] ?_)
 refine zIQ 6 U U U U U U U (A [57,6,80,77,13] ?_)
 refine lw (zGJ l1) [3,7,8] [] (fun (c,a)=>[(9,Z c)]) (fun (c,a)=>[(6,.mp (a.map fun p:Bs×Attr=>(zNm p.1,.agg (zDf p.2))))]) fu (0,([]:(List (Bs×Attr)))) U U ?_
 rintro e ⟨c,a⟩
 refine A [75,10,3,86,62,8,72,9,36] fun b _=>?_
 refine A [1,31,5,12,0,14,104] ?_
 refine zGF zJc (fun v=>.agg (zDf v)) a b.Name b Tryz.underlying329 Tryz.underlying9 U U U U U U U U U (A [11,94] fun d _=>?_)
 exact A [89] (tx (d,(zHP a b.Name b)))
def zHC (fu:Nat) (l1:List Attr):Option Bool:=cnd (decide ((l1.length:Int)<=40)) (bnd (zCC fu (fun c=>zEq fu c) l1) fun a=>cnd (!a) (bnd (zKS fu l1) fun b=>some ((b.length:Int)==(l1.length:Int))) (some false)) (some false)
theorem zLf {fu:Nat} {l1:List Attr}:DD (zHC fu l1) 165 [.sl 2 false (l1.map zDf)] fun r=>Y r:=by
 refine fcI Tryz.func165 U (A [58,58,80,35,2,27,7,2,114,74,2,41] (fun b _=>?_) zIu)
 refine A [3,27,13,2,108,74,1,43] (fun a _=>?_) zTs [(6,2150)] [2150]
 exact zPy (zNm) (fun v=>.agg (zDf v)) a Tryz.underlying329 U U U U U U U U (A [1,35,3,74])
theorem zLu {fu:Nat} {b:Bs} {a:Bool}:DD (zFY fu (fun d=>zBq fu d) b a) 276 [O b,.fn (.func 168) [] [],Y a] fun r=>Z r:=by
 refine fcI Tryz.func276 U (A [75,80] ?_)
 refine zYx (T:=tab) 10 U U U U U U U U U (A [0,13] ?_)
 refine lw (zA6 (fun d=>zBq fu d) b a) [1,2,10] [] (fun _=>[]) (fun c=>[(10,.siter ⟨⟨b⟩⟩ c)]) fu 0 U U ?_
 rintro e c
 refine sr (zcU 10 U U U U U U U ?_ ?_)
 ·refine A [57,6,25,67,13,76,0,61,44] (fun f _=>?_) zHd []
  exact A [2,0,5,2,62,8,4,15,46] (tx (c+zMr b c))
 ·exact A [57,6,23,86,59]
theorem zLt {fu:Nat} {a:Bs}:DD (zFX fu (fun b=>zBq fu b) a) 241 [O a,.fn (.func 168) [] []] fun r=>Z r:=by
 refine fcI Tryz.func241 U (A [58,99] (fun c _=>?_) zLu)
 exact A [57,8]
theorem zKP {fu:Nat} {a:Bs}:DD (zB7 fu (fun b=>zBq fu b) a) 174 [O a,.fn (.func 168) [] []] fun r=>Y r:=by
 refine fcI Tryz.func174 U (A [58,99] (fun c _=>?_) zLt)
 exact A [2,74]
def zJ2 (fu:Nat) (c a:Bs):Option Int:=bnd (zUT fu c a) fun b=>some b
theorem zQj {fu:Nat} {b a:Bs}:DD (zJ2 fu b a) 152 [O b,O a] fun r=>Z r:=by
 refine fcI Tryz.func152 U (A [58,61] ?_)
 exact pk (zbf fu b a) U U fun c _=>A [57,8]
def zEf (fu:Nat) (c a:Bs):Option Bool:=bnd (zJ2 fu c a) fun b=>some (decide (b>=0))
theorem zJ1 {fu:Nat} {b a:Bs}:DD (zEf fu b a) 90 [O b,O a] fun r=>Y r:=by
 refine fcI Tryz.func90 U (A [58,99] (fun c _=>?_) zQj)
 exact A [2,74]
def zJt (_fu:Nat):Option (List Bs):=some [[97,110,110,111,116,97,116,105,111,110,45,120,109,108],[99,111,108,111,114,45,112,114,111,102,105,108,101],[102,111,110,116,45,102,97,99,101],[102,111,110,116,45,102,97,99,101,45,115,114,99],[102,111,110,116,45,102,97,99,101,45,117,114,105],[102,111,110,116,45,102,97,99,101,45,102,111,114,109,97,116],[102,111,110,116,45,102,97,99,101,45,110,97,109,101],[109,105,115,115,105,110,103,45,103,108,121,112,104]]
theorem zQg {fu:Nat}:DD (zJt fu) 176 [] fun r=>.sl 1 false (r.map zQ6):=by
 refine fcI Tryz.func176 U (A [58,9] ?_)
 exact pl ([[97,110,110,111,116,97,116,105,111,110,45,120,109,108],[99,111,108,111,114,45,112,114,111,102,105,108,101],[102,111,110,116,45,102,97,99,101],[102,111,110,116,45,102,97,99,101,45,115,114,99],[102,111,110,116,45,102,97,99,101,45,117,114,105],[102,111,110,116,45,102,97,99,101,45,102,111,114,109,97,116],[102,111,110,116,45,102,97,99,101,45,110,97,109,101],[109,105,115,115,105,110,103,45,103,108,121,112,104]].map zQ6) 1 U U U U U U (A [57,34,1,8])
def zB6 (a:List Bs) (b:Bs):Nat->Int->Option Int
 | 0,_=>none
 | k1+1,t3=>cnd (decide (t3<(a.length:Int))) (bnd (idx a t3) fun d=>cnd (b==d) (some t3) (bnd (rng .i64 (t3+1)) fun c=>(zB6 a b k1) c)) (some (-1))
def zF7 (fu:Nat) (a:List Bs) (b:Bs):Option Int:=(zB6 a b) fu 0
theorem zMO {fu:Nat} {a:List Bs} {b:Bs}:DD (zF7 fu a b) 242 [.sl 1 false (a.map zQ6),O b] fun r=>Z r:=by
 refine fcI Tryz.func242 U (A [75,80,77,13] ?_)
 refine lw (zB6 a b) [0,1,7] [] (fun c=>[(8,Z c)]) (fun _=>[]) fu 0 U U ?_
 rintro e c
 refine A [75,10,2,86,59,72,62,93,36] fun f _=>?_
 refine A [2,0,5,2,62,8,4,94] fun d _=>?_
 exact A [89] (tx d)
def zBB (fu:Nat) (b:List Bs) (c:Bs):Option Bool:=bnd (zF7 fu b c) fun a=>some (decide (a>=0))
theorem zC8 {fu:Nat} {a:List Bs} {b:Bs}:DD (zBB fu a b) 175 [.sl 1 false (a.map zQ6),O b] fun r=>Y r:=by
 refine fcI Tryz.func175 U (A [58,99] (fun c _=>?_) zMO)
 exact A [2,74]
def zC7 (fu:Nat) (a:Bs):Option Bool:=bnd (zIl fu a) fun d=>cnd d (bnd (chr a 0) fun b=>bnd (rng .i32 b) fun c=>bnd (zF4 fu c) fun e=>cnd e (bnd (zB7 fu (fun j=>zBq fu j) a) fun f=>cnd (!f) (bnd (zEf fu a [45]) fun g=>cnd g (bnd (zJt fu) fun h=>bnd (zBB fu h a) fun i=>some (!i)) (some false)) (some false)) (some false)) (some false)
theorem zEv {fu:Nat} {a:Bs}:DD (zC7 fu a) 109 [O a] fun r=>Y r:=by
 refine fcI Tryz.func109 U (A [58,80,41] (fun e _=>?_) zOf)
 refine A [1,27,5,2,121,74,1] ?_
 refine zN1 (T:=tab) (s:=a) U U U U U U U fun c _=>A [16] fun d _=>?_
 refine pk zLk U U fun f _=>A [2,27,11,2,115,74,1,41] (fun g _=>?_) zKP
 refine A [3,27,16,2,110,74,1,41] (fun h _=>?_) zJ1
 refine A [2,27,20,2,106,74] ?_
 refine zKx (enc:=fun (b:(List Bs))=>.sl 1 false (b.map zQ6)) (qs:=[]) zQg U U trivial (fun _=>U) zgJ U U fun b _=>A [1,41] (fun i _=>?_) zC8
 exact A [3,74]
def zDz (a:Node) (b:Bs):Option Bool:=cnd (a.Name==([]:Bs)) (cnd (a.Is==([]:Bs)) (cnd (b==([]:Bs)) (some ((a.Attrs.length:Int)==0)) (some false)) (some false)) (some false)
def zGn (fu:Nat) (a:Node):Option Bool:=cnd (a.Kind==1) (bnd (zGM fu a.Name) fun b=>cnd (b.2==0) (cnd (b.1==a.Name) (cnd (a.Is==([]:Bs)) (cnd (a.Data==([]:Bs)) (bnd (zHC fu a.Attrs) fun c=>some c) (some false)) (bnd (zC7 fu a.Is) fun d=>cnd d (cnd (a.Data==([]:Bs)) (bnd (zHC fu a.Attrs) fun e=>some e) (some false)) (some false))) (some false)) (some false)) (cnd (a.Kind==2) (cnd (decide ((a.Data.length:Int)>200)) (some false) ((zDz a) [])) (cnd (a.Kind==0) (cnd (a.Kind==0) ((zDz a) a.Data) (some false)) (cnd (a.Kind==3) (cnd (a.Kind==3) ((zDz a) a.Data) (some false)) (cnd (a.Kind==4) ((zDz a) a.Data) (some false)))))
theorem zMb {fu:Nat} {a:Node}:DD (zGn fu a) 186 [.agg (zAZ a)] fun r=>Y r:=by
 refine fcI Tryz.func186 U (A [9,30,1,57,6,62,13,6] ?_)
 refine jw (zDz a) [1] [] (fun _=>[]) (fun c=>[(1,.box 77 [Z a.Kind,O a.Name,O a.Is,O c,.sl 2 false (a.Attrs.map zDf),Z a.Parent,.sl 1 false (a.Kids.map zAB),Z a.Host,Z a.Under,Z a.Doc])]) U U ?_ fun b=>?_
 ·rintro c
  exact A [7,6,76,26,57,16,105,26,62,10,105,26,67,4,2,35,3,74,106,74,111,74,116,74]
 ·refine A [13,6,13,6,13,6,6,62] ?_
  refine zAF U ?_ ?_
  ·refine A [86,6,99] (fun d _=>?_) zIC
   refine A [105,0,93,27,23,2,126,74,106,27,29,2,120,74,104] ?_
   refine zAW (j:=33) U ?_ ?_
   ·refine A [111,27,44,2,105,74,2,41] (fun e _=>?_) zLf
    exact A [2,74]
   ·refine A [2,41] (fun f _=>?_) zEv
    refine A [3,27,39,2,110,74,105,27,44,2,105,74,2,41] (fun g _=>?_) zLf
    exact A [2,74]
  ·refine A [68,62] ?_
   refine zAF U ?_ ?_
   ·exact A [86,6,76,0,5,1,59,67,14,1,12,11,15,45] (b [])
   ·refine A [68,62] ?_
    refine zAF U ?_ ?_
    ·exact A [67,10,3,67,86,59,17,45] (b a.Data)
    ·refine A [62] ?_
     refine zAF U ?_ ?_
     ·exact A [67,10,3,67,86,59,17,45] (b a.Data)
     ·exact A [14,2,0,10,3,67,86,59,17,45] (b a.Data)
def zCG (_fu:Nat) (b:zAQ) (a:Int):Option Bool:=cnd (decide (a>=0)) (some (decide (a<(b.Forest.Nodes.length:Int)))) (some false)
theorem zE1 {fu:Nat} {b:zAQ} {a:Int}:DD (zCG fu b a) 246 [.agg (zEn b),Z a] fun r=>Y r:=by
 exact fcI Tryz.func246 U (A [73,57,93,26,7,4,104,35,3,74,108,74])
def zDR (fu:Nat) (c:zAQ) (b a:Int):Option Bool:=bnd (zCG fu c b) fun d=>cnd d (bnd (idx c.Forest.Nodes b) fun e=>some (e.Kind==a)) (some false)
theorem zGK {fu:Nat} {c:zAQ} {b a:Int}:DD (zDR fu c b a) 245 [.agg (zEn c),Z b,Z a] fun r=>Y r:=by
 refine fcI Tryz.func245 U (A [9,30,3,57,99] (fun d _=>?_) zE1)
 refine A [1,27,10,2,111,74,104,36] fun e _=>?_
 exact A [106,74]
def zFJ (fu:Nat) (c:zAQ) (b:Int):Option Bool:=bnd (idx c.Forest.Nodes b) fun a=>bnd (zDR fu c a.Doc 0) fun d=>cnd d (cnd (a.Kind != 0) (some true) (some (a.Doc==b))) (some false)
theorem zNU {fu:Nat} {b:zAQ} {a:Int}:DD (zFJ fu b a) 187 [.agg (zEn b),Z a] fun r=>Y r:=by
 refine fcI Tryz.func187 U (A [73,57,76,36] fun d _=>?_)
 refine A [1,31,5,12,0,93,41] (fun c _=>?_) zGK
 exact A [1,26,16,8,104,26,20,2,107,74,107,74,111,74]
def zF2 (_fu:Nat) (a:Int):Option Bool:=cnd (a==0) (cnd (a==0) (some true) (some false)) (cnd (a==1) (cnd (a==1) (some true) (some false)) (cnd (a==3) (cnd (a==3) (some true) (some false)) (cnd (a==4) (some true) (some false))))
theorem zMF {fu:Nat} {a:Int}:DD (zF2 fu a) 247 [Z a] fun r=>Y r:=by
 exact fcI Tryz.func247 U (A [75,58,13,6,62,5,7,67,5,1,59,4,69,59,62,5,7,67,5,1,59,4,69,59,62,5,7,67,5,1,59,4,69,59,14,2,0,5,1,59,4,69,59])
def zBR (a:List Int) (b:Int):Nat->Int->Option Int
 | 0,_=>none
 | k1+1,t3=>cnd (decide (t3<(a.length:Int))) (bnd (idx a t3) fun d=>cnd (b==d) (some t3) (bnd (rng .i64 (t3+1)) fun c=>(zBR a b k1) c)) (some (-1))
def zCc (fu:Nat) (a:List Int) (b:Int):Option Int:=(zBR a b) fu 0
theorem zG7 {fu:Nat} {a:List Int} {b:Int}:DD (zCc fu a b) 97 [.sl 1 false (a.map zAB),Z b] fun r=>Z r:=by
 refine fcI Tryz.func97 U (A [75,80,77,13] ?_)
 refine lw (zBR a b) [0,1,7] [] (fun c=>[(8,Z c)]) (fun _=>[]) fu 0 U U ?_
 rintro e c
 refine A [75,10,2,86,59,72,62,93,36] fun f _=>?_
 refine A [2,0,5,2,62,8,4,94] fun d _=>?_
 exact A [89] (tx d)
def zEe (fu:Nat) (b:List Int) (c:Int):Option Bool:=bnd (zCc fu b c) fun a=>some (decide (a>=0))
theorem zMN {fu:Nat} {a:List Int} {b:Int}:DD (zEe fu a b) 248 [.sl 1 false (a.map zAB),Z b] fun r=>Y r:=by
 refine fcI Tryz.func248 U (A [58,99] (fun c _=>?_) zG7)
 exact A [2,74]
def zD0 (fu:Nat) (b:zAQ) (d:Int) (c:Node) (a:Bool):Option Bool:=cnd a (bnd (zCG fu b c.Parent) fun e=>cnd e (bnd (idx b.Forest.Nodes c.Parent) fun h=>bnd (zF2 fu h.Kind) fun f=>cnd f (bnd (idx b.Forest.Nodes c.Parent) fun i=>bnd (zEe fu i.Kids d) fun g=>some g) (some false)) (some false)) (some false)
def zFr (fu:Nat) (c:zAQ) (b:Int):Option Bool:=bnd (idx c.Forest.Nodes b) fun a=>cnd (a.Parent==(-1)) (some true) (cnd (a.Kind==1) ((zD0 fu c b a) true) ((zD0 fu c b a) (a.Kind==2)))
theorem zN6 {fu:Nat} {d:zAQ} {c:Int}:DD (zFr fu d c) 188 [.agg (zEn d),Z c] fun r=>Y r:=by
 refine fcI Tryz.func188 U (A [73,57,76,36] fun e _=>?_)
 refine A [1,31,5,12,0,6,93,0,5,1,59,67,9] ?_
 refine zNO (zD0 fu d c e) (fun (a:Bool)=>[(1,Z c),(2,.loc 2 0),(5,.loc 5 0),(6,Y a)]) (fun (a:Bool)=>[(5,.box 77 (zAZ e)),(2,.box 215 (zAE d.Forest))]) ?_ fun b=>?_
 ·rintro a
  refine A [7,61,27,25,2,129,74,3,41] (fun f _=>?_) zE1
  refine A [2,27,31,2,123,74,105,36] fun i _=>?_
  refine A [2,41] (fun g _=>?_) zMF
  refine A [2,27,42,2,112,74,105,36] fun k _=>?_
  refine A [3,41] (fun h _=>?_) zMN
  exact A [2,74]
 ·refine pq 4 U (zAW (j:=19) U ?_ ?_)
  ·exact A [105,11,45] (b true)
  ·exact A [105,11,45] (b (e.Kind==2))
def zAt (fu:Nat) (c:zAQ) (i:Int) (a:Node):Nat->Int×Int×(List (Int×Int))->Option Bool
 | 0,_=>none
 | k1+1,(elems4,t5,l6)=>cnd (decide (t5<(a.Kids.length:Int))) (bnd (idx a.Kids t5) fun b=>bnd (zCG fu c b) fun l=>cnd (!l) (some false) (cnd (decide ((zLd l6 b 0)>0)) (some false) (bnd (idx c.Forest.Nodes b) fun m=>cnd (m.Parent != i) (some false) (bnd (idx c.Forest.Nodes b) fun k=>cnd (k.Doc != a.Doc) (some false) (bnd (rng .i64 ((zLd l6 b 0)+1)) fun d=>bnd (idx c.Forest.Nodes b) fun e=>cnd (e.Kind==1) (bnd (rng .i64 (elems4+1)) fun f=>bnd (rng .i64 (t5+1)) fun g=>(zAt fu c i a k1) (f,g,(zHP l6 b d))) (cnd (e.Kind==2) (cnd (a.Kind==0) (some false) (bnd (rng .i64 (t5+1)) fun h=>(zAt fu c i a k1) (elems4,h,(zHP l6 b d)))) (some false))))))) (bnd (zF2 fu a.Kind) fun j=>cnd j (cnd (a.Kind != 0) (some true) (some (decide (elems4<=1)))) (cnd ((a.Kids.length:Int)==0) (cnd (a.Kind != 0) (some true) (some (decide (elems4<=1)))) (some false)))
def zFI (fu:Nat) (b:zAQ) (a:Int):Option Bool:=bnd (idx b.Forest.Nodes a) fun c=>(zAt fu b a c) fu (0,0,([]:(List (Int×Int))))
theorem zNT {fu:Nat} {d:zAQ} {i:Int}:DD (zFI fu d i) 189 [.agg (zEn d),Z i] fun r=>Y r:=by
 refine fcI Tryz.func189 U (A [73,57,76,36] fun n _=>?_)
 refine A [1,31,5,12,0,9] ?_
 refine zIQ 16 U U U U U U U (A [57,75,61,77,13] ?_)
 refine lw (zAt fu d i n) [1,2,5,6,18,19] [5,2] (fun (a,j,b)=>[(7,Z a),(20,Z j)]) (fun (a,j,b)=>[(16,.mp (b.map fun p:Int×Int=>(zOa .i64 p.1,Z p.2)))]) fu (0,0,([]:(List (Int×Int)))) U U ?_
 rintro q ⟨a,j,b⟩
 refine A [75] ?_
 refine zAF U ?_ ?_
 ·refine A [72,9,36] fun e _=>?_
  refine A [2,0,6,6,82,202,54,2,1,48,50,52] (fun s _=>?_) zE1
  refine vq 2 U (by kernel_rfl) (zA3 (t:=28) U ?_ ?_)
  ·exact A [228,19,18,59]
  ·refine vq 2 U (by kernel_rfl) (vS [33,56,58,60] [62] [] U U (zWE (T:=tab) (zKi .i64) (fun v=>Z v) b e 0 Tryz.underlying143 Tryz.underlying3 U U U U U U U U U U (pyq U)) U U (vq 3 U (by kernel_rfl) (zA3 (t:=34) U ?_ ?_)))
   ·exact A [222,19,18,59]
   ·refine vq 4 U (by kernel_rfl) (vT [68,74,76] [78] [] U U (zAw (T:=tab) zAZ d.Forest.Nodes U U U U U U U fun o _=>pzq U) (fun _=>U) (fun _=>U) fun o _=>vq 6 U (by kernel_rfl) (zA3 (t:=45) U ?_ ?_))
    ·exact A [211,19,18,59]
    ·refine vq 4 U (by kernel_rfl) (vT [90,96,98] [100] [] U U (zAw (T:=tab) zAZ d.Forest.Nodes U U U U U U U fun k _=>pzq U) (fun _=>U) (fun _=>U) fun k _=>A [206,79,5,1,59,67,61] ?_)
     refine zWE (T:=tab) (zKi .i64) (fun v=>Z v) b e 0 Tryz.underlying143 Tryz.underlying3 U U U U U U U U U U (A [16] fun c _=>?_)
     refine zGF (zKi .i64) (fun v=>Z v) b e c Tryz.underlying143 Tryz.underlying3 U U U U U U U U U (A [0,76,36] fun m _=>?_)
     refine A [2,0,13,62] ?_
     refine zAF U ?_ ?_
     ·refine A [14,1,16] fun f _=>?_
      refine A [1,11,15,94] fun g _=>?_
      exact A [89] (tx (f,g,(zHP b e c)))
     ·refine A [62,10,1,59,93,0,5,1,59,4,15,94] fun h _=>?_
      exact A [89] (tx (a,h,(zHP b e c)))
 ·refine A [86,99] (fun l _=>?_) zMF
  exact A [1,26,81,8,110,26,91,2,105,74,105,74,2,35,3,26,87,8,104,26,91,2,105,74,105,74,109,74]
def zCK (b a:Bool):Option Bool:=cnd b (some a) (some false)
def zBk (fu:Nat) (c:zAQ) (d:Int) (b:Node) (a:Bool):Option Bool:=cnd (b.Under==(-1)) ((zCK a) true) (cnd (b.Kind==1) (bnd (zDR fu c b.Under 4) fun e=>cnd e (bnd (idx c.Forest.Nodes b.Under) fun f=>(zCK a) (f.Host==d)) ((zCK a) false)) ((zCK a) false))
def zE0 (fu:Nat) (b:zAQ) (c:Int):Option Bool:=bnd (idx b.Forest.Nodes c) fun a=>cnd (a.Kind==4) (bnd (zDR fu b a.Host 1) fun d=>cnd d (bnd (idx b.Forest.Nodes a.Host) fun e=>cnd (e.Under==c) (bnd (idx b.Forest.Nodes a.Host) fun f=>(zBk fu b c a) (f.Doc==a.Doc)) ((zBk fu b c a) false)) ((zBk fu b c a) false)) ((zBk fu b c a) (a.Host==(-1)))
theorem zMc {fu:Nat} {e:zAQ} {f:Int}:DD (zE0 fu e f) 190 [.agg (zEn e),Z f] fun r=>Y r:=by
 refine fcI Tryz.func190 U (A [73,57,76,36] fun g _=>?_)
 refine A [1,31,5,12,0,76,0,6,93,0] ?_
 refine jw (zBk fu e f g) [1,2,5] [5,2] (fun b=>[(6,Y b)]) (fun _=>[]) U U ?_ fun c=>?_
 ·rintro b
  refine A [7,9] ?_
  refine zNO (zCK b) (fun (a:Bool)=>[(6,Y b),(7,Y a)]) (fun (a:Bool)=>[]) ?_ fun d=>?_
  ·rintro a
   exact A [7,61,26,76,2,3,74,3,74]
  ·refine pq 4 U (zAW (j:=52) U ?_ ?_)
   ·exact A [123,11,45] (d true)
   ·refine pq 4 U (zAW (j:=56) U ?_ ?_)
    ·refine A [3,41] (fun m _=>?_) zGK
     refine pq 2 U (zAW (j:=62) U ?_ ?_)
     ·refine A [105,36] fun k _=>?_
      exact A [107,11,45] (d (k.Host==f))
     ·exact A [113,11,45] (d false)
    ·exact A [119,11,45] (d false)
 ·refine zAF U ?_ ?_
  ·refine A [95,203,54,2,1,40,44,46] (fun l _=>?_) zGK
   refine vq 1 U (by kernel_rfl) (zA3 (t:=24) U ?_ ?_)
   ·refine vq 5 U (by kernel_rfl) (vT [48,54,58] [60] [] U U (zAw (T:=tab) zAZ e.Forest.Nodes U U U U U U U fun i _=>pzq U) (fun _=>U) (fun _=>U) fun i _=>vq 6 U (by kernel_rfl) (zA3 (t:=36) U ?_ ?_))
    ·exact vq 5 U (by kernel_rfl) (vT [72,78,82] [84] [] U U (zAw (T:=tab) zAZ e.Forest.Nodes U U U U U U U fun h _=>pzq U) (fun _=>U) (fun _=>U) fun h _=>A [207,19,45] (c (h.Doc==g.Doc)))
    ·exact A [213,19,45] (c false)
   ·exact A [225,19,45] (c false)
  ·exact A [4,45] (c (g.Host==(-1)))
def zGw (_fu:Nat) (b:zAQ) (a:Int):Option Int:=bnd (idx b.Forest.Nodes a) fun c=>cnd (c.Parent != (-1)) (some c.Parent) (bnd (idx b.Forest.Nodes a) fun d=>some d.Host)
theorem zPW {fu:Nat} {b:zAQ} {a:Int}:DD (zGw fu b a) 249 [.agg (zEn b),Z a] fun r=>Z r:=by
 refine fcI Tryz.func249 U (A [73,57,6,76,36] fun c _=>?_)
 refine A [3,0,62,5,2,62,8,67,76,36] fun d _=>?_
 exact A [3,74]
def zCw (fu:Nat) (a:zAQ):Nat->Int×Int->Option Bool
 | 0,_=>none
 | k1+1,(n3,t4)=>cnd (decide (t4<(a.Forest.Nodes.length:Int))) (bnd (zGw fu a n3) fun b=>cnd (b==(-1)) (some true) (bnd (rng .i64 (t4+1)) fun c=>(zCw fu a k1) (b,c))) (some false)
def zHX (fu:Nat) (b:zAQ) (a:Int):Option Bool:=(zCw fu b) fu (a,0)
theorem zN5 {fu:Nat} {b:zAQ} {a:Int}:DD (zHX fu b a) 191 [.agg (zEn b),Z a] fun r=>Y r:=by
 refine fcI Tryz.func191 U (A [73,57,6,93,77,13] ?_)
 refine lw (zCw fu b) [2,8] [2] (fun (c,d)=>[(1,Z c),(9,Z d)]) (fun _=>[]) fu (a,0) U U ?_
 rintro g ⟨c,d⟩
 refine A [75,10,2,86,59,72,99] (fun f _=>?_) zPW
 refine A [57,62,5,1,59,4,94] fun e _=>?_
 exact A [89] (tx (f,e))
def zBX (fu:Nat) (c:zAQ):Nat->Int->Option Bool
 | 0,_=>none
 | k2+1,t11=>cnd (decide (t11<(c.Forest.Nodes.length:Int))) (bnd (zHX fu c t11) fun b=>cnd (!b) (some false) (bnd (rng .i64 (t11+1)) fun a=>(zBX fu c k2) a)) (some true)
def zCh (fu:Nat) (a:zAQ):Nat->Int->Option Bool
 | 0,_=>none
 | k1+1,t3=>cnd (decide (t3<(a.Forest.Nodes.length:Int))) (bnd (idx a.Forest.Nodes t3) fun h=>bnd (zGn fu h) fun c=>cnd (!c) (some false) (bnd (zFJ fu a t3) fun d=>cnd (!d) (some false) (bnd (zFr fu a t3) fun e=>cnd (!e) (some false) (bnd (zFI fu a t3) fun f=>cnd (!f) (some false) (bnd (zE0 fu a t3) fun g=>cnd (!g) (some false) (bnd (rng .i64 (t3+1)) fun b=>(zCh fu a k1) b)))))) ((zBX fu a) fu 0)
def zCx (fu:Nat) (a:zAQ):Option Bool:=cnd (decide (a.Forest.Most<1)) (some false) (cnd (decide (a.Forest.Most>400)) (some false) (cnd (decide ((a.Forest.Nodes.length:Int)<1)) (some false) (cnd (decide ((a.Forest.Nodes.length:Int)>a.Forest.Most)) (some false) (bnd (idx a.Forest.Nodes 0) fun b=>cnd (b.Kind != 0) (some false) ((zCh fu a) fu 0)))))
theorem zGb {fu:Nat} {b:zAQ}:DD (zCx fu b) 120 [.agg (zEn b)] fun r=>Y r:=by
 refine fcI Tryz.func120 U (A [9,30,1,57,6,9,105,26,10,2,131,83,106,26,16,2,125,83,3,35,3,26,23,2,118,83,3,35,106,26,33,2,108,83,3,36] fun n _=>?_)
 refine A [104,0,5,1,59,68,93,77,13] ?_
 refine lw (zCh fu b) [1,44,45] [1] (fun e=>[(46,Z e)]) (fun _=>[]) fu 0 U U ?_
 rintro g e
 refine A [75] ?_
 refine zAF U ?_ ?_
 ·refine A [72,80,36] fun o _=>?_
  refine A [1,31,4,1,12,0,80,41] (fun i _=>?_) zMb
  refine A [2,26,54,2,123,83,2,41] (fun j _=>?_) zNU
  refine A [3,26,60,2,117,83,2,41] (fun k _=>?_) zN6
  refine A [3,26,66,2,111,83,2,41] (fun l _=>?_) zNT
  refine A [3,26,72,2,105,83,2,41] (fun m _=>?_) zMc
  refine A [2,0,5,1,59,4,94] fun c _=>?_
  exact A [89] (tx c)
 ·refine A [86,6,93,77,13] ?_
  refine lw (zBX fu b) [1,82] [1] (fun a=>[(83,Z a)]) (fun _=>[]) fu 0 U U ?_
  rintro h a
  refine A [75,10,2,86,59,72,62,99] (fun f _=>?_) zN5
  refine A [57,5,1,59,4,94] fun d _=>?_
  exact A [89] (tx d)
def zAs (fu:Nat) (a:Forest):Option Bool:=bnd (zCx fu (⟨a⟩:zAQ)) fun b=>some b
theorem zA8 {fu:Nat} {a:Forest}:DD (zAs fu a) 70 [.agg (zAE a)] fun r=>Y r:=by
 refine fcI Tryz.func70 U (A [9,30,1,57,80,20,41] (fun b _=>?_) zGb)
 exact A [57,8]
def zP9 (fu:Nat) (a:Int):Option (Forest×Int):=bnd (zJV fu 0 0) fun b=>bnd (zAs fu (⟨[b],a⟩:Forest)) fun c=>cnd (!c) (some ((⟨[],0⟩:Forest),1)) (some ((⟨[b],a⟩:Forest),0))
theorem zTw {fu:Nat} {a:Int}:DD (zP9 fu a) 65 [Z a] fun r=>.tup [.agg (zAE r.1),Z r.2]:=by
 refine fcI Tryz.func65 U (A [9,31,2,57,9,41] (fun b _=>?_) zNu)
 refine pl ([b].map zAZ) 6 U U U U U U (A [1,20,31,4,12,0,6,80,33,6,41] (fun c _=>?_) zA8)
 refine A [57,10,4,67,80,92,8,9,20,92] ?_
 exact zGG 2 [.sl 10 false ([].map zAZ),Z 0] U ⟨.nil,.rfl,trivial⟩ U rN
def zN7 (fu:Nat) (c a:Bs):Option Int:=cnd (!(a==([]:Bs))) (some 1) (bnd (zC7 fu c) fun b=>cnd b (some 1) (some 0))
theorem zVK {fu:Nat} {b a:Bs}:DD (zN7 fu b a) 113 [O b,O a] fun r=>Z r:=by
 refine fcI Tryz.func113 U (A [75,93,26,7,2,3,83,1,41] (fun c _=>?_) zEv)
 exact A [57,5,1,59,67,59]
def zI2 (fu:Nat) (a:Node):Option State:=cnd (a.Kind==1) (bnd (zN7 fu a.Name a.Is) fun b=>some (⟨b,(-1),(-1),false⟩:State)) (some (⟨0,(-1),(-1),false⟩:State))
theorem zOp {fu:Nat} {a:Node}:DD (zI2 fu a) 66 [.agg (zAZ a)] fun r=>.agg (zBM r):=by
 refine fcI Tryz.func66 U (A [9,30,1,31,2,0,9,20,31,3,12,0,6,93,0,10,4,67,80,12,74,14,104,41] (fun b _=>?_) zVK)
 exact A [1,12,0,80,12,74]
def zDc (_fu:Nat) (a:List (List Todo)):Option (List (List Todo)):=bnd (zDY 24 (([]:List (List Todo)).length+a.length)) fun _=>some (([]:List (List Todo))++a)
theorem zK8 {fu:Nat} {a:List (List Todo)}:FF (zDc fu a) 178 [.sl 1 false (a.map zDF)] [] [] (fun _=>.own 5) fun r=>[(5,.arr 51 1 (r.map zDF))]:=by
 refine fcI Tryz.func178 U (A [75,80] ?_)
 refine zId (T:=tab) U U U U U U fun b d=>?_
 cases b
 ·refine A [0,23,67,9] ?_
  exact pl (([]:List (List Todo)).map zDF) 5 U U U U U U (pq 1 U (pa zDF ([]:List (List Todo)) a U U U U U U U U (zRp _) U U U (A [57,8])))
 ·have c:a=[]:=eZ.1 (d rfl)
  exact zKy (m':=some ([]:List (List Todo))) (by subst c;rfl) (A [0,25,58,56,5,51,1,2,8])
def zD9 (_fu:Nat) (a:List (List Int)):Option (List (List Int)):=bnd (zDY 24 (([]:List (List Int)).length+a.length)) fun _=>some (([]:List (List Int))++a)
theorem zJO {fu:Nat} {a:List (List Int)}:FF (zD9 fu a) 121 [.sl 1 false (a.map zAr)] [] [] (fun _=>.own 5) fun r=>[(5,.arr 32 1 (r.map zAr))]:=by
 refine fcI Tryz.func121 U (A [75,80] ?_)
 refine zId (T:=tab) U U U U U U fun b d=>?_
 cases b
 ·refine A [0,23,67,9] ?_
  exact pl (([]:List (List Int)).map zAr) 5 U U U U U U (pq 1 U (pa zAr ([]:List (List Int)) a U U U U U U U U (zNy _) U U U (A [57,8])))
 ·have c:a=[]:=eZ.1 (d rfl)
  exact zKy (m':=some ([]:List (List Int))) (by subst c;rfl) (A [0,25,58,56,5,32,1,2,8])
def zBe (_fu:Nat) (a:List Int):Option (List Int):=bnd (zDY 8 (([]:List Int).length+a.length)) fun _=>some (([]:List Int)++a)
theorem zFV {fu:Nat} {a:List Int}:FF (zBe fu a) 154 [.sl 1 false (a.map zAB)] [] [] (fun _=>.own 5) fun r=>[(5,.arr 3 1 (r.map zAB))]:=by
 refine fcI Tryz.func154 U (A [75,80] ?_)
 refine zId (T:=tab) U U U U U U fun b d=>?_
 cases b
 ·refine A [0,23,67,9] ?_
  exact pl (([]:List Int).map zAB) 5 U U U U U U (pq 1 U (pa zAB ([]:List Int) a U U U U U U U U (zDE _) U U U (A [57,8])))
 ·have c:a=[]:=eZ.1 (d rfl)
  exact zKy (m':=some ([]:List Int)) (by subst c;rfl) (A [0,25,58,56,5,3,1,2,8])
def zK4 (fu:Nat) (l1:Line):Option Line:=bnd (zDc fu l1.Todos) fun a=>bnd (zD9 fu l1.Stack) fun b=>bnd (zBe fu l1.Back) fun c=>some (⟨a,b,c,l1.Busy⟩:Line)
theorem zRS {fu:Nat} {l1:Line}:FF (zK4 fu l1) 114 [.agg (zPf l1)] [] [] (fun r=>.agg [.own 2050,.own 2080,.own 2110,Y r.Busy]) fun r=>[(2050,.arr 51 1 (r.Todos.map zDF)),(2080,.arr 32 1 (r.Stack.map zAr)),(2110,.arr 3 1 (r.Back.map zAB))]:=by
 refine fcI Tryz.func114 U (A [9,30,1,31,2,0,6,52,2,2,1,2,2,1,53,15,0,1,3,0,8,31,0,64,255,223,1023,2047,4095,8191,16383,202,55,1,2,8,10,4101] (fun a _=>?_) zK8 [(5,2050)] [2050])
 refine A [202,55,1,2,14,16,4161] (fun b _=>?_) zJO [(5,2080)] [2080]
 refine A [202,55,1,2,20,22,4221] (fun c _=>?_) zFV [(5,2110)] [2110]
 exact A [201,50,4,1,3,10,24,4101,3,201,50,4,1,3,16,26,4161,3,201,50,4,1,3,22,28,4221,3,79,80,12,74]
def zJs (fu:Nat) (l1:Line):Option Line:=bnd (zK4 fu l1) fun a=>bnd (zDY 24 (a.Todos.length+([[]]:List (List Todo)).length)) fun _=>some ({a with Todos:=(a.Todos++[[]])}:Line)
theorem zQC {fu:Nat} {l1:Line}:DD (zJs fu l1) 67 [.agg (zPf l1)] fun r=>.agg (zPf r):=by
 refine fcI Tryz.func67 U (A [9,30,1,31,2,0,80,43] (fun a _=>?_) zRS [(2050,2040),(2080,2041),(2110,2042)] [2040,2041,2042])
 refine A [12,0,61] ?_
 exact pl ([[.v (.slice none 0 0)]]) 7 U U U U U U (zhC 7 (([[]]:List (List Todo)).map zDF) U U U (pa zDF a.Todos ([[]]:List (List Todo)) U U U U U U U U (zRp _) U U U (A [1,12,0,80,12,0,34,2040,34,2041,34,2042,8])))
def zHg (_fu:Nat) (a:List Class):Option (List Class):=bnd (zDY 104 (([]:List Class).length+a.length)) fun _=>some (([]:List Class)++a)
theorem zK9 {fu:Nat} {a:List Class}:FF (zHg fu a) 68 [.sl 5 false (a.map zBh)] [] [] (fun _=>.own 5) fun r=>[(5,.arr 70 5 (r.map zBh))]:=by
 refine fcI Tryz.func68 U (A [75,80] ?_)
 refine zId (T:=tab) U U U U U U fun b d=>?_
 cases b
 ·refine A [0,23,67,9] ?_
  exact pl (([]:List Class).map zBh) 5 U U U U U U (pq 1 U (pa zBh ([]:List Class) a U U U U U U U U (zZb _) U U U (A [57,8])))
 ·have c:a=[]:=eZ.1 (d rfl)
  exact zKy (m':=some ([]:List Class)) (by subst c;rfl) (A [0,25,58,56,5,70,5,2,8])
def zDr (fu:Nat) (b:Bs):Option Bool:=bnd (zGM fu b) fun a=>cnd (a.2 != 0) (some true) (some (!(a.1==b)))
theorem zOn {fu:Nat} {a:Bs}:DD (zDr fu a) 179 [O a] fun r=>Y r:=by
 refine fcI Tryz.func179 U (A [58,80,41] (fun b _=>?_) zIC)
 exact A [105,0,93,26,12,2,105,74,105,74]
def zBP (b:Bs->Option Bool) (a:List Bs):Nat->Int->Option Int
 | 0,_=>none
 | k1+1,t2=>cnd (decide (t2<(a.length:Int))) (bnd (idx a t2) fun e=>bnd (b e) fun d=>cnd d (some t2) (bnd (rng .i64 (t2+1)) fun c=>(zBP b a k1) c)) (some (-1))
def zEx (fu:Nat) (b:Bs->Option Bool) (a:List Bs):Option Int:=(zBP b a) fu 0
theorem zKO {fu:Nat} {a:List Bs}:DD (zEx fu (fun b=>zDr fu b) a) 243 [.sl 1 false (a.map zQ6),.fn (.func 179) [] []] fun r=>Z r:=by
 refine fcI Tryz.func243 U (A [75,80,77,13] ?_)
 refine lw (zBP (fun b=>zDr fu b) a) [0,1,7] [] (fun c=>[(8,Z c)]) (fun _=>[]) fu 0 U U ?_
 rintro e c
 refine A [75,10,2,86,59,72,62,93,36] fun g _=>?_
 refine A [1,44] (fun f _=>?_) zOn []
 refine A [0,5,2,62,8,4,94] fun d _=>?_
 exact A [89] (tx d)
def zCV (fu:Nat) (c:Bs->Option Bool) (b:List Bs):Option Bool:=bnd (zEx fu c b) fun a=>some (decide (a>=0))
theorem zJG {fu:Nat} {a:List Bs}:DD (zCV fu (fun b=>zDr fu b) a) 182 [.sl 1 false (a.map zQ6),.fn (.func 179) [] []] fun r=>Y r:=by
 refine fcI Tryz.func182 U (A [58,99] (fun c _=>?_) zKO)
 exact A [2,74]
def zHN (_fu:Nat) (l1:List Op):Option Bool:=some (decide ((l1.length:Int)>60))
theorem zLz {fu:Nat} {l1:List Op}:DD (zHN fu l1) 181 [.sl 7 false (l1.map cOp)] fun r=>Y r:=by
 exact fcI Tryz.func181 U (A [58,80,35,2,74])
def zDs (fu:Nat) (a:Hook):Option Bool:=cnd (decide (a.Kind<1)) (some true) (cnd (decide (a.Kind>8)) (some true) (bnd (zHN fu a.Do) fun b=>some b))
theorem zOo {fu:Nat} {a:Hook}:DD (zDs fu a) 180 [.agg (zJI a)] fun r=>Y r:=by
 refine fcI Tryz.func180 U (A [9,30,1,57,76,26,6,2,110,74,105,26,11,2,105,74,2,41] (fun b _=>?_) zLz)
 exact A [2,74]
def zBD (b:Hook->Option Bool) (a:List Hook):Nat->Int->Option Int
 | 0,_=>none
 | k1+1,t2=>cnd (decide (t2<(a.length:Int))) (bnd (idx a t2) fun e=>bnd (b e) fun d=>cnd d (some t2) (bnd (rng .i64 (t2+1)) fun c=>(zBD b a k1) c)) (some (-1))
def zEL (fu:Nat) (b:Hook->Option Bool) (a:List Hook):Option Int:=(zBD b a) fu 0
theorem zJy {fu:Nat} {a:List Hook}:DD (zEL fu (fun b=>zDs fu b) a) 244 [.sl 2 false (a.map zJI),.fn (.func 180) [] []] fun r=>Z r:=by
 refine fcI Tryz.func244 U (A [75,80,77,13] ?_)
 refine lw (zBD (fun b=>zDs fu b) a) [0,1,7] [] (fun c=>[(8,Z c)]) (fun _=>[]) fu 0 U U ?_
 rintro e c
 refine A [75,10,2,86,59,72,62,93,36] fun g _=>?_
 refine A [1,44] (fun f _=>?_) zOo []
 refine A [0,5,2,62,8,4,94] fun d _=>?_
 exact A [89] (tx d)
def zCD (fu:Nat) (c:Hook->Option Bool) (b:List Hook):Option Bool:=bnd (zEL fu c b) fun a=>some (decide (a>=0))
theorem zIv {fu:Nat} {a:List Hook}:DD (zCD fu (fun b=>zDs fu b) a) 183 [.sl 2 false (a.map zJI),.fn (.func 180) [] []] fun r=>Y r:=by
 refine fcI Tryz.func183 U (A [58,99] (fun c _=>?_) zJy)
 exact A [2,74]
def zHn (fu:Nat) (a:Class):Option Bool:=cnd (decide ((a.Watch.length:Int)<=12)) (bnd (zCV fu (fun b=>zDr fu b) a.Watch) fun c=>cnd (!c) (cnd (decide ((a.Hooks.length:Int)<=12)) (bnd (zCD fu (fun b=>zDs fu b) a.Hooks) fun d=>cnd (!d) (bnd (zHN fu a.Peek) fun e=>cnd (!e) (bnd (zHN fu a.Make) fun f=>some (!f)) (some false)) (some false)) (some false)) (some false)) (some false)
theorem zQm {fu:Nat} {a:Class}:DD (zHn fu a) 116 [.agg (zBh a)] fun r=>Y r:=by
 refine fcI Tryz.func116 U (A [9,30,1,57,58,58,61,35,2,27,9,2,132,74,3,41] (fun b _=>?_) zJG)
 refine A [3,27,16,2,125,74,2,35,3,27,22,2,119,74,3,41] (fun c _=>?_) zIv
 refine A [3,27,29,2,112,74,2,41] (fun d _=>?_) zLz
 refine A [3,27,35,2,106,74,2,41] (fun e _=>?_) zLz
 exact A [3,74]
def zBu (fu:Nat) (a:Class):Option Bool:=bnd (zHn fu a) fun b=>some (!b)
theorem zLD {fu:Nat} {a:Class}:DD (zBu fu a) 115 [.agg (zBh a)] fun r=>Y r:=by
 refine fcI Tryz.func115 U (A [9,30,1,57,80,41] (fun b _=>?_) zQm)
 exact A [2,74]
def zA1 (b:Class->Option Bool) (a:List Class):Nat->Int->Option Int
 | 0,_=>none
 | k1+1,t2=>cnd (decide (t2<(a.length:Int))) (bnd (idx a t2) fun e=>bnd (b e) fun d=>cnd d (some t2) (bnd (rng .i64 (t2+1)) fun c=>(zA1 b a k1) c)) (some (-1))
def zEB (fu:Nat) (b:Class->Option Bool) (a:List Class):Option Int:=(zA1 b a) fu 0
theorem zJY {fu:Nat} {a:List Class}:DD (zEB fu (fun b=>zBu fu b) a) 184 [.sl 5 false (a.map zBh),.fn (.func 115) [] []] fun r=>Z r:=by
 refine fcI Tryz.func184 U (A [75,80,77,13] ?_)
 refine lw (zA1 (fun b=>zBu fu b) a) [0,1,7] [] (fun c=>[(8,Z c)]) (fun _=>[]) fu 0 U U ?_
 rintro e c
 refine A [75,10,2,86,59,72,62,93,36] fun g _=>?_
 refine A [1,44] (fun f _=>?_) zLD []
 refine A [0,5,2,62,8,4,94] fun d _=>?_
 exact A [89] (tx d)
def zB3 (fu:Nat) (c:Class->Option Bool) (b:List Class):Option Bool:=bnd (zEB fu c b) fun a=>some (decide (a>=0))
theorem zIG {fu:Nat} {a:List Class}:DD (zB3 fu (fun b=>zBu fu b) a) 118 [.sl 5 false (a.map zBh),.fn (.func 115) [] []] fun r=>Y r:=by
 refine fcI Tryz.func118 U (A [58,99] (fun c _=>?_) zJY)
 exact A [2,74]
def zBv (_fu:Nat) (b:Def) (a:zAI):Option Bool:=some (decide (b.Class>=(a.World.Classes.length:Int)))
theorem zLE {fu:Nat} {b:Def} {a:zAI}:FF (zBv fu b a) 117 [.agg (zQn b),.loc 900000 0] [(900000,.box 94 (zBb a.World))] [900000] (fun r=>Y r) fun _=>[(900000,.box 94 (zBb a.World))]:=by
 exact fcI Tryz.func117 U (A [73,57,9,105,35,2,74])
def zBO (b:Def->Option Bool) (a:List Def):Nat->Int->Option Int
 | 0,_=>none
 | k1+1,t3=>cnd (decide (t3<(a.length:Int))) (bnd (idx a t3) fun e=>bnd (b e) fun d=>cnd d (some t3) (bnd (rng .i64 (t3+1)) fun c=>(zBO b a k1) c)) (some (-1))
def zEw (fu:Nat) (b:Def->Option Bool) (a:List Def):Option Int:=(zBO b a) fu 0
theorem zKH {fu:Nat} {b:List Def} {a:zAI}:FF (zEw fu (fun c=>zBv fu c a) b) 185 [.sl 3 false (b.map zQn),.fn (.func 117) [] [.loc 900000 0]] [(900000,.box 94 (zBb a.World))] [900000] (fun r=>Z r) fun _=>[(900000,.box 94 (zBb a.World))]:=by
 refine fcI Tryz.func185 U (A [75,80,77,13] ?_)
 refine lw (zBO (fun c=>zBv fu c a) b) [0,1,7] [900000] (fun d=>[(8,Z d)]) (fun _=>[]) fu 0 U U ?_
 rintro f d
 refine A [75,10,2,86,59,72,62,93,36] fun h _=>?_
 refine A [1,44] (fun g _=>?_) zLE [(900000,900000)]
 refine A [0,5,2,62,8,4,94] fun e _=>?_
 exact A [89] (tx e)
def zCT (fu:Nat) (c:Def->Option Bool) (b:List Def):Option Bool:=bnd (zEw fu c b) fun a=>some (decide (a>=0))
theorem zJB {fu:Nat} {b:List Def} {a:zAI}:FF (zCT fu (fun c=>zBv fu c a) b) 119 [.sl 3 false (b.map zQn),.fn (.func 117) [] [.loc 900000 0]] [(900000,.box 94 (zBb a.World))] [900000] (fun r=>Y r) fun _=>[(900000,.box 94 (zBb a.World))]:=by
 refine fcI Tryz.func119 U (A [58,61,44] (fun d _=>?_) zKH [(900000,900000)])
 exact A [2,74]
def zEi (fu:Nat) (a:zAI):Option Bool:=cnd (decide ((a.World.Classes.length:Int)<=12)) (bnd (zB3 fu (fun b=>zBu fu b) a.World.Classes) fun c=>cnd (!c) (bnd (zCT fu (fun b=>zBv fu b a) a.World.Desk.Defs) fun d=>some (!d)) (some false)) (some false)
theorem zMP {fu:Nat} {a:zAI}:DD (zEi fu a) 69 [.agg (zEo a)] fun r=>Y r:=by
 refine fcI Tryz.func69 U (A [9,30,1,57,58,62,93,35,2,27,11,2,117,74,104,41] (fun b _=>?_) zIG)
 refine A [3,27,19,2,109,74,105,44] (fun c _=>?_) zJB [(900000,1)]
 exact A [3,74]
def zFD (fu:Nat):Option (List Bs):=bnd (zQ8 fu ([97,32,98,32,98,117,116,116,111,110,32,100,105,118,32,102,105,101,108,100,115,101,116,32,102,111,114,109,32,105,32,105,110,112,117,116,32,108,97,98,101,108,32,108,101,103,101,110,100,32,108,105,32,111,112,116,105,111,110,32,111,117,116,112,117,116,32,112,32,115,101,108,101,99,116,32,115,112,97,110,32,116,101,109,112,108,97,116,101,32,116,101,120,116,97,114,101,97,32,117,108]:Bs)) fun a=>some a
theorem zT2 {fu:Nat}:DD (zFD fu) 238 [] fun r=>.sl 1 false (r.map zQ6):=by
 refine fcI Tryz.func238 U (A [58,9] ?_)
 exact pk (zVn fu ([97,32,98,32,98,117,116,116,111,110,32,100,105,118,32,102,105,101,108,100,115,101,116,32,102,111,114,109,32,105,32,105,110,112,117,116,32,108,97,98,101,108,32,108,101,103,101,110,100,32,108,105,32,111,112,116,105,111,110,32,111,117,116,112,117,116,32,112,32,115,101,108,101,99,116,32,115,112,97,110,32,116,101,109,112,108,97,116,101,32,116,101,120,116,97,114,101,97,32,117,108]:Bs)) U U fun a _=>A [57,8]
def zKZ (fu:Nat) (c:Bs):Option Bool:=bnd (zFD fu) fun a=>bnd (zBB fu a c) fun b=>some b
theorem zT1 {fu:Nat} {b:Bs}:DD (zKZ fu b) 171 [O b] fun r=>Y r:=by
 refine fcI Tryz.func171 U (A [58,9] ?_)
 refine zKx (enc:=fun (a:(List Bs))=>.sl 1 false (a.map zQ6)) (qs:=[]) zT2 U U trivial (fun _=>U) zgO U U fun a _=>A [1,41] (fun c _=>?_) zC8
 exact A [57,8]
def zIg (fu:Nat) (t2:Int) (c:List (Int×Int)) (l4:List (Bs×Int)) (a:Def) (d:(Int×(List (Int×Int))×(List (Bs×Int)))->Option (zCt×Bool)) (b:Bool):Option (zCt×Bool):=bnd (zC7 fu a.Name) fun f=>cnd (!f) (some ((⟨(zHP l4 a.Name t2),(zHP c a.Class t2)⟩:zCt),false)) (cnd (!b) (some ((⟨(zHP l4 a.Name t2),(zHP c a.Class t2)⟩:zCt),false)) (cnd (decide (a.Class<0)) (some ((⟨(zHP l4 a.Name t2),(zHP c a.Class t2)⟩:zCt),false)) (cnd (decide (a.Class>=12)) (some ((⟨(zHP l4 a.Name t2),(zHP c a.Class t2)⟩:zCt),false)) (bnd (rng .i64 (t2+1)) fun e=>d (e,(zHP c a.Class t2),(zHP l4 a.Name t2))))))
def zEY (fu:Nat) (a:Desk):Nat->Int×(List (Int×Int))×(List (Bs×Int))->Option (zCt×Bool)
 | 0,_=>none
 | k1+1,(t2,l3,l4)=>cnd (decide (t2<(a.Defs.length:Int))) (bnd (idx a.Defs t2) fun b=>cnd (b.Local==b.Name) ((zIg fu t2 l3 l4 b (zEY fu a k1)) true) (bnd (zKZ fu b.Local) fun c=>(zIg fu t2 l3 l4 b (zEY fu a k1)) c)) (cnd ((l4.length:Int)==(a.Defs.length:Int)) (some ((⟨l4,l3⟩:zCt),((l3.length:Int)==(a.Defs.length:Int)))) (some ((⟨l4,l3⟩:zCt),false)))
def zLi (fu:Nat) (a:Desk):Option (zCt×Bool):=(zEY fu a) fu (0,([]:(List (Int×Int))),([]:(List (Bs×Int))))
theorem zVH {fu:Nat} {c:Desk}:FF (zLi fu c) 108 [.agg (zI4 c)] [] [] (fun r=>.tup [.agg [.own 8,.own 9],Y r.2]) fun r=>[(8,.mp (r.1.names.map fun p:Bs×Int=>(zNm p.1,Z p.2))),(9,.mp (r.1.classes.map fun p:Int×Int=>(zOa .i64 p.1,Z p.2)))]:=by
 refine fcI Tryz.func108 U (A [9,30,1,31,2,57,9] ?_)
 refine zIQ 8 U U U U U U U (zIQ 9 U U U U U U U (A [20,31,4,12,0,6,61,77,13] ?_))
 refine lw (zEY fu c) [1,2,4,12,13] [4,2,1] (fun (b,d,e)=>[(14,Z b)]) (fun (b,d,e)=>[(9,.mp (d.map fun p:Int×Int=>(zOa .i64 p.1,Z p.2))),(8,.mp (e.map fun p:Bs×Int=>(zNm p.1,Z p.2)))]) fu (0,([]:(List (Int×Int))),([]:(List (Bs×Int)))) U U ?_
 rintro i ⟨b,d,e⟩
 refine A [75] ?_
 refine zAF U ?_ ?_
 ·refine A [72,80,36] fun f _=>?_
  refine A [1,31,6,1,12,0,6,52,8,6,1,2,4,12,13,14,6,5,6,4,9,8,2,1,53,12,0,1,0,4,0,16,0,64,0,0,271,2047,210] ?_
  refine vS [17,40,44,54] [17] [] U U (zGF zJc (fun v=>Z v) e f.Name b Tryz.underlying142 Tryz.underlying9 U U U U U U U U U (pyq U)) U U (vS [19,48,52,56] [19] [] U U (zGF (zKi .i64) (fun v=>Z v) d f.Class b Tryz.underlying143 Tryz.underlying3 U U U U U U U U U (pyq U)) U U (A [79,9] ?_))
  refine zNO (zIg fu b d e f (zEY fu c i)) (fun (a:Bool)=>[(1,.loc 1 0),(2,.loc 2 0),(4,.loc 4 0),(6,.loc 6 0),(7,Y a),(12,.sl 3 false (c.Defs.map zQn)),(13,Z (c.Defs.length:Int)),(14,Z b)]) (fun (a:Bool)=>[(6,.box 88 (zQn f)),(4,.box 145 [.own 8,.own 9]),(9,.mp ((zHP d f.Class b).map fun p:Int×Int=>(zOa .i64 p.1,Z p.2))),(8,.mp ((zHP e f.Name b).map fun p:Bs×Int=>(zNm p.1,Z p.2))),(2,.box 145 [.v (.map none),.v (.map none)]),(1,.box 29 (zI4 c))]) ?_ fun g=>?_
  ·rintro a
   refine A [7,99] (fun l _=>?_) zEv
   refine A [2,26,43,5,113,65,80,92,8,104,26,47,5,109,65,80,92,8,105,26,52,5,104,65,80,92,8,104,0,5,3,80,92,8,4,94] fun h _=>?_
   exact A [89] (tx (h,(zHP d f.Class b),(zHP e f.Name b)))
  ·refine pq 6 U (zAW (j:=34) U ?_ ?_)
   ·exact A [105,11,45] (g true)
   ·refine A [2,41] (fun k _=>?_) zT1
    exact A [2,11,45] (g k)
 ·refine A [86,6,52,3,5,1,2,4,4,9,8,2,1,53,19,0,0,2,6,0,16,48,126,254,510,1022,2046,510,4606,12798,32766,65534,4095,262143,203] ?_
  refine vS [17,122] [124] [] U U (zPy (zNm) (fun v=>Z v) e Tryz.underlying142 U U U U U U U U (pyq U)) U U (vq 2 U (by kernel_rfl) (vS [128] [130] [] U U (zPL (T:=tab) zQn c.Defs U U U U U U U U (pyq U)) U U (vq 2 U (by kernel_rfl) (zA3 (t:=67) U ?_ ?_))))
  ·exact vq 2 U (by kernel_rfl) (vS [19,134,138] [140] [] U U (zPy (zOa .i64) (fun v=>Z v) d Tryz.underlying143 U U U U U U U U (pyq U)) U U (vq 2 U (by kernel_rfl) (vS [134,144] [146] [] U U (zPL (T:=tab) zQn c.Defs U U U U U U U U (pyq U)) U U (A [202,50,5,1,4,5,17,19,118,5,201,79,8]))))
  ·exact A [208,50,5,1,4,5,17,19,118,5,201,79,8]
def zDj (fu:Nat) (a:Desk) (b:zCt×Bool):Nat->Bool×Int×Int->Option (zCt×Bool)
 | 0,_=>none
 | k1+1,(ok3,last4,t5)=>cnd (decide (t5<(a.Waits.length:Int))) (bnd (idx a.Waits t5) fun c=>cnd ok3 (cnd (!(zLS b.1.names c.Name)) (bnd (zC7 fu c.Name) fun i=>cnd i (cnd (decide (c.Ticket>last4)) (bnd (rng .i64 (t5+1)) fun g=>(zDj fu a b k1) ((decide (c.Ticket<a.Next)),c.Ticket,g)) (bnd (rng .i64 (t5+1)) fun h=>(zDj fu a b k1) (false,c.Ticket,h))) (bnd (rng .i64 (t5+1)) fun d=>(zDj fu a b k1) (false,c.Ticket,d))) (bnd (rng .i64 (t5+1)) fun e=>(zDj fu a b k1) (false,c.Ticket,e))) (bnd (rng .i64 (t5+1)) fun f=>(zDj fu a b k1) (false,c.Ticket,f))) (cnd ok3 (cnd (decide (a.Next>=0)) (some (b.1,(decide (a.Next<=100000)))) (some (b.1,false))) (some (b.1,false)))
def zH6 (fu:Nat) (a:Desk):Option (zCt×Bool):=bnd (zLi fu a) fun b=>(zDj fu a b) fu (b.2,(-1),0)
theorem zMY {fu:Nat} {d:Desk}:FF (zH6 fu d) 63 [.agg (zI4 d)] [] [] (fun r=>.tup [.agg [.own 2130,.own 2131],Y r.2]) fun r=>[(2130,.mp (r.1.names.map fun p:Bs×Int=>(zNm p.1,Z p.2))),(2131,.mp (r.1.classes.map fun p:Int×Int=>(zOa .i64 p.1,Z p.2)))]:=by
 refine fcI Tryz.func63 U (A [9,30,1,31,2,57,80,43] (fun h _=>?_) zVH [(8,2130),(9,2131)] [2130,2131])
 refine A [3,31,4,92,75,61,77,13] ?_
 refine lw (zDj fu d h) [1,2,4,17,18] [4,2130,2131,2,1] (fun (c,a,i)=>[(5,Y c),(6,Z a),(19,Z i)]) (fun _=>[]) fu (h.2,(-1),0) U U ?_
 rintro m ⟨c,a,i⟩
 refine A [75] ?_
 refine zAF U ?_ ?_
 ·refine A [72,9,36] fun b _=>?_
  refine A [1,31,8,12,0,76] ?_
  refine zIP (T:=tab) zJc (fun v=>Z v) h.1.names b.Name 0 Tryz.underlying142 Tryz.underlying9 U U U U U U U U U (A [105,0,61] ?_)
  refine zAW (j:=32) U ?_ ?_
  ·refine pq 4 U (zAW (j:=36) U ?_ ?_)
   ·refine A [2,41] (fun n _=>?_) zEv
    refine pq 2 U (zAW (j:=41) U ?_ ?_)
    ·refine pq 6 U (zAW (j:=47) U ?_ ?_)
     ·refine A [107,0,14,3,11,94] fun k _=>?_
      exact A [89] (tx ((decide (b.Ticket<d.Next)),b.Ticket,k))
     ·refine A [107,0,14,3,11,94] fun l _=>?_
      exact A [89] (tx (false,b.Ticket,l))
    ·refine A [113,0,14,3,11,94] fun e _=>?_
     exact A [89] (tx (false,b.Ticket,e))
   ·refine A [118,0,14,3,11,94] fun f _=>?_
    exact A [89] (tx (false,b.Ticket,f))
  ·refine A [122,0,14,3,11,94] fun g _=>?_
   exact A [89] (tx (false,b.Ticket,g))
 ·refine A [86,6,52,4,5,1,2,4,5,4,2130,2131,2,1,53,14,0,0,2,6,14,30,62,126,254,510,1022,2046,255,8191,203] ?_
  refine zA3 (t:=59) U ?_ ?_
  ·refine vq 5 U (by kernel_rfl) (zA3 (t:=64) U ?_ ?_)
   ·exact A [204,50,5,1,4,5,114,4261,4263,5,201,79,8]
   ·exact A [204,50,5,1,4,5,114,4261,4263,5,201,79,8]
  ·exact A [209,50,5,1,4,5,114,4261,4263,5,201,79,8]
def zHD (fu:Nat) (a:Desk):Option Bool:=bnd (zH6 fu a) fun b=>some b.2
theorem zLh {fu:Nat} {a:Desk}:DD (zHD fu a) 71 [.agg (zI4 a)] fun r=>Y r:=by
 refine fcI Tryz.func71 U (A [9,30,1,57,80,43] (fun b _=>?_) zMY [(2130,2070),(2131,2071)] [2070,2071])
 exact A [3,31,3,92,62,8]
def zMd (_fu:Nat) (l1:Line) (a:Int):Option Bool:=cnd (decide (a>=0)) (some (decide (a<(l1.Todos.length:Int)))) (some false)
theorem zSz {fu:Nat} {l1:Line} {a:Int}:DD (zMd fu l1 a) 122 [.agg (zPf l1),Z a] fun r=>Y r:=by
 exact fcI Tryz.func122 U (A [73,57,93,26,7,4,3,35,3,74,107,74])
def zFS (fu:Nat) (l1:Line) (c:Int) (b:List Int) (a:Int->Option Bool):Nat->Int->Option Bool
 | 0,_=>none
 | k2+1,t5=>cnd (decide (t5<(b.length:Int))) (bnd (idx b t5) fun g=>bnd (zMd fu l1 g) fun f=>cnd (!f) (some false) (bnd (rng .i64 (t5+1)) fun d=>(zFS fu l1 c b a k2) d)) (bnd (rng .i64 (c+1)) fun e=>a e)
def zFR (fu:Nat) (l1:Line) (a:List (List Int)):Nat->Int->Option Bool
 | 0,_=>none
 | k1+1,t3=>cnd (decide (t3<((a++[l1.Back]).length:Int))) (bnd (idx (a++[l1.Back]) t3) fun b=>(zFS fu l1 t3 b (zFR fu l1 a k1)) fu 0) (some true)
def zIi (fu:Nat) (l1:Line):Option Bool:=bnd (zD9 fu l1.Stack) fun a=>bnd (zDY 24 (a.length+([l1.Back]:List (List Int)).length)) fun _=>(zFR fu l1 a) fu 0
theorem zOd {fu:Nat} {l1:Line}:DD (zIi fu l1) 72 [.agg (zPf l1)] fun r=>Y r:=by
 refine fcI Tryz.func72 U (A [9,30,1,57,6,6,52,1,1,1,1,53,9,0,1,3,0,8,24,63,127,0,202,55,1,2,16,18,4181] (fun a _=>?_) zJO [(5,2090)] [2090])
 refine vq 2 U (by kernel_rfl) (vS [22] [24,25] [12] U U (pl ([l1.Back].map zAr) 12 U U U U U U (pyq U)) U U (vU [18,24,25,4181] [26,18,4181] [2090] U U (pa zAr a ([l1.Back]:List (List Int)) U U U U U U U U (zNy _) U U U (pyq U)) U U fun _ _=>vS [26,4181] [28] [] U U (zTY (T:=tab) zAr (a++[l1.Back]) U U U U U U U U U (pyq U)) U U (A [201,79,13] ?_)))
 refine lw (zFR fu l1 a) [1,13,14] [2090,1] (fun c=>[(15,Z c)]) (fun _=>[]) fu 0 U U ?_
 rintro h c
 refine A [75,10,2,86,59,72,9,38] fun e b=>?_
 refine zAv (T:=tab) zAr (a++[l1.Back]) e (zAy b) U U U U U U U U (A [57,80,77,13] ?_)
 refine lw (zFS fu l1 c e (zFR fu l1 a h)) [1,13,14,15,19,20] [2090,1] (fun d=>[(21,Z d)]) (fun _=>[]) fu 0 U U ?_
 rintro i d
 refine A [75] ?_
 refine zAF U ?_ ?_
 ·refine A [72,9,36] fun k _=>?_
  refine A [2,0,99] (fun j _=>?_) zSz
  refine A [57,5,1,59,4,94] fun f _=>?_
  exact A [89] (tx f)
 ·refine A [17,94] fun g _=>?_
  exact A [89] (tx g)
def zEk (_fu:Nat) (b:zAI) (a:Int):Option Bool:=cnd (decide (a>=0)) (some (decide (a<(b.World.Forest.Nodes.length:Int)))) (some false)
theorem zG9 {fu:Nat} {b:zAI} {a:Int}:DD (zEk fu b a) 123 [.agg (zEo b),Z a] fun r=>Y r:=by
 exact fcI Tryz.func123 U (A [73,57,93,26,7,4,105,35,3,74,109,74])
def zCO (_fu:Nat) (b:zAI) (a:Int):Option Bool:=cnd (decide (a>=0)) (some (decide (a<(b.World.Desk.Defs.length:Int)))) (some false)
theorem zDO {fu:Nat} {b:zAI} {a:Int}:DD (zCO fu b a) 124 [.agg (zEo b),Z a] fun r=>Y r:=by
 exact fcI Tryz.func124 U (A [73,57,93,26,7,4,105,35,3,74,109,74])
def zCp (fu:Nat) (e:zAI) (c:State) (a d:Bool):Option Bool:=cnd d (cnd a (cnd (c.Def==(-1)) (some true) (bnd (zCO fu e c.Def) fun b=>some b)) (some false)) (some false)
def zDX (fu:Nat) (c:zAI) (b:State) (a e:Bool):Option Bool:=cnd e (cnd a (bnd (zCO fu c b.Def) fun d=>some d) (some false)) (cnd (b.Phase==0) ((zCp fu c b a) (b.Phase==0)) (cnd (b.Phase==1) ((zCp fu c b a) (b.Phase==1)) ((zCp fu c b a) (b.Phase==4))))
def zDW (fu:Nat) (c:zAI) (b:State) (a:Bool):Option Bool:=cnd (b.Phase==2) ((zDX fu c b a) (b.Phase==2)) ((zDX fu c b a) (b.Phase==3))
def zFe (fu:Nat) (a:zAI) (c:Int):Option Bool:=bnd (idx a.World.States c) fun b=>bnd (idx a.World.Forest.Nodes c) fun e=>cnd (e.Kind != 1) (some (zRy b (⟨0,(-1),(-1),false⟩:State))) (cnd (b.Owner==(-1)) ((zDW fu a b) true) (bnd (zEk fu a b.Owner) fun d=>(zDW fu a b) d))
theorem zNl {fu:Nat} {d:zAI} {g:Int}:DD (zFe fu d g) 73 [.agg (zEo d),Z g] fun r=>Y r:=by
 refine fcI Tryz.func73 U (A [73,57,76,36] fun b _=>?_)
 refine A [1,31,5,12,0,6,9,105,36] fun n _=>?_
 refine A [3,0] ?_
 refine zAF U ?_ ?_
 ·refine A [80,20] ?_
  exact po_eq zfe U U U U U U U (A [57,8])
 ·refine A [67,9] ?_
  refine zNO (zDW fu d b) (fun (a:Bool)=>[(2,.loc 2 0),(5,.loc 5 0),(6,Y a)]) (fun (a:Bool)=>[(5,.box 53 (zBM b)),(2,.box 94 (zBb d.World))]) ?_ fun e=>?_
  ·rintro a
   refine A [7,6,62,13,6,62] ?_
   refine jw (zDX fu d b a) [2,5,6,35] [5,2] (fun h=>[(36,Y h)]) (fun _=>[]) U U ?_ fun f=>?_
   ·rintro h
    refine zJR (zAF U ?_ ?_)
    ·refine A [61,27,40,2,106,74,3,41] (fun m _=>?_) zDO
     exact A [2,74]
    ·refine A [6,62] ?_
     refine jw (zCp fu d b a) [2,5,6] [5,2] (fun i=>[(46,Y i)]) (fun _=>[]) U U ?_ fun c=>?_
     ·rintro i
      refine A [7,10,3,4,69,59,61,27,51,2,111,74,104,26,55,2,107,74,3,41] (fun k _=>?_) zDO
      exact A [3,74]
     ·refine zAF U ?_ ?_
      ·exact A [4,45] (c (b.Phase==0))
      ·refine A [62] ?_
       refine zAF U ?_ ?_
       ·exact A [4,45] (c (b.Phase==1))
       ·exact A [14,2,11,45] (c (b.Phase==4))
   ·refine zAF U ?_ ?_
    ·exact A [4,45] (f (b.Phase==2))
    ·exact A [14,2,11,45] (f (b.Phase==3))
  ·refine pq 4 U (zAW (j:=28) U ?_ ?_)
   ·exact A [106,11,45] (e true)
   ·refine A [3,41] (fun l _=>?_) zG9
    exact A [2,11,45] (e l)
def zEl (fu:Nat) (a:zAI) (t2:Todo):Option Bool:=cnd (decide (t2.Kind>=1)) (cnd (decide (t2.Kind<9)) (some true) (cnd (t2.Kind==9) (bnd (zCO fu a t2.Def) fun b=>some b) (some false))) (cnd (t2.Kind==9) (bnd (zCO fu a t2.Def) fun c=>some c) (some false))
theorem zJ4 {fu:Nat} {a:zAI} {t2:Todo}:DD (zEl fu a t2) 76 [.agg (zEo a),.agg (zJK t2)] fun r=>Y r:=by
 refine fcI Tryz.func76 U (A [73,30,3,57,76] ?_)
 refine zAW (j:=8) U ?_ ?_
 ·refine A [105,26,13,2,111,74,104,27,17,2,107,74,3,41] (fun b _=>?_) zDO
  exact A [3,74]
 ·refine A [109,27,17,2,107,74,3,41] (fun c _=>?_) zDO
  exact A [3,74]
def zCP (fu:Nat) (c:Todo) (a:zAI):Option Bool:=bnd (zEl fu a c) fun b=>some (!b)
theorem zMR {fu:Nat} {b:Todo} {a:zAI}:FF (zCP fu b a) 75 [.agg (zJK b),.loc 900000 0] [(900000,.box 94 (zBb a.World))] [900000] (fun r=>Y r) fun _=>[(900000,.box 94 (zBb a.World))]:=by
 refine fcI Tryz.func75 U (A [73,57,99] (fun c _=>?_) zJ4)
 exact A [2,74]
def zBF (b:Todo->Option Bool) (a:List Todo):Nat->Int->Option Int
 | 0,_=>none
 | k1+1,t3=>cnd (decide (t3<(a.length:Int))) (bnd (idx a t3) fun e=>bnd (b e) fun d=>cnd d (some t3) (bnd (rng .i64 (t3+1)) fun c=>(zBF b a k1) c)) (some (-1))
def zEN (fu:Nat) (b:Todo->Option Bool) (a:List Todo):Option Int:=(zBF b a) fu 0
theorem zJ0 {fu:Nat} {b:List Todo} {a:zAI}:FF (zEN fu (fun c=>zCP fu c a) b) 125 [.sl 10 false (b.map zJK),.fn (.func 75) [] [.loc 900000 0]] [(900000,.box 94 (zBb a.World))] [900000] (fun r=>Z r) fun _=>[(900000,.box 94 (zBb a.World))]:=by
 refine fcI Tryz.func125 U (A [75,80,77,13] ?_)
 refine lw (zBF (fun c=>zCP fu c a) b) [0,1,7] [900000] (fun d=>[(8,Z d)]) (fun _=>[]) fu 0 U U ?_
 rintro f d
 refine A [75,10,2,86,59,72,62,93,36] fun h _=>?_
 refine A [1,44] (fun g _=>?_) zMR [(900000,900000)]
 refine A [0,5,2,62,8,4,94] fun e _=>?_
 exact A [89] (tx e)
def zCF (fu:Nat) (c:Todo->Option Bool) (b:List Todo):Option Bool:=bnd (zEN fu c b) fun a=>some (decide (a>=0))
theorem zIx {fu:Nat} {b:List Todo} {a:zAI}:FF (zCF fu (fun c=>zCP fu c a) b) 74 [.sl 10 false (b.map zJK),.fn (.func 75) [] [.loc 900000 0]] [(900000,.box 94 (zBb a.World))] [900000] (fun r=>Y r) fun _=>[(900000,.box 94 (zBb a.World))]:=by
 refine fcI Tryz.func74 U (A [58,61,44] (fun d _=>?_) zJ0 [(900000,900000)])
 exact A [2,74]
def zFx (fu:Nat) (b:zAI) (t2:Task):Option Bool:=cnd (t2.Kind==1) (cnd (t2.Ticket==0) (some (t2.Def==0)) (some false)) (cnd (t2.Kind==2) (cnd (decide (t2.Ticket>=0)) (bnd (zCO fu b t2.Def) fun a=>some a) (some false)) (some false))
theorem zOF {fu:Nat} {a:zAI} {t2:Task}:DD (zFx fu a t2) 79 [.agg (zEo a),.agg (zJJ t2)] fun r=>Y r:=by
 refine fcI Tryz.func79 U (A [73,30,3,57,6,62,13,62,5,8,76,26,12,2,105,74,105,74,62,10,3,4,69,59,76,27,22,2,106,74,3,41] (fun b _=>?_) zDO)
 exact A [2,74]
def zCQ (fu:Nat) (c:Task) (a:zAI):Option Bool:=bnd (zFx fu a c) fun b=>some (!b)
theorem zMS {fu:Nat} {b:Task} {a:zAI}:FF (zCQ fu b a) 78 [.agg (zJJ b),.loc 900000 0] [(900000,.box 94 (zBb a.World))] [900000] (fun r=>Y r) fun _=>[(900000,.box 94 (zBb a.World))]:=by
 refine fcI Tryz.func78 U (A [73,57,99] (fun c _=>?_) zOF)
 exact A [2,74]
def zBE (b:Task->Option Bool) (a:List Task):Nat->Int->Option Int
 | 0,_=>none
 | k1+1,t3=>cnd (decide (t3<(a.length:Int))) (bnd (idx a t3) fun e=>bnd (b e) fun d=>cnd d (some t3) (bnd (rng .i64 (t3+1)) fun c=>(zBE b a k1) c)) (some (-1))
def zEM (fu:Nat) (b:Task->Option Bool) (a:List Task):Option Int:=(zBE b a) fu 0
theorem zJz {fu:Nat} {b:List Task} {a:zAI}:FF (zEM fu (fun c=>zCQ fu c a) b) 126 [.sl 3 false (b.map zJJ),.fn (.func 78) [] [.loc 900000 0]] [(900000,.box 94 (zBb a.World))] [900000] (fun r=>Z r) fun _=>[(900000,.box 94 (zBb a.World))]:=by
 refine fcI Tryz.func126 U (A [75,80,77,13] ?_)
 refine lw (zBE (fun c=>zCQ fu c a) b) [0,1,7] [900000] (fun d=>[(8,Z d)]) (fun _=>[]) fu 0 U U ?_
 rintro f d
 refine A [75,10,2,86,59,72,62,93,36] fun h _=>?_
 refine A [1,44] (fun g _=>?_) zMS [(900000,900000)]
 refine A [0,5,2,62,8,4,94] fun e _=>?_
 exact A [89] (tx e)
def zCE (fu:Nat) (c:Task->Option Bool) (b:List Task):Option Bool:=bnd (zEM fu c b) fun a=>some (decide (a>=0))
theorem zIw {fu:Nat} {b:List Task} {a:zAI}:FF (zCE fu (fun c=>zCQ fu c a) b) 77 [.sl 3 false (b.map zJJ),.fn (.func 78) [] [.loc 900000 0]] [(900000,.box 94 (zBb a.World))] [900000] (fun r=>Y r) fun _=>[(900000,.box 94 (zBb a.World))]:=by
 refine fcI Tryz.func77 U (A [58,61,44] (fun d _=>?_) zJz [(900000,900000)])
 exact A [2,74]
def zDV (fu:Nat) (d:zAI) (b:Build) (a:Bool):Option Bool:=bnd (zCO fu d b.Def) fun c=>cnd c (cnd (b.Node==(-4)) (some true) (some a)) (some false)
def zFd (fu:Nat) (b:zAI) (a:Build):Option Bool:=bnd (zEk fu b a.Node) fun c=>cnd c (bnd (idx b.World.Forest.Nodes a.Node) fun d=>(zDV fu b a) (d.Kind==1)) ((zDV fu b a) false)
theorem zNk {fu:Nat} {d:zAI} {c:Build}:DD (zFd fu d c) 82 [.agg (zEo d),.agg (zI3 c)] fun r=>Y r:=by
 refine fcI Tryz.func82 U (A [73,30,3,57,9] ?_)
 refine zNO (zDV fu d c) (fun (a:Bool)=>[(2,.loc 2 0),(3,.loc 3 0),(5,Y a)]) (fun (a:Bool)=>[(3,.box 104 (zI3 c)),(2,.box 94 (zBb d.World))]) ?_ fun b=>?_
 ·rintro a
  refine A [7,93,41] (fun g _=>?_) zDO
  exact A [1,26,26,8,104,26,30,2,104,74,104,74,108,74]
 ·refine A [3,41] (fun f _=>?_) zG9
  refine pq 1 U (zAW (j:=10) U ?_ ?_)
  ·refine A [106,36] fun e _=>?_
   exact A [105,11,45] (b (e.Kind==1))
  ·exact A [112,11,45] (b false)
def zCR (fu:Nat) (a:Build) (b:zAI):Option Bool:=bnd (zFd fu b a) fun c=>some (!c)
theorem zMT {fu:Nat} {b:Build} {a:zAI}:FF (zCR fu b a) 81 [.agg (zI3 b),.loc 900000 0] [(900000,.box 94 (zBb a.World))] [900000] (fun r=>Y r) fun _=>[(900000,.box 94 (zBb a.World))]:=by
 refine fcI Tryz.func81 U (A [73,57,99] (fun c _=>?_) zNk)
 exact A [2,74]
def zA0 (b:Build->Option Bool) (a:List Build):Nat->Int->Option Int
 | 0,_=>none
 | k1+1,t3=>cnd (decide (t3<(a.length:Int))) (bnd (idx a t3) fun e=>bnd (b e) fun d=>cnd d (some t3) (bnd (rng .i64 (t3+1)) fun c=>(zA0 b a k1) c)) (some (-1))
def zEA (fu:Nat) (b:Build->Option Bool) (a:List Build):Option Int:=(zA0 b a) fu 0
theorem zJX {fu:Nat} {b:List Build} {a:zAI}:FF (zEA fu (fun c=>zCR fu c a) b) 127 [.sl 2 false (b.map zI3),.fn (.func 81) [] [.loc 900000 0]] [(900000,.box 94 (zBb a.World))] [900000] (fun r=>Z r) fun _=>[(900000,.box 94 (zBb a.World))]:=by
 refine fcI Tryz.func127 U (A [75,80,77,13] ?_)
 refine lw (zA0 (fun c=>zCR fu c a) b) [0,1,7] [900000] (fun d=>[(8,Z d)]) (fun _=>[]) fu 0 U U ?_
 rintro f d
 refine A [75,10,2,86,59,72,62,93,36] fun h _=>?_
 refine A [1,44] (fun g _=>?_) zMT [(900000,900000)]
 refine A [0,5,2,62,8,4,94] fun e _=>?_
 exact A [89] (tx e)
def zB2 (fu:Nat) (c:Build->Option Bool) (b:List Build):Option Bool:=bnd (zEA fu c b) fun a=>some (decide (a>=0))
theorem zIF {fu:Nat} {b:List Build} {a:zAI}:FF (zB2 fu (fun c=>zCR fu c a) b) 80 [.sl 2 false (b.map zI3),.fn (.func 81) [] [.loc 900000 0]] [(900000,.box 94 (zBb a.World))] [900000] (fun r=>Y r) fun _=>[(900000,.box 94 (zBb a.World))]:=by
 refine fcI Tryz.func80 U (A [58,61,44] (fun d _=>?_) zJX [(900000,900000)])
 exact A [2,74]
def zB0 (fu:Nat) (a:zAI):Nat->Int->Option Bool
 | 0,_=>none
 | k1+1,t6=>cnd (decide (t6<(a.World.Line.Todos.length:Int))) (bnd (idx a.World.Line.Todos t6) fun h=>bnd (zFe fu a t6) fun f=>cnd (!f) (some false) (bnd (zCF fu (fun b=>zCP fu b a) h) fun g=>cnd g (some false) (bnd (rng .i64 (t6+1)) fun c=>(zB0 fu a k1) c))) (bnd (zCE fu (fun b=>zCQ fu b a) a.World.Tasks) fun d=>cnd (!d) (bnd (zB2 fu (fun b=>zCR fu b a) a.World.Builds) fun e=>some (!e)) (some false))
def zC5 (fu:Nat) (a:zAI):Option Bool:=cnd ((a.World.States.length:Int) != (a.World.Forest.Nodes.length:Int)) (some false) (cnd ((a.World.Line.Todos.length:Int) != (a.World.Forest.Nodes.length:Int)) (some false) (bnd (zEi fu a) fun b=>cnd (!b) (some false) (bnd (zAs fu a.World.Forest) fun c=>cnd (!c) (some false) (bnd (zHD fu a.World.Desk) fun d=>cnd (!d) (some false) (bnd (zIi fu a.World.Line) fun e=>cnd (!e) (some false) ((zB0 fu a) fu 0))))))
theorem zGd {fu:Nat} {b:zAI}:DD (zC5 fu b) 36 [.agg (zEo b)] fun r=>Y r:=by
 refine fcI Tryz.func36 U (A [9,30,1,57,76,77,6,93,35,3,26,17,2,134,83,104,35,104,26,26,2,125,83,1,41] (fun g _=>?_) zMP)
 refine A [3,26,31,2,120,83,3,41] (fun h _=>?_) zA8
 refine A [3,26,38,2,113,83,3,41] (fun i _=>?_) zLh
 refine A [3,26,45,2,106,83,3,41] (fun j _=>?_) zOd
 refine A [2,0,5,1,59,68,76,77,13] ?_
 refine lw (zB0 fu b) [1,55,56] [1] (fun c=>[(57,Z c)]) (fun _=>[]) fu 0 U U ?_
 rintro f c
 refine A [75] ?_
 refine zAF U ?_ ?_
 ·refine A [72,80,36] fun m _=>?_
  refine A [3,0,99] (fun k _=>?_) zNl
  refine A [2,26,66,2,104,83,2,44] (fun l _=>?_) zIx [(900000,1)]
  refine A [57,5,1,59,4,94] fun a _=>?_
  exact A [89] (tx a)
 ·refine A [86,76,44] (fun d _=>?_) zIw [(900000,1)]
  refine A [2,27,78,2,108,74,104,44] (fun e _=>?_) zIF [(900000,1)]
  exact A [3,74]
def zFc (fu:Nat) (b:World):Option Bool:=bnd (zC5 fu (⟨b⟩:zAI)) fun a=>some a
theorem zIa {fu:Nat} {a:World}:DD (zFc fu a) 10 [.agg (zBb a)] fun r=>Y r:=by
 refine fcI Tryz.func10 U (A [9,30,1,57,80,20,41] (fun b _=>?_) zGd)
 exact A [57,8]
def zRj (fu:Nat) (a:List Class) (b:Int):Option (World×Int):=bnd (zP9 fu b) fun c=>bnd (zI2 fu (⟨0,[],[],[],[],0,[],0,0,0⟩:Node)) fun d=>bnd (zJs fu (⟨[],[],[],false⟩:Line)) fun e=>bnd (zHg fu a) fun f=>cnd (c.2 != 0) (some ((⟨(⟨[],0⟩:Forest),[],(⟨[],[],0,false⟩:Desk),(⟨[],[],[],false⟩:Line),[],[],[]⟩:World),1)) (bnd (zFc fu (⟨c.1,[d],(⟨[],[],0,false⟩:Desk),e,[],[],f⟩:World)) fun g=>cnd (!g) (some ((⟨(⟨[],0⟩:Forest),[],(⟨[],[],0,false⟩:Desk),(⟨[],[],[],false⟩:Line),[],[],[]⟩:World),1)) (some ((⟨c.1,[d],(⟨[],[],0,false⟩:Desk),e,[],[],f⟩:World),0)))
theorem zVT {fu:Nat} {a:List Class} {b:Int}:DD (zRj fu a b) 30 [.sl 5 false (a.map zBh),Z b] fun r=>.tup [.agg (zBb r.1),Z r.2]:=by
 refine fcI Tryz.func30 U fun {_ _ _ _ _}=>?_
 refine A [9,31,4,57,80,41] (fun e _=>?_) zTw
 refine A [3,31,6,92,6,52,4,2,0,4,6,7,6,4,53,11,0,0,2,6,0,22,0,118,255,0,1023,201,51,0,1,30] ?_
 refine vT [30] [32] [] U U (zKx (enc:=fun (d:State)=>.agg (zBM d)) (qs:=[.agg (zAZ (⟨0,[],[],[],[],0,[],0,0,0⟩:Node))]) zOp U U ⟨⟨_,U,(.agg ⟨.rfl,.rfl,.rfl,.rfl,.nil,.rfl,.nil,.rfl,.rfl,.rfl,trivial⟩)⟩,trivial⟩ (fun _=>U) call66 U U fun d _=>pzq U) (fun _=>U) (fun _=>U) fun d _=>?_
 refine vS [32] [34,35] [17] U U (pl ([d].map zBM) 17 U U U U U U (pyq U)) U U ?_
 refine vS [] [36] [] U U (zPK (T:=tab) U U U U U U U (pyq U)) U U ?_
 refine vT [36] [38] [] U U (zKx (enc:=fun (c:Line)=>.agg (zPf c)) (qs:=[.agg (zPf (⟨[],[],[],false⟩:Line))]) zQC U U ⟨⟨_,U,(.agg ⟨.nil,.nil,.nil,.rfl,trivial⟩)⟩,trivial⟩ (fun _=>U) call67 U U fun c _=>pzq U) (fun _=>U) (fun _=>U) fun c _=>?_
 refine A [201,55,1,2,40,42,4421] (fun f _=>?_) zK9 [(5,2210)] [2210]
 refine vS [28,34,35,38,42,4421] [44] [] U U (zPK (T:=tab) U U U U U U U (pyq U)) U U ?_
 refine vS [] [16,17] [8] U U (zGV (T:=tab) 8 U U U U U U U U U (pyq U)) U U ?_
 refine A [50,5,1,16,17,35,44,4421,17,79,6,93] ?_
 refine zAW (j:=25) U ?_ ?_
 ·refine A [104,65,9,20,92] ?_
  refine zGG 4 [.sl 10 false ([].map zAZ),Z 0,.sl 4 false ([].map zBM),.sl 3 false ([].map zQn),.sl 2 false ([].map zJa),Z 0,Y false,.sl 1 false ([].map zDF),.sl 1 false ([].map zAr),.sl 1 false ([].map zAB),Y false,.sl 3 false ([].map zJJ),.sl 2 false ([].map zI3),.sl 5 false ([].map zBh)] U ⟨.nil,.rfl,.nil,.nil,.nil,.rfl,.rfl,.nil,.nil,.nil,.rfl,.nil,.nil,.nil,trivial⟩ U ?_
  exact rN
 ·refine A [1,33,17,33,2210] ?_
  refine zKx (enc:=fun (g:Bool)=>Y g) (qs:=[.agg (zBb (⟨e.1,[d],(⟨[],[],0,false⟩:Desk),c,[],[],f⟩:World))]) zIa U U ⟨⟨_,U,(.agg ⟨.rfl,.rfl,.rfl,.nil,.nil,.rfl,.rfl,.rfl,.rfl,.rfl,.rfl,.nil,.nil,.rfl,trivial⟩)⟩,trivial⟩ (fun _=>U) call10 U U fun g _=>?_
  refine A [2,0] ?_
  refine zAF U ?_ ?_
  ·refine A [9,20,92] ?_
   refine zGG 4 [.sl 10 false ([].map zAZ),Z 0,.sl 4 false ([].map zBM),.sl 3 false ([].map zQn),.sl 2 false ([].map zJa),Z 0,Y false,.sl 1 false ([].map zDF),.sl 1 false ([].map zAr),.sl 1 false ([].map zAB),Y false,.sl 3 false ([].map zJJ),.sl 2 false ([].map zI3),.sl 5 false ([].map zBh)] U ⟨.nil,.rfl,.nil,.nil,.nil,.rfl,.rfl,.nil,.nil,.nil,.rfl,.nil,.nil,.nil,trivial⟩ U ?_
   exact rN
  ·refine A [67,80,92] ?_
   refine zGG 4 [.sl 10 false (e.1.Nodes.map zAZ),Z e.1.Most,.sl 4 false ([d].map zBM),.sl 3 false ([].map zQn),.sl 2 false ([].map zJa),Z 0,Y false,.sl 1 false (c.Todos.map zDF),.sl 1 false (c.Stack.map zAr),.sl 1 false (c.Back.map zAB),Y c.Busy,.sl 3 false ([].map zJJ),.sl 2 false ([].map zI3),.sl 5 false (f.map zBh)] U ⟨.rfl,.rfl,.rfl,.nil,.nil,.rfl,.rfl,.rfl,.rfl,.rfl,.rfl,.nil,.nil,.rfl,trivial⟩ U ?_
   exact rN
def zHG (fu:Nat):Option (List Bs):=bnd (zQ8 fu ([45,32,110,101,119,32,100,114,97,102,116,32,116,101,120,116,32,102,114,97,103,32,115,104,97,100,101,32,112,117,116,32,111,117,116,32,115,119,97,112,32,115,101,116,32,117,110,115,101,116,32,116,111,103,103,108,101,32,99,111,112,121,32,116,97,107,101,32,101,109,112,116,121,32,106,111,105,110,32,100,101,102,105,110,101,32,119,97,105,116,32,117,112,103,114,97,100,101,32,98,117,105,108,100,32,115,117,112,101,114,32,103,105,118,101,32,116,104,114,111,119,32,114,101,115,101,116,32,114,101,115,116,111,114,101,32,114,101,115,116,32,104,97,110,100,112,117,116,32,104,97,110,100,111,117,116,32,104,97,110,100,115,101,116]:Bs)) fun a=>some a
theorem zWu {fu:Nat}:DD (zHG fu) 151 [] fun r=>.sl 1 false (r.map zQ6):=by
 refine fcI Tryz.func151 U (A [58,9] ?_)
 exact pk (zVn fu ([45,32,110,101,119,32,100,114,97,102,116,32,116,101,120,116,32,102,114,97,103,32,115,104,97,100,101,32,112,117,116,32,111,117,116,32,115,119,97,112,32,115,101,116,32,117,110,115,101,116,32,116,111,103,103,108,101,32,99,111,112,121,32,116,97,107,101,32,101,109,112,116,121,32,106,111,105,110,32,100,101,102,105,110,101,32,119,97,105,116,32,117,112,103,114,97,100,101,32,98,117,105,108,100,32,115,117,112,101,114,32,103,105,118,101,32,116,104,114,111,119,32,114,101,115,101,116,32,114,101,115,116,111,114,101,32,114,101,115,116,32,104,97,110,100,112,117,116,32,104,97,110,100,111,117,116,32,104,97,110,100,115,101,116]:Bs)) U U fun a _=>A [57,8]
def zEb (fu:Nat) (a:Int):Option Bs:=bnd (zHG fu) fun b=>cnd (decide (a>0)) (cnd (decide (a<(b.length:Int))) (bnd (idx b a) fun c=>some c) (some [])) (some [])
theorem zE6 {fu:Nat} {a:Int}:DD (zEb fu a) 89 [Z a] fun r=>O r:=by
 refine fcI Tryz.func89 U (A [75,9] ?_)
 refine zKx (enc:=fun (b:(List Bs))=>.sl 1 false (b.map zQ6)) (qs:=[]) zWu U U trivial (fun _=>U) zgG U U fun b _=>A [57,93,27,7,5,105,11,24,67,59,2,35,2,0,10,2,67,59,61,36] fun c _=>?_
 exact A [2,74]
def zIq (fu:Nat) (a:Int) (d:Bool):Option (zDC×Bool):=cnd d (bnd (zEb fu a) fun c=>some ((⟨c,[46,46,46,46,46]⟩:zDC),true)) (bnd (zEb fu a) fun b=>cnd (decide (a>0)) (some ((⟨b,[110,46,46,46,46]⟩:zDC),(decide (a<=28)))) (some ((⟨b,[110,46,46,46,46]⟩:zDC),false)))
def zIp (fu:Nat) (a:Int) (i:Bool):Option (zDC×Bool):=cnd i (bnd (zEb fu a) fun f=>some ((⟨f,[110,110,111,46,46]⟩:zDC),true)) (cnd (a==11) (bnd (zEb fu a) fun g=>some ((⟨g,[110,105,46,115,46]⟩:zDC),true)) (cnd (a==12) (bnd (zEb fu a) fun h=>some ((⟨h,[110,105,110,46,46]⟩:zDC),true)) (cnd (a==13) (bnd (zEb fu a) fun b=>some ((⟨b,[110,110,46,46,46]⟩:zDC),true)) (cnd (a==16) (bnd (zEb fu a) fun c=>some ((⟨c,[105,46,46,115,115]⟩:zDC),true)) (cnd (a==17) (bnd (zEb fu a) fun d=>some ((⟨d,[46,46,46,115,46]⟩:zDC),true)) (cnd (a==19) (bnd (zEb fu a) fun e=>some ((⟨e,[105,46,46,46,46]⟩:zDC),true)) (cnd (a==20) ((zIq fu a) (a==20)) (cnd (a==22) ((zIq fu a) (a==22)) ((zIq fu a) (a==25))))))))))
def zIo (fu:Nat) (a:Int) (c:Bool):Option (zDC×Bool):=cnd c (bnd (zEb fu a) fun b=>some ((⟨b,[110,46,46,115,46]⟩:zDC),true)) (cnd (a==6) ((zIp fu a) (a==6)) (cnd (a==8) ((zIp fu a) (a==8)) ((zIp fu a) (a==26))))
def zHF (fu:Nat) (a:Int) (t2:Bool):Option (zDC×Bool):=cnd t2 (bnd (zEb fu a) fun b=>some ((⟨b,[110,46,46,115,115]⟩:zDC),true)) (cnd (a==3) ((zIo fu a) (a==3)) (cnd (a==10) ((zIo fu a) (a==10)) ((zIo fu a) (a==24))))
def zJv (fu:Nat) (a:Int):Option (zDC×Bool):=cnd (a==1) ((zHF fu a) (a==1)) (cnd (a==2) ((zHF fu a) (a==2)) (cnd (a==9) ((zHF fu a) (a==9)) ((zHF fu a) (a==28))))
end Go.Proofs.YtmfbghpealgaiaaGreatDoor
