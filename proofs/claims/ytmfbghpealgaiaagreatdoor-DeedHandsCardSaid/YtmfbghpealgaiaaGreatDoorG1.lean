/- Models and proofs, printed by emit2.py. -/
import Derived.Test.YtmfbghpealgaiaaGreatDoorData
namespace Go.Proofs.YtmfbghpealgaiaaGreatDoor
open Go Go.Pw
open List renaming map_eq_nil_iff->eZ
set_option maxRecDepth 100000
set_option maxHeartbeats 10000000
set_option linter.unusedVariables false
def zK7 (_fu:Nat) (a b:Int):Option Node:=some (⟨a,[],[],[],[],(-1),[],(-1),(-1),b⟩:Node)
theorem zNN {fu:Nat} {a b:Int}:DD (zK7 fu a b) 112 [Z a,Z b] fun r=>.agg (zAX r):=by
 refine fcI Tryz.func112 U (A [9,31,4,0,61,20,12,0] ?_)
 exact zFp 4 [Z a,O [],O [],O [],.sl 2 false ([].map zDY),Z (-1),.sl 1 false ([].map zAB),Z (-1),Z (-1),Z b] U ⟨.rfl,.rfl,.rfl,.rfl,.nil,.rfl,.nil,.rfl,.rfl,.rfl,trivial⟩ U rN
def zFg (_fu:Nat) (a:Int):Option Bool:=cnd (decide (a>=97)) (some (decide (a<=122))) (some false)
theorem zK9 {fu:Nat} {a:Int}:DD (zFg fu a) 173 [.v (.int .i32 a)] fun r=>Y r:=by
 exact fcI Tryz.func173 U (A [58,93,26,5,2,104,74,104,74])
def zBi (_fu:Nat) (a:Int):Option Bool:=cnd (decide (a>=65)) (some (decide (a<=90))) (some false)
theorem zG3 {fu:Nat} {a:Int}:DD (zBi fu a) 168 [.v (.int .i32 a)] fun r=>Y r:=by
 exact fcI Tryz.func168 U (A [58,93,26,5,2,104,74,104,74])
def zGj (a:Int) (b:Unit):Option Bool:=cnd (a==45) (some true) (cnd (a==95) (some true) (some (a==46)))
def zHe (fu:Nat) (a:Int):Option Bool:=bnd (zFg fu a) fun b=>cnd b (cnd b (some true) ((zGj a) ())) (bnd (zBi fu a) fun c=>cnd c (cnd c (some true) ((zGj a) ())) (cnd (decide (a>=48)) (cnd (decide (a<=57)) (some true) ((zGj a) ())) ((zGj a) ())))
theorem zUc {fu:Nat} {b:Int}:DD (zHe fu b) 240 [.v (.int .i32 b)] fun r=>Y r:=by
 refine fcI Tryz.func240 U (A [75] ?_)
 refine jw (zGj b) [0] [] (fun _=>[]) (fun _=>[]) U U ?_ fun a=>?_
 ·rintro _
  exact A [7,93,26,16,2,108,74,104,26,20,2,104,74,104,74]
 ·refine A [13,6,80,41] (fun c _=>?_) zK9
  refine A [57] ?_
  refine zAE U ?_ ?_
  ·exact A [67,5,1,59,4,15,45] (a ())
  ·refine A [80,41] (fun d _=>?_) zG3
   refine A [57] ?_
   refine zAE U ?_ ?_
   ·exact A [67,5,1,59,4,15,45] (a ())
   ·refine A [14,3] ?_
    refine zAT (j:=10) U ?_ ?_
    ·exact A [104,0,5,1,59,4,15,45] (a ())
    ·exact A [104,0,23,4,15,45] (a ())
def zDf (fu:Nat) (a:Int):Option Bool:=bnd (zHe fu a) fun b=>some (!b)
theorem zQy {fu:Nat} {a:Int}:DD (zDf fu a) 239 [.v (.int .i32 a)] fun r=>Y r:=by
 refine fcI Tryz.func239 U (A [58,80,41] (fun b _=>?_) zUc)
 exact A [2,74]
def zA1 (c:Int->Option Bool) (b:Bs) (a:Bool):Nat->Nat->Option Int
 | 0,_=>none
 | k1+1,p3=>cnd (decide (p3<b.length)) (bnd (c (zNp b p3)) fun d=>cnd (d==a) (some ((p3:Nat):Int)) ((zA1 c b a k1) (p3+zMM b p3))) (some (-1))
def zFE (fu:Nat) (c:Int->Option Bool) (b:Bs) (a:Bool):Option Int:=(zA1 c b a) fu 0
theorem zM9 {fu:Nat} {b:Bs} {a:Bool}:DD (zFE fu (fun d=>zDf fu d) b a) 276 [O b,.fn (.func 239) [] [],Y a] fun r=>Z r:=by
 refine fcI Tryz.func276 U (A [75,80] ?_)
 refine zYK (T:=tab) 10 U U U U U U U U U (A [0,13] ?_)
 refine lw (zA1 (fun d=>zDf fu d) b a) [1,2,10] [] (fun _=>[]) (fun c=>[(10,.siter ⟨⟨b⟩⟩ c)]) fu 0 U U ?_
 rintro e c
 refine sr (zbh 10 U U U U U U U ?_ ?_)
 ·refine A [57,6,25,67,13,76,0,61,44] (fun f _=>?_) zQy []
  exact A [2,0,5,2,62,8,4,15,46] (tx (c+zMM b c))
 ·exact A [57,6,23,86,59]
def zFD (fu:Nat) (c:Int->Option Bool) (b:Bs):Option Int:=bnd (zFE fu c b true) fun a=>some a
theorem zM8 {fu:Nat} {a:Bs}:DD (zFD fu (fun b=>zDf fu b) a) 241 [O a,.fn (.func 239) [] []] fun r=>Z r:=by
 refine fcI Tryz.func241 U (A [58,99] (fun c _=>?_) zM9)
 exact A [57,8]
def zB4 (fu:Nat) (c:Int->Option Bool) (b:Bs):Option Bool:=bnd (zFD fu c b) fun a=>some (decide (a>=0))
theorem zLG {fu:Nat} {a:Bs}:DD (zB4 fu (fun b=>zDf fu b) a) 174 [O a,.fn (.func 239) [] []] fun r=>Y r:=by
 refine fcI Tryz.func174 U (A [58,99] (fun c _=>?_) zM8)
 exact A [2,74]
def zH8 (fu:Nat) (a:Bs):Option Bool:=cnd (decide ((a.length:Int)<1)) (some false) (cnd (decide ((a.length:Int)>40)) (some false) (bnd (zB4 fu (fun g=>zDf fu g) a) fun d=>cnd d (some false) (bnd (chr a 0) fun c=>bnd (rng .i32 c) fun b=>bnd (zFg fu b) fun e=>cnd e (some true) (bnd (zBi fu b) fun f=>cnd f (some true) (some (b==95))))))
theorem zN7 {fu:Nat} {a:Bs}:DD (zH8 fu a) 172 [O a] fun r=>Y r:=by
 refine fcI Tryz.func172 U (A [75,76,26,7,2,108,83,105,26,12,2,3,83,1,41] (fun d _=>?_) zLG)
 refine A [57,5,1,59,67,80] ?_
 refine zNY (T:=tab) (s:=a) U U U U U U U fun b _=>A [16] fun c _=>?_
 refine A [57,80,41] (fun e _=>?_) zK9
 refine A [1,26,21,2,108,74,1,41] (fun f _=>?_) zG3
 exact A [2,26,25,2,104,74,104,74]
def zE9 (fu:Nat) (c:Bs):Nat->Int×(List Int)->Option Bs
 | 0,_=>none
 | k1+1,(t2,l3)=>cnd (decide (t2<((zD9 c).length:Int))) (bnd (idx l3 t2) fun d=>bnd (rng .i32 d) fun e=>bnd (zBi fu e) fun h=>cnd h (bnd (rng .u8 (d - 65)) fun f=>bnd (rng .u8 (f+97)) fun g=>bnd (idx l3 t2) fun i=>bnd (rng .i64 (t2+1)) fun a=>(zE9 fu c k1) (a,(l3.set (t2).toNat g))) (bnd (rng .i64 (t2+1)) fun b=>(zE9 fu c k1) (b,l3))) (some (zVs l3))
def zEr (fu:Nat) (a:Bs):Option Bs:=bnd (zDT 1 a.length) fun _=>(zE9 fu a) fu (0,(zD9 a))
theorem zG2 {fu:Nat} {b:Bs}:DD (zEr fu b) 103 [O b] fun r=>O r:=by
 refine fcI Tryz.func103 U (A [58,80] ?_)
 refine zdh (T:=tab) zRF 7 (fun _=>U) U U U U U U U U U U U U (A [57,6,80,39,57,13] ?_)
 refine lw (zE9 fu b) [3,8,9] [] (fun (c,a)=>[(10,Z c)]) (fun (c,a)=>[(7,.arr 1000005 1 (a.map zRF))]) fu (0,(zD9 b)) U U ?_
 rintro m ⟨c,a⟩
 refine A [75] ?_
 refine zAE U ?_ ?_
 ·refine A [72,80,38] fun i d=>?_
  refine zAr (T:=tab) zRF a i (zAu d) U U U U U U U U (A [2,0,80,16] fun k _=>?_)
  refine pk zG3 U U fun n _=>ns (zAE U ?_ ?_)
  ·refine A [14,3,16] fun l _=>?_
   refine A [16] fun h _=>?_
   refine A [38] fun j e=>?_
   refine zCr (T:=tab) zRF a j h (zAu e) U U U U U U U U U U U U U (A [11,94] fun f _=>?_)
   exact A [89] (tx (f,(a.set (c).toNat h)))
  ·refine A [4,94] fun g _=>?_
   exact A [89] (tx (g,a))
 ·refine A [86,80] ?_
  exact po_str (T:=tab) zRF a (fun _=>U) U U U U U U U U U (A [57,8])
def zFw (fu:Nat) (a:Bs):Option (Bs×Int):=bnd (zH8 fu a) fun b=>cnd (!b) (some ([],4)) (bnd (zEr fu a) fun c=>some (c,0))
theorem zHd {fu:Nat} {a:Bs}:DD (zFw fu a) 166 [O a] fun r=>.tup [O r.1,Z r.2]:=by
 refine fcI Tryz.func166 U (A [62,6,80,41] (fun b _=>?_) zN7)
 refine A [57,5,2,62,8,67,80,41] (fun c _=>?_) zG2
 exact A [2,74]
def zEZ (fu:Nat) (a:Attr):Option Bool:=bnd (zFw fu a.Name) fun b=>cnd (b.2 != 0) (some true) (cnd (!(b.1==a.Name)) (some true) (some (decide ((a.Value.length:Int)>200))))
theorem zQj {fu:Nat} {a:Attr}:DD (zEZ fu a) 233 [.agg (zDY a)] fun r=>Y r:=by
 refine fcI Tryz.func233 U (A [9,30,1,57,99] (fun b _=>?_) zHd)
 exact A [105,0,93,26,13,2,112,74,106,26,19,2,106,74,106,74]
def zAY (b:Attr->Option Bool) (a:List Attr):Nat->Int->Option Int
 | 0,_=>none
 | k1+1,t2=>cnd (decide (t2<(a.length:Int))) (bnd (idx a t2) fun e=>bnd (b e) fun d=>cnd d (some t2) (bnd (rng .i64 (t2+1)) fun c=>(zAY b a k1) c)) (some (-1))
def zBH (fu:Nat) (b:Attr->Option Bool) (a:List Attr):Option Int:=(zAY b a) fu 0
theorem zJJ {fu:Nat} {a:List Attr}:DD (zBH fu (fun b=>zEZ fu b) a) 236 [.sl 2 false (a.map zDY),.fn (.func 233) [] []] fun r=>Z r:=by
 refine fcI Tryz.func236 U (A [75,80,77,13] ?_)
 refine lw (zAY (fun b=>zEZ fu b) a) [0,1,7] [] (fun c=>[(8,Z c)]) (fun _=>[]) fu 0 U U ?_
 rintro e c
 refine A [75,10,2,86,59,72,62,93,36] fun g _=>?_
 refine A [1,44] (fun f _=>?_) zQj []
 refine A [0,5,2,62,8,4,94] fun d _=>?_
 exact A [89] (tx d)
def zCA (fu:Nat) (c:Attr->Option Bool) (b:List Attr):Option Bool:=bnd (zBH fu c b) fun a=>some (decide (a>=0))
theorem zIH {fu:Nat} {a:List Attr}:DD (zCA fu (fun b=>zEZ fu b) a) 234 [.sl 2 false (a.map zDY),.fn (.func 233) [] []] fun r=>Y r:=by
 refine fcI Tryz.func234 U (A [58,99] (fun c _=>?_) zJJ)
 exact A [2,74]
def zFt (l1:List Attr):Nat->Int×(List (Bs×Attr))->Option (List (Bs×Attr))
 | 0,_=>none
 | k1+1,(t2,l3)=>cnd (decide (t2<(l1.length:Int))) (bnd (idx l1 t2) fun a=>bnd (rng .i64 (t2+1)) fun b=>(zFt l1 k1) (b,(zGt l3 a.Name a))) (some l3)
def zJn (fu:Nat) (l1:List Attr):Option (List (Bs×Attr)):=(zFt l1) fu (0,([]:(List (Bs×Attr))))
theorem zTC {fu:Nat} {l1:List Attr}:FF (zJn fu l1) 235 [.sl 2 false (l1.map zDY)] [] [] (fun _=>.own 6) fun r=>[(6,.mp (r.map fun p:Bs×Attr=>(zNG p.1,.agg (zDY p.2))))]:=by
 refine fcI Tryz.func235 U (A [58,9] ?_)
 refine zHr 6 U U U U U U U (A [57,6,80,77,13] ?_)
 refine lw (zFt l1) [3,7,8] [] (fun (c,a)=>[(9,Z c)]) (fun (c,a)=>[(6,.mp (a.map fun p:Bs×Attr=>(zNG p.1,.agg (zDY p.2))))]) fu (0,([]:(List (Bs×Attr)))) U U ?_
 rintro e ⟨c,a⟩
 refine A [75,10,3,86,62,8,72,9,36] fun b _=>?_
 refine A [1,31,5,12,0,14,104] ?_
 refine zFo zIy (fun v=>.agg (zDY v)) a b.Name b Tryz.underlying329 Tryz.underlying9 U U U U U U U U U (A [11,94] fun d _=>?_)
 exact A [89] (tx (d,(zGt a b.Name b)))
def zGh (fu:Nat) (l1:List Attr):Option Bool:=cnd (decide ((l1.length:Int)<=40)) (bnd (zCA fu (fun c=>zEZ fu c) l1) fun a=>cnd (!a) (bnd (zJn fu l1) fun b=>some ((b.length:Int)==(l1.length:Int))) (some false)) (some false)
theorem zK3 {fu:Nat} {l1:List Attr}:DD (zGh fu l1) 165 [.sl 2 false (l1.map zDY)] fun r=>Y r:=by
 refine fcI Tryz.func165 U (A [58,58,80,35,2,27,7,2,114,74,2,41] (fun b _=>?_) zIH)
 refine A [3,27,13,2,108,74,1,43] (fun a _=>?_) zTC [(6,2150)] [2150]
 exact zPO (zNG) (fun v=>.agg (zDY v)) a Tryz.underlying329 U U U U U U U U (A [1,35,3,74])
theorem zLI {fu:Nat} {b:Bs} {a:Bool}:DD (zFE fu (fun d=>zBi fu d) b a) 276 [O b,.fn (.func 168) [] [],Y a] fun r=>Z r:=by
 refine fcI Tryz.func276 U (A [75,80] ?_)
 refine zYK (T:=tab) 10 U U U U U U U U U (A [0,13] ?_)
 refine lw (zA1 (fun d=>zBi fu d) b a) [1,2,10] [] (fun _=>[]) (fun c=>[(10,.siter ⟨⟨b⟩⟩ c)]) fu 0 U U ?_
 rintro e c
 refine sr (zbh 10 U U U U U U U ?_ ?_)
 ·refine A [57,6,25,67,13,76,0,61,44] (fun f _=>?_) zG3 []
  exact A [2,0,5,2,62,8,4,15,46] (tx (c+zMM b c))
 ·exact A [57,6,23,86,59]
theorem zLH {fu:Nat} {a:Bs}:DD (zFD fu (fun b=>zBi fu b) a) 241 [O a,.fn (.func 168) [] []] fun r=>Z r:=by
 refine fcI Tryz.func241 U (A [58,99] (fun c _=>?_) zLI)
 exact A [57,8]
theorem zJk {fu:Nat} {a:Bs}:DD (zB4 fu (fun b=>zBi fu b) a) 174 [O a,.fn (.func 168) [] []] fun r=>Y r:=by
 refine fcI Tryz.func174 U (A [58,99] (fun c _=>?_) zLH)
 exact A [2,74]
def zJO (fu:Nat) (c a:Bs):Option Int:=bnd (zTl fu c a) fun b=>some b
theorem zP8 {fu:Nat} {b a:Bs}:DD (zJO fu b a) 152 [O b,O a] fun r=>Z r:=by
 refine fcI Tryz.func152 U (A [58,61] ?_)
 exact pk (za0 fu b a) U U fun c _=>A [57,8]
def zEP (fu:Nat) (c a:Bs):Option Bool:=bnd (zJO fu c a) fun b=>some (decide (b>=0))
theorem zJN {fu:Nat} {b a:Bs}:DD (zEP fu b a) 90 [O b,O a] fun r=>Y r:=by
 refine fcI Tryz.func90 U (A [58,99] (fun c _=>?_) zP8)
 exact A [2,74]
def zJE (_fu:Nat):Option (List Bs):=some [[97,110,110,111,116,97,116,105,111,110,45,120,109,108],[99,111,108,111,114,45,112,114,111,102,105,108,101],[102,111,110,116,45,102,97,99,101],[102,111,110,116,45,102,97,99,101,45,115,114,99],[102,111,110,116,45,102,97,99,101,45,117,114,105],[102,111,110,116,45,102,97,99,101,45,102,111,114,109,97,116],[102,111,110,116,45,102,97,99,101,45,110,97,109,101],[109,105,115,115,105,110,103,45,103,108,121,112,104]]
theorem zP5 {fu:Nat}:DD (zJE fu) 176 [] fun r=>.sl 1 false (r.map zQT):=by
 refine fcI Tryz.func176 U (A [58,9] ?_)
 exact pl ([[97,110,110,111,116,97,116,105,111,110,45,120,109,108],[99,111,108,111,114,45,112,114,111,102,105,108,101],[102,111,110,116,45,102,97,99,101],[102,111,110,116,45,102,97,99,101,45,115,114,99],[102,111,110,116,45,102,97,99,101,45,117,114,105],[102,111,110,116,45,102,97,99,101,45,102,111,114,109,97,116],[102,111,110,116,45,102,97,99,101,45,110,97,109,101],[109,105,115,115,105,110,103,45,103,108,121,112,104]].map zQT) 1 U U U U U U (A [57,34,1,8])
def zB3 (a:List Bs) (b:Bs):Nat->Int->Option Int
 | 0,_=>none
 | k1+1,t3=>cnd (decide (t3<(a.length:Int))) (bnd (idx a t3) fun d=>cnd (b==d) (some t3) (bnd (rng .i64 (t3+1)) fun c=>(zB3 a b k1) c)) (some (-1))
def zFi (fu:Nat) (a:List Bs) (b:Bs):Option Int:=(zB3 a b) fu 0
theorem zLn {fu:Nat} {a:List Bs} {b:Bs}:DD (zFi fu a b) 242 [.sl 1 false (a.map zQT),O b] fun r=>Z r:=by
 refine fcI Tryz.func242 U (A [75,80,77,13] ?_)
 refine lw (zB3 a b) [0,1,7] [] (fun c=>[(8,Z c)]) (fun _=>[]) fu 0 U U ?_
 rintro e c
 refine A [75,10,2,86,59,72,62,93,36] fun f _=>?_
 refine A [2,0,5,2,62,8,4,94] fun d _=>?_
 exact A [89] (tx d)
def zA5 (fu:Nat) (b:List Bs) (c:Bs):Option Bool:=bnd (zFi fu b c) fun a=>some (decide (a>=0))
theorem zDA {fu:Nat} {a:List Bs} {b:Bs}:DD (zA5 fu a b) 175 [.sl 1 false (a.map zQT),O b] fun r=>Y r:=by
 refine fcI Tryz.func175 U (A [58,99] (fun c _=>?_) zLn)
 exact A [2,74]
def zC9 (fu:Nat) (a:Bs):Option Bool:=bnd (zH8 fu a) fun d=>cnd d (bnd (chr a 0) fun b=>bnd (rng .i32 b) fun c=>bnd (zFg fu c) fun e=>cnd e (bnd (zB4 fu (fun j=>zBi fu j) a) fun f=>cnd (!f) (bnd (zEP fu a [45]) fun g=>cnd g (bnd (zJE fu) fun h=>bnd (zA5 fu h a) fun i=>some (!i)) (some false)) (some false)) (some false)) (some false)
theorem zEa {fu:Nat} {a:Bs}:DD (zC9 fu a) 109 [O a] fun r=>Y r:=by
 refine fcI Tryz.func109 U (A [58,80,41] (fun e _=>?_) zN7)
 refine A [1,27,5,2,121,74,1] ?_
 refine zNY (T:=tab) (s:=a) U U U U U U U fun c _=>A [16] fun d _=>?_
 refine pk zK9 U U fun f _=>A [2,27,11,2,115,74,1,41] (fun g _=>?_) zJk
 refine A [3,27,16,2,110,74,1,41] (fun h _=>?_) zJN
 refine A [2,27,20,2,106,74] ?_
 refine zKN (enc:=fun (b:(List Bs))=>.sl 1 false (b.map zQT)) (qs:=[]) zP5 U U trivial (fun _=>U) zfP U U fun b _=>A [1,41] (fun i _=>?_) zDA
 exact A [3,74]
def zDp (a:Node) (b:Bs):Option Bool:=cnd (a.Name==([]:Bs)) (cnd (a.Is==([]:Bs)) (cnd (b==([]:Bs)) (some ((a.Attrs.length:Int)==0)) (some false)) (some false)) (some false)
def zGE (fu:Nat) (a:Node):Option Bool:=cnd (a.Kind==1) (bnd (zFw fu a.Name) fun b=>cnd (b.2==0) (cnd (b.1==a.Name) (cnd (a.Is==([]:Bs)) (cnd (a.Data==([]:Bs)) (bnd (zGh fu a.Attrs) fun c=>some c) (some false)) (bnd (zC9 fu a.Is) fun d=>cnd d (cnd (a.Data==([]:Bs)) (bnd (zGh fu a.Attrs) fun e=>some e) (some false)) (some false))) (some false)) (some false)) (cnd (a.Kind==2) (cnd (decide ((a.Data.length:Int)>200)) (some false) ((zDp a) [])) (cnd (a.Kind==0) (cnd (a.Kind==0) ((zDp a) a.Data) (some false)) (cnd (a.Kind==3) (cnd (a.Kind==3) ((zDp a) a.Data) (some false)) (cnd (a.Kind==4) ((zDp a) a.Data) (some false)))))
theorem zL1 {fu:Nat} {a:Node}:DD (zGE fu a) 186 [.agg (zAX a)] fun r=>Y r:=by
 refine fcI Tryz.func186 U (A [9,30,1,57,6,62,13,6] ?_)
 refine jw (zDp a) [1] [] (fun _=>[]) (fun c=>[(1,.box 77 [Z a.Kind,O a.Name,O a.Is,O c,.sl 2 false (a.Attrs.map zDY),Z a.Parent,.sl 1 false (a.Kids.map zAB),Z a.Host,Z a.Under,Z a.Doc])]) U U ?_ fun b=>?_
 ·rintro c
  exact A [7,6,76,26,57,16,105,26,62,10,105,26,67,4,2,35,3,74,106,74,111,74,116,74]
 ·refine A [13,6,13,6,13,6,6,62] ?_
  refine zAE U ?_ ?_
  ·refine A [86,6,99] (fun d _=>?_) zHd
   refine A [105,0,93,27,23,2,126,74,106,27,29,2,120,74,104] ?_
   refine zAT (j:=33) U ?_ ?_
   ·refine A [111,27,44,2,105,74,2,41] (fun e _=>?_) zK3
    exact A [2,74]
   ·refine A [2,41] (fun f _=>?_) zEa
    refine A [3,27,39,2,110,74,105,27,44,2,105,74,2,41] (fun g _=>?_) zK3
    exact A [2,74]
  ·refine A [68,62] ?_
   refine zAE U ?_ ?_
   ·exact A [86,6,76,0,5,1,59,67,14,1,12,11,15,45] (b [])
   ·refine A [68,62] ?_
    refine zAE U ?_ ?_
    ·exact A [67,10,3,67,86,59,17,45] (b a.Data)
    ·refine A [62] ?_
     refine zAE U ?_ ?_
     ·exact A [67,10,3,67,86,59,17,45] (b a.Data)
     ·exact A [14,2,0,10,3,67,86,59,17,45] (b a.Data)
def zCE (_fu:Nat) (b:zAL) (a:Int):Option Bool:=cnd (decide (a>=0)) (some (decide (a<(b.Forest.Nodes.length:Int)))) (some false)
theorem zEf {fu:Nat} {b:zAL} {a:Int}:DD (zCE fu b a) 246 [.agg (zEW b),Z a] fun r=>Y r:=by
 exact fcI Tryz.func246 U (A [73,57,93,26,7,4,104,35,3,74,108,74])
def zDN (fu:Nat) (c:zAL) (b a:Int):Option Bool:=bnd (zCE fu c b) fun d=>cnd d (bnd (idx c.Forest.Nodes b) fun e=>some (e.Kind==a)) (some false)
theorem zFu {fu:Nat} {c:zAL} {b a:Int}:DD (zDN fu c b a) 245 [.agg (zEW c),Z b,Z a] fun r=>Y r:=by
 refine fcI Tryz.func245 U (A [9,30,3,57,99] (fun d _=>?_) zEf)
 refine A [1,27,10,2,111,74,104,36] fun e _=>?_
 exact A [106,74]
def zEx (fu:Nat) (c:zAL) (b:Int):Option Bool:=bnd (idx c.Forest.Nodes b) fun a=>bnd (zDN fu c a.Doc 0) fun d=>cnd d (cnd (a.Kind != 0) (some true) (some (a.Doc==b))) (some false)
theorem zMw {fu:Nat} {b:zAL} {a:Int}:DD (zEx fu b a) 187 [.agg (zEW b),Z a] fun r=>Y r:=by
 refine fcI Tryz.func187 U (A [73,57,76,36] fun d _=>?_)
 refine A [1,31,5,12,0,93,41] (fun c _=>?_) zFu
 exact A [1,26,16,8,104,26,20,2,107,74,107,74,111,74]
def zFe (_fu:Nat) (a:Int):Option Bool:=cnd (a==0) (cnd (a==0) (some true) (some false)) (cnd (a==1) (cnd (a==1) (some true) (some false)) (cnd (a==3) (cnd (a==3) (some true) (some false)) (cnd (a==4) (some true) (some false))))
theorem zLe {fu:Nat} {a:Int}:DD (zFe fu a) 247 [Z a] fun r=>Y r:=by
 exact fcI Tryz.func247 U (A [75,58,13,6,62,5,7,67,5,1,59,4,69,59,62,5,7,67,5,1,59,4,69,59,62,5,7,67,5,1,59,4,69,59,14,2,0,5,1,59,4,69,59])
def zBL (a:List Int) (b:Int):Nat->Int->Option Int
 | 0,_=>none
 | k1+1,t3=>cnd (decide (t3<(a.length:Int))) (bnd (idx a t3) fun d=>cnd (b==d) (some t3) (bnd (rng .i64 (t3+1)) fun c=>(zBL a b k1) c)) (some (-1))
def zCd (fu:Nat) (a:List Int) (b:Int):Option Int:=(zBL a b) fu 0
theorem zGe {fu:Nat} {a:List Int} {b:Int}:DD (zCd fu a b) 97 [.sl 1 false (a.map zAB),Z b] fun r=>Z r:=by
 refine fcI Tryz.func97 U (A [75,80,77,13] ?_)
 refine lw (zBL a b) [0,1,7] [] (fun c=>[(8,Z c)]) (fun _=>[]) fu 0 U U ?_
 rintro e c
 refine A [75,10,2,86,59,72,62,93,36] fun f _=>?_
 refine A [2,0,5,2,62,8,4,94] fun d _=>?_
 exact A [89] (tx d)
def zEO (fu:Nat) (b:List Int) (c:Int):Option Bool:=bnd (zCd fu b c) fun a=>some (decide (a>=0))
theorem zLm {fu:Nat} {a:List Int} {b:Int}:DD (zEO fu a b) 248 [.sl 1 false (a.map zAB),Z b] fun r=>Y r:=by
 refine fcI Tryz.func248 U (A [58,99] (fun c _=>?_) zGe)
 exact A [2,74]
def zDq (fu:Nat) (b:zAL) (d:Int) (c:Node) (a:Bool):Option Bool:=cnd a (bnd (zCE fu b c.Parent) fun e=>cnd e (bnd (idx b.Forest.Nodes c.Parent) fun h=>bnd (zFe fu h.Kind) fun f=>cnd f (bnd (idx b.Forest.Nodes c.Parent) fun i=>bnd (zEO fu i.Kids d) fun g=>some g) (some false)) (some false)) (some false)
def zFV (fu:Nat) (c:zAL) (b:Int):Option Bool:=bnd (idx c.Forest.Nodes b) fun a=>cnd (a.Parent==(-1)) (some true) (cnd (a.Kind==1) ((zDq fu c b a) true) ((zDq fu c b a) (a.Kind==2)))
theorem zNd {fu:Nat} {d:zAL} {c:Int}:DD (zFV fu d c) 188 [.agg (zEW d),Z c] fun r=>Y r:=by
 refine fcI Tryz.func188 U (A [73,57,76,36] fun e _=>?_)
 refine A [1,31,5,12,0,6,93,0,5,1,59,67,9] ?_
 refine zMp (zDq fu d c e) (fun (a:Bool)=>[(1,Z c),(2,.loc 2 0),(5,.loc 5 0),(6,Y a)]) (fun (a:Bool)=>[(5,.box 77 (zAX e)),(2,.box 215 (zAD d.Forest))]) ?_ fun b=>?_
 ·rintro a
  refine A [7,61,27,25,2,129,74,3,41] (fun f _=>?_) zEf
  refine A [2,27,31,2,123,74,105,36] fun i _=>?_
  refine A [2,41] (fun g _=>?_) zLe
  refine A [2,27,42,2,112,74,105,36] fun k _=>?_
  refine A [3,41] (fun h _=>?_) zLm
  exact A [2,74]
 ·refine pq 4 U (zAT (j:=19) U ?_ ?_)
  ·exact A [105,11,45] (b true)
  ·exact A [105,11,45] (b (e.Kind==2))
def zAp (fu:Nat) (c:zAL) (i:Int) (a:Node):Nat->Int×Int×(List (Int×Int))->Option Bool
 | 0,_=>none
 | k1+1,(elems4,t5,l6)=>cnd (decide (t5<(a.Kids.length:Int))) (bnd (idx a.Kids t5) fun b=>bnd (zCE fu c b) fun l=>cnd (!l) (some false) (cnd (decide ((zK0 l6 b 0)>0)) (some false) (bnd (idx c.Forest.Nodes b) fun m=>cnd (m.Parent != i) (some false) (bnd (idx c.Forest.Nodes b) fun k=>cnd (k.Doc != a.Doc) (some false) (bnd (rng .i64 ((zK0 l6 b 0)+1)) fun d=>bnd (idx c.Forest.Nodes b) fun e=>cnd (e.Kind==1) (bnd (rng .i64 (elems4+1)) fun f=>bnd (rng .i64 (t5+1)) fun g=>(zAp fu c i a k1) (f,g,(zGt l6 b d))) (cnd (e.Kind==2) (cnd (a.Kind==0) (some false) (bnd (rng .i64 (t5+1)) fun h=>(zAp fu c i a k1) (elems4,h,(zGt l6 b d)))) (some false))))))) (bnd (zFe fu a.Kind) fun j=>cnd j (cnd (a.Kind != 0) (some true) (some (decide (elems4<=1)))) (cnd ((a.Kids.length:Int)==0) (cnd (a.Kind != 0) (some true) (some (decide (elems4<=1)))) (some false)))
def zEw (fu:Nat) (b:zAL) (a:Int):Option Bool:=bnd (idx b.Forest.Nodes a) fun c=>(zAp fu b a c) fu (0,0,([]:(List (Int×Int))))
theorem zMv {fu:Nat} {d:zAL} {i:Int}:DD (zEw fu d i) 189 [.agg (zEW d),Z i] fun r=>Y r:=by
 refine fcI Tryz.func189 U (A [73,57,76,36] fun n _=>?_)
 refine A [1,31,5,12,0,9] ?_
 refine zHr 16 U U U U U U U (A [57,75,61,77,13] ?_)
 refine lw (zAp fu d i n) [1,2,5,6,18,19] [5,2] (fun (a,j,b)=>[(7,Z a),(20,Z j)]) (fun (a,j,b)=>[(16,.mp (b.map fun p:Int×Int=>(zNz .i64 p.1,Z p.2)))]) fu (0,0,([]:(List (Int×Int)))) U U ?_
 rintro q ⟨a,j,b⟩
 refine A [75] ?_
 refine zAE U ?_ ?_
 ·refine A [72,9,36] fun e _=>?_
  refine A [2,0,6,6,82,202,54,2,1,48,50,52] (fun s _=>?_) zEf
  refine vq 2 U (by kernel_rfl) (zBP (t:=28) U ?_ ?_)
  ·exact A [228,19,18,59]
  ·refine vq 2 U (by kernel_rfl) (vS [33,56,58,60] [62] [] U U (zVc (T:=tab) (zJ1 .i64) (fun v=>Z v) b e 0 Tryz.underlying143 Tryz.underlying3 U U U U U U U U U U (pyq U)) U U (vq 3 U (by kernel_rfl) (zBP (t:=34) U ?_ ?_)))
   ·exact A [222,19,18,59]
   ·refine vq 4 U (by kernel_rfl) (vT [68,74,76] [78] [] U U (zBE (T:=tab) zAX d.Forest.Nodes U U U U U U U fun o _=>pzq U) (fun _=>U) (fun _=>U) fun o _=>vq 6 U (by kernel_rfl) (zBP (t:=45) U ?_ ?_))
    ·exact A [211,19,18,59]
    ·refine vq 4 U (by kernel_rfl) (vT [90,96,98] [100] [] U U (zBE (T:=tab) zAX d.Forest.Nodes U U U U U U U fun k _=>pzq U) (fun _=>U) (fun _=>U) fun k _=>A [206,79,5,1,59,67,61] ?_)
     refine zVc (T:=tab) (zJ1 .i64) (fun v=>Z v) b e 0 Tryz.underlying143 Tryz.underlying3 U U U U U U U U U U (A [16] fun c _=>?_)
     refine zFo (zJ1 .i64) (fun v=>Z v) b e c Tryz.underlying143 Tryz.underlying3 U U U U U U U U U (A [0,76,36] fun m _=>?_)
     refine A [2,0,13,62] ?_
     refine zAE U ?_ ?_
     ·refine A [14,1,16] fun f _=>?_
      refine A [1,11,15,94] fun g _=>?_
      exact A [89] (tx (f,g,(zGt b e c)))
     ·refine A [62,10,1,59,93,0,5,1,59,4,15,94] fun h _=>?_
      exact A [89] (tx (a,h,(zGt b e c)))
 ·refine A [86,99] (fun l _=>?_) zLe
  exact A [1,26,81,8,110,26,91,2,105,74,105,74,2,35,3,26,87,8,104,26,91,2,105,74,105,74,109,74]
def zCJ (b a:Bool):Option Bool:=cnd b (some a) (some false)
def zBc (fu:Nat) (c:zAL) (d:Int) (b:Node) (a:Bool):Option Bool:=cnd (b.Under==(-1)) ((zCJ a) true) (cnd (b.Kind==1) (bnd (zDN fu c b.Under 4) fun e=>cnd e (bnd (idx c.Forest.Nodes b.Under) fun f=>(zCJ a) (f.Host==d)) ((zCJ a) false)) ((zCJ a) false))
def zEe (fu:Nat) (b:zAL) (c:Int):Option Bool:=bnd (idx b.Forest.Nodes c) fun a=>cnd (a.Kind==4) (bnd (zDN fu b a.Host 1) fun d=>cnd d (bnd (idx b.Forest.Nodes a.Host) fun e=>cnd (e.Under==c) (bnd (idx b.Forest.Nodes a.Host) fun f=>(zBc fu b c a) (f.Doc==a.Doc)) ((zBc fu b c a) false)) ((zBc fu b c a) false)) ((zBc fu b c a) (a.Host==(-1)))
theorem zL2 {fu:Nat} {e:zAL} {f:Int}:DD (zEe fu e f) 190 [.agg (zEW e),Z f] fun r=>Y r:=by
 refine fcI Tryz.func190 U (A [73,57,76,36] fun g _=>?_)
 refine A [1,31,5,12,0,76,0,6,93,0] ?_
 refine jw (zBc fu e f g) [1,2,5] [5,2] (fun b=>[(6,Y b)]) (fun _=>[]) U U ?_ fun c=>?_
 ·rintro b
  refine A [7,9] ?_
  refine zMp (zCJ b) (fun (a:Bool)=>[(6,Y b),(7,Y a)]) (fun (a:Bool)=>[]) ?_ fun d=>?_
  ·rintro a
   exact A [7,61,26,76,2,3,74,3,74]
  ·refine pq 4 U (zAT (j:=52) U ?_ ?_)
   ·exact A [123,11,45] (d true)
   ·refine pq 4 U (zAT (j:=56) U ?_ ?_)
    ·refine A [3,41] (fun m _=>?_) zFu
     refine pq 2 U (zAT (j:=62) U ?_ ?_)
     ·refine A [105,36] fun k _=>?_
      exact A [107,11,45] (d (k.Host==f))
     ·exact A [113,11,45] (d false)
    ·exact A [119,11,45] (d false)
 ·refine zAE U ?_ ?_
  ·refine A [95,203,54,2,1,40,44,46] (fun l _=>?_) zFu
   refine vq 1 U (by kernel_rfl) (zBP (t:=24) U ?_ ?_)
   ·refine vq 5 U (by kernel_rfl) (vT [48,54,58] [60] [] U U (zBE (T:=tab) zAX e.Forest.Nodes U U U U U U U fun i _=>pzq U) (fun _=>U) (fun _=>U) fun i _=>vq 6 U (by kernel_rfl) (zBP (t:=36) U ?_ ?_))
    ·exact vq 5 U (by kernel_rfl) (vT [72,78,82] [84] [] U U (zBE (T:=tab) zAX e.Forest.Nodes U U U U U U U fun h _=>pzq U) (fun _=>U) (fun _=>U) fun h _=>A [207,19,45] (c (h.Doc==g.Doc)))
    ·exact A [213,19,45] (c false)
   ·exact A [225,19,45] (c false)
  ·exact A [4,45] (c (g.Host==(-1)))
def zGP (_fu:Nat) (b:zAL) (a:Int):Option Int:=bnd (idx b.Forest.Nodes a) fun c=>cnd (c.Parent != (-1)) (some c.Parent) (bnd (idx b.Forest.Nodes a) fun d=>some d.Host)
theorem zOx {fu:Nat} {b:zAL} {a:Int}:DD (zGP fu b a) 249 [.agg (zEW b),Z a] fun r=>Z r:=by
 refine fcI Tryz.func249 U (A [73,57,6,76,36] fun c _=>?_)
 refine A [3,0,62,5,2,62,8,67,76,36] fun d _=>?_
 exact A [3,74]
def zCy (fu:Nat) (a:zAL):Nat->Int×Int->Option Bool
 | 0,_=>none
 | k1+1,(n3,t4)=>cnd (decide (t4<(a.Forest.Nodes.length:Int))) (bnd (zGP fu a n3) fun b=>cnd (b==(-1)) (some true) (bnd (rng .i64 (t4+1)) fun c=>(zCy fu a k1) (b,c))) (some false)
def zGz (fu:Nat) (b:zAL) (a:Int):Option Bool:=(zCy fu b) fu (a,0)
theorem zNc {fu:Nat} {b:zAL} {a:Int}:DD (zGz fu b a) 191 [.agg (zEW b),Z a] fun r=>Y r:=by
 refine fcI Tryz.func191 U (A [73,57,6,93,77,13] ?_)
 refine lw (zCy fu b) [2,8] [2] (fun (c,d)=>[(1,Z c),(9,Z d)]) (fun _=>[]) fu (a,0) U U ?_
 rintro g ⟨c,d⟩
 refine A [75,10,2,86,59,72,99] (fun f _=>?_) zOx
 refine A [57,62,5,1,59,4,94] fun e _=>?_
 exact A [89] (tx (f,e))
def zBU (fu:Nat) (c:zAL):Nat->Int->Option Bool
 | 0,_=>none
 | k2+1,t11=>cnd (decide (t11<(c.Forest.Nodes.length:Int))) (bnd (zGz fu c t11) fun b=>cnd (!b) (some false) (bnd (rng .i64 (t11+1)) fun a=>(zBU fu c k2) a)) (some true)
def zCh (fu:Nat) (a:zAL):Nat->Int->Option Bool
 | 0,_=>none
 | k1+1,t3=>cnd (decide (t3<(a.Forest.Nodes.length:Int))) (bnd (idx a.Forest.Nodes t3) fun h=>bnd (zGE fu h) fun c=>cnd (!c) (some false) (bnd (zEx fu a t3) fun d=>cnd (!d) (some false) (bnd (zFV fu a t3) fun e=>cnd (!e) (some false) (bnd (zEw fu a t3) fun f=>cnd (!f) (some false) (bnd (zEe fu a t3) fun g=>cnd (!g) (some false) (bnd (rng .i64 (t3+1)) fun b=>(zCh fu a k1) b)))))) ((zBU fu a) fu 0)
def zCz (fu:Nat) (a:zAL):Option Bool:=cnd (decide (a.Forest.Most<1)) (some false) (cnd (decide (a.Forest.Most>400)) (some false) (cnd (decide ((a.Forest.Nodes.length:Int)<1)) (some false) (cnd (decide ((a.Forest.Nodes.length:Int)>a.Forest.Most)) (some false) (bnd (idx a.Forest.Nodes 0) fun b=>cnd (b.Kind != 0) (some false) ((zCh fu a) fu 0)))))
theorem zF7 {fu:Nat} {b:zAL}:DD (zCz fu b) 120 [.agg (zEW b)] fun r=>Y r:=by
 refine fcI Tryz.func120 U (A [9,30,1,57,6,9,105,26,10,2,131,83,106,26,16,2,125,83,3,35,3,26,23,2,118,83,3,35,106,26,33,2,108,83,3,36] fun n _=>?_)
 refine A [104,0,5,1,59,68,93,77,13] ?_
 refine lw (zCh fu b) [1,44,45] [1] (fun e=>[(46,Z e)]) (fun _=>[]) fu 0 U U ?_
 rintro g e
 refine A [75] ?_
 refine zAE U ?_ ?_
 ·refine A [72,80,36] fun o _=>?_
  refine A [1,31,4,1,12,0,80,41] (fun i _=>?_) zL1
  refine A [2,26,54,2,123,83,2,41] (fun j _=>?_) zMw
  refine A [3,26,60,2,117,83,2,41] (fun k _=>?_) zNd
  refine A [3,26,66,2,111,83,2,41] (fun l _=>?_) zMv
  refine A [3,26,72,2,105,83,2,41] (fun m _=>?_) zL2
  refine A [2,0,5,1,59,4,94] fun c _=>?_
  exact A [89] (tx c)
 ·refine A [86,6,93,77,13] ?_
  refine lw (zBU fu b) [1,82] [1] (fun a=>[(83,Z a)]) (fun _=>[]) fu 0 U U ?_
  rintro h a
  refine A [75,10,2,86,59,72,62,99] (fun f _=>?_) zNc
  refine A [57,5,1,59,4,94] fun d _=>?_
  exact A [89] (tx d)
def zAo (fu:Nat) (a:Forest):Option Bool:=bnd (zCz fu (⟨a⟩:zAL)) fun b=>some b
theorem zA3 {fu:Nat} {a:Forest}:DD (zAo fu a) 70 [.agg (zAD a)] fun r=>Y r:=by
 refine fcI Tryz.func70 U (A [9,30,1,57,80,20,41] (fun b _=>?_) zF7)
 exact A [57,8]
def zPY (fu:Nat) (a:Int):Option (Forest×Int):=bnd (zK7 fu 0 0) fun b=>bnd (zAo fu (⟨[b],a⟩:Forest)) fun c=>cnd (!c) (some ((⟨[],0⟩:Forest),1)) (some ((⟨[b],a⟩:Forest),0))
theorem zTG {fu:Nat} {a:Int}:DD (zPY fu a) 65 [Z a] fun r=>.tup [.agg (zAD r.1),Z r.2]:=by
 refine fcI Tryz.func65 U (A [9,31,2,57,9,41] (fun b _=>?_) zNN)
 refine pl ([b].map zAX) 6 U U U U U U (A [1,20,31,4,12,0,6,80,33,6,41] (fun c _=>?_) zA3)
 refine A [57,10,4,67,80,92,8,9,20,92] ?_
 exact zFp 2 [.sl 10 false ([].map zAX),Z 0] U ⟨.nil,.rfl,trivial⟩ U rN
def zNe (fu:Nat) (c a:Bs):Option Int:=cnd (!(a==([]:Bs))) (some 1) (bnd (zC9 fu c) fun b=>cnd b (some 1) (some 0))
theorem zUa {fu:Nat} {b a:Bs}:DD (zNe fu b a) 113 [O b,O a] fun r=>Z r:=by
 refine fcI Tryz.func113 U (A [75,93,26,7,2,3,83,1,41] (fun c _=>?_) zEa)
 exact A [57,5,1,59,67,59]
def zIN (fu:Nat) (a:Node):Option State:=cnd (a.Kind==1) (bnd (zNe fu a.Name a.Is) fun b=>some (⟨b,(-1),(-1),false⟩:State)) (some (⟨0,(-1),(-1),false⟩:State))
theorem zOJ {fu:Nat} {a:Node}:DD (zIN fu a) 66 [.agg (zAX a)] fun r=>.agg (zBN r):=by
 refine fcI Tryz.func66 U (A [9,30,1,31,2,0,9,20,31,3,12,0,6,93,0,10,4,67,80,12,74,14,104,41] (fun b _=>?_) zUa)
 exact A [1,12,0,80,12,74]
def zDW (_fu:Nat) (a:List (List Todo)):Option (List (List Todo)):=bnd (zDT 24 (([]:List (List Todo)).length+a.length)) fun _=>some (([]:List (List Todo))++a)
theorem zKW {fu:Nat} {a:List (List Todo)}:FF (zDW fu a) 178 [.sl 1 false (a.map zDZ)] [] [] (fun _=>.own 5) fun r=>[(5,.arr 51 1 (r.map zDZ))]:=by
 refine fcI Tryz.func178 U (A [75,80] ?_)
 refine zH3 (T:=tab) U U U U U U fun b d=>?_
 cases b
 ·refine A [0,23,67,9] ?_
  exact pl (([]:List (List Todo)).map zDZ) 5 U U U U U U (pq 1 U (pa zDZ ([]:List (List Todo)) a U U U U U U U U (zRG _) U U U (A [57,8])))
 ·have c:a=[]:=eZ.1 (d rfl)
  exact zKO (m':=some ([]:List (List Todo))) (by subst c;rfl) (A [0,25,58,56,5,51,1,2,8])
def zDx (_fu:Nat) (a:List (List Int)):Option (List (List Int)):=bnd (zDT 24 (([]:List (List Int)).length+a.length)) fun _=>some (([]:List (List Int))++a)
theorem zIl {fu:Nat} {a:List (List Int)}:FF (zDx fu a) 121 [.sl 1 false (a.map zAn)] [] [] (fun _=>.own 5) fun r=>[(5,.arr 32 1 (r.map zAn))]:=by
 refine fcI Tryz.func121 U (A [75,80] ?_)
 refine zH3 (T:=tab) U U U U U U fun b d=>?_
 cases b
 ·refine A [0,23,67,9] ?_
  exact pl (([]:List (List Int)).map zAn) 5 U U U U U U (pq 1 U (pa zAn ([]:List (List Int)) a U U U U U U U U (zNU _) U U U (A [57,8])))
 ·have c:a=[]:=eZ.1 (d rfl)
  exact zKO (m':=some ([]:List (List Int))) (by subst c;rfl) (A [0,25,58,56,5,32,1,2,8])
def zBY (_fu:Nat) (a:List Int):Option (List Int):=bnd (zDT 8 (([]:List Int).length+a.length)) fun _=>some (([]:List Int)++a)
theorem zFB {fu:Nat} {a:List Int}:FF (zBY fu a) 154 [.sl 1 false (a.map zAB)] [] [] (fun _=>.own 5) fun r=>[(5,.arr 3 1 (r.map zAB))]:=by
 refine fcI Tryz.func154 U (A [75,80] ?_)
 refine zH3 (T:=tab) U U U U U U fun b d=>?_
 cases b
 ·refine A [0,23,67,9] ?_
  exact pl (([]:List Int).map zAB) 5 U U U U U U (pq 1 U (pa zAB ([]:List Int) a U U U U U U U U (zDF _) U U U (A [57,8])))
 ·have c:a=[]:=eZ.1 (d rfl)
  exact zKO (m':=some ([]:List Int)) (by subst c;rfl) (A [0,25,58,56,5,3,1,2,8])
def zKS (fu:Nat) (l1:Line):Option Line:=bnd (zDW fu l1.Todos) fun a=>bnd (zDx fu l1.Stack) fun b=>bnd (zBY fu l1.Back) fun c=>some (⟨a,b,c,l1.Busy⟩:Line)
theorem zQp {fu:Nat} {l1:Line}:FF (zKS fu l1) 114 [.agg (zO7 l1)] [] [] (fun r=>.agg [.own 2050,.own 2080,.own 2110,Y r.Busy]) fun r=>[(2050,.arr 51 1 (r.Todos.map zDZ)),(2080,.arr 32 1 (r.Stack.map zAn)),(2110,.arr 3 1 (r.Back.map zAB))]:=by
 refine fcI Tryz.func114 U (A [9,30,1,31,2,0,6,52,2,2,1,2,2,1,53,15,0,1,3,0,8,31,0,64,255,223,1023,2047,4095,8191,16383,202,55,1,2,8,10,4101] (fun a _=>?_) zKW [(5,2050)] [2050])
 refine A [202,55,1,2,14,16,4161] (fun b _=>?_) zIl [(5,2080)] [2080]
 refine A [202,55,1,2,20,22,4221] (fun c _=>?_) zFB [(5,2110)] [2110]
 exact A [201,50,4,1,3,10,24,4101,3,201,50,4,1,3,16,26,4161,3,201,50,4,1,3,22,28,4221,3,79,80,12,74]
def zJC (fu:Nat) (l1:Line):Option Line:=bnd (zKS fu l1) fun a=>bnd (zDT 24 (a.Todos.length+([[]]:List (List Todo)).length)) fun _=>some ({a with Todos:=(a.Todos++[[]])}:Line)
theorem zPb {fu:Nat} {l1:Line}:DD (zJC fu l1) 67 [.agg (zO7 l1)] fun r=>.agg (zO7 r):=by
 refine fcI Tryz.func67 U (A [9,30,1,31,2,0,80,43] (fun a _=>?_) zQp [(2050,2040),(2080,2041),(2110,2042)] [2040,2041,2042])
 refine A [12,0,61] ?_
 exact pl ([[.v (.slice none 0 0)]]) 7 U U U U U U (zgK 7 (([[]]:List (List Todo)).map zDZ) U U U (pa zDZ a.Todos ([[]]:List (List Todo)) U U U U U U U U (zRG _) U U U (A [1,12,0,80,12,0,34,2040,34,2041,34,2042,8])))
def zG6 (_fu:Nat) (a:List Class):Option (List Class):=bnd (zDT 104 (([]:List Class).length+a.length)) fun _=>some (([]:List Class)++a)
theorem zKX {fu:Nat} {a:List Class}:FF (zG6 fu a) 68 [.sl 5 false (a.map zBb)] [] [] (fun _=>.own 5) fun r=>[(5,.arr 70 5 (r.map zBb))]:=by
 refine fcI Tryz.func68 U (A [75,80] ?_)
 refine zH3 (T:=tab) U U U U U U fun b d=>?_
 cases b
 ·refine A [0,23,67,9] ?_
  exact pl (([]:List Class).map zBb) 5 U U U U U U (pq 1 U (pa zBb ([]:List Class) a U U U U U U U U (zYv _) U U U (A [57,8])))
 ·have c:a=[]:=eZ.1 (d rfl)
  exact zKO (m':=some ([]:List Class)) (by subst c;rfl) (A [0,25,58,56,5,70,5,2,8])
def zDl (fu:Nat) (b:Bs):Option Bool:=bnd (zFw fu b) fun a=>cnd (a.2 != 0) (some true) (some (!(a.1==b)))
theorem zOH {fu:Nat} {a:Bs}:DD (zDl fu a) 179 [O a] fun r=>Y r:=by
 refine fcI Tryz.func179 U (A [58,80,41] (fun b _=>?_) zHd)
 exact A [105,0,93,26,12,2,105,74,105,74]
def zBJ (b:Bs->Option Bool) (a:List Bs):Nat->Int->Option Int
 | 0,_=>none
 | k1+1,t2=>cnd (decide (t2<(a.length:Int))) (bnd (idx a t2) fun e=>bnd (b e) fun d=>cnd d (some t2) (bnd (rng .i64 (t2+1)) fun c=>(zBJ b a k1) c)) (some (-1))
def zEc (fu:Nat) (b:Bs->Option Bool) (a:List Bs):Option Int:=(zBJ b a) fu 0
theorem zJj {fu:Nat} {a:List Bs}:DD (zEc fu (fun b=>zDl fu b) a) 243 [.sl 1 false (a.map zQT),.fn (.func 179) [] []] fun r=>Z r:=by
 refine fcI Tryz.func243 U (A [75,80,77,13] ?_)
 refine lw (zBJ (fun b=>zDl fu b) a) [0,1,7] [] (fun c=>[(8,Z c)]) (fun _=>[]) fu 0 U U ?_
 rintro e c
 refine A [75,10,2,86,59,72,62,93,36] fun g _=>?_
 refine A [1,44] (fun f _=>?_) zOH []
 refine A [0,5,2,62,8,4,94] fun d _=>?_
 exact A [89] (tx d)
def zCT (fu:Nat) (c:Bs->Option Bool) (b:List Bs):Option Bool:=bnd (zEc fu c b) fun a=>some (decide (a>=0))
theorem zId {fu:Nat} {a:List Bs}:DD (zCT fu (fun b=>zDl fu b) a) 182 [.sl 1 false (a.map zQT),.fn (.func 179) [] []] fun r=>Y r:=by
 refine fcI Tryz.func182 U (A [58,99] (fun c _=>?_) zJj)
 exact A [2,74]
def zGs (_fu:Nat) (l1:List Op):Option Bool:=some (decide ((l1.length:Int)>60))
theorem zLN {fu:Nat} {l1:List Op}:DD (zGs fu l1) 181 [.sl 7 false (l1.map cOp)] fun r=>Y r:=by
 exact fcI Tryz.func181 U (A [58,80,35,2,74])
def zDm (fu:Nat) (a:Hook):Option Bool:=cnd (decide (a.Kind<1)) (some true) (cnd (decide (a.Kind>8)) (some true) (bnd (zGs fu a.Do) fun b=>some b))
theorem zOI {fu:Nat} {a:Hook}:DD (zDm fu a) 180 [.agg (zIf a)] fun r=>Y r:=by
 refine fcI Tryz.func180 U (A [9,30,1,57,76,26,6,2,110,74,105,26,11,2,105,74,2,41] (fun b _=>?_) zLN)
 exact A [2,74]
def zA7 (b:Hook->Option Bool) (a:List Hook):Nat->Int->Option Int
 | 0,_=>none
 | k1+1,t2=>cnd (decide (t2<(a.length:Int))) (bnd (idx a t2) fun e=>bnd (b e) fun d=>cnd d (some t2) (bnd (rng .i64 (t2+1)) fun c=>(zA7 b a k1) c)) (some (-1))
def zD6 (fu:Nat) (b:Hook->Option Bool) (a:List Hook):Option Int:=(zA7 b a) fu 0
theorem zJK {fu:Nat} {a:List Hook}:DD (zD6 fu (fun b=>zDm fu b) a) 244 [.sl 2 false (a.map zIf),.fn (.func 180) [] []] fun r=>Z r:=by
 refine fcI Tryz.func244 U (A [75,80,77,13] ?_)
 refine lw (zA7 (fun b=>zDm fu b) a) [0,1,7] [] (fun c=>[(8,Z c)]) (fun _=>[]) fu 0 U U ?_
 rintro e c
 refine A [75,10,2,86,59,72,62,93,36] fun g _=>?_
 refine A [1,44] (fun f _=>?_) zOI []
 refine A [0,5,2,62,8,4,94] fun d _=>?_
 exact A [89] (tx d)
def zCB (fu:Nat) (c:Hook->Option Bool) (b:List Hook):Option Bool:=bnd (zD6 fu c b) fun a=>some (decide (a>=0))
theorem zII {fu:Nat} {a:List Hook}:DD (zCB fu (fun b=>zDm fu b) a) 183 [.sl 2 false (a.map zIf),.fn (.func 180) [] []] fun r=>Y r:=by
 refine fcI Tryz.func183 U (A [58,99] (fun c _=>?_) zJK)
 exact A [2,74]
def zHE (fu:Nat) (a:Class):Option Bool:=cnd (decide ((a.Watch.length:Int)<=12)) (bnd (zCT fu (fun b=>zDl fu b) a.Watch) fun c=>cnd (!c) (cnd (decide ((a.Hooks.length:Int)<=12)) (bnd (zCB fu (fun b=>zDm fu b) a.Hooks) fun d=>cnd (!d) (bnd (zGs fu a.Peek) fun e=>cnd (!e) (bnd (zGs fu a.Make) fun f=>some (!f)) (some false)) (some false)) (some false)) (some false)) (some false)
theorem zQB {fu:Nat} {a:Class}:DD (zHE fu a) 116 [.agg (zBb a)] fun r=>Y r:=by
 refine fcI Tryz.func116 U (A [9,30,1,57,58,58,61,35,2,27,9,2,132,74,3,41] (fun b _=>?_) zId)
 refine A [3,27,16,2,125,74,2,35,3,27,22,2,119,74,3,41] (fun c _=>?_) zII
 refine A [3,27,29,2,112,74,2,41] (fun d _=>?_) zLN
 refine A [3,27,35,2,106,74,2,41] (fun e _=>?_) zLN
 exact A [3,74]
def zBm (fu:Nat) (a:Class):Option Bool:=bnd (zHE fu a) fun b=>some (!b)
theorem zKc {fu:Nat} {a:Class}:DD (zBm fu a) 115 [.agg (zBb a)] fun r=>Y r:=by
 refine fcI Tryz.func115 U (A [9,30,1,57,80,41] (fun b _=>?_) zQB)
 exact A [2,74]
def zAx (b:Class->Option Bool) (a:List Class):Nat->Int->Option Int
 | 0,_=>none
 | k1+1,t2=>cnd (decide (t2<(a.length:Int))) (bnd (idx a t2) fun e=>bnd (b e) fun d=>cnd d (some t2) (bnd (rng .i64 (t2+1)) fun c=>(zAx b a k1) c)) (some (-1))
def zDz (fu:Nat) (b:Class->Option Bool) (a:List Class):Option Int:=(zAx b a) fu 0
theorem zIt {fu:Nat} {a:List Class}:DD (zDz fu (fun b=>zBm fu b) a) 184 [.sl 5 false (a.map zBb),.fn (.func 115) [] []] fun r=>Z r:=by
 refine fcI Tryz.func184 U (A [75,80,77,13] ?_)
 refine lw (zAx (fun b=>zBm fu b) a) [0,1,7] [] (fun c=>[(8,Z c)]) (fun _=>[]) fu 0 U U ?_
 rintro e c
 refine A [75,10,2,86,59,72,62,93,36] fun g _=>?_
 refine A [1,44] (fun f _=>?_) zKc []
 refine A [0,5,2,62,8,4,94] fun d _=>?_
 exact A [89] (tx d)
def zB0 (fu:Nat) (c:Class->Option Bool) (b:List Class):Option Bool:=bnd (zDz fu c b) fun a=>some (decide (a>=0))
theorem zHh {fu:Nat} {a:List Class}:DD (zB0 fu (fun b=>zBm fu b) a) 118 [.sl 5 false (a.map zBb),.fn (.func 115) [] []] fun r=>Y r:=by
 refine fcI Tryz.func118 U (A [58,99] (fun c _=>?_) zIt)
 exact A [2,74]
def zBn (_fu:Nat) (b:Def) (a:zAG):Option Bool:=some (decide (b.Class>=(a.World.Classes.length:Int)))
theorem zKd {fu:Nat} {b:Def} {a:zAG}:FF (zBn fu b a) 117 [.agg (zQC b),.loc 900000 0] [(900000,.box 94 (zBO a.World))] [900000] (fun r=>Y r) fun _=>[(900000,.box 94 (zBO a.World))]:=by
 exact fcI Tryz.func117 U (A [73,57,9,105,35,2,74])
def zBI (b:Def->Option Bool) (a:List Def):Nat->Int->Option Int
 | 0,_=>none
 | k1+1,t3=>cnd (decide (t3<(a.length:Int))) (bnd (idx a t3) fun e=>bnd (b e) fun d=>cnd d (some t3) (bnd (rng .i64 (t3+1)) fun c=>(zBI b a k1) c)) (some (-1))
def zEb (fu:Nat) (b:Def->Option Bool) (a:List Def):Option Int:=(zBI b a) fu 0
theorem zJc {fu:Nat} {b:List Def} {a:zAG}:FF (zEb fu (fun c=>zBn fu c a) b) 185 [.sl 3 false (b.map zQC),.fn (.func 117) [] [.loc 900000 0]] [(900000,.box 94 (zBO a.World))] [900000] (fun r=>Z r) fun _=>[(900000,.box 94 (zBO a.World))]:=by
 refine fcI Tryz.func185 U (A [75,80,77,13] ?_)
 refine lw (zBI (fun c=>zBn fu c a) b) [0,1,7] [900000] (fun d=>[(8,Z d)]) (fun _=>[]) fu 0 U U ?_
 rintro f d
 refine A [75,10,2,86,59,72,62,93,36] fun h _=>?_
 refine A [1,44] (fun g _=>?_) zKd [(900000,900000)]
 refine A [0,5,2,62,8,4,94] fun e _=>?_
 exact A [89] (tx e)
def zCR (fu:Nat) (c:Def->Option Bool) (b:List Def):Option Bool:=bnd (zEb fu c b) fun a=>some (decide (a>=0))
theorem zIY {fu:Nat} {b:List Def} {a:zAG}:FF (zCR fu (fun c=>zBn fu c a) b) 119 [.sl 3 false (b.map zQC),.fn (.func 117) [] [.loc 900000 0]] [(900000,.box 94 (zBO a.World))] [900000] (fun r=>Y r) fun _=>[(900000,.box 94 (zBO a.World))]:=by
 refine fcI Tryz.func119 U (A [58,61,44] (fun d _=>?_) zJc [(900000,900000)])
 exact A [2,74]
def zES (fu:Nat) (a:zAG):Option Bool:=cnd (decide ((a.World.Classes.length:Int)<=12)) (bnd (zB0 fu (fun b=>zBm fu b) a.World.Classes) fun c=>cnd (!c) (bnd (zCR fu (fun b=>zBn fu b a) a.World.Desk.Defs) fun d=>some (!d)) (some false)) (some false)
theorem zLo {fu:Nat} {a:zAG}:DD (zES fu a) 69 [.agg (zEX a)] fun r=>Y r:=by
 refine fcI Tryz.func69 U (A [9,30,1,57,58,62,93,35,2,27,11,2,117,74,104,41] (fun b _=>?_) zHh)
 refine A [3,27,19,2,109,74,105,44] (fun c _=>?_) zIY [(900000,1)]
 exact A [3,74]
def zEs (fu:Nat):Option (List Bs):=bnd (zQV fu ([97,32,98,32,98,117,116,116,111,110,32,100,105,118,32,102,105,101,108,100,115,101,116,32,102,111,114,109,32,105,32,105,110,112,117,116,32,108,97,98,101,108,32,108,101,103,101,110,100,32,108,105,32,111,112,116,105,111,110,32,111,117,116,112,117,116,32,112,32,115,101,108,101,99,116,32,115,112,97,110,32,116,101,109,112,108,97,116,101,32,116,101,120,116,97,114,101,97,32,117,108]:Bs)) fun a=>some a
theorem zTM {fu:Nat}:DD (zEs fu) 238 [] fun r=>.sl 1 false (r.map zQT):=by
 refine fcI Tryz.func238 U (A [58,9] ?_)
 exact pk (zU8 fu ([97,32,98,32,98,117,116,116,111,110,32,100,105,118,32,102,105,101,108,100,115,101,116,32,102,111,114,109,32,105,32,105,110,112,117,116,32,108,97,98,101,108,32,108,101,103,101,110,100,32,108,105,32,111,112,116,105,111,110,32,111,117,116,112,117,116,32,112,32,115,101,108,101,99,116,32,115,112,97,110,32,116,101,109,112,108,97,116,101,32,116,101,120,116,97,114,101,97,32,117,108]:Bs)) U U fun a _=>A [57,8]
def zJu (fu:Nat) (c:Bs):Option Bool:=bnd (zEs fu) fun a=>bnd (zA5 fu a c) fun b=>some b
theorem zTL {fu:Nat} {b:Bs}:DD (zJu fu b) 171 [O b] fun r=>Y r:=by
 refine fcI Tryz.func171 U (A [58,9] ?_)
 refine zKN (enc:=fun (a:(List Bs))=>.sl 1 false (a.map zQT)) (qs:=[]) zTM U U trivial (fun _=>U) zfU U U fun a _=>A [1,41] (fun c _=>?_) zDA
 exact A [57,8]
def zH5 (fu:Nat) (t2:Int) (c:List (Int×Int)) (d:List (Bs×Int)) (a:Def) (e:(Int×(List (Int×Int))×(List (Bs×Int)))->Option (zCv×Bool)) (b:Bool):Option (zCv×Bool):=bnd (zC9 fu a.Name) fun g=>cnd (!g) (some ((⟨(zGt d a.Name t2),(zGt c a.Class t2)⟩:zCv),false)) (cnd (!b) (some ((⟨(zGt d a.Name t2),(zGt c a.Class t2)⟩:zCv),false)) (cnd (decide (a.Class<0)) (some ((⟨(zGt d a.Name t2),(zGt c a.Class t2)⟩:zCv),false)) (cnd (decide (a.Class>=12)) (some ((⟨(zGt d a.Name t2),(zGt c a.Class t2)⟩:zCv),false)) (bnd (rng .i64 (t2+1)) fun f=>e (f,(zGt c a.Class t2),(zGt d a.Name t2))))))
def zEI (fu:Nat) (a:Desk):Nat->Int×(List (Int×Int))×(List (Bs×Int))->Option (zCv×Bool)
 | 0,_=>none
 | k1+1,(t2,l3,l4)=>cnd (decide (t2<(a.Defs.length:Int))) (bnd (idx a.Defs t2) fun b=>cnd (b.Local==b.Name) ((zH5 fu t2 l3 l4 b (zEI fu a k1)) true) (bnd (zJu fu b.Local) fun c=>(zH5 fu t2 l3 l4 b (zEI fu a k1)) c)) (cnd ((l4.length:Int)==(a.Defs.length:Int)) (some ((⟨l4,l3⟩:zCv),((l3.length:Int)==(a.Defs.length:Int)))) (some ((⟨l4,l3⟩:zCv),false)))
def zK6 (fu:Nat) (a:Desk):Option (zCv×Bool):=(zEI fu a) fu (0,([]:(List (Int×Int))),([]:(List (Bs×Int))))
theorem zUY {fu:Nat} {c:Desk}:FF (zK6 fu c) 108 [.agg (zIP c)] [] [] (fun r=>.tup [.agg [.own 8,.own 9],Y r.2]) fun r=>[(8,.mp (r.1.names.map fun p:Bs×Int=>(zNG p.1,Z p.2))),(9,.mp (r.1.classes.map fun p:Int×Int=>(zNz .i64 p.1,Z p.2)))]:=by
 refine fcI Tryz.func108 U (A [9,30,1,31,2,57,9] ?_)
 refine zHr 8 U U U U U U U (zHr 9 U U U U U U U (A [20,31,4,12,0,6,61,77,13] ?_))
 refine lw (zEI fu c) [1,2,4,12,13] [4,2,1] (fun (b,d,e)=>[(14,Z b)]) (fun (b,d,e)=>[(9,.mp (d.map fun p:Int×Int=>(zNz .i64 p.1,Z p.2))),(8,.mp (e.map fun p:Bs×Int=>(zNG p.1,Z p.2)))]) fu (0,([]:(List (Int×Int))),([]:(List (Bs×Int)))) U U ?_
 rintro i ⟨b,d,e⟩
 refine A [75] ?_
 refine zAE U ?_ ?_
 ·refine A [72,80,36] fun f _=>?_
  refine A [1,31,6,1,12,0,6,52,8,6,1,2,4,12,13,14,6,5,6,4,9,8,2,1,53,12,0,1,0,4,0,16,0,64,0,0,271,2047,210] ?_
  refine vS [17,40,44,54] [17] [] U U (zFo zIy (fun v=>Z v) e f.Name b Tryz.underlying142 Tryz.underlying9 U U U U U U U U U (pyq U)) U U (vS [19,48,52,56] [19] [] U U (zFo (zJ1 .i64) (fun v=>Z v) d f.Class b Tryz.underlying143 Tryz.underlying3 U U U U U U U U U (pyq U)) U U (A [79,9] ?_))
  refine zMp (zH5 fu b d e f (zEI fu c i)) (fun (a:Bool)=>[(1,.loc 1 0),(2,.loc 2 0),(4,.loc 4 0),(6,.loc 6 0),(7,Y a),(12,.sl 3 false (c.Defs.map zQC)),(13,Z (c.Defs.length:Int)),(14,Z b)]) (fun (a:Bool)=>[(6,.box 88 (zQC f)),(4,.box 145 [.own 8,.own 9]),(9,.mp ((zGt d f.Class b).map fun p:Int×Int=>(zNz .i64 p.1,Z p.2))),(8,.mp ((zGt e f.Name b).map fun p:Bs×Int=>(zNG p.1,Z p.2))),(2,.box 145 [.v (.map none),.v (.map none)]),(1,.box 29 (zIP c))]) ?_ fun g=>?_
  ·rintro a
   refine A [7,99] (fun l _=>?_) zEa
   refine A [2,26,43,5,113,65,80,92,8,104,26,47,5,109,65,80,92,8,105,26,52,5,104,65,80,92,8,104,0,5,3,80,92,8,4,94] fun h _=>?_
   exact A [89] (tx (h,(zGt d f.Class b),(zGt e f.Name b)))
  ·refine pq 6 U (zAT (j:=34) U ?_ ?_)
   ·exact A [105,11,45] (g true)
   ·refine A [2,41] (fun k _=>?_) zTL
    exact A [2,11,45] (g k)
 ·refine A [86,6,52,3,5,1,2,4,4,9,8,2,1,53,19,0,0,2,6,0,16,48,126,254,510,1022,2046,510,4606,12798,32766,65534,4095,262143,203] ?_
  refine vS [17,122] [124] [] U U (zPO (zNG) (fun v=>Z v) e Tryz.underlying142 U U U U U U U U (pyq U)) U U (vq 2 U (by kernel_rfl) (vS [128] [130] [] U U (zPy (T:=tab) zQC c.Defs U U U U U U U U (pyq U)) U U (vq 2 U (by kernel_rfl) (zBP (t:=67) U ?_ ?_))))
  ·exact vq 2 U (by kernel_rfl) (vS [19,134,138] [140] [] U U (zPO (zNz .i64) (fun v=>Z v) d Tryz.underlying143 U U U U U U U U (pyq U)) U U (vq 2 U (by kernel_rfl) (vS [134,144] [146] [] U U (zPy (T:=tab) zQC c.Defs U U U U U U U U (pyq U)) U U (A [202,50,5,1,4,5,17,19,118,5,201,79,8]))))
  ·exact A [208,50,5,1,4,5,17,19,118,5,201,79,8]
def zDd (fu:Nat) (a:Desk) (b:zCv×Bool):Nat->Bool×Int×Int->Option (zCv×Bool)
 | 0,_=>none
 | k1+1,(ok3,last4,t5)=>cnd (decide (t5<(a.Waits.length:Int))) (bnd (idx a.Waits t5) fun c=>cnd ok3 (cnd (!(zLT b.1.names c.Name)) (bnd (zC9 fu c.Name) fun i=>cnd i (cnd (decide (c.Ticket>last4)) (bnd (rng .i64 (t5+1)) fun g=>(zDd fu a b k1) ((decide (c.Ticket<a.Next)),c.Ticket,g)) (bnd (rng .i64 (t5+1)) fun h=>(zDd fu a b k1) (false,c.Ticket,h))) (bnd (rng .i64 (t5+1)) fun d=>(zDd fu a b k1) (false,c.Ticket,d))) (bnd (rng .i64 (t5+1)) fun e=>(zDd fu a b k1) (false,c.Ticket,e))) (bnd (rng .i64 (t5+1)) fun f=>(zDd fu a b k1) (false,c.Ticket,f))) (cnd ok3 (cnd (decide (a.Next>=0)) (some (b.1,(decide (a.Next<=100000)))) (some (b.1,false))) (some (b.1,false)))
def zHY (fu:Nat) (a:Desk):Option (zCv×Bool):=bnd (zK6 fu a) fun b=>(zDd fu a b) fu (b.2,(-1),0)
theorem zLy {fu:Nat} {d:Desk}:FF (zHY fu d) 63 [.agg (zIP d)] [] [] (fun r=>.tup [.agg [.own 2130,.own 2131],Y r.2]) fun r=>[(2130,.mp (r.1.names.map fun p:Bs×Int=>(zNG p.1,Z p.2))),(2131,.mp (r.1.classes.map fun p:Int×Int=>(zNz .i64 p.1,Z p.2)))]:=by
 refine fcI Tryz.func63 U (A [9,30,1,31,2,57,80,43] (fun h _=>?_) zUY [(8,2130),(9,2131)] [2130,2131])
 refine A [3,31,4,92,75,61,77,13] ?_
 refine lw (zDd fu d h) [1,2,4,17,18] [4,2130,2131,2,1] (fun (c,a,i)=>[(5,Y c),(6,Z a),(19,Z i)]) (fun _=>[]) fu (h.2,(-1),0) U U ?_
 rintro m ⟨c,a,i⟩
 refine A [75] ?_
 refine zAE U ?_ ?_
 ·refine A [72,9,36] fun b _=>?_
  refine A [1,31,8,12,0,76] ?_
  refine zHq (T:=tab) zIy (fun v=>Z v) h.1.names b.Name 0 Tryz.underlying142 Tryz.underlying9 U U U U U U U U U (A [105,0,61] ?_)
  refine zAT (j:=32) U ?_ ?_
  ·refine pq 4 U (zAT (j:=36) U ?_ ?_)
   ·refine A [2,41] (fun n _=>?_) zEa
    refine pq 2 U (zAT (j:=41) U ?_ ?_)
    ·refine pq 6 U (zAT (j:=47) U ?_ ?_)
     ·refine A [107,0,14,3,11,94] fun k _=>?_
      exact A [89] (tx ((decide (b.Ticket<d.Next)),b.Ticket,k))
     ·refine A [107,0,14,3,11,94] fun l _=>?_
      exact A [89] (tx (false,b.Ticket,l))
    ·refine A [113,0,14,3,11,94] fun e _=>?_
     exact A [89] (tx (false,b.Ticket,e))
   ·refine A [118,0,14,3,11,94] fun f _=>?_
    exact A [89] (tx (false,b.Ticket,f))
  ·refine A [122,0,14,3,11,94] fun g _=>?_
   exact A [89] (tx (false,b.Ticket,g))
 ·refine A [86,6,52,4,5,1,2,4,5,4,2130,2131,2,1,53,14,0,0,2,6,14,30,62,126,254,510,1022,2046,255,8191,203] ?_
  refine zBP (t:=59) U ?_ ?_
  ·refine vq 5 U (by kernel_rfl) (zBP (t:=64) U ?_ ?_)
   ·exact A [204,50,5,1,4,5,114,4261,4263,5,201,79,8]
   ·exact A [204,50,5,1,4,5,114,4261,4263,5,201,79,8]
  ·exact A [209,50,5,1,4,5,114,4261,4263,5,201,79,8]
def zGi (fu:Nat) (a:Desk):Option Bool:=bnd (zHY fu a) fun b=>some b.2
theorem zK5 {fu:Nat} {a:Desk}:DD (zGi fu a) 71 [.agg (zIP a)] fun r=>Y r:=by
 refine fcI Tryz.func71 U (A [9,30,1,57,80,43] (fun b _=>?_) zLy [(2130,2070),(2131,2071)] [2070,2071])
 exact A [3,31,3,92,62,8]
def zL4 (_fu:Nat) (l1:Line) (a:Int):Option Bool:=cnd (decide (a>=0)) (some (decide (a<(l1.Todos.length:Int)))) (some false)
theorem zSM {fu:Nat} {l1:Line} {a:Int}:DD (zL4 fu l1 a) 122 [.agg (zO7 l1),Z a] fun r=>Y r:=by
 exact fcI Tryz.func122 U (A [73,57,93,26,7,4,3,35,3,74,107,74])
def zE8 (fu:Nat) (l1:Line) (c:Int) (b:List Int) (a:Int->Option Bool):Nat->Int->Option Bool
 | 0,_=>none
 | k2+1,t5=>cnd (decide (t5<(b.length:Int))) (bnd (idx b t5) fun g=>bnd (zL4 fu l1 g) fun f=>cnd (!f) (some false) (bnd (rng .i64 (t5+1)) fun d=>(zE8 fu l1 c b a k2) d)) (bnd (rng .i64 (c+1)) fun e=>a e)
def zE7 (fu:Nat) (l1:Line) (a:List (List Int)):Nat->Int->Option Bool
 | 0,_=>none
 | k1+1,t3=>cnd (decide (t3<((a++[l1.Back]).length:Int))) (bnd (idx (a++[l1.Back]) t3) fun b=>(zE8 fu l1 t3 b (zE7 fu l1 a k1)) fu 0) (some true)
def zH6 (fu:Nat) (l1:Line):Option Bool:=bnd (zDx fu l1.Stack) fun a=>bnd (zDT 24 (a.length+([l1.Back]:List (List Int)).length)) fun _=>(zE7 fu l1 a) fu 0
theorem zN3 {fu:Nat} {l1:Line}:DD (zH6 fu l1) 72 [.agg (zO7 l1)] fun r=>Y r:=by
 refine fcI Tryz.func72 U (A [9,30,1,57,6,6,52,1,1,1,1,53,9,0,1,3,0,8,24,63,127,0,202,55,1,2,16,18,4181] (fun a _=>?_) zIl [(5,2090)] [2090])
 refine vq 2 U (by kernel_rfl) (vS [22] [24,25] [12] U U (pl ([l1.Back].map zAn) 12 U U U U U U (pyq U)) U U (vU [18,24,25,4181] [26,18,4181] [2090] U U (pa zAn a ([l1.Back]:List (List Int)) U U U U U U U U (zNU _) U U U (pyq U)) U U fun _ _=>vS [26,4181] [28] [] U U (zSu (T:=tab) zAn (a++[l1.Back]) U U U U U U U U U (pyq U)) U U (A [201,79,13] ?_)))
 refine lw (zE7 fu l1 a) [1,13,14] [2090,1] (fun c=>[(15,Z c)]) (fun _=>[]) fu 0 U U ?_
 rintro h c
 refine A [75,10,2,86,59,72,9,38] fun e b=>?_
 refine zAr (T:=tab) zAn (a++[l1.Back]) e (zAu b) U U U U U U U U (A [57,80,77,13] ?_)
 refine lw (zE8 fu l1 c e (zE7 fu l1 a h)) [1,13,14,15,19,20] [2090,1] (fun d=>[(21,Z d)]) (fun _=>[]) fu 0 U U ?_
 rintro i d
 refine A [75] ?_
 refine zAE U ?_ ?_
 ·refine A [72,9,36] fun k _=>?_
  refine A [2,0,99] (fun j _=>?_) zSM
  refine A [57,5,1,59,4,94] fun f _=>?_
  exact A [89] (tx f)
 ·refine A [17,94] fun g _=>?_
  exact A [89] (tx g)
def zEU (_fu:Nat) (b:zAG) (a:Int):Option Bool:=cnd (decide (a>=0)) (some (decide (a<(b.World.Forest.Nodes.length:Int)))) (some false)
theorem zGg {fu:Nat} {b:zAG} {a:Int}:DD (zEU fu b a) 123 [.agg (zEX b),Z a] fun r=>Y r:=by
 exact fcI Tryz.func123 U (A [73,57,93,26,7,4,105,35,3,74,109,74])
def zCL (_fu:Nat) (b:zAG) (a:Int):Option Bool:=cnd (decide (a>=0)) (some (decide (a<(b.World.Desk.Defs.length:Int)))) (some false)
theorem zDL {fu:Nat} {b:zAG} {a:Int}:DD (zCL fu b a) 124 [.agg (zEX b),Z a] fun r=>Y r:=by
 exact fcI Tryz.func124 U (A [73,57,93,26,7,4,105,35,3,74,109,74])
def zCp (fu:Nat) (e:zAG) (c:State) (a d:Bool):Option Bool:=cnd d (cnd a (cnd (c.Def==(-1)) (some true) (bnd (zCL fu e c.Def) fun b=>some b)) (some false)) (some false)
def zDS (fu:Nat) (c:zAG) (b:State) (a e:Bool):Option Bool:=cnd e (cnd a (bnd (zCL fu c b.Def) fun d=>some d) (some false)) (cnd (b.Phase==0) ((zCp fu c b a) (b.Phase==0)) (cnd (b.Phase==1) ((zCp fu c b a) (b.Phase==1)) ((zCp fu c b a) (b.Phase==4))))
def zDR (fu:Nat) (c:zAG) (b:State) (a:Bool):Option Bool:=cnd (b.Phase==2) ((zDS fu c b a) (b.Phase==2)) ((zDS fu c b a) (b.Phase==3))
def zFK (fu:Nat) (a:zAG) (c:Int):Option Bool:=bnd (idx a.World.States c) fun b=>bnd (idx a.World.Forest.Nodes c) fun e=>cnd (e.Kind != 1) (some (zRQ b (⟨0,(-1),(-1),false⟩:State))) (cnd (b.Owner==(-1)) ((zDR fu a b) true) (bnd (zEU fu a b.Owner) fun d=>(zDR fu a b) d))
theorem zNE {fu:Nat} {d:zAG} {g:Int}:DD (zFK fu d g) 73 [.agg (zEX d),Z g] fun r=>Y r:=by
 refine fcI Tryz.func73 U (A [73,57,76,36] fun b _=>?_)
 refine A [1,31,5,12,0,6,9,105,36] fun n _=>?_
 refine A [3,0] ?_
 refine zAE U ?_ ?_
 ·refine A [80,20] ?_
  exact po_eq zef U U U U U U U (A [57,8])
 ·refine A [67,9] ?_
  refine zMp (zDR fu d b) (fun (a:Bool)=>[(2,.loc 2 0),(5,.loc 5 0),(6,Y a)]) (fun (a:Bool)=>[(5,.box 53 (zBN b)),(2,.box 94 (zBO d.World))]) ?_ fun e=>?_
  ·rintro a
   refine A [7,6,62,13,6,62] ?_
   refine jw (zDS fu d b a) [2,5,6,35] [5,2] (fun h=>[(36,Y h)]) (fun _=>[]) U U ?_ fun f=>?_
   ·rintro h
    refine zIp (zAE U ?_ ?_)
    ·refine A [61,27,40,2,106,74,3,41] (fun m _=>?_) zDL
     exact A [2,74]
    ·refine A [6,62] ?_
     refine jw (zCp fu d b a) [2,5,6] [5,2] (fun i=>[(46,Y i)]) (fun _=>[]) U U ?_ fun c=>?_
     ·rintro i
      refine A [7,10,3,4,69,59,61,27,51,2,111,74,104,26,55,2,107,74,3,41] (fun k _=>?_) zDL
      exact A [3,74]
     ·refine zAE U ?_ ?_
      ·exact A [4,45] (c (b.Phase==0))
      ·refine A [62] ?_
       refine zAE U ?_ ?_
       ·exact A [4,45] (c (b.Phase==1))
       ·exact A [14,2,11,45] (c (b.Phase==4))
   ·refine zAE U ?_ ?_
    ·exact A [4,45] (f (b.Phase==2))
    ·exact A [14,2,11,45] (f (b.Phase==3))
  ·refine pq 4 U (zAT (j:=28) U ?_ ?_)
   ·exact A [106,11,45] (e true)
   ·refine A [3,41] (fun l _=>?_) zGg
    exact A [2,11,45] (e l)
def zEV (fu:Nat) (a:zAG) (t2:Todo):Option Bool:=cnd (decide (t2.Kind>=1)) (cnd (decide (t2.Kind<9)) (some true) (cnd (t2.Kind==9) (bnd (zCL fu a t2.Def) fun b=>some b) (some false))) (cnd (t2.Kind==9) (bnd (zCL fu a t2.Def) fun c=>some c) (some false))
theorem zJP {fu:Nat} {a:zAG} {t2:Todo}:DD (zEV fu a t2) 76 [.agg (zEX a),.agg (zKG t2)] fun r=>Y r:=by
 refine fcI Tryz.func76 U (A [73,30,3,57,76] ?_)
 refine zAT (j:=8) U ?_ ?_
 ·refine A [105,26,13,2,111,74,104,27,17,2,107,74,3,41] (fun b _=>?_) zDL
  exact A [3,74]
 ·refine A [109,27,17,2,107,74,3,41] (fun c _=>?_) zDL
  exact A [3,74]
def zCM (fu:Nat) (c:Todo) (a:zAG):Option Bool:=bnd (zEV fu a c) fun b=>some (!b)
theorem zLq {fu:Nat} {b:Todo} {a:zAG}:FF (zCM fu b a) 75 [.agg (zKG b),.loc 900000 0] [(900000,.box 94 (zBO a.World))] [900000] (fun r=>Y r) fun _=>[(900000,.box 94 (zBO a.World))]:=by
 refine fcI Tryz.func75 U (A [73,57,99] (fun c _=>?_) zJP)
 exact A [2,74]
def zA9 (b:Todo->Option Bool) (a:List Todo):Nat->Int->Option Int
 | 0,_=>none
 | k1+1,t3=>cnd (decide (t3<(a.length:Int))) (bnd (idx a t3) fun e=>bnd (b e) fun d=>cnd d (some t3) (bnd (rng .i64 (t3+1)) fun c=>(zA9 b a k1) c)) (some (-1))
def zD8 (fu:Nat) (b:Todo->Option Bool) (a:List Todo):Option Int:=(zA9 b a) fu 0
theorem zJM {fu:Nat} {b:List Todo} {a:zAG}:FF (zD8 fu (fun c=>zCM fu c a) b) 125 [.sl 10 false (b.map zKG),.fn (.func 75) [] [.loc 900000 0]] [(900000,.box 94 (zBO a.World))] [900000] (fun r=>Z r) fun _=>[(900000,.box 94 (zBO a.World))]:=by
 refine fcI Tryz.func125 U (A [75,80,77,13] ?_)
 refine lw (zA9 (fun c=>zCM fu c a) b) [0,1,7] [900000] (fun d=>[(8,Z d)]) (fun _=>[]) fu 0 U U ?_
 rintro f d
 refine A [75,10,2,86,59,72,62,93,36] fun h _=>?_
 refine A [1,44] (fun g _=>?_) zLq [(900000,900000)]
 refine A [0,5,2,62,8,4,94] fun e _=>?_
 exact A [89] (tx e)
def zCD (fu:Nat) (c:Todo->Option Bool) (b:List Todo):Option Bool:=bnd (zD8 fu c b) fun a=>some (decide (a>=0))
theorem zIK {fu:Nat} {b:List Todo} {a:zAG}:FF (zCD fu (fun c=>zCM fu c a) b) 74 [.sl 10 false (b.map zKG),.fn (.func 75) [] [.loc 900000 0]] [(900000,.box 94 (zBO a.World))] [900000] (fun r=>Y r) fun _=>[(900000,.box 94 (zBO a.World))]:=by
 refine fcI Tryz.func74 U (A [58,61,44] (fun d _=>?_) zJM [(900000,900000)])
 exact A [2,74]
def zFa (fu:Nat) (b:zAG) (t2:Task):Option Bool:=cnd (t2.Kind==1) (cnd (t2.Ticket==0) (some (t2.Def==0)) (some false)) (cnd (t2.Kind==2) (cnd (decide (t2.Ticket>=0)) (bnd (zCL fu b t2.Def) fun a=>some a) (some false)) (some false))
theorem zNk {fu:Nat} {a:zAG} {t2:Task}:DD (zFa fu a t2) 79 [.agg (zEX a),.agg (zIg t2)] fun r=>Y r:=by
 refine fcI Tryz.func79 U (A [73,30,3,57,6,62,13,62,5,8,76,26,12,2,105,74,105,74,62,10,3,4,69,59,76,27,22,2,106,74,3,41] (fun b _=>?_) zDL)
 exact A [2,74]
def zCN (fu:Nat) (c:Task) (a:zAG):Option Bool:=bnd (zFa fu a c) fun b=>some (!b)
theorem zLr {fu:Nat} {b:Task} {a:zAG}:FF (zCN fu b a) 78 [.agg (zIg b),.loc 900000 0] [(900000,.box 94 (zBO a.World))] [900000] (fun r=>Y r) fun _=>[(900000,.box 94 (zBO a.World))]:=by
 refine fcI Tryz.func78 U (A [73,57,99] (fun c _=>?_) zNk)
 exact A [2,74]
def zA8 (b:Task->Option Bool) (a:List Task):Nat->Int->Option Int
 | 0,_=>none
 | k1+1,t3=>cnd (decide (t3<(a.length:Int))) (bnd (idx a t3) fun e=>bnd (b e) fun d=>cnd d (some t3) (bnd (rng .i64 (t3+1)) fun c=>(zA8 b a k1) c)) (some (-1))
def zD7 (fu:Nat) (b:Task->Option Bool) (a:List Task):Option Int:=(zA8 b a) fu 0
theorem zJL {fu:Nat} {b:List Task} {a:zAG}:FF (zD7 fu (fun c=>zCN fu c a) b) 126 [.sl 3 false (b.map zIg),.fn (.func 78) [] [.loc 900000 0]] [(900000,.box 94 (zBO a.World))] [900000] (fun r=>Z r) fun _=>[(900000,.box 94 (zBO a.World))]:=by
 refine fcI Tryz.func126 U (A [75,80,77,13] ?_)
 refine lw (zA8 (fun c=>zCN fu c a) b) [0,1,7] [900000] (fun d=>[(8,Z d)]) (fun _=>[]) fu 0 U U ?_
 rintro f d
 refine A [75,10,2,86,59,72,62,93,36] fun h _=>?_
 refine A [1,44] (fun g _=>?_) zLr [(900000,900000)]
 refine A [0,5,2,62,8,4,94] fun e _=>?_
 exact A [89] (tx e)
def zCC (fu:Nat) (c:Task->Option Bool) (b:List Task):Option Bool:=bnd (zD7 fu c b) fun a=>some (decide (a>=0))
theorem zIJ {fu:Nat} {b:List Task} {a:zAG}:FF (zCC fu (fun c=>zCN fu c a) b) 77 [.sl 3 false (b.map zIg),.fn (.func 78) [] [.loc 900000 0]] [(900000,.box 94 (zBO a.World))] [900000] (fun r=>Y r) fun _=>[(900000,.box 94 (zBO a.World))]:=by
 refine fcI Tryz.func77 U (A [58,61,44] (fun d _=>?_) zJL [(900000,900000)])
 exact A [2,74]
def zDQ (fu:Nat) (d:zAG) (b:Build) (a:Bool):Option Bool:=bnd (zCL fu d b.Def) fun c=>cnd c (cnd (b.Node==(-4)) (some true) (some a)) (some false)
def zFJ (fu:Nat) (b:zAG) (a:Build):Option Bool:=bnd (zEU fu b a.Node) fun c=>cnd c (bnd (idx b.World.Forest.Nodes a.Node) fun d=>(zDQ fu b a) (d.Kind==1)) ((zDQ fu b a) false)
theorem zND {fu:Nat} {d:zAG} {c:Build}:DD (zFJ fu d c) 82 [.agg (zEX d),.agg (zIO c)] fun r=>Y r:=by
 refine fcI Tryz.func82 U (A [73,30,3,57,9] ?_)
 refine zMp (zDQ fu d c) (fun (a:Bool)=>[(2,.loc 2 0),(3,.loc 3 0),(5,Y a)]) (fun (a:Bool)=>[(3,.box 104 (zIO c)),(2,.box 94 (zBO d.World))]) ?_ fun b=>?_
 ·rintro a
  refine A [7,93,41] (fun g _=>?_) zDL
  exact A [1,26,26,8,104,26,30,2,104,74,104,74,108,74]
 ·refine A [3,41] (fun f _=>?_) zGg
  refine pq 1 U (zAT (j:=10) U ?_ ?_)
  ·refine A [106,36] fun e _=>?_
   exact A [105,11,45] (b (e.Kind==1))
  ·exact A [112,11,45] (b false)
def zCO (fu:Nat) (a:Build) (b:zAG):Option Bool:=bnd (zFJ fu b a) fun c=>some (!c)
theorem zLs {fu:Nat} {b:Build} {a:zAG}:FF (zCO fu b a) 81 [.agg (zIO b),.loc 900000 0] [(900000,.box 94 (zBO a.World))] [900000] (fun r=>Y r) fun _=>[(900000,.box 94 (zBO a.World))]:=by
 refine fcI Tryz.func81 U (A [73,57,99] (fun c _=>?_) zND)
 exact A [2,74]
def zAw (b:Build->Option Bool) (a:List Build):Nat->Int->Option Int
 | 0,_=>none
 | k1+1,t3=>cnd (decide (t3<(a.length:Int))) (bnd (idx a t3) fun e=>bnd (b e) fun d=>cnd d (some t3) (bnd (rng .i64 (t3+1)) fun c=>(zAw b a k1) c)) (some (-1))
def zDy (fu:Nat) (b:Build->Option Bool) (a:List Build):Option Int:=(zAw b a) fu 0
theorem zIs {fu:Nat} {b:List Build} {a:zAG}:FF (zDy fu (fun c=>zCO fu c a) b) 127 [.sl 2 false (b.map zIO),.fn (.func 81) [] [.loc 900000 0]] [(900000,.box 94 (zBO a.World))] [900000] (fun r=>Z r) fun _=>[(900000,.box 94 (zBO a.World))]:=by
 refine fcI Tryz.func127 U (A [75,80,77,13] ?_)
 refine lw (zAw (fun c=>zCO fu c a) b) [0,1,7] [900000] (fun d=>[(8,Z d)]) (fun _=>[]) fu 0 U U ?_
 rintro f d
 refine A [75,10,2,86,59,72,62,93,36] fun h _=>?_
 refine A [1,44] (fun g _=>?_) zLs [(900000,900000)]
 refine A [0,5,2,62,8,4,94] fun e _=>?_
 exact A [89] (tx e)
def zBz (fu:Nat) (c:Build->Option Bool) (b:List Build):Option Bool:=bnd (zDy fu c b) fun a=>some (decide (a>=0))
theorem zHg {fu:Nat} {b:List Build} {a:zAG}:FF (zBz fu (fun c=>zCO fu c a) b) 80 [.sl 2 false (b.map zIO),.fn (.func 81) [] [.loc 900000 0]] [(900000,.box 94 (zBO a.World))] [900000] (fun r=>Y r) fun _=>[(900000,.box 94 (zBO a.World))]:=by
 refine fcI Tryz.func80 U (A [58,61,44] (fun d _=>?_) zIs [(900000,900000)])
 exact A [2,74]
def zBu (fu:Nat) (a:zAG):Nat->Int->Option Bool
 | 0,_=>none
 | k1+1,t6=>cnd (decide (t6<(a.World.Line.Todos.length:Int))) (bnd (idx a.World.Line.Todos t6) fun h=>bnd (zFK fu a t6) fun f=>cnd (!f) (some false) (bnd (zCD fu (fun b=>zCM fu b a) h) fun g=>cnd g (some false) (bnd (rng .i64 (t6+1)) fun c=>(zBu fu a k1) c))) (bnd (zCC fu (fun b=>zCN fu b a) a.World.Tasks) fun d=>cnd (!d) (bnd (zBz fu (fun b=>zCO fu b a) a.World.Builds) fun e=>some (!e)) (some false))
def zC7 (fu:Nat) (a:zAG):Option Bool:=cnd ((a.World.States.length:Int) != (a.World.Forest.Nodes.length:Int)) (some false) (cnd ((a.World.Line.Todos.length:Int) != (a.World.Forest.Nodes.length:Int)) (some false) (bnd (zES fu a) fun b=>cnd (!b) (some false) (bnd (zAo fu a.World.Forest) fun c=>cnd (!c) (some false) (bnd (zGi fu a.World.Desk) fun d=>cnd (!d) (some false) (bnd (zH6 fu a.World.Line) fun e=>cnd (!e) (some false) ((zBu fu a) fu 0))))))
theorem zF9 {fu:Nat} {b:zAG}:DD (zC7 fu b) 36 [.agg (zEX b)] fun r=>Y r:=by
 refine fcI Tryz.func36 U (A [9,30,1,57,76,77,6,93,35,3,26,17,2,134,83,104,35,104,26,26,2,125,83,1,41] (fun g _=>?_) zLo)
 refine A [3,26,31,2,120,83,3,41] (fun h _=>?_) zA3
 refine A [3,26,38,2,113,83,3,41] (fun i _=>?_) zK5
 refine A [3,26,45,2,106,83,3,41] (fun j _=>?_) zN3
 refine A [2,0,5,1,59,68,76,77,13] ?_
 refine lw (zBu fu b) [1,55,56] [1] (fun c=>[(57,Z c)]) (fun _=>[]) fu 0 U U ?_
 rintro f c
 refine A [75] ?_
 refine zAE U ?_ ?_
 ·refine A [72,80,36] fun m _=>?_
  refine A [3,0,99] (fun k _=>?_) zNE
  refine A [2,26,66,2,104,83,2,44] (fun l _=>?_) zIK [(900000,1)]
  refine A [57,5,1,59,4,94] fun a _=>?_
  exact A [89] (tx a)
 ·refine A [86,76,44] (fun d _=>?_) zIJ [(900000,1)]
  refine A [2,27,78,2,108,74,104,44] (fun e _=>?_) zHg [(900000,1)]
  exact A [3,74]
def zFz (fu:Nat) (b:World):Option Bool:=bnd (zC7 fu (⟨b⟩:zAG)) fun a=>some a
theorem zKF {fu:Nat} {a:World}:DD (zFz fu a) 10 [.agg (zBO a)] fun r=>Y r:=by
 refine fcI Tryz.func10 U (A [9,30,1,57,80,20,41] (fun b _=>?_) zF9)
 exact A [57,8]
def zRA (fu:Nat) (a:List Class) (b:Int):Option (World×Int):=bnd (zPY fu b) fun c=>bnd (zIN fu (⟨0,[],[],[],[],0,[],0,0,0⟩:Node)) fun d=>bnd (zJC fu (⟨[],[],[],false⟩:Line)) fun e=>bnd (zG6 fu a) fun f=>cnd (c.2 != 0) (some ((⟨(⟨[],0⟩:Forest),[],(⟨[],[],0,false⟩:Desk),(⟨[],[],[],false⟩:Line),[],[],[]⟩:World),1)) (bnd (zFz fu (⟨c.1,[d],(⟨[],[],0,false⟩:Desk),e,[],[],f⟩:World)) fun g=>cnd (!g) (some ((⟨(⟨[],0⟩:Forest),[],(⟨[],[],0,false⟩:Desk),(⟨[],[],[],false⟩:Line),[],[],[]⟩:World),1)) (some ((⟨c.1,[d],(⟨[],[],0,false⟩:Desk),e,[],[],f⟩:World),0)))
theorem zUj {fu:Nat} {a:List Class} {b:Int}:DD (zRA fu a b) 30 [.sl 5 false (a.map zBb),Z b] fun r=>.tup [.agg (zBO r.1),Z r.2]:=by
 refine fcI Tryz.func30 U fun {_ _ _ _ _}=>?_
 refine A [9,31,4,57,80,41] (fun e _=>?_) zTG
 refine A [3,31,6,92,6,52,4,2,0,4,6,7,6,4,53,11,0,0,2,6,0,22,0,118,255,0,1023,201,51,0,1,30] ?_
 refine vT [30] [32] [] U U (zKN (enc:=fun (d:State)=>.agg (zBN d)) (qs:=[.agg (zAX (⟨0,[],[],[],[],0,[],0,0,0⟩:Node))]) zOJ U U ⟨⟨_,U,(.agg ⟨.rfl,.rfl,.rfl,.rfl,.nil,.rfl,.nil,.rfl,.rfl,.rfl,trivial⟩)⟩,trivial⟩ (fun _=>U) call66 U U fun d _=>pzq U) (fun _=>U) (fun _=>U) fun d _=>?_
 refine vS [32] [34,35] [17] U U (pl ([d].map zBN) 17 U U U U U U (pyq U)) U U ?_
 refine vS [] [36] [] U U (zOm (T:=tab) U U U U U U U (pyq U)) U U ?_
 refine vT [36] [38] [] U U (zKN (enc:=fun (c:Line)=>.agg (zO7 c)) (qs:=[.agg (zO7 (⟨[],[],[],false⟩:Line))]) zPb U U ⟨⟨_,U,(.agg ⟨.nil,.nil,.nil,.rfl,trivial⟩)⟩,trivial⟩ (fun _=>U) call67 U U fun c _=>pzq U) (fun _=>U) (fun _=>U) fun c _=>?_
 refine A [201,55,1,2,40,42,4421] (fun f _=>?_) zKX [(5,2210)] [2210]
 refine vS [28,34,35,38,42,4421] [44] [] U U (zOm (T:=tab) U U U U U U U (pyq U)) U U ?_
 refine vS [] [16,17] [8] U U (zF4 (T:=tab) 8 U U U U U U U U U (pyq U)) U U ?_
 refine A [50,5,1,16,17,35,44,4421,17,79,6,93] ?_
 refine zAT (j:=25) U ?_ ?_
 ·refine A [104,65,9,20,92] ?_
  refine zFp 4 [.sl 10 false ([].map zAX),Z 0,.sl 4 false ([].map zBN),.sl 3 false ([].map zQC),.sl 2 false ([].map zIw),Z 0,Y false,.sl 1 false ([].map zDZ),.sl 1 false ([].map zAn),.sl 1 false ([].map zAB),Y false,.sl 3 false ([].map zIg),.sl 2 false ([].map zIO),.sl 5 false ([].map zBb)] U ⟨.nil,.rfl,.nil,.nil,.nil,.rfl,.rfl,.nil,.nil,.nil,.rfl,.nil,.nil,.nil,trivial⟩ U ?_
  exact rN
 ·refine A [1,33,17,33,2210] ?_
  refine zKN (enc:=fun (g:Bool)=>Y g) (qs:=[.agg (zBO (⟨e.1,[d],(⟨[],[],0,false⟩:Desk),c,[],[],f⟩:World))]) zKF U U ⟨⟨_,U,(.agg ⟨.rfl,.rfl,.rfl,.nil,.nil,.rfl,.rfl,.rfl,.rfl,.rfl,.rfl,.nil,.nil,.rfl,trivial⟩)⟩,trivial⟩ (fun _=>U) call10 U U fun g _=>?_
  refine A [2,0] ?_
  refine zAE U ?_ ?_
  ·refine A [9,20,92] ?_
   refine zFp 4 [.sl 10 false ([].map zAX),Z 0,.sl 4 false ([].map zBN),.sl 3 false ([].map zQC),.sl 2 false ([].map zIw),Z 0,Y false,.sl 1 false ([].map zDZ),.sl 1 false ([].map zAn),.sl 1 false ([].map zAB),Y false,.sl 3 false ([].map zIg),.sl 2 false ([].map zIO),.sl 5 false ([].map zBb)] U ⟨.nil,.rfl,.nil,.nil,.nil,.rfl,.rfl,.nil,.nil,.nil,.rfl,.nil,.nil,.nil,trivial⟩ U ?_
   exact rN
  ·refine A [67,80,92] ?_
   refine zFp 4 [.sl 10 false (e.1.Nodes.map zAX),Z e.1.Most,.sl 4 false ([d].map zBN),.sl 3 false ([].map zQC),.sl 2 false ([].map zIw),Z 0,Y false,.sl 1 false (c.Todos.map zDZ),.sl 1 false (c.Stack.map zAn),.sl 1 false (c.Back.map zAB),Y c.Busy,.sl 3 false ([].map zIg),.sl 2 false ([].map zIO),.sl 5 false (f.map zBb)] U ⟨.rfl,.rfl,.rfl,.nil,.nil,.rfl,.rfl,.rfl,.rfl,.rfl,.rfl,.nil,.nil,.rfl,trivial⟩ U ?_
   exact rN
def zGl (fu:Nat):Option (List Bs):=bnd (zQV fu ([45,32,110,101,119,32,100,114,97,102,116,32,116,101,120,116,32,102,114,97,103,32,115,104,97,100,101,32,112,117,116,32,111,117,116,32,115,119,97,112,32,115,101,116,32,117,110,115,101,116,32,116,111,103,103,108,101,32,99,111,112,121,32,116,97,107,101,32,101,109,112,116,121,32,106,111,105,110,32,100,101,102,105,110,101,32,119,97,105,116,32,117,112,103,114,97,100,101,32,98,117,105,108,100,32,115,117,112,101,114,32,103,105,118,101,32,116,104,114,111,119,32,114,101,115,101,116,32,114,101,115,116,111,114,101,32,114,101,115,116,32,104,97,110,100,112,117,116,32,104,97,110,100,111,117,116,32,104,97,110,100,115,101,116]:Bs)) fun a=>some a
theorem zWE {fu:Nat}:DD (zGl fu) 151 [] fun r=>.sl 1 false (r.map zQT):=by
 refine fcI Tryz.func151 U (A [58,9] ?_)
 exact pk (zU8 fu ([45,32,110,101,119,32,100,114,97,102,116,32,116,101,120,116,32,102,114,97,103,32,115,104,97,100,101,32,112,117,116,32,111,117,116,32,115,119,97,112,32,115,101,116,32,117,110,115,101,116,32,116,111,103,103,108,101,32,99,111,112,121,32,116,97,107,101,32,101,109,112,116,121,32,106,111,105,110,32,100,101,102,105,110,101,32,119,97,105,116,32,117,112,103,114,97,100,101,32,98,117,105,108,100,32,115,117,112,101,114,32,103,105,118,101,32,116,104,114,111,119,32,114,101,115,101,116,32,114,101,115,116,111,114,101,32,114,101,115,116,32,104,97,110,100,112,117,116,32,104,97,110,100,111,117,116,32,104,97,110,100,115,101,116]:Bs)) U U fun a _=>A [57,8]
def zEL (fu:Nat) (a:Int):Option Bs:=bnd (zGl fu) fun b=>cnd (decide (a>0)) (cnd (decide (a<(b.length:Int))) (bnd (idx b a) fun c=>some c) (some [])) (some [])
theorem zEm {fu:Nat} {a:Int}:DD (zEL fu a) 89 [Z a] fun r=>O r:=by
 refine fcI Tryz.func89 U (A [75,9] ?_)
 refine zKN (enc:=fun (b:(List Bs))=>.sl 1 false (b.map zQT)) (qs:=[]) zWE U U trivial (fun _=>U) zfM U U fun b _=>A [57,93,27,7,5,105,11,24,67,59,2,35,2,0,10,2,67,59,61,36] fun c _=>?_
 exact A [2,74]
def zID (fu:Nat) (a:Int) (d:Bool):Option (zDD×Bool):=cnd d (bnd (zEL fu a) fun c=>some ((⟨c,[46,46,46,46,46]⟩:zDD),true)) (bnd (zEL fu a) fun b=>cnd (decide (a>0)) (some ((⟨b,[110,46,46,46,46]⟩:zDD),(decide (a<=28)))) (some ((⟨b,[110,46,46,46,46]⟩:zDD),false)))
def zIC (fu:Nat) (a:Int) (i:Bool):Option (zDD×Bool):=cnd i (bnd (zEL fu a) fun f=>some ((⟨f,[110,110,111,46,46]⟩:zDD),true)) (cnd (a==11) (bnd (zEL fu a) fun g=>some ((⟨g,[110,105,46,115,46]⟩:zDD),true)) (cnd (a==12) (bnd (zEL fu a) fun h=>some ((⟨h,[110,105,110,46,46]⟩:zDD),true)) (cnd (a==13) (bnd (zEL fu a) fun b=>some ((⟨b,[110,110,46,46,46]⟩:zDD),true)) (cnd (a==16) (bnd (zEL fu a) fun c=>some ((⟨c,[105,46,46,115,115]⟩:zDD),true)) (cnd (a==17) (bnd (zEL fu a) fun d=>some ((⟨d,[46,46,46,115,46]⟩:zDD),true)) (cnd (a==19) (bnd (zEL fu a) fun e=>some ((⟨e,[105,46,46,46,46]⟩:zDD),true)) (cnd (a==20) ((zID fu a) (a==20)) (cnd (a==22) ((zID fu a) (a==22)) ((zID fu a) (a==25))))))))))
def zIB (fu:Nat) (a:Int) (c:Bool):Option (zDD×Bool):=cnd c (bnd (zEL fu a) fun b=>some ((⟨b,[110,46,46,115,46]⟩:zDD),true)) (cnd (a==6) ((zIC fu a) (a==6)) (cnd (a==8) ((zIC fu a) (a==8)) ((zIC fu a) (a==26))))
def zGk (fu:Nat) (a:Int) (t2:Bool):Option (zDD×Bool):=cnd t2 (bnd (zEL fu a) fun b=>some ((⟨b,[110,46,46,115,115]⟩:zDD),true)) (cnd (a==3) ((zIB fu a) (a==3)) (cnd (a==10) ((zIB fu a) (a==10)) ((zIB fu a) (a==24))))
def zJG (fu:Nat) (a:Int):Option (zDD×Bool):=cnd (a==1) ((zGk fu a) (a==1)) (cnd (a==2) ((zGk fu a) (a==2)) (cnd (a==9) ((zGk fu a) (a==9)) ((zGk fu a) (a==28))))
end Go.Proofs.YtmfbghpealgaiaaGreatDoor
