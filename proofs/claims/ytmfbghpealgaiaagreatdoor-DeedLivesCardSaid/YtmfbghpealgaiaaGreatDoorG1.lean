/- Models and proofs, printed by emit2.py. -/
import Derived.Test.YtmfbghpealgaiaaGreatDoorData
namespace Go.Proofs.YtmfbghpealgaiaaGreatDoor
open Go Go.Pw
open List renaming map_eq_nil_iff->eZ
set_option maxRecDepth 100000
set_option maxHeartbeats 10000000
set_option linter.unusedVariables false
def zI3 (_fu:Nat) (a b:Int):Option Node:=some (⟨a,[],[],[],[],(-1),[],(-1),(-1),b⟩:Node)
theorem zNd {fu:Nat} {a b:Int}:DD (zI3 fu a b) 112 [Z a,Z b] fun r=>.agg (zAZ r):=by
 refine fcI Tryz.func112 U (A [9,31,4,0,61,20,12,0] ?_)
 exact zFz 4 [Z a,O [],O [],O [],.sl 2 false ([].map zD4),Z (-1),.sl 1 false ([].map zAB),Z (-1),Z (-1),Z b] U ⟨.rfl,.rfl,.rfl,.rfl,.nil,.rfl,.nil,.rfl,.rfl,.rfl,trivial⟩ U rN
def zFl (_fu:Nat) (a:Int):Option Bool:=cnd (decide (a>=97)) (some (decide (a<=122))) (some false)
theorem zLQ {fu:Nat} {a:Int}:DD (zFl fu a) 173 [.v (.int .i32 a)] fun r=>Y r:=by
 exact fcI Tryz.func173 U (A [58,93,26,5,2,104,74,104,74])
def zBm (_fu:Nat) (a:Int):Option Bool:=cnd (decide (a>=65)) (some (decide (a<=90))) (some false)
theorem zHM {fu:Nat} {a:Int}:DD (zBm fu a) 168 [.v (.int .i32 a)] fun r=>Y r:=by
 exact fcI Tryz.func168 U (A [58,93,26,5,2,104,74,104,74])
def zGy (a:Int) (b:Unit):Option Bool:=cnd (a==45) (some true) (cnd (a==95) (some true) (some (a==46)))
def zHt (fu:Nat) (a:Int):Option Bool:=bnd (zFl fu a) fun b=>cnd b (cnd b (some true) ((zGy a) ())) (bnd (zBm fu a) fun c=>cnd c (cnd c (some true) ((zGy a) ())) (cnd (decide (a>=48)) (cnd (decide (a<=57)) (some true) ((zGy a) ())) ((zGy a) ())))
theorem zUy {fu:Nat} {b:Int}:DD (zHt fu b) 240 [.v (.int .i32 b)] fun r=>Y r:=by
 refine fcI Tryz.func240 U (A [75] ?_)
 refine jw (zGy b) [0] [] (fun _=>[]) (fun _=>[]) U U ?_ fun a=>?_
 ·rintro _
  exact A [7,93,26,16,2,108,74,104,26,20,2,104,74,104,74]
 ·refine A [13,6,80,41] (fun c _=>?_) zLQ
  refine A [57] ?_
  refine zAD U ?_ ?_
  ·exact A [67,5,1,59,4,15,45] (a ())
  ·refine A [80,41] (fun d _=>?_) zHM
   refine A [57] ?_
   refine zAD U ?_ ?_
   ·exact A [67,5,1,59,4,15,45] (a ())
   ·refine A [14,3] ?_
    refine zAV (j:=10) U ?_ ?_
    ·exact A [104,0,5,1,59,4,15,45] (a ())
    ·exact A [104,0,23,4,15,45] (a ())
def zDU (fu:Nat) (a:Int):Option Bool:=bnd (zHt fu a) fun b=>some (!b)
theorem zQ8 {fu:Nat} {a:Int}:DD (zDU fu a) 239 [.v (.int .i32 a)] fun r=>Y r:=by
 refine fcI Tryz.func239 U (A [58,80,41] (fun b _=>?_) zUy)
 exact A [2,74]
def zA5 (c:Int->Option Bool) (b:Bs) (a:Bool):Nat->Nat->Option Int
 | 0,_=>none
 | k1+1,p3=>cnd (decide (p3<b.length)) (bnd (c (zNy b p3)) fun d=>cnd (d==a) (some ((p3:Nat):Int)) ((zA5 c b a k1) (p3+zMb b p3))) (some (-1))
def zFJ (fu:Nat) (c:Int->Option Bool) (b:Bs) (a:Bool):Option Int:=(zA5 c b a) fu 0
theorem zNP {fu:Nat} {b:Bs} {a:Bool}:DD (zFJ fu (fun d=>zDU fu d) b a) 276 [O b,.fn (.func 239) [] [],Y a] fun r=>Z r:=by
 refine fcI Tryz.func276 U (A [75,80] ?_)
 refine zYU (T:=tab) 10 U U U U U U U U U (A [0,13] ?_)
 refine lw (zA5 (fun d=>zDU fu d) b a) [1,2,10] [] (fun _=>[]) (fun c=>[(10,.siter ⟨⟨b⟩⟩ c)]) fu 0 U U ?_
 rintro e c
 refine sr (zbz 10 U U U U U U U ?_ ?_)
 ·refine A [57,6,25,67,13,76,0,61,44] (fun f _=>?_) zQ8 []
  exact A [2,0,5,2,62,8,4,15,46] (tx (c+zMb b c))
 ·exact A [57,6,23,86,59]
def zFI (fu:Nat) (c:Int->Option Bool) (b:Bs):Option Int:=bnd (zFJ fu c b true) fun a=>some a
theorem zNO {fu:Nat} {a:Bs}:DD (zFI fu (fun b=>zDU fu b) a) 241 [O a,.fn (.func 239) [] []] fun r=>Z r:=by
 refine fcI Tryz.func241 U (A [58,99] (fun c _=>?_) zNP)
 exact A [57,8]
def zB1 (fu:Nat) (c:Int->Option Bool) (b:Bs):Option Bool:=bnd (zFI fu c b) fun a=>some (decide (a>=0))
theorem zLY {fu:Nat} {a:Bs}:DD (zB1 fu (fun b=>zDU fu b) a) 174 [O a,.fn (.func 239) [] []] fun r=>Y r:=by
 refine fcI Tryz.func174 U (A [58,99] (fun c _=>?_) zNO)
 exact A [2,74]
def zIO (fu:Nat) (a:Bs):Option Bool:=cnd (decide ((a.length:Int)<1)) (some false) (cnd (decide ((a.length:Int)>40)) (some false) (bnd (zB1 fu (fun g=>zDU fu g) a) fun d=>cnd d (some false) (bnd (chr a 0) fun c=>bnd (rng .i32 c) fun b=>bnd (zFl fu b) fun e=>cnd e (some true) (bnd (zBm fu b) fun f=>cnd f (some true) (some (b==95))))))
theorem zOJ {fu:Nat} {a:Bs}:DD (zIO fu a) 172 [O a] fun r=>Y r:=by
 refine fcI Tryz.func172 U (A [75,76,26,7,2,108,83,105,26,12,2,3,83,1,41] (fun d _=>?_) zLY)
 refine A [57,5,1,59,67,80] ?_
 refine zNj (T:=tab) (s:=a) U U U U U U U fun b _=>A [16] fun c _=>?_
 refine A [57,80,41] (fun e _=>?_) zLQ
 refine A [1,26,21,2,108,74,1,41] (fun f _=>?_) zHM
 exact A [2,26,25,2,104,74,104,74]
def zFE (fu:Nat) (c:Bs):Nat->Int×(List Int)->Option Bs
 | 0,_=>none
 | k1+1,(t2,l3)=>cnd (decide (t2<((zD3 c).length:Int))) (bnd (idx l3 t2) fun d=>bnd (rng .i32 d) fun e=>bnd (zBm fu e) fun h=>cnd h (bnd (rng .u8 (d - 65)) fun f=>bnd (rng .u8 (f+97)) fun g=>bnd (idx l3 t2) fun i=>bnd (rng .i64 (t2+1)) fun a=>(zFE fu c k1) (a,(l3.set (t2).toNat g))) (bnd (rng .i64 (t2+1)) fun b=>(zFE fu c k1) (b,l3))) (some (zV6 l3))
def zEH (fu:Nat) (a:Bs):Option Bs:=bnd (zDI 1 a.length) fun _=>(zFE fu a) fu (0,(zD3 a))
theorem zHL {fu:Nat} {b:Bs}:DD (zEH fu b) 103 [O b] fun r=>O r:=by
 refine fcI Tryz.func103 U (A [58,80] ?_)
 refine zeB (T:=tab) zRN 7 (fun _=>U) U U U U U U U U U U U U (A [57,6,80,39,57,13] ?_)
 refine lw (zFE fu b) [3,8,9] [] (fun (c,a)=>[(10,Z c)]) (fun (c,a)=>[(7,.arr 1000005 1 (a.map zRN))]) fu (0,(zD3 b)) U U ?_
 rintro m ⟨c,a⟩
 refine A [75] ?_
 refine zAD U ?_ ?_
 ·refine A [72,80,38] fun i d=>?_
  refine zAv (T:=tab) zRN a i (zAx d) U U U U U U U U (A [2,0,80,16] fun k _=>?_)
  refine pk zHM U U fun n _=>ns (zAD U ?_ ?_)
  ·refine A [14,3,16] fun l _=>?_
   refine A [16] fun h _=>?_
   refine A [38] fun j e=>?_
   refine zCk (T:=tab) zRN a j h (zAx e) U U U U U U U U U U U U U (A [11,94] fun f _=>?_)
   exact A [89] (tx (f,(a.set (c).toNat h)))
  ·refine A [4,94] fun g _=>?_
   exact A [89] (tx (g,a))
 ·refine A [86,80] ?_
  exact po_str (T:=tab) zRN a (fun _=>U) U U U U U U U U U (A [57,8])
def zF5 (fu:Nat) (a:Bs):Option (Bs×Int):=bnd (zIO fu a) fun b=>cnd (!b) (some ([],4)) (bnd (zEH fu a) fun c=>some (c,0))
theorem zHs {fu:Nat} {a:Bs}:DD (zF5 fu a) 166 [O a] fun r=>.tup [O r.1,Z r.2]:=by
 refine fcI Tryz.func166 U (A [62,6,80,41] (fun b _=>?_) zOJ)
 refine A [57,5,2,62,8,67,80,41] (fun c _=>?_) zHL
 exact A [2,74]
def zEZ (fu:Nat) (a:Attr):Option Bool:=bnd (zF5 fu a.Name) fun b=>cnd (b.2 != 0) (some true) (cnd (!(b.1==a.Name)) (some true) (some (decide ((a.Value.length:Int)>200))))
theorem zQt {fu:Nat} {a:Attr}:DD (zEZ fu a) 233 [.agg (zD4 a)] fun r=>Y r:=by
 refine fcI Tryz.func233 U (A [9,30,1,57,99] (fun b _=>?_) zHs)
 exact A [105,0,93,26,13,2,112,74,106,26,19,2,106,74,106,74]
def zAY (b:Attr->Option Bool) (a:List Attr):Nat->Int->Option Int
 | 0,_=>none
 | k1+1,t2=>cnd (decide (t2<(a.length:Int))) (bnd (idx a t2) fun e=>bnd (b e) fun d=>cnd d (some t2) (bnd (rng .i64 (t2+1)) fun c=>(zAY b a k1) c)) (some (-1))
def zBJ (fu:Nat) (b:Attr->Option Bool) (a:List Attr):Option Int:=(zAY b a) fu 0
theorem zJV {fu:Nat} {a:List Attr}:DD (zBJ fu (fun b=>zEZ fu b) a) 236 [.sl 2 false (a.map zD4),.fn (.func 233) [] []] fun r=>Z r:=by
 refine fcI Tryz.func236 U (A [75,80,77,13] ?_)
 refine lw (zAY (fun b=>zEZ fu b) a) [0,1,7] [] (fun c=>[(8,Z c)]) (fun _=>[]) fu 0 U U ?_
 rintro e c
 refine A [75,10,2,86,59,72,62,93,36] fun g _=>?_
 refine A [1,44] (fun f _=>?_) zQt []
 refine A [0,5,2,62,8,4,94] fun d _=>?_
 exact A [89] (tx d)
def zB6 (fu:Nat) (c:Attr->Option Bool) (b:List Attr):Option Bool:=bnd (zBJ fu c b) fun a=>some (decide (a>=0))
theorem zIX {fu:Nat} {a:List Attr}:DD (zB6 fu (fun b=>zEZ fu b) a) 234 [.sl 2 false (a.map zD4),.fn (.func 233) [] []] fun r=>Y r:=by
 refine fcI Tryz.func234 U (A [58,99] (fun c _=>?_) zJV)
 exact A [2,74]
def zF3 (l1:List Attr):Nat->Int×(List (Bs×Attr))->Option (List (Bs×Attr))
 | 0,_=>none
 | k1+1,(t2,l3)=>cnd (decide (t2<(l1.length:Int))) (bnd (idx l1 t2) fun a=>bnd (rng .i64 (t2+1)) fun b=>(zF3 l1 k1) (b,(zG9 l3 a.Name a))) (some l3)
def zJ4 (fu:Nat) (l1:List Attr):Option (List (Bs×Attr)):=(zF3 l1) fu (0,([]:(List (Bs×Attr))))
theorem zTY {fu:Nat} {l1:List Attr}:FF (zJ4 fu l1) 235 [.sl 2 false (l1.map zD4)] [] [] (fun _=>.own 6) fun r=>[(6,.mp (r.map fun p:Bs×Attr=>(zNV p.1,.agg (zD4 p.2))))]:=by
 refine fcI Tryz.func235 U (A [58,9] ?_)
 refine zH6 6 U U U U U U U (A [57,6,80,77,13] ?_)
 refine lw (zF3 l1) [3,7,8] [] (fun (c,a)=>[(9,Z c)]) (fun (c,a)=>[(6,.mp (a.map fun p:Bs×Attr=>(zNV p.1,.agg (zD4 p.2))))]) fu (0,([]:(List (Bs×Attr)))) U U ?_
 rintro e ⟨c,a⟩
 refine A [75,10,3,86,62,8,72,9,36] fun b _=>?_
 refine A [1,31,5,12,0,14,104] ?_
 refine zFy zJA (fun v=>.agg (zD4 v)) a b.Name b Tryz.underlying329 Tryz.underlying9 U U U U U U U U U (A [11,94] fun d _=>?_)
 exact A [89] (tx (d,(zG9 a b.Name b)))
def zGw (fu:Nat) (l1:List Attr):Option Bool:=cnd (decide ((l1.length:Int)<=40)) (bnd (zB6 fu (fun c=>zEZ fu c) l1) fun a=>cnd (!a) (bnd (zJ4 fu l1) fun b=>some ((b.length:Int)==(l1.length:Int))) (some false)) (some false)
theorem zLL {fu:Nat} {l1:List Attr}:DD (zGw fu l1) 165 [.sl 2 false (l1.map zD4)] fun r=>Y r:=by
 refine fcI Tryz.func165 U (A [58,58,80,35,2,27,7,2,114,74,2,41] (fun b _=>?_) zIX)
 refine A [3,27,13,2,108,74,1,43] (fun a _=>?_) zTY [(6,2150)] [2150]
 exact zPa (zNV) (fun v=>.agg (zD4 v)) a Tryz.underlying329 U U U U U U U U (A [1,35,3,74])
theorem zLa {fu:Nat} {b:Bs} {a:Bool}:DD (zFJ fu (fun d=>zBm fu d) b a) 276 [O b,.fn (.func 168) [] [],Y a] fun r=>Z r:=by
 refine fcI Tryz.func276 U (A [75,80] ?_)
 refine zYU (T:=tab) 10 U U U U U U U U U (A [0,13] ?_)
 refine lw (zA5 (fun d=>zBm fu d) b a) [1,2,10] [] (fun _=>[]) (fun c=>[(10,.siter ⟨⟨b⟩⟩ c)]) fu 0 U U ?_
 rintro e c
 refine sr (zbz 10 U U U U U U U ?_ ?_)
 ·refine A [57,6,25,67,13,76,0,61,44] (fun f _=>?_) zHM []
  exact A [2,0,5,2,62,8,4,15,46] (tx (c+zMb b c))
 ·exact A [57,6,23,86,59]
theorem zLZ {fu:Nat} {a:Bs}:DD (zFI fu (fun b=>zBm fu b) a) 241 [O a,.fn (.func 168) [] []] fun r=>Z r:=by
 refine fcI Tryz.func241 U (A [58,99] (fun c _=>?_) zLa)
 exact A [57,8]
theorem zJ0 {fu:Nat} {a:Bs}:DD (zB1 fu (fun b=>zBm fu b) a) 174 [O a,.fn (.func 168) [] []] fun r=>Y r:=by
 refine fcI Tryz.func174 U (A [58,99] (fun c _=>?_) zLZ)
 exact A [2,74]
def zJa (fu:Nat) (c a:Bs):Option Int:=bnd (zT9 fu c a) fun b=>some b
theorem zQI {fu:Nat} {b a:Bs}:DD (zJa fu b a) 152 [O b,O a] fun r=>Z r:=by
 refine fcI Tryz.func152 U (A [58,61] ?_)
 exact pk (za9 fu b a) U U fun c _=>A [57,8]
def zEN (fu:Nat) (c a:Bs):Option Bool:=bnd (zJa fu c a) fun b=>some (decide (b>=0))
theorem zJZ {fu:Nat} {b a:Bs}:DD (zEN fu b a) 90 [O b,O a] fun r=>Y r:=by
 refine fcI Tryz.func90 U (A [58,99] (fun c _=>?_) zQI)
 exact A [2,74]
def zJR (_fu:Nat):Option (List Bs):=some [[97,110,110,111,116,97,116,105,111,110,45,120,109,108],[99,111,108,111,114,45,112,114,111,102,105,108,101],[102,111,110,116,45,102,97,99,101],[102,111,110,116,45,102,97,99,101,45,115,114,99],[102,111,110,116,45,102,97,99,101,45,117,114,105],[102,111,110,116,45,102,97,99,101,45,102,111,114,109,97,116],[102,111,110,116,45,102,97,99,101,45,110,97,109,101],[109,105,115,115,105,110,103,45,103,108,121,112,104]]
theorem zQF {fu:Nat}:DD (zJR fu) 176 [] fun r=>.sl 1 false (r.map zSK):=by
 refine fcI Tryz.func176 U (A [58,9] ?_)
 exact pl ([[97,110,110,111,116,97,116,105,111,110,45,120,109,108],[99,111,108,111,114,45,112,114,111,102,105,108,101],[102,111,110,116,45,102,97,99,101],[102,111,110,116,45,102,97,99,101,45,115,114,99],[102,111,110,116,45,102,97,99,101,45,117,114,105],[102,111,110,116,45,102,97,99,101,45,102,111,114,109,97,116],[102,111,110,116,45,102,97,99,101,45,110,97,109,101],[109,105,115,115,105,110,103,45,103,108,121,112,104]].map zSK) 1 U U U U U U (A [57,34,1,8])
def zB0 (a:List Bs) (b:Bs):Nat->Int->Option Int
 | 0,_=>none
 | k1+1,t3=>cnd (decide (t3<(a.length:Int))) (bnd (idx a t3) fun d=>cnd (b==d) (some t3) (bnd (rng .i64 (t3+1)) fun c=>(zB0 a b k1) c)) (some (-1))
def zFo (fu:Nat) (a:List Bs) (b:Bs):Option Int:=(zB0 a b) fu 0
theorem zL6 {fu:Nat} {a:List Bs} {b:Bs}:DD (zFo fu a b) 242 [.sl 1 false (a.map zSK),O b] fun r=>Z r:=by
 refine fcI Tryz.func242 U (A [75,80,77,13] ?_)
 refine lw (zB0 a b) [0,1,7] [] (fun c=>[(8,Z c)]) (fun _=>[]) fu 0 U U ?_
 rintro e c
 refine A [75,10,2,86,59,72,62,93,36] fun f _=>?_
 refine A [2,0,5,2,62,8,4,94] fun d _=>?_
 exact A [89] (tx d)
def zA9 (fu:Nat) (b:List Bs) (c:Bs):Option Bool:=bnd (zFo fu b c) fun a=>some (decide (a>=0))
theorem zCw {fu:Nat} {a:List Bs} {b:Bs}:DD (zA9 fu a b) 175 [.sl 1 false (a.map zSK),O b] fun r=>Y r:=by
 refine fcI Tryz.func175 U (A [58,99] (fun c _=>?_) zL6)
 exact A [2,74]
def zCv (fu:Nat) (a:Bs):Option Bool:=bnd (zIO fu a) fun d=>cnd d (bnd (chr a 0) fun b=>bnd (rng .i32 b) fun c=>bnd (zFl fu c) fun e=>cnd e (bnd (zB1 fu (fun j=>zBm fu j) a) fun f=>cnd (!f) (bnd (zEN fu a [45]) fun g=>cnd g (bnd (zJR fu) fun h=>bnd (zA9 fu h a) fun i=>some (!i)) (some false)) (some false)) (some false)) (some false)
theorem zEe {fu:Nat} {a:Bs}:DD (zCv fu a) 109 [O a] fun r=>Y r:=by
 refine fcI Tryz.func109 U (A [58,80,41] (fun e _=>?_) zOJ)
 refine A [1,27,5,2,121,74,1] ?_
 refine zNj (T:=tab) (s:=a) U U U U U U U fun c _=>A [16] fun d _=>?_
 refine pk zLQ U U fun f _=>A [2,27,11,2,115,74,1,41] (fun g _=>?_) zJ0
 refine A [3,27,16,2,110,74,1,41] (fun h _=>?_) zJZ
 refine A [2,27,20,2,106,74] ?_
 refine zKa (enc:=fun (b:(List Bs))=>.sl 1 false (b.map zSK)) (qs:=[]) zQF U U trivial (fun _=>U) zfs U U fun b _=>A [1,41] (fun i _=>?_) zCw
 exact A [3,74]
def zDf (a:Node) (b:Bs):Option Bool:=cnd (a.Name==([]:Bs)) (cnd (a.Is==([]:Bs)) (cnd (b==([]:Bs)) (some ((a.Attrs.length:Int)==0)) (some false)) (some false)) (some false)
def zGX (fu:Nat) (a:Node):Option Bool:=cnd (a.Kind==1) (bnd (zF5 fu a.Name) fun b=>cnd (b.2==0) (cnd (b.1==a.Name) (cnd (a.Is==([]:Bs)) (cnd (a.Data==([]:Bs)) (bnd (zGw fu a.Attrs) fun c=>some c) (some false)) (bnd (zCv fu a.Is) fun d=>cnd d (cnd (a.Data==([]:Bs)) (bnd (zGw fu a.Attrs) fun e=>some e) (some false)) (some false))) (some false)) (some false)) (cnd (a.Kind==2) (cnd (decide ((a.Data.length:Int)>200)) (some false) ((zDf a) [])) (cnd (a.Kind==0) (cnd (a.Kind==0) ((zDf a) a.Data) (some false)) (cnd (a.Kind==3) (cnd (a.Kind==3) ((zDf a) a.Data) (some false)) (cnd (a.Kind==4) ((zDf a) a.Data) (some false)))))
theorem zMK {fu:Nat} {a:Node}:DD (zGX fu a) 186 [.agg (zAZ a)] fun r=>Y r:=by
 refine fcI Tryz.func186 U (A [9,30,1,57,6,62,13,6] ?_)
 refine jw (zDf a) [1] [] (fun _=>[]) (fun c=>[(1,.box 77 [Z a.Kind,O a.Name,O a.Is,O c,.sl 2 false (a.Attrs.map zD4),Z a.Parent,.sl 1 false (a.Kids.map zAB),Z a.Host,Z a.Under,Z a.Doc])]) U U ?_ fun b=>?_
 ·rintro c
  exact A [7,6,76,26,57,16,105,26,62,10,105,26,67,4,2,35,3,74,106,74,111,74,116,74]
 ·refine A [13,6,13,6,13,6,6,62] ?_
  refine zAD U ?_ ?_
  ·refine A [86,6,99] (fun d _=>?_) zHs
   refine A [105,0,93,27,23,2,126,74,106,27,29,2,120,74,104] ?_
   refine zAV (j:=33) U ?_ ?_
   ·refine A [111,27,44,2,105,74,2,41] (fun e _=>?_) zLL
    exact A [2,74]
   ·refine A [2,41] (fun f _=>?_) zEe
    refine A [3,27,39,2,110,74,105,27,44,2,105,74,2,41] (fun g _=>?_) zLL
    exact A [2,74]
  ·refine A [68,62] ?_
   refine zAD U ?_ ?_
   ·exact A [86,6,76,0,5,1,59,67,14,1,12,11,15,45] (b [])
   ·refine A [68,62] ?_
    refine zAD U ?_ ?_
    ·exact A [67,10,3,67,86,59,17,45] (b a.Data)
    ·refine A [62] ?_
     refine zAD U ?_ ?_
     ·exact A [67,10,3,67,86,59,17,45] (b a.Data)
     ·exact A [14,2,0,10,3,67,86,59,17,45] (b a.Data)
def zCB (_fu:Nat) (b:zAP) (a:Int):Option Bool:=cnd (decide (a>=0)) (some (decide (a<(b.Forest.Nodes.length:Int)))) (some false)
theorem zEl {fu:Nat} {b:zAP} {a:Int}:DD (zCB fu b a) 246 [.agg (zEW b),Z a] fun r=>Y r:=by
 exact fcI Tryz.func246 U (A [73,57,93,26,7,4,104,35,3,74,108,74])
def zDB (fu:Nat) (c:zAP) (b a:Int):Option Bool:=bnd (zCB fu c b) fun d=>cnd d (bnd (idx c.Forest.Nodes b) fun e=>some (e.Kind==a)) (some false)
theorem zF4 {fu:Nat} {c:zAP} {b a:Int}:DD (zDB fu c b a) 245 [.agg (zEW c),Z b,Z a] fun r=>Y r:=by
 refine fcI Tryz.func245 U (A [9,30,3,57,99] (fun d _=>?_) zEl)
 refine A [1,27,10,2,111,74,104,36] fun e _=>?_
 exact A [106,74]
def zE5 (fu:Nat) (c:zAP) (b:Int):Option Bool:=bnd (idx c.Forest.Nodes b) fun a=>bnd (zDB fu c a.Doc 0) fun d=>cnd d (cnd (a.Kind != 0) (some true) (some (a.Doc==b))) (some false)
theorem zNE {fu:Nat} {b:zAP} {a:Int}:DD (zE5 fu b a) 187 [.agg (zEW b),Z a] fun r=>Y r:=by
 refine fcI Tryz.func187 U (A [73,57,76,36] fun d _=>?_)
 refine A [1,31,5,12,0,93,41] (fun c _=>?_) zF4
 exact A [1,26,16,8,104,26,20,2,107,74,107,74,111,74]
def zFj (_fu:Nat) (a:Int):Option Bool:=cnd (a==0) (cnd (a==0) (some true) (some false)) (cnd (a==1) (cnd (a==1) (some true) (some false)) (cnd (a==3) (cnd (a==3) (some true) (some false)) (cnd (a==4) (some true) (some false))))
theorem zLx {fu:Nat} {a:Int}:DD (zFj fu a) 247 [Z a] fun r=>Y r:=by
 exact fcI Tryz.func247 U (A [75,58,13,6,62,5,7,67,5,1,59,4,69,59,62,5,7,67,5,1,59,4,69,59,62,5,7,67,5,1,59,4,69,59,14,2,0,5,1,59,4,69,59])
def zBM (a:List Int) (b:Int):Nat->Int->Option Int
 | 0,_=>none
 | k1+1,t3=>cnd (decide (t3<(a.length:Int))) (bnd (idx a t3) fun d=>cnd (b==d) (some t3) (bnd (rng .i64 (t3+1)) fun c=>(zBM a b k1) c)) (some (-1))
def zCX (fu:Nat) (a:List Int) (b:Int):Option Int:=(zBM a b) fu 0
theorem zGr {fu:Nat} {a:List Int} {b:Int}:DD (zCX fu a b) 97 [.sl 1 false (a.map zAB),Z b] fun r=>Z r:=by
 refine fcI Tryz.func97 U (A [75,80,77,13] ?_)
 refine lw (zBM a b) [0,1,7] [] (fun c=>[(8,Z c)]) (fun _=>[]) fu 0 U U ?_
 rintro e c
 refine A [75,10,2,86,59,72,62,93,36] fun f _=>?_
 refine A [2,0,5,2,62,8,4,94] fun d _=>?_
 exact A [89] (tx d)
def zEM (fu:Nat) (b:List Int) (c:Int):Option Bool:=bnd (zCX fu b c) fun a=>some (decide (a>=0))
theorem zL5 {fu:Nat} {a:List Int} {b:Int}:DD (zEM fu a b) 248 [.sl 1 false (a.map zAB),Z b] fun r=>Y r:=by
 refine fcI Tryz.func248 U (A [58,99] (fun c _=>?_) zGr)
 exact A [2,74]
def zDg (fu:Nat) (b:zAP) (d:Int) (c:Node) (a:Bool):Option Bool:=cnd a (bnd (zCB fu b c.Parent) fun e=>cnd e (bnd (idx b.Forest.Nodes c.Parent) fun h=>bnd (zFj fu h.Kind) fun f=>cnd f (bnd (idx b.Forest.Nodes c.Parent) fun i=>bnd (zEM fu i.Kids d) fun g=>some g) (some false)) (some false)) (some false)
def zFc (fu:Nat) (c:zAP) (b:Int):Option Bool:=bnd (idx c.Forest.Nodes b) fun a=>cnd (a.Parent==(-1)) (some true) (cnd (a.Kind==1) ((zDg fu c b a) true) ((zDg fu c b a) (a.Kind==2)))
theorem zNo {fu:Nat} {d:zAP} {c:Int}:DD (zFc fu d c) 188 [.agg (zEW d),Z c] fun r=>Y r:=by
 refine fcI Tryz.func188 U (A [73,57,76,36] fun e _=>?_)
 refine A [1,31,5,12,0,6,93,0,5,1,59,67,9] ?_
 refine zM8 (zDg fu d c e) (fun (a:Bool)=>[(1,Z c),(2,.loc 2 0),(5,.loc 5 0),(6,Y a)]) (fun (a:Bool)=>[(5,.box 77 (zAZ e)),(2,.box 215 (zAE d.Forest))]) ?_ fun b=>?_
 ·rintro a
  refine A [7,61,27,25,2,129,74,3,41] (fun f _=>?_) zEl
  refine A [2,27,31,2,123,74,105,36] fun i _=>?_
  refine A [2,41] (fun g _=>?_) zLx
  refine A [2,27,42,2,112,74,105,36] fun k _=>?_
  refine A [3,41] (fun h _=>?_) zL5
  exact A [2,74]
 ·refine pq 4 U (zAV (j:=19) U ?_ ?_)
  ·exact A [105,11,45] (b true)
  ·exact A [105,11,45] (b (e.Kind==2))
def zAt (fu:Nat) (c:zAP) (i:Int) (a:Node):Nat->Int×Int×(List (Int×Int))->Option Bool
 | 0,_=>none
 | k1+1,(elems4,t5,l6)=>cnd (decide (t5<(a.Kids.length:Int))) (bnd (idx a.Kids t5) fun b=>bnd (zCB fu c b) fun l=>cnd (!l) (some false) (cnd (decide ((zLJ l6 b 0)>0)) (some false) (bnd (idx c.Forest.Nodes b) fun m=>cnd (m.Parent != i) (some false) (bnd (idx c.Forest.Nodes b) fun k=>cnd (k.Doc != a.Doc) (some false) (bnd (rng .i64 ((zLJ l6 b 0)+1)) fun d=>bnd (idx c.Forest.Nodes b) fun e=>cnd (e.Kind==1) (bnd (rng .i64 (elems4+1)) fun f=>bnd (rng .i64 (t5+1)) fun g=>(zAt fu c i a k1) (f,g,(zG9 l6 b d))) (cnd (e.Kind==2) (cnd (a.Kind==0) (some false) (bnd (rng .i64 (t5+1)) fun h=>(zAt fu c i a k1) (elems4,h,(zG9 l6 b d)))) (some false))))))) (bnd (zFj fu a.Kind) fun j=>cnd j (cnd (a.Kind != 0) (some true) (some (decide (elems4<=1)))) (cnd ((a.Kids.length:Int)==0) (cnd (a.Kind != 0) (some true) (some (decide (elems4<=1)))) (some false)))
def zE4 (fu:Nat) (b:zAP) (a:Int):Option Bool:=bnd (idx b.Forest.Nodes a) fun c=>(zAt fu b a c) fu (0,0,([]:(List (Int×Int))))
theorem zND {fu:Nat} {d:zAP} {i:Int}:DD (zE4 fu d i) 189 [.agg (zEW d),Z i] fun r=>Y r:=by
 refine fcI Tryz.func189 U (A [73,57,76,36] fun n _=>?_)
 refine A [1,31,5,12,0,9] ?_
 refine zH6 16 U U U U U U U (A [57,75,61,77,13] ?_)
 refine lw (zAt fu d i n) [1,2,5,6,18,19] [5,2] (fun (a,j,b)=>[(7,Z a),(20,Z j)]) (fun (a,j,b)=>[(16,.mp (b.map fun p:Int×Int=>(zOF .i64 p.1,Z p.2)))]) fu (0,0,([]:(List (Int×Int)))) U U ?_
 rintro q ⟨a,j,b⟩
 refine A [75] ?_
 refine zAD U ?_ ?_
 ·refine A [72,9,36] fun e _=>?_
  refine A [2,0,6,6,82,202,54,2,1,48,50,52] (fun s _=>?_) zEl
  refine vq 2 U (by kernel_rfl) (zBd (t:=28) U ?_ ?_)
  ·exact A [228,19,18,59]
  ·refine vq 2 U (by kernel_rfl) (vS [33,56,58,60] [62] [] U U (zVo (T:=tab) (zKJ .i64) (fun v=>Z v) b e 0 Tryz.underlying143 Tryz.underlying3 U U U U U U U U U U (pyq U)) U U (vq 3 U (by kernel_rfl) (zBd (t:=34) U ?_ ?_)))
   ·exact A [222,19,18,59]
   ·refine vq 4 U (by kernel_rfl) (vT [68,74,76] [78] [] U U (zE1 (T:=tab) zAZ d.Forest.Nodes U U U U U U U fun o _=>pzq U) (fun _=>U) (fun _=>U) fun o _=>vq 6 U (by kernel_rfl) (zBd (t:=45) U ?_ ?_))
    ·exact A [211,19,18,59]
    ·refine vq 4 U (by kernel_rfl) (vT [90,96,98] [100] [] U U (zE1 (T:=tab) zAZ d.Forest.Nodes U U U U U U U fun k _=>pzq U) (fun _=>U) (fun _=>U) fun k _=>A [206,79,5,1,59,67,61] ?_)
     refine zVo (T:=tab) (zKJ .i64) (fun v=>Z v) b e 0 Tryz.underlying143 Tryz.underlying3 U U U U U U U U U U (A [16] fun c _=>?_)
     refine zFy (zKJ .i64) (fun v=>Z v) b e c Tryz.underlying143 Tryz.underlying3 U U U U U U U U U (A [0,76,36] fun m _=>?_)
     refine A [2,0,13,62] ?_
     refine zAD U ?_ ?_
     ·refine A [14,1,16] fun f _=>?_
      refine A [1,11,15,94] fun g _=>?_
      exact A [89] (tx (f,g,(zG9 b e c)))
     ·refine A [62,10,1,59,93,0,5,1,59,4,15,94] fun h _=>?_
      exact A [89] (tx (a,h,(zG9 b e c)))
 ·refine A [86,99] (fun l _=>?_) zLx
  exact A [1,26,81,8,110,26,91,2,105,74,105,74,2,35,3,26,87,8,104,26,91,2,105,74,105,74,109,74]
def zCD (b a:Bool):Option Bool:=cnd b (some a) (some false)
def zBg (fu:Nat) (c:zAP) (d:Int) (b:Node) (a:Bool):Option Bool:=cnd (b.Under==(-1)) ((zCD a) true) (cnd (b.Kind==1) (bnd (zDB fu c b.Under 4) fun e=>cnd e (bnd (idx c.Forest.Nodes b.Under) fun f=>(zCD a) (f.Host==d)) ((zCD a) false)) ((zCD a) false))
def zEk (fu:Nat) (b:zAP) (c:Int):Option Bool:=bnd (idx b.Forest.Nodes c) fun a=>cnd (a.Kind==4) (bnd (zDB fu b a.Host 1) fun d=>cnd d (bnd (idx b.Forest.Nodes a.Host) fun e=>cnd (e.Under==c) (bnd (idx b.Forest.Nodes a.Host) fun f=>(zBg fu b c a) (f.Doc==a.Doc)) ((zBg fu b c a) false)) ((zBg fu b c a) false)) ((zBg fu b c a) (a.Host==(-1)))
theorem zML {fu:Nat} {e:zAP} {f:Int}:DD (zEk fu e f) 190 [.agg (zEW e),Z f] fun r=>Y r:=by
 refine fcI Tryz.func190 U (A [73,57,76,36] fun g _=>?_)
 refine A [1,31,5,12,0,76,0,6,93,0] ?_
 refine jw (zBg fu e f g) [1,2,5] [5,2] (fun b=>[(6,Y b)]) (fun _=>[]) U U ?_ fun c=>?_
 ·rintro b
  refine A [7,9] ?_
  refine zM8 (zCD b) (fun (a:Bool)=>[(6,Y b),(7,Y a)]) (fun (a:Bool)=>[]) ?_ fun d=>?_
  ·rintro a
   exact A [7,61,26,76,2,3,74,3,74]
  ·refine pq 4 U (zAV (j:=52) U ?_ ?_)
   ·exact A [123,11,45] (d true)
   ·refine pq 4 U (zAV (j:=56) U ?_ ?_)
    ·refine A [3,41] (fun m _=>?_) zF4
     refine pq 2 U (zAV (j:=62) U ?_ ?_)
     ·refine A [105,36] fun k _=>?_
      exact A [107,11,45] (d (k.Host==f))
     ·exact A [113,11,45] (d false)
    ·exact A [119,11,45] (d false)
 ·refine zAD U ?_ ?_
  ·refine A [95,203,54,2,1,40,44,46] (fun l _=>?_) zF4
   refine vq 1 U (by kernel_rfl) (zBd (t:=24) U ?_ ?_)
   ·refine vq 5 U (by kernel_rfl) (vT [48,54,58] [60] [] U U (zE1 (T:=tab) zAZ e.Forest.Nodes U U U U U U U fun i _=>pzq U) (fun _=>U) (fun _=>U) fun i _=>vq 6 U (by kernel_rfl) (zBd (t:=36) U ?_ ?_))
    ·exact vq 5 U (by kernel_rfl) (vT [72,78,82] [84] [] U U (zE1 (T:=tab) zAZ e.Forest.Nodes U U U U U U U fun h _=>pzq U) (fun _=>U) (fun _=>U) fun h _=>A [207,19,45] (c (h.Doc==g.Doc)))
    ·exact A [213,19,45] (c false)
   ·exact A [225,19,45] (c false)
  ·exact A [4,45] (c (g.Host==(-1)))
def zGh (_fu:Nat) (b:zAP) (a:Int):Option Int:=bnd (idx b.Forest.Nodes a) fun c=>cnd (c.Parent != (-1)) (some c.Parent) (bnd (idx b.Forest.Nodes a) fun d=>some d.Host)
theorem zPA {fu:Nat} {b:zAP} {a:Int}:DD (zGh fu b a) 249 [.agg (zEW b),Z a] fun r=>Z r:=by
 refine fcI Tryz.func249 U (A [73,57,6,76,36] fun c _=>?_)
 refine A [3,0,62,5,2,62,8,67,76,36] fun d _=>?_
 exact A [3,74]
def zCp (fu:Nat) (a:zAP):Nat->Int×Int->Option Bool
 | 0,_=>none
 | k1+1,(n3,t4)=>cnd (decide (t4<(a.Forest.Nodes.length:Int))) (bnd (zGh fu a n3) fun b=>cnd (b==(-1)) (some true) (bnd (rng .i64 (t4+1)) fun c=>(zCp fu a k1) (b,c))) (some false)
def zHH (fu:Nat) (b:zAP) (a:Int):Option Bool:=(zCp fu b) fu (a,0)
theorem zNn {fu:Nat} {b:zAP} {a:Int}:DD (zHH fu b a) 191 [.agg (zEW b),Z a] fun r=>Y r:=by
 refine fcI Tryz.func191 U (A [73,57,6,93,77,13] ?_)
 refine lw (zCp fu b) [2,8] [2] (fun (c,d)=>[(1,Z c),(9,Z d)]) (fun _=>[]) fu (a,0) U U ?_
 rintro g ⟨c,d⟩
 refine A [75,10,2,86,59,72,99] (fun f _=>?_) zPA
 refine A [57,62,5,1,59,4,94] fun e _=>?_
 exact A [89] (tx (f,e))
def zBT (fu:Nat) (c:zAP):Nat->Int->Option Bool
 | 0,_=>none
 | k2+1,t11=>cnd (decide (t11<(c.Forest.Nodes.length:Int))) (bnd (zHH fu c t11) fun b=>cnd (!b) (some false) (bnd (rng .i64 (t11+1)) fun a=>(zBT fu c k2) a)) (some true)
def zCc (fu:Nat) (a:zAP):Nat->Int->Option Bool
 | 0,_=>none
 | k1+1,t3=>cnd (decide (t3<(a.Forest.Nodes.length:Int))) (bnd (idx a.Forest.Nodes t3) fun h=>bnd (zGX fu h) fun c=>cnd (!c) (some false) (bnd (zE5 fu a t3) fun d=>cnd (!d) (some false) (bnd (zFc fu a t3) fun e=>cnd (!e) (some false) (bnd (zE4 fu a t3) fun f=>cnd (!f) (some false) (bnd (zEk fu a t3) fun g=>cnd (!g) (some false) (bnd (rng .i64 (t3+1)) fun b=>(zCc fu a k1) b)))))) ((zBT fu a) fu 0)
def zCq (fu:Nat) (a:zAP):Option Bool:=cnd (decide (a.Forest.Most<1)) (some false) (cnd (decide (a.Forest.Most>400)) (some false) (cnd (decide ((a.Forest.Nodes.length:Int)<1)) (some false) (cnd (decide ((a.Forest.Nodes.length:Int)>a.Forest.Most)) (some false) (bnd (idx a.Forest.Nodes 0) fun b=>cnd (b.Kind != 0) (some false) ((zCc fu a) fu 0)))))
theorem zGM {fu:Nat} {b:zAP}:DD (zCq fu b) 120 [.agg (zEW b)] fun r=>Y r:=by
 refine fcI Tryz.func120 U (A [9,30,1,57,6,9,105,26,10,2,131,83,106,26,16,2,125,83,3,35,3,26,23,2,118,83,3,35,106,26,33,2,108,83,3,36] fun n _=>?_)
 refine A [104,0,5,1,59,68,93,77,13] ?_
 refine lw (zCc fu b) [1,44,45] [1] (fun e=>[(46,Z e)]) (fun _=>[]) fu 0 U U ?_
 rintro g e
 refine A [75] ?_
 refine zAD U ?_ ?_
 ·refine A [72,80,36] fun o _=>?_
  refine A [1,31,4,1,12,0,80,41] (fun i _=>?_) zMK
  refine A [2,26,54,2,123,83,2,41] (fun j _=>?_) zNE
  refine A [3,26,60,2,117,83,2,41] (fun k _=>?_) zNo
  refine A [3,26,66,2,111,83,2,41] (fun l _=>?_) zND
  refine A [3,26,72,2,105,83,2,41] (fun m _=>?_) zML
  refine A [2,0,5,1,59,4,94] fun c _=>?_
  exact A [89] (tx c)
 ·refine A [86,6,93,77,13] ?_
  refine lw (zBT fu b) [1,82] [1] (fun a=>[(83,Z a)]) (fun _=>[]) fu 0 U U ?_
  rintro h a
  refine A [75,10,2,86,59,72,62,99] (fun f _=>?_) zNn
  refine A [57,5,1,59,4,94] fun d _=>?_
  exact A [89] (tx d)
def zAs (fu:Nat) (a:Forest):Option Bool:=bnd (zCq fu (⟨a⟩:zAP)) fun b=>some b
theorem zA7 {fu:Nat} {a:Forest}:DD (zAs fu a) 70 [.agg (zAE a)] fun r=>Y r:=by
 refine fcI Tryz.func70 U (A [9,30,1,57,80,20,41] (fun b _=>?_) zGM)
 exact A [57,8]
def zPj (fu:Nat) (a:Int):Option (Forest×Int):=bnd (zI3 fu 0 0) fun b=>bnd (zAs fu (⟨[b],a⟩:Forest)) fun c=>cnd (!c) (some ((⟨[],0⟩:Forest),1)) (some ((⟨[b],a⟩:Forest),0))
theorem zTc {fu:Nat} {a:Int}:DD (zPj fu a) 65 [Z a] fun r=>.tup [.agg (zAE r.1),Z r.2]:=by
 refine fcI Tryz.func65 U (A [9,31,2,57,9,41] (fun b _=>?_) zNd)
 refine pl ([b].map zAZ) 6 U U U U U U (A [1,20,31,4,12,0,6,80,33,6,41] (fun c _=>?_) zA7)
 refine A [57,10,4,67,80,92,8,9,20,92] ?_
 exact zFz 2 [.sl 10 false ([].map zAZ),Z 0] U ⟨.nil,.rfl,trivial⟩ U rN
def zNp (fu:Nat) (c a:Bs):Option Int:=cnd (!(a==([]:Bs))) (some 1) (bnd (zCv fu c) fun b=>cnd b (some 1) (some 0))
theorem zUw {fu:Nat} {b a:Bs}:DD (zNp fu b a) 113 [O b,O a] fun r=>Z r:=by
 refine fcI Tryz.func113 U (A [75,93,26,7,2,3,83,1,41] (fun c _=>?_) zEe)
 exact A [57,5,1,59,67,59]
def zIf (fu:Nat) (a:Node):Option State:=cnd (a.Kind==1) (bnd (zNp fu a.Name a.Is) fun b=>some (⟨b,(-1),(-1),false⟩:State)) (some (⟨0,(-1),(-1),false⟩:State))
theorem zOT {fu:Nat} {a:Node}:DD (zIf fu a) 66 [.agg (zAZ a)] fun r=>.agg (zBn r):=by
 refine fcI Tryz.func66 U (A [9,30,1,31,2,0,9,20,31,3,12,0,6,93,0,10,4,67,80,12,74,14,104,41] (fun b _=>?_) zUw)
 exact A [1,12,0,80,12,74]
def zDM (_fu:Nat) (a:List (List Todo)):Option (List (List Todo)):=bnd (zDI 24 (([]:List (List Todo)).length+a.length)) fun _=>some (([]:List (List Todo))++a)
theorem zKk {fu:Nat} {a:List (List Todo)}:FF (zDM fu a) 178 [.sl 1 false (a.map zDD)] [] [] (fun _=>.own 5) fun r=>[(5,.arr 51 1 (r.map zDD))]:=by
 refine fcI Tryz.func178 U (A [75,80] ?_)
 refine zII (T:=tab) U U U U U U fun b d=>?_
 cases b
 ·refine A [0,23,67,9] ?_
  exact pl (([]:List (List Todo)).map zDD) 5 U U U U U U (pq 1 U (pa zDD ([]:List (List Todo)) a U U U U U U U U (zRO _) U U U (A [57,8])))
 ·have c:a=[]:=eZ.1 (d rfl)
  exact zKb (m':=some ([]:List (List Todo))) (by subst c;rfl) (A [0,25,58,56,5,51,1,2,8])
def zDo (_fu:Nat) (a:List (List Int)):Option (List (List Int)):=bnd (zDI 24 (([]:List (List Int)).length+a.length)) fun _=>some (([]:List (List Int))++a)
theorem zIw {fu:Nat} {a:List (List Int)}:FF (zDo fu a) 121 [.sl 1 false (a.map zA1)] [] [] (fun _=>.own 5) fun r=>[(5,.arr 32 1 (r.map zA1))]:=by
 refine fcI Tryz.func121 U (A [75,80] ?_)
 refine zII (T:=tab) U U U U U U fun b d=>?_
 cases b
 ·refine A [0,23,67,9] ?_
  exact pl (([]:List (List Int)).map zA1) 5 U U U U U U (pq 1 U (pa zA1 ([]:List (List Int)) a U U U U U U U U (zNg _) U U U (A [57,8])))
 ·have c:a=[]:=eZ.1 (d rfl)
  exact zKb (m':=some ([]:List (List Int))) (by subst c;rfl) (A [0,25,58,56,5,32,1,2,8])
def zBZ (_fu:Nat) (a:List Int):Option (List Int):=bnd (zDI 8 (([]:List Int).length+a.length)) fun _=>some (([]:List Int)++a)
theorem zFG {fu:Nat} {a:List Int}:FF (zBZ fu a) 154 [.sl 1 false (a.map zAB)] [] [] (fun _=>.own 5) fun r=>[(5,.arr 3 1 (r.map zAB))]:=by
 refine fcI Tryz.func154 U (A [75,80] ?_)
 refine zII (T:=tab) U U U U U U fun b d=>?_
 cases b
 ·refine A [0,23,67,9] ?_
  exact pl (([]:List Int).map zAB) 5 U U U U U U (pq 1 U (pa zAB ([]:List Int) a U U U U U U U U (zC1 _) U U U (A [57,8])))
 ·have c:a=[]:=eZ.1 (d rfl)
  exact zKb (m':=some ([]:List Int)) (by subst c;rfl) (A [0,25,58,56,5,3,1,2,8])
def zKh (fu:Nat) (l1:Line):Option Line:=bnd (zDM fu l1.Todos) fun a=>bnd (zDo fu l1.Stack) fun b=>bnd (zBZ fu l1.Back) fun c=>some (⟨a,b,c,l1.Busy⟩:Line)
theorem zQ0 {fu:Nat} {l1:Line}:FF (zKh fu l1) 114 [.agg (zRP l1)] [] [] (fun r=>.agg [.own 2050,.own 2080,.own 2110,Y r.Busy]) fun r=>[(2050,.arr 51 1 (r.Todos.map zDD)),(2080,.arr 32 1 (r.Stack.map zA1)),(2110,.arr 3 1 (r.Back.map zAB))]:=by
 refine fcI Tryz.func114 U (A [9,30,1,31,2,0,6,52,2,2,1,2,2,1,53,15,0,1,3,0,8,31,0,64,255,223,1023,2047,4095,8191,16383,202,55,1,2,8,10,4101] (fun a _=>?_) zKk [(5,2050)] [2050])
 refine A [202,55,1,2,14,16,4161] (fun b _=>?_) zIw [(5,2080)] [2080]
 refine A [202,55,1,2,20,22,4221] (fun c _=>?_) zFG [(5,2110)] [2110]
 exact A [201,50,4,1,3,10,24,4101,3,201,50,4,1,3,16,26,4161,3,201,50,4,1,3,22,28,4221,3,79,80,12,74]
def zJQ (fu:Nat) (l1:Line):Option Line:=bnd (zKh fu l1) fun a=>bnd (zDI 24 (a.Todos.length+([[]]:List (List Todo)).length)) fun _=>some ({a with Todos:=(a.Todos++[[]])}:Line)
theorem zPm {fu:Nat} {l1:Line}:DD (zJQ fu l1) 67 [.agg (zRP l1)] fun r=>.agg (zRP r):=by
 refine fcI Tryz.func67 U (A [9,30,1,31,2,0,80,43] (fun a _=>?_) zQ0 [(2050,2040),(2080,2041),(2110,2042)] [2040,2041,2042])
 refine A [12,0,61] ?_
 exact pl ([[.v (.slice none 0 0)]]) 7 U U U U U U (zgh 7 (([[]]:List (List Todo)).map zDD) U U U (pa zDD a.Todos ([[]]:List (List Todo)) U U U U U U U U (zRO _) U U U (A [1,12,0,80,12,0,34,2040,34,2041,34,2042,8])))
def zHO (_fu:Nat) (a:List Class):Option (List Class):=bnd (zDI 104 (([]:List Class).length+a.length)) fun _=>some (([]:List Class)++a)
theorem zKl {fu:Nat} {a:List Class}:FF (zHO fu a) 68 [.sl 5 false (a.map zCA)] [] [] (fun _=>.own 5) fun r=>[(5,.arr 70 5 (r.map zCA))]:=by
 refine fcI Tryz.func68 U (A [75,80] ?_)
 refine zII (T:=tab) U U U U U U fun b d=>?_
 cases b
 ·refine A [0,23,67,9] ?_
  exact pl (([]:List Class).map zCA) 5 U U U U U U (pq 1 U (pa zCA ([]:List Class) a U U U U U U U U (zZB _) U U U (A [57,8])))
 ·have c:a=[]:=eZ.1 (d rfl)
  exact zKb (m':=some ([]:List Class)) (by subst c;rfl) (A [0,25,58,56,5,70,5,2,8])
def zDY (fu:Nat) (b:Bs):Option Bool:=bnd (zF5 fu b) fun a=>cnd (a.2 != 0) (some true) (some (!(a.1==b)))
theorem zOR {fu:Nat} {a:Bs}:DD (zDY fu a) 179 [O a] fun r=>Y r:=by
 refine fcI Tryz.func179 U (A [58,80,41] (fun b _=>?_) zHs)
 exact A [105,0,93,26,12,2,105,74,105,74]
def zBL (b:Bs->Option Bool) (a:List Bs):Nat->Int->Option Int
 | 0,_=>none
 | k1+1,t2=>cnd (decide (t2<(a.length:Int))) (bnd (idx a t2) fun e=>bnd (b e) fun d=>cnd d (some t2) (bnd (rng .i64 (t2+1)) fun c=>(zBL b a k1) c)) (some (-1))
def zEg (fu:Nat) (b:Bs->Option Bool) (a:List Bs):Option Int:=(zBL b a) fu 0
theorem zJz {fu:Nat} {a:List Bs}:DD (zEg fu (fun b=>zDY fu b) a) 243 [.sl 1 false (a.map zSK),.fn (.func 179) [] []] fun r=>Z r:=by
 refine fcI Tryz.func243 U (A [75,80,77,13] ?_)
 refine lw (zBL (fun b=>zDY fu b) a) [0,1,7] [] (fun c=>[(8,Z c)]) (fun _=>[]) fu 0 U U ?_
 rintro e c
 refine A [75,10,2,86,59,72,62,93,36] fun g _=>?_
 refine A [1,44] (fun f _=>?_) zOR []
 refine A [0,5,2,62,8,4,94] fun d _=>?_
 exact A [89] (tx d)
def zCP (fu:Nat) (c:Bs->Option Bool) (b:List Bs):Option Bool:=bnd (zEg fu c b) fun a=>some (decide (a>=0))
theorem zIs {fu:Nat} {a:List Bs}:DD (zCP fu (fun b=>zDY fu b) a) 182 [.sl 1 false (a.map zSK),.fn (.func 179) [] []] fun r=>Y r:=by
 refine fcI Tryz.func182 U (A [58,99] (fun c _=>?_) zJz)
 exact A [2,74]
def zG7 (_fu:Nat) (l1:List Op):Option Bool:=some (decide ((l1.length:Int)>60))
theorem zLf {fu:Nat} {l1:List Op}:DD (zG7 fu l1) 181 [.sl 7 false (l1.map cOp)] fun r=>Y r:=by
 exact fcI Tryz.func181 U (A [58,80,35,2,74])
def zDZ (fu:Nat) (a:Hook):Option Bool:=cnd (decide (a.Kind<1)) (some true) (cnd (decide (a.Kind>8)) (some true) (bnd (zG7 fu a.Do) fun b=>some b))
theorem zOS {fu:Nat} {a:Hook}:DD (zDZ fu a) 180 [.agg (zKT a)] fun r=>Y r:=by
 refine fcI Tryz.func180 U (A [9,30,1,57,76,26,6,2,110,74,105,26,11,2,105,74,2,41] (fun b _=>?_) zLf)
 exact A [2,74]
def zBB (b:Hook->Option Bool) (a:List Hook):Nat->Int->Option Int
 | 0,_=>none
 | k1+1,t2=>cnd (decide (t2<(a.length:Int))) (bnd (idx a t2) fun e=>bnd (b e) fun d=>cnd d (some t2) (bnd (rng .i64 (t2+1)) fun c=>(zBB b a k1) c)) (some (-1))
def zD0 (fu:Nat) (b:Hook->Option Bool) (a:List Hook):Option Int:=(zBB b a) fu 0
theorem zJW {fu:Nat} {a:List Hook}:DD (zD0 fu (fun b=>zDZ fu b) a) 244 [.sl 2 false (a.map zKT),.fn (.func 180) [] []] fun r=>Z r:=by
 refine fcI Tryz.func244 U (A [75,80,77,13] ?_)
 refine lw (zBB (fun b=>zDZ fu b) a) [0,1,7] [] (fun c=>[(8,Z c)]) (fun _=>[]) fu 0 U U ?_
 rintro e c
 refine A [75,10,2,86,59,72,62,93,36] fun g _=>?_
 refine A [1,44] (fun f _=>?_) zOS []
 refine A [0,5,2,62,8,4,94] fun d _=>?_
 exact A [89] (tx d)
def zB7 (fu:Nat) (c:Hook->Option Bool) (b:List Hook):Option Bool:=bnd (zD0 fu c b) fun a=>some (decide (a>=0))
theorem zIY {fu:Nat} {a:List Hook}:DD (zB7 fu (fun b=>zDZ fu b) a) 183 [.sl 2 false (a.map zKT),.fn (.func 180) [] []] fun r=>Y r:=by
 refine fcI Tryz.func183 U (A [58,99] (fun c _=>?_) zJW)
 exact A [2,74]
def zHU (fu:Nat) (a:Class):Option Bool:=cnd (decide ((a.Watch.length:Int)<=12)) (bnd (zCP fu (fun b=>zDY fu b) a.Watch) fun c=>cnd (!c) (cnd (decide ((a.Hooks.length:Int)<=12)) (bnd (zB7 fu (fun b=>zDZ fu b) a.Hooks) fun d=>cnd (!d) (bnd (zG7 fu a.Peek) fun e=>cnd (!e) (bnd (zG7 fu a.Make) fun f=>some (!f)) (some false)) (some false)) (some false)) (some false)) (some false)
theorem zQL {fu:Nat} {a:Class}:DD (zHU fu a) 116 [.agg (zCA a)] fun r=>Y r:=by
 refine fcI Tryz.func116 U (A [9,30,1,57,58,58,61,35,2,27,9,2,132,74,3,41] (fun b _=>?_) zIs)
 refine A [3,27,16,2,125,74,2,35,3,27,22,2,119,74,3,41] (fun c _=>?_) zIY
 refine A [3,27,29,2,112,74,2,41] (fun d _=>?_) zLf
 refine A [3,27,35,2,106,74,2,41] (fun e _=>?_) zLf
 exact A [3,74]
def zBr (fu:Nat) (a:Class):Option Bool:=bnd (zHU fu a) fun b=>some (!b)
theorem zKp {fu:Nat} {a:Class}:DD (zBr fu a) 115 [.agg (zCA a)] fun r=>Y r:=by
 refine fcI Tryz.func115 U (A [9,30,1,57,80,41] (fun b _=>?_) zQL)
 exact A [2,74]
def zA0 (b:Class->Option Bool) (a:List Class):Nat->Int->Option Int
 | 0,_=>none
 | k1+1,t2=>cnd (decide (t2<(a.length:Int))) (bnd (idx a t2) fun e=>bnd (b e) fun d=>cnd d (some t2) (bnd (rng .i64 (t2+1)) fun c=>(zA0 b a k1) c)) (some (-1))
def zDq (fu:Nat) (b:Class->Option Bool) (a:List Class):Option Int:=(zA0 b a) fu 0
theorem zI6 {fu:Nat} {a:List Class}:DD (zDq fu (fun b=>zBr fu b) a) 184 [.sl 5 false (a.map zCA),.fn (.func 115) [] []] fun r=>Z r:=by
 refine fcI Tryz.func184 U (A [75,80,77,13] ?_)
 refine lw (zA0 (fun b=>zBr fu b) a) [0,1,7] [] (fun c=>[(8,Z c)]) (fun _=>[]) fu 0 U U ?_
 rintro e c
 refine A [75,10,2,86,59,72,62,93,36] fun g _=>?_
 refine A [1,44] (fun f _=>?_) zKp []
 refine A [0,5,2,62,8,4,94] fun d _=>?_
 exact A [89] (tx d)
def zBy (fu:Nat) (c:Class->Option Bool) (b:List Class):Option Bool:=bnd (zDq fu c b) fun a=>some (decide (a>=0))
theorem zHw {fu:Nat} {a:List Class}:DD (zBy fu (fun b=>zBr fu b) a) 118 [.sl 5 false (a.map zCA),.fn (.func 115) [] []] fun r=>Y r:=by
 refine fcI Tryz.func118 U (A [58,99] (fun c _=>?_) zI6)
 exact A [2,74]
def zBs (_fu:Nat) (b:Def) (a:zAI):Option Bool:=some (decide (b.Class>=(a.World.Classes.length:Int)))
theorem zKq {fu:Nat} {b:Def} {a:zAI}:FF (zBs fu b a) 117 [.agg (zRM b),.loc 900000 0] [(900000,.box 94 (zBe a.World))] [900000] (fun r=>Y r) fun _=>[(900000,.box 94 (zBe a.World))]:=by
 exact fcI Tryz.func117 U (A [73,57,9,105,35,2,74])
def zBK (b:Def->Option Bool) (a:List Def):Nat->Int->Option Int
 | 0,_=>none
 | k1+1,t3=>cnd (decide (t3<(a.length:Int))) (bnd (idx a t3) fun e=>bnd (b e) fun d=>cnd d (some t3) (bnd (rng .i64 (t3+1)) fun c=>(zBK b a k1) c)) (some (-1))
def zEf (fu:Nat) (b:Def->Option Bool) (a:List Def):Option Int:=(zBK b a) fu 0
theorem zJs {fu:Nat} {b:List Def} {a:zAI}:FF (zEf fu (fun c=>zBs fu c a) b) 185 [.sl 3 false (b.map zRM),.fn (.func 117) [] [.loc 900000 0]] [(900000,.box 94 (zBe a.World))] [900000] (fun r=>Z r) fun _=>[(900000,.box 94 (zBe a.World))]:=by
 refine fcI Tryz.func185 U (A [75,80,77,13] ?_)
 refine lw (zBK (fun c=>zBs fu c a) b) [0,1,7] [900000] (fun d=>[(8,Z d)]) (fun _=>[]) fu 0 U U ?_
 rintro f d
 refine A [75,10,2,86,59,72,62,93,36] fun h _=>?_
 refine A [1,44] (fun g _=>?_) zKq [(900000,900000)]
 refine A [0,5,2,62,8,4,94] fun e _=>?_
 exact A [89] (tx e)
def zCN (fu:Nat) (c:Def->Option Bool) (b:List Def):Option Bool:=bnd (zEf fu c b) fun a=>some (decide (a>=0))
theorem zIn {fu:Nat} {b:List Def} {a:zAI}:FF (zCN fu (fun c=>zBs fu c a) b) 119 [.sl 3 false (b.map zRM),.fn (.func 117) [] [.loc 900000 0]] [(900000,.box 94 (zBe a.World))] [900000] (fun r=>Y r) fun _=>[(900000,.box 94 (zBe a.World))]:=by
 refine fcI Tryz.func119 U (A [58,61,44] (fun d _=>?_) zJs [(900000,900000)])
 exact A [2,74]
def zER (fu:Nat) (a:zAI):Option Bool:=cnd (decide ((a.World.Classes.length:Int)<=12)) (bnd (zBy fu (fun b=>zBr fu b) a.World.Classes) fun c=>cnd (!c) (bnd (zCN fu (fun b=>zBs fu b a) a.World.Desk.Defs) fun d=>some (!d)) (some false)) (some false)
theorem zL7 {fu:Nat} {a:zAI}:DD (zER fu a) 69 [.agg (zEX a)] fun r=>Y r:=by
 refine fcI Tryz.func69 U (A [9,30,1,57,58,62,93,35,2,27,11,2,117,74,104,41] (fun b _=>?_) zHw)
 refine A [3,27,19,2,109,74,105,44] (fun c _=>?_) zIn [(900000,1)]
 exact A [3,74]
def zEy (fu:Nat):Option (List Bs):=bnd (zQf fu ([97,32,98,32,98,117,116,116,111,110,32,100,105,118,32,102,105,101,108,100,115,101,116,32,102,111,114,109,32,105,32,105,110,112,117,116,32,108,97,98,101,108,32,108,101,103,101,110,100,32,108,105,32,111,112,116,105,111,110,32,111,117,116,112,117,116,32,112,32,115,101,108,101,99,116,32,115,112,97,110,32,116,101,109,112,108,97,116,101,32,116,101,120,116,97,114,101,97,32,117,108]:Bs)) fun a=>some a
theorem zTi {fu:Nat}:DD (zEy fu) 238 [] fun r=>.sl 1 false (r.map zSK):=by
 refine fcI Tryz.func238 U (A [58,9] ?_)
 exact pk (zVQ fu ([97,32,98,32,98,117,116,116,111,110,32,100,105,118,32,102,105,101,108,100,115,101,116,32,102,111,114,109,32,105,32,105,110,112,117,116,32,108,97,98,101,108,32,108,101,103,101,110,100,32,108,105,32,111,112,116,105,111,110,32,111,117,116,112,117,116,32,112,32,115,101,108,101,99,116,32,115,112,97,110,32,116,101,109,112,108,97,116,101,32,116,101,120,116,97,114,101,97,32,117,108]:Bs)) U U fun a _=>A [57,8]
def zKB (fu:Nat) (c:Bs):Option Bool:=bnd (zEy fu) fun a=>bnd (zA9 fu a c) fun b=>some b
theorem zTh {fu:Nat} {b:Bs}:DD (zKB fu b) 171 [O b] fun r=>Y r:=by
 refine fcI Tryz.func171 U (A [58,9] ?_)
 refine zKa (enc:=fun (a:(List Bs))=>.sl 1 false (a.map zSK)) (qs:=[]) zTi U U trivial (fun _=>U) zfx U U fun a _=>A [1,41] (fun c _=>?_) zCw
 exact A [57,8]
def zIK (fu:Nat) (t2:Int) (c:List (Int×Int)) (l4:List (Bs×Int)) (a:Def) (d:(Int×(List (Int×Int))×(List (Bs×Int)))->Option (zCm×Bool)) (b:Bool):Option (zCm×Bool):=bnd (zCv fu a.Name) fun f=>cnd (!f) (some ((⟨(zG9 l4 a.Name t2),(zG9 c a.Class t2)⟩:zCm),false)) (cnd (!b) (some ((⟨(zG9 l4 a.Name t2),(zG9 c a.Class t2)⟩:zCm),false)) (cnd (decide (a.Class<0)) (some ((⟨(zG9 l4 a.Name t2),(zG9 c a.Class t2)⟩:zCm),false)) (cnd (decide (a.Class>=12)) (some ((⟨(zG9 l4 a.Name t2),(zG9 c a.Class t2)⟩:zCm),false)) (bnd (rng .i64 (t2+1)) fun e=>d (e,(zG9 c a.Class t2),(zG9 l4 a.Name t2))))))
def zEE (fu:Nat) (a:Desk):Nat->Int×(List (Int×Int))×(List (Bs×Int))->Option (zCm×Bool)
 | 0,_=>none
 | k1+1,(t2,l3,l4)=>cnd (decide (t2<(a.Defs.length:Int))) (bnd (idx a.Defs t2) fun b=>cnd (b.Local==b.Name) ((zIK fu t2 l3 l4 b (zEE fu a k1)) true) (bnd (zKB fu b.Local) fun c=>(zIK fu t2 l3 l4 b (zEE fu a k1)) c)) (cnd ((l4.length:Int)==(a.Defs.length:Int)) (some ((⟨l4,l3⟩:zCm),((l3.length:Int)==(a.Defs.length:Int)))) (some ((⟨l4,l3⟩:zCm),false)))
def zLO (fu:Nat) (a:Desk):Option (zCm×Bool):=(zEE fu a) fu (0,([]:(List (Int×Int))),([]:(List (Bs×Int))))
theorem zUt {fu:Nat} {c:Desk}:FF (zLO fu c) 108 [.agg (zI8 c)] [] [] (fun r=>.tup [.agg [.own 8,.own 9],Y r.2]) fun r=>[(8,.mp (r.1.names.map fun p:Bs×Int=>(zNV p.1,Z p.2))),(9,.mp (r.1.classes.map fun p:Int×Int=>(zOF .i64 p.1,Z p.2)))]:=by
 refine fcI Tryz.func108 U (A [9,30,1,31,2,57,9] ?_)
 refine zH6 8 U U U U U U U (zH6 9 U U U U U U U (A [20,31,4,12,0,6,61,77,13] ?_))
 refine lw (zEE fu c) [1,2,4,12,13] [4,2,1] (fun (b,d,e)=>[(14,Z b)]) (fun (b,d,e)=>[(9,.mp (d.map fun p:Int×Int=>(zOF .i64 p.1,Z p.2))),(8,.mp (e.map fun p:Bs×Int=>(zNV p.1,Z p.2)))]) fu (0,([]:(List (Int×Int))),([]:(List (Bs×Int)))) U U ?_
 rintro i ⟨b,d,e⟩
 refine A [75] ?_
 refine zAD U ?_ ?_
 ·refine A [72,80,36] fun f _=>?_
  refine A [1,31,6,1,12,0,6,52,8,6,1,2,4,12,13,14,6,5,6,4,9,8,2,1,53,12,0,1,0,4,0,16,0,64,0,0,271,2047,210] ?_
  refine vS [17,40,44,54] [17] [] U U (zFy zJA (fun v=>Z v) e f.Name b Tryz.underlying142 Tryz.underlying9 U U U U U U U U U (pyq U)) U U (vS [19,48,52,56] [19] [] U U (zFy (zKJ .i64) (fun v=>Z v) d f.Class b Tryz.underlying143 Tryz.underlying3 U U U U U U U U U (pyq U)) U U (A [79,9] ?_))
  refine zM8 (zIK fu b d e f (zEE fu c i)) (fun (a:Bool)=>[(1,.loc 1 0),(2,.loc 2 0),(4,.loc 4 0),(6,.loc 6 0),(7,Y a),(12,.sl 3 false (c.Defs.map zRM)),(13,Z (c.Defs.length:Int)),(14,Z b)]) (fun (a:Bool)=>[(6,.box 88 (zRM f)),(4,.box 145 [.own 8,.own 9]),(9,.mp ((zG9 d f.Class b).map fun p:Int×Int=>(zOF .i64 p.1,Z p.2))),(8,.mp ((zG9 e f.Name b).map fun p:Bs×Int=>(zNV p.1,Z p.2))),(2,.box 145 [.v (.map none),.v (.map none)]),(1,.box 29 (zI8 c))]) ?_ fun g=>?_
  ·rintro a
   refine A [7,99] (fun l _=>?_) zEe
   refine A [2,26,43,5,113,65,80,92,8,104,26,47,5,109,65,80,92,8,105,26,52,5,104,65,80,92,8,104,0,5,3,80,92,8,4,94] fun h _=>?_
   exact A [89] (tx (h,(zG9 d f.Class b),(zG9 e f.Name b)))
  ·refine pq 6 U (zAV (j:=34) U ?_ ?_)
   ·exact A [105,11,45] (g true)
   ·refine A [2,41] (fun k _=>?_) zTh
    exact A [2,11,45] (g k)
 ·refine A [86,6,52,3,5,1,2,4,4,9,8,2,1,53,19,0,0,2,6,0,16,48,126,254,510,1022,2046,510,4606,12798,32766,65534,4095,262143,203] ?_
  refine vS [17,122] [124] [] U U (zPa (zNV) (fun v=>Z v) e Tryz.underlying142 U U U U U U U U (pyq U)) U U (vq 2 U (by kernel_rfl) (vS [128] [130] [] U U (zR6 (T:=tab) zRM c.Defs U U U U U U U U (pyq U)) U U (vq 2 U (by kernel_rfl) (zBd (t:=67) U ?_ ?_))))
  ·exact vq 2 U (by kernel_rfl) (vS [19,134,138] [140] [] U U (zPa (zOF .i64) (fun v=>Z v) d Tryz.underlying143 U U U U U U U U (pyq U)) U U (vq 2 U (by kernel_rfl) (vS [134,144] [146] [] U U (zR6 (T:=tab) zRM c.Defs U U U U U U U U (pyq U)) U U (A [202,50,5,1,4,5,17,19,118,5,201,79,8]))))
  ·exact A [208,50,5,1,4,5,17,19,118,5,201,79,8]
def zDS (fu:Nat) (a:Desk) (b:zCm×Bool):Nat->Bool×Int×Int->Option (zCm×Bool)
 | 0,_=>none
 | k1+1,(ok3,last4,t5)=>cnd (decide (t5<(a.Waits.length:Int))) (bnd (idx a.Waits t5) fun c=>cnd ok3 (cnd (!(zK5 b.1.names c.Name)) (bnd (zCv fu c.Name) fun i=>cnd i (cnd (decide (c.Ticket>last4)) (bnd (rng .i64 (t5+1)) fun g=>(zDS fu a b k1) ((decide (c.Ticket<a.Next)),c.Ticket,g)) (bnd (rng .i64 (t5+1)) fun h=>(zDS fu a b k1) (false,c.Ticket,h))) (bnd (rng .i64 (t5+1)) fun d=>(zDS fu a b k1) (false,c.Ticket,d))) (bnd (rng .i64 (t5+1)) fun e=>(zDS fu a b k1) (false,c.Ticket,e))) (bnd (rng .i64 (t5+1)) fun f=>(zDS fu a b k1) (false,c.Ticket,f))) (cnd ok3 (cnd (decide (a.Next>=0)) (some (b.1,(decide (a.Next<=100000)))) (some (b.1,false))) (some (b.1,false)))
def zHn (fu:Nat) (a:Desk):Option (zCm×Bool):=bnd (zLO fu a) fun b=>(zDS fu a b) fu (b.2,(-1),0)
theorem zMH {fu:Nat} {d:Desk}:FF (zHn fu d) 63 [.agg (zI8 d)] [] [] (fun r=>.tup [.agg [.own 2130,.own 2131],Y r.2]) fun r=>[(2130,.mp (r.1.names.map fun p:Bs×Int=>(zNV p.1,Z p.2))),(2131,.mp (r.1.classes.map fun p:Int×Int=>(zOF .i64 p.1,Z p.2)))]:=by
 refine fcI Tryz.func63 U (A [9,30,1,31,2,57,80,43] (fun h _=>?_) zUt [(8,2130),(9,2131)] [2130,2131])
 refine A [3,31,4,92,75,61,77,13] ?_
 refine lw (zDS fu d h) [1,2,4,17,18] [4,2130,2131,2,1] (fun (c,a,i)=>[(5,Y c),(6,Z a),(19,Z i)]) (fun _=>[]) fu (h.2,(-1),0) U U ?_
 rintro m ⟨c,a,i⟩
 refine A [75] ?_
 refine zAD U ?_ ?_
 ·refine A [72,9,36] fun b _=>?_
  refine A [1,31,8,12,0,76] ?_
  refine zH5 (T:=tab) zJA (fun v=>Z v) h.1.names b.Name 0 Tryz.underlying142 Tryz.underlying9 U U U U U U U U U (A [105,0,61] ?_)
  refine zAV (j:=32) U ?_ ?_
  ·refine pq 4 U (zAV (j:=36) U ?_ ?_)
   ·refine A [2,41] (fun n _=>?_) zEe
    refine pq 2 U (zAV (j:=41) U ?_ ?_)
    ·refine pq 6 U (zAV (j:=47) U ?_ ?_)
     ·refine A [107,0,14,3,11,94] fun k _=>?_
      exact A [89] (tx ((decide (b.Ticket<d.Next)),b.Ticket,k))
     ·refine A [107,0,14,3,11,94] fun l _=>?_
      exact A [89] (tx (false,b.Ticket,l))
    ·refine A [113,0,14,3,11,94] fun e _=>?_
     exact A [89] (tx (false,b.Ticket,e))
   ·refine A [118,0,14,3,11,94] fun f _=>?_
    exact A [89] (tx (false,b.Ticket,f))
  ·refine A [122,0,14,3,11,94] fun g _=>?_
   exact A [89] (tx (false,b.Ticket,g))
 ·refine A [86,6,52,4,5,1,2,4,5,4,2130,2131,2,1,53,14,0,0,2,6,14,30,62,126,254,510,1022,2046,255,8191,203] ?_
  refine zBd (t:=59) U ?_ ?_
  ·refine vq 5 U (by kernel_rfl) (zBd (t:=64) U ?_ ?_)
   ·exact A [204,50,5,1,4,5,114,4261,4263,5,201,79,8]
   ·exact A [204,50,5,1,4,5,114,4261,4263,5,201,79,8]
  ·exact A [209,50,5,1,4,5,114,4261,4263,5,201,79,8]
def zGx (fu:Nat) (a:Desk):Option Bool:=bnd (zHn fu a) fun b=>some b.2
theorem zLN {fu:Nat} {a:Desk}:DD (zGx fu a) 71 [.agg (zI8 a)] fun r=>Y r:=by
 refine fcI Tryz.func71 U (A [9,30,1,57,80,43] (fun b _=>?_) zMH [(2130,2070),(2131,2071)] [2070,2071])
 exact A [3,31,3,92,62,8]
def zMM (_fu:Nat) (l1:Line) (a:Int):Option Bool:=cnd (decide (a>=0)) (some (decide (a<(l1.Todos.length:Int)))) (some false)
theorem zSf {fu:Nat} {l1:Line} {a:Int}:DD (zMM fu l1 a) 122 [.agg (zRP l1),Z a] fun r=>Y r:=by
 exact fcI Tryz.func122 U (A [73,57,93,26,7,4,3,35,3,74,107,74])
def zFD (fu:Nat) (l1:Line) (c:Int) (b:List Int) (a:Int->Option Bool):Nat->Int->Option Bool
 | 0,_=>none
 | k2+1,t5=>cnd (decide (t5<(b.length:Int))) (bnd (idx b t5) fun g=>bnd (zMM fu l1 g) fun f=>cnd (!f) (some false) (bnd (rng .i64 (t5+1)) fun d=>(zFD fu l1 c b a k2) d)) (bnd (rng .i64 (c+1)) fun e=>a e)
def zFC (fu:Nat) (l1:Line) (a:List (List Int)):Nat->Int->Option Bool
 | 0,_=>none
 | k1+1,t3=>cnd (decide (t3<((a++[l1.Back]).length:Int))) (bnd (idx (a++[l1.Back]) t3) fun b=>(zFD fu l1 t3 b (zFC fu l1 a k1)) fu 0) (some true)
def zIL (fu:Nat) (l1:Line):Option Bool:=bnd (zDo fu l1.Stack) fun a=>bnd (zDI 24 (a.length+([l1.Back]:List (List Int)).length)) fun _=>(zFC fu l1 a) fu 0
theorem zOH {fu:Nat} {l1:Line}:DD (zIL fu l1) 72 [.agg (zRP l1)] fun r=>Y r:=by
 refine fcI Tryz.func72 U (A [9,30,1,57,6,6,52,1,1,1,1,53,9,0,1,3,0,8,24,63,127,0,202,55,1,2,16,18,4181] (fun a _=>?_) zIw [(5,2090)] [2090])
 refine vq 2 U (by kernel_rfl) (vS [22] [24,25] [12] U U (pl ([l1.Back].map zA1) 12 U U U U U U (pyq U)) U U (vU [18,24,25,4181] [26,18,4181] [2090] U U (pa zA1 a ([l1.Back]:List (List Int)) U U U U U U U U (zNg _) U U U (pyq U)) U U fun _ _=>vS [26,4181] [28] [] U U (zTE (T:=tab) zA1 (a++[l1.Back]) U U U U U U U U U (pyq U)) U U (A [201,79,13] ?_)))
 refine lw (zFC fu l1 a) [1,13,14] [2090,1] (fun c=>[(15,Z c)]) (fun _=>[]) fu 0 U U ?_
 rintro h c
 refine A [75,10,2,86,59,72,9,38] fun e b=>?_
 refine zAv (T:=tab) zA1 (a++[l1.Back]) e (zAx b) U U U U U U U U (A [57,80,77,13] ?_)
 refine lw (zFD fu l1 c e (zFC fu l1 a h)) [1,13,14,15,19,20] [2090,1] (fun d=>[(21,Z d)]) (fun _=>[]) fu 0 U U ?_
 rintro i d
 refine A [75] ?_
 refine zAD U ?_ ?_
 ·refine A [72,9,36] fun k _=>?_
  refine A [2,0,99] (fun j _=>?_) zSf
  refine A [57,5,1,59,4,94] fun f _=>?_
  exact A [89] (tx f)
 ·refine A [17,94] fun g _=>?_
  exact A [89] (tx g)
def zET (_fu:Nat) (b:zAI) (a:Int):Option Bool:=cnd (decide (a>=0)) (some (decide (a<(b.World.Forest.Nodes.length:Int)))) (some false)
theorem zGt {fu:Nat} {b:zAI} {a:Int}:DD (zET fu b a) 123 [.agg (zEX b),Z a] fun r=>Y r:=by
 exact fcI Tryz.func123 U (A [73,57,93,26,7,4,105,35,3,74,109,74])
def zCJ (_fu:Nat) (b:zAI) (a:Int):Option Bool:=cnd (decide (a>=0)) (some (decide (a<(b.World.Desk.Defs.length:Int)))) (some false)
theorem zC8 {fu:Nat} {b:zAI} {a:Int}:DD (zCJ fu b a) 124 [.agg (zEX b),Z a] fun r=>Y r:=by
 exact fcI Tryz.func124 U (A [73,57,93,26,7,4,105,35,3,74,109,74])
def zCi (fu:Nat) (e:zAI) (c:State) (a d:Bool):Option Bool:=cnd d (cnd a (cnd (c.Def==(-1)) (some true) (bnd (zCJ fu e c.Def) fun b=>some b)) (some false)) (some false)
def zDH (fu:Nat) (c:zAI) (b:State) (a e:Bool):Option Bool:=cnd e (cnd a (bnd (zCJ fu c b.Def) fun d=>some d) (some false)) (cnd (b.Phase==0) ((zCi fu c b a) (b.Phase==0)) (cnd (b.Phase==1) ((zCi fu c b a) (b.Phase==1)) ((zCi fu c b a) (b.Phase==4))))
def zDG (fu:Nat) (c:zAI) (b:State) (a:Bool):Option Bool:=cnd (b.Phase==2) ((zDH fu c b a) (b.Phase==2)) ((zDH fu c b a) (b.Phase==3))
def zFO (fu:Nat) (a:zAI) (c:Int):Option Bool:=bnd (idx a.World.States c) fun b=>bnd (idx a.World.Forest.Nodes c) fun e=>cnd (e.Kind != 1) (some (zWu b (⟨0,(-1),(-1),false⟩:State))) (cnd (b.Owner==(-1)) ((zDG fu a b) true) (bnd (zET fu a b.Owner) fun d=>(zDG fu a b) d))
theorem zNU {fu:Nat} {d:zAI} {g:Int}:DD (zFO fu d g) 73 [.agg (zEX d),Z g] fun r=>Y r:=by
 refine fcI Tryz.func73 U (A [73,57,76,36] fun b _=>?_)
 refine A [1,31,5,12,0,6,9,105,36] fun n _=>?_
 refine A [3,0] ?_
 refine zAD U ?_ ?_
 ·refine A [80,20] ?_
  exact po_eq eqf_53 U U U U U U U (A [57,8])
 ·refine A [67,9] ?_
  refine zM8 (zDG fu d b) (fun (a:Bool)=>[(2,.loc 2 0),(5,.loc 5 0),(6,Y a)]) (fun (a:Bool)=>[(5,.box 53 (zBn b)),(2,.box 94 (zBe d.World))]) ?_ fun e=>?_
  ·rintro a
   refine A [7,6,62,13,6,62] ?_
   refine jw (zDH fu d b a) [2,5,6,35] [5,2] (fun h=>[(36,Y h)]) (fun _=>[]) U U ?_ fun f=>?_
   ·rintro h
    refine zIz (zAD U ?_ ?_)
    ·refine A [61,27,40,2,106,74,3,41] (fun m _=>?_) zC8
     exact A [2,74]
    ·refine A [6,62] ?_
     refine jw (zCi fu d b a) [2,5,6] [5,2] (fun i=>[(46,Y i)]) (fun _=>[]) U U ?_ fun c=>?_
     ·rintro i
      refine A [7,10,3,4,69,59,61,27,51,2,111,74,104,26,55,2,107,74,3,41] (fun k _=>?_) zC8
      exact A [3,74]
     ·refine zAD U ?_ ?_
      ·exact A [4,45] (c (b.Phase==0))
      ·refine A [62] ?_
       refine zAD U ?_ ?_
       ·exact A [4,45] (c (b.Phase==1))
       ·exact A [14,2,11,45] (c (b.Phase==4))
   ·refine zAD U ?_ ?_
    ·exact A [4,45] (f (b.Phase==2))
    ·exact A [14,2,11,45] (f (b.Phase==3))
  ·refine pq 4 U (zAV (j:=28) U ?_ ?_)
   ·exact A [106,11,45] (e true)
   ·refine A [3,41] (fun l _=>?_) zGt
    exact A [2,11,45] (e l)
def zEU (fu:Nat) (a:zAI) (t2:Todo):Option Bool:=cnd (decide (t2.Kind>=1)) (cnd (decide (t2.Kind<9)) (some true) (cnd (t2.Kind==9) (bnd (zCJ fu a t2.Def) fun b=>some b) (some false))) (cnd (t2.Kind==9) (bnd (zCJ fu a t2.Def) fun c=>some c) (some false))
theorem zJc {fu:Nat} {a:zAI} {t2:Todo}:DD (zEU fu a t2) 76 [.agg (zEX a),.agg (zLg t2)] fun r=>Y r:=by
 refine fcI Tryz.func76 U (A [73,30,3,57,76] ?_)
 refine zAV (j:=8) U ?_ ?_
 ·refine A [105,26,13,2,111,74,104,27,17,2,107,74,3,41] (fun b _=>?_) zC8
  exact A [3,74]
 ·refine A [109,27,17,2,107,74,3,41] (fun c _=>?_) zC8
  exact A [3,74]
def zCK (fu:Nat) (c:Todo) (a:zAI):Option Bool:=bnd (zEU fu a c) fun b=>some (!b)
theorem zL9 {fu:Nat} {b:Todo} {a:zAI}:FF (zCK fu b a) 75 [.agg (zLg b),.loc 900000 0] [(900000,.box 94 (zBe a.World))] [900000] (fun r=>Y r) fun _=>[(900000,.box 94 (zBe a.World))]:=by
 refine fcI Tryz.func75 U (A [73,57,99] (fun c _=>?_) zJc)
 exact A [2,74]
def zBD (b:Todo->Option Bool) (a:List Todo):Nat->Int->Option Int
 | 0,_=>none
 | k1+1,t3=>cnd (decide (t3<(a.length:Int))) (bnd (idx a t3) fun e=>bnd (b e) fun d=>cnd d (some t3) (bnd (rng .i64 (t3+1)) fun c=>(zBD b a k1) c)) (some (-1))
def zD2 (fu:Nat) (b:Todo->Option Bool) (a:List Todo):Option Int:=(zBD b a) fu 0
theorem zJY {fu:Nat} {b:List Todo} {a:zAI}:FF (zD2 fu (fun c=>zCK fu c a) b) 125 [.sl 10 false (b.map zLg),.fn (.func 75) [] [.loc 900000 0]] [(900000,.box 94 (zBe a.World))] [900000] (fun r=>Z r) fun _=>[(900000,.box 94 (zBe a.World))]:=by
 refine fcI Tryz.func125 U (A [75,80,77,13] ?_)
 refine lw (zBD (fun c=>zCK fu c a) b) [0,1,7] [900000] (fun d=>[(8,Z d)]) (fun _=>[]) fu 0 U U ?_
 rintro f d
 refine A [75,10,2,86,59,72,62,93,36] fun h _=>?_
 refine A [1,44] (fun g _=>?_) zL9 [(900000,900000)]
 refine A [0,5,2,62,8,4,94] fun e _=>?_
 exact A [89] (tx e)
def zB9 (fu:Nat) (c:Todo->Option Bool) (b:List Todo):Option Bool:=bnd (zD2 fu c b) fun a=>some (decide (a>=0))
theorem zIa {fu:Nat} {b:List Todo} {a:zAI}:FF (zB9 fu (fun c=>zCK fu c a) b) 74 [.sl 10 false (b.map zLg),.fn (.func 75) [] [.loc 900000 0]] [(900000,.box 94 (zBe a.World))] [900000] (fun r=>Y r) fun _=>[(900000,.box 94 (zBe a.World))]:=by
 refine fcI Tryz.func74 U (A [58,61,44] (fun d _=>?_) zJY [(900000,900000)])
 exact A [2,74]
def zFe (fu:Nat) (b:zAI) (t2:Task):Option Bool:=cnd (t2.Kind==1) (cnd (t2.Ticket==0) (some (t2.Def==0)) (some false)) (cnd (t2.Kind==2) (cnd (decide (t2.Ticket>=0)) (bnd (zCJ fu b t2.Def) fun a=>some a) (some false)) (some false))
theorem zNt {fu:Nat} {a:zAI} {t2:Task}:DD (zFe fu a t2) 79 [.agg (zEX a),.agg (zJe t2)] fun r=>Y r:=by
 refine fcI Tryz.func79 U (A [73,30,3,57,6,62,13,62,5,8,76,26,12,2,105,74,105,74,62,10,3,4,69,59,76,27,22,2,106,74,3,41] (fun b _=>?_) zC8)
 exact A [2,74]
def zCL (fu:Nat) (c:Task) (a:zAI):Option Bool:=bnd (zFe fu a c) fun b=>some (!b)
theorem zMA {fu:Nat} {b:Task} {a:zAI}:FF (zCL fu b a) 78 [.agg (zJe b),.loc 900000 0] [(900000,.box 94 (zBe a.World))] [900000] (fun r=>Y r) fun _=>[(900000,.box 94 (zBe a.World))]:=by
 refine fcI Tryz.func78 U (A [73,57,99] (fun c _=>?_) zNt)
 exact A [2,74]
def zBC (b:Task->Option Bool) (a:List Task):Nat->Int->Option Int
 | 0,_=>none
 | k1+1,t3=>cnd (decide (t3<(a.length:Int))) (bnd (idx a t3) fun e=>bnd (b e) fun d=>cnd d (some t3) (bnd (rng .i64 (t3+1)) fun c=>(zBC b a k1) c)) (some (-1))
def zD1 (fu:Nat) (b:Task->Option Bool) (a:List Task):Option Int:=(zBC b a) fu 0
theorem zJX {fu:Nat} {b:List Task} {a:zAI}:FF (zD1 fu (fun c=>zCL fu c a) b) 126 [.sl 3 false (b.map zJe),.fn (.func 78) [] [.loc 900000 0]] [(900000,.box 94 (zBe a.World))] [900000] (fun r=>Z r) fun _=>[(900000,.box 94 (zBe a.World))]:=by
 refine fcI Tryz.func126 U (A [75,80,77,13] ?_)
 refine lw (zBC (fun c=>zCL fu c a) b) [0,1,7] [900000] (fun d=>[(8,Z d)]) (fun _=>[]) fu 0 U U ?_
 rintro f d
 refine A [75,10,2,86,59,72,62,93,36] fun h _=>?_
 refine A [1,44] (fun g _=>?_) zMA [(900000,900000)]
 refine A [0,5,2,62,8,4,94] fun e _=>?_
 exact A [89] (tx e)
def zB8 (fu:Nat) (c:Task->Option Bool) (b:List Task):Option Bool:=bnd (zD1 fu c b) fun a=>some (decide (a>=0))
theorem zIZ {fu:Nat} {b:List Task} {a:zAI}:FF (zB8 fu (fun c=>zCL fu c a) b) 77 [.sl 3 false (b.map zJe),.fn (.func 78) [] [.loc 900000 0]] [(900000,.box 94 (zBe a.World))] [900000] (fun r=>Y r) fun _=>[(900000,.box 94 (zBe a.World))]:=by
 refine fcI Tryz.func77 U (A [58,61,44] (fun d _=>?_) zJX [(900000,900000)])
 exact A [2,74]
def zDF (fu:Nat) (d:zAI) (b:Build) (a:Bool):Option Bool:=bnd (zCJ fu d b.Def) fun c=>cnd c (cnd (b.Node==(-4)) (some true) (some a)) (some false)
def zFN (fu:Nat) (b:zAI) (a:Build):Option Bool:=bnd (zET fu b a.Node) fun c=>cnd c (bnd (idx b.World.Forest.Nodes a.Node) fun d=>(zDF fu b a) (d.Kind==1)) ((zDF fu b a) false)
theorem zNT {fu:Nat} {d:zAI} {c:Build}:DD (zFN fu d c) 82 [.agg (zEX d),.agg (zJd c)] fun r=>Y r:=by
 refine fcI Tryz.func82 U (A [73,30,3,57,9] ?_)
 refine zM8 (zDF fu d c) (fun (a:Bool)=>[(2,.loc 2 0),(3,.loc 3 0),(5,Y a)]) (fun (a:Bool)=>[(3,.box 104 (zJd c)),(2,.box 94 (zBe d.World))]) ?_ fun b=>?_
 ·rintro a
  refine A [7,93,41] (fun g _=>?_) zC8
  exact A [1,26,26,8,104,26,30,2,104,74,104,74,108,74]
 ·refine A [3,41] (fun f _=>?_) zGt
  refine pq 1 U (zAV (j:=10) U ?_ ?_)
  ·refine A [106,36] fun e _=>?_
   exact A [105,11,45] (b (e.Kind==1))
  ·exact A [112,11,45] (b false)
def zCM (fu:Nat) (a:Build) (b:zAI):Option Bool:=bnd (zFN fu b a) fun c=>some (!c)
theorem zMB {fu:Nat} {b:Build} {a:zAI}:FF (zCM fu b a) 81 [.agg (zJd b),.loc 900000 0] [(900000,.box 94 (zBe a.World))] [900000] (fun r=>Y r) fun _=>[(900000,.box 94 (zBe a.World))]:=by
 refine fcI Tryz.func81 U (A [73,57,99] (fun c _=>?_) zNT)
 exact A [2,74]
def zAz (b:Build->Option Bool) (a:List Build):Nat->Int->Option Int
 | 0,_=>none
 | k1+1,t3=>cnd (decide (t3<(a.length:Int))) (bnd (idx a t3) fun e=>bnd (b e) fun d=>cnd d (some t3) (bnd (rng .i64 (t3+1)) fun c=>(zAz b a k1) c)) (some (-1))
def zDp (fu:Nat) (b:Build->Option Bool) (a:List Build):Option Int:=(zAz b a) fu 0
theorem zI5 {fu:Nat} {b:List Build} {a:zAI}:FF (zDp fu (fun c=>zCM fu c a) b) 127 [.sl 2 false (b.map zJd),.fn (.func 81) [] [.loc 900000 0]] [(900000,.box 94 (zBe a.World))] [900000] (fun r=>Z r) fun _=>[(900000,.box 94 (zBe a.World))]:=by
 refine fcI Tryz.func127 U (A [75,80,77,13] ?_)
 refine lw (zAz (fun c=>zCM fu c a) b) [0,1,7] [900000] (fun d=>[(8,Z d)]) (fun _=>[]) fu 0 U U ?_
 rintro f d
 refine A [75,10,2,86,59,72,62,93,36] fun h _=>?_
 refine A [1,44] (fun g _=>?_) zMB [(900000,900000)]
 refine A [0,5,2,62,8,4,94] fun e _=>?_
 exact A [89] (tx e)
def zBx (fu:Nat) (c:Build->Option Bool) (b:List Build):Option Bool:=bnd (zDp fu c b) fun a=>some (decide (a>=0))
theorem zHv {fu:Nat} {b:List Build} {a:zAI}:FF (zBx fu (fun c=>zCM fu c a) b) 80 [.sl 2 false (b.map zJd),.fn (.func 81) [] [.loc 900000 0]] [(900000,.box 94 (zBe a.World))] [900000] (fun r=>Y r) fun _=>[(900000,.box 94 (zBe a.World))]:=by
 refine fcI Tryz.func80 U (A [58,61,44] (fun d _=>?_) zI5 [(900000,900000)])
 exact A [2,74]
def zBw (fu:Nat) (a:zAI):Nat->Int->Option Bool
 | 0,_=>none
 | k1+1,t6=>cnd (decide (t6<(a.World.Line.Todos.length:Int))) (bnd (idx a.World.Line.Todos t6) fun h=>bnd (zFO fu a t6) fun f=>cnd (!f) (some false) (bnd (zB9 fu (fun b=>zCK fu b a) h) fun g=>cnd g (some false) (bnd (rng .i64 (t6+1)) fun c=>(zBw fu a k1) c))) (bnd (zB8 fu (fun b=>zCL fu b a) a.World.Tasks) fun d=>cnd (!d) (bnd (zBx fu (fun b=>zCM fu b a) a.World.Builds) fun e=>some (!e)) (some false))
def zCt (fu:Nat) (a:zAI):Option Bool:=cnd ((a.World.States.length:Int) != (a.World.Forest.Nodes.length:Int)) (some false) (cnd ((a.World.Line.Todos.length:Int) != (a.World.Forest.Nodes.length:Int)) (some false) (bnd (zER fu a) fun b=>cnd (!b) (some false) (bnd (zAs fu a.World.Forest) fun c=>cnd (!c) (some false) (bnd (zGx fu a.World.Desk) fun d=>cnd (!d) (some false) (bnd (zIL fu a.World.Line) fun e=>cnd (!e) (some false) ((zBw fu a) fu 0))))))
theorem zGO {fu:Nat} {b:zAI}:DD (zCt fu b) 36 [.agg (zEX b)] fun r=>Y r:=by
 refine fcI Tryz.func36 U (A [9,30,1,57,76,77,6,93,35,3,26,17,2,134,83,104,35,104,26,26,2,125,83,1,41] (fun g _=>?_) zL7)
 refine A [3,26,31,2,120,83,3,41] (fun h _=>?_) zA7
 refine A [3,26,38,2,113,83,3,41] (fun i _=>?_) zLN
 refine A [3,26,45,2,106,83,3,41] (fun j _=>?_) zOH
 refine A [2,0,5,1,59,68,76,77,13] ?_
 refine lw (zBw fu b) [1,55,56] [1] (fun c=>[(57,Z c)]) (fun _=>[]) fu 0 U U ?_
 rintro f c
 refine A [75] ?_
 refine zAD U ?_ ?_
 ·refine A [72,80,36] fun m _=>?_
  refine A [3,0,99] (fun k _=>?_) zNU
  refine A [2,26,66,2,104,83,2,44] (fun l _=>?_) zIa [(900000,1)]
  refine A [57,5,1,59,4,94] fun a _=>?_
  exact A [89] (tx a)
 ·refine A [86,76,44] (fun d _=>?_) zIZ [(900000,1)]
  refine A [2,27,78,2,108,74,104,44] (fun e _=>?_) zHv [(900000,1)]
  exact A [3,74]
def zF9 (fu:Nat) (b:World):Option Bool:=bnd (zCt fu (⟨b⟩:zAI)) fun a=>some a
theorem zKS {fu:Nat} {a:World}:DD (zF9 fu a) 10 [.agg (zBe a)] fun r=>Y r:=by
 refine fcI Tryz.func10 U (A [9,30,1,57,80,20,41] (fun b _=>?_) zGO)
 exact A [57,8]
def zRG (fu:Nat) (a:List Class) (b:Int):Option (World×Int):=bnd (zPj fu b) fun c=>bnd (zIf fu (⟨0,[],[],[],[],0,[],0,0,0⟩:Node)) fun d=>bnd (zJQ fu (⟨[],[],[],false⟩:Line)) fun e=>bnd (zHO fu a) fun f=>cnd (c.2 != 0) (some ((⟨(⟨[],0⟩:Forest),[],(⟨[],[],0,false⟩:Desk),(⟨[],[],[],false⟩:Line),[],[],[]⟩:World),1)) (bnd (zF9 fu (⟨c.1,[d],(⟨[],[],0,false⟩:Desk),e,[],[],f⟩:World)) fun g=>cnd (!g) (some ((⟨(⟨[],0⟩:Forest),[],(⟨[],[],0,false⟩:Desk),(⟨[],[],[],false⟩:Line),[],[],[]⟩:World),1)) (some ((⟨c.1,[d],(⟨[],[],0,false⟩:Desk),e,[],[],f⟩:World),0)))
theorem zU5 {fu:Nat} {a:List Class} {b:Int}:DD (zRG fu a b) 30 [.sl 5 false (a.map zCA),Z b] fun r=>.tup [.agg (zBe r.1),Z r.2]:=by
 refine fcI Tryz.func30 U fun {_ _ _ _ _}=>?_
 refine A [9,31,4,57,80,41] (fun e _=>?_) zTc
 refine A [3,31,6,92,6,52,4,2,0,4,6,7,6,4,53,11,0,0,2,6,0,22,0,118,255,0,1023,201,51,0,1,30] ?_
 refine vT [30] [32] [] U U (zKa (enc:=fun (d:State)=>.agg (zBn d)) (qs:=[.agg (zAZ (⟨0,[],[],[],[],0,[],0,0,0⟩:Node))]) zOT U U ⟨⟨_,U,(.agg ⟨.rfl,.rfl,.rfl,.rfl,.nil,.rfl,.nil,.rfl,.rfl,.rfl,trivial⟩)⟩,trivial⟩ (fun _=>U) call66 U U fun d _=>pzq U) (fun _=>U) (fun _=>U) fun d _=>?_
 refine vS [32] [34,35] [17] U U (pl ([d].map zBn) 17 U U U U U U (pyq U)) U U ?_
 refine vS [] [36] [] U U (zOy (T:=tab) U U U U U U U (pyq U)) U U ?_
 refine vT [36] [38] [] U U (zKa (enc:=fun (c:Line)=>.agg (zRP c)) (qs:=[.agg (zRP (⟨[],[],[],false⟩:Line))]) zPm U U ⟨⟨_,U,(.agg ⟨.nil,.nil,.nil,.rfl,trivial⟩)⟩,trivial⟩ (fun _=>U) call67 U U fun c _=>pzq U) (fun _=>U) (fun _=>U) fun c _=>?_
 refine A [201,55,1,2,40,42,4421] (fun f _=>?_) zKl [(5,2210)] [2210]
 refine vS [28,34,35,38,42,4421] [44] [] U U (zOy (T:=tab) U U U U U U U (pyq U)) U U ?_
 refine vS [] [16,17] [8] U U (zFf (T:=tab) 8 U U U U U U U U U (pyq U)) U U ?_
 refine A [50,5,1,16,17,35,44,4421,17,79,6,93] ?_
 refine zAV (j:=25) U ?_ ?_
 ·refine A [104,65,9,20,92] ?_
  refine zFz 4 [.sl 10 false ([].map zAZ),Z 0,.sl 4 false ([].map zBn),.sl 3 false ([].map zRM),.sl 2 false ([].map zJ1),Z 0,Y false,.sl 1 false ([].map zDD),.sl 1 false ([].map zA1),.sl 1 false ([].map zAB),Y false,.sl 3 false ([].map zJe),.sl 2 false ([].map zJd),.sl 5 false ([].map zCA)] U ⟨.nil,.rfl,.nil,.nil,.nil,.rfl,.rfl,.nil,.nil,.nil,.rfl,.nil,.nil,.nil,trivial⟩ U ?_
  exact rN
 ·refine A [1,33,17,33,2210] ?_
  refine zKa (enc:=fun (g:Bool)=>Y g) (qs:=[.agg (zBe (⟨e.1,[d],(⟨[],[],0,false⟩:Desk),c,[],[],f⟩:World))]) zKS U U ⟨⟨_,U,(.agg ⟨.rfl,.rfl,.rfl,.nil,.nil,.rfl,.rfl,.rfl,.rfl,.rfl,.rfl,.nil,.nil,.rfl,trivial⟩)⟩,trivial⟩ (fun _=>U) call10 U U fun g _=>?_
  refine A [2,0] ?_
  refine zAD U ?_ ?_
  ·refine A [9,20,92] ?_
   refine zFz 4 [.sl 10 false ([].map zAZ),Z 0,.sl 4 false ([].map zBn),.sl 3 false ([].map zRM),.sl 2 false ([].map zJ1),Z 0,Y false,.sl 1 false ([].map zDD),.sl 1 false ([].map zA1),.sl 1 false ([].map zAB),Y false,.sl 3 false ([].map zJe),.sl 2 false ([].map zJd),.sl 5 false ([].map zCA)] U ⟨.nil,.rfl,.nil,.nil,.nil,.rfl,.rfl,.nil,.nil,.nil,.rfl,.nil,.nil,.nil,trivial⟩ U ?_
   exact rN
  ·refine A [67,80,92] ?_
   refine zFz 4 [.sl 10 false (e.1.Nodes.map zAZ),Z e.1.Most,.sl 4 false ([d].map zBn),.sl 3 false ([].map zRM),.sl 2 false ([].map zJ1),Z 0,Y false,.sl 1 false (c.Todos.map zDD),.sl 1 false (c.Stack.map zA1),.sl 1 false (c.Back.map zAB),Y c.Busy,.sl 3 false ([].map zJe),.sl 2 false ([].map zJd),.sl 5 false (f.map zCA)] U ⟨.rfl,.rfl,.rfl,.nil,.nil,.rfl,.rfl,.rfl,.rfl,.rfl,.rfl,.nil,.nil,.rfl,trivial⟩ U ?_
   exact rN
def zG0 (fu:Nat):Option (List Bs):=bnd (zQf fu ([45,32,110,101,119,32,100,114,97,102,116,32,116,101,120,116,32,102,114,97,103,32,115,104,97,100,101,32,112,117,116,32,111,117,116,32,115,119,97,112,32,115,101,116,32,117,110,115,101,116,32,116,111,103,103,108,101,32,99,111,112,121,32,116,97,107,101,32,101,109,112,116,121,32,106,111,105,110,32,100,101,102,105,110,101,32,119,97,105,116,32,117,112,103,114,97,100,101,32,98,117,105,108,100,32,115,117,112,101,114,32,103,105,118,101,32,116,104,114,111,119,32,114,101,115,101,116,32,114,101,115,116,111,114,101,32,114,101,115,116,32,104,97,110,100,112,117,116,32,104,97,110,100,111,117,116,32,104,97,110,100,115,101,116]:Bs)) fun a=>some a
theorem zWS {fu:Nat}:DD (zG0 fu) 151 [] fun r=>.sl 1 false (r.map zSK):=by
 refine fcI Tryz.func151 U (A [58,9] ?_)
 exact pk (zVQ fu ([45,32,110,101,119,32,100,114,97,102,116,32,116,101,120,116,32,102,114,97,103,32,115,104,97,100,101,32,112,117,116,32,111,117,116,32,115,119,97,112,32,115,101,116,32,117,110,115,101,116,32,116,111,103,103,108,101,32,99,111,112,121,32,116,97,107,101,32,101,109,112,116,121,32,106,111,105,110,32,100,101,102,105,110,101,32,119,97,105,116,32,117,112,103,114,97,100,101,32,98,117,105,108,100,32,115,117,112,101,114,32,103,105,118,101,32,116,104,114,111,119,32,114,101,115,101,116,32,114,101,115,116,111,114,101,32,114,101,115,116,32,104,97,110,100,112,117,116,32,104,97,110,100,111,117,116,32,104,97,110,100,115,101,116]:Bs)) U U fun a _=>A [57,8]
def zEI (fu:Nat) (a:Int):Option Bs:=bnd (zG0 fu) fun b=>cnd (decide (a>0)) (cnd (decide (a<(b.length:Int))) (bnd (idx b a) fun c=>some c) (some [])) (some [])
theorem zEr {fu:Nat} {a:Int}:DD (zEI fu a) 89 [Z a] fun r=>O r:=by
 refine fcI Tryz.func89 U (A [75,9] ?_)
 refine zKa (enc:=fun (b:(List Bs))=>.sl 1 false (b.map zSK)) (qs:=[]) zWS U U trivial (fun _=>U) zfp U U fun b _=>A [57,93,27,7,5,105,11,24,67,59,2,35,2,0,10,2,67,59,61,36] fun c _=>?_
 exact A [2,74]
def zIT (fu:Nat) (a:Int) (d:Bool):Option (zCz×Bool):=cnd d (bnd (zEI fu a) fun c=>some ((⟨c,[46,46,46,46,46]⟩:zCz),true)) (bnd (zEI fu a) fun b=>cnd (decide (a>0)) (some ((⟨b,[110,46,46,46,46]⟩:zCz),(decide (a<=28)))) (some ((⟨b,[110,46,46,46,46]⟩:zCz),false)))
def zIS (fu:Nat) (a:Int) (i:Bool):Option (zCz×Bool):=cnd i (bnd (zEI fu a) fun f=>some ((⟨f,[110,110,111,46,46]⟩:zCz),true)) (cnd (a==11) (bnd (zEI fu a) fun g=>some ((⟨g,[110,105,46,115,46]⟩:zCz),true)) (cnd (a==12) (bnd (zEI fu a) fun h=>some ((⟨h,[110,105,110,46,46]⟩:zCz),true)) (cnd (a==13) (bnd (zEI fu a) fun b=>some ((⟨b,[110,110,46,46,46]⟩:zCz),true)) (cnd (a==16) (bnd (zEI fu a) fun c=>some ((⟨c,[105,46,46,115,115]⟩:zCz),true)) (cnd (a==17) (bnd (zEI fu a) fun d=>some ((⟨d,[46,46,46,115,46]⟩:zCz),true)) (cnd (a==19) (bnd (zEI fu a) fun e=>some ((⟨e,[105,46,46,46,46]⟩:zCz),true)) (cnd (a==20) ((zIT fu a) (a==20)) (cnd (a==22) ((zIT fu a) (a==22)) ((zIT fu a) (a==25))))))))))
def zIR (fu:Nat) (a:Int) (c:Bool):Option (zCz×Bool):=cnd c (bnd (zEI fu a) fun b=>some ((⟨b,[110,46,46,115,46]⟩:zCz),true)) (cnd (a==6) ((zIS fu a) (a==6)) (cnd (a==8) ((zIS fu a) (a==8)) ((zIS fu a) (a==26))))
def zGz (fu:Nat) (a:Int) (t2:Bool):Option (zCz×Bool):=cnd t2 (bnd (zEI fu a) fun b=>some ((⟨b,[110,46,46,115,115]⟩:zCz),true)) (cnd (a==3) ((zIR fu a) (a==3)) (cnd (a==10) ((zIR fu a) (a==10)) ((zIR fu a) (a==24))))
def zJT (fu:Nat) (a:Int):Option (zCz×Bool):=cnd (a==1) ((zGz fu a) (a==1)) (cnd (a==2) ((zGz fu a) (a==2)) (cnd (a==9) ((zGz fu a) (a==9)) ((zGz fu a) (a==28))))
end Go.Proofs.YtmfbghpealgaiaaGreatDoor
