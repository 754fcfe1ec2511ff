/- Models and proofs, printed by emit2.py. -/
import Derived.Test.YtmfbghpealgaiaaGreatDoorData
namespace Go.Proofs.YtmfbghpealgaiaaGreatDoor
open Go Go.Pw
open List renaming map_eq_nil_iff->eZ
set_option maxRecDepth 100000
set_option maxHeartbeats 10000000
set_option linter.unusedVariables false
def zJb (_fu:Nat) (a b:Int):Option Node:=some (⟨a,[],[],[],[],(-1),[],(-1),(-1),b⟩:Node)
theorem zN2 {fu:Nat} {a b:Int}:DD (zJb fu a b) 112 [Z a,Z b] fun r=>.agg (zAZ r):=by
 refine fcI Tryz.func112 U (A [9,31,4,0,61,20,12,0] ?_)
 exact zGM 4 [Z a,O [],O [],O [],.sl 2 false ([].map zDh),Z (-1),.sl 1 false ([].map zAB),Z (-1),Z (-1),Z b] U ⟨.rfl,.rfl,.rfl,.rfl,.nil,.rfl,.nil,.rfl,.rfl,.rfl,trivial⟩ U rN
def zF7 (_fu:Nat) (a:Int):Option Bool:=cnd (decide (a>=97)) (some (decide (a<=122))) (some false)
theorem zLp {fu:Nat} {a:Int}:DD (zF7 fu a) 173 [.v (.int .i32 a)] fun r=>Y r:=by
 exact fcI Tryz.func173 U (A [58,93,26,5,2,104,74,104,74])
def zBu (_fu:Nat) (a:Int):Option Bool:=cnd (decide (a>=65)) (some (decide (a<=90))) (some false)
theorem zHl {fu:Nat} {a:Int}:DD (zBu fu a) 168 [.v (.int .i32 a)] fun r=>Y r:=by
 exact fcI Tryz.func168 U (A [58,93,26,5,2,104,74,104,74])
def zHL (a:Int) (b:Unit):Option Bool:=cnd (a==45) (some true) (cnd (a==95) (some true) (some (a==46)))
def zII (fu:Nat) (a:Int):Option Bool:=bnd (zF7 fu a) fun b=>cnd b (cnd b (some true) ((zHL a) ())) (bnd (zBu fu a) fun c=>cnd c (cnd c (some true) ((zHL a) ())) (cnd (decide (a>=48)) (cnd (decide (a<=57)) (some true) ((zHL a) ())) ((zHL a) ())))
theorem zVf {fu:Nat} {b:Int}:DD (zII fu b) 240 [.v (.int .i32 b)] fun r=>Y r:=by
 refine fcI Tryz.func240 U (A [75] ?_)
 refine jw (zHL b) [0] [] (fun _=>[]) (fun _=>[]) U U ?_ fun a=>?_
 ·rintro _
  exact A [7,93,26,16,2,108,74,104,26,20,2,104,74,104,74]
 ·refine A [13,6,80,41] (fun c _=>?_) zLp
  refine A [57] ?_
  refine zAF U ?_ ?_
  ·exact A [67,5,1,59,4,15,45] (a ())
  ·refine A [80,41] (fun d _=>?_) zHl
   refine A [57] ?_
   refine zAF U ?_ ?_
   ·exact A [67,5,1,59,4,15,45] (a ())
   ·refine A [14,3] ?_
    refine zAY (j:=10) U ?_ ?_
    ·exact A [104,0,5,1,59,4,15,45] (a ())
    ·exact A [104,0,23,4,15,45] (a ())
def zDo (fu:Nat) (a:Int):Option Bool:=bnd (zII fu a) fun b=>some (!b)
theorem zRt {fu:Nat} {a:Int}:DD (zDo fu a) 239 [.v (.int .i32 a)] fun r=>Y r:=by
 refine fcI Tryz.func239 U (A [58,80,41] (fun b _=>?_) zVf)
 exact A [2,74]
def zBA (c:Int->Option Bool) (b:Bs) (a:Bool):Nat->Nat->Option Int
 | 0,_=>none
 | k1+1,p3=>cnd (decide (p3<b.length)) (bnd (c (zOU b p3)) fun d=>cnd (d==a) (some ((p3:Nat):Int)) ((zBA c b a k1) (p3+zM0 b p3))) (some (-1))
def zFa (fu:Nat) (c:Int->Option Bool) (b:Bs) (a:Bool):Option Int:=(zBA c b a) fu 0
theorem zNo {fu:Nat} {b:Bs} {a:Bool}:DD (zFa fu (fun d=>zDo fu d) b a) 276 [O b,.fn (.func 239) [] [],Y a] fun r=>Z r:=by
 refine fcI Tryz.func276 U (A [75,80] ?_)
 refine zZN (T:=tab) 10 U U U U U U U U U (A [0,13] ?_)
 refine lw (zBA (fun d=>zDo fu d) b a) [1,2,10] [] (fun _=>[]) (fun c=>[(10,.siter ⟨⟨b⟩⟩ c)]) fu 0 U U ?_
 rintro e c
 refine sr (zcx 10 U U U U U U U ?_ ?_)
 ·refine A [57,6,25,67,13,76,0,61,44] (fun f _=>?_) zRt []
  exact A [2,0,5,2,62,8,4,15,46] (tx (c+zM0 b c))
 ·exact A [57,6,23,86,59]
def zFZ (fu:Nat) (c:Int->Option Bool) (b:Bs):Option Int:=bnd (zFa fu c b true) fun a=>some a
theorem zNn {fu:Nat} {a:Bs}:DD (zFZ fu (fun b=>zDo fu b) a) 241 [O a,.fn (.func 239) [] []] fun r=>Z r:=by
 refine fcI Tryz.func241 U (A [58,99] (fun c _=>?_) zNo)
 exact A [57,8]
def zCA (fu:Nat) (c:Int->Option Bool) (b:Bs):Option Bool:=bnd (zFZ fu c b) fun a=>some (decide (a>=0))
theorem zLx {fu:Nat} {a:Bs}:DD (zCA fu (fun b=>zDo fu b) a) 174 [O a,.fn (.func 239) [] []] fun r=>Y r:=by
 refine fcI Tryz.func174 U (A [58,99] (fun c _=>?_) zNn)
 exact A [2,74]
def zIp (fu:Nat) (a:Bs):Option Bool:=cnd (decide ((a.length:Int)<1)) (some false) (cnd (decide ((a.length:Int)>40)) (some false) (bnd (zCA fu (fun g=>zDo fu g) a) fun d=>cnd d (some false) (bnd (chr a 0) fun c=>bnd (rng .i32 c) fun b=>bnd (zF7 fu b) fun e=>cnd e (some true) (bnd (zBu fu b) fun f=>cnd f (some true) (some (b==95))))))
theorem zOq {fu:Nat} {a:Bs}:DD (zIp fu a) 172 [O a] fun r=>Y r:=by
 refine fcI Tryz.func172 U (A [75,76,26,7,2,108,83,105,26,12,2,3,83,1,41] (fun d _=>?_) zLx)
 refine A [57,5,1,59,67,80] ?_
 refine zOB (T:=tab) (s:=a) U U U U U U U fun b _=>A [16] fun c _=>?_
 refine A [57,80,41] (fun e _=>?_) zLp
 refine A [1,26,21,2,108,74,1,41] (fun f _=>?_) zHl
 exact A [2,26,25,2,104,74,104,74]
def zFV (fu:Nat) (c:Bs):Nat->Int×(List Int)->Option Bs
 | 0,_=>none
 | k1+1,(t2,l3)=>cnd (decide (t2<((zEN c).length:Int))) (bnd (idx l3 t2) fun d=>bnd (rng .i32 d) fun e=>bnd (zBu fu e) fun h=>cnd h (bnd (rng .u8 (d - 65)) fun f=>bnd (rng .u8 (f+97)) fun g=>bnd (idx l3 t2) fun i=>bnd (rng .i64 (t2+1)) fun a=>(zFV fu c k1) (a,(l3.set (t2).toNat g))) (bnd (rng .i64 (t2+1)) fun b=>(zFV fu c k1) (b,l3))) (some (zWy l3))
def zDp (fu:Nat) (a:Bs):Option Bs:=bnd (zDb 1 a.length) fun _=>(zFV fu a) fu (0,(zEN a))
theorem zHk {fu:Nat} {b:Bs}:DD (zDp fu b) 103 [O b] fun r=>O r:=by
 refine fcI Tryz.func103 U (A [58,80] ?_)
 refine ze9 (T:=tab) zR6 7 (fun _=>U) U U U U U U U U U U U U (A [57,6,80,39,57,13] ?_)
 refine lw (zFV fu b) [3,8,9] [] (fun (c,a)=>[(10,Z c)]) (fun (c,a)=>[(7,.arr 1000005 1 (a.map zR6))]) fu (0,(zEN b)) U U ?_
 rintro m ⟨c,a⟩
 refine A [75] ?_
 refine zAF U ?_ ?_
 ·refine A [72,80,38] fun i d=>?_
  refine zAx (T:=tab) zR6 a i (zA0 d) U U U U U U U U (A [2,0,80,16] fun k _=>?_)
  refine pk zHl U U fun n _=>ns (zAF U ?_ ?_)
  ·refine A [14,3,16] fun l _=>?_
   refine A [16] fun h _=>?_
   refine A [38] fun j e=>?_
   refine zCw (T:=tab) zR6 a j h (zA0 e) U U U U U U U U U U U U U (A [11,94] fun f _=>?_)
   exact A [89] (tx (f,(a.set (c).toNat h)))
  ·refine A [4,94] fun g _=>?_
   exact A [89] (tx (g,a))
 ·refine A [86,80] ?_
  exact po_str (T:=tab) zR6 a (fun _=>U) U U U U U U U U U (A [57,8])
def zGS (fu:Nat) (a:Bs):Option (Bs×Int):=bnd (zIp fu a) fun b=>cnd (!b) (some ([],4)) (bnd (zDp fu a) fun c=>some (c,0))
theorem zIH {fu:Nat} {a:Bs}:DD (zGS fu a) 166 [O a] fun r=>.tup [O r.1,Z r.2]:=by
 refine fcI Tryz.func166 U (A [62,6,80,41] (fun b _=>?_) zOq)
 refine A [57,5,2,62,8,67,80,41] (fun c _=>?_) zHk
 exact A [2,74]
def zEo (fu:Nat) (a:Attr):Option Bool:=bnd (zGS fu a.Name) fun b=>cnd (b.2 != 0) (some true) (cnd (!(b.1==a.Name)) (some true) (some (decide ((a.Value.length:Int)>200))))
theorem zRf {fu:Nat} {a:Attr}:DD (zEo fu a) 233 [.agg (zDh a)] fun r=>Y r:=by
 refine fcI Tryz.func233 U (A [9,30,1,57,99] (fun b _=>?_) zIH)
 exact A [105,0,93,26,13,2,112,74,106,26,19,2,106,74,106,74]
def zAa (b:Attr->Option Bool) (a:List Attr):Nat->Int->Option Int
 | 0,_=>none
 | k1+1,t2=>cnd (decide (t2<(a.length:Int))) (bnd (idx a t2) fun e=>bnd (b e) fun d=>cnd d (some t2) (bnd (rng .i64 (t2+1)) fun c=>(zAa b a k1) c)) (some (-1))
def zBO (fu:Nat) (b:Attr->Option Bool) (a:List Attr):Option Int:=(zAa b a) fu 0
theorem zJz {fu:Nat} {a:List Attr}:DD (zBO fu (fun b=>zEo fu b) a) 236 [.sl 2 false (a.map zDh),.fn (.func 233) [] []] fun r=>Z r:=by
 refine fcI Tryz.func236 U (A [75,80,77,13] ?_)
 refine lw (zAa (fun b=>zEo fu b) a) [0,1,7] [] (fun c=>[(8,Z c)]) (fun _=>[]) fu 0 U U ?_
 rintro e c
 refine A [75,10,2,86,59,72,62,93,36] fun g _=>?_
 refine A [1,44] (fun f _=>?_) zRf []
 refine A [0,5,2,62,8,4,94] fun d _=>?_
 exact A [89] (tx d)
def zCG (fu:Nat) (c:Attr->Option Bool) (b:List Attr):Option Bool:=bnd (zBO fu c b) fun a=>some (decide (a>=0))
theorem zIy {fu:Nat} {a:List Attr}:DD (zCG fu (fun b=>zEo fu b) a) 234 [.sl 2 false (a.map zDh),.fn (.func 233) [] []] fun r=>Y r:=by
 refine fcI Tryz.func234 U (A [58,99] (fun c _=>?_) zJz)
 exact A [2,74]
def zGQ (l1:List Attr):Nat->Int×(List (Bs×Attr))->Option (List (Bs×Attr))
 | 0,_=>none
 | k1+1,(t2,l3)=>cnd (decide (t2<(l1.length:Int))) (bnd (idx l1 t2) fun a=>bnd (rng .i64 (t2+1)) fun b=>(zGQ l1 k1) (b,(zHV l3 a.Name a))) (some l3)
def zKW (fu:Nat) (l1:List Attr):Option (List (Bs×Attr)):=(zGQ l1) fu (0,([]:(List (Bs×Attr))))
theorem zUD {fu:Nat} {l1:List Attr}:FF (zKW fu l1) 235 [.sl 2 false (l1.map zDh)] [] [] (fun _=>.own 6) fun r=>[(6,.mp (r.map fun p:Bs×Attr=>(zNu p.1,.agg (zDh p.2))))]:=by
 refine fcI Tryz.func235 U (A [58,9] ?_)
 refine zIV 6 U U U U U U U (A [57,6,80,77,13] ?_)
 refine lw (zGQ l1) [3,7,8] [] (fun (c,a)=>[(9,Z c)]) (fun (c,a)=>[(6,.mp (a.map fun p:Bs×Attr=>(zNu p.1,.agg (zDh p.2))))]) fu (0,([]:(List (Bs×Attr)))) U U ?_
 rintro e ⟨c,a⟩
 refine A [75,10,3,86,62,8,72,9,36] fun b _=>?_
 refine A [1,31,5,12,0,14,104] ?_
 refine zGL zJi (fun v=>.agg (zDh v)) a b.Name b Tryz.underlying329 Tryz.underlying9 U U U U U U U U U (A [11,94] fun d _=>?_)
 exact A [89] (tx (d,(zHV a b.Name b)))
def zHI (fu:Nat) (l1:List Attr):Option Bool:=cnd (decide ((l1.length:Int)<=40)) (bnd (zCG fu (fun c=>zEo fu c) l1) fun a=>cnd (!a) (bnd (zKW fu l1) fun b=>some ((b.length:Int)==(l1.length:Int))) (some false)) (some false)
theorem zLl {fu:Nat} {l1:List Attr}:DD (zHI fu l1) 165 [.sl 2 false (l1.map zDh)] fun r=>Y r:=by
 refine fcI Tryz.func165 U (A [58,58,80,35,2,27,7,2,114,74,2,41] (fun b _=>?_) zIy)
 refine A [3,27,13,2,108,74,1,43] (fun a _=>?_) zUD [(6,2150)] [2150]
 exact zQB (zNu) (fun v=>.agg (zDh v)) a Tryz.underlying329 U U U U U U U U (A [1,35,3,74])
theorem zLz {fu:Nat} {b:Bs} {a:Bool}:DD (zFa fu (fun d=>zBu fu d) b a) 276 [O b,.fn (.func 168) [] [],Y a] fun r=>Z r:=by
 refine fcI Tryz.func276 U (A [75,80] ?_)
 refine zZN (T:=tab) 10 U U U U U U U U U (A [0,13] ?_)
 refine lw (zBA (fun d=>zBu fu d) b a) [1,2,10] [] (fun _=>[]) (fun c=>[(10,.siter ⟨⟨b⟩⟩ c)]) fu 0 U U ?_
 rintro e c
 refine sr (zcx 10 U U U U U U U ?_ ?_)
 ·refine A [57,6,25,67,13,76,0,61,44] (fun f _=>?_) zHl []
  exact A [2,0,5,2,62,8,4,15,46] (tx (c+zM0 b c))
 ·exact A [57,6,23,86,59]
theorem zLy {fu:Nat} {a:Bs}:DD (zFZ fu (fun b=>zBu fu b) a) 241 [O a,.fn (.func 168) [] []] fun r=>Z r:=by
 refine fcI Tryz.func241 U (A [58,99] (fun c _=>?_) zLz)
 exact A [57,8]
theorem zKT {fu:Nat} {a:Bs}:DD (zCA fu (fun b=>zBu fu b) a) 174 [O a,.fn (.func 168) [] []] fun r=>Y r:=by
 refine fcI Tryz.func174 U (A [58,99] (fun c _=>?_) zLy)
 exact A [2,74]
def zJ4 (fu:Nat) (c a:Bs):Option Int:=bnd (zUq fu c a) fun b=>some b
theorem zQz {fu:Nat} {b a:Bs}:DD (zJ4 fu b a) 152 [O b,O a] fun r=>Z r:=by
 refine fcI Tryz.func152 U (A [58,61] ?_)
 exact pk (zcF fu b a) U U fun c _=>A [57,8]
def zEd (fu:Nat) (c a:Bs):Option Bool:=bnd (zJ4 fu c a) fun b=>some (decide (b>=0))
theorem zJ3 {fu:Nat} {b a:Bs}:DD (zEd fu b a) 90 [O b,O a] fun r=>Y r:=by
 refine fcI Tryz.func90 U (A [58,99] (fun c _=>?_) zQz)
 exact A [2,74]
def zJv (_fu:Nat):Option (List Bs):=some [[97,110,110,111,116,97,116,105,111,110,45,120,109,108],[99,111,108,111,114,45,112,114,111,102,105,108,101],[102,111,110,116,45,102,97,99,101],[102,111,110,116,45,102,97,99,101,45,115,114,99],[102,111,110,116,45,102,97,99,101,45,117,114,105],[102,111,110,116,45,102,97,99,101,45,102,111,114,109,97,116],[102,111,110,116,45,102,97,99,101,45,110,97,109,101],[109,105,115,115,105,110,103,45,103,108,121,112,104]]
theorem zQw {fu:Nat}:DD (zJv fu) 176 [] fun r=>.sl 1 false (r.map zRM):=by
 refine fcI Tryz.func176 U (A [58,9] ?_)
 exact pl ([[97,110,110,111,116,97,116,105,111,110,45,120,109,108],[99,111,108,111,114,45,112,114,111,102,105,108,101],[102,111,110,116,45,102,97,99,101],[102,111,110,116,45,102,97,99,101,45,115,114,99],[102,111,110,116,45,102,97,99,101,45,117,114,105],[102,111,110,116,45,102,97,99,101,45,102,111,114,109,97,116],[102,111,110,116,45,102,97,99,101,45,110,97,109,101],[109,105,115,115,105,110,103,45,103,108,121,112,104]].map zRM) 1 U U U U U U (A [57,34,1,8])
def zB9 (a:List Bs) (b:Bs):Nat->Int->Option Int
 | 0,_=>none
 | k1+1,t3=>cnd (decide (t3<(a.length:Int))) (bnd (idx a t3) fun d=>cnd (b==d) (some t3) (bnd (rng .i64 (t3+1)) fun c=>(zB9 a b k1) c)) (some (-1))
def zGA (fu:Nat) (a:List Bs) (b:Bs):Option Int:=(zB9 a b) fu 0
theorem zMX {fu:Nat} {a:List Bs} {b:Bs}:DD (zGA fu a b) 242 [.sl 1 false (a.map zRM),O b] fun r=>Z r:=by
 refine fcI Tryz.func242 U (A [75,80,77,13] ?_)
 refine lw (zB9 a b) [0,1,7] [] (fun c=>[(8,Z c)]) (fun _=>[]) fu 0 U U ?_
 rintro e c
 refine A [75,10,2,86,59,72,62,93,36] fun f _=>?_
 refine A [2,0,5,2,62,8,4,94] fun d _=>?_
 exact A [89] (tx d)
def zBD (fu:Nat) (b:List Bs) (c:Bs):Option Bool:=bnd (zGA fu b c) fun a=>some (decide (a>=0))
theorem zDF {fu:Nat} {a:List Bs} {b:Bs}:DD (zBD fu a b) 175 [.sl 1 false (a.map zRM),O b] fun r=>Y r:=by
 refine fcI Tryz.func175 U (A [58,99] (fun c _=>?_) zMX)
 exact A [2,74]
def zDE (fu:Nat) (a:Bs):Option Bool:=bnd (zIp fu a) fun d=>cnd d (bnd (chr a 0) fun b=>bnd (rng .i32 b) fun c=>bnd (zF7 fu c) fun e=>cnd e (bnd (zCA fu (fun j=>zBu fu j) a) fun f=>cnd (!f) (bnd (zEd fu a [45]) fun g=>cnd g (bnd (zJv fu) fun h=>bnd (zBD fu h a) fun i=>some (!i)) (some false)) (some false)) (some false)) (some false)
theorem zEt {fu:Nat} {a:Bs}:DD (zDE fu a) 109 [O a] fun r=>Y r:=by
 refine fcI Tryz.func109 U (A [58,80,41] (fun e _=>?_) zOq)
 refine A [1,27,5,2,121,74,1] ?_
 refine zOB (T:=tab) (s:=a) U U U U U U U fun c _=>A [16] fun d _=>?_
 refine pk zLp U U fun f _=>A [2,27,11,2,115,74,1,41] (fun g _=>?_) zKT
 refine A [3,27,16,2,110,74,1,41] (fun h _=>?_) zJ3
 refine A [2,27,20,2,106,74] ?_
 refine zK3 (enc:=fun (b:(List Bs))=>.sl 1 false (b.map zRM)) (qs:=[]) zQw U U trivial (fun _=>U) zgu U U fun b _=>A [1,41] (fun i _=>?_) zDF
 exact A [3,74]
def zD1 (a:Node) (b:Bs):Option Bool:=cnd (a.Name==([]:Bs)) (cnd (a.Is==([]:Bs)) (cnd (b==([]:Bs)) (some ((a.Attrs.length:Int)==0)) (some false)) (some false)) (some false)
def zGt (fu:Nat) (a:Node):Option Bool:=cnd (a.Kind==1) (bnd (zGS fu a.Name) fun b=>cnd (b.2==0) (cnd (b.1==a.Name) (cnd (a.Is==([]:Bs)) (cnd (a.Data==([]:Bs)) (bnd (zHI fu a.Attrs) fun c=>some c) (some false)) (bnd (zDE fu a.Is) fun d=>cnd d (cnd (a.Data==([]:Bs)) (bnd (zHI fu a.Attrs) fun e=>some e) (some false)) (some false))) (some false)) (some false)) (cnd (a.Kind==2) (cnd (decide ((a.Data.length:Int)>200)) (some false) ((zD1 a) [])) (cnd (a.Kind==0) (cnd (a.Kind==0) ((zD1 a) a.Data) (some false)) (cnd (a.Kind==3) (cnd (a.Kind==3) ((zD1 a) a.Data) (some false)) (cnd (a.Kind==4) ((zD1 a) a.Data) (some false)))))
theorem zMk {fu:Nat} {a:Node}:DD (zGt fu a) 186 [.agg (zAZ a)] fun r=>Y r:=by
 refine fcI Tryz.func186 U (A [9,30,1,57,6,62,13,6] ?_)
 refine jw (zD1 a) [1] [] (fun _=>[]) (fun c=>[(1,.box 77 [Z a.Kind,O a.Name,O a.Is,O c,.sl 2 false (a.Attrs.map zDh),Z a.Parent,.sl 1 false (a.Kids.map zAB),Z a.Host,Z a.Under,Z a.Doc])]) U U ?_ fun b=>?_
 ·rintro c
  exact A [7,6,76,26,57,16,105,26,62,10,105,26,67,4,2,35,3,74,106,74,111,74,116,74]
 ·refine A [13,6,13,6,13,6,6,62] ?_
  refine zAF U ?_ ?_
  ·refine A [86,6,99] (fun d _=>?_) zIH
   refine A [105,0,93,27,23,2,126,74,106,27,29,2,120,74,104] ?_
   refine zAY (j:=33) U ?_ ?_
   ·refine A [111,27,44,2,105,74,2,41] (fun e _=>?_) zLl
    exact A [2,74]
   ·refine A [2,41] (fun f _=>?_) zEt
    refine A [3,27,39,2,110,74,105,27,44,2,105,74,2,41] (fun g _=>?_) zLl
    exact A [2,74]
  ·refine A [68,62] ?_
   refine zAF U ?_ ?_
   ·exact A [86,6,76,0,5,1,59,67,14,1,12,11,15,45] (b [])
   ·refine A [68,62] ?_
    refine zAF U ?_ ?_
    ·exact A [67,10,3,67,86,59,17,45] (b a.Data)
    ·refine A [62] ?_
     refine zAF U ?_ ?_
     ·exact A [67,10,3,67,86,59,17,45] (b a.Data)
     ·exact A [14,2,0,10,3,67,86,59,17,45] (b a.Data)
def zCK (_fu:Nat) (b:zAR) (a:Int):Option Bool:=cnd (decide (a>=0)) (some (decide (a<(b.Forest.Nodes.length:Int)))) (some false)
theorem zEz {fu:Nat} {b:zAR} {a:Int}:DD (zCK fu b a) 246 [.agg (zEl b),Z a] fun r=>Y r:=by
 exact fcI Tryz.func246 U (A [73,57,93,26,7,4,104,35,3,74,108,74])
def zDU (fu:Nat) (c:zAR) (b a:Int):Option Bool:=bnd (zCK fu c b) fun d=>cnd d (bnd (idx c.Forest.Nodes b) fun e=>some (e.Kind==a)) (some false)
theorem zGR {fu:Nat} {c:zAR} {b a:Int}:DD (zDU fu c b a) 245 [.agg (zEl c),Z b,Z a] fun r=>Y r:=by
 refine fcI Tryz.func245 U (A [9,30,3,57,99] (fun d _=>?_) zEz)
 refine A [1,27,10,2,111,74,104,36] fun e _=>?_
 exact A [106,74]
def zFK (fu:Nat) (c:zAR) (b:Int):Option Bool:=bnd (idx c.Forest.Nodes b) fun a=>bnd (zDU fu c a.Doc 0) fun d=>cnd d (cnd (a.Kind != 0) (some true) (some (a.Doc==b))) (some false)
theorem zNb {fu:Nat} {b:zAR} {a:Int}:DD (zFK fu b a) 187 [.agg (zEl b),Z a] fun r=>Y r:=by
 refine fcI Tryz.func187 U (A [73,57,76,36] fun d _=>?_)
 refine A [1,31,5,12,0,93,41] (fun c _=>?_) zGR
 exact A [1,26,16,8,104,26,20,2,107,74,107,74,111,74]
def zF5 (_fu:Nat) (a:Int):Option Bool:=cnd (a==0) (cnd (a==0) (some true) (some false)) (cnd (a==1) (cnd (a==1) (some true) (some false)) (cnd (a==3) (cnd (a==3) (some true) (some false)) (cnd (a==4) (some true) (some false))))
theorem zML {fu:Nat} {a:Int}:DD (zF5 fu a) 247 [Z a] fun r=>Y r:=by
 exact fcI Tryz.func247 U (A [75,58,13,6,62,5,7,67,5,1,59,4,69,59,62,5,7,67,5,1,59,4,69,59,62,5,7,67,5,1,59,4,69,59,14,2,0,5,1,59,4,69,59])
def zBS (a:List Int) (b:Int):Nat->Int->Option Int
 | 0,_=>none
 | k1+1,t3=>cnd (decide (t3<(a.length:Int))) (bnd (idx a t3) fun d=>cnd (b==d) (some t3) (bnd (rng .i64 (t3+1)) fun c=>(zBS a b k1) c)) (some (-1))
def zCh (fu:Nat) (a:List Int) (b:Int):Option Int:=(zBS a b) fu 0
theorem zHD {fu:Nat} {a:List Int} {b:Int}:DD (zCh fu a b) 97 [.sl 1 false (a.map zAB),Z b] fun r=>Z r:=by
 refine fcI Tryz.func97 U (A [75,80,77,13] ?_)
 refine lw (zBS a b) [0,1,7] [] (fun c=>[(8,Z c)]) (fun _=>[]) fu 0 U U ?_
 rintro e c
 refine A [75,10,2,86,59,72,62,93,36] fun f _=>?_
 refine A [2,0,5,2,62,8,4,94] fun d _=>?_
 exact A [89] (tx d)
def zEc (fu:Nat) (b:List Int) (c:Int):Option Bool:=bnd (zCh fu b c) fun a=>some (decide (a>=0))
theorem zMW {fu:Nat} {a:List Int} {b:Int}:DD (zEc fu a b) 248 [.sl 1 false (a.map zAB),Z b] fun r=>Y r:=by
 refine fcI Tryz.func248 U (A [58,99] (fun c _=>?_) zHD)
 exact A [2,74]
def zD2 (fu:Nat) (b:zAR) (d:Int) (c:Node) (a:Bool):Option Bool:=cnd a (bnd (zCK fu b c.Parent) fun e=>cnd e (bnd (idx b.Forest.Nodes c.Parent) fun h=>bnd (zF5 fu h.Kind) fun f=>cnd f (bnd (idx b.Forest.Nodes c.Parent) fun i=>bnd (zEc fu i.Kids d) fun g=>some g) (some false)) (some false)) (some false)
def zFt (fu:Nat) (c:zAR) (b:Int):Option Bool:=bnd (idx c.Forest.Nodes b) fun a=>cnd (a.Parent==(-1)) (some true) (cnd (a.Kind==1) ((zD2 fu c b a) true) ((zD2 fu c b a) (a.Kind==2)))
theorem zOG {fu:Nat} {d:zAR} {c:Int}:DD (zFt fu d c) 188 [.agg (zEl d),Z c] fun r=>Y r:=by
 refine fcI Tryz.func188 U (A [73,57,76,36] fun e _=>?_)
 refine A [1,31,5,12,0,6,93,0,5,1,59,67,9] ?_
 refine zNU (zD2 fu d c e) (fun (a:Bool)=>[(1,Z c),(2,.loc 2 0),(5,.loc 5 0),(6,Y a)]) (fun (a:Bool)=>[(5,.box 77 (zAZ e)),(2,.box 215 (zAE d.Forest))]) ?_ fun b=>?_
 ·rintro a
  refine A [7,61,27,25,2,129,74,3,41] (fun f _=>?_) zEz
  refine A [2,27,31,2,123,74,105,36] fun i _=>?_
  refine A [2,41] (fun g _=>?_) zML
  refine A [2,27,42,2,112,74,105,36] fun k _=>?_
  refine A [3,41] (fun h _=>?_) zMW
  exact A [2,74]
 ·refine pq 4 U (zAY (j:=19) U ?_ ?_)
  ·exact A [105,11,45] (b true)
  ·exact A [105,11,45] (b (e.Kind==2))
def zAv (fu:Nat) (c:zAR) (i:Int) (a:Node):Nat->Int×Int×(List (Int×Int))->Option Bool
 | 0,_=>none
 | k1+1,(elems4,t5,l6)=>cnd (decide (t5<(a.Kids.length:Int))) (bnd (idx a.Kids t5) fun b=>bnd (zCK fu c b) fun l=>cnd (!l) (some false) (cnd (decide ((zLi l6 b 0)>0)) (some false) (bnd (idx c.Forest.Nodes b) fun m=>cnd (m.Parent != i) (some false) (bnd (idx c.Forest.Nodes b) fun k=>cnd (k.Doc != a.Doc) (some false) (bnd (rng .i64 ((zLi l6 b 0)+1)) fun d=>bnd (idx c.Forest.Nodes b) fun e=>cnd (e.Kind==1) (bnd (rng .i64 (elems4+1)) fun f=>bnd (rng .i64 (t5+1)) fun g=>(zAv fu c i a k1) (f,g,(zHV l6 b d))) (cnd (e.Kind==2) (cnd (a.Kind==0) (some false) (bnd (rng .i64 (t5+1)) fun h=>(zAv fu c i a k1) (elems4,h,(zHV l6 b d)))) (some false))))))) (bnd (zF5 fu a.Kind) fun j=>cnd j (cnd (a.Kind != 0) (some true) (some (decide (elems4<=1)))) (cnd ((a.Kids.length:Int)==0) (cnd (a.Kind != 0) (some true) (some (decide (elems4<=1)))) (some false)))
def zFJ (fu:Nat) (b:zAR) (a:Int):Option Bool:=bnd (idx b.Forest.Nodes a) fun c=>(zAv fu b a c) fu (0,0,([]:(List (Int×Int))))
theorem zNa {fu:Nat} {d:zAR} {i:Int}:DD (zFJ fu d i) 189 [.agg (zEl d),Z i] fun r=>Y r:=by
 refine fcI Tryz.func189 U (A [73,57,76,36] fun n _=>?_)
 refine A [1,31,5,12,0,9] ?_
 refine zIV 16 U U U U U U U (A [57,75,61,77,13] ?_)
 refine lw (zAv fu d i n) [1,2,5,6,18,19] [5,2] (fun (a,j,b)=>[(7,Z a),(20,Z j)]) (fun (a,j,b)=>[(16,.mp (b.map fun p:Int×Int=>(zOm .i64 p.1,Z p.2)))]) fu (0,0,([]:(List (Int×Int)))) U U ?_
 rintro q ⟨a,j,b⟩
 refine A [75] ?_
 refine zAF U ?_ ?_
 ·refine A [72,9,36] fun e _=>?_
  refine A [2,0,6,6,82,202,54,2,1,48,50,52] (fun s _=>?_) zEz
  refine vq 2 U (by kernel_rfl) (zBU (t:=28) U ?_ ?_)
  ·exact A [228,19,18,59]
  ·refine vq 2 U (by kernel_rfl) (vS [33,56,58,60] [62] [] U U (zWe (T:=tab) (zKm .i64) (fun v=>Z v) b e 0 Tryz.underlying143 Tryz.underlying3 U U U U U U U U U U (pyq U)) U U (vq 3 U (by kernel_rfl) (zBU (t:=34) U ?_ ?_)))
   ·exact A [222,19,18,59]
   ·refine vq 4 U (by kernel_rfl) (vT [68,74,76] [78] [] U U (zA7 (T:=tab) zAZ d.Forest.Nodes U U U U U U U fun o _=>pzq U) (fun _=>U) (fun _=>U) fun o _=>vq 6 U (by kernel_rfl) (zBU (t:=45) U ?_ ?_))
    ·exact A [211,19,18,59]
    ·refine vq 4 U (by kernel_rfl) (vT [90,96,98] [100] [] U U (zA7 (T:=tab) zAZ d.Forest.Nodes U U U U U U U fun k _=>pzq U) (fun _=>U) (fun _=>U) fun k _=>A [206,79,5,1,59,67,61] ?_)
     refine zWe (T:=tab) (zKm .i64) (fun v=>Z v) b e 0 Tryz.underlying143 Tryz.underlying3 U U U U U U U U U U (A [16] fun c _=>?_)
     refine zGL (zKm .i64) (fun v=>Z v) b e c Tryz.underlying143 Tryz.underlying3 U U U U U U U U U (A [0,76,36] fun m _=>?_)
     refine A [2,0,13,62] ?_
     refine zAF U ?_ ?_
     ·refine A [14,1,16] fun f _=>?_
      refine A [1,11,15,94] fun g _=>?_
      exact A [89] (tx (f,g,(zHV b e c)))
     ·refine A [62,10,1,59,93,0,5,1,59,4,15,94] fun h _=>?_
      exact A [89] (tx (a,h,(zHV b e c)))
 ·refine A [86,99] (fun l _=>?_) zML
  exact A [1,26,81,8,110,26,91,2,105,74,105,74,2,35,3,26,87,8,104,26,91,2,105,74,105,74,109,74]
def zCO (b a:Bool):Option Bool:=cnd b (some a) (some false)
def zBn (fu:Nat) (c:zAR) (d:Int) (b:Node) (a:Bool):Option Bool:=cnd (b.Under==(-1)) ((zCO a) true) (cnd (b.Kind==1) (bnd (zDU fu c b.Under 4) fun e=>cnd e (bnd (idx c.Forest.Nodes b.Under) fun f=>(zCO a) (f.Host==d)) ((zCO a) false)) ((zCO a) false))
def zEy (fu:Nat) (b:zAR) (c:Int):Option Bool:=bnd (idx b.Forest.Nodes c) fun a=>cnd (a.Kind==4) (bnd (zDU fu b a.Host 1) fun d=>cnd d (bnd (idx b.Forest.Nodes a.Host) fun e=>cnd (e.Under==c) (bnd (idx b.Forest.Nodes a.Host) fun f=>(zBn fu b c a) (f.Doc==a.Doc)) ((zBn fu b c a) false)) ((zBn fu b c a) false)) ((zBn fu b c a) (a.Host==(-1)))
theorem zMl {fu:Nat} {e:zAR} {f:Int}:DD (zEy fu e f) 190 [.agg (zEl e),Z f] fun r=>Y r:=by
 refine fcI Tryz.func190 U (A [73,57,76,36] fun g _=>?_)
 refine A [1,31,5,12,0,76,0,6,93,0] ?_
 refine jw (zBn fu e f g) [1,2,5] [5,2] (fun b=>[(6,Y b)]) (fun _=>[]) U U ?_ fun c=>?_
 ·rintro b
  refine A [7,9] ?_
  refine zNU (zCO b) (fun (a:Bool)=>[(6,Y b),(7,Y a)]) (fun (a:Bool)=>[]) ?_ fun d=>?_
  ·rintro a
   exact A [7,61,26,76,2,3,74,3,74]
  ·refine pq 4 U (zAY (j:=52) U ?_ ?_)
   ·exact A [123,11,45] (d true)
   ·refine pq 4 U (zAY (j:=56) U ?_ ?_)
    ·refine A [3,41] (fun m _=>?_) zGR
     refine pq 2 U (zAY (j:=62) U ?_ ?_)
     ·refine A [105,36] fun k _=>?_
      exact A [107,11,45] (d (k.Host==f))
     ·exact A [113,11,45] (d false)
    ·exact A [119,11,45] (d false)
 ·refine zAF U ?_ ?_
  ·refine A [95,203,54,2,1,40,44,46] (fun l _=>?_) zGR
   refine vq 1 U (by kernel_rfl) (zBU (t:=24) U ?_ ?_)
   ·refine vq 5 U (by kernel_rfl) (vT [48,54,58] [60] [] U U (zA7 (T:=tab) zAZ e.Forest.Nodes U U U U U U U fun i _=>pzq U) (fun _=>U) (fun _=>U) fun i _=>vq 6 U (by kernel_rfl) (zBU (t:=36) U ?_ ?_))
    ·exact vq 5 U (by kernel_rfl) (vT [72,78,82] [84] [] U U (zA7 (T:=tab) zAZ e.Forest.Nodes U U U U U U U fun h _=>pzq U) (fun _=>U) (fun _=>U) fun h _=>A [207,19,45] (c (h.Doc==g.Doc)))
    ·exact A [213,19,45] (c false)
   ·exact A [225,19,45] (c false)
  ·exact A [4,45] (c (g.Host==(-1)))
def zG1 (_fu:Nat) (b:zAR) (a:Int):Option Int:=bnd (idx b.Forest.Nodes a) fun c=>cnd (c.Parent != (-1)) (some c.Parent) (bnd (idx b.Forest.Nodes a) fun d=>some d.Host)
theorem zPj {fu:Nat} {b:zAR} {a:Int}:DD (zG1 fu b a) 249 [.agg (zEl b),Z a] fun r=>Z r:=by
 refine fcI Tryz.func249 U (A [73,57,6,76,36] fun c _=>?_)
 refine A [3,0,62,5,2,62,8,67,76,36] fun d _=>?_
 exact A [3,74]
def zC1 (fu:Nat) (a:zAR):Nat->Int×Int->Option Bool
 | 0,_=>none
 | k1+1,(n3,t4)=>cnd (decide (t4<(a.Forest.Nodes.length:Int))) (bnd (zG1 fu a n3) fun b=>cnd (b==(-1)) (some true) (bnd (rng .i64 (t4+1)) fun c=>(zC1 fu a k1) (b,c))) (some false)
def zHf (fu:Nat) (b:zAR) (a:Int):Option Bool:=(zC1 fu b) fu (a,0)
theorem zOF {fu:Nat} {b:zAR} {a:Int}:DD (zHf fu b a) 191 [.agg (zEl b),Z a] fun r=>Y r:=by
 refine fcI Tryz.func191 U (A [73,57,6,93,77,13] ?_)
 refine lw (zC1 fu b) [2,8] [2] (fun (c,d)=>[(1,Z c),(9,Z d)]) (fun _=>[]) fu (a,0) U U ?_
 rintro g ⟨c,d⟩
 refine A [75,10,2,86,59,72,99] (fun f _=>?_) zPj
 refine A [57,62,5,1,59,4,94] fun e _=>?_
 exact A [89] (tx (f,e))
def zBZ (fu:Nat) (c:zAR):Nat->Int->Option Bool
 | 0,_=>none
 | k2+1,t11=>cnd (decide (t11<(c.Forest.Nodes.length:Int))) (bnd (zHf fu c t11) fun b=>cnd (!b) (some false) (bnd (rng .i64 (t11+1)) fun a=>(zBZ fu c k2) a)) (some true)
def zCm (fu:Nat) (a:zAR):Nat->Int->Option Bool
 | 0,_=>none
 | k1+1,t3=>cnd (decide (t3<(a.Forest.Nodes.length:Int))) (bnd (idx a.Forest.Nodes t3) fun h=>bnd (zGt fu h) fun c=>cnd (!c) (some false) (bnd (zFK fu a t3) fun d=>cnd (!d) (some false) (bnd (zFt fu a t3) fun e=>cnd (!e) (some false) (bnd (zFJ fu a t3) fun f=>cnd (!f) (some false) (bnd (zEy fu a t3) fun g=>cnd (!g) (some false) (bnd (rng .i64 (t3+1)) fun b=>(zCm fu a k1) b)))))) ((zBZ fu a) fu 0)
def zC2 (fu:Nat) (a:zAR):Option Bool:=cnd (decide (a.Forest.Most<1)) (some false) (cnd (decide (a.Forest.Most>400)) (some false) (cnd (decide ((a.Forest.Nodes.length:Int)<1)) (some false) (cnd (decide ((a.Forest.Nodes.length:Int)>a.Forest.Most)) (some false) (bnd (idx a.Forest.Nodes 0) fun b=>cnd (b.Kind != 0) (some false) ((zCm fu a) fu 0)))))
theorem zGi {fu:Nat} {b:zAR}:DD (zC2 fu b) 120 [.agg (zEl b)] fun r=>Y r:=by
 refine fcI Tryz.func120 U (A [9,30,1,57,6,9,105,26,10,2,131,83,106,26,16,2,125,83,3,35,3,26,23,2,118,83,3,35,106,26,33,2,108,83,3,36] fun n _=>?_)
 refine A [104,0,5,1,59,68,93,77,13] ?_
 refine lw (zCm fu b) [1,44,45] [1] (fun e=>[(46,Z e)]) (fun _=>[]) fu 0 U U ?_
 rintro g e
 refine A [75] ?_
 refine zAF U ?_ ?_
 ·refine A [72,80,36] fun o _=>?_
  refine A [1,31,4,1,12,0,80,41] (fun i _=>?_) zMk
  refine A [2,26,54,2,123,83,2,41] (fun j _=>?_) zNb
  refine A [3,26,60,2,117,83,2,41] (fun k _=>?_) zOG
  refine A [3,26,66,2,111,83,2,41] (fun l _=>?_) zNa
  refine A [3,26,72,2,105,83,2,41] (fun m _=>?_) zMl
  refine A [2,0,5,1,59,4,94] fun c _=>?_
  exact A [89] (tx c)
 ·refine A [86,6,93,77,13] ?_
  refine lw (zBZ fu b) [1,82] [1] (fun a=>[(83,Z a)]) (fun _=>[]) fu 0 U U ?_
  rintro h a
  refine A [75,10,2,86,59,72,62,99] (fun f _=>?_) zOF
  refine A [57,5,1,59,4,94] fun d _=>?_
  exact A [89] (tx d)
def zAu (fu:Nat) (a:Forest):Option Bool:=bnd (zC2 fu (⟨a⟩:zAR)) fun b=>some b
theorem zBB {fu:Nat} {a:Forest}:DD (zAu fu a) 70 [.agg (zAE a)] fun r=>Y r:=by
 refine fcI Tryz.func70 U (A [9,30,1,57,80,20,41] (fun b _=>?_) zGi)
 exact A [57,8]
def zQN (fu:Nat) (a:Int):Option (Forest×Int):=bnd (zJb fu 0 0) fun b=>bnd (zAu fu (⟨[b],a⟩:Forest)) fun c=>cnd (!c) (some ((⟨[],0⟩:Forest),1)) (some ((⟨[b],a⟩:Forest),0))
theorem zUI {fu:Nat} {a:Int}:DD (zQN fu a) 65 [Z a] fun r=>.tup [.agg (zAE r.1),Z r.2]:=by
 refine fcI Tryz.func65 U (A [9,31,2,57,9,41] (fun b _=>?_) zN2)
 refine pl ([b].map zAZ) 6 U U U U U U (A [1,20,31,4,12,0,6,80,33,6,41] (fun c _=>?_) zBB)
 refine A [57,10,4,67,80,92,8,9,20,92] ?_
 exact zGM 2 [.sl 10 false ([].map zAZ),Z 0] U ⟨.nil,.rfl,trivial⟩ U rN
def zOH (fu:Nat) (c a:Bs):Option Int:=cnd (!(a==([]:Bs))) (some 1) (bnd (zDE fu c) fun b=>cnd b (some 1) (some 0))
theorem zVd {fu:Nat} {b a:Bs}:DD (zOH fu b a) 113 [O b,O a] fun r=>Z r:=by
 refine fcI Tryz.func113 U (A [75,93,26,7,2,3,83,1,41] (fun c _=>?_) zEt)
 exact A [57,5,1,59,67,59]
def zI6 (fu:Nat) (a:Node):Option State:=cnd (a.Kind==1) (bnd (zOH fu a.Name a.Is) fun b=>some (⟨b,(-1),(-1),false⟩:State)) (some (⟨0,(-1),(-1),false⟩:State))
theorem zO0 {fu:Nat} {a:Node}:DD (zI6 fu a) 66 [.agg (zAZ a)] fun r=>.agg (zBh r):=by
 refine fcI Tryz.func66 U (A [9,30,1,31,2,0,9,20,31,3,12,0,6,93,0,10,4,67,80,12,74,14,104,41] (fun b _=>?_) zVd)
 exact A [1,12,0,80,12,74]
def zDe (_fu:Nat) (a:List (List Todo)):Option (List (List Todo)):=bnd (zDb 24 (([]:List (List Todo)).length+a.length)) fun _=>some (([]:List (List Todo))++a)
theorem zLD {fu:Nat} {a:List (List Todo)}:FF (zDe fu a) 178 [.sl 1 false (a.map zDi)] [] [] (fun _=>.own 5) fun r=>[(5,.arr 51 1 (r.map zDi))]:=by
 refine fcI Tryz.func178 U (A [75,80] ?_)
 refine zIj (T:=tab) U U U U U U fun b d=>?_
 cases b
 ·refine A [0,23,67,9] ?_
  exact pl (([]:List (List Todo)).map zDi) 5 U U U U U U (pq 1 U (pa zDi ([]:List (List Todo)) a U U U U U U U U (zR7 _) U U U (A [57,8])))
 ·have c:a=[]:=eZ.1 (d rfl)
  exact zK4 (m':=some ([]:List (List Todo))) (by subst c;rfl) (A [0,25,58,56,5,51,1,2,8])
def zD9 (_fu:Nat) (a:List (List Int)):Option (List (List Int)):=bnd (zDb 24 (([]:List (List Int)).length+a.length)) fun _=>some (([]:List (List Int))++a)
theorem zJT {fu:Nat} {a:List (List Int)}:FF (zD9 fu a) 121 [.sl 1 false (a.map zAt)] [] [] (fun _=>.own 5) fun r=>[(5,.arr 32 1 (r.map zAt))]:=by
 refine fcI Tryz.func121 U (A [75,80] ?_)
 refine zIj (T:=tab) U U U U U U fun b d=>?_
 cases b
 ·refine A [0,23,67,9] ?_
  exact pl (([]:List (List Int)).map zAt) 5 U U U U U U (pq 1 U (pa zAt ([]:List (List Int)) a U U U U U U U U (zN7 _) U U U (A [57,8])))
 ·have c:a=[]:=eZ.1 (d rfl)
  exact zK4 (m':=some ([]:List (List Int))) (by subst c;rfl) (A [0,25,58,56,5,32,1,2,8])
def zBf (_fu:Nat) (a:List Int):Option (List Int):=bnd (zDb 8 (([]:List Int).length+a.length)) fun _=>some (([]:List Int)++a)
theorem zFX {fu:Nat} {a:List Int}:FF (zBf fu a) 154 [.sl 1 false (a.map zAB)] [] [] (fun _=>.own 5) fun r=>[(5,.arr 3 1 (r.map zAB))]:=by
 refine fcI Tryz.func154 U (A [75,80] ?_)
 refine zIj (T:=tab) U U U U U U fun b d=>?_
 cases b
 ·refine A [0,23,67,9] ?_
  exact pl (([]:List Int).map zAB) 5 U U U U U U (pq 1 U (pa zAB ([]:List Int) a U U U U U U U U (zDK _) U U U (A [57,8])))
 ·have c:a=[]:=eZ.1 (d rfl)
  exact zK4 (m':=some ([]:List Int)) (by subst c;rfl) (A [0,25,58,56,5,3,1,2,8])
def zLA (fu:Nat) (l1:Line):Option Line:=bnd (zDe fu l1.Todos) fun a=>bnd (zD9 fu l1.Stack) fun b=>bnd (zBf fu l1.Back) fun c=>some (⟨a,b,c,l1.Busy⟩:Line)
theorem zRl {fu:Nat} {l1:Line}:FF (zLA fu l1) 114 [.agg (zPs l1)] [] [] (fun r=>.agg [.own 2050,.own 2080,.own 2110,Y r.Busy]) fun r=>[(2050,.arr 51 1 (r.Todos.map zDi)),(2080,.arr 32 1 (r.Stack.map zAt)),(2110,.arr 3 1 (r.Back.map zAB))]:=by
 refine fcI Tryz.func114 U (A [9,30,1,31,2,0,6,52,2,2,1,2,2,1,53,15,0,1,3,0,8,31,0,64,255,223,1023,2047,4095,8191,16383,202,55,1,2,8,10,4101] (fun a _=>?_) zLD [(5,2050)] [2050])
 refine A [202,55,1,2,14,16,4161] (fun b _=>?_) zJT [(5,2080)] [2080]
 refine A [202,55,1,2,20,22,4221] (fun c _=>?_) zFX [(5,2110)] [2110]
 exact A [201,50,4,1,3,10,24,4101,3,201,50,4,1,3,16,26,4161,3,201,50,4,1,3,22,28,4221,3,79,80,12,74]
def zJu (fu:Nat) (l1:Line):Option Line:=bnd (zLA fu l1) fun a=>bnd (zDb 24 (a.Todos.length+([[]]:List (List Todo)).length)) fun _=>some ({a with Todos:=(a.Todos++[[]])}:Line)
theorem zQQ {fu:Nat} {l1:Line}:DD (zJu fu l1) 67 [.agg (zPs l1)] fun r=>.agg (zPs r):=by
 refine fcI Tryz.func67 U (A [9,30,1,31,2,0,80,43] (fun a _=>?_) zRl [(2050,2040),(2080,2041),(2110,2042)] [2040,2041,2042])
 refine A [12,0,61] ?_
 exact pl ([[.v (.slice none 0 0)]]) 7 U U U U U U (zhr 7 (([[]]:List (List Todo)).map zDi) U U U (pa zDi a.Todos ([[]]:List (List Todo)) U U U U U U U U (zR7 _) U U U (A [1,12,0,80,12,0,34,2040,34,2041,34,2042,8])))
def zHn (_fu:Nat) (a:List Class):Option (List Class):=bnd (zDb 104 (([]:List Class).length+a.length)) fun _=>some (([]:List Class)++a)
theorem zLE {fu:Nat} {a:List Class}:FF (zHn fu a) 68 [.sl 5 false (a.map zBk)] [] [] (fun _=>.own 5) fun r=>[(5,.arr 70 5 (r.map zBk))]:=by
 refine fcI Tryz.func68 U (A [75,80] ?_)
 refine zIj (T:=tab) U U U U U U fun b d=>?_
 cases b
 ·refine A [0,23,67,9] ?_
  exact pl (([]:List Class).map zBk) 5 U U U U U U (pq 1 U (pa zBk ([]:List Class) a U U U U U U U U (zZ3 _) U U U (A [57,8])))
 ·have c:a=[]:=eZ.1 (d rfl)
  exact zK4 (m':=some ([]:List Class)) (by subst c;rfl) (A [0,25,58,56,5,70,5,2,8])
def zDu (fu:Nat) (b:Bs):Option Bool:=bnd (zGS fu b) fun a=>cnd (a.2 != 0) (some true) (some (!(a.1==b)))
theorem zOy {fu:Nat} {a:Bs}:DD (zDu fu a) 179 [O a] fun r=>Y r:=by
 refine fcI Tryz.func179 U (A [58,80,41] (fun b _=>?_) zIH)
 exact A [105,0,93,26,12,2,105,74,105,74]
def zBQ (b:Bs->Option Bool) (a:List Bs):Nat->Int->Option Int
 | 0,_=>none
 | k1+1,t2=>cnd (decide (t2<(a.length:Int))) (bnd (idx a t2) fun e=>bnd (b e) fun d=>cnd d (some t2) (bnd (rng .i64 (t2+1)) fun c=>(zBQ b a k1) c)) (some (-1))
def zEv (fu:Nat) (b:Bs->Option Bool) (a:List Bs):Option Int:=(zBQ b a) fu 0
theorem zKS {fu:Nat} {a:List Bs}:DD (zEv fu (fun b=>zDu fu b) a) 243 [.sl 1 false (a.map zRM),.fn (.func 179) [] []] fun r=>Z r:=by
 refine fcI Tryz.func243 U (A [75,80,77,13] ?_)
 refine lw (zBQ (fun b=>zDu fu b) a) [0,1,7] [] (fun c=>[(8,Z c)]) (fun _=>[]) fu 0 U U ?_
 rintro e c
 refine A [75,10,2,86,59,72,62,93,36] fun g _=>?_
 refine A [1,44] (fun f _=>?_) zOy []
 refine A [0,5,2,62,8,4,94] fun d _=>?_
 exact A [89] (tx d)
def zCZ (fu:Nat) (c:Bs->Option Bool) (b:List Bs):Option Bool:=bnd (zEv fu c b) fun a=>some (decide (a>=0))
theorem zJN {fu:Nat} {a:List Bs}:DD (zCZ fu (fun b=>zDu fu b) a) 182 [.sl 1 false (a.map zRM),.fn (.func 179) [] []] fun r=>Y r:=by
 refine fcI Tryz.func182 U (A [58,99] (fun c _=>?_) zKS)
 exact A [2,74]
def zHU (_fu:Nat) (l1:List Op):Option Bool:=some (decide ((l1.length:Int)>60))
theorem zL4 {fu:Nat} {l1:List Op}:DD (zHU fu l1) 181 [.sl 7 false (l1.map cOp)] fun r=>Y r:=by
 exact fcI Tryz.func181 U (A [58,80,35,2,74])
def zDv (fu:Nat) (a:Hook):Option Bool:=cnd (decide (a.Kind<1)) (some true) (cnd (decide (a.Kind>8)) (some true) (bnd (zHU fu a.Do) fun b=>some b))
theorem zOz {fu:Nat} {a:Hook}:DD (zDv fu a) 180 [.agg (zJP a)] fun r=>Y r:=by
 refine fcI Tryz.func180 U (A [9,30,1,57,76,26,6,2,110,74,105,26,11,2,105,74,2,41] (fun b _=>?_) zL4)
 exact A [2,74]
def zBF (b:Hook->Option Bool) (a:List Hook):Nat->Int->Option Int
 | 0,_=>none
 | k1+1,t2=>cnd (decide (t2<(a.length:Int))) (bnd (idx a t2) fun e=>bnd (b e) fun d=>cnd d (some t2) (bnd (rng .i64 (t2+1)) fun c=>(zBF b a k1) c)) (some (-1))
def zEK (fu:Nat) (b:Hook->Option Bool) (a:List Hook):Option Int:=(zBF b a) fu 0
theorem zJ0 {fu:Nat} {a:List Hook}:DD (zEK fu (fun b=>zDv fu b) a) 244 [.sl 2 false (a.map zJP),.fn (.func 180) [] []] fun r=>Z r:=by
 refine fcI Tryz.func244 U (A [75,80,77,13] ?_)
 refine lw (zBF (fun b=>zDv fu b) a) [0,1,7] [] (fun c=>[(8,Z c)]) (fun _=>[]) fu 0 U U ?_
 rintro e c
 refine A [75,10,2,86,59,72,62,93,36] fun g _=>?_
 refine A [1,44] (fun f _=>?_) zOz []
 refine A [0,5,2,62,8,4,94] fun d _=>?_
 exact A [89] (tx d)
def zCH (fu:Nat) (c:Hook->Option Bool) (b:List Hook):Option Bool:=bnd (zEK fu c b) fun a=>some (decide (a>=0))
theorem zIz {fu:Nat} {a:List Hook}:DD (zCH fu (fun b=>zDv fu b) a) 183 [.sl 2 false (a.map zJP),.fn (.func 180) [] []] fun r=>Y r:=by
 refine fcI Tryz.func183 U (A [58,99] (fun c _=>?_) zJ0)
 exact A [2,74]
def zHu (fu:Nat) (a:Class):Option Bool:=cnd (decide ((a.Watch.length:Int)<=12)) (bnd (zCZ fu (fun b=>zDu fu b) a.Watch) fun c=>cnd (!c) (cnd (decide ((a.Hooks.length:Int)<=12)) (bnd (zCH fu (fun b=>zDv fu b) a.Hooks) fun d=>cnd (!d) (bnd (zHU fu a.Peek) fun e=>cnd (!e) (bnd (zHU fu a.Make) fun f=>some (!f)) (some false)) (some false)) (some false)) (some false)) (some false)
theorem zQ2 {fu:Nat} {a:Class}:DD (zHu fu a) 116 [.agg (zBk a)] fun r=>Y r:=by
 refine fcI Tryz.func116 U (A [9,30,1,57,58,58,61,35,2,27,9,2,132,74,3,41] (fun b _=>?_) zJN)
 refine A [3,27,16,2,125,74,2,35,3,27,22,2,119,74,3,41] (fun c _=>?_) zIz
 refine A [3,27,29,2,112,74,2,41] (fun d _=>?_) zL4
 refine A [3,27,35,2,106,74,2,41] (fun e _=>?_) zL4
 exact A [3,74]
def zBx (fu:Nat) (a:Class):Option Bool:=bnd (zHu fu a) fun b=>some (!b)
theorem zLI {fu:Nat} {a:Class}:DD (zBx fu a) 115 [.agg (zBk a)] fun r=>Y r:=by
 refine fcI Tryz.func115 U (A [9,30,1,57,80,41] (fun b _=>?_) zQ2)
 exact A [2,74]
def zA4 (b:Class->Option Bool) (a:List Class):Nat->Int->Option Int
 | 0,_=>none
 | k1+1,t2=>cnd (decide (t2<(a.length:Int))) (bnd (idx a t2) fun e=>bnd (b e) fun d=>cnd d (some t2) (bnd (rng .i64 (t2+1)) fun c=>(zA4 b a k1) c)) (some (-1))
def zEB (fu:Nat) (b:Class->Option Bool) (a:List Class):Option Int:=(zA4 b a) fu 0
theorem zJe {fu:Nat} {a:List Class}:DD (zEB fu (fun b=>zBx fu b) a) 184 [.sl 5 false (a.map zBk),.fn (.func 115) [] []] fun r=>Z r:=by
 refine fcI Tryz.func184 U (A [75,80,77,13] ?_)
 refine lw (zA4 (fun b=>zBx fu b) a) [0,1,7] [] (fun c=>[(8,Z c)]) (fun _=>[]) fu 0 U U ?_
 rintro e c
 refine A [75,10,2,86,59,72,62,93,36] fun g _=>?_
 refine A [1,44] (fun f _=>?_) zLI []
 refine A [0,5,2,62,8,4,94] fun d _=>?_
 exact A [89] (tx d)
def zB6 (fu:Nat) (c:Class->Option Bool) (b:List Class):Option Bool:=bnd (zEB fu c b) fun a=>some (decide (a>=0))
theorem zIL {fu:Nat} {a:List Class}:DD (zB6 fu (fun b=>zBx fu b) a) 118 [.sl 5 false (a.map zBk),.fn (.func 115) [] []] fun r=>Y r:=by
 refine fcI Tryz.func118 U (A [58,99] (fun c _=>?_) zJe)
 exact A [2,74]
def zBy (_fu:Nat) (b:Def) (a:zAJ):Option Bool:=some (decide (b.Class>=(a.World.Classes.length:Int)))
theorem zLJ {fu:Nat} {b:Def} {a:zAJ}:FF (zBy fu b a) 117 [.agg (zQ3 b),.loc 900000 0] [(900000,.box 94 (zBd a.World))] [900000] (fun r=>Y r) fun _=>[(900000,.box 94 (zBd a.World))]:=by
 exact fcI Tryz.func117 U (A [73,57,9,105,35,2,74])
def zBP (b:Def->Option Bool) (a:List Def):Nat->Int->Option Int
 | 0,_=>none
 | k1+1,t3=>cnd (decide (t3<(a.length:Int))) (bnd (idx a t3) fun e=>bnd (b e) fun d=>cnd d (some t3) (bnd (rng .i64 (t3+1)) fun c=>(zBP b a k1) c)) (some (-1))
def zEu (fu:Nat) (b:Def->Option Bool) (a:List Def):Option Int:=(zBP b a) fu 0
theorem zKL {fu:Nat} {b:List Def} {a:zAJ}:FF (zEu fu (fun c=>zBy fu c a) b) 185 [.sl 3 false (b.map zQ3),.fn (.func 117) [] [.loc 900000 0]] [(900000,.box 94 (zBd a.World))] [900000] (fun r=>Z r) fun _=>[(900000,.box 94 (zBd a.World))]:=by
 refine fcI Tryz.func185 U (A [75,80,77,13] ?_)
 refine lw (zBP (fun c=>zBy fu c a) b) [0,1,7] [900000] (fun d=>[(8,Z d)]) (fun _=>[]) fu 0 U U ?_
 rintro f d
 refine A [75,10,2,86,59,72,62,93,36] fun h _=>?_
 refine A [1,44] (fun g _=>?_) zLJ [(900000,900000)]
 refine A [0,5,2,62,8,4,94] fun e _=>?_
 exact A [89] (tx e)
def zCX (fu:Nat) (c:Def->Option Bool) (b:List Def):Option Bool:=bnd (zEu fu c b) fun a=>some (decide (a>=0))
theorem zJI {fu:Nat} {b:List Def} {a:zAJ}:FF (zCX fu (fun c=>zBy fu c a) b) 119 [.sl 3 false (b.map zQ3),.fn (.func 117) [] [.loc 900000 0]] [(900000,.box 94 (zBd a.World))] [900000] (fun r=>Y r) fun _=>[(900000,.box 94 (zBd a.World))]:=by
 refine fcI Tryz.func119 U (A [58,61,44] (fun d _=>?_) zKL [(900000,900000)])
 exact A [2,74]
def zEg (fu:Nat) (a:zAJ):Option Bool:=cnd (decide ((a.World.Classes.length:Int)<=12)) (bnd (zB6 fu (fun b=>zBx fu b) a.World.Classes) fun c=>cnd (!c) (bnd (zCX fu (fun b=>zBy fu b a) a.World.Desk.Defs) fun d=>some (!d)) (some false)) (some false)
theorem zMY {fu:Nat} {a:zAJ}:DD (zEg fu a) 69 [.agg (zEm a)] fun r=>Y r:=by
 refine fcI Tryz.func69 U (A [9,30,1,57,58,62,93,35,2,27,11,2,117,74,104,41] (fun b _=>?_) zIL)
 refine A [3,27,19,2,109,74,105,44] (fun c _=>?_) zJI [(900000,1)]
 exact A [3,74]
def zFE (fu:Nat):Option (List Bs):=bnd (zRO fu ([97,32,98,32,98,117,116,116,111,110,32,100,105,118,32,102,105,101,108,100,115,101,116,32,102,111,114,109,32,105,32,105,110,112,117,116,32,108,97,98,101,108,32,108,101,103,101,110,100,32,108,105,32,111,112,116,105,111,110,32,111,117,116,112,117,116,32,112,32,115,101,108,101,99,116,32,115,112,97,110,32,116,101,109,112,108,97,116,101,32,116,101,120,116,97,114,101,97,32,117,108]:Bs)) fun a=>some a
theorem zUO {fu:Nat}:DD (zFE fu) 238 [] fun r=>.sl 1 false (r.map zRM):=by
 refine fcI Tryz.func238 U (A [58,9] ?_)
 exact pk (zWB fu ([97,32,98,32,98,117,116,116,111,110,32,100,105,118,32,102,105,101,108,100,115,101,116,32,102,111,114,109,32,105,32,105,110,112,117,116,32,108,97,98,101,108,32,108,101,103,101,110,100,32,108,105,32,111,112,116,105,111,110,32,111,117,116,112,117,116,32,112,32,115,101,108,101,99,116,32,115,112,97,110,32,116,101,109,112,108,97,116,101,32,116,101,120,116,97,114,101,97,32,117,108]:Bs)) U U fun a _=>A [57,8]
def zKe (fu:Nat) (c:Bs):Option Bool:=bnd (zFE fu) fun a=>bnd (zBD fu a c) fun b=>some b
theorem zUN {fu:Nat} {b:Bs}:DD (zKe fu b) 171 [O b] fun r=>Y r:=by
 refine fcI Tryz.func171 U (A [58,9] ?_)
 refine zK3 (enc:=fun (a:(List Bs))=>.sl 1 false (a.map zRM)) (qs:=[]) zUO U U trivial (fun _=>U) zgz U U fun a _=>A [1,41] (fun c _=>?_) zDF
 exact A [57,8]
def zIl (fu:Nat) (t2:Int) (c:List (Int×Int)) (l4:List (Bs×Int)) (a:Def) (d:(Int×(List (Int×Int))×(List (Bs×Int)))->Option (zCy×Bool)) (b:Bool):Option (zCy×Bool):=bnd (zDE fu a.Name) fun f=>cnd (!f) (some ((⟨(zHV l4 a.Name t2),(zHV c a.Class t2)⟩:zCy),false)) (cnd (!b) (some ((⟨(zHV l4 a.Name t2),(zHV c a.Class t2)⟩:zCy),false)) (cnd (decide (a.Class<0)) (some ((⟨(zHV l4 a.Name t2),(zHV c a.Class t2)⟩:zCy),false)) (cnd (decide (a.Class>=12)) (some ((⟨(zHV l4 a.Name t2),(zHV c a.Class t2)⟩:zCy),false)) (bnd (rng .i64 (t2+1)) fun e=>d (e,(zHV c a.Class t2),(zHV l4 a.Name t2))))))
def zEW (fu:Nat) (a:Desk):Nat->Int×(List (Int×Int))×(List (Bs×Int))->Option (zCy×Bool)
 | 0,_=>none
 | k1+1,(t2,l3,l4)=>cnd (decide (t2<(a.Defs.length:Int))) (bnd (idx a.Defs t2) fun b=>cnd (b.Local==b.Name) ((zIl fu t2 l3 l4 b (zEW fu a k1)) true) (bnd (zKe fu b.Local) fun c=>(zIl fu t2 l3 l4 b (zEW fu a k1)) c)) (cnd ((l4.length:Int)==(a.Defs.length:Int)) (some ((⟨l4,l3⟩:zCy),((l3.length:Int)==(a.Defs.length:Int)))) (some ((⟨l4,l3⟩:zCy),false)))
def zLn (fu:Nat) (a:Desk):Option (zCy×Bool):=(zEW fu a) fu (0,([]:(List (Int×Int))),([]:(List (Bs×Int))))
theorem zVa {fu:Nat} {c:Desk}:FF (zLn fu c) 108 [.agg (zI8 c)] [] [] (fun r=>.tup [.agg [.own 8,.own 9],Y r.2]) fun r=>[(8,.mp (r.1.names.map fun p:Bs×Int=>(zNu p.1,Z p.2))),(9,.mp (r.1.classes.map fun p:Int×Int=>(zOm .i64 p.1,Z p.2)))]:=by
 refine fcI Tryz.func108 U (A [9,30,1,31,2,57,9] ?_)
 refine zIV 8 U U U U U U U (zIV 9 U U U U U U U (A [20,31,4,12,0,6,61,77,13] ?_))
 refine lw (zEW fu c) [1,2,4,12,13] [4,2,1] (fun (b,d,e)=>[(14,Z b)]) (fun (b,d,e)=>[(9,.mp (d.map fun p:Int×Int=>(zOm .i64 p.1,Z p.2))),(8,.mp (e.map fun p:Bs×Int=>(zNu p.1,Z p.2)))]) fu (0,([]:(List (Int×Int))),([]:(List (Bs×Int)))) U U ?_
 rintro i ⟨b,d,e⟩
 refine A [75] ?_
 refine zAF U ?_ ?_
 ·refine A [72,80,36] fun f _=>?_
  refine A [1,31,6,1,12,0,6,52,8,6,1,2,4,12,13,14,6,5,6,4,9,8,2,1,53,12,0,1,0,4,0,16,0,64,0,0,271,2047,210] ?_
  refine vS [17,40,44,54] [17] [] U U (zGL zJi (fun v=>Z v) e f.Name b Tryz.underlying142 Tryz.underlying9 U U U U U U U U U (pyq U)) U U (vS [19,48,52,56] [19] [] U U (zGL (zKm .i64) (fun v=>Z v) d f.Class b Tryz.underlying143 Tryz.underlying3 U U U U U U U U U (pyq U)) U U (A [79,9] ?_))
  refine zNU (zIl fu b d e f (zEW fu c i)) (fun (a:Bool)=>[(1,.loc 1 0),(2,.loc 2 0),(4,.loc 4 0),(6,.loc 6 0),(7,Y a),(12,.sl 3 false (c.Defs.map zQ3)),(13,Z (c.Defs.length:Int)),(14,Z b)]) (fun (a:Bool)=>[(6,.box 88 (zQ3 f)),(4,.box 145 [.own 8,.own 9]),(9,.mp ((zHV d f.Class b).map fun p:Int×Int=>(zOm .i64 p.1,Z p.2))),(8,.mp ((zHV e f.Name b).map fun p:Bs×Int=>(zNu p.1,Z p.2))),(2,.box 145 [.v (.map none),.v (.map none)]),(1,.box 29 (zI8 c))]) ?_ fun g=>?_
  ·rintro a
   refine A [7,99] (fun l _=>?_) zEt
   refine A [2,26,43,5,113,65,80,92,8,104,26,47,5,109,65,80,92,8,105,26,52,5,104,65,80,92,8,104,0,5,3,80,92,8,4,94] fun h _=>?_
   exact A [89] (tx (h,(zHV d f.Class b),(zHV e f.Name b)))
  ·refine pq 6 U (zAY (j:=34) U ?_ ?_)
   ·exact A [105,11,45] (g true)
   ·refine A [2,41] (fun k _=>?_) zUN
    exact A [2,11,45] (g k)
 ·refine A [86,6,52,3,5,1,2,4,4,9,8,2,1,53,19,0,0,2,6,0,16,48,126,254,510,1022,2046,510,4606,12798,32766,65534,4095,262143,203] ?_
  refine vS [17,122] [124] [] U U (zQB (zNu) (fun v=>Z v) e Tryz.underlying142 U U U U U U U U (pyq U)) U U (vq 2 U (by kernel_rfl) (vS [128] [130] [] U U (zTt (T:=tab) zQ3 c.Defs U U U U U U U U (pyq U)) U U (vq 2 U (by kernel_rfl) (zBU (t:=67) U ?_ ?_))))
  ·exact vq 2 U (by kernel_rfl) (vS [19,134,138] [140] [] U U (zQB (zOm .i64) (fun v=>Z v) d Tryz.underlying143 U U U U U U U U (pyq U)) U U (vq 2 U (by kernel_rfl) (vS [134,144] [146] [] U U (zTt (T:=tab) zQ3 c.Defs U U U U U U U U (pyq U)) U U (A [202,50,5,1,4,5,17,19,118,5,201,79,8]))))
  ·exact A [208,50,5,1,4,5,17,19,118,5,201,79,8]
def zDm (fu:Nat) (a:Desk) (b:zCy×Bool):Nat->Bool×Int×Int->Option (zCy×Bool)
 | 0,_=>none
 | k1+1,(ok3,last4,t5)=>cnd (decide (t5<(a.Waits.length:Int))) (bnd (idx a.Waits t5) fun c=>cnd ok3 (cnd (!(zK7 b.1.names c.Name)) (bnd (zDE fu c.Name) fun i=>cnd i (cnd (decide (c.Ticket>last4)) (bnd (rng .i64 (t5+1)) fun g=>(zDm fu a b k1) ((decide (c.Ticket<a.Next)),c.Ticket,g)) (bnd (rng .i64 (t5+1)) fun h=>(zDm fu a b k1) (false,c.Ticket,h))) (bnd (rng .i64 (t5+1)) fun d=>(zDm fu a b k1) (false,c.Ticket,d))) (bnd (rng .i64 (t5+1)) fun e=>(zDm fu a b k1) (false,c.Ticket,e))) (bnd (rng .i64 (t5+1)) fun f=>(zDm fu a b k1) (false,c.Ticket,f))) (cnd ok3 (cnd (decide (a.Next>=0)) (some (b.1,(decide (a.Next<=100000)))) (some (b.1,false))) (some (b.1,false)))
def zIC (fu:Nat) (a:Desk):Option (zCy×Bool):=bnd (zLn fu a) fun b=>(zDm fu a b) fu (b.2,(-1),0)
theorem zMh {fu:Nat} {d:Desk}:FF (zIC fu d) 63 [.agg (zI8 d)] [] [] (fun r=>.tup [.agg [.own 2130,.own 2131],Y r.2]) fun r=>[(2130,.mp (r.1.names.map fun p:Bs×Int=>(zNu p.1,Z p.2))),(2131,.mp (r.1.classes.map fun p:Int×Int=>(zOm .i64 p.1,Z p.2)))]:=by
 refine fcI Tryz.func63 U (A [9,30,1,31,2,57,80,43] (fun h _=>?_) zVa [(8,2130),(9,2131)] [2130,2131])
 refine A [3,31,4,92,75,61,77,13] ?_
 refine lw (zDm fu d h) [1,2,4,17,18] [4,2130,2131,2,1] (fun (c,a,i)=>[(5,Y c),(6,Z a),(19,Z i)]) (fun _=>[]) fu (h.2,(-1),0) U U ?_
 rintro m ⟨c,a,i⟩
 refine A [75] ?_
 refine zAF U ?_ ?_
 ·refine A [72,9,36] fun b _=>?_
  refine A [1,31,8,12,0,76] ?_
  refine zIU (T:=tab) zJi (fun v=>Z v) h.1.names b.Name 0 Tryz.underlying142 Tryz.underlying9 U U U U U U U U U (A [105,0,61] ?_)
  refine zAY (j:=32) U ?_ ?_
  ·refine pq 4 U (zAY (j:=36) U ?_ ?_)
   ·refine A [2,41] (fun n _=>?_) zEt
    refine pq 2 U (zAY (j:=41) U ?_ ?_)
    ·refine pq 6 U (zAY (j:=47) U ?_ ?_)
     ·refine A [107,0,14,3,11,94] fun k _=>?_
      exact A [89] (tx ((decide (b.Ticket<d.Next)),b.Ticket,k))
     ·refine A [107,0,14,3,11,94] fun l _=>?_
      exact A [89] (tx (false,b.Ticket,l))
    ·refine A [113,0,14,3,11,94] fun e _=>?_
     exact A [89] (tx (false,b.Ticket,e))
   ·refine A [118,0,14,3,11,94] fun f _=>?_
    exact A [89] (tx (false,b.Ticket,f))
  ·refine A [122,0,14,3,11,94] fun g _=>?_
   exact A [89] (tx (false,b.Ticket,g))
 ·refine A [86,6,52,4,5,1,2,4,5,4,2130,2131,2,1,53,14,0,0,2,6,14,30,62,126,254,510,1022,2046,255,8191,203] ?_
  refine zBU (t:=59) U ?_ ?_
  ·refine vq 5 U (by kernel_rfl) (zBU (t:=64) U ?_ ?_)
   ·exact A [204,50,5,1,4,5,114,4261,4263,5,201,79,8]
   ·exact A [204,50,5,1,4,5,114,4261,4263,5,201,79,8]
  ·exact A [209,50,5,1,4,5,114,4261,4263,5,201,79,8]
def zHK (fu:Nat) (a:Desk):Option Bool:=bnd (zIC fu a) fun b=>some b.2
theorem zLm {fu:Nat} {a:Desk}:DD (zHK fu a) 71 [.agg (zI8 a)] fun r=>Y r:=by
 refine fcI Tryz.func71 U (A [9,30,1,57,80,43] (fun b _=>?_) zMh [(2130,2070),(2131,2071)] [2070,2071])
 exact A [3,31,3,92,62,8]
def zMn (_fu:Nat) (l1:Line) (a:Int):Option Bool:=cnd (decide (a>=0)) (some (decide (a<(l1.Todos.length:Int)))) (some false)
theorem zTL {fu:Nat} {l1:Line} {a:Int}:DD (zMn fu l1 a) 122 [.agg (zPs l1),Z a] fun r=>Y r:=by
 exact fcI Tryz.func122 U (A [73,57,93,26,7,4,3,35,3,74,107,74])
def zFU (fu:Nat) (l1:Line) (c:Int) (b:List Int) (a:Int->Option Bool):Nat->Int->Option Bool
 | 0,_=>none
 | k2+1,t5=>cnd (decide (t5<(b.length:Int))) (bnd (idx b t5) fun g=>bnd (zMn fu l1 g) fun f=>cnd (!f) (some false) (bnd (rng .i64 (t5+1)) fun d=>(zFU fu l1 c b a k2) d)) (bnd (rng .i64 (c+1)) fun e=>a e)
def zFT (fu:Nat) (l1:Line) (a:List (List Int)):Nat->Int->Option Bool
 | 0,_=>none
 | k1+1,t3=>cnd (decide (t3<((a++[l1.Back]).length:Int))) (bnd (idx (a++[l1.Back]) t3) fun b=>(zFU fu l1 t3 b (zFT fu l1 a k1)) fu 0) (some true)
def zIm (fu:Nat) (l1:Line):Option Bool:=bnd (zD9 fu l1.Stack) fun a=>bnd (zDb 24 (a.length+([l1.Back]:List (List Int)).length)) fun _=>(zFT fu l1 a) fu 0
theorem zOo {fu:Nat} {l1:Line}:DD (zIm fu l1) 72 [.agg (zPs l1)] fun r=>Y r:=by
 refine fcI Tryz.func72 U (A [9,30,1,57,6,6,52,1,1,1,1,53,9,0,1,3,0,8,24,63,127,0,202,55,1,2,16,18,4181] (fun a _=>?_) zJT [(5,2090)] [2090])
 refine vq 2 U (by kernel_rfl) (vS [22] [24,25] [12] U U (pl ([l1.Back].map zAt) 12 U U U U U U (pyq U)) U U (vU [18,24,25,4181] [26,18,4181] [2090] U U (pa zAt a ([l1.Back]:List (List Int)) U U U U U U U U (zN7 _) U U U (pyq U)) U U fun _ _=>vS [26,4181] [28] [] U U (zTu (T:=tab) zAt (a++[l1.Back]) U U U U U U U U U (pyq U)) U U (A [201,79,13] ?_)))
 refine lw (zFT fu l1 a) [1,13,14] [2090,1] (fun c=>[(15,Z c)]) (fun _=>[]) fu 0 U U ?_
 rintro h c
 refine A [75,10,2,86,59,72,9,38] fun e b=>?_
 refine zAx (T:=tab) zAt (a++[l1.Back]) e (zA0 b) U U U U U U U U (A [57,80,77,13] ?_)
 refine lw (zFU fu l1 c e (zFT fu l1 a h)) [1,13,14,15,19,20] [2090,1] (fun d=>[(21,Z d)]) (fun _=>[]) fu 0 U U ?_
 rintro i d
 refine A [75] ?_
 refine zAF U ?_ ?_
 ·refine A [72,9,36] fun k _=>?_
  refine A [2,0,99] (fun j _=>?_) zTL
  refine A [57,5,1,59,4,94] fun f _=>?_
  exact A [89] (tx f)
 ·refine A [17,94] fun g _=>?_
  exact A [89] (tx g)
def zEi (_fu:Nat) (b:zAJ) (a:Int):Option Bool:=cnd (decide (a>=0)) (some (decide (a<(b.World.Forest.Nodes.length:Int)))) (some false)
theorem zHF {fu:Nat} {b:zAJ} {a:Int}:DD (zEi fu b a) 123 [.agg (zEm b),Z a] fun r=>Y r:=by
 exact fcI Tryz.func123 U (A [73,57,93,26,7,4,105,35,3,74,109,74])
def zCS (_fu:Nat) (b:zAJ) (a:Int):Option Bool:=cnd (decide (a>=0)) (some (decide (a<(b.World.Desk.Defs.length:Int)))) (some false)
theorem zDS {fu:Nat} {b:zAJ} {a:Int}:DD (zCS fu b a) 124 [.agg (zEm b),Z a] fun r=>Y r:=by
 exact fcI Tryz.func124 U (A [73,57,93,26,7,4,105,35,3,74,109,74])
def zCu (fu:Nat) (e:zAJ) (c:State) (a d:Bool):Option Bool:=cnd d (cnd a (cnd (c.Def==(-1)) (some true) (bnd (zCS fu e c.Def) fun b=>some b)) (some false)) (some false)
def zDa (fu:Nat) (c:zAJ) (b:State) (a e:Bool):Option Bool:=cnd e (cnd a (bnd (zCS fu c b.Def) fun d=>some d) (some false)) (cnd (b.Phase==0) ((zCu fu c b a) (b.Phase==0)) (cnd (b.Phase==1) ((zCu fu c b a) (b.Phase==1)) ((zCu fu c b a) (b.Phase==4))))
def zDZ (fu:Nat) (c:zAJ) (b:State) (a:Bool):Option Bool:=cnd (b.Phase==2) ((zDa fu c b a) (b.Phase==2)) ((zDa fu c b a) (b.Phase==3))
def zFf (fu:Nat) (a:zAJ) (c:Int):Option Bool:=bnd (idx a.World.States c) fun b=>bnd (idx a.World.Forest.Nodes c) fun e=>cnd (e.Kind != 1) (some (zSJ b (⟨0,(-1),(-1),false⟩:State))) (cnd (b.Owner==(-1)) ((zDZ fu a b) true) (bnd (zEi fu a b.Owner) fun d=>(zDZ fu a b) d))
theorem zNt {fu:Nat} {d:zAJ} {g:Int}:DD (zFf fu d g) 73 [.agg (zEm d),Z g] fun r=>Y r:=by
 refine fcI Tryz.func73 U (A [73,57,76,36] fun b _=>?_)
 refine A [1,31,5,12,0,6,9,105,36] fun n _=>?_
 refine A [3,0] ?_
 refine zAF U ?_ ?_
 ·refine A [80,20] ?_
  exact po_eq zgA U U U U U U U (A [57,8])
 ·refine A [67,9] ?_
  refine zNU (zDZ fu d b) (fun (a:Bool)=>[(2,.loc 2 0),(5,.loc 5 0),(6,Y a)]) (fun (a:Bool)=>[(5,.box 53 (zBh b)),(2,.box 94 (zBd d.World))]) ?_ fun e=>?_
  ·rintro a
   refine A [7,6,62,13,6,62] ?_
   refine jw (zDa fu d b a) [2,5,6,35] [5,2] (fun h=>[(36,Y h)]) (fun _=>[]) U U ?_ fun f=>?_
   ·rintro h
    refine zJW (zAF U ?_ ?_)
    ·refine A [61,27,40,2,106,74,3,41] (fun m _=>?_) zDS
     exact A [2,74]
    ·refine A [6,62] ?_
     refine jw (zCu fu d b a) [2,5,6] [5,2] (fun i=>[(46,Y i)]) (fun _=>[]) U U ?_ fun c=>?_
     ·rintro i
      refine A [7,10,3,4,69,59,61,27,51,2,111,74,104,26,55,2,107,74,3,41] (fun k _=>?_) zDS
      exact A [3,74]
     ·refine zAF U ?_ ?_
      ·exact A [4,45] (c (b.Phase==0))
      ·refine A [62] ?_
       refine zAF U ?_ ?_
       ·exact A [4,45] (c (b.Phase==1))
       ·exact A [14,2,11,45] (c (b.Phase==4))
   ·refine zAF U ?_ ?_
    ·exact A [4,45] (f (b.Phase==2))
    ·exact A [14,2,11,45] (f (b.Phase==3))
  ·refine pq 4 U (zAY (j:=28) U ?_ ?_)
   ·exact A [106,11,45] (e true)
   ·refine A [3,41] (fun l _=>?_) zHF
    exact A [2,11,45] (e l)
def zEj (fu:Nat) (a:zAJ) (t2:Todo):Option Bool:=cnd (decide (t2.Kind>=1)) (cnd (decide (t2.Kind<9)) (some true) (cnd (t2.Kind==9) (bnd (zCS fu a t2.Def) fun b=>some b) (some false))) (cnd (t2.Kind==9) (bnd (zCS fu a t2.Def) fun c=>some c) (some false))
theorem zJ6 {fu:Nat} {a:zAJ} {t2:Todo}:DD (zEj fu a t2) 76 [.agg (zEm a),.agg (zKx t2)] fun r=>Y r:=by
 refine fcI Tryz.func76 U (A [73,30,3,57,76] ?_)
 refine zAY (j:=8) U ?_ ?_
 ·refine A [105,26,13,2,111,74,104,27,17,2,107,74,3,41] (fun b _=>?_) zDS
  exact A [3,74]
 ·refine A [109,27,17,2,107,74,3,41] (fun c _=>?_) zDS
  exact A [3,74]
def zCT (fu:Nat) (c:Todo) (a:zAJ):Option Bool:=bnd (zEj fu a c) fun b=>some (!b)
theorem zMa {fu:Nat} {b:Todo} {a:zAJ}:FF (zCT fu b a) 75 [.agg (zKx b),.loc 900000 0] [(900000,.box 94 (zBd a.World))] [900000] (fun r=>Y r) fun _=>[(900000,.box 94 (zBd a.World))]:=by
 refine fcI Tryz.func75 U (A [73,57,99] (fun c _=>?_) zJ6)
 exact A [2,74]
def zBH (b:Todo->Option Bool) (a:List Todo):Nat->Int->Option Int
 | 0,_=>none
 | k1+1,t3=>cnd (decide (t3<(a.length:Int))) (bnd (idx a t3) fun e=>bnd (b e) fun d=>cnd d (some t3) (bnd (rng .i64 (t3+1)) fun c=>(zBH b a k1) c)) (some (-1))
def zEM (fu:Nat) (b:Todo->Option Bool) (a:List Todo):Option Int:=(zBH b a) fu 0
theorem zJ2 {fu:Nat} {b:List Todo} {a:zAJ}:FF (zEM fu (fun c=>zCT fu c a) b) 125 [.sl 10 false (b.map zKx),.fn (.func 75) [] [.loc 900000 0]] [(900000,.box 94 (zBd a.World))] [900000] (fun r=>Z r) fun _=>[(900000,.box 94 (zBd a.World))]:=by
 refine fcI Tryz.func125 U (A [75,80,77,13] ?_)
 refine lw (zBH (fun c=>zCT fu c a) b) [0,1,7] [900000] (fun d=>[(8,Z d)]) (fun _=>[]) fu 0 U U ?_
 rintro f d
 refine A [75,10,2,86,59,72,62,93,36] fun h _=>?_
 refine A [1,44] (fun g _=>?_) zMa [(900000,900000)]
 refine A [0,5,2,62,8,4,94] fun e _=>?_
 exact A [89] (tx e)
def zCJ (fu:Nat) (c:Todo->Option Bool) (b:List Todo):Option Bool:=bnd (zEM fu c b) fun a=>some (decide (a>=0))
theorem zI1 {fu:Nat} {b:List Todo} {a:zAJ}:FF (zCJ fu (fun c=>zCT fu c a) b) 74 [.sl 10 false (b.map zKx),.fn (.func 75) [] [.loc 900000 0]] [(900000,.box 94 (zBd a.World))] [900000] (fun r=>Y r) fun _=>[(900000,.box 94 (zBd a.World))]:=by
 refine fcI Tryz.func74 U (A [58,61,44] (fun d _=>?_) zJ2 [(900000,900000)])
 exact A [2,74]
def zF0 (fu:Nat) (b:zAJ) (t2:Task):Option Bool:=cnd (t2.Kind==1) (cnd (t2.Ticket==0) (some (t2.Def==0)) (some false)) (cnd (t2.Kind==2) (cnd (decide (t2.Ticket>=0)) (bnd (zCS fu b t2.Def) fun a=>some a) (some false)) (some false))
theorem zOQ {fu:Nat} {a:zAJ} {t2:Task}:DD (zF0 fu a t2) 79 [.agg (zEm a),.agg (zJQ t2)] fun r=>Y r:=by
 refine fcI Tryz.func79 U (A [73,30,3,57,6,62,13,62,5,8,76,26,12,2,105,74,105,74,62,10,3,4,69,59,76,27,22,2,106,74,3,41] (fun b _=>?_) zDS)
 exact A [2,74]
def zCU (fu:Nat) (c:Task) (a:zAJ):Option Bool:=bnd (zF0 fu a c) fun b=>some (!b)
theorem zMb {fu:Nat} {b:Task} {a:zAJ}:FF (zCU fu b a) 78 [.agg (zJQ b),.loc 900000 0] [(900000,.box 94 (zBd a.World))] [900000] (fun r=>Y r) fun _=>[(900000,.box 94 (zBd a.World))]:=by
 refine fcI Tryz.func78 U (A [73,57,99] (fun c _=>?_) zOQ)
 exact A [2,74]
def zBG (b:Task->Option Bool) (a:List Task):Nat->Int->Option Int
 | 0,_=>none
 | k1+1,t3=>cnd (decide (t3<(a.length:Int))) (bnd (idx a t3) fun e=>bnd (b e) fun d=>cnd d (some t3) (bnd (rng .i64 (t3+1)) fun c=>(zBG b a k1) c)) (some (-1))
def zEL (fu:Nat) (b:Task->Option Bool) (a:List Task):Option Int:=(zBG b a) fu 0
theorem zJ1 {fu:Nat} {b:List Task} {a:zAJ}:FF (zEL fu (fun c=>zCU fu c a) b) 126 [.sl 3 false (b.map zJQ),.fn (.func 78) [] [.loc 900000 0]] [(900000,.box 94 (zBd a.World))] [900000] (fun r=>Z r) fun _=>[(900000,.box 94 (zBd a.World))]:=by
 refine fcI Tryz.func126 U (A [75,80,77,13] ?_)
 refine lw (zBG (fun c=>zCU fu c a) b) [0,1,7] [900000] (fun d=>[(8,Z d)]) (fun _=>[]) fu 0 U U ?_
 rintro f d
 refine A [75,10,2,86,59,72,62,93,36] fun h _=>?_
 refine A [1,44] (fun g _=>?_) zMb [(900000,900000)]
 refine A [0,5,2,62,8,4,94] fun e _=>?_
 exact A [89] (tx e)
def zCI (fu:Nat) (c:Task->Option Bool) (b:List Task):Option Bool:=bnd (zEL fu c b) fun a=>some (decide (a>=0))
theorem zI0 {fu:Nat} {b:List Task} {a:zAJ}:FF (zCI fu (fun c=>zCU fu c a) b) 77 [.sl 3 false (b.map zJQ),.fn (.func 78) [] [.loc 900000 0]] [(900000,.box 94 (zBd a.World))] [900000] (fun r=>Y r) fun _=>[(900000,.box 94 (zBd a.World))]:=by
 refine fcI Tryz.func77 U (A [58,61,44] (fun d _=>?_) zJ1 [(900000,900000)])
 exact A [2,74]
def zDY (fu:Nat) (d:zAJ) (b:Build) (a:Bool):Option Bool:=bnd (zCS fu d b.Def) fun c=>cnd c (cnd (b.Node==(-4)) (some true) (some a)) (some false)
def zFe (fu:Nat) (b:zAJ) (a:Build):Option Bool:=bnd (zEi fu b a.Node) fun c=>cnd c (bnd (idx b.World.Forest.Nodes a.Node) fun d=>(zDY fu b a) (d.Kind==1)) ((zDY fu b a) false)
theorem zNs {fu:Nat} {d:zAJ} {c:Build}:DD (zFe fu d c) 82 [.agg (zEm d),.agg (zI7 c)] fun r=>Y r:=by
 refine fcI Tryz.func82 U (A [73,30,3,57,9] ?_)
 refine zNU (zDY fu d c) (fun (a:Bool)=>[(2,.loc 2 0),(3,.loc 3 0),(5,Y a)]) (fun (a:Bool)=>[(3,.box 104 (zI7 c)),(2,.box 94 (zBd d.World))]) ?_ fun b=>?_
 ·rintro a
  refine A [7,93,41] (fun g _=>?_) zDS
  exact A [1,26,26,8,104,26,30,2,104,74,104,74,108,74]
 ·refine A [3,41] (fun f _=>?_) zHF
  refine pq 1 U (zAY (j:=10) U ?_ ?_)
  ·refine A [106,36] fun e _=>?_
   exact A [105,11,45] (b (e.Kind==1))
  ·exact A [112,11,45] (b false)
def zCV (fu:Nat) (a:Build) (b:zAJ):Option Bool:=bnd (zFe fu b a) fun c=>some (!c)
theorem zMc {fu:Nat} {b:Build} {a:zAJ}:FF (zCV fu b a) 81 [.agg (zI7 b),.loc 900000 0] [(900000,.box 94 (zBd a.World))] [900000] (fun r=>Y r) fun _=>[(900000,.box 94 (zBd a.World))]:=by
 refine fcI Tryz.func81 U (A [73,57,99] (fun c _=>?_) zNs)
 exact A [2,74]
def zA3 (b:Build->Option Bool) (a:List Build):Nat->Int->Option Int
 | 0,_=>none
 | k1+1,t3=>cnd (decide (t3<(a.length:Int))) (bnd (idx a t3) fun e=>bnd (b e) fun d=>cnd d (some t3) (bnd (rng .i64 (t3+1)) fun c=>(zA3 b a k1) c)) (some (-1))
def zEA (fu:Nat) (b:Build->Option Bool) (a:List Build):Option Int:=(zA3 b a) fu 0
theorem zJd {fu:Nat} {b:List Build} {a:zAJ}:FF (zEA fu (fun c=>zCV fu c a) b) 127 [.sl 2 false (b.map zI7),.fn (.func 81) [] [.loc 900000 0]] [(900000,.box 94 (zBd a.World))] [900000] (fun r=>Z r) fun _=>[(900000,.box 94 (zBd a.World))]:=by
 refine fcI Tryz.func127 U (A [75,80,77,13] ?_)
 refine lw (zA3 (fun c=>zCV fu c a) b) [0,1,7] [900000] (fun d=>[(8,Z d)]) (fun _=>[]) fu 0 U U ?_
 rintro f d
 refine A [75,10,2,86,59,72,62,93,36] fun h _=>?_
 refine A [1,44] (fun g _=>?_) zMc [(900000,900000)]
 refine A [0,5,2,62,8,4,94] fun e _=>?_
 exact A [89] (tx e)
def zB5 (fu:Nat) (c:Build->Option Bool) (b:List Build):Option Bool:=bnd (zEA fu c b) fun a=>some (decide (a>=0))
theorem zIK {fu:Nat} {b:List Build} {a:zAJ}:FF (zB5 fu (fun c=>zCV fu c a) b) 80 [.sl 2 false (b.map zI7),.fn (.func 81) [] [.loc 900000 0]] [(900000,.box 94 (zBd a.World))] [900000] (fun r=>Y r) fun _=>[(900000,.box 94 (zBd a.World))]:=by
 refine fcI Tryz.func80 U (A [58,61,44] (fun d _=>?_) zJd [(900000,900000)])
 exact A [2,74]
def zB3 (fu:Nat) (a:zAJ):Nat->Int->Option Bool
 | 0,_=>none
 | k1+1,t6=>cnd (decide (t6<(a.World.Line.Todos.length:Int))) (bnd (idx a.World.Line.Todos t6) fun h=>bnd (zFf fu a t6) fun f=>cnd (!f) (some false) (bnd (zCJ fu (fun b=>zCT fu b a) h) fun g=>cnd g (some false) (bnd (rng .i64 (t6+1)) fun c=>(zB3 fu a k1) c))) (bnd (zCI fu (fun b=>zCU fu b a) a.World.Tasks) fun d=>cnd (!d) (bnd (zB5 fu (fun b=>zCV fu b a) a.World.Builds) fun e=>some (!e)) (some false))
def zDA (fu:Nat) (a:zAJ):Option Bool:=cnd ((a.World.States.length:Int) != (a.World.Forest.Nodes.length:Int)) (some false) (cnd ((a.World.Line.Todos.length:Int) != (a.World.Forest.Nodes.length:Int)) (some false) (bnd (zEg fu a) fun b=>cnd (!b) (some false) (bnd (zAu fu a.World.Forest) fun c=>cnd (!c) (some false) (bnd (zHK fu a.World.Desk) fun d=>cnd (!d) (some false) (bnd (zIm fu a.World.Line) fun e=>cnd (!e) (some false) ((zB3 fu a) fu 0))))))
theorem zGk {fu:Nat} {b:zAJ}:DD (zDA fu b) 36 [.agg (zEm b)] fun r=>Y r:=by
 refine fcI Tryz.func36 U (A [9,30,1,57,76,77,6,93,35,3,26,17,2,134,83,104,35,104,26,26,2,125,83,1,41] (fun g _=>?_) zMY)
 refine A [3,26,31,2,120,83,3,41] (fun h _=>?_) zBB
 refine A [3,26,38,2,113,83,3,41] (fun i _=>?_) zLm
 refine A [3,26,45,2,106,83,3,41] (fun j _=>?_) zOo
 refine A [2,0,5,1,59,68,76,77,13] ?_
 refine lw (zB3 fu b) [1,55,56] [1] (fun c=>[(57,Z c)]) (fun _=>[]) fu 0 U U ?_
 rintro f c
 refine A [75] ?_
 refine zAF U ?_ ?_
 ·refine A [72,80,36] fun m _=>?_
  refine A [3,0,99] (fun k _=>?_) zNt
  refine A [2,26,66,2,104,83,2,44] (fun l _=>?_) zI1 [(900000,1)]
  refine A [57,5,1,59,4,94] fun a _=>?_
  exact A [89] (tx a)
 ·refine A [86,76,44] (fun d _=>?_) zI0 [(900000,1)]
  refine A [2,27,78,2,108,74,104,44] (fun e _=>?_) zIK [(900000,1)]
  exact A [3,74]
def zGW (fu:Nat) (b:World):Option Bool:=bnd (zDA fu (⟨b⟩:zAJ)) fun a=>some a
theorem zKw {fu:Nat} {a:World}:DD (zGW fu a) 10 [.agg (zBd a)] fun r=>Y r:=by
 refine fcI Tryz.func10 U (A [9,30,1,57,80,20,41] (fun b _=>?_) zGk)
 exact A [57,8]
def zR1 (fu:Nat) (a:List Class) (b:Int):Option (World×Int):=bnd (zQN fu b) fun c=>bnd (zI6 fu (⟨0,[],[],[],[],0,[],0,0,0⟩:Node)) fun d=>bnd (zJu fu (⟨[],[],[],false⟩:Line)) fun e=>bnd (zHn fu a) fun f=>cnd (c.2 != 0) (some ((⟨(⟨[],0⟩:Forest),[],(⟨[],[],0,false⟩:Desk),(⟨[],[],[],false⟩:Line),[],[],[]⟩:World),1)) (bnd (zGW fu (⟨c.1,[d],(⟨[],[],0,false⟩:Desk),e,[],[],f⟩:World)) fun g=>cnd (!g) (some ((⟨(⟨[],0⟩:Forest),[],(⟨[],[],0,false⟩:Desk),(⟨[],[],[],false⟩:Line),[],[],[]⟩:World),1)) (some ((⟨c.1,[d],(⟨[],[],0,false⟩:Desk),e,[],[],f⟩:World),0)))
theorem zVm {fu:Nat} {a:List Class} {b:Int}:DD (zR1 fu a b) 30 [.sl 5 false (a.map zBk),Z b] fun r=>.tup [.agg (zBd r.1),Z r.2]:=by
 refine fcI Tryz.func30 U fun {_ _ _ _ _}=>?_
 refine A [9,31,4,57,80,41] (fun e _=>?_) zUI
 refine A [3,31,6,92,6,52,4,2,0,4,6,7,6,4,53,11,0,0,2,6,0,22,0,118,255,0,1023,201,51,0,1,30] ?_
 refine vT [30] [32] [] U U (zK3 (enc:=fun (d:State)=>.agg (zBh d)) (qs:=[.agg (zAZ (⟨0,[],[],[],[],0,[],0,0,0⟩:Node))]) zO0 U U ⟨⟨_,U,(.agg ⟨.rfl,.rfl,.rfl,.rfl,.nil,.rfl,.nil,.rfl,.rfl,.rfl,trivial⟩)⟩,trivial⟩ (fun _=>U) call66 U U fun d _=>pzq U) (fun _=>U) (fun _=>U) fun d _=>?_
 refine vS [32] [34,35] [17] U U (pl ([d].map zBh) 17 U U U U U U (pyq U)) U U ?_
 refine vS [] [36] [] U U (zPY (T:=tab) U U U U U U U (pyq U)) U U ?_
 refine vT [36] [38] [] U U (zK3 (enc:=fun (c:Line)=>.agg (zPs c)) (qs:=[.agg (zPs (⟨[],[],[],false⟩:Line))]) zQQ U U ⟨⟨_,U,(.agg ⟨.nil,.nil,.nil,.rfl,trivial⟩)⟩,trivial⟩ (fun _=>U) call67 U U fun c _=>pzq U) (fun _=>U) (fun _=>U) fun c _=>?_
 refine A [201,55,1,2,40,42,4421] (fun f _=>?_) zLE [(5,2210)] [2210]
 refine vS [28,34,35,38,42,4421] [44] [] U U (zPY (T:=tab) U U U U U U U (pyq U)) U U ?_
 refine vS [] [16,17] [8] U U (zGd (T:=tab) 8 U U U U U U U U U (pyq U)) U U ?_
 refine A [50,5,1,16,17,35,44,4421,17,79,6,93] ?_
 refine zAY (j:=25) U ?_ ?_
 ·refine A [104,65,9,20,92] ?_
  refine zGM 4 [.sl 10 false ([].map zAZ),Z 0,.sl 4 false ([].map zBh),.sl 3 false ([].map zQ3),.sl 2 false ([].map zJg),Z 0,Y false,.sl 1 false ([].map zDi),.sl 1 false ([].map zAt),.sl 1 false ([].map zAB),Y false,.sl 3 false ([].map zJQ),.sl 2 false ([].map zI7),.sl 5 false ([].map zBk)] U ⟨.nil,.rfl,.nil,.nil,.nil,.rfl,.rfl,.nil,.nil,.nil,.rfl,.nil,.nil,.nil,trivial⟩ U ?_
  exact rN
 ·refine A [1,33,17,33,2210] ?_
  refine zK3 (enc:=fun (g:Bool)=>Y g) (qs:=[.agg (zBd (⟨e.1,[d],(⟨[],[],0,false⟩:Desk),c,[],[],f⟩:World))]) zKw U U ⟨⟨_,U,(.agg ⟨.rfl,.rfl,.rfl,.nil,.nil,.rfl,.rfl,.rfl,.rfl,.rfl,.rfl,.nil,.nil,.rfl,trivial⟩)⟩,trivial⟩ (fun _=>U) call10 U U fun g _=>?_
  refine A [2,0] ?_
  refine zAF U ?_ ?_
  ·refine A [9,20,92] ?_
   refine zGM 4 [.sl 10 false ([].map zAZ),Z 0,.sl 4 false ([].map zBh),.sl 3 false ([].map zQ3),.sl 2 false ([].map zJg),Z 0,Y false,.sl 1 false ([].map zDi),.sl 1 false ([].map zAt),.sl 1 false ([].map zAB),Y false,.sl 3 false ([].map zJQ),.sl 2 false ([].map zI7),.sl 5 false ([].map zBk)] U ⟨.nil,.rfl,.nil,.nil,.nil,.rfl,.rfl,.nil,.nil,.nil,.rfl,.nil,.nil,.nil,trivial⟩ U ?_
   exact rN
  ·refine A [67,80,92] ?_
   refine zGM 4 [.sl 10 false (e.1.Nodes.map zAZ),Z e.1.Most,.sl 4 false ([d].map zBh),.sl 3 false ([].map zQ3),.sl 2 false ([].map zJg),Z 0,Y false,.sl 1 false (c.Todos.map zDi),.sl 1 false (c.Stack.map zAt),.sl 1 false (c.Back.map zAB),Y c.Busy,.sl 3 false ([].map zJQ),.sl 2 false ([].map zI7),.sl 5 false (f.map zBk)] U ⟨.rfl,.rfl,.rfl,.nil,.nil,.rfl,.rfl,.rfl,.rfl,.rfl,.rfl,.nil,.nil,.rfl,trivial⟩ U ?_
   exact rN
def zHN (fu:Nat):Option (List Bs):=bnd (zRO fu ([45,32,110,101,119,32,100,114,97,102,116,32,116,101,120,116,32,102,114,97,103,32,115,104,97,100,101,32,112,117,116,32,111,117,116,32,115,119,97,112,32,115,101,116,32,117,110,115,101,116,32,116,111,103,103,108,101,32,99,111,112,121,32,116,97,107,101,32,101,109,112,116,121,32,106,111,105,110,32,100,101,102,105,110,101,32,119,97,105,116,32,117,112,103,114,97,100,101,32,98,117,105,108,100,32,115,117,112,101,114,32,103,105,118,101,32,116,104,114,111,119,32,114,101,115,101,116,32,114,101,115,116,111,114,101,32,114,101,115,116,32,104,97,110,100,112,117,116,32,104,97,110,100,111,117,116,32,104,97,110,100,115,101,116]:Bs)) fun a=>some a
theorem zXJ {fu:Nat}:DD (zHN fu) 151 [] fun r=>.sl 1 false (r.map zRM):=by
 refine fcI Tryz.func151 U (A [58,9] ?_)
 exact pk (zWB fu ([45,32,110,101,119,32,100,114,97,102,116,32,116,101,120,116,32,102,114,97,103,32,115,104,97,100,101,32,112,117,116,32,111,117,116,32,115,119,97,112,32,115,101,116,32,117,110,115,101,116,32,116,111,103,103,108,101,32,99,111,112,121,32,116,97,107,101,32,101,109,112,116,121,32,106,111,105,110,32,100,101,102,105,110,101,32,119,97,105,116,32,117,112,103,114,97,100,101,32,98,117,105,108,100,32,115,117,112,101,114,32,103,105,118,101,32,116,104,114,111,119,32,114,101,115,101,116,32,114,101,115,116,111,114,101,32,114,101,115,116,32,104,97,110,100,112,117,116,32,104,97,110,100,111,117,116,32,104,97,110,100,115,101,116]:Bs)) U U fun a _=>A [57,8]
def zEZ (fu:Nat) (a:Int):Option Bs:=bnd (zHN fu) fun b=>cnd (decide (a>0)) (cnd (decide (a<(b.length:Int))) (bnd (idx b a) fun c=>some c) (some [])) (some [])
theorem zE7 {fu:Nat} {a:Int}:DD (zEZ fu a) 89 [Z a] fun r=>O r:=by
 refine fcI Tryz.func89 U (A [75,9] ?_)
 refine zK3 (enc:=fun (b:(List Bs))=>.sl 1 false (b.map zRM)) (qs:=[]) zXJ U U trivial (fun _=>U) zgr U U fun b _=>A [57,93,27,7,5,105,11,24,67,59,2,35,2,0,10,2,67,59,61,36] fun c _=>?_
 exact A [2,74]
def zIu (fu:Nat) (a:Int) (d:Bool):Option (zDI×Bool):=cnd d (bnd (zEZ fu a) fun c=>some ((⟨c,[46,46,46,46,46]⟩:zDI),true)) (bnd (zEZ fu a) fun b=>cnd (decide (a>0)) (some ((⟨b,[110,46,46,46,46]⟩:zDI),(decide (a<=28)))) (some ((⟨b,[110,46,46,46,46]⟩:zDI),false)))
def zIt (fu:Nat) (a:Int) (i:Bool):Option (zDI×Bool):=cnd i (bnd (zEZ fu a) fun f=>some ((⟨f,[110,110,111,46,46]⟩:zDI),true)) (cnd (a==11) (bnd (zEZ fu a) fun g=>some ((⟨g,[110,105,46,115,46]⟩:zDI),true)) (cnd (a==12) (bnd (zEZ fu a) fun h=>some ((⟨h,[110,105,110,46,46]⟩:zDI),true)) (cnd (a==13) (bnd (zEZ fu a) fun b=>some ((⟨b,[110,110,46,46,46]⟩:zDI),true)) (cnd (a==16) (bnd (zEZ fu a) fun c=>some ((⟨c,[105,46,46,115,115]⟩:zDI),true)) (cnd (a==17) (bnd (zEZ fu a) fun d=>some ((⟨d,[46,46,46,115,46]⟩:zDI),true)) (cnd (a==19) (bnd (zEZ fu a) fun e=>some ((⟨e,[105,46,46,46,46]⟩:zDI),true)) (cnd (a==20) ((zIu fu a) (a==20)) (cnd (a==22) ((zIu fu a) (a==22)) ((zIu fu a) (a==25))))))))))
def zIs (fu:Nat) (a:Int) (c:Bool):Option (zDI×Bool):=cnd c (bnd (zEZ fu a) fun b=>some ((⟨b,[110,46,46,115,46]⟩:zDI),true)) (cnd (a==6) ((zIt fu a) (a==6)) (cnd (a==8) ((zIt fu a) (a==8)) ((zIt fu a) (a==26))))
def zHM (fu:Nat) (a:Int) (t2:Bool):Option (zDI×Bool):=cnd t2 (bnd (zEZ fu a) fun b=>some ((⟨b,[110,46,46,115,115]⟩:zDI),true)) (cnd (a==3) ((zIs fu a) (a==3)) (cnd (a==10) ((zIs fu a) (a==10)) ((zIs fu a) (a==24))))
def zJx (fu:Nat) (a:Int):Option (zDI×Bool):=cnd (a==1) ((zHM fu a) (a==1)) (cnd (a==2) ((zHM fu a) (a==2)) (cnd (a==9) ((zHM fu a) (a==9)) ((zHM fu a) (a==28))))
end Go.Proofs.YtmfbghpealgaiaaGreatDoor
