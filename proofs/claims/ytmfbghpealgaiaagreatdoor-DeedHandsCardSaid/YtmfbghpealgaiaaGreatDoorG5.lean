/- Models and proofs, printed by emit2.py. -/
import Derived.Test.YtmfbghpealgaiaaGreatDoorG4
namespace Go.Proofs.YtmfbghpealgaiaaGreatDoor
open Go Go.Pw
set_option maxRecDepth 100000
set_option maxHeartbeats 10000000
set_option linter.unusedVariables false
theorem zJi {fu:Nat} {b:List Int} {a:Forest}:FF (zAS fu (fun c=>zDC fu c a) b) 227 [.sl 1 false (b.map zAB),.fn (.func 287) [] [.loc 900000 0]] [(900000,.box 24 (zAD a))] [900000] (fun r=>Z r) fun _=>[(900000,.box 24 (zAD a))]:=by
 refine fcI Tryz.func227 U (A [75,80,77,13] ?_)
 refine lw (zAH (fun c=>zDC fu c a) b) [0,1,7] [900000] (fun d=>[(8,Z d)]) (fun _=>[]) fu 0 U U ?_
 rintro f d
 refine A [75,10,2,86,59,72,62,93,36] fun h _=>?_
 refine A [1,44] (fun g _=>?_) zP0 [(900000,900000)]
 refine A [0,5,2,62,8,4,94] fun e _=>?_
 exact A [89] (tx e)
def zIr (fu:Nat) (a:Forest) (d:Int):Option Int:=bnd (idx a.Nodes d) fun c=>bnd (zAS fu (fun f=>zDC fu f a) c.Kids) fun b=>cnd (decide (b<0)) (some (-1)) (bnd (idx c.Kids b) fun e=>some e)
theorem zR6 {fu:Nat} {a:Forest} {b:Int}:DD (zIr fu a b) 283 [.agg (zAD a),Z b] fun r=>Z r:=by
 refine fcI Tryz.func283 U (A [73,57,93,36] fun d _=>?_)
 refine A [3,0,61,44] (fun c _=>?_) zJi [(900000,2)]
 refine A [57,6,62,5,1,59,67,61,36] fun e _=>?_
 exact A [2,74]
def zCY (fu:Nat) (a:Forest):Nat->Int×Int->Option Bool
 | 0,_=>none
 | k1+1,(by8,p9)=>cnd (p9 != (-1)) (bnd (idx a.Nodes p9) fun b=>cnd (b.Name==([102,105,101,108,100,115,101,116]:Bs)) (bnd (zFd fu b) fun c=>cnd c (bnd (zIr fu a p9) fun d=>cnd (d != by8) (some true) (bnd (idx a.Nodes p9) fun e=>(zCY fu a k1) (p9,e.Parent))) (bnd (idx a.Nodes p9) fun f=>(zCY fu a k1) (p9,f.Parent))) (bnd (idx a.Nodes p9) fun g=>(zCY fu a k1) (p9,g.Parent))) (some false)
def zIq (fu:Nat) (a:Forest) (b:Int):Option Bool:=bnd (idx a.Nodes b) fun d=>bnd (zFd fu d) fun c=>cnd c (bnd (idx a.Nodes b) fun e=>some (e.Kind==1)) (bnd (idx a.Nodes b) fun f=>cnd (f.Kind != 1) (some false) (bnd (idx a.Nodes b) fun g=>(zCY fu a) fu (b,g.Parent)))
theorem zR5 {fu:Nat} {a:Forest} {g:Int}:DD (zIq fu a g) 264 [.agg (zAD a),Z g] fun r=>Y r:=by
 refine fcI Tryz.func264 U (A [73,57,6,93,36] fun o _=>?_)
 refine A [1,41] (fun n _=>?_) zLd
 refine ns (zAE U ?_ ?_)
 ·refine A [93,36] fun p _=>?_
  exact A [104,74]
 ·refine A [68,93,36] fun q _=>?_
  refine A [3,0,5,1,59,67,62,6,93,36] fun l _=>?_
  refine A [3,0,13] ?_
  refine lw (zCY fu a) [2] [2] (fun (b,c)=>[(5,Z b),(6,Z c)]) (fun _=>[]) fu (g,l.Parent) U U ?_
  rintro m ⟨b,c⟩
  refine A [6,62,10,2,86,59,72,93,36] fun k _=>?_
  refine A [1,31,7,12,0,76] ?_
  refine zAT (j:=52) U ?_ ?_
  ·refine A [1,41] (fun h _=>?_) zLd
   refine pq 2 U (zAT (j:=56) U ?_ ?_)
   ·refine A [2,41] (fun i _=>?_) zR6
    refine A [3,0,5,1,59,4,69,52,2,1,2,6,2,53,9,0,0,2,0,14,30,62,1,255,204] ?_
    exact vT [78,80] [82] [] U U (zBE (T:=tab) zAX a.Nodes U U U U U U U fun d _=>pzq U) (fun _=>U) (fun _=>U) fun d _=>A [204,19,46] (tx (c,d.Parent))
   ·refine A [106,11,24,4,69,52,2,1,2,6,2,53,9,0,0,2,0,14,30,62,1,255,204] ?_
    exact vT [78,80] [82] [] U U (zBE (T:=tab) zAX a.Nodes U U U U U U U fun e _=>pzq U) (fun _=>U) (fun _=>U) fun e _=>A [204,19,46] (tx (c,e.Parent))
  ·refine A [110,11,24,4,69,52,2,1,2,6,2,53,9,0,0,2,0,14,30,62,1,255,204] ?_
   exact vT [78,80] [82] [] U U (zBE (T:=tab) zAX a.Nodes U U U U U U U fun f _=>pzq U) (fun _=>U) (fun _=>U) fun f _=>A [204,19,46] (tx (c,f.Parent))
def zGu (fu:Nat) (a:Forest) (b:Int):Option Bool:=cnd (decide (b>=0)) (cnd (decide (b<(a.Nodes.length:Int))) (bnd (zAo fu a) fun c=>cnd c (bnd (zIq fu a b) fun d=>some d) (some false)) (some false)) (some false)
theorem zNK {fu:Nat} {a:Forest} {b:Int}:DD (zGu fu a b) 218 [.agg (zAD a),Z b] fun r=>Y r:=by
 refine fcI Tryz.func218 U (A [73,57,93,27,7,2,116,74,3,35,3,27,14,2,109,74,1,41] (fun c _=>?_) zA3)
 refine A [2,27,18,2,105,74,2,41] (fun d _=>?_) zR5
 exact A [2,74]
def zDe (fu:Nat) (e:Forest) (c:Unit×Bool×(List Node)×Int×(List Def)×(List Wait)×Int×Bool×(List Class)×(List State)×(List Due)) (h:List Int):Nat->Int×(List State)×(List Due)->Option ((List State)×(List Due))
 | 0,_=>none
 | k1+1,(t7,l8,l9)=>cnd (decide (t7<(h.length:Int))) (bnd (idx h t7) fun b=>bnd (zDH fu t7 c.2.2.1 c.2.2.2.2.1 c.2.2.2.2.2.1 c.2.2.2.2.2.2.1 c.2.2.2.2.2.2.2.1 c.2.2.2.2.2.2.2.2.1 l8) fun d=>cnd (!d.2) (bnd (rng .i64 (t7+1)) fun j=>(zDe fu e c h k1) (j,l8,l9)) (bnd (idx l8 t7) fun a=>cnd (a.Owner != b) (bnd (zCq fu d.1 t7 (⟨5,0,[],false,false,[],[],a.Owner,b,false⟩:Todo) l9) fun i=>bnd (zGu fu e t7) fun f=>cnd (!(f==({a with Owner:=b}:State).Barred)) (bnd (zCq fu d.1 t7 (⟨6,0,[],false,false,[],[],0,0,f⟩:Todo) i) fun o=>bnd (rng .i64 (t7+1)) fun k=>(zDe fu e c h k1) (k,((l8.set (t7).toNat ({a with Owner:=b}:State)).set (t7).toNat ({({a with Owner:=b}:State) with Barred:=f}:State)),o)) (bnd (rng .i64 (t7+1)) fun l=>(zDe fu e c h k1) (l,(l8.set (t7).toNat ({a with Owner:=b}:State)),i))) (bnd (zGu fu e t7) fun g=>cnd (!(g==a.Barred)) (bnd (zCq fu d.1 t7 (⟨6,0,[],false,false,[],[],0,0,g⟩:Todo) l9) fun p=>bnd (rng .i64 (t7+1)) fun m=>(zDe fu e c h k1) (m,(l8.set (t7).toNat ({a with Barred:=g}:State)),p)) (bnd (rng .i64 (t7+1)) fun n=>(zDe fu e c h k1) (n,l8,l9))))) (some (l8,l9))
def zI8 (fu:Nat) (d:Forest) (b:List State) (e:Desk) (a:List Class):Option ((List State)×(List Due)):=bnd (zHZ fu d b e a) fun c=>cnd (!c.2.1) (some (c.2.2.2.2.2.2.2.2.2.1,[])) (bnd (zLA fu d) fun f=>(zDe fu d c f) fu (0,c.2.2.2.2.2.2.2.2.2.1,c.2.2.2.2.2.2.2.2.2.2))
theorem zUZ {fu:Nat} {k:Forest} {e:List State} {w:Desk} {b:List Class}:DD (zI8 fu k e w b) 148 [.agg (zAD k),.sl 4 false (e.map zBN),.agg (zIP w),.sl 5 false (b.map zBb)] fun r=>.tup [.sl 4 false (r.1.map zBN),.sl 11 false (r.2.map zI3)]:=by
 refine fcI Tryz.func148 U (A [9,30,4,30,6,2,0,76,43] (fun v _=>?_) zLz [(17,2102400),(2130,2102401),(31708,2102402)] [2102400,2102401,2102402])
 refine A [105,0,6,62] ?_
 refine zAE U ?_ ?_
 ·refine A [9,106,0,34,2102401] ?_
  exact zHL 9 (q:=.sl 11 false ([].map zI3)) U .nil rN
 ·refine A [68,80,41] (fun y _=>?_) zUd
  refine A [77,13] ?_
  refine lw (zDe fu k v y) [4,10,34,35] [2102400,4] (fun (g,f,h)=>[(36,Z g)]) (fun (g,f,h)=>[(2102401,.arr 53 4 (f.map zBN)),(2102402,.arr 171 11 (h.map zI3))]) fu (0,v.2.2.2.2.2.2.2.2.2.1,v.2.2.2.2.2.2.2.2.2.2) U U ?_
  rintro z ⟨g,f,h⟩
  refine A [75,10,28,86,6,52,1,3,10,2102400,2102401,2102402,53,10,0,1,3,7,0,16,48,112,15,511,210,79,34,2102401,34,2102402,8,72,80,36] fun d _=>?_
  refine A [3,0,61,44] (fun x _=>?_) zGY [(900000,2102400),(900001,2102401),(900002,2102402)]
  refine A [3,31,14,92,6,62] ?_
  refine zAE U ?_ ?_
  ·refine A [86,14,16] fun l _=>?_
   exact A [89] (tx (l,f,h))
  ·refine A [67,9,105,38] fun a c=>?_
   refine A [57,6,93] ?_
   refine zAr (T:=tab) zBN f a (zAu c) U U U U U U U U (A [57,93,0] ?_)
   refine zAE U ?_ ?_
   ·refine A [76] ?_
    refine zCr (T:=tab) zBN f a ({a with Owner:=d}:State) (zAu c) U U U U U U U U U U U U U (A [0,14,105,20,43] (fun s _=>?_) zEj [(900000,2102400),(900001,2102401),(900002,2102402)] [2102402])
    refine A [0,99] (fun i _=>?_) zNK
    refine A [57,76] ?_
    refine zAr (T:=tab) zBN (f.set (g).toNat ({a with Owner:=d}:State)) ({a with Owner:=d}:State) (zev (zAu c)) U U U U U U U U (A [57] ?_)
    refine zAE U ?_ ?_
    ·refine A [76] ?_
     refine zCr (T:=tab) zBN (f.set (g).toNat ({a with Owner:=d}:State)) ({a with Owner:=d}:State) ({({a with Owner:=d}:State) with Barred:=i}:State) (zev (zAu c)) U U U U U U U U U U U U U (A [0,14,104,20,43] (fun t _=>?_) zEj [(900000,2102400),(900001,2102401),(900002,2102402)] [2102402])
     refine A [11,94] fun m _=>?_
     exact A [89] (tx (m,((f.set (g).toNat ({a with Owner:=d}:State)).set (g).toNat ({({a with Owner:=d}:State) with Barred:=i}:State)),t))
    ·refine A [4,94] fun n _=>?_
     exact A [89] (tx (n,(f.set (g).toNat ({a with Owner:=d}:State)),s))
   ·refine A [67,99] (fun j _=>?_) zNK
    refine A [57,76] ?_
    refine zAr (T:=tab) zBN f a (zAu c) U U U U U U U U (A [57] ?_)
    refine zAE U ?_ ?_
    ·refine A [76] ?_
     refine zCr (T:=tab) zBN f a ({a with Barred:=j}:State) (zAu c) U U U U U U U U U U U U U (A [0,14,104,20,43] (fun u _=>?_) zEj [(900000,2102400),(900001,2102401),(900002,2102402)] [2102402])
     refine A [11,94] fun o _=>?_
     exact A [89] (tx (o,(f.set (g).toNat ({a with Barred:=j}:State)),u))
    ·refine A [4,94] fun p _=>?_
     exact A [89] (tx (p,f,h))
def zF0 (fu:Nat) (g:World) (f:Forest) (a:List Note) (i:List Node):Nat->Int×(List State)×(List (List Todo))×(List (List Int))×(List Int)×Bool->Option (World×Int)
 | 0,_=>none
 | k1+1,(t9,l10,c11,c12,c13,c14)=>cnd (decide (t9<(i.length:Int))) (bnd (idx i t9) fun l=>bnd (zIN fu l) fun d=>bnd (zDT 32 (l10.length+([d]:List State).length)) fun _=>bnd (zJC fu (⟨c11,c12,c13,c14⟩:Line)) fun b=>bnd (rng .i64 (t9+1)) fun h=>(zF0 fu g f a i k1) (h,(l10++[d]),b.Todos,b.Stack,b.Back,b.Busy)) (bnd (zLL fu f l10 g.Desk g.Classes a) fun j=>bnd (zBX fu j (⟨({g with Forest:=f,States:=l10,Line:=(⟨c11,c12,c13,c14⟩:Line)}:World)⟩:zAG)) fun c=>bnd (zI8 fu f c.World.States c.World.Desk c.World.Classes) fun e=>bnd (zBX fu e.2 (⟨({c.World with States:=e.1}:World)⟩:zAG)) fun k=>some (k.World,0))
def zIM (fu:Nat) (a:World) (c:Forest) (b:List Note):Option (World×Int):=bnd (zC7 fu (⟨a⟩:zAG)) fun e=>cnd (!e) (some (a,1)) (bnd (zAo fu c) fun f=>cnd (!f) (some (a,1)) (bnd (zET fu (⟨a⟩:zAG) c) fun g=>cnd (!g) (some (a,1)) (bnd (zCc fu a.States) fun h=>bnd (piece c.Nodes (a.Forest.Nodes.length:Int) (c.Nodes.length:Int)) fun d=>(zF0 fu a c b d) fu (0,h,a.Line.Todos,a.Line.Stack,a.Line.Back,a.Line.Busy))))
theorem zTQ {fu:Nat} {b:World} {j:Forest} {a:List Note}:DD (zIM fu b j a) 85 [.agg (zBO b),.agg (zAD j),.sl 9 false (a.map zBG)] fun r=>.tup [.agg (zBO r.1),Z r.2]:=by
 refine fcI Tryz.func85 U (A [9,30,3,30,4,31,6,57,80,20,31,8,12,0,6,80,41] (fun v _=>?_) zF9)
 refine A [2,26,18,5,110,65,80,92,8,1,41] (fun w _=>?_) zA3
 refine A [3,26,23,5,105,65,80,92,8,2,41] (fun x _=>?_) zLp
 refine A [2,0,5,3,80,92,8,67,61,43] (fun s _=>?_) zGq [(5,2320)] [2320]
 refine A [2,12,0,6,9,105,35] ?_
 refine zeq (T:=tab) zAX j.Nodes U U U U U U U U fun m _=>A [77,13] ?_
 refine lw (zF0 fu b j a m) [2,4,6,8,41,42] [6,4] (fun (l,c,e,f,g,h)=>[(43,Z l)]) (fun (l,c,e,f,g,h)=>[(2320,.arr 53 4 (c.map zBN)),(8,.box 94 ([.sl 10 false (b.Forest.Nodes.map zAX),Z b.Forest.Most,.own 2320]++zIP b.Desk++[.sl 1 false (e.map zDZ),.sl 1 false (f.map zAn),.sl 1 false (g.map zAB),Y h,.sl 3 false (b.Tasks.map zIg),.sl 2 false (b.Builds.map zIO),.sl 5 false (b.Classes.map zBb)]))]) fu (0,s,b.Line.Todos,b.Line.Stack,b.Line.Back,b.Line.Busy) U U ?_
 rintro u ⟨l,c,e,f,g,h⟩
 refine A [75] ?_
 refine zAE U ?_ ?_
 ·refine A [72,9,36] fun t _=>?_
  refine A [1,31,10,12,0,6,52,8,5,2,4,6,8,41,42,43,10,10,2320,8,6,4,53,10,0,1,3,0,8,24,63,127,255,511,204,54,1,1,100,102] (fun i _=>?_) zOJ
  refine vS [102] [104,105] [52] U U (pl ([i].map zBN) 52 U U U U U U (pyq U)) U U (vU [17,98,104,105,4641] [106,98,4641,17] [2320] U U (pa zBN c ([i]:List State) U U U U U U U U (zSQ _) U U U (pyq U)) U U fun _ _=>A [202,50,4,1,17,106,110,4641,17,79,14,3,41] (fun d _=>?_) zPb)
  refine A [2,12,11,94] fun k _=>?_
  exact A [89] (tx (k,(c++[i]),d.Todos,d.Stack,d.Back,d.Busy))
 ·refine A [86,93,12,0,9,111,33,2320,41] (fun n _=>?_) zUi
  refine A [43] (fun o _=>?_) zFj [(900000,8)]
  refine A [0,9,110,41] (fun p _=>?_) zUZ
  refine A [105,0,93,12,0,80,43] (fun q _=>?_) zFj [(900000,8)]
  exact A [0,61,92,8]
def zGw (fu:Nat) (b:zCZ×zAR) (c:World×Int):Nat->Int×(List Due)->Option (Int×zAR)
 | 0,_=>none
 | k1+1,(n6,l7)=>cnd (decide (n6<(b.1.f.Nodes.length:Int))) (bnd (zJA fu b.1.f n6 c.1.Desk) fun e=>cnd (e != (-1)) (bnd (zDT 104 (l7.length+([(⟨n6,(⟨9,e,[],false,false,[],[],0,0,false⟩:Todo)⟩:Due)]:List Due).length)) fun _=>bnd (rng .i64 (n6+1)) fun g=>(zGw fu b c k1) (g,(l7++[(⟨n6,(⟨9,e,[],false,false,[],[],0,0,false⟩:Todo)⟩:Due)]))) (bnd (rng .i64 (n6+1)) fun d=>(zGw fu b c k1) (d,l7))) (bnd (zBw fu l7 (⟨c.1,b.2.node⟩:zAR)) fun a=>some (a.1,a.2))
def zI7 (fu:Nat) (a:Int×Bool×zAR) (b:zCZ×zAR) (c:World×Int) (d:Unit):Option (Int×zAR):=(zGw fu b c) fu ((a.2.2.World.Forest.Nodes.length:Int),[])
def zJ8 (fu:Nat) (d:Op) (g:zAR):Option (Int×zAR):=bnd (zDo fu d g) fun c=>cnd c.2.1 (some (c.1,c.2.2)) (bnd (zGv fu d c.2.2) fun a=>cnd (a.1.e != 0) (some (a.1.e,a.2)) (bnd (zIM fu a.2.World a.1.f a.1.notes) fun b=>cnd (b.2 != 0) (some (b.2,(⟨b.1,a.2.node⟩:zAR))) (cnd (d.Kind != 2) (cnd (d.Kind != 12) (some (b.2,(⟨b.1,a.2.node⟩:zAR))) ((zI7 fu c a b) ())) ((zI7 fu c a b) ()))))
theorem zQm {fu:Nat} {k:Op} {i:zAR}:FF (zJ8 fu k i) 38 [.loc 900000 0,.agg (cOp k)] [(900000,.box 99 (zB6 i))] [900000] (fun r=>Z r.1) fun r=>[(900000,.box 99 (zB6 r.2))]:=by
 refine fcI Tryz.func38 U (A [9,30,3,57,6,61,43] (fun f _=>?_) zP1 [(900000,900000)])
 refine A [105,0,58,5,2,62,8,67,9,106,77,61,43] (fun d _=>?_) zNb [(900000,900000)]
 refine A [31,8,12,0,6,93,0,5,2,93,74,68,52,4,3,0,3,7,8,8,900000,3,53,15,0,1,3,7,0,16,0,64,255,511,1023,1023,0,6143,16383,208,54,3,1,82,86,90,92] (fun g _=>?_) zTQ
 refine vq 3 U (by kernel_rfl) (vS [] [18,19] [9] U U (zF4 (T:=tab) 9 U U U U U U U U U (pyq U)) U U (A [50,3,1,18,19,94,19,201,79,76,12,0,6,9] ?_))
 refine zLY (zI7 fu f d g) (fun (_:Unit)=>[(0,.loc 900000 0),(7,Z (f.2.2.World.Forest.Nodes.length:Int)),(8,.loc 8 0)]) (fun (_:Unit)=>[(8,.box 165 (zMc d.1)),(900000,.box 99 (zBO g.1++[Z d.2.node]))]) ?_ fun c=>?_
 ·rintro _
  refine A [7,75,62,13,56,1092,171,11,11] ?_
  refine lw (zGw fu d g) [0,8,11] [8,900000] (fun (b,a)=>[(12,Z b)]) (fun (b,a)=>[(1092,.arr 171 11 (a.map zI3))]) fu ((f.2.2.World.Forest.Nodes.length:Int),[]) U U ?_
  rintro n ⟨b,a⟩
  refine A [6,76,77] ?_
  refine zAE U ?_ ?_
  ·refine A [72,6,52,4,3,0,8,11,12,1092,8,900000,53,10,0,1,0,0,8,24,56,120,255,511,208,54,3,1,152,154,164,166] (fun h _=>?_) zPZ
   refine A [201,79,62] ?_
   refine zAE U ?_ ?_
   ·refine A [14,3,20,20] ?_
    refine pl ([(⟨b,(⟨9,h,[],false,false,[],[],0,0,false⟩:Todo)⟩:Due)].map zI3) 91 U U U U U U (pa zI3 a ([(⟨b,(⟨9,h,[],false,false,[],[],0,0,false⟩:Todo)⟩:Due)]:List Due) U U U U U U U U (zQR _) U U U (A [1,11,70,1,16] fun l _=>?_))
    exact A [89] (tx (l,(a++[(⟨b,(⟨9,h,[],false,false,[],[],0,0,false⟩:Todo)⟩:Due)])))
   ·refine A [4,70,1,16] fun e _=>?_
    exact A [89] (tx (e,a))
  ·refine A [86,61,33,1092,43] (fun m _=>?_) zEu [(900000,900000)]
   exact A [57,8]
 ·refine A [3,26,55,4,109,65,62,8,104] ?_
  refine zAT (j:=59) U ?_ ?_
  ·exact A [105,0,5,2,62,8,4,45] (c ())
  ·exact A [105,11,24,4,45] (c ())
def zI2 (fu:Nat) (b:World) (c:Op) (e:Bool):Option (World×Int×Int):=cnd e (some (b,(-1),1)) (bnd (zEi fu c.Kind) fun d=>cnd (!d) (some (b,(-1),7)) (bnd (zJ8 fu c (⟨b,(-1)⟩:zAR)) fun a=>cnd (a.1 != 0) (some (b,(-1),a.1)) (some (a.2.World,a.2.node,0))))
def zCI (fu:Nat) (b:World) (a:Op):Option (World×Int×Int):=bnd (zQO fu a (-1) (b.Forest.Nodes.length:Int)) fun c=>cnd (c.2 != 0) ((zI2 fu b a) (c.2 != 0)) (cnd (!(zfn c.1 a)) ((zI2 fu b a) (!(zfn c.1 a))) (bnd (zFz fu b) fun d=>(zI2 fu b a) (!d)))
theorem zEh {fu:Nat} {c:World} {b:Op}:DD (zCI fu c b) 11 [.agg (zBO c),.agg (cOp b)] fun r=>.tup [.agg (zBO r.1),Z r.2.1,Z r.2.2]:=by
 refine fcI Tryz.func11 U (A [73,30,3,31,4,2,0,76,35,41] (fun d _=>?_) zZt)
 refine A [3,31,7,92,6,13,6,93,0] ?_
 refine jw (zI2 fu c b) [2,3,4] [4,3,2] (fun e=>[(20,Y e)]) (fun _=>[]) U U ?_ fun a=>?_
 ·rintro e
  refine A [7,5,4,80,12,2,74,99] (fun g _=>?_) zIU
  refine A [2,0,5,4,80,12,2,74,4,69,80,20,30,38,57,6,61,43] (fun h _=>?_) zQm [(900000,38)]
  exact A [57,62,5,4,61,12,2,74,68,52,2,2,4,9,38,4,60,50,3,1,8,9,98,9,202,79,8]
 ·refine zAE U ?_ ?_
  ·exact A [4,45] (a (d.2 != 0))
  ·refine A [61] ?_
   refine zT7 zee U U U U U U U (A [57] ?_)
   refine zAE U ?_ ?_
   ·exact A [4,45] (a (!(zfn d.1 b)))
   ·refine A [14,1,41] (fun f _=>?_) zKF
    exact A [2,11,45] (a (!f))
def zGZ (fu:Nat):Option Bool:=bnd (zRA fu [(⟨false,[],[],[],[(⟨1,[]⟩:Hook)]⟩:Class)] 5) fun c=>bnd (zCI fu ({c.1 with Desk:=({c.1.Desk with Defs:=[(⟨[120,45,97],[120,45,97],0⟩:Def)]}:Desk)}:World) (⟨2,0,0,0,[88,45,97],[],false⟩:Op)) fun b=>bnd (zCI fu b.1 (⟨6,1,0,(-1),[],[],false⟩:Op)) fun a=>bnd (zCI fu a.1 (⟨6,2,0,(-1),[],[],false⟩:Op)) fun f=>bnd (zCI fu a.1 (⟨17,0,0,0,[120,45,98],[],false⟩:Op)) fun e=>bnd (zCI fu a.1 (⟨25,0,0,0,[],[],false⟩:Op)) fun g=>cnd (c.2==0) (cnd (b.2.2==0) (cnd (a.2.2==0) (cnd (f.2.2==1) (cnd (e.2.2==0) (cnd (g.2.2==7) (cnd (b.2.1==1) (cnd (e.2.1==0) (bnd (idx b.1.Line.Todos 1) fun i=>cnd ((i.length:Int)==1) (bnd (idx a.1.Line.Todos 1) fun j=>cnd ((j.length:Int)==2) (bnd (zEi fu 1) fun h=>cnd (!h) (bnd (zEi fu 2) fun d=>some d) (some false)) (some false)) (some false)) (some false)) (some false)) (some false)) (some false)) (some false)) (some false)) (some false)) (some false)
theorem zMx {fu:Nat}:DD (zGZ fu) 8 [] fun r=>Y r:=by
 refine fcI Tryz.func8 U (A [58,9,20] ?_)
 refine zbd 19 U (.agg (ds:=[Z 1,.sl 7 false ([].map cOp)]) ⟨.rfl,.nil,trivial⟩) (pl ([(⟨1,[]⟩:Hook)].map zIf) 20 U U U U U U (A [20,33,20] ?_))
 refine zbd 21 U (.agg (ds:=[Y false,.sl 1 false ([].map zQT),.sl 7 false ([].map cOp),.sl 7 false ([].map cOp),.sl 2 false ([(⟨1,[]⟩:Hook)].map zIf)]) ⟨.rfl,.nil,.nil,.nil,.rfl,trivial⟩) (pl ([(⟨false,[],[],[],[(⟨1,[]⟩:Hook)]⟩:Class)].map zBb) 22 U U U U U U (A [33,22,41] (fun b _=>?_) zUj))
 refine A [3,31,1,92,9,20] ?_
 refine pl ([(⟨[120,45,97],[120,45,97],0⟩:Def)].map zQC) 27 U U U U U U (A [2,12,0,80,20,33,27,41] (fun c _=>?_) zEh)
 refine A [104,31,3,12,2,0,80,20,41] (fun d _=>?_) zEh
 refine A [104,31,6,12,2,0,80,20,41] (fun e _=>?_) zEh
 refine A [104,31,9,12,2,0,80,20,41] (fun f _=>?_) zEh
 refine A [104,31,12,12,2,0,80,20,41] (fun g _=>?_) zEh
 refine A [104,31,15,12,2,0,93,27,67,2,153,74,104,27,71,2,149,74,104,27,75,2,145,74,104,27,79,2,141,74,104,27,83,2,137,74,104,27,87,2,133,74,104,27,91,2,129,74,104,27,95,2,125,74,3,36] fun i _=>?_
 refine A [1,35,3,27,104,2,116,74,3,36] fun j _=>?_
 refine A [1,35,3,27,113,2,107,74,41] (fun h _=>?_) zIU
 refine A [3,27,117,2,3,74,41] (fun a _=>?_) zIU
 exact A [2,74]
def zCi (a:Forest):Nat->Int->Option Bool
 | 0,_=>none
 | k1+1,i2=>cnd (decide (i2<(a.Nodes.length:Int))) (bnd (idx a.Nodes i2) fun c=>cnd (decide ((c.Kids.length:Int)>60)) (some false) (bnd (idx a.Nodes i2) fun d=>cnd (decide ((d.Attrs.length:Int)>60)) (some false) (bnd (idx a.Nodes i2) fun e=>cnd (decide ((e.Name.length:Int)>300)) (some false) (bnd (rng .i64 (i2+1)) fun b=>(zCi a k1) b)))) (some true)
def zE0 (fu:Nat) (a:Forest):Option Bool:=cnd (decide ((a.Nodes.length:Int)>60)) (some false) ((zCi a) fu 0)
theorem zMy {fu:Nat} {a:Forest}:DD (zE0 fu a) 31 [.agg (zAD a)] fun r=>Y r:=by
 refine fcI Tryz.func31 U (A [9,30,1,57,6,61,77,5,1,59,68,58,13] ?_)
 refine lw (zCi a) [1] [1] (fun b=>[(3,Z b)]) (fun _=>[]) fu 0 U U ?_
 rintro d b
 refine A [6,93,77,10,2,86,59,72,93,36] fun e _=>?_
 refine A [2,35,2,26,23,2,119,83,3,36] fun f _=>?_
 refine A [2,35,3,26,33,2,109,83,3,36] fun g _=>?_
 refine A [105,0,5,1,59,4,70,1,16] fun c _=>?_
 exact A [89] (tx c)
def zBq (a:Desk):Nat->Int->Option Bool
 | 0,_=>none
 | k2+1,i6=>cnd (decide (i6<(a.Waits.length:Int))) (bnd (idx a.Waits i6) fun c=>cnd (decide ((c.Name.length:Int)>300)) (some false) (bnd (rng .i64 (i6+1)) fun b=>(zBq a k2) b)) (some true)
def zCj (fu:Nat) (a:Desk):Nat->Int->Option Bool
 | 0,_=>none
 | k1+1,i2=>cnd (decide (i2<(a.Defs.length:Int))) (bnd (idx a.Defs i2) fun c=>cnd (decide ((c.Name.length:Int)>300)) (some false) (bnd (idx a.Defs i2) fun d=>cnd (decide ((d.Local.length:Int)>300)) (some false) (bnd (rng .i64 (i2+1)) fun b=>(zCj fu a k1) b))) ((zBq a) fu 0)
def zE1 (fu:Nat) (a:Desk):Option Bool:=cnd (decide ((a.Defs.length:Int)>40)) (some false) (cnd (decide ((a.Waits.length:Int)>40)) (some false) ((zCj fu a) fu 0))
theorem zMz {fu:Nat} {a:Desk}:DD (zE1 fu a) 32 [.agg (zIP a)] fun r=>Y r:=by
 refine fcI Tryz.func32 U (A [9,30,1,57,6,61,35,2,26,9,2,105,83,2,35,2,0,5,1,59,68,58,13] ?_)
 refine lw (zCj fu a) [1] [1] (fun b=>[(3,Z b)]) (fun _=>[]) fu 0 U U ?_
 rintro f b
 refine A [6,93,77] ?_
 refine zAE U ?_ ?_
 ·refine A [72,93,36] fun h _=>?_
  refine A [105,26,30,2,109,83,3,36] fun i _=>?_
  refine A [105,0,5,1,59,4,70,1,16] fun d _=>?_
  exact A [89] (tx d)
 ·refine A [86,6,58,13] ?_
  refine lw (zBq a) [1] [1] (fun c=>[(4,Z c)]) (fun _=>[]) fu 0 U U ?_
  rintro g c
  refine A [6,93,77,10,2,86,59,72,93,36] fun j _=>?_
  refine A [104,0,5,1,59,4,70,1,16] fun e _=>?_
  exact A [89] (tx e)
def zBr (l1:Line):Nat->Int->Option Bool
 | 0,_=>none
 | k2+1,i5=>cnd (decide (i5<(l1.Stack.length:Int))) (bnd (idx l1.Stack i5) fun b=>cnd (decide ((b.length:Int)>60)) (some false) (bnd (rng .i64 (i5+1)) fun a=>(zBr l1 k2) a)) (some true)
def zCk (fu:Nat) (l1:Line):Nat->Int->Option Bool
 | 0,_=>none
 | k1+1,i2=>cnd (decide (i2<(l1.Todos.length:Int))) (bnd (idx l1.Todos i2) fun b=>cnd (decide ((b.length:Int)>60)) (some false) (bnd (rng .i64 (i2+1)) fun a=>(zCk fu l1 k1) a)) ((zBr l1) fu 0)
def zE2 (fu:Nat) (l1:Line):Option Bool:=cnd (decide ((l1.Todos.length:Int)>60)) (some false) (cnd (decide ((l1.Stack.length:Int)>30)) (some false) (cnd (decide ((l1.Back.length:Int)>60)) (some false) ((zCk fu l1) fu 0)))
theorem zM0 {fu:Nat} {l1:Line}:DD (zE2 fu l1) 33 [.agg (zO7 l1)] fun r=>Y r:=by
 refine fcI Tryz.func33 U (A [9,30,1,57,6,61,35,2,26,9,2,111,83,2,35,3,26,15,2,105,83,2,35,2,0,5,1,59,68,58,13] ?_)
 refine lw (zCk fu l1) [1] [1] (fun a=>[(3,Z a)]) (fun _=>[]) fu 0 U U ?_
 rintro e a
 refine A [6,93,77] ?_
 refine zAE U ?_ ?_
 ·refine A [72,93,36] fun g _=>?_
  refine A [1,77,5,1,59,4,70,1,16] fun c _=>?_
  exact A [89] (tx c)
 ·refine A [86,6,58,13] ?_
  refine lw (zBr l1) [1] [1] (fun b=>[(4,Z b)]) (fun _=>[]) fu 0 U U ?_
  rintro f b
  refine A [6,93,77,10,2,86,59,72,93,36] fun h _=>?_
  refine A [1,77,5,1,59,4,70,1,16] fun d _=>?_
  exact A [89] (tx d)
def zCn (c:Int) (b:Class) (a:Int->Option Bool):Nat->Int->Option Bool
 | 0,_=>none
 | k2+1,k4=>cnd (decide (k4<(b.Hooks.length:Int))) (bnd (idx b.Hooks k4) fun f=>cnd (decide ((f.Do.length:Int)>80)) (some false) (bnd (rng .i64 (k4+1)) fun d=>(zCn c b a k2) d)) (bnd (rng .i64 (c+1)) fun e=>a e)
def zAz (fu:Nat) (a:List Class):Nat->Int->Option Bool
 | 0,_=>none
 | k1+1,i2=>cnd (decide (i2<(a.length:Int))) (bnd (idx a i2) fun b=>cnd (decide ((b.Watch.length:Int)>20)) (some false) (cnd (decide ((b.Hooks.length:Int)>20)) (some false) (cnd (decide ((b.Peek.length:Int)>80)) (some false) (cnd (decide ((b.Make.length:Int)>80)) (some false) ((zCn i2 b (zAz fu a k1)) fu 0))))) (some true)
def zDr (fu:Nat) (a:List Class):Option Bool:=cnd (decide ((a.length:Int)>14)) (some false) ((zAz fu a) fu 0)
theorem zM3 {fu:Nat} {a:List Class}:DD (zDr fu a) 34 [.sl 5 false (a.map zBb)] fun r=>Y r:=by
 refine fcI Tryz.func34 U (A [75,80,77,5,1,59,68,58,13] ?_)
 refine lw (zAz fu a) [0] [] (fun b=>[(3,Z b)]) (fun _=>[]) fu 0 U U ?_
 rintro e b
 refine A [6,61,77,10,2,86,59,72,61,36] fun f _=>?_
 refine A [1,31,4,12,0,6,61,35,2,26,23,2,117,83,2,35,3,26,29,2,111,83,2,35,3,26,35,2,105,83,2,35,2,0,5,1,59,67,58,13] ?_
 refine lw (zCn b f (zAz fu a e)) [0,3,4] [4] (fun k4=>[(5,Z k4)]) (fun _=>[]) fu 0 U U ?_
 rintro g k4
 refine A [6,93,77] ?_
 refine zAE U ?_ ?_
 ·refine A [72,93,36] fun h _=>?_
  refine A [2,77,5,1,59,4,70,1,16] fun c _=>?_
  exact A [89] (tx c)
 ·refine A [17,70,1,16] fun d _=>?_
  exact A [89] (tx d)
def zCo (l1:List Class) (b:Int) (a:Int->Option Bool):Nat->Int->Option Bool
 | 0,_=>none
 | k2+1,k3=>bnd (idx l1 b) fun e=>cnd (decide (k3<(e.Watch.length:Int))) (bnd (idx l1 b) fun f=>bnd (idx f.Watch k3) fun g=>cnd (decide ((g.length:Int)>300)) (some false) (bnd (rng .i64 (k3+1)) fun c=>(zCo l1 b a k2) c)) (bnd (rng .i64 (b+1)) fun d=>a d)
def zA0 (fu:Nat) (l1:List Class):Nat->Int->Option Bool
 | 0,_=>none
 | k1+1,i2=>cnd (decide (i2<(l1.length:Int))) ((zCo l1 i2 (zA0 fu l1 k1)) fu 0) (some true)
def zE6 (fu:Nat) (l1:List Class):Option Bool:=(zA0 fu l1) fu 0
theorem zM5 {fu:Nat} {l1:List Class}:DD (zE6 fu l1) 35 [.sl 5 false (l1.map zBb)] fun r=>Y r:=by
 refine fcI Tryz.func35 U (A [75,58,13] ?_)
 refine lw (zA0 fu l1) [0] [] (fun a=>[(3,Z a)]) (fun _=>[]) fu 0 U U ?_
 rintro e a
 refine A [6,61,77,10,2,86,59,72,58,13] ?_
 refine lw (zCo l1 a (zA0 fu l1 e)) [0,3] [] (fun b=>[(4,Z b)]) (fun _=>[]) fu 0 U U ?_
 rintro f b
 refine A [6,93,36] fun g _=>?_
 refine A [2,77] ?_
 refine zAE U ?_ ?_
 ·refine A [72,61,36] fun h _=>?_
  refine A [3,36] fun i _=>?_
  refine A [3,0,5,1,59,4,70,1,16] fun c _=>?_
  exact A [89] (tx c)
 ·refine A [17,70,1,16] fun d _=>?_
  exact A [89] (tx d)
def zE5 (fu:Nat) (a:World):Option Bool:=bnd (zE0 fu a.Forest) fun b=>cnd b (cnd (decide ((a.States.length:Int)<=60)) (bnd (zE1 fu a.Desk) fun c=>cnd c (bnd (zE2 fu a.Line) fun d=>cnd d (cnd (decide ((a.Tasks.length:Int)<=60)) (cnd (decide ((a.Builds.length:Int)<=60)) (bnd (zDr fu a.Classes) fun e=>cnd e (bnd (zE6 fu a.Classes) fun f=>some f) (some false)) (some false)) (some false)) (some false)) (some false)) (some false)) (some false)
theorem zM4 {fu:Nat} {a:World}:DD (zE5 fu a) 9 [.agg (zBO a)] fun r=>Y r:=by
 refine fcI Tryz.func9 U (A [9,30,1,57,99] (fun b _=>?_) zMy)
 refine A [1,27,6,2,138,74,2,35,3,27,12,2,132,74,2,41] (fun c _=>?_) zMz
 refine A [2,27,17,2,127,74,2,41] (fun d _=>?_) zM0
 refine A [2,27,22,2,122,74,2,35,3,27,28,2,116,74,2,35,3,27,34,2,110,74,2,41] (fun e _=>?_) zM3
 refine A [2,27,39,2,105,74,2,41] (fun f _=>?_) zM5
 exact A [2,74]
def zC0 (a b:List Attr):Nat->Int->Option Bool
 | 0,_=>none
 | k1+1,i3=>cnd (decide (i3<(a.length:Int))) (bnd (idx a i3) fun d=>bnd (idx b i3) fun e=>cnd (!(zaZ d e)) (some false) (bnd (rng .i64 (i3+1)) fun c=>(zC0 a b k1) c)) (some true)
def zFW (fu:Nat) (a b:List Attr):Option Bool:=cnd ((a.length:Int) != (b.length:Int)) (some false) ((zC0 a b) fu 0)
theorem zNf {fu:Nat} {a b:List Attr}:DD (zFW fu a b) 61 [.sl 2 false (a.map zDY),.sl 2 false (b.map zDY)] fun r=>Y r:=by
 refine fcI Tryz.func61 U (A [75,80,35,1,77,5,1,59,68,58,13] ?_)
 refine lw (zC0 a b) [0,1] [] (fun c=>[(5,Z c)]) (fun _=>[]) fu 0 U U ?_
 rintro g c
 refine A [6,61,77,10,2,86,59,72,6,97,202] ?_
 refine vT [34,36] [38] [] U U (zBE (T:=tab) zDY a U U U U U U U fun e _=>pzq U) (fun _=>U) (fun _=>U) fun e _=>vq 3 U (by kernel_rfl) (vT [42,44] [46] [] U U (zBE (T:=tab) zDY b U U U U U U U fun f _=>pzq U) (fun _=>U) (fun _=>U) fun f _=>vq 1 U (by kernel_rfl) (vS [40,48] [50] [] U U (zT7 zfr U U U U U U U (pyq U)) U U (A [79,5,1,59,4,70,1,16] fun d _=>?_)))
 exact A [89] (tx d)
def zBK (a b:List Int):Nat->Int->Option Bool
 | 0,_=>none
 | k1+1,i3=>cnd (decide (i3<(a.length:Int))) (bnd (idx a i3) fun d=>bnd (idx b i3) fun e=>cnd (d != e) (some false) (bnd (rng .i64 (i3+1)) fun c=>(zBK a b k1) c)) (some true)
def zBx (fu:Nat) (a b:List Int):Option Bool:=cnd ((a.length:Int) != (b.length:Int)) (some false) ((zBK a b) fu 0)
theorem zGa {fu:Nat} {a b:List Int}:DD (zBx fu a b) 62 [.sl 1 false (a.map zAB),.sl 1 false (b.map zAB)] fun r=>Y r:=by
 refine fcI Tryz.func62 U (A [75,80,35,1,77,5,1,59,68,58,13] ?_)
 refine lw (zBK a b) [0,1] [] (fun c=>[(5,Z c)]) (fun _=>[]) fu 0 U U ?_
 rintro g c
 refine A [6,61,77,10,2,86,59,72,6,97,202] ?_
 refine vT [34,36] [38] [] U U (zBE (T:=tab) zAB a U U U U U U U fun e _=>pzq U) (fun _=>U) (fun _=>U) fun e _=>vq 3 U (by kernel_rfl) (vT [42,44] [46] [] U U (zBE (T:=tab) zAB b U U U U U U U fun f _=>pzq U) (fun _=>U) (fun _=>U) fun f _=>A [202,79,5,1,59,4,70,1,16] fun d _=>?_)
 exact A [89] (tx d)
def zFv (fu:Nat) (a b:Node):Option Bool:=cnd (a.Kind==b.Kind) (cnd (a.Name==b.Name) (cnd (a.Is==b.Is) (cnd (a.Data==b.Data) (bnd (zFW fu a.Attrs b.Attrs) fun c=>cnd c (cnd (a.Parent==b.Parent) (bnd (zBx fu a.Kids b.Kids) fun d=>cnd d (cnd (a.Host==b.Host) (cnd (a.Under==b.Under) (some (a.Doc==b.Doc)) (some false)) (some false)) (some false)) (some false)) (some false)) (some false)) (some false)) (some false)) (some false)
theorem zN2 {fu:Nat} {a b:Node}:DD (zFv fu a b) 26 [.agg (zAX a),.agg (zAX b)] fun r=>Y r:=by
 refine fcI Tryz.func26 U (A [73,30,3,57,9,106,27,10,2,163,74,107,27,17,2,156,74,107,27,24,2,149,74,107,27,31,2,142,74,104,41] (fun c _=>?_) zNf)
 refine A [2,27,38,2,135,74,107,27,45,2,128,74,104,41] (fun d _=>?_) zGa
 exact A [2,26,52,14,107,26,59,8,107,26,66,2,107,74,107,74,114,74,121,74]
def zC1 (fu:Nat) (a b:Forest):Nat->Int->Option Bool
 | 0,_=>none
 | k1+1,i3=>cnd (decide (i3<(a.Nodes.length:Int))) (bnd (idx a.Nodes i3) fun e=>bnd (idx b.Nodes i3) fun f=>bnd (zFv fu e f) fun d=>cnd (!d) (some false) (bnd (rng .i64 (i3+1)) fun c=>(zC1 fu a b k1) c)) (some true)
def zBC (fu:Nat) (a b:Forest):Option Bool:=cnd (a.Most != b.Most) (some false) (cnd ((a.Nodes.length:Int) != (b.Nodes.length:Int)) (some false) ((zC1 fu a b) fu 0))
theorem zEz {fu:Nat} {a b:Forest}:DD (zBC fu a b) 17 [.agg (zAD a),.agg (zAD b)] fun r=>Y r:=by
 refine fcI Tryz.func17 U (A [73,30,3,57,6,9,106,26,11,2,108,83,2,35,2,35,2,0,5,1,59,68,58,13] ?_)
 refine lw (zC1 fu a b) [2,3] [3,2] (fun c=>[(5,Z c)]) (fun _=>[]) fu 0 U U ?_
 rintro g c
 refine A [6,93,77,10,2,86,59,72,6,52,3,2,2,3,5,3,2,53,12,0,1,0,7,15,0,32,0,224,480,1023,2047,203] ?_
 refine vT [56,58] [60] [] U U (zBE (T:=tab) zAX a.Nodes U U U U U U U fun e _=>pzq U) (fun _=>U) (fun _=>U) fun e _=>vq 4 U (by kernel_rfl) (vT [66,68] [70] [] U U (zBE (T:=tab) zAX b.Nodes U U U U U U U fun f _=>pzq U) (fun _=>U) (fun _=>U) fun f _=>A [201,54,2,1,62,72,74] (fun h _=>?_) zN2)
 refine A [201,79,5,1,59,4,70,1,16] fun d _=>?_
 exact A [89] (tx d)
def zCK (a b:List State):Nat->Int->Option Bool
 | 0,_=>none
 | k1+1,i3=>cnd (decide (i3<(a.length:Int))) (bnd (idx a i3) fun d=>bnd (idx b i3) fun e=>cnd (!(zRQ d e)) (some false) (bnd (rng .i64 (i3+1)) fun c=>(zCK a b k1) c)) (some true)
def zEg (fu:Nat) (a b:List State):Option Bool:=cnd ((a.length:Int) != (b.length:Int)) (some false) ((zCK a b) fu 0)
theorem zL3 {fu:Nat} {a b:List State}:DD (zEg fu a b) 18 [.sl 4 false (a.map zBN),.sl 4 false (b.map zBN)] fun r=>Y r:=by
 refine fcI Tryz.func18 U (A [75,80,35,1,77,5,1,59,68,58,13] ?_)
 refine lw (zCK a b) [0,1] [] (fun c=>[(5,Z c)]) (fun _=>[]) fu 0 U U ?_
 rintro g c
 refine A [6,61,77,10,2,86,59,72,6,97,202] ?_
 refine vT [34,36] [38] [] U U (zBE (T:=tab) zBN a U U U U U U U fun e _=>pzq U) (fun _=>U) (fun _=>U) fun e _=>vq 3 U (by kernel_rfl) (vT [42,44] [46] [] U U (zBE (T:=tab) zBN b U U U U U U U fun f _=>pzq U) (fun _=>U) (fun _=>U) fun f _=>vq 1 U (by kernel_rfl) (vS [40,48] [50] [] U U (zT7 zef U U U U U U U (pyq U)) U U (A [79,5,1,59,4,70,1,16] fun d _=>?_)))
 exact A [89] (tx d)
def zCF (a c:Desk):Nat->Int->Option Bool
 | 0,_=>none
 | k2+1,i7=>cnd (decide (i7<(a.Waits.length:Int))) (bnd (idx a.Waits i7) fun d=>bnd (idx c.Waits i7) fun e=>cnd (!(zac d e)) (some false) (bnd (rng .i64 (i7+1)) fun b=>(zCF a c k2) b)) (some true)
def zC2 (fu:Nat) (a b:Desk):Nat->Int->Option Bool
 | 0,_=>none
 | k1+1,i3=>cnd (decide (i3<(a.Defs.length:Int))) (bnd (idx a.Defs i3) fun d=>bnd (idx b.Defs i3) fun e=>cnd (!(zfm d e)) (some false) (bnd (rng .i64 (i3+1)) fun c=>(zC2 fu a b k1) c)) ((zCF a b) fu 0)
def zFX (fu:Nat) (a b:Desk):Option Bool:=cnd ((a.Defs.length:Int) != (b.Defs.length:Int)) (some false) (cnd ((a.Waits.length:Int) != (b.Waits.length:Int)) (some false) (cnd (a.Next != b.Next) (some false) (cnd (!(a.Busy==b.Busy)) (some false) ((zC2 fu a b) fu 0))))
theorem zNg {fu:Nat} {a b:Desk}:DD (zFX fu a b) 29 [.agg (zIP a),.agg (zIP b)] fun r=>Y r:=by
 refine fcI Tryz.func29 U (A [73,30,3,57,6,61,35,2,35,2,26,14,2,122,83,2,35,2,35,3,26,23,2,113,83,107,26,30,2,106,83,106,0,5,1,59,68,58,13] ?_)
 refine lw (zC2 fu a b) [2,3] [3,2] (fun d=>[(5,Z d)]) (fun _=>[]) fu 0 U U ?_
 rintro k d
 refine A [6,93,77] ?_
 refine zAE U ?_ ?_
 ·refine A [72,6,52,3,2,2,3,5,3,2,98] ?_
  refine vT [90,92] [94] [] U U (zBE (T:=tab) zQC a.Defs U U U U U U U fun g _=>pzq U) (fun _=>U) (fun _=>U) fun g _=>vq 4 U (by kernel_rfl) (vT [100,102] [104] [] U U (zBE (T:=tab) zQC b.Defs U U U U U U U fun h _=>pzq U) (fun _=>U) (fun _=>U) fun h _=>vq 1 U (by kernel_rfl) (vS [96,106] [108] [] U U (zT7 eqf_88 U U U U U U U (pyq U)) U U (A [79,5,1,59,4,70,1,16] fun f _=>?_)))
  exact A [89] (tx f)
 ·refine A [86,6,58,13] ?_
  refine lw (zCF a b) [2,3] [3,2] (fun e=>[(6,Z e)]) (fun _=>[]) fu 0 U U ?_
  rintro l e
  refine A [6,93,77,10,2,86,59,72,6,52,3,2,2,3,6,3,2,98] ?_
  refine vT [126,128] [130] [] U U (zBE (T:=tab) zIw a.Waits U U U U U U U fun i _=>pzq U) (fun _=>U) (fun _=>U) fun i _=>vq 4 U (by kernel_rfl) (vT [136,138] [140] [] U U (zBE (T:=tab) zIw b.Waits U U U U U U U fun j _=>pzq U) (fun _=>U) (fun _=>U) fun j _=>vq 1 U (by kernel_rfl) (vS [132,142] [144] [] U U (zT7 zfq U U U U U U U (pyq U)) U U (A [79,5,1,59,4,70,1,16] fun c _=>?_)))
  exact A [89] (tx c)
def zCl (a b:List Todo):Nat->Int->Option Bool
 | 0,_=>none
 | k1+1,i3=>cnd (decide (i3<(a.length:Int))) (bnd (idx a i3) fun d=>bnd (idx b i3) fun e=>cnd (!(zab d e)) (some false) (bnd (rng .i64 (i3+1)) fun c=>(zCl a b k1) c)) (some true)
def zE3 (fu:Nat) (a b:List Todo):Option Bool:=cnd ((a.length:Int) != (b.length:Int)) (some false) ((zCl a b) fu 0)
theorem zM1 {fu:Nat} {a b:List Todo}:DD (zE3 fu a b) 16 [.sl 10 false (a.map zKG),.sl 10 false (b.map zKG)] fun r=>Y r:=by
 refine fcI Tryz.func16 U (A [75,80,35,1,77,5,1,59,68,58,13] ?_)
 refine lw (zCl a b) [0,1] [] (fun c=>[(5,Z c)]) (fun _=>[]) fu 0 U U ?_
 rintro g c
 refine A [6,61,77,10,2,86,59,72,6,97,202] ?_
 refine vT [34,36] [38] [] U U (zBE (T:=tab) zKG a U U U U U U U fun e _=>pzq U) (fun _=>U) (fun _=>U) fun e _=>vq 3 U (by kernel_rfl) (vT [42,44] [46] [] U U (zBE (T:=tab) zKG b U U U U U U U fun f _=>pzq U) (fun _=>U) (fun _=>U) fun f _=>vq 1 U (by kernel_rfl) (vS [40,48] [50] [] U U (zT7 eqf_80 U U U U U U U (pyq U)) U U (A [79,5,1,59,4,70,1,16] fun d _=>?_)))
 exact A [89] (tx d)
def zCG (fu:Nat) (a f:Line):Nat->Int->Option Bool
 | 0,_=>none
 | k2+1,i9=>cnd (decide (i9<(a.Stack.length:Int))) (bnd (idx a.Stack i9) fun d=>bnd (idx f.Stack i9) fun e=>bnd (zBx fu d e) fun c=>cnd (!c) (some false) (bnd (rng .i64 (i9+1)) fun b=>(zCG fu a f k2) b)) (some true)
def zC3 (fu:Nat) (a b:Line):Nat->Int->Option Bool
 | 0,_=>none
 | k1+1,i4=>cnd (decide (i4<(a.Todos.length:Int))) (bnd (idx a.Todos i4) fun e=>bnd (idx b.Todos i4) fun f=>bnd (zE3 fu e f) fun d=>cnd (!d) (some false) (bnd (rng .i64 (i4+1)) fun c=>(zC3 fu a b k1) c)) ((zCG fu a b) fu 0)
def zFY (fu:Nat) (a b:Line):Option Bool:=cnd ((a.Todos.length:Int) != (b.Todos.length:Int)) (some false) (cnd ((a.Stack.length:Int) != (b.Stack.length:Int)) (some false) (bnd (zBx fu a.Back b.Back) fun c=>cnd (!c) (some false) (cnd (!(a.Busy==b.Busy)) (some false) ((zC3 fu a b) fu 0))))
theorem zNh {fu:Nat} {a b:Line}:DD (zFY fu a b) 39 [.agg (zO7 a),.agg (zO7 b)] fun r=>Y r:=by
 refine fcI Tryz.func39 U (A [73,30,3,57,6,61,35,2,35,2,26,14,2,123,83,2,35,2,35,3,26,23,2,114,83,104,41] (fun n _=>?_) zGa)
 refine A [3,26,31,2,106,83,106,0,5,1,59,68,58,13] ?_
 refine lw (zC3 fu a b) [2,3] [3,2] (fun f=>[(5,Z f)]) (fun _=>[]) fu 0 U U ?_
 rintro l f
 refine A [6,93,77] ?_
 refine zAE U ?_ ?_
 ·refine A [72,6,52,3,2,2,3,5,3,2,53,12,0,1,0,7,15,0,32,0,224,480,1023,2047,203] ?_
  refine vT [92,94] [96] [] U U (zBE (T:=tab) zDZ a.Todos U U U U U U U fun j _=>pzq U) (fun _=>U) (fun _=>U) fun j _=>vq 4 U (by kernel_rfl) (vT [102,104] [106] [] U U (zBE (T:=tab) zDZ b.Todos U U U U U U U fun k _=>pzq U) (fun _=>U) (fun _=>U) fun k _=>A [201,54,2,1,98,108,110] (fun o _=>?_) zM1)
  refine A [201,79,5,1,59,4,70,1,16] fun h _=>?_
  exact A [89] (tx h)
 ·refine A [86,6,58,13] ?_
  refine lw (zCG fu a b) [2,3] [3,2] (fun g=>[(6,Z g)]) (fun _=>[]) fu 0 U U ?_
  rintro m g
  refine A [6,93,77,10,2,86,59,72,6,52,3,2,2,3,6,3,2,53,12,0,1,0,7,15,0,32,0,224,480,1023,2047,203] ?_
  refine vT [130,132] [134] [] U U (zBE (T:=tab) zAn a.Stack U U U U U U U fun d _=>pzq U) (fun _=>U) (fun _=>U) fun d _=>vq 4 U (by kernel_rfl) (vT [140,142] [144] [] U U (zBE (T:=tab) zAn b.Stack U U U U U U U fun e _=>pzq U) (fun _=>U) (fun _=>U) fun e _=>A [201,54,2,1,136,146,148] (fun i _=>?_) zGa)
  refine A [201,79,5,1,59,4,70,1,16] fun c _=>?_
  exact A [89] (tx c)
def zDI (a b:List Op):Nat->Int->Option Bool
 | 0,_=>none
 | k1+1,i3=>cnd (decide (i3<(a.length:Int))) (bnd (idx a i3) fun d=>bnd (idx b i3) fun e=>cnd (!(zfn d e)) (some false) (bnd (rng .i64 (i3+1)) fun c=>(zDI a b k1) c)) (some true)
def zDi (fu:Nat) (a b:List Op):Option Bool:=cnd ((a.length:Int) != (b.length:Int)) (some false) ((zDI a b) fu 0)
theorem zG0 {fu:Nat} {a b:List Op}:DD (zDi fu a b) 88 [.sl 7 false (a.map cOp),.sl 7 false (b.map cOp)] fun r=>Y r:=by
 refine fcI Tryz.func88 U (A [75,80,35,1,77,5,1,59,68,58,13] ?_)
 refine lw (zDI a b) [0,1] [] (fun c=>[(5,Z c)]) (fun _=>[]) fu 0 U U ?_
 rintro g c
 refine A [6,61,77,10,2,86,59,72,6,97,202] ?_
 refine vT [34,36] [38] [] U U (zBE (T:=tab) cOp a U U U U U U U fun e _=>pzq U) (fun _=>U) (fun _=>U) fun e _=>vq 3 U (by kernel_rfl) (vT [42,44] [46] [] U U (zBE (T:=tab) cOp b U U U U U U U fun f _=>pzq U) (fun _=>U) (fun _=>U) fun f _=>vq 1 U (by kernel_rfl) (vS [40,48] [50] [] U U (zT7 zee U U U U U U U (pyq U)) U U (A [79,5,1,59,4,70,1,16] fun d _=>?_)))
 exact A [89] (tx d)
def zBs (fu:Nat) (a b:Class):Nat->Int->Option Bool
 | 0,_=>none
 | k2+1,i9=>cnd (decide (i9<(a.Hooks.length:Int))) (bnd (idx a.Hooks i9) fun e=>bnd (idx b.Hooks i9) fun f=>cnd (e.Kind != f.Kind) (some false) (bnd (idx a.Hooks i9) fun g=>bnd (idx b.Hooks i9) fun h=>bnd (zDi fu g.Do h.Do) fun d=>cnd (!d) (some false) (bnd (rng .i64 (i9+1)) fun c=>(zBs fu a b k2) c))) (some true)
def zCm (fu:Nat) (a b:Class):Nat->Int->Option Bool
 | 0,_=>none
 | k1+1,i5=>cnd (decide (i5<(a.Watch.length:Int))) (bnd (idx a.Watch i5) fun d=>bnd (idx b.Watch i5) fun e=>cnd (!(d==e)) (some false) (bnd (rng .i64 (i5+1)) fun c=>(zCm fu a b k1) c)) ((zBs fu a b) fu 0)
def zE4 (fu:Nat) (a b:Class):Option Bool:=cnd (!(a.Form==b.Form)) (some false) (cnd ((a.Watch.length:Int) != (b.Watch.length:Int)) (some false) (bnd (zDi fu a.Peek b.Peek) fun c=>cnd (!c) (some false) (bnd (zDi fu a.Make b.Make) fun d=>cnd (!d) (some false) (cnd ((a.Hooks.length:Int) != (b.Hooks.length:Int)) (some false) ((zCm fu a b) fu 0)))))
theorem zM2 {fu:Nat} {a b:Class}:DD (zE4 fu a b) 40 [.agg (zBb a),.agg (zBb b)] fun r=>Y r:=by
 refine fcI Tryz.func40 U (A [73,30,3,57,6,9,106,26,12,2,133,83,2,35,2,35,3,26,21,2,124,83,104,41] (fun p _=>?_) zG0)
 refine A [3,26,29,2,116,83,104,41] (fun q _=>?_) zG0
 refine A [3,26,37,2,108,83,2,35,2,35,2,0,5,1,59,68,58,13] ?_
 refine lw (zCm fu a b) [2,3] [3,2] (fun h=>[(5,Z h)]) (fun _=>[]) fu 0 U U ?_
 rintro n h
 refine A [6,93,77] ?_
 refine zAE U ?_ ?_
 ·refine A [72,6,52,3,2,2,3,5,3,2,98] ?_
  refine vT [108,110] [112] [] U U (zBE (T:=tab) zQT a.Watch U U U U U U U fun l _=>pzq U) (fun _=>U) (fun _=>U) fun l _=>vq 4 U (by kernel_rfl) (vT [118,120] [122] [] U U (zBE (T:=tab) zQT b.Watch U U U U U U U fun m _=>pzq U) (fun _=>U) (fun _=>U) fun m _=>A [202,79,5,1,59,4,70,1,16] fun j _=>?_)
  exact A [89] (tx j)
 ·refine A [86,6,58,13] ?_
  refine lw (zBs fu a b) [2,3] [3,2] (fun i=>[(6,Z i)]) (fun _=>[]) fu 0 U U ?_
  rintro o i
  refine A [6,93,77,10,2,86,59,72,6,52,3,2,2,3,6,3,2,53,29,0,1,0,7,15,31,0,64,0,448,960,1984,4095,8191,16383,32767,16383,131071,262143,524287,16383,1064959,16383,7356415,15745023,32522239,67108863,134217727,268435455,203] ?_
  refine vT [144,146] [148] [] U U (zBE (T:=tab) zIf a.Hooks U U U U U U U fun d _=>pzq U) (fun _=>U) (fun _=>U) fun d _=>vq 5 U (by kernel_rfl) (vT [156,158] [160] [] U U (zBE (T:=tab) zIf b.Hooks U U U U U U U fun e _=>pzq U) (fun _=>U) (fun _=>U) fun e _=>vq 4 U (by kernel_rfl) (zBP (t:=84) U ?_ ?_))
  ·exact A [215,19,18,59]
  ·refine vq 3 U (by kernel_rfl) (vT [168,172,174] [176] [] U U (zBE (T:=tab) zIf a.Hooks U U U U U U U fun f _=>pzq U) (fun _=>U) (fun _=>U) fun f _=>vq 5 U (by kernel_rfl) (vT [168,184,186] [188] [] U U (zBE (T:=tab) zIf b.Hooks U U U U U U U fun g _=>pzq U) (fun _=>U) (fun _=>U) fun g _=>A [202,54,3,1,168,180,192,194] (fun k _=>?_) zG0))
   refine A [202,79,5,1,59,4,70,1,16] fun c _=>?_
   exact A [89] (tx c)
def zB1 (fu:Nat) (a b:List Class):Nat->Int->Option Bool
 | 0,_=>none
 | k1+1,i3=>cnd (decide (i3<(a.length:Int))) (bnd (idx a i3) fun e=>bnd (idx b i3) fun f=>bnd (zE4 fu e f) fun d=>cnd (!d) (some false) (bnd (rng .i64 (i3+1)) fun c=>(zB1 fu a b k1) c)) (some true)
def zEJ (fu:Nat) (a b:List Class):Option Bool:=cnd ((a.length:Int) != (b.length:Int)) (some false) ((zB1 fu a b) fu 0)
theorem zLl {fu:Nat} {a b:List Class}:DD (zEJ fu a b) 13 [.sl 5 false (a.map zBb),.sl 5 false (b.map zBb)] fun r=>Y r:=by
 refine fcI Tryz.func13 U (A [75,80,35,1,77,5,1,59,68,58,13] ?_)
 refine lw (zB1 fu a b) [0,1] [] (fun c=>[(5,Z c)]) (fun _=>[]) fu 0 U U ?_
 rintro g c
 refine A [6,61,77,10,2,86,59,72,6,52,3,0,0,1,5,53,10,0,0,3,7,0,0,48,112,255,511,202] ?_
 refine vT [34,36] [38] [] U U (zBE (T:=tab) zBb a U U U U U U U fun e _=>pzq U) (fun _=>U) (fun _=>U) fun e _=>vq 3 U (by kernel_rfl) (vT [42,44] [46] [] U U (zBE (T:=tab) zBb b U U U U U U U fun f _=>pzq U) (fun _=>U) (fun _=>U) fun f _=>A [201,54,2,1,40,48,50] (fun h _=>?_) zM2)
 refine A [201,79,5,1,59,4,70,1,16] fun d _=>?_
 exact A [89] (tx d)
def zCH (fu:Nat) (a b:World):Nat->Int->Option Bool
 | 0,_=>none
 | k2+1,i7=>cnd (decide (i7<(a.Builds.length:Int))) (bnd (idx a.Builds i7) fun i=>bnd (idx b.Builds i7) fun j=>cnd (!(zWa i j)) (some false) (bnd (rng .i64 (i7+1)) fun c=>(zCH fu a b k2) c)) (bnd (zBC fu a.Forest b.Forest) fun d=>cnd d (bnd (zEg fu a.States b.States) fun e=>cnd e (bnd (zFX fu a.Desk b.Desk) fun f=>cnd f (bnd (zFY fu a.Line b.Line) fun g=>cnd g (bnd (zEJ fu a.Classes b.Classes) fun h=>some h) (some false)) (some false)) (some false)) (some false))
def zC4 (fu:Nat) (a b:World):Nat->Int->Option Bool
 | 0,_=>none
 | k1+1,i3=>cnd (decide (i3<(a.Tasks.length:Int))) (bnd (idx a.Tasks i3) fun d=>bnd (idx b.Tasks i3) fun e=>cnd (!(zaa d e)) (some false) (bnd (rng .i64 (i3+1)) fun c=>(zC4 fu a b k1) c)) ((zCH fu a b) fu 0)
def zBy (fu:Nat) (a b:World):Option Bool:=cnd ((a.Tasks.length:Int) != (b.Tasks.length:Int)) (some false) (cnd ((a.Builds.length:Int) != (b.Builds.length:Int)) (some false) ((zC4 fu a b) fu 0))
theorem zGb {fu:Nat} {a b:World}:DD (zBy fu a b) 12 [.agg (zBO a),.agg (zBO b)] fun r=>Y r:=by
 refine fcI Tryz.func12 U (A [73,30,3,57,6,61,35,2,35,2,26,14,2,108,83,2,35,2,35,2,0,5,1,59,68,58,13] ?_)
 refine lw (zC4 fu a b) [2,3] [3,2] (fun d=>[(5,Z d)]) (fun _=>[]) fu 0 U U ?_
 rintro p d
 refine A [6,93,77] ?_
 refine zAE U ?_ ?_
 ·refine A [72,6,52,3,2,2,3,5,3,2,98] ?_
  refine vT [62,64] [66] [] U U (zBE (T:=tab) zIg a.Tasks U U U U U U U fun l _=>pzq U) (fun _=>U) (fun _=>U) fun l _=>vq 4 U (by kernel_rfl) (vT [72,74] [76] [] U U (zBE (T:=tab) zIg b.Tasks U U U U U U U fun m _=>pzq U) (fun _=>U) (fun _=>U) fun m _=>vq 1 U (by kernel_rfl) (vS [68,78] [80] [] U U (zT7 zfo U U U U U U U (pyq U)) U U (A [79,5,1,59,4,70,1,16] fun f _=>?_)))
  exact A [89] (tx f)
 ·refine A [86,6,58,13] ?_
  refine lw (zCH fu a b) [2,3] [3,2] (fun e=>[(6,Z e)]) (fun _=>[]) fu 0 U U ?_
  rintro q e
  refine A [6,93,77] ?_
  refine zAE U ?_ ?_
  ·refine A [72,6,52,3,2,2,3,6,3,2,98] ?_
   refine vT [98,100] [102] [] U U (zBE (T:=tab) zIO a.Builds U U U U U U U fun n _=>pzq U) (fun _=>U) (fun _=>U) fun n _=>vq 4 U (by kernel_rfl) (vT [108,110] [112] [] U U (zBE (T:=tab) zIO b.Builds U U U U U U U fun o _=>pzq U) (fun _=>U) (fun _=>U) fun o _=>vq 1 U (by kernel_rfl) (vS [104,114] [116] [] U U (zT7 zfp U U U U U U U (pyq U)) U U (A [79,5,1,59,4,70,1,16] fun c _=>?_)))
   exact A [89] (tx c)
  ·refine A [86,76,41] (fun g _=>?_) zEz
   refine A [1,27,64,2,128,74,104,41] (fun h _=>?_) zL3
   refine A [2,27,71,2,121,74,104,41] (fun i _=>?_) zNg
   refine A [2,27,78,2,114,74,104,41] (fun j _=>?_) zNh
   refine A [2,27,85,2,107,74,104,41] (fun k _=>?_) zLl
   exact A [2,74]
def zBa (fu:Nat) (e:World) (n o:Bs) (a g f:Int):Option Bool:=bnd (zCI fu e (⟨6,a,g,f,[],[],false⟩:Op)) fun c=>bnd (zCI fu e (⟨26,a,g,f,[],[],false⟩:Op)) fun h=>bnd (zDU fu e.Forest a g f) fun i=>cnd (c.2.2 != h.2.2) (some false) (cnd (c.2.2 != i.2.2) (some false) (bnd (zBy fu c.1 h.1) fun p=>cnd (!p) (some false) (bnd (zBC fu c.1.Forest i.1) fun q=>cnd (!q) (some false) (bnd (zCI fu e (⟨7,a,0,0,[],[],false⟩:Op)) fun d=>bnd (zCI fu e (⟨27,a,0,0,[],[],false⟩:Op)) fun j=>bnd (zEK fu e.Forest a) fun k=>cnd (d.2.2 != j.2.2) (some false) (cnd (d.2.2 != k.2.2) (some false) (bnd (zBy fu d.1 j.1) fun r=>cnd (!r) (some false) (bnd (zBC fu d.1.Forest k.1) fun s=>cnd (!s) (some false) (bnd (zCI fu e (⟨9,a,0,0,n,o,false⟩:Op)) fun b=>bnd (zKV fu (⟨9,a,0,0,n,o,false⟩:Op)) fun t=>cnd (!t) (some (b.2.2==1)) (bnd (zCI fu e (⟨28,a,0,0,n,o,false⟩:Op)) fun l=>bnd (zKT fu e.Forest a n o) fun m=>cnd (b.2.2==l.2.2) (cnd (b.2.2==m.2.2) (bnd (zBy fu b.1 l.1) fun u=>cnd u (bnd (zBC fu b.1.Forest m.1) fun v=>some v) (some false)) (some false)) (some false))))))))))
def zBj (fu:Nat) (a:World) (i j f:Int) (d e:Bs):Option Bool:=bnd (zGZ fu) fun k=>cnd (!k) (some false) (bnd (zE5 fu a) fun l=>cnd (!l) (some true) (cnd (decide ((d.length:Int)>300)) (some true) (cnd (decide ((e.length:Int)>300)) (some true) (bnd (zFz fu a) fun m=>cnd (!m) (some true) (bnd (rng .i64 i) fun g=>bnd (zga g (a.States.length:Int)) fun b=>bnd (rng .i64 j) fun h=>bnd (zga h (a.States.length:Int)) fun c=>cnd (decide (f<(-1))) ((zBa fu a d e b c) (-1)) (cnd (decide (f>=(a.States.length:Int))) ((zBa fu a d e b c) (-1)) ((zBa fu a d e b c) f)))))))
theorem zKR {fu:Nat} {e:World} {l m h:Int} {f g:Bs}:DD (zBj fu e l m h f g) 4 [.agg (zBO e),.v (.int .u8 l),.v (.int .u8 m),Z h,O f,O g] fun r=>Y r:=by
 refine fcI Tryz.func4 U (A [9,30,6,57,6,9] ?_)
 refine zKN (enc:=fun (n:Bool)=>Y n) (qs:=[]) zMx U U trivial (fun _=>U) call8 U U fun n _=>A [57,5,1,59,68,80,41] (fun H _=>?_) zM4
 refine A [2,26,34,2,114,83,105,26,39,2,109,83,105,26,44,2,104,83,1,41] (fun I _=>?_) zKF
 refine A [2,0,5,1,59,68,52,6,1,1,2,3,4,5,6,6,53,14,0,1,0,4,12,31,0,64,0,256,768,1984,63,8191,201] ?_
 refine vT [98] [100] [] U U (zJV (T:=tab) U U U U fun i _=>pzq U) (fun _=>U) (fun _=>U) fun i _=>vq 2 U (by kernel_rfl) (vS [104] [106] [] U U (zPy (T:=tab) zBN e.States U U U U U U U U (pyq U)) U U (vT [100,106] [108] [] U U (zer U U U U U U fun c _=>pzq U) (fun _=>U) (fun _=>U) fun c _=>vq 1 U (by kernel_rfl) (vT [110] [112] [] U U (zJV (T:=tab) U U U U fun k _=>pzq U) (fun _=>U) (fun _=>U) fun k _=>vq 2 U (by kernel_rfl) (vS [116] [118] [] U U (zPy (T:=tab) zBN e.States U U U U U U U U (pyq U)) U U (vT [112,118] [120] [] U U (zer U U U U U U fun d _=>pzq U) (fun _=>U) (fun _=>U) fun d _=>A [202,79,6,9] ?_)))))
 refine zLY (zBa fu e f g c d) (fun (a:Int)=>[(3,Z a),(4,O f),(5,O g),(6,.loc 6 0),(13,Z c),(14,Z d)]) (fun (a:Int)=>[(6,.box 39 (zBO e))]) ?_ fun b=>?_
 ·rintro a
  refine A [7,76,20,41] (fun o _=>?_) zEh
  refine A [104,31,15,12,2,0,76,20,41] (fun p _=>?_) zEh
  refine A [104,31,18,12,2,0,9,105,41] (fun q _=>?_) zKA
  refine A [104,31,21,12,2,0,6,76,26,103,2,117,83,105,26,108,2,112,83,2,41] (fun s _=>?_) zGb
  refine A [3,26,114,2,106,83,3,41] (fun t _=>?_) zEz
  refine A [2,0,5,1,59,67,61,20,41] (fun u _=>?_) zEh
  refine A [104,31,24,12,2,0,61,20,41] (fun w _=>?_) zEh
  refine A [104,92,93,43] (fun x _=>?_) zHx [(2120,3410)] [3410]
  refine A [33,3410,104,92,6,76,26,148,2,117,83,105,26,153,2,112,83,2,41] (fun y _=>?_) zGb
  refine A [3,26,159,2,106,83,3,41] (fun z _=>?_) zEz
  refine A [2,0,5,1,59,67,93,20,31,26,12,0,99] (fun B _=>?_) zEh
  refine A [104,31,27,12,2,0,6,80,41] (fun C _=>?_) zQz
  refine A [57,5,2,93,74,67,80,12,0,99] (fun D _=>?_) zEh
  refine A [104,92,9,105,41] (fun E _=>?_) zQr
  refine A [104,92,76,27,203,2,116,74,105,27,208,2,111,74,2,41] (fun F _=>?_) zGb
  refine A [2,27,213,2,106,74,3,41] (fun G _=>?_) zEz
  exact A [2,74]
 ·refine pq 3 U (zAT (j:=63) U ?_ ?_)
  ·exact A [106,65,14,1,11,45] (b (-1))
  ·refine A [3,35,2,0] ?_
   refine zAE U ?_ ?_
   ·exact A [14,1,11,45] (b (-1))
   ·exact A [4,45] (b h)
end Go.Proofs.YtmfbghpealgaiaaGreatDoor
