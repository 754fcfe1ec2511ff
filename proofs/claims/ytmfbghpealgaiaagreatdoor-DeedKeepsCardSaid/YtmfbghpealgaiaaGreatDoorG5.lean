/- Models and proofs, printed by emit2.py. -/
import Derived.Test.YtmfbghpealgaiaaGreatDoorG4
namespace Go.Proofs.YtmfbghpealgaiaaGreatDoor
open Go Go.Pw
set_option maxRecDepth 100000
set_option maxHeartbeats 10000000
set_option linter.unusedVariables false
theorem zKN {fu:Nat} {b:List Int} {a:Forest}:FF (zAV fu (fun c=>zDA fu c a) b) 227 [.sl 1 false (b.map zAB),.fn (.func 287) [] [.loc 900000 0]] [(900000,.box 24 (zAE a))] [900000] (fun r=>Z r) fun _=>[(900000,.box 24 (zAE a))]:=by
 refine fcI Tryz.func227 U (A [75,80,77,13] ?_)
 refine lw (zAL (fun c=>zDA fu c a) b) [0,1,7] [900000] (fun d=>[(8,Z d)]) (fun _=>[]) fu 0 U U ?_
 rintro f d
 refine A [75,10,2,86,59,72,62,93,36] fun h _=>?_
 refine A [1,44] (fun g _=>?_) zQb [(900000,900000)]
 refine A [0,5,2,62,8,4,94] fun e _=>?_
 exact A [89] (tx e)
def zJT (fu:Nat) (a:Forest) (d:Int):Option Int:=bnd (idx a.Nodes d) fun c=>bnd (zAV fu (fun f=>zDA fu f a) c.Kids) fun b=>cnd (decide (b<0)) (some (-1)) (bnd (idx c.Kids b) fun e=>some e)
theorem zSh {fu:Nat} {a:Forest} {b:Int}:DD (zJT fu a b) 283 [.agg (zAE a),Z b] fun r=>Z r:=by
 refine fcI Tryz.func283 U (A [73,57,93,36] fun d _=>?_)
 refine A [3,0,61,44] (fun c _=>?_) zKN [(900000,2)]
 refine A [57,6,62,5,1,59,67,61,36] fun e _=>?_
 exact A [2,74]
def zCZ (fu:Nat) (a:Forest):Nat->Int×Int->Option Bool
 | 0,_=>none
 | k1+1,(by8,p9)=>cnd (p9 != (-1)) (bnd (idx a.Nodes p9) fun b=>cnd (b.Name==([102,105,101,108,100,115,101,116]:Bs)) (bnd (zF1 fu b) fun c=>cnd c (bnd (zJT fu a p9) fun d=>cnd (d != by8) (some true) (bnd (idx a.Nodes p9) fun e=>(zCZ fu a k1) (p9,e.Parent))) (bnd (idx a.Nodes p9) fun f=>(zCZ fu a k1) (p9,f.Parent))) (bnd (idx a.Nodes p9) fun g=>(zCZ fu a k1) (p9,g.Parent))) (some false)
def zJS (fu:Nat) (a:Forest) (b:Int):Option Bool:=bnd (idx a.Nodes b) fun d=>bnd (zF1 fu d) fun c=>cnd c (bnd (idx a.Nodes b) fun e=>some (e.Kind==1)) (bnd (idx a.Nodes b) fun f=>cnd (f.Kind != 1) (some false) (bnd (idx a.Nodes b) fun g=>(zCZ fu a) fu (b,g.Parent)))
theorem zSg {fu:Nat} {a:Forest} {g:Int}:DD (zJS fu a g) 264 [.agg (zAE a),Z g] fun r=>Y r:=by
 refine fcI Tryz.func264 U (A [73,57,6,93,36] fun o _=>?_)
 refine A [1,41] (fun n _=>?_) zME
 refine ns (zAF U ?_ ?_)
 ·refine A [93,36] fun p _=>?_
  exact A [104,74]
 ·refine A [68,93,36] fun q _=>?_
  refine A [3,0,5,1,59,67,62,6,93,36] fun l _=>?_
  refine A [3,0,13] ?_
  refine lw (zCZ fu a) [2] [2] (fun (b,c)=>[(5,Z b),(6,Z c)]) (fun _=>[]) fu (g,l.Parent) U U ?_
  rintro m ⟨b,c⟩
  refine A [6,62,10,2,86,59,72,93,36] fun k _=>?_
  refine A [1,31,7,12,0,76] ?_
  refine zAW (j:=52) U ?_ ?_
  ·refine A [1,41] (fun h _=>?_) zME
   refine pq 2 U (zAW (j:=56) U ?_ ?_)
   ·refine A [2,41] (fun i _=>?_) zSh
    refine A [3,0,5,1,59,4,69,52,2,1,2,6,2,53,9,0,0,2,0,14,30,62,1,255,204] ?_
    exact vT [78,80] [82] [] U U (zAw (T:=tab) zAZ a.Nodes U U U U U U U fun d _=>pzq U) (fun _=>U) (fun _=>U) fun d _=>A [204,19,46] (tx (c,d.Parent))
   ·refine A [106,11,24,4,69,52,2,1,2,6,2,53,9,0,0,2,0,14,30,62,1,255,204] ?_
    exact vT [78,80] [82] [] U U (zAw (T:=tab) zAZ a.Nodes U U U U U U U fun e _=>pzq U) (fun _=>U) (fun _=>U) fun e _=>A [204,19,46] (tx (c,e.Parent))
  ·refine A [110,11,24,4,69,52,2,1,2,6,2,53,9,0,0,2,0,14,30,62,1,255,204] ?_
   exact vT [78,80] [82] [] U U (zAw (T:=tab) zAZ a.Nodes U U U U U U U fun f _=>pzq U) (fun _=>U) (fun _=>U) fun f _=>A [204,19,46] (tx (c,f.Parent))
def zHT (fu:Nat) (a:Forest) (b:Int):Option Bool:=cnd (decide (b>=0)) (cnd (decide (b<(a.Nodes.length:Int))) (bnd (zAs fu a) fun c=>cnd c (bnd (zJS fu a b) fun d=>some d) (some false)) (some false)) (some false)
theorem zNr {fu:Nat} {a:Forest} {b:Int}:DD (zHT fu a b) 218 [.agg (zAE a),Z b] fun r=>Y r:=by
 refine fcI Tryz.func218 U (A [73,57,93,27,7,2,116,74,3,35,3,27,14,2,109,74,1,41] (fun c _=>?_) zA8)
 refine A [2,27,18,2,105,74,2,41] (fun d _=>?_) zSg
 exact A [2,74]
def zDk (fu:Nat) (e:Forest) (c:Unit×Bool×(List Node)×Int×(List Def)×(List Wait)×Int×Bool×(List Class)×(List State)×(List Due)) (h:List Int):Nat->Int×(List State)×(List Due)->Option ((List State)×(List Due))
 | 0,_=>none
 | k1+1,(t7,l8,l9)=>cnd (decide (t7<(h.length:Int))) (bnd (idx h t7) fun b=>bnd (zDH fu t7 c.2.2.1 c.2.2.2.2.1 c.2.2.2.2.2.1 c.2.2.2.2.2.2.1 c.2.2.2.2.2.2.2.1 c.2.2.2.2.2.2.2.2.1 l8) fun d=>cnd (!d.2) (bnd (rng .i64 (t7+1)) fun j=>(zDk fu e c h k1) (j,l8,l9)) (bnd (idx l8 t7) fun a=>cnd (a.Owner != b) (bnd (zCq fu d.1 t7 (⟨5,0,[],false,false,[],[],a.Owner,b,false⟩:Todo) l9) fun i=>bnd (zHT fu e t7) fun f=>cnd (!(f==({a with Owner:=b}:State).Barred)) (bnd (zCq fu d.1 t7 (⟨6,0,[],false,false,[],[],0,0,f⟩:Todo) i) fun o=>bnd (rng .i64 (t7+1)) fun k=>(zDk fu e c h k1) (k,((l8.set (t7).toNat ({a with Owner:=b}:State)).set (t7).toNat ({({a with Owner:=b}:State) with Barred:=f}:State)),o)) (bnd (rng .i64 (t7+1)) fun l=>(zDk fu e c h k1) (l,(l8.set (t7).toNat ({a with Owner:=b}:State)),i))) (bnd (zHT fu e t7) fun g=>cnd (!(g==a.Barred)) (bnd (zCq fu d.1 t7 (⟨6,0,[],false,false,[],[],0,0,g⟩:Todo) l9) fun p=>bnd (rng .i64 (t7+1)) fun m=>(zDk fu e c h k1) (m,(l8.set (t7).toNat ({a with Barred:=g}:State)),p)) (bnd (rng .i64 (t7+1)) fun n=>(zDk fu e c h k1) (n,l8,l9))))) (some (l8,l9))
def zJn (fu:Nat) (d:Forest) (b:List State) (e:Desk) (a:List Class):Option ((List State)×(List Due)):=bnd (zH7 fu d b e a) fun c=>cnd (!c.2.1) (some (c.2.2.2.2.2.2.2.2.2.1,[])) (bnd (zLl fu d) fun f=>(zDk fu d c f) fu (0,c.2.2.2.2.2.2.2.2.2.1,c.2.2.2.2.2.2.2.2.2.2))
theorem zVI {fu:Nat} {k:Forest} {e:List State} {w:Desk} {b:List Class}:DD (zJn fu k e w b) 148 [.agg (zAE k),.sl 4 false (e.map zBM),.agg (zI4 w),.sl 5 false (b.map zBh)] fun r=>.tup [.sl 4 false (r.1.map zBM),.sl 11 false (r.2.map zJi)]:=by
 refine fcI Tryz.func148 U (A [9,30,4,30,6,2,0,76,43] (fun v _=>?_) zMZ [(17,2102400),(2130,2102401),(31708,2102402)] [2102400,2102401,2102402])
 refine A [105,0,6,62] ?_
 refine zAF U ?_ ?_
 ·refine A [9,106,0,34,2102401] ?_
  exact zHt 9 (q:=.sl 11 false ([].map zJi)) U .nil rN
 ·refine A [68,80,41] (fun y _=>?_) zVN
  refine A [77,13] ?_
  refine lw (zDk fu k v y) [4,10,34,35] [2102400,4] (fun (g,f,h)=>[(36,Z g)]) (fun (g,f,h)=>[(2102401,.arr 53 4 (f.map zBM)),(2102402,.arr 171 11 (h.map zJi))]) fu (0,v.2.2.2.2.2.2.2.2.2.1,v.2.2.2.2.2.2.2.2.2.2) U U ?_
  rintro z ⟨g,f,h⟩
  refine A [75,10,28,86,6,52,1,3,10,2102400,2102401,2102402,53,10,0,1,3,7,0,16,48,112,15,511,210,79,34,2102401,34,2102402,8,72,80,36] fun d _=>?_
  refine A [3,0,61,44] (fun x _=>?_) zG2 [(900000,2102400),(900001,2102401),(900002,2102402)]
  refine A [3,31,14,92,6,62] ?_
  refine zAF U ?_ ?_
  ·refine A [86,14,16] fun l _=>?_
   exact A [89] (tx (l,f,h))
  ·refine A [67,9,105,38] fun a c=>?_
   refine A [57,6,93] ?_
   refine zAv (T:=tab) zBM f a (zAy c) U U U U U U U U (A [57,93,0] ?_)
   refine zAF U ?_ ?_
   ·refine A [76] ?_
    refine zCr (T:=tab) zBM f a ({a with Owner:=d}:State) (zAy c) U U U U U U U U U U U U U (A [0,14,105,20,43] (fun s _=>?_) zE4 [(900000,2102400),(900001,2102401),(900002,2102402)] [2102402])
    refine A [0,99] (fun i _=>?_) zNr
    refine A [57,76] ?_
    refine zAv (T:=tab) zBM (f.set (g).toNat ({a with Owner:=d}:State)) ({a with Owner:=d}:State) (zfr (zAy c)) U U U U U U U U (A [57] ?_)
    refine zAF U ?_ ?_
    ·refine A [76] ?_
     refine zCr (T:=tab) zBM (f.set (g).toNat ({a with Owner:=d}:State)) ({a with Owner:=d}:State) ({({a with Owner:=d}:State) with Barred:=i}:State) (zfr (zAy c)) U U U U U U U U U U U U U (A [0,14,104,20,43] (fun t _=>?_) zE4 [(900000,2102400),(900001,2102401),(900002,2102402)] [2102402])
     refine A [11,94] fun m _=>?_
     exact A [89] (tx (m,((f.set (g).toNat ({a with Owner:=d}:State)).set (g).toNat ({({a with Owner:=d}:State) with Barred:=i}:State)),t))
    ·refine A [4,94] fun n _=>?_
     exact A [89] (tx (n,(f.set (g).toNat ({a with Owner:=d}:State)),s))
   ·refine A [67,99] (fun j _=>?_) zNr
    refine A [57,76] ?_
    refine zAv (T:=tab) zBM f a (zAy c) U U U U U U U U (A [57] ?_)
    refine zAF U ?_ ?_
    ·refine A [76] ?_
     refine zCr (T:=tab) zBM f a ({a with Barred:=j}:State) (zAy c) U U U U U U U U U U U U U (A [0,14,104,20,43] (fun u _=>?_) zE4 [(900000,2102400),(900001,2102401),(900002,2102402)] [2102402])
     refine A [11,94] fun o _=>?_
     exact A [89] (tx (o,(f.set (g).toNat ({a with Barred:=j}:State)),u))
    ·refine A [4,94] fun p _=>?_
     exact A [89] (tx (p,f,h))
def zGQ (fu:Nat) (g:World) (f:Forest) (a:List Note) (i:List Node):Nat->Int×(List State)×(List (List Todo))×(List (List Int))×(List Int)×Bool->Option (World×Int)
 | 0,_=>none
 | k1+1,(t9,l10,c11,c12,c13,c14)=>cnd (decide (t9<(i.length:Int))) (bnd (idx i t9) fun l=>bnd (zI2 fu l) fun d=>bnd (zDY 32 (l10.length+([d]:List State).length)) fun _=>bnd (zJs fu (⟨c11,c12,c13,c14⟩:Line)) fun b=>bnd (rng .i64 (t9+1)) fun h=>(zGQ fu g f a i k1) (h,(l10++[d]),b.Todos,b.Stack,b.Back,b.Busy)) (bnd (zLx fu f l10 g.Desk g.Classes a) fun j=>bnd (zBa fu j (⟨({g with Forest:=f,States:=l10,Line:=(⟨c11,c12,c13,c14⟩:Line)}:World)⟩:zAI)) fun c=>bnd (zJn fu f c.World.States c.World.Desk c.World.Classes) fun e=>bnd (zBa fu e.2 (⟨({c.World with States:=e.1}:World)⟩:zAI)) fun k=>some (k.World,0))
def zKd (fu:Nat) (a:World) (c:Forest) (b:List Note):Option (World×Int):=bnd (zC5 fu (⟨a⟩:zAI)) fun e=>cnd (!e) (some (a,1)) (bnd (zAs fu c) fun f=>cnd (!f) (some (a,1)) (bnd (zEj fu (⟨a⟩:zAI) c) fun g=>cnd (!g) (some (a,1)) (bnd (zCb fu a.States) fun h=>bnd (piece c.Nodes (a.Forest.Nodes.length:Int) (c.Nodes.length:Int)) fun d=>(zGQ fu a c b d) fu (0,h,a.Line.Todos,a.Line.Stack,a.Line.Back,a.Line.Busy))))
theorem zT7 {fu:Nat} {b:World} {j:Forest} {a:List Note}:DD (zKd fu b j a) 85 [.agg (zBb b),.agg (zAE j),.sl 9 false (a.map zBL)] fun r=>.tup [.agg (zBb r.1),Z r.2]:=by
 refine fcI Tryz.func85 U (A [9,30,3,30,4,31,6,57,80,20,31,8,12,0,6,80,41] (fun v _=>?_) zGd)
 refine A [2,26,18,5,110,65,80,92,8,1,41] (fun w _=>?_) zA8
 refine A [3,26,23,5,105,65,80,92,8,2,41] (fun x _=>?_) zMQ
 refine A [2,0,5,3,80,92,8,67,61,43] (fun s _=>?_) zHL [(5,2320)] [2320]
 refine A [2,12,0,6,9,105,35] ?_
 refine zcQ (T:=tab) zAZ j.Nodes U U U U U U U U fun m _=>A [77,13] ?_
 refine lw (zGQ fu b j a m) [2,4,6,8,41,42] [6,4] (fun (l,c,e,f,g,h)=>[(43,Z l)]) (fun (l,c,e,f,g,h)=>[(2320,.arr 53 4 (c.map zBM)),(8,.box 94 ([.sl 10 false (b.Forest.Nodes.map zAZ),Z b.Forest.Most,.own 2320]++zI4 b.Desk++[.sl 1 false (e.map zDF),.sl 1 false (f.map zAr),.sl 1 false (g.map zAB),Y h,.sl 3 false (b.Tasks.map zJJ),.sl 2 false (b.Builds.map zI3),.sl 5 false (b.Classes.map zBh)]))]) fu (0,s,b.Line.Todos,b.Line.Stack,b.Line.Back,b.Line.Busy) U U ?_
 rintro u ⟨l,c,e,f,g,h⟩
 refine A [75] ?_
 refine zAF U ?_ ?_
 ·refine A [72,9,36] fun t _=>?_
  refine A [1,31,10,12,0,6,52,8,5,2,4,6,8,41,42,43,10,10,2320,8,6,4,53,10,0,1,3,0,8,24,63,127,255,511,204,54,1,1,100,102] (fun i _=>?_) zOp
  refine vS [102] [104,105] [52] U U (pl ([i].map zBM) 52 U U U U U U (pyq U)) U U (vU [17,98,104,105,4641] [106,98,4641,17] [2320] U U (pa zBM c ([i]:List State) U U U U U U U U (zS5 _) U U U (pyq U)) U U fun _ _=>A [202,50,4,1,17,106,110,4641,17,79,14,3,41] (fun d _=>?_) zQC)
  refine A [2,12,11,94] fun k _=>?_
  exact A [89] (tx (k,(c++[i]),d.Todos,d.Stack,d.Back,d.Busy))
 ·refine A [86,93,12,0,9,111,33,2320,41] (fun n _=>?_) zVS
  refine A [43] (fun o _=>?_) zGA [(900000,8)]
  refine A [0,9,110,41] (fun p _=>?_) zVI
  refine A [105,0,93,12,0,80,43] (fun q _=>?_) zGA [(900000,8)]
  exact A [0,61,92,8]
def zDy (fu:Nat) (r4:zBd×zAM) (b:World×Int):Nat->Int×(List Due)->Option (Int×zAM)
 | 0,_=>none
 | k1+1,(n6,l7)=>cnd (decide (n6<(r4.1.f.Nodes.length:Int))) (bnd (zJp fu r4.1.f n6 b.1.Desk) fun d=>cnd (d != (-1)) (bnd (zDY 104 (l7.length+([(⟨n6,(⟨9,d,[],false,false,[],[],0,0,false⟩:Todo)⟩:Due)]:List Due).length)) fun _=>bnd (rng .i64 (n6+1)) fun e=>(zDy fu r4 b k1) (e,(l7++[(⟨n6,(⟨9,d,[],false,false,[],[],0,0,false⟩:Todo)⟩:Due)]))) (bnd (rng .i64 (n6+1)) fun c=>(zDy fu r4 b k1) (c,l7))) (bnd (zBc fu l7 (⟨b.1,r4.2.node⟩:zAM)) fun a=>some (a.1,a.2))
def zHV (fu:Nat) (a:Int×Bool×zAM) (r4:zBd×zAM) (b:World×Int) (c:Unit):Option (Int×zAM):=(zDy fu r4 b) fu ((a.2.2.World.Forest.Nodes.length:Int),[])
def zDh (fu:Nat) (d:Op) (g:zAM):Option (Int×zAM):=bnd (zE3 fu d g) fun c=>cnd c.2.1 (some (c.1,c.2.2)) (bnd (zEX fu d c.2.2) fun a=>cnd (a.1.e != 0) (some (a.1.e,a.2)) (bnd (zKd fu a.2.World a.1.f a.1.notes) fun b=>cnd (b.2 != 0) (some (b.2,(⟨b.1,a.2.node⟩:zAM))) (cnd (d.Kind != 2) (cnd (d.Kind != 12) (some (b.2,(⟨b.1,a.2.node⟩:zAM))) ((zHV fu c a b) ())) ((zHV fu c a b) ()))))
theorem zRP {fu:Nat} {k:Op} {i:zAM}:FF (zDh fu k i) 38 [.loc 900000 0,.agg (cOp k)] [(900000,.box 99 (zB9 i))] [900000] (fun r=>Z r.1) fun r=>[(900000,.box 99 (zB9 r.2))]:=by
 refine fcI Tryz.func38 U (A [9,30,3,57,6,61,43] (fun f _=>?_) zQc [(900000,900000)])
 refine A [105,0,58,5,2,62,8,67,9,106,77,61,43] (fun d _=>?_) zN4 [(900000,900000)]
 refine A [31,8,12,0,6,93,0,5,2,93,74,68,52,4,3,0,3,7,8,8,900000,3,53,15,0,1,3,7,0,16,0,64,255,511,1023,1023,0,6143,16383,208,54,3,1,82,86,90,92] (fun g _=>?_) zT7
 refine vq 3 U (by kernel_rfl) (vS [] [18,19] [9] U U (zGV (T:=tab) 9 U U U U U U U U U (pyq U)) U U (A [50,3,1,18,19,94,19,201,79,76,12,0,6,9] ?_))
 refine zNN (zHV fu f d g) (fun (_:Unit)=>[(0,.loc 900000 0),(7,Z (f.2.2.World.Forest.Nodes.length:Int)),(8,.loc 8 0)]) (fun (_:Unit)=>[(8,.box 165 (zNB d.1)),(900000,.box 99 (zBb g.1++[Z d.2.node]))]) ?_ fun c=>?_
 ·rintro _
  refine A [7,75,62,13,56,1092,171,11,11] ?_
  refine lw (zDy fu d g) [0,8,11] [8,900000] (fun (b,a)=>[(12,Z b)]) (fun (b,a)=>[(1092,.arr 171 11 (a.map zJi))]) fu ((f.2.2.World.Forest.Nodes.length:Int),[]) U U ?_
  rintro n ⟨b,a⟩
  refine A [6,76,77] ?_
  refine zAF U ?_ ?_
  ·refine A [72,6,52,4,3,0,8,11,12,1092,8,900000,53,10,0,1,0,0,8,24,56,120,255,511,208,54,3,1,152,154,164,166] (fun h _=>?_) zQA
   refine A [201,79,62] ?_
   refine zAF U ?_ ?_
   ·refine A [14,3,20,20] ?_
    refine pl ([(⟨b,(⟨9,h,[],false,false,[],[],0,0,false⟩:Todo)⟩:Due)].map zJi) 91 U U U U U U (pa zJi a ([(⟨b,(⟨9,h,[],false,false,[],[],0,0,false⟩:Todo)⟩:Due)]:List Due) U U U U U U U U (zQ4 _) U U U (A [1,11,70,1,16] fun l _=>?_))
    exact A [89] (tx (l,(a++[(⟨b,(⟨9,h,[],false,false,[],[],0,0,false⟩:Todo)⟩:Due)])))
   ·refine A [4,70,1,16] fun e _=>?_
    exact A [89] (tx (e,a))
  ·refine A [86,61,33,1092,43] (fun m _=>?_) zFG [(900000,900000)]
   exact A [57,8]
 ·refine A [3,26,55,4,109,65,62,8,104] ?_
  refine zAW (j:=59) U ?_ ?_
  ·exact A [105,0,5,2,62,8,4,45] (c ())
  ·exact A [105,11,24,4,45] (c ())
def zK2 (fu:Nat) (b:World) (c:Op) (e:Bool):Option (World×Int×Int):=cnd e (some (b,(-1),1)) (bnd (zDu fu c.Kind) fun d=>cnd (!d) (some (b,(-1),7)) (bnd (zDh fu c (⟨b,(-1)⟩:zAM)) fun a=>cnd (a.1 != 0) (some (b,(-1),a.1)) (some (a.2.World,a.2.node,0))))
def zGl (fu:Nat) (b:World) (a:Op):Option (World×Int×Int):=bnd (zQy fu a (-1) (b.Forest.Nodes.length:Int)) fun c=>cnd (c.2 != 0) ((zK2 fu b a) (c.2 != 0)) (cnd (!(zfc c.1 a)) ((zK2 fu b a) (!(zfc c.1 a))) (bnd (zFc fu b) fun d=>(zK2 fu b a) (!d)))
theorem zJh {fu:Nat} {c:World} {b:Op}:DD (zGl fu c b) 11 [.agg (zBb c),.agg (cOp b)] fun r=>.tup [.agg (zBb r.1),Z r.2.1,Z r.2.2]:=by
 refine fcI Tryz.func11 U (A [73,30,3,31,4,2,0,76,35,41] (fun d _=>?_) zaX)
 refine A [3,31,7,92,6,13,6,93,0] ?_
 refine jw (zK2 fu c b) [2,3,4] [4,3,2] (fun e=>[(20,Y e)]) (fun _=>[]) U U ?_ fun a=>?_
 ·rintro e
  refine A [7,5,4,80,12,2,74,99] (fun g _=>?_) zGv
  refine A [2,0,5,4,80,12,2,74,4,69,80,20,30,38,57,6,61,43] (fun h _=>?_) zRP [(900000,38)]
  exact A [57,62,5,4,61,12,2,74,68,52,2,2,4,9,38,4,60,50,3,1,8,9,98,9,202,79,8]
 ·refine zAF U ?_ ?_
  ·exact A [4,45] (a (d.2 != 0))
  ·refine A [61] ?_
   refine zUr zfd U U U U U U U (A [57] ?_)
   refine zAF U ?_ ?_
   ·exact A [4,45] (a (!(zfc d.1 b)))
   ·refine A [14,1,41] (fun f _=>?_) zIa
    exact A [2,11,45] (a (!f))
def zG3 (fu:Nat):Option Bool:=bnd (zRj fu [(⟨false,[],[],[],[(⟨1,[]⟩:Hook)]⟩:Class)] 5) fun c=>bnd (zGl fu ({c.1 with Desk:=({c.1.Desk with Defs:=[(⟨[120,45,97],[120,45,97],0⟩:Def)]}:Desk)}:World) (⟨2,0,0,0,[88,45,97],[],false⟩:Op)) fun b=>bnd (zGl fu b.1 (⟨6,1,0,(-1),[],[],false⟩:Op)) fun a=>bnd (zGl fu a.1 (⟨6,2,0,(-1),[],[],false⟩:Op)) fun f=>bnd (zGl fu a.1 (⟨17,0,0,0,[120,45,98],[],false⟩:Op)) fun e=>bnd (zGl fu a.1 (⟨25,0,0,0,[],[],false⟩:Op)) fun g=>cnd (c.2==0) (cnd (b.2.2==0) (cnd (a.2.2==0) (cnd (f.2.2==1) (cnd (e.2.2==0) (cnd (g.2.2==7) (cnd (b.2.1==1) (cnd (e.2.1==0) (bnd (idx b.1.Line.Todos 1) fun i=>cnd ((i.length:Int)==1) (bnd (idx a.1.Line.Todos 1) fun j=>cnd ((j.length:Int)==2) (bnd (zDu fu 1) fun h=>cnd (!h) (bnd (zDu fu 2) fun d=>some d) (some false)) (some false)) (some false)) (some false)) (some false)) (some false)) (some false)) (some false)) (some false)) (some false)) (some false)
theorem zNV {fu:Nat}:DD (zG3 fu) 8 [] fun r=>Y r:=by
 refine fcI Tryz.func8 U (A [58,9,20] ?_)
 refine zcP 19 U (.agg (ds:=[Z 1,.sl 7 false ([].map cOp)]) ⟨.rfl,.nil,trivial⟩) (pl ([(⟨1,[]⟩:Hook)].map zJI) 20 U U U U U U (A [20,33,20] ?_))
 refine zcP 21 U (.agg (ds:=[Y false,.sl 1 false ([].map zQ6),.sl 7 false ([].map cOp),.sl 7 false ([].map cOp),.sl 2 false ([(⟨1,[]⟩:Hook)].map zJI)]) ⟨.rfl,.nil,.nil,.nil,.rfl,trivial⟩) (pl ([(⟨false,[],[],[],[(⟨1,[]⟩:Hook)]⟩:Class)].map zBh) 22 U U U U U U (A [33,22,41] (fun b _=>?_) zVT))
 refine A [3,31,1,92,9,20] ?_
 refine pl ([(⟨[120,45,97],[120,45,97],0⟩:Def)].map zQn) 27 U U U U U U (A [2,12,0,80,20,33,27,41] (fun c _=>?_) zJh)
 refine A [104,31,3,12,2,0,80,20,41] (fun d _=>?_) zJh
 refine A [104,31,6,12,2,0,80,20,41] (fun e _=>?_) zJh
 refine A [104,31,9,12,2,0,80,20,41] (fun f _=>?_) zJh
 refine A [104,31,12,12,2,0,80,20,41] (fun g _=>?_) zJh
 refine A [104,31,15,12,2,0,93,27,67,2,153,74,104,27,71,2,149,74,104,27,75,2,145,74,104,27,79,2,141,74,104,27,83,2,137,74,104,27,87,2,133,74,104,27,91,2,129,74,104,27,95,2,125,74,3,36] fun i _=>?_
 refine A [1,35,3,27,104,2,116,74,3,36] fun j _=>?_
 refine A [1,35,3,27,113,2,107,74,41] (fun h _=>?_) zGv
 refine A [3,27,117,2,3,74,41] (fun a _=>?_) zGv
 exact A [2,74]
def zCi (a:Forest):Nat->Int->Option Bool
 | 0,_=>none
 | k1+1,i2=>cnd (decide (i2<(a.Nodes.length:Int))) (bnd (idx a.Nodes i2) fun c=>cnd (decide ((c.Kids.length:Int)>60)) (some false) (bnd (idx a.Nodes i2) fun d=>cnd (decide ((d.Attrs.length:Int)>60)) (some false) (bnd (idx a.Nodes i2) fun e=>cnd (decide ((e.Name.length:Int)>300)) (some false) (bnd (rng .i64 (i2+1)) fun b=>(zCi a k1) b)))) (some true)
def zFL (fu:Nat) (a:Forest):Option Bool:=cnd (decide ((a.Nodes.length:Int)>60)) (some false) ((zCi a) fu 0)
theorem zNW {fu:Nat} {a:Forest}:DD (zFL fu a) 31 [.agg (zAE a)] fun r=>Y r:=by
 refine fcI Tryz.func31 U (A [9,30,1,57,6,61,77,5,1,59,68,58,13] ?_)
 refine lw (zCi a) [1] [1] (fun b=>[(3,Z b)]) (fun _=>[]) fu 0 U U ?_
 rintro d b
 refine A [6,93,77,10,2,86,59,72,93,36] fun e _=>?_
 refine A [2,35,2,26,23,2,119,83,3,36] fun f _=>?_
 refine A [2,35,3,26,33,2,109,83,3,36] fun g _=>?_
 refine A [105,0,5,1,59,4,70,1,16] fun c _=>?_
 exact A [89] (tx c)
def zBw (a:Desk):Nat->Int->Option Bool
 | 0,_=>none
 | k2+1,i6=>cnd (decide (i6<(a.Waits.length:Int))) (bnd (idx a.Waits i6) fun c=>cnd (decide ((c.Name.length:Int)>300)) (some false) (bnd (rng .i64 (i6+1)) fun b=>(zBw a k2) b)) (some true)
def zCj (fu:Nat) (a:Desk):Nat->Int->Option Bool
 | 0,_=>none
 | k1+1,i2=>cnd (decide (i2<(a.Defs.length:Int))) (bnd (idx a.Defs i2) fun c=>cnd (decide ((c.Name.length:Int)>300)) (some false) (bnd (idx a.Defs i2) fun d=>cnd (decide ((d.Local.length:Int)>300)) (some false) (bnd (rng .i64 (i2+1)) fun b=>(zCj fu a k1) b))) ((zBw a) fu 0)
def zFM (fu:Nat) (a:Desk):Option Bool:=cnd (decide ((a.Defs.length:Int)>40)) (some false) (cnd (decide ((a.Waits.length:Int)>40)) (some false) ((zCj fu a) fu 0))
theorem zNX {fu:Nat} {a:Desk}:DD (zFM fu a) 32 [.agg (zI4 a)] fun r=>Y r:=by
 refine fcI Tryz.func32 U (A [9,30,1,57,6,61,35,2,26,9,2,105,83,2,35,2,0,5,1,59,68,58,13] ?_)
 refine lw (zCj fu a) [1] [1] (fun b=>[(3,Z b)]) (fun _=>[]) fu 0 U U ?_
 rintro f b
 refine A [6,93,77] ?_
 refine zAF U ?_ ?_
 ·refine A [72,93,36] fun h _=>?_
  refine A [105,26,30,2,109,83,3,36] fun i _=>?_
  refine A [105,0,5,1,59,4,70,1,16] fun d _=>?_
  exact A [89] (tx d)
 ·refine A [86,6,58,13] ?_
  refine lw (zBw a) [1] [1] (fun c=>[(4,Z c)]) (fun _=>[]) fu 0 U U ?_
  rintro g c
  refine A [6,93,77,10,2,86,59,72,93,36] fun j _=>?_
  refine A [104,0,5,1,59,4,70,1,16] fun e _=>?_
  exact A [89] (tx e)
def zBx (l1:Line):Nat->Int->Option Bool
 | 0,_=>none
 | k2+1,i5=>cnd (decide (i5<(l1.Stack.length:Int))) (bnd (idx l1.Stack i5) fun b=>cnd (decide ((b.length:Int)>60)) (some false) (bnd (rng .i64 (i5+1)) fun a=>(zBx l1 k2) a)) (some true)
def zCk (fu:Nat) (l1:Line):Nat->Int->Option Bool
 | 0,_=>none
 | k1+1,i2=>cnd (decide (i2<(l1.Todos.length:Int))) (bnd (idx l1.Todos i2) fun b=>cnd (decide ((b.length:Int)>60)) (some false) (bnd (rng .i64 (i2+1)) fun a=>(zCk fu l1 k1) a)) ((zBx l1) fu 0)
def zFN (fu:Nat) (l1:Line):Option Bool:=cnd (decide ((l1.Todos.length:Int)>60)) (some false) (cnd (decide ((l1.Stack.length:Int)>30)) (some false) (cnd (decide ((l1.Back.length:Int)>60)) (some false) ((zCk fu l1) fu 0)))
theorem zNY {fu:Nat} {l1:Line}:DD (zFN fu l1) 33 [.agg (zPf l1)] fun r=>Y r:=by
 refine fcI Tryz.func33 U (A [9,30,1,57,6,61,35,2,26,9,2,111,83,2,35,3,26,15,2,105,83,2,35,2,0,5,1,59,68,58,13] ?_)
 refine lw (zCk fu l1) [1] [1] (fun a=>[(3,Z a)]) (fun _=>[]) fu 0 U U ?_
 rintro e a
 refine A [6,93,77] ?_
 refine zAF U ?_ ?_
 ·refine A [72,93,36] fun g _=>?_
  refine A [1,77,5,1,59,4,70,1,16] fun c _=>?_
  exact A [89] (tx c)
 ·refine A [86,6,58,13] ?_
  refine lw (zBx l1) [1] [1] (fun b=>[(4,Z b)]) (fun _=>[]) fu 0 U U ?_
  rintro f b
  refine A [6,93,77,10,2,86,59,72,93,36] fun h _=>?_
  refine A [1,77,5,1,59,4,70,1,16] fun d _=>?_
  exact A [89] (tx d)
def zCn (c:Int) (b:Class) (a:Int->Option Bool):Nat->Int->Option Bool
 | 0,_=>none
 | k2+1,k4=>cnd (decide (k4<(b.Hooks.length:Int))) (bnd (idx b.Hooks k4) fun f=>cnd (decide ((f.Do.length:Int)>80)) (some false) (bnd (rng .i64 (k4+1)) fun d=>(zCn c b a k2) d)) (bnd (rng .i64 (c+1)) fun e=>a e)
def zA4 (fu:Nat) (a:List Class):Nat->Int->Option Bool
 | 0,_=>none
 | k1+1,i2=>cnd (decide (i2<(a.length:Int))) (bnd (idx a i2) fun b=>cnd (decide ((b.Watch.length:Int)>20)) (some false) (cnd (decide ((b.Hooks.length:Int)>20)) (some false) (cnd (decide ((b.Peek.length:Int)>80)) (some false) (cnd (decide ((b.Make.length:Int)>80)) (some false) ((zCn i2 b (zA4 fu a k1)) fu 0))))) (some true)
def zD2 (fu:Nat) (a:List Class):Option Bool:=cnd (decide ((a.length:Int)>14)) (some false) ((zA4 fu a) fu 0)
theorem zNa {fu:Nat} {a:List Class}:DD (zD2 fu a) 34 [.sl 5 false (a.map zBh)] fun r=>Y r:=by
 refine fcI Tryz.func34 U (A [75,80,77,5,1,59,68,58,13] ?_)
 refine lw (zA4 fu a) [0] [] (fun b=>[(3,Z b)]) (fun _=>[]) fu 0 U U ?_
 rintro e b
 refine A [6,61,77,10,2,86,59,72,61,36] fun f _=>?_
 refine A [1,31,4,12,0,6,61,35,2,26,23,2,117,83,2,35,3,26,29,2,111,83,2,35,3,26,35,2,105,83,2,35,2,0,5,1,59,67,58,13] ?_
 refine lw (zCn b f (zA4 fu a e)) [0,3,4] [4] (fun k4=>[(5,Z k4)]) (fun _=>[]) fu 0 U U ?_
 rintro g k4
 refine A [6,93,77] ?_
 refine zAF U ?_ ?_
 ·refine A [72,93,36] fun h _=>?_
  refine A [2,77,5,1,59,4,70,1,16] fun c _=>?_
  exact A [89] (tx c)
 ·refine A [17,70,1,16] fun d _=>?_
  exact A [89] (tx d)
def zCo (l1:List Class) (b:Int) (a:Int->Option Bool):Nat->Int->Option Bool
 | 0,_=>none
 | k2+1,k3=>bnd (idx l1 b) fun e=>cnd (decide (k3<(e.Watch.length:Int))) (bnd (idx l1 b) fun f=>bnd (idx f.Watch k3) fun g=>cnd (decide ((g.length:Int)>300)) (some false) (bnd (rng .i64 (k3+1)) fun c=>(zCo l1 b a k2) c)) (bnd (rng .i64 (b+1)) fun d=>a d)
def zA5 (fu:Nat) (l1:List Class):Nat->Int->Option Bool
 | 0,_=>none
 | k1+1,i2=>cnd (decide (i2<(l1.length:Int))) ((zCo l1 i2 (zA5 fu l1 k1)) fu 0) (some true)
def zFQ (fu:Nat) (l1:List Class):Option Bool:=(zA5 fu l1) fu 0
theorem zNc {fu:Nat} {l1:List Class}:DD (zFQ fu l1) 35 [.sl 5 false (l1.map zBh)] fun r=>Y r:=by
 refine fcI Tryz.func35 U (A [75,58,13] ?_)
 refine lw (zA5 fu l1) [0] [] (fun a=>[(3,Z a)]) (fun _=>[]) fu 0 U U ?_
 rintro e a
 refine A [6,61,77,10,2,86,59,72,58,13] ?_
 refine lw (zCo l1 a (zA5 fu l1 e)) [0,3] [] (fun b=>[(4,Z b)]) (fun _=>[]) fu 0 U U ?_
 rintro f b
 refine A [6,93,36] fun g _=>?_
 refine A [2,77] ?_
 refine zAF U ?_ ?_
 ·refine A [72,61,36] fun h _=>?_
  refine A [3,36] fun i _=>?_
  refine A [3,0,5,1,59,4,70,1,16] fun c _=>?_
  exact A [89] (tx c)
 ·refine A [17,70,1,16] fun d _=>?_
  exact A [89] (tx d)
def zFP (fu:Nat) (a:World):Option Bool:=bnd (zFL fu a.Forest) fun b=>cnd b (cnd (decide ((a.States.length:Int)<=60)) (bnd (zFM fu a.Desk) fun c=>cnd c (bnd (zFN fu a.Line) fun d=>cnd d (cnd (decide ((a.Tasks.length:Int)<=60)) (cnd (decide ((a.Builds.length:Int)<=60)) (bnd (zD2 fu a.Classes) fun e=>cnd e (bnd (zFQ fu a.Classes) fun f=>some f) (some false)) (some false)) (some false)) (some false)) (some false)) (some false)) (some false)
theorem zNb {fu:Nat} {a:World}:DD (zFP fu a) 9 [.agg (zBb a)] fun r=>Y r:=by
 refine fcI Tryz.func9 U (A [9,30,1,57,99] (fun b _=>?_) zNW)
 refine A [1,27,6,2,138,74,2,35,3,27,12,2,132,74,2,41] (fun c _=>?_) zNX
 refine A [2,27,17,2,127,74,2,41] (fun d _=>?_) zNY
 refine A [2,27,22,2,122,74,2,35,3,27,28,2,116,74,2,35,3,27,34,2,110,74,2,41] (fun e _=>?_) zNa
 refine A [2,27,39,2,105,74,2,41] (fun f _=>?_) zNc
 exact A [2,74]
def zCy (a b:List Attr):Nat->Int->Option Bool
 | 0,_=>none
 | k1+1,i3=>cnd (decide (i3<(a.length:Int))) (bnd (idx a i3) fun d=>bnd (idx b i3) fun e=>cnd (!(zbI d e)) (some false) (bnd (rng .i64 (i3+1)) fun c=>(zCy a b k1) c)) (some true)
def zFs (fu:Nat) (a b:List Attr):Option Bool:=cnd ((a.length:Int) != (b.length:Int)) (some false) ((zCy a b) fu 0)
theorem zN8 {fu:Nat} {a b:List Attr}:DD (zFs fu a b) 61 [.sl 2 false (a.map zDf),.sl 2 false (b.map zDf)] fun r=>Y r:=by
 refine fcI Tryz.func61 U (A [75,80,35,1,77,5,1,59,68,58,13] ?_)
 refine lw (zCy a b) [0,1] [] (fun c=>[(5,Z c)]) (fun _=>[]) fu 0 U U ?_
 rintro g c
 refine A [6,61,77,10,2,86,59,72,6,97,202] ?_
 refine vT [34,36] [38] [] U U (zAw (T:=tab) zDf a U U U U U U U fun e _=>pzq U) (fun _=>U) (fun _=>U) fun e _=>vq 3 U (by kernel_rfl) (vT [42,44] [46] [] U U (zAw (T:=tab) zDf b U U U U U U U fun f _=>pzq U) (fun _=>U) (fun _=>U) fun f _=>vq 1 U (by kernel_rfl) (vS [40,48] [50] [] U U (zUr zgl U U U U U U U (pyq U)) U U (A [79,5,1,59,4,70,1,16] fun d _=>?_)))
 exact A [89] (tx d)
def zBQ (a b:List Int):Nat->Int->Option Bool
 | 0,_=>none
 | k1+1,i3=>cnd (decide (i3<(a.length:Int))) (bnd (idx a i3) fun d=>bnd (idx b i3) fun e=>cnd (d != e) (some false) (bnd (rng .i64 (i3+1)) fun c=>(zBQ a b k1) c)) (some true)
def zB1 (fu:Nat) (a b:List Int):Option Bool:=cnd ((a.length:Int) != (b.length:Int)) (some false) ((zBQ a b) fu 0)
theorem zG4 {fu:Nat} {a b:List Int}:DD (zB1 fu a b) 62 [.sl 1 false (a.map zAB),.sl 1 false (b.map zAB)] fun r=>Y r:=by
 refine fcI Tryz.func62 U (A [75,80,35,1,77,5,1,59,68,58,13] ?_)
 refine lw (zBQ a b) [0,1] [] (fun c=>[(5,Z c)]) (fun _=>[]) fu 0 U U ?_
 rintro g c
 refine A [6,61,77,10,2,86,59,72,6,97,202] ?_
 refine vT [34,36] [38] [] U U (zAw (T:=tab) zAB a U U U U U U U fun e _=>pzq U) (fun _=>U) (fun _=>U) fun e _=>vq 3 U (by kernel_rfl) (vT [42,44] [46] [] U U (zAw (T:=tab) zAB b U U U U U U U fun f _=>pzq U) (fun _=>U) (fun _=>U) fun f _=>A [202,79,5,1,59,4,70,1,16] fun d _=>?_)
 exact A [89] (tx d)
def zGL (fu:Nat) (a b:Node):Option Bool:=cnd (a.Kind==b.Kind) (cnd (a.Name==b.Name) (cnd (a.Is==b.Is) (cnd (a.Data==b.Data) (bnd (zFs fu a.Attrs b.Attrs) fun c=>cnd c (cnd (a.Parent==b.Parent) (bnd (zB1 fu a.Kids b.Kids) fun d=>cnd d (cnd (a.Host==b.Host) (cnd (a.Under==b.Under) (some (a.Doc==b.Doc)) (some false)) (some false)) (some false)) (some false)) (some false)) (some false)) (some false)) (some false)) (some false)
theorem zOc {fu:Nat} {a b:Node}:DD (zGL fu a b) 26 [.agg (zAZ a),.agg (zAZ b)] fun r=>Y r:=by
 refine fcI Tryz.func26 U (A [73,30,3,57,9,106,27,10,2,163,74,107,27,17,2,156,74,107,27,24,2,149,74,107,27,31,2,142,74,104,41] (fun c _=>?_) zN8)
 refine A [2,27,38,2,135,74,107,27,45,2,128,74,104,41] (fun d _=>?_) zG4
 exact A [2,26,52,14,107,26,59,8,107,26,66,2,107,74,107,74,114,74,121,74]
def zCz (fu:Nat) (a b:Forest):Nat->Int->Option Bool
 | 0,_=>none
 | k1+1,i3=>cnd (decide (i3<(a.Nodes.length:Int))) (bnd (idx a.Nodes i3) fun e=>bnd (idx b.Nodes i3) fun f=>bnd (zGL fu e f) fun d=>cnd (!d) (some false) (bnd (rng .i64 (i3+1)) fun c=>(zCz fu a b k1) c)) (some true)
def zDI (fu:Nat) (a b:Forest):Option Bool:=cnd (a.Most != b.Most) (some false) (cnd ((a.Nodes.length:Int) != (b.Nodes.length:Int)) (some false) ((zCz fu a b) fu 0))
theorem zJr {fu:Nat} {a b:Forest}:DD (zDI fu a b) 17 [.agg (zAE a),.agg (zAE b)] fun r=>Y r:=by
 refine fcI Tryz.func17 U (A [73,30,3,57,6,9,106,26,11,2,108,83,2,35,2,35,2,0,5,1,59,68,58,13] ?_)
 refine lw (zCz fu a b) [2,3] [3,2] (fun c=>[(5,Z c)]) (fun _=>[]) fu 0 U U ?_
 rintro g c
 refine A [6,93,77,10,2,86,59,72,6,52,3,2,2,3,5,3,2,53,12,0,1,0,7,15,0,32,0,224,480,1023,2047,203] ?_
 refine vT [56,58] [60] [] U U (zAw (T:=tab) zAZ a.Nodes U U U U U U U fun e _=>pzq U) (fun _=>U) (fun _=>U) fun e _=>vq 4 U (by kernel_rfl) (vT [66,68] [70] [] U U (zAw (T:=tab) zAZ b.Nodes U U U U U U U fun f _=>pzq U) (fun _=>U) (fun _=>U) fun f _=>A [201,54,2,1,62,72,74] (fun h _=>?_) zOc)
 refine A [201,79,5,1,59,4,70,1,16] fun d _=>?_
 exact A [89] (tx d)
def zCL (a b:List State):Nat->Int->Option Bool
 | 0,_=>none
 | k1+1,i3=>cnd (decide (i3<(a.length:Int))) (bnd (idx a i3) fun d=>bnd (idx b i3) fun e=>cnd (!(zRy d e)) (some false) (bnd (rng .i64 (i3+1)) fun c=>(zCL a b k1) c)) (some true)
def zDU (fu:Nat) (a b:List State):Option Bool:=cnd ((a.length:Int) != (b.length:Int)) (some false) ((zCL a b) fu 0)
theorem zIh {fu:Nat} {a b:List State}:DD (zDU fu a b) 18 [.sl 4 false (a.map zBM),.sl 4 false (b.map zBM)] fun r=>Y r:=by
 refine fcI Tryz.func18 U (A [75,80,35,1,77,5,1,59,68,58,13] ?_)
 refine lw (zCL a b) [0,1] [] (fun c=>[(5,Z c)]) (fun _=>[]) fu 0 U U ?_
 rintro g c
 refine A [6,61,77,10,2,86,59,72,6,97,202] ?_
 refine vT [34,36] [38] [] U U (zAw (T:=tab) zBM a U U U U U U U fun e _=>pzq U) (fun _=>U) (fun _=>U) fun e _=>vq 3 U (by kernel_rfl) (vT [42,44] [46] [] U U (zAw (T:=tab) zBM b U U U U U U U fun f _=>pzq U) (fun _=>U) (fun _=>U) fun f _=>vq 1 U (by kernel_rfl) (vS [40,48] [50] [] U U (zUr zfe U U U U U U U (pyq U)) U U (A [79,5,1,59,4,70,1,16] fun d _=>?_)))
 exact A [89] (tx d)
def zCH (a c:Desk):Nat->Int->Option Bool
 | 0,_=>none
 | k2+1,i7=>cnd (decide (i7<(a.Waits.length:Int))) (bnd (idx a.Waits i7) fun d=>bnd (idx c.Waits i7) fun e=>cnd (!(zbM d e)) (some false) (bnd (rng .i64 (i7+1)) fun b=>(zCH a c k2) b)) (some true)
def zC0 (fu:Nat) (a b:Desk):Nat->Int->Option Bool
 | 0,_=>none
 | k1+1,i3=>cnd (decide (i3<(a.Defs.length:Int))) (bnd (idx a.Defs i3) fun d=>bnd (idx b.Defs i3) fun e=>cnd (!(zgh d e)) (some false) (bnd (rng .i64 (i3+1)) fun c=>(zC0 fu a b k1) c)) ((zCH a b) fu 0)
def zFt (fu:Nat) (a b:Desk):Option Bool:=cnd ((a.Defs.length:Int) != (b.Defs.length:Int)) (some false) (cnd ((a.Waits.length:Int) != (b.Waits.length:Int)) (some false) (cnd (a.Next != b.Next) (some false) (cnd (!(a.Busy==b.Busy)) (some false) ((zC0 fu a b) fu 0))))
theorem zN9 {fu:Nat} {a b:Desk}:DD (zFt fu a b) 29 [.agg (zI4 a),.agg (zI4 b)] fun r=>Y r:=by
 refine fcI Tryz.func29 U (A [73,30,3,57,6,61,35,2,35,2,26,14,2,122,83,2,35,2,35,3,26,23,2,113,83,107,26,30,2,106,83,106,0,5,1,59,68,58,13] ?_)
 refine lw (zC0 fu a b) [2,3] [3,2] (fun d=>[(5,Z d)]) (fun _=>[]) fu 0 U U ?_
 rintro k d
 refine A [6,93,77] ?_
 refine zAF U ?_ ?_
 ·refine A [72,6,52,3,2,2,3,5,3,2,98] ?_
  refine vT [90,92] [94] [] U U (zAw (T:=tab) zQn a.Defs U U U U U U U fun g _=>pzq U) (fun _=>U) (fun _=>U) fun g _=>vq 4 U (by kernel_rfl) (vT [100,102] [104] [] U U (zAw (T:=tab) zQn b.Defs U U U U U U U fun h _=>pzq U) (fun _=>U) (fun _=>U) fun h _=>vq 1 U (by kernel_rfl) (vS [96,106] [108] [] U U (zUr eqf_88 U U U U U U U (pyq U)) U U (A [79,5,1,59,4,70,1,16] fun f _=>?_)))
  exact A [89] (tx f)
 ·refine A [86,6,58,13] ?_
  refine lw (zCH a b) [2,3] [3,2] (fun e=>[(6,Z e)]) (fun _=>[]) fu 0 U U ?_
  rintro l e
  refine A [6,93,77,10,2,86,59,72,6,52,3,2,2,3,6,3,2,98] ?_
  refine vT [126,128] [130] [] U U (zAw (T:=tab) zJa a.Waits U U U U U U U fun i _=>pzq U) (fun _=>U) (fun _=>U) fun i _=>vq 4 U (by kernel_rfl) (vT [136,138] [140] [] U U (zAw (T:=tab) zJa b.Waits U U U U U U U fun j _=>pzq U) (fun _=>U) (fun _=>U) fun j _=>vq 1 U (by kernel_rfl) (vS [132,142] [144] [] U U (zUr zgk U U U U U U U (pyq U)) U U (A [79,5,1,59,4,70,1,16] fun c _=>?_)))
  exact A [89] (tx c)
def zCl (a b:List Todo):Nat->Int->Option Bool
 | 0,_=>none
 | k1+1,i3=>cnd (decide (i3<(a.length:Int))) (bnd (idx a i3) fun d=>bnd (idx b i3) fun e=>cnd (!(zbL d e)) (some false) (bnd (rng .i64 (i3+1)) fun c=>(zCl a b k1) c)) (some true)
def zD1 (fu:Nat) (a b:List Todo):Option Bool:=cnd ((a.length:Int) != (b.length:Int)) (some false) ((zCl a b) fu 0)
theorem zJM {fu:Nat} {a b:List Todo}:DD (zD1 fu a b) 16 [.sl 10 false (a.map zJK),.sl 10 false (b.map zJK)] fun r=>Y r:=by
 refine fcI Tryz.func16 U (A [75,80,35,1,77,5,1,59,68,58,13] ?_)
 refine lw (zCl a b) [0,1] [] (fun c=>[(5,Z c)]) (fun _=>[]) fu 0 U U ?_
 rintro g c
 refine A [6,61,77,10,2,86,59,72,6,97,202] ?_
 refine vT [34,36] [38] [] U U (zAw (T:=tab) zJK a U U U U U U U fun e _=>pzq U) (fun _=>U) (fun _=>U) fun e _=>vq 3 U (by kernel_rfl) (vT [42,44] [46] [] U U (zAw (T:=tab) zJK b U U U U U U U fun f _=>pzq U) (fun _=>U) (fun _=>U) fun f _=>vq 1 U (by kernel_rfl) (vS [40,48] [50] [] U U (zUr eqf_80 U U U U U U U (pyq U)) U U (A [79,5,1,59,4,70,1,16] fun d _=>?_)))
 exact A [89] (tx d)
def zCI (fu:Nat) (a f:Line):Nat->Int->Option Bool
 | 0,_=>none
 | k2+1,i9=>cnd (decide (i9<(a.Stack.length:Int))) (bnd (idx a.Stack i9) fun d=>bnd (idx f.Stack i9) fun e=>bnd (zB1 fu d e) fun c=>cnd (!c) (some false) (bnd (rng .i64 (i9+1)) fun b=>(zCI fu a f k2) b)) (some true)
def zC1 (fu:Nat) (a b:Line):Nat->Int->Option Bool
 | 0,_=>none
 | k1+1,i4=>cnd (decide (i4<(a.Todos.length:Int))) (bnd (idx a.Todos i4) fun e=>bnd (idx b.Todos i4) fun f=>bnd (zD1 fu e f) fun d=>cnd (!d) (some false) (bnd (rng .i64 (i4+1)) fun c=>(zC1 fu a b k1) c)) ((zCI fu a b) fu 0)
def zFu (fu:Nat) (a b:Line):Option Bool:=cnd ((a.Todos.length:Int) != (b.Todos.length:Int)) (some false) (cnd ((a.Stack.length:Int) != (b.Stack.length:Int)) (some false) (bnd (zB1 fu a.Back b.Back) fun c=>cnd (!c) (some false) (cnd (!(a.Busy==b.Busy)) (some false) ((zC1 fu a b) fu 0))))
theorem zOA {fu:Nat} {a b:Line}:DD (zFu fu a b) 39 [.agg (zPf a),.agg (zPf b)] fun r=>Y r:=by
 refine fcI Tryz.func39 U (A [73,30,3,57,6,61,35,2,35,2,26,14,2,123,83,2,35,2,35,3,26,23,2,114,83,104,41] (fun n _=>?_) zG4)
 refine A [3,26,31,2,106,83,106,0,5,1,59,68,58,13] ?_
 refine lw (zC1 fu a b) [2,3] [3,2] (fun f=>[(5,Z f)]) (fun _=>[]) fu 0 U U ?_
 rintro l f
 refine A [6,93,77] ?_
 refine zAF U ?_ ?_
 ·refine A [72,6,52,3,2,2,3,5,3,2,53,12,0,1,0,7,15,0,32,0,224,480,1023,2047,203] ?_
  refine vT [92,94] [96] [] U U (zAw (T:=tab) zDF a.Todos U U U U U U U fun j _=>pzq U) (fun _=>U) (fun _=>U) fun j _=>vq 4 U (by kernel_rfl) (vT [102,104] [106] [] U U (zAw (T:=tab) zDF b.Todos U U U U U U U fun k _=>pzq U) (fun _=>U) (fun _=>U) fun k _=>A [201,54,2,1,98,108,110] (fun o _=>?_) zJM)
  refine A [201,79,5,1,59,4,70,1,16] fun h _=>?_
  exact A [89] (tx h)
 ·refine A [86,6,58,13] ?_
  refine lw (zCI fu a b) [2,3] [3,2] (fun g=>[(6,Z g)]) (fun _=>[]) fu 0 U U ?_
  rintro m g
  refine A [6,93,77,10,2,86,59,72,6,52,3,2,2,3,6,3,2,53,12,0,1,0,7,15,0,32,0,224,480,1023,2047,203] ?_
  refine vT [130,132] [134] [] U U (zAw (T:=tab) zAr a.Stack U U U U U U U fun d _=>pzq U) (fun _=>U) (fun _=>U) fun d _=>vq 4 U (by kernel_rfl) (vT [140,142] [144] [] U U (zAw (T:=tab) zAr b.Stack U U U U U U U fun e _=>pzq U) (fun _=>U) (fun _=>U) fun e _=>A [201,54,2,1,136,146,148] (fun i _=>?_) zG4)
  refine A [201,79,5,1,59,4,70,1,16] fun c _=>?_
  exact A [89] (tx c)
def zDJ (a b:List Op):Nat->Int->Option Bool
 | 0,_=>none
 | k1+1,i3=>cnd (decide (i3<(a.length:Int))) (bnd (idx a i3) fun d=>bnd (idx b i3) fun e=>cnd (!(zfc d e)) (some false) (bnd (rng .i64 (i3+1)) fun c=>(zDJ a b k1) c)) (some true)
def zDo (fu:Nat) (a b:List Op):Option Bool:=cnd ((a.length:Int) != (b.length:Int)) (some false) ((zDJ a b) fu 0)
theorem zHY {fu:Nat} {a b:List Op}:DD (zDo fu a b) 88 [.sl 7 false (a.map cOp),.sl 7 false (b.map cOp)] fun r=>Y r:=by
 refine fcI Tryz.func88 U (A [75,80,35,1,77,5,1,59,68,58,13] ?_)
 refine lw (zDJ a b) [0,1] [] (fun c=>[(5,Z c)]) (fun _=>[]) fu 0 U U ?_
 rintro g c
 refine A [6,61,77,10,2,86,59,72,6,97,202] ?_
 refine vT [34,36] [38] [] U U (zAw (T:=tab) cOp a U U U U U U U fun e _=>pzq U) (fun _=>U) (fun _=>U) fun e _=>vq 3 U (by kernel_rfl) (vT [42,44] [46] [] U U (zAw (T:=tab) cOp b U U U U U U U fun f _=>pzq U) (fun _=>U) (fun _=>U) fun f _=>vq 1 U (by kernel_rfl) (vS [40,48] [50] [] U U (zUr zfd U U U U U U U (pyq U)) U U (A [79,5,1,59,4,70,1,16] fun d _=>?_)))
 exact A [89] (tx d)
def zBy (fu:Nat) (a b:Class):Nat->Int->Option Bool
 | 0,_=>none
 | k2+1,i9=>cnd (decide (i9<(a.Hooks.length:Int))) (bnd (idx a.Hooks i9) fun e=>bnd (idx b.Hooks i9) fun f=>cnd (e.Kind != f.Kind) (some false) (bnd (idx a.Hooks i9) fun g=>bnd (idx b.Hooks i9) fun h=>bnd (zDo fu g.Do h.Do) fun d=>cnd (!d) (some false) (bnd (rng .i64 (i9+1)) fun c=>(zBy fu a b k2) c))) (some true)
def zCm (fu:Nat) (a b:Class):Nat->Int->Option Bool
 | 0,_=>none
 | k1+1,i5=>cnd (decide (i5<(a.Watch.length:Int))) (bnd (idx a.Watch i5) fun d=>bnd (idx b.Watch i5) fun e=>cnd (!(d==e)) (some false) (bnd (rng .i64 (i5+1)) fun c=>(zCm fu a b k1) c)) ((zBy fu a b) fu 0)
def zFO (fu:Nat) (a b:Class):Option Bool:=cnd (!(a.Form==b.Form)) (some false) (cnd ((a.Watch.length:Int) != (b.Watch.length:Int)) (some false) (bnd (zDo fu a.Peek b.Peek) fun c=>cnd (!c) (some false) (bnd (zDo fu a.Make b.Make) fun d=>cnd (!d) (some false) (cnd ((a.Hooks.length:Int) != (b.Hooks.length:Int)) (some false) ((zCm fu a b) fu 0)))))
theorem zNZ {fu:Nat} {a b:Class}:DD (zFO fu a b) 40 [.agg (zBh a),.agg (zBh b)] fun r=>Y r:=by
 refine fcI Tryz.func40 U (A [73,30,3,57,6,9,106,26,12,2,133,83,2,35,2,35,3,26,21,2,124,83,104,41] (fun p _=>?_) zHY)
 refine A [3,26,29,2,116,83,104,41] (fun q _=>?_) zHY
 refine A [3,26,37,2,108,83,2,35,2,35,2,0,5,1,59,68,58,13] ?_
 refine lw (zCm fu a b) [2,3] [3,2] (fun h=>[(5,Z h)]) (fun _=>[]) fu 0 U U ?_
 rintro n h
 refine A [6,93,77] ?_
 refine zAF U ?_ ?_
 ·refine A [72,6,52,3,2,2,3,5,3,2,98] ?_
  refine vT [108,110] [112] [] U U (zAw (T:=tab) zQ6 a.Watch U U U U U U U fun l _=>pzq U) (fun _=>U) (fun _=>U) fun l _=>vq 4 U (by kernel_rfl) (vT [118,120] [122] [] U U (zAw (T:=tab) zQ6 b.Watch U U U U U U U fun m _=>pzq U) (fun _=>U) (fun _=>U) fun m _=>A [202,79,5,1,59,4,70,1,16] fun j _=>?_)
  exact A [89] (tx j)
 ·refine A [86,6,58,13] ?_
  refine lw (zBy fu a b) [2,3] [3,2] (fun i=>[(6,Z i)]) (fun _=>[]) fu 0 U U ?_
  rintro o i
  refine A [6,93,77,10,2,86,59,72,6,52,3,2,2,3,6,3,2,53,29,0,1,0,7,15,31,0,64,0,448,960,1984,4095,8191,16383,32767,16383,131071,262143,524287,16383,1064959,16383,7356415,15745023,32522239,67108863,134217727,268435455,203] ?_
  refine vT [144,146] [148] [] U U (zAw (T:=tab) zJI a.Hooks U U U U U U U fun d _=>pzq U) (fun _=>U) (fun _=>U) fun d _=>vq 5 U (by kernel_rfl) (vT [156,158] [160] [] U U (zAw (T:=tab) zJI b.Hooks U U U U U U U fun e _=>pzq U) (fun _=>U) (fun _=>U) fun e _=>vq 4 U (by kernel_rfl) (zA3 (t:=84) U ?_ ?_))
  ·exact A [215,19,18,59]
  ·refine vq 3 U (by kernel_rfl) (vT [168,172,174] [176] [] U U (zAw (T:=tab) zJI a.Hooks U U U U U U U fun f _=>pzq U) (fun _=>U) (fun _=>U) fun f _=>vq 5 U (by kernel_rfl) (vT [168,184,186] [188] [] U U (zAw (T:=tab) zJI b.Hooks U U U U U U U fun g _=>pzq U) (fun _=>U) (fun _=>U) fun g _=>A [202,54,3,1,168,180,192,194] (fun k _=>?_) zHY))
   refine A [202,79,5,1,59,4,70,1,16] fun c _=>?_
   exact A [89] (tx c)
def zB4 (fu:Nat) (a b:List Class):Nat->Int->Option Bool
 | 0,_=>none
 | k1+1,i3=>cnd (decide (i3<(a.length:Int))) (bnd (idx a i3) fun e=>bnd (idx b i3) fun f=>bnd (zFO fu e f) fun d=>cnd (!d) (some false) (bnd (rng .i64 (i3+1)) fun c=>(zB4 fu a b k1) c)) (some true)
def zDB (fu:Nat) (a b:List Class):Option Bool:=cnd ((a.length:Int) != (b.length:Int)) (some false) ((zB4 fu a b) fu 0)
theorem zHy {fu:Nat} {a b:List Class}:DD (zDB fu a b) 13 [.sl 5 false (a.map zBh),.sl 5 false (b.map zBh)] fun r=>Y r:=by
 refine fcI Tryz.func13 U (A [75,80,35,1,77,5,1,59,68,58,13] ?_)
 refine lw (zB4 fu a b) [0,1] [] (fun c=>[(5,Z c)]) (fun _=>[]) fu 0 U U ?_
 rintro g c
 refine A [6,61,77,10,2,86,59,72,6,52,3,0,0,1,5,53,10,0,0,3,7,0,0,48,112,255,511,202] ?_
 refine vT [34,36] [38] [] U U (zAw (T:=tab) zBh a U U U U U U U fun e _=>pzq U) (fun _=>U) (fun _=>U) fun e _=>vq 3 U (by kernel_rfl) (vT [42,44] [46] [] U U (zAw (T:=tab) zBh b U U U U U U U fun f _=>pzq U) (fun _=>U) (fun _=>U) fun f _=>A [201,54,2,1,40,48,50] (fun h _=>?_) zNZ)
 refine A [201,79,5,1,59,4,70,1,16] fun d _=>?_
 exact A [89] (tx d)
def zCJ (fu:Nat) (a b:World):Nat->Int->Option Bool
 | 0,_=>none
 | k2+1,i7=>cnd (decide (i7<(a.Builds.length:Int))) (bnd (idx a.Builds i7) fun i=>bnd (idx b.Builds i7) fun j=>cnd (!(zXL i j)) (some false) (bnd (rng .i64 (i7+1)) fun c=>(zCJ fu a b k2) c)) (bnd (zDI fu a.Forest b.Forest) fun d=>cnd d (bnd (zDU fu a.States b.States) fun e=>cnd e (bnd (zFt fu a.Desk b.Desk) fun f=>cnd f (bnd (zFu fu a.Line b.Line) fun g=>cnd g (bnd (zDB fu a.Classes b.Classes) fun h=>some h) (some false)) (some false)) (some false)) (some false))
def zC2 (fu:Nat) (a b:World):Nat->Int->Option Bool
 | 0,_=>none
 | k1+1,i3=>cnd (decide (i3<(a.Tasks.length:Int))) (bnd (idx a.Tasks i3) fun d=>bnd (idx b.Tasks i3) fun e=>cnd (!(zbK d e)) (some false) (bnd (rng .i64 (i3+1)) fun c=>(zC2 fu a b k1) c)) ((zCJ fu a b) fu 0)
def zFv (fu:Nat) (a b:World):Option Bool:=cnd ((a.Tasks.length:Int) != (b.Tasks.length:Int)) (some false) (cnd ((a.Builds.length:Int) != (b.Builds.length:Int)) (some false) ((zC2 fu a b) fu 0))
theorem zOB {fu:Nat} {a b:World}:DD (zFv fu a b) 12 [.agg (zBb a),.agg (zBb b)] fun r=>Y r:=by
 refine fcI Tryz.func12 U (A [73,30,3,57,6,61,35,2,35,2,26,14,2,108,83,2,35,2,35,2,0,5,1,59,68,58,13] ?_)
 refine lw (zC2 fu a b) [2,3] [3,2] (fun d=>[(5,Z d)]) (fun _=>[]) fu 0 U U ?_
 rintro p d
 refine A [6,93,77] ?_
 refine zAF U ?_ ?_
 ·refine A [72,6,52,3,2,2,3,5,3,2,98] ?_
  refine vT [62,64] [66] [] U U (zAw (T:=tab) zJJ a.Tasks U U U U U U U fun l _=>pzq U) (fun _=>U) (fun _=>U) fun l _=>vq 4 U (by kernel_rfl) (vT [72,74] [76] [] U U (zAw (T:=tab) zJJ b.Tasks U U U U U U U fun m _=>pzq U) (fun _=>U) (fun _=>U) fun m _=>vq 1 U (by kernel_rfl) (vS [68,78] [80] [] U U (zUr zgi U U U U U U U (pyq U)) U U (A [79,5,1,59,4,70,1,16] fun f _=>?_)))
  exact A [89] (tx f)
 ·refine A [86,6,58,13] ?_
  refine lw (zCJ fu a b) [2,3] [3,2] (fun e=>[(6,Z e)]) (fun _=>[]) fu 0 U U ?_
  rintro q e
  refine A [6,93,77] ?_
  refine zAF U ?_ ?_
  ·refine A [72,6,52,3,2,2,3,6,3,2,98] ?_
   refine vT [98,100] [102] [] U U (zAw (T:=tab) zI3 a.Builds U U U U U U U fun n _=>pzq U) (fun _=>U) (fun _=>U) fun n _=>vq 4 U (by kernel_rfl) (vT [108,110] [112] [] U U (zAw (T:=tab) zI3 b.Builds U U U U U U U fun o _=>pzq U) (fun _=>U) (fun _=>U) fun o _=>vq 1 U (by kernel_rfl) (vS [104,114] [116] [] U U (zUr zgj U U U U U U U (pyq U)) U U (A [79,5,1,59,4,70,1,16] fun c _=>?_)))
   exact A [89] (tx c)
  ·refine A [86,76,41] (fun g _=>?_) zJr
   refine A [1,27,64,2,128,74,104,41] (fun h _=>?_) zIh
   refine A [2,27,71,2,121,74,104,41] (fun i _=>?_) zN9
   refine A [2,27,78,2,114,74,104,41] (fun j _=>?_) zOA
   refine A [2,27,85,2,107,74,104,41] (fun k _=>?_) zHy
   exact A [2,74]
def zA9 (fu:Nat) (a:World) (o:Op) (b:World×Int×Int):Nat->Int->Option Bool
 | 0,_=>none
 | k1+1,k12=>cnd (decide (k12<(a.States.length:Int))) (bnd (idx a.Line.Todos k12) fun c=>bnd (idx b.1.Line.Todos k12) fun d=>bnd (idx b.1.States k12) fun k=>bnd (idx a.States k12) fun l=>cnd (k.Phase != l.Phase) (some false) (bnd (idx b.1.States k12) fun m=>bnd (idx a.States k12) fun n=>cnd (m.Def != n.Def) (some false) (cnd (decide ((d.length:Int)<(c.length:Int))) (some false) (bnd (piece d 0 (c.length:Int)) fun g=>bnd (zD1 fu g c) fun h=>cnd (!h) (some false) (bnd (rng .i64 (k12+1)) fun e=>(zA9 fu a o b k1) e))))) (cnd (o.Kind != 17) (some true) (bnd (zDI fu b.1.Forest a.Forest) fun i=>cnd i (bnd (zDU fu b.1.States a.States) fun j=>cnd j (bnd (rng .i64 (a.Desk.Next+1)) fun f=>cnd (b.1.Desk.Next==f) (some (b.2.1==a.Desk.Next)) (some false)) (some false)) (some false)))
def zBr (fu:Nat) (b:World) (c:Op):Option Bool:=bnd (zG3 fu) fun f=>cnd (!f) (some false) (bnd (zFP fu b) fun g=>cnd (!g) (some true) (cnd (decide ((c.S.length:Int)>300)) (some true) (cnd (decide ((c.T.length:Int)>300)) (some true) (bnd (zFc fu b) fun h=>cnd (!h) (some true) (bnd (zGl fu b c) fun a=>cnd (a.2.2 != 0) (cnd (a.2.1==(-1)) (bnd (zFv fu a.1 b) fun i=>some i) (some false)) (bnd (zFc fu a.1) fun j=>cnd (!j) (some false) (cnd ((a.1.Builds.length:Int) != (b.Builds.length:Int)) (some false) (cnd ((a.1.Desk.Defs.length:Int) != (b.Desk.Defs.length:Int)) (some false) (cnd (!(a.1.Desk.Busy==b.Desk.Busy)) (some false) (bnd (zDB fu a.1.Classes b.Classes) fun k=>cnd (!k) (some false) (bnd (zDu fu c.Kind) fun d=>cnd (!d) (some false) (bnd (zK7 fu c) fun e=>cnd (!e) (some false) ((zA9 fu b c a) fu 0)))))))))))))
theorem zK3 {fu:Nat} {c:World} {h:Op}:DD (zBr fu c h) 3 [.agg (zBb c),.agg (cOp h)] fun r=>Y r:=by
 refine fcI Tryz.func3 U (A [73,30,3,57,6,9] ?_)
 refine zKx (enc:=fun (m:Bool)=>Y m) (qs:=[]) zNV U U trivial (fun _=>U) call8 U U fun m _=>A [57,5,1,59,68,80,41] (fun w _=>?_) zNb
 refine A [2,26,16,2,116,83,106,26,22,2,110,83,106,26,28,2,104,83,1,41] (fun x _=>?_) zIa
 refine A [2,0,5,1,59,67,99] (fun e _=>?_) zJh
 refine A [104,31,5,12,2,0,6,62] ?_
 refine zAF U ?_ ?_
 ·refine A [93,27,44,2,105,74,2,41] (fun y _=>?_) zOB
  exact A [2,74]
 ·refine A [68,80,41] (fun z _=>?_) zIa
  refine A [2,26,52,2,147,83,2,35,2,35,3,26,61,2,138,83,3,35,3,35,3,26,72,2,127,83,109,26,81,2,118,83,104,41] (fun B _=>?_) zHy
  refine A [3,26,89,2,110,83,2,41] (fun o _=>?_) zGv
  refine A [3,26,95,2,104,83,1,41] (fun p _=>?_) zRb
  refine A [2,0,5,1,59,68,58,13] ?_
  refine lw (zA9 fu c h e) [2,3,5,6] [5,3,2] (fun d=>[(8,Z d)]) (fun _=>[]) fu 0 U U ?_
  rintro v d
  refine A [6,93,77] ?_
  refine zAF U ?_ ?_
  ·refine A [72,6,52,5,3,2,3,5,6,8,5,3,2,53,14,0,1,3,0,15,31,0,64,192,0,960,1984,63,8191,204] ?_
   refine vT [218,220] [222] [] U U (zAw (T:=tab) zDF c.Line.Todos U U U U U U U fun a _=>pzq U) (fun _=>U) (fun _=>U) fun a _=>vq 5 U (by kernel_rfl) (vT [230,232] [234] [] U U (zAw (T:=tab) zDF e.1.Line.Todos U U U U U U U fun b _=>pzq U) (fun _=>U) (fun _=>U) fun b _=>A [203,79,6,64,203] ?_)
   refine vT [240,242] [244] [] U U (zAw (T:=tab) zBM e.1.States U U U U U U U fun i _=>pzq U) (fun _=>U) (fun _=>U) fun i _=>vq 5 U (by kernel_rfl) (vT [252,254] [256] [] U U (zAw (T:=tab) zBM c.States U U U U U U U fun j _=>pzq U) (fun _=>U) (fun _=>U) fun j _=>vq 4 U (by kernel_rfl) (zA3 (t:=132) U ?_ ?_))
   ·exact A [230,19,18,59]
   ·refine vq 3 U (by kernel_rfl) (vT [264,268,270] [272] [] U U (zAw (T:=tab) zBM e.1.States U U U U U U U fun k _=>pzq U) (fun _=>U) (fun _=>U) fun k _=>vq 5 U (by kernel_rfl) (vT [264,280,282] [284] [] U U (zAw (T:=tab) zBM c.States U U U U U U U fun l _=>pzq U) (fun _=>U) (fun _=>U) fun l _=>vq 5 U (by kernel_rfl) (zA3 (t:=147) U ?_ ?_)))
    ·exact A [215,19,18,59]
    ·refine vq 1 U (by kernel_rfl) (vS [294,296] [298] [] U U (zPL (T:=tab) zJK b U U U U U U U U (pyq U)) U U (vq 1 U (by kernel_rfl) (vS [294,300] [302] [] U U (zPL (T:=tab) zJK a U U U U U U U U (pyq U)) U U (vq 3 U (by kernel_rfl) (zA3 (t:=154) U ?_ ?_)))))
     ·exact A [208,19,18,59]
     ·refine vq 2 U (by kernel_rfl) (vS [308,312] [314] [] U U (zPL (T:=tab) zJK a U U U U U U U U (pyq U)) U U (vT [308,310,314] [316] [] U U (zcQ (T:=tab) zJK b U U U U U U U U fun g _=>pzq U) (fun _=>U) (fun _=>U) fun g _=>A [201,54,3,1,308,316,318,320] (fun q _=>?_) zJM))
      refine A [202,79,5,1,59,4,70,1,16] fun f _=>?_
      exact A [89] (tx f)
  ·refine A [86,76,26,166,2,131,74,104,41] (fun s _=>?_) zJr
   refine A [1,27,172,2,125,74,104,41] (fun u _=>?_) zIh
   refine A [2,27,179,2,118,74,106,16] fun n _=>?_
   exact A [3,26,189,2,108,74,108,74]
end Go.Proofs.YtmfbghpealgaiaaGreatDoor
