/- Models and proofs, printed by emit2.py. -/
import Derived.Test.YtmfbghpealgaiaaGreatDoorG4
namespace Go.Proofs.YtmfbghpealgaiaaGreatDoor
open Go Go.Pw
set_option maxRecDepth 100000
set_option maxHeartbeats 10000000
set_option linter.unusedVariables false
theorem zKR {fu:Nat} {b:List Int} {a:Forest}:FF (zAV fu (fun c=>zDH fu c a) b) 227 [.sl 1 false (b.map zAB),.fn (.func 287) [] [.loc 900000 0]] [(900000,.box 24 (zAE a))] [900000] (fun r=>Z r) fun _=>[(900000,.box 24 (zAE a))]:=by
 refine fcI Tryz.func227 U (A [75,80,77,13] ?_)
 refine lw (zAM (fun c=>zDH fu c a) b) [0,1,7] [900000] (fun d=>[(8,Z d)]) (fun _=>[]) fu 0 U U ?_
 rintro f d
 refine A [75,10,2,86,59,72,62,93,36] fun h _=>?_
 refine A [1,44] (fun g _=>?_) zQr [(900000,900000)]
 refine A [0,5,2,62,8,4,94] fun e _=>?_
 exact A [89] (tx e)
def zJZ (fu:Nat) (a:Forest) (d:Int):Option Int:=bnd (idx a.Nodes d) fun c=>bnd (zAV fu (fun f=>zDH fu f a) c.Kids) fun b=>cnd (decide (b<0)) (some (-1)) (bnd (idx c.Kids b) fun e=>some e)
theorem zS3 {fu:Nat} {a:Forest} {b:Int}:DD (zJZ fu a b) 283 [.agg (zAE a),Z b] fun r=>Z r:=by
 refine fcI Tryz.func283 U (A [73,57,93,36] fun d _=>?_)
 refine A [3,0,61,44] (fun c _=>?_) zKR [(900000,2)]
 refine A [57,6,62,5,1,59,67,61,36] fun e _=>?_
 exact A [2,74]
def zCd (fu:Nat) (a:Forest):Nat->Int×Int->Option Bool
 | 0,_=>none
 | k1+1,(by8,p9)=>cnd (p9 != (-1)) (bnd (idx a.Nodes p9) fun b=>cnd (b.Name==([102,105,101,108,100,115,101,116]:Bs)) (bnd (zF4 fu b) fun c=>cnd c (bnd (zJZ fu a p9) fun d=>cnd (d != by8) (some true) (bnd (idx a.Nodes p9) fun e=>(zCd fu a k1) (p9,e.Parent))) (bnd (idx a.Nodes p9) fun f=>(zCd fu a k1) (p9,f.Parent))) (bnd (idx a.Nodes p9) fun g=>(zCd fu a k1) (p9,g.Parent))) (some false)
def zJY (fu:Nat) (a:Forest) (b:Int):Option Bool:=bnd (idx a.Nodes b) fun d=>bnd (zF4 fu d) fun c=>cnd c (bnd (idx a.Nodes b) fun e=>some (e.Kind==1)) (bnd (idx a.Nodes b) fun f=>cnd (f.Kind != 1) (some false) (bnd (idx a.Nodes b) fun g=>(zCd fu a) fu (b,g.Parent)))
theorem zS2 {fu:Nat} {a:Forest} {g:Int}:DD (zJY fu a g) 264 [.agg (zAE a),Z g] fun r=>Y r:=by
 refine fcI Tryz.func264 U (A [73,57,6,93,36] fun o _=>?_)
 refine A [1,41] (fun n _=>?_) zMK
 refine ns (zAF U ?_ ?_)
 ·refine A [93,36] fun p _=>?_
  exact A [104,74]
 ·refine A [68,93,36] fun q _=>?_
  refine A [3,0,5,1,59,67,62,6,93,36] fun l _=>?_
  refine A [3,0,13] ?_
  refine lw (zCd fu a) [2] [2] (fun (b,c)=>[(5,Z b),(6,Z c)]) (fun _=>[]) fu (g,l.Parent) U U ?_
  rintro m ⟨b,c⟩
  refine A [6,62,10,2,86,59,72,93,36] fun k _=>?_
  refine A [1,31,7,12,0,76] ?_
  refine zAY (j:=52) U ?_ ?_
  ·refine A [1,41] (fun h _=>?_) zMK
   refine pq 2 U (zAY (j:=56) U ?_ ?_)
   ·refine A [2,41] (fun i _=>?_) zS3
    refine A [3,0,5,1,59,4,69,52,2,1,2,6,2,53,9,0,0,2,0,14,30,62,1,255,204] ?_
    exact vT [78,80] [82] [] U U (zA7 (T:=tab) zAZ a.Nodes U U U U U U U fun d _=>pzq U) (fun _=>U) (fun _=>U) fun d _=>A [204,19,46] (tx (c,d.Parent))
   ·refine A [106,11,24,4,69,52,2,1,2,6,2,53,9,0,0,2,0,14,30,62,1,255,204] ?_
    exact vT [78,80] [82] [] U U (zA7 (T:=tab) zAZ a.Nodes U U U U U U U fun e _=>pzq U) (fun _=>U) (fun _=>U) fun e _=>A [204,19,46] (tx (c,e.Parent))
  ·refine A [110,11,24,4,69,52,2,1,2,6,2,53,9,0,0,2,0,14,30,62,1,255,204] ?_
   exact vT [78,80] [82] [] U U (zA7 (T:=tab) zAZ a.Nodes U U U U U U U fun f _=>pzq U) (fun _=>U) (fun _=>U) fun f _=>A [204,19,46] (tx (c,f.Parent))
def zHb (fu:Nat) (a:Forest) (b:Int):Option Bool:=cnd (decide (b>=0)) (cnd (decide (b<(a.Nodes.length:Int))) (bnd (zAu fu a) fun c=>cnd c (bnd (zJY fu a b) fun d=>some d) (some false)) (some false)) (some false)
theorem zNz {fu:Nat} {a:Forest} {b:Int}:DD (zHb fu a b) 218 [.agg (zAE a),Z b] fun r=>Y r:=by
 refine fcI Tryz.func218 U (A [73,57,93,27,7,2,116,74,3,35,3,27,14,2,109,74,1,41] (fun c _=>?_) zBB)
 refine A [2,27,18,2,105,74,2,41] (fun d _=>?_) zS2
 exact A [2,74]
def zDn (fu:Nat) (e:Forest) (c:Unit×Bool×(List Node)×Int×(List Def)×(List Wait)×Int×Bool×(List Class)×(List State)×(List Due)) (h:List Int):Nat->Int×(List State)×(List Due)->Option ((List State)×(List Due))
 | 0,_=>none
 | k1+1,(t7,l8,l9)=>cnd (decide (t7<(h.length:Int))) (bnd (idx h t7) fun b=>bnd (zDM fu t7 c.2.2.1 c.2.2.2.2.1 c.2.2.2.2.2.1 c.2.2.2.2.2.2.1 c.2.2.2.2.2.2.2.1 c.2.2.2.2.2.2.2.2.1 l8) fun d=>cnd (!d.2) (bnd (rng .i64 (t7+1)) fun j=>(zDn fu e c h k1) (j,l8,l9)) (bnd (idx l8 t7) fun a=>cnd (a.Owner != b) (bnd (zCv fu d.1 t7 (⟨5,0,[],false,false,[],[],a.Owner,b,false⟩:Todo) l9) fun i=>bnd (zHb fu e t7) fun f=>cnd (!(f==({a with Owner:=b}:State).Barred)) (bnd (zCv fu d.1 t7 (⟨6,0,[],false,false,[],[],0,0,f⟩:Todo) i) fun o=>bnd (rng .i64 (t7+1)) fun k=>(zDn fu e c h k1) (k,((l8.set (t7).toNat ({a with Owner:=b}:State)).set (t7).toNat ({({a with Owner:=b}:State) with Barred:=f}:State)),o)) (bnd (rng .i64 (t7+1)) fun l=>(zDn fu e c h k1) (l,(l8.set (t7).toNat ({a with Owner:=b}:State)),i))) (bnd (zHb fu e t7) fun g=>cnd (!(g==a.Barred)) (bnd (zCv fu d.1 t7 (⟨6,0,[],false,false,[],[],0,0,g⟩:Todo) l9) fun p=>bnd (rng .i64 (t7+1)) fun m=>(zDn fu e c h k1) (m,(l8.set (t7).toNat ({a with Barred:=g}:State)),p)) (bnd (rng .i64 (t7+1)) fun n=>(zDn fu e c h k1) (n,l8,l9))))) (some (l8,l9))
def zJq (fu:Nat) (d:Forest) (b:List State) (e:Desk) (a:List Class):Option ((List State)×(List Due)):=bnd (zID fu d b e a) fun c=>cnd (!c.2.1) (some (c.2.2.2.2.2.2.2.2.2.1,[])) (bnd (zLq fu d) fun f=>(zDn fu d c f) fu (0,c.2.2.2.2.2.2.2.2.2.1,c.2.2.2.2.2.2.2.2.2.2))
theorem zVb {fu:Nat} {k:Forest} {e:List State} {w:Desk} {b:List Class}:DD (zJq fu k e w b) 148 [.agg (zAE k),.sl 4 false (e.map zBh),.agg (zI8 w),.sl 5 false (b.map zBk)] fun r=>.tup [.sl 4 false (r.1.map zBh),.sl 11 false (r.2.map zJm)]:=by
 refine fcI Tryz.func148 U (A [9,30,4,30,6,2,0,76,43] (fun v _=>?_) zMi [(17,2102400),(2130,2102401),(31708,2102402)] [2102400,2102401,2102402])
 refine A [105,0,6,62] ?_
 refine zAF U ?_ ?_
 ·refine A [9,106,0,34,2102401] ?_
  exact zH0 9 (q:=.sl 11 false ([].map zJm)) U .nil rN
 ·refine A [68,80,41] (fun y _=>?_) zVg
  refine A [77,13] ?_
  refine lw (zDn fu k v y) [4,10,34,35] [2102400,4] (fun (g,f,h)=>[(36,Z g)]) (fun (g,f,h)=>[(2102401,.arr 53 4 (f.map zBh)),(2102402,.arr 171 11 (h.map zJm))]) fu (0,v.2.2.2.2.2.2.2.2.2.1,v.2.2.2.2.2.2.2.2.2.2) U U ?_
  rintro z ⟨g,f,h⟩
  refine A [75,10,28,86,6,52,1,3,10,2102400,2102401,2102402,53,10,0,1,3,7,0,16,48,112,15,511,210,79,34,2102401,34,2102402,8,72,80,36] fun d _=>?_
  refine A [3,0,61,44] (fun x _=>?_) zG7 [(900000,2102400),(900001,2102401),(900002,2102402)]
  refine A [3,31,14,92,6,62] ?_
  refine zAF U ?_ ?_
  ·refine A [86,14,16] fun l _=>?_
   exact A [89] (tx (l,f,h))
  ·refine A [67,9,105,38] fun a c=>?_
   refine A [57,6,93] ?_
   refine zAx (T:=tab) zBh f a (zA0 c) U U U U U U U U (A [57,93,0] ?_)
   refine zAF U ?_ ?_
   ·refine A [76] ?_
    refine zCw (T:=tab) zBh f a ({a with Owner:=d}:State) (zA0 c) U U U U U U U U U U U U U (A [0,14,105,20,43] (fun s _=>?_) zE4 [(900000,2102400),(900001,2102401),(900002,2102402)] [2102402])
    refine A [0,99] (fun i _=>?_) zNz
    refine A [57,76] ?_
    refine zAx (T:=tab) zBh (f.set (g).toNat ({a with Owner:=d}:State)) ({a with Owner:=d}:State) (zgT (zA0 c)) U U U U U U U U (A [57] ?_)
    refine zAF U ?_ ?_
    ·refine A [76] ?_
     refine zCw (T:=tab) zBh (f.set (g).toNat ({a with Owner:=d}:State)) ({a with Owner:=d}:State) ({({a with Owner:=d}:State) with Barred:=i}:State) (zgT (zA0 c)) U U U U U U U U U U U U U (A [0,14,104,20,43] (fun t _=>?_) zE4 [(900000,2102400),(900001,2102401),(900002,2102402)] [2102402])
     refine A [11,94] fun m _=>?_
     exact A [89] (tx (m,((f.set (g).toNat ({a with Owner:=d}:State)).set (g).toNat ({({a with Owner:=d}:State) with Barred:=i}:State)),t))
    ·refine A [4,94] fun n _=>?_
     exact A [89] (tx (n,(f.set (g).toNat ({a with Owner:=d}:State)),s))
   ·refine A [67,99] (fun j _=>?_) zNz
    refine A [57,76] ?_
    refine zAx (T:=tab) zBh f a (zA0 c) U U U U U U U U (A [57] ?_)
    refine zAF U ?_ ?_
    ·refine A [76] ?_
     refine zCw (T:=tab) zBh f a ({a with Barred:=j}:State) (zA0 c) U U U U U U U U U U U U U (A [0,14,104,20,43] (fun u _=>?_) zE4 [(900000,2102400),(900001,2102401),(900002,2102402)] [2102402])
     refine A [11,94] fun o _=>?_
     exact A [89] (tx (o,(f.set (g).toNat ({a with Barred:=j}:State)),u))
    ·refine A [4,94] fun p _=>?_
     exact A [89] (tx (p,f,h))
def zGX (fu:Nat) (g:World) (f:Forest) (a:List Note) (i:List Node):Nat->Int×(List State)×(List (List Todo))×(List (List Int))×(List Int)×Bool->Option (World×Int)
 | 0,_=>none
 | k1+1,(t9,l10,c11,c12,c13,c14)=>cnd (decide (t9<(i.length:Int))) (bnd (idx i t9) fun l=>bnd (zI6 fu l) fun d=>bnd (zDb 32 (l10.length+([d]:List State).length)) fun _=>bnd (zJu fu (⟨c11,c12,c13,c14⟩:Line)) fun b=>bnd (rng .i64 (t9+1)) fun h=>(zGX fu g f a i k1) (h,(l10++[d]),b.Todos,b.Stack,b.Back,b.Busy)) (bnd (zL2 fu f l10 g.Desk g.Classes a) fun j=>bnd (zBc fu j (⟨({g with Forest:=f,States:=l10,Line:=(⟨c11,c12,c13,c14⟩:Line)}:World)⟩:zAJ)) fun c=>bnd (zJq fu f c.World.States c.World.Desk c.World.Classes) fun e=>bnd (zBc fu e.2 (⟨({c.World with States:=e.1}:World)⟩:zAJ)) fun k=>some (k.World,0))
def zKi (fu:Nat) (a:World) (c:Forest) (b:List Note):Option (World×Int):=bnd (zDA fu (⟨a⟩:zAJ)) fun e=>cnd (!e) (some (a,1)) (bnd (zAu fu c) fun f=>cnd (!f) (some (a,1)) (bnd (zEh fu (⟨a⟩:zAJ) c) fun g=>cnd (!g) (some (a,1)) (bnd (zCg fu a.States) fun h=>bnd (piece c.Nodes (a.Forest.Nodes.length:Int) (c.Nodes.length:Int)) fun d=>(zGX fu a c b d) fu (0,h,a.Line.Todos,a.Line.Stack,a.Line.Back,a.Line.Busy))))
theorem zUT {fu:Nat} {b:World} {j:Forest} {a:List Note}:DD (zKi fu b j a) 85 [.agg (zBd b),.agg (zAE j),.sl 9 false (a.map zBN)] fun r=>.tup [.agg (zBd r.1),Z r.2]:=by
 refine fcI Tryz.func85 U (A [9,30,3,30,4,31,6,57,80,20,31,8,12,0,6,80,41] (fun v _=>?_) zGk)
 refine A [2,26,18,5,110,65,80,92,8,1,41] (fun w _=>?_) zBB
 refine A [3,26,23,5,105,65,80,92,8,2,41] (fun x _=>?_) zMZ
 refine A [2,0,5,3,80,92,8,67,61,43] (fun s _=>?_) zHS [(5,2320)] [2320]
 refine A [2,12,0,6,9,105,35] ?_
 refine zgQ (T:=tab) zAZ j.Nodes U U U U U U U U fun m _=>A [77,13] ?_
 refine lw (zGX fu b j a m) [2,4,6,8,41,42] [6,4] (fun (l,c,e,f,g,h)=>[(43,Z l)]) (fun (l,c,e,f,g,h)=>[(2320,.arr 53 4 (c.map zBh)),(8,.box 94 ([.sl 10 false (b.Forest.Nodes.map zAZ),Z b.Forest.Most,.own 2320]++zI8 b.Desk++[.sl 1 false (e.map zDi),.sl 1 false (f.map zAt),.sl 1 false (g.map zAB),Y h,.sl 3 false (b.Tasks.map zJQ),.sl 2 false (b.Builds.map zI7),.sl 5 false (b.Classes.map zBk)]))]) fu (0,s,b.Line.Todos,b.Line.Stack,b.Line.Back,b.Line.Busy) U U ?_
 rintro u ⟨l,c,e,f,g,h⟩
 refine A [75] ?_
 refine zAF U ?_ ?_
 ·refine A [72,9,36] fun t _=>?_
  refine A [1,31,10,12,0,6,52,8,5,2,4,6,8,41,42,43,10,10,2320,8,6,4,53,10,0,1,3,0,8,24,63,127,255,511,204,54,1,1,100,102] (fun i _=>?_) zO0
  refine vS [102] [104,105] [52] U U (pl ([i].map zBh) 52 U U U U U U (pyq U)) U U (vU [17,98,104,105,4641] [106,98,4641,17] [2320] U U (pa zBh c ([i]:List State) U U U U U U U U (zTR _) U U U (pyq U)) U U fun _ _=>A [202,50,4,1,17,106,110,4641,17,79,14,3,41] (fun d _=>?_) zQQ)
  refine A [2,12,11,94] fun k _=>?_
  exact A [89] (tx (k,(c++[i]),d.Todos,d.Stack,d.Back,d.Busy))
 ·refine A [86,93,12,0,9,111,33,2320,41] (fun n _=>?_) zVl
  refine A [43] (fun o _=>?_) zGD [(900000,8)]
  refine A [0,9,110,41] (fun p _=>?_) zVb
  refine A [105,0,93,12,0,80,43] (fun q _=>?_) zGD [(900000,8)]
  exact A [0,61,92,8]
def zD0 (fu:Nat) (r4:zA5×zAL) (b:World×Int):Nat->Int×(List Due)->Option (Int×zAL)
 | 0,_=>none
 | k1+1,(n6,l7)=>cnd (decide (n6<(r4.1.f.Nodes.length:Int))) (bnd (zJs fu r4.1.f n6 b.1.Desk) fun d=>cnd (d != (-1)) (bnd (zDb 104 (l7.length+([(⟨n6,(⟨9,d,[],false,false,[],[],0,0,false⟩:Todo)⟩:Due)]:List Due).length)) fun _=>bnd (rng .i64 (n6+1)) fun e=>(zD0 fu r4 b k1) (e,(l7++[(⟨n6,(⟨9,d,[],false,false,[],[],0,0,false⟩:Todo)⟩:Due)]))) (bnd (rng .i64 (n6+1)) fun c=>(zD0 fu r4 b k1) (c,l7))) (bnd (zBe fu l7 (⟨b.1,r4.2.node⟩:zAL)) fun a=>some (a.1,a.2))
def zHd (fu:Nat) (a:Int×Bool×zAL) (r4:zA5×zAL) (b:World×Int) (c:Unit):Option (Int×zAL):=(zD0 fu r4 b) fu ((a.2.2.World.Forest.Nodes.length:Int),[])
def zGr (fu:Nat) (d:Op) (g:zAL):Option (Int×zAL):=bnd (zE3 fu d g) fun c=>cnd c.2.1 (some (c.1,c.2.2)) (bnd (zAk fu d c.2.2) fun a=>cnd (a.1.e != 0) (some (a.1.e,a.2)) (bnd (zKi fu a.2.World a.1.f a.1.notes) fun b=>cnd (b.2 != 0) (some (b.2,(⟨b.1,a.2.node⟩:zAL))) (cnd (d.Kind != 2) (cnd (d.Kind != 12) (some (b.2,(⟨b.1,a.2.node⟩:zAL))) ((zHd fu c a b) ())) ((zHd fu c a b) ()))))
theorem zRi {fu:Nat} {k:Op} {i:zAL}:FF (zGr fu k i) 38 [.loc 900000 0,.agg (cOp k)] [(900000,.box 99 (zCC i))] [900000] (fun r=>Z r.1) fun r=>[(900000,.box 99 (zCC r.2))]:=by
 refine fcI Tryz.func38 U (A [9,30,3,57,6,61,43] (fun f _=>?_) zQs [(900000,900000)])
 refine A [105,0,58,5,2,62,8,67,9,106,77,61,43] (fun d _=>?_) zOE [(900000,900000)]
 refine A [31,8,12,0,6,93,0,5,2,93,74,68,52,4,3,0,3,7,8,8,900000,3,53,15,0,1,3,7,0,16,0,64,255,511,1023,1023,0,6143,16383,208,54,3,1,82,86,90,92] (fun g _=>?_) zUT
 refine vq 3 U (by kernel_rfl) (vS [] [18,19] [9] U U (zGd (T:=tab) 9 U U U U U U U U U (pyq U)) U U (A [50,3,1,18,19,94,19,201,79,76,12,0,6,9] ?_))
 refine zNT (zHd fu f d g) (fun (_:Unit)=>[(0,.loc 900000 0),(7,Z (f.2.2.World.Forest.Nodes.length:Int)),(8,.loc 8 0)]) (fun (_:Unit)=>[(8,.box 165 (zNI d.1)),(900000,.box 99 (zBd g.1++[Z d.2.node]))]) ?_ fun c=>?_
 ·rintro _
  refine A [7,75,62,13,56,1092,171,11,11] ?_
  refine lw (zD0 fu d g) [0,8,11] [8,900000] (fun (b,a)=>[(12,Z b)]) (fun (b,a)=>[(1092,.arr 171 11 (a.map zJm))]) fu ((f.2.2.World.Forest.Nodes.length:Int),[]) U U ?_
  rintro n ⟨b,a⟩
  refine A [6,76,77] ?_
  refine zAF U ?_ ?_
  ·refine A [72,6,52,4,3,0,8,11,12,1092,8,900000,53,10,0,1,0,0,8,24,56,120,255,511,208,54,3,1,152,154,164,166] (fun h _=>?_) zQO
   refine A [201,79,62] ?_
   refine zAF U ?_ ?_
   ·refine A [14,3,20,20] ?_
    refine pl ([(⟨b,(⟨9,h,[],false,false,[],[],0,0,false⟩:Todo)⟩:Due)].map zJm) 91 U U U U U U (pa zJm a ([(⟨b,(⟨9,h,[],false,false,[],[],0,0,false⟩:Todo)⟩:Due)]:List Due) U U U U U U U U (zRK _) U U U (A [1,11,70,1,16] fun l _=>?_))
    exact A [89] (tx (l,(a++[(⟨b,(⟨9,h,[],false,false,[],[],0,0,false⟩:Todo)⟩:Due)])))
   ·refine A [4,70,1,16] fun e _=>?_
    exact A [89] (tx (e,a))
  ·refine A [86,61,33,1092,43] (fun m _=>?_) zFH [(900000,900000)]
   exact A [57,8]
 ·refine A [3,26,55,4,109,65,62,8,104] ?_
  refine zAY (j:=59) U ?_ ?_
  ·exact A [105,0,5,2,62,8,4,45] (c ())
  ·exact A [105,11,24,4,45] (c ())
def zK9 (fu:Nat) (b:World) (c:Op) (e:Bool):Option (World×Int×Int):=cnd e (some (b,(-1),1)) (bnd (zE2 fu c.Kind) fun d=>cnd (!d) (some (b,(-1),7)) (bnd (zGr fu c (⟨b,(-1)⟩:zAL)) fun a=>cnd (a.1 != 0) (some (b,(-1),a.1)) (some (a.2.World,a.2.node,0))))
def zFj (fu:Nat) (b:World) (a:Op):Option (World×Int×Int):=bnd (zRE fu a (-1) (b.Forest.Nodes.length:Int)) fun c=>cnd (c.2 != 0) ((zK9 fu b a) (c.2 != 0)) (cnd (!(zf8 c.1 a)) ((zK9 fu b a) (!(zf8 c.1 a))) (bnd (zGW fu b) fun d=>(zK9 fu b a) (!d)))
theorem zHJ {fu:Nat} {c:World} {b:Op}:DD (zFj fu c b) 11 [.agg (zBd c),.agg (cOp b)] fun r=>.tup [.agg (zBd r.1),Z r.2.1,Z r.2.2]:=by
 refine fcI Tryz.func11 U (A [73,30,3,31,4,2,0,76,35,41] (fun d _=>?_) za1)
 refine A [3,31,7,92,6,13,6,93,0] ?_
 refine jw (zK9 fu c b) [2,3,4] [4,3,2] (fun e=>[(20,Y e)]) (fun _=>[]) U U ?_ fun a=>?_
 ·rintro e
  refine A [7,5,4,80,12,2,74,99] (fun g _=>?_) zJG
  refine A [2,0,5,4,80,12,2,74,4,69,80,20,30,38,57,6,61,43] (fun h _=>?_) zRi [(900000,38)]
  exact A [57,62,5,4,61,12,2,74,68,52,2,2,4,9,38,4,60,50,3,1,8,9,98,9,202,79,8]
 ·refine zAF U ?_ ?_
  ·exact A [4,45] (a (d.2 != 0))
  ·refine A [61] ?_
   refine zVC zf9 U U U U U U U (A [57] ?_)
   refine zAF U ?_ ?_
   ·exact A [4,45] (a (!(zf8 d.1 b)))
   ·refine A [14,1,41] (fun f _=>?_) zKw
    exact A [2,11,45] (a (!f))
def zG9 (fu:Nat):Option Bool:=bnd (zR1 fu [(⟨false,[],[],[],[(⟨1,[]⟩:Hook)]⟩:Class)] 5) fun c=>bnd (zFj fu ({c.1 with Desk:=({c.1.Desk with Defs:=[(⟨[120,45,97],[120,45,97],0⟩:Def)]}:Desk)}:World) (⟨2,0,0,0,[88,45,97],[],false⟩:Op)) fun b=>bnd (zFj fu b.1 (⟨6,1,0,(-1),[],[],false⟩:Op)) fun a=>bnd (zFj fu a.1 (⟨6,2,0,(-1),[],[],false⟩:Op)) fun f=>bnd (zFj fu a.1 (⟨17,0,0,0,[120,45,98],[],false⟩:Op)) fun e=>bnd (zFj fu a.1 (⟨25,0,0,0,[],[],false⟩:Op)) fun g=>cnd (c.2==0) (cnd (b.2.2==0) (cnd (a.2.2==0) (cnd (f.2.2==1) (cnd (e.2.2==0) (cnd (g.2.2==7) (cnd (b.2.1==1) (cnd (e.2.1==0) (bnd (idx b.1.Line.Todos 1) fun i=>cnd ((i.length:Int)==1) (bnd (idx a.1.Line.Todos 1) fun j=>cnd ((j.length:Int)==2) (bnd (zE2 fu 1) fun h=>cnd (!h) (bnd (zE2 fu 2) fun d=>some d) (some false)) (some false)) (some false)) (some false)) (some false)) (some false)) (some false)) (some false)) (some false)) (some false)) (some false)
theorem zNc {fu:Nat}:DD (zG9 fu) 8 [] fun r=>Y r:=by
 refine fcI Tryz.func8 U (A [58,9,20] ?_)
 refine zct 19 U (.agg (ds:=[Z 1,.sl 7 false ([].map cOp)]) ⟨.rfl,.nil,trivial⟩) (pl ([(⟨1,[]⟩:Hook)].map zJP) 20 U U U U U U (A [20,33,20] ?_))
 refine zct 21 U (.agg (ds:=[Y false,.sl 1 false ([].map zRM),.sl 7 false ([].map cOp),.sl 7 false ([].map cOp),.sl 2 false ([(⟨1,[]⟩:Hook)].map zJP)]) ⟨.rfl,.nil,.nil,.nil,.rfl,trivial⟩) (pl ([(⟨false,[],[],[],[(⟨1,[]⟩:Hook)]⟩:Class)].map zBk) 22 U U U U U U (A [33,22,41] (fun b _=>?_) zVm))
 refine A [3,31,1,92,9,20] ?_
 refine pl ([(⟨[120,45,97],[120,45,97],0⟩:Def)].map zQ3) 27 U U U U U U (A [2,12,0,80,20,33,27,41] (fun c _=>?_) zHJ)
 refine A [104,31,3,12,2,0,80,20,41] (fun d _=>?_) zHJ
 refine A [104,31,6,12,2,0,80,20,41] (fun e _=>?_) zHJ
 refine A [104,31,9,12,2,0,80,20,41] (fun f _=>?_) zHJ
 refine A [104,31,12,12,2,0,80,20,41] (fun g _=>?_) zHJ
 refine A [104,31,15,12,2,0,93,27,67,2,153,74,104,27,71,2,149,74,104,27,75,2,145,74,104,27,79,2,141,74,104,27,83,2,137,74,104,27,87,2,133,74,104,27,91,2,129,74,104,27,95,2,125,74,3,36] fun i _=>?_
 refine A [1,35,3,27,104,2,116,74,3,36] fun j _=>?_
 refine A [1,35,3,27,113,2,107,74,41] (fun h _=>?_) zJG
 refine A [3,27,117,2,3,74,41] (fun a _=>?_) zJG
 exact A [2,74]
def zCn (a:Forest):Nat->Int->Option Bool
 | 0,_=>none
 | k1+1,i2=>cnd (decide (i2<(a.Nodes.length:Int))) (bnd (idx a.Nodes i2) fun c=>cnd (decide ((c.Kids.length:Int)>60)) (some false) (bnd (idx a.Nodes i2) fun d=>cnd (decide ((d.Attrs.length:Int)>60)) (some false) (bnd (idx a.Nodes i2) fun e=>cnd (decide ((e.Name.length:Int)>300)) (some false) (bnd (rng .i64 (i2+1)) fun b=>(zCn a k1) b)))) (some true)
def zFM (fu:Nat) (a:Forest):Option Bool:=cnd (decide ((a.Nodes.length:Int)>60)) (some false) ((zCn a) fu 0)
theorem zNd {fu:Nat} {a:Forest}:DD (zFM fu a) 31 [.agg (zAE a)] fun r=>Y r:=by
 refine fcI Tryz.func31 U (A [9,30,1,57,6,61,77,5,1,59,68,58,13] ?_)
 refine lw (zCn a) [1] [1] (fun b=>[(3,Z b)]) (fun _=>[]) fu 0 U U ?_
 rintro d b
 refine A [6,93,77,10,2,86,59,72,93,36] fun e _=>?_
 refine A [2,35,2,26,23,2,119,83,3,36] fun f _=>?_
 refine A [2,35,3,26,33,2,109,83,3,36] fun g _=>?_
 refine A [105,0,5,1,59,4,70,1,16] fun c _=>?_
 exact A [89] (tx c)
def zBz (a:Desk):Nat->Int->Option Bool
 | 0,_=>none
 | k2+1,i6=>cnd (decide (i6<(a.Waits.length:Int))) (bnd (idx a.Waits i6) fun c=>cnd (decide ((c.Name.length:Int)>300)) (some false) (bnd (rng .i64 (i6+1)) fun b=>(zBz a k2) b)) (some true)
def zCo (fu:Nat) (a:Desk):Nat->Int->Option Bool
 | 0,_=>none
 | k1+1,i2=>cnd (decide (i2<(a.Defs.length:Int))) (bnd (idx a.Defs i2) fun c=>cnd (decide ((c.Name.length:Int)>300)) (some false) (bnd (idx a.Defs i2) fun d=>cnd (decide ((d.Local.length:Int)>300)) (some false) (bnd (rng .i64 (i2+1)) fun b=>(zCo fu a k1) b))) ((zBz a) fu 0)
def zFN (fu:Nat) (a:Desk):Option Bool:=cnd (decide ((a.Defs.length:Int)>40)) (some false) (cnd (decide ((a.Waits.length:Int)>40)) (some false) ((zCo fu a) fu 0))
theorem zNe {fu:Nat} {a:Desk}:DD (zFN fu a) 32 [.agg (zI8 a)] fun r=>Y r:=by
 refine fcI Tryz.func32 U (A [9,30,1,57,6,61,35,2,26,9,2,105,83,2,35,2,0,5,1,59,68,58,13] ?_)
 refine lw (zCo fu a) [1] [1] (fun b=>[(3,Z b)]) (fun _=>[]) fu 0 U U ?_
 rintro f b
 refine A [6,93,77] ?_
 refine zAF U ?_ ?_
 ·refine A [72,93,36] fun h _=>?_
  refine A [105,26,30,2,109,83,3,36] fun i _=>?_
  refine A [105,0,5,1,59,4,70,1,16] fun d _=>?_
  exact A [89] (tx d)
 ·refine A [86,6,58,13] ?_
  refine lw (zBz a) [1] [1] (fun c=>[(4,Z c)]) (fun _=>[]) fu 0 U U ?_
  rintro g c
  refine A [6,93,77,10,2,86,59,72,93,36] fun j _=>?_
  refine A [104,0,5,1,59,4,70,1,16] fun e _=>?_
  exact A [89] (tx e)
def zB0 (l1:Line):Nat->Int->Option Bool
 | 0,_=>none
 | k2+1,i5=>cnd (decide (i5<(l1.Stack.length:Int))) (bnd (idx l1.Stack i5) fun b=>cnd (decide ((b.length:Int)>60)) (some false) (bnd (rng .i64 (i5+1)) fun a=>(zB0 l1 k2) a)) (some true)
def zCp (fu:Nat) (l1:Line):Nat->Int->Option Bool
 | 0,_=>none
 | k1+1,i2=>cnd (decide (i2<(l1.Todos.length:Int))) (bnd (idx l1.Todos i2) fun b=>cnd (decide ((b.length:Int)>60)) (some false) (bnd (rng .i64 (i2+1)) fun a=>(zCp fu l1 k1) a)) ((zB0 l1) fu 0)
def zFO (fu:Nat) (l1:Line):Option Bool:=cnd (decide ((l1.Todos.length:Int)>60)) (some false) (cnd (decide ((l1.Stack.length:Int)>30)) (some false) (cnd (decide ((l1.Back.length:Int)>60)) (some false) ((zCp fu l1) fu 0)))
theorem zNf {fu:Nat} {l1:Line}:DD (zFO fu l1) 33 [.agg (zPs l1)] fun r=>Y r:=by
 refine fcI Tryz.func33 U (A [9,30,1,57,6,61,35,2,26,9,2,111,83,2,35,3,26,15,2,105,83,2,35,2,0,5,1,59,68,58,13] ?_)
 refine lw (zCp fu l1) [1] [1] (fun a=>[(3,Z a)]) (fun _=>[]) fu 0 U U ?_
 rintro e a
 refine A [6,93,77] ?_
 refine zAF U ?_ ?_
 ·refine A [72,93,36] fun g _=>?_
  refine A [1,77,5,1,59,4,70,1,16] fun c _=>?_
  exact A [89] (tx c)
 ·refine A [86,6,58,13] ?_
  refine lw (zB0 l1) [1] [1] (fun b=>[(4,Z b)]) (fun _=>[]) fu 0 U U ?_
  rintro f b
  refine A [6,93,77,10,2,86,59,72,93,36] fun h _=>?_
  refine A [1,77,5,1,59,4,70,1,16] fun d _=>?_
  exact A [89] (tx d)
def zCs (c:Int) (b:Class) (a:Int->Option Bool):Nat->Int->Option Bool
 | 0,_=>none
 | k2+1,k4=>cnd (decide (k4<(b.Hooks.length:Int))) (bnd (idx b.Hooks k4) fun f=>cnd (decide ((f.Do.length:Int)>80)) (some false) (bnd (rng .i64 (k4+1)) fun d=>(zCs c b a k2) d)) (bnd (rng .i64 (c+1)) fun e=>a e)
def zA8 (fu:Nat) (a:List Class):Nat->Int->Option Bool
 | 0,_=>none
 | k1+1,i2=>cnd (decide (i2<(a.length:Int))) (bnd (idx a i2) fun b=>cnd (decide ((b.Watch.length:Int)>20)) (some false) (cnd (decide ((b.Hooks.length:Int)>20)) (some false) (cnd (decide ((b.Peek.length:Int)>80)) (some false) (cnd (decide ((b.Make.length:Int)>80)) (some false) ((zCs i2 b (zA8 fu a k1)) fu 0))))) (some true)
def zD3 (fu:Nat) (a:List Class):Option Bool:=cnd (decide ((a.length:Int)>14)) (some false) ((zA8 fu a) fu 0)
theorem zNi {fu:Nat} {a:List Class}:DD (zD3 fu a) 34 [.sl 5 false (a.map zBk)] fun r=>Y r:=by
 refine fcI Tryz.func34 U (A [75,80,77,5,1,59,68,58,13] ?_)
 refine lw (zA8 fu a) [0] [] (fun b=>[(3,Z b)]) (fun _=>[]) fu 0 U U ?_
 rintro e b
 refine A [6,61,77,10,2,86,59,72,61,36] fun f _=>?_
 refine A [1,31,4,12,0,6,61,35,2,26,23,2,117,83,2,35,3,26,29,2,111,83,2,35,3,26,35,2,105,83,2,35,2,0,5,1,59,67,58,13] ?_
 refine lw (zCs b f (zA8 fu a e)) [0,3,4] [4] (fun k4=>[(5,Z k4)]) (fun _=>[]) fu 0 U U ?_
 rintro g k4
 refine A [6,93,77] ?_
 refine zAF U ?_ ?_
 ·refine A [72,93,36] fun h _=>?_
  refine A [2,77,5,1,59,4,70,1,16] fun c _=>?_
  exact A [89] (tx c)
 ·refine A [17,70,1,16] fun d _=>?_
  exact A [89] (tx d)
def zCt (l1:List Class) (b:Int) (a:Int->Option Bool):Nat->Int->Option Bool
 | 0,_=>none
 | k2+1,k3=>bnd (idx l1 b) fun e=>cnd (decide (k3<(e.Watch.length:Int))) (bnd (idx l1 b) fun f=>bnd (idx f.Watch k3) fun g=>cnd (decide ((g.length:Int)>300)) (some false) (bnd (rng .i64 (k3+1)) fun c=>(zCt l1 b a k2) c)) (bnd (rng .i64 (b+1)) fun d=>a d)
def zA9 (fu:Nat) (l1:List Class):Nat->Int->Option Bool
 | 0,_=>none
 | k1+1,i2=>cnd (decide (i2<(l1.length:Int))) ((zCt l1 i2 (zA9 fu l1 k1)) fu 0) (some true)
def zFS (fu:Nat) (l1:List Class):Option Bool:=(zA9 fu l1) fu 0
theorem zNk {fu:Nat} {l1:List Class}:DD (zFS fu l1) 35 [.sl 5 false (l1.map zBk)] fun r=>Y r:=by
 refine fcI Tryz.func35 U (A [75,58,13] ?_)
 refine lw (zA9 fu l1) [0] [] (fun a=>[(3,Z a)]) (fun _=>[]) fu 0 U U ?_
 rintro e a
 refine A [6,61,77,10,2,86,59,72,58,13] ?_
 refine lw (zCt l1 a (zA9 fu l1 e)) [0,3] [] (fun b=>[(4,Z b)]) (fun _=>[]) fu 0 U U ?_
 rintro f b
 refine A [6,93,36] fun g _=>?_
 refine A [2,77] ?_
 refine zAF U ?_ ?_
 ·refine A [72,61,36] fun h _=>?_
  refine A [3,36] fun i _=>?_
  refine A [3,0,5,1,59,4,70,1,16] fun c _=>?_
  exact A [89] (tx c)
 ·refine A [17,70,1,16] fun d _=>?_
  exact A [89] (tx d)
def zFR (fu:Nat) (a:World):Option Bool:=bnd (zFM fu a.Forest) fun b=>cnd b (cnd (decide ((a.States.length:Int)<=60)) (bnd (zFN fu a.Desk) fun c=>cnd c (bnd (zFO fu a.Line) fun d=>cnd d (cnd (decide ((a.Tasks.length:Int)<=60)) (cnd (decide ((a.Builds.length:Int)<=60)) (bnd (zD3 fu a.Classes) fun e=>cnd e (bnd (zFS fu a.Classes) fun f=>some f) (some false)) (some false)) (some false)) (some false)) (some false)) (some false)) (some false)
theorem zNj {fu:Nat} {a:World}:DD (zFR fu a) 9 [.agg (zBd a)] fun r=>Y r:=by
 refine fcI Tryz.func9 U (A [9,30,1,57,99] (fun b _=>?_) zNd)
 refine A [1,27,6,2,138,74,2,35,3,27,12,2,132,74,2,41] (fun c _=>?_) zNe
 refine A [2,27,17,2,127,74,2,41] (fun d _=>?_) zNf
 refine A [2,27,22,2,122,74,2,35,3,27,28,2,116,74,2,35,3,27,34,2,110,74,2,41] (fun e _=>?_) zNi
 refine A [2,27,39,2,105,74,2,41] (fun f _=>?_) zNk
 exact A [2,74]
def zC3 (a b:List Attr):Nat->Int->Option Bool
 | 0,_=>none
 | k1+1,i3=>cnd (decide (i3<(a.length:Int))) (bnd (idx a i3) fun d=>bnd (idx b i3) fun e=>cnd (!(zbr d e)) (some false) (bnd (rng .i64 (i3+1)) fun c=>(zC3 a b k1) c)) (some true)
def zFu (fu:Nat) (a b:List Attr):Option Bool:=cnd ((a.length:Int) != (b.length:Int)) (some false) ((zC3 a b) fu 0)
theorem zOI {fu:Nat} {a b:List Attr}:DD (zFu fu a b) 61 [.sl 2 false (a.map zDh),.sl 2 false (b.map zDh)] fun r=>Y r:=by
 refine fcI Tryz.func61 U (A [75,80,35,1,77,5,1,59,68,58,13] ?_)
 refine lw (zC3 a b) [0,1] [] (fun c=>[(5,Z c)]) (fun _=>[]) fu 0 U U ?_
 rintro g c
 refine A [6,61,77,10,2,86,59,72,6,97,202] ?_
 refine vT [34,36] [38] [] U U (zA7 (T:=tab) zDh a U U U U U U U fun e _=>pzq U) (fun _=>U) (fun _=>U) fun e _=>vq 3 U (by kernel_rfl) (vT [42,44] [46] [] U U (zA7 (T:=tab) zDh b U U U U U U U fun f _=>pzq U) (fun _=>U) (fun _=>U) fun f _=>vq 1 U (by kernel_rfl) (vS [40,48] [50] [] U U (zVC zhO U U U U U U U (pyq U)) U U (A [79,5,1,59,4,70,1,16] fun d _=>?_)))
 exact A [89] (tx d)
def zBR (a b:List Int):Nat->Int->Option Bool
 | 0,_=>none
 | k1+1,i3=>cnd (decide (i3<(a.length:Int))) (bnd (idx a i3) fun d=>bnd (idx b i3) fun e=>cnd (d != e) (some false) (bnd (rng .i64 (i3+1)) fun c=>(zBR a b k1) c)) (some true)
def zB4 (fu:Nat) (a b:List Int):Option Bool:=cnd ((a.length:Int) != (b.length:Int)) (some false) ((zBR a b) fu 0)
theorem zHA {fu:Nat} {a b:List Int}:DD (zB4 fu a b) 62 [.sl 1 false (a.map zAB),.sl 1 false (b.map zAB)] fun r=>Y r:=by
 refine fcI Tryz.func62 U (A [75,80,35,1,77,5,1,59,68,58,13] ?_)
 refine lw (zBR a b) [0,1] [] (fun c=>[(5,Z c)]) (fun _=>[]) fu 0 U U ?_
 rintro g c
 refine A [6,61,77,10,2,86,59,72,6,97,202] ?_
 refine vT [34,36] [38] [] U U (zA7 (T:=tab) zAB a U U U U U U U fun e _=>pzq U) (fun _=>U) (fun _=>U) fun e _=>vq 3 U (by kernel_rfl) (vT [42,44] [46] [] U U (zA7 (T:=tab) zAB b U U U U U U U fun f _=>pzq U) (fun _=>U) (fun _=>U) fun f _=>A [202,79,5,1,59,4,70,1,16] fun d _=>?_)
 exact A [89] (tx d)
def zE6 (fu:Nat) (a b:Node):Option Bool:=cnd (a.Kind==b.Kind) (cnd (a.Name==b.Name) (cnd (a.Is==b.Is) (cnd (a.Data==b.Data) (bnd (zFu fu a.Attrs b.Attrs) fun c=>cnd c (cnd (a.Parent==b.Parent) (bnd (zB4 fu a.Kids b.Kids) fun d=>cnd d (cnd (a.Host==b.Host) (cnd (a.Under==b.Under) (some (a.Doc==b.Doc)) (some false)) (some false)) (some false)) (some false)) (some false)) (some false)) (some false)) (some false)) (some false)
theorem zKb {fu:Nat} {a b:Node}:DD (zE6 fu a b) 26 [.agg (zAZ a),.agg (zAZ b)] fun r=>Y r:=by
 refine fcI Tryz.func26 U (A [73,30,3,57,9,106,27,10,2,163,74,107,27,17,2,156,74,107,27,24,2,149,74,107,27,31,2,142,74,104,41] (fun c _=>?_) zOI)
 refine A [2,27,38,2,135,74,107,27,45,2,128,74,104,41] (fun d _=>?_) zHA
 exact A [2,26,52,14,107,26,59,8,107,26,66,2,107,74,107,74,114,74,121,74]
def zC4 (fu:Nat) (a b:Forest):Nat->Int->Option Bool
 | 0,_=>none
 | k1+1,i3=>cnd (decide (i3<(a.Nodes.length:Int))) (bnd (idx a.Nodes i3) fun e=>bnd (idx b.Nodes i3) fun f=>bnd (zE6 fu e f) fun d=>cnd (!d) (some false) (bnd (rng .i64 (i3+1)) fun c=>(zC4 fu a b k1) c)) (some true)
def zEX (fu:Nat) (a b:Forest):Option Bool:=cnd (a.Most != b.Most) (some false) (cnd ((a.Nodes.length:Int) != (b.Nodes.length:Int)) (some false) ((zC4 fu a b) fu 0))
theorem zOJ {fu:Nat} {a b:Forest}:DD (zEX fu a b) 17 [.agg (zAE a),.agg (zAE b)] fun r=>Y r:=by
 refine fcI Tryz.func17 U (A [73,30,3,57,6,9,106,26,11,2,108,83,2,35,2,35,2,0,5,1,59,68,58,13] ?_)
 refine lw (zC4 fu a b) [2,3] [3,2] (fun c=>[(5,Z c)]) (fun _=>[]) fu 0 U U ?_
 rintro g c
 refine A [6,93,77,10,2,86,59,72,6,52,3,2,2,3,5,3,2,53,12,0,1,0,7,15,0,32,0,224,480,1023,2047,203] ?_
 refine vT [56,58] [60] [] U U (zA7 (T:=tab) zAZ a.Nodes U U U U U U U fun e _=>pzq U) (fun _=>U) (fun _=>U) fun e _=>vq 4 U (by kernel_rfl) (vT [66,68] [70] [] U U (zA7 (T:=tab) zAZ b.Nodes U U U U U U U fun f _=>pzq U) (fun _=>U) (fun _=>U) fun f _=>A [201,54,2,1,62,72,74] (fun h _=>?_) zKb)
 refine A [201,79,5,1,59,4,70,1,16] fun d _=>?_
 exact A [89] (tx d)
def zCP (a b:List State):Nat->Int->Option Bool
 | 0,_=>none
 | k1+1,i3=>cnd (decide (i3<(a.length:Int))) (bnd (idx a i3) fun d=>bnd (idx b i3) fun e=>cnd (!(zSJ d e)) (some false) (bnd (rng .i64 (i3+1)) fun c=>(zCP a b k1) c)) (some true)
def zE0 (fu:Nat) (a b:List State):Option Bool:=cnd ((a.length:Int) != (b.length:Int)) (some false) ((zCP a b) fu 0)
theorem zMm {fu:Nat} {a b:List State}:DD (zE0 fu a b) 18 [.sl 4 false (a.map zBh),.sl 4 false (b.map zBh)] fun r=>Y r:=by
 refine fcI Tryz.func18 U (A [75,80,35,1,77,5,1,59,68,58,13] ?_)
 refine lw (zCP a b) [0,1] [] (fun c=>[(5,Z c)]) (fun _=>[]) fu 0 U U ?_
 rintro g c
 refine A [6,61,77,10,2,86,59,72,6,97,202] ?_
 refine vT [34,36] [38] [] U U (zA7 (T:=tab) zBh a U U U U U U U fun e _=>pzq U) (fun _=>U) (fun _=>U) fun e _=>vq 3 U (by kernel_rfl) (vT [42,44] [46] [] U U (zA7 (T:=tab) zBh b U U U U U U U fun f _=>pzq U) (fun _=>U) (fun _=>U) fun f _=>vq 1 U (by kernel_rfl) (vS [40,48] [50] [] U U (zVC zgA U U U U U U U (pyq U)) U U (A [79,5,1,59,4,70,1,16] fun d _=>?_)))
 exact A [89] (tx d)
def zCL (a c:Desk):Nat->Int->Option Bool
 | 0,_=>none
 | k2+1,i7=>cnd (decide (i7<(a.Waits.length:Int))) (bnd (idx a.Waits i7) fun d=>bnd (idx c.Waits i7) fun e=>cnd (!(zbu d e)) (some false) (bnd (rng .i64 (i7+1)) fun b=>(zCL a c k2) b)) (some true)
def zC5 (fu:Nat) (a b:Desk):Nat->Int->Option Bool
 | 0,_=>none
 | k1+1,i3=>cnd (decide (i3<(a.Defs.length:Int))) (bnd (idx a.Defs i3) fun d=>bnd (idx b.Defs i3) fun e=>cnd (!(zhK d e)) (some false) (bnd (rng .i64 (i3+1)) fun c=>(zC5 fu a b k1) c)) ((zCL a b) fu 0)
def zFv (fu:Nat) (a b:Desk):Option Bool:=cnd ((a.Defs.length:Int) != (b.Defs.length:Int)) (some false) (cnd ((a.Waits.length:Int) != (b.Waits.length:Int)) (some false) (cnd (a.Next != b.Next) (some false) (cnd (!(a.Busy==b.Busy)) (some false) ((zC5 fu a b) fu 0))))
theorem zOK {fu:Nat} {a b:Desk}:DD (zFv fu a b) 29 [.agg (zI8 a),.agg (zI8 b)] fun r=>Y r:=by
 refine fcI Tryz.func29 U (A [73,30,3,57,6,61,35,2,35,2,26,14,2,122,83,2,35,2,35,3,26,23,2,113,83,107,26,30,2,106,83,106,0,5,1,59,68,58,13] ?_)
 refine lw (zC5 fu a b) [2,3] [3,2] (fun d=>[(5,Z d)]) (fun _=>[]) fu 0 U U ?_
 rintro k d
 refine A [6,93,77] ?_
 refine zAF U ?_ ?_
 ·refine A [72,6,52,3,2,2,3,5,3,2,98] ?_
  refine vT [90,92] [94] [] U U (zA7 (T:=tab) zQ3 a.Defs U U U U U U U fun g _=>pzq U) (fun _=>U) (fun _=>U) fun g _=>vq 4 U (by kernel_rfl) (vT [100,102] [104] [] U U (zA7 (T:=tab) zQ3 b.Defs U U U U U U U fun h _=>pzq U) (fun _=>U) (fun _=>U) fun h _=>vq 1 U (by kernel_rfl) (vS [96,106] [108] [] U U (zVC eqf_88 U U U U U U U (pyq U)) U U (A [79,5,1,59,4,70,1,16] fun f _=>?_)))
  exact A [89] (tx f)
 ·refine A [86,6,58,13] ?_
  refine lw (zCL a b) [2,3] [3,2] (fun e=>[(6,Z e)]) (fun _=>[]) fu 0 U U ?_
  rintro l e
  refine A [6,93,77,10,2,86,59,72,6,52,3,2,2,3,6,3,2,98] ?_
  refine vT [126,128] [130] [] U U (zA7 (T:=tab) zJg a.Waits U U U U U U U fun i _=>pzq U) (fun _=>U) (fun _=>U) fun i _=>vq 4 U (by kernel_rfl) (vT [136,138] [140] [] U U (zA7 (T:=tab) zJg b.Waits U U U U U U U fun j _=>pzq U) (fun _=>U) (fun _=>U) fun j _=>vq 1 U (by kernel_rfl) (vS [132,142] [144] [] U U (zVC zhN U U U U U U U (pyq U)) U U (A [79,5,1,59,4,70,1,16] fun c _=>?_)))
  exact A [89] (tx c)
def zCq (a b:List Todo):Nat->Int->Option Bool
 | 0,_=>none
 | k1+1,i3=>cnd (decide (i3<(a.length:Int))) (bnd (idx a i3) fun d=>bnd (idx b i3) fun e=>cnd (!(zN8 d e)) (some false) (bnd (rng .i64 (i3+1)) fun c=>(zCq a b k1) c)) (some true)
def zFP (fu:Nat) (a b:List Todo):Option Bool:=cnd ((a.length:Int) != (b.length:Int)) (some false) ((zCq a b) fu 0)
theorem zNg {fu:Nat} {a b:List Todo}:DD (zFP fu a b) 16 [.sl 10 false (a.map zKx),.sl 10 false (b.map zKx)] fun r=>Y r:=by
 refine fcI Tryz.func16 U (A [75,80,35,1,77,5,1,59,68,58,13] ?_)
 refine lw (zCq a b) [0,1] [] (fun c=>[(5,Z c)]) (fun _=>[]) fu 0 U U ?_
 rintro g c
 refine A [6,61,77,10,2,86,59,72,6,97,202] ?_
 refine vT [34,36] [38] [] U U (zA7 (T:=tab) zKx a U U U U U U U fun e _=>pzq U) (fun _=>U) (fun _=>U) fun e _=>vq 3 U (by kernel_rfl) (vT [42,44] [46] [] U U (zA7 (T:=tab) zKx b U U U U U U U fun f _=>pzq U) (fun _=>U) (fun _=>U) fun f _=>vq 1 U (by kernel_rfl) (vS [40,48] [50] [] U U (zVC zgB U U U U U U U (pyq U)) U U (A [79,5,1,59,4,70,1,16] fun d _=>?_)))
 exact A [89] (tx d)
def zCM (fu:Nat) (a f:Line):Nat->Int->Option Bool
 | 0,_=>none
 | k2+1,i9=>cnd (decide (i9<(a.Stack.length:Int))) (bnd (idx a.Stack i9) fun d=>bnd (idx f.Stack i9) fun e=>bnd (zB4 fu d e) fun c=>cnd (!c) (some false) (bnd (rng .i64 (i9+1)) fun b=>(zCM fu a f k2) b)) (some true)
def zC6 (fu:Nat) (a b:Line):Nat->Int->Option Bool
 | 0,_=>none
 | k1+1,i4=>cnd (decide (i4<(a.Todos.length:Int))) (bnd (idx a.Todos i4) fun e=>bnd (idx b.Todos i4) fun f=>bnd (zFP fu e f) fun d=>cnd (!d) (some false) (bnd (rng .i64 (i4+1)) fun c=>(zC6 fu a b k1) c)) ((zCM fu a b) fu 0)
def zFw (fu:Nat) (a b:Line):Option Bool:=cnd ((a.Todos.length:Int) != (b.Todos.length:Int)) (some false) (cnd ((a.Stack.length:Int) != (b.Stack.length:Int)) (some false) (bnd (zB4 fu a.Back b.Back) fun c=>cnd (!c) (some false) (cnd (!(a.Busy==b.Busy)) (some false) ((zC6 fu a b) fu 0))))
theorem zOL {fu:Nat} {a b:Line}:DD (zFw fu a b) 39 [.agg (zPs a),.agg (zPs b)] fun r=>Y r:=by
 refine fcI Tryz.func39 U (A [73,30,3,57,6,61,35,2,35,2,26,14,2,123,83,2,35,2,35,3,26,23,2,114,83,104,41] (fun n _=>?_) zHA)
 refine A [3,26,31,2,106,83,106,0,5,1,59,68,58,13] ?_
 refine lw (zC6 fu a b) [2,3] [3,2] (fun f=>[(5,Z f)]) (fun _=>[]) fu 0 U U ?_
 rintro l f
 refine A [6,93,77] ?_
 refine zAF U ?_ ?_
 ·refine A [72,6,52,3,2,2,3,5,3,2,53,12,0,1,0,7,15,0,32,0,224,480,1023,2047,203] ?_
  refine vT [92,94] [96] [] U U (zA7 (T:=tab) zDi a.Todos U U U U U U U fun j _=>pzq U) (fun _=>U) (fun _=>U) fun j _=>vq 4 U (by kernel_rfl) (vT [102,104] [106] [] U U (zA7 (T:=tab) zDi b.Todos U U U U U U U fun k _=>pzq U) (fun _=>U) (fun _=>U) fun k _=>A [201,54,2,1,98,108,110] (fun o _=>?_) zNg)
  refine A [201,79,5,1,59,4,70,1,16] fun h _=>?_
  exact A [89] (tx h)
 ·refine A [86,6,58,13] ?_
  refine lw (zCM fu a b) [2,3] [3,2] (fun g=>[(6,Z g)]) (fun _=>[]) fu 0 U U ?_
  rintro m g
  refine A [6,93,77,10,2,86,59,72,6,52,3,2,2,3,6,3,2,53,12,0,1,0,7,15,0,32,0,224,480,1023,2047,203] ?_
  refine vT [130,132] [134] [] U U (zA7 (T:=tab) zAt a.Stack U U U U U U U fun d _=>pzq U) (fun _=>U) (fun _=>U) fun d _=>vq 4 U (by kernel_rfl) (vT [140,142] [144] [] U U (zA7 (T:=tab) zAt b.Stack U U U U U U U fun e _=>pzq U) (fun _=>U) (fun _=>U) fun e _=>A [201,54,2,1,136,146,148] (fun i _=>?_) zHA)
  refine A [201,79,5,1,59,4,70,1,16] fun c _=>?_
  exact A [89] (tx c)
def zDN (a b:List Op):Nat->Int->Option Bool
 | 0,_=>none
 | k1+1,i3=>cnd (decide (i3<(a.length:Int))) (bnd (idx a i3) fun d=>bnd (idx b i3) fun e=>cnd (!(zf8 d e)) (some false) (bnd (rng .i64 (i3+1)) fun c=>(zDN a b k1) c)) (some true)
def zDs (fu:Nat) (a b:List Op):Option Bool:=cnd ((a.length:Int) != (b.length:Int)) (some false) ((zDN a b) fu 0)
theorem zHg {fu:Nat} {a b:List Op}:DD (zDs fu a b) 88 [.sl 7 false (a.map cOp),.sl 7 false (b.map cOp)] fun r=>Y r:=by
 refine fcI Tryz.func88 U (A [75,80,35,1,77,5,1,59,68,58,13] ?_)
 refine lw (zDN a b) [0,1] [] (fun c=>[(5,Z c)]) (fun _=>[]) fu 0 U U ?_
 rintro g c
 refine A [6,61,77,10,2,86,59,72,6,97,202] ?_
 refine vT [34,36] [38] [] U U (zA7 (T:=tab) cOp a U U U U U U U fun e _=>pzq U) (fun _=>U) (fun _=>U) fun e _=>vq 3 U (by kernel_rfl) (vT [42,44] [46] [] U U (zA7 (T:=tab) cOp b U U U U U U U fun f _=>pzq U) (fun _=>U) (fun _=>U) fun f _=>vq 1 U (by kernel_rfl) (vS [40,48] [50] [] U U (zVC zf9 U U U U U U U (pyq U)) U U (A [79,5,1,59,4,70,1,16] fun d _=>?_)))
 exact A [89] (tx d)
def zB1 (fu:Nat) (a b:Class):Nat->Int->Option Bool
 | 0,_=>none
 | k2+1,i9=>cnd (decide (i9<(a.Hooks.length:Int))) (bnd (idx a.Hooks i9) fun e=>bnd (idx b.Hooks i9) fun f=>cnd (e.Kind != f.Kind) (some false) (bnd (idx a.Hooks i9) fun g=>bnd (idx b.Hooks i9) fun h=>bnd (zDs fu g.Do h.Do) fun d=>cnd (!d) (some false) (bnd (rng .i64 (i9+1)) fun c=>(zB1 fu a b k2) c))) (some true)
def zCr (fu:Nat) (a b:Class):Nat->Int->Option Bool
 | 0,_=>none
 | k1+1,i5=>cnd (decide (i5<(a.Watch.length:Int))) (bnd (idx a.Watch i5) fun d=>bnd (idx b.Watch i5) fun e=>cnd (!(d==e)) (some false) (bnd (rng .i64 (i5+1)) fun c=>(zCr fu a b k1) c)) ((zB1 fu a b) fu 0)
def zFQ (fu:Nat) (a b:Class):Option Bool:=cnd (!(a.Form==b.Form)) (some false) (cnd ((a.Watch.length:Int) != (b.Watch.length:Int)) (some false) (bnd (zDs fu a.Peek b.Peek) fun c=>cnd (!c) (some false) (bnd (zDs fu a.Make b.Make) fun d=>cnd (!d) (some false) (cnd ((a.Hooks.length:Int) != (b.Hooks.length:Int)) (some false) ((zCr fu a b) fu 0)))))
theorem zNh {fu:Nat} {a b:Class}:DD (zFQ fu a b) 40 [.agg (zBk a),.agg (zBk b)] fun r=>Y r:=by
 refine fcI Tryz.func40 U (A [73,30,3,57,6,9,106,26,12,2,133,83,2,35,2,35,3,26,21,2,124,83,104,41] (fun p _=>?_) zHg)
 refine A [3,26,29,2,116,83,104,41] (fun q _=>?_) zHg
 refine A [3,26,37,2,108,83,2,35,2,35,2,0,5,1,59,68,58,13] ?_
 refine lw (zCr fu a b) [2,3] [3,2] (fun h=>[(5,Z h)]) (fun _=>[]) fu 0 U U ?_
 rintro n h
 refine A [6,93,77] ?_
 refine zAF U ?_ ?_
 ·refine A [72,6,52,3,2,2,3,5,3,2,98] ?_
  refine vT [108,110] [112] [] U U (zA7 (T:=tab) zRM a.Watch U U U U U U U fun l _=>pzq U) (fun _=>U) (fun _=>U) fun l _=>vq 4 U (by kernel_rfl) (vT [118,120] [122] [] U U (zA7 (T:=tab) zRM b.Watch U U U U U U U fun m _=>pzq U) (fun _=>U) (fun _=>U) fun m _=>A [202,79,5,1,59,4,70,1,16] fun j _=>?_)
  exact A [89] (tx j)
 ·refine A [86,6,58,13] ?_
  refine lw (zB1 fu a b) [2,3] [3,2] (fun i=>[(6,Z i)]) (fun _=>[]) fu 0 U U ?_
  rintro o i
  refine A [6,93,77,10,2,86,59,72,6,52,3,2,2,3,6,3,2,53,29,0,1,0,7,15,31,0,64,0,448,960,1984,4095,8191,16383,32767,16383,131071,262143,524287,16383,1064959,16383,7356415,15745023,32522239,67108863,134217727,268435455,203] ?_
  refine vT [144,146] [148] [] U U (zA7 (T:=tab) zJP a.Hooks U U U U U U U fun d _=>pzq U) (fun _=>U) (fun _=>U) fun d _=>vq 5 U (by kernel_rfl) (vT [156,158] [160] [] U U (zA7 (T:=tab) zJP b.Hooks U U U U U U U fun e _=>pzq U) (fun _=>U) (fun _=>U) fun e _=>vq 4 U (by kernel_rfl) (zBU (t:=84) U ?_ ?_))
  ·exact A [215,19,18,59]
  ·refine vq 3 U (by kernel_rfl) (vT [168,172,174] [176] [] U U (zA7 (T:=tab) zJP a.Hooks U U U U U U U fun f _=>pzq U) (fun _=>U) (fun _=>U) fun f _=>vq 5 U (by kernel_rfl) (vT [168,184,186] [188] [] U U (zA7 (T:=tab) zJP b.Hooks U U U U U U U fun g _=>pzq U) (fun _=>U) (fun _=>U) fun g _=>A [202,54,3,1,168,180,192,194] (fun k _=>?_) zHg))
   refine A [202,79,5,1,59,4,70,1,16] fun c _=>?_
   exact A [89] (tx c)
def zB7 (fu:Nat) (a b:List Class):Nat->Int->Option Bool
 | 0,_=>none
 | k1+1,i3=>cnd (decide (i3<(a.length:Int))) (bnd (idx a i3) fun e=>bnd (idx b i3) fun f=>bnd (zFQ fu e f) fun d=>cnd (!d) (some false) (bnd (rng .i64 (i3+1)) fun c=>(zB7 fu a b k1) c)) (some true)
def zEY (fu:Nat) (a b:List Class):Option Bool:=cnd ((a.length:Int) != (b.length:Int)) (some false) ((zB7 fu a b) fu 0)
theorem zMV {fu:Nat} {a b:List Class}:DD (zEY fu a b) 13 [.sl 5 false (a.map zBk),.sl 5 false (b.map zBk)] fun r=>Y r:=by
 refine fcI Tryz.func13 U (A [75,80,35,1,77,5,1,59,68,58,13] ?_)
 refine lw (zB7 fu a b) [0,1] [] (fun c=>[(5,Z c)]) (fun _=>[]) fu 0 U U ?_
 rintro g c
 refine A [6,61,77,10,2,86,59,72,6,52,3,0,0,1,5,53,10,0,0,3,7,0,0,48,112,255,511,202] ?_
 refine vT [34,36] [38] [] U U (zA7 (T:=tab) zBk a U U U U U U U fun e _=>pzq U) (fun _=>U) (fun _=>U) fun e _=>vq 3 U (by kernel_rfl) (vT [42,44] [46] [] U U (zA7 (T:=tab) zBk b U U U U U U U fun f _=>pzq U) (fun _=>U) (fun _=>U) fun f _=>A [201,54,2,1,40,48,50] (fun h _=>?_) zNh)
 refine A [201,79,5,1,59,4,70,1,16] fun d _=>?_
 exact A [89] (tx d)
def zCN (fu:Nat) (a b:World):Nat->Int->Option Bool
 | 0,_=>none
 | k2+1,i7=>cnd (decide (i7<(a.Builds.length:Int))) (bnd (idx a.Builds i7) fun i=>bnd (idx b.Builds i7) fun j=>cnd (!(zXi i j)) (some false) (bnd (rng .i64 (i7+1)) fun c=>(zCN fu a b k2) c)) (bnd (zEX fu a.Forest b.Forest) fun d=>cnd d (bnd (zE0 fu a.States b.States) fun e=>cnd e (bnd (zFv fu a.Desk b.Desk) fun f=>cnd f (bnd (zFw fu a.Line b.Line) fun g=>cnd g (bnd (zEY fu a.Classes b.Classes) fun h=>some h) (some false)) (some false)) (some false)) (some false))
def zC7 (fu:Nat) (a b:World):Nat->Int->Option Bool
 | 0,_=>none
 | k1+1,i3=>cnd (decide (i3<(a.Tasks.length:Int))) (bnd (idx a.Tasks i3) fun d=>bnd (idx b.Tasks i3) fun e=>cnd (!(zbt d e)) (some false) (bnd (rng .i64 (i3+1)) fun c=>(zC7 fu a b k1) c)) ((zCN fu a b) fu 0)
def zFx (fu:Nat) (a b:World):Option Bool:=cnd ((a.Tasks.length:Int) != (b.Tasks.length:Int)) (some false) (cnd ((a.Builds.length:Int) != (b.Builds.length:Int)) (some false) ((zC7 fu a b) fu 0))
theorem zOM {fu:Nat} {a b:World}:DD (zFx fu a b) 12 [.agg (zBd a),.agg (zBd b)] fun r=>Y r:=by
 refine fcI Tryz.func12 U (A [73,30,3,57,6,61,35,2,35,2,26,14,2,108,83,2,35,2,35,2,0,5,1,59,68,58,13] ?_)
 refine lw (zC7 fu a b) [2,3] [3,2] (fun d=>[(5,Z d)]) (fun _=>[]) fu 0 U U ?_
 rintro p d
 refine A [6,93,77] ?_
 refine zAF U ?_ ?_
 ·refine A [72,6,52,3,2,2,3,5,3,2,98] ?_
  refine vT [62,64] [66] [] U U (zA7 (T:=tab) zJQ a.Tasks U U U U U U U fun l _=>pzq U) (fun _=>U) (fun _=>U) fun l _=>vq 4 U (by kernel_rfl) (vT [72,74] [76] [] U U (zA7 (T:=tab) zJQ b.Tasks U U U U U U U fun m _=>pzq U) (fun _=>U) (fun _=>U) fun m _=>vq 1 U (by kernel_rfl) (vS [68,78] [80] [] U U (zVC zhL U U U U U U U (pyq U)) U U (A [79,5,1,59,4,70,1,16] fun f _=>?_)))
  exact A [89] (tx f)
 ·refine A [86,6,58,13] ?_
  refine lw (zCN fu a b) [2,3] [3,2] (fun e=>[(6,Z e)]) (fun _=>[]) fu 0 U U ?_
  rintro q e
  refine A [6,93,77] ?_
  refine zAF U ?_ ?_
  ·refine A [72,6,52,3,2,2,3,6,3,2,98] ?_
   refine vT [98,100] [102] [] U U (zA7 (T:=tab) zI7 a.Builds U U U U U U U fun n _=>pzq U) (fun _=>U) (fun _=>U) fun n _=>vq 4 U (by kernel_rfl) (vT [108,110] [112] [] U U (zA7 (T:=tab) zI7 b.Builds U U U U U U U fun o _=>pzq U) (fun _=>U) (fun _=>U) fun o _=>vq 1 U (by kernel_rfl) (vS [104,114] [116] [] U U (zVC zhM U U U U U U U (pyq U)) U U (A [79,5,1,59,4,70,1,16] fun c _=>?_)))
   exact A [89] (tx c)
  ·refine A [86,76,41] (fun g _=>?_) zOJ
   refine A [1,27,64,2,128,74,104,41] (fun h _=>?_) zMm
   refine A [2,27,71,2,121,74,104,41] (fun i _=>?_) zOK
   refine A [2,27,78,2,114,74,104,41] (fun j _=>?_) zOL
   refine A [2,27,85,2,107,74,104,41] (fun k _=>?_) zMV
   exact A [2,74]
def zAp (c b:World×Int×Int) (a:Int):Nat->Int×Int->Option Bool
 | 0,_=>none
 | k2+1,(many24,i25)=>bnd (idx b.1.Line.Todos c.2.1) fun g=>cnd (decide (i25<(g.length:Int))) (bnd (idx b.1.Line.Todos c.2.1) fun h=>bnd (idx h i25) fun i=>cnd (zN8 i (⟨9,a,[],false,false,[],[],0,0,false⟩:Todo)) (bnd (rng .i64 (many24+1)) fun d=>bnd (rng .i64 (i25+1)) fun e=>(zAp c b a k2) (d,e)) (bnd (rng .i64 (i25+1)) fun f=>(zAp c b a k2) (many24,f))) (cnd (many24==1) (cnd (a != (-1)) (some true) (cnd (many24==0) (some (a==(-1))) (some false))) (cnd (many24==0) (some (a==(-1))) (some false)))
def zA1 (fu:Nat) (k:World) (b a r13:World×Int×Int):Nat->Int->Option Bool
 | 0,_=>none
 | k1+1,k15=>cnd (decide (k15<b.2.1)) (bnd (idx r13.1.Forest.Nodes k15) fun h=>bnd (idx k.Forest.Nodes k15) fun i=>bnd (zE6 fu h i) fun e=>cnd (!e) (some false) (bnd (rng .i64 (k15+1)) fun d=>(zA1 fu k b a r13 k1) d)) (bnd (idx a.1.Forest.Nodes b.2.1) fun c=>bnd (zIB fu a.1.Desk c.Name c.Is) fun f=>bnd (zCQ fu a.1.Forest b.2.1) fun g=>cnd (!g) (some true) (cnd (c.Doc != 0) (some true) (bnd (idx b.1.Line.Todos b.2.1) fun j=>(zAp b a f) fu (0,(j.length:Int)))))
def zBj (fu:Nat) (e:World) (j:Int) (a f:Bs):Option Bool:=bnd (zG9 fu) fun l=>cnd (!l) (some false) (bnd (zFR fu e) fun m=>cnd (!m) (some true) (cnd (decide ((a.length:Int)>300)) (some true) (cnd (decide ((f.length:Int)>300)) (some true) (bnd (zGW fu e) fun n=>cnd (!n) (some true) (bnd (zFj fu e (⟨2,0,0,0,a,f,false⟩:Op)) fun c=>cnd (c.2.2 != 0) (some (c.2.1==(-1))) (bnd (rng .i64 j) fun k=>bnd (remI k (e.States.length:Int)) fun h=>bnd (zFj fu c.1 (⟨6,c.2.1,h,(-1),[],[],false⟩:Op)) fun b=>cnd (b.2.2 != 0) (bnd (zFx fu b.1 c.1) fun i=>some i) (bnd (zFj fu b.1 (⟨7,c.2.1,0,0,[],[],false⟩:Op)) fun d=>cnd (d.2.2 != 0) (some false) (cnd (c.2.1 != (e.States.length:Int)) (some false) (bnd (rng .i64 (c.2.1+1)) fun g=>cnd ((d.1.States.length:Int) != g) (some false) ((zA1 fu e c b d) fu 0))))))))))
theorem zKr {fu:Nat} {h:World} {q:Int} {b d:Bs}:DD (zBj fu h q b d) 6 [.agg (zBd h),.v (.int .u8 q),O b,O d] fun r=>Y r:=by
 refine fcI Tryz.func6 U (A [9,30,4,57,6,9] ?_)
 refine zK3 (enc:=fun (s:Bool)=>Y s) (qs:=[]) zNc U U trivial (fun _=>U) call8 U U fun s _=>A [57,5,1,59,68,80,41] (fun I _=>?_) zNj
 refine A [2,26,29,2,114,83,105,26,34,2,109,83,105,26,39,2,104,83,1,41] (fun J _=>?_) zKw
 refine A [2,0,5,1,59,67,93,20,41] (fun t _=>?_) zHJ
 refine A [104,31,9,12,2,0,6,62,5,2,93,74,67,80,16] fun F _=>?_
 refine A [2,35] ?_
 refine po_rem U U U U U U fun w _=>A [57,93,20,41] (fun f _=>?_) zHJ
 refine A [104,31,13,12,2,0,6,62] ?_
 refine zAF U ?_ ?_
 ·refine A [99] (fun x _=>?_) zOM
  exact A [57,8]
 ·refine A [67,61,20,41] (fun g _=>?_) zHJ
  refine A [104,31,16,12,2,0,6,93,26,87,2,114,83,3,35,3,26,94,2,107,83,2,35,1,16] fun u _=>?_
  refine A [2,0,5,1,59,68,58,13] ?_
  refine lw (zA1 fu h t f g) [4,9,10,13,16] [16,13,9,4] (fun e=>[(19,Z e)]) (fun _=>[]) fu 0 U U ?_
  rintro G e
  refine A [6,93,0] ?_
  refine zAF U ?_ ?_
  ·refine A [72,6,52,6,4,4,9,10,13,16,19,16,13,9,4,53,14,0,1,3,0,15,31,0,64,192,0,960,1984,4095,8191,204] ?_
   refine vT [218,220] [222] [] U U (zA7 (T:=tab) zAZ g.1.Forest.Nodes U U U U U U U fun n _=>pzq U) (fun _=>U) (fun _=>U) fun n _=>vq 5 U (by kernel_rfl) (vT [230,232] [234] [] U U (zA7 (T:=tab) zAZ h.Forest.Nodes U U U U U U U fun o _=>pzq U) (fun _=>U) (fun _=>U) fun o _=>A [201,54,2,1,224,236,238] (fun y _=>?_) zKb)
   refine A [201,79,5,1,59,4,70,1,16] fun i _=>?_
   exact A [89] (tx i)
  ·refine A [86,76,36] fun B _=>?_
   refine A [1,31,20,12,0,9,106,41] (fun m _=>?_) zQM
   refine A [57,6,93,41] (fun z _=>?_) zFy
   refine A [2,26,139,2,104,83,104,0,5,1,59,67,75,76,36] fun p _=>?_
   refine A [1,77,13] ?_
   refine lw (zAp t f m) [10,13,21] [13] (fun (a,c)=>[(22,Z a),(23,Z c)]) (fun _=>[]) fu (0,(p.length:Int)) U U ?_
   rintro H ⟨a,c⟩
   refine A [6,9,105,36] fun C _=>?_
   refine A [1,77,10,27,86,93,26,178,14,104,26,182,2,108,74,3,26,185,2,105,74,105,74,107,26,185,2,105,74,105,74,72,76,36] fun D _=>?_
   refine A [2,36] fun E _=>?_
   refine A [2,20] ?_
   refine po_eq zgB U U U U U U U (ns (zAF U ?_ ?_))
   ·refine A [14,1,16] fun j _=>?_
    refine A [1,11,70,1,16] fun k _=>?_
    exact A [89] (tx (j,k))
   ·refine A [4,70,1,16] fun l _=>?_
    exact A [89] (tx (a,l))
end Go.Proofs.YtmfbghpealgaiaaGreatDoor
