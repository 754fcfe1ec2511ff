/- Models and proofs, printed by emit2.py. -/
import Derived.Test.YtmfbghpealgaiaaGreatDoorG4
namespace Go.Proofs.YtmfbghpealgaiaaGreatDoor
open Go Go.Pw
set_option maxRecDepth 100000
set_option maxHeartbeats 10000000
set_option linter.unusedVariables false
theorem zJy {fu:Nat} {b:List Int} {a:Forest}:FF (zAX fu (fun c=>zCy fu c a) b) 227 [.sl 1 false (b.map zAB),.fn (.func 287) [] [.loc 900000 0]] [(900000,.box 24 (zAE a))] [900000] (fun r=>Z r) fun _=>[(900000,.box 24 (zAE a))]:=by
 refine fcI Tryz.func227 U (A [75,80,77,13] ?_)
 refine lw (zAM (fun c=>zCy fu c a) b) [0,1,7] [900000] (fun d=>[(8,Z d)]) (fun _=>[]) fu 0 U U ?_
 rintro f d
 refine A [75,10,2,86,59,72,62,93,36] fun h _=>?_
 refine A [1,44] (fun g _=>?_) zQA [(900000,900000)]
 refine A [0,5,2,62,8,4,94] fun e _=>?_
 exact A [89] (tx e)
def zI1 (fu:Nat) (a:Forest) (d:Int):Option Int:=bnd (idx a.Nodes d) fun c=>bnd (zAX fu (fun f=>zCy fu f a) c.Kids) fun b=>cnd (decide (b<0)) (some (-1)) (bnd (idx c.Kids b) fun e=>some e)
theorem zSO {fu:Nat} {a:Forest} {b:Int}:DD (zI1 fu a b) 283 [.agg (zAE a),Z b] fun r=>Z r:=by
 refine fcI Tryz.func283 U (A [73,57,93,36] fun d _=>?_)
 refine A [3,0,61,44] (fun c _=>?_) zJy [(900000,2)]
 refine A [57,6,62,5,1,59,67,61,36] fun e _=>?_
 exact A [2,74]
def zCU (fu:Nat) (a:Forest):Nat->Int×Int->Option Bool
 | 0,_=>none
 | k1+1,(by8,p9)=>cnd (p9 != (-1)) (bnd (idx a.Nodes p9) fun b=>cnd (b.Name==([102,105,101,108,100,115,101,116]:Bs)) (bnd (zFi fu b) fun c=>cnd c (bnd (zI1 fu a p9) fun d=>cnd (d != by8) (some true) (bnd (idx a.Nodes p9) fun e=>(zCU fu a k1) (p9,e.Parent))) (bnd (idx a.Nodes p9) fun f=>(zCU fu a k1) (p9,f.Parent))) (bnd (idx a.Nodes p9) fun g=>(zCU fu a k1) (p9,g.Parent))) (some false)
def zI0 (fu:Nat) (a:Forest) (b:Int):Option Bool:=bnd (idx a.Nodes b) fun d=>bnd (zFi fu d) fun c=>cnd c (bnd (idx a.Nodes b) fun e=>some (e.Kind==1)) (bnd (idx a.Nodes b) fun f=>cnd (f.Kind != 1) (some false) (bnd (idx a.Nodes b) fun g=>(zCU fu a) fu (b,g.Parent)))
theorem zSN {fu:Nat} {a:Forest} {g:Int}:DD (zI0 fu a g) 264 [.agg (zAE a),Z g] fun r=>Y r:=by
 refine fcI Tryz.func264 U (A [73,57,6,93,36] fun o _=>?_)
 refine A [1,41] (fun n _=>?_) zLw
 refine ns (zAD U ?_ ?_)
 ·refine A [93,36] fun p _=>?_
  exact A [104,74]
 ·refine A [68,93,36] fun q _=>?_
  refine A [3,0,5,1,59,67,62,6,93,36] fun l _=>?_
  refine A [3,0,13] ?_
  refine lw (zCU fu a) [2] [2] (fun (b,c)=>[(5,Z b),(6,Z c)]) (fun _=>[]) fu (g,l.Parent) U U ?_
  rintro m ⟨b,c⟩
  refine A [6,62,10,2,86,59,72,93,36] fun k _=>?_
  refine A [1,31,7,12,0,76] ?_
  refine zAV (j:=52) U ?_ ?_
  ·refine A [1,41] (fun h _=>?_) zLw
   refine pq 2 U (zAV (j:=56) U ?_ ?_)
   ·refine A [2,41] (fun i _=>?_) zSO
    refine A [3,0,5,1,59,4,69,52,2,1,2,6,2,53,9,0,0,2,0,14,30,62,1,255,204] ?_
    exact vT [78,80] [82] [] U U (zE1 (T:=tab) zAZ a.Nodes U U U U U U U fun d _=>pzq U) (fun _=>U) (fun _=>U) fun d _=>A [204,19,46] (tx (c,d.Parent))
   ·refine A [106,11,24,4,69,52,2,1,2,6,2,53,9,0,0,2,0,14,30,62,1,255,204] ?_
    exact vT [78,80] [82] [] U U (zE1 (T:=tab) zAZ a.Nodes U U U U U U U fun e _=>pzq U) (fun _=>U) (fun _=>U) fun e _=>A [204,19,46] (tx (c,e.Parent))
  ·refine A [110,11,24,4,69,52,2,1,2,6,2,53,9,0,0,2,0,14,30,62,1,255,204] ?_
   exact vT [78,80] [82] [] U U (zE1 (T:=tab) zAZ a.Nodes U U U U U U U fun f _=>pzq U) (fun _=>U) (fun _=>U) fun f _=>A [204,19,46] (tx (c,f.Parent))
def zHC (fu:Nat) (a:Forest) (b:Int):Option Bool:=cnd (decide (b>=0)) (cnd (decide (b<(a.Nodes.length:Int))) (bnd (zAs fu a) fun c=>cnd c (bnd (zI0 fu a b) fun d=>some d) (some false)) (some false)) (some false)
theorem zNa {fu:Nat} {a:Forest} {b:Int}:DD (zHC fu a b) 218 [.agg (zAE a),Z b] fun r=>Y r:=by
 refine fcI Tryz.func218 U (A [73,57,93,27,7,2,116,74,3,35,3,27,14,2,109,74,1,41] (fun c _=>?_) zA7)
 refine A [2,27,18,2,105,74,2,41] (fun d _=>?_) zSN
 exact A [2,74]
def zDT (fu:Nat) (e:Forest) (c:Unit×Bool×(List Node)×Int×(List Def)×(List Wait)×Int×Bool×(List Class)×(List State)×(List Due)) (h:List Int):Nat->Int×(List State)×(List Due)->Option ((List State)×(List Due))
 | 0,_=>none
 | k1+1,(t7,l8,l9)=>cnd (decide (t7<(h.length:Int))) (bnd (idx h t7) fun b=>bnd (zC3 fu t7 c.2.2.1 c.2.2.2.2.1 c.2.2.2.2.2.1 c.2.2.2.2.2.2.1 c.2.2.2.2.2.2.2.1 c.2.2.2.2.2.2.2.2.1 l8) fun d=>cnd (!d.2) (bnd (rng .i64 (t7+1)) fun j=>(zDT fu e c h k1) (j,l8,l9)) (bnd (idx l8 t7) fun a=>cnd (a.Owner != b) (bnd (zCj fu d.1 t7 (⟨5,0,[],false,false,[],[],a.Owner,b,false⟩:Todo) l9) fun i=>bnd (zHC fu e t7) fun f=>cnd (!(f==({a with Owner:=b}:State).Barred)) (bnd (zCj fu d.1 t7 (⟨6,0,[],false,false,[],[],0,0,f⟩:Todo) i) fun o=>bnd (rng .i64 (t7+1)) fun k=>(zDT fu e c h k1) (k,((l8.set (t7).toNat ({a with Owner:=b}:State)).set (t7).toNat ({({a with Owner:=b}:State) with Barred:=f}:State)),o)) (bnd (rng .i64 (t7+1)) fun l=>(zDT fu e c h k1) (l,(l8.set (t7).toNat ({a with Owner:=b}:State)),i))) (bnd (zHC fu e t7) fun g=>cnd (!(g==a.Barred)) (bnd (zCj fu d.1 t7 (⟨6,0,[],false,false,[],[],0,0,g⟩:Todo) l9) fun p=>bnd (rng .i64 (t7+1)) fun m=>(zDT fu e c h k1) (m,(l8.set (t7).toNat ({a with Barred:=g}:State)),p)) (bnd (rng .i64 (t7+1)) fun n=>(zDT fu e c h k1) (n,l8,l9))))) (some (l8,l9))
def zJL (fu:Nat) (d:Forest) (b:List State) (e:Desk) (a:List Class):Option ((List State)×(List Due)):=bnd (zHo fu d b e a) fun c=>cnd (!c.2.1) (some (c.2.2.2.2.2.2.2.2.2.1,[])) (bnd (zLR fu d) fun f=>(zDT fu d c f) fu (0,c.2.2.2.2.2.2.2.2.2.1,c.2.2.2.2.2.2.2.2.2.2))
theorem zUu {fu:Nat} {k:Forest} {e:List State} {w:Desk} {b:List Class}:DD (zJL fu k e w b) 148 [.agg (zAE k),.sl 4 false (e.map zBn),.agg (zI8 w),.sl 5 false (b.map zCA)] fun r=>.tup [.sl 4 false (r.1.map zBn),.sl 11 false (r.2.map zJF)]:=by
 refine fcI Tryz.func148 U (A [9,30,4,30,6,2,0,76,43] (fun v _=>?_) zMI [(17,2102400),(2130,2102401),(31708,2102402)] [2102400,2102401,2102402])
 refine A [105,0,6,62] ?_
 refine zAD U ?_ ?_
 ·refine A [9,106,0,34,2102401] ?_
  exact zHc 9 (q:=.sl 11 false ([].map zJF)) U .nil rN
 ·refine A [68,80,41] (fun y _=>?_) zUz
  refine A [77,13] ?_
  refine lw (zDT fu k v y) [4,10,34,35] [2102400,4] (fun (g,f,h)=>[(36,Z g)]) (fun (g,f,h)=>[(2102401,.arr 53 4 (f.map zBn)),(2102402,.arr 171 11 (h.map zJF))]) fu (0,v.2.2.2.2.2.2.2.2.2.1,v.2.2.2.2.2.2.2.2.2.2) U U ?_
  rintro z ⟨g,f,h⟩
  refine A [75,10,28,86,6,52,1,3,10,2102400,2102401,2102402,53,10,0,1,3,7,0,16,48,112,15,511,210,79,34,2102401,34,2102402,8,72,80,36] fun d _=>?_
  refine A [3,0,61,44] (fun x _=>?_) zGn [(900000,2102400),(900001,2102401),(900002,2102402)]
  refine A [3,31,14,92,6,62] ?_
  refine zAD U ?_ ?_
  ·refine A [86,14,16] fun l _=>?_
   exact A [89] (tx (l,f,h))
  ·refine A [67,9,105,38] fun a c=>?_
   refine A [57,6,93] ?_
   refine zAv (T:=tab) zBn f a (zAx c) U U U U U U U U (A [57,93,0] ?_)
   refine zAD U ?_ ?_
   ·refine A [76] ?_
    refine zCk (T:=tab) zBn f a ({a with Owner:=d}:State) (zAx c) U U U U U U U U U U U U U (A [0,14,105,20,43] (fun s _=>?_) zEp [(900000,2102400),(900001,2102401),(900002,2102402)] [2102402])
    refine A [0,99] (fun i _=>?_) zNa
    refine A [57,76] ?_
    refine zAv (T:=tab) zBn (f.set (g).toNat ({a with Owner:=d}:State)) ({a with Owner:=d}:State) (zfP (zAx c)) U U U U U U U U (A [57] ?_)
    refine zAD U ?_ ?_
    ·refine A [76] ?_
     refine zCk (T:=tab) zBn (f.set (g).toNat ({a with Owner:=d}:State)) ({a with Owner:=d}:State) ({({a with Owner:=d}:State) with Barred:=i}:State) (zfP (zAx c)) U U U U U U U U U U U U U (A [0,14,104,20,43] (fun t _=>?_) zEp [(900000,2102400),(900001,2102401),(900002,2102402)] [2102402])
     refine A [11,94] fun m _=>?_
     exact A [89] (tx (m,((f.set (g).toNat ({a with Owner:=d}:State)).set (g).toNat ({({a with Owner:=d}:State) with Barred:=i}:State)),t))
    ·refine A [4,94] fun n _=>?_
     exact A [89] (tx (n,(f.set (g).toNat ({a with Owner:=d}:State)),s))
   ·refine A [67,99] (fun j _=>?_) zNa
    refine A [57,76] ?_
    refine zAv (T:=tab) zBn f a (zAx c) U U U U U U U U (A [57] ?_)
    refine zAD U ?_ ?_
    ·refine A [76] ?_
     refine zCk (T:=tab) zBn f a ({a with Barred:=j}:State) (zAx c) U U U U U U U U U U U U U (A [0,14,104,20,43] (fun u _=>?_) zEp [(900000,2102400),(900001,2102401),(900002,2102402)] [2102402])
     refine A [11,94] fun o _=>?_
     exact A [89] (tx (o,(f.set (g).toNat ({a with Barred:=j}:State)),u))
    ·refine A [4,94] fun p _=>?_
     exact A [89] (tx (p,f,h))
def zGA (fu:Nat) (g:World) (f:Forest) (a:List Note) (i:List Node):Nat->Int×(List State)×(List (List Todo))×(List (List Int))×(List Int)×Bool->Option (World×Int)
 | 0,_=>none
 | k1+1,(t9,l10,c11,c12,c13,c14)=>cnd (decide (t9<(i.length:Int))) (bnd (idx i t9) fun l=>bnd (zIf fu l) fun d=>bnd (zDI 32 (l10.length+([d]:List State).length)) fun _=>bnd (zJQ fu (⟨c11,c12,c13,c14⟩:Line)) fun b=>bnd (rng .i64 (t9+1)) fun h=>(zGA fu g f a i k1) (h,(l10++[d]),b.Todos,b.Stack,b.Back,b.Busy)) (bnd (zLd fu f l10 g.Desk g.Classes a) fun j=>bnd (zBW fu j (⟨({g with Forest:=f,States:=l10,Line:=(⟨c11,c12,c13,c14⟩:Line)}:World)⟩:zAI)) fun c=>bnd (zJL fu f c.World.States c.World.Desk c.World.Classes) fun e=>bnd (zBW fu e.2 (⟨({c.World with States:=e.1}:World)⟩:zAI)) fun k=>some (k.World,0))
def zKF (fu:Nat) (a:World) (c:Forest) (b:List Note):Option (World×Int):=bnd (zCt fu (⟨a⟩:zAI)) fun e=>cnd (!e) (some (a,1)) (bnd (zAs fu c) fun f=>cnd (!f) (some (a,1)) (bnd (zES fu (⟨a⟩:zAI) c) fun g=>cnd (!g) (some (a,1)) (bnd (zCW fu a.States) fun h=>bnd (zGF c.Nodes (a.Forest.Nodes.length:Int) (c.Nodes.length:Int)) fun d=>(zGA fu a c b d) fu (0,h,a.Line.Todos,a.Line.Stack,a.Line.Back,a.Line.Busy))))
theorem zTn {fu:Nat} {b:World} {j:Forest} {a:List Note}:DD (zKF fu b j a) 85 [.agg (zBe b),.agg (zAE j),.sl 9 false (a.map zBI)] fun r=>.tup [.agg (zBe r.1),Z r.2]:=by
 refine fcI Tryz.func85 U (A [9,30,3,30,4,31,6,57,80,20,31,8,12,0,6,80,41] (fun v _=>?_) zGO)
 refine A [2,26,18,5,110,65,80,92,8,1,41] (fun w _=>?_) zA7
 refine A [3,26,23,5,105,65,80,92,8,2,41] (fun x _=>?_) zL8
 refine A [2,0,5,3,80,92,8,67,61,43] (fun s _=>?_) zG5 [(5,2320)] [2320]
 refine A [2,12,0,6,9,105,35] ?_
 refine zfM (T:=tab) zAZ j.Nodes U U U U U U U U fun m _=>A [77,13] ?_
 refine lw (zGA fu b j a m) [2,4,6,8,41,42] [6,4] (fun (l,c,e,f,g,h)=>[(43,Z l)]) (fun (l,c,e,f,g,h)=>[(2320,.arr 53 4 (c.map zBn)),(8,.box 94 ([.sl 10 false (b.Forest.Nodes.map zAZ),Z b.Forest.Most,.own 2320]++zI8 b.Desk++[.sl 1 false (e.map zDD),.sl 1 false (f.map zA1),.sl 1 false (g.map zAB),Y h,.sl 3 false (b.Tasks.map zJe),.sl 2 false (b.Builds.map zJd),.sl 5 false (b.Classes.map zCA)]))]) fu (0,s,b.Line.Todos,b.Line.Stack,b.Line.Back,b.Line.Busy) U U ?_
 rintro u ⟨l,c,e,f,g,h⟩
 refine A [75] ?_
 refine zAD U ?_ ?_
 ·refine A [72,9,36] fun t _=>?_
  refine A [1,31,10,12,0,6,52,8,5,2,4,6,8,41,42,43,10,10,2320,8,6,4,53,10,0,1,3,0,8,24,63,127,255,511,204,54,1,1,100,102] (fun i _=>?_) zOT
  refine vS [102] [104,105] [52] U U (pl ([i].map zBn) 52 U U U U U U (pyq U)) U U (vU [17,98,104,105,4641] [106,98,4641,17] [2320] U U (pa zBn c ([i]:List State) U U U U U U U U (zSl _) U U U (pyq U)) U U fun _ _=>A [202,50,4,1,17,106,110,4641,17,79,14,3,41] (fun d _=>?_) zPm)
  refine A [2,12,11,94] fun k _=>?_
  exact A [89] (tx (k,(c++[i]),d.Todos,d.Stack,d.Back,d.Busy))
 ·refine A [86,93,12,0,9,111,33,2320,41] (fun n _=>?_) zU4
  refine A [43] (fun o _=>?_) zFr [(900000,8)]
  refine A [0,9,110,41] (fun p _=>?_) zUu
  refine A [105,0,93,12,0,80,43] (fun q _=>?_) zFr [(900000,8)]
  exact A [0,61,92,8]
def zDe (fu:Nat) (r4:zBY×zAN) (b:World×Int):Nat->Int×(List Due)->Option (Int×zAN)
 | 0,_=>none
 | k1+1,(n6,l7)=>cnd (decide (n6<(r4.1.f.Nodes.length:Int))) (bnd (zJN fu r4.1.f n6 b.1.Desk) fun d=>cnd (d != (-1)) (bnd (zDI 104 (l7.length+([(⟨n6,(⟨9,d,[],false,false,[],[],0,0,false⟩:Todo)⟩:Due)]:List Due).length)) fun _=>bnd (rng .i64 (n6+1)) fun e=>(zDe fu r4 b k1) (e,(l7++[(⟨n6,(⟨9,d,[],false,false,[],[],0,0,false⟩:Todo)⟩:Due)]))) (bnd (rng .i64 (n6+1)) fun c=>(zDe fu r4 b k1) (c,l7))) (bnd (zBX fu l7 (⟨b.1,r4.2.node⟩:zAN)) fun a=>some (a.1,a.2))
def zHE (fu:Nat) (a:Int×Bool×zAN) (r4:zBY×zAN) (b:World×Int) (c:Unit):Option (Int×zAN):=(zDe fu r4 b) fu ((a.2.2.World.Forest.Nodes.length:Int),[])
def zDQ (fu:Nat) (d:Op) (g:zAN):Option (Int×zAN):=bnd (zEo fu d g) fun c=>cnd c.2.1 (some (c.1,c.2.2)) (bnd (zED fu d c.2.2) fun a=>cnd (a.1.e != 0) (some (a.1.e,a.2)) (bnd (zKF fu a.2.World a.1.f a.1.notes) fun b=>cnd (b.2 != 0) (some (b.2,(⟨b.1,a.2.node⟩:zAN))) (cnd (d.Kind != 2) (cnd (d.Kind != 12) (some (b.2,(⟨b.1,a.2.node⟩:zAN))) ((zHE fu c a b) ())) ((zHE fu c a b) ()))))
theorem zQx {fu:Nat} {k:Op} {i:zAN}:FF (zDQ fu k i) 38 [.loc 900000 0,.agg (cOp k)] [(900000,.box 99 (zB3 i))] [900000] (fun r=>Z r.1) fun r=>[(900000,.box 99 (zB3 r.2))]:=by
 refine fcI Tryz.func38 U (A [9,30,3,57,6,61,43] (fun f _=>?_) zQB [(900000,900000)])
 refine A [105,0,58,5,2,62,8,67,9,106,77,61,43] (fun d _=>?_) zNm [(900000,900000)]
 refine A [31,8,12,0,6,93,0,5,2,93,74,68,52,4,3,0,3,7,8,8,900000,3,53,15,0,1,3,7,0,16,0,64,255,511,1023,1023,0,6143,16383,208,54,3,1,82,86,90,92] (fun g _=>?_) zTn
 refine vq 3 U (by kernel_rfl) (vS [] [18,19] [9] U U (zFf (T:=tab) 9 U U U U U U U U U (pyq U)) U U (A [50,3,1,18,19,94,19,201,79,76,12,0,6,9] ?_))
 refine zM7 (zHE fu f d g) (fun (_:Unit)=>[(0,.loc 900000 0),(7,Z (f.2.2.World.Forest.Nodes.length:Int)),(8,.loc 8 0)]) (fun (_:Unit)=>[(8,.box 165 (zMu d.1)),(900000,.box 99 (zBe g.1++[Z d.2.node]))]) ?_ fun c=>?_
 ·rintro _
  refine A [7,75,62,13,56,1092,171,11,11] ?_
  refine lw (zDe fu d g) [0,8,11] [8,900000] (fun (b,a)=>[(12,Z b)]) (fun (b,a)=>[(1092,.arr 171 11 (a.map zJF))]) fu ((f.2.2.World.Forest.Nodes.length:Int),[]) U U ?_
  rintro n ⟨b,a⟩
  refine A [6,76,77] ?_
  refine zAD U ?_ ?_
  ·refine A [72,6,52,4,3,0,8,11,12,1092,8,900000,53,10,0,1,0,0,8,24,56,120,255,511,208,54,3,1,152,154,164,166] (fun h _=>?_) zPk
   refine A [201,79,62] ?_
   refine zAD U ?_ ?_
   ·refine A [14,3,20,20] ?_
    refine pl ([(⟨b,(⟨9,h,[],false,false,[],[],0,0,false⟩:Todo)⟩:Due)].map zJF) 91 U U U U U U (pa zJF a ([(⟨b,(⟨9,h,[],false,false,[],[],0,0,false⟩:Todo)⟩:Due)]:List Due) U U U U U U U U (zQc _) U U U (A [1,11,70,1,16] fun l _=>?_))
    exact A [89] (tx (l,(a++[(⟨b,(⟨9,h,[],false,false,[],[],0,0,false⟩:Todo)⟩:Due)])))
   ·refine A [4,70,1,16] fun e _=>?_
    exact A [89] (tx (e,a))
  ·refine A [86,61,33,1092,43] (fun m _=>?_) zE2 [(900000,900000)]
   exact A [57,8]
 ·refine A [3,26,55,4,109,65,62,8,104] ?_
  refine zAV (j:=59) U ?_ ?_
  ·exact A [105,0,5,2,62,8,4,45] (c ())
  ·exact A [105,11,24,4,45] (c ())
def zKf (fu:Nat) (b:World) (c:Op) (e:Bool):Option (World×Int×Int):=cnd e (some (b,(-1),1)) (bnd (zEn fu c.Kind) fun d=>cnd (!d) (some (b,(-1),7)) (bnd (zDQ fu c (⟨b,(-1)⟩:zAN)) fun a=>cnd (a.1 != 0) (some (b,(-1),a.1)) (some (a.2.World,a.2.node,0))))
def zGV (fu:Nat) (b:World) (a:Op):Option (World×Int×Int):=bnd (zQW fu a (-1) (b.Forest.Nodes.length:Int)) fun c=>cnd (c.2 != 0) ((zKf fu b a) (c.2 != 0)) (cnd (!(eqOp c.1 a)) ((zKf fu b a) (!(eqOp c.1 a))) (bnd (zF9 fu b) fun d=>(zKf fu b a) (!d)))
theorem zJE {fu:Nat} {c:World} {b:Op}:DD (zGV fu c b) 11 [.agg (zBe c),.agg (cOp b)] fun r=>.tup [.agg (zBe r.1),Z r.2.1,Z r.2.2]:=by
 refine fcI Tryz.func11 U (A [73,30,3,31,4,2,0,76,35,41] (fun d _=>?_) zZ5)
 refine A [3,31,7,92,6,13,6,93,0] ?_
 refine jw (zKf fu c b) [2,3,4] [4,3,2] (fun e=>[(20,Y e)]) (fun _=>[]) U U ?_ fun a=>?_
 ·rintro e
  refine A [7,5,4,80,12,2,74,99] (fun g _=>?_) zIl
  refine A [2,0,5,4,80,12,2,74,4,69,80,20,30,38,57,6,61,43] (fun h _=>?_) zQx [(900000,38)]
  exact A [57,62,5,4,61,12,2,74,68,52,2,2,4,9,38,4,60,50,3,1,8,9,98,9,202,79,8]
 ·refine zAD U ?_ ?_
  ·exact A [4,45] (a (d.2 != 0))
  ·refine A [61] ?_
   refine po_ne eqf_41 U U U U U U U (A [57] ?_)
   refine zAD U ?_ ?_
   ·exact A [4,45] (a (!(eqOp d.1 b)))
   ·refine A [14,1,41] (fun f _=>?_) zKS
    exact A [2,11,45] (a (!f))
def zGo (fu:Nat):Option Bool:=bnd (zRG fu [(⟨false,[],[],[],[(⟨1,[]⟩:Hook)]⟩:Class)] 5) fun c=>bnd (zGV fu ({c.1 with Desk:=({c.1.Desk with Defs:=[(⟨[120,45,97],[120,45,97],0⟩:Def)]}:Desk)}:World) (⟨2,0,0,0,[88,45,97],[],false⟩:Op)) fun b=>bnd (zGV fu b.1 (⟨6,1,0,(-1),[],[],false⟩:Op)) fun a=>bnd (zGV fu a.1 (⟨6,2,0,(-1),[],[],false⟩:Op)) fun f=>bnd (zGV fu a.1 (⟨17,0,0,0,[120,45,98],[],false⟩:Op)) fun e=>bnd (zGV fu a.1 (⟨25,0,0,0,[],[],false⟩:Op)) fun g=>cnd (c.2==0) (cnd (b.2.2==0) (cnd (a.2.2==0) (cnd (f.2.2==1) (cnd (e.2.2==0) (cnd (g.2.2==7) (cnd (b.2.1==1) (cnd (e.2.1==0) (bnd (idx b.1.Line.Todos 1) fun i=>cnd ((i.length:Int)==1) (bnd (idx a.1.Line.Todos 1) fun j=>cnd ((j.length:Int)==2) (bnd (zEn fu 1) fun h=>cnd (!h) (bnd (zEn fu 2) fun d=>some d) (some false)) (some false)) (some false)) (some false)) (some false)) (some false)) (some false)) (some false)) (some false)) (some false)) (some false)
theorem zNF {fu:Nat}:DD (zGo fu) 8 [] fun r=>Y r:=by
 refine fcI Tryz.func8 U (A [58,9,20] ?_)
 refine zbv 19 U (.agg (ds:=[Z 1,.sl 7 false ([].map cOp)]) ⟨.rfl,.nil,trivial⟩) (pl ([(⟨1,[]⟩:Hook)].map zKT) 20 U U U U U U (A [20,33,20] ?_))
 refine zbv 21 U (.agg (ds:=[Y false,.sl 1 false ([].map zSK),.sl 7 false ([].map cOp),.sl 7 false ([].map cOp),.sl 2 false ([(⟨1,[]⟩:Hook)].map zKT)]) ⟨.rfl,.nil,.nil,.nil,.rfl,trivial⟩) (pl ([(⟨false,[],[],[],[(⟨1,[]⟩:Hook)]⟩:Class)].map zCA) 22 U U U U U U (A [33,22,41] (fun b _=>?_) zU5))
 refine A [3,31,1,92,9,20] ?_
 refine pl ([(⟨[120,45,97],[120,45,97],0⟩:Def)].map zRM) 27 U U U U U U (A [2,12,0,80,20,33,27,41] (fun c _=>?_) zJE)
 refine A [104,31,3,12,2,0,80,20,41] (fun d _=>?_) zJE
 refine A [104,31,6,12,2,0,80,20,41] (fun e _=>?_) zJE
 refine A [104,31,9,12,2,0,80,20,41] (fun f _=>?_) zJE
 refine A [104,31,12,12,2,0,80,20,41] (fun g _=>?_) zJE
 refine A [104,31,15,12,2,0,93,27,67,2,153,74,104,27,71,2,149,74,104,27,75,2,145,74,104,27,79,2,141,74,104,27,83,2,137,74,104,27,87,2,133,74,104,27,91,2,129,74,104,27,95,2,125,74,3,36] fun i _=>?_
 refine A [1,35,3,27,104,2,116,74,3,36] fun j _=>?_
 refine A [1,35,3,27,113,2,107,74,41] (fun h _=>?_) zIl
 refine A [3,27,117,2,3,74,41] (fun a _=>?_) zIl
 exact A [2,74]
def zCd (a:Forest):Nat->Int->Option Bool
 | 0,_=>none
 | k1+1,i2=>cnd (decide (i2<(a.Nodes.length:Int))) (bnd (idx a.Nodes i2) fun c=>cnd (decide ((c.Kids.length:Int)>60)) (some false) (bnd (idx a.Nodes i2) fun d=>cnd (decide ((d.Attrs.length:Int)>60)) (some false) (bnd (idx a.Nodes i2) fun e=>cnd (decide ((e.Name.length:Int)>300)) (some false) (bnd (rng .i64 (i2+1)) fun b=>(zCd a k1) b)))) (some true)
def zE7 (fu:Nat) (a:Forest):Option Bool:=cnd (decide ((a.Nodes.length:Int)>60)) (some false) ((zCd a) fu 0)
theorem zNG {fu:Nat} {a:Forest}:DD (zE7 fu a) 31 [.agg (zAE a)] fun r=>Y r:=by
 refine fcI Tryz.func31 U (A [9,30,1,57,6,61,77,5,1,59,68,58,13] ?_)
 refine lw (zCd a) [1] [1] (fun b=>[(3,Z b)]) (fun _=>[]) fu 0 U U ?_
 rintro d b
 refine A [6,93,77,10,2,86,59,72,93,36] fun e _=>?_
 refine A [2,35,2,26,23,2,119,83,3,36] fun f _=>?_
 refine A [2,35,3,26,33,2,109,83,3,36] fun g _=>?_
 refine A [105,0,5,1,59,4,70,1,16] fun c _=>?_
 exact A [89] (tx c)
def zBt (a:Desk):Nat->Int->Option Bool
 | 0,_=>none
 | k2+1,i6=>cnd (decide (i6<(a.Waits.length:Int))) (bnd (idx a.Waits i6) fun c=>cnd (decide ((c.Name.length:Int)>300)) (some false) (bnd (rng .i64 (i6+1)) fun b=>(zBt a k2) b)) (some true)
def zCe (fu:Nat) (a:Desk):Nat->Int->Option Bool
 | 0,_=>none
 | k1+1,i2=>cnd (decide (i2<(a.Defs.length:Int))) (bnd (idx a.Defs i2) fun c=>cnd (decide ((c.Name.length:Int)>300)) (some false) (bnd (idx a.Defs i2) fun d=>cnd (decide ((d.Local.length:Int)>300)) (some false) (bnd (rng .i64 (i2+1)) fun b=>(zCe fu a k1) b))) ((zBt a) fu 0)
def zE8 (fu:Nat) (a:Desk):Option Bool:=cnd (decide ((a.Defs.length:Int)>40)) (some false) (cnd (decide ((a.Waits.length:Int)>40)) (some false) ((zCe fu a) fu 0))
theorem zNH {fu:Nat} {a:Desk}:DD (zE8 fu a) 32 [.agg (zI8 a)] fun r=>Y r:=by
 refine fcI Tryz.func32 U (A [9,30,1,57,6,61,35,2,26,9,2,105,83,2,35,2,0,5,1,59,68,58,13] ?_)
 refine lw (zCe fu a) [1] [1] (fun b=>[(3,Z b)]) (fun _=>[]) fu 0 U U ?_
 rintro f b
 refine A [6,93,77] ?_
 refine zAD U ?_ ?_
 ·refine A [72,93,36] fun h _=>?_
  refine A [105,26,30,2,109,83,3,36] fun i _=>?_
  refine A [105,0,5,1,59,4,70,1,16] fun d _=>?_
  exact A [89] (tx d)
 ·refine A [86,6,58,13] ?_
  refine lw (zBt a) [1] [1] (fun c=>[(4,Z c)]) (fun _=>[]) fu 0 U U ?_
  rintro g c
  refine A [6,93,77,10,2,86,59,72,93,36] fun j _=>?_
  refine A [104,0,5,1,59,4,70,1,16] fun e _=>?_
  exact A [89] (tx e)
def zBu (l1:Line):Nat->Int->Option Bool
 | 0,_=>none
 | k2+1,i5=>cnd (decide (i5<(l1.Stack.length:Int))) (bnd (idx l1.Stack i5) fun b=>cnd (decide ((b.length:Int)>60)) (some false) (bnd (rng .i64 (i5+1)) fun a=>(zBu l1 k2) a)) (some true)
def zCf (fu:Nat) (l1:Line):Nat->Int->Option Bool
 | 0,_=>none
 | k1+1,i2=>cnd (decide (i2<(l1.Todos.length:Int))) (bnd (idx l1.Todos i2) fun b=>cnd (decide ((b.length:Int)>60)) (some false) (bnd (rng .i64 (i2+1)) fun a=>(zCf fu l1 k1) a)) ((zBu l1) fu 0)
def zE9 (fu:Nat) (l1:Line):Option Bool:=cnd (decide ((l1.Todos.length:Int)>60)) (some false) (cnd (decide ((l1.Stack.length:Int)>30)) (some false) (cnd (decide ((l1.Back.length:Int)>60)) (some false) ((zCf fu l1) fu 0)))
theorem zNI {fu:Nat} {l1:Line}:DD (zE9 fu l1) 33 [.agg (zRP l1)] fun r=>Y r:=by
 refine fcI Tryz.func33 U (A [9,30,1,57,6,61,35,2,26,9,2,111,83,2,35,3,26,15,2,105,83,2,35,2,0,5,1,59,68,58,13] ?_)
 refine lw (zCf fu l1) [1] [1] (fun a=>[(3,Z a)]) (fun _=>[]) fu 0 U U ?_
 rintro e a
 refine A [6,93,77] ?_
 refine zAD U ?_ ?_
 ·refine A [72,93,36] fun g _=>?_
  refine A [1,77,5,1,59,4,70,1,16] fun c _=>?_
  exact A [89] (tx c)
 ·refine A [86,6,58,13] ?_
  refine lw (zBu l1) [1] [1] (fun b=>[(4,Z b)]) (fun _=>[]) fu 0 U U ?_
  rintro f b
  refine A [6,93,77,10,2,86,59,72,93,36] fun h _=>?_
  refine A [1,77,5,1,59,4,70,1,16] fun d _=>?_
  exact A [89] (tx d)
def zCg (c:Int) (b:Class) (a:Int->Option Bool):Nat->Int->Option Bool
 | 0,_=>none
 | k2+1,k4=>cnd (decide (k4<(b.Hooks.length:Int))) (bnd (idx b.Hooks k4) fun f=>cnd (decide ((f.Do.length:Int)>80)) (some false) (bnd (rng .i64 (k4+1)) fun d=>(zCg c b a k2) d)) (bnd (rng .i64 (c+1)) fun e=>a e)
def zA3 (fu:Nat) (a:List Class):Nat->Int->Option Bool
 | 0,_=>none
 | k1+1,i2=>cnd (decide (i2<(a.length:Int))) (bnd (idx a i2) fun b=>cnd (decide ((b.Watch.length:Int)>20)) (some false) (cnd (decide ((b.Hooks.length:Int)>20)) (some false) (cnd (decide ((b.Peek.length:Int)>80)) (some false) (cnd (decide ((b.Make.length:Int)>80)) (some false) ((zCg i2 b (zA3 fu a k1)) fu 0))))) (some true)
def zDh (fu:Nat) (a:List Class):Option Bool:=cnd (decide ((a.length:Int)>14)) (some false) ((zA3 fu a) fu 0)
theorem zNJ {fu:Nat} {a:List Class}:DD (zDh fu a) 34 [.sl 5 false (a.map zCA)] fun r=>Y r:=by
 refine fcI Tryz.func34 U (A [75,80,77,5,1,59,68,58,13] ?_)
 refine lw (zA3 fu a) [0] [] (fun b=>[(3,Z b)]) (fun _=>[]) fu 0 U U ?_
 rintro e b
 refine A [6,61,77,10,2,86,59,72,61,36] fun f _=>?_
 refine A [1,31,4,12,0,6,61,35,2,26,23,2,117,83,2,35,3,26,29,2,111,83,2,35,3,26,35,2,105,83,2,35,2,0,5,1,59,67,58,13] ?_
 refine lw (zCg b f (zA3 fu a e)) [0,3,4] [4] (fun k4=>[(5,Z k4)]) (fun _=>[]) fu 0 U U ?_
 rintro g k4
 refine A [6,93,77] ?_
 refine zAD U ?_ ?_
 ·refine A [72,93,36] fun h _=>?_
  refine A [2,77,5,1,59,4,70,1,16] fun c _=>?_
  exact A [89] (tx c)
 ·refine A [17,70,1,16] fun d _=>?_
  exact A [89] (tx d)
def zCh (l1:List Class) (b:Int) (a:Int->Option Bool):Nat->Int->Option Bool
 | 0,_=>none
 | k2+1,k3=>bnd (idx l1 b) fun e=>cnd (decide (k3<(e.Watch.length:Int))) (bnd (idx l1 b) fun f=>bnd (idx f.Watch k3) fun g=>cnd (decide ((g.length:Int)>300)) (some false) (bnd (rng .i64 (k3+1)) fun c=>(zCh l1 b a k2) c)) (bnd (rng .i64 (b+1)) fun d=>a d)
def zA4 (fu:Nat) (l1:List Class):Nat->Int->Option Bool
 | 0,_=>none
 | k1+1,i2=>cnd (decide (i2<(l1.length:Int))) ((zCh l1 i2 (zA4 fu l1 k1)) fu 0) (some true)
def zFB (fu:Nat) (l1:List Class):Option Bool:=(zA4 fu l1) fu 0
theorem zNL {fu:Nat} {l1:List Class}:DD (zFB fu l1) 35 [.sl 5 false (l1.map zCA)] fun r=>Y r:=by
 refine fcI Tryz.func35 U (A [75,58,13] ?_)
 refine lw (zA4 fu l1) [0] [] (fun a=>[(3,Z a)]) (fun _=>[]) fu 0 U U ?_
 rintro e a
 refine A [6,61,77,10,2,86,59,72,58,13] ?_
 refine lw (zCh l1 a (zA4 fu l1 e)) [0,3] [] (fun b=>[(4,Z b)]) (fun _=>[]) fu 0 U U ?_
 rintro f b
 refine A [6,93,36] fun g _=>?_
 refine A [2,77] ?_
 refine zAD U ?_ ?_
 ·refine A [72,61,36] fun h _=>?_
  refine A [3,36] fun i _=>?_
  refine A [3,0,5,1,59,4,70,1,16] fun c _=>?_
  exact A [89] (tx c)
 ·refine A [17,70,1,16] fun d _=>?_
  exact A [89] (tx d)
def zFA (fu:Nat) (a:World):Option Bool:=bnd (zE7 fu a.Forest) fun b=>cnd b (cnd (decide ((a.States.length:Int)<=60)) (bnd (zE8 fu a.Desk) fun c=>cnd c (bnd (zE9 fu a.Line) fun d=>cnd d (cnd (decide ((a.Tasks.length:Int)<=60)) (cnd (decide ((a.Builds.length:Int)<=60)) (bnd (zDh fu a.Classes) fun e=>cnd e (bnd (zFB fu a.Classes) fun f=>some f) (some false)) (some false)) (some false)) (some false)) (some false)) (some false)) (some false)
theorem zNK {fu:Nat} {a:World}:DD (zFA fu a) 9 [.agg (zBe a)] fun r=>Y r:=by
 refine fcI Tryz.func9 U (A [9,30,1,57,99] (fun b _=>?_) zNG)
 refine A [1,27,6,2,138,74,2,35,3,27,12,2,132,74,2,41] (fun c _=>?_) zNH
 refine A [2,27,17,2,127,74,2,41] (fun d _=>?_) zNI
 refine A [2,27,22,2,122,74,2,35,3,27,28,2,116,74,2,35,3,27,34,2,110,74,2,41] (fun e _=>?_) zNJ
 refine A [2,27,39,2,105,74,2,41] (fun f _=>?_) zNL
 exact A [2,74]
def zCC (l1:List Todo) (a:Int):Nat->Int×Int->Option Int
 | 0,_=>none
 | k1+1,(n4,i5)=>cnd (decide (i5<(l1.length:Int))) (bnd (idx l1 i5) fun e=>cnd (e.Kind==a) (bnd (rng .i64 (n4+1)) fun b=>bnd (rng .i64 (i5+1)) fun c=>(zCC l1 a k1) (b,c)) (bnd (rng .i64 (i5+1)) fun d=>(zCC l1 a k1) (n4,d))) (some n4)
def zEF (fu:Nat) (l1:List Todo) (a b:Int):Option Int:=(zCC l1 b) fu (0,a)
theorem zJP {fu:Nat} {l1:List Todo} {a b:Int}:DD (zEF fu l1 a b) 23 [.sl 10 false (l1.map zLg),Z a,Z b] fun r=>Z r:=by
 refine fcI Tryz.func23 U (A [58,75,62,13] ?_)
 refine lw (zCC l1 b) [0,2] [] (fun (c,d)=>[(7,Z c),(8,Z d)]) (fun _=>[]) fu (0,a) U U ?_
 rintro h ⟨c,d⟩
 refine A [6,61,77,10,3,86,62,8,72,61,36] fun i _=>?_
 refine A [104,0] ?_
 refine zAD U ?_ ?_
 ·refine A [14,1,16] fun e _=>?_
  refine A [1,11,70,1,16] fun f _=>?_
  exact A [89] (tx (e,f))
 ·refine A [4,70,1,16] fun g _=>?_
  exact A [89] (tx (c,g))
def zCF (j:Int) (b:Bool) (r13 c:Int) (d:Int->Option Bool) (a:Int):Option Bool:=cnd b (bnd (rng .i64 (a - 1)) fun e=>bnd (rng .i64 (r13 - c)) fun f=>cnd (f != e) (some false) (bnd (rng .i64 (j+1)) fun h=>d h)) (bnd (rng .i64 (r13 - c)) fun g=>cnd (g != a) (some false) (bnd (rng .i64 (j+1)) fun i=>d i))
def zCE (fu:Nat) (f:World×Int×Int) (b:Int) (a:Int->Option Bool) (t:Int×Bool):Option Bool:=match t with
 | (from10,was11)=>bnd (idx f.1.Line.Todos b) fun p=>bnd (zEF fu p from10 1) fun c=>bnd (idx f.1.Line.Todos b) fun q=>bnd (zEF fu q from10 2) fun d=>bnd (idx f.1.States b) fun r=>cnd (r.Phase != 3) (bnd (rng .i64 (c+d)) fun g=>cnd (decide (g>0)) (some false) (bnd (rng .i64 (b+1)) fun i=>a i)) (bnd (idx f.1.States b) fun s=>bnd (zF8 fu s f.1.Desk f.1.Classes) fun e=>cnd (!e.2) (bnd (rng .i64 (b+1)) fun j=>a j) (bnd (zEQ fu e.1 1) fun m=>cnd (!m) (bnd (rng .i64 (b+1)) fun k=>a k) (bnd (zEQ fu e.1 2) fun n=>cnd (!n) (bnd (rng .i64 (b+1)) fun l=>a l) (bnd (zCH fu f.1.Forest b) fun o=>cnd o (bnd (rng .i64 (0+1)) fun h=>(zCF b was11 c d a) h) ((zCF b was11 c d a) 0)))))
def zAR (fu:Nat) (b:World) (a:World×Int×Int):Nat->Int->Option Bool
 | 0,_=>none
 | k1+1,n7=>cnd (decide (n7<(a.1.States.length:Int))) (cnd (decide (n7<(b.States.length:Int))) (bnd (idx b.Line.Todos n7) fun d=>bnd (zCH fu b.Forest n7) fun c=>(zCE fu a n7 (zAR fu b a k1)) ((d.length:Int),c)) ((zCE fu a n7 (zAR fu b a k1)) (0,false))) (some true)
def zBo (fu:Nat) (a:World) (b:Op):Option Bool:=bnd (zGo fu) fun d=>cnd (!d) (some false) (bnd (zFA fu a) fun e=>cnd (!e) (some true) (cnd (decide ((b.S.length:Int)>300)) (some true) (cnd (decide ((b.T.length:Int)>300)) (some true) (bnd (zF9 fu a) fun f=>cnd (!f) (some true) (bnd (zGV fu a b) fun c=>cnd (c.2.2 != 0) (some true) ((zAR fu a c) fu 0))))))
theorem zKg {fu:Nat} {e:World} {y:Op}:DD (zBo fu e y) 5 [.agg (zBe e),.agg (cOp y)] fun r=>Y r:=by
 refine fcI Tryz.func5 U (A [73,30,3,57,6,9] ?_)
 refine zKa (enc:=fun (z:Bool)=>Y z) (qs:=[]) zNF U U trivial (fun _=>U) call8 U U fun z _=>A [57,5,1,59,68,80,41] (fun L _=>?_) zNK
 refine A [2,26,22,2,116,83,106,26,28,2,110,83,106,26,34,2,104,83,1,41] (fun M _=>?_) zKS
 refine A [2,0,5,1,59,67,99] (fun d _=>?_) zJE
 refine A [104,31,5,12,2,0,6,62,5,1,59,68,58,13] ?_
 refine lw (zAR fu e d) [2,5] [5,2] (fun h=>[(8,Z h)]) (fun _=>[]) fu 0 U U ?_
 rintro x h
 refine A [6,93,77,10,2,86,59,72,62,6,93,77] ?_
 refine jw (zCE fu d h (zAR fu e d x)) [2,5,8] [5,2] (fun (c,b)=>[(9,Z c),(10,Y b)]) (fun _=>[]) U U ?_ fun f=>?_
 ·rintro ⟨c,b⟩
  refine A [7,6,52,5,2,2,5,8,9,10,5,2,53,18,0,1,3,0,15,31,0,127,0,256,768,0,3840,7936,0,32767,65535,131071,204] ?_
  refine vT [146,148] [150] [] U U (zE1 (T:=tab) zDD d.1.Line.Todos U U U U U U U fun t _=>pzq U) (fun _=>U) (fun _=>U) fun t _=>A [202,54,2,1,152,154,156] (fun q _=>?_) zJP
  refine vq 4 U (by kernel_rfl) (vT [162,164] [166] [] U U (zE1 (T:=tab) zDD d.1.Line.Todos U U U U U U U fun u _=>pzq U) (fun _=>U) (fun _=>U) fun u _=>A [202,54,2,1,168,170,172] (fun s _=>?_) zJP)
  refine A [202,79,6,93,36] fun K _=>?_
  refine A [3,0] ?_
  refine zAD U ?_ ?_
  ·refine A [6,61,16] fun B _=>?_
   refine A [57,5,1,59,67,86,14,1,16] fun k _=>?_
   exact A [89] (tx k)
  ·refine A [68,52,6,2,2,5,8,10,11,12,5,2,53,16,0,1,0,7,15,0,32,0,128,511,1023,2047,2047,0,12287,32767,203] ?_
   refine vT [200,202] [204] [] U U (zE1 (T:=tab) zBn d.1.States U U U U U U U fun v _=>pzq U) (fun _=>U) (fun _=>U) fun v _=>A [205,54,3,1,206,210,214,216] (fun F _=>?_) zKR
   refine vq 3 U (by kernel_rfl) (vS [] [26,27] [13] U U (zFf (T:=tab) 13 U U U U U U U U U (pyq U)) U U (A [50,3,1,26,27,218,27,201,79,6,93] ?_))
   refine zAV (j:=113) U ?_ ?_
   ·refine A [109,65,86,14,1,16] fun l _=>?_
    exact A [89] (tx l)
   ·refine A [1,41] (fun G _=>?_) zGa
    refine pq 3 U (zAV (j:=118) U ?_ ?_)
    ·refine A [104,65,86,14,1,16] fun m _=>?_
     exact A [89] (tx m)
    ·refine A [1,41] (fun H _=>?_) zGa
     refine A [2,0] ?_
     refine zAD U ?_ ?_
     ·refine A [86,14,1,16] fun n _=>?_
      exact A [89] (tx n)
     ·refine A [67,93,41] (fun I _=>?_) zEK
      refine A [57,75,58] ?_
      refine jw (zCF h b q s (zAR fu e d x)) [2,5,8,10,11,12] [5,2] (fun a=>[(16,Z a)]) (fun _=>[]) U U ?_ fun g=>?_
      ·rintro a
       refine A [7,6,58] ?_
       refine zAD U ?_ ?_
       ·refine A [14,1,16] fun C _=>?_
        refine A [57,61,16] fun D _=>?_
        refine A [2,0,5,1,59,4,70,1,16] fun o _=>?_
        exact A [89] (tx o)
       ·refine A [67,61,16] fun E _=>?_
        refine A [2,0,5,1,59,4,70,1,16] fun p _=>?_
        exact A [89] (tx p)
      ·refine zAD U ?_ ?_
       ·refine A [14,1,16] fun i _=>?_
        exact A [1,11,45] (g i)
       ·exact A [4,45] (g 0)
 ·refine zAD U ?_ ?_
  ·refine A [52,3,2,2,5,8,5,2,53,13,0,1,3,0,15,31,63,0,128,0,896,2047,4095,204] ?_
   refine vT [124,126] [128] [] U U (zE1 (T:=tab) zDD e.Line.Todos U U U U U U U fun w _=>pzq U) (fun _=>U) (fun _=>U) fun w _=>vq 1 U (by kernel_rfl) (vS [130] [132] [] U U (zR6 (T:=tab) zLg w U U U U U U U U (pyq U)) U U (A [203,54,2,1,136,138,140] (fun J _=>?_) zEK))
   exact A [202,19,45] (f ((w.length:Int),J))
  ·exact A [4,45] (f (0,false))
end Go.Proofs.YtmfbghpealgaiaaGreatDoor
