/- Models and proofs, printed by emit2.py. -/
import Derived.Test.YtmfbghpealgaiaaGreatDoorG4
namespace Go.Proofs.YtmfbghpealgaiaaGreatDoor
open Go Go.Pw
set_option maxRecDepth 100000
set_option maxHeartbeats 10000000
set_option linter.unusedVariables false
theorem zJp {fu:Nat} {b:List Int} {a:Forest}:FF (zAS fu (fun c=>zCv fu c a) b) 227 [.sl 1 false (b.map zAA),.fn (.func 287) [] [.loc 900000 0]] [(900000,.box 24 (zAC a))] [900000] (fun r=>Z r) fun _=>[(900000,.box 24 (zAC a))]:=by
 refine fcI Tryz.func227 U (A [75,80,77,13] ?_)
 refine lw (zAJ (fun c=>zCv fu c a) b) [0,1,7] [900000] (fun d=>[(8,Z d)]) (fun _=>[]) fu 0 U U ?_
 rintro f d
 refine A [75,10,2,86,59,72,62,93,36] fun h _=>?_
 refine A [1,44] (fun g _=>?_) zP0 [(900000,900000)]
 refine A [0,5,2,62,8,4,94] fun e _=>?_
 exact A [89] (tx e)
def zIt (fu:Nat) (a:Forest) (d:Int):Option Int:=bnd (idx a.Nodes d) fun c=>bnd (zAS fu (fun f=>zCv fu f a) c.Kids) fun b=>cnd (decide (b<0)) (some (-1)) (bnd (idx c.Kids b) fun e=>some e)
theorem zR4 {fu:Nat} {a:Forest} {b:Int}:DD (zIt fu a b) 283 [.agg (zAC a),Z b] fun r=>Z r:=by
 refine fcI Tryz.func283 U (A [73,57,93,36] fun d _=>?_)
 refine A [3,0,61,44] (fun c _=>?_) zJp [(900000,2)]
 refine A [57,6,62,5,1,59,67,61,36] fun e _=>?_
 exact A [2,74]
def zCQ (fu:Nat) (a:Forest):Nat->Int×Int->Option Bool
 | 0,_=>none
 | k1+1,(by8,p9)=>cnd (p9 != (-1)) (bnd (idx a.Nodes p9) fun b=>cnd (b.Name==([102,105,101,108,100,115,101,116]:Bs)) (bnd (zFe fu b) fun c=>cnd c (bnd (zIt fu a p9) fun d=>cnd (d != by8) (some true) (bnd (idx a.Nodes p9) fun e=>(zCQ fu a k1) (p9,e.Parent))) (bnd (idx a.Nodes p9) fun f=>(zCQ fu a k1) (p9,f.Parent))) (bnd (idx a.Nodes p9) fun g=>(zCQ fu a k1) (p9,g.Parent))) (some false)
def zIs (fu:Nat) (a:Forest) (b:Int):Option Bool:=bnd (idx a.Nodes b) fun d=>bnd (zFe fu d) fun c=>cnd c (bnd (idx a.Nodes b) fun e=>some (e.Kind==1)) (bnd (idx a.Nodes b) fun f=>cnd (f.Kind != 1) (some false) (bnd (idx a.Nodes b) fun g=>(zCQ fu a) fu (b,g.Parent)))
theorem zR3 {fu:Nat} {a:Forest} {g:Int}:DD (zIs fu a g) 264 [.agg (zAC a),Z g] fun r=>Y r:=by
 refine fcI Tryz.func264 U (A [73,57,6,93,36] fun o _=>?_)
 refine A [1,41] (fun n _=>?_) zLj
 refine ns (zAD U ?_ ?_)
 ·refine A [93,36] fun p _=>?_
  exact A [104,74]
 ·refine A [68,93,36] fun q _=>?_
  refine A [3,0,5,1,59,67,62,6,93,36] fun l _=>?_
  refine A [3,0,13] ?_
  refine lw (zCQ fu a) [2] [2] (fun (b,c)=>[(5,Z b),(6,Z c)]) (fun _=>[]) fu (g,l.Parent) U U ?_
  rintro m ⟨b,c⟩
  refine A [6,62,10,2,86,59,72,93,36] fun k _=>?_
  refine A [1,31,7,12,0,76] ?_
  refine zAT (j:=52) U ?_ ?_
  ·refine A [1,41] (fun h _=>?_) zLj
   refine pq 2 U (zAT (j:=56) U ?_ ?_)
   ·refine A [2,41] (fun i _=>?_) zR4
    refine A [3,0,5,1,59,4,69,52,2,1,2,6,2,53,9,0,0,2,0,14,30,62,1,255,204] ?_
    exact vT [78,80] [82] [] U U (zEu (T:=tab) zAV a.Nodes U U U U U U U fun d _=>pzq U) (fun _=>U) (fun _=>U) fun d _=>A [204,19,46] (tx (c,d.Parent))
   ·refine A [106,11,24,4,69,52,2,1,2,6,2,53,9,0,0,2,0,14,30,62,1,255,204] ?_
    exact vT [78,80] [82] [] U U (zEu (T:=tab) zAV a.Nodes U U U U U U U fun e _=>pzq U) (fun _=>U) (fun _=>U) fun e _=>A [204,19,46] (tx (c,e.Parent))
  ·refine A [110,11,24,4,69,52,2,1,2,6,2,53,9,0,0,2,0,14,30,62,1,255,204] ?_
   exact vT [78,80] [82] [] U U (zEu (T:=tab) zAV a.Nodes U U U U U U U fun f _=>pzq U) (fun _=>U) (fun _=>U) fun f _=>A [204,19,46] (tx (c,f.Parent))
def zG3 (fu:Nat) (a:Forest) (b:Int):Option Bool:=cnd (decide (b>=0)) (cnd (decide (b<(a.Nodes.length:Int))) (bnd (zAo fu a) fun c=>cnd c (bnd (zIs fu a b) fun d=>some d) (some false)) (some false)) (some false)
theorem zNQ {fu:Nat} {a:Forest} {b:Int}:DD (zG3 fu a b) 218 [.agg (zAC a),Z b] fun r=>Y r:=by
 refine fcI Tryz.func218 U (A [73,57,93,27,7,2,116,74,3,35,3,27,14,2,109,74,1,41] (fun c _=>?_) zA4)
 refine A [2,27,18,2,105,74,2,41] (fun d _=>?_) zR3
 exact A [2,74]
def zDO (fu:Nat) (e:Forest) (c:Unit×Bool×(List Node)×Int×(List Def)×(List Wait)×Int×Bool×(List Class)×(List State)×(List Due)) (h:List Int):Nat->Int×(List State)×(List Due)->Option ((List State)×(List Due))
 | 0,_=>none
 | k1+1,(t7,l8,l9)=>cnd (decide (t7<(h.length:Int))) (bnd (idx h t7) fun b=>bnd (zC0 fu t7 c.2.2.1 c.2.2.2.2.1 c.2.2.2.2.2.1 c.2.2.2.2.2.2.1 c.2.2.2.2.2.2.2.1 c.2.2.2.2.2.2.2.2.1 l8) fun d=>cnd (!d.2) (bnd (rng .i64 (t7+1)) fun j=>(zDO fu e c h k1) (j,l8,l9)) (bnd (idx l8 t7) fun a=>cnd (a.Owner != b) (bnd (zCf fu d.1 t7 (⟨5,0,[],false,false,[],[],a.Owner,b,false⟩:Todo) l9) fun i=>bnd (zG3 fu e t7) fun f=>cnd (!(f==({a with Owner:=b}:State).Barred)) (bnd (zCf fu d.1 t7 (⟨6,0,[],false,false,[],[],0,0,f⟩:Todo) i) fun o=>bnd (rng .i64 (t7+1)) fun k=>(zDO fu e c h k1) (k,((l8.set (t7).toNat ({a with Owner:=b}:State)).set (t7).toNat ({({a with Owner:=b}:State) with Barred:=f}:State)),o)) (bnd (rng .i64 (t7+1)) fun l=>(zDO fu e c h k1) (l,(l8.set (t7).toNat ({a with Owner:=b}:State)),i))) (bnd (zG3 fu e t7) fun g=>cnd (!(g==a.Barred)) (bnd (zCf fu d.1 t7 (⟨6,0,[],false,false,[],[],0,0,g⟩:Todo) l9) fun p=>bnd (rng .i64 (t7+1)) fun m=>(zDO fu e c h k1) (m,(l8.set (t7).toNat ({a with Barred:=g}:State)),p)) (bnd (rng .i64 (t7+1)) fun n=>(zDO fu e c h k1) (n,l8,l9))))) (some (l8,l9))
def zJD (fu:Nat) (d:Forest) (b:List State) (e:Desk) (a:List Class):Option ((List State)×(List Due)):=bnd (zHe fu d b e a) fun c=>cnd (!c.2.1) (some (c.2.2.2.2.2.2.2.2.2.1,[])) (bnd (zLE fu d) fun f=>(zDO fu d c f) fu (0,c.2.2.2.2.2.2.2.2.2.1,c.2.2.2.2.2.2.2.2.2.2))
theorem zUd {fu:Nat} {k:Forest} {e:List State} {w:Desk} {b:List Class}:DD (zJD fu k e w b) 148 [.agg (zAC k),.sl 4 false (e.map zBo),.agg (zIX w),.sl 5 false (b.map zB9)] fun r=>.tup [.sl 4 false (r.1.map zBo),.sl 11 false (r.2.map zI9)]:=by
 refine fcI Tryz.func148 U (A [9,30,4,30,6,2,0,76,43] (fun v _=>?_) zL6 [(17,2102400),(2130,2102401),(31708,2102402)] [2102400,2102401,2102402])
 refine A [105,0,6,62] ?_
 refine zAD U ?_ ?_
 ·refine A [9,106,0,34,2102401] ?_
  exact zHS 9 (q:=.sl 11 false ([].map zI9)) U .nil rN
 ·refine A [68,80,41] (fun y _=>?_) zUj
  refine A [77,13] ?_
  refine lw (zDO fu k v y) [4,10,34,35] [2102400,4] (fun (g,f,h)=>[(36,Z g)]) (fun (g,f,h)=>[(2102401,.arr 53 4 (f.map zBo)),(2102402,.arr 171 11 (h.map zI9))]) fu (0,v.2.2.2.2.2.2.2.2.2.1,v.2.2.2.2.2.2.2.2.2.2) U U ?_
  rintro z ⟨g,f,h⟩
  refine A [75,10,28,86,6,52,1,3,10,2102400,2102401,2102402,53,10,0,1,3,7,0,16,48,112,15,511,210,79,34,2102401,34,2102402,8,72,80,36] fun d _=>?_
  refine A [3,0,61,44] (fun x _=>?_) zGd [(900000,2102400),(900001,2102401),(900002,2102402)]
  refine A [3,31,14,92,6,62] ?_
  refine zAD U ?_ ?_
  ·refine A [86,14,16] fun l _=>?_
   exact A [89] (tx (l,f,h))
  ·refine A [67,9,105,38] fun a c=>?_
   refine A [57,6,93] ?_
   refine zAr (T:=tab) zBo f a (zAt c) U U U U U U U U (A [57,93,0] ?_)
   refine zAD U ?_ ?_
   ·refine A [76] ?_
    refine zCg (T:=tab) zBo f a ({a with Owner:=d}:State) (zAt c) U U U U U U U U U U U U U (A [0,14,105,20,43] (fun s _=>?_) zEh [(900000,2102400),(900001,2102401),(900002,2102402)] [2102402])
    refine A [0,99] (fun i _=>?_) zNQ
    refine A [57,76] ?_
    refine zAr (T:=tab) zBo (f.set (g).toNat ({a with Owner:=d}:State)) ({a with Owner:=d}:State) (zez (zAt c)) U U U U U U U U (A [57] ?_)
    refine zAD U ?_ ?_
    ·refine A [76] ?_
     refine zCg (T:=tab) zBo (f.set (g).toNat ({a with Owner:=d}:State)) ({a with Owner:=d}:State) ({({a with Owner:=d}:State) with Barred:=i}:State) (zez (zAt c)) U U U U U U U U U U U U U (A [0,14,104,20,43] (fun t _=>?_) zEh [(900000,2102400),(900001,2102401),(900002,2102402)] [2102402])
     refine A [11,94] fun m _=>?_
     exact A [89] (tx (m,((f.set (g).toNat ({a with Owner:=d}:State)).set (g).toNat ({({a with Owner:=d}:State) with Barred:=i}:State)),t))
    ·refine A [4,94] fun n _=>?_
     exact A [89] (tx (n,(f.set (g).toNat ({a with Owner:=d}:State)),s))
   ·refine A [67,99] (fun j _=>?_) zNQ
    refine A [57,76] ?_
    refine zAr (T:=tab) zBo f a (zAt c) U U U U U U U U (A [57] ?_)
    refine zAD U ?_ ?_
    ·refine A [76] ?_
     refine zCg (T:=tab) zBo f a ({a with Barred:=j}:State) (zAt c) U U U U U U U U U U U U U (A [0,14,104,20,43] (fun u _=>?_) zEh [(900000,2102400),(900001,2102401),(900002,2102402)] [2102402])
     refine A [11,94] fun o _=>?_
     exact A [89] (tx (o,(f.set (g).toNat ({a with Barred:=j}:State)),u))
    ·refine A [4,94] fun p _=>?_
     exact A [89] (tx (p,f,h))
def zF4 (fu:Nat) (g:World) (f:Forest) (a:List Note) (i:List Node):Nat->Int×(List State)×(List (List Todo))×(List (List Int))×(List Int)×Bool->Option (World×Int)
 | 0,_=>none
 | k1+1,(t9,l10,c11,c12,c13,c14)=>cnd (decide (t9<(i.length:Int))) (bnd (idx i t9) fun l=>bnd (zIW fu l) fun d=>bnd (zDE 32 (l10.length+([d]:List State).length)) fun _=>bnd (zJI fu (⟨c11,c12,c13,c14⟩:Line)) fun b=>bnd (rng .i64 (t9+1)) fun h=>(zF4 fu g f a i k1) (h,(l10++[d]),b.Todos,b.Stack,b.Back,b.Busy)) (bnd (zLQ fu f l10 g.Desk g.Classes a) fun j=>bnd (zBT fu j (⟨({g with Forest:=f,States:=l10,Line:=(⟨c11,c12,c13,c14⟩:Line)}:World)⟩:zAF)) fun c=>bnd (zJD fu f c.World.States c.World.Desk c.World.Classes) fun e=>bnd (zBT fu e.2 (⟨({c.World with States:=e.1}:World)⟩:zAF)) fun k=>some (k.World,0))
def zJ5 (fu:Nat) (a:World) (c:Forest) (b:List Note):Option (World×Int):=bnd (zCq fu (⟨a⟩:zAF)) fun e=>cnd (!e) (some (a,1)) (bnd (zAo fu c) fun f=>cnd (!f) (some (a,1)) (bnd (zEL fu (⟨a⟩:zAF) c) fun g=>cnd (!g) (some (a,1)) (bnd (zCS fu a.States) fun h=>bnd (piece c.Nodes (a.Forest.Nodes.length:Int) (c.Nodes.length:Int)) fun d=>(zF4 fu a c b d) fu (0,h,a.Line.Todos,a.Line.Stack,a.Line.Back,a.Line.Busy))))
theorem zTX {fu:Nat} {b:World} {j:Forest} {a:List Note}:DD (zJ5 fu b j a) 85 [.agg (zBY b),.agg (zAC j),.sl 9 false (a.map zBF)] fun r=>.tup [.agg (zBY r.1),Z r.2]:=by
 refine fcI Tryz.func85 U (A [9,30,3,30,4,31,6,57,80,20,31,8,12,0,6,80,41] (fun v _=>?_) zGH)
 refine A [2,26,18,5,110,65,80,92,8,1,41] (fun w _=>?_) zA4
 refine A [3,26,23,5,105,65,80,92,8,2,41] (fun x _=>?_) zLv
 refine A [2,0,5,3,80,92,8,67,61,43] (fun s _=>?_) zGv [(5,2320)] [2320]
 refine A [2,12,0,6,9,105,35] ?_
 refine zew (T:=tab) zAV j.Nodes U U U U U U U U fun m _=>A [77,13] ?_
 refine lw (zF4 fu b j a m) [2,4,6,8,41,42] [6,4] (fun (l,c,e,f,g,h)=>[(43,Z l)]) (fun (l,c,e,f,g,h)=>[(2320,.arr 53 4 (c.map zBo)),(8,.box 94 ([.sl 10 false (b.Forest.Nodes.map zAV),Z b.Forest.Most,.own 2320]++zIX b.Desk++[.sl 1 false (e.map zDK),.sl 1 false (f.map zAy),.sl 1 false (g.map zAA),Y h,.sl 3 false (b.Tasks.map zJW),.sl 2 false (b.Builds.map zJV),.sl 5 false (b.Classes.map zB9)]))]) fu (0,s,b.Line.Todos,b.Line.Stack,b.Line.Back,b.Line.Busy) U U ?_
 rintro u ⟨l,c,e,f,g,h⟩
 refine A [75] ?_
 refine zAD U ?_ ?_
 ·refine A [72,9,36] fun t _=>?_
  refine A [1,31,10,12,0,6,52,8,5,2,4,6,8,41,42,43,10,10,2320,8,6,4,53,10,0,1,3,0,8,24,63,127,255,511,204,54,1,1,100,102] (fun i _=>?_) zOJ
  refine vS [102] [104,105] [52] U U (pl ([i].map zBo) 52 U U U U U U (pyq U)) U U (vU [17,98,104,105,4641] [106,98,4641,17] [2320] U U (pa zBo c ([i]:List State) U U U U U U U U (zST _) U U U (pyq U)) U U fun _ _=>A [202,50,4,1,17,106,110,4641,17,79,14,3,41] (fun d _=>?_) zPc)
  refine A [2,12,11,94] fun k _=>?_
  exact A [89] (tx (k,(c++[i]),d.Todos,d.Stack,d.Back,d.Busy))
 ·refine A [86,93,12,0,9,111,33,2320,41] (fun n _=>?_) zUo
  refine A [43] (fun o _=>?_) zFo [(900000,8)]
  refine A [0,9,110,41] (fun p _=>?_) zUd
  refine A [105,0,93,12,0,80,43] (fun q _=>?_) zFo [(900000,8)]
  exact A [0,61,92,8]
def zDa (fu:Nat) (r4:zBV×zAK) (b:World×Int):Nat->Int×(List Due)->Option (Int×zAK)
 | 0,_=>none
 | k1+1,(n6,l7)=>cnd (decide (n6<(r4.1.f.Nodes.length:Int))) (bnd (zJF fu r4.1.f n6 b.1.Desk) fun d=>cnd (d != (-1)) (bnd (zDE 104 (l7.length+([(⟨n6,(⟨9,d,[],false,false,[],[],0,0,false⟩:Todo)⟩:Due)]:List Due).length)) fun _=>bnd (rng .i64 (n6+1)) fun e=>(zDa fu r4 b k1) (e,(l7++[(⟨n6,(⟨9,d,[],false,false,[],[],0,0,false⟩:Todo)⟩:Due)]))) (bnd (rng .i64 (n6+1)) fun c=>(zDa fu r4 b k1) (c,l7))) (bnd (zBU fu l7 (⟨b.1,r4.2.node⟩:zAK)) fun a=>some (a.1,a.2))
def zFf (fu:Nat) (a:Int×Bool×zAK) (r4:zBV×zAK) (b:World×Int) (c:Unit):Option (Int×zAK):=(zDa fu r4 b) fu ((a.2.2.World.Forest.Nodes.length:Int),[])
def zHz (fu:Nat) (d:Op) (g:zAK):Option (Int×zAK):=bnd (zEg fu d g) fun c=>cnd c.2.1 (some (c.1,c.2.2)) (bnd (zFX fu d c.2.2) fun a=>cnd (a.1.e != 0) (some (a.1.e,a.2)) (bnd (zJ5 fu a.2.World a.1.f a.1.notes) fun b=>cnd (b.2 != 0) (some (b.2,(⟨b.1,a.2.node⟩:zAK))) (cnd (d.Kind != 2) (cnd (d.Kind != 12) (some (b.2,(⟨b.1,a.2.node⟩:zAK))) ((zFf fu c a b) ())) ((zFf fu c a b) ()))))
theorem zQo {fu:Nat} {k:Op} {i:zAK}:FF (zHz fu k i) 38 [.loc 900000 0,.agg (cOp k)] [(900000,.box 99 (zB2 i))] [900000] (fun r=>Z r.1) fun r=>[(900000,.box 99 (zB2 r.2))]:=by
 refine fcI Tryz.func38 U (A [9,30,3,57,6,61,43] (fun f _=>?_) zP1 [(900000,900000)])
 refine A [105,0,58,5,2,62,8,67,9,106,77,61,43] (fun d _=>?_) zNd [(900000,900000)]
 refine A [31,8,12,0,6,93,0,5,2,93,74,68,52,4,3,0,3,7,8,8,900000,3,53,15,0,1,3,7,0,16,0,64,255,511,1023,1023,0,6143,16383,208,54,3,1,82,86,90,92] (fun g _=>?_) zTX
 refine vq 3 U (by kernel_rfl) (vS [] [18,19] [9] U U (zF9 (T:=tab) 9 U U U U U U U U U (pyq U)) U U (A [50,3,1,18,19,94,19,201,79,76,12,0,6,9] ?_))
 refine zMx (zFf fu f d g) (fun (_:Unit)=>[(0,.loc 900000 0),(7,Z (f.2.2.World.Forest.Nodes.length:Int)),(8,.loc 8 0)]) (fun (_:Unit)=>[(8,.box 165 (zMk d.1)),(900000,.box 99 (zBY g.1++[Z d.2.node]))]) ?_ fun c=>?_
 ·rintro _
  refine A [7,75,62,13,56,1092,171,11,11] ?_
  refine lw (zDa fu d g) [0,8,11] [8,900000] (fun (b,a)=>[(12,Z b)]) (fun (b,a)=>[(1092,.arr 171 11 (a.map zI9))]) fu ((f.2.2.World.Forest.Nodes.length:Int),[]) U U ?_
  rintro n ⟨b,a⟩
  refine A [6,76,77] ?_
  refine zAD U ?_ ?_
  ·refine A [72,6,52,4,3,0,8,11,12,1092,8,900000,53,10,0,1,0,0,8,24,56,120,255,511,208,54,3,1,152,154,164,166] (fun h _=>?_) zPa
   refine A [201,79,62] ?_
   refine zAD U ?_ ?_
   ·refine A [14,3,20,20] ?_
    refine pl ([(⟨b,(⟨9,h,[],false,false,[],[],0,0,false⟩:Todo)⟩:Due)].map zI9) 91 U U U U U U (pa zI9 a ([(⟨b,(⟨9,h,[],false,false,[],[],0,0,false⟩:Todo)⟩:Due)]:List Due) U U U U U U U U (zQU _) U U U (A [1,11,70,1,16] fun l _=>?_))
    exact A [89] (tx (l,(a++[(⟨b,(⟨9,h,[],false,false,[],[],0,0,false⟩:Todo)⟩:Due)])))
   ·refine A [4,70,1,16] fun e _=>?_
    exact A [89] (tx (e,a))
  ·refine A [86,61,33,1092,43] (fun m _=>?_) zEv [(900000,900000)]
   exact A [57,8]
 ·refine A [3,26,55,4,109,65,62,8,104] ?_
  refine zAT (j:=59) U ?_ ?_
  ·exact A [105,0,5,2,62,8,4,45] (c ())
  ·exact A [105,11,24,4,45] (c ())
def zKV (fu:Nat) (b:World) (c:Op) (e:Bool):Option (World×Int×Int):=cnd e (some (b,(-1),1)) (bnd (zEf fu c.Kind) fun d=>cnd (!d) (some (b,(-1),7)) (bnd (zHz fu c (⟨b,(-1)⟩:zAK)) fun a=>cnd (a.1 != 0) (some (b,(-1),a.1)) (some (a.2.World,a.2.node,0))))
def zG5 (fu:Nat) (b:World) (a:Op):Option (World×Int×Int):=bnd (zQO fu a (-1) (b.Forest.Nodes.length:Int)) fun c=>cnd (c.2 != 0) ((zKV fu b a) (c.2 != 0)) (cnd (!(eqOp c.1 a)) ((zKV fu b a) (!(eqOp c.1 a))) (bnd (zF3 fu b) fun d=>(zKV fu b a) (!d)))
theorem zI8 {fu:Nat} {c:World} {b:Op}:DD (zG5 fu c b) 11 [.agg (zBY c),.agg (cOp b)] fun r=>.tup [.agg (zBY r.1),Z r.2.1,Z r.2.2]:=by
 refine fcI Tryz.func11 U (A [73,30,3,31,4,2,0,76,35,41] (fun d _=>?_) zZm)
 refine A [3,31,7,92,6,13,6,93,0] ?_
 refine jw (zKV fu c b) [2,3,4] [4,3,2] (fun e=>[(20,Y e)]) (fun _=>[]) U U ?_ fun a=>?_
 ·rintro e
  refine A [7,5,4,80,12,2,74,99] (fun g _=>?_) zId
  refine A [2,0,5,4,80,12,2,74,4,69,80,20,30,38,57,6,61,43] (fun h _=>?_) zQo [(900000,38)]
  exact A [57,62,5,4,61,12,2,74,68,52,2,2,4,9,38,4,60,50,3,1,8,9,98,9,202,79,8]
 ·refine zAD U ?_ ?_
  ·exact A [4,45] (a (d.2 != 0))
  ·refine A [61] ?_
   refine zgJ eqf_41 U U U U U U U (A [57] ?_)
   refine zAD U ?_ ?_
   ·exact A [4,45] (a (!(eqOp d.1 b)))
   ·refine A [14,1,41] (fun f _=>?_) zKI
    exact A [2,11,45] (a (!f))
def zGe (fu:Nat):Option Bool:=bnd (zQ7 fu [(⟨false,[],[],[],[(⟨1,[]⟩:Hook)]⟩:Class)] 5) fun c=>bnd (zG5 fu ({c.1 with Desk:=({c.1.Desk with Defs:=[(⟨[120,45,97],[120,45,97],0⟩:Def)]}:Desk)}:World) (⟨2,0,0,0,[88,45,97],[],false⟩:Op)) fun b=>bnd (zG5 fu b.1 (⟨6,1,0,(-1),[],[],false⟩:Op)) fun a=>bnd (zG5 fu a.1 (⟨6,2,0,(-1),[],[],false⟩:Op)) fun f=>bnd (zG5 fu a.1 (⟨17,0,0,0,[120,45,98],[],false⟩:Op)) fun e=>bnd (zG5 fu a.1 (⟨25,0,0,0,[],[],false⟩:Op)) fun g=>cnd (c.2==0) (cnd (b.2.2==0) (cnd (a.2.2==0) (cnd (f.2.2==1) (cnd (e.2.2==0) (cnd (g.2.2==7) (cnd (b.2.1==1) (cnd (e.2.1==0) (bnd (idx b.1.Line.Todos 1) fun i=>cnd ((i.length:Int)==1) (bnd (idx a.1.Line.Todos 1) fun j=>cnd ((j.length:Int)==2) (bnd (zEf fu 1) fun h=>cnd (!h) (bnd (zEf fu 2) fun d=>some d) (some false)) (some false)) (some false)) (some false)) (some false)) (some false)) (some false)) (some false)) (some false)) (some false)) (some false)
theorem zM5 {fu:Nat}:DD (zGe fu) 8 [] fun r=>Y r:=by
 refine fcI Tryz.func8 U (A [58,9,20] ?_)
 refine zbY 19 U (.agg (ds:=[Z 1,.sl 7 false ([].map cOp)]) ⟨.rfl,.nil,trivial⟩) (pl ([(⟨1,[]⟩:Hook)].map zKJ) 20 U U U U U U (A [20,33,20] ?_))
 refine zbY 21 U (.agg (ds:=[Y false,.sl 1 false ([].map zR1),.sl 7 false ([].map cOp),.sl 7 false ([].map cOp),.sl 2 false ([(⟨1,[]⟩:Hook)].map zKJ)]) ⟨.rfl,.nil,.nil,.nil,.rfl,trivial⟩) (pl ([(⟨false,[],[],[],[(⟨1,[]⟩:Hook)]⟩:Class)].map zB9) 22 U U U U U U (A [33,22,41] (fun b _=>?_) zUp))
 refine A [3,31,1,92,9,20] ?_
 refine pl ([(⟨[120,45,97],[120,45,97],0⟩:Def)].map zQC) 27 U U U U U U (A [2,12,0,80,20,33,27,41] (fun c _=>?_) zI8)
 refine A [104,31,3,12,2,0,80,20,41] (fun d _=>?_) zI8
 refine A [104,31,6,12,2,0,80,20,41] (fun e _=>?_) zI8
 refine A [104,31,9,12,2,0,80,20,41] (fun f _=>?_) zI8
 refine A [104,31,12,12,2,0,80,20,41] (fun g _=>?_) zI8
 refine A [104,31,15,12,2,0,93,27,67,2,153,74,104,27,71,2,149,74,104,27,75,2,145,74,104,27,79,2,141,74,104,27,83,2,137,74,104,27,87,2,133,74,104,27,91,2,129,74,104,27,95,2,125,74,3,36] fun i _=>?_
 refine A [1,35,3,27,104,2,116,74,3,36] fun j _=>?_
 refine A [1,35,3,27,113,2,107,74,41] (fun h _=>?_) zId
 refine A [3,27,117,2,3,74,41] (fun a _=>?_) zId
 exact A [2,74]
def zCZ (a:Forest):Nat->Int->Option Bool
 | 0,_=>none
 | k1+1,i2=>cnd (decide (i2<(a.Nodes.length:Int))) (bnd (idx a.Nodes i2) fun c=>cnd (decide ((c.Kids.length:Int)>60)) (some false) (bnd (idx a.Nodes i2) fun d=>cnd (decide ((d.Attrs.length:Int)>60)) (some false) (bnd (idx a.Nodes i2) fun e=>cnd (decide ((e.Name.length:Int)>300)) (some false) (bnd (rng .i64 (i2+1)) fun b=>(zCZ a k1) b)))) (some true)
def zE0 (fu:Nat) (a:Forest):Option Bool:=cnd (decide ((a.Nodes.length:Int)>60)) (some false) ((zCZ a) fu 0)
theorem zM6 {fu:Nat} {a:Forest}:DD (zE0 fu a) 31 [.agg (zAC a)] fun r=>Y r:=by
 refine fcI Tryz.func31 U (A [9,30,1,57,6,61,77,5,1,59,68,58,13] ?_)
 refine lw (zCZ a) [1] [1] (fun b=>[(3,Z b)]) (fun _=>[]) fu 0 U U ?_
 rintro d b
 refine A [6,93,77,10,2,86,59,72,93,36] fun e _=>?_
 refine A [2,35,2,26,23,2,119,83,3,36] fun f _=>?_
 refine A [2,35,3,26,33,2,109,83,3,36] fun g _=>?_
 refine A [105,0,5,1,59,4,70,1,16] fun c _=>?_
 exact A [89] (tx c)
def zBp (a:Desk):Nat->Int->Option Bool
 | 0,_=>none
 | k2+1,i6=>cnd (decide (i6<(a.Waits.length:Int))) (bnd (idx a.Waits i6) fun c=>cnd (decide ((c.Name.length:Int)>300)) (some false) (bnd (rng .i64 (i6+1)) fun b=>(zBp a k2) b)) (some true)
def zCa (fu:Nat) (a:Desk):Nat->Int->Option Bool
 | 0,_=>none
 | k1+1,i2=>cnd (decide (i2<(a.Defs.length:Int))) (bnd (idx a.Defs i2) fun c=>cnd (decide ((c.Name.length:Int)>300)) (some false) (bnd (idx a.Defs i2) fun d=>cnd (decide ((d.Local.length:Int)>300)) (some false) (bnd (rng .i64 (i2+1)) fun b=>(zCa fu a k1) b))) ((zBp a) fu 0)
def zE1 (fu:Nat) (a:Desk):Option Bool:=cnd (decide ((a.Defs.length:Int)>40)) (some false) (cnd (decide ((a.Waits.length:Int)>40)) (some false) ((zCa fu a) fu 0))
theorem zM7 {fu:Nat} {a:Desk}:DD (zE1 fu a) 32 [.agg (zIX a)] fun r=>Y r:=by
 refine fcI Tryz.func32 U (A [9,30,1,57,6,61,35,2,26,9,2,105,83,2,35,2,0,5,1,59,68,58,13] ?_)
 refine lw (zCa fu a) [1] [1] (fun b=>[(3,Z b)]) (fun _=>[]) fu 0 U U ?_
 rintro f b
 refine A [6,93,77] ?_
 refine zAD U ?_ ?_
 ·refine A [72,93,36] fun h _=>?_
  refine A [105,26,30,2,109,83,3,36] fun i _=>?_
  refine A [105,0,5,1,59,4,70,1,16] fun d _=>?_
  exact A [89] (tx d)
 ·refine A [86,6,58,13] ?_
  refine lw (zBp a) [1] [1] (fun c=>[(4,Z c)]) (fun _=>[]) fu 0 U U ?_
  rintro g c
  refine A [6,93,77,10,2,86,59,72,93,36] fun j _=>?_
  refine A [104,0,5,1,59,4,70,1,16] fun e _=>?_
  exact A [89] (tx e)
def zBq (l1:Line):Nat->Int->Option Bool
 | 0,_=>none
 | k2+1,i5=>cnd (decide (i5<(l1.Stack.length:Int))) (bnd (idx l1.Stack i5) fun b=>cnd (decide ((b.length:Int)>60)) (some false) (bnd (rng .i64 (i5+1)) fun a=>(zBq l1 k2) a)) (some true)
def zCb (fu:Nat) (l1:Line):Nat->Int->Option Bool
 | 0,_=>none
 | k1+1,i2=>cnd (decide (i2<(l1.Todos.length:Int))) (bnd (idx l1.Todos i2) fun b=>cnd (decide ((b.length:Int)>60)) (some false) (bnd (rng .i64 (i2+1)) fun a=>(zCb fu l1 k1) a)) ((zBq l1) fu 0)
def zE2 (fu:Nat) (l1:Line):Option Bool:=cnd (decide ((l1.Todos.length:Int)>60)) (some false) (cnd (decide ((l1.Stack.length:Int)>30)) (some false) (cnd (decide ((l1.Back.length:Int)>60)) (some false) ((zCb fu l1) fu 0)))
theorem zM8 {fu:Nat} {l1:Line}:DD (zE2 fu l1) 33 [.agg (zQD l1)] fun r=>Y r:=by
 refine fcI Tryz.func33 U (A [9,30,1,57,6,61,35,2,26,9,2,111,83,2,35,3,26,15,2,105,83,2,35,2,0,5,1,59,68,58,13] ?_)
 refine lw (zCb fu l1) [1] [1] (fun a=>[(3,Z a)]) (fun _=>[]) fu 0 U U ?_
 rintro e a
 refine A [6,93,77] ?_
 refine zAD U ?_ ?_
 ·refine A [72,93,36] fun g _=>?_
  refine A [1,77,5,1,59,4,70,1,16] fun c _=>?_
  exact A [89] (tx c)
 ·refine A [86,6,58,13] ?_
  refine lw (zBq l1) [1] [1] (fun b=>[(4,Z b)]) (fun _=>[]) fu 0 U U ?_
  rintro f b
  refine A [6,93,77,10,2,86,59,72,93,36] fun h _=>?_
  refine A [1,77,5,1,59,4,70,1,16] fun d _=>?_
  exact A [89] (tx d)
def zCc (c:Int) (b:Class) (a:Int->Option Bool):Nat->Int->Option Bool
 | 0,_=>none
 | k2+1,k4=>cnd (decide (k4<(b.Hooks.length:Int))) (bnd (idx b.Hooks k4) fun f=>cnd (decide ((f.Do.length:Int)>80)) (some false) (bnd (rng .i64 (k4+1)) fun d=>(zCc c b a k2) d)) (bnd (rng .i64 (c+1)) fun e=>a e)
def zA0 (fu:Nat) (a:List Class):Nat->Int->Option Bool
 | 0,_=>none
 | k1+1,i2=>cnd (decide (i2<(a.length:Int))) (bnd (idx a i2) fun b=>cnd (decide ((b.Watch.length:Int)>20)) (some false) (cnd (decide ((b.Hooks.length:Int)>20)) (some false) (cnd (decide ((b.Peek.length:Int)>80)) (some false) (cnd (decide ((b.Make.length:Int)>80)) (some false) ((zCc i2 b (zA0 fu a k1)) fu 0))))) (some true)
def zDd (fu:Nat) (a:List Class):Option Bool:=cnd (decide ((a.length:Int)>14)) (some false) ((zA0 fu a) fu 0)
theorem zM9 {fu:Nat} {a:List Class}:DD (zDd fu a) 34 [.sl 5 false (a.map zB9)] fun r=>Y r:=by
 refine fcI Tryz.func34 U (A [75,80,77,5,1,59,68,58,13] ?_)
 refine lw (zA0 fu a) [0] [] (fun b=>[(3,Z b)]) (fun _=>[]) fu 0 U U ?_
 rintro e b
 refine A [6,61,77,10,2,86,59,72,61,36] fun f _=>?_
 refine A [1,31,4,12,0,6,61,35,2,26,23,2,117,83,2,35,3,26,29,2,111,83,2,35,3,26,35,2,105,83,2,35,2,0,5,1,59,67,58,13] ?_
 refine lw (zCc b f (zA0 fu a e)) [0,3,4] [4] (fun k4=>[(5,Z k4)]) (fun _=>[]) fu 0 U U ?_
 rintro g k4
 refine A [6,93,77] ?_
 refine zAD U ?_ ?_
 ·refine A [72,93,36] fun h _=>?_
  refine A [2,77,5,1,59,4,70,1,16] fun c _=>?_
  exact A [89] (tx c)
 ·refine A [17,70,1,16] fun d _=>?_
  exact A [89] (tx d)
def zCd (l1:List Class) (b:Int) (a:Int->Option Bool):Nat->Int->Option Bool
 | 0,_=>none
 | k2+1,k3=>bnd (idx l1 b) fun e=>cnd (decide (k3<(e.Watch.length:Int))) (bnd (idx l1 b) fun f=>bnd (idx f.Watch k3) fun g=>cnd (decide ((g.length:Int)>300)) (some false) (bnd (rng .i64 (k3+1)) fun c=>(zCd l1 b a k2) c)) (bnd (rng .i64 (b+1)) fun d=>a d)
def zA1 (fu:Nat) (l1:List Class):Nat->Int->Option Bool
 | 0,_=>none
 | k1+1,i2=>cnd (decide (i2<(l1.length:Int))) ((zCd l1 i2 (zA1 fu l1 k1)) fu 0) (some true)
def zE4 (fu:Nat) (l1:List Class):Option Bool:=(zA1 fu l1) fu 0
theorem zNB {fu:Nat} {l1:List Class}:DD (zE4 fu l1) 35 [.sl 5 false (l1.map zB9)] fun r=>Y r:=by
 refine fcI Tryz.func35 U (A [75,58,13] ?_)
 refine lw (zA1 fu l1) [0] [] (fun a=>[(3,Z a)]) (fun _=>[]) fu 0 U U ?_
 rintro e a
 refine A [6,61,77,10,2,86,59,72,58,13] ?_
 refine lw (zCd l1 a (zA1 fu l1 e)) [0,3] [] (fun b=>[(4,Z b)]) (fun _=>[]) fu 0 U U ?_
 rintro f b
 refine A [6,93,36] fun g _=>?_
 refine A [2,77] ?_
 refine zAD U ?_ ?_
 ·refine A [72,61,36] fun h _=>?_
  refine A [3,36] fun i _=>?_
  refine A [3,0,5,1,59,4,70,1,16] fun c _=>?_
  exact A [89] (tx c)
 ·refine A [17,70,1,16] fun d _=>?_
  exact A [89] (tx d)
def zE3 (fu:Nat) (a:World):Option Bool:=bnd (zE0 fu a.Forest) fun b=>cnd b (cnd (decide ((a.States.length:Int)<=60)) (bnd (zE1 fu a.Desk) fun c=>cnd c (bnd (zE2 fu a.Line) fun d=>cnd d (cnd (decide ((a.Tasks.length:Int)<=60)) (cnd (decide ((a.Builds.length:Int)<=60)) (bnd (zDd fu a.Classes) fun e=>cnd e (bnd (zE4 fu a.Classes) fun f=>some f) (some false)) (some false)) (some false)) (some false)) (some false)) (some false)) (some false)
theorem zNA {fu:Nat} {a:World}:DD (zE3 fu a) 9 [.agg (zBY a)] fun r=>Y r:=by
 refine fcI Tryz.func9 U (A [9,30,1,57,99] (fun b _=>?_) zM6)
 refine A [1,27,6,2,138,74,2,35,3,27,12,2,132,74,2,41] (fun c _=>?_) zM7
 refine A [2,27,17,2,127,74,2,41] (fun d _=>?_) zM8
 refine A [2,27,22,2,122,74,2,35,3,27,28,2,116,74,2,35,3,27,34,2,110,74,2,41] (fun e _=>?_) zM9
 refine A [2,27,39,2,105,74,2,41] (fun f _=>?_) zNB
 exact A [2,74]
def zCB (a c:Desk):Nat->Int->Option Bool
 | 0,_=>none
 | k2+1,i7=>cnd (decide (i7<(a.Waits.length:Int))) (bnd (idx a.Waits i7) fun d=>bnd (idx c.Waits i7) fun e=>cnd (!(zaa d e)) (some false) (bnd (rng .i64 (i7+1)) fun b=>(zCB a c k2) b)) (some true)
def zCn (fu:Nat) (a b:Desk):Nat->Int->Option Bool
 | 0,_=>none
 | k1+1,i3=>cnd (decide (i3<(a.Defs.length:Int))) (bnd (idx a.Defs i3) fun d=>bnd (idx b.Defs i3) fun e=>cnd (!(zfp d e)) (some false) (bnd (rng .i64 (i3+1)) fun c=>(zCn fu a b k1) c)) ((zCB a b) fu 0)
def zBt (fu:Nat) (a b:Desk):Option Bool:=cnd ((a.Defs.length:Int) != (b.Defs.length:Int)) (some false) (cnd ((a.Waits.length:Int) != (b.Waits.length:Int)) (some false) (cnd (a.Next != b.Next) (some false) (cnd (!(a.Busy==b.Busy)) (some false) ((zCn fu a b) fu 0))))
theorem zJH {fu:Nat} {a b:Desk}:DD (zBt fu a b) 29 [.agg (zIX a),.agg (zIX b)] fun r=>Y r:=by
 refine fcI Tryz.func29 U (A [73,30,3,57,6,61,35,2,35,2,26,14,2,122,83,2,35,2,35,3,26,23,2,113,83,107,26,30,2,106,83,106,0,5,1,59,68,58,13] ?_)
 refine lw (zCn fu a b) [2,3] [3,2] (fun d=>[(5,Z d)]) (fun _=>[]) fu 0 U U ?_
 rintro k d
 refine A [6,93,77] ?_
 refine zAD U ?_ ?_
 ·refine A [72,6,52,3,2,2,3,5,3,2,98] ?_
  refine vT [90,92] [94] [] U U (zEu (T:=tab) zQC a.Defs U U U U U U U fun g _=>pzq U) (fun _=>U) (fun _=>U) fun g _=>vq 4 U (by kernel_rfl) (vT [100,102] [104] [] U U (zEu (T:=tab) zQC b.Defs U U U U U U U fun h _=>pzq U) (fun _=>U) (fun _=>U) fun h _=>vq 1 U (by kernel_rfl) (vS [96,106] [108] [] U U (zgJ eqf_88 U U U U U U U (pyq U)) U U (A [79,5,1,59,4,70,1,16] fun f _=>?_)))
  exact A [89] (tx f)
 ·refine A [86,6,58,13] ?_
  refine lw (zCB a b) [2,3] [3,2] (fun e=>[(6,Z e)]) (fun _=>[]) fu 0 U U ?_
  rintro l e
  refine A [6,93,77,10,2,86,59,72,6,52,3,2,2,3,6,3,2,98] ?_
  refine vT [126,128] [130] [] U U (zEu (T:=tab) zI1 a.Waits U U U U U U U fun i _=>pzq U) (fun _=>U) (fun _=>U) fun i _=>vq 4 U (by kernel_rfl) (vT [136,138] [140] [] U U (zEu (T:=tab) zI1 b.Waits U U U U U U U fun j _=>pzq U) (fun _=>U) (fun _=>U) fun j _=>vq 1 U (by kernel_rfl) (vS [132,142] [144] [] U U (zgJ zfq U U U U U U U (pyq U)) U U (A [79,5,1,59,4,70,1,16] fun c _=>?_)))
  exact A [89] (tx c)
def zFy (_fu:Nat) (a:List Todo):Option Bool:=some (decide ((a.length:Int)>0))
theorem zR7 {fu:Nat} {a:List Todo}:DD (zFy fu a) 110 [.sl 10 false (a.map zLz)] fun r=>Y r:=by
 exact fcI Tryz.func110 U (A [58,80,35,2,74])
def zAv (b:(List Todo)->Option Bool) (a:List (List Todo)):Nat->Int->Option Int
 | 0,_=>none
 | k1+1,t2=>cnd (decide (t2<(a.length:Int))) (bnd (idx a t2) fun e=>bnd (b e) fun d=>cnd d (some t2) (bnd (rng .i64 (t2+1)) fun c=>(zAv b a k1) c)) (some (-1))
def zDk (fu:Nat) (b:(List Todo)->Option Bool) (a:List (List Todo)):Option Int:=(zAv b a) fu 0
theorem zIx {fu:Nat} {a:List (List Todo)}:DD (zDk fu (fun (b:(List Todo))=>zFy fu b) a) 177 [.sl 1 false (a.map zDK),.fn (.func 110) [] []] fun r=>Z r:=by
 refine fcI Tryz.func177 U (A [75,80,77,13] ?_)
 refine lw (zAv (fun (b:(List Todo))=>zFy fu b) a) [0,1,7] [] (fun c=>[(8,Z c)]) (fun _=>[]) fu 0 U U ?_
 rintro e c
 refine A [75,10,2,86,59,72,62,93,36] fun g _=>?_
 refine A [1,44] (fun f _=>?_) zR7 []
 refine A [0,5,2,62,8,4,94] fun d _=>?_
 exact A [89] (tx d)
def zBu (fu:Nat) (c:(List Todo)->Option Bool) (b:List (List Todo)):Option Bool:=bnd (zDk fu c b) fun a=>some (decide (a>=0))
theorem zHl {fu:Nat} {a:List (List Todo)}:DD (zBu fu (fun (b:(List Todo))=>zFy fu b) a) 111 [.sl 1 false (a.map zDK),.fn (.func 110) [] []] fun r=>Y r:=by
 refine fcI Tryz.func111 U (A [58,99] (fun c _=>?_) zIx)
 exact A [2,74]
def zNi (fu:Nat) (l1:Line):Option Bool:=cnd (!l1.Busy) (cnd ((l1.Stack.length:Int)==0) (cnd ((l1.Back.length:Int)==0) (bnd (zBu fu (fun (b:(List Todo))=>zFy fu b) l1.Todos) fun a=>some (!a)) (some false)) (some false)) (some false)
theorem zUg {fu:Nat} {l1:Line}:DD (zNi fu l1) 64 [.agg (zQD l1)] fun r=>Y r:=by
 refine fcI Tryz.func64 U (A [9,30,1,57,58,76,27,7,2,119,74,2,35,3,27,13,2,113,74,2,35,3,27,19,2,107,74,3,41] (fun a _=>?_) zHl)
 exact A [3,74]
def zFU (fu:Nat) (a:World):Option Bool:=bnd (zNi fu a.Line) fun b=>cnd b (cnd ((a.Tasks.length:Int)==0) (cnd ((a.Builds.length:Int)==0) (some (!a.Desk.Busy)) (some false)) (some false)) (some false)
theorem zMM {fu:Nat} {a:World}:DD (zFU fu a) 28 [.agg (zBY a)] fun r=>Y r:=by
 refine fcI Tryz.func28 U (A [9,30,1,57,99] (fun b _=>?_) zUg)
 exact A [1,26,6,18,2,35,3,26,12,10,2,35,3,26,18,2,106,74,106,74,112,74,118,74]
def zBx (fu:Nat) (a:World) (c:Op):Option Bool:=bnd (zGe fu) fun g=>cnd (!g) (some false) (bnd (zE3 fu a) fun h=>cnd (!h) (some true) (cnd (decide ((c.S.length:Int)>300)) (some true) (cnd (decide ((c.T.length:Int)>300)) (some true) (bnd (zF3 fu a) fun i=>cnd (!i) (some true) (cnd (decide ((a.Desk.Defs.length:Int)>0)) (some true) (bnd (zFU fu a) fun j=>cnd (!j) (some true) (bnd (zG5 fu a c) fun b=>bnd (zFU fu b.1) fun k=>cnd (!k) (some false) (cnd ((b.1.Line.Todos.length:Int) != (b.1.Forest.Nodes.length:Int)) (some false) (cnd (b.2.2==0) (cnd (c.Kind==17) (bnd (rng .i64 ((a.Desk.Waits.length:Int)+1)) fun f=>some ((b.1.Desk.Waits.length:Int)==f)) (bnd (zBt fu b.1.Desk a.Desk) fun d=>some d)) (bnd (zBt fu b.1.Desk a.Desk) fun e=>some e))))))))))
theorem zLC {fu:Nat} {c:World} {a:Op}:DD (zBx fu c a) 7 [.agg (zBY c),.agg (cOp a)] fun r=>Y r:=by
 refine fcI Tryz.func7 U (A [73,30,3,57,6,9] ?_)
 refine zKQ (enc:=fun (b:Bool)=>Y b) (qs:=[]) zM5 U U trivial (fun _=>U) call8 U U fun b _=>A [57,5,1,59,68,80,41] (fun g _=>?_) zNA
 refine A [2,26,13,2,128,83,106,26,19,2,122,83,106,26,25,2,116,83,1,41] (fun h _=>?_) zKI
 refine A [3,26,30,2,111,83,3,35,3,26,37,2,104,83,1,41] (fun i _=>?_) zMM
 refine A [2,0,5,1,59,67,99] (fun k _=>?_) zI8
 refine A [104,31,5,12,2,0,6,80,41] (fun l _=>?_) zMM
 refine A [2,26,52,2,110,83,3,35,3,35,2,0,5,1,59,68,93] ?_
 refine zAT (j:=65) U ?_ ?_
 ·refine A [104,0] ?_
  refine zAD U ?_ ?_
  ·refine A [93,35,3,35,16] fun f _=>?_
   exact A [2,74]
  ·refine A [67,76,41] (fun d _=>?_) zJH
   exact A [57,8]
 ·refine A [104,11,24,67,76,41] (fun e _=>?_) zJH
  exact A [57,8]
end Go.Proofs.YtmfbghpealgaiaaGreatDoor
