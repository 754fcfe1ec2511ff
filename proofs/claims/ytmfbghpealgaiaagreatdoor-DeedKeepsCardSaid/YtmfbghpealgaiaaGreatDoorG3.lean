/- Models and proofs, printed by emit2.py. -/
import Derived.Test.YtmfbghpealgaiaaGreatDoorG2
namespace Go.Proofs.YtmfbghpealgaiaaGreatDoor
open Go Go.Pw
open List renaming map_eq_nil_iff->eZ
set_option maxRecDepth 100000
set_option maxHeartbeats 10000000
set_option linter.unusedVariables false
theorem zKo {fu:Nat} {l1:List Int} {a:List Node} {b c:Int} {f:List (Int×(List (Bs×Int)))}:FF (zE8 fu (fun (i:Int) (j:(List (Int×(List (Bs×Int)))))=>zBA fu i a b c j) l1 f) 227 [.own 900000,.fn (.func 255) [] [.loc 900001 0,.loc 900002 0]] [(900000,.arr 3 1 (l1.map zAB)),(900001,.box 342 [.sl 10 false (a.map zAZ),Z b,.own 900003]),(900002,.box 3 [Z c]),(900003,.mp (f.map fun p:Int×(List (Bs×Int))=>(zOa .i64 p.1,.mpd (p.2.map fun p:Bs×Int=>(zNm p.1,Z p.2)))))] [900000,900001,900002,900003] (fun r=>Z r.1) fun r=>[(900000,.arr 3 1 (l1.map zAB)),(900001,.box 342 [.sl 10 false (a.map zAZ),Z b,.own 900003]),(900002,.box 3 [Z c]),(900003,.mp (r.2.map fun p:Int×(List (Bs×Int))=>(zOa .i64 p.1,.mpd (p.2.map fun p:Bs×Int=>(zNm p.1,Z p.2)))))]:=by
 refine fcI Tryz.func227 U (A [75,80,39,57,13] ?_)
 refine lw (zBV (fun (i:Int) (j:(List (Int×(List (Bs×Int)))))=>zBA fu i a b c j) l1) [0,1,7] [900000,900001,900002] (fun (h,g)=>[(8,Z h)]) (fun (h,g)=>[(900003,.mp (g.map fun p:Int×(List (Bs×Int))=>(zOa .i64 p.1,.mpd (p.2.map fun p:Bs×Int=>(zNm p.1,Z p.2)))))]) fu (0,f) U U ?_
 rintro m ⟨h,g⟩
 refine A [75,10,2,86,59,72,62,93,38] fun l d=>?_
 refine zAv (T:=tab) zAB l1 l (zAy d) U U U U U U U U (A [43] (fun k _=>?_) zKa [(900000,900001),(900001,900002),(900002,900003)])
 refine A [0,5,2,62,8,4,94] fun e _=>?_
 exact A [89] (tx (e,k.2))
def zAu (h:Int->(List (Int×(List (Bs×Int))))->Option (Bool×(List (Int×(List (Bs×Int)))))):Nat->Int×Int×(List Int)×(List (Int×(List (Bs×Int))))->Option ((List Int)×(List (Int×(List (Bs×Int)))))
 | 0,_=>none
 | k1+1,(i8,j9,l10,l11)=>cnd (decide (j9<(l10.length:Int))) (bnd (idx l10 j9) fun b=>bnd (h b l11) fun a=>cnd (!a.1) (bnd (idx l10 i8) fun i=>bnd (rng .i64 (i8+1)) fun c=>bnd (rng .i64 (j9+1)) fun d=>(zAu h k1) (c,d,(l10.set (i8).toNat b),a.2)) (bnd (rng .i64 (j9+1)) fun e=>(zAu h k1) (i8,e,l10,a.2))) (bnd (zWa l10 i8 (0:Int)) fun f=>bnd (piece f 0 i8) fun g=>some (g,l11))
def zC9 (fu:Nat) (b:Int->(List (Int×(List (Bs×Int))))->Option (Bool×(List (Int×(List (Bs×Int)))))) (l1:List Int) (d:List (Int×(List (Bs×Int)))):Option ((List Int)×(List (Int×(List (Bs×Int))))):=bnd (zE8 fu b l1 d) fun a=>cnd (a.1==(-1)) (some (l1,a.2)) (bnd (rng .i64 (a.1+1)) fun c=>(zAu b) fu (a.1,c,l1,a.2))
theorem zKG {fu:Nat} {l1:List Int} {e:List Node} {f g:Int} {t:List (Int×(List (Bs×Int)))}:FF (zC9 fu (fun (q:Int) (s:(List (Int×(List (Bs×Int)))))=>zBA fu q e f g s) l1 t) 231 [.own 900000,.fn (.func 255) [] [.loc 900001 0,.loc 900002 0]] [(900000,.arr 3 1 (l1.map zAB)),(900001,.box 342 [.sl 10 false (e.map zAZ),Z f,.own 900003]),(900002,.box 3 [Z g]),(900003,.mp (t.map fun p:Int×(List (Bs×Int))=>(zOa .i64 p.1,.mpd (p.2.map fun p:Bs×Int=>(zNm p.1,Z p.2)))))] [900001,900002,900003] (fun _=>.own 900000) fun r=>[(900000,.arr 3 1 (r.1.map zAB)),(900001,.box 342 [.sl 10 false (e.map zAZ),Z f,.own 900003]),(900002,.box 3 [Z g]),(900003,.mp (r.2.map fun p:Int×(List (Bs×Int))=>(zOa .i64 p.1,.mpd (p.2.map fun p:Bs×Int=>(zNm p.1,Z p.2)))))]:=by
 refine fcI Tryz.func231 U (A [58,61,43] (fun u _=>?_) zKo [(900000,900000),(900001,900001),(900002,900002),(900003,900003)])
 refine A [57,6,62,5,2,62,8,68,80,16] fun v _=>?_
 refine A [57,13] ?_
 refine lq (zAu (fun (q:Int) (s:(List (Int×(List (Bs×Int)))))=>zBA fu q e f g s)) (fun ((j,j9,a,b):Int×Int×(List Int)×(List (Int×(List (Bs×Int)))))=>[(0,.own 900000),(1,.fn (.func 255) [] [.loc 900001 0,.loc 900002 0]),(5,Z j),(6,Z j9)]) (fun ((j,j9,a,b):Int×Int×(List Int)×(List (Int×(List (Bs×Int)))))=>[(900000,.arr 3 1 (a.map zAB)),(900001,.box 342 [.sl 10 false (e.map zAZ),Z f,.own 900003]),(900002,.box 3 [Z g]),(900003,.mp (b.map fun p:Int×(List (Bs×Int))=>(zOa .i64 p.1,.mpd (p.2.map fun p:Bs×Int=>(zNm p.1,Z p.2)))))]) fu (u.1,v,l1,u.2) ?_
 rintro x ⟨j,j9,a,b⟩
 refine A [6,61,39,57] ?_
 refine zAF U ?_ ?_
 ·refine A [72,61,38] fun d h=>?_
  refine zAv (T:=tab) zAB a d (zAy h) U U U U U U U U (A [57,61,43] (fun k _=>?_) zKa [(900000,900001),(900001,900002),(900002,900003)])
  refine A [57] ?_
  refine zAF U ?_ ?_
  ·refine A [93,38] fun o i=>?_
   refine zCr (T:=tab) zAB a o d (zAy i) U U U U U U U U U U U U U (A [0,14,1,16] fun l _=>?_)
   refine A [1,11,70,1,16] fun m _=>?_
   exact A [89] (tx (l,m,(a.set (j).toNat d),k.2))
  ·refine A [4,70,1,16] fun n _=>?_
   exact A [89] (tx (j,n,a,k.2))
 ·refine A [86,61] ?_
  refine zYw (T:=tab) zAB a (0:Int) (S':=fun c=>[(900000,.arr 3 1 (c.map zAB)),(900001,.box 342 [.sl 10 false (e.map zAZ),Z f,.own 900003]),(900002,.box 3 [Z g]),(900003,.mp (b.map fun p:Int×(List (Bs×Int))=>(zOa .i64 p.1,.mpd (p.2.map fun p:Bs×Int=>(zNm p.1,Z p.2)))))]) U U U U U U U U U U U U U U U U U U (fun _=>U) fun c _=>A [0,61] ?_
  exact zJl (T:=tab) zAB c U U U U U U U U U U U fun w _=>A [57,8]
def zHe (fu:Nat) (a:Forest) (b:Int):Option (List Int):=cnd (decide (b<0)) (some []) (cnd (decide (b>=(a.Nodes.length:Int))) (some []) (bnd (zAs fu a) fun d=>cnd (!d) (some []) (bnd (idx a.Nodes b) fun i=>bnd (zHI fu i) fun e=>cnd (!e) (some []) (bnd (zIs fu a) fun c=>bnd (zHW fu a b) fun f=>bnd (zEr fu a f) fun g=>bnd (zC9 fu (fun (j:Int) (k:(List (Int×(List (Bs×Int)))))=>zBA fu j c.Forest.Nodes c.Forest.Most b k) g c.ids) fun h=>some h.1))))
theorem zQh {fu:Nat} {a:Forest} {b:Int}:DD (zHe fu a b) 197 [.agg (zAE a),Z b] fun r=>.sl 1 false (r.map zAB):=by
 refine fcI Tryz.func197 U (A [73,30,3,57,6,93] ?_)
 refine zAW (j:=8) U ?_ ?_
 ·refine A [120,65,58] ?_
  exact zHt 4 (q:=.sl 1 false ([].map zAB)) U .nil rN
 ·refine A [3,35,3] ?_
  refine zAW (j:=15) U ?_ ?_
  ·refine A [113,65,58] ?_
   exact zHt 4 (q:=.sl 1 false ([].map zAB)) U .nil rN
  ·refine A [1,41] (fun c _=>?_) zA8
   refine pq 3 U (zAW (j:=20) U ?_ ?_)
   ·refine A [108,65,58] ?_
    exact zHt 4 (q:=.sl 1 false ([].map zAB)) U .nil rN
   ·refine A [3,36] fun i _=>?_
    refine A [1,41] (fun d _=>?_) zLm
    refine A [2,0] ?_
    refine zAF U ?_ ?_
    ·refine A [58] ?_
     exact zHt 4 (q:=.sl 1 false ([].map zAB)) U .nil rN
    ·refine A [67,80,43] (fun e _=>?_) zOi [(4,2300)] [2300]
     refine A [31,5,12,0,6,52,3,4,2,3,5,5,2300,3,2,53,8,0,0,0,6,15,0,63,127,203,54,2,1,64,66,68] (fun f _=>?_) zNt
     refine A [55,2,2,62,68,70,4701] (fun g _=>?_) zJo [(1034,2350)] [2350]
     refine A [201,55,6,4,7,11,70,72,4601,4701,74,70,4701,4601] (fun h _=>?_) zKG [(900000,2350),(900001,5),(900002,3),(900003,2300)] [2350]
     exact A [201,79,34,2350,8]
def zHl (_fu:Nat) (b:State) (d:Desk) (a:List Class):Option (Class×Bool):=cnd (decide (b.Def<0)) (some ((⟨false,[],[],[],[]⟩:Class),false)) (cnd (decide (b.Def>=(d.Defs.length:Int))) (some ((⟨false,[],[],[],[]⟩:Class),false)) (bnd (idx d.Defs b.Def) fun c=>cnd (decide (c.Class<0)) (some ((⟨false,[],[],[],[]⟩:Class),false)) (cnd (decide (c.Class>=(a.length:Int))) (some ((⟨false,[],[],[],[]⟩:Class),false)) (bnd (idx a c.Class) fun e=>some (e,true)))))
theorem zNw {fu:Nat} {c:State} {b:Desk} {a:List Class}:DD (zHl fu c b a) 24 [.agg (zBM c),.agg (zI4 b),.sl 5 false (a.map zBh)] fun r=>.tup [.agg (zBh r.1),Y r.2]:=by
 refine fcI Tryz.func24 U (A [9,30,3,30,4,31,6,57,6,76] ?_)
 refine zAW (j:=12) U ?_ ?_
 ·refine A [107,65,9,20,92] ?_
  exact zGG 6 [Y false,.sl 1 false ([].map zQ6),.sl 7 false ([].map cOp),.sl 7 false ([].map cOp),.sl 2 false ([].map zJI)] U ⟨.rfl,.nil,.nil,.nil,.nil,trivial⟩ U rN
 ·refine A [104,35,2,0] ?_
  refine zAF U ?_ ?_
  ·refine A [9,20,92] ?_
   exact zGG 6 [Y false,.sl 1 false ([].map zQ6),.sl 7 false ([].map cOp),.sl 7 false ([].map cOp),.sl 2 false ([].map zJI)] U ⟨.rfl,.nil,.nil,.nil,.nil,trivial⟩ U rN
  ·refine A [67,76,36] fun d _=>?_
   refine A [3,0,6,93] ?_
   refine zAW (j:=30) U ?_ ?_
   ·refine A [105,65,9,20,92] ?_
    exact zGG 6 [Y false,.sl 1 false ([].map zQ6),.sl 7 false ([].map cOp),.sl 7 false ([].map cOp),.sl 2 false ([].map zJI)] U ⟨.rfl,.nil,.nil,.nil,.nil,trivial⟩ U rN
   ·refine A [2,35,2,0] ?_
    refine zAF U ?_ ?_
    ·refine A [9,20,92] ?_
     exact zGG 6 [Y false,.sl 1 false ([].map zQ6),.sl 7 false ([].map cOp),.sl 7 false ([].map cOp),.sl 2 false ([].map zJI)] U ⟨.rfl,.nil,.nil,.nil,.nil,trivial⟩ U rN
    ·refine A [67,61,36] fun e _=>?_
     exact A [1,92,8]
def zDH (fu:Nat) (d:Int) (e:List Node) (f:List Def) (g:List Wait) (h:Int) (i:Bool) (j:List Class) (k:List State):Option (Class×Bool):=bnd (idx k d) fun b=>bnd (zHl fu b (⟨f,g,h,i⟩:Desk) j) fun a=>cnd a.2 (cnd a.1.Form (cnd (b.Phase==3) (bnd (idx e d) fun c=>some (a.1,(c.Kind==1))) (some (a.1,false))) (some (a.1,false))) (some (a.1,false))
theorem zG2 {fu:Nat} {m:Int} {c:List Node} {l:Int} {e:List Def} {f:List Wait} {g:Int} {h:Bool} {i:List Class} {d:List State} {b:List Due}:FF (zDH fu m c e f g h i d) 198 [.loc 900000 0,Z m] [(900000,.box 284 [.sl 10 false (c.map zAZ),Z l,.own 900001,.sl 3 false (e.map zQn),.sl 2 false (f.map zJa),Z g,Y h,.sl 5 false (i.map zBh),.own 900002]),(900001,.arr 53 4 (d.map zBM)),(900002,.arr 171 11 (b.map zJi))] [900000,900001,900002] (fun r=>.tup [.agg (zBh r.1),Y r.2]) fun _=>[(900000,.box 284 [.sl 10 false (c.map zAZ),Z l,.own 900001,.sl 3 false (e.map zQn),.sl 2 false (f.map zJa),Z g,Y h,.sl 5 false (i.map zBh),.own 900002]),(900001,.arr 53 4 (d.map zBM)),(900002,.arr 171 11 (b.map zJi))]:=by
 refine fcI Tryz.func198 U (A [9,31,4,57,9,105,38] fun j a=>?_)
 refine zAv (T:=tab) zBM d j (zAy a) U U U U U U U U (A [31,6,12,0,6,52,4,5,0,1,4,6,6,4,900000,900001,900002,53,16,0,0,2,6,14,0,32,96,224,511,1023,2047,2047,0,12287,32767,209,54,3,1,34,42,50,52] (fun n _=>?_) zNw)
 refine vq 3 U (by kernel_rfl) (vS [] [14,15] [7] U U (zGV (T:=tab) 7 U U U U U U U U U (pyq U)) U U (A [50,3,1,14,15,54,15,201,79,6,52,6,6,0,1,4,6,7,8,7,6,4,900000,900001,900002,53,25,0,0,2,6,14,30,62,126,254,510,1022,2046,4094,8190,16382,32766,65534,4094,262142,524286,1048574,2097150,4194302,4095,16777215,203] ?_))
 refine zA3 (t:=31) U ?_ ?_
 ·refine vq 4 U (by kernel_rfl) (zA3 (t:=35) U ?_ ?_)
  ·refine vq 5 U (by kernel_rfl) (zA3 (t:=40) U ?_ ?_)
   ·exact vq 6 U (by kernel_rfl) (vT [80,90,92] [94] [] U U (zAw (T:=tab) zAZ c U U U U U U U fun k _=>pzq U) (fun _=>U) (fun _=>U) fun k _=>A [204,50,3,1,8,9,58,9,201,79,8])
   ·exact A [211,50,3,1,8,9,58,9,201,79,8]
  ·exact A [216,50,3,1,8,9,58,9,201,79,8]
 ·exact A [220,50,3,1,8,9,58,9,201,79,8]
def zGq (a:Class):Nat->(List (Int×Hook))->Option (List (Int×Hook))
 | 0,l2=>some l2
 | k1+1,l2=>bnd (a.Hooks[k1]?) fun b=>(zGq a k1) (zHP l2 b.Kind b)
def zLy (_fu:Nat) (a:Class):Option (List (Int×Hook)):=(zGq a) a.Hooks.length ([]:(List (Int×Hook)))
theorem zSp {fu:Nat} {c:Class}:FF (zLy fu c) 60 [.agg (zBh c)] [] [] (fun _=>.own 6) fun r=>[(6,.mp (r.map fun p:Int×Hook=>(zOa .i64 p.1,.agg (zJI p.2))))]:=by
 refine fcI Tryz.func60 U (fun {w0 X X0 σ0 _}=>A [9,30,1,57,9] ?_)
 refine zIQ 6 U U U U U U U (A [31,3,12,0,6,61] ?_)
 refine zL9 (n:=3009) tab Tryz.func107 U U U U U U U U U U U U ⟨⟨_,U,.rfl⟩,trivial⟩ zgF U U (A [0,13] ?_)
 refine zY0 (T:=tab) (enc:=zJI) (enc':=fun (a:Hook)=>.agg (zJI a)) (xs:=c.Hooks) (x0:=([]:(List (Int×Hook)))) (n:=3009) (tS:=68) (tE:=86) (tI:=3) (tB:=4) (tF:=260) (g:=170) (M:=(zGq c)) (Sf:=fun (b:(List (Int×Hook)))=>[(3,.box 138 [.own 6]),(6,.mp (b.map fun p:Int×Hook=>(zOa .i64 p.1,.agg (zJI p.2))))]) (N1:=[3]) (E0:=[(3,.loc 3 0)]) (E1:=fun d a=>[(3,.loc 3 0),(10,Z ((d:Nat):Int)),(11,.agg (zJI a)),(5,.loc 5 0)]) (S1:=fun d a (b:(List (Int×Hook)))=>[(5,.box 86 (zJI a)),(3,.box 138 [.own 6]),(6,.mp (b.map fun p:Int×Hook=>(zOa .i64 p.1,.agg (zJI p.2))))]) Tryz.func170 U U U zgI U U (fun _=>U) (fun _=>U) U U ⟨U,trivial⟩ U U ⟨U,U,trivial⟩ U U U U U U ?_ ?_ ?_
 ·rintro d a b hy w0 X X0 σ0 _ _
  refine A [31,5,12,11] ?_
  exact zPw ⟨U,U,U,U,trivial⟩ ⟨U,U,U,trivial⟩ U
 ·rintro d a b hy w0 X X0 σ0 _ _
  exact zRH hy (pq 4 U (zGF (zKi .i64) (fun v=>.agg (zJI v)) b a.Kind a Tryz.underlying138 Tryz.underlying3 U U U U U U U U U (A [63] (tx (zHP b a.Kind a)))))
 ·rintro b
  exact A [69,62,8]
def zGP (fu:Nat) (b:Class) (a:Int):Option Bool:=bnd (zLy fu b) fun c=>some (zLS c a)
theorem zKq {fu:Nat} {b:Class} {a:Int}:DD (zGP fu b a) 25 [.agg (zBh b),Z a] fun r=>Y r:=by
 refine fcI Tryz.func25 U (A [73,57,80,43] (fun c _=>?_) zSp [(6,2090)] [2090])
 exact pq 1 U (zIP (T:=tab) (zKi .i64) (fun v=>.agg (zJI v)) c a (⟨0,[]⟩:Hook) Tryz.underlying138 Tryz.underlying3 U U U U U U U U U (A [3,31,5,92,62,8]))
def zCq (fu:Nat) (e:Class) (d:Int) (c:Todo) (a:List Due):Option (List Due):=bnd (zGP fu e c.Kind) fun b=>cnd b (bnd (zDY 104 (a.length+([(⟨d,c⟩:Due)]:List Due).length)) fun _=>some (a++[(⟨d,c⟩:Due)])) (some a)
theorem zE4 {fu:Nat} {f:Class} {d:Int} {e:Todo} {g:List Node} {h:Int} {i:List Def} {j:List Wait} {k:Int} {l:Bool} {b:List Class} {c:List State} {a:List Due}:FF (zCq fu f d e a) 199 [.loc 900000 0,.agg (zBh f),Z d,.agg (zJK e)] [(900000,.box 284 [.sl 10 false (g.map zAZ),Z h,.own 900001,.sl 3 false (i.map zQn),.sl 2 false (j.map zJa),Z k,Y l,.sl 5 false (b.map zBh),.own 900002]),(900001,.arr 53 4 (c.map zBM)),(900002,.arr 171 11 (a.map zJi))] [900000,900001] (fun _=>.tup []) fun r=>[(900000,.box 284 [.sl 10 false (g.map zAZ),Z h,.own 900001,.sl 3 false (i.map zQn),.sl 2 false (j.map zJa),Z k,Y l,.sl 5 false (b.map zBh),.own 900002]),(900001,.arr 53 4 (c.map zBM)),(900002,.arr 171 11 (r.map zJi))]:=by
 refine fcI Tryz.func199 U (A [9,30,5,30,7,0,93,41] (fun m _=>?_) zKq)
 refine ns (zAF U ?_ ?_)
 ·refine A [52,3,4,0,2,7,7,900000,900001,900002,53,13,0,0,2,6,14,0,0,96,224,510,1023,2047,4095,207,51,2,1,34,36,38] ?_
  refine vS [38] [40,41] [20] U U (pl ([(⟨d,e⟩:Due)].map zJi) 20 U U U U U U (pyq U)) U U (vU [32,40,41,1800001,1800005] [42,32,1800001,1800005] [900002] U U (pa zJi a ([(⟨d,e⟩:Due)]:List Due) U U U U U U U U (zQ4 _) U U U (pyq U)) U U fun _ _=>A [202,50,4,1,42,46,1800001,1800005,1800001,19] ?_)
  exact zKw (T:=tab) U U U ⟨U,U⟩ ⟨U,U,U,trivial⟩ U
 ·exact zXr (zKw (T:=tab) U U U ⟨U,U⟩ ⟨U,U,U,trivial⟩ U)
def zFH (fu:Nat) (a:Unit×Bool×(List Node)×Int×(List Def)×(List Wait)×Int×Bool×(List Class)×(List State)×(List Due)) (d:List Int):Nat->Int×(List Due)->Option (List Due)
 | 0,_=>none
 | k1+1,(t8,l9)=>cnd (decide (t8<(d.length:Int))) (bnd (idx d t8) fun c=>bnd (zDH fu c a.2.2.1 a.2.2.2.2.1 a.2.2.2.2.2.1 a.2.2.2.2.2.2.1 a.2.2.2.2.2.2.2.1 a.2.2.2.2.2.2.2.2.1 a.2.2.2.2.2.2.2.2.2.1) fun b=>cnd b.2 (bnd (zCq fu b.1 c (⟨7,0,[],false,false,[],[],0,0,false⟩:Todo) l9) fun g=>bnd (rng .i64 (t8+1)) fun e=>(zFH fu a d k1) (e,g)) (bnd (rng .i64 (t8+1)) fun f=>(zFH fu a d k1) (f,l9))) (some l9)
def zKV (fu:Nat) (d:Forest) (b:List State) (e:Desk) (a:List Class) (g:Int):Option (List Due):=bnd (zH7 fu d b e a) fun c=>cnd (!c.2.1) (some []) (bnd (zHe fu d g) fun f=>(zFH fu c f) fu (0,c.2.2.2.2.2.2.2.2.2.2))
theorem zTv {fu:Nat} {i:Forest} {b:List State} {h:Desk} {a:List Class} {k:Int}:DD (zKV fu i b h a k) 132 [.agg (zAE i),.sl 4 false (b.map zBM),.agg (zI4 h),.sl 5 false (a.map zBh),Z k] fun r=>.sl 11 false (r.map zJi):=by
 refine fcI Tryz.func132 U (A [9,30,5,30,7,57,76,43] (fun j _=>?_) zMZ [(17,2102200),(2130,2102201),(31708,2102202)] [2102200,2102201,2102202])
 refine A [105,0,6,62] ?_
 refine zAF U ?_ ?_
 ·refine A [58] ?_
  exact zHt 10 (q:=.sl 11 false ([].map zJi)) U .nil rN
 ·refine A [68,99] (fun m _=>?_) zQh
  refine A [77,13] ?_
  refine lw (zFH fu j m) [11,29,30] [2102200,2102201] (fun (g,c)=>[(31,Z g)]) (fun (g,c)=>[(2102202,.arr 171 11 (c.map zJi))]) fu (0,j.2.2.2.2.2.2.2.2.2.2) U U ?_
  rintro o ⟨g,c⟩
  refine A [75,10,7,86,9,105,0,34,2102202,8,72,9,36] fun n _=>?_
  refine A [2,0,61,44] (fun l _=>?_) zG2 [(900000,2102200),(900001,2102201),(900002,2102202)]
  refine A [3,31,15,92,58] ?_
  refine zAF U ?_ ?_
  ·refine A [14,3,20,43] (fun f _=>?_) zE4 [(900000,2102200),(900001,2102201),(900002,2102202)] [2102202]
   refine A [11,94] fun d _=>?_
   exact A [89] (tx (d,f))
  ·refine A [4,94] fun e _=>?_
   exact A [89] (tx (e,c))
def zIT (fu:Nat) (g:Forest) (a:List State) (f:Desk) (b:List Class) (d:Int) (i:Bs):Option (List Due):=bnd (zH7 fu g a f b) fun c=>cnd (!c.2.1) (some []) (cnd (decide (d<0)) (some []) (cnd (decide (d>=(a.length:Int))) (some []) (bnd (zDH fu d c.2.2.1 c.2.2.2.2.1 c.2.2.2.2.2.1 c.2.2.2.2.2.2.1 c.2.2.2.2.2.2.2.1 c.2.2.2.2.2.2.2.2.1 c.2.2.2.2.2.2.2.2.2.1) fun e=>cnd e.2 (bnd (zCq fu e.1 d (⟨8,0,[],false,false,[],i,0,0,false⟩:Todo) c.2.2.2.2.2.2.2.2.2.2) fun h=>some h) (some c.2.2.2.2.2.2.2.2.2.2))))
theorem zRQ {fu:Nat} {d:Forest} {b:List State} {c:Desk} {a:List Class} {e:Int} {f:Bs}:DD (zIT fu d b c a e f) 133 [.agg (zAE d),.sl 4 false (b.map zBM),.agg (zI4 c),.sl 5 false (a.map zBh),Z e,O f] fun r=>.sl 11 false (r.map zJi):=by
 refine fcI Tryz.func133 U (A [9,30,6,30,8,57,76,43] (fun g _=>?_) zMZ [(17,2102200),(2130,2102201),(31708,2102202)] [2102200,2102201,2102202])
 refine A [105,0,6,93] ?_
 refine zAW (j:=27) U ?_ ?_
 ·refine A [109,65,58] ?_
  exact zHt 12 (q:=.sl 11 false ([].map zJi)) U .nil rN
 ·refine pq 4 U (zAW (j:=31) U ?_ ?_)
  ·refine A [105,65,58] ?_
   exact zHt 12 (q:=.sl 11 false ([].map zJi)) U .nil rN
  ·refine A [2,35,2,0] ?_
   refine zAF U ?_ ?_
   ·refine A [58] ?_
    exact zHt 12 (q:=.sl 11 false ([].map zJi)) U .nil rN
   ·refine A [68,61,44] (fun h _=>?_) zG2 [(900000,2102200),(900001,2102201),(900002,2102202)]
    refine A [3,31,15,92,58,10,7,67,9,105,0,34,2102202,8,14,104,20,43] (fun i _=>?_) zE4 [(900000,2102200),(900001,2102201),(900002,2102202)] [2102202]
    exact A [0,9,105,0,34,2102202,8]
def zE3 (fu:Nat) (b:Op) (a:zAM):Option (Int×Bool×zAM):=bnd (idx a.World.Forest.Nodes b.A) fun e=>cnd (b.Kind==17) (bnd (zJA fu b.S a) fun f=>some (f.1,true,f.2)) (cnd (b.Kind==18) (bnd (zKW fu a.World.Forest b.A a.World.Desk) fun i=>bnd (zCs fu (fun l=>zCv fu l a) i) fun j=>bnd (zBc fu j a) fun g=>some (g.1,true,g.2)) (cnd (b.Kind==23) (cnd (e.Kind != 1) (some (5,true,a)) (cnd (!(e.Name==([102,111,114,109]:Bs))) (some (5,true,a)) (bnd (zKV fu a.World.Forest a.World.States a.World.Desk a.World.Classes b.A) fun k=>bnd (zBc fu k a) fun h=>some (h.1,true,h.2)))) (cnd (b.Kind==24) (cnd (e.Kind != 1) (some (5,true,a)) (bnd (zIT fu a.World.Forest a.World.States a.World.Desk a.World.Classes b.A b.S) fun d=>bnd (zBc fu d a) fun c=>some (c.1,true,c.2))) (some (0,false,a)))))
theorem zQc {fu:Nat} {b:Op} {a:zAM}:FF (zE3 fu b a) 83 [.loc 900000 0,.agg (cOp b)] [(900000,.box 99 (zB9 a))] [900000] (fun r=>.tup [Z r.1,Y r.2.1]) fun r=>[(900000,.box 99 (zB9 r.2.2))]:=by
 refine fcI Tryz.func83 U (A [73,30,3,2,0,6,52,2,3,2,3,3,2,900000,53,12,0,1,3,7,15,31,0,64,255,511,0,2047,208] ?_)
 refine vT [26,30] [32] [] U U (zAw (T:=tab) zAZ a.World.Forest.Nodes U U U U U U U fun f _=>pzq U) (fun _=>U) (fun _=>U) fun f _=>vq 1 U (by kernel_rfl) (vS [] [12,13] [6] U U (zGV (T:=tab) 6 U U U U U U U U U (pyq U)) U U (A [50,3,1,12,13,34,13,79,6,62,13,62] ?_))
 refine zAF U ?_ ?_
 ·refine A [93,43] (fun g _=>?_) zPU [(900000,900000)]
  exact A [2,74]
 ·refine A [62] ?_
  refine zAF U ?_ ?_
  ·refine A [6,52,2,3,2,3,3,2,900000,53,14,0,1,3,7,15,0,32,0,128,384,896,1920,4095,8191,212,55,3,2,64,68,78,80,4801] (fun h _=>?_) zTx [(1027,2400)] [2400]
   refine A [201,79,6,52,2,3,2,7,2400,2,900000,53,7,0,0,0,6,15,31,63,203,55,6,4,5,14,84,86,4801,1800001,88,14,84,4801] (fun i _=>?_) zJw [(900000,2400),(900001,2),(900002,900000)] [2400]
   exact vT [82,88,4801,1800001] [90,88,4801,1800001] [] U U (zGu 2400 U U U (tqG (rn:=[(900000,900000)]) (ks:=[]) ⟨zFG⟩ U U U U U U U U fun e _=>pzq U)) (fun _=>U) (fun _=>U) fun e _=>A [202,79,8]
  ·refine A [62] ?_
   refine zAF U ?_ ?_
   ·refine A [6,76,26,51,4,104,65,62,8,104,0,5,2,62,8,68,52,2,3,2,3,3,2,900000,53,27,0,0,2,6,14,30,0,64,192,448,960,0,2048,6144,14336,30720,0,65536,196608,458752,983040,0,2097152,8388606,16777215,33554431,67108863,223,54,5,1,122,132,142,152,156,158] (fun j _=>?_) zTv
    refine A [55,3,2,112,158,1800001,160,1800001] (fun k _=>?_) zFG [(900000,900000)]
    exact A [202,79,8]
   ·refine A [62,10,4,4,69,62,8,6,93,0,5,2,62,8,68,52,2,3,2,3,3,2,900000,53,29,0,0,2,6,14,30,0,64,192,448,960,0,2048,6144,14336,30720,0,65536,196608,458752,983040,0,2097152,0,8388608,33554430,67108863,134217727,268435455,225,54,6,1,182,192,202,212,216,220,222] (fun c _=>?_) zRQ
    refine A [55,3,2,172,222,1800001,224,1800001] (fun d _=>?_) zFG [(900000,900000)]
    exact A [202,79,8]
def zAg (_fu:Nat) (a:List Attr):Option (List Attr):=bnd (zDY 32 (([]:List Attr).length+a.length)) fun _=>some (([]:List Attr)++a)
theorem zBs {fu:Nat} {a:List Attr}:FF (zAg fu a) 102 [.sl 2 false (a.map zDf)] [] [] (fun _=>.own 5) fun r=>[(5,.arr 198 2 (r.map zDf))]:=by
 refine fcI Tryz.func102 U (A [75,80] ?_)
 refine zId (T:=tab) U U U U U U fun b d=>?_
 cases b
 ·refine A [0,23,67,9] ?_
  exact pl (([]:List Attr).map zDf) 5 U U U U U U (pq 1 U (pa zDf ([]:List Attr) a U U U U U U U U (zRn _) U U U (A [57,8])))
 ·have c:a=[]:=eZ.1 (d rfl)
  exact zKy (m':=some ([]:List Attr)) (by subst c;rfl) (A [0,25,58,56,5,198,2,2,8])
def zAq (_fu:Nat) (a:List Node):Option (List Node):=bnd (zDY 136 (([]:List Node).length+a.length)) fun _=>some (([]:List Node)++a)
theorem zBt {fu:Nat} {a:List Node}:FF (zAq fu a) 153 [.sl 10 false (a.map zAZ)] [] [] (fun _=>.own 5) fun r=>[(5,.arr 77 10 (r.map zAZ))]:=by
 refine fcI Tryz.func153 U (A [75,80] ?_)
 refine zId (T:=tab) U U U U U U fun b d=>?_
 cases b
 ·refine A [0,23,67,9] ?_
  exact pl (([]:List Node).map zAZ) 5 U U U U U U (pq 1 U (pa zAZ ([]:List Node) a U U U U U U U U (zOv _) U U U (A [57,8])))
 ·have c:a=[]:=eZ.1 (d rfl)
  exact zKy (m':=some ([]:List Node)) (by subst c;rfl) (A [0,25,58,56,5,77,10,2,8])
def zGm (fu:Nat) (a:Forest) (b c:Node) (d:Int):Option (Forest×Int×Int):=bnd (zAg fu b.Attrs) fun f=>bnd (zCx fu (⟨a⟩:zAQ)) fun h=>cnd (!h) (some (a,(-1),1)) (bnd (zGn fu ({c with Name:=b.Name,Is:=b.Is,Data:=b.Data,Attrs:=f,Doc:=d}:Node)) fun i=>cnd (!i) (some (a,(-1),1)) (cnd (c.Kind==4) (some (a,(-1),1)) (cnd (c.Kind != 0) (bnd (zDR fu (⟨a⟩:zAQ) d 0) fun j=>cnd (!j) (some (a,(-1),1)) (cnd ((a.Nodes.length:Int)==a.Most) (some (a,(-1),8)) (bnd (zAq fu a.Nodes) fun g=>bnd (zDY 136 (g.length+([({c with Name:=b.Name,Is:=b.Is,Data:=b.Data,Attrs:=f,Doc:=d}:Node)]:List Node).length)) fun _=>some ((⟨(g++[({c with Name:=b.Name,Is:=b.Is,Data:=b.Data,Attrs:=f,Doc:=d}:Node)]),a.Most⟩:Forest),(a.Nodes.length:Int),0)))) (cnd ((a.Nodes.length:Int)==a.Most) (some (a,(-1),8)) (bnd (zAq fu a.Nodes) fun e=>bnd (zDY 136 (e.length+([({c with Name:=b.Name,Is:=b.Is,Data:=b.Data,Attrs:=f,Doc:=d}:Node)]:List Node).length)) fun _=>some ((⟨(e++[({c with Name:=b.Name,Is:=b.Is,Data:=b.Data,Attrs:=f,Doc:=d}:Node)]),a.Most⟩:Forest),(a.Nodes.length:Int),0))))))
def zDZ (fu:Nat) (b:Forest) (a:Node):Option (Forest×Int×Int):=bnd (zJV fu a.Kind a.Doc) fun c=>cnd (a.Kind==0) ((zGm fu b a c) (b.Nodes.length:Int)) ((zGm fu b a c) c.Doc)
theorem zIU {fu:Nat} {e:Forest} {a:Node}:DD (zDZ fu e a) 200 [.agg (zAE e),.agg (zAZ a)] fun r=>.tup [.agg (zAE r.1),Z r.2.1,Z r.2.2]:=by
 refine fcI Tryz.func200 U (A [73,30,3,31,4,2,0,61,77,76,41] (fun b _=>?_) zNu)
 refine A [31,8,12,0,6,93,0] ?_
 refine jw (zGm fu e a b) [2,3,4,7,8] [4,3,2] (fun _=>[]) (fun c=>[(8,.box 77 [Z b.Kind,O b.Name,O b.Is,O b.Data,.sl 2 false (b.Attrs.map zDf),Z b.Parent,.sl 1 false (b.Kids.map zAB),Z b.Host,Z b.Under,Z c])]) U U ?_ fun d=>?_
 ·rintro c
  refine A [7,6,52,5,4,2,3,4,7,8,8,4,3,2,53,17,0,1,0,4,0,16,0,64,192,3,963,1999,4047,8191,16383,32767,65535,208,55,1,2,60,62,4621] (fun f _=>?_) zBs [(5,2310)] [2310]
  refine A [201,50,3,1,17,48,64,17,201,50,3,1,17,52,66,17,201,50,3,1,17,56,68,17,201,50,4,1,17,62,70,4621,17,79,80,20,31,9,12,0,6,13,80,41] (fun i _=>?_) zGb
  refine A [2,26,42,6,122,65,80,12,2,74,1,33,2310,41] (fun k _=>?_) zMb
  refine A [3,26,47,6,117,65,80,12,2,74,105,26,52,6,112,65,80,12,2,74,104] ?_
  refine zAW (j:=56) U ?_ ?_
  ·refine A [3,41] (fun l _=>?_) zGK
   refine A [104,0,5,4,80,12,2,74,9,105,0,5,4,80,12,2,74,4,69,6,52,4,3,2,4,7,8,8,4,2,53,8,0,1,3,0,8,31,63,127,202,55,1,2,144,146,5461] (fun h _=>?_) zBt [(5,2730)] [2730]
   exact vq 1 U (by kernel_rfl) (vS [148] [150,151] [75] U U (pl ([({b with Name:=a.Name,Is:=a.Is,Data:=a.Data,Attrs:=f,Doc:=c}:Node)].map zAZ) 75 U U U U U U (pyq U)) U U (vU [146,150,151,5461] [152,146,5461] [2730] U U (pa zAZ h ([({b with Name:=a.Name,Is:=a.Is,Data:=a.Data,Attrs:=f,Doc:=c}:Node)]:List Node) U U U U U U U U (zOv _) U U U (pyq U)) U U fun _ _=>A [201,50,4,1,5,152,154,5461,5,79,61,12,2,0,34,2730,8]))
  ·refine A [108,11,24,9,105,0,5,4,80,12,2,74,4,69,6,52,4,3,2,4,7,8,8,4,2,53,8,0,1,3,0,8,31,63,127,202,55,1,2,144,146,5461] (fun g _=>?_) zBt [(5,2730)] [2730]
   exact vq 1 U (by kernel_rfl) (vS [148] [150,151] [75] U U (pl ([({b with Name:=a.Name,Is:=a.Is,Data:=a.Data,Attrs:=f,Doc:=c}:Node)].map zAZ) 75 U U U U U U (pyq U)) U U (vU [146,150,151,5461] [152,146,5461] [2730] U U (pa zAZ g ([({b with Name:=a.Name,Is:=a.Is,Data:=a.Data,Attrs:=f,Doc:=c}:Node)]:List Node) U U U U U U U U (zOv _) U U U (pyq U)) U U fun _ _=>A [201,50,4,1,5,152,154,5461,5,79,61,12,2,0,34,2730,8]))
 ·refine zAF U ?_ ?_
  ·exact A [14,2,12,11,45] (d (e.Nodes.length:Int))
  ·exact A [4,45] (d b.Doc)
def zDQ (fu:Nat) (a:Node) (b:zAM):Option (zBd×zAM):=bnd (idx b.World.Forest.Nodes a.Doc) fun k=>cnd (k.Kind != 0) (some ((⟨(⟨[],0⟩:Forest),[],5⟩:zBd),b)) (bnd (zGM fu a.Name) fun g=>cnd (a.Kind==1) (cnd (g.2 != 0) (some ((⟨(⟨[],0⟩:Forest),[],4⟩:zBd),b)) (cnd (!(a.Is==([]:Bs))) (bnd (zC7 fu a.Is) fun h=>cnd (!h) (some ((⟨(⟨[],0⟩:Forest),[],4⟩:zBd),b)) (bnd (zEa fu a.Name) fun i=>bnd (zDZ fu b.World.Forest ({a with Name:=i}:Node)) fun e=>some ((⟨e.1,[],e.2.2⟩:zBd),(⟨b.World,e.2.1⟩:zAM)))) (bnd (zEa fu a.Name) fun j=>bnd (zDZ fu b.World.Forest ({a with Name:=j}:Node)) fun f=>some ((⟨f.1,[],f.2.2⟩:zBd),(⟨b.World,f.2.1⟩:zAM))))) (bnd (zEa fu a.Name) fun d=>bnd (zDZ fu b.World.Forest ({a with Name:=d}:Node)) fun c=>some ((⟨c.1,[],c.2.2⟩:zBd),(⟨b.World,c.2.1⟩:zAM))))
theorem zH5 {fu:Nat} {e:Node} {b:zAM}:FF (zDQ fu e b) 134 [.loc 900000 0,.agg (zAZ e)] [(900000,.box 99 (zB9 b))] [900000] (fun r=>.agg (zNB r.1)) fun r=>[(900000,.box 99 (zB9 r.2))]:=by
 refine fcI Tryz.func134 U (A [9,30,3,31,4,0,6,6,52,3,3,0,3,4,4,3,900000,53,12,0,1,3,7,15,31,0,64,255,511,1023,2047,208] ?_)
 refine vT [30,34] [36] [] U U (zAw (T:=tab) zAZ b.World.Forest.Nodes U U U U U U U fun g _=>pzq U) (fun _=>U) (fun _=>U) fun g _=>A [203,79] ?_
 refine zAF U ?_ ?_
 ·refine A [9,20,12,0] ?_
  exact zGG 4 [.sl 10 false ([].map zAZ),Z 0,.sl 9 false ([].map zBL),Z 5] U ⟨.nil,.rfl,.nil,.rfl,trivial⟩ U rN
 ·refine A [67,99] (fun h _=>?_) zIC
  refine A [105,0,6,76] ?_
  refine zAW (j:=32) U ?_ ?_
  ·refine pq 3 U (zAW (j:=35) U ?_ ?_)
   ·refine A [111,65,9,20,12,0] ?_
    exact zGG 4 [.sl 10 false ([].map zAZ),Z 0,.sl 9 false ([].map zBL),Z 4] U ⟨.nil,.rfl,.nil,.rfl,trivial⟩ U rN
   ·refine pq 4 U (zAW (j:=39) U ?_ ?_)
    ·refine A [2,41] (fun i _=>?_) zEv
     refine A [104,0] ?_
     refine zAF U ?_ ?_
     ·refine A [9,20,12,0] ?_
      exact zGG 4 [.sl 10 false ([].map zAZ),Z 0,.sl 9 false ([].map zBL),Z 4] U ⟨.nil,.rfl,.nil,.rfl,trivial⟩ U rN
     ·refine A [67,99] (fun k _=>?_) zHc
      refine A [1,12,0,6,88,206,54,2,1,114,116,118] (fun c _=>?_) zIU
      refine vq 4 U (by kernel_rfl) (vS [] [14,15] [7] U U (zGV (T:=tab) 7 U U U U U U U U U (pyq U)) U U (A [50,3,1,14,15,120,15,202,79,76,12,0,61,20,12,0] ?_))
      exact zGG 4 [.sl 10 false (c.1.Nodes.map zAZ),Z c.1.Most,.sl 9 false ([].map zBL),Z c.2.2] U ⟨.rfl,.rfl,.nil,.rfl,trivial⟩ U rN
    ·refine A [107,11,24,67,99] (fun l _=>?_) zHc
     refine A [1,12,0,6,88,206,54,2,1,114,116,118] (fun d _=>?_) zIU
     refine vq 4 U (by kernel_rfl) (vS [] [14,15] [7] U U (zGV (T:=tab) 7 U U U U U U U U U (pyq U)) U U (A [50,3,1,14,15,120,15,202,79,76,12,0,61,20,12,0] ?_))
     exact zGG 4 [.sl 10 false (d.1.Nodes.map zAZ),Z d.1.Most,.sl 9 false ([].map zBL),Z d.2.2] U ⟨.rfl,.rfl,.nil,.rfl,trivial⟩ U rN
  ·refine A [114,11,24,67,99] (fun f _=>?_) zHc
   refine A [1,12,0,6,88,206,54,2,1,114,116,118] (fun a _=>?_) zIU
   refine vq 4 U (by kernel_rfl) (vS [] [14,15] [7] U U (zGV (T:=tab) 7 U U U U U U U U U (pyq U)) U U (A [50,3,1,14,15,120,15,202,79,76,12,0,61,20,12,0] ?_))
   exact zGG 4 [.sl 10 false (a.1.Nodes.map zAZ),Z a.1.Most,.sl 9 false ([].map zBL),Z a.2.2] U ⟨.rfl,.rfl,.nil,.rfl,trivial⟩ U rN
def zLo (_fu:Nat):Option (List Bs):=some [[100,105,118],[112],[115,112,97,110]]
theorem zSn {fu:Nat}:DD (zLo fu) 201 [] fun r=>.sl 1 false (r.map zQ6):=by
 refine fcI Tryz.func201 U (A [58,9] ?_)
 exact pl ([[100,105,118],[112],[115,112,97,110]].map zQ6) 1 U U U U U U (A [57,34,1,8])
def zF6 (fu:Nat) (a:Forest) (b:Int) (c:Node) (f:Unit):Option (Forest×Int×Int):=cnd (c.Under != (-1)) (some (a,(-1),10)) (cnd ((a.Nodes.length:Int)==a.Most) (some (a,(-1),8)) (bnd (zAq fu a.Nodes) fun d=>bnd (zDY 136 (d.length+([(⟨4,[],[],[],[],(-1),[],b,(-1),c.Doc⟩:Node)]:List Node).length)) fun _=>bnd (idx (d++[(⟨4,[],[],[],[],(-1),[],b,(-1),c.Doc⟩:Node)]) b) fun e=>some ((⟨((d++[(⟨4,[],[],[],[],(-1),[],b,(-1),c.Doc⟩:Node)]).set (b).toNat ({e with Under:=(a.Nodes.length:Int)}:Node)),a.Most⟩:Forest),(a.Nodes.length:Int),0)))
def zIW (fu:Nat) (a:Forest) (c:Int):Option (Forest×Int×Int):=bnd (zCB fu a [c]) fun d=>cnd (!d) (some (a,(-1),1)) (bnd (idx a.Nodes c) fun b=>cnd (b.Kind != 1) (some (a,(-1),5)) (bnd (zC7 fu b.Name) fun e=>cnd (!e) (bnd (zLo fu) fun f=>bnd (zBB fu f b.Name) fun g=>cnd (!g) (some (a,(-1),5)) ((zF6 fu a c b) ())) ((zF6 fu a c b) ())))
theorem zRe {fu:Nat} {c:Forest} {a:Int}:DD (zIW fu c a) 135 [.agg (zAE c),Z a] fun r=>.tup [.agg (zAE r.1),Z r.2.1,Z r.2.2]:=by
 refine fcI Tryz.func135 U (A [73,31,4,2,0,6,61] ?_)
 refine pl ([a].map zAB) 11 U U U U U U (A [33,11,41] (fun i _=>?_) zIX)
 refine A [57,5,4,80,12,2,74,67,93,36] fun b _=>?_
 refine A [1,31,7,12,0,6,13,6,52,4,3,1,2,4,7,7,4,2,53,17,0,1,3,7,15,31,63,127,255,511,511,1535,4095,8191,16383,32767,65535] ?_
 refine zcK (zF6 fu c a b) (fun (_:Unit)=>[(1,Z a),(2,.loc 2 0),(4,.loc 4 0),(7,.loc 7 0)]) (fun (_:Unit)=>[(7,.box 77 (zAZ b)),(4,.box 24 [.v (.slice none 0 0),Z 0]),(2,.box 24 (zAE c))]) ?_ fun d=>?_
 ·rintro _
  refine A [76,0,5,4,80,12,2,74,61,35,104,0,5,4,80,12,2,74,4,69,61,77,6,52,5,3,1,2,4,7,8,7,4,2,53,11,0,1,3,0,0,16,56,120,255,511,1023,202,55,1,2,110,112,5121] (fun g _=>?_) zBt [(5,2560)] [2560]
  refine A [203,51,2,1,114,118,120] ?_
  refine vS [120] [122,120,123] [61] U U (zcP 60 U (.agg (ds:=[Z 4,O [],O [],O [],.sl 2 false ([].map zDf),Z (-1),.sl 1 false ([].map zAB),Z a,Z (-1),Z b.Doc]) ⟨.rfl,.rfl,.rfl,.rfl,.nil,.rfl,.nil,.rfl,.rfl,.rfl,trivial⟩) (pl ([(⟨4,[],[],[],[],(-1),[],a,(-1),b.Doc⟩:Node)].map zAZ) 61 U U U U U U (pyq U))) U U (vU [112,122,123,5121] [124,112,5121] [2560] U U (pa zAZ g ([(⟨4,[],[],[],[],(-1),[],a,(-1),b.Doc⟩:Node)]:List Node) U U U U U U U U (zOv _) U U U (pyq U)) U U fun _ _=>A [201,50,4,1,5,124,126,5121,5,79,76,38] fun h e=>?_)
  exact pq 1 U (zCr (T:=tab) zAZ (g++[(⟨4,[],[],[],[],(-1),[],a,(-1),b.Doc⟩:Node)]) h ({h with Under:=(c.Nodes.length:Int)}:Node) (zAy e) U U U U U U U U U U U U U (A [0,61,12,2,0,34,2560,8]))
 ·refine vq 4 U (by kernel_rfl) (zA3 (t:=24) U ?_ ?_)
  ·exact A [213,19,18,80,12,2,74]
  ·refine A [202,54,2,1,48,52,54] (fun j _=>?_) zEv
   refine vq 2 U (by kernel_rfl) (zA3 (t:=29) U ?_ ?_)
   ·refine vT [58] [60] [] U U (zKx (enc:=fun (f:(List Bs))=>.sl 1 false (f.map zQ6)) (qs:=[]) zSn U U trivial (fun _=>U) zgM U U fun f _=>pzq U) (fun _=>U) (fun _=>U) fun f _=>A [202,54,3,1,58,60,64,66] (fun k _=>?_) zC8
    refine A [204,79,5,4,80,12,2,74] ?_
    exact zXs (d ()) ⟨U,U,U,U,trivial⟩ ⟨U,U,U,trivial⟩ U
   ·refine A [208,19,24] ?_
    exact zXs (d ()) ⟨U,U,U,U,trivial⟩ ⟨U,U,U,trivial⟩ U
def zFo (_fu:Nat) (a:Int) (b:Forest):Option Bool:=cnd (decide (a<0)) (some true) (some (decide (a>=(b.Nodes.length:Int))))
theorem zRg {fu:Nat} {b:Int} {a:Forest}:FF (zFo fu b a) 257 [Z b,.loc 900000 0] [(900000,.box 24 (zAE a))] [900000] (fun r=>Y r) fun _=>[(900000,.box 24 (zAE a))]:=by
 exact fcI Tryz.func257 U (A [58,93,26,6,2,107,74,3,35,3,74])
theorem zKK {fu:Nat} {b:List Int} {a:Forest}:FF (zAV fu (fun c=>zFo fu c a) b) 227 [.sl 1 false (b.map zAB),.fn (.func 257) [] [.loc 900000 0]] [(900000,.box 24 (zAE a))] [900000] (fun r=>Z r) fun _=>[(900000,.box 24 (zAE a))]:=by
 refine fcI Tryz.func227 U (A [75,80,77,13] ?_)
 refine lw (zAL (fun c=>zFo fu c a) b) [0,1,7] [900000] (fun d=>[(8,Z d)]) (fun _=>[]) fu 0 U U ?_
 rintro f d
 refine A [75,10,2,86,59,72,62,93,36] fun h _=>?_
 refine A [1,44] (fun g _=>?_) zRg [(900000,900000)]
 refine A [0,5,2,62,8,4,94] fun e _=>?_
 exact A [89] (tx e)
theorem zJE {fu:Nat} {b:List Int} {a:Forest}:FF (zAd fu (fun c=>zFo fu c a) b) 156 [.sl 1 false (b.map zAB),.fn (.func 257) [] [.loc 900000 0]] [(900000,.box 24 (zAE a))] [900000] (fun r=>Y r) fun _=>[(900000,.box 24 (zAE a))]:=by
 refine fcI Tryz.func156 U (A [58,61,44] (fun d _=>?_) zKK [(900000,900000)])
 exact A [2,74]
def zFE (fu:Nat) (a:Forest) (l2:List Int):Option Bool:=bnd (zAs fu a) fun b=>cnd b (bnd (zAd fu (fun d=>zFo fu d a) l2) fun c=>some (!c)) (some false)
theorem zHj {fu:Nat} {a:Forest} {l2:List Int}:DD (zFE fu a l2) 202 [.agg (zAE a),.sl 1 false (l2.map zAB)] fun r=>Y r:=by
 refine fcI Tryz.func202 U (A [73,57,80,41] (fun b _=>?_) zA8)
 refine A [1,27,7,2,106,74,2,44] (fun c _=>?_) zJE [(900000,2)]
 exact A [3,74]
def zLC (fu:Nat) (b:Forest) (a:Int):Option Bool:=bnd (zFE fu b [a]) fun c=>cnd c (bnd (idx b.Nodes a) fun d=>some (d.Kind==0)) (some false)
theorem zRf {fu:Nat} {b:Forest} {a:Int}:DD (zLC fu b a) 203 [.agg (zAE b),Z a] fun r=>Y r:=by
 refine fcI Tryz.func203 U (A [73,57,61] ?_)
 refine pl ([a].map zAB) 7 U U U U U U (A [33,7,41] (fun c _=>?_) zHj)
 refine A [1,27,9,2,109,74,3,36] fun d _=>?_
 exact A [105,74]
def zIH (_fu:Nat) (c:Int) (d e f:Bs) (g:List Attr) (h i j k:Int) (a:List (Node×Bool)):Option (Int×(List (Node×Bool))):=bnd (zDY 136 (a.length+1)) fun _=>bnd (rng .i64 ((((a++[((⟨c,d,e,f,g,h,[],i,j,k⟩:Node),true)]).length:Nat):Int) - 1)) fun b=>some (b,(a++[((⟨c,d,e,f,g,h,[],i,j,k⟩:Node),true)]))
theorem zOl {fu:Nat} {b:Int} {c d e:Bs} {f:List Attr} {g h i j k:Int} {c11:Bool} {a:List (Node×Bool)}:FF (zIH fu b c d e f g h i j a) 281 [.loc 900000 0,.agg [Z b,O c,O d,O e,.sl 2 false (f.map zDf),Z g,.v (.slice none 0 0),Z h,Z i,Z j]] [(900000,.box 288 [.own 900001,Z k,Y c11]),(900001,.tre 77 10 6 3 (a.map nB))] [900000] (fun r=>Z r.1) fun r=>[(900000,.box 288 [.own 900001,Z k,Y c11]),(900001,.tre 77 10 6 3 (r.2.map nB))]:=by
 refine fcI Tryz.func281 U (A [9,30,3,57,6,52,2,3,0,3,3,900000,900001,53,13,0,0,2,6,14,30,0,64,254,511,1023,2047,4095,207] ?_)
 refine vS [22] [24,25] [12] U U (pl ([[Z b,O c,O d,O e,.sl 2 false (f.map zDf),Z g,.v (.slice none 0 0),Z h,Z i,Z j]]) 12 U U U U U U (pyq U)) U U (vU [20,24,25,1800001,1800003] [26,20,1800001,1800003] [900001] U U (zUp (T:=tab) a.length [Z b,O c,O d,O e,.sl 2 false (f.map zDf),Z g,.v (.slice none 0 0),Z h,Z i,Z j] (zAZ (⟨b,c,d,e,f,g,[],h,i,j⟩:Node),true) 1 (by simp) (zdf (nB) a ((⟨b,c,d,e,f,g,[],h,i,j⟩:Node),true)) (.inr ⟨U,U,U⟩) U U U U U U U U U U U U U U U U U U U U (pyq U)) U U fun _ _=>A [203,50,4,1,26,32,1800001,1800003,1800001,79,9,105] ?_)
 refine zNP (T:=tab) (l:=(a++[((⟨b,c,d,e,f,g,[],h,i,j⟩:Node),true)]).length) U U U U U U U (by simp) U U (A [16] fun m _=>?_)
 exact A [57,8]
def zCN (fu:Nat) (j1:zBi) (l4:List (Node×Bool)) (d:Node×Bool) (e:List Attr) (f:Int×Int):Option (Int×Int×(List (Node×Bool))):=match f with
 | (c7,c)=>bnd (zIH fu c7 d.1.Name d.1.Is d.1.Data e j1.under (-1) (-1) c l4) fun b=>cnd (j1.under != (-1)) (bnd (idx b.2 j1.under) fun a=>bnd (zSw a.2) fun _=>bnd (zDY 8 (a.1.Kids.length+([b.1]:List Int).length)) fun _=>bnd (idx b.2 j1.under) fun g=>some (b.1,c,(b.2.set (j1.under).toNat (({a.1 with Kids:=(a.1.Kids++[b.1])}:Node),true)))) (some (b.1,c,b.2))
def zE2 (fu:Nat) (j1:zBi) (l4:List (Node×Bool)):Option (Int×Int×(List (Node×Bool))):=bnd (idx l4 j1.n) fun a=>bnd (zQP a.2) fun _=>bnd (zAg fu a.1.Attrs) fun b=>cnd (a.1.Kind==0) ((zCN fu j1 l4 a b) (a.1.Kind,(l4.length:Int))) (cnd (a.1.Kind==4) ((zCN fu j1 l4 a b) (3,j1.doc)) ((zCN fu j1 l4 a b) (a.1.Kind,j1.doc)))
theorem zMn {fu:Nat} {j1:zBi} {j:Int} {k:Bool} {l4:List (Node×Bool)}:FF (zE2 fu j1 l4) 259 [.loc 900000 0,.agg (zGr j1)] [(900000,.box 288 [.own 900001,Z j,Y k]),(900001,.tre 77 10 6 3 (l4.map nB))] [900000] (fun r=>.tup [Z r.1,Z r.2.1]) fun r=>[(900000,.box 288 [.own 900001,Z j,Y k]),(900001,.tre 77 10 6 3 (r.2.2.map nB))]:=by
 refine fcI Tryz.func259 U (A [9,30,3,2,0,6,52,2,3,0,3,3,900000,900001,53,11,0,1,3,7,15,0,32,127,255,0,1023,207] ?_)
 refine vT [26,30,1800003] [32] [] U U (zBW (T:=tab) l4 (by simp) U U U U U U U U fun e g=>pzq U) (fun _=>U) (fun _=>U) fun e g=>vU [32,1800003] [34] [] U U (zOV (T:=tab) (zHv (f:=nB) (zAy g)) U U U U U U U U (pyq U)) U U fun _ _=>vS [] [12,13] [6] U U (zGV (T:=tab) 6 U U U U U U U U U (pyq U)) U U (A [50,3,1,12,13,34,13,79,6,52,3,4,0,3,6,6,3,900000,900001,53,18,0,1,0,4,0,16,0,64,0,256,768,0,2048,0,8192,32767,0,131071,210,55,1,2,54,56,4561] (fun o _=>?_) zBs [(5,2280)] [2280])
 refine A [204,51,8,1,38,42,46,50,56,60,64,4561,66] ?_
 refine vS [] [14,15] [7] U U (zGV (T:=tab) 7 U U U U U U U U U (pyq U)) U U (A [50,4,1,14,15,66,4561,15,79,6,62] ?_)
 refine jw (zCN fu j1 l4 e o) [0,3,7] [2280,3,900000,900001] (fun _=>[]) (fun (m,n)=>[(7,.box 77 [Z m,O e.1.Name,O e.1.Is,O e.1.Data,.own 2280,Z j1.under,.v (.slice none 0 0),Z (-1),Z (-1),Z n])]) U U ?_ fun d=>?_
 ·rintro ⟨m,n⟩
  refine A [7,61,33,2280,43] (fun h _=>?_) zOl [(900000,900000),(900001,900001)] [900001]
  refine A [57,6,93,0,10,19,68,52,2,3,7,8,7,900000,900001,53,5,0,0,2,1,15,205,79,8,52,4,4,0,3,7,8,900000,900001,7,3,53,23,0,1,3,7,15,0,32,0,128,384,896,1920,0,4096,16256,32640,65408,0,131072,524160,1048575,2097151,4194303,214] ?_
  exact vT [130,134,1800003] [136] [] U U (zBW (T:=tab) h.2 (by simp) U U U U U U U U fun a b=>pzq U) (fun _=>U) (fun _=>U) fun a b=>vq 1 U (by kernel_rfl) (vU [138,1800003] [140,1800003,1400141] [700070] U U (zUt (T:=tab) 700070 (zHv (f:=nB) (zAy b)) U U U U U U U U U U U U U U U (pyq U)) U U fun _ _=>vq 1 U (by kernel_rfl) (vS [142] [144,145] [72] U U (pl ([h.1].map zAB) 72 U U U U U U (pyq U)) U U (vU [140,144,145,1400141,1800003] [146,140,1400141,1800003] [700070] U U (pa zAB a.1.Kids ([h.1]:List Int) U U U U U U U U (zDE _) U U U (pyq U)) U U fun _ _=>vT [116,120,1800003] [148] [] U U (zPx (T:=tab) h.2 (by simp) U U U U U U U U fun i c=>pzq U) (fun _=>U) (fun _=>U) fun i c=>vq 1 U (by kernel_rfl) (vS [146,150,1400141,1800003] [146,1400141,1800003] [] U U (zcV 900001 U U (zUq (T:=tab) (zXX (zAy c)) (zUR (f:=nB) ((({a.1 with Kids:=(a.1.Kids++[h.1])}:Node),true):Node×Bool) (by rfl)) U U U U U U U U U U U (pyq U))) U U (A [79,6,52,2,3,7,8,7,900000,900001,53,5,0,0,2,1,15,205,79,8])))))
 ·refine A [13,62] ?_
  refine zAF U ?_ ?_
  ·refine A [14,105] ?_
   exact zNP (T:=tab) (l:=l4.length) U U U U U U U (by simp) U U (A [1,12,11,15,45] (d (e.1.Kind,(l4.length:Int))))
  ·refine A [62] ?_
   refine zAF U ?_ ?_
   ·exact A [14,1,12,11,15,45] (d (3,j1.doc))
   ·exact A [4,15,45] (d (e.1.Kind,j1.doc))
def zDM (a:Int×Int×(List (Node×Bool))) (c:Node×Bool) (b:((List zBi)×(List (Node×Bool)))->Option (Int×(List (Node×Bool)))):Nat->(List zBi)->Option (Int×(List (Node×Bool)))
 | 0,l13=>b (l13,a.2.2)
 | k2+1,l13=>bnd (c.1.Kids[k2]?) fun d=>bnd (zDY 24 (l13.length+([(⟨d,a.2.1,a.1⟩:zBi)]:List zBi).length)) fun _=>(zDM a c b k2) (l13++[(⟨d,a.2.1,a.1⟩:zBi)])
def zDL (fu:Nat) (d:Bool) (l4:List (Node×Bool)):Nat->(List zBi)×(List (Node×Bool))->Option (Int×(List (Node×Bool)))
 | 0,_=>none
 | k1+1,(l5,l6)=>cnd (decide ((l5.length:Int)>0)) (bnd (rng .i64 ((l5.length:Int) - 1)) fun f=>bnd (idx l5 f) fun e=>bnd (rng .i64 ((l5.length:Int) - 1)) fun g=>bnd (piece l5 0 g) fun c=>bnd (zE2 fu e l6) fun a=>cnd (!d) (some ((l4.length:Int),a.2.2)) (bnd (idx a.2.2 e.n) fun b=>bnd (zQP b.2) fun _=>(zDM a b (zDL fu d l4 k1)) b.1.Kids.length c)) (some ((l4.length:Int),l6))
def zII (fu:Nat) (a:zBi) (b:Bool) (l4:List (Node×Bool)):Option (Int×(List (Node×Bool))):=(zDL fu b l4) fu ([a],l4)
theorem zOm {fu:Nat} {b:zBi} {k:Int} {i:Bool} {l4:List (Node×Bool)}:FF (zII fu b i l4) 205 [.loc 900000 0,.agg (zGr b)] [(900000,.box 288 [.own 900001,Z k,Y i]),(900001,.tre 77 10 6 3 (l4.map nB))] [900000] (fun r=>Z r.1) fun r=>[(900000,.box 288 [.own 900001,Z k,Y i]),(900001,.tre 77 10 6 3 (r.2.map nB))]:=by
 refine fcI Tryz.func205 U (fun {w0 X X0 σ0 _}=>A [9,30,3,57,9,105] ?_)
 refine zNP (T:=tab) (l:=l4.length) U U U U U U U (by simp) U U (A [57,6,80] ?_)
 refine pl ([b].map zGr) 19 U U U U U U (A [31,6,12,0,13] ?_)
 refine lw (zDL fu i l4) [0,5,6] [6,900000] (fun _=>[]) (fun (j,q)=>[(19,.arr 291 3 (j.map zGr)),(900001,.tre 77 10 6 3 (q.map nB))]) fu ([b],l4) U U ?_
 rintro s ⟨j,q⟩
 refine A [6,80,39,57,10,3,86,62,8,72,61,39,16] fun u _=>?_
 refine A [38] fun t m=>?_
 refine zAv (T:=tab) zGr j t (zAy m) U U U U U U U U (A [31,7,12,0,61,39,16] fun v _=>?_)
 refine zJl (T:=tab) zGr j U U U U U U U U U U U fun p _=>A [12,0,61,43] (fun a _=>?_) zMn [(900000,900000),(900001,900001)] [900001]
 refine A [3,31,8,31,9,12,12,0,6,9,105,0,5,3,86,62,8,68,52,6,7,0,5,6,7,8,9,9,8,900000,900001,19,7,6,53,11,0,1,3,7,15,0,32,127,255,511,1023,207] ?_
 refine vT [98,102,1800003] [104] [] U U (zBW (T:=tab) a.2.2 (by simp) U U U U U U U U fun h e=>pzq U) (fun _=>U) (fun _=>U) fun h e=>vq 1 U (by kernel_rfl) (vU [106,1800003] [108] [] U U (zOV (T:=tab) (zHv (f:=nB) (zAy e)) U U U U U U U U (pyq U)) U U fun _ _=>vS [108] [110,6111] [3055] U U (zL9 (n:=3055) tab Tryz.func229 U U U U U U U U U U U U ⟨⟨_,U,.rfl⟩,trivial⟩ zXB U U (pyq U)) U U (A [79,13] ?_))
 refine zXp (T:=tab) (enc:=zAB) (enc':=fun (c:Int)=>Z c) (xs:=h.1.Kids) (x0:=p) (n:=3055) (tS:=32) (tE:=3) (tI:=3) (tB:=4) (tF:=336) (g:=274) (M:=(zDM a h (zDL fu i l4 s))) (Sf:=fun (d:(List zBi))=>[(9,.box 3 [Z a.2.1]),(8,.box 3 [Z a.1]),(900000,.box 288 [.own 900001,Z k,Y i]),(900001,.tre 77 10 6 3 (a.2.2.map nB)),(19,.arr 291 3 (d.map zGr)),(6,.box 344 [.own 19])]) (N1:=[6,8,9,900000]) (E0:=[(0,.loc 900000 0),(5,Z (l4.length:Int)),(6,.loc 6 0),(8,.loc 8 0),(9,.loc 9 0)]) (E1:=fun o c=>[(0,.loc 900000 0),(5,Z (l4.length:Int)),(6,.loc 6 0),(8,.loc 8 0),(9,.loc 9 0),(56,Z ((o:Nat):Int)),(57,Z c),(11,Z c)]) Tryz.func274 U U U zXC U U (fun _=>U) (fun _=>U) U U ⟨U,U,U,U,U,trivial⟩ U U ⟨U,U,U,U,U,U,trivial⟩ U U U U U U ?_ ?_ ?_
 ·rintro o c d hy w0 X X0 σ0 _ _
  refine A [1,11] ?_
  exact zPw ⟨U,U,U,U,U,U,U,U,trivial⟩ ⟨U,U,U,U,U,U,trivial⟩ U
 ·rintro o c d hy w0 X X0 σ0 _ _
  refine zRH hy (A [104,20] ?_)
  exact pl ([(⟨c,a.2.1,a.1⟩:zBi)].map zGr) 63 U U U U U U (pa zGr d ([(⟨c,a.2.1,a.1⟩:zBi)]:List zBi) U U U U U U U U (zUD _) U U U (A [12,63] (tx (d++[(⟨c,a.2.1,a.1⟩:zBi)]))))
 ·rintro d
  exact A [15,69,58,14,31,6,12,63] (tx (d,a.2.2))
def zF8 (fu:Nat) (c:Forest) (h f:Int) (a:Bool) (b:Int):Option (Forest×Int×Int):=bnd (rng .i64 ((c.Nodes.length:Int)+b)) fun g=>cnd (decide (g>c.Most)) (some (c,(-1),8)) (bnd (zAq fu c.Nodes) fun e=>bnd (zII fu (⟨h,f,(-1)⟩:zBi) a (e.map fun x=>(x,false))) fun d=>some ((⟨(d.2.map Prod.fst),c.Most⟩:Forest),d.1,0))
def zLv (fu:Nat) (b:Forest) (c d:Int) (a:Bool):Option (Forest×Int×Int):=bnd (zFE fu b [c]) fun e=>cnd (!e) (some (b,(-1),1)) (bnd (zLC fu b d) fun f=>cnd (!f) (some (b,(-1),1)) (cnd a (bnd (zEr fu b c) fun g=>(zF8 fu b c d a) (g.length:Int)) ((zF8 fu b c d a) 1)))
theorem zVP {fu:Nat} {g:Forest} {e f:Int} {a:Bool}:DD (zLv fu g e f a) 136 [.agg (zAE g),Z e,Z f,Y a] fun r=>.tup [.agg (zAE r.1),Z r.2.1,Z r.2.2]:=by
 refine fcI Tryz.func136 U (A [9,30,4,31,8,2,0,6,61] ?_)
 refine pl ([e].map zAB) 16 U U U U U U (A [33,16,41] (fun k _=>?_) zHj)
 refine A [2,26,19,6,105,65,80,12,2,74,2,41] (fun l _=>?_) zRf
 refine A [2,0,5,4,80,12,2,74,67,75,58] ?_
 refine jw (zF8 fu g e f a) [1,2,3,4,8] [8,4] (fun b=>[(11,Z b)]) (fun _=>[]) U U ?_ fun c=>?_
 ·rintro b
  refine A [7,6,61,35,1,16] fun j _=>?_
  refine A [3,0,5,4,80,12,2,74,68,52,5,2,1,2,3,4,8,8,4,53,10,0,1,3,0,8,31,0,127,255,511,202] ?_
  refine vT [82] [84,4841] [2420] U U (tqG (rn:=[(5,2420)]) (ks:=[2420]) ⟨zBt⟩ U U U U U U U U fun d _=>zfp 2420 6 3 zAZ d U U U U (pzq U)) (fun _=>U) (fun _=>U) fun d _=>A [202,51,3,1,84,88,4841,90,201,51,3,1,90,92,4841,94] ?_
  refine vS [94,4841] [96,97] [48] U U (zSS  48 U U U U U U U U U U (pyq U)) U U (A [201,79,93,20,43] (fun h _=>?_) zOm [(900000,48),(900001,2420)] [2420])
  refine A [57,9,105,12,2,0] ?_
  exact zDt 2420 (nB) Prod.fst zAZ h.2 (fun _=>U) (fun _=>U) U U U rN
 ·refine zAF U ?_ ?_
  ·refine A [14,2,43] (fun i _=>?_) zJo [(1034,2290)] [2290]
   exact A [33,2290,35,1,11,45] (c (i.length:Int))
  ·exact A [4,45] (c 1)
def zE9 (_fu:Nat) (a:Int) (b:Forest):Option Bool:=cnd (decide (a<0)) (some true) (some (decide (a>=(b.Nodes.length:Int))))
theorem zQk {fu:Nat} {b:Int} {a:Forest}:FF (zE9 fu b a) 157 [Z b,.loc 900000 0] [(900000,.box 24 (zAE a))] [900000] (fun r=>Y r) fun _=>[(900000,.box 24 (zAE a))]:=by
 exact fcI Tryz.func157 U (A [58,93,26,6,2,107,74,3,35,3,74])
theorem zKL {fu:Nat} {b:List Int} {a:Forest}:FF (zAV fu (fun c=>zE9 fu c a) b) 227 [.sl 1 false (b.map zAB),.fn (.func 157) [] [.loc 900000 0]] [(900000,.box 24 (zAE a))] [900000] (fun r=>Z r) fun _=>[(900000,.box 24 (zAE a))]:=by
 refine fcI Tryz.func227 U (A [75,80,77,13] ?_)
 refine lw (zAL (fun c=>zE9 fu c a) b) [0,1,7] [900000] (fun d=>[(8,Z d)]) (fun _=>[]) fu 0 U U ?_
 rintro f d
 refine A [75,10,2,86,59,72,62,93,36] fun h _=>?_
 refine A [1,44] (fun g _=>?_) zQk [(900000,900000)]
 refine A [0,5,2,62,8,4,94] fun e _=>?_
 exact A [89] (tx e)
theorem zJF {fu:Nat} {b:List Int} {a:Forest}:FF (zAd fu (fun c=>zE9 fu c a) b) 156 [.sl 1 false (b.map zAB),.fn (.func 157) [] [.loc 900000 0]] [(900000,.box 24 (zAE a))] [900000] (fun r=>Y r) fun _=>[(900000,.box 24 (zAE a))]:=by
 refine fcI Tryz.func156 U (A [58,61,44] (fun d _=>?_) zKL [(900000,900000)])
 exact A [2,74]
def zEh (fu:Nat) (a:Forest) (l2:List Int):Option Bool:=bnd (zAs fu a) fun b=>cnd b (bnd (zAd fu (fun d=>zE9 fu d a) l2) fun c=>some (!c)) (some false)
theorem zGp {fu:Nat} {a:Forest} {l2:List Int}:DD (zEh fu a l2) 93 [.agg (zAE a),.sl 1 false (l2.map zAB)] fun r=>Y r:=by
 refine fcI Tryz.func93 U (A [73,57,80,41] (fun b _=>?_) zA8)
 refine A [1,27,7,2,106,74,2,44] (fun c _=>?_) zJF [(900000,2)]
 exact A [3,74]
def zAe (_fu:Nat) (l1:zAj) (a:Int):Option Int:=bnd (idx l1.Forest.Nodes a) fun b=>some b.Kind
theorem zC4 {fu:Nat} {l1:zAj} {a:Int}:DD (zAe fu l1 a) 158 [.agg (zI5 l1),Z a] fun r=>Z r:=by
 refine fcI Tryz.func158 U (A [73,57,76,36] fun b _=>?_)
 exact A [3,74]
def zDb (fu:Nat) (b:Forest) (a:Int):Nat->Int->Option Bool
 | 0,_=>none
 | k1+1,b5=>cnd (b5 != (-1)) (cnd (b5 != a) (bnd (zHK fu b b5) fun c=>(zDb fu b a k1) c) (some (b5==a))) (some (b5==a))
def zEd (fu:Nat) (c:Forest) (a b:Int):Option Bool:=bnd (zCB fu c [a,b]) fun d=>cnd (!d) (some false) ((zDb fu c a) fu b)
theorem zOj {fu:Nat} {c:Forest} {a b:Int}:DD (zEd fu c a b) 159 [.agg (zAE c),Z a,Z b] fun r=>Y r:=by
 refine fcI Tryz.func159 U (A [9,30,3,57,6,93] ?_)
 refine pl ([a,b].map zAB) 10 U U U U U U (A [33,10,41] (fun g _=>?_) zIX)
 refine A [57,5,1,59,72] ?_
 refine lw (zDb fu c a) [1,3] [3] (fun d=>[(2,Z d)]) (fun _=>[]) fu b U U ?_
 rintro f d
 refine A [6,93,27,15,6,104,11,24,86,76,74,104,0,10,3,86,76,74,67,13,14,2,41] (fun e _=>?_) zOD
 exact A [1,11,15,46] (tx e)
def zBm (fu:Nat) (l1:zAj) (a:List Int) (b:Int):Nat->Int×Int->Option Int
 | 0,_=>none
 | k1+1,(n4,t5)=>cnd (decide (t5<(a.length:Int))) (bnd (idx a t5) fun e=>cnd (e != l1.gone) (bnd (zAe fu l1 e) fun h=>cnd (h==b) (bnd (rng .i64 (n4+1)) fun f=>bnd (rng .i64 (t5+1)) fun g=>(zBm fu l1 a b k1) (f,g)) (bnd (rng .i64 (t5+1)) fun c=>(zBm fu l1 a b k1) (n4,c))) (bnd (rng .i64 (t5+1)) fun d=>(zBm fu l1 a b k1) (n4,d))) (some n4)
def zCd (fu:Nat) (l1:zAj) (a:List Int) (b:Int):Option Int:=(zBm fu l1 a b) fu (0,0)
theorem zFZ {fu:Nat} {l1:zAj} {a:List Int} {b:Int}:DD (zCd fu l1 a b) 228 [.agg (zI5 l1),.sl 1 false (a.map zAB),Z b] fun r=>Z r:=by
 refine fcI Tryz.func228 U (A [9,30,3,57,75,80,77,13] ?_)
 refine lw (zBm fu l1 a b) [2,3,10,11] [3] (fun (c,f)=>[(7,Z c),(12,Z f)]) (fun _=>[]) fu (0,0) U U ?_
 rintro i ⟨c,f⟩
 refine A [75,10,3,86,62,8,72,9,36] fun l _=>?_
 refine A [2,0,9,105] ?_
 refine zAW (j:=20) U ?_ ?_
 ·refine A [2,41] (fun k _=>?_) zC4
  refine A [3,0] ?_
  refine zAF U ?_ ?_
  ·refine A [14,1,16] fun g _=>?_
   refine A [1,11,94] fun h _=>?_
   exact A [89] (tx (g,h))
  ·refine A [4,94] fun d _=>?_
   exact A [89] (tx (c,d))
 ·refine A [106,11,24,4,94] fun e _=>?_
  exact A [89] (tx (c,e))
def zBl (fu:Nat) (l1:zAj) (a:List Int):Option Bool:=bnd (zCd fu l1 a 2) fun c=>cnd (decide (c>0)) (some true) (bnd (zCd fu l1 a 1) fun d=>cnd (decide (d>0)) (bnd (zCd fu l1 a 1) fun e=>bnd (idx l1.Forest.Nodes l1.p) fun g=>bnd (zCd fu l1 g.Kids 1) fun f=>bnd (rng .i64 (e+f)) fun b=>some (decide (b>1))) (some false))
theorem zH0 {fu:Nat} {l1:zAj} {a:List Int}:DD (zBl fu l1 a) 160 [.agg (zI5 l1),.sl 1 false (a.map zAB)] fun r=>Y r:=by
 refine fcI Tryz.func160 U (A [73,57,6,52,2,1,1,2,2,53,28,0,0,3,7,15,31,31,127,255,511,1023,1023,4095,1023,1023,17407,50175,1023,132095,508927,1033215,2081791,4194303,8388607,16777215,33554431,67108863,134217727,202,54,2,1,10,12,14] (fun d _=>?_) zFZ)
 refine vq 2 U (by kernel_rfl) (zA3 (t:=9) U ?_ ?_)
 ·exact A [223,79,8]
 ·refine A [202,54,3,1,18,20,22,24] (fun e _=>?_) zFZ
  refine vq 2 U (by kernel_rfl) (zA3 (t:=14) U ?_ ?_)
  ·refine A [202,54,3,1,28,30,32,34] (fun f _=>?_) zFZ
   refine vq 6 U (by kernel_rfl) (vT [28,42,46] [48] [] U U (zAw (T:=tab) zAZ l1.Forest.Nodes U U U U U U U fun c _=>pzq U) (fun _=>U) (fun _=>U) fun c _=>A [202,54,3,1,28,36,52,54] (fun g _=>?_) zFZ)
   exact vT [28,34,54] [56] [] U U (zM2 (T:=tab) U U U U fun b _=>pzq U) (fun _=>U) (fun _=>U) fun b _=>A [204,79,8]
  ·exact A [218,79,8]
def zEE (fu:Nat) (l1:zAj) (f g:Int) (h:Bool):Option Int:=cnd h (some 5) (cnd (g==3) (bnd (zAe fu l1 l1.p) fun a=>cnd (a==0) (bnd (idx l1.Forest.Nodes f) fun e=>bnd (zBl fu l1 e.Kids) fun b=>cnd b (some 5) (some 0)) (some 0)) (bnd (zAe fu l1 l1.p) fun c=>cnd (c==0) (bnd (zBl fu l1 [f]) fun d=>cnd d (some 5) (some 0)) (some 0)))
def zED (fu:Nat) (l1:zAj) (b:Int) (c:Unit):Option Int:=bnd (zAe fu l1 b) fun a=>cnd (a==0) ((zEE fu l1 b a) (a==0)) ((zEE fu l1 b a) (a==4))
def zEC (fu:Nat) (l1:zAj) (c:Int) (a b:Bool):Option Int:=cnd (!a) (cnd (!a) (some 5) (cnd (!b) (some 6) ((zED fu l1 c) ()))) (bnd (zEd fu l1.Forest c l1.p) fun d=>cnd d (some 5) (cnd (!b) (some 6) ((zED fu l1 c) ())))
def zAp (fu:Nat) (l1:zAj) (b:Int) (a:Bool):Option Int:=cnd (l1.child != (-1)) (bnd (idx l1.Forest.Nodes l1.child) fun c=>(zEC fu l1 b a) (c.Parent==l1.p)) ((zEC fu l1 b a) (l1.child==(-1)))
def zDN (fu:Nat) (l1:zAj) (a:Int):Option Int:=bnd (zAe fu l1 l1.p) fun b=>cnd (b==0) (cnd (b==0) ((zAp fu l1 a) true) ((zAp fu l1 a) false)) (cnd (b==1) (cnd (b==1) ((zAp fu l1 a) true) ((zAp fu l1 a) false)) (cnd (b==3) (cnd (b==3) ((zAp fu l1 a) true) ((zAp fu l1 a) false)) (cnd (b==4) ((zAp fu l1 a) true) ((zAp fu l1 a) false))))
theorem zG8 {fu:Nat} {l1:zAj} {d:Int}:DD (zDN fu l1 d) 94 [.agg (zI5 l1),Z d] fun r=>Z r:=by
 refine fcI Tryz.func94 U (A [73,57,6,52,2,1,1,2,2,53,5,0,1,3,0,15,205,79,6,93,41] (fun q _=>?_) zC4)
 refine ns (jw (zAp fu l1 d) [1,2,6] [2] (fun a=>[(5,Y a)]) (fun _=>[]) U U ?_ fun b=>?_)
 ·rintro a
  refine A [7,6,93,0] ?_
  refine jw (zEC fu l1 d a) [1,2,5] [2] (fun c=>[(6,Y c)]) (fun _=>[]) U U ?_ fun e=>?_
  ·rintro c
   refine A [7,6] ?_
   refine jw (zED fu l1 d) [1,2] [2] (fun _=>[]) (fun _=>[]) U U ?_ fun f=>?_
   ·rintro _
    refine A [7,6,99] (fun h _=>?_) zC4
    refine A [0,13,6,62] ?_
    refine jw (zEE fu l1 d h) [1,2,47] [2] (fun j=>[(48,Y j)]) (fun _=>[]) U U ?_ fun g=>?_
    ·rintro j
     refine A [7,5,1,59,62] ?_
     refine zAF U ?_ ?_
     ·refine A [6,6,52,2,1,1,2,2,53,16,0,0,2,7,15,31,63,63,191,447,63,1983,4031,8127,16383,32767,203,54,2,1,106,110,112] (fun l _=>?_) zC4
      refine vq 2 U (by kernel_rfl) (zA3 (t:=58) U ?_ ?_)
      ·refine vq 5 U (by kernel_rfl) (vT [116,124,126] [128] [] U U (zAw (T:=tab) zAZ l1.Forest.Nodes U U U U U U U fun i _=>pzq U) (fun _=>U) (fun _=>U) fun i _=>A [202,54,3,1,116,118,132,134] (fun m _=>?_) zH0)
       exact A [201,79,5,1,59,67,59]
      ·exact A [210,19,24,67,59]
     ·refine A [4,69,6,93,41] (fun n _=>?_) zC4
      refine A [2,27,74,5,105,11,24,67,59,2] ?_
      refine pl ([d].map zAB) 77 U U U U U U (A [33,77,41] (fun o _=>?_) zH0)
      exact A [57,5,1,59,67,59]
    ·refine zAF U ?_ ?_
     ·exact A [4,45] (g (h==0))
     ·exact A [14,2,11,45] (g (h==4))
   ·refine A [13,6,93,0] ?_
    refine zAF U ?_ ?_
    ·exact A [67,5,1,59,93,0,5,1,59,4,15,45] (f ())
    ·refine A [14,105,41] (fun s _=>?_) zOj
     exact A [57,5,1,59,93,0,5,1,59,4,15,45] (f ())
  ·refine zAF U ?_ ?_
   ·refine A [52,3,1,1,2,5,2,53,12,0,1,3,0,8,31,63,127,0,256,1023,2047,205] ?_
    exact vT [48,52] [54] [] U U (zAw (T:=tab) zAZ l1.Forest.Nodes U U U U U U U fun k _=>pzq U) (fun _=>U) (fun _=>U) fun k _=>A [206,19,45] (e (k.Parent==l1.p))
   ·exact A [4,45] (e (l1.child==(-1)))
 ·refine A [13,6,62] ?_
  refine zAF U ?_ ?_
  ·refine A [67] ?_
   refine zAF U ?_ ?_
   ·exact A [14,1,11,15,45] (b true)
   ·exact A [4,15,45] (b false)
  ·refine A [62] ?_
   refine zAF U ?_ ?_
   ·refine A [67] ?_
    refine zAF U ?_ ?_
    ·exact A [14,1,11,15,45] (b true)
    ·exact A [4,15,45] (b false)
   ·refine A [62] ?_
    refine zAF U ?_ ?_
    ·refine A [67] ?_
     refine zAF U ?_ ?_
     ·exact A [14,1,11,15,45] (b true)
     ·exact A [4,15,45] (b false)
    ·refine A [14,2,0] ?_
     refine zAF U ?_ ?_
     ·exact A [14,1,11,15,45] (b true)
     ·exact A [4,15,45] (b false)
def zEy (fu:Nat) (b:Forest) (c d a:Int):Option Int:=bnd (zEh fu b [c,d]) fun e=>cnd (!e) (some 1) (cnd (a != (-1)) (bnd (zEh fu b [a]) fun f=>cnd (!f) (some 1) (bnd (zDN fu (⟨b,d,a,(-1)⟩:zAj) c) fun g=>some g)) (bnd (zDN fu (⟨b,d,a,(-1)⟩:zAj) c) fun h=>some h))
theorem zQF {fu:Nat} {d:Forest} {b c a:Int}:DD (zEy fu d b c a) 48 [.agg (zAE d),Z b,Z c,Z a] fun r=>Z r:=by
 refine fcI Tryz.func48 U (A [9,30,4,57,6,93] ?_)
 refine pl ([b,c].map zAB) 12 U U U U U U (A [33,12,41] (fun e _=>?_) zGp)
 refine A [2,26,15,2,110,83,3] ?_
 refine zAW (j:=18) U ?_ ?_
 ·refine pq 2 U (pl ([a].map zAB) 21 U U U U U U (A [33,21,41] (fun f _=>?_) zGp))
  refine A [3,0,5,1,59,67,93,20,1,41] (fun g _=>?_) zG8
  exact A [57,8]
 ·refine A [107,11,24,67,93,20,1,41] (fun h _=>?_) zG8
  exact A [57,8]
def zBU (_fu:Nat) (a:Bs) (b:Int):Option (Option (Bs×Int)):=cnd (b==0) (some none) (some (some (a,b)))
theorem zCA {fu:Nat} {a:Bs} {b:Int}:DD (zBU fu a b) 47 [O a,Z b] fun r=>.v (zRz 181 179 r):=by
 refine fcI Tryz.func47 U (A [75,62,5,1,59,67,61,20] ?_)
 exact zcT [(.int .i64 b)] (by kernel_rfl) U U U U U U (zPK (T:=tab) U U U U U U U (zcT [(.string ⟨⟨a⟩⟩),(.iface 179 (.agg ⟨[.int .i64 b]⟩))] (by kernel_rfl) U U U U U U (A [57,8])))
def zIA (fu:Nat) (b:Forest) (c:List Node):Nat->Int×(List (Node×Bool))->Option (Unit×Int×(List (Node×Bool))×(List Note))
 | 0,_=>none
 | k1+1,(t3,a)=>cnd (decide (t3<(((c.map fun x=>(x,false)).length:Nat):Int))) (bnd (idx a t3) fun d=>bnd (zQP d.2) fun _=>bnd (zBe fu d.1.Kids) fun f=>bnd (idx a t3) fun g=>bnd (rng .i64 (t3+1)) fun e=>(zIA fu b c k1) (e,(a.set (t3).toNat (({g.1 with Kids:=f}:Node),true)))) (some ((),b.Most,a,([]:List Note)))
def zK6 (fu:Nat) (a:Forest):Option (Unit×Int×(List (Node×Bool))×(List Note)):=bnd (zAq fu a.Nodes) fun b=>(zIA fu a b) fu (0,(b.map fun x=>(x,false)))
theorem zIB {fu:Nat} {g:Forest}:FF (zK6 fu g) 91 [.agg (zAE g)] [] [] (fun _=>.loc 12 0) fun r=>[(12,.box 131 [.own 2070,Z r.2.1,.own 31202]),(2070,.tre 77 10 6 3 (r.2.2.1.map nB)),(31202,.arr 192 9 (r.2.2.2.map zBL))]:=by
 refine fcI Tryz.func91 U (A [9,30,1,57,6,52,1,1,1,1,53,9,0,1,3,0,8,31,63,127,255,202] ?_)
 refine vT [12] [14,4141] [2070] U U (tqG (rn:=[(5,2070)]) (ks:=[2070]) ⟨zBt⟩ U U U U U U U U fun d _=>zfp 2070 6 3 zAZ d U U U U (pzq U)) (fun _=>U) (fun _=>U) fun d _=>A [202,51,3,1,14,18,4141,20,51,2,1,20,4141,22] ?_
 refine vS [22,4141] [24,25] [12] U U (zSS  12 U U U U U U U U U U (pyq U)) U U (A [201,79,6,9,105] ?_)
 refine zNP (T:=tab) (l:=(d.map fun x=>(x,false)).length) U U U U U U U (by simp) U U (A [57,13] ?_)
 refine lw (zIA fu g d) [3,18] [12] (fun (e,a)=>[(19,Z e)]) (fun (e,a)=>[(2070,.tre 77 10 6 3 (a.map nB))]) fu (0,(d.map fun x=>(x,false))) U U ?_
 rintro m ⟨e,a⟩
 refine A [75] ?_
 refine zAF U ?_ ?_
 ·refine A [72,62,52,4,2,3,18,19,4,12,2070,53,19,0,1,3,7,15,0,0,64,192,448,960,0,4032,8128,16320,32704,65535,131071,262143,212] ?_
  refine vT [64,66,4141] [68] [] U U (zBW (T:=tab) a (by simp) U U U U U U U U fun k b=>pzq U) (fun _=>U) (fun _=>U) fun k b=>vq 1 U (by kernel_rfl) (vU [70,4141] [72] [] U U (zOV (T:=tab) (zHv (f:=nB) (zAy b)) U U U U U U U U (pyq U)) U U fun _ _=>A [55,1,2,72,74,4741] (fun i _=>?_) zFV [(5,2370)] [2370])
  refine vT [52,54,4141] [76] [] U U (zBW (T:=tab) a (by simp) U U U U U U U U fun h c=>pzq U) (fun _=>U) (fun _=>U) fun h c=>vq 1 U (by kernel_rfl) (vS [74,78,4141,4741] [74,4741,4141] [] U U (zUq (T:=tab) (zHv (f:=nB) (zAy c)) (zd8 (f:=nB) ((({h.1 with Kids:=i}:Node),true):Node×Bool) (by rfl)) U U U U U U U U U U U (pyq U)) U U (A [19,94] fun j _=>?_))
  exact A [89] (tx (j,(a.set (e).toNat (({h.1 with Kids:=i}:Node),true))))
 ·refine A [86,62] ?_
  exact zKB 31202 192 9 12 2 U U U U U U rN
def zIY (fu:Nat) (d:Forest) (b f a:Int):Option Int:=bnd (zEy fu d b f a) fun g=>cnd (g != 0) (some (-1)) (cnd (a != b) (some a) (bnd (idx d.Nodes f) fun c=>bnd (zCc fu c.Kids b) fun h=>bnd (rng .i64 (h+1)) fun e=>cnd (decide (e>=(c.Kids.length:Int))) (some (-1)) (bnd (idx c.Kids e) fun i=>some i)))
theorem zRh {fu:Nat} {b:Forest} {c d a:Int}:DD (zIY fu b c d a) 51 [.agg (zAE b),Z c,Z d,Z a] fun r=>Z r:=by
 refine fcI Tryz.func51 U (A [9,30,4,57,6,76,41] (fun f _=>?_) zQF)
 refine A [57,5,1,59,68,93,0,5,2,62,8,67,93,36] fun h _=>?_
 refine A [3,0,99] (fun g _=>?_) zG7
 refine A [16] fun e _=>?_
 refine A [57,6,61,77,5,1,59,67,61,36] fun i _=>?_
 exact A [2,74]
def zJZ (fu:Nat) (b:Forest) (a:Int):Option (List Int):=bnd (zEh fu b [a]) fun c=>cnd (!c) (some ([]:List Int)) (bnd (idx b.Nodes a) fun e=>cnd (e.Kind==3) (bnd (idx b.Nodes a) fun f=>bnd (zBe fu f.Kids) fun d=>some d) (some [a]))
theorem zSo {fu:Nat} {b:Forest} {a:Int}:FF (zJZ fu b a) 95 [.agg (zAE b),Z a] [] [] (fun _=>.own 2250) fun r=>[(2250,.arr 3 1 (r.map zAB))]:=by
 refine fcI Tryz.func95 U (A [73,57,6,13,61] ?_)
 refine pl ([a].map zAB) 2250 U U U U U U (A [33,2250,41] (fun c _=>?_) zGp)
 refine A [2,0,5,7,58,56,2250,3,1,4,8,93,36] fun e _=>?_
 refine A [104,0] ?_
 refine zAF U ?_ ?_
 ·refine A [93,36] fun f _=>?_
  refine A [2,43] (fun d _=>?_) zFV [(5,2250)] [2250]
  exact A [57,8]
 ·refine A [4,69,80] ?_
  exact pl ([a].map zAB) 2250 U U U U U U (A [57,8])
def zD7 (_fu:Nat) (b:Int) (a:Forest):Option Bool:=bnd (idx a.Nodes b) fun c=>some (c.Kind != 1)
theorem zMH {fu:Nat} {b:Int} {a:Forest}:FF (zD7 fu b a) 232 [Z b,.loc 900000 0] [(900000,.box 24 (zAE a))] [900000] (fun r=>Y r) fun _=>[(900000,.box 24 (zAE a))]:=by
 refine fcI Tryz.func232 U (A [58,93,36] fun c _=>?_)
 exact A [104,74]
theorem zKM {fu:Nat} {l1:List Int} {a:Forest}:FF (zAV fu (fun c=>zD7 fu c a) l1) 227 [.own 900000,.fn (.func 232) [] [.loc 900001 0]] [(900000,.arr 3 1 (l1.map zAB)),(900001,.box 24 (zAE a))] [900000,900001] (fun r=>Z r) fun _=>[(900000,.arr 3 1 (l1.map zAB)),(900001,.box 24 (zAE a))]:=by
 refine fcI Tryz.func227 U (A [75,80,39,57,13] ?_)
 refine lw (zAL (fun c=>zD7 fu c a) l1) [0,1,7] [900000,900001] (fun d=>[(8,Z d)]) (fun _=>[]) fu 0 U U ?_
 rintro g d
 refine A [75,10,2,86,59,72,62,93,38] fun f b=>?_
 refine zAv (T:=tab) zAB l1 f (zAy b) U U U U U U U U (A [44] (fun h _=>?_) zMH [(900000,900001)])
 refine A [0,5,2,62,8,4,94] fun e _=>?_
 exact A [89] (tx e)
def zBC (f:Int->Option Bool):Nat->Int×Int×(List Int)->Option (List Int)
 | 0,_=>none
 | k1+1,(i5,j6,l7)=>cnd (decide (j6<(l7.length:Int))) (bnd (idx l7 j6) fun g=>bnd (f g) fun h=>cnd (!h) (bnd (idx l7 i5) fun i=>bnd (rng .i64 (i5+1)) fun a=>bnd (rng .i64 (j6+1)) fun b=>(zBC f k1) (a,b,(l7.set (i5).toNat g))) (bnd (rng .i64 (j6+1)) fun c=>(zBC f k1) (i5,c,l7))) (bnd (zWa l7 i5 (0:Int)) fun d=>bnd (piece d 0 i5) fun e=>some e)
def zDd (fu:Nat) (b:Int->Option Bool) (l1:List Int):Option (List Int):=bnd (zAV fu b l1) fun a=>cnd (a==(-1)) (some l1) (bnd (rng .i64 (a+1)) fun c=>(zBC b) fu (a,c,l1))
theorem zLA {fu:Nat} {l1:List Int} {c:Forest}:FF (zDd fu (fun l=>zD7 fu l c) l1) 231 [.own 900000,.fn (.func 232) [] [.loc 900001 0]] [(900000,.arr 3 1 (l1.map zAB)),(900001,.box 24 (zAE c))] [900001] (fun _=>.own 900000) fun r=>[(900000,.arr 3 1 (r.map zAB)),(900001,.box 24 (zAE c))]:=by
 refine fcI Tryz.func231 U (A [58,61,44] (fun o _=>?_) zKM [(900000,900000),(900001,900001)])
 refine A [57,6,62,5,2,62,8,68,80,16] fun m _=>?_
 refine A [57,13] ?_
 refine lw (zBC (fun l=>zD7 fu l c)) [0,1] [900001] (fun (e,j6,a)=>[(5,Z e),(6,Z j6)]) (fun (e,j6,a)=>[(900000,.arr 3 1 (a.map zAB))]) fu (o,m,l1) U U ?_
 rintro p ⟨e,j6,a⟩
 refine A [6,61,39,57] ?_
 refine zAF U ?_ ?_
 ·refine A [72,61,38] fun k f=>?_
  refine zAv (T:=tab) zAB a k (zAy f) U U U U U U U U (A [57,61,44] (fun q _=>?_) zMH [(900000,900001)])
  refine A [57] ?_
  refine zAF U ?_ ?_
  ·refine A [93,38] fun j d=>?_
   refine zCr (T:=tab) zAB a j k (zAy d) U U U U U U U U U U U U U (A [0,14,1,16] fun g _=>?_)
   refine A [1,11,70,1,16] fun h _=>?_
   exact A [89] (tx (g,h,(a.set (e).toNat k)))
  ·refine A [4,70,1,16] fun i _=>?_
   exact A [89] (tx (e,i,a))
 ·refine A [86,61] ?_
  refine zYw (T:=tab) zAB a (0:Int) (S':=fun b=>[(900000,.arr 3 1 (b.map zAB)),(900001,.box 24 (zAE c))]) U U U U U U U U U U U U U U U U U U (fun _=>U) fun b _=>A [0,61] ?_
  exact zJl (T:=tab) zAB b U U U U U U U U U U U fun n _=>A [57,8]
def zGN (fu:Nat) (a:Forest) (b:Int):Option (List Int):=bnd (zD6 fu a b) fun c=>bnd (zDd fu (fun e=>zD7 fu e a) c) fun d=>some d
theorem zSm {fu:Nat} {a:Forest} {b:Int}:FF (zGN fu a b) 164 [.agg (zAE a),Z b] [] [] (fun _=>.own 2070) fun r=>[(2070,.arr 3 1 (r.map zAB))]:=by
 refine fcI Tryz.func164 U (A [73,57,61,43] (fun c _=>?_) zKc [(1035,2070)] [2070])
 refine A [1,43] (fun d _=>?_) zLA [(900000,2070),(900001,2)] [2070]
 exact A [57,8]
def zC3 (d:Note) (c:List Int):Nat->Int×Int×(List Note)->Option (List Note)
 | 0,_=>none
 | k1+1,(t7,c8,l9)=>cnd (decide (t7<(c.length:Int))) (bnd (idx c t7) fun a=>bnd (zDY 88 (l9.length+([({d with Node:=a}:Note)]:List Note).length)) fun _=>bnd (rng .i64 (t7+1)) fun b=>(zC3 d c k1) (b,a,(l9++[({d with Node:=a}:Note)]))) (some l9)
def zEU (fu:Nat) (d:Int) (a:Note) (b:Int) (l4:List (Node×Bool)) (c:List Note):Option (List Note):=bnd (zGN fu (⟨(l4.map Prod.fst),b⟩:Forest) d) fun e=>(zC3 a e) fu (0,a.Node,c)
theorem zH9 {fu:Nat} {h:Int} {a:Note} {d:Int} {l4:List (Node×Bool)} {k:List Note}:FF (zEU fu h a d l4 k) 99 [.loc 900000 0,Z h,.agg (zBL a)] [(900000,.box 131 [.own 900001,Z d,.own 900002]),(900001,.tre 77 10 6 3 (l4.map nB)),(900002,.arr 192 9 (k.map zBL))] [900000,900001] (fun _=>.tup []) fun r=>[(900000,.box 131 [.own 900001,Z d,.own 900002]),(900001,.tre 77 10 6 3 (l4.map nB)),(900002,.arr 192 9 (r.map zBL))]:=by
 refine fcI Tryz.func99 U (A [9,30,5,0,9,105] ?_)
 refine zOT (ps:=[.agg [.own 900001,Z d],Z h]) [(900001,.sl 10 false ((l4.map Prod.fst).map zAZ))] [2130] (enc:=fun (c:(List Int))=>.own 2130) (Sr:=fun (c:(List Int))=>[(2130,.arr 3 1 (c.map zAB))]) (qs:=[.agg (zAE (⟨(l4.map Prod.fst),d⟩:Forest)),Z h]) (Sc:=[]) (N0:=[]) (NR:=[2130]) (fun c e=>zQS [(2070,2130)] [2070] (zSm _ e) U U U U U U) trivial (fun _=>U) U U U U U U U (fun _=>U) (fun _=>U) ⟨zPC (nB) Prod.fst zAZ l4 (fun _=>U) (fun _=>U) U,trivial⟩ U U (fun _=>U) (fun _=>by first | rfl | simp [zMK,zDP,zAB]) U U U ⟨⟨_,U,.rfl⟩,⟨_,U,.rfl⟩,trivial⟩ zgH U U fun c e=>A [39,57,13] ?_
 refine lw (zC3 a c) [0,5,13,14] [2130,900000,900001] (fun (l,i,g)=>[(15,Z l)]) (fun (l,i,g)=>[(5,.box 192 [Z a.Kind,Z i,Z a.From,Z a.To,O a.Name,Y a.Had,Y a.Has,O a.Old,O a.New]),(900002,.arr 192 9 (g.map zBL))]) fu (0,a.Node,k) U U ?_
 rintro m ⟨l,i,g⟩
 refine A [75] ?_
 refine zAF U ?_ ?_
 ·refine A [72,9,38] fun b f=>?_
  refine zAv (T:=tab) zAB c b (zAy f) U U U U U U U U (A [57,61,12,0,52,5,5,0,5,13,14,15,2130,5,900000,900001,900002,53,11,0,0,2,6,14,0,32,126,255,511,1023,206] ?_)
  refine vS [52] [54,55] [27] U U (pl ([({a with Node:=b}:Note)].map zBL) 27 U U U U U U (pyq U)) U U (vU [50,54,55,1800001,1800005] [56,50,1800001,1800005] [900002] U U (pa zBL g ([({a with Node:=b}:Note)]:List Note) U U U U U U U U (zLH _) U U U (pyq U)) U U fun _ _=>A [202,50,4,1,56,60,1800001,1800005,1800001,19,94] fun j _=>?_)
  exact A [89] (tx (j,b,(g++[({a with Node:=b}:Note)])))
 ·exact zUx U (zKw (T:=tab) U U U ⟨U,U⟩ ⟨U,U,U,trivial⟩ U)
def zB5 (a:Int) (l2:List Int):Nat->Int->Option Int
 | 0,_=>none
 | k1+1,t3=>cnd (decide (t3<(l2.length:Int))) (bnd (idx l2 t3) fun c=>cnd (a==c) (some t3) (bnd (rng .i64 (t3+1)) fun b=>(zB5 a l2 k1) b)) (some (-1))
def zDD (fu:Nat) (a:Int) (l2:List Int):Option Int:=(zB5 a l2) fu 0
theorem zHz {fu:Nat} {b:Int} {l2:List Int}:FF (zDD fu b l2) 97 [.own 900000,Z b] [(900000,.arr 3 1 (l2.map zAB))] [900000] (fun r=>Z r) fun _=>[(900000,.arr 3 1 (l2.map zAB))]:=by
 refine fcI Tryz.func97 U (A [75,80,39,57,13] ?_)
 refine lw (zB5 b l2) [0,1,7] [900000] (fun c=>[(8,Z c)]) (fun _=>[]) fu 0 U U ?_
 rintro f c
 refine A [75,10,2,86,59,72,62,93,38] fun e a=>?_
 refine zAv (T:=tab) zAB l2 e (zAy a) U U U U U U U U (A [57,5,2,62,8,4,94] fun d _=>?_)
 exact A [89] (tx d)
def zFW (_fu:Nat) (b j2:Int) (a:List Int):Option (List Int):=bnd (cut3 a.length b j2 (a.length:Int)) fun _=>cnd (b==j2) (some a) (bnd (zNq a.length 0 b) fun _=>bnd (zNq a.length j2 (a.length:Int)) fun _=>bnd (delB a.length (b).toNat (j2).toNat ((a.length:Int)).toNat) fun _=>bnd (zNq (zO1 a (b).toNat (j2).toNat).length ((((b).toNat+(((a.length:Int)).toNat - (j2).toNat)):Nat):Int) (a.length:Int)) fun _=>bnd (zfZ (zO1 a (b).toNat (j2).toNat).length (((((b).toNat+(((a.length:Int)).toNat - (j2).toNat)):Nat):Int)).toNat ((a.length:Int)).toNat) fun _=>bnd (zaD (zQN (zO1 a (b).toNat (j2).toNat) (((((b).toNat+(((a.length:Int)).toNat - (j2).toNat)):Nat):Int)).toNat (0:Int)).length ((b).toNat+(((a.length:Int)).toNat - (j2).toNat))) fun _=>some ((zQN (zO1 a (b).toNat (j2).toNat) (((((b).toNat+(((a.length:Int)).toNat - (j2).toNat)):Nat):Int)).toNat (0:Int)).take ((b).toNat+(((a.length:Int)).toNat - (j2).toNat))))
theorem zNe {fu:Nat} {b j2:Int} {a:List Int}:FF (zFW fu b j2 a) 100 [.own 900000,Z b,Z j2] [(900000,.arr 3 1 (a.map zAB))] [] (fun _=>.own 900000) fun r=>[(900000,.arr 3 1 (r.map zAB))]:=by
 refine fcI Tryz.func100 U (A [58,76,39] ?_)
 refine zcR (T:=tab) (L:=a.length) U U U U U U U U (by simp) U U (A [0,6,93,0,5,2,62,8,67,80,39,57,6,52,4,1,0,1,2,7,900000,53,8,0,0,3,0,0,24,63,127,202] ?_)
 refine vU [40,42,1800001] [44] [] U U (zOW (T:=tab) (L:=a.length) (.inl U) U U U U (by simp) U U U U U (pyq U)) U U fun _ _=>vq 2 U (by kernel_rfl) (vU [46,48,1800001] [50] [] U U (zOW (T:=tab) (L:=a.length) (.inl U) U U U U (by simp) U U U U U (pyq U)) U U fun _ _=>vU [44,50,1800001] [52,1800001] [] U U (zQZ (T:=tab) zAB a U U U U U U U U U (zDE _) U U U (pyq U)) U U fun _ _=>A [201,79,61] ?_)
 refine zWD (T:=tab) U U U U U U U U U (pq 1 U (zOW (T:=tab) (L:=(zO1 a (b).toNat (j2).toNat).length) (.inr ⟨_,U⟩) U U U U (by simp) U U U U U (zOS (T:=tab) zAB (zO1 a (b).toNat (j2).toNat) (0:Int) U U U U U U U U U U U U U U (A [0,62] ?_))))
 exact zWH 6 zAB (zQN (zO1 a (b).toNat (j2).toNat) (((((b).toNat+(((a.length:Int)).toNat - (j2).toNat)):Nat):Int)).toNat (0:Int)) U U U U U rN
def zFi (fu:Nat) (h:Int) (a:List (Node×Bool)) (e:Node×Bool) (i:List Note):Option ((List (Node×Bool))×(List Note)):=bnd (idx a e.1.Parent) fun f=>bnd (zSw f.2) fun _=>bnd (zDD fu h f.1.Kids) fun b=>bnd (idx a e.1.Parent) fun j=>bnd (rng .i64 (b+1)) fun g=>bnd (zFW fu b g f.1.Kids) fun c=>bnd (idx a e.1.Parent) fun k=>bnd (idx (a.set (e.1.Parent).toNat (({f.1 with Kids:=c}:Node),true)) h) fun d=>some (((a.set (e.1.Parent).toNat (({f.1 with Kids:=c}:Node),true)).set (h).toNat (({d.1 with Parent:=(-1)}:Node),d.2)),i)
def zD3 (fu:Nat) (b d:Int) (a:List (Node×Bool)) (l4:List Note):Option ((List (Node×Bool))×(List Note)):=bnd (idx a b) fun c=>cnd (c.1.Parent==(-1)) (some (a,l4)) (bnd (zDq fu (⟨(a.map Prod.fst),d⟩:Forest) b) fun e=>cnd e (bnd (zEU fu b (⟨2,0,0,0,[],false,false,[],[]⟩:Note) d a l4) fun f=>(zFi fu b a c) f) ((zFi fu b a c) l4))
theorem zGy {fu:Nat} {i e:Int} {a:List (Node×Bool)} {l4:List Note}:FF (zD3 fu i e a l4) 54 [.loc 900000 0,Z i] [(900000,.box 131 [.own 900001,Z e,.own 900002]),(900001,.tre 77 10 6 3 (a.map nB)),(900002,.arr 192 9 (l4.map zBL))] [900000,900001] (fun _=>.tup []) fun r=>[(900000,.box 131 [.own 900001,Z e,.own 900002]),(900001,.tre 77 10 6 3 (r.1.map nB)),(900002,.arr 192 9 (r.2.map zBL))]:=by
 refine fcI Tryz.func54 U (A [9,106] ?_)
 refine zBW (T:=tab) a (by simp) U U U U U U U U fun p j=>pq 1 U (zEz (T:=tab) (zHv (f:=nB) (zAy j)) U U U U U U U U (A [57,6,62,5,1,8,68,9,105] ?_))
 refine zOT (ps:=[.agg [.own 900001,Z e],Z i]) [(900001,.sl 10 false ((a.map Prod.fst).map zAZ))] [] (enc:=fun (m:Bool)=>Y m) (Sr:=fun (m:Bool)=>[]) (qs:=[.agg (zAE (⟨(a.map Prod.fst),e⟩:Forest)),Z i]) (Sc:=[]) (N0:=[]) (NR:=[]) zHf trivial (fun _=>U) U U U U U U U (fun _=>U) (fun _=>U) ⟨zPC (nB) Prod.fst zAZ a (fun _=>U) (fun _=>U) U,trivial⟩ U U (fun _=>U) (fun _=>by first | rfl | simp [zMK,zDP,zAB]) U U U ⟨⟨_,U,.rfl⟩,⟨_,U,.rfl⟩,trivial⟩ zfY U U fun m _=>ns (jw (zFi fu i a p) [0,1,4] [900000,900001] (fun _=>[]) (fun s=>[(900002,.arr 192 9 (s.map zBL))]) U U ?_ fun g=>?_)
 ·rintro s
  refine A [7,9,106] ?_
  refine zBW (T:=tab) a (by simp) U U U U U U U U fun q k=>pq 1 U (zUt (T:=tab) 700035 (zHv (f:=nB) (zAy k)) U U U U U U U U U U U U U U U (A [1,44] (fun t _=>?_) zHz [(900000,700035)]))
  refine A [57,6,52,4,4,0,1,4,5,700035,900000,900001,900002,96] ?_
  refine vT [96,98,1800003] [100] [] U U (zPx (T:=tab) a (by simp) U U U U U U U U fun n _=>pzq U) (fun _=>U) (fun _=>U) fun n _=>vq 1 U (by kernel_rfl) (vS [102,1800003] [104] [] U U (zOU (T:=tab) U U U U U U U (pyq U)) U U (vq 2 U (by kernel_rfl) (vT [108] [110] [] U U (zM2 (T:=tab) U U U U fun l _=>pzq U) (fun _=>U) (fun _=>U) fun l _=>A [55,5,4,104,106,110,1400071,1800003,112,104,1400071,1800003] (fun c _=>?_) zNe [(900000,700035)] [700035])))
  refine vT [84,86,1800003] [114] [] U U (zPx (T:=tab) a (by simp) U U U U U U U U fun o b=>pzq U) (fun _=>U) (fun _=>U) fun o b=>vq 1 U (by kernel_rfl) (vS [112,116,1400071,1800003] [112,1400071,1800003] [] U U (zcV 900001 U U (zUq (T:=tab) (zXX (zAy b)) (zUR (f:=nB) ((({q.1 with Kids:=c}:Node),true):Node×Bool) (by rfl)) U U U U U U U U U U U (pyq U))) U U (A [79,14,106] ?_))
  exact zBW (T:=tab) (a.set (p.1.Parent).toNat (({q.1 with Kids:=c}:Node),true)) (by simp) U U U U U U U U fun d h=>pq 1 U (zKl (T:=tab) (nB) (a.set (p.1.Parent).toNat (({q.1 with Kids:=c}:Node),true)) d ((({d.1 with Parent:=(-1)}:Node),d.2):Node×Bool) (zAy h) U U U U U U U U U U U U U U U (zGa (zKw (T:=tab) U U U ⟨U,U⟩ ⟨U,U,U,trivial⟩ U)))
 ·refine zAF U ?_ ?_
  ·refine A [14,2,20,43] (fun u _=>?_) zH9 [(900000,900000),(900001,900001),(900002,900002)] [900002]
   exact A [11,45] (g u)
  ·exact A [4,45] (g l4)
def zDp (fu:Nat) (h a g:Int) (i:(List (Node×Bool))×(List Note)) (j:Node×Bool) (f:List Int):Nat->Int×(List (Node×Bool))->Option ((List (Node×Bool))×(List Note))
 | 0,_=>none
 | k1+1,(t9,l10)=>cnd (decide (t9<(f.length:Int))) (bnd (idx f t9) fun b=>bnd (idx l10 b) fun c=>bnd (rng .i64 (t9+1)) fun d=>(zDp fu h a g i j f k1) (d,(l10.set (b).toNat (({c.1 with Doc:=a}:Node),c.2)))) (bnd (zEU fu h (⟨3,0,j.1.Doc,a,[],false,false,[],[]⟩:Note) g l10 i.2) fun e=>some (l10,e))
def zGz (fu:Nat) (c a d:Int) (l4:List (Node×Bool)) (f:List Note):Option ((List (Node×Bool))×(List Note)):=bnd (zD3 fu c d l4 f) fun b=>bnd (idx b.1 c) fun e=>cnd (e.1.Doc==a) (some (b.1,b.2)) (bnd (zD6 fu (⟨(b.1.map Prod.fst),d⟩:Forest) c) fun g=>(zDp fu c a d b e g) fu (0,b.1))
end Go.Proofs.YtmfbghpealgaiaaGreatDoor
