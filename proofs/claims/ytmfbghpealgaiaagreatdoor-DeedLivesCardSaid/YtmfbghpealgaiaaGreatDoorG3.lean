/- Models and proofs, printed by emit2.py. -/
import Derived.Test.YtmfbghpealgaiaaGreatDoorG2
namespace Go.Proofs.YtmfbghpealgaiaaGreatDoor
open Go Go.Pw
open List renaming map_eq_nil_iff->eZ
set_option maxRecDepth 100000
set_option maxHeartbeats 10000000
set_option linter.unusedVariables false
theorem zKP {fu:Nat} {l1:List Int} {a:List Node} {b c:Int} {f:List (Int×(List (Bs×Int)))}:FF (zEt fu (fun (i:Int) (j:(List (Int×(List (Bs×Int)))))=>zA8 fu i a b c j) l1 f) 227 [.own 900000,.fn (.func 255) [] [.loc 900001 0,.loc 900002 0]] [(900000,.arr 3 1 (l1.map zAB)),(900001,.box 342 [.sl 10 false (a.map zAZ),Z b,.own 900003]),(900002,.box 3 [Z c]),(900003,.mp (f.map fun p:Int×(List (Bs×Int))=>(zOF .i64 p.1,.mpd (p.2.map fun p:Bs×Int=>(zNV p.1,Z p.2)))))] [900000,900001,900002,900003] (fun r=>Z r.1) fun r=>[(900000,.arr 3 1 (l1.map zAB)),(900001,.box 342 [.sl 10 false (a.map zAZ),Z b,.own 900003]),(900002,.box 3 [Z c]),(900003,.mp (r.2.map fun p:Int×(List (Bs×Int))=>(zOF .i64 p.1,.mpd (p.2.map fun p:Bs×Int=>(zNV p.1,Z p.2)))))]:=by
 refine fcI Tryz.func227 U (A [75,80,39,57,13] ?_)
 refine lw (zBR (fun (i:Int) (j:(List (Int×(List (Bs×Int)))))=>zA8 fu i a b c j) l1) [0,1,7] [900000,900001,900002] (fun (h,g)=>[(8,Z h)]) (fun (h,g)=>[(900003,.mp (g.map fun p:Int×(List (Bs×Int))=>(zOF .i64 p.1,.mpd (p.2.map fun p:Bs×Int=>(zNV p.1,Z p.2)))))]) fu (0,f) U U ?_
 rintro m ⟨h,g⟩
 refine A [75,10,2,86,59,72,62,93,38] fun l d=>?_
 refine zAv (T:=tab) zAB l1 l (zAx d) U U U U U U U U (A [43] (fun k _=>?_) zKC [(900000,900001),(900001,900002),(900002,900003)])
 refine A [0,5,2,62,8,4,94] fun e _=>?_
 exact A [89] (tx (e,k.2))
def zAu (h:Int->(List (Int×(List (Bs×Int))))->Option (Bool×(List (Int×(List (Bs×Int)))))):Nat->Int×Int×(List Int)×(List (Int×(List (Bs×Int))))->Option ((List Int)×(List (Int×(List (Bs×Int)))))
 | 0,_=>none
 | k1+1,(i8,j9,l10,l11)=>cnd (decide (j9<(l10.length:Int))) (bnd (idx l10 j9) fun b=>bnd (h b l11) fun a=>cnd (!a.1) (bnd (idx l10 i8) fun i=>bnd (rng .i64 (i8+1)) fun c=>bnd (rng .i64 (j9+1)) fun d=>(zAu h k1) (c,d,(l10.set (i8).toNat b),a.2)) (bnd (rng .i64 (j9+1)) fun e=>(zAu h k1) (i8,e,l10,a.2))) (bnd (zV8 l10 i8 (0:Int)) fun f=>bnd (zGF f 0 i8) fun g=>some (g,l11))
def zCx (fu:Nat) (b:Int->(List (Int×(List (Bs×Int))))->Option (Bool×(List (Int×(List (Bs×Int)))))) (l1:List Int) (d:List (Int×(List (Bs×Int)))):Option ((List Int)×(List (Int×(List (Bs×Int))))):=bnd (zEt fu b l1 d) fun a=>cnd (a.1==(-1)) (some (l1,a.2)) (bnd (rng .i64 (a.1+1)) fun c=>(zAu b) fu (a.1,c,l1,a.2))
theorem zJr {fu:Nat} {l1:List Int} {e:List Node} {f g:Int} {t:List (Int×(List (Bs×Int)))}:FF (zCx fu (fun (q:Int) (s:(List (Int×(List (Bs×Int)))))=>zA8 fu q e f g s) l1 t) 231 [.own 900000,.fn (.func 255) [] [.loc 900001 0,.loc 900002 0]] [(900000,.arr 3 1 (l1.map zAB)),(900001,.box 342 [.sl 10 false (e.map zAZ),Z f,.own 900003]),(900002,.box 3 [Z g]),(900003,.mp (t.map fun p:Int×(List (Bs×Int))=>(zOF .i64 p.1,.mpd (p.2.map fun p:Bs×Int=>(zNV p.1,Z p.2)))))] [900001,900002,900003] (fun _=>.own 900000) fun r=>[(900000,.arr 3 1 (r.1.map zAB)),(900001,.box 342 [.sl 10 false (e.map zAZ),Z f,.own 900003]),(900002,.box 3 [Z g]),(900003,.mp (r.2.map fun p:Int×(List (Bs×Int))=>(zOF .i64 p.1,.mpd (p.2.map fun p:Bs×Int=>(zNV p.1,Z p.2)))))]:=by
 refine fcI Tryz.func231 U (A [58,61,43] (fun u _=>?_) zKP [(900000,900000),(900001,900001),(900002,900002),(900003,900003)])
 refine A [57,6,62,5,2,62,8,68,80,16] fun v _=>?_
 refine A [57,13] ?_
 refine lq (zAu (fun (q:Int) (s:(List (Int×(List (Bs×Int)))))=>zA8 fu q e f g s)) (fun ((j,j9,a,b):Int×Int×(List Int)×(List (Int×(List (Bs×Int)))))=>[(0,.own 900000),(1,.fn (.func 255) [] [.loc 900001 0,.loc 900002 0]),(5,Z j),(6,Z j9)]) (fun ((j,j9,a,b):Int×Int×(List Int)×(List (Int×(List (Bs×Int)))))=>[(900000,.arr 3 1 (a.map zAB)),(900001,.box 342 [.sl 10 false (e.map zAZ),Z f,.own 900003]),(900002,.box 3 [Z g]),(900003,.mp (b.map fun p:Int×(List (Bs×Int))=>(zOF .i64 p.1,.mpd (p.2.map fun p:Bs×Int=>(zNV p.1,Z p.2)))))]) fu (u.1,v,l1,u.2) ?_
 rintro x ⟨j,j9,a,b⟩
 refine A [6,61,39,57] ?_
 refine zAD U ?_ ?_
 ·refine A [72,61,38] fun d h=>?_
  refine zAv (T:=tab) zAB a d (zAx h) U U U U U U U U (A [57,61,43] (fun k _=>?_) zKC [(900000,900001),(900001,900002),(900002,900003)])
  refine A [57] ?_
  refine zAD U ?_ ?_
  ·refine A [93,38] fun o i=>?_
   refine zCk (T:=tab) zAB a o d (zAx i) U U U U U U U U U U U U U (A [0,14,1,16] fun l _=>?_)
   refine A [1,11,70,1,16] fun m _=>?_
   exact A [89] (tx (l,m,(a.set (j).toNat d),k.2))
  ·refine A [4,70,1,16] fun n _=>?_
   exact A [89] (tx (j,n,a,k.2))
 ·refine A [86,61] ?_
  refine zYT (T:=tab) zAB a (0:Int) (S':=fun c=>[(900000,.arr 3 1 (c.map zAB)),(900001,.box 342 [.sl 10 false (e.map zAZ),Z f,.own 900003]),(900002,.box 3 [Z g]),(900003,.mp (b.map fun p:Int×(List (Bs×Int))=>(zOF .i64 p.1,.mpd (p.2.map fun p:Bs×Int=>(zNV p.1,Z p.2)))))]) U U U U U U U U U U U U U U U U U U (fun _=>U) fun c _=>A [0,61] ?_
  exact zJI (T:=tab) zAB c U U U U U U U U U U U fun w _=>A [57,8]
def zHN (fu:Nat) (a:Forest) (b:Int):Option (List Int):=cnd (decide (b<0)) (some []) (cnd (decide (b>=(a.Nodes.length:Int))) (some []) (bnd (zAs fu a) fun d=>cnd (!d) (some []) (bnd (idx a.Nodes b) fun i=>bnd (zG2 fu i) fun e=>cnd (!e) (some []) (bnd (zIV fu a) fun c=>bnd (zHG fu a b) fun f=>bnd (zEa fu a f) fun g=>bnd (zCx fu (fun (j:Int) (k:(List (Int×(List (Bs×Int)))))=>zA8 fu j c.Forest.Nodes c.Forest.Most b k) g c.ids) fun h=>some h.1))))
theorem zQG {fu:Nat} {a:Forest} {b:Int}:DD (zHN fu a b) 197 [.agg (zAE a),Z b] fun r=>.sl 1 false (r.map zAB):=by
 refine fcI Tryz.func197 U (A [73,30,3,57,6,93] ?_)
 refine zAV (j:=8) U ?_ ?_
 ·refine A [120,65,58] ?_
  exact zHc 4 (q:=.sl 1 false ([].map zAB)) U .nil rN
 ·refine A [3,35,3] ?_
  refine zAV (j:=15) U ?_ ?_
  ·refine A [113,65,58] ?_
   exact zHc 4 (q:=.sl 1 false ([].map zAB)) U .nil rN
  ·refine A [1,41] (fun c _=>?_) zA7
   refine pq 3 U (zAV (j:=20) U ?_ ?_)
   ·refine A [108,65,58] ?_
    exact zHc 4 (q:=.sl 1 false ([].map zAB)) U .nil rN
   ·refine A [3,36] fun i _=>?_
    refine A [1,41] (fun d _=>?_) zLS
    refine A [2,0] ?_
    refine zAD U ?_ ?_
    ·refine A [58] ?_
     exact zHc 4 (q:=.sl 1 false ([].map zAB)) U .nil rN
    ·refine A [67,80,43] (fun e _=>?_) zOM [(4,2300)] [2300]
     refine A [31,5,12,0,6,52,3,4,2,3,5,5,2300,3,2,53,8,0,0,0,6,15,0,63,127,203,54,2,1,64,66,68] (fun f _=>?_) zNc
     refine A [55,2,2,62,68,70,4701] (fun g _=>?_) zJM [(1034,2350)] [2350]
     refine A [201,55,6,4,7,11,70,72,4601,4701,74,70,4701,4601] (fun h _=>?_) zJr [(900000,2350),(900001,5),(900002,3),(900003,2300)] [2350]
     exact A [201,79,34,2350,8]
def zF8 (_fu:Nat) (b:State) (d:Desk) (a:List Class):Option (Class×Bool):=cnd (decide (b.Def<0)) (some ((⟨false,[],[],[],[]⟩:Class),false)) (cnd (decide (b.Def>=(d.Defs.length:Int))) (some ((⟨false,[],[],[],[]⟩:Class),false)) (bnd (idx d.Defs b.Def) fun c=>cnd (decide (c.Class<0)) (some ((⟨false,[],[],[],[]⟩:Class),false)) (cnd (decide (c.Class>=(a.length:Int))) (some ((⟨false,[],[],[],[]⟩:Class),false)) (bnd (idx a c.Class) fun e=>some (e,true)))))
theorem zKR {fu:Nat} {c:State} {b:Desk} {a:List Class}:DD (zF8 fu c b a) 24 [.agg (zBn c),.agg (zI8 b),.sl 5 false (a.map zCA)] fun r=>.tup [.agg (zCA r.1),Y r.2]:=by
 refine fcI Tryz.func24 U (A [9,30,3,30,4,31,6,57,6,76] ?_)
 refine zAV (j:=12) U ?_ ?_
 ·refine A [107,65,9,20,92] ?_
  exact zFz 6 [Y false,.sl 1 false ([].map zSK),.sl 7 false ([].map cOp),.sl 7 false ([].map cOp),.sl 2 false ([].map zKT)] U ⟨.rfl,.nil,.nil,.nil,.nil,trivial⟩ U rN
 ·refine A [104,35,2,0] ?_
  refine zAD U ?_ ?_
  ·refine A [9,20,92] ?_
   exact zFz 6 [Y false,.sl 1 false ([].map zSK),.sl 7 false ([].map cOp),.sl 7 false ([].map cOp),.sl 2 false ([].map zKT)] U ⟨.rfl,.nil,.nil,.nil,.nil,trivial⟩ U rN
  ·refine A [67,76,36] fun d _=>?_
   refine A [3,0,6,93] ?_
   refine zAV (j:=30) U ?_ ?_
   ·refine A [105,65,9,20,92] ?_
    exact zFz 6 [Y false,.sl 1 false ([].map zSK),.sl 7 false ([].map cOp),.sl 7 false ([].map cOp),.sl 2 false ([].map zKT)] U ⟨.rfl,.nil,.nil,.nil,.nil,trivial⟩ U rN
   ·refine A [2,35,2,0] ?_
    refine zAD U ?_ ?_
    ·refine A [9,20,92] ?_
     exact zFz 6 [Y false,.sl 1 false ([].map zSK),.sl 7 false ([].map cOp),.sl 7 false ([].map cOp),.sl 2 false ([].map zKT)] U ⟨.rfl,.nil,.nil,.nil,.nil,trivial⟩ U rN
    ·refine A [67,61,36] fun e _=>?_
     exact A [1,92,8]
def zC3 (fu:Nat) (d:Int) (e:List Node) (f:List Def) (g:List Wait) (h:Int) (i:Bool) (j:List Class) (k:List State):Option (Class×Bool):=bnd (idx k d) fun b=>bnd (zF8 fu b (⟨f,g,h,i⟩:Desk) j) fun a=>cnd a.2 (cnd a.1.Form (cnd (b.Phase==3) (bnd (idx e d) fun c=>some (a.1,(c.Kind==1))) (some (a.1,false))) (some (a.1,false))) (some (a.1,false))
theorem zGn {fu:Nat} {m:Int} {c:List Node} {l:Int} {e:List Def} {f:List Wait} {g:Int} {h:Bool} {i:List Class} {d:List State} {b:List Due}:FF (zC3 fu m c e f g h i d) 198 [.loc 900000 0,Z m] [(900000,.box 284 [.sl 10 false (c.map zAZ),Z l,.own 900001,.sl 3 false (e.map zRM),.sl 2 false (f.map zJ1),Z g,Y h,.sl 5 false (i.map zCA),.own 900002]),(900001,.arr 53 4 (d.map zBn)),(900002,.arr 171 11 (b.map zJF))] [900000,900001,900002] (fun r=>.tup [.agg (zCA r.1),Y r.2]) fun _=>[(900000,.box 284 [.sl 10 false (c.map zAZ),Z l,.own 900001,.sl 3 false (e.map zRM),.sl 2 false (f.map zJ1),Z g,Y h,.sl 5 false (i.map zCA),.own 900002]),(900001,.arr 53 4 (d.map zBn)),(900002,.arr 171 11 (b.map zJF))]:=by
 refine fcI Tryz.func198 U (A [9,31,4,57,9,105,38] fun j a=>?_)
 refine zAv (T:=tab) zBn d j (zAx a) U U U U U U U U (A [31,6,12,0,6,52,4,5,0,1,4,6,6,4,900000,900001,900002,53,16,0,0,2,6,14,0,32,96,224,511,1023,2047,2047,0,12287,32767,209,54,3,1,34,42,50,52] (fun n _=>?_) zKR)
 refine vq 3 U (by kernel_rfl) (vS [] [14,15] [7] U U (zFf (T:=tab) 7 U U U U U U U U U (pyq U)) U U (A [50,3,1,14,15,54,15,201,79,6,52,6,6,0,1,4,6,7,8,7,6,4,900000,900001,900002,53,25,0,0,2,6,14,30,62,126,254,510,1022,2046,4094,8190,16382,32766,65534,4094,262142,524286,1048574,2097150,4194302,4095,16777215,203] ?_))
 refine zBd (t:=31) U ?_ ?_
 ·refine vq 4 U (by kernel_rfl) (zBd (t:=35) U ?_ ?_)
  ·refine vq 5 U (by kernel_rfl) (zBd (t:=40) U ?_ ?_)
   ·exact vq 6 U (by kernel_rfl) (vT [80,90,92] [94] [] U U (zE1 (T:=tab) zAZ c U U U U U U U fun k _=>pzq U) (fun _=>U) (fun _=>U) fun k _=>A [204,50,3,1,8,9,58,9,201,79,8])
   ·exact A [211,50,3,1,8,9,58,9,201,79,8]
  ·exact A [216,50,3,1,8,9,58,9,201,79,8]
 ·exact A [220,50,3,1,8,9,58,9,201,79,8]
def zGb (a:Class):Nat->(List (Int×Hook))->Option (List (Int×Hook))
 | 0,l2=>some l2
 | k1+1,l2=>bnd (a.Hooks[k1]?) fun b=>(zGb a k1) (zG9 l2 b.Kind b)
def zLe (_fu:Nat) (a:Class):Option (List (Int×Hook)):=(zGb a) a.Hooks.length ([]:(List (Int×Hook)))
theorem zSW {fu:Nat} {c:Class}:FF (zLe fu c) 60 [.agg (zCA c)] [] [] (fun _=>.own 6) fun r=>[(6,.mp (r.map fun p:Int×Hook=>(zOF .i64 p.1,.agg (zKT p.2))))]:=by
 refine fcI Tryz.func60 U (fun {w0 X X0 σ0 _}=>A [9,30,1,57,9] ?_)
 refine zH6 6 U U U U U U U (A [31,3,12,0,6,61] ?_)
 refine zLq (n:=3009) tab Tryz.func107 U U U U U U U U U U U U ⟨⟨_,U,.rfl⟩,trivial⟩ zfo U U (A [0,13] ?_)
 refine zYY (T:=tab) (enc:=zKT) (enc':=fun (a:Hook)=>.agg (zKT a)) (xs:=c.Hooks) (x0:=([]:(List (Int×Hook)))) (n:=3009) (tS:=68) (tE:=86) (tI:=3) (tB:=4) (tF:=260) (g:=170) (M:=(zGb c)) (Sf:=fun (b:(List (Int×Hook)))=>[(3,.box 138 [.own 6]),(6,.mp (b.map fun p:Int×Hook=>(zOF .i64 p.1,.agg (zKT p.2))))]) (N1:=[3]) (E0:=[(3,.loc 3 0)]) (E1:=fun d a=>[(3,.loc 3 0),(10,Z ((d:Nat):Int)),(11,.agg (zKT a)),(5,.loc 5 0)]) (S1:=fun d a (b:(List (Int×Hook)))=>[(5,.box 86 (zKT a)),(3,.box 138 [.own 6]),(6,.mp (b.map fun p:Int×Hook=>(zOF .i64 p.1,.agg (zKT p.2))))]) Tryz.func170 U U U zfr U U (fun _=>U) (fun _=>U) U U ⟨U,trivial⟩ U U ⟨U,U,trivial⟩ U U U U U U ?_ ?_ ?_
 ·rintro d a b hy w0 X X0 σ0 _ _
  refine A [31,5,12,11] ?_
  exact zPY ⟨U,U,U,U,trivial⟩ ⟨U,U,U,trivial⟩ U
 ·rintro d a b hy w0 X X0 σ0 _ _
  exact zQp hy (pq 4 U (zFy (zKJ .i64) (fun v=>.agg (zKT v)) b a.Kind a Tryz.underlying138 Tryz.underlying3 U U U U U U U U U (A [63] (tx (zG9 b a.Kind a)))))
 ·rintro b
  exact A [69,62,8]
def zEQ (fu:Nat) (b:Class) (a:Int):Option Bool:=bnd (zLe fu b) fun c=>some (zK5 c a)
theorem zGa {fu:Nat} {b:Class} {a:Int}:DD (zEQ fu b a) 25 [.agg (zCA b),Z a] fun r=>Y r:=by
 refine fcI Tryz.func25 U (A [73,57,80,43] (fun c _=>?_) zSW [(6,2090)] [2090])
 exact pq 1 U (zH5 (T:=tab) (zKJ .i64) (fun v=>.agg (zKT v)) c a (⟨0,[]⟩:Hook) Tryz.underlying138 Tryz.underlying3 U U U U U U U U U (A [3,31,5,92,62,8]))
def zCj (fu:Nat) (e:Class) (d:Int) (c:Todo) (a:List Due):Option (List Due):=bnd (zEQ fu e c.Kind) fun b=>cnd b (bnd (zDI 104 (a.length+([(⟨d,c⟩:Due)]:List Due).length)) fun _=>some (a++[(⟨d,c⟩:Due)])) (some a)
theorem zEp {fu:Nat} {f:Class} {d:Int} {e:Todo} {g:List Node} {h:Int} {i:List Def} {j:List Wait} {k:Int} {l:Bool} {b:List Class} {c:List State} {a:List Due}:FF (zCj fu f d e a) 199 [.loc 900000 0,.agg (zCA f),Z d,.agg (zLg e)] [(900000,.box 284 [.sl 10 false (g.map zAZ),Z h,.own 900001,.sl 3 false (i.map zRM),.sl 2 false (j.map zJ1),Z k,Y l,.sl 5 false (b.map zCA),.own 900002]),(900001,.arr 53 4 (c.map zBn)),(900002,.arr 171 11 (a.map zJF))] [900000,900001] (fun _=>.tup []) fun r=>[(900000,.box 284 [.sl 10 false (g.map zAZ),Z h,.own 900001,.sl 3 false (i.map zRM),.sl 2 false (j.map zJ1),Z k,Y l,.sl 5 false (b.map zCA),.own 900002]),(900001,.arr 53 4 (c.map zBn)),(900002,.arr 171 11 (r.map zJF))]:=by
 refine fcI Tryz.func199 U (A [9,30,5,30,7,0,93,41] (fun m _=>?_) zGa)
 refine ns (zAD U ?_ ?_)
 ·refine A [52,3,4,0,2,7,7,900000,900001,900002,53,13,0,0,2,6,14,0,0,96,224,510,1023,2047,4095,207,51,2,1,34,36,38] ?_
  refine vS [38] [40,41] [20] U U (pl ([(⟨d,e⟩:Due)].map zJF) 20 U U U U U U (pyq U)) U U (vU [32,40,41,1800001,1800005] [42,32,1800001,1800005] [900002] U U (pa zJF a ([(⟨d,e⟩:Due)]:List Due) U U U U U U U U (zQc _) U U U (pyq U)) U U fun _ _=>A [202,50,4,1,42,46,1800001,1800005,1800001,19] ?_)
  exact zKZ (T:=tab) U U U ⟨U,U⟩ ⟨U,U,U,trivial⟩ U
 ·exact zXL (zKZ (T:=tab) U U U ⟨U,U⟩ ⟨U,U,U,trivial⟩ U)
def zE3 (fu:Nat) (a:Unit×Bool×(List Node)×Int×(List Def)×(List Wait)×Int×Bool×(List Class)×(List State)×(List Due)) (d:List Int):Nat->Int×(List Due)->Option (List Due)
 | 0,_=>none
 | k1+1,(t8,l9)=>cnd (decide (t8<(d.length:Int))) (bnd (idx d t8) fun c=>bnd (zC3 fu c a.2.2.1 a.2.2.2.2.1 a.2.2.2.2.2.1 a.2.2.2.2.2.2.1 a.2.2.2.2.2.2.2.1 a.2.2.2.2.2.2.2.2.1 a.2.2.2.2.2.2.2.2.2.1) fun b=>cnd b.2 (bnd (zCj fu b.1 c (⟨7,0,[],false,false,[],[],0,0,false⟩:Todo) l9) fun g=>bnd (rng .i64 (t8+1)) fun e=>(zE3 fu a d k1) (e,g)) (bnd (rng .i64 (t8+1)) fun f=>(zE3 fu a d k1) (f,l9))) (some l9)
def zJ7 (fu:Nat) (d:Forest) (b:List State) (e:Desk) (a:List Class) (g:Int):Option (List Due):=bnd (zHo fu d b e a) fun c=>cnd (!c.2.1) (some []) (bnd (zHN fu d g) fun f=>(zE3 fu c f) fu (0,c.2.2.2.2.2.2.2.2.2.2))
theorem zTb {fu:Nat} {i:Forest} {b:List State} {h:Desk} {a:List Class} {k:Int}:DD (zJ7 fu i b h a k) 132 [.agg (zAE i),.sl 4 false (b.map zBn),.agg (zI8 h),.sl 5 false (a.map zCA),Z k] fun r=>.sl 11 false (r.map zJF):=by
 refine fcI Tryz.func132 U (A [9,30,5,30,7,57,76,43] (fun j _=>?_) zMI [(17,2102200),(2130,2102201),(31708,2102202)] [2102200,2102201,2102202])
 refine A [105,0,6,62] ?_
 refine zAD U ?_ ?_
 ·refine A [58] ?_
  exact zHc 10 (q:=.sl 11 false ([].map zJF)) U .nil rN
 ·refine A [68,99] (fun m _=>?_) zQG
  refine A [77,13] ?_
  refine lw (zE3 fu j m) [11,29,30] [2102200,2102201] (fun (g,c)=>[(31,Z g)]) (fun (g,c)=>[(2102202,.arr 171 11 (c.map zJF))]) fu (0,j.2.2.2.2.2.2.2.2.2.2) U U ?_
  rintro o ⟨g,c⟩
  refine A [75,10,7,86,9,105,0,34,2102202,8,72,9,36] fun n _=>?_
  refine A [2,0,61,44] (fun l _=>?_) zGn [(900000,2102200),(900001,2102201),(900002,2102202)]
  refine A [3,31,15,92,58] ?_
  refine zAD U ?_ ?_
  ·refine A [14,3,20,43] (fun f _=>?_) zEp [(900000,2102200),(900001,2102201),(900002,2102202)] [2102202]
   refine A [11,94] fun d _=>?_
   exact A [89] (tx (d,f))
  ·refine A [4,94] fun e _=>?_
   exact A [89] (tx (e,c))
def zH9 (fu:Nat) (g:Forest) (a:List State) (f:Desk) (b:List Class) (d:Int) (i:Bs):Option (List Due):=bnd (zHo fu g a f b) fun c=>cnd (!c.2.1) (some []) (cnd (decide (d<0)) (some []) (cnd (decide (d>=(a.length:Int))) (some []) (bnd (zC3 fu d c.2.2.1 c.2.2.2.2.1 c.2.2.2.2.2.1 c.2.2.2.2.2.2.1 c.2.2.2.2.2.2.2.1 c.2.2.2.2.2.2.2.2.1 c.2.2.2.2.2.2.2.2.2.1) fun e=>cnd e.2 (bnd (zCj fu e.1 d (⟨8,0,[],false,false,[],i,0,0,false⟩:Todo) c.2.2.2.2.2.2.2.2.2.2) fun h=>some h) (some c.2.2.2.2.2.2.2.2.2.2))))
theorem zQy {fu:Nat} {d:Forest} {b:List State} {c:Desk} {a:List Class} {e:Int} {f:Bs}:DD (zH9 fu d b c a e f) 133 [.agg (zAE d),.sl 4 false (b.map zBn),.agg (zI8 c),.sl 5 false (a.map zCA),Z e,O f] fun r=>.sl 11 false (r.map zJF):=by
 refine fcI Tryz.func133 U (A [9,30,6,30,8,57,76,43] (fun g _=>?_) zMI [(17,2102200),(2130,2102201),(31708,2102202)] [2102200,2102201,2102202])
 refine A [105,0,6,93] ?_
 refine zAV (j:=27) U ?_ ?_
 ·refine A [109,65,58] ?_
  exact zHc 12 (q:=.sl 11 false ([].map zJF)) U .nil rN
 ·refine pq 4 U (zAV (j:=31) U ?_ ?_)
  ·refine A [105,65,58] ?_
   exact zHc 12 (q:=.sl 11 false ([].map zJF)) U .nil rN
  ·refine A [2,35,2,0] ?_
   refine zAD U ?_ ?_
   ·refine A [58] ?_
    exact zHc 12 (q:=.sl 11 false ([].map zJF)) U .nil rN
   ·refine A [68,61,44] (fun h _=>?_) zGn [(900000,2102200),(900001,2102201),(900002,2102202)]
    refine A [3,31,15,92,58,10,7,67,9,105,0,34,2102202,8,14,104,20,43] (fun i _=>?_) zEp [(900000,2102200),(900001,2102201),(900002,2102202)] [2102202]
    exact A [0,9,105,0,34,2102202,8]
def zEo (fu:Nat) (b:Op) (a:zAN):Option (Int×Bool×zAN):=bnd (idx a.World.Forest.Nodes b.A) fun e=>cnd (b.Kind==17) (bnd (zIm fu b.S a) fun f=>some (f.1,true,f.2)) (cnd (b.Kind==18) (bnd (zJ8 fu a.World.Forest b.A a.World.Desk) fun i=>bnd (zCl fu (fun l=>zCo fu l a) i) fun j=>bnd (zBX fu j a) fun g=>some (g.1,true,g.2)) (cnd (b.Kind==23) (cnd (e.Kind != 1) (some (5,true,a)) (cnd (!(e.Name==([102,111,114,109]:Bs))) (some (5,true,a)) (bnd (zJ7 fu a.World.Forest a.World.States a.World.Desk a.World.Classes b.A) fun k=>bnd (zBX fu k a) fun h=>some (h.1,true,h.2)))) (cnd (b.Kind==24) (cnd (e.Kind != 1) (some (5,true,a)) (bnd (zH9 fu a.World.Forest a.World.States a.World.Desk a.World.Classes b.A b.S) fun d=>bnd (zBX fu d a) fun c=>some (c.1,true,c.2))) (some (0,false,a)))))
theorem zQB {fu:Nat} {b:Op} {a:zAN}:FF (zEo fu b a) 83 [.loc 900000 0,.agg (cOp b)] [(900000,.box 99 (zB3 a))] [900000] (fun r=>.tup [Z r.1,Y r.2.1]) fun r=>[(900000,.box 99 (zB3 r.2.2))]:=by
 refine fcI Tryz.func83 U (A [73,30,3,2,0,6,52,2,3,2,3,3,2,900000,53,12,0,1,3,7,15,31,0,64,255,511,0,2047,208] ?_)
 refine vT [26,30] [32] [] U U (zE1 (T:=tab) zAZ a.World.Forest.Nodes U U U U U U U fun f _=>pzq U) (fun _=>U) (fun _=>U) fun f _=>vq 1 U (by kernel_rfl) (vS [] [12,13] [6] U U (zFf (T:=tab) 6 U U U U U U U U U (pyq U)) U U (A [50,3,1,12,13,34,13,79,6,62,13,62] ?_))
 refine zAD U ?_ ?_
 ·refine A [93,43] (fun g _=>?_) zO8 [(900000,900000)]
  exact A [2,74]
 ·refine A [62] ?_
  refine zAD U ?_ ?_
  ·refine A [6,52,2,3,2,3,3,2,900000,53,14,0,1,3,7,15,0,32,0,128,384,896,1920,4095,8191,212,55,3,2,64,68,78,80,4801] (fun h _=>?_) zTd [(1027,2400)] [2400]
   refine A [201,79,6,52,2,3,2,7,2400,2,900000,53,7,0,0,0,6,15,31,63,203,55,6,4,5,14,84,86,4801,1800001,88,14,84,4801] (fun i _=>?_) zJU [(900000,2400),(900001,2),(900002,900000)] [2400]
   exact vT [82,88,4801,1800001] [90,88,4801,1800001] [] U U (zGf 2400 U U U (tqG (rn:=[(900000,900000)]) (ks:=[]) ⟨zE2⟩ U U U U U U U U fun e _=>pzq U)) (fun _=>U) (fun _=>U) fun e _=>A [202,79,8]
  ·refine A [62] ?_
   refine zAD U ?_ ?_
   ·refine A [6,76,26,51,4,104,65,62,8,104,0,5,2,62,8,68,52,2,3,2,3,3,2,900000,53,27,0,0,2,6,14,30,0,64,192,448,960,0,2048,6144,14336,30720,0,65536,196608,458752,983040,0,2097152,8388606,16777215,33554431,67108863,223,54,5,1,122,132,142,152,156,158] (fun j _=>?_) zTb
    refine A [55,3,2,112,158,1800001,160,1800001] (fun k _=>?_) zE2 [(900000,900000)]
    exact A [202,79,8]
   ·refine A [62,10,4,4,69,62,8,6,93,0,5,2,62,8,68,52,2,3,2,3,3,2,900000,53,29,0,0,2,6,14,30,0,64,192,448,960,0,2048,6144,14336,30720,0,65536,196608,458752,983040,0,2097152,0,8388608,33554430,67108863,134217727,268435455,225,54,6,1,182,192,202,212,216,220,222] (fun c _=>?_) zQy
    refine A [55,3,2,172,222,1800001,224,1800001] (fun d _=>?_) zE2 [(900000,900000)]
    exact A [202,79,8]
def zAf (_fu:Nat) (a:List Attr):Option (List Attr):=bnd (zDI 32 (([]:List Attr).length+a.length)) fun _=>some (([]:List Attr)++a)
theorem zBp {fu:Nat} {a:List Attr}:FF (zAf fu a) 102 [.sl 2 false (a.map zD4)] [] [] (fun _=>.own 5) fun r=>[(5,.arr 198 2 (r.map zD4))]:=by
 refine fcI Tryz.func102 U (A [75,80] ?_)
 refine zII (T:=tab) U U U U U U fun b d=>?_
 cases b
 ·refine A [0,23,67,9] ?_
  exact pl (([]:List Attr).map zD4) 5 U U U U U U (pq 1 U (pa zD4 ([]:List Attr) a U U U U U U U U (zRL _) U U U (A [57,8])))
 ·have c:a=[]:=eZ.1 (d rfl)
  exact zKb (m':=some ([]:List Attr)) (by subst c;rfl) (A [0,25,58,56,5,198,2,2,8])
def zAr (_fu:Nat) (a:List Node):Option (List Node):=bnd (zDI 136 (([]:List Node).length+a.length)) fun _=>some (([]:List Node)++a)
theorem zBq {fu:Nat} {a:List Node}:FF (zAr fu a) 153 [.sl 10 false (a.map zAZ)] [] [] (fun _=>.own 5) fun r=>[(5,.arr 77 10 (r.map zAZ))]:=by
 refine fcI Tryz.func153 U (A [75,80] ?_)
 refine zII (T:=tab) U U U U U U fun b d=>?_
 cases b
 ·refine A [0,23,67,9] ?_
  exact pl (([]:List Node).map zAZ) 5 U U U U U U (pq 1 U (pa zAZ ([]:List Node) a U U U U U U U U (zOZ _) U U U (A [57,8])))
 ·have c:a=[]:=eZ.1 (d rfl)
  exact zKb (m':=some ([]:List Node)) (by subst c;rfl) (A [0,25,58,56,5,77,10,2,8])
def zGW (fu:Nat) (a:Forest) (b c:Node) (d:Int):Option (Forest×Int×Int):=bnd (zAf fu b.Attrs) fun f=>bnd (zCq fu (⟨a⟩:zAP)) fun h=>cnd (!h) (some (a,(-1),1)) (bnd (zGX fu ({c with Name:=b.Name,Is:=b.Is,Data:=b.Data,Attrs:=f,Doc:=d}:Node)) fun i=>cnd (!i) (some (a,(-1),1)) (cnd (c.Kind==4) (some (a,(-1),1)) (cnd (c.Kind != 0) (bnd (zDB fu (⟨a⟩:zAP) d 0) fun j=>cnd (!j) (some (a,(-1),1)) (cnd ((a.Nodes.length:Int)==a.Most) (some (a,(-1),8)) (bnd (zAr fu a.Nodes) fun g=>bnd (zDI 136 (g.length+([({c with Name:=b.Name,Is:=b.Is,Data:=b.Data,Attrs:=f,Doc:=d}:Node)]:List Node).length)) fun _=>some ((⟨(g++[({c with Name:=b.Name,Is:=b.Is,Data:=b.Data,Attrs:=f,Doc:=d}:Node)]),a.Most⟩:Forest),(a.Nodes.length:Int),0)))) (cnd ((a.Nodes.length:Int)==a.Most) (some (a,(-1),8)) (bnd (zAr fu a.Nodes) fun e=>bnd (zDI 136 (e.length+([({c with Name:=b.Name,Is:=b.Is,Data:=b.Data,Attrs:=f,Doc:=d}:Node)]:List Node).length)) fun _=>some ((⟨(e++[({c with Name:=b.Name,Is:=b.Is,Data:=b.Data,Attrs:=f,Doc:=d}:Node)]),a.Most⟩:Forest),(a.Nodes.length:Int),0))))))
def zDJ (fu:Nat) (b:Forest) (a:Node):Option (Forest×Int×Int):=bnd (zI3 fu a.Kind a.Doc) fun c=>cnd (a.Kind==0) ((zGW fu b a c) (b.Nodes.length:Int)) ((zGW fu b a c) c.Doc)
theorem zIA {fu:Nat} {e:Forest} {a:Node}:DD (zDJ fu e a) 200 [.agg (zAE e),.agg (zAZ a)] fun r=>.tup [.agg (zAE r.1),Z r.2.1,Z r.2.2]:=by
 refine fcI Tryz.func200 U (A [73,30,3,31,4,2,0,61,77,76,41] (fun b _=>?_) zNd)
 refine A [31,8,12,0,6,93,0] ?_
 refine jw (zGW fu e a b) [2,3,4,7,8] [4,3,2] (fun _=>[]) (fun c=>[(8,.box 77 [Z b.Kind,O b.Name,O b.Is,O b.Data,.sl 2 false (b.Attrs.map zD4),Z b.Parent,.sl 1 false (b.Kids.map zAB),Z b.Host,Z b.Under,Z c])]) U U ?_ fun d=>?_
 ·rintro c
  refine A [7,6,52,5,4,2,3,4,7,8,8,4,3,2,53,17,0,1,0,4,0,16,0,64,192,3,963,1999,4047,8191,16383,32767,65535,208,55,1,2,60,62,4621] (fun f _=>?_) zBp [(5,2310)] [2310]
  refine A [201,50,3,1,17,48,64,17,201,50,3,1,17,52,66,17,201,50,3,1,17,56,68,17,201,50,4,1,17,62,70,4621,17,79,80,20,31,9,12,0,6,13,80,41] (fun i _=>?_) zGM
  refine A [2,26,42,6,122,65,80,12,2,74,1,33,2310,41] (fun k _=>?_) zMK
  refine A [3,26,47,6,117,65,80,12,2,74,105,26,52,6,112,65,80,12,2,74,104] ?_
  refine zAV (j:=56) U ?_ ?_
  ·refine A [3,41] (fun l _=>?_) zF4
   refine A [104,0,5,4,80,12,2,74,9,105,0,5,4,80,12,2,74,4,69,6,52,4,3,2,4,7,8,8,4,2,53,8,0,1,3,0,8,31,63,127,202,55,1,2,144,146,5461] (fun h _=>?_) zBq [(5,2730)] [2730]
   exact vq 1 U (by kernel_rfl) (vS [148] [150,151] [75] U U (pl ([({b with Name:=a.Name,Is:=a.Is,Data:=a.Data,Attrs:=f,Doc:=c}:Node)].map zAZ) 75 U U U U U U (pyq U)) U U (vU [146,150,151,5461] [152,146,5461] [2730] U U (pa zAZ h ([({b with Name:=a.Name,Is:=a.Is,Data:=a.Data,Attrs:=f,Doc:=c}:Node)]:List Node) U U U U U U U U (zOZ _) U U U (pyq U)) U U fun _ _=>A [201,50,4,1,5,152,154,5461,5,79,61,12,2,0,34,2730,8]))
  ·refine A [108,11,24,9,105,0,5,4,80,12,2,74,4,69,6,52,4,3,2,4,7,8,8,4,2,53,8,0,1,3,0,8,31,63,127,202,55,1,2,144,146,5461] (fun g _=>?_) zBq [(5,2730)] [2730]
   exact vq 1 U (by kernel_rfl) (vS [148] [150,151] [75] U U (pl ([({b with Name:=a.Name,Is:=a.Is,Data:=a.Data,Attrs:=f,Doc:=c}:Node)].map zAZ) 75 U U U U U U (pyq U)) U U (vU [146,150,151,5461] [152,146,5461] [2730] U U (pa zAZ g ([({b with Name:=a.Name,Is:=a.Is,Data:=a.Data,Attrs:=f,Doc:=c}:Node)]:List Node) U U U U U U U U (zOZ _) U U U (pyq U)) U U fun _ _=>A [201,50,4,1,5,152,154,5461,5,79,61,12,2,0,34,2730,8]))
 ·refine zAD U ?_ ?_
  ·exact A [14,2,12,11,45] (d (e.Nodes.length:Int))
  ·exact A [4,45] (d b.Doc)
def zDA (fu:Nat) (a:Node) (b:zAN):Option (zBY×zAN):=bnd (idx b.World.Forest.Nodes a.Doc) fun k=>cnd (k.Kind != 0) (some ((⟨(⟨[],0⟩:Forest),[],5⟩:zBY),b)) (bnd (zF5 fu a.Name) fun g=>cnd (a.Kind==1) (cnd (g.2 != 0) (some ((⟨(⟨[],0⟩:Forest),[],4⟩:zBY),b)) (cnd (!(a.Is==([]:Bs))) (bnd (zCv fu a.Is) fun h=>cnd (!h) (some ((⟨(⟨[],0⟩:Forest),[],4⟩:zBY),b)) (bnd (zEH fu a.Name) fun i=>bnd (zDJ fu b.World.Forest ({a with Name:=i}:Node)) fun e=>some ((⟨e.1,[],e.2.2⟩:zBY),(⟨b.World,e.2.1⟩:zAN)))) (bnd (zEH fu a.Name) fun j=>bnd (zDJ fu b.World.Forest ({a with Name:=j}:Node)) fun f=>some ((⟨f.1,[],f.2.2⟩:zBY),(⟨b.World,f.2.1⟩:zAN))))) (bnd (zEH fu a.Name) fun d=>bnd (zDJ fu b.World.Forest ({a with Name:=d}:Node)) fun c=>some ((⟨c.1,[],c.2.2⟩:zBY),(⟨b.World,c.2.1⟩:zAN))))
theorem zHm {fu:Nat} {e:Node} {b:zAN}:FF (zDA fu e b) 134 [.loc 900000 0,.agg (zAZ e)] [(900000,.box 99 (zB3 b))] [900000] (fun r=>.agg (zMu r.1)) fun r=>[(900000,.box 99 (zB3 r.2))]:=by
 refine fcI Tryz.func134 U (A [9,30,3,31,4,0,6,6,52,3,3,0,3,4,4,3,900000,53,12,0,1,3,7,15,31,0,64,255,511,1023,2047,208] ?_)
 refine vT [30,34] [36] [] U U (zE1 (T:=tab) zAZ b.World.Forest.Nodes U U U U U U U fun g _=>pzq U) (fun _=>U) (fun _=>U) fun g _=>A [203,79] ?_
 refine zAD U ?_ ?_
 ·refine A [9,20,12,0] ?_
  exact zFz 4 [.sl 10 false ([].map zAZ),Z 0,.sl 9 false ([].map zBI),Z 5] U ⟨.nil,.rfl,.nil,.rfl,trivial⟩ U rN
 ·refine A [67,99] (fun h _=>?_) zHs
  refine A [105,0,6,76] ?_
  refine zAV (j:=32) U ?_ ?_
  ·refine pq 3 U (zAV (j:=35) U ?_ ?_)
   ·refine A [111,65,9,20,12,0] ?_
    exact zFz 4 [.sl 10 false ([].map zAZ),Z 0,.sl 9 false ([].map zBI),Z 4] U ⟨.nil,.rfl,.nil,.rfl,trivial⟩ U rN
   ·refine pq 4 U (zAV (j:=39) U ?_ ?_)
    ·refine A [2,41] (fun i _=>?_) zEe
     refine A [104,0] ?_
     refine zAD U ?_ ?_
     ·refine A [9,20,12,0] ?_
      exact zFz 4 [.sl 10 false ([].map zAZ),Z 0,.sl 9 false ([].map zBI),Z 4] U ⟨.nil,.rfl,.nil,.rfl,trivial⟩ U rN
     ·refine A [67,99] (fun k _=>?_) zHL
      refine A [1,12,0,6,88,206,54,2,1,114,116,118] (fun c _=>?_) zIA
      refine vq 4 U (by kernel_rfl) (vS [] [14,15] [7] U U (zFf (T:=tab) 7 U U U U U U U U U (pyq U)) U U (A [50,3,1,14,15,120,15,202,79,76,12,0,61,20,12,0] ?_))
      exact zFz 4 [.sl 10 false (c.1.Nodes.map zAZ),Z c.1.Most,.sl 9 false ([].map zBI),Z c.2.2] U ⟨.rfl,.rfl,.nil,.rfl,trivial⟩ U rN
    ·refine A [107,11,24,67,99] (fun l _=>?_) zHL
     refine A [1,12,0,6,88,206,54,2,1,114,116,118] (fun d _=>?_) zIA
     refine vq 4 U (by kernel_rfl) (vS [] [14,15] [7] U U (zFf (T:=tab) 7 U U U U U U U U U (pyq U)) U U (A [50,3,1,14,15,120,15,202,79,76,12,0,61,20,12,0] ?_))
     exact zFz 4 [.sl 10 false (d.1.Nodes.map zAZ),Z d.1.Most,.sl 9 false ([].map zBI),Z d.2.2] U ⟨.rfl,.rfl,.nil,.rfl,trivial⟩ U rN
  ·refine A [114,11,24,67,99] (fun f _=>?_) zHL
   refine A [1,12,0,6,88,206,54,2,1,114,116,118] (fun a _=>?_) zIA
   refine vq 4 U (by kernel_rfl) (vS [] [14,15] [7] U U (zFf (T:=tab) 7 U U U U U U U U U (pyq U)) U U (A [50,3,1,14,15,120,15,202,79,76,12,0,61,20,12,0] ?_))
   exact zFz 4 [.sl 10 false (a.1.Nodes.map zAZ),Z a.1.Most,.sl 9 false ([].map zBI),Z a.2.2] U ⟨.rfl,.rfl,.nil,.rfl,trivial⟩ U rN
def zLU (_fu:Nat):Option (List Bs):=some [[100,105,118],[112],[115,112,97,110]]
theorem zSU {fu:Nat}:DD (zLU fu) 201 [] fun r=>.sl 1 false (r.map zSK):=by
 refine fcI Tryz.func201 U (A [58,9] ?_)
 exact pl ([[100,105,118],[112],[115,112,97,110]].map zSK) 1 U U U U U U (A [57,34,1,8])
def zFn (fu:Nat) (a:Forest) (b:Int) (c:Node) (f:Unit):Option (Forest×Int×Int):=cnd (c.Under != (-1)) (some (a,(-1),10)) (cnd ((a.Nodes.length:Int)==a.Most) (some (a,(-1),8)) (bnd (zAr fu a.Nodes) fun d=>bnd (zDI 136 (d.length+([(⟨4,[],[],[],[],(-1),[],b,(-1),c.Doc⟩:Node)]:List Node).length)) fun _=>bnd (idx (d++[(⟨4,[],[],[],[],(-1),[],b,(-1),c.Doc⟩:Node)]) b) fun e=>some ((⟨((d++[(⟨4,[],[],[],[],(-1),[],b,(-1),c.Doc⟩:Node)]).set (b).toNat ({e with Under:=(a.Nodes.length:Int)}:Node)),a.Most⟩:Forest),(a.Nodes.length:Int),0)))
def zIC (fu:Nat) (a:Forest) (c:Int):Option (Forest×Int×Int):=bnd (zB5 fu a [c]) fun d=>cnd (!d) (some (a,(-1),1)) (bnd (idx a.Nodes c) fun b=>cnd (b.Kind != 1) (some (a,(-1),5)) (bnd (zCv fu b.Name) fun e=>cnd (!e) (bnd (zLU fu) fun f=>bnd (zA9 fu f b.Name) fun g=>cnd (!g) (some (a,(-1),5)) ((zFn fu a c b) ())) ((zFn fu a c b) ())))
theorem zRB {fu:Nat} {c:Forest} {a:Int}:DD (zIC fu c a) 135 [.agg (zAE c),Z a] fun r=>.tup [.agg (zAE r.1),Z r.2.1,Z r.2.2]:=by
 refine fcI Tryz.func135 U (A [73,31,4,2,0,6,61] ?_)
 refine pl ([a].map zAB) 11 U U U U U U (A [33,11,41] (fun i _=>?_) zID)
 refine A [57,5,4,80,12,2,74,67,93,36] fun b _=>?_
 refine A [1,31,7,12,0,6,13,6,52,4,3,1,2,4,7,7,4,2,53,17,0,1,3,7,15,31,63,127,255,511,511,1535,4095,8191,16383,32767,65535] ?_
 refine zbq (zFn fu c a b) (fun (_:Unit)=>[(1,Z a),(2,.loc 2 0),(4,.loc 4 0),(7,.loc 7 0)]) (fun (_:Unit)=>[(7,.box 77 (zAZ b)),(4,.box 24 [.v (.slice none 0 0),Z 0]),(2,.box 24 (zAE c))]) ?_ fun d=>?_
 ·rintro _
  refine A [76,0,5,4,80,12,2,74,61,35,104,0,5,4,80,12,2,74,4,69,61,77,6,52,5,3,1,2,4,7,8,7,4,2,53,11,0,1,3,0,0,16,56,120,255,511,1023,202,55,1,2,110,112,5121] (fun g _=>?_) zBq [(5,2560)] [2560]
  refine A [203,51,2,1,114,118,120] ?_
  refine vS [120] [122,120,123] [61] U U (zbv 60 U (.agg (ds:=[Z 4,O [],O [],O [],.sl 2 false ([].map zD4),Z (-1),.sl 1 false ([].map zAB),Z a,Z (-1),Z b.Doc]) ⟨.rfl,.rfl,.rfl,.rfl,.nil,.rfl,.nil,.rfl,.rfl,.rfl,trivial⟩) (pl ([(⟨4,[],[],[],[],(-1),[],a,(-1),b.Doc⟩:Node)].map zAZ) 61 U U U U U U (pyq U))) U U (vU [112,122,123,5121] [124,112,5121] [2560] U U (pa zAZ g ([(⟨4,[],[],[],[],(-1),[],a,(-1),b.Doc⟩:Node)]:List Node) U U U U U U U U (zOZ _) U U U (pyq U)) U U fun _ _=>A [201,50,4,1,5,124,126,5121,5,79,76,38] fun h e=>?_)
  exact pq 1 U (zCk (T:=tab) zAZ (g++[(⟨4,[],[],[],[],(-1),[],a,(-1),b.Doc⟩:Node)]) h ({h with Under:=(c.Nodes.length:Int)}:Node) (zAx e) U U U U U U U U U U U U U (A [0,61,12,2,0,34,2560,8]))
 ·refine vq 4 U (by kernel_rfl) (zBd (t:=24) U ?_ ?_)
  ·exact A [213,19,18,80,12,2,74]
  ·refine A [202,54,2,1,48,52,54] (fun j _=>?_) zEe
   refine vq 2 U (by kernel_rfl) (zBd (t:=29) U ?_ ?_)
   ·refine vT [58] [60] [] U U (zKa (enc:=fun (f:(List Bs))=>.sl 1 false (f.map zSK)) (qs:=[]) zSU U U trivial (fun _=>U) zfv U U fun f _=>pzq U) (fun _=>U) (fun _=>U) fun f _=>A [202,54,3,1,58,60,64,66] (fun k _=>?_) zCw
    refine A [204,79,5,4,80,12,2,74] ?_
    exact zXM (d ()) ⟨U,U,U,U,trivial⟩ ⟨U,U,U,trivial⟩ U
   ·refine A [208,19,24] ?_
    exact zXM (d ()) ⟨U,U,U,U,trivial⟩ ⟨U,U,U,trivial⟩ U
def zFY (_fu:Nat) (a:Int) (b:Forest):Option Bool:=cnd (decide (a<0)) (some true) (some (decide (a>=(b.Nodes.length:Int))))
theorem zRD {fu:Nat} {b:Int} {a:Forest}:FF (zFY fu b a) 257 [Z b,.loc 900000 0] [(900000,.box 24 (zAE a))] [900000] (fun r=>Y r) fun _=>[(900000,.box 24 (zAE a))]:=by
 exact fcI Tryz.func257 U (A [58,93,26,6,2,107,74,3,35,3,74])
theorem zJv {fu:Nat} {b:List Int} {a:Forest}:FF (zAX fu (fun c=>zFY fu c a) b) 227 [.sl 1 false (b.map zAB),.fn (.func 257) [] [.loc 900000 0]] [(900000,.box 24 (zAE a))] [900000] (fun r=>Z r) fun _=>[(900000,.box 24 (zAE a))]:=by
 refine fcI Tryz.func227 U (A [75,80,77,13] ?_)
 refine lw (zAM (fun c=>zFY fu c a) b) [0,1,7] [900000] (fun d=>[(8,Z d)]) (fun _=>[]) fu 0 U U ?_
 rintro f d
 refine A [75,10,2,86,59,72,62,93,36] fun h _=>?_
 refine A [1,44] (fun g _=>?_) zRD [(900000,900000)]
 refine A [0,5,2,62,8,4,94] fun e _=>?_
 exact A [89] (tx e)
theorem zIq {fu:Nat} {b:List Int} {a:Forest}:FF (zAd fu (fun c=>zFY fu c a) b) 156 [.sl 1 false (b.map zAB),.fn (.func 257) [] [.loc 900000 0]] [(900000,.box 24 (zAE a))] [900000] (fun r=>Y r) fun _=>[(900000,.box 24 (zAE a))]:=by
 refine fcI Tryz.func156 U (A [58,61,44] (fun d _=>?_) zJv [(900000,900000)])
 exact A [2,74]
def zEz (fu:Nat) (a:Forest) (l2:List Int):Option Bool:=bnd (zAs fu a) fun b=>cnd b (bnd (zAd fu (fun d=>zFY fu d a) l2) fun c=>some (!c)) (some false)
theorem zHR {fu:Nat} {a:Forest} {l2:List Int}:DD (zEz fu a l2) 202 [.agg (zAE a),.sl 1 false (l2.map zAB)] fun r=>Y r:=by
 refine fcI Tryz.func202 U (A [73,57,80,41] (fun b _=>?_) zA7)
 refine A [1,27,7,2,106,74,2,44] (fun c _=>?_) zIq [(900000,2)]
 exact A [3,74]
def zKo (fu:Nat) (b:Forest) (a:Int):Option Bool:=bnd (zEz fu b [a]) fun c=>cnd c (bnd (idx b.Nodes a) fun d=>some (d.Kind==0)) (some false)
theorem zRC {fu:Nat} {b:Forest} {a:Int}:DD (zKo fu b a) 203 [.agg (zAE b),Z a] fun r=>Y r:=by
 refine fcI Tryz.func203 U (A [73,57,61] ?_)
 refine pl ([a].map zAB) 7 U U U U U U (A [33,7,41] (fun c _=>?_) zHR)
 refine A [1,27,9,2,109,74,3,36] fun d _=>?_
 exact A [105,74]
def zHx (_fu:Nat) (c:Int) (d e f:Bs) (g:List Attr) (h i j k:Int) (a:List (Node×Bool)):Option (Int×(List (Node×Bool))):=bnd (zDI 136 (a.length+1)) fun _=>bnd (rng .i64 ((((a++[((⟨c,d,e,f,g,h,[],i,j,k⟩:Node),true)]).length:Nat):Int) - 1)) fun b=>some (b,(a++[((⟨c,d,e,f,g,h,[],i,j,k⟩:Node),true)]))
theorem zOP {fu:Nat} {b:Int} {c d e:Bs} {f:List Attr} {g h i j k:Int} {c11:Bool} {a:List (Node×Bool)}:FF (zHx fu b c d e f g h i j a) 281 [.loc 900000 0,.agg [Z b,O c,O d,O e,.sl 2 false (f.map zD4),Z g,.v (.slice none 0 0),Z h,Z i,Z j]] [(900000,.box 288 [.own 900001,Z k,Y c11]),(900001,.tre 77 10 6 3 (a.map nB))] [900000] (fun r=>Z r.1) fun r=>[(900000,.box 288 [.own 900001,Z k,Y c11]),(900001,.tre 77 10 6 3 (r.2.map nB))]:=by
 refine fcI Tryz.func281 U (A [9,30,3,57,6,52,2,3,0,3,3,900000,900001,53,13,0,0,2,6,14,30,0,64,254,511,1023,2047,4095,207] ?_)
 refine vS [22] [24,25] [12] U U (pl ([[Z b,O c,O d,O e,.sl 2 false (f.map zD4),Z g,.v (.slice none 0 0),Z h,Z i,Z j]]) 12 U U U U U U (pyq U)) U U (vU [20,24,25,1800001,1800003] [26,20,1800001,1800003] [900001] U U (zUS (T:=tab) a.length [Z b,O c,O d,O e,.sl 2 false (f.map zD4),Z g,.v (.slice none 0 0),Z h,Z i,Z j] (zAZ (⟨b,c,d,e,f,g,[],h,i,j⟩:Node),true) 1 (by simp) (zdA (nB) a ((⟨b,c,d,e,f,g,[],h,i,j⟩:Node),true)) (.inr ⟨U,U,U⟩) U U U U U U U U U U U U U U U U U U U U (pyq U)) U U fun _ _=>A [203,50,4,1,26,32,1800001,1800003,1800001,79,9,105] ?_)
 refine zM9 (T:=tab) (l:=(a++[((⟨b,c,d,e,f,g,[],h,i,j⟩:Node),true)]).length) U U U U U U U (by simp) U U (A [16] fun m _=>?_)
 exact A [57,8]
def zCI (fu:Nat) (j1:zBf) (l4:List (Node×Bool)) (d:Node×Bool) (e:List Attr) (f:Int×Int):Option (Int×Int×(List (Node×Bool))):=match f with
 | (c7,c)=>bnd (zHx fu c7 d.1.Name d.1.Is d.1.Data e j1.under (-1) (-1) c l4) fun b=>cnd (j1.under != (-1)) (bnd (idx b.2 j1.under) fun a=>bnd (zSd a.2) fun _=>bnd (zDI 8 (a.1.Kids.length+([b.1]:List Int).length)) fun _=>bnd (idx b.2 j1.under) fun g=>some (b.1,c,(b.2.set (j1.under).toNat (({a.1 with Kids:=(a.1.Kids++[b.1])}:Node),true)))) (some (b.1,c,b.2))
def zEm (fu:Nat) (j1:zBf) (l4:List (Node×Bool)):Option (Int×Int×(List (Node×Bool))):=bnd (idx l4 j1.n) fun a=>bnd (zPy a.2) fun _=>bnd (zAf fu a.1.Attrs) fun b=>cnd (a.1.Kind==0) ((zCI fu j1 l4 a b) (a.1.Kind,(l4.length:Int))) (cnd (a.1.Kind==4) ((zCI fu j1 l4 a b) (3,j1.doc)) ((zCI fu j1 l4 a b) (a.1.Kind,j1.doc)))
theorem zMW {fu:Nat} {j1:zBf} {j:Int} {k:Bool} {l4:List (Node×Bool)}:FF (zEm fu j1 l4) 259 [.loc 900000 0,.agg (zGc j1)] [(900000,.box 288 [.own 900001,Z j,Y k]),(900001,.tre 77 10 6 3 (l4.map nB))] [900000] (fun r=>.tup [Z r.1,Z r.2.1]) fun r=>[(900000,.box 288 [.own 900001,Z j,Y k]),(900001,.tre 77 10 6 3 (r.2.2.map nB))]:=by
 refine fcI Tryz.func259 U (A [9,30,3,2,0,6,52,2,3,0,3,3,900000,900001,53,11,0,1,3,7,15,0,32,127,255,0,1023,207] ?_)
 refine vT [26,30,1800003] [32] [] U U (zBS (T:=tab) l4 (by simp) U U U U U U U U fun e g=>pzq U) (fun _=>U) (fun _=>U) fun e g=>vU [32,1800003] [34] [] U U (zOA (T:=tab) (zHe (f:=nB) (zAx g)) U U U U U U U U (pyq U)) U U fun _ _=>vS [] [12,13] [6] U U (zFf (T:=tab) 6 U U U U U U U U U (pyq U)) U U (A [50,3,1,12,13,34,13,79,6,52,3,4,0,3,6,6,3,900000,900001,53,18,0,1,0,4,0,16,0,64,0,256,768,0,2048,0,8192,32767,0,131071,210,55,1,2,54,56,4561] (fun o _=>?_) zBp [(5,2280)] [2280])
 refine A [204,51,8,1,38,42,46,50,56,60,64,4561,66] ?_
 refine vS [] [14,15] [7] U U (zFf (T:=tab) 7 U U U U U U U U U (pyq U)) U U (A [50,4,1,14,15,66,4561,15,79,6,62] ?_)
 refine jw (zCI fu j1 l4 e o) [0,3,7] [2280,3,900000,900001] (fun _=>[]) (fun (m,n)=>[(7,.box 77 [Z m,O e.1.Name,O e.1.Is,O e.1.Data,.own 2280,Z j1.under,.v (.slice none 0 0),Z (-1),Z (-1),Z n])]) U U ?_ fun d=>?_
 ·rintro ⟨m,n⟩
  refine A [7,61,33,2280,43] (fun h _=>?_) zOP [(900000,900000),(900001,900001)] [900001]
  refine A [57,6,93,0,10,19,68,52,2,3,7,8,7,900000,900001,53,5,0,0,2,1,15,205,79,8,52,4,4,0,3,7,8,900000,900001,7,3,53,23,0,1,3,7,15,0,32,0,128,384,896,1920,0,4096,16256,32640,65408,0,131072,524160,1048575,2097151,4194303,214] ?_
  exact vT [130,134,1800003] [136] [] U U (zBS (T:=tab) h.2 (by simp) U U U U U U U U fun a b=>pzq U) (fun _=>U) (fun _=>U) fun a b=>vq 1 U (by kernel_rfl) (vU [138,1800003] [140,1800003,1400141] [700070] U U (zUV (T:=tab) 700070 (zHe (f:=nB) (zAx b)) U U U U U U U U U U U U U U U (pyq U)) U U fun _ _=>vq 1 U (by kernel_rfl) (vS [142] [144,145] [72] U U (pl ([h.1].map zAB) 72 U U U U U U (pyq U)) U U (vU [140,144,145,1400141,1800003] [146,140,1400141,1800003] [700070] U U (pa zAB a.1.Kids ([h.1]:List Int) U U U U U U U U (zC1 _) U U U (pyq U)) U U fun _ _=>vT [116,120,1800003] [148] [] U U (zPZ (T:=tab) h.2 (by simp) U U U U U U U U fun i c=>pzq U) (fun _=>U) (fun _=>U) fun i c=>vq 1 U (by kernel_rfl) (vS [146,150,1400141,1800003] [146,1400141,1800003] [] U U (zb0 900001 U U (zUT (T:=tab) (zW2 (zAx c)) (zT7 (f:=nB) ((({a.1 with Kids:=(a.1.Kids++[h.1])}:Node),true):Node×Bool) (by rfl)) U U U U U U U U U U U (pyq U))) U U (A [79,6,52,2,3,7,8,7,900000,900001,53,5,0,0,2,1,15,205,79,8])))))
 ·refine A [13,62] ?_
  refine zAD U ?_ ?_
  ·refine A [14,105] ?_
   exact zM9 (T:=tab) (l:=l4.length) U U U U U U U (by simp) U U (A [1,12,11,15,45] (d (e.1.Kind,(l4.length:Int))))
  ·refine A [62] ?_
   refine zAD U ?_ ?_
   ·exact A [14,1,12,11,15,45] (d (3,j1.doc))
   ·exact A [4,15,45] (d (e.1.Kind,j1.doc))
def zC6 (a:Int×Int×(List (Node×Bool))) (c:Node×Bool) (b:((List zBf)×(List (Node×Bool)))->Option (Int×(List (Node×Bool)))):Nat->(List zBf)->Option (Int×(List (Node×Bool)))
 | 0,l13=>b (l13,a.2.2)
 | k2+1,l13=>bnd (c.1.Kids[k2]?) fun d=>bnd (zDI 24 (l13.length+([(⟨d,a.2.1,a.1⟩:zBf)]:List zBf).length)) fun _=>(zC6 a c b k2) (l13++[(⟨d,a.2.1,a.1⟩:zBf)])
def zC5 (fu:Nat) (d:Bool) (l4:List (Node×Bool)):Nat->(List zBf)×(List (Node×Bool))->Option (Int×(List (Node×Bool)))
 | 0,_=>none
 | k1+1,(l5,l6)=>cnd (decide ((l5.length:Int)>0)) (bnd (rng .i64 ((l5.length:Int) - 1)) fun f=>bnd (idx l5 f) fun e=>bnd (rng .i64 ((l5.length:Int) - 1)) fun g=>bnd (zGF l5 0 g) fun c=>bnd (zEm fu e l6) fun a=>cnd (!d) (some ((l4.length:Int),a.2.2)) (bnd (idx a.2.2 e.n) fun b=>bnd (zPy b.2) fun _=>(zC6 a b (zC5 fu d l4 k1)) b.1.Kids.length c)) (some ((l4.length:Int),l6))
def zHy (fu:Nat) (a:zBf) (b:Bool) (l4:List (Node×Bool)):Option (Int×(List (Node×Bool))):=(zC5 fu b l4) fu ([a],l4)
theorem zOQ {fu:Nat} {b:zBf} {k:Int} {i:Bool} {l4:List (Node×Bool)}:FF (zHy fu b i l4) 205 [.loc 900000 0,.agg (zGc b)] [(900000,.box 288 [.own 900001,Z k,Y i]),(900001,.tre 77 10 6 3 (l4.map nB))] [900000] (fun r=>Z r.1) fun r=>[(900000,.box 288 [.own 900001,Z k,Y i]),(900001,.tre 77 10 6 3 (r.2.map nB))]:=by
 refine fcI Tryz.func205 U (fun {w0 X X0 σ0 _}=>A [9,30,3,57,9,105] ?_)
 refine zM9 (T:=tab) (l:=l4.length) U U U U U U U (by simp) U U (A [57,6,80] ?_)
 refine pl ([b].map zGc) 19 U U U U U U (A [31,6,12,0,13] ?_)
 refine lw (zC5 fu i l4) [0,5,6] [6,900000] (fun _=>[]) (fun (j,q)=>[(19,.arr 291 3 (j.map zGc)),(900001,.tre 77 10 6 3 (q.map nB))]) fu ([b],l4) U U ?_
 rintro s ⟨j,q⟩
 refine A [6,80,39,57,10,3,86,62,8,72,61,39,16] fun u _=>?_
 refine A [38] fun t m=>?_
 refine zAv (T:=tab) zGc j t (zAx m) U U U U U U U U (A [31,7,12,0,61,39,16] fun v _=>?_)
 refine zJI (T:=tab) zGc j U U U U U U U U U U U fun p _=>A [12,0,61,43] (fun a _=>?_) zMW [(900000,900000),(900001,900001)] [900001]
 refine A [3,31,8,31,9,12,12,0,6,9,105,0,5,3,86,62,8,68,52,6,7,0,5,6,7,8,9,9,8,900000,900001,19,7,6,53,11,0,1,3,7,15,0,32,127,255,511,1023,207] ?_
 refine vT [98,102,1800003] [104] [] U U (zBS (T:=tab) a.2.2 (by simp) U U U U U U U U fun h e=>pzq U) (fun _=>U) (fun _=>U) fun h e=>vq 1 U (by kernel_rfl) (vU [106,1800003] [108] [] U U (zOA (T:=tab) (zHe (f:=nB) (zAx e)) U U U U U U U U (pyq U)) U U fun _ _=>vS [108] [110,6111] [3055] U U (zLq (n:=3055) tab Tryz.func229 U U U U U U U U U U U U ⟨⟨_,U,.rfl⟩,trivial⟩ zWk U U (pyq U)) U U (A [79,13] ?_))
 refine zXJ (T:=tab) (enc:=zAB) (enc':=fun (c:Int)=>Z c) (xs:=h.1.Kids) (x0:=p) (n:=3055) (tS:=32) (tE:=3) (tI:=3) (tB:=4) (tF:=336) (g:=274) (M:=(zC6 a h (zC5 fu i l4 s))) (Sf:=fun (d:(List zBf))=>[(9,.box 3 [Z a.2.1]),(8,.box 3 [Z a.1]),(900000,.box 288 [.own 900001,Z k,Y i]),(900001,.tre 77 10 6 3 (a.2.2.map nB)),(19,.arr 291 3 (d.map zGc)),(6,.box 344 [.own 19])]) (N1:=[6,8,9,900000]) (E0:=[(0,.loc 900000 0),(5,Z (l4.length:Int)),(6,.loc 6 0),(8,.loc 8 0),(9,.loc 9 0)]) (E1:=fun o c=>[(0,.loc 900000 0),(5,Z (l4.length:Int)),(6,.loc 6 0),(8,.loc 8 0),(9,.loc 9 0),(56,Z ((o:Nat):Int)),(57,Z c),(11,Z c)]) Tryz.func274 U U U zWl U U (fun _=>U) (fun _=>U) U U ⟨U,U,U,U,U,trivial⟩ U U ⟨U,U,U,U,U,U,trivial⟩ U U U U U U ?_ ?_ ?_
 ·rintro o c d hy w0 X X0 σ0 _ _
  refine A [1,11] ?_
  exact zPY ⟨U,U,U,U,U,U,U,U,trivial⟩ ⟨U,U,U,U,U,U,trivial⟩ U
 ·rintro o c d hy w0 X X0 σ0 _ _
  refine zQp hy (A [104,20] ?_)
  exact pl ([(⟨c,a.2.1,a.1⟩:zBf)].map zGc) 63 U U U U U U (pa zGc d ([(⟨c,a.2.1,a.1⟩:zBf)]:List zBf) U U U U U U U U (zTs _) U U U (A [12,63] (tx (d++[(⟨c,a.2.1,a.1⟩:zBf)]))))
 ·rintro d
  exact A [15,69,58,14,31,6,12,63] (tx (d,a.2.2))
def zFp (fu:Nat) (c:Forest) (h f:Int) (a:Bool) (b:Int):Option (Forest×Int×Int):=bnd (rng .i64 ((c.Nodes.length:Int)+b)) fun g=>cnd (decide (g>c.Most)) (some (c,(-1),8)) (bnd (zAr fu c.Nodes) fun e=>bnd (zHy fu (⟨h,f,(-1)⟩:zBf) a (e.map fun x=>(x,false))) fun d=>some ((⟨(d.2.map Prod.fst),c.Most⟩:Forest),d.1,0))
def zLb (fu:Nat) (b:Forest) (c d:Int) (a:Bool):Option (Forest×Int×Int):=bnd (zEz fu b [c]) fun e=>cnd (!e) (some (b,(-1),1)) (bnd (zKo fu b d) fun f=>cnd (!f) (some (b,(-1),1)) (cnd a (bnd (zEa fu b c) fun g=>(zFp fu b c d a) (g.length:Int)) ((zFp fu b c d a) 1)))
theorem zU1 {fu:Nat} {g:Forest} {e f:Int} {a:Bool}:DD (zLb fu g e f a) 136 [.agg (zAE g),Z e,Z f,Y a] fun r=>.tup [.agg (zAE r.1),Z r.2.1,Z r.2.2]:=by
 refine fcI Tryz.func136 U (A [9,30,4,31,8,2,0,6,61] ?_)
 refine pl ([e].map zAB) 16 U U U U U U (A [33,16,41] (fun k _=>?_) zHR)
 refine A [2,26,19,6,105,65,80,12,2,74,2,41] (fun l _=>?_) zRC
 refine A [2,0,5,4,80,12,2,74,67,75,58] ?_
 refine jw (zFp fu g e f a) [1,2,3,4,8] [8,4] (fun b=>[(11,Z b)]) (fun _=>[]) U U ?_ fun c=>?_
 ·rintro b
  refine A [7,6,61,35,1,16] fun j _=>?_
  refine A [3,0,5,4,80,12,2,74,68,52,5,2,1,2,3,4,8,8,4,53,10,0,1,3,0,8,31,0,127,255,511,202] ?_
  refine vT [82] [84,4841] [2420] U U (tqG (rn:=[(5,2420)]) (ks:=[2420]) ⟨zBq⟩ U U U U U U U U fun d _=>zfN 2420 6 3 zAZ d U U U U (pzq U)) (fun _=>U) (fun _=>U) fun d _=>A [202,51,3,1,84,88,4841,90,201,51,3,1,90,92,4841,94] ?_
  refine vS [94,4841] [96,97] [48] U U (zR5  48 U U U U U U U U U U (pyq U)) U U (A [201,79,93,20,43] (fun h _=>?_) zOQ [(900000,48),(900001,2420)] [2420])
  refine A [57,9,105,12,2,0] ?_
  exact zDa 2420 (nB) Prod.fst zAZ h.2 (fun _=>U) (fun _=>U) U U U rN
 ·refine zAD U ?_ ?_
  ·refine A [14,2,43] (fun i _=>?_) zJM [(1034,2290)] [2290]
   exact A [33,2290,35,1,11,45] (c (i.length:Int))
  ·exact A [4,45] (c 1)
def zEu (_fu:Nat) (a:Int) (b:Forest):Option Bool:=cnd (decide (a<0)) (some true) (some (decide (a>=(b.Nodes.length:Int))))
theorem zQJ {fu:Nat} {b:Int} {a:Forest}:FF (zEu fu b a) 157 [Z b,.loc 900000 0] [(900000,.box 24 (zAE a))] [900000] (fun r=>Y r) fun _=>[(900000,.box 24 (zAE a))]:=by
 exact fcI Tryz.func157 U (A [58,93,26,6,2,107,74,3,35,3,74])
theorem zJw {fu:Nat} {b:List Int} {a:Forest}:FF (zAX fu (fun c=>zEu fu c a) b) 227 [.sl 1 false (b.map zAB),.fn (.func 157) [] [.loc 900000 0]] [(900000,.box 24 (zAE a))] [900000] (fun r=>Z r) fun _=>[(900000,.box 24 (zAE a))]:=by
 refine fcI Tryz.func227 U (A [75,80,77,13] ?_)
 refine lw (zAM (fun c=>zEu fu c a) b) [0,1,7] [900000] (fun d=>[(8,Z d)]) (fun _=>[]) fu 0 U U ?_
 rintro f d
 refine A [75,10,2,86,59,72,62,93,36] fun h _=>?_
 refine A [1,44] (fun g _=>?_) zQJ [(900000,900000)]
 refine A [0,5,2,62,8,4,94] fun e _=>?_
 exact A [89] (tx e)
theorem zIr {fu:Nat} {b:List Int} {a:Forest}:FF (zAd fu (fun c=>zEu fu c a) b) 156 [.sl 1 false (b.map zAB),.fn (.func 157) [] [.loc 900000 0]] [(900000,.box 24 (zAE a))] [900000] (fun r=>Y r) fun _=>[(900000,.box 24 (zAE a))]:=by
 refine fcI Tryz.func156 U (A [58,61,44] (fun d _=>?_) zJw [(900000,900000)])
 exact A [2,74]
def zEP (fu:Nat) (a:Forest) (l2:List Int):Option Bool:=bnd (zAs fu a) fun b=>cnd b (bnd (zAd fu (fun d=>zEu fu d a) l2) fun c=>some (!c)) (some false)
theorem zGZ {fu:Nat} {a:Forest} {l2:List Int}:DD (zEP fu a l2) 93 [.agg (zAE a),.sl 1 false (l2.map zAB)] fun r=>Y r:=by
 refine fcI Tryz.func93 U (A [73,57,80,41] (fun b _=>?_) zA7)
 refine A [1,27,7,2,106,74,2,44] (fun c _=>?_) zIr [(900000,2)]
 exact A [3,74]
def zAe (_fu:Nat) (l1:zAk) (a:Int):Option Int:=bnd (idx l1.Forest.Nodes a) fun b=>some b.Kind
theorem zCs {fu:Nat} {l1:zAk} {a:Int}:DD (zAe fu l1 a) 158 [.agg (zIg l1),Z a] fun r=>Z r:=by
 refine fcI Tryz.func158 U (A [73,57,76,36] fun b _=>?_)
 exact A [3,74]
def zDL (fu:Nat) (b:Forest) (a:Int):Nat->Int->Option Bool
 | 0,_=>none
 | k1+1,b5=>cnd (b5 != (-1)) (cnd (b5 != a) (bnd (zG4 fu b b5) fun c=>(zDL fu b a k1) c) (some (b5==a))) (some (b5==a))
def zEL (fu:Nat) (c:Forest) (a b:Int):Option Bool:=bnd (zB5 fu c [a,b]) fun d=>cnd (!d) (some false) ((zDL fu c a) fu b)
theorem zON {fu:Nat} {c:Forest} {a b:Int}:DD (zEL fu c a b) 159 [.agg (zAE c),Z a,Z b] fun r=>Y r:=by
 refine fcI Tryz.func159 U (A [9,30,3,57,6,93] ?_)
 refine pl ([a,b].map zAB) 10 U U U U U U (A [33,10,41] (fun g _=>?_) zID)
 refine A [57,5,1,59,72] ?_
 refine lw (zDL fu c a) [1,3] [3] (fun d=>[(2,Z d)]) (fun _=>[]) fu b U U ?_
 rintro f d
 refine A [6,93,27,15,6,104,11,24,86,76,74,104,0,10,3,86,76,74,67,13,14,2,41] (fun e _=>?_) zNr
 exact A [1,11,15,46] (tx e)
def zBi (fu:Nat) (l1:zAk) (a:List Int) (b:Int):Nat->Int×Int->Option Int
 | 0,_=>none
 | k1+1,(n4,t5)=>cnd (decide (t5<(a.length:Int))) (bnd (idx a t5) fun e=>cnd (e != l1.gone) (bnd (zAe fu l1 e) fun h=>cnd (h==b) (bnd (rng .i64 (n4+1)) fun f=>bnd (rng .i64 (t5+1)) fun g=>(zBi fu l1 a b k1) (f,g)) (bnd (rng .i64 (t5+1)) fun c=>(zBi fu l1 a b k1) (n4,c))) (bnd (rng .i64 (t5+1)) fun d=>(zBi fu l1 a b k1) (n4,d))) (some n4)
def zCY (fu:Nat) (l1:zAk) (a:List Int) (b:Int):Option Int:=(zBi fu l1 a b) fu (0,0)
theorem zFK {fu:Nat} {l1:zAk} {a:List Int} {b:Int}:DD (zCY fu l1 a b) 228 [.agg (zIg l1),.sl 1 false (a.map zAB),Z b] fun r=>Z r:=by
 refine fcI Tryz.func228 U (A [9,30,3,57,75,80,77,13] ?_)
 refine lw (zBi fu l1 a b) [2,3,10,11] [3] (fun (c,f)=>[(7,Z c),(12,Z f)]) (fun _=>[]) fu (0,0) U U ?_
 rintro i ⟨c,f⟩
 refine A [75,10,3,86,62,8,72,9,36] fun l _=>?_
 refine A [2,0,9,105] ?_
 refine zAV (j:=20) U ?_ ?_
 ·refine A [2,41] (fun k _=>?_) zCs
  refine A [3,0] ?_
  refine zAD U ?_ ?_
  ·refine A [14,1,16] fun g _=>?_
   refine A [1,11,94] fun h _=>?_
   exact A [89] (tx (g,h))
  ·refine A [4,94] fun d _=>?_
   exact A [89] (tx (c,d))
 ·refine A [106,11,24,4,94] fun e _=>?_
  exact A [89] (tx (c,e))
def zBh (fu:Nat) (l1:zAk) (a:List Int):Option Bool:=bnd (zCY fu l1 a 2) fun c=>cnd (decide (c>0)) (some true) (bnd (zCY fu l1 a 1) fun d=>cnd (decide (d>0)) (bnd (zCY fu l1 a 1) fun e=>bnd (idx l1.Forest.Nodes l1.p) fun g=>bnd (zCY fu l1 g.Kids 1) fun f=>bnd (rng .i64 (e+f)) fun b=>some (decide (b>1))) (some false))
theorem zHh {fu:Nat} {l1:zAk} {a:List Int}:DD (zBh fu l1 a) 160 [.agg (zIg l1),.sl 1 false (a.map zAB)] fun r=>Y r:=by
 refine fcI Tryz.func160 U (A [73,57,6,52,2,1,1,2,2,53,28,0,0,3,7,15,31,31,127,255,511,1023,1023,4095,1023,1023,17407,50175,1023,132095,508927,1033215,2081791,4194303,8388607,16777215,33554431,67108863,134217727,202,54,2,1,10,12,14] (fun d _=>?_) zFK)
 refine vq 2 U (by kernel_rfl) (zBd (t:=9) U ?_ ?_)
 ·exact A [223,79,8]
 ·refine A [202,54,3,1,18,20,22,24] (fun e _=>?_) zFK
  refine vq 2 U (by kernel_rfl) (zBd (t:=14) U ?_ ?_)
  ·refine A [202,54,3,1,28,30,32,34] (fun f _=>?_) zFK
   refine vq 6 U (by kernel_rfl) (vT [28,42,46] [48] [] U U (zE1 (T:=tab) zAZ l1.Forest.Nodes U U U U U U U fun c _=>pzq U) (fun _=>U) (fun _=>U) fun c _=>A [202,54,3,1,28,36,52,54] (fun g _=>?_) zFK)
   exact vT [28,34,54] [56] [] U U (zMj (T:=tab) U U U U fun b _=>pzq U) (fun _=>U) (fun _=>U) fun b _=>A [204,79,8]
  ·exact A [218,79,8]
def zDt (fu:Nat) (l1:zAk) (f g:Int) (h:Bool):Option Int:=cnd h (some 5) (cnd (g==3) (bnd (zAe fu l1 l1.p) fun a=>cnd (a==0) (bnd (idx l1.Forest.Nodes f) fun e=>bnd (zBh fu l1 e.Kids) fun b=>cnd b (some 5) (some 0)) (some 0)) (bnd (zAe fu l1 l1.p) fun c=>cnd (c==0) (bnd (zBh fu l1 [f]) fun d=>cnd d (some 5) (some 0)) (some 0)))
def zDs (fu:Nat) (l1:zAk) (b:Int) (c:Unit):Option Int:=bnd (zAe fu l1 b) fun a=>cnd (a==0) ((zDt fu l1 b a) (a==0)) ((zDt fu l1 b a) (a==4))
def zDr (fu:Nat) (l1:zAk) (c:Int) (a b:Bool):Option Int:=cnd (!a) (cnd (!a) (some 5) (cnd (!b) (some 6) ((zDs fu l1 c) ()))) (bnd (zEL fu l1.Forest c l1.p) fun d=>cnd d (some 5) (cnd (!b) (some 6) ((zDs fu l1 c) ())))
def zAq (fu:Nat) (l1:zAk) (b:Int) (a:Bool):Option Int:=cnd (l1.child != (-1)) (bnd (idx l1.Forest.Nodes l1.child) fun c=>(zDr fu l1 b a) (c.Parent==l1.p)) ((zDr fu l1 b a) (l1.child==(-1)))
def zC7 (fu:Nat) (l1:zAk) (a:Int):Option Int:=bnd (zAe fu l1 l1.p) fun b=>cnd (b==0) (cnd (b==0) ((zAq fu l1 a) true) ((zAq fu l1 a) false)) (cnd (b==1) (cnd (b==1) ((zAq fu l1 a) true) ((zAq fu l1 a) false)) (cnd (b==3) (cnd (b==3) ((zAq fu l1 a) true) ((zAq fu l1 a) false)) (cnd (b==4) ((zAq fu l1 a) true) ((zAq fu l1 a) false))))
theorem zGs {fu:Nat} {l1:zAk} {d:Int}:DD (zC7 fu l1 d) 94 [.agg (zIg l1),Z d] fun r=>Z r:=by
 refine fcI Tryz.func94 U (A [73,57,6,52,2,1,1,2,2,53,5,0,1,3,0,15,205,79,6,93,41] (fun q _=>?_) zCs)
 refine ns (jw (zAq fu l1 d) [1,2,6] [2] (fun a=>[(5,Y a)]) (fun _=>[]) U U ?_ fun b=>?_)
 ·rintro a
  refine A [7,6,93,0] ?_
  refine jw (zDr fu l1 d a) [1,2,5] [2] (fun c=>[(6,Y c)]) (fun _=>[]) U U ?_ fun e=>?_
  ·rintro c
   refine A [7,6] ?_
   refine jw (zDs fu l1 d) [1,2] [2] (fun _=>[]) (fun _=>[]) U U ?_ fun f=>?_
   ·rintro _
    refine A [7,6,99] (fun h _=>?_) zCs
    refine A [0,13,6,62] ?_
    refine jw (zDt fu l1 d h) [1,2,47] [2] (fun j=>[(48,Y j)]) (fun _=>[]) U U ?_ fun g=>?_
    ·rintro j
     refine A [7,5,1,59,62] ?_
     refine zAD U ?_ ?_
     ·refine A [6,6,52,2,1,1,2,2,53,16,0,0,2,7,15,31,63,63,191,447,63,1983,4031,8127,16383,32767,203,54,2,1,106,110,112] (fun l _=>?_) zCs
      refine vq 2 U (by kernel_rfl) (zBd (t:=58) U ?_ ?_)
      ·refine vq 5 U (by kernel_rfl) (vT [116,124,126] [128] [] U U (zE1 (T:=tab) zAZ l1.Forest.Nodes U U U U U U U fun i _=>pzq U) (fun _=>U) (fun _=>U) fun i _=>A [202,54,3,1,116,118,132,134] (fun m _=>?_) zHh)
       exact A [201,79,5,1,59,67,59]
      ·exact A [210,19,24,67,59]
     ·refine A [4,69,6,93,41] (fun n _=>?_) zCs
      refine A [2,27,74,5,105,11,24,67,59,2] ?_
      refine pl ([d].map zAB) 77 U U U U U U (A [33,77,41] (fun o _=>?_) zHh)
      exact A [57,5,1,59,67,59]
    ·refine zAD U ?_ ?_
     ·exact A [4,45] (g (h==0))
     ·exact A [14,2,11,45] (g (h==4))
   ·refine A [13,6,93,0] ?_
    refine zAD U ?_ ?_
    ·exact A [67,5,1,59,93,0,5,1,59,4,15,45] (f ())
    ·refine A [14,105,41] (fun s _=>?_) zON
     exact A [57,5,1,59,93,0,5,1,59,4,15,45] (f ())
  ·refine zAD U ?_ ?_
   ·refine A [52,3,1,1,2,5,2,53,12,0,1,3,0,8,31,63,127,0,256,1023,2047,205] ?_
    exact vT [48,52] [54] [] U U (zE1 (T:=tab) zAZ l1.Forest.Nodes U U U U U U U fun k _=>pzq U) (fun _=>U) (fun _=>U) fun k _=>A [206,19,45] (e (k.Parent==l1.p))
   ·exact A [4,45] (e (l1.child==(-1)))
 ·refine A [13,6,62] ?_
  refine zAD U ?_ ?_
  ·refine A [67] ?_
   refine zAD U ?_ ?_
   ·exact A [14,1,11,15,45] (b true)
   ·exact A [4,15,45] (b false)
  ·refine A [62] ?_
   refine zAD U ?_ ?_
   ·refine A [67] ?_
    refine zAD U ?_ ?_
    ·exact A [14,1,11,15,45] (b true)
    ·exact A [4,15,45] (b false)
   ·refine A [62] ?_
    refine zAD U ?_ ?_
    ·refine A [67] ?_
     refine zAD U ?_ ?_
     ·exact A [14,1,11,15,45] (b true)
     ·exact A [4,15,45] (b false)
    ·refine A [14,2,0] ?_
     refine zAD U ?_ ?_
     ·exact A [14,1,11,15,45] (b true)
     ·exact A [4,15,45] (b false)
def zEh (fu:Nat) (b:Forest) (c d a:Int):Option Int:=bnd (zEP fu b [c,d]) fun e=>cnd (!e) (some 1) (cnd (a != (-1)) (bnd (zEP fu b [a]) fun f=>cnd (!f) (some 1) (bnd (zC7 fu (⟨b,d,a,(-1)⟩:zAk) c) fun g=>some g)) (bnd (zC7 fu (⟨b,d,a,(-1)⟩:zAk) c) fun h=>some h))
theorem zPp {fu:Nat} {d:Forest} {b c a:Int}:DD (zEh fu d b c a) 48 [.agg (zAE d),Z b,Z c,Z a] fun r=>Z r:=by
 refine fcI Tryz.func48 U (A [9,30,4,57,6,93] ?_)
 refine pl ([b,c].map zAB) 12 U U U U U U (A [33,12,41] (fun e _=>?_) zGZ)
 refine A [2,26,15,2,110,83,3] ?_
 refine zAV (j:=18) U ?_ ?_
 ·refine pq 2 U (pl ([a].map zAB) 21 U U U U U U (A [33,21,41] (fun f _=>?_) zGZ))
  refine A [3,0,5,1,59,67,93,20,1,41] (fun g _=>?_) zGs
  exact A [57,8]
 ·refine A [107,11,24,67,93,20,1,41] (fun h _=>?_) zGs
  exact A [57,8]
def zBQ (_fu:Nat) (a:Bs) (b:Int):Option (Option (Bs×Int)):=cnd (b==0) (some none) (some (some (a,b)))
theorem zB4 {fu:Nat} {a:Bs} {b:Int}:DD (zBQ fu a b) 47 [O a,Z b] fun r=>.v (zRa 181 179 r):=by
 refine fcI Tryz.func47 U (A [75,62,5,1,59,67,61,20] ?_)
 exact zby [(.int .i64 b)] (by kernel_rfl) U U U U U U (zOy (T:=tab) U U U U U U U (zby [(.string ⟨⟨a⟩⟩),(.iface 179 (.agg ⟨[.int .i64 b]⟩))] (by kernel_rfl) U U U U U U (A [57,8])))
def zHq (fu:Nat) (b:Forest) (c:List Node):Nat->Int×(List (Node×Bool))->Option (Unit×Int×(List (Node×Bool))×(List Note))
 | 0,_=>none
 | k1+1,(t3,a)=>cnd (decide (t3<(((c.map fun x=>(x,false)).length:Nat):Int))) (bnd (idx a t3) fun d=>bnd (zPy d.2) fun _=>bnd (zBZ fu d.1.Kids) fun f=>bnd (idx a t3) fun g=>bnd (rng .i64 (t3+1)) fun e=>(zHq fu b c k1) (e,(a.set (t3).toNat (({g.1 with Kids:=f}:Node),true)))) (some ((),b.Most,a,([]:List Note)))
def zKj (fu:Nat) (a:Forest):Option (Unit×Int×(List (Node×Bool))×(List Note)):=bnd (zAr fu a.Nodes) fun b=>(zHq fu a b) fu (0,(b.map fun x=>(x,false)))
theorem zHr {fu:Nat} {g:Forest}:FF (zKj fu g) 91 [.agg (zAE g)] [] [] (fun _=>.loc 12 0) fun r=>[(12,.box 131 [.own 2070,Z r.2.1,.own 31202]),(2070,.tre 77 10 6 3 (r.2.2.1.map nB)),(31202,.arr 192 9 (r.2.2.2.map zBI))]:=by
 refine fcI Tryz.func91 U (A [9,30,1,57,6,52,1,1,1,1,53,9,0,1,3,0,8,31,63,127,255,202] ?_)
 refine vT [12] [14,4141] [2070] U U (tqG (rn:=[(5,2070)]) (ks:=[2070]) ⟨zBq⟩ U U U U U U U U fun d _=>zfN 2070 6 3 zAZ d U U U U (pzq U)) (fun _=>U) (fun _=>U) fun d _=>A [202,51,3,1,14,18,4141,20,51,2,1,20,4141,22] ?_
 refine vS [22,4141] [24,25] [12] U U (zR5  12 U U U U U U U U U U (pyq U)) U U (A [201,79,6,9,105] ?_)
 refine zM9 (T:=tab) (l:=(d.map fun x=>(x,false)).length) U U U U U U U (by simp) U U (A [57,13] ?_)
 refine lw (zHq fu g d) [3,18] [12] (fun (e,a)=>[(19,Z e)]) (fun (e,a)=>[(2070,.tre 77 10 6 3 (a.map nB))]) fu (0,(d.map fun x=>(x,false))) U U ?_
 rintro m ⟨e,a⟩
 refine A [75] ?_
 refine zAD U ?_ ?_
 ·refine A [72,62,52,4,2,3,18,19,4,12,2070,53,19,0,1,3,7,15,0,0,64,192,448,960,0,4032,8128,16320,32704,65535,131071,262143,212] ?_
  refine vT [64,66,4141] [68] [] U U (zBS (T:=tab) a (by simp) U U U U U U U U fun k b=>pzq U) (fun _=>U) (fun _=>U) fun k b=>vq 1 U (by kernel_rfl) (vU [70,4141] [72] [] U U (zOA (T:=tab) (zHe (f:=nB) (zAx b)) U U U U U U U U (pyq U)) U U fun _ _=>A [55,1,2,72,74,4741] (fun i _=>?_) zFG [(5,2370)] [2370])
  refine vT [52,54,4141] [76] [] U U (zBS (T:=tab) a (by simp) U U U U U U U U fun h c=>pzq U) (fun _=>U) (fun _=>U) fun h c=>vq 1 U (by kernel_rfl) (vS [74,78,4141,4741] [74,4741,4141] [] U U (zUT (T:=tab) (zHe (f:=nB) (zAx c)) (zdf (f:=nB) ((({h.1 with Kids:=i}:Node),true):Node×Bool) (by rfl)) U U U U U U U U U U U (pyq U)) U U (A [19,94] fun j _=>?_))
  exact A [89] (tx (j,(a.set (e).toNat (({h.1 with Kids:=i}:Node),true))))
 ·refine A [86,62] ?_
  exact zJm 31202 192 9 12 2 U U U U U U rN
def zIE (fu:Nat) (d:Forest) (b f a:Int):Option Int:=bnd (zEh fu d b f a) fun g=>cnd (g != 0) (some (-1)) (cnd (a != b) (some a) (bnd (idx d.Nodes f) fun c=>bnd (zCX fu c.Kids b) fun h=>bnd (rng .i64 (h+1)) fun e=>cnd (decide (e>=(c.Kids.length:Int))) (some (-1)) (bnd (idx c.Kids e) fun i=>some i)))
theorem zRE {fu:Nat} {b:Forest} {c d a:Int}:DD (zIE fu b c d a) 51 [.agg (zAE b),Z c,Z d,Z a] fun r=>Z r:=by
 refine fcI Tryz.func51 U (A [9,30,4,57,6,76,41] (fun f _=>?_) zPp)
 refine A [57,5,1,59,68,93,0,5,2,62,8,67,93,36] fun h _=>?_
 refine A [3,0,99] (fun g _=>?_) zGr
 refine A [16] fun e _=>?_
 refine A [57,6,61,77,5,1,59,67,61,36] fun i _=>?_
 exact A [2,74]
def zI7 (fu:Nat) (b:Forest) (a:Int):Option (List Int):=bnd (zEP fu b [a]) fun c=>cnd (!c) (some ([]:List Int)) (bnd (idx b.Nodes a) fun e=>cnd (e.Kind==3) (bnd (idx b.Nodes a) fun f=>bnd (zBZ fu f.Kids) fun d=>some d) (some [a]))
theorem zSV {fu:Nat} {b:Forest} {a:Int}:FF (zI7 fu b a) 95 [.agg (zAE b),Z a] [] [] (fun _=>.own 2250) fun r=>[(2250,.arr 3 1 (r.map zAB))]:=by
 refine fcI Tryz.func95 U (A [73,57,6,13,61] ?_)
 refine pl ([a].map zAB) 2250 U U U U U U (A [33,2250,41] (fun c _=>?_) zGZ)
 refine A [2,0,5,7,58,56,2250,3,1,4,8,93,36] fun e _=>?_
 refine A [104,0] ?_
 refine zAD U ?_ ?_
 ·refine A [93,36] fun f _=>?_
  refine A [2,43] (fun d _=>?_) zFG [(5,2250)] [2250]
  exact A [57,8]
 ·refine A [4,69,80] ?_
  exact pl ([a].map zAB) 2250 U U U U U U (A [57,8])
def zDm (_fu:Nat) (b:Int) (a:Forest):Option Bool:=bnd (idx a.Nodes b) fun c=>some (c.Kind != 1)
theorem zLz {fu:Nat} {b:Int} {a:Forest}:FF (zDm fu b a) 232 [Z b,.loc 900000 0] [(900000,.box 24 (zAE a))] [900000] (fun r=>Y r) fun _=>[(900000,.box 24 (zAE a))]:=by
 refine fcI Tryz.func232 U (A [58,93,36] fun c _=>?_)
 exact A [104,74]
theorem zJx {fu:Nat} {l1:List Int} {a:Forest}:FF (zAX fu (fun c=>zDm fu c a) l1) 227 [.own 900000,.fn (.func 232) [] [.loc 900001 0]] [(900000,.arr 3 1 (l1.map zAB)),(900001,.box 24 (zAE a))] [900000,900001] (fun r=>Z r) fun _=>[(900000,.arr 3 1 (l1.map zAB)),(900001,.box 24 (zAE a))]:=by
 refine fcI Tryz.func227 U (A [75,80,39,57,13] ?_)
 refine lw (zAM (fun c=>zDm fu c a) l1) [0,1,7] [900000,900001] (fun d=>[(8,Z d)]) (fun _=>[]) fu 0 U U ?_
 rintro g d
 refine A [75,10,2,86,59,72,62,93,38] fun f b=>?_
 refine zAv (T:=tab) zAB l1 f (zAx b) U U U U U U U U (A [44] (fun h _=>?_) zLz [(900000,900001)])
 refine A [0,5,2,62,8,4,94] fun e _=>?_
 exact A [89] (tx e)
def zBA (f:Int->Option Bool):Nat->Int×Int×(List Int)->Option (List Int)
 | 0,_=>none
 | k1+1,(i5,j6,l7)=>cnd (decide (j6<(l7.length:Int))) (bnd (idx l7 j6) fun g=>bnd (f g) fun h=>cnd (!h) (bnd (idx l7 i5) fun i=>bnd (rng .i64 (i5+1)) fun a=>bnd (rng .i64 (j6+1)) fun b=>(zBA f k1) (a,b,(l7.set (i5).toNat g))) (bnd (rng .i64 (j6+1)) fun c=>(zBA f k1) (i5,c,l7))) (bnd (zV8 l7 i5 (0:Int)) fun d=>bnd (zGF d 0 i5) fun e=>some e)
def zDN (fu:Nat) (b:Int->Option Bool) (l1:List Int):Option (List Int):=bnd (zAX fu b l1) fun a=>cnd (a==(-1)) (some l1) (bnd (rng .i64 (a+1)) fun c=>(zBA b) fu (a,c,l1))
theorem zKm {fu:Nat} {l1:List Int} {c:Forest}:FF (zDN fu (fun l=>zDm fu l c) l1) 231 [.own 900000,.fn (.func 232) [] [.loc 900001 0]] [(900000,.arr 3 1 (l1.map zAB)),(900001,.box 24 (zAE c))] [900001] (fun _=>.own 900000) fun r=>[(900000,.arr 3 1 (r.map zAB)),(900001,.box 24 (zAE c))]:=by
 refine fcI Tryz.func231 U (A [58,61,44] (fun o _=>?_) zJx [(900000,900000),(900001,900001)])
 refine A [57,6,62,5,2,62,8,68,80,16] fun m _=>?_
 refine A [57,13] ?_
 refine lw (zBA (fun l=>zDm fu l c)) [0,1] [900001] (fun (e,j6,a)=>[(5,Z e),(6,Z j6)]) (fun (e,j6,a)=>[(900000,.arr 3 1 (a.map zAB))]) fu (o,m,l1) U U ?_
 rintro p ⟨e,j6,a⟩
 refine A [6,61,39,57] ?_
 refine zAD U ?_ ?_
 ·refine A [72,61,38] fun k f=>?_
  refine zAv (T:=tab) zAB a k (zAx f) U U U U U U U U (A [57,61,44] (fun q _=>?_) zLz [(900000,900001)])
  refine A [57] ?_
  refine zAD U ?_ ?_
  ·refine A [93,38] fun j d=>?_
   refine zCk (T:=tab) zAB a j k (zAx d) U U U U U U U U U U U U U (A [0,14,1,16] fun g _=>?_)
   refine A [1,11,70,1,16] fun h _=>?_
   exact A [89] (tx (g,h,(a.set (e).toNat k)))
  ·refine A [4,70,1,16] fun i _=>?_
   exact A [89] (tx (e,i,a))
 ·refine A [86,61] ?_
  refine zYT (T:=tab) zAB a (0:Int) (S':=fun b=>[(900000,.arr 3 1 (b.map zAB)),(900001,.box 24 (zAE c))]) U U U U U U U U U U U U U U U U U U (fun _=>U) fun b _=>A [0,61] ?_
  exact zJI (T:=tab) zAB b U U U U U U U U U U U fun n _=>A [57,8]
def zF6 (fu:Nat) (a:Forest) (b:Int):Option (List Int):=bnd (zDl fu a b) fun c=>bnd (zDN fu (fun e=>zDm fu e a) c) fun d=>some d
theorem zST {fu:Nat} {a:Forest} {b:Int}:FF (zF6 fu a b) 164 [.agg (zAE a),Z b] [] [] (fun _=>.own 2070) fun r=>[(2070,.arr 3 1 (r.map zAB))]:=by
 refine fcI Tryz.func164 U (A [73,57,61,43] (fun c _=>?_) zKE [(1035,2070)] [2070])
 refine A [1,43] (fun d _=>?_) zKm [(900000,2070),(900001,2)] [2070]
 exact A [57,8]
def zCr (d:Note) (c:List Int):Nat->Int×Int×(List Note)->Option (List Note)
 | 0,_=>none
 | k1+1,(t7,c8,l9)=>cnd (decide (t7<(c.length:Int))) (bnd (idx c t7) fun a=>bnd (zDI 88 (l9.length+([({d with Node:=a}:Note)]:List Note).length)) fun _=>bnd (rng .i64 (t7+1)) fun b=>(zCr d c k1) (b,a,(l9++[({d with Node:=a}:Note)]))) (some l9)
def zEA (fu:Nat) (d:Int) (a:Note) (b:Int) (l4:List (Node×Bool)) (c:List Note):Option (List Note):=bnd (zF6 fu (⟨(l4.map Prod.fst),b⟩:Forest) d) fun e=>(zCr a e) fu (0,a.Node,c)
theorem zHp {fu:Nat} {h:Int} {a:Note} {d:Int} {l4:List (Node×Bool)} {k:List Note}:FF (zEA fu h a d l4 k) 99 [.loc 900000 0,Z h,.agg (zBI a)] [(900000,.box 131 [.own 900001,Z d,.own 900002]),(900001,.tre 77 10 6 3 (l4.map nB)),(900002,.arr 192 9 (k.map zBI))] [900000,900001] (fun _=>.tup []) fun r=>[(900000,.box 131 [.own 900001,Z d,.own 900002]),(900001,.tre 77 10 6 3 (l4.map nB)),(900002,.arr 192 9 (r.map zBI))]:=by
 refine fcI Tryz.func99 U (A [9,30,5,0,9,105] ?_)
 refine zN8 (ps:=[.agg [.own 900001,Z d],Z h]) [(900001,.sl 10 false ((l4.map Prod.fst).map zAZ))] [2130] (enc:=fun (c:(List Int))=>.own 2130) (Sr:=fun (c:(List Int))=>[(2130,.arr 3 1 (c.map zAB))]) (qs:=[.agg (zAE (⟨(l4.map Prod.fst),d⟩:Forest)),Z h]) (Sc:=[]) (N0:=[]) (NR:=[2130]) (fun c e=>zP0 [(2070,2130)] [2070] (zST _ e) U U U U U U) trivial (fun _=>U) U U U U U U U (fun _=>U) (fun _=>U) ⟨zOr (nB) Prod.fst zAZ l4 (fun _=>U) (fun _=>U) U,trivial⟩ U U (fun _=>U) (fun _=>by first | rfl | simp [zL3,zC9,zAB]) U U U ⟨⟨_,U,.rfl⟩,⟨_,U,.rfl⟩,trivial⟩ zfq U U fun c e=>A [39,57,13] ?_
 refine lw (zCr a c) [0,5,13,14] [2130,900000,900001] (fun (l,i,g)=>[(15,Z l)]) (fun (l,i,g)=>[(5,.box 192 [Z a.Kind,Z i,Z a.From,Z a.To,O a.Name,Y a.Had,Y a.Has,O a.Old,O a.New]),(900002,.arr 192 9 (g.map zBI))]) fu (0,a.Node,k) U U ?_
 rintro m ⟨l,i,g⟩
 refine A [75] ?_
 refine zAD U ?_ ?_
 ·refine A [72,9,38] fun b f=>?_
  refine zAv (T:=tab) zAB c b (zAx f) U U U U U U U U (A [57,61,12,0,52,5,5,0,5,13,14,15,2130,5,900000,900001,900002,53,11,0,0,2,6,14,0,32,126,255,511,1023,206] ?_)
  refine vS [52] [54,55] [27] U U (pl ([({a with Node:=b}:Note)].map zBI) 27 U U U U U U (pyq U)) U U (vU [50,54,55,1800001,1800005] [56,50,1800001,1800005] [900002] U U (pa zBI g ([({a with Node:=b}:Note)]:List Note) U U U U U U U U (zKt _) U U U (pyq U)) U U fun _ _=>A [202,50,4,1,56,60,1800001,1800005,1800001,19,94] fun j _=>?_)
  exact A [89] (tx (j,b,(g++[({a with Node:=b}:Note)])))
 ·exact zUY U (zKZ (T:=tab) U U U ⟨U,U⟩ ⟨U,U,U,trivial⟩ U)
def zBz (a:Int) (l2:List Int):Nat->Int->Option Int
 | 0,_=>none
 | k1+1,t3=>cnd (decide (t3<(l2.length:Int))) (bnd (idx l2 t3) fun c=>cnd (a==c) (some t3) (bnd (rng .i64 (t3+1)) fun b=>(zBz a l2 k1) b)) (some (-1))
def zC0 (fu:Nat) (a:Int) (l2:List Int):Option Int:=(zBz a l2) fu 0
theorem zHg {fu:Nat} {b:Int} {l2:List Int}:FF (zC0 fu b l2) 97 [.own 900000,Z b] [(900000,.arr 3 1 (l2.map zAB))] [900000] (fun r=>Z r) fun _=>[(900000,.arr 3 1 (l2.map zAB))]:=by
 refine fcI Tryz.func97 U (A [75,80,39,57,13] ?_)
 refine lw (zBz b l2) [0,1,7] [900000] (fun c=>[(8,Z c)]) (fun _=>[]) fu 0 U U ?_
 rintro f c
 refine A [75,10,2,86,59,72,62,93,38] fun e a=>?_
 refine zAv (T:=tab) zAB l2 e (zAx a) U U U U U U U U (A [57,5,2,62,8,4,94] fun d _=>?_)
 exact A [89] (tx d)
def zFH (_fu:Nat) (b j2:Int) (a:List Int):Option (List Int):=bnd (cut3 a.length b j2 (a.length:Int)) fun _=>cnd (b==j2) (some a) (bnd (zNZ a.length 0 b) fun _=>bnd (zNZ a.length j2 (a.length:Int)) fun _=>bnd (delB a.length (b).toNat (j2).toNat ((a.length:Int)).toNat) fun _=>bnd (zNZ (zOf a (b).toNat (j2).toNat).length ((((b).toNat+(((a.length:Int)).toNat - (j2).toNat)):Nat):Int) (a.length:Int)) fun _=>bnd (ze8 (zOf a (b).toNat (j2).toNat).length (((((b).toNat+(((a.length:Int)).toNat - (j2).toNat)):Nat):Int)).toNat ((a.length:Int)).toNat) fun _=>bnd (zZl (zPw (zOf a (b).toNat (j2).toNat) (((((b).toNat+(((a.length:Int)).toNat - (j2).toNat)):Nat):Int)).toNat (0:Int)).length ((b).toNat+(((a.length:Int)).toNat - (j2).toNat))) fun _=>some ((zPw (zOf a (b).toNat (j2).toNat) (((((b).toNat+(((a.length:Int)).toNat - (j2).toNat)):Nat):Int)).toNat (0:Int)).take ((b).toNat+(((a.length:Int)).toNat - (j2).toNat))))
theorem zNN {fu:Nat} {b j2:Int} {a:List Int}:FF (zFH fu b j2 a) 100 [.own 900000,Z b,Z j2] [(900000,.arr 3 1 (a.map zAB))] [] (fun _=>.own 900000) fun r=>[(900000,.arr 3 1 (r.map zAB))]:=by
 refine fcI Tryz.func100 U (A [58,76,39] ?_)
 refine zbw (T:=tab) (L:=a.length) U U U U U U U U (by simp) U U (A [0,6,93,0,5,2,62,8,67,80,39,57,6,52,4,1,0,1,2,7,900000,53,8,0,0,3,0,0,24,63,127,202] ?_)
 refine vU [40,42,1800001] [44] [] U U (zOB (T:=tab) (L:=a.length) (.inl U) U U U U (by simp) U U U U U (pyq U)) U U fun _ _=>vq 2 U (by kernel_rfl) (vU [46,48,1800001] [50] [] U U (zOB (T:=tab) (L:=a.length) (.inl U) U U U U (by simp) U U U U U (pyq U)) U U fun _ _=>vU [44,50,1800001] [52,1800001] [] U U (zP8 (T:=tab) zAB a U U U U U U U U U (zC1 _) U U U (pyq U)) U U fun _ _=>A [201,79,61] ?_)
 refine zVn (T:=tab) U U U U U U U U U (pq 1 U (zOB (T:=tab) (L:=(zOf a (b).toNat (j2).toNat).length) (.inr ⟨_,U⟩) U U U U (by simp) U U U U U (zN7 (T:=tab) zAB (zOf a (b).toNat (j2).toNat) (0:Int) U U U U U U U U U U U U U U (A [0,62] ?_))))
 exact zVq 6 zAB (zPw (zOf a (b).toNat (j2).toNat) (((((b).toNat+(((a.length:Int)).toNat - (j2).toNat)):Nat):Int)).toNat (0:Int)) U U U U U rN
def zFS (fu:Nat) (h:Int) (a:List (Node×Bool)) (e:Node×Bool) (i:List Note):Option ((List (Node×Bool))×(List Note)):=bnd (idx a e.1.Parent) fun f=>bnd (zSd f.2) fun _=>bnd (zC0 fu h f.1.Kids) fun b=>bnd (idx a e.1.Parent) fun j=>bnd (rng .i64 (b+1)) fun g=>bnd (zFH fu b g f.1.Kids) fun c=>bnd (idx a e.1.Parent) fun k=>bnd (idx (a.set (e.1.Parent).toNat (({f.1 with Kids:=c}:Node),true)) h) fun d=>some (((a.set (e.1.Parent).toNat (({f.1 with Kids:=c}:Node),true)).set (h).toNat (({d.1 with Parent:=(-1)}:Node),d.2)),i)
def zDi (fu:Nat) (b d:Int) (a:List (Node×Bool)) (l4:List Note):Option ((List (Node×Bool))×(List Note)):=bnd (idx a b) fun c=>cnd (c.1.Parent==(-1)) (some (a,l4)) (bnd (zCH fu (⟨(a.map Prod.fst),d⟩:Forest) b) fun e=>cnd e (bnd (zEA fu b (⟨2,0,0,0,[],false,false,[],[]⟩:Note) d a l4) fun f=>(zFS fu b a c) f) ((zFS fu b a c) l4))
theorem zGj {fu:Nat} {i e:Int} {a:List (Node×Bool)} {l4:List Note}:FF (zDi fu i e a l4) 54 [.loc 900000 0,Z i] [(900000,.box 131 [.own 900001,Z e,.own 900002]),(900001,.tre 77 10 6 3 (a.map nB)),(900002,.arr 192 9 (l4.map zBI))] [900000,900001] (fun _=>.tup []) fun r=>[(900000,.box 131 [.own 900001,Z e,.own 900002]),(900001,.tre 77 10 6 3 (r.1.map nB)),(900002,.arr 192 9 (r.2.map zBI))]:=by
 refine fcI Tryz.func54 U (A [9,106] ?_)
 refine zBS (T:=tab) a (by simp) U U U U U U U U fun p j=>pq 1 U (zEj (T:=tab) (zHe (f:=nB) (zAx j)) U U U U U U U U (A [57,6,62,5,1,8,68,9,105] ?_))
 refine zN8 (ps:=[.agg [.own 900001,Z e],Z i]) [(900001,.sl 10 false ((a.map Prod.fst).map zAZ))] [] (enc:=fun (m:Bool)=>Y m) (Sr:=fun (m:Bool)=>[]) (qs:=[.agg (zAE (⟨(a.map Prod.fst),e⟩:Forest)),Z i]) (Sc:=[]) (N0:=[]) (NR:=[]) zEK trivial (fun _=>U) U U U U U U U (fun _=>U) (fun _=>U) ⟨zOr (nB) Prod.fst zAZ a (fun _=>U) (fun _=>U) U,trivial⟩ U U (fun _=>U) (fun _=>by first | rfl | simp [zL3,zC9,zAB]) U U U ⟨⟨_,U,.rfl⟩,⟨_,U,.rfl⟩,trivial⟩ ze7 U U fun m _=>ns (jw (zFS fu i a p) [0,1,4] [900000,900001] (fun _=>[]) (fun s=>[(900002,.arr 192 9 (s.map zBI))]) U U ?_ fun g=>?_)
 ·rintro s
  refine A [7,9,106] ?_
  refine zBS (T:=tab) a (by simp) U U U U U U U U fun q k=>pq 1 U (zUV (T:=tab) 700035 (zHe (f:=nB) (zAx k)) U U U U U U U U U U U U U U U (A [1,44] (fun t _=>?_) zHg [(900000,700035)]))
  refine A [57,6,52,4,4,0,1,4,5,700035,900000,900001,900002,96] ?_
  refine vT [96,98,1800003] [100] [] U U (zPZ (T:=tab) a (by simp) U U U U U U U U fun n _=>pzq U) (fun _=>U) (fun _=>U) fun n _=>vq 1 U (by kernel_rfl) (vS [102,1800003] [104] [] U U (zN9 (T:=tab) U U U U U U U (pyq U)) U U (vq 2 U (by kernel_rfl) (vT [108] [110] [] U U (zMj (T:=tab) U U U U fun l _=>pzq U) (fun _=>U) (fun _=>U) fun l _=>A [55,5,4,104,106,110,1400071,1800003,112,104,1400071,1800003] (fun c _=>?_) zNN [(900000,700035)] [700035])))
  refine vT [84,86,1800003] [114] [] U U (zPZ (T:=tab) a (by simp) U U U U U U U U fun o b=>pzq U) (fun _=>U) (fun _=>U) fun o b=>vq 1 U (by kernel_rfl) (vS [112,116,1400071,1800003] [112,1400071,1800003] [] U U (zb0 900001 U U (zUT (T:=tab) (zW2 (zAx b)) (zT7 (f:=nB) ((({q.1 with Kids:=c}:Node),true):Node×Bool) (by rfl)) U U U U U U U U U U U (pyq U))) U U (A [79,14,106] ?_))
  exact zBS (T:=tab) (a.set (p.1.Parent).toNat (({q.1 with Kids:=c}:Node),true)) (by simp) U U U U U U U U fun d h=>pq 1 U (zKM (T:=tab) (nB) (a.set (p.1.Parent).toNat (({q.1 with Kids:=c}:Node),true)) d ((({d.1 with Parent:=(-1)}:Node),d.2):Node×Bool) (zAx h) U U U U U U U U U U U U U U U (zGK (zKZ (T:=tab) U U U ⟨U,U⟩ ⟨U,U,U,trivial⟩ U)))
 ·refine zAD U ?_ ?_
  ·refine A [14,2,20,43] (fun u _=>?_) zHp [(900000,900000),(900001,900001),(900002,900002)] [900002]
   exact A [11,45] (g u)
  ·exact A [4,45] (g l4)
def zDX (fu:Nat) (h a g:Int) (i:(List (Node×Bool))×(List Note)) (j:Node×Bool) (f:List Int):Nat->Int×(List (Node×Bool))->Option ((List (Node×Bool))×(List Note))
 | 0,_=>none
 | k1+1,(t9,l10)=>cnd (decide (t9<(f.length:Int))) (bnd (idx f t9) fun b=>bnd (idx l10 b) fun c=>bnd (rng .i64 (t9+1)) fun d=>(zDX fu h a g i j f k1) (d,(l10.set (b).toNat (({c.1 with Doc:=a}:Node),c.2)))) (bnd (zEA fu h (⟨3,0,j.1.Doc,a,[],false,false,[],[]⟩:Note) g l10 i.2) fun e=>some (l10,e))
def zGk (fu:Nat) (c a d:Int) (l4:List (Node×Bool)) (f:List Note):Option ((List (Node×Bool))×(List Note)):=bnd (zDi fu c d l4 f) fun b=>bnd (idx b.1 c) fun e=>cnd (e.1.Doc==a) (some (b.1,b.2)) (bnd (zDl fu (⟨(b.1.map Prod.fst),d⟩:Forest) c) fun g=>(zDX fu c a d b e g) fu (0,b.1))
end Go.Proofs.YtmfbghpealgaiaaGreatDoor
